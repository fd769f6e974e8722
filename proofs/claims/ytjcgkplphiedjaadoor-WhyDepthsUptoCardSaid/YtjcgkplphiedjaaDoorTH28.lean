/- A strings.Builder that grows ahead of its first write. -/
import Derived.Test.YtjcgkplphiedjaaDoorTH22
namespace Go.Proofs.YtjcgkplphiedjaaDoorT
open Go.RowKit Go.Sort

theorem Tryd.sizeByte : (Tryd.prog.info? 5).map (·.size) = some 1 := by kernel_rfl

set_option maxHeartbeats 4000000 in
set_option maxRecDepth 100000 in
theorem grow_fresh (B b n : Nat) (w : World) (hB : B ≤ b) (hbk : w.heap[b]? = some (.cells #[.pointer (some ⟨b, 0, none⟩), .slice none 0 0] 59 (0, 0))) (hBw : B ≤ w.heap.size) (hn : n ≤ 281474976710656) :
    Calls Tryd.prog 87 #[.pointer (some ⟨b, 0, none⟩), .int .i64 n] w fun e w' => e = .returned (.tuple #[]) ∧ (Lib.BuilderAt 59 5 B b (.pointer (some ⟨b, 0, none⟩)) [] w' ∧ Below B w w') := by
  obtain ⟨cs, hrun, hle, hmax⟩ := Lib.run_makeNoZero (P := Tryd.prog) w.drew #[3] 57 5 Tryd.underlying57 n hn
  have hw : IntKind.i64.wrap (IntKind.i64.wrap 0 + (n : Int)) = n := by
    rw [IntKind.wrap_i64, IntKind.wrap_i64]
    omega
  have hcall : (callFunc 102 #[.int .i64 (n : Int)]).run Tryd.prog w.drew = .ok (.value (.slice (some ⟨w.drew.heap.size, 0, none⟩) n cs.size)) (w.drew.drew.drew.alloc (.cells cs 5)) := by
    rw [run_callFunc_extern Tryd.func102 (by kernel_rfl) (by kernel_rfl) (by kernel_rfl) (e := Extern.BytealgMakeNoZero.makeNoZero #[3] #[57]) (by kernel_rfl), hrun]
    rfl
  have hlt : b < w.heap.size := heap_lt hbk
  have c1 : w.drew.cell? ⟨b, 1, none⟩ = some (.slice none 0 0) := by
    have : w.drew.heap[b]? = _ := hbk
    rw [Lib.cell_of_heap this]; rfl
  have c2 : (w.alloc (.cells cs 5)).cell? ⟨b, 1, none⟩ = some (.slice none 0 0) := by
    rw [Lib.cell_of_heap ((Lib.alloc_old w _ b hlt).trans hbk)]; rfl
  have f2 : (w.alloc (.cells cs 5)).frozen? ⟨b, 1, none⟩ = false := Lib.frozen_of_heap ((Lib.alloc_old w _ b hlt).trans hbk) 1
  have hcopy : ∀ W : World, (Builtin.copy_ #[57, 57] 3 #[.slice (some ⟨w.heap.size, 0, none⟩) 0 cs.size, .slice none 0 0]).run Tryd.prog W = .ok (goInt 0) W :=
    fun W => run_copy_none W 57 57 3 5 _ _ 0 cs.size 0 0 Tryd.underlying57 Tryd.sizeByte rfl
  clear hw hlt
  go_enter Tryd.func87, Tryd.ntmps87
  go_wp2
  have hfin := Lib.grown_fresh (T := 59) (e := 5) (cs := cs) hB hbk hBw (hmax (by unfold maxLen; omega)) (by decide)
  go_region
  all_goals (go_wp2; go_end0; exact ⟨rfl, hfin⟩)

set_option maxHeartbeats 4000000 in
set_option maxRecDepth 100000 in
theorem Grow_fresh (b n : Nat) (w : World) (hbk : w.heap[b]? = some (.cells #[.pointer none, .slice none 0 0] 59 (0, 0))) (hn : n ≤ 281474976710656) :
    Calls Tryd.prog 60 #[.pointer (some ⟨b, 0, none⟩), .int .i64 n] w fun e w' => e = .returned (.tuple #[]) ∧ (BU b [] w' ∧ Below b w w') := by
  have hlt : b < w.heap.size := heap_lt hbk
  have hbk1 : (w.setCell ⟨b, 0, none⟩ (.pointer (some ⟨b, 0, none⟩))).heap[b]? = some (.cells #[.pointer (some ⟨b, 0, none⟩), .slice none 0 0] 59 (0, 0)) := by
    simp [World.setCell, Array.getElem?_modify, hbk]
  have c1 : (w.setCell ⟨b, 0, none⟩ (.pointer (some ⟨b, 0, none⟩))).cell? ⟨b, 1, none⟩ = some (.slice none 0 0) := by rw [Lib.cell_of_heap hbk1]; rfl
  have hb1 : Below b w (w.setCell ⟨b, 0, none⟩ (.pointer (some ⟨b, 0, none⟩))) := (Below.refl b w).setCell (p := ⟨b, 0, none⟩) (Nat.le_refl _) _
  have hU : Lib.BuilderAt 59 5 b b (.pointer (some ⟨b, 0, none⟩)) [] (w.setCell ⟨b, 0, none⟩ (.pointer (some ⟨b, 0, none⟩))) := ⟨Nat.le_refl _, .slice none 0 0, hbk1, World.ownsRow_nil _ _ _ _, by simp [Value.ownBlock]⟩
  have hs : b ≤ (w.setCell ⟨b, 0, none⟩ (.pointer (some ⟨b, 0, none⟩))).heap.size := Nat.le_of_lt (heap_lt hbk1)
  go_enter Tryd.func60, Tryd.ntmps60
  go_wp2_with (go_at_call 49; refine (YtjcgkplphiedjaaDoor.copyCheck_fresh b w (by rw [Lib.cell_of_heap hbk]; rfl) (by simp [World.shape?, hbk]) (Lib.frozen_of_heap hbk 0)).mono ?_; rintro e w' ⟨rfl, rfl⟩)
  generalize w.setCell ⟨b, 0, none⟩ (.pointer (some ⟨b, 0, none⟩)) = w1 at *
  have HU := Lib.hid hU
  have HB1 := Lib.hid hb1
  have HK := Lib.hid hbk1
  have HSz := Lib.hid hs
  have d1 : w1.drew.cell? ⟨b, 1, none⟩ = some (.slice none 0 0) := c1
  clear hbk hlt hU hb1 hbk1 hs
  go_region
  all_goals go_wp2_with (go_at_call 87; refine (grow_fresh b b n w1.drew (Nat.le_refl _) HK.out HSz.out hn).mono ?_; rintro e w' ⟨rfl, h1, h2⟩)
  all_goals first
    | (go_end0; exact ⟨rfl, h1, HB1.out.drew.trans h2⟩)
    | (go_end0; exact ⟨rfl, HU.out.drew, HB1.out.drew⟩)

/-- Texts that lie in a slice, joined. -/
def lens (xs : List ByteArray) : Nat := (xs.map ByteArray.size).sum
theorem lens_take (xs : List ByteArray) (k : Nat) (h : k < xs.length) : lens (xs.take (k + 1)) = lens (xs.take k) + xs[k].size := by
  unfold lens
  rw [take_snoc xs k h, List.map_append, List.sum_append]
  simp
theorem lens_le (xs : List ByteArray) (hs : ∀ x ∈ xs, x.size ≤ 1024) : lens xs ≤ xs.length * 1024 := by
  induction xs with
  | nil => simp [lens]
  | cons x xs ih =>
    have h1 := ih fun y hy => hs y (List.mem_cons_of_mem _ hy)
    have h2 := hs x (by simp)
    have e : lens (x :: xs) = x.size + lens xs := by simp [lens]
    rw [e, List.length_cons, Nat.succ_mul]; omega
theorem jo_next (xs : List ByteArray) (k : Nat) (h : k < xs.length) (hk : 0 < k) : jo ((xs.take (k + 1)).map (·.toList)) = jo ((xs.take k).map (·.toList)) ++ ([44, 32] ++ xs[k].toList) := by
  rw [jo_take (·.toList) xs k h, if_neg (by omega)]

set_option maxRecDepth 20000 in
set_option maxHeartbeats 8000000 in
theorem join_any (A : Option Addr) (n c : Nat) (xs : List ByteArray) (w : World) (hr : Rd w w.heap.size 1 A n (scells xs)) (hcap : n ≤ c) (hn : n ≤ 1048576) (hs : ∀ x ∈ xs, x.size ≤ 1024) :
    Calls Tryd.prog 35 #[.slice A n c, .string ⟨#[44, 32]⟩] w fun e w' => e = .returned (.string ⟨(jo (xs.map (·.toList))).toArray⟩) ∧ Below w.heap.size w w' := by
  have hlen : xs.length = n := by have := hr.1; rw [scells_length] at this; omega
  have HR := Lib.hid hr
  have HS := Lib.hid hs
  have HN := Lib.hid hlen
  clear hr hs hlen
  have h2 : (⟨#[44, 32]⟩ : ByteArray).size = 2 := rfl
  obtain ⟨V, hV⟩ : ∃ V, V = jo (xs.map (·.toList)) := ⟨_, rfl⟩
  rw [← hV]
  have HV := Lib.hid hV
  clear hV
  go_enter Tryd.func35, Tryd.ntmps35
  rcases Nat.eq_zero_or_pos n with h0 | h0
  · subst h0
    have hx : xs = [] := List.eq_nil_of_length_eq_zero HN.out
    have hz : V = [] := by rw [HV.out, hx]; rfl
    subst hz
    go_wp2
    go_ret
    exact ⟨rfl, Below.refl _ _⟩
  have t0 : ((n : Int) == 0) = false := by simpa using (by omega : ¬ (n : Int) = 0)
  by_cases h1 : n = 1
  · subst h1
    obtain ⟨b, o, hk, rfl, hb, c0⟩ := HR.out.str 0 (by omega)
    have hz : V = xs[0].toList := by
      rw [HV.out]
      match xs, HN.out with
      | [x], _ => exact jo_one _
    have HE : Hid ((⟨V.toArray⟩ : ByteArray) = xs[0]) := Lib.hid (by rw [hz]; exact (bytes_eq rfl).symm)
    rw [Nat.add_zero] at c0
    rw [HE.out]
    generalize xs[0] = x at *
    clear hz
    go_wp2
    go_ret
    exact ⟨rfl, Below.refl _ _⟩
  have t1 : ((n : Int) == 1) = false := by simpa using (by omega : ¬ (n : Int) = 1)
  have t2 : ¬ ((9223372036854775807 : Int) / ((n : Int) - 1) ≤ 2) := by
    have : (3 : Int) ≤ 9223372036854775807 / ((n : Int) - 1) := (Int.le_ediv_iff_mul_le (by omega)).2 (by omega)
    omega
  have t3 : decide ((9223372036854775807 : Int) / ((n : Int) - 1) ≤ 2) = false := decide_eq_false t2
  clear t2
  go_upto_region 12 with (fail)
  have hlb : lens xs ≤ 1048576 * 1024 := by
    have := lens_le xs HS.out
    rw [HN.out] at this
    omega
  go_loopg [5, 41] n (fun gk u5 u41 wr => ∃ (k q : Nat), u41 = .int .i64 k ∧ u5 = .int .i64 q ∧ k ≤ n ∧ w = wr ∧ Hid (gk = n - k) ∧ q ≤ 2097152 + 1024 * k ∧ Hid (q = 2 * (n - 1) + lens (xs.take k)))
  case atStart => exact ⟨0, 2 * (n - 1), rfl, by go_num, Nat.zero_le _, rfl, Lib.hid (by omega), by omega, Lib.hid (by simp [lens])⟩
  case round =>
    obtain ⟨k, q, rfl, rfl, hk, rfl, HG, hq, HQ⟩ := hrel
    by_cases hlt : k < n
    · obtain ⟨b, o, hk1, rfl, hb, c0⟩ := HR.out.str k hlt
      have hx := HS.out xs[k] (List.getElem_mem hk1)
      have HQ2 : Hid (q + xs[k].size = 2 * (n - 1) + lens (xs.take (k + 1))) := Lib.hid (by rw [lens_take xs k hk1, HQ.out]; omega)
      generalize xs[k] = x at *
      go_wp2
      go_roundg (n - (k + 1))
      case measure => have := HG.out; omega
      case rel => exact ⟨k + 1, q + x.size, by go_num, by go_num, by omega, rfl, Lib.hid rfl, by omega, HQ2⟩
    · obtain rfl : k = n := by omega
      obtain ⟨b, o, hk1, rfl, hb, c0⟩ := HR.out.str 0 h0
      rw [Nat.add_zero] at c0
      clear HQ
      have hba := (Below.refl w.heap.size w).alloc (Nat.le_refl _) (.cells #[.pointer none, .slice none 0 0] 59)
      have hgx := heap_alloc_new w (.cells #[.pointer none, .slice none 0 0] 59)
      go_upto_region 19 with (fail)
      generalize World.alloc _ _ = w1 at *
      have HR1 := Lib.hid (HR.out.below hba)
      have HB1 := Lib.hid hba
      have HX1 := Lib.hid hgx
      have c1 := (hba.cell (p := ⟨b, o, none⟩) hb).trans c0
      clear hba hgx c0 HR
      generalize hR : w.heap.size = R at *
      have HRR := Lib.hid hR
      clear hR
      clear t0 t1 t3
      have hx0 := HS.out xs[0] (List.getElem_mem hk1)
      have HJ0 : Hid (jo ((xs.take (0 + 1)).map (·.toList)) = xs[0].toList) := Lib.hid (by rw [jo_take (·.toList) xs 0 hk1, if_pos rfl])
      generalize hx00 : xs[0] = x0 at *
      clear hx00
      go_wp2_with fail
      refine (Grow_fresh R q w1 HX1.out (by omega)).mono ?_
      rintro e w2 ⟨rfl, h2', hb2⟩
      have HU2 := Lib.hid h2'
      have HB2 := Lib.hid (HB1.out.trans hb2)
      have HR2 := Lib.hid (HR1.out.below hb2)
      have c2 := (hb2.cell (p := ⟨b, o, none⟩) hb).trans c1
      clear h2' hb2 HB1 HX1 HR1 c1
      go_wp2_with fail
      refine (wStr R [] x0 w2 HU2.out (by simp only [List.length_nil]; omega)).mono ?_
      rintro e w3 ⟨rfl, h3, hb3, _⟩
      have HU3 : Hid (BU R (jo ((xs.take (0 + 1)).map (·.toList))) w3) := Lib.hid (by rw [HJ0.out]; simpa using h3)
      have HB3 := Lib.hid (HB2.out.trans hb3)
      have HR3 := Lib.hid (HR2.out.below hb3)
      clear h3 hb3 HU2 HB2 HR2 c2
      go_upto_region 22 with (fail)
      go_loopg [65] (k - 1) (fun gk u65 wr => ∃ (j : Nat), u65 = .int .i64 j ∧ j ≤ k - 1 ∧ Hid (gk = k - 1 - j) ∧ Hid (BU R (jo ((xs.take (j + 1)).map (·.toList))) wr) ∧ Hid (Below R w wr) ∧ Hid (Rd wr R 1 (some ⟨b, o, none⟩) k (scells xs)))
      case atStart => exact ⟨0, rfl, Nat.zero_le _, Lib.hid (by omega), HU3, HB3, HR3⟩
      case round =>
        clear HU3 HB3 HR3
        obtain ⟨j, rfl, hj, HG2, HU, HB, HRx⟩ := hrel
        have hjl : (jo ((xs.take (j + 1)).map (·.toList))).length ≤ 1048576 * 1026 := by
          have h1 := jo_length 1024 ((xs.take (j + 1)).map (·.toList)) (by
            intro y hy
            obtain ⟨x, hx, rfl⟩ := List.mem_map.1 hy
            rw [← toList_size]; exact HS.out x (List.mem_of_mem_take hx))
          rw [List.length_map, List.length_take] at h1
          have h2 : min (j + 1) xs.length * (1024 + 2) ≤ 1048576 * (1024 + 2) := Nat.mul_le_mul_right _ (by omega)
          omega
        by_cases hlt2 : j < k - 1
        · obtain ⟨b', o', hk2, e', hb', c0⟩ := HRx.out.str (j + 1) (by omega)
          simp only [Option.some.injEq, Addr.mk.injEq, and_true] at e'
          obtain ⟨rfl, rfl⟩ := e'
          have hx := HS.out xs[j + 1] (List.getElem_mem hk2)
          have HJ : Hid (jo ((xs.take (j + 1 + 1)).map (·.toList)) = jo ((xs.take (j + 1)).map (·.toList)) ++ ([44, 32] ++ xs[j + 1].toList)) := Lib.hid (jo_next xs (j + 1) hk2 (by omega))
          have c0 : wr.cell? ⟨b, o + 1 + j, none⟩ = some (.string xs[j + 1]) := by rw [← c0]; congr 2; omega
          generalize xs[j + 1] = x at *
          generalize jo ((xs.take (j + 1)).map (·.toList)) = J at *
          have ks := fun W (hW : BU R J W) => wStr R J ⟨#[44, 32]⟩ W hW (by omega)
          rw [mk_list [44, 32]] at ks
          go_wp2_with fail
          refine (ks wr HU.out).mono ?_
          rintro e w5 ⟨rfl, h5, hb5, _⟩
          have HU5 := Lib.hid h5
          have HB5 := Lib.hid (HB.out.trans hb5)
          have HR5 := Lib.hid (HRx.out.below hb5)
          clear h5 hb5 HU HB HRx ks c0
          go_wp2_with fail
          refine (wStr R _ x w5 HU5.out (by simp only [List.length_append, List.length_cons, List.length_nil]; omega)).mono ?_
          rintro e w6 ⟨rfl, h6, hb6, _⟩
          have HU6 : Hid (BU R (jo ((xs.take (j + 1 + 1)).map (·.toList))) w6) := Lib.hid (by rw [HJ.out]; simpa using h6)
          have HB6 := Lib.hid (HB5.out.trans hb6)
          have HR6 := Lib.hid (HR5.out.below hb6)
          clear h6 hb6 HU5 HB5 HR5
          go_wp2
          go_roundg (k - 1 - (j + 1))
          case measure => have := HG2.out; omega
          case rel => exact ⟨j + 1, by go_num, by omega, Lib.hid rfl, HU6, HB6, HR6⟩
        · have hall : xs.take (j + 1) = xs := List.take_of_length_le (by have := HN.out; omega)
          rw [hall, ← HV.out] at HU
          go_wp2_with fail
          refine (readB R V wr HU.out.is).mono ?_
          rintro e w6 ⟨rfl, hb6⟩
          have HB6 := Lib.hid (HB.out.trans hb6)
          clear hb6 HB
          go_wp2
          go_ret
          exact ⟨by rfl, by rw [HRR.out]; exact HB6.out⟩
end Go.Proofs.YtjcgkplphiedjaaDoorT
