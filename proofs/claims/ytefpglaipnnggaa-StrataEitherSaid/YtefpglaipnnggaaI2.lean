/- The distances to a goal, walked. -/
import Derived.Test.YtefpglaipnnggaaI1
import Derived.Test.YtefpglaipnnggaaH4
namespace Go.Proofs.Ytefpglaipnnggaa
open Go.RowKit

/-- Copies of one value as far as k. -/
def upTo (n : Nat) (x : Int) (k : Nat) : List Int := List.replicate k x ++ List.replicate (n - k) 0
theorem upTo_next {n : Nat} {x : Int} {k : Nat} (hk : k < n) : (upTo n x k).set k x = upTo n x (k + 1) := by
  have e : n - k = (n - (k + 1)) + 1 := by omega
  unfold upTo
  rw [List.set_append_right _ _ (by simp), List.length_replicate, Nat.sub_self, e, List.replicate_succ, List.set_cons_zero, List.replicate_succ']
  simp
theorem upTo_length {n : Nat} {x : Int} {k : Nat} (hk : k ≤ n) : (upTo n x k).length = n := by simp [upTo]; omega
theorem lv_rep (n : Nat) (x v : Int) (h : Vx n v) : lv (List.replicate n x) v = x := by
  have h1 := h.1
  have h2 := h.2
  have h3 : v.toNat < n := by omega
  simp [lv, List.getD_eq_getElem?_getD, h3]
theorem FAR.start {n : Nat} {es : List E} {g : Nat} {s : Int} (hf : Fits n es) (hs : Sent n s) (hg : g < n) : FAR n es (g : Int) s 0 [] ((upTo n s n).set g 0) := by
  have e : upTo n s n = List.replicate n s := by simp [upTo]
  rw [e]
  refine FAR.first hf hs ⟨by omega, by omega⟩ (by simp) (fun v hv => ?_)
  rw [lv_set (by simpa using hg)]
  have h1 := hv.1
  by_cases h2 : v = (g : Int)
  · subst h2; simp
  · rw [if_neg (by omega), if_neg h2]; exact lv_rep n s v hv

set_option maxRecDepth 20000 in
set_option maxHeartbeats 4000000 in
theorem away_any (A : Option Addr) (m c n g : Nat) (es : List E) (w : World) (hr : Rd w w.heap.size 4 A m (ecells es)) (hf : Fits n es) (hg : g < n) :
    Calls Try.prog 51 #[.int .i64 n, .slice A m c, .int .i64 g] w fun e w' => ∃ l, e = .returned (.slice (some ⟨w.heap.size, 0, none⟩) n n) ∧ Below w.heap.size w w' ∧ Blk w' w.heap.size 3 (icells l) ∧ Far n es g n l := by
  obtain ⟨i0, hi, hz0, hz1, hz2⟩ := info_parts Try.info3
  have hn : n ≤ 128 := by have := hf.2.1; omega
  have hlen : es.length = m := by have := hr.1; rw [ecells_length] at this; omega
  have HL := Lib.hid hlen
  have HR := Lib.hid hr
  have HF := Lib.hid hf
  have hmb := hr.2.1
  clear hr hf hlen
  have mk3 : ∀ W : World, (Instr.makeSlice 37 (.int .i64 (n : Int)) (.int .i64 (n : Int))).run Try.prog W = .ok (.slice (some ⟨W.heap.size, 0, none⟩) n n) (W.alloc (.cells (icells (List.replicate n 0)).toArray 3)) := fun W => by
    rw [run_make_rowN 37 3 i0 _ Try.underlying37 hi hz0 _ _ n n (Nat.le_refl _) (by rw [hz2]; omega) (by omega) W, hz1, made_one _ rfl]
    simp [icells]
  go_enter Try.func51, Try.ntmps51
  go_upto_region 2 with (fail)
  have HB2 : Hid (Below w.heap.size w (w.alloc (.cells (icells (List.replicate n 0)).toArray 3))) := Lib.hid ((Below.refl _ _).alloc (Nat.le_refl _) _)
  have HV2 : Hid (Blk (w.alloc (.cells (icells (List.replicate n 0)).toArray 3)) w.heap.size 3 (icells (upTo n n 0))) := Lib.hid (Blk.new w 3 (icells (List.replicate n 0)))
  generalize World.alloc _ _ = w2 at *
  generalize hZ : w.heap.size = Z at *
  have HZ := Lib.hid hZ
  clear hZ mk3
  go_wp2
  go_loopg [8] n (fun gk v wr => ∃ (k : Nat), v = .int .i64 k ∧ k ≤ n ∧ gk = n - k ∧ Hid (Below Z w wr) ∧ Hid (Blk wr Z 3 (icells (upTo n n k))))
  case atStart => exact ⟨0, rfl, Nat.zero_le _, by omega, HB2, HV2⟩
  case round =>
    clear HB2 HV2
    obtain ⟨k, rfl, hk, hgk, HB, HV⟩ := hrel
    have HG := Lib.hid hgk
    clear hgk
    by_cases hlt : k < n
    · have y0 : wr.cell? ⟨Z, k, none⟩ = some (.int .i64 (lv (upTo n n k) k)) := by
        have h := icells_lv (l := upTo n n k) (i := (k : Int)) (by omega) (by rw [upTo_length hk]; omega)
        rw [Int.toNat_natCast] at h
        exact (HV.out.cell k).trans h
      have z0 := HV.out.frozen k
      go_upto_region 4 with (fail)
      have HB5 := Lib.hid (HB.out.setCell (p := ⟨Z, k, none⟩) (Nat.le_refl _) (.int .i64 (n : Int)))
      have HV5 := Lib.hid (HV.out.set_ k (.int .i64 (n : Int)))
      rw [icells_set, upTo_next hlt] at HV5
      clear HB HV y0 z0
      generalize World.setCell _ _ _ = w5 at *
      go_wp2
      go_roundg (n - (k + 1))
      case measure => have := HG.out; omega
      case rel => exact ⟨k + 1, by go_num, by omega, rfl, HB5, HV5⟩
    · obtain rfl : k = n := by omega
      have y0 : wr.cell? ⟨Z, g, none⟩ = some (.int .i64 (lv (upTo k k k) g)) := by
        have h := icells_lv (l := upTo k k k) (i := (g : Int)) (by omega) (by rw [upTo_length hk]; omega)
        rw [Int.toNat_natCast] at h
        exact (HV.out.cell g).trans h
      have z0 := HV.out.frozen g
      have HS : Hid (FAR k es (g : Int) k 0 [] ((upTo k k k).set g 0)) := Lib.hid (FAR.start HF.out (.inl rfl) hg)
      go_upto_region 7 with (fail)
      have HB5 := Lib.hid (HB.out.setCell (p := ⟨Z, g, none⟩) (Nat.le_refl _) (.int .i64 0))
      have HV5 := Lib.hid (HV.out.set_ g (.int .i64 0))
      rw [icells_set] at HV5
      clear HB HV y0 z0 HG
      generalize List.set _ _ _ = l0 at *
      generalize World.setCell _ _ _ = w5 at *
      go_wp2
      go_loopg [9] k (fun gk v wr => ∃ (r : Nat) (l : List Int), v = .int .i64 r ∧ r ≤ k ∧ gk = k - r ∧ Hid (Below Z w wr) ∧ Hid (Blk wr Z 3 (icells l)) ∧ Hid (FAR k es (g : Int) k r [] l))
      case atStart => exact ⟨0, l0, rfl, Nat.zero_le _, by omega, HB5, HV5, HS⟩
      case round =>
        clear HB5 HV5 HS
        obtain ⟨r, l, rfl, hrk, hgr, HB, HV, HFA⟩ := hrel
        have HG := Lib.hid hgr
        clear hgr
        by_cases hlr : r < k
        · go_wp2
          go_loopg [10] m (fun gk v wr => ∃ (i : Nat) (l : List Int), v = .int .i64 i ∧ i ≤ m ∧ gk = m - i ∧ Hid (Below Z w wr) ∧ Hid (Blk wr Z 3 (icells l)) ∧ Hid (FAR k es (g : Int) k r (es.take i) l))
          case atStart => exact ⟨0, l, rfl, Nat.zero_le _, by omega, HB, HV, HFA⟩
          case round =>
            clear HB HV HFA
            obtain ⟨i, l, rfl, him, hgi, HB, HV, HFA⟩ := hrel
            have HG2 := Lib.hid hgi
            clear hgi
            by_cases hlt : i < m
            · obtain ⟨b, o, hj1, rfl, hbb, c0, c1, _, _⟩ := (HR.out.below HB.out).edge i hlt
              have hem := List.getElem_mem hj1
              have HEM := Lib.hid hem
              have hok := HF.out.2.2 _ hem
              have HK := Lib.hid (take_snoc es i hj1)
              have hll := HFA.out.len
              clear hem
              generalize es[i] = e at *
              have HGT := Lib.hid (fun h => HFA.out.gtr HF.out HEM.out hlr (e := e) h)
              obtain ⟨ef, et, en, er⟩ := e
              obtain ⟨p1, p2, p3, p4⟩ := hok
              dsimp only at c0 c1 p1 p2 p3 p4
              obtain ⟨f, rfl⟩ : ∃ f : Nat, ef = (f : Int) := ⟨ef.toNat, by omega⟩
              obtain ⟨t, rfl⟩ : ∃ t : Nat, et = (t : Int) := ⟨et.toNat, by omega⟩
              have y0 : wr.cell? ⟨Z, f, none⟩ = some (.int .i64 (lv l f)) := by
                have h := icells_lv (l := l) (i := (f : Int)) (by omega) (by omega)
                rw [Int.toNat_natCast] at h
                exact (HV.out.cell f).trans h
              have y1 : wr.cell? ⟨Z, t, none⟩ = some (.int .i64 (lv l t)) := by
                have h := icells_lv (l := l) (i := (t : Int)) (by omega) (by omega)
                rw [Int.toNat_natCast] at h
                exact (HV.out.cell t).trans h
              have z0 := HV.out.frozen f
              have HSK : Hid (¬ (lv l t = r ∧ lv l f = k) → FAR k es (g : Int) k r (es.take (i + 1)) l) := Lib.hid fun h => by rw [HK.out]; exact HFA.out.skip HF.out HEM.out h
              have HST : Hid (lv l t = r → lv l f = k → FAR k es (g : Int) k r (es.take (i + 1)) (l.set f ((r : Int) + 1))) := Lib.hid fun h1 h2 => by rw [HK.out]; exact HFA.out.step HF.out (.inl rfl) HEM.out h1 (by omega) h2
              have HGT : Hid (lv l t = r → ((r : Int) + 1 < lv l f ↔ lv l f = k)) := Lib.hid HGT.out
              clear hll
              generalize lv l f = lf at *
              generalize lv l t = lt at *
              by_cases h1 : lt = r
              · subst h1
                have HGX := Lib.hid (HGT.out rfl)
                clear HGT
                by_cases h2 : (r : Int) + 1 < lf
                · have HFX := Lib.hid (HST.out rfl (HGX.out.1 h2))
                  go_upto_region 12 with (fail)
                  have HB5 := Lib.hid (HB.out.setCell (p := ⟨Z, f, none⟩) (Nat.le_refl _) (.int .i64 ((r : Int) + 1)))
                  have HV5 := Lib.hid (HV.out.set_ f (.int .i64 ((r : Int) + 1)))
                  rw [icells_set] at HV5
                  clear HB HV y0 y1 z0 c0 c1
                  generalize World.setCell _ _ _ = w5 at *
                  go_wp2
                  go_roundg (m - (i + 1))
                  case measure => have := HG2.out; omega
                  case rel => exact ⟨i + 1, _, by go_num, by omega, rfl, HB5, HV5, HFX⟩
                · have HFX := Lib.hid (HSK.out (fun h => h2 (HGX.out.2 h.2)))
                  go_wp2
                  go_roundg (m - (i + 1))
                  case measure => have := HG2.out; omega
                  case rel => exact ⟨i + 1, l, by go_num, by omega, rfl, HB, HV, HFX⟩
              · have HFX := Lib.hid (HSK.out (fun h => h1 h.1))
                go_wp2
                go_roundg (m - (i + 1))
                case measure => have := HG2.out; omega
                case rel => exact ⟨i + 1, l, by go_num, by omega, rfl, HB, HV, HFX⟩
            · obtain rfl : i = m := by omega
              have HFX : Hid (FAR k es (g : Int) k (r + 1) [] l) := Lib.hid (by
                have h := HFA.out
                rw [List.take_of_length_le (by have := HL.out; omega)] at h
                exact h.round HF.out)
              go_wp2
              go_roundg (k - (r + 1))
              case measure => have := HG.out; omega
              case rel => exact ⟨r + 1, l, by go_num, by omega, rfl, HB, HV, HFX⟩
        · obtain rfl : r = k := by omega
          have HFX := Lib.hid (HFA.out.last HF.out (Nat.le_refl _))
          go_wp2
          go_ret
          exact ⟨l, by rw [HZ.out]; rfl, by rw [HZ.out]; exact HB.out, by rw [HZ.out]; exact HV.out, HFX.out⟩
end Go.Proofs.Ytefpglaipnnggaa
