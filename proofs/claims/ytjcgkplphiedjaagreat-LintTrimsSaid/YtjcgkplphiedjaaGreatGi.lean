/- The document's alike and joined. | The document's joined. | The document's Again. -/
import Derived.Test.YtjcgkplphiedjaaGreatGh
import Derived.Test.YtjcgkplphiedjaaGreatGa
namespace Go.Proofs.YtjcgkplphiedjaaGreat
open Go.RowKit Go.Sort

def likeW (v w : Wy) : Bool := v.all fun p => decide (stands w p.1 = some p.2)
theorem likeW_drop (v w : Wy) (k : Nat) (h : k < v.length) : likeW (v.drop k) w = (decide (stands w v[k].1 = some v[k].2) && likeW (v.drop (k + 1)) w) := by
  rw [List.drop_eq_getElem_cons h]; rfl
theorem likeW_end (v w : Wy) (k : Nat) (h : v.length ≤ k) : likeW (v.drop k) w = true := by
  rw [List.drop_eq_nil_of_le h]; rfl

set_option maxRecDepth 200000 in
set_option maxHeartbeats 8000000 in
theorem alike_ref (A : Option Addr) (n c : Nat) (v : Wy) (A2 : Option Addr) (n2 c2 : Nat) (w2 : Wy) (w : World) (hr : Rd w w.heap.size 8 A n (prcells v)) (hr2 : Rd w w.heap.size 8 A2 n2 (prcells w2)) :
    Calls Tryz.prog 84 #[.slice A n c, .slice A2 n2 c2] w fun e w' => e = .returned (.bool (alikeW v w2)) ∧ Below w.heap.size w w' := by
  have hl : v.length = n := by have := hr.1; rw [prcells_length] at this; omega
  have hl2 : w2.length = n2 := by have := hr2.1; rw [prcells_length] at this; omega
  have hnb := hr.2.1
  have hnb2 := hr2.2.1
  have HV : Hid (alikeW v w2 = (decide (n = n2) && likeW v w2)) := Lib.hid (by rw [← hl, ← hl2]; rfl)
  have HR := Lib.hid hr
  have HR2 := Lib.hid hr2
  have HL := Lib.hid hl
  clear hr hr2 hl hl2
  generalize alikeW v w2 = res at *
  go_enter Tryz.func84, Tryz.ntmps84
  by_cases hne : n ≠ n2
  · have hz : res = false := by rw [HV.out, decide_eq_false hne]; rfl
    have t1 : ((n : Int) != (n2 : Int)) = true := by simp only [bne_iff_ne, ne_eq]; omega
    have t2 : ((n : Int) == (n2 : Int)) = false := by simp only [beq_eq_false_iff_ne, ne_eq]; omega
    subst hz
    go_wp2
    go_ret
    exact ⟨by rfl, Below.refl _ _⟩
  obtain rfl : n = n2 := Classical.not_not.1 hne
  have HV0 : Hid (likeW (v.drop 0) w2 = res) := Lib.hid (by rw [HV.out, decide_eq_true rfl, Bool.true_and]; rfl)
  clear HV hne
  go_upto_region 4 with (fail)
  generalize hR : w.heap.size = R at *
  have HRR := Lib.hid hR
  clear hR
  go_loopg [5] n (fun gk u5 wr => ∃ k : Nat, u5 = .int .i64 k ∧ k ≤ n ∧ Hid (gk = n - k) ∧ Hid (Below R w wr) ∧ Hid (likeW (v.drop k) w2 = res))
  case atStart => exact ⟨0, rfl, Nat.zero_le _, Lib.hid (by omega), Lib.hid (Below.refl _ _), HV0⟩
  case round =>
    clear HV0
    obtain ⟨k, rfl, hk, HG, HB, HV⟩ := hrel
    by_cases hlt : k < n
    · obtain ⟨b, o, hk1, rfl, hB, hcc⟩ := (HR.out.below HB.out).at prc 8 (fun _ => rfl) (by omega) k hlt
      have HS : Hid (res = (decide (stands w2 v[k].1 = some v[k].2) && likeW (v.drop (k + 1)) w2)) := Lib.hid (by rw [← HV.out]; exact likeW_drop v w2 k hk1)
      have c0 := hcc 0 _ (by omega) rfl
      have c1 := hcc 1 _ (by omega) rfl
      have c2' := hcc 2 _ (by omega) rfl
      have c3 := hcc 3 _ (by omega) rfl
      have HC4 := Lib.hid (hcc 4 _ (by omega) rfl)
      have HC5 := Lib.hid (hcc 5 _ (by omega) rfl)
      have HC6 := Lib.hid (hcc 6 _ (by omega) rfl)
      have HC7 := Lib.hid (hcc 7 _ (by omega) rfl)
      rw [Nat.add_zero] at c0
      clear hcc HV
      have hsz := HB.out.size
      rw [HRR.out] at hsz
      have ks := stands_ref A2 n c2 w2 v[k].1 wr (HR2.out.up (HRR.out ▸ HB.out) hsz)
      generalize v[k] = x at *
      obtain ⟨⟨xk, xi, xt, xo⟩, ⟨yk, yi, yt, yo⟩⟩ := x
      dsimp only at c0 c1 c2' c3 HC4 HC5 HC6 HC7 HS ks
      generalize stands w2 ⟨xk, xi, xt, xo⟩ = z at *
      cases z with
      | none =>
        have hz : res = false := by rw [HS.out]; rfl
        subst hz
        simp only [Th.cells, Option.getD_none, Option.isSome_none, zeroTh] at ks
        clear HS
        go_wp2_with fail
        refine ks.mono ?_
        rintro e w3 ⟨rfl, hb3⟩
        have KB := Lib.hid (HB.out.trans (hb3.mono hsz))
        have hs3 := hb3.size
        clear ks hb3 HB c0 c1 c2' c3 HC4 HC5 HC6 HC7
        go_upto_region 7 with (fail)
        have MB := Lib.hid (KB.out.alloc (by omega) (.cells #[.int .i64 0, .int .i64 0, .string ⟨#[]⟩, .int .i64 0] 86))
        clear KB
        generalize World.alloc _ _ = w4 at *
        refine wp_region_quiet_below (by kernel_rfl) (by kernel_rfl) ?_
        repeat (go_big_quiet_step (fail))
        refine wpQuiet_nil ?_
        intro w6 hw6
        obtain ⟨⟨dq, osq⟩, rfl⟩ := hw6
        have HB6 := Lib.hid (MB.out.trans ((below_regrown w4 dq osq).mono (by have := MB.out.size; rw [HRR.out] at this; exact this)))
        go_wp2
        go_ret
        exact ⟨by rfl, by rw [HRR.out]; exact HB6.out⟩
      | some z =>
        obtain ⟨zk, zi, zt, zo⟩ := z
        simp only [Th.cells, Option.getD_some, Option.isSome_some] at ks
        go_wp2_with fail
        refine ks.mono ?_
        rintro e w3 ⟨rfl, hb3⟩
        have hs3 := hb3.size
        have KB := Lib.hid (HB.out.trans (hb3.mono hsz))
        have c4 := (hb3.cell (p := ⟨b, o + k * 8 + 4, none⟩) (by show b < wr.heap.size; omega)).trans HC4.out
        have c5 := (hb3.cell (p := ⟨b, o + k * 8 + 5, none⟩) (by show b < wr.heap.size; omega)).trans HC5.out
        have c6 := (hb3.cell (p := ⟨b, o + k * 8 + 6, none⟩) (by show b < wr.heap.size; omega)).trans HC6.out
        have c7 := (hb3.cell (p := ⟨b, o + k * 8 + 7, none⟩) (by show b < wr.heap.size; omega)).trans HC7.out
        clear ks hb3 HB c0 c1 c2' c3 HC4 HC5 HC6 HC7
        go_upto_region 7 with (fail)
        have hba := (Below.refl w3.heap.size w3).alloc (Nat.le_refl _) (.cells #[.int .i64 zk, .int .i64 zi, .string zt, .int .i64 (zo : Int)] 86)
        have MB := Lib.hid (KB.out.trans (hba.mono (by omega)))
        have h4 := Blk.new w3 86 [.int .i64 zk, .int .i64 zi, .string zt, .int .i64 (zo : Int)]
        have c4 := cell_regrown ((hba.cell (p := ⟨b, o + k * 8 + 4, none⟩) (by show b < w3.heap.size; omega)).trans c4)
        have c5 := cell_regrown ((hba.cell (p := ⟨b, o + k * 8 + 5, none⟩) (by show b < w3.heap.size; omega)).trans c5)
        have c6 := cell_regrown ((hba.cell (p := ⟨b, o + k * 8 + 6, none⟩) (by show b < w3.heap.size; omega)).trans c6)
        have c7 := cell_regrown ((hba.cell (p := ⟨b, o + k * 8 + 7, none⟩) (by show b < w3.heap.size; omega)).trans c7)
        clear hba KB
        generalize World.alloc _ _ = w4 at *
        have g0 := cell_regrown ((h4.cell 0).trans rfl)
        have g1 := cell_regrown ((h4.cell 1).trans rfl)
        have g2 := cell_regrown ((h4.cell 2).trans rfl)
        have g3 := cell_regrown ((h4.cell 3).trans rfl)
        have kq := fun W => same_ref ⟨zk, zi, zt, zo⟩ ⟨yk, yi, yt, yo⟩ W
        have HS2 : Hid (res = (decide ((⟨zk, zi, zt, zo⟩ : Th) = ⟨yk, yi, yt, yo⟩) && likeW (v.drop (k + 1)) w2)) := Lib.hid (by rw [HS.out]; congr 2; simp)
        clear HS h4
        simp only [Th.cells] at kq
        generalize decide ((⟨zk, zi, zt, zo⟩ : Th) = ⟨yk, yi, yt, yo⟩) = q at *
        have cS : ∀ d os, Calls Tryz.prog 79 #[.agg #[.int .i64 zk, .int .i64 zi, .string zt, .int .i64 (zo : Int)], .agg #[.int .i64 yk, .int .i64 yi, .string yt, .int .i64 (yo : Int)]] (grow (redrawn w4 d) os) fun e w'' => e = .returned (.bool q) ∧ ∃ p : Regrown, w'' = grow (redrawn w4 p.d) p.os :=
          fun d os => Calls.regrown_of (kq _)
        clear kq
        cases q with
        | true =>
          refine wp_region_quiet_below (by kernel_rfl) (by kernel_rfl) ?_
          repeat (go_big_quiet_step (exact cS _ _))
          refine wpQuiet_nil ?_
          intro w6 hw6
          obtain ⟨⟨dq, osq⟩, rfl⟩ := hw6
          have HB6 := Lib.hid (MB.out.trans ((below_regrown w4 dq osq).mono (by have := MB.out.size; rw [HRR.out] at this; exact this)))
          have HN : Hid (likeW (v.drop (k + 1)) w2 = res) := Lib.hid (by rw [HS2.out, Bool.true_and])
          clear c4 c5 c6 c7 g0 g1 g2 g3 cS MB HS2
          generalize hW : grow _ _ = w7 at *
          clear hW
          go_wp2
          go_roundg (n - (k + 1))
          case measure => have := HG.out; omega
          case rel => exact ⟨k + 1, by go_num, by omega, Lib.hid rfl, HB6, HN⟩
        | false =>
          have hz : res = false := by rw [HS2.out]; rfl
          subst hz
          refine wp_region_quiet_below (by kernel_rfl) (by kernel_rfl) ?_
          repeat (go_big_quiet_step (exact cS _ _))
          refine wpQuiet_nil ?_
          intro w6 hw6
          obtain ⟨⟨dq, osq⟩, rfl⟩ := hw6
          have HB6 := Lib.hid (MB.out.trans ((below_regrown w4 dq osq).mono (by have := MB.out.size; rw [HRR.out] at this; exact this)))
          clear c4 c5 c6 c7 g0 g1 g2 g3 cS MB HS2
          go_wp2
          go_ret
          exact ⟨by rfl, by rw [HRR.out]; exact HB6.out⟩
    · have hz : res = true := by rw [← HV.out]; exact likeW_end v w2 k (by have := HL.out; omega)
      subst hz
      go_wp2
      go_ret
      exact ⟨by rfl, by rw [HRR.out]; exact HB.out⟩
end Go.Proofs.YtjcgkplphiedjaaGreat

namespace Go.Proofs.YtjcgkplphiedjaaGreat
open Go.RowKit Go.Sort

/-- A way, and where it lies. -/
structure Wm where
  A : Option Addr
  n : Nat
  c : Nat
  ws : Wy
def Wm.cells (x : Wm) : List Value := [.slice x.A x.n x.c]
def wmcells (l : List Wm) : List Value := l.flatMap Wm.cells
theorem wmcells_length (l : List Wm) : (wmcells l).length = l.length * 1 := flat_length Wm.cells 1 (fun _ => rfl) l
theorem wmcells_append (a b : List Wm) : wmcells (a ++ b) = wmcells a ++ wmcells b := by simp [wmcells]
theorem Wm.one (x : Wm) : ∀ u ∈ x.cells, u.oneCell' = true := by
  intro u hu
  simp only [Wm.cells, List.mem_cons, List.not_mem_nil, or_false] at hu
  subst hu; rfl
def Wm.ok (w : World) (x : Wm) : Prop := Rd w w.heap.size 8 x.A x.n (prcells x.ws)
theorem Wm.ok.up {w w' : World} {x : Wm} (h : Wm.ok w x) (hb : Below w.heap.size w w') : Wm.ok w' x := Rd.up h hb hb.size

def anyW (l : List Wm) (w : Wy) : Bool := l.any fun y => alikeW y.ws w
theorem anyW_drop (l : List Wm) (w : Wy) (k : Nat) (h : k < l.length) : anyW (l.drop k) w = (alikeW l[k].ws w || anyW (l.drop (k + 1)) w) := by
  rw [List.drop_eq_getElem_cons h]; rfl
theorem anyW_end (l : List Wm) (w : Wy) (k : Nat) (h : l.length ≤ k) : anyW (l.drop k) w = false := by
  rw [List.drop_eq_nil_of_le h]; rfl
theorem joined_map (l : List Wm) (x : Wm) : (if anyW l x.ws = true then l else l ++ [x]).map Wm.ws = joinedW (l.map Wm.ws) x.ws := by
  unfold anyW joinedW
  rw [List.any_map]
  show _ = if (l.any fun y => alikeW y.ws x.ws) = true then _ else _
  split <;> simp

theorem Tryz.info79 : (Tryz.prog.info? 79).map (fun i => (i.zero, i.size, i.bytes)) = some (some (.slice none 0 0), 1, 24) := by kernel_rfl

theorem below_grown {w w' : World} (h : Below w.heap.size w w') (row : Option Nat) : w.grownBy w' row := ⟨h.os, h.tape, h.output, h.size, fun k hk _ => h.block k hk⟩
theorem grown_trans {a b c : World} {row : Option Nat} (h : a.grownBy b row) (k : b.grownBy c row) : a.grownBy c row :=
  ⟨k.os.trans h.os, k.tape.trans h.tape, k.output.trans h.output, Nat.le_trans h.size k.size, fun i hi hr => (k.block i (Nat.lt_of_lt_of_le hi h.size) hr).trans (h.block i hi hr)⟩

set_option maxRecDepth 20000 in
set_option maxHeartbeats 4000000 in
theorem joined_ref (B : Nat) (A : Option Addr) (n c : Nat) (l : List Wm) (x : Wm) (w : World) (ho : w.ownsRow B 79 1 (.slice A n c) n (wmcells l)) (hBs : B ≤ w.heap.size) (hn : n ≤ 5000000000000) (hok : ∀ y ∈ l, Wm.ok w y) (hx : Wm.ok w x) :
    Calls Tryz.prog 58 #[.slice A n c, .slice x.A x.n x.c] w fun e w' => ∃ A' n' c', e = .returned (.slice A' n' c') ∧ n' ≤ n + 1 ∧
      w'.ownsRow B 79 1 (.slice A' n' c') n' (wmcells (if anyW l x.ws = true then l else l ++ [x])) ∧ w.grownBy w' (Value.slice A n c).ownBlock := by
  obtain ⟨i0, hi, hz0, hz1, hz2⟩ := info_parts Tryz.info79
  have hr := own_rd ho
  have hl : l.length = n := by have := hr.1; rw [wmcells_length] at this; omega
  have HV : Hid (anyW (l.drop 0) x.ws = anyW l x.ws) := Lib.hid rfl
  have HR := Lib.hid hr
  have HL := Lib.hid hl
  have HK := Lib.hid hok
  have HX := Lib.hid hx
  have HO := Lib.hid ho
  clear hr hl hok hx ho
  generalize anyW l x.ws = q at *
  obtain ⟨xA, xn, xc, xw⟩ := x
  unfold Wm.ok at HX
  dsimp only at HV HX
  go_enter Tryz.func58, Tryz.ntmps58
  go_upto_region 2 with (fail)
  generalize hR : w.heap.size = R at *
  have HRR := Lib.hid hR
  clear hR
  go_loopg [5] n (fun gk u5 wr => ∃ k : Nat, u5 = .int .i64 k ∧ k ≤ n ∧ Hid (gk = n - k) ∧ Hid (Below R w wr) ∧ Hid (anyW (l.drop k) xw = q))
  case atStart => exact ⟨0, rfl, Nat.zero_le _, Lib.hid (by omega), Lib.hid (Below.refl _ _), HV⟩
  case round =>
    clear HV
    obtain ⟨k, rfl, hk, HG, HB, HV⟩ := hrel
    have HWO : Hid (wr.ownsRow B 79 1 (.slice A n c) n (wmcells l)) := Lib.hid (own_below HO.out (HRR.out ▸ HB.out))
    have hsz := HB.out.size
    rw [HRR.out] at hsz
    by_cases hlt : k < n
    · obtain ⟨b, o, hk1, hAe, hB, hcc⟩ := (HR.out.below HB.out).at Wm.cells 1 (fun _ => rfl) (by omega) k hlt
      have c0 := hcc 0 _ (by omega) rfl
      have HS : Hid (q = (alikeW l[k].ws xw || anyW (l.drop (k + 1)) xw)) := Lib.hid (by rw [← HV.out]; exact anyW_drop l xw k hk1)
      have hyk := HK.out l[k] (List.getElem_mem hk1)
      generalize l[k] = y at *
      obtain ⟨yA, yn, yc, yw⟩ := y
      unfold Wm.ok at hyk
      dsimp only at c0 HS hyk
      rw [Nat.add_zero, Nat.mul_one] at c0
      clear hcc HV
      have ka := alike_ref yA yn yc yw xA xn xc xw wr (hyk.up (HRR.out ▸ HB.out) (by have := HRR.out; omega)) ((HRR.out ▸ HX.out : Rd w R 8 xA xn (prcells xw)).up HB.out hsz)
      clear hyk
      have HAE := Lib.hid hAe
      subst hAe
      generalize alikeW yw xw = t at *
      go_wp2_with fail
      refine ka.mono ?_
      rintro e w2 ⟨rfl, hb2⟩
      have KB := Lib.hid (HB.out.trans (hb2.mono hsz))
      have KO := Lib.hid (own_below HWO.out hb2)
      clear ka hb2 HB HWO c0
      cases t with
      | true =>
        have hz : q = true := by rw [HS.out]; rfl
        subst hz
        go_wp2
        go_ret
        refine ⟨_, n, c, rfl, by omega, ?_, below_grown (HRR.out ▸ KB.out) _⟩
        exact KO.out
      | false =>
        have HN : Hid (anyW (l.drop (k + 1)) xw = q) := Lib.hid (by rw [HS.out, Bool.false_or])
        clear HS KO
        go_wp2
        go_roundg (n - (k + 1))
        case measure => have := HG.out; omega
        case rel => exact ⟨k + 1, by go_num, by omega, Lib.hid rfl, KB, HN⟩
    · have hz : q = false := by rw [← HV.out]; exact anyW_end l xw k (by have := HL.out; omega)
      subst hz
      have hownb := HWO.out
      go_wp2_with (at_builtin; go_must (refine wpList_append_own _ rfl _ _ 91 rfl B 79 i0 _ 1 24 Tryz.underlying91 hi hz0 hz1 hz2 rfl (by decide) _ _ _ rfl (hownb.alloc _) ⟨wr.heap.size, 0, none⟩ 1 1 (Wm.cells ⟨xA, xn, xc, xw⟩) rfl rfl (fun j u h => new_cells _ _ _ j u h) (Wm.one _) (by unfold maxLen; omega) (by omega) (by simp; omega) ?_))
      intro v7 w7 hown7 hg7 _
      obtain ⟨A7, d7, rfl, hn7⟩ := own_slice hown7
      have HG7 : Hid (w.grownBy w7 (Value.slice A n c).ownBlock) := Lib.hid (grown_trans (grown_trans (below_grown (HRR.out ▸ HB.out) _) (World.grownBy_alloc wr (.cells (Wm.cells ⟨xA, xn, xc, xw⟩).toArray 79) _)) hg7)
      have V7 : w7.ownsRow B 79 1 (.slice A7 (n + 1) d7) (n + 1) (wmcells (l ++ [⟨xA, xn, xc, xw⟩])) := by
        rw [wmcells_append]; simpa [wmcells] using hown7
      have HV7 := Lib.hid V7
      clear V7 hown7 hg7 hownb
      go_wp2
      go_ret
      refine ⟨A7, n + 1, d7, rfl, by omega, ?_, HG7.out⟩
      exact HV7.out
end Go.Proofs.YtjcgkplphiedjaaGreat

namespace Go.Proofs.YtjcgkplphiedjaaGreat
open Go.RowKit Go.Sort

def thsN (l : List Pm) : Nat := (l.flatMap Pm.ths).length
theorem thsN_drop (l : List Pm) (k : Nat) (h : k < l.length) : thsN (l.drop k) = l[k].ths.length + thsN (l.drop (k + 1)) := by
  unfold thsN
  rw [List.drop_eq_getElem_cons h, List.flatMap_cons, List.length_append]
theorem thsN_flat (l : List Pm) : thsN l = ((l.map Pm.pt).flatMap Pt.ths).length := by
  unfold thsN
  rw [List.flatMap_map]; rfl
theorem bothW_drop (tw fr : Wy) (X Y : List Pm) (k : Nat) (h : k < X.length) (h' : k < Y.length) : bothW tw fr ((X.drop k).map Pm.pt) ((Y.drop k).map Pm.pt) =
    match fitP tw X[k].pt Y[k].pt with
    | none => none
    | some t => match fitP fr Y[k].pt X[k].pt with
      | none => none
      | some f => bothW t f ((X.drop (k + 1)).map Pm.pt) ((Y.drop (k + 1)).map Pm.pt) := by
  rw [List.drop_eq_getElem_cons h, List.drop_eq_getElem_cons h', List.map_cons, List.map_cons, bothW]
  rfl
theorem bothW_end (tw fr : Wy) (X Y : List Pm) (k : Nat) (h : X.length ≤ k) : bothW tw fr ((X.drop k).map Pm.pt) ((Y.drop k).map Pm.pt) = some (tw, fr) := by
  rw [List.drop_eq_nil_of_le h, List.map_nil, bothW]
  intros; simp_all
theorem fitP_len {w w' : Wy} {a b : Pt} (h : fitP w a b = some w') : w'.length ≤ w.length + a.ths.length := by
  unfold fitP at h
  split at h
  · exact fitT_len _ _ _ _ h
  · cases h

/-- A way in memory that fitted may copy. -/
def WyOk (w : World) (A : Option Addr) (n c : Nat) (wy : Wy) : Prop := Rd w w.heap.size 8 A n (prcells wy) ∧ (A = none → c = 0)
theorem WyOk.up {w w' : World} {A : Option Addr} {n c : Nat} {wy : Wy} (h : WyOk w A n c wy) (hb : Below w.heap.size w w') : WyOk w' A n c wy := ⟨h.1.up hb hb.size, h.2⟩
theorem WyOk.len {w : World} {A : Option Addr} {n c : Nat} {wy : Wy} (h : WyOk w A n c wy) : wy.length = n := by have := h.1.1; rw [prcells_length] at this; omega
theorem WyOk.of {w : World} {B : Nat} {A : Option Addr} {n c : Nat} {wy : Wy} (h : w.ownsRow B 88 8 (.slice A n c) n (prcells wy)) : WyOk w A n c wy := ⟨own_rd h, fun hA => by subst hA; exact own_none h⟩
theorem WyOk.nil (w : World) : WyOk w none 0 0 [] := ⟨⟨rfl, by omega, fun h => absurd h (by omega)⟩, fun _ => rfl⟩

set_option maxRecDepth 200000 in
set_option maxHeartbeats 8000000 in
theorem again_ref (x y : Cl) (w : World) (hx : Cl.ok w x) (hy : Cl.ok w y) (hx1 : x.tot.length ≤ 1000000) (hx2 : x.ls.length ≤ 1000000) (hy1 : y.tot.length ≤ 1000000) (hy2 : y.ls.length ≤ 1000000) :
    Calls Tryz.prog 31 #[.agg x.cells.toArray, .agg y.cells.toArray] w fun e w' => e = .returned (.bool (againR x y)) ∧ Below w.heap.size w w' := by
  have HV : Hid (againR x y = if x.ls.length ≠ y.ls.length then false else (match bothW [] [] (headPt x :: bodyPts x) (headPt y :: bodyPts y) with | none => false | some q => q.1.all namedB)) := Lib.hid rfl
  have HNX : Hid (((headPt x :: bodyPts x).flatMap Pt.ths).length ≤ 1000000) := Lib.hid (by rw [clause_ths, num_length]; exact hx1)
  have HNY : Hid (((headPt y :: bodyPts y).flatMap Pt.ths).length ≤ 1000000) := Lib.hid (by rw [clause_ths, num_length]; exact hy1)
  have HLX : Hid ((headPt x :: bodyPts x).length = x.ls.length + 1) := Lib.hid (by simp [bodyPts, pairL_length])
  have HLY : Hid ((headPt y :: bodyPts y).length = y.ls.length + 1) := Lib.hid (by simp [bodyPts, pairL_length])
  have kx := fun W (h : Below w.heap.size w W) => flat_ref x W (hx.up h) hx1 hx2
  have ky := fun W (h : Below w.heap.size w W) => flat_ref y W (hy.up h) hy1 hy2
  generalize againR x y = v at *
  generalize headPt x :: bodyPts x = PX at *
  generalize headPt y :: bodyPts y = PY at *
  generalize x.ls.length = lx at *
  generalize y.ls.length = ly at *
  have KX := Lib.hid kx
  have KY := Lib.hid ky
  clear hx hy hx1 hx2 hy1 hy2 kx ky
  obtain ⟨⟨xp, xA, xn, xc, xo, xes⟩, xB, xm, xd, xls⟩ := x
  obtain ⟨⟨yp, yA, yn, yc, yo, yes⟩, yB, ym, yd, yls⟩ := y
  show Calls Tryz.prog 31 #[.agg #[.string xp, .slice xA xn xc, .int .i64 xo, .slice xB xm xd], .agg #[.string yp, .slice yA yn yc, .int .i64 yo, .slice yB ym yd]] w _
  simp only [Cl.cells] at KX KY
  go_enter Tryz.func31, Tryz.ntmps31
  go_upto_region 1 with (fail)
  obtain ⟨hb3, h1, h2, hs3⟩ := two_alloc w 37 37 [.string xp, .slice xA xn xc, .int .i64 xo, .slice xB xm xd] [.string yp, .slice yA yn yc, .int .i64 yo, .slice yB ym yd]
  generalize World.alloc (World.alloc _ _) _ = w1 at *
  generalize hR : w.heap.size = R at *
  have HRR := Lib.hid hR
  clear hR
  have HB1 := Lib.hid hb3
  have H2 := Lib.hid h2
  have f0 := h1.cell 0
  have f1 := h1.cell 1
  have f2 := h1.cell 2
  have f3 := h1.cell 3
  simp only [List.getElem?_cons_zero, List.getElem?_cons_succ] at f0 f1 f2 f3
  clear h1 h2 hb3 hs3
  have ka := KX.out w1 HB1.out
  go_wp2_with fail
  refine ka.mono ?_
  rintro e w2 ⟨X, n1, c1, lX, rfl, hrX, hoX, hpX, hb2, _⟩
  have hs1 : R ≤ w1.heap.size := by have := H2.out.lt; omega
  have HB2 := Lib.hid (HB1.out.trans (hb2.mono hs1))
  have h2 := H2.out.below hb2 H2.out.lt
  have HrX := Lib.hid hrX
  have HoX := Lib.hid hoX
  have HpX := Lib.hid hpX
  clear hb2 HB1 H2 f0 f1 f2 f3 ka hrX hoX hpX hs1
  have g0 := h2.cell 0
  have g1 := h2.cell 1
  have g2 := h2.cell 2
  have g3 := h2.cell 3
  simp only [List.getElem?_cons_zero, List.getElem?_cons_succ] at g0 g1 g2 g3
  have hs2 : R ≤ w2.heap.size := by have := h2.lt; omega
  clear h2
  have ka := KY.out w2 HB2.out
  go_wp2_with fail
  refine ka.mono ?_
  rintro e w3 ⟨Y, n2, c2, lY, rfl, hrY, hoY, hpY, hb3, _⟩
  have HB3 := Lib.hid (HB2.out.trans (hb3.mono hs2))
  have hs3 : R ≤ w3.heap.size := Nat.le_trans hs2 hb3.size
  have JrX := Lib.hid (HrX.out.up hb3 hb3.size)
  have JoX : Hid (∀ y ∈ lX, Pm.ok w3 y) := Lib.hid fun y hy => (HoX.out y hy).up hb3
  have JrY := Lib.hid hrY
  have JoY := Lib.hid hoY
  have HlX : Hid (lX.length = n1) := Lib.hid (by have := hrY.1; have := HrX.out.1; rw [pmcells_length] at this; omega)
  have HlY : Hid (lY.length = n2) := Lib.hid (by have := hrY.1; rw [pmcells_length] at this; omega)
  have hn1 : n1 = lx + 1 := by rw [← HlX.out, ← HLX.out, ← HpX.out, List.length_map]
  have hn2 : n2 = ly + 1 := by rw [← HlY.out, ← HLY.out, ← hpY, List.length_map]
  have hn1b := JrX.out.2.1
  rw [← HpX.out, ← hpY] at HV
  rw [← HpX.out, ← thsN_flat] at HNX
  rw [← hpY, ← thsN_flat] at HNY
  clear hb3 HB2 g0 g1 g2 g3 ka hrY hoY hpY HrX HoX HpX HLX HLY KX KY hs2
  by_cases hne : lx ≠ ly
  · have hz : v = false := by rw [HV.out, if_pos hne]
    have t1 : ((n1 : Int) != (n2 : Int)) = true := by simp only [bne_iff_ne, ne_eq]; omega
    have t2 : ((n1 : Int) == (n2 : Int)) = false := by simp only [beq_eq_false_iff_ne, ne_eq]; omega
    subst hz
    clear HV
    go_wp2
    go_ret
    exact ⟨by rfl, by rw [HRR.out]; exact HB3.out⟩
  obtain rfl : lx = ly := Classical.not_not.1 hne
  obtain rfl : n1 = n2 := by omega
  have HV0 : Hid (v = (match bothW [] [] ((lX.drop 0).map Pm.pt) ((lY.drop 0).map Pm.pt) with | none => false | some q => q.1.all namedB)) := Lib.hid (by rw [HV.out, if_neg hne]; rfl)
  clear HV hne hn1 hn2
  go_upto_region 8 with (fail)
  generalize hS : w3.heap.size = S at *
  have HS3 := Lib.hid hS
  clear hS
  go_loopg [7, 8, 9] n1 (fun gk u7 u8 u9 wr => ∃ (k : Nat) (tA fA : Option Addr) (tn tc fn fc : Nat) (tw fr : Wy), u9 = .int .i64 k ∧ u7 = .slice tA tn tc ∧ u8 = .slice fA fn fc ∧ k ≤ n1 ∧ Hid (gk = n1 - k) ∧ Hid (Below S w3 wr) ∧ Hid (WyOk wr tA tn tc tw) ∧ Hid (WyOk wr fA fn fc fr) ∧
    Hid (tn + thsN (lX.drop k) ≤ 1000000) ∧ Hid (fn + thsN (lY.drop k) ≤ 1000000) ∧ Hid (v = (match bothW tw fr ((lX.drop k).map Pm.pt) ((lY.drop k).map Pm.pt) with | none => false | some q => q.1.all namedB)))
  case atStart => exact ⟨0, none, none, 0, 0, 0, 0, [], [], rfl, rfl, rfl, Nat.zero_le _, Lib.hid (by omega), Lib.hid (HS3.out ▸ Below.refl _ _), Lib.hid (WyOk.nil _), Lib.hid (WyOk.nil _), Lib.hid (by rw [List.drop_zero]; have := HNX.out; omega), Lib.hid (by rw [List.drop_zero]; have := HNY.out; omega), HV0⟩
  case round =>
    clear HV0
    obtain ⟨k, tA, fA, tn, tc, fn, fc, tw, fr, rfl, rfl, rfl, hk, HG, HB, HT, HF, HTN, HFN, HV⟩ := hrel
    by_cases hlt : k < n1
    · obtain ⟨b, o, hk1, rfl, hB, hcc⟩ := JrX.out.at Pm.cells 4 (fun _ => rfl) (by omega) k hlt
      obtain ⟨b', o', hk2, rfl, hB', hdd⟩ := JrY.out.at Pm.cells 4 (fun _ => rfl) (by omega) k hlt
      have HCC := Lib.hid hcc
      have HDD := Lib.hid hdd
      have hox := (JoX.out lX[k] (List.getElem_mem hk1)).up (HS3.out ▸ HB.out)
      have hoy := (JoY.out lY[k] (List.getElem_mem hk2)).up (HS3.out ▸ HB.out)
      have H2 : Hid (v = (match (match fitP tw lX[k].pt lY[k].pt with
        | none => none
        | some t => match fitP fr lY[k].pt lX[k].pt with
          | none => none
          | some f => bothW t f ((lX.drop (k + 1)).map Pm.pt) ((lY.drop (k + 1)).map Pm.pt)) with | none => false | some q => q.1.all namedB)) := Lib.hid (by rw [HV.out, bothW_drop tw fr lX lY k hk1 hk2])
      have HXD := Lib.hid (thsN_drop lX k hk1)
      have HYD := Lib.hid (thsN_drop lY k hk2)
      clear hcc hdd HV
      generalize lX[k] = a at *
      generalize lY[k] = d at *
      have ha1 : a.ths.length = a.n := by have := hox.1; rw [thcells_length] at this; omega
      have hd1 : d.ths.length = d.n := by have := hoy.1; rw [thcells_length] at this; omega
      have htb := HTN.out
      have hfb := HFN.out
      rw [HXD.out] at htb
      rw [HYD.out] at hfb
      have HOX := Lib.hid hox
      have HOY := Lib.hid hoy
      clear hox hoy
      have hszr : S ≤ wr.heap.size := by have := HB.out.size; rw [HS3.out] at this; exact this
      have c0 := HCC.out 0 _ (by omega) rfl
      have c1 := HCC.out 1 _ (by omega) rfl
      have c2 := HCC.out 2 _ (by omega) rfl
      have c3 := HCC.out 3 _ (by omega) rfl
      rw [Nat.add_zero] at c0
      have d0 := HDD.out 0 _ (by omega) rfl
      have d1 := HDD.out 1 _ (by omega) rfl
      have d2 := HDD.out 2 _ (by omega) rfl
      have d3 := HDD.out 3 _ (by omega) rfl
      rw [Nat.add_zero] at d0
      go_upto_region 11 with (fail)
      obtain ⟨C, hCi⟩ : ∃ C : World → Prop, ∀ w', C w' ↔ Below S w3 w' := ⟨_, fun _ => Iff.rfl⟩
      have hbd : Below wr.heap.size wr wr.drew := ⟨rfl, rfl, rfl, Nat.le_refl _, fun _ _ => rfl⟩
      have KB := Lib.hid (HB.out.trans (hbd.mono hszr))
      have hC : C wr.drew := (hCi _).2 KB.out
      have k0 : ∀ p : WC C, p.w.cell? ⟨b, o + k * 4, none⟩ = _ := fun p => (((hCi _).1 p.h).cell (p := ⟨b, o + k * 4, none⟩) hB).trans c0
      have k1 : ∀ p : WC C, p.w.cell? ⟨b, o + k * 4 + 1, none⟩ = _ := fun p => (((hCi _).1 p.h).cell (p := ⟨b, o + k * 4 + 1, none⟩) hB).trans c1
      have k2 : ∀ p : WC C, p.w.cell? ⟨b, o + k * 4 + 2, none⟩ = _ := fun p => (((hCi _).1 p.h).cell (p := ⟨b, o + k * 4 + 2, none⟩) hB).trans c2
      have k3 : ∀ p : WC C, p.w.cell? ⟨b, o + k * 4 + 3, none⟩ = _ := fun p => (((hCi _).1 p.h).cell (p := ⟨b, o + k * 4 + 3, none⟩) hB).trans c3
      have k4 : ∀ p : WC C, p.w.cell? ⟨b', o' + k * 4, none⟩ = _ := fun p => (((hCi _).1 p.h).cell (p := ⟨b', o' + k * 4, none⟩) hB').trans d0
      have k5 : ∀ p : WC C, p.w.cell? ⟨b', o' + k * 4 + 1, none⟩ = _ := fun p => (((hCi _).1 p.h).cell (p := ⟨b', o' + k * 4 + 1, none⟩) hB').trans d1
      have k6 : ∀ p : WC C, p.w.cell? ⟨b', o' + k * 4 + 2, none⟩ = _ := fun p => (((hCi _).1 p.h).cell (p := ⟨b', o' + k * 4 + 2, none⟩) hB').trans d2
      have k7 : ∀ p : WC C, p.w.cell? ⟨b', o' + k * 4 + 3, none⟩ = _ := fun p => (((hCi _).1 p.h).cell (p := ⟨b', o' + k * 4 + 3, none⟩) hB').trans d3
      have kn : Nonempty (WC C) := ⟨⟨_, hC⟩⟩
      refine wp_region_frontN C [0, 1, 2, 3, 4, 5, 6, 7, 8] 6 (fun j => decide (j < 15)) (by kernel_rfl) (fun _ _ d _ _ h => by cases d <;> exact h) (by kernel_rfl) hC ?_
      simp only [List.map_cons, List.map_nil, List.getD_cons_zero, List.getD_cons_succ]
      repeat (go_big_quiet_step (fail))
      refine wpQuiet_nil ?_
      have HCi := Lib.hid hCi
      have KT := Lib.hid (HT.out.up hbd)
      have KF := Lib.hid (HF.out.up hbd)
      have KX := Lib.hid (HOX.out.up hbd)
      have KY := Lib.hid (HOY.out.up hbd)
      have hszd : S ≤ wr.drew.heap.size := hszr
      clear k0 k1 k2 k3 k4 k5 k6 k7 hC hCi hbd HT HF HOX HOY HB c0 c1 c2 c3 d0 d1 d2 d3
      generalize wr.drew = wd at *
      have kf := fitted_ref tA tn tc tw a d wd KT.out.1 KT.out.2 (by omega) KX.out KY.out (by omega)
      simp only [Pm.cells] at kf
      refine wpN_one (i := 9) (by kernel_rfl) rfl ?_
      go_wp2_with fail
      refine kf.mono ?_
      rintro e w5 ⟨t2A, t2n, t2c, rfl, hown5, hb5⟩
      have MB := Lib.hid (KB.out.trans (hb5.mono hszd))
      have hsz5 := Nat.le_trans hszd hb5.size
      go_wp2
      refine tailN_normal ((HCi.out _).2 MB.out) ?_
      refine wpN_one (i := 10) (by kernel_rfl) rfl ?_
      go_wp2
      refine tailN_normal ((HCi.out _).2 MB.out) ?_
      refine wpN_frontW C [11, 12, 13, 14] 0 _ (fun _ _ d _ _ h => by cases d <;> exact h) (by kernel_rfl) ((HCi.out _).2 MB.out) ?_
      simp only [List.map_cons, List.map_nil, List.getD_cons_zero, List.getD_cons_succ]
      repeat (go_big_quiet_step (fail))
      refine wpQuiet_nil ?_
      refine wpN_none (by kernel_rfl) ?_
      clear kn HCi C KB kf
      cases hft : fitP tw a.pt d.pt with
      | none =>
        rw [hft] at H2 hown5
        have hz : v = false := H2.out
        subst hz
        clear hft H2 hown5 hb5
        go_wp2
        go_ret
        exact ⟨by rfl, by rw [HRR.out]; exact HB3.out.trans (MB.out.mono hs3)⟩
      | some t =>
      rw [hft] at H2 hown5
      dsimp only at H2
      have htlen := fitP_len hft
      have JT := Lib.hid (WyOk.of hown5)
      have JF := Lib.hid (KF.out.up hb5)
      have JX := Lib.hid (KX.out.up hb5)
      have JY := Lib.hid (KY.out.up hb5)
      have htn : t2n ≤ tn + a.n := by
        have e1 := JT.out.len
        have e2 := KT.out.len
        rw [Option.getD_some] at e1
        show t2n ≤ tn + a.n
        have : (Pm.pt a).ths.length = a.ths.length := rfl
        omega
      clear hft hown5 hb5 KT KF KX KY hszd htlen
      have c0 := HCC.out 0 _ (by omega) rfl
      have c1 := HCC.out 1 _ (by omega) rfl
      have c2 := HCC.out 2 _ (by omega) rfl
      have c3 := HCC.out 3 _ (by omega) rfl
      rw [Nat.add_zero] at c0
      have d0 := HDD.out 0 _ (by omega) rfl
      have d1 := HDD.out 1 _ (by omega) rfl
      have d2 := HDD.out 2 _ (by omega) rfl
      have d3 := HDD.out 3 _ (by omega) rfl
      rw [Nat.add_zero] at d0
      go_upto_region 14 with (fail)
      obtain ⟨C, hCi⟩ : ∃ C : World → Prop, ∀ w', C w' ↔ Below S w3 w' := ⟨_, fun _ => Iff.rfl⟩
      have hbd : Below w5.heap.size w5 w5.drew := ⟨rfl, rfl, rfl, Nat.le_refl _, fun _ _ => rfl⟩
      have KB := Lib.hid (MB.out.trans (hbd.mono hsz5))
      have hC : C w5.drew := (hCi _).2 KB.out
      have k0 : ∀ p : WC C, p.w.cell? ⟨b, o + k * 4, none⟩ = _ := fun p => (((hCi _).1 p.h).cell (p := ⟨b, o + k * 4, none⟩) hB).trans c0
      have k1 : ∀ p : WC C, p.w.cell? ⟨b, o + k * 4 + 1, none⟩ = _ := fun p => (((hCi _).1 p.h).cell (p := ⟨b, o + k * 4 + 1, none⟩) hB).trans c1
      have k2 : ∀ p : WC C, p.w.cell? ⟨b, o + k * 4 + 2, none⟩ = _ := fun p => (((hCi _).1 p.h).cell (p := ⟨b, o + k * 4 + 2, none⟩) hB).trans c2
      have k3 : ∀ p : WC C, p.w.cell? ⟨b, o + k * 4 + 3, none⟩ = _ := fun p => (((hCi _).1 p.h).cell (p := ⟨b, o + k * 4 + 3, none⟩) hB).trans c3
      have k4 : ∀ p : WC C, p.w.cell? ⟨b', o' + k * 4, none⟩ = _ := fun p => (((hCi _).1 p.h).cell (p := ⟨b', o' + k * 4, none⟩) hB').trans d0
      have k5 : ∀ p : WC C, p.w.cell? ⟨b', o' + k * 4 + 1, none⟩ = _ := fun p => (((hCi _).1 p.h).cell (p := ⟨b', o' + k * 4 + 1, none⟩) hB').trans d1
      have k6 : ∀ p : WC C, p.w.cell? ⟨b', o' + k * 4 + 2, none⟩ = _ := fun p => (((hCi _).1 p.h).cell (p := ⟨b', o' + k * 4 + 2, none⟩) hB').trans d2
      have k7 : ∀ p : WC C, p.w.cell? ⟨b', o' + k * 4 + 3, none⟩ = _ := fun p => (((hCi _).1 p.h).cell (p := ⟨b', o' + k * 4 + 3, none⟩) hB').trans d3
      have kn : Nonempty (WC C) := ⟨⟨_, hC⟩⟩
      refine wp_region_frontN C [0, 1, 2, 3, 4, 5, 6, 7, 8] 6 (fun j => decide (j < 15)) (by kernel_rfl) (fun _ _ d _ _ h => by cases d <;> exact h) (by kernel_rfl) hC ?_
      simp only [List.map_cons, List.map_nil, List.getD_cons_zero, List.getD_cons_succ]
      repeat (go_big_quiet_step (fail))
      refine wpQuiet_nil ?_
      have HCi := Lib.hid hCi
      have KT := Lib.hid (JT.out.up hbd)
      have KF := Lib.hid (JF.out.up hbd)
      have KX := Lib.hid (JX.out.up hbd)
      have KY := Lib.hid (JY.out.up hbd)
      have hszd : S ≤ w5.drew.heap.size := hsz5
      clear k0 k1 k2 k3 k4 k5 k6 k7 hC hCi hbd JT JF JX JY MB c0 c1 c2 c3 d0 d1 d2 d3
      generalize w5.drew = wd at *
      have kf := fitted_ref fA fn fc fr d a wd KF.out.1 KF.out.2 (by omega) KY.out KX.out (by omega)
      simp only [Pm.cells] at kf
      refine wpN_one (i := 9) (by kernel_rfl) rfl ?_
      go_wp2_with fail
      refine kf.mono ?_
      rintro e w6 ⟨f2A, f2n, f2c, rfl, hown5, hb5⟩
      have NB := Lib.hid (KB.out.trans (hb5.mono hszd))
      have hsz6 := Nat.le_trans hszd hb5.size
      go_wp2
      refine tailN_normal ((HCi.out _).2 NB.out) ?_
      refine wpN_one (i := 10) (by kernel_rfl) rfl ?_
      go_wp2
      refine tailN_normal ((HCi.out _).2 NB.out) ?_
      refine wpN_frontW C [11, 12, 13, 14] 0 _ (fun _ _ d _ _ h => by cases d <;> exact h) (by kernel_rfl) ((HCi.out _).2 NB.out) ?_
      simp only [List.map_cons, List.map_nil, List.getD_cons_zero, List.getD_cons_succ]
      repeat (go_big_quiet_step (fail))
      refine wpQuiet_nil ?_
      refine wpN_none (by kernel_rfl) ?_
      clear kn HCi C KB kf
      cases hff : fitP fr d.pt a.pt with
      | none =>
        rw [hff] at H2 hown5
        have hz : v = false := H2.out
        subst hz
        clear hff H2 hown5 hb5
        go_wp2
        go_ret
        exact ⟨by rfl, by rw [HRR.out]; exact HB3.out.trans (NB.out.mono hs3)⟩
      | some f =>
      rw [hff] at H2 hown5
      dsimp only at H2
      have hflen := fitP_len hff
      have LF := Lib.hid (WyOk.of hown5)
      have LT := Lib.hid (KT.out.up hb5)
      have hfn : f2n ≤ fn + d.n := by
        have e1 := LF.out.len
        have e2 := KF.out.len
        rw [Option.getD_some] at e1
        have : (Pm.pt d).ths.length = d.ths.length := rfl
        omega
      clear hff hown5 hb5 KT KF KX KY hszd hflen
      rw [Option.getD_some] at LF LT
      have TN : Hid (t2n + thsN (lX.drop (k + 1)) ≤ 1000000) := Lib.hid (by omega)
      have FN : Hid (f2n + thsN (lY.drop (k + 1)) ≤ 1000000) := Lib.hid (by omega)
      clear htb hfb htn hfn ha1 hd1 HXD HYD HCC HDD
      go_wp2
      go_roundg (n1 - (k + 1))
      case measure => have := HG.out; omega
      case rel => exact ⟨k + 1, t2A, f2A, t2n, t2c, f2n, f2c, t, f, by go_num, rfl, rfl, by omega, Lib.hid rfl, NB, LT, LF, TN, FN, H2⟩
    · obtain rfl : k = n1 := by omega
      have H2 : Hid (v = tw.all namedB) := Lib.hid (by rw [HV.out, bothW_end tw fr lX lY k (by have := HlX.out; omega)])
      have hszr : S ≤ wr.heap.size := by have := HB.out.size; rw [HS3.out] at this; exact this
      have HTL : Hid (tw.length = tn) := Lib.hid HT.out.len
      have htnb := HT.out.1.2.1
      have HV1 : Hid ((tw.drop 0).all namedB = v) := Lib.hid (by rw [H2.out]; rfl)
      clear HV HF HTN HFN H2
      go_upto_region 18 with (fail)
      generalize hU : wr.heap.size = U at *
      have HU := Lib.hid hU
      clear hU
      have HRT : Hid (Rd wr U 8 tA tn (prcells tw)) := Lib.hid (HU.out ▸ HT.out.1)
      clear HT
      generalize hwo : wr = wo at *
      clear hwo
      go_loopg [11] tn (fun gj u11 w9 => ∃ j : Nat, u11 = .int .i64 j ∧ j ≤ tn ∧ Hid (gj = tn - j) ∧ Hid (Below U wo w9) ∧ Hid ((tw.drop j).all namedB = v))
      case atStart => exact ⟨0, rfl, Nat.zero_le _, Lib.hid (by omega), Lib.hid (HU.out ▸ Below.refl _ _), HV1⟩
      case round =>
        clear HV1
        obtain ⟨j, rfl, hj, HGJ, HBJ, HVJ⟩ := hrel
        have HFIN : Hid (Below R w wr) := Lib.hid (HB3.out.trans ((HB.out.trans (HBJ.out.mono hszr)).mono hs3))
        by_cases hlj : j < tn
        · obtain ⟨b, o, hj1, rfl, hB, hcc⟩ := (HRT.out.below HBJ.out).at prc 8 (fun _ => rfl) (by omega) j hlj
          have H3 : Hid (v = (namedB tw[j] && (tw.drop (j + 1)).all namedB)) := Lib.hid (by rw [← HVJ.out, List.drop_eq_getElem_cons hj1]; rfl)
          have c3 := hcc 3 _ (by omega) rfl
          have c4 := hcc 4 _ (by omega) rfl
          have c7 := hcc 7 _ (by omega) rfl
          clear hcc HVJ
          generalize tw[j] = p at *
          obtain ⟨⟨ak, ai, at_, ao⟩, ⟨dk, di, dt, do_⟩⟩ := p
          dsimp only at c3 c4 c7
          have HNB : Hid (namedB ((⟨ak, ai, at_, ao⟩ : Th), (⟨dk, di, dt, do_⟩ : Th)) = (decide (dk = 4) && (decide (0 < ao) == decide (0 < do_)))) := Lib.hid rfl
          generalize namedB ((⟨ak, ai, at_, ao⟩ : Th), (⟨dk, di, dt, do_⟩ : Th)) = q at *
          go_upto_region 20 with (fail)
          by_cases k4 : dk = 4
          · subst k4
            by_cases p1 : 0 < ao
            · have e1 : decide ((0 : Int) < (ao : Int)) = true := decide_eq_true (by omega)
              by_cases p2 : 0 < do_
              · have e2 : decide ((0 : Int) < (do_ : Int)) = true := decide_eq_true (by omega)
                have hq : q = true := by rw [HNB.out, decide_eq_true p1, decide_eq_true p2]; rfl
                subst hq
                go_quiet (fail)
                have HN : Hid ((tw.drop (j + 1)).all namedB = v) := Lib.hid (by rw [H3.out, Bool.true_and])
                have HBN := Lib.hid (show Below U wo (wr.drewN nq) from ⟨HBJ.out.os, HBJ.out.tape, HBJ.out.output, HBJ.out.size, HBJ.out.block⟩)
                clear H3 HNB HBJ HFIN c3 c4 c7
                go_wp2
                go_roundg (tn - (j + 1))
                case measure => have := HGJ.out; omega
                case rel => exact ⟨j + 1, by go_num, by omega, Lib.hid rfl, HBN, HN⟩
              · have e2 : decide ((0 : Int) < (do_ : Int)) = false := decide_eq_false (by omega)
                have hq : q = false := by rw [HNB.out, decide_eq_true p1, decide_eq_false p2]; rfl
                subst hq
                go_quiet (fail)
                have hz : v = false := by rw [H3.out]; rfl
                subst hz
                go_wp2
                go_ret
                exact ⟨by rfl, by rw [HRR.out]; exact ⟨HFIN.out.os, HFIN.out.tape, HFIN.out.output, HFIN.out.size, HFIN.out.block⟩⟩
            · have e1 : decide ((0 : Int) < (ao : Int)) = false := decide_eq_false (by omega)
              by_cases p2 : 0 < do_
              · have e2 : decide ((0 : Int) < (do_ : Int)) = true := decide_eq_true (by omega)
                have hq : q = false := by rw [HNB.out, decide_eq_false p1, decide_eq_true p2]; rfl
                subst hq
                go_quiet (fail)
                have hz : v = false := by rw [H3.out]; rfl
                subst hz
                go_wp2
                go_ret
                exact ⟨by rfl, by rw [HRR.out]; exact ⟨HFIN.out.os, HFIN.out.tape, HFIN.out.output, HFIN.out.size, HFIN.out.block⟩⟩
              · have e2 : decide ((0 : Int) < (do_ : Int)) = false := decide_eq_false (by omega)
                have hq : q = true := by rw [HNB.out, decide_eq_false p1, decide_eq_false p2]; rfl
                subst hq
                go_quiet (fail)
                have HN : Hid ((tw.drop (j + 1)).all namedB = v) := Lib.hid (by rw [H3.out, Bool.true_and])
                have HBN := Lib.hid (show Below U wo (wr.drewN nq) from ⟨HBJ.out.os, HBJ.out.tape, HBJ.out.output, HBJ.out.size, HBJ.out.block⟩)
                clear H3 HNB HBJ HFIN c3 c4 c7
                go_wp2
                go_roundg (tn - (j + 1))
                case measure => have := HGJ.out; omega
                case rel => exact ⟨j + 1, by go_num, by omega, Lib.hid rfl, HBN, HN⟩
          · have t1 : (dk == 4) = false := by simpa using k4
            have t2 : (dk != 4) = true := by simpa using k4
            have hq : q = false := by rw [HNB.out, decide_eq_false k4]; rfl
            subst hq
            clear k4
            go_quiet (fail)
            have hz : v = false := by rw [H3.out]; rfl
            subst hz
            go_wp2
            go_ret
            exact ⟨by rfl, by rw [HRR.out]; exact ⟨HFIN.out.os, HFIN.out.tape, HFIN.out.output, HFIN.out.size, HFIN.out.block⟩⟩
        · have hz : v = true := by rw [← HVJ.out, List.drop_eq_nil_of_le (by have := HTL.out; omega)]; rfl
          subst hz
          go_wp2
          go_ret
          exact ⟨by rfl, by rw [HRR.out]; exact HFIN.out⟩
end Go.Proofs.YtjcgkplphiedjaaGreat
