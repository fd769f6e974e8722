/- The document's alike and joined. | The document's joined. | The document's Again. -/
import Derived.Test.YtjcgkplphiedjaaGh
import Derived.Test.YtjcgkplphiedjaaGa
namespace Go.Proofs.Ytjcgkplphiedjaa
open Go.RowKit Go.Sort

def likeW (v w : Wy) : Bool := v.all fun p => decide (stands w p.1 = some p.2)
theorem likeW_drop (v w : Wy) (k : Nat) (h : k < v.length) : likeW (v.drop k) w = (decide (stands w v[k].1 = some v[k].2) && likeW (v.drop (k + 1)) w) := by
  rw [List.drop_eq_getElem_cons h]; rfl
theorem likeW_end (v w : Wy) (k : Nat) (h : v.length ≤ k) : likeW (v.drop k) w = true := by
  rw [List.drop_eq_nil_of_le h]; rfl

set_option maxRecDepth 200000 in
set_option maxHeartbeats 8000000 in
theorem alike_ref (A : Option Addr) (n c : Nat) (v : Wy) (A2 : Option Addr) (n2 c2 : Nat) (w2 : Wy) (w : World) (hr : Rd w w.heap.size 8 A n (prcells v)) (hr2 : Rd w w.heap.size 8 A2 n2 (prcells w2)) :
    Calls Try.prog 84 #[.slice A n c, .slice A2 n2 c2] w fun e w' => e = .returned (.bool (alikeW v w2)) ∧ Below w.heap.size w w' := by
  have hl : v.length = n := by have := hr.1; rw [prcells_length] at this; omega
  have hl2 : w2.length = n2 := by have := hr2.1; rw [prcells_length] at this; omega
  have hnb := hr.2.1
  have hnb2 := hr2.2.1
  have HV : Hid (alikeW v w2 = (decide (n = n2) && likeW v w2)) := Lib.hid (by rw [← hl, ← hl2]; rfl)
  have HR := Lib.hid hr
  have HR2 := Lib.hid hr2
  have HL := Lib.hid hl
  clear hr hr2 hl hl2
  generalize alikeW v w2 = res at *
  go_enter Try.func84, Try.ntmps84
  by_cases hne : n ≠ n2
  · have hz : res = false := by rw [HV.out, decide_eq_false hne]; rfl
    have t1 : ((n : Int) != (n2 : Int)) = true := by simp only [bne_iff_ne, ne_eq]; omega
    have t2 : ((n : Int) == (n2 : Int)) = false := by simp only [beq_eq_false_iff_ne, ne_eq]; omega
    subst hz
    go_wp2
    go_ret
    exact ⟨by rfl, Below.refl _ _⟩
  obtain rfl : n = n2 := Classical.not_not.1 hne
  have HV0 : Hid (likeW (v.drop 0) w2 = res) := Lib.hid (by rw [HV.out, decide_eq_true rfl, Bool.true_and]; rfl)
  clear HV hne
  go_upto_region 4 with (fail)
  generalize hR : w.heap.size = R at *
  have HRR := Lib.hid hR
  clear hR
  go_loopg [5] n (fun gk u5 wr => ∃ k : Nat, u5 = .int .i64 k ∧ k ≤ n ∧ Hid (gk = n - k) ∧ Hid (Below R w wr) ∧ Hid (likeW (v.drop k) w2 = res))
  case atStart => exact ⟨0, rfl, Nat.zero_le _, Lib.hid (by omega), Lib.hid (Below.refl _ _), HV0⟩
  case round =>
    clear HV0
    obtain ⟨k, rfl, hk, HG, HB, HV⟩ := hrel
    by_cases hlt : k < n
    · obtain ⟨b, o, hk1, rfl, hB, hcc⟩ := (HR.out.below HB.out).at prc 8 (fun _ => rfl) (by omega) k hlt
      have HS : Hid (res = (decide (stands w2 v[k].1 = some v[k].2) && likeW (v.drop (k + 1)) w2)) := Lib.hid (by rw [← HV.out]; exact likeW_drop v w2 k hk1)
      have c0 := hcc 0 _ (by omega) rfl
      have c1 := hcc 1 _ (by omega) rfl
      have c2' := hcc 2 _ (by omega) rfl
      have c3 := hcc 3 _ (by omega) rfl
      have HC4 := Lib.hid (hcc 4 _ (by omega) rfl)
      have HC5 := Lib.hid (hcc 5 _ (by omega) rfl)
      have HC6 := Lib.hid (hcc 6 _ (by omega) rfl)
      have HC7 := Lib.hid (hcc 7 _ (by omega) rfl)
      rw [Nat.add_zero] at c0
      clear hcc HV
      have hsz := HB.out.size
      rw [HRR.out] at hsz
      have ks := stands_ref A2 n c2 w2 v[k].1 wr (HR2.out.up (HRR.out ▸ HB.out) hsz)
      generalize v[k] = x at *
      obtain ⟨⟨xk, xi, xt, xo⟩, ⟨yk, yi, yt, yo⟩⟩ := x
      dsimp only at c0 c1 c2' c3 HC4 HC5 HC6 HC7 HS ks
      generalize stands w2 ⟨xk, xi, xt, xo⟩ = z at *
      cases z with
      | none =>
        have hz : res = false := by rw [HS.out]; rfl
        subst hz
        simp only [Th.cells, Option.getD_none, Option.isSome_none, zeroTh] at ks
        clear HS
        go_wp2_with fail
        refine ks.mono ?_
        rintro e w3 ⟨rfl, hb3⟩
        have KB := Lib.hid (HB.out.trans (hb3.mono hsz))
        have hs3 := hb3.size
        clear ks hb3 HB c0 c1 c2' c3 HC4 HC5 HC6 HC7
        go_upto_region 7 with (fail)
        have MB := Lib.hid (KB.out.alloc (by omega) (.cells #[.int .i64 0, .int .i64 0, .string ⟨#[]⟩, .int .i64 0] 130))
        clear KB
        generalize World.alloc _ _ = w4 at *
        refine wp_region_quiet_below (by kernel_rfl) (by kernel_rfl) ?_
        repeat (go_big_quiet_step (fail))
        refine wpQuiet_nil ?_
        intro w6 hw6
        obtain ⟨⟨dq, osq⟩, rfl⟩ := hw6
        have HB6 := Lib.hid (MB.out.trans ((below_regrown w4 dq osq).mono (by have := MB.out.size; rw [HRR.out] at this; exact this)))
        go_wp2
        go_ret
        exact ⟨by rfl, by rw [HRR.out]; exact HB6.out⟩
      | some z =>
        obtain ⟨zk, zi, zt, zo⟩ := z
        simp only [Th.cells, Option.getD_some, Option.isSome_some] at ks
        go_wp2_with fail
        refine ks.mono ?_
        rintro e w3 ⟨rfl, hb3⟩
        have hs3 := hb3.size
        have KB := Lib.hid (HB.out.trans (hb3.mono hsz))
        have c4 := (hb3.cell (p := ⟨b, o + k * 8 + 4, none⟩) (by show b < wr.heap.size; omega)).trans HC4.out
        have c5 := (hb3.cell (p := ⟨b, o + k * 8 + 5, none⟩) (by show b < wr.heap.size; omega)).trans HC5.out
        have c6 := (hb3.cell (p := ⟨b, o + k * 8 + 6, none⟩) (by show b < wr.heap.size; omega)).trans HC6.out
        have c7 := (hb3.cell (p := ⟨b, o + k * 8 + 7, none⟩) (by show b < wr.heap.size; omega)).trans HC7.out
        clear ks hb3 HB c0 c1 c2' c3 HC4 HC5 HC6 HC7
        go_upto_region 7 with (fail)
        have hba := (Below.refl w3.heap.size w3).alloc (Nat.le_refl _) (.cells #[.int .i64 zk, .int .i64 zi, .string zt, .int .i64 (zo : Int)] 130)
        have MB := Lib.hid (KB.out.trans (hba.mono (by omega)))
        have h4 := Blk.new w3 130 [.int .i64 zk, .int .i64 zi, .string zt, .int .i64 (zo : Int)]
        have c4 := cell_regrown ((hba.cell (p := ⟨b, o + k * 8 + 4, none⟩) (by show b < w3.heap.size; omega)).trans c4)
        have c5 := cell_regrown ((hba.cell (p := ⟨b, o + k * 8 + 5, none⟩) (by show b < w3.heap.size; omega)).trans c5)
        have c6 := cell_regrown ((hba.cell (p := ⟨b, o + k * 8 + 6, none⟩) (by show b < w3.heap.size; omega)).trans c6)
        have c7 := cell_regrown ((hba.cell (p := ⟨b, o + k * 8 + 7, none⟩) (by show b < w3.heap.size; omega)).trans c7)
        clear hba KB
        generalize World.alloc _ _ = w4 at *
        have g0 := cell_regrown ((h4.cell 0).trans rfl)
        have g1 := cell_regrown ((h4.cell 1).trans rfl)
        have g2 := cell_regrown ((h4.cell 2).trans rfl)
        have g3 := cell_regrown ((h4.cell 3).trans rfl)
        have kq := fun W => same_ref ⟨zk, zi, zt, zo⟩ ⟨yk, yi, yt, yo⟩ W
        have HS2 : Hid (res = (decide ((⟨zk, zi, zt, zo⟩ : Th) = ⟨yk, yi, yt, yo⟩) && likeW (v.drop (k + 1)) w2)) := Lib.hid (by rw [HS.out]; congr 2; simp)
        clear HS h4
        simp only [Th.cells] at kq
        generalize decide ((⟨zk, zi, zt, zo⟩ : Th) = ⟨yk, yi, yt, yo⟩) = q at *
        have cS : ∀ d os, Calls Try.prog 81 #[.agg #[.int .i64 zk, .int .i64 zi, .string zt, .int .i64 (zo : Int)], .agg #[.int .i64 yk, .int .i64 yi, .string yt, .int .i64 (yo : Int)]] (grow (redrawn w4 d) os) fun e w'' => e = .returned (.bool q) ∧ ∃ p : Regrown, w'' = grow (redrawn w4 p.d) p.os :=
          fun d os => Calls.regrown_of (kq _)
        clear kq
        cases q with
        | true =>
          refine wp_region_quiet_below (by kernel_rfl) (by kernel_rfl) ?_
          repeat (go_big_quiet_step (exact cS _ _))
          refine wpQuiet_nil ?_
          intro w6 hw6
          obtain ⟨⟨dq, osq⟩, rfl⟩ := hw6
          have HB6 := Lib.hid (MB.out.trans ((below_regrown w4 dq osq).mono (by have := MB.out.size; rw [HRR.out] at this; exact this)))
          have HN : Hid (likeW (v.drop (k + 1)) w2 = res) := Lib.hid (by rw [HS2.out, Bool.true_and])
          clear c4 c5 c6 c7 g0 g1 g2 g3 cS MB HS2
          generalize hW : grow _ _ = w7 at *
          clear hW
          go_wp2
          go_roundg (n - (k + 1))
          case measure => have := HG.out; omega
          case rel => exact ⟨k + 1, by go_num, by omega, Lib.hid rfl, HB6, HN⟩
        | false =>
          have hz : res = false := by rw [HS2.out]; rfl
          subst hz
          refine wp_region_quiet_below (by kernel_rfl) (by kernel_rfl) ?_
          repeat (go_big_quiet_step (exact cS _ _))
          refine wpQuiet_nil ?_
          intro w6 hw6
          obtain ⟨⟨dq, osq⟩, rfl⟩ := hw6
          have HB6 := Lib.hid (MB.out.trans ((below_regrown w4 dq osq).mono (by have := MB.out.size; rw [HRR.out] at this; exact this)))
          clear c4 c5 c6 c7 g0 g1 g2 g3 cS MB HS2
          go_wp2
          go_ret
          exact ⟨by rfl, by rw [HRR.out]; exact HB6.out⟩
    · have hz : res = true := by rw [← HV.out]; exact likeW_end v w2 k (by have := HL.out; omega)
      subst hz
      go_wp2
      go_ret
      exact ⟨by rfl, by rw [HRR.out]; exact HB.out⟩
end Go.Proofs.Ytjcgkplphiedjaa

namespace Go.Proofs.Ytjcgkplphiedjaa
open Go.RowKit Go.Sort

/-- A way, and where it lies. -/
structure Wm where
  A : Option Addr
  n : Nat
  c : Nat
  ws : Wy
def Wm.cells (x : Wm) : List Value := [.slice x.A x.n x.c]
def wmcells (l : List Wm) : List Value := l.flatMap Wm.cells
theorem wmcells_length (l : List Wm) : (wmcells l).length = l.length * 1 := flat_length Wm.cells 1 (fun _ => rfl) l
theorem wmcells_append (a b : List Wm) : wmcells (a ++ b) = wmcells a ++ wmcells b := by simp [wmcells]
theorem Wm.one (x : Wm) : ∀ u ∈ x.cells, u.oneCell' = true := by
  intro u hu
  simp only [Wm.cells, List.mem_cons, List.not_mem_nil, or_false] at hu
  subst hu; rfl
def Wm.ok (w : World) (x : Wm) : Prop := Rd w w.heap.size 8 x.A x.n (prcells x.ws)
theorem Wm.ok.up {w w' : World} {x : Wm} (h : Wm.ok w x) (hb : Below w.heap.size w w') : Wm.ok w' x := Rd.up h hb hb.size

def anyW (l : List Wm) (w : Wy) : Bool := l.any fun y => alikeW y.ws w
theorem anyW_drop (l : List Wm) (w : Wy) (k : Nat) (h : k < l.length) : anyW (l.drop k) w = (alikeW l[k].ws w || anyW (l.drop (k + 1)) w) := by
  rw [List.drop_eq_getElem_cons h]; rfl
theorem anyW_end (l : List Wm) (w : Wy) (k : Nat) (h : l.length ≤ k) : anyW (l.drop k) w = false := by
  rw [List.drop_eq_nil_of_le h]; rfl
theorem joined_map (l : List Wm) (x : Wm) : (if anyW l x.ws = true then l else l ++ [x]).map Wm.ws = joinedW (l.map Wm.ws) x.ws := by
  unfold anyW joinedW
  rw [List.any_map]
  show _ = if (l.any fun y => alikeW y.ws x.ws) = true then _ else _
  split <;> simp

theorem Try.info85 : (Try.prog.info? 85).map (fun i => (i.zero, i.size, i.bytes)) = some (some (.slice none 0 0), 1, 24) := by kernel_rfl

theorem below_grown {w w' : World} (h : Below w.heap.size w w') (row : Option Nat) : w.grownBy w' row := ⟨h.os, h.tape, h.output, h.size, fun k hk _ => h.block k hk⟩
theorem grown_trans {a b c : World} {row : Option Nat} (h : a.grownBy b row) (k : b.grownBy c row) : a.grownBy c row :=
  ⟨k.os.trans h.os, k.tape.trans h.tape, k.output.trans h.output, Nat.le_trans h.size k.size, fun i hi hr => (k.block i (Nat.lt_of_lt_of_le hi h.size) hr).trans (h.block i hi hr)⟩

set_option maxRecDepth 20000 in
set_option maxHeartbeats 4000000 in
theorem joined_ref (B : Nat) (A : Option Addr) (n c : Nat) (l : List Wm) (x : Wm) (w : World) (ho : w.ownsRow B 85 1 (.slice A n c) n (wmcells l)) (hBs : B ≤ w.heap.size) (hn : n ≤ 5000000000000) (hok : ∀ y ∈ l, Wm.ok w y) (hx : Wm.ok w x) :
    Calls Try.prog 52 #[.slice A n c, .slice x.A x.n x.c] w fun e w' => ∃ A' n' c', e = .returned (.slice A' n' c') ∧ n' ≤ n + 1 ∧
      w'.ownsRow B 85 1 (.slice A' n' c') n' (wmcells (if anyW l x.ws = true then l else l ++ [x])) ∧ w.grownBy w' (Value.slice A n c).ownBlock := by
  obtain ⟨i0, hi, hz0, hz1, hz2⟩ := info_parts Try.info85
  have hr := own_rd ho
  have hl : l.length = n := by have := hr.1; rw [wmcells_length] at this; omega
  have HV : Hid (anyW (l.drop 0) x.ws = anyW l x.ws) := Lib.hid rfl
  have HR := Lib.hid hr
  have HL := Lib.hid hl
  have HK := Lib.hid hok
  have HX := Lib.hid hx
  have HO := Lib.hid ho
  clear hr hl hok hx ho
  generalize anyW l x.ws = q at *
  obtain ⟨xA, xn, xc, xw⟩ := x
  unfold Wm.ok at HX
  dsimp only at HV HX
  go_enter Try.func52, Try.ntmps52
  go_upto_region 2 with (fail)
  generalize hR : w.heap.size = R at *
  have HRR := Lib.hid hR
  clear hR
  go_loopg [5] n (fun gk u5 wr => ∃ k : Nat, u5 = .int .i64 k ∧ k ≤ n ∧ Hid (gk = n - k) ∧ Hid (Below R w wr) ∧ Hid (anyW (l.drop k) xw = q))
  case atStart => exact ⟨0, rfl, Nat.zero_le _, Lib.hid (by omega), Lib.hid (Below.refl _ _), HV⟩
  case round =>
    clear HV
    obtain ⟨k, rfl, hk, HG, HB, HV⟩ := hrel
    have HWO : Hid (wr.ownsRow B 85 1 (.slice A n c) n (wmcells l)) := Lib.hid (own_below HO.out (HRR.out ▸ HB.out))
    have hsz := HB.out.size
    rw [HRR.out] at hsz
    by_cases hlt : k < n
    · obtain ⟨b, o, hk1, hAe, hB, hcc⟩ := (HR.out.below HB.out).at Wm.cells 1 (fun _ => rfl) (by omega) k hlt
      have c0 := hcc 0 _ (by omega) rfl
      have HS : Hid (q = (alikeW l[k].ws xw || anyW (l.drop (k + 1)) xw)) := Lib.hid (by rw [← HV.out]; exact anyW_drop l xw k hk1)
      have hyk := HK.out l[k] (List.getElem_mem hk1)
      generalize l[k] = y at *
      obtain ⟨yA, yn, yc, yw⟩ := y
      unfold Wm.ok at hyk
      dsimp only at c0 HS hyk
      rw [Nat.add_zero, Nat.mul_one] at c0
      clear hcc HV
      have ka := alike_ref yA yn yc yw xA xn xc xw wr (hyk.up (HRR.out ▸ HB.out) (by have := HRR.out; omega)) ((HRR.out ▸ HX.out : Rd w R 8 xA xn (prcells xw)).up HB.out hsz)
      clear hyk
      have HAE := Lib.hid hAe
      subst hAe
      generalize alikeW yw xw = t at *
      go_wp2_with fail
      refine ka.mono ?_
      rintro e w2 ⟨rfl, hb2⟩
      have KB := Lib.hid (HB.out.trans (hb2.mono hsz))
      have KO := Lib.hid (own_below HWO.out hb2)
      clear ka hb2 HB HWO c0
      cases t with
      | true =>
        have hz : q = true := by rw [HS.out]; rfl
        subst hz
        go_wp2
        go_ret
        refine ⟨_, n, c, rfl, by omega, ?_, below_grown (HRR.out ▸ KB.out) _⟩
        exact KO.out
      | false =>
        have HN : Hid (anyW (l.drop (k + 1)) xw = q) := Lib.hid (by rw [HS.out, Bool.false_or])
        clear HS KO
        go_wp2
        go_roundg (n - (k + 1))
        case measure => have := HG.out; omega
        case rel => exact ⟨k + 1, by go_num, by omega, Lib.hid rfl, KB, HN⟩
    · have hz : q = false := by rw [← HV.out]; exact anyW_end l xw k (by have := HL.out; omega)
      subst hz
      have hownb := HWO.out
      go_wp2_with (at_builtin; go_must (refine wpList_append_own _ rfl _ _ 92 rfl B 85 i0 _ 1 24 Try.underlying92 hi hz0 hz1 hz2 rfl (by decide) _ _ _ rfl (hownb.alloc _) ⟨wr.heap.size, 0, none⟩ 1 1 (Wm.cells ⟨xA, xn, xc, xw⟩) rfl rfl (fun j u h => new_cells _ _ _ j u h) (Wm.one _) (by unfold maxLen; omega) (by omega) (by simp; omega) ?_))
      intro v7 w7 hown7 hg7 _
      obtain ⟨A7, d7, rfl, hn7⟩ := own_slice hown7
      have HG7 : Hid (w.grownBy w7 (Value.slice A n c).ownBlock) := Lib.hid (grown_trans (grown_trans (below_grown (HRR.out ▸ HB.out) _) (World.grownBy_alloc wr (.cells (Wm.cells ⟨xA, xn, xc, xw⟩).toArray 85) _)) hg7)
      have V7 : w7.ownsRow B 85 1 (.slice A7 (n + 1) d7) (n + 1) (wmcells (l ++ [⟨xA, xn, xc, xw⟩])) := by
        rw [wmcells_append]; simpa [wmcells] using hown7
      have HV7 := Lib.hid V7
      clear V7 hown7 hg7 hownb
      go_wp2
      go_ret
      refine ⟨A7, n + 1, d7, rfl, by omega, ?_, HG7.out⟩
      exact HV7.out
end Go.Proofs.Ytjcgkplphiedjaa

namespace Go.Proofs.Ytjcgkplphiedjaa
open Go.RowKit Go.Sort

def thsN (l : List Pm) : Nat := (l.flatMap Pm.ths).length
theorem thsN_drop (l : List Pm) (k : Nat) (h : k < l.length) : thsN (l.drop k) = l[k].ths.length + thsN (l.drop (k + 1)) := by
  unfold thsN
  rw [List.drop_eq_getElem_cons h, List.flatMap_cons, List.length_append]
theorem thsN_flat (l : List Pm) : thsN l = ((l.map Pm.pt).flatMap Pt.ths).length := by
  unfold thsN
  rw [List.flatMap_map]; rfl
theorem bothW_drop (tw fr : Wy) (X Y : List Pm) (k : Nat) (h : k < X.length) (h' : k < Y.length) : bothW tw fr ((X.drop k).map Pm.pt) ((Y.drop k).map Pm.pt) =
    match fitP tw X[k].pt Y[k].pt with
    | none => none
    | some t => match fitP fr Y[k].pt X[k].pt with
      | none => none
      | some f => bothW t f ((X.drop (k + 1)).map Pm.pt) ((Y.drop (k + 1)).map Pm.pt) := by
  rw [List.drop_eq_getElem_cons h, List.drop_eq_getElem_cons h', List.map_cons, List.map_cons, bothW]
  rfl
theorem bothW_end (tw fr : Wy) (X Y : List Pm) (k : Nat) (h : X.length ≤ k) : bothW tw fr ((X.drop k).map Pm.pt) ((Y.drop k).map Pm.pt) = some (tw, fr) := by
  rw [List.drop_eq_nil_of_le h, List.map_nil, bothW]
  intros; simp_all
theorem fitP_len {w w' : Wy} {a b : Pt} (h : fitP w a b = some w') : w'.length ≤ w.length + a.ths.length := by
  unfold fitP at h
  split at h
  · exact fitT_len _ _ _ _ h
  · cases h

/-- A way in memory that fitted may copy. -/
def WyOk (w : World) (A : Option Addr) (n c : Nat) (wy : Wy) : Prop := Rd w w.heap.size 8 A n (prcells wy) ∧ (A = none → c = 0)
theorem WyOk.up {w w' : World} {A : Option Addr} {n c : Nat} {wy : Wy} (h : WyOk w A n c wy) (hb : Below w.heap.size w w') : WyOk w' A n c wy := ⟨h.1.up hb hb.size, h.2⟩
theorem WyOk.len {w : World} {A : Option Addr} {n c : Nat} {wy : Wy} (h : WyOk w A n c wy) : wy.length = n := by have := h.1.1; rw [prcells_length] at this; omega
theorem WyOk.of {w : World} {B : Nat} {A : Option Addr} {n c : Nat} {wy : Wy} (h : w.ownsRow B 135 8 (.slice A n c) n (prcells wy)) : WyOk w A n c wy := ⟨own_rd h, fun hA => by subst hA; exact own_none h⟩
theorem WyOk.nil (w : World) : WyOk w none 0 0 [] := ⟨⟨rfl, by omega, fun h => absurd h (by omega)⟩, fun _ => rfl⟩

end Go.Proofs.Ytjcgkplphiedjaa
