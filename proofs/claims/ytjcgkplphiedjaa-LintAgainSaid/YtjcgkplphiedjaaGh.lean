/- Ways in memory; what a thing stands for in one. | The document's fitted: a way made longer. | The document's asked. | The document's kept, alike, joined. -/
import Derived.Test.YtjcgkplphiedjaaGg
namespace Go.Proofs.Ytjcgkplphiedjaa
open Go.RowKit Go.Sort

def prc (p : Th × Th) : List Value := p.1.cells ++ p.2.cells
def prcells (w : Wy) : List Value := w.flatMap prc
theorem prcells_length (l : Wy) : (prcells l).length = l.length * 8 := flat_length prc 8 (fun _ => rfl) l
theorem prcells_append (a b : Wy) : prcells (a ++ b) = prcells a ++ prcells b := by simp [prcells]
theorem prc_one (p : Th × Th) : ∀ u ∈ prc p, u.oneCell' = true := by
  intro u hu
  rcases List.mem_append.1 hu with hu | hu
  · exact p.1.one u hu
  · exact p.2.one u hu
theorem prs_one (w : Wy) : ∀ u ∈ prcells w, u.oneCell' = true := by
  intro u hu
  obtain ⟨e, _, hu⟩ := List.mem_flatMap.1 hu
  exact prc_one e u hu

theorem stands_drop (w : Wy) (a : Th) (k : Nat) (h : k < w.length) : stands (w.drop k) a = if w[k].1 = a then some w[k].2 else stands (w.drop (k + 1)) a := by
  rw [List.drop_eq_getElem_cons h]
  unfold stands
  rw [List.find?_cons]
  by_cases e : w[k].1 = a
  · rw [decide_eq_true e, if_pos e]; rfl
  · rw [decide_eq_false e, if_neg e]
theorem stands_end (w : Wy) (a : Th) (k : Nat) (h : w.length ≤ k) : stands (w.drop k) a = none := by
  rw [List.drop_eq_nil_of_le h]; rfl

def zeroTh : Th := ⟨0, 0, ⟨#[]⟩, 0⟩

set_option maxRecDepth 200000 in
set_option maxHeartbeats 4000000 in
theorem stands_ref (A : Option Addr) (n c : Nat) (wy : Wy) (a : Th) (w : World) (hr : Rd w w.heap.size 8 A n (prcells wy)) :
    Calls Try.prog 82 #[.slice A n c, .agg a.cells.toArray] w fun e w' => e = .returned (.tuple #[.agg ((stands wy a).getD zeroTh).cells.toArray, .bool (stands wy a).isSome]) ∧ Below w.heap.size w w' := by
  have hl : wy.length = n := by have := hr.1; rw [prcells_length] at this; omega
  have hnb := hr.2.1
  have HR := Lib.hid hr
  have HL := Lib.hid hl
  have HV : Hid (stands (wy.drop 0) a = stands wy a) := Lib.hid rfl
  have HSD : Hid (∀ (k : Nat) (h : k < wy.length), stands (wy.drop k) a = if wy[k].1 = a then some wy[k].2 else stands (wy.drop (k + 1)) a) := Lib.hid (stands_drop wy a)
  have HSE : Hid (∀ (k : Nat), wy.length ≤ k → stands (wy.drop k) a = none) := Lib.hid (stands_end wy a)
  have HSM : Hid (∀ (b : Th) (w : World), Calls Try.prog 81 #[.agg b.cells.toArray, .agg a.cells.toArray] w fun e w' => e = .returned (.bool (decide (b = a))) ∧ Below w.heap.size w w') := Lib.hid (fun b w => same_ref b a w)
  clear hr hl
  generalize stands wy a = sv at *
  obtain ⟨k', i', t', o'⟩ := a
  show Calls Try.prog 82 #[.slice A n c, .agg #[.int .i64 k', .int .i64 i', .string t', .int .i64 (o' : Int)]] w _
  go_enter Try.func82, Try.ntmps82
  go_upto_region 1 with (fail)
  obtain ⟨hb3, h1, h2, hs3⟩ := two_alloc w 130 130 [.int .i64 k', .int .i64 i', .string t', .int .i64 (o' : Int)] [.int .i64 0, .int .i64 0, .string ⟨#[]⟩, .int .i64 0]
  generalize World.alloc (World.alloc _ _) _ = w1 at *
  generalize hR : w.heap.size = R at *
  have HRR := Lib.hid hR
  clear hR
  have HB1 := Lib.hid hb3
  have H1 := Lib.hid h1
  have H2 := Lib.hid h2
  clear h1 h2 hb3 hs3
  go_upto_region 2 with (fail)
  go_loopg [6] n (fun gk u6 wr => ∃ k : Nat, u6 = .int .i64 k ∧ k ≤ n ∧ Hid (gk = n - k) ∧ Hid (Below R w wr) ∧ Hid (Blk wr R 130 [.int .i64 k', .int .i64 i', .string t', .int .i64 (o' : Int)]) ∧ Hid (Blk wr (R + 1) 130 [.int .i64 0, .int .i64 0, .string ⟨#[]⟩, .int .i64 0]) ∧ Hid (stands (wy.drop k) ⟨k', i', t', o'⟩ = sv))
  case atStart => exact ⟨0, rfl, Nat.zero_le _, Lib.hid (by omega), HB1, H1, H2, HV⟩
  case round =>
    clear HB1 H1 H2 HV
    obtain ⟨k, rfl, hk, HG, HB, H1, H2, HV⟩ := hrel
    by_cases hlt : k < n
    · obtain ⟨b, o, hk1, rfl, hB, hcc⟩ := (HR.out.below HB.out).at prc 8 (fun _ => rfl) (by omega) k hlt
      have c0 := hcc 0 _ (by omega) rfl
      have c1 := hcc 1 _ (by omega) rfl
      have c2 := hcc 2 _ (by omega) rfl
      have c3 := hcc 3 _ (by omega) rfl
      have c4 := hcc 4 _ (by omega) rfl
      have c5 := hcc 5 _ (by omega) rfl
      have c6 := hcc 6 _ (by omega) rfl
      have c7 := hcc 7 _ (by omega) rfl
      rw [Nat.add_zero] at c0
      clear hcc
      have HS : Hid (sv = if wy[k].1 = ⟨k', i', t', o'⟩ then some wy[k].2 else stands (wy.drop (k + 1)) ⟨k', i', t', o'⟩) := Lib.hid (by rw [← HV.out]; exact HSD.out k hk1)
      have ks := HSM.out wy[k].1
      generalize hE : wy[k] = x at *
      clear hE HV
      obtain ⟨⟨xk, xi, xt, xo⟩, ⟨yk, yi, yt, yo⟩⟩ := x
      dsimp only at c0 c1 c2 c3 c4 c5 c6 c7 ks HS
      simp only [Th.cells] at ks
      generalize hq : decide ((⟨xk, xi, xt, xo⟩ : Th) = ⟨k', i', t', o'⟩) = q at *
      go_upto_region 4 with (fail)
      have f0 := cell_regrown c0
      have f1 := cell_regrown c1
      have f2 := cell_regrown c2
      have f3 := cell_regrown c3
      have g0 := cell_regrown ((H1.out.cell 0).trans rfl)
      have g1 := cell_regrown ((H1.out.cell 1).trans rfl)
      have g2 := cell_regrown ((H1.out.cell 2).trans rfl)
      have g3 := cell_regrown ((H1.out.cell 3).trans rfl)
      have cS : ∀ d os, Calls Try.prog 81 #[.agg #[.int .i64 xk, .int .i64 xi, .string xt, .int .i64 (xo : Int)], .agg #[.int .i64 k', .int .i64 i', .string t', .int .i64 (o' : Int)]] (grow (redrawn wr d) os) fun e w'' => e = .returned (.bool q) ∧ ∃ p : Regrown, w'' = grow (redrawn wr p.d) p.os :=
        fun d os => Calls.regrown_of (ks _)
      have c4' := cell_regrown c4
      have c5' := cell_regrown c5
      have c6' := cell_regrown c6
      have c7' := cell_regrown c7
      clear ks c0 c1 c2 c3 c4 c5 c6 c7
      refine wp_region_quiet_below (by kernel_rfl) (by kernel_rfl) ?_
      repeat (go_big_quiet_step (exact cS _ _))
      refine wpQuiet_nil ?_
      intro w6 hw6
      obtain ⟨⟨dq, osq⟩, rfl⟩ := hw6
      have HB6 := Lib.hid (HB.out.trans ((below_regrown wr dq osq).mono (HRR.out ▸ HB.out.size)))
      have c4 := c4' dq osq
      have c5 := c5' dq osq
      have c6 := c6' dq osq
      have c7 := c7' dq osq
      have K1 := Lib.hid (H1.out.below (below_regrown wr dq osq) H1.out.lt)
      have K2 := Lib.hid (H2.out.below (below_regrown wr dq osq) H2.out.lt)
      clear f0 f1 f2 f3 g0 g1 g2 g3 cS c4' c5' c6' c7' HB H1 H2
      generalize hW : grow _ _ = w7 at *
      clear hW
      cases q with
      | true =>
        have hz : sv = some ⟨yk, yi, yt, yo⟩ := by rw [HS.out, if_pos (of_decide_eq_true hq)]
        subst hz
        clear HS hq
        have z0 := K2.out.cell 0
        have z1 := K2.out.cell 1
        have z2 := K2.out.cell 2
        have z3 := K2.out.cell 3
        have s0 := K2.out.frozen 0
        have s1 := K2.out.frozen 1
        have s2 := K2.out.frozen 2
        have s3 := K2.out.frozen 3
        have hlp := K2.out.lt
        simp only [List.getElem?_cons_zero, List.getElem?_cons_succ] at z0 z1 z2 z3
        have D1 := K2.out.set_ 0 (.int .i64 yk)
        have D2 := D1.set_ 1 (.int .i64 yi)
        have D3 := D2.set_ 2 (.string yt)
        have D4 := D3.set_ 3 (.int .i64 (yo : Int))
        have HE := Lib.hid ((((HB6.out.setCell (p := ⟨R + 1, 0, none⟩) (by simp) (.int .i64 yk)).setCell (p := ⟨R + 1, 1, none⟩) (by simp) (.int .i64 yi)).setCell (p := ⟨R + 1, 2, none⟩) (by simp) (.string yt)).setCell (p := ⟨R + 1, 3, none⟩) (by simp) (.int .i64 (yo : Int)))
        have p0 := D4.cell 0
        have p1 := D4.cell 1
        have p2 := D4.cell 2
        have p3 := D4.cell 3
        simp at p0 p1 p2 p3
        clear D1 D2 D3 D4 K1 K2 HB6
        go_wp2
        refine bodyPost_ret (v := .tuple #[.agg #[.int .i64 yk, .int .i64 yi, .string yt, .int .i64 (yo : Int)], .bool true]) ?_ rfl ⟨rfl, ?_⟩
        · simp [results, Try.results82, go_sem, p0, p1, p2, p3]
        · rw [HRR.out]; exact HE.out
      | false =>
        have HN : Hid (stands (wy.drop (k + 1)) ⟨k', i', t', o'⟩ = sv) := Lib.hid (by rw [HS.out, if_neg (of_decide_eq_false hq)])
        clear HS hq c4 c5 c6 c7
        go_wp2
        go_roundg (n - (k + 1))
        case measure => have := HG.out; omega
        case rel => exact ⟨k + 1, by go_num, by omega, Lib.hid rfl, HB6, K1, K2, HN⟩
    · have hz : sv = none := by rw [← HV.out]; exact HSE.out k (by have := HL.out; omega)
      subst hz
      have z0 := H2.out.cell 0
      have z1 := H2.out.cell 1
      have z2 := H2.out.cell 2
      have z3 := H2.out.cell 3
      have s0 := H2.out.frozen 0
      have s1 := H2.out.frozen 1
      have s2 := H2.out.frozen 2
      have s3 := H2.out.frozen 3
      have hlp := H2.out.lt
      simp only [List.getElem?_cons_zero, List.getElem?_cons_succ] at z0 z1 z2 z3
      have D1 := H2.out.set_ 0 (.int .i64 0)
      have D2 := D1.set_ 1 (.int .i64 0)
      have D3 := D2.set_ 2 (.string ⟨#[]⟩)
      have D4 := D3.set_ 3 (.int .i64 0)
      have HE := Lib.hid ((((HB.out.setCell (p := ⟨R + 1, 0, none⟩) (by simp) (.int .i64 0)).setCell (p := ⟨R + 1, 1, none⟩) (by simp) (.int .i64 0)).setCell (p := ⟨R + 1, 2, none⟩) (by simp) (.string ⟨#[]⟩)).setCell (p := ⟨R + 1, 3, none⟩) (by simp) (.int .i64 0))
      have p0 := D4.cell 0
      have p1 := D4.cell 1
      have p2 := D4.cell 2
      have p3 := D4.cell 3
      simp at p0 p1 p2 p3
      clear D1 D2 D3 D4 H1 H2 HB HV
      go_wp2
      refine bodyPost_ret (v := .tuple #[.agg #[.int .i64 0, .int .i64 0, .string ⟨#[]⟩, .int .i64 0], .bool false]) ?_ rfl ⟨rfl, ?_⟩
      · simp [results, Try.results82, go_sem, p0, p1, p2, p3]
      · rw [HRR.out]; exact HE.out
end Go.Proofs.Ytjcgkplphiedjaa

namespace Go.Proofs.Ytjcgkplphiedjaa
open Go.RowKit Go.Sort

theorem Try.info135 : (Try.prog.info? 135).map (fun i => (i.zero, i.size, i.bytes)) = some (some (.agg #[.int .i64 0, .int .i64 0, .string ⟨#[]⟩, .int .i64 0, .int .i64 0, .int .i64 0, .string ⟨#[]⟩, .int .i64 0]), 8, 80) := by kernel_rfl

theorem fitT_drop (out : Wy) (xs ys : List Th) (k : Nat) (h : k < xs.length) (h' : k < ys.length) : fitT out (xs.drop k) (ys.drop k) =
    if xs[k].k = 4 then
      (match stands out xs[k] with
      | some z => if z = ys[k] then fitT out (xs.drop (k + 1)) (ys.drop (k + 1)) else none
      | none => fitT (out ++ [(xs[k], ys[k])]) (xs.drop (k + 1)) (ys.drop (k + 1)))
    else if xs[k] = ys[k] then fitT out (xs.drop (k + 1)) (ys.drop (k + 1)) else none := by
  rw [List.drop_eq_getElem_cons h, List.drop_eq_getElem_cons h', fitT]
  by_cases e : xs[k].k = 4
  · rw [if_pos (show xs[k].v = true from decide_eq_true e), if_pos e]
    cases stands out xs[k] <;> rfl
  · rw [if_neg (show ¬ xs[k].v = true by unfold Th.v; simp [e]), if_neg e]
theorem fitT_end (out : Wy) (xs ys : List Th) (k : Nat) (h : xs.length ≤ k) : fitT out (xs.drop k) (ys.drop k) = some out := by
  rw [List.drop_eq_nil_of_le h, fitT]
  intros; simp_all

theorem fitT_len : ∀ (xs ys : List Th) (w w' : Wy), fitT w xs ys = some w' → w'.length ≤ w.length + xs.length
  | [], _, w, w', h => by
    rw [fitT] at h
    · cases h; simp
    · intros; simp_all
  | x :: xs, [], w, w', h => by
    rw [fitT] at h
    · cases h; simp
    · intros; simp_all
  | x :: xs, y :: ys, w, w', h => by
    rw [fitT] at h
    rw [List.length_cons]
    split at h
    · split at h
      · split at h
        · have := fitT_len xs ys _ _ h; omega
        · cases h
      · have := fitT_len xs ys _ _ h
        rw [List.length_append, List.length_singleton] at this; omega
    · split at h
      · have := fitT_len xs ys _ _ h; omega
      · cases h

set_option maxRecDepth 20000 in
set_option maxHeartbeats 8000000 in
theorem fitted_ref (A : Option Addr) (n c : Nat) (wy : Wy) (x y : Pm) (w : World) (hr : Rd w w.heap.size 8 A n (prcells wy)) (hA : A = none → c = 0) (hn : n ≤ 1000000) (hx : Pm.ok w x) (hy : Pm.ok w y) (hxn : x.n ≤ 1000000) :
    Calls Try.prog 50 #[.slice A n c, .agg x.cells.toArray, .agg y.cells.toArray] w fun e w' => ∃ A' n' c', e = .returned (.tuple #[.slice A' n' c', .bool (fitP wy x.pt y.pt).isSome]) ∧
      w'.ownsRow w.heap.size 135 8 (.slice A' n' c') n' (prcells ((fitP wy x.pt y.pt).getD [])) ∧ Below w.heap.size w w' := by
  obtain ⟨i0, hi, hz0, hz1, hz2⟩ := info_parts Try.info135
  have HV : Hid (fitP wy x.pt y.pt = if x.kind = y.kind ∧ x.pred = y.pred ∧ x.op = y.op ∧ x.ths.length = y.ths.length then fitT wy x.ths y.ths else none) := Lib.hid rfl
  generalize fitP wy x.pt y.pt = sv at *
  obtain ⟨xk, xp, xo, xA, xn, xc, xs⟩ := x
  obtain ⟨yk, yp, yo, yA, yn, yc, ys⟩ := y
  unfold Pm.ok at hx hy
  dsimp only at hx hy hxn HV
  have hl : wy.length = n := by have := hr.1; rw [prcells_length] at this; omega
  have hxl : xs.length = xn := by have := hx.1; rw [thcells_length] at this; omega
  have hyl : ys.length = yn := by have := hy.1; rw [thcells_length] at this; omega
  have hnb := hr.2.1
  have HR := Lib.hid hr
  have HL := Lib.hid hl
  have HX := Lib.hid hx
  have HY := Lib.hid hy
  have HXL := Lib.hid hxl
  have HYL := Lib.hid hyl
  have HA := Lib.hid hA
  have hynb := hy.2.1
  rw [hxl, hyl] at HV
  clear hr hl hx hy hxl hyl hA
  show Calls Try.prog 50 #[.slice A n c, .agg #[.int .i64 xk, .string xp, .int .i64 xo, .slice xA xn xc], .agg #[.int .i64 yk, .string yp, .int .i64 yo, .slice yA yn yc]] w _
  go_enter Try.func50, Try.ntmps50
  go_upto_region 1 with (fail)
  obtain ⟨hb3, h1, h2, hs3⟩ := two_alloc w 90 90 [.int .i64 xk, .string xp, .int .i64 xo, .slice xA xn xc] [.int .i64 yk, .string yp, .int .i64 yo, .slice yA yn yc]
  generalize World.alloc (World.alloc _ _) _ = w1 at *
  generalize hR : w.heap.size = R at *
  have HRR := Lib.hid hR
  clear hR
  have HB1 := Lib.hid hb3
  have H1 := Lib.hid h1
  have H2 := Lib.hid h2
  have HSZ : Hid (w1.heap.size = R + 2) := Lib.hid hs3
  clear hs3
  have f0 := h1.cell 0
  have f1 := h1.cell 1
  have f2 := h1.cell 2
  have f3 := h1.cell 3
  have g0 := h2.cell 0
  have g1 := h2.cell 1
  have g2 := h2.cell 2
  have g3 := h2.cell 3
  simp only [List.getElem?_cons_zero, List.getElem?_cons_succ] at f0 f1 f2 f3 g0 g1 g2 g3
  clear h1 h2 hb3
  by_cases e1 : xk = yk
  rotate_left
  · have hz : sv = none := by rw [HV.out, if_neg (fun h => e1 h.1)]
    subst hz
    have t1 : (xk != yk) = true := by simpa using e1
    clear e1 HV
    go_wp2
    go_ret2
    refine ⟨none, 0, 0, rfl, World.ownsRow_nil _ _ _ _, ?_⟩
    rw [HRR.out]; exact HB1.out
  by_cases e2 : xp = yp
  rotate_left
  · have hz : sv = none := by rw [HV.out, if_neg (fun h => e2 h.2.1)]
    subst hz
    have t1 : (xp.toList != yp.toList) = true := by simp only [bne_iff_ne, ne_eq]; exact fun h => e2 (toList_inj h)
    have t2 : (xp.toList == yp.toList) = false := by simp only [beq_eq_false_iff_ne, ne_eq]; exact fun h => e2 (toList_inj h)
    subst e1
    clear HV
    go_wp2
    go_ret2
    refine ⟨none, 0, 0, rfl, World.ownsRow_nil _ _ _ _, ?_⟩
    rw [HRR.out]; exact HB1.out
  by_cases e3 : xo = yo
  rotate_left
  · have hz : sv = none := by rw [HV.out, if_neg (fun h => e3 h.2.2.1)]
    subst hz
    have t1 : (xo != yo) = true := by simpa using e3
    subst e1
    subst e2
    clear e3 HV
    go_wp2
    go_ret2
    refine ⟨none, 0, 0, rfl, World.ownsRow_nil _ _ _ _, ?_⟩
    rw [HRR.out]; exact HB1.out
  by_cases e4 : xn = yn
  rotate_left
  · have hz : sv = none := by rw [HV.out, if_neg (fun h => e4 h.2.2.2)]
    subst hz
    have t1 : ((xn : Int) != (yn : Int)) = true := by simp only [bne_iff_ne, ne_eq]; omega
    have t2 : ((xn : Int) == (yn : Int)) = false := by simp only [beq_eq_false_iff_ne, ne_eq]; omega
    have t3 : (xn == yn) = false := by simpa using e4
    have t4 : (xn != yn) = true := by simpa using e4
    subst e1
    subst e2
    subst e3
    clear HV
    go_wp2
    go_ret2
    refine ⟨none, 0, 0, rfl, World.ownsRow_nil _ _ _ _, ?_⟩
    rw [HRR.out]; exact HB1.out
  have HV0 : Hid (fitT wy (xs.drop 0) (ys.drop 0) = sv) := Lib.hid (by rw [HV.out, if_pos ⟨e1, e2, e3, e4⟩]; rfl)
  subst e1
  subst e2
  subst e3
  subst e4
  clear HV
  have hown0 : (w1.alloc (.cells #[] 135)).ownsRow R 135 8 (.slice (some ⟨w1.heap.size, 0, none⟩) 0 0) 0 [] := own_empty (by have := HSZ.out; omega)
  have hba := (Below.refl w1.heap.size w1).alloc (Nat.le_refl _) (.cells #[] 135)
  have hbw : R ≤ (w1.alloc (.cells #[] 135)).heap.size := by have := hba.size; have := HSZ.out; omega
  have HRd : Hid (Rd (w1.alloc (.cells #[] 135)) (w1.alloc (.cells #[] 135)).heap.size 8 A n (prcells wy)) := Lib.hid ((HR.out.up HB1.out (by have := HSZ.out; omega)).up hba hba.size)
  clear hba
  go_wp2_with (at_builtin; go_must (refine wpList_append_all rfl _ _ 85 rfl R 135 i0 _ 8 80 Try.underlying85 hi hz0 hz1 hz2 rfl (by decide) _ _ _ rfl hown0 A n c (prcells wy) rfl HA.out HRd.out (prs_one wy) (by unfold maxLen; omega) (by omega) hbw ?_))
  intro v4 w4 hown4 hg4
  have a1 := (H1.out.alloc (.cells #[] 135)).grown hg4 (own_blk_ne hown0 (H1.out.alloc _) (by decide))
  have a2 := (H2.out.alloc (.cells #[] 135)).grown hg4 (own_blk_ne hown0 (H2.out.alloc _) (by decide))
  have B4 := (HB1.out.alloc (by have := HSZ.out; omega) (.cells #[] 135)).grown hg4 hbw (fun k hk => (hown0.lt k hk).1)
  have HA1 := Lib.hid a1
  have HA2 := Lib.hid a2
  have HB4 := Lib.hid B4
  have HO4 : Hid (w4.ownsRow R 135 8 v4 n (prcells wy)) := Lib.hid (by simpa using hown4)
  clear a1 a2 B4 hown4 hown0 hg4 hbw HRd H1 H2 HB1 f0 f1 f2 f3 g0 g1 g2 g3 HSZ
  go_upto_region 5 with (fail)
  go_loopg [8, 9] xn (fun gk u8 u9 wr => ∃ (k m : Nat) (out : Wy), u9 = .int .i64 k ∧ k ≤ xn ∧ m ≤ n + k ∧ Hid (gk = xn - k) ∧ Hid (Below R w wr) ∧ Hid (Blk wr R 90 [.int .i64 xk, .string xp, .int .i64 xo, .slice xA xn xc]) ∧
    Hid (Blk wr (R + 1) 90 [.int .i64 xk, .string xp, .int .i64 xo, .slice yA xn yc]) ∧ Hid (wr.ownsRow R 135 8 u8 m (prcells out)) ∧ Hid (fitT out (xs.drop k) (ys.drop k) = sv))
  case atStart => exact ⟨0, n, wy, rfl, Nat.zero_le _, Nat.le_refl _, Lib.hid (by omega), HB4, HA1, HA2, HO4, HV0⟩
  case round =>
    clear HB4 HA1 HA2 HO4 HV0
    obtain ⟨k, m, out, rfl, hk, hm, HG, HB, H1, H2, HO, HV⟩ := hrel
    obtain ⟨Ao, co, rfl, hmb⟩ := own_slice HO.out
    have f3 := H1.out.cell 3
    have g3 := H2.out.cell 3
    simp only [List.getElem?_cons_zero, List.getElem?_cons_succ] at f3 g3
    by_cases hlt : k < xn
    · obtain ⟨b, o, hk1, rfl, hB, hcc⟩ := (HX.out.below HB.out).at Th.cells 4 (fun _ => rfl) (by omega) k hlt
      obtain ⟨b', o', hk2, rfl, hB', hdd⟩ := (HY.out.below HB.out).at Th.cells 4 (fun _ => rfl) (by omega) k hlt
      have c0 := hcc 0 _ (by omega) rfl
      have c1 := hcc 1 _ (by omega) rfl
      have c2 := hcc 2 _ (by omega) rfl
      have c3 := hcc 3 _ (by omega) rfl
      rw [Nat.add_zero] at c0
      have d0 := hdd 0 _ (by omega) rfl
      have d1 := hdd 1 _ (by omega) rfl
      have d2 := hdd 2 _ (by omega) rfl
      have d3 := hdd 3 _ (by omega) rfl
      rw [Nat.add_zero] at d0
      clear hcc hdd
      have HS : Hid (sv = if xs[k].k = 4 then
          (match stands out xs[k] with
          | some z => if z = ys[k] then fitT out (xs.drop (k + 1)) (ys.drop (k + 1)) else none
          | none => fitT (out ++ [(xs[k], ys[k])]) (xs.drop (k + 1)) (ys.drop (k + 1)))
        else if xs[k] = ys[k] then fitT out (xs.drop (k + 1)) (ys.drop (k + 1)) else none) := Lib.hid (by rw [← HV.out]; exact fitT_drop out xs ys k hk1 hk2)
      generalize xs[k] = a at *
      generalize ys[k] = d at *
      clear HV
      obtain ⟨ak, ai, at_, ao⟩ := a
      obtain ⟨dk, di, dt, do_⟩ := d
      dsimp only at c0 c1 c2 c3 d0 d1 d2 d3 HS
      go_upto_region 8 with (fail)
      have hb3 := (Below.refl wr.heap.size wr).alloc (Nat.le_refl _) (.cells #[.int .i64 ak, .int .i64 ai, .string at_, .int .i64 (ao : Int)] 130)
      have h3 := Blk.new wr 130 [.int .i64 ak, .int .i64 ai, .string at_, .int .i64 (ao : Int)]
      have hRZ : R + 1 < wr.heap.size := H2.out.lt
      have KB := Lib.hid (HB.out.trans (hb3.mono (HRR.out ▸ HB.out.size)))
      have K1 := Lib.hid (H1.out.below hb3 H1.out.lt)
      have K2 := Lib.hid (H2.out.below hb3 hRZ)
      have KO := Lib.hid (own_below HO.out hb3)
      have d0 := (hb3.cell (p := ⟨b', o' + k * 4, none⟩) (by show b' < wr.heap.size; omega)).trans d0
      have d1 := (hb3.cell (p := ⟨b', o' + k * 4 + 1, none⟩) (by show b' < wr.heap.size; omega)).trans d1
      have d2 := (hb3.cell (p := ⟨b', o' + k * 4 + 2, none⟩) (by show b' < wr.heap.size; omega)).trans d2
      have d3 := (hb3.cell (p := ⟨b', o' + k * 4 + 3, none⟩) (by show b' < wr.heap.size; omega)).trans d3
      have L3 := Lib.hid h3
      clear HB H1 H2 HO hb3 h3 c0 c1 c2 c3 f3 g3
      generalize World.alloc _ _ = w2 at *
      generalize hZ : wr.heap.size = Z at *
      clear hZ
      have g3 := K2.out.cell 3
      simp only [List.getElem?_cons_zero, List.getElem?_cons_succ] at g3
      go_upto_region 9 with (fail)
      have hZ2 : Z < w2.heap.size := L3.out.lt
      have hb4 := (Below.refl w2.heap.size w2).alloc (Nat.le_refl _) (.cells #[.int .i64 dk, .int .i64 di, .string dt, .int .i64 (do_ : Int)] 130)
      have M3 := Lib.hid (L3.out.below hb4 hZ2)
      have L4 := Lib.hid (Blk.new w2 130 [.int .i64 dk, .int .i64 di, .string dt, .int .i64 (do_ : Int)])
      have MB := Lib.hid (KB.out.trans (hb4.mono (by omega)))
      have M1 := Lib.hid (K1.out.below hb4 K1.out.lt)
      have M2 := Lib.hid (K2.out.below hb4 (by omega))
      have MO := Lib.hid (own_below KO.out hb4)
      clear KB K1 K2 KO L3 hb4 d0 d1 d2 d3 g3
      have KB := MB
      have K1 := M1
      have K2 := M2
      have KO := MO
      have L3 := M3
      clear MB M1 M2 MO M3
      generalize hw2 : World.alloc _ _ = w2b at *
      clear hw2
      generalize hY : w2.heap.size = Y at *
      clear hY
      have hs3 : Y < w2b.heap.size := L4.out.lt
      have x0 := L3.out.cell 0
      have x1 := L3.out.cell 1
      have x2 := L3.out.cell 2
      have x3 := L3.out.cell 3
      have y0 := L4.out.cell 0
      have y1 := L4.out.cell 1
      have y2 := L4.out.cell 2
      have y3 := L4.out.cell 3
      simp only [List.getElem?_cons_zero, List.getElem?_cons_succ] at x0 x1 x2 x3 y0 y1 y2 y3
      by_cases k4 : ak = 4
      · subst k4
        rw [if_pos rfl] at HS
        have ks := stands_ref Ao m co out ⟨4, ai, at_, ao⟩ w2b (own_rd KO.out)
        cases hst : stands out ⟨4, ai, at_, ao⟩ with
        | some z =>
          rw [hst] at ks HS
          dsimp only at HS
          obtain ⟨zk, zi, zt, zo⟩ := z
          simp only [Th.cells, Option.getD_some, Option.isSome_some] at ks
          clear hst
          go_wp2_with fail
          refine ks.mono ?_
          rintro e w3 ⟨rfl, hb3⟩
          have M1 := Lib.hid (K1.out.below hb3 K1.out.lt)
          have M2 := Lib.hid (K2.out.below hb3 K2.out.lt)
          have M4 := Lib.hid (L4.out.below hb3 L4.out.lt)
          have MO := Lib.hid (own_below KO.out hb3)
          have MB := Lib.hid (KB.out.trans (hb3.mono (by omega)))
          have hs3b : Y < w3.heap.size := M4.out.lt
          clear hb3 ks x0 x1 x2 x3 y0 y1 y2 y3 K1 K2 KO KB L3 L4
          go_upto_region 13 with (fail)
          have hba := (Below.refl w3.heap.size w3).alloc (Nat.le_refl _) (.cells #[.int .i64 zk, .int .i64 zi, .string zt, .int .i64 (zo : Int)] 130)
          have hz4 := Blk.new w3 130 [.int .i64 zk, .int .i64 zi, .string zt, .int .i64 (zo : Int)]
          have K1 := Lib.hid (M1.out.below hba M1.out.lt)
          have K2 := Lib.hid (M2.out.below hba M2.out.lt)
          have K4 := Lib.hid (M4.out.below hba M4.out.lt)
          have KO := Lib.hid (own_below MO.out hba)
          have KB := Lib.hid (MB.out.trans (hba.mono (by omega)))
          clear M1 M2 M4 MO MB hba
          generalize World.alloc _ _ = w4 at *
          generalize w3.heap.size = P at *
          have z0 := hz4.cell 0
          have z1 := hz4.cell 1
          have z2 := hz4.cell 2
          have z3 := hz4.cell 3
          have y0 := K4.out.cell 0
          have y1 := K4.out.cell 1
          have y2 := K4.out.cell 2
          have y3 := K4.out.cell 3
          have hs4 := hz4.lt
          simp only [List.getElem?_cons_zero, List.getElem?_cons_succ] at z0 z1 z2 z3 y0 y1 y2 y3
          clear hz4
          have ks := same_ref ⟨zk, zi, zt, zo⟩ ⟨dk, di, dt, do_⟩ w4
          simp only [Th.cells] at ks
          by_cases he : (⟨zk, zi, zt, zo⟩ : Th) = ⟨dk, di, dt, do_⟩
          · rw [if_pos he] at HS
            rw [decide_eq_true he] at ks
            clear he
            go_wp2_with fail
            refine ks.mono ?_
            rintro e w5 ⟨rfl, hb3⟩
            have KB3 := Lib.hid (KB.out.trans (hb3.mono (by omega)))
            have J1 := Lib.hid (K1.out.below hb3 K1.out.lt)
            have J2 := Lib.hid (K2.out.below hb3 K2.out.lt)
            have JO := Lib.hid (own_below KO.out hb3)
            have HN : Hid (fitT out (xs.drop (k + 1)) (ys.drop (k + 1)) = sv) := Lib.hid HS.out.symm
            clear hb3 ks z0 z1 z2 z3 y0 y1 y2 y3 K1 K2 KO KB HS
            go_wp2
            go_roundg (xn - (k + 1))
            case measure => have := HG.out; omega
            case rel => exact ⟨k + 1, m, out, by go_num, by omega, by omega, Lib.hid rfl, KB3, J1, J2, JO, HN⟩
          · have hz : sv = none := by rw [HS.out, if_neg he]
            rw [decide_eq_false he] at ks
            subst hz
            clear he HS
            go_wp2_with fail
            refine ks.mono ?_
            rintro e w5 ⟨rfl, hb3⟩
            have KB3 := Lib.hid (KB.out.trans (hb3.mono (by omega)))
            clear hb3 ks z0 z1 z2 z3 y0 y1 y2 y3
            go_wp2
            go_ret2
            refine ⟨none, 0, 0, rfl, World.ownsRow_nil _ _ _ _, ?_⟩
            rw [HRR.out]; exact KB3.out
        | none =>
          rw [hst] at ks HS
          dsimp only at HS
          simp only [Th.cells, Option.getD_none, Option.isSome_none, zeroTh] at ks
          clear hst
          go_wp2_with fail
          refine ks.mono ?_
          rintro e w3 ⟨rfl, hb3⟩
          have M1 := Lib.hid (K1.out.below hb3 K1.out.lt)
          have M2 := Lib.hid (K2.out.below hb3 K2.out.lt)
          have M3 := Lib.hid (L3.out.below hb3 (by omega))
          have M4 := Lib.hid (L4.out.below hb3 L4.out.lt)
          have MO := Lib.hid (own_below KO.out hb3)
          have MB := Lib.hid (KB.out.trans (hb3.mono (by omega)))
          have hs3b : Y < w3.heap.size := M4.out.lt
          clear hb3 ks x0 x1 x2 x3 y0 y1 y2 y3 K1 K2 KO KB L3 L4
          go_upto_region 13 with (fail)
          have hba := (Below.refl w3.heap.size w3).alloc (Nat.le_refl _) (.cells #[.int .i64 0, .int .i64 0, .string ⟨#[]⟩, .int .i64 0] 130)
          have K1 := Lib.hid (M1.out.below hba M1.out.lt)
          have K2 := Lib.hid (M2.out.below hba M2.out.lt)
          have K3 := Lib.hid (M3.out.below hba (by omega))
          have K4 := Lib.hid (M4.out.below hba M4.out.lt)
          have KO := Lib.hid (own_below MO.out hba)
          have KB := Lib.hid (MB.out.trans (hba.mono (by omega)))
          have hs4 : Y < (w3.alloc (.cells #[.int .i64 0, .int .i64 0, .string ⟨#[]⟩, .int .i64 0] 130)).heap.size := K4.out.lt
          clear M1 M2 M3 M4 MO MB hba
          generalize World.alloc _ _ = w4 at *
          have x0 := K3.out.cell 0
          have x1 := K3.out.cell 1
          have x2 := K3.out.cell 2
          have x3 := K3.out.cell 3
          have y0 := K4.out.cell 0
          have y1 := K4.out.cell 1
          have y2 := K4.out.cell 2
          have y3 := K4.out.cell 3
          simp only [List.getElem?_cons_zero, List.getElem?_cons_succ] at x0 x1 x2 x3 y0 y1 y2 y3
          have hownb := KO.out
          go_wp2_with (at_builtin; go_must (refine wpList_append_own _ rfl _ _ 85 rfl R 135 i0 _ 8 80 Try.underlying85 hi hz0 hz1 hz2 rfl (by decide) _ _ _ rfl (hownb.alloc _) ⟨w4.heap.size, 0, none⟩ 1 1 (prc (⟨4, ai, at_, ao⟩, ⟨dk, di, dt, do_⟩)) rfl rfl (fun j u h => new_cells _ _ _ j u h) (prc_one _) (by unfold maxLen; omega) (by omega) (by simp; omega) ?_))
          intro v7 w7 hown7 hg7 _
          have a1 := (K1.out.alloc (.cells (prc (⟨4, ai, at_, ao⟩, ⟨dk, di, dt, do_⟩)).toArray 135)).grown hg7 (own_blk_ne hownb K1.out (by decide))
          have a2 := (K2.out.alloc (.cells (prc (⟨4, ai, at_, ao⟩, ⟨dk, di, dt, do_⟩)).toArray 135)).grown hg7 (own_blk_ne hownb K2.out (by decide))
          have BL := (KB.out.alloc (by omega) (.cells (prc (⟨4, ai, at_, ao⟩, ⟨dk, di, dt, do_⟩)).toArray 135)).grown hg7 (by simp; omega) (fun q hq => (hownb.lt q hq).1)
          have V7 : w7.ownsRow R 135 8 v7 (m + 1) (prcells (out ++ [((⟨4, ai, at_, ao⟩ : Th), (⟨dk, di, dt, do_⟩ : Th))])) := by
            rw [prcells_append]; simpa [prcells] using hown7
          have HN : Hid (fitT (out ++ [((⟨4, ai, at_, ao⟩ : Th), (⟨dk, di, dt, do_⟩ : Th))]) (xs.drop (k + 1)) (ys.drop (k + 1)) = sv) := Lib.hid HS.out.symm
          have HA1 := Lib.hid a1
          have HA2 := Lib.hid a2
          have HBL := Lib.hid BL
          have HV7 := Lib.hid V7
          clear a1 a2 BL V7 hown7 hownb hg7 K1 K2 K3 K4 KO KB x0 x1 x2 x3 y0 y1 y2 y3 HS
          go_wp2
          go_roundg (xn - (k + 1))
          case measure => have := HG.out; omega
          case rel => exact ⟨k + 1, m + 1, _, by go_num, by omega, by omega, Lib.hid rfl, HBL, HA1, HA2, HV7, HN⟩
      · rw [if_neg k4] at HS
        have t1 : (ak != 4) = true := by simpa using k4
        have ks := same_ref ⟨ak, ai, at_, ao⟩ ⟨dk, di, dt, do_⟩ w2b
        simp only [Th.cells] at ks
        clear k4
        by_cases he : (⟨ak, ai, at_, ao⟩ : Th) = ⟨dk, di, dt, do_⟩
        · rw [if_pos he] at HS
          rw [decide_eq_true he] at ks
          clear he
          go_wp2_with fail
          refine ks.mono ?_
          rintro e w3 ⟨rfl, hb3⟩
          have KB3 := Lib.hid (KB.out.trans (hb3.mono (by omega)))
          have J1 := Lib.hid (K1.out.below hb3 K1.out.lt)
          have J2 := Lib.hid (K2.out.below hb3 K2.out.lt)
          have JO := Lib.hid (own_below KO.out hb3)
          have HN : Hid (fitT out (xs.drop (k + 1)) (ys.drop (k + 1)) = sv) := Lib.hid HS.out.symm
          clear hb3 ks x0 x1 x2 x3 y0 y1 y2 y3 K1 K2 KO KB HS
          go_wp2
          go_roundg (xn - (k + 1))
          case measure => have := HG.out; omega
          case rel => exact ⟨k + 1, m, out, by go_num, by omega, by omega, Lib.hid rfl, KB3, J1, J2, JO, HN⟩
        · have hz : sv = none := by rw [HS.out, if_neg he]
          rw [decide_eq_false he] at ks
          subst hz
          clear he HS
          go_wp2_with fail
          refine ks.mono ?_
          rintro e w3 ⟨rfl, hb3⟩
          have KB3 := Lib.hid (KB.out.trans (hb3.mono (by omega)))
          clear hb3 ks x0 x1 x2 x3 y0 y1 y2 y3
          go_wp2
          go_ret2
          refine ⟨none, 0, 0, rfl, World.ownsRow_nil _ _ _ _, ?_⟩
          rw [HRR.out]; exact KB3.out
    · obtain rfl : k = xn := by omega
      have hz : sv = some out := by rw [← HV.out]; exact fitT_end out xs ys k (by have := HXL.out; omega)
      subst hz
      go_wp2
      go_ret2
      refine ⟨Ao, m, co, rfl, ?_, ?_⟩
      · rw [HRR.out]; exact HO.out
      · rw [HRR.out]; exact HB.out
end Go.Proofs.Ytjcgkplphiedjaa

namespace Go.Proofs.Ytjcgkplphiedjaa
open Go.RowKit Go.Sort

def anyTh (ths : List Th) (a : Th) : Bool := ths.any fun t => decide (t = a)
theorem anyTh_drop (ths : List Th) (a : Th) (k : Nat) (h : k < ths.length) : anyTh (ths.drop k) a = (decide (ths[k] = a) || anyTh (ths.drop (k + 1)) a) := by
  rw [List.drop_eq_getElem_cons h]; rfl
theorem anyTh_end (ths : List Th) (a : Th) (k : Nat) (h : ths.length ≤ k) : anyTh (ths.drop k) a = false := by
  rw [List.drop_eq_nil_of_le h]; rfl
def askP (l : List Pm) (a : Th) : Bool := l.any fun p => anyTh p.ths a
theorem askP_eq (l : List Pm) (a : Th) : askP l a = askedB (l.map Pm.pt) a := by
  unfold askP askedB
  rw [List.any_map]; rfl
theorem askP_drop (l : List Pm) (a : Th) (k : Nat) (h : k < l.length) : askP (l.drop k) a = (anyTh l[k].ths a || askP (l.drop (k + 1)) a) := by
  rw [List.drop_eq_getElem_cons h]; rfl
theorem askP_end (l : List Pm) (a : Th) (k : Nat) (h : l.length ≤ k) : askP (l.drop k) a = false := by
  rw [List.drop_eq_nil_of_le h]; rfl

set_option maxRecDepth 200000 in
set_option maxHeartbeats 8000000 in
theorem asked_ref (A : Option Addr) (n c : Nat) (l : List Pm) (a : Th) (w : World) (hr : Rd w w.heap.size 4 A n (pmcells l)) (hok : ∀ y ∈ l, Pm.ok w y) :
    Calls Try.prog 83 #[.slice A n c, .agg a.cells.toArray] w fun e w' => e = .returned (.bool (askP l a)) ∧ Below w.heap.size w w' := by
  have hl : l.length = n := by have := hr.1; rw [pmcells_length] at this; omega
  have hnb := hr.2.1
  have HR := Lib.hid hr
  have HL := Lib.hid hl
  have HK := Lib.hid hok
  have HV : Hid (askP (l.drop 0) a = askP l a) := Lib.hid rfl
  have HSM : Hid (∀ (b : Th) (w : World), Calls Try.prog 81 #[.agg b.cells.toArray, .agg a.cells.toArray] w fun e w' => e = .returned (.bool (decide (b = a))) ∧ Below w.heap.size w w') := Lib.hid (fun b w => same_ref b a w)
  clear hr hl hok
  generalize askP l a = v at *
  obtain ⟨k', i', t', o'⟩ := a
  show Calls Try.prog 83 #[.slice A n c, .agg #[.int .i64 k', .int .i64 i', .string t', .int .i64 (o' : Int)]] w _
  go_enter Try.func83, Try.ntmps83
  go_upto_region 1 with (fail)
  have hb1 := (Below.refl w.heap.size w).alloc (Nat.le_refl _) (.cells #[.int .i64 k', .int .i64 i', .string t', .int .i64 (o' : Int)] 130)
  have h1 := Blk.new w 130 [.int .i64 k', .int .i64 i', .string t', .int .i64 (o' : Int)]
  generalize World.alloc _ _ = w1 at *
  generalize hR : w.heap.size = R at *
  have HRR := Lib.hid hR
  clear hR
  have HB1 := Lib.hid hb1
  have H1 := Lib.hid h1
  clear h1 hb1
  go_upto_region 2 with (fail)
  go_loopg [5] n (fun gk u5 wr => ∃ k : Nat, u5 = .int .i64 k ∧ k ≤ n ∧ Hid (gk = n - k) ∧ Hid (Below R w wr) ∧ Hid (Blk wr R 130 [.int .i64 k', .int .i64 i', .string t', .int .i64 (o' : Int)]) ∧ Hid (askP (l.drop k) ⟨k', i', t', o'⟩ = v))
  case atStart => exact ⟨0, rfl, Nat.zero_le _, Lib.hid (by omega), HB1, H1, HV⟩
  case round =>
    clear HB1 H1 HV
    obtain ⟨k, rfl, hk, HG, HB, H1, HV⟩ := hrel
    by_cases hlt : k < n
    · obtain ⟨b, o, hk1, rfl, hB, hcc⟩ := HR.out.at Pm.cells 4 (fun _ => rfl) (by omega) k hlt
      have HC3 : Hid (w.cell? ⟨b, o + k * 4 + 3, none⟩ = some (.slice l[k].A l[k].n l[k].c)) := Lib.hid (hcc 3 _ (by omega) rfl)
      clear hcc
      have hx : Pm.ok w l[k] := HK.out l[k] (List.getElem_mem hk1)
      have HV2 : Hid ((anyTh (l[k].ths.drop 0) ⟨k', i', t', o'⟩ || askP (l.drop (k + 1)) ⟨k', i', t', o'⟩) = v) := Lib.hid (by rw [← HV.out, askP_drop l _ k hk1]; rfl)
      generalize l[k] = x at *
      obtain ⟨xk, xp, xo, xA, xn, xc, xs⟩ := x
      unfold Pm.ok at hx
      dsimp only at hx HC3 HV2
      have hxl : xs.length = xn := by have := hx.1; rw [thcells_length] at this; omega
      have hxnb := hx.2.1
      have HX := Lib.hid hx
      have HXL := Lib.hid hxl
      clear hx hxl HV
      go_upto_region 5 with (fail)
      go_loopg [6] xn (fun gj u6 wr => ∃ j : Nat, u6 = .int .i64 j ∧ j ≤ xn ∧ Hid (gj = xn - j) ∧ Hid (Below R w wr) ∧ Hid (Blk wr R 130 [.int .i64 k', .int .i64 i', .string t', .int .i64 (o' : Int)]) ∧ Hid ((anyTh (xs.drop j) ⟨k', i', t', o'⟩ || askP (l.drop (k + 1)) ⟨k', i', t', o'⟩) = v))
      case atStart => exact ⟨0, rfl, Nat.zero_le _, Lib.hid (by omega), HB, H1, HV2⟩
      case round =>
        clear HB H1 HV2
        obtain ⟨j, rfl, hj, HGJ, HB, H1, HV⟩ := hrel
        have c3 := (HB.out.cell (p := ⟨b, o + k * 4 + 3, none⟩) hB).trans HC3.out
        by_cases hlj : j < xn
        · obtain ⟨b2, o2, hj1, rfl, hB2, hcc⟩ := ((HRR.out ▸ HX.out : Rd w R 4 xA xn (thcells xs)).below HB.out).at Th.cells 4 (fun _ => rfl) (by omega) j hlj
          have d0 := hcc 0 _ (by omega) rfl
          have d1 := hcc 1 _ (by omega) rfl
          have d2 := hcc 2 _ (by omega) rfl
          have d3 := hcc 3 _ (by omega) rfl
          rw [Nat.add_zero] at d0
          clear hcc
          have HS : Hid (v = ((decide (xs[j] = ⟨k', i', t', o'⟩) || anyTh (xs.drop (j + 1)) ⟨k', i', t', o'⟩) || askP (l.drop (k + 1)) ⟨k', i', t', o'⟩)) := Lib.hid (by rw [← HV.out, anyTh_drop xs _ j hj1])
          have ks := HSM.out xs[j]
          generalize xs[j] = y at *
          clear HV
          obtain ⟨yk, yi, yt, yo⟩ := y
          dsimp only at d0 d1 d2 d3 ks HS
          simp only [Th.cells] at ks
          generalize decide ((⟨yk, yi, yt, yo⟩ : Th) = ⟨k', i', t', o'⟩) = q at *
          go_upto_region 7 with (fail)
          have e3 := cell_regrown c3
          have f0 := cell_regrown d0
          have f1 := cell_regrown d1
          have f2 := cell_regrown d2
          have f3 := cell_regrown d3
          have g0 := cell_regrown ((H1.out.cell 0).trans rfl)
          have g1 := cell_regrown ((H1.out.cell 1).trans rfl)
          have g2 := cell_regrown ((H1.out.cell 2).trans rfl)
          have g3 := cell_regrown ((H1.out.cell 3).trans rfl)
          have cS : ∀ d os, Calls Try.prog 81 #[.agg #[.int .i64 yk, .int .i64 yi, .string yt, .int .i64 (yo : Int)], .agg #[.int .i64 k', .int .i64 i', .string t', .int .i64 (o' : Int)]] (grow (redrawn wr d) os) fun e w'' => e = .returned (.bool q) ∧ ∃ p : Regrown, w'' = grow (redrawn wr p.d) p.os :=
            fun d os => Calls.regrown_of (ks _)
          clear ks c3 d0 d1 d2 d3
          refine wp_region_quiet_below (by kernel_rfl) (by kernel_rfl) ?_
          repeat (go_big_quiet_step (exact cS _ _))
          refine wpQuiet_nil ?_
          intro w6 hw6
          obtain ⟨⟨dq, osq⟩, rfl⟩ := hw6
          have HB6 := Lib.hid (HB.out.trans ((below_regrown wr dq osq).mono (HRR.out ▸ HB.out.size)))
          have K1 := Lib.hid (H1.out.below (below_regrown wr dq osq) H1.out.lt)
          clear e3 f0 f1 f2 f3 g0 g1 g2 g3 cS HB H1
          generalize hW : grow _ _ = w7 at *
          clear hW
          cases q with
          | true =>
            have hz : v = true := by rw [HS.out]; rfl
            subst hz
            clear HS
            go_wp2
            go_ret
            exact ⟨by rfl, by rw [HRR.out]; exact HB6.out⟩
          | false =>
            have HN : Hid ((anyTh (xs.drop (j + 1)) ⟨k', i', t', o'⟩ || askP (l.drop (k + 1)) ⟨k', i', t', o'⟩) = v) := Lib.hid (by rw [HS.out, Bool.false_or])
            clear HS
            go_wp2
            go_roundg (xn - (j + 1))
            case measure => have := HGJ.out; omega
            case rel => exact ⟨j + 1, by go_num, by omega, Lib.hid rfl, HB6, K1, HN⟩
        · have HN : Hid (askP (l.drop (k + 1)) ⟨k', i', t', o'⟩ = v) := Lib.hid (by rw [← HV.out, anyTh_end xs _ j (by have := HXL.out; omega), Bool.false_or])
          clear HV
          go_wp2
          go_roundg (n - (k + 1))
          case measure => have := HG.out; omega
          case rel => exact ⟨k + 1, by go_num, by omega, Lib.hid rfl, HB, H1, HN⟩
    · have hz : v = false := by rw [← HV.out]; exact askP_end l _ k (by have := HL.out; omega)
      subst hz
      go_wp2
      go_ret
      exact ⟨by rfl, by rw [HRR.out]; exact HB.out⟩
end Go.Proofs.Ytjcgkplphiedjaa

namespace Go.Proofs.Ytjcgkplphiedjaa
open Go.RowKit Go.Sort

theorem filter_snoc {α : Type} (f : α → Bool) (l : List α) (k : Nat) (h : k < l.length) : (l.take (k + 1)).filter f = (l.take k).filter f ++ (if f l[k] = true then [l[k]] else []) := by
  rw [take_snoc _ _ h, List.filter_append]
  congr 1
  cases e : f l[k] <;> simp [e]

set_option maxRecDepth 20000 in
set_option maxHeartbeats 8000000 in
theorem kept_ref (A : Option Addr) (n c : Nat) (wy : Wy) (PA : Option Addr) (pn pc : Nat) (l : List Pm) (w : World) (hr : Rd w w.heap.size 8 A n (prcells wy)) (hn : n ≤ 1000000) (hp : Rd w w.heap.size 4 PA pn (pmcells l)) (hok : ∀ y ∈ l, Pm.ok w y) :
    Calls Try.prog 51 #[.slice A n c, .slice PA pn pc] w fun e w' => ∃ A' n' c', e = .returned (.slice A' n' c') ∧
      w'.ownsRow w.heap.size 135 8 (.slice A' n' c') n' (prcells (keptW wy (l.map Pm.pt))) ∧ Below w.heap.size w w' := by
  obtain ⟨i0, hi, hz0, hz1, hz2⟩ := info_parts Try.info135
  have hl : wy.length = n := by have := hr.1; rw [prcells_length] at this; omega
  have hnb := hr.2.1
  have HV : Hid (keptW wy (l.map Pm.pt) = wy.filter fun p => askP l p.1) := Lib.hid (by unfold keptW; congr 1; funext p; rw [askP_eq])
  have HR := Lib.hid hr
  have HL := Lib.hid hl
  have HP := Lib.hid hp
  have HK := Lib.hid hok
  clear hr hl hp hok
  go_enter Try.func51, Try.ntmps51
  go_upto_region 3 with (fail)
  generalize hR : w.heap.size = R at *
  have HRR := Lib.hid hR
  clear hR
  go_loopg [5, 6] n (fun gk u5 u6 wr => ∃ k m : Nat, u6 = .int .i64 k ∧ k ≤ n ∧ m ≤ k ∧ Hid (gk = n - k) ∧ Hid (Below R w wr) ∧ Hid (wr.ownsRow R 135 8 u5 m (prcells ((wy.take k).filter fun p => askP l p.1))))
  case atStart => exact ⟨0, 0, rfl, Nat.zero_le _, Nat.le_refl _, Lib.hid (by omega), Lib.hid (Below.refl _ _), Lib.hid (World.ownsRow_nil _ _ _ _)⟩
  case round =>
    obtain ⟨k, m, rfl, hk, hm, HG, HB, HO⟩ := hrel
    by_cases hlt : k < n
    · obtain ⟨b, o, hk1, rfl, hB, hcc⟩ := HR.out.at prc 8 (fun _ => rfl) (by omega) k hlt
      have HS := Lib.hid (filter_snoc (fun p : Th × Th => askP l p.1) wy k hk1)
      have HCC := Lib.hid hcc
      clear hcc
      generalize wy[k] = x at *
      obtain ⟨⟨xk, xi, xt, xo⟩, ⟨yk, yi, yt, yo⟩⟩ := x
      have c0 := (HB.out.cell (p := ⟨b, o + k * 8 + 0, none⟩) hB).trans (HCC.out 0 _ (by omega) rfl)
      have c1 := (HB.out.cell (p := ⟨b, o + k * 8 + 1, none⟩) hB).trans (HCC.out 1 _ (by omega) rfl)
      have c2 := (HB.out.cell (p := ⟨b, o + k * 8 + 2, none⟩) hB).trans (HCC.out 2 _ (by omega) rfl)
      have c3 := (HB.out.cell (p := ⟨b, o + k * 8 + 3, none⟩) hB).trans (HCC.out 3 _ (by omega) rfl)
      rw [Nat.add_zero] at c0
      have hsz := HB.out.size
      rw [HRR.out] at hsz
      have ka := asked_ref PA pn pc l ⟨xk, xi, xt, xo⟩ wr (HP.out.up (HRR.out ▸ HB.out) hsz) (fun y hy => (HK.out y hy).up (HRR.out ▸ HB.out))
      simp only [Th.cells] at ka
      dsimp only at HS
      generalize askP l ⟨xk, xi, xt, xo⟩ = q at *
      go_wp2_with fail
      refine ka.mono ?_
      rintro e w2 ⟨rfl, hb2⟩
      have KB := Lib.hid (HB.out.trans (hb2.mono hsz))
      have KO := Lib.hid (own_below HO.out hb2)
      clear ka hb2 HB HO c0 c1 c2 c3
      cases q with
      | false =>
        have JO : Hid (w2.ownsRow R 135 8 u5 m (prcells ((wy.take (k + 1)).filter fun p => askP l p.1))) := Lib.hid (by rw [HS.out, if_neg (by simp), List.append_nil]; exact KO.out)
        clear HS KO HCC
        go_wp2
        go_roundg (n - (k + 1))
        case measure => have := HG.out; omega
        case rel => exact ⟨k + 1, m, by go_num, by omega, by omega, Lib.hid rfl, KB, JO⟩
      | true =>
        have d0 := (KB.out.cell (p := ⟨b, o + k * 8 + 0, none⟩) hB).trans (HCC.out 0 _ (by omega) rfl)
        have d1 := (KB.out.cell (p := ⟨b, o + k * 8 + 1, none⟩) hB).trans (HCC.out 1 _ (by omega) rfl)
        have d2 := (KB.out.cell (p := ⟨b, o + k * 8 + 2, none⟩) hB).trans (HCC.out 2 _ (by omega) rfl)
        have d3 := (KB.out.cell (p := ⟨b, o + k * 8 + 3, none⟩) hB).trans (HCC.out 3 _ (by omega) rfl)
        have d4 := (KB.out.cell (p := ⟨b, o + k * 8 + 4, none⟩) hB).trans (HCC.out 4 _ (by omega) rfl)
        have d5 := (KB.out.cell (p := ⟨b, o + k * 8 + 5, none⟩) hB).trans (HCC.out 5 _ (by omega) rfl)
        have d6 := (KB.out.cell (p := ⟨b, o + k * 8 + 6, none⟩) hB).trans (HCC.out 6 _ (by omega) rfl)
        have d7 := (KB.out.cell (p := ⟨b, o + k * 8 + 7, none⟩) hB).trans (HCC.out 7 _ (by omega) rfl)
        rw [Nat.add_zero] at d0
        clear HCC
        have hownb := KO.out
        have hs2 : R ≤ w2.heap.size := by have := KB.out.size; rw [HRR.out] at this; exact this
        go_wp2_with (at_builtin; go_must (refine wpList_append_own _ rfl _ _ 85 rfl R 135 i0 _ 8 80 Try.underlying85 hi hz0 hz1 hz2 rfl (by decide) _ _ _ rfl (hownb.alloc _) ⟨w2.heap.size, 0, none⟩ 1 1 (prc (⟨xk, xi, xt, xo⟩, ⟨yk, yi, yt, yo⟩)) rfl rfl (fun j u h => new_cells _ _ _ j u h) (prc_one _) (by unfold maxLen; omega) (by omega) (by simp; omega) ?_))
        intro v7 w7 hown7 hg7 _
        have BL := (KB.out.alloc (by omega) (.cells (prc (⟨xk, xi, xt, xo⟩, ⟨yk, yi, yt, yo⟩)).toArray 135)).grown hg7 (by simp; omega) (fun q hq => (hownb.lt q hq).1)
        have V7 : w7.ownsRow R 135 8 v7 (m + 1) (prcells ((wy.take (k + 1)).filter fun p => askP l p.1)) := by
          rw [HS.out, if_pos (by trivial), prcells_append]; simpa [prcells] using hown7
        have HBL := Lib.hid BL
        have HV7 := Lib.hid V7
        clear BL V7 hown7 hownb hg7 KO KB d0 d1 d2 d3 d4 d5 d6 d7 HS
        go_wp2
        go_roundg (n - (k + 1))
        case measure => have := HG.out; omega
        case rel => exact ⟨k + 1, m + 1, by go_num, by omega, by omega, Lib.hid rfl, HBL, HV7⟩
    · obtain rfl : k = n := by omega
      have hall : wy.take k = wy := List.take_of_length_le (by have := HL.out; omega)
      rw [hall] at HO
      obtain ⟨Ao, co, rfl, hmb⟩ := own_slice HO.out
      go_wp2
      go_ret
      refine ⟨Ao, m, co, rfl, ?_, ?_⟩
      · rw [HRR.out, HV.out]; exact HO.out
      · rw [HRR.out]; exact HB.out
end Go.Proofs.Ytjcgkplphiedjaa
