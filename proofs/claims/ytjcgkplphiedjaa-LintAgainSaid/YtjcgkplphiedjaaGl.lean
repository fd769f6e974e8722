/- The document's Covers. -/
import Derived.Test.YtjcgkplphiedjaaGh
import Derived.Test.YtjcgkplphiedjaaGk
namespace Go.Proofs.Ytjcgkplphiedjaa
open Go.RowKit Go.Sort

theorem firstE_all {α : Type} {f : α → Int} : ∀ {l : List α}, firstE f l = 0 → ∀ x ∈ l, f x = 0
  | [], _, x, h => by cases h
  | a :: l, h, x, hx => by
    rw [firstE] at h
    split at h
    · rename_i ha
      rcases List.mem_cons.1 hx with rfl | hx
      · exact ha
      · exact firstE_all h x hx
    · rename_i ha; exact absurd h ha
theorem litE_terms {x : Li} (h : litE x = 0) : x.terms.length ≤ 8 := by
  unfold litE at h
  split at h
  · rename_i hk
    split at h
    · cases h
    · have := (atomE_parts h).2
      unfold Li.terms
      rw [if_neg (by omega)]; exact this
  · split at h
    · rename_i k3
      unfold Li.terms
      rw [if_pos k3]; simp
    · cases h
theorem flat_le {α β : Type} (f : α → List β) (N : Nat) : ∀ (l : List α), (∀ x ∈ l, (f x).length ≤ N) → (l.flatMap f).length ≤ l.length * N
  | [], _ => by simp
  | a :: l, h => by
    have h1 := flat_le f N l (fun x hx => h x (List.mem_cons_of_mem _ hx))
    have h2 := h a (by simp)
    rw [List.flatMap_cons, List.length_append, List.length_cons, Nat.add_mul]; omega
theorem tot_le {x : Cl} (h : clauseE x = 0) : x.tot.length ≤ 136 := by
  obtain ⟨h1, h2, h3⟩ := clauseE_parts h
  have h4 := (atomE_parts h1).2
  have h5 := flat_le Li.terms 8 x.ls (fun y hy => litE_terms (firstE_all h3 y hy))
  have h6 : x.ls.length * 8 ≤ 16 * 8 := Nat.mul_le_mul_right 8 h2
  unfold Cl.tot
  rw [List.length_append]; omega

/-- The document's answer, whatever the clauses. -/
def coversD (a b : Cl) : Bool := if clauseE a = 0 ∧ clauseE b = 0 ∧ a.ls.length ≤ 6 then coversR (headPt a) (headPt b) (bodyPts a) (bodyPts b) else false

theorem waysL_drop (ys : List Pt) (W : List Wy) (X : List Pm) (k : Nat) (h : k < X.length) : waysL ys W ((X.drop k).map Pm.pt) = waysL ys (stepO X[k].pt ((X.drop (k + 1)).map Pm.pt) ys W []) ((X.drop (k + 1)).map Pm.pt) := by
  rw [List.drop_eq_getElem_cons h, List.map_cons, waysL]
theorem waysL_end (ys : List Pt) (W : List Wy) (X : List Pm) (k : Nat) (h : X.length ≤ k) : waysL ys W ((X.drop k).map Pm.pt) = W := by
  rw [List.drop_eq_nil_of_le h, List.map_nil, waysL]
theorem stepO_drop (a : Pt) (rest ys : List Pt) (l : List Wm) (next : List Wy) (k : Nat) (h : k < l.length) : stepO a rest ys ((l.drop k).map Wm.ws) next = stepO a rest ys ((l.drop (k + 1)).map Wm.ws) (stepI l[k].ws a rest ys next) := by
  rw [List.drop_eq_getElem_cons h, List.map_cons, stepO]
theorem stepI_drop (w : Wy) (a : Pt) (rest : List Pt) (Y : List Pm) (next : List Wy) (k : Nat) (h : k < Y.length) : stepI w a rest ((Y.drop k).map Pm.pt) next = stepI w a rest ((Y.drop (k + 1)).map Pm.pt) (match fitP w a Y[k].pt with | some w' => joinedW next (keptW w' rest) | none => next) := by
  rw [List.drop_eq_getElem_cons h, List.map_cons, stepI]
  cases fitP w a Y[k].pt <;> rfl
theorem kept_len (w : Wy) (l : List Pt) : (keptW w l).length ≤ w.length := List.length_filter_le _ _

/-- The rest of a row. -/
theorem Rd.rest {w : World} {B size n : Nat} {b o : Nat} {xs : List Value} (h : Rd w B size (some ⟨b, o, none⟩) n xs) (k : Nat) (hk : k ≤ n) : Rd w B size (some ⟨b, o + k * size, none⟩) (n - k) (xs.drop (k * size)) := by
  refine ⟨by rw [List.length_drop, h.1, Nat.sub_mul], by have := h.2.1; omega, fun hn => ?_⟩
  obtain ⟨b', o', he, hb, hc⟩ := h.2.2 (by omega)
  injection he with he
  injection he with h1 h2
  subst h1 h2
  refine ⟨b, o + k * size, rfl, hb, fun j u hu => ?_⟩
  rw [List.getElem?_drop] at hu
  have := hc _ u hu
  rw [← Nat.add_assoc] at this
  exact this
theorem pmcells_drop (l : List Pm) (k : Nat) : (pmcells l).drop (k * 4) = pmcells (l.drop k) := by
  unfold pmcells
  induction l generalizing k with
  | nil => simp
  | cons x l ih =>
    cases k with
    | zero => simp
    | succ k =>
      rw [List.flatMap_cons, List.drop_succ_cons, ← ih k, Nat.add_mul, Nat.one_mul, Nat.add_comm (k * 4) 4, ← List.drop_drop]
      rw [List.drop_append_of_le_length (by show 4 ≤ 4; omega)]
      simp [Pm.cells]

set_option maxRecDepth 200000 in
set_option maxHeartbeats 16000000 in
theorem covers_ref (x y : Cl) (w : World) (hx : Cl.ok w x) (hy : Cl.ok w y) (hxf : x.fines) (hyf : y.fines) (hxi : x.ints) (hyi : y.ints) :
    Calls Try.prog 25 #[.agg x.cells.toArray, .agg y.cells.toArray] w fun e w' => e = .returned (.bool (coversD x y)) ∧ Below w.heap.size w w' := by
  obtain ⟨i0, hi, hz0, hz1, hz2⟩ := info_parts Try.info85
  have HV : Hid (coversD x y = if clauseE x = 0 ∧ clauseE y = 0 ∧ x.ls.length ≤ 6 then coversR (headPt x) (headPt y) (bodyPts x) (bodyPts y) else false) := Lib.hid rfl
  have HLN : Hid (x.ls.length = x.n) := Lib.hid (by have := hx.2.1.1; rw [lcells_length] at this; omega)
  rw [HLN.out] at HV
  have HTX := Lib.hid (fun W (h : Below w.heap.size w W) => clause_text x W (hx.up h) hxf hxi)
  have HTY := Lib.hid (fun W (h : Below w.heap.size w W) => clause_text y W (hy.up h) hyf hyi)
  have HEX := Lib.hid (clauseS_empty x)
  have HEY := Lib.hid (clauseS_empty y)
  have KX := Lib.hid (fun (h0 : clauseE x = 0) W (h : Below w.heap.size w W) => flat_ref x W (hx.up h) (Nat.le_trans (tot_le h0) (by omega)) (Nat.le_trans (clauseE_parts h0).2.1 (by omega)))
  have KY := Lib.hid (fun (h0 : clauseE y = 0) W (h : Below w.heap.size w W) => flat_ref y W (hy.up h) (Nat.le_trans (tot_le h0) (by omega)) (Nat.le_trans (clauseE_parts h0).2.1 (by omega)))
  have HNX : Hid (clauseE x = 0 → ((headPt x :: bodyPts x).flatMap Pt.ths).length ≤ 136) := Lib.hid (fun h => by rw [clause_ths, num_length]; exact tot_le h)
  have HLX : Hid ((headPt x :: bodyPts x).length = x.n + 1) := Lib.hid (by simp [bodyPts, pairL_length, HLN.out])
  have HLY : Hid (clauseE y = 0 → (headPt y :: bodyPts y).length ≤ 17 ∧ 1 ≤ (headPt y :: bodyPts y).length) := Lib.hid (fun h => by simp [bodyPts, pairL_length]; exact (clauseE_parts h).2.1)
  have HBX : Hid (bodyPts x = (headPt x :: bodyPts x).drop 1) := Lib.hid rfl
  have HBY : Hid (bodyPts y = (headPt y :: bodyPts y).drop 1) := Lib.hid rfl
  rw [HBX.out, HBY.out] at HV
  clear HBX HBY HLN
  generalize coversD x y = v at *
  generalize clauseS x = tx at *
  generalize clauseS y = ty at *
  generalize clauseE x = ex at *
  generalize clauseE y = ey at *
  have HP : Hid (∃ PX PY hX hY, PX = headPt x :: bodyPts x ∧ PY = headPt y :: bodyPts y ∧ hX = headPt x ∧ hY = headPt y ∧ PX.head? = some hX ∧ PY.head? = some hY) := Lib.hid ⟨_, _, _, _, rfl, rfl, rfl, rfl, rfl, rfl⟩
  obtain ⟨PX, PY, hX, hY, e1, e2, e3, e4, HhX, HhY⟩ := HP.out
  rw [← e1, ← e2, ← e3, ← e4] at HV
  rw [← e1] at HNX HLX
  rw [← e2] at HLY
  simp only [← e1] at KX
  simp only [← e2] at KY
  have HHX := Lib.hid HhX
  have HHY := Lib.hid HhY
  clear HP e1 e2 e3 e4 HhX HhY hx hy hxf hyf hxi hyi
  obtain ⟨⟨xp, xA, xn, xc, xo, xes⟩, xB, xm, xd, xls⟩ := x
  obtain ⟨⟨yp, yA, yn, yc, yo, yes⟩, yB, ym, yd, yls⟩ := y
  dsimp only at HV HLX
  show Calls Try.prog 25 #[.agg #[.string xp, .slice xA xn xc, .int .i64 xo, .slice xB xm xd], .agg #[.string yp, .slice yA yn yc, .int .i64 yo, .slice yB ym yd]] w _
  simp only [Cl.cells] at KX KY HTX HTY
  go_enter Try.func25, Try.ntmps25
  go_upto_region 1 with (fail)
  obtain ⟨hb3, h1, h2, hs3⟩ := two_alloc w 45 45 [.string xp, .slice xA xn xc, .int .i64 xo, .slice xB xm xd] [.string yp, .slice yA yn yc, .int .i64 yo, .slice yB ym yd]
  generalize World.alloc (World.alloc _ _) _ = w1 at *
  generalize hR : w.heap.size = R at *
  have HRR := Lib.hid hR
  clear hR
  have HB1 := Lib.hid hb3
  have H1 := Lib.hid h1
  have H2 := Lib.hid h2
  have f0 := h1.cell 0
  have f1 := h1.cell 1
  have f2 := h1.cell 2
  have f3 := h1.cell 3
  simp only [List.getElem?_cons_zero, List.getElem?_cons_succ] at f0 f1 f2 f3
  have hs1 : R ≤ w1.heap.size := by have := h2.lt; omega
  clear h1 h2 hb3 hs3
  have ka := HTX.out w1 HB1.out
  go_wp2_with fail
  refine ka.mono ?_
  rintro e w2 ⟨rfl, hb2⟩
  have HB2 := Lib.hid (HB1.out.trans (hb2.mono hs1))
  have J1 := Lib.hid (H1.out.below hb2 H1.out.lt)
  have J2 := Lib.hid (H2.out.below hb2 H2.out.lt)
  have hs2 : R ≤ w2.heap.size := Nat.le_trans hs1 hb2.size
  clear ka hb2 HB1 H1 H2 f0 f1 f2 f3 HTX
  have g0 := J2.out.cell 0
  have g1 := J2.out.cell 1
  have g2 := J2.out.cell 2
  have g3 := J2.out.cell 3
  have f3 := J1.out.cell 3
  simp only [List.getElem?_cons_zero, List.getElem?_cons_succ] at g0 g1 g2 g3 f3
  by_cases hex : ex = 0
  rotate_left
  · have hz : v = false := by rw [HV.out, if_neg (fun h => hex h.1)]
    have t0 : tx.toList.isEmpty = true := by rw [HEX.out, decide_eq_true hex]
    subst hz
    clear HV hex HEX HEY
    go_wp2
    go_ret
    exact ⟨by rfl, by rw [HRR.out]; exact HB2.out⟩
  have t0 : tx.toList.isEmpty = false := by rw [HEX.out, decide_eq_false (by simp [hex])]
  clear HEX
  have ka := HTY.out w2 HB2.out
  go_wp2_with fail
  refine ka.mono ?_
  rintro e w3 ⟨rfl, hb3⟩
  have HB3 := Lib.hid (HB2.out.trans (hb3.mono hs2))
  have L1 := Lib.hid (J1.out.below hb3 J1.out.lt)
  have L2 := Lib.hid (J2.out.below hb3 J2.out.lt)
  have hs3 : R ≤ w3.heap.size := Nat.le_trans hs2 hb3.size
  clear ka hb3 HB2 J1 J2 g0 g1 g2 g3 f3 HTY hs2
  have f0 := L1.out.cell 0
  have f1 := L1.out.cell 1
  have f2 := L1.out.cell 2
  have f3 := L1.out.cell 3
  simp only [List.getElem?_cons_zero, List.getElem?_cons_succ] at f0 f1 f2 f3
  by_cases hey : ey = 0
  rotate_left
  · have hz : v = false := by rw [HV.out, if_neg (fun h => hey h.2.1)]
    have t1 : ty.toList.isEmpty = true := by rw [HEY.out, decide_eq_true hey]
    subst hz
    clear HV hey HEY hex
    go_wp2
    go_ret
    exact ⟨by rfl, by rw [HRR.out]; exact HB3.out⟩
  have t1 : ty.toList.isEmpty = false := by rw [HEY.out, decide_eq_false (by simp [hey])]
  clear HEY
  by_cases h6 : xm ≤ 6
  rotate_left
  · have hz : v = false := by rw [HV.out, if_neg (fun h => h6 h.2.2)]
    have t2 : decide ((6 : Int) < (xm : Int)) = true := decide_eq_true (by omega)
    subst hz
    clear HV hex hey h6
    go_wp2
    go_ret
    exact ⟨by rfl, by rw [HRR.out]; exact HB3.out⟩
  have t2 : decide ((6 : Int) < (xm : Int)) = false := decide_eq_false (by omega)
  have HV2 : Hid (v = coversR hX hY (PX.drop 1) (PY.drop 1)) := Lib.hid (by rw [HV.out, if_pos ⟨hex, hey, h6⟩])
  have hnx := HNX.out hex
  have hly := HLY.out hey
  have ka := KX.out hex w3 HB3.out
  have KY2 := Lib.hid (KY.out hey)
  clear HV hex hey HNX HLY KX KY
  go_wp2_with fail
  refine ka.mono ?_
  rintro e w4 ⟨X, n1, c1, lX, rfl, hrX, hoX, hpX, hb4, hnc1, hcm1⟩
  have HB4 := Lib.hid (HB3.out.trans (hb4.mono hs3))
  have L4 := Lib.hid (L2.out.below hb4 L2.out.lt)
  have hs4 : R ≤ w4.heap.size := Nat.le_trans hs3 hb4.size
  have HrX := Lib.hid hrX
  have HoX := Lib.hid hoX
  have HpX := Lib.hid hpX
  clear ka hb4 HB3 L1 L2 f0 f1 f2 f3 hrX hoX hpX hs3
  have g0 := L4.out.cell 0
  have g1 := L4.out.cell 1
  have g2 := L4.out.cell 2
  have g3 := L4.out.cell 3
  simp only [List.getElem?_cons_zero, List.getElem?_cons_succ] at g0 g1 g2 g3
  have ka := KY2.out w4 HB4.out
  go_wp2_with fail
  refine ka.mono ?_
  rintro e w5 ⟨Y, n2, c2, lY, rfl, hrY, hoY, hpY, hb5, hnc2, hcm2⟩
  have HB5 := Lib.hid (HB4.out.trans (hb5.mono hs4))
  have hs5 : R ≤ w5.heap.size := Nat.le_trans hs4 hb5.size
  have JrX := Lib.hid (HrX.out.up hb5 hb5.size)
  have JoX : Hid (∀ y ∈ lX, Pm.ok w5 y) := Lib.hid fun y hy => (HoX.out y hy).up hb5
  have JrY := Lib.hid hrY
  have JoY := Lib.hid hoY
  have HlX : Hid (lX.length = n1) := Lib.hid (by have := HrX.out.1; rw [pmcells_length] at this; omega)
  have HlY : Hid (lY.length = n2) := Lib.hid (by have := hrY.1; rw [pmcells_length] at this; omega)
  have hn1 : n1 = xm + 1 := by rw [← HlX.out, ← HLX.out, ← HpX.out, List.length_map]
  have hn2 : n2 ≤ 17 ∧ 1 ≤ n2 := by
    have : n2 = PY.length := by rw [← HlY.out, ← hpY, List.length_map]
    omega
  subst hn1
  rw [← HpX.out, ← thsN_flat] at hnx
  have HHX2 : Hid (lX.head?.map Pm.pt = some hX) := Lib.hid (by rw [← HHX.out, ← HpX.out]; cases lX <;> rfl)
  have HHY2 : Hid (lY.head?.map Pm.pt = some hY) := Lib.hid (by rw [← HHY.out, ← hpY]; cases lY <;> rfl)
  rw [← HpX.out, ← hpY, ← List.map_drop, ← List.map_drop] at HV2
  have HTN := Lib.hid hnx
  clear ka hb5 HB4 L4 g0 g1 g2 g3 HrX HoX HpX hrY hoY hpY HLX HHX HHY KY2 hs4 hly hnx
  clear t0 t1 t2
  generalize hS : w5.heap.size = S at *
  have HS5 := Lib.hid hS
  clear hS
  obtain ⟨b, o, hk1, rfl, hB, hcc⟩ := JrX.out.at Pm.cells 4 (fun _ => rfl) (by omega) 0 (by omega)
  obtain ⟨b', o', hk2, rfl, hB', hdd⟩ := JrY.out.at Pm.cells 4 (fun _ => rfl) (by omega) 0 (by omega)
  have HX0 : Hid (lX[0].pt = hX) := Lib.hid (by
    have := HHX2.out
    rw [List.head?_eq_getElem?, List.getElem?_eq_getElem hk1] at this
    simpa using this)
  have HY0 : Hid (lY[0].pt = hY) := Lib.hid (by
    have := HHY2.out
    rw [List.head?_eq_getElem?, List.getElem?_eq_getElem hk2] at this
    simpa using this)
  have hox := JoX.out lX[0] (List.getElem_mem hk1)
  have hoy := JoY.out lY[0] (List.getElem_mem hk2)
  have HT0 := Lib.hid (thsN_drop lX 0 hk1)
  clear HHX2 HHY2
  generalize lX[0] = a at *
  generalize lY[0] = d at *
  have ha1 : a.ths.length = a.n := by have := hox.1; rw [thcells_length] at this; omega
  have htb := HTN.out
  rw [List.drop_zero] at HT0
  rw [HT0.out] at htb
  have HOX := Lib.hid hox
  have HOY := Lib.hid hoy
  clear hox hoy HT0
  have c0 := hcc 0 _ (by omega) rfl
  have c1' := hcc 1 _ (by omega) rfl
  have c2' := hcc 2 _ (by omega) rfl
  have c3 := hcc 3 _ (by omega) rfl
  have d0 := hdd 0 _ (by omega) rfl
  have d1 := hdd 1 _ (by omega) rfl
  have d2 := hdd 2 _ (by omega) rfl
  have d3 := hdd 3 _ (by omega) rfl
  simp only [Nat.zero_mul, Nat.add_zero] at c0 c1' c2' c3 d0 d1 d2 d3
  clear hcc hdd
  go_upto_region 5 with (fail)
  obtain ⟨C, hCi⟩ : ∃ C : World → Prop, ∀ w', C w' ↔ Below S w5 w' := ⟨_, fun _ => Iff.rfl⟩
  have KB : Hid (Below S w5 w5.drew) := Lib.hid (HS5.out ▸ ⟨rfl, rfl, rfl, Nat.le_refl _, fun _ _ => rfl⟩)
  have hbd : Below w5.heap.size w5 w5.drew := ⟨rfl, rfl, rfl, Nat.le_refl _, fun _ _ => rfl⟩
  have hC : C w5.drew := (hCi _).2 KB.out
  have k0 : ∀ p : WC C, p.w.cell? ⟨b, o, none⟩ = _ := fun p => (((hCi _).1 p.h).cell (p := ⟨b, o, none⟩) hB).trans c0
  have k1 : ∀ p : WC C, p.w.cell? ⟨b, o + 1, none⟩ = _ := fun p => (((hCi _).1 p.h).cell (p := ⟨b, o + 1, none⟩) hB).trans c1'
  have k2 : ∀ p : WC C, p.w.cell? ⟨b, o + 2, none⟩ = _ := fun p => (((hCi _).1 p.h).cell (p := ⟨b, o + 2, none⟩) hB).trans c2'
  have k3 : ∀ p : WC C, p.w.cell? ⟨b, o + 3, none⟩ = _ := fun p => (((hCi _).1 p.h).cell (p := ⟨b, o + 3, none⟩) hB).trans c3
  have k4 : ∀ p : WC C, p.w.cell? ⟨b', o', none⟩ = _ := fun p => (((hCi _).1 p.h).cell (p := ⟨b', o', none⟩) hB').trans d0
  have k5 : ∀ p : WC C, p.w.cell? ⟨b', o' + 1, none⟩ = _ := fun p => (((hCi _).1 p.h).cell (p := ⟨b', o' + 1, none⟩) hB').trans d1
  have k6 : ∀ p : WC C, p.w.cell? ⟨b', o' + 2, none⟩ = _ := fun p => (((hCi _).1 p.h).cell (p := ⟨b', o' + 2, none⟩) hB').trans d2
  have k7 : ∀ p : WC C, p.w.cell? ⟨b', o' + 3, none⟩ = _ := fun p => (((hCi _).1 p.h).cell (p := ⟨b', o' + 3, none⟩) hB').trans d3
  have kn : Nonempty (WC C) := ⟨⟨_, hC⟩⟩
  have hn2p : (0 : Int) < (n2 : Int) := by omega
  refine wp_region_frontN C [0, 1, 2, 3, 4, 5] 6 (fun j => decide (j < 12)) (by kernel_rfl) (fun _ _ d _ _ h => by cases d <;> exact h) (by kernel_rfl) hC ?_
  simp only [List.map_cons, List.map_nil, List.getD_cons_zero, List.getD_cons_succ]
  repeat (go_big_quiet_step (fail))
  refine wpQuiet_nil ?_
  have HCi := Lib.hid hCi
  have KX := Lib.hid (HOX.out.up hbd)
  have KY := Lib.hid (HOY.out.up hbd)
  have hszd : S ≤ w5.drew.heap.size := by rw [← HS5.out]; exact Nat.le_refl _
  clear k0 k1 k2 k3 k4 k5 k6 k7 hC hCi hbd HOX HOY c0 c1' c2' c3 d0 d1 d2 d3
  generalize w5.drew = wd at *
  have kf := fitted_ref none 0 0 [] a d wd (WyOk.nil wd).1 (WyOk.nil wd).2 (by omega) KX.out KY.out (by omega)
  simp only [Pm.cells] at kf
  refine wpN_one (i := 6) (by kernel_rfl) rfl ?_
  go_wp2_with fail
  refine kf.mono ?_
  rintro e w6 ⟨tA, tn, tc, rfl, hown6, hb6⟩
  have MB := Lib.hid (KB.out.trans (hb6.mono hszd))
  have hsz6 := Nat.le_trans hszd hb6.size
  go_wp2
  refine tailN_normal ((HCi.out _).2 MB.out) ?_
  refine wpN_one (i := 7) (by kernel_rfl) rfl ?_
  go_wp2
  refine tailN_normal ((HCi.out _).2 MB.out) ?_
  refine wpN_frontW C [8, 9, 10, 11] 0 _ (fun _ _ d _ _ h => by cases d <;> exact h) (by kernel_rfl) ((HCi.out _).2 MB.out) ?_
  simp only [List.map_cons, List.map_nil, List.getD_cons_zero, List.getD_cons_succ]
  repeat (go_big_quiet_step (fail))
  refine wpQuiet_nil ?_
  refine wpN_none (by kernel_rfl) ?_
  clear kn HCi C KB kf hn2p
  rw [HX0.out, HY0.out] at hown6
  rw [HX0.out, HY0.out]
  have HV3 : Hid (v = (match fitP [] hX hY with | none => false | some w => !(waysL ((lY.drop 1).map Pm.pt) [keptW w ((lX.drop 1).map Pm.pt)] ((lX.drop 1).map Pm.pt)).isEmpty)) := HV2
  cases hft : fitP [] hX hY with
  | none =>
    rw [hft] at HV3
    have hz : v = false := HV3.out
    subst hz
    clear hft HV2 HV3 hown6 hb6
    go_wp2
    go_ret
    exact ⟨by rfl, by rw [HRR.out]; exact HB5.out.trans (MB.out.mono hs5)⟩
  | some t =>
  rw [hft] at HV3 hown6
  have HV4 : Hid (v = !(waysL ((lY.drop 1).map Pm.pt) [keptW t ((lX.drop 1).map Pm.pt)] ((lX.drop 1).map Pm.pt)).isEmpty) := HV3
  rw [Option.getD_some] at hown6
  have htlen := fitP_len hft
  have JT := Lib.hid (WyOk.of hown6)
  have htn : tn ≤ a.n := by
    have e1 := JT.out.len
    have : hX.ths.length = a.ths.length := by rw [← HX0.out]; rfl
    simp only [List.length_nil, Nat.zero_add] at htlen
    omega
  clear hft HV2 HV3 hown6 hb6 htlen hszd KX KY HX0 HY0
  have HREST : Hid (∀ j, j ≤ xm + 1 → Rd w5 S 4 (some ⟨b, o + j * 4, none⟩) (xm + 1 - j) (pmcells (lX.drop j))) := Lib.hid (fun j hj => by
    have := Rd.rest JrX.out j hj
    rw [pmcells_drop] at this; exact this)
  have HOKD : Hid (∀ j, ∀ y ∈ lX.drop j, Pm.ok w5 y) := Lib.hid (fun j y hy => JoX.out y (List.drop_subset _ _ hy))
  obtain ⟨A8, hA8, hA8e⟩ := slice_parts b o (xm + 1) c1 1 (by omega)
  have HA8 := Lib.hid hA8
  have hr1 : Rd w6 w6.heap.size 4 A8 xm (pmcells (lX.drop 1)) := by
    by_cases hc : c1 = 1
    · have hz : xm = 0 := by omega
      subst hz
      have : lX.drop 1 = [] := List.drop_eq_nil_of_le (by have := HlX.out; omega)
      rw [this]
      exact ⟨rfl, by omega, fun h => absurd h (by omega)⟩
    · rw [hA8e hc]
      have := HREST.out 1 (by omega)
      rw [Nat.one_mul] at this ⊢
      exact (this.below MB.out).up (Below.refl _ _) hsz6
  clear hA8 hA8e
  have kk := kept_ref tA tn tc t A8 xm (c1 - 1) (lX.drop 1) w6 JT.out.1 (by omega) hr1 (fun y hy => (HOKD.out 1 y hy).up (HS5.out ▸ MB.out))
  clear hr1
  go_wp2_with (refine wpList_slice_by rfl 82 _ _ rfl _ _ (.slice A8 xm (c1 - 1)) rfl rfl (HA8.out _) ?_)
  refine kk.mono ?_
  rintro e w7 ⟨A7, n7, c7, rfl, hown7, hb7⟩
  have NB := Lib.hid (MB.out.trans (hb7.mono hsz6))
  have hsz7 := Nat.le_trans hsz6 hb7.size
  have hn7 : n7 ≤ tn := by
    have e1 := (WyOk.of hown7).len
    have e2 := JT.out.len
    have e3 := kept_len t ((lX.drop 1).map Pm.pt)
    omega
  have HO7 := Lib.hid (WyOk.of hown7)
  clear kk hown7 hb7 MB JT hsz6
  go_upto_region 9 with (fail)
  have hba := (Below.refl w7.heap.size w7).alloc (Nat.le_refl _) (.cells #[.slice A7 n7 c7] 85)
  have hrw : Rd (w7.alloc (.cells #[.slice A7 n7 c7] 85)) _ 1 (some ⟨w7.heap.size, 0, none⟩) 1 (wmcells [⟨A7, n7, c7, keptW t ((lX.drop 1).map Pm.pt)⟩]) := Rd_new w7 #[.slice A7 n7 c7] 85 1 1 rfl (by omega)
  have PB := Lib.hid (NB.out.trans (hba.mono hsz7))
  have HRW := Lib.hid hrw
  have HWO := Lib.hid (HO7.out.up hba)
  clear hrw hba NB HO7
  generalize World.alloc _ _ = w8 at *
  generalize w7.heap.size = W7 at *
  go_upto_region 10 with (fail)
  go_loopg [9, 10] xm (fun gk u9 u10 wr => ∃ (i nw cw : Nat) (Aw : Option Addr) (lw : List Wm), u10 = .int .i64 i ∧ u9 = .slice Aw nw cw ∧ 1 ≤ i ∧ i ≤ xm + 1 ∧ Hid (gk = xm + 1 - i) ∧ Hid (Below S w5 wr) ∧ Hid (Rd wr wr.heap.size 1 Aw nw (wmcells lw)) ∧
    Hid (∀ y ∈ lw, WyOk wr y.A y.n y.c y.ws ∧ y.n + thsN (lX.drop i) ≤ 1000000) ∧ nw ≤ 17 ^ (i - 1) ∧ Hid (v = !(waysL ((lY.drop 1).map Pm.pt) (lw.map Wm.ws) ((lX.drop i).map Pm.pt)).isEmpty))
  case atStart =>
    refine ⟨1, 1, 1, _, [⟨A7, n7, c7, keptW t ((lX.drop 1).map Pm.pt)⟩], rfl, rfl, Nat.le_refl _, by omega, Lib.hid (by omega), PB, HRW, Lib.hid (fun y hy => ?_), by decide, HV4⟩
    rw [List.mem_singleton] at hy
    subst hy
    refine ⟨HWO.out, ?_⟩
    show n7 + thsN (lX.drop 1) ≤ 1000000
    have htb' : a.ths.length + thsN (lX.drop 1) ≤ 136 := htb
    omega
  case round =>
    clear PB HRW HWO HV4
    obtain ⟨i, nw, cw, Aw, lw, rfl, rfl, hi1, hi2, HG, HB, HRW, HWO, hnw, HVV⟩ := hrel
    have hszr : S ≤ wr.heap.size := by have := HB.out.size; rw [HS5.out] at this; exact this
    have hnwb := HRW.out.2.1
    by_cases hlt : i < xm + 1
    rotate_left
    · obtain rfl : i = xm + 1 := by omega
      have hlw : lw.length = nw := by have := HRW.out.1; rw [wmcells_length] at this; omega
      have hz : v = decide (0 < nw) := by
        rw [HVV.out, waysL_end _ _ lX (xm + 1) (by have := HlX.out; omega), ← hlw]
        cases lw with
        | nil => rfl
        | cons y l => simp
      subst hz
      go_wp2
      go_ret
      exact ⟨by rfl, by rw [HRR.out]; exact HB5.out.trans (HB.out.mono hs5)⟩
    have hk1 : i < lX.length := by have := HlX.out; omega
    have HX1 : Hid (v = !(waysL ((lY.drop 1).map Pm.pt) (stepO lX[i].pt ((lX.drop (i + 1)).map Pm.pt) ((lY.drop 1).map Pm.pt) (lw.map Wm.ws) []) ((lX.drop (i + 1)).map Pm.pt)).isEmpty) := Lib.hid (by rw [HVV.out, waysL_drop _ _ lX i hk1])
    have HXC := Lib.hid (JrX.out.at Pm.cells 4 (fun _ => rfl) (by omega) i (by omega))
    have HTI := Lib.hid (thsN_drop lX i hk1)
    have hoxi := JoX.out lX[i] (List.getElem_mem hk1)
    obtain ⟨b2, o2, _, hbe, _, hcc⟩ := HXC.out
    injection hbe with hbe
    injection hbe with hb1 hb2
    subst hb1 hb2
    clear HXC HVV
    generalize lX[i] = x at *
    have HCC := Lib.hid hcc
    have HOXI := Lib.hid hoxi
    have hxn1 : x.ths.length = x.n := by have := hoxi.1; rw [thcells_length] at this; omega
    clear hcc hoxi
    generalize hres : stepO x.pt ((lX.drop (i + 1)).map Pm.pt) ((lY.drop 1).map Pm.pt) (lw.map Wm.ws) [] = res at *
    have HLW : Hid (lw.length = nw) := Lib.hid (by have := HRW.out.1; rw [wmcells_length] at this; omega)
    have HS0 : Hid (stepO x.pt ((lX.drop (i + 1)).map Pm.pt) ((lY.drop 1).map Pm.pt) ((lw.drop 0).map Wm.ws) (([] : List Wm).map Wm.ws) = res) := Lib.hid hres
    clear hres
    have hpw : nw ≤ 24137569 := Nat.le_trans hnw (Nat.le_trans (Nat.pow_le_pow_right (by omega) (by omega : i - 1 ≤ 6)) (by decide))
    have HPW : Hid (nw * 17 ≤ 17 ^ i) := Lib.hid (by
      have e : 17 ^ i = 17 ^ (i - 1) * 17 := by rw [← Nat.pow_succ]; congr 1; omega
      rw [e]; exact Nat.mul_le_mul_right 17 hnw)
    have HWOK : Hid (∀ y ∈ lw, y.n + x.n + thsN (lX.drop (i + 1)) ≤ 1000000) := Lib.hid (fun y hy => by
      have h1 := (HWO.out y hy).2
      rw [HTI.out] at h1
      omega)
    have HWO2 : Hid (∀ y ∈ lw, WyOk wr y.A y.n y.c y.ws) := Lib.hid (fun y hy => (HWO.out y hy).1)
    clear HWO HTI
    generalize hU : wr.heap.size = U at *
    have HU := Lib.hid hU
    clear hU
    have hBU : b < U ∧ b' < U := ⟨by omega, by omega⟩
    go_upto_region 14 with (fail)
    generalize hwo : wr = wo at *
    clear hwo
    go_loopg [11, 12] nw (fun gj u11 u12 w9 => ∃ (j m c9 : Nat) (A9 : Option Addr) (ln : List Wm), u12 = .int .i64 j ∧ u11 = .slice A9 m c9 ∧ j ≤ nw ∧ m ≤ j * 17 ∧ Hid (gj = nw - j) ∧ Hid (Below U wo w9) ∧ Hid (w9.ownsRow U 85 1 (.slice A9 m c9) m (wmcells ln)) ∧
      Hid (∀ y ∈ ln, w9.ownsRow U 135 8 (.slice y.A y.n y.c) y.n (prcells y.ws) ∧ y.n + thsN (lX.drop (i + 1)) ≤ 1000000) ∧ Hid (stepO x.pt ((lX.drop (i + 1)).map Pm.pt) ((lY.drop 1).map Pm.pt) ((lw.drop j).map Wm.ws) (ln.map Wm.ws) = res))
    case atStart => exact ⟨0, 0, 0, none, [], rfl, rfl, Nat.zero_le _, Nat.zero_le _, Lib.hid (by omega), Lib.hid (HU.out ▸ Below.refl _ _), Lib.hid (World.ownsRow_nil _ _ _ _), Lib.hid (by simp), HS0⟩
    case round =>
      clear HS0
      obtain ⟨j, m, c9, A9, ln, rfl, rfl, hj, hm, HGJ, HBJ, HLN, HLO, HSJ⟩ := hrel
      by_cases hlj : j < nw
      rotate_left
      · obtain rfl : j = nw := by omega
        have HFR : Hid (v = !(waysL ((lY.drop 1).map Pm.pt) (ln.map Wm.ws) ((lX.drop (i + 1)).map Pm.pt)).isEmpty) := Lib.hid (by
          have hd : lw.drop j = [] := List.drop_eq_nil_of_le (by have := HLW.out; omega)
          rw [HX1.out, ← HSJ.out, hd, List.map_nil, stepO])
        have HBN : Hid (Below S w5 wr) := Lib.hid (HB.out.trans (HBJ.out.mono hszr))
        have HRN := Lib.hid (own_rd HLN.out)
        have HWN : Hid (∀ y ∈ ln, WyOk wr y.A y.n y.c y.ws ∧ y.n + thsN (lX.drop (i + 1)) ≤ 1000000) := Lib.hid (fun y hy => ⟨WyOk.of (HLO.out y hy).1, (HLO.out y hy).2⟩)
        have hpn : m ≤ 17 ^ (i + 1 - 1) := Nat.le_trans hm HPW.out
        clear HSJ HX1 HLN HLO HBJ HCC HOXI HRW HWO2 HWOK HPW
        go_wp2
        go_roundg (xm + 1 - (i + 1))
        case measure => have := HG.out; omega
        case rel => exact ⟨i + 1, m, c9, A9, ln, by go_num, rfl, by omega, by omega, Lib.hid rfl, HBN, HRN, HWN, hpn, HFR⟩
      have hj1 : j < lw.length := by have := HLW.out; omega
      have HJC := Lib.hid (HRW.out.at Wm.cells 1 (fun _ => rfl) (by omega) j hlj)
      have HWK := Lib.hid (HWO2.out lw[j] (List.getElem_mem hj1))
      have HWB := Lib.hid (HWOK.out lw[j] (List.getElem_mem hj1))
      have HST := Lib.hid (stepO_drop x.pt ((lX.drop (i + 1)).map Pm.pt) ((lY.drop 1).map Pm.pt) lw (ln.map Wm.ws) j hj1)
      obtain ⟨bw, ow, _, hawe, hbw, hwc⟩ := HJC.out
      subst hawe
      clear HJC
      generalize lw[j] = z at *
      have HC0 : Hid (wo.cell? ⟨bw, ow + j, none⟩ = some (.slice z.A z.n z.c)) := Lib.hid (by have := hwc 0 _ (by omega) rfl; simpa using this)
      clear hwc
      have HZN := Lib.hid HWK.out.len
      rw [HST.out] at HSJ
      clear HST
      generalize hres2 : stepI z.ws x.pt ((lX.drop (i + 1)).map Pm.pt) ((lY.drop 1).map Pm.pt) (ln.map Wm.ws) = res2 at *
      have HI0 : Hid (stepI z.ws x.pt ((lX.drop (i + 1)).map Pm.pt) ((lY.drop 1).map Pm.pt) (ln.map Wm.ws) = res2) := Lib.hid hres2
      clear hres2
      go_upto_region 17 with (fail)
      go_loopg [11, 13] (n2 - 1) (fun gq u11 u13 w9 => ∃ (q m c9 : Nat) (A9 : Option Addr) (ln : List Wm), u13 = .int .i64 q ∧ u11 = .slice A9 m c9 ∧ 1 ≤ q ∧ q ≤ n2 ∧ m + 1 ≤ j * 17 + q ∧ Hid (gq = n2 - q) ∧ Hid (Below U wo w9) ∧ Hid (w9.ownsRow U 85 1 (.slice A9 m c9) m (wmcells ln)) ∧
        Hid (∀ y ∈ ln, w9.ownsRow U 135 8 (.slice y.A y.n y.c) y.n (prcells y.ws) ∧ y.n + thsN (lX.drop (i + 1)) ≤ 1000000) ∧ Hid (stepI z.ws x.pt ((lX.drop (i + 1)).map Pm.pt) ((lY.drop q).map Pm.pt) (ln.map Wm.ws) = res2))
      case atStart => exact ⟨1, m, c9, A9, ln, rfl, rfl, Nat.le_refl _, by omega, by omega, Lib.hid rfl, HBJ, HLN, HLO, HI0⟩
      case round =>
        clear HI0 HBJ HLN HLO
        obtain ⟨q, m, c9, A9, ln, rfl, rfl, hq1, hq2, hm, HGQ, HBJ, HLN, HLO, HSI⟩ := hrel
        by_cases hlq : q < n2
        rotate_left
        · obtain rfl : q = n2 := by omega
          have HSN : Hid (stepO x.pt ((lX.drop (i + 1)).map Pm.pt) ((lY.drop 1).map Pm.pt) ((lw.drop (j + 1)).map Wm.ws) (ln.map Wm.ws) = res) := Lib.hid (by
            have hd : lY.drop q = [] := List.drop_eq_nil_of_le (by have := HlY.out; omega)
            have := HSI.out
            rw [hd, List.map_nil, stepI] at this
            rw [this]; exact HSJ.out)
          clear HSI HSJ HWK HWB HC0 HZN
          go_wp2
          go_roundg (nw - (j + 1))
          case measure => have := HGJ.out; omega
          case rel => exact ⟨j + 1, m, c9, A9, ln, by go_num, rfl, by omega, by omega, Lib.hid rfl, HBJ, HLN, HLO, HSN⟩
        have hq1 : q < lY.length := by have := HlY.out; omega
        have HYC := Lib.hid (JrY.out.at Pm.cells 4 (fun _ => rfl) (by omega) q hlq)
        have hoyq := JoY.out lY[q] (List.getElem_mem hq1)
        have HSQ : Hid (stepI z.ws x.pt ((lX.drop (i + 1)).map Pm.pt) ((lY.drop (q + 1)).map Pm.pt) (match fitP z.ws x.pt lY[q].pt with | some w' => joinedW (ln.map Wm.ws) (keptW w' ((lX.drop (i + 1)).map Pm.pt)) | none => ln.map Wm.ws) = res2) := Lib.hid (by rw [← HSI.out, stepI_drop z.ws x.pt _ lY _ q hq1])
        obtain ⟨b3, o3, _, hbe, _, hdd⟩ := HYC.out
        injection hbe with hbe
        injection hbe with hb1 hb2
        subst hb1 hb2
        clear HYC HSI
        generalize lY[q] = dq at *
        have d0 := hdd 0 _ (by omega) rfl
        have d1 := hdd 1 _ (by omega) rfl
        have d2 := hdd 2 _ (by omega) rfl
        have d3 := hdd 3 _ (by omega) rfl
        rw [Nat.add_zero] at d0
        have c0 := HCC.out 0 _ (by omega) rfl
        have c1' := HCC.out 1 _ (by omega) rfl
        have c2' := HCC.out 2 _ (by omega) rfl
        have c3 := HCC.out 3 _ (by omega) rfl
        rw [Nat.add_zero] at c0
        clear hdd
        have hwb := HWB.out
        have hszq : U ≤ wr.heap.size := by have := HBJ.out.size; rw [HU.out] at this; exact this
        have HOD : Hid (Pm.ok wr dq) := Lib.hid ((hoyq.up (HS5.out ▸ HB.out)).up (HU.out ▸ HBJ.out))
        have HOX3 : Hid (Pm.ok wr x) := Lib.hid ((HOXI.out.up (HS5.out ▸ HB.out)).up (HU.out ▸ HBJ.out))
        have HWZ := Lib.hid (HWK.out.up (HU.out ▸ HBJ.out))
        clear hoyq
        go_upto_region 19 with (fail)
        obtain ⟨C, hCi⟩ : ∃ C : World → Prop, ∀ w', C w' ↔ Below U wo w' := ⟨_, fun _ => Iff.rfl⟩
        have hbd : Below wr.heap.size wr wr.drew := ⟨rfl, rfl, rfl, Nat.le_refl _, fun _ _ => rfl⟩
        have KB := Lib.hid (HBJ.out.trans (hbd.mono hszq))
        have hC : C wr.drew := (hCi _).2 KB.out
        have k0 : ∀ p : WC C, p.w.cell? ⟨bw, ow + j, none⟩ = _ := fun p => (((hCi _).1 p.h).cell (p := ⟨bw, ow + j, none⟩) hbw).trans HC0.out
        have k1 : ∀ p : WC C, p.w.cell? ⟨b, o + i * 4, none⟩ = _ := fun p => (((hCi _).1 p.h).cell (p := ⟨b, o + i * 4, none⟩) hBU.1).trans ((HB.out.cell (p := ⟨b, o + i * 4, none⟩) hB).trans c0)
        have k2 : ∀ p : WC C, p.w.cell? ⟨b, o + i * 4 + 1, none⟩ = _ := fun p => (((hCi _).1 p.h).cell (p := ⟨b, o + i * 4 + 1, none⟩) hBU.1).trans ((HB.out.cell (p := ⟨b, o + i * 4 + 1, none⟩) hB).trans c1')
        have k3 : ∀ p : WC C, p.w.cell? ⟨b, o + i * 4 + 2, none⟩ = _ := fun p => (((hCi _).1 p.h).cell (p := ⟨b, o + i * 4 + 2, none⟩) hBU.1).trans ((HB.out.cell (p := ⟨b, o + i * 4 + 2, none⟩) hB).trans c2')
        have k4 : ∀ p : WC C, p.w.cell? ⟨b, o + i * 4 + 3, none⟩ = _ := fun p => (((hCi _).1 p.h).cell (p := ⟨b, o + i * 4 + 3, none⟩) hBU.1).trans ((HB.out.cell (p := ⟨b, o + i * 4 + 3, none⟩) hB).trans c3)
        have k5 : ∀ p : WC C, p.w.cell? ⟨b', o' + q * 4, none⟩ = _ := fun p => (((hCi _).1 p.h).cell (p := ⟨b', o' + q * 4, none⟩) hBU.2).trans ((HB.out.cell (p := ⟨b', o' + q * 4, none⟩) hB').trans d0)
        have k6 : ∀ p : WC C, p.w.cell? ⟨b', o' + q * 4 + 1, none⟩ = _ := fun p => (((hCi _).1 p.h).cell (p := ⟨b', o' + q * 4 + 1, none⟩) hBU.2).trans ((HB.out.cell (p := ⟨b', o' + q * 4 + 1, none⟩) hB').trans d1)
        have k7 : ∀ p : WC C, p.w.cell? ⟨b', o' + q * 4 + 2, none⟩ = _ := fun p => (((hCi _).1 p.h).cell (p := ⟨b', o' + q * 4 + 2, none⟩) hBU.2).trans ((HB.out.cell (p := ⟨b', o' + q * 4 + 2, none⟩) hB').trans d2)
        have k8 : ∀ p : WC C, p.w.cell? ⟨b', o' + q * 4 + 3, none⟩ = _ := fun p => (((hCi _).1 p.h).cell (p := ⟨b', o' + q * 4 + 3, none⟩) hBU.2).trans ((HB.out.cell (p := ⟨b', o' + q * 4 + 3, none⟩) hB').trans d3)
        have kn : Nonempty (WC C) := ⟨⟨_, hC⟩⟩
        refine wp_region_frontN C [0, 1, 2, 3, 4, 5, 6, 7, 8, 9, 10, 11] 6 (fun j => decide (j < 18)) (by kernel_rfl) (fun _ _ d _ _ h => by cases d <;> exact h) (by kernel_rfl) hC ?_
        simp only [List.map_cons, List.map_nil, List.getD_cons_zero, List.getD_cons_succ]
        repeat (go_big_quiet_step (fail))
        refine wpQuiet_nil ?_
        have HCi := Lib.hid hCi
        have KX := Lib.hid (HOX3.out.up hbd)
        have KY := Lib.hid (HOD.out.up hbd)
        have KZ := Lib.hid (HWZ.out.up hbd)
        have KLN := Lib.hid (own_below HLN.out hbd)
        have KLO : Hid (∀ y ∈ ln, wr.drew.ownsRow U 135 8 (.slice y.A y.n y.c) y.n (prcells y.ws) ∧ y.n + thsN (lX.drop (i + 1)) ≤ 1000000) := Lib.hid (fun y hy => ⟨own_below (HLO.out y hy).1 hbd, (HLO.out y hy).2⟩)
        have hszd : U ≤ wr.drew.heap.size := hszq
        clear k0 k1 k2 k3 k4 k5 k6 k7 k8 hC hCi hbd HOX3 HOD HWZ HLN HLO HBJ c0 c1' c2' c3 d0 d1 d2 d3
        generalize wr.drew = wd at *
        have kf := fitted_ref z.A z.n z.c z.ws x dq wd KZ.out.1 KZ.out.2 (by omega) KX.out KY.out (by omega)
        simp only [Pm.cells] at kf
        refine wpN_one (i := 12) (by kernel_rfl) rfl ?_
        go_wp2_with fail
        refine kf.mono ?_
        rintro e wf ⟨tA, tn, tc, rfl, hownf, hbf⟩
        have MB := Lib.hid (KB.out.trans (hbf.mono hszd))
        have hszf := Nat.le_trans hszd hbf.size
        go_wp2
        refine tailN_normal ((HCi.out _).2 MB.out) ?_
        refine wpN_one (i := 13) (by kernel_rfl) rfl ?_
        go_wp2
        refine tailN_normal ((HCi.out _).2 MB.out) ?_
        refine wpN_frontW C [14, 15, 16, 17] 0 _ (fun _ _ d _ _ h => by cases d <;> exact h) (by kernel_rfl) ((HCi.out _).2 MB.out) ?_
        simp only [List.map_cons, List.map_nil, List.getD_cons_zero, List.getD_cons_succ]
        repeat (go_big_quiet_step (fail))
        refine wpQuiet_nil ?_
        refine wpN_none (by kernel_rfl) ?_
        have MLN := Lib.hid (own_below KLN.out hbf)
        have MLO : Hid (∀ y ∈ ln, wf.ownsRow U 135 8 (.slice y.A y.n y.c) y.n (prcells y.ws) ∧ y.n + thsN (lX.drop (i + 1)) ≤ 1000000) := Lib.hid (fun y hy => ⟨own_below (KLO.out y hy).1 hbf, (KLO.out y hy).2⟩)
        clear kn HCi C KB kf KX KY KZ KLN KLO
        cases hft : fitP z.ws x.pt dq.pt with
        | none =>
          rw [hft] at HSQ
          have HSQ2 : Hid (stepI z.ws x.pt ((lX.drop (i + 1)).map Pm.pt) ((lY.drop (q + 1)).map Pm.pt) (ln.map Wm.ws) = res2) := HSQ
          clear hft HSQ hownf hbf
          go_wp2
          go_roundg (n2 - (q + 1))
          case measure => have := HGQ.out; omega
          case rel => exact ⟨q + 1, m, c9, A9, ln, by go_num, rfl, by omega, by omega, by omega, Lib.hid rfl, MB, MLN, MLO, HSQ2⟩
        | some t =>
        rw [hft] at HSQ hownf
        have HSQ2 : Hid (stepI z.ws x.pt ((lX.drop (i + 1)).map Pm.pt) ((lY.drop (q + 1)).map Pm.pt) (joinedW (ln.map Wm.ws) (keptW t ((lX.drop (i + 1)).map Pm.pt))) = res2) := HSQ
        rw [Option.getD_some] at hownf
        have htlen := fitP_len hft
        have JT := Lib.hid (WyOk.of hownf)
        have htn : tn ≤ z.n + x.n := by
          have e1 := JT.out.len
          have e2 := HZN.out
          have e3 : (Pm.pt x).ths.length = x.ths.length := rfl
          omega
        clear hft HSQ hownf hbf htlen hszd
        obtain ⟨A8, hA8, hA8e⟩ := slice_parts b o (xm + 1) c1 (i + 1) (by omega)
        have hxi : xm + 1 - (i + 1) = xm - i := by omega
        rw [hxi] at hA8
        have HA8 := Lib.hid hA8
        have hr1 : Rd wf wf.heap.size 4 A8 (xm - i) (pmcells (lX.drop (i + 1))) := by
          have hin : i + 1 ≤ xm + 1 := by omega
          by_cases hc : c1 = i + 1
          · have hz : xm - i = 0 := by omega
            rw [hz]
            have : lX.drop (i + 1) = [] := List.drop_eq_nil_of_le (by have := HlX.out; omega)
            rw [this]
            exact ⟨rfl, by omega, fun h => absurd h (by omega)⟩
          · rw [hA8e hc, ← hxi]
            exact (((HREST.out (i + 1) hin).below HB.out).up (Below.refl _ _) hszr).below (MB.out) |>.up (Below.refl _ _) hszf
        clear hA8 hA8e hxi
        have kk := kept_ref tA tn tc t A8 (xm - i) (c1 - (i + 1)) (lX.drop (i + 1)) wf JT.out.1 (by omega) hr1 (fun y hy => ((HOKD.out (i + 1) y hy).up (HS5.out ▸ HB.out)).up (HU.out ▸ MB.out))
        clear hr1
        go_wp2_with (refine wpList_slice_by rfl 82 _ _ rfl _ _ (.slice A8 (xm - i) (c1 - (i + 1))) rfl rfl (HA8.out _) ?_)
        refine kk.mono ?_
        rintro e wk ⟨kA, kn, kc, rfl, hownk, hbk⟩
        have hszk : U ≤ wk.heap.size := Nat.le_trans hszf hbk.size
        have hownk2 := own_le hownk hszf
        have hkn : kn ≤ tn := by
          have e1 := (WyOk.of hownk).len
          have e2 := JT.out.len
          have e3 := kept_len t ((lX.drop (i + 1)).map Pm.pt)
          omega
        have NB := Lib.hid (MB.out.trans (hbk.mono hszf))
        have NLN := Lib.hid (own_below MLN.out hbk)
        have NLO : Hid (∀ y ∈ ln, wk.ownsRow U 135 8 (.slice y.A y.n y.c) y.n (prcells y.ws) ∧ y.n + thsN (lX.drop (i + 1)) ≤ 1000000) := Lib.hid (fun y hy => ⟨own_below (MLO.out y hy).1 hbk, (MLO.out y hy).2⟩)
        have NK := Lib.hid hownk2
        have HJM := Lib.hid (joined_map ln ⟨kA, kn, kc, keptW t ((lX.drop (i + 1)).map Pm.pt)⟩)
        have kj := joined_ref U A9 m c9 ln ⟨kA, kn, kc, keptW t ((lX.drop (i + 1)).map Pm.pt)⟩ wk NLN.out hszk (by omega) (fun y hy => own_rd (NLO.out y hy).1) (own_rd hownk2)
        clear kk hownk hownk2 hbk MB MLN MLO JT
        rw [← HJM.out] at HSQ2
        generalize hln : (if anyW ln (Wm.ws ⟨kA, kn, kc, keptW t ((lX.drop (i + 1)).map Pm.pt)⟩) = true then ln else ln ++ [⟨kA, kn, kc, keptW t ((lX.drop (i + 1)).map Pm.pt)⟩]) = ln2 at *
        have HIN : Hid (∀ y ∈ ln2, y ∈ ln ∨ y = ⟨kA, kn, kc, keptW t ((lX.drop (i + 1)).map Pm.pt)⟩) := Lib.hid (fun y hy => by
          rw [← hln] at hy
          split at hy
          · exact .inl hy
          · rcases List.mem_append.1 hy with h | h
            · exact .inl h
            · exact .inr (by simpa using h))
        clear hln HJM
        go_wp2_with fail
        refine kj.mono ?_
        rintro e wj ⟨jA, jn, jc, rfl, hjn, hownj, hgj⟩
        have PB : Hid (Below U wo wj) := Lib.hid (NB.out.grown hgj hszk (fun q hq => (NLN.out.lt q hq).1))
        have PLN := Lib.hid hownj
        have PLO : Hid (∀ y ∈ ln2, wj.ownsRow U 135 8 (.slice y.A y.n y.c) y.n (prcells y.ws) ∧ y.n + thsN (lX.drop (i + 1)) ≤ 1000000) := Lib.hid (fun y hy => by
          rcases HIN.out y hy with h | rfl
          · exact ⟨own_kept_types (NLO.out y h).1 NLN.out (by decide) hgj, (NLO.out y h).2⟩
          · refine ⟨own_kept_types NK.out NLN.out (by decide) hgj, ?_⟩
            show kn + thsN (lX.drop (i + 1)) ≤ 1000000
            omega)
        clear kj hownj hgj NB NLN NLO NK HIN
        go_wp2
        go_roundg (n2 - (q + 1))
        case measure => have := HGQ.out; omega
        case rel => exact ⟨q + 1, jn, jc, jA, ln2, by go_num, rfl, by omega, by omega, by omega, Lib.hid rfl, PB, PLN, PLO, HSQ2⟩
end Go.Proofs.Ytjcgkplphiedjaa
