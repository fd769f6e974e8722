/- Comparisons of constants: the document's and the program's. | What can be seen of a test alone: the document's verdict and the program's compared. -/
import Derived.Test.YtjcgkplphiedjaaGr
import Derived.Test.YtjcgkplphiedjaaGs
namespace Go.Proofs.Ytjcgkplphiedjaa
open Go.RowKit Go.Sort

set_option maxRecDepth 20000 in
set_option maxHeartbeats 8000000 in
theorem cmp_any (op k i : Int) (s : ByteArray) (l j : Int) (t : ByteArray) (hs : s.size ≤ 9223372036854775807) (ht : t.size ≤ 9223372036854775807) (w : World) :
    Calls Try.prog 69 #[.int .i64 op, .agg #[.int .i64 k, .int .i64 i, .string s], .agg #[.int .i64 l, .int .i64 j, .string t]] w fun e w' => e = .returned (.tuple #[.bool (cmpR op k i s l j t), .int .i64 (cmpErr op k i s l j t)]) ∧ Below w.heap.size w w' := by
  have HV : Hid (cmpR op k i s l j t = if op < 1 ∨ 6 < op then false else if validC k i s = true then (if validC l j t = true then holdsB op (cmpC k i s l j t) else false) else false) := Lib.hid rfl
  have HE : Hid (cmpErr op k i s l j t = if op < 1 ∨ 6 < op then 2 else if validC k i s = true then (if validC l j t = true then 0 else 5) else 5) := Lib.hid rfl
  have HKA := Lib.hid (fun W => valid_sym k i s hs W)
  have HKB := Lib.hid (fun W => valid_sym l j t ht W)
  have HKC := Lib.hid (fun W => compare_any k i s l j t W)
  generalize cmpR op k i s l j t = v at *
  generalize cmpErr op k i s l j t = er at *
  generalize validC k i s = va at *
  generalize validC l j t = vb at *
  generalize cmpC k i s l j t = c at *
  go_enter Try.func69, Try.ntmps69
  go_upto_region 1 with (fail)
  obtain ⟨hb3, h1, h2, hs3⟩ := two_alloc w 110 110 [.int .i64 k, .int .i64 i, .string s] [.int .i64 l, .int .i64 j, .string t]
  generalize World.alloc (World.alloc _ _) _ = w1 at *
  generalize hR : w.heap.size = R at *
  have HRR := Lib.hid hR
  clear hR
  have HB1 := Lib.hid hb3
  have H1 := Lib.hid h1
  have H2 := Lib.hid h2
  have f0 := (h1.cell 0).trans rfl
  have f1 := (h1.cell 1).trans rfl
  have f2 := (h1.cell 2).trans rfl
  clear h1 h2 hb3 hs3
  by_cases ho : op < 1
  · have hv : v = false := by rw [HV.out, if_pos (.inl ho)]
    have he : er = 2 := by rw [HE.out, if_pos (.inl ho)]
    have t1 := decide_eq_true ho
    subst hv
    subst he
    clear HV HE ho
    go_wp2
    go_ret2
    exact ⟨by rfl, by rw [HRR.out]; exact HB1.out⟩
  by_cases ho2 : 6 < op
  · have hv : v = false := by rw [HV.out, if_pos (.inr ho2)]
    have he : er = 2 := by rw [HE.out, if_pos (.inr ho2)]
    have t1 := decide_eq_false ho
    have t2 := decide_eq_true ho2
    subst hv
    subst he
    clear HV HE ho ho2
    go_wp2
    go_ret2
    exact ⟨by rfl, by rw [HRR.out]; exact HB1.out⟩
  have t1 := decide_eq_false ho
  have t2 := decide_eq_false ho2
  replace HV := Lib.hid (HV.out.trans (if_neg (by omega)))
  replace HE := Lib.hid (HE.out.trans (if_neg (by omega)))
  go_upto_region 3 with (fail)
  go_wp2_with fail
  refine (HKA.out _).mono ?_
  rintro e w2 ⟨rfl, hb2⟩
  have HB2 := Lib.hid (HB1.out.trans (hb2.mono (by have := H1.out.lt; omega)))
  have K1 := Lib.hid (H1.out.below hb2 H1.out.lt)
  have K2 := Lib.hid (H2.out.below hb2 H2.out.lt)
  have g0 := (K2.out.cell 0).trans rfl
  have g1 := (K2.out.cell 1).trans rfl
  have g2 := (K2.out.cell 2).trans rfl
  clear hb2 f0 f1 f2 H1 H2 HB1
  cases va with
  | false =>
    have hv : v = false := by rw [HV.out]; simp
    have he : er = 5 := by rw [HE.out]; simp
    subst hv
    subst he
    clear HV HE
    go_wp2
    go_ret2
    exact ⟨by rfl, by rw [HRR.out]; exact HB2.out⟩
  | true =>
  replace HV := Lib.hid (HV.out.trans (if_pos rfl))
  replace HE := Lib.hid (HE.out.trans (if_pos rfl))
  go_wp2_with fail
  refine (HKB.out _).mono ?_
  rintro e w3 ⟨rfl, hb3⟩
  have HB3 := Lib.hid (HB2.out.trans (hb3.mono (by have := K1.out.lt; omega)))
  have L1 := Lib.hid (K1.out.below hb3 K1.out.lt)
  have L2 := Lib.hid (K2.out.below hb3 K2.out.lt)
  have f0 := (L1.out.cell 0).trans rfl
  have f1 := (L1.out.cell 1).trans rfl
  have f2 := (L1.out.cell 2).trans rfl
  clear hb3 g0 g1 g2 K1 K2 HB2
  have g0 := (L2.out.cell 0).trans rfl
  have g1 := (L2.out.cell 1).trans rfl
  have g2 := (L2.out.cell 2).trans rfl
  cases vb with
  | false =>
    have hv : v = false := by rw [HV.out]; simp
    have he : er = 5 := by rw [HE.out]; simp
    subst hv
    subst he
    clear HV HE
    go_wp2
    go_ret2
    exact ⟨by rfl, by rw [HRR.out]; exact HB3.out⟩
  | true =>
  replace HV := Lib.hid (HV.out.trans (if_pos rfl))
  have he : er = 0 := HE.out.trans (if_pos rfl)
  subst he
  clear HE
  go_wp2_with fail
  refine (HKC.out _).mono ?_
  rintro e w4 ⟨rfl, hb4⟩
  have HB4 := Lib.hid (HB3.out.trans (hb4.mono (by have := L1.out.lt; omega)))
  clear hb4 L1 L2 f0 f1 f2 g0 g1 g2 HB3
  by_cases e1 : op = 1
  · have hv : v = (c == 0) := by rw [HV.out]; unfold holdsB; subst e1; simp
    subst e1
    subst hv
    clear HV
    go_wp2
    go_ret2
    exact ⟨by rfl, by rw [HRR.out]; exact HB4.out⟩
  have q1 : (op == 1) = false := by simpa using e1
  by_cases e2 : op = 2
  · have hv : v = (c != 0) := by rw [HV.out]; unfold holdsB; subst e2; simp
    subst e2
    subst hv
    clear HV
    go_wp2
    go_ret2
    exact ⟨by rfl, by rw [HRR.out]; exact HB4.out⟩
  have q2 : (op == 2) = false := by simpa using e2
  by_cases e3 : op = 3
  · have hv : v = (decide (c < 0)) := by rw [HV.out]; unfold holdsB; subst e3; simp
    subst e3
    subst hv
    clear HV
    go_wp2
    go_ret2
    exact ⟨by rfl, by rw [HRR.out]; exact HB4.out⟩
  have q3 : (op == 3) = false := by simpa using e3
  by_cases e4 : op = 4
  · have hv : v = (decide (c ≤ 0)) := by rw [HV.out]; unfold holdsB; subst e4; simp
    subst e4
    subst hv
    clear HV
    go_wp2
    go_ret2
    exact ⟨by rfl, by rw [HRR.out]; exact HB4.out⟩
  have q4 : (op == 4) = false := by simpa using e4
  by_cases e5 : op = 5
  · have hv : v = (decide (0 < c)) := by rw [HV.out]; unfold holdsB; subst e5; simp
    subst e5
    subst hv
    clear HV
    go_wp2
    go_ret2
    exact ⟨by rfl, by rw [HRR.out]; exact HB4.out⟩
  have q5 : (op == 5) = false := by simpa using e5
  have hv : v = decide (0 ≤ c) := by rw [HV.out]; unfold holdsB; rw [if_neg e1, if_neg e2, if_neg e3, if_neg e4, if_neg e5]
  subst hv
  clear HV
  go_wp2
  go_ret2
  exact ⟨by rfl, by rw [HRR.out]; exact HB4.out⟩
end Go.Proofs.Ytjcgkplphiedjaa

namespace Go.Proofs.Ytjcgkplphiedjaa
open Go.RowKit Go.Sort

theorem verdI_eq (x : Li) : verdI x = if x.k = 3 then (if sideEq x.l x.r = true then (if opIdle x.op = true then 1 else -1) else if sideFix x.l x.r = true then (if cmpR x.op x.l.k x.l.i x.l.t x.r.k x.r.i x.r.t = true then 1 else -1) else 0) else 0 := by
  unfold verdI verdB
  by_cases h : x.k = 3
  · simp only [if_pos h]
    cases sideEq x.l x.r
    · cases sideFix x.l x.r
      · rfl
      · cases cmpR x.op x.l.k x.l.i x.l.t x.r.k x.r.i x.r.t <;> rfl
    · cases opIdle x.op <;> rfl
  · simp only [if_neg h]
theorem seen_none {x : Li} (h : verdB x = none) : idleB x = false ∧ voidB x = false := by
  unfold idleB voidB
  rw [h]
  exact ⟨rfl, rfl⟩
theorem seen_some {x : Li} {b : Bool} (h : verdB x = some b) : idleB x = b ∧ voidB x = !b := by
  unfold idleB voidB
  rw [h]
  cases b <;> exact ⟨rfl, rfl⟩

set_option maxRecDepth 200000 in
set_option maxHeartbeats 8000000 in
theorem compared_any (x : Li) (w : World) (hf : x.fine) (hw : x.k = 3 → sideSame x.l x.r = sideEq x.l x.r) :
    Calls Try.prog 43 #[.agg x.cells.toArray] w fun e w' => e = .returned (.tuple #[.bool (idleB x), .bool (voidB x)]) ∧ Below w.heap.size w w' := by
  have HSM := Lib.hid (fun W => same_any x.l x.r W)
  have HVL := Lib.hid (fun W => variable_any x.l.k x.l.i x.l.o x.l.t W)
  have HVR := Lib.hid (fun W => variable_any x.r.k x.r.i x.r.o x.r.t W)
  have HCL := Lib.hid (fun W => constantL_any x.l.k x.l.i x.l.o x.l.t W)
  have HCR := Lib.hid (fun W => constantL_any x.r.k x.r.i x.r.o x.r.t W)
  have HCP := Lib.hid (fun W => cmp_any x.op x.l.k x.l.i x.l.t x.r.k x.r.i x.r.t hf.2.1 hf.2.2 W)
  have HN : Hid (verdB x = none → idleB x = false ∧ voidB x = false) := Lib.hid seen_none
  have HS : Hid (∀ b, verdB x = some b → idleB x = b ∧ voidB x = !b) := Lib.hid fun _ => seen_some
  have HV : Hid (verdB x = if x.k = 3 then (if (likeT x.l x.r && !noName x.l.k x.l.t) = true ∧ x.l.k = 4 then some (opIdle x.op) else if x.l.k ≠ 4 ∧ x.r.k ≠ 4 then some (cmpR x.op x.l.k x.l.i x.l.t x.r.k x.r.i x.r.t) else none) else none) := Lib.hid (by
    unfold verdB
    by_cases h3 : x.k = 3
    · simp only [if_pos h3]
      rw [← hw h3]
      have e1 : sideSame x.l x.r = true ↔ ((likeT x.l x.r && !noName x.l.k x.l.t) = true ∧ x.l.k = 4) := by
        unfold sideSame T.nn
        rw [Bool.and_eq_true, beq_iff_eq]
      have e2 : sideFix x.l x.r = true ↔ (x.l.k ≠ 4 ∧ x.r.k ≠ 4) := by unfold sideFix; rw [decide_eq_true_eq]
      by_cases h1 : sideSame x.l x.r = true
      · rw [if_pos h1, if_pos (e1.1 h1)]
      · rw [if_neg h1, if_neg (fun h => h1 (e1.2 h))]
        by_cases h2 : sideFix x.l x.r = true
        · rw [if_pos h2, if_pos (e2.1 h2)]
        · rw [if_neg h2, if_neg (fun h => h2 (e2.2 h))]
    · simp only [if_neg h3])
  obtain ⟨k, ⟨p, A, n, c, o, es⟩, op, ⟨lk, li, lt, lo⟩, ⟨rk, ri, rt, ro⟩, of⟩ := x
  clear hf hw
  dsimp only [T.cells] at HSM HVL HVR HCL HCR HCP HV
  generalize idleB _ = vi at *
  generalize voidB _ = vv at *
  generalize verdB _ = vb at *
  generalize (likeT _ _ && _) = u at *
  generalize cmpR _ _ _ _ _ _ _ = b at *
  generalize cmpErr _ _ _ _ _ _ _ = er at *
  show Calls Try.prog 43 #[.agg #[.int .i64 k, .string p, .slice A n c, .int .i64 o, .int .i64 op, .int .i64 lk, .int .i64 li, .string lt, .int .i64 lo, .int .i64 rk, .int .i64 ri, .string rt, .int .i64 ro, .int .i64 of]] w _
  go_enter Try.func43, Try.ntmps43
  go_upto_region 1 with (fail)
  have hb1 := (Below.refl w.heap.size w).alloc (Nat.le_refl _) (.cells #[.int .i64 k, .string p, .slice A n c, .int .i64 o, .int .i64 op, .int .i64 lk, .int .i64 li, .string lt, .int .i64 lo, .int .i64 rk, .int .i64 ri, .string rt, .int .i64 ro, .int .i64 of] 61)
  have h1 := Blk.new w 61 [.int .i64 k, .string p, .slice A n c, .int .i64 o, .int .i64 op, .int .i64 lk, .int .i64 li, .string lt, .int .i64 lo, .int .i64 rk, .int .i64 ri, .string rt, .int .i64 ro, .int .i64 of]
  generalize World.alloc _ _ = w1 at *
  generalize hR : w.heap.size = R at *
  have HRR := Lib.hid hR
  clear hR
  have HB1 := Lib.hid hb1
  have H1 := Lib.hid h1
  clear hb1 h1
  have f0 := H1.out.cell 0
  have f1 := H1.out.cell 1
  have f2 := H1.out.cell 2
  have f3 := H1.out.cell 3
  have f4 := H1.out.cell 4
  have f5 := H1.out.cell 5
  have f6 := H1.out.cell 6
  have f7 := H1.out.cell 7
  have f8 := H1.out.cell 8
  have f9 := H1.out.cell 9
  have f10 := H1.out.cell 10
  have f11 := H1.out.cell 11
  have f12 := H1.out.cell 12
  have f13 := H1.out.cell 13
  simp only [List.getElem?_cons_zero, List.getElem?_cons_succ] at f0 f1 f2 f3 f4 f5 f6 f7 f8 f9 f10 f11 f12 f13
  by_cases hk : k = 3
  rotate_left
  · obtain ⟨hvi, hvv⟩ := HN.out (by rw [HV.out, if_neg hk])
    have t1 : (k != 3) = true := by simpa using hk
    subst hvi
    subst hvv
    clear HV hk HN HS
    go_wp2
    go_ret2
    exact ⟨by rfl, by rw [HRR.out]; exact HB1.out⟩
  replace HV := Lib.hid (HV.out.trans (if_pos hk))
  subst hk
  go_upto_region 3 with (fail)
  go_wp2_with fail
  refine (HSM.out _).mono ?_
  rintro e w2 ⟨rfl, hb2⟩
  have HB2 := Lib.hid (HB1.out.trans (hb2.mono (Nat.le_of_lt H1.out.lt)))
  have H2 := Lib.hid (H1.out.below hb2 H1.out.lt)
  clear hb2 H1 HB1 HSM f0 f1 f2 f3 f4 f5 f6 f7 f8 f9 f10 f11 f12 f13
  have f4 := H2.out.cell 4
  have f5 := H2.out.cell 5
  have f6 := H2.out.cell 6
  have f7 := H2.out.cell 7
  have f8 := H2.out.cell 8
  have f9 := H2.out.cell 9
  have f10 := H2.out.cell 10
  have f11 := H2.out.cell 11
  have f12 := H2.out.cell 12
  simp only [List.getElem?_cons_zero, List.getElem?_cons_succ] at f4 f5 f6 f7 f8 f9 f10 f11 f12
  have hs2 : R < w2.heap.size := H2.out.lt
  by_cases hc : u = true ∧ lk = 4
  · obtain ⟨rfl, rfl⟩ := hc
    replace HV := Lib.hid (HV.out.trans (if_pos ⟨rfl, rfl⟩))
    go_wp2_with fail
    refine (HVL.out _).mono ?_
    rintro e w3 ⟨rfl, hb3⟩
    have HB3 := Lib.hid (HB2.out.trans (hb3.mono (Nat.le_of_lt hs2)))
    have H3 := Lib.hid (H2.out.below hb3 H2.out.lt)
    clear hb3 H2 HB2 f4 f5 f6 f7 f8 f9 f10 f11 f12
    have f4 := (H3.out.cell 4).trans rfl
    by_cases e1 : op = 1
    · obtain ⟨hvi, hvv⟩ := HS.out true (by rw [HV.out]; simp [opIdle, e1])
      subst e1
      subst hvi
      subst hvv
      clear HV HN HS
      go_wp2
      go_ret2
      exact ⟨by rfl, by rw [HRR.out]; exact HB3.out⟩
    have t1 : (op == 1) = false := by simpa using e1
    by_cases e4 : op = 4
    · obtain ⟨hvi, hvv⟩ := HS.out true (by rw [HV.out]; simp [opIdle, e4])
      subst e4
      subst hvi
      subst hvv
      clear HV HN HS
      go_wp2
      go_ret2
      exact ⟨by rfl, by rw [HRR.out]; exact HB3.out⟩
    have t4 : (op == 4) = false := by simpa using e4
    by_cases e6 : op = 6
    · obtain ⟨hvi, hvv⟩ := HS.out true (by rw [HV.out]; simp [opIdle, e6])
      subst e6
      subst hvi
      subst hvv
      clear HV HN HS
      go_wp2
      go_ret2
      exact ⟨by rfl, by rw [HRR.out]; exact HB3.out⟩
    have t6 : (op == 6) = false := by simpa using e6
    obtain ⟨hvi, hvv⟩ := HS.out false (by rw [HV.out]; simp [opIdle, e1, e4, e6])
    subst hvi
    subst hvv
    clear HV HN HS e1 e4 e6
    go_wp2
    go_ret2
    exact ⟨by rfl, by rw [HRR.out]; exact HB3.out⟩
  replace HV := Lib.hid (HV.out.trans (if_neg hc))
  cases u with
  | true =>
    have hl : lk ≠ 4 := fun h => hc ⟨rfl, h⟩
    have t1 : (lk == 4) = false := by simpa using hl
    clear hc
    rw [t1] at HVL
    go_wp2_with fail
    refine (HVL.out _).mono ?_
    rintro e w3 ⟨rfl, hb3⟩
    have HB3 := Lib.hid (HB2.out.trans (hb3.mono (Nat.le_of_lt hs2)))
    have H3 := Lib.hid (H2.out.below hb3 H2.out.lt)
    clear hb3 H2 HB2 hs2 f4 f5 f6 f7 f8 f9 f10 f11 f12
    have f4 := H3.out.cell 4
    have f5 := H3.out.cell 5
    have f6 := H3.out.cell 6
    have f7 := H3.out.cell 7
    have f8 := H3.out.cell 8
    have f9 := H3.out.cell 9
    have f10 := H3.out.cell 10
    have f11 := H3.out.cell 11
    have f12 := H3.out.cell 12
    simp only [List.getElem?_cons_zero, List.getElem?_cons_succ] at f4 f5 f6 f7 f8 f9 f10 f11 f12
    have hs3 := H3.out.lt
    go_upto_region 6 with (fail)
    go_wp2_with fail
    refine (HVL.out _).mono ?_
    rintro e w4 ⟨rfl, hb4⟩
    have HB4 := Lib.hid (HB3.out.trans (hb4.mono (Nat.le_of_lt hs3)))
    have H4 := Lib.hid (H3.out.below hb4 H3.out.lt)
    clear hb4 H3 HB3 f4 f5 f6 f7 f8 f9 f10 f11 f12
    have f4 := H4.out.cell 4
    have f5 := H4.out.cell 5
    have f6 := H4.out.cell 6
    have f7 := H4.out.cell 7
    have f8 := H4.out.cell 8
    have f9 := H4.out.cell 9
    have f10 := H4.out.cell 10
    have f11 := H4.out.cell 11
    have f12 := H4.out.cell 12
    simp only [List.getElem?_cons_zero, List.getElem?_cons_succ] at f4 f5 f6 f7 f8 f9 f10 f11 f12
    have hs4 : R < w4.heap.size := H4.out.lt
    by_cases hr : rk = 4
    · obtain ⟨hvi, hvv⟩ := HN.out (by rw [HV.out, if_neg (fun h => h.2 hr)])
      subst hr
      subst hvi
      subst hvv
      clear HV HN HS
      go_wp2_with fail
      refine (HVR.out _).mono ?_
      rintro e w5 ⟨rfl, hb5⟩
      have HB5 := Lib.hid (HB4.out.trans (hb5.mono (Nat.le_of_lt hs4)))
      clear hb5 H4 HB4 f4 f5 f6 f7 f8 f9 f10 f11 f12
      go_wp2
      go_ret2
      exact ⟨by rfl, by rw [HRR.out]; exact HB5.out⟩
    have t2 : (rk == 4) = false := by simpa using hr
    rw [t2] at HVR
    obtain ⟨hvi, hvv⟩ := HS.out b (by rw [HV.out, if_pos ⟨hl, hr⟩])
    subst hvi
    subst hvv
    clear HV HN HS hl hr
    go_wp2_with fail
    refine (HVR.out _).mono ?_
    rintro e w5 ⟨rfl, hb5⟩
    have HB5 := Lib.hid (HB4.out.trans (hb5.mono (Nat.le_of_lt hs4)))
    have H5 := Lib.hid (H4.out.below hb5 H4.out.lt)
    clear hb5 H4 HB4 f4 f5 f6 f7 f8 f9 f10 f11 f12
    go_upto_region 8 with (fail)
    have g4 := cell_regrown ((H5.out.cell 4).trans rfl)
    have g5 := cell_regrown ((H5.out.cell 5).trans rfl)
    have g6 := cell_regrown ((H5.out.cell 6).trans rfl)
    have g7 := cell_regrown ((H5.out.cell 7).trans rfl)
    have g8 := cell_regrown ((H5.out.cell 8).trans rfl)
    have g9 := cell_regrown ((H5.out.cell 9).trans rfl)
    have g10 := cell_regrown ((H5.out.cell 10).trans rfl)
    have g11 := cell_regrown ((H5.out.cell 11).trans rfl)
    have g12 := cell_regrown ((H5.out.cell 12).trans rfl)
    have cA : ∀ d os, Calls Try.prog 70 #[.agg #[.int .i64 lk, .int .i64 li, .string lt, .int .i64 lo]] (grow (redrawn w5 d) os) fun e w'' => e = .returned (.agg #[.int .i64 lk, .int .i64 li, .string lt]) ∧ ∃ p : Regrown, w'' = grow (redrawn w5 p.d) p.os := fun d os => Calls.regrown_of (HCL.out _)
    have cB : ∀ d os, Calls Try.prog 70 #[.agg #[.int .i64 rk, .int .i64 ri, .string rt, .int .i64 ro]] (grow (redrawn w5 d) os) fun e w'' => e = .returned (.agg #[.int .i64 rk, .int .i64 ri, .string rt]) ∧ ∃ p : Regrown, w'' = grow (redrawn w5 p.d) p.os := fun d os => Calls.regrown_of (HCR.out _)
    have cC : ∀ d os, Calls Try.prog 69 #[.int .i64 op, .agg #[.int .i64 lk, .int .i64 li, .string lt], .agg #[.int .i64 rk, .int .i64 ri, .string rt]] (grow (redrawn w5 d) os) fun e w'' => e = .returned (.tuple #[.bool vi, .int .i64 er]) ∧ ∃ p : Regrown, w'' = grow (redrawn w5 p.d) p.os := fun d os => Calls.regrown_of (HCP.out _)
    refine wp_region_quiet_below (by kernel_rfl) (by kernel_rfl) ?_
    repeat (go_big_quiet_step (first | with_reducible exact cA _ _ | with_reducible exact cB _ _ | with_reducible exact cC _ _))
    refine wpQuiet_nil ?_
    intro w6 hw6
    obtain ⟨⟨dq, osq⟩, rfl⟩ := hw6
    have HB6 := Lib.hid (HB5.out.trans ((below_regrown w5 dq osq).mono (Nat.le_of_lt H5.out.lt)))
    clear cA cB cC g4 g5 g6 g7 g8 g9 g10 g11 g12
    go_wp2
    go_ret2
    exact ⟨by rfl, by rw [HRR.out]; exact HB6.out⟩
  | false =>
    have HB3 := HB2
    have H3 := H2
    clear H2 HB2 hs2 hc f4 f5 f6 f7 f8 f9 f10 f11 f12
    have f4 := H3.out.cell 4
    have f5 := H3.out.cell 5
    have f6 := H3.out.cell 6
    have f7 := H3.out.cell 7
    have f8 := H3.out.cell 8
    have f9 := H3.out.cell 9
    have f10 := H3.out.cell 10
    have f11 := H3.out.cell 11
    have f12 := H3.out.cell 12
    simp only [List.getElem?_cons_zero, List.getElem?_cons_succ] at f4 f5 f6 f7 f8 f9 f10 f11 f12
    have hs3 := H3.out.lt
    by_cases hl : lk = 4
    · obtain ⟨hvi, hvv⟩ := HN.out (by rw [HV.out, if_neg (fun h => h.1 hl)])
      subst hl
      subst hvi
      subst hvv
      clear HV HN HS
      go_upto_region 6 with (fail)
      go_wp2_with fail
      refine (HVL.out _).mono ?_
      rintro e w4 ⟨rfl, hb4⟩
      have HB4 := Lib.hid (HB3.out.trans (hb4.mono (Nat.le_of_lt hs3)))
      clear hb4 H3 HB3 f4 f5 f6 f7 f8 f9 f10 f11 f12
      go_wp2
      go_ret2
      exact ⟨by rfl, by rw [HRR.out]; exact HB4.out⟩
    have t1 : (lk == 4) = false := by simpa using hl
    rw [t1] at HVL
    go_upto_region 6 with (fail)
    go_wp2_with fail
    refine (HVL.out _).mono ?_
    rintro e w4 ⟨rfl, hb4⟩
    have HB4 := Lib.hid (HB3.out.trans (hb4.mono (Nat.le_of_lt hs3)))
    have H4 := Lib.hid (H3.out.below hb4 H3.out.lt)
    clear hb4 H3 HB3 f4 f5 f6 f7 f8 f9 f10 f11 f12
    have f4 := H4.out.cell 4
    have f5 := H4.out.cell 5
    have f6 := H4.out.cell 6
    have f7 := H4.out.cell 7
    have f8 := H4.out.cell 8
    have f9 := H4.out.cell 9
    have f10 := H4.out.cell 10
    have f11 := H4.out.cell 11
    have f12 := H4.out.cell 12
    simp only [List.getElem?_cons_zero, List.getElem?_cons_succ] at f4 f5 f6 f7 f8 f9 f10 f11 f12
    have hs4 : R < w4.heap.size := H4.out.lt
    by_cases hr : rk = 4
    · obtain ⟨hvi, hvv⟩ := HN.out (by rw [HV.out, if_neg (fun h => h.2 hr)])
      subst hr
      subst hvi
      subst hvv
      clear HV HN HS
      go_wp2_with fail
      refine (HVR.out _).mono ?_
      rintro e w5 ⟨rfl, hb5⟩
      have HB5 := Lib.hid (HB4.out.trans (hb5.mono (Nat.le_of_lt hs4)))
      clear hb5 H4 HB4 f4 f5 f6 f7 f8 f9 f10 f11 f12
      go_wp2
      go_ret2
      exact ⟨by rfl, by rw [HRR.out]; exact HB5.out⟩
    have t2 : (rk == 4) = false := by simpa using hr
    rw [t2] at HVR
    obtain ⟨hvi, hvv⟩ := HS.out b (by rw [HV.out, if_pos ⟨hl, hr⟩])
    subst hvi
    subst hvv
    clear HV HN HS hl hr
    go_wp2_with fail
    refine (HVR.out _).mono ?_
    rintro e w5 ⟨rfl, hb5⟩
    have HB5 := Lib.hid (HB4.out.trans (hb5.mono (Nat.le_of_lt hs4)))
    have H5 := Lib.hid (H4.out.below hb5 H4.out.lt)
    clear hb5 H4 HB4 f4 f5 f6 f7 f8 f9 f10 f11 f12
    go_upto_region 8 with (fail)
    have g4 := cell_regrown ((H5.out.cell 4).trans rfl)
    have g5 := cell_regrown ((H5.out.cell 5).trans rfl)
    have g6 := cell_regrown ((H5.out.cell 6).trans rfl)
    have g7 := cell_regrown ((H5.out.cell 7).trans rfl)
    have g8 := cell_regrown ((H5.out.cell 8).trans rfl)
    have g9 := cell_regrown ((H5.out.cell 9).trans rfl)
    have g10 := cell_regrown ((H5.out.cell 10).trans rfl)
    have g11 := cell_regrown ((H5.out.cell 11).trans rfl)
    have g12 := cell_regrown ((H5.out.cell 12).trans rfl)
    have cA : ∀ d os, Calls Try.prog 70 #[.agg #[.int .i64 lk, .int .i64 li, .string lt, .int .i64 lo]] (grow (redrawn w5 d) os) fun e w'' => e = .returned (.agg #[.int .i64 lk, .int .i64 li, .string lt]) ∧ ∃ p : Regrown, w'' = grow (redrawn w5 p.d) p.os := fun d os => Calls.regrown_of (HCL.out _)
    have cB : ∀ d os, Calls Try.prog 70 #[.agg #[.int .i64 rk, .int .i64 ri, .string rt, .int .i64 ro]] (grow (redrawn w5 d) os) fun e w'' => e = .returned (.agg #[.int .i64 rk, .int .i64 ri, .string rt]) ∧ ∃ p : Regrown, w'' = grow (redrawn w5 p.d) p.os := fun d os => Calls.regrown_of (HCR.out _)
    have cC : ∀ d os, Calls Try.prog 69 #[.int .i64 op, .agg #[.int .i64 lk, .int .i64 li, .string lt], .agg #[.int .i64 rk, .int .i64 ri, .string rt]] (grow (redrawn w5 d) os) fun e w'' => e = .returned (.tuple #[.bool vi, .int .i64 er]) ∧ ∃ p : Regrown, w'' = grow (redrawn w5 p.d) p.os := fun d os => Calls.regrown_of (HCP.out _)
    refine wp_region_quiet_below (by kernel_rfl) (by kernel_rfl) ?_
    repeat (go_big_quiet_step (first | with_reducible exact cA _ _ | with_reducible exact cB _ _ | with_reducible exact cC _ _))
    refine wpQuiet_nil ?_
    intro w6 hw6
    obtain ⟨⟨dq, osq⟩, rfl⟩ := hw6
    have HB6 := Lib.hid (HB5.out.trans ((below_regrown w5 dq osq).mono (Nat.le_of_lt H5.out.lt)))
    clear cA cB cC g4 g5 g6 g7 g8 g9 g10 g11 g12
    go_wp2
    go_ret2
    exact ⟨by rfl, by rw [HRR.out]; exact HB6.out⟩
end Go.Proofs.Ytjcgkplphiedjaa
