/- The program's terms and alike. | The program's things: each nameless term gets its number. | The program's take: a clause's terms stand for another's things. -/
import Derived.Test.YtjcgkplphiedjaaGi
import Derived.Test.YtjcgkplphiedjaaGk
namespace Go.Proofs.Ytjcgkplphiedjaa
open Go.RowKit Go.Sort

set_option maxRecDepth 20000 in
set_option maxHeartbeats 2000000 in
theorem terms_any (x : Li) (w : World) (hok : Li.ok w x) :
    Calls Try.prog 73 #[.agg x.cells.toArray] w fun e w' => ∃ A n c, e = .returned (.slice A n c) ∧ Rd w' w'.heap.size 4 A n (tcells x.terms) ∧ n * 40 ≤ 140737488351232 ∧ ((A = x.a.A ∧ n = x.a.n ∧ c = x.a.c) ∨ ∃ g, A = some ⟨g, 0, none⟩ ∧ w.heap.size ≤ g) ∧ Below w.heap.size w w' := by
  have HT : Hid (x.terms = if x.k = 3 then [x.l, x.r] else x.a.es) := Lib.hid rfl
  generalize x.terms = ts at *
  obtain ⟨k, ⟨p, A, n, c, o, es⟩, op, ⟨lk, li, lt, lo⟩, ⟨rk, ri, rt, ro⟩, of⟩ := x
  obtain ⟨ht, hA, hn40⟩ := hok
  dsimp only at ht hA hn40 HT
  have HR := Lib.hid ht
  clear ht hA
  show Calls Try.prog 73 #[.agg #[.int .i64 k, .string p, .slice A n c, .int .i64 o, .int .i64 op, .int .i64 lk, .int .i64 li, .string lt, .int .i64 lo, .int .i64 rk, .int .i64 ri, .string rt, .int .i64 ro, .int .i64 of]] w _
  go_enter Try.func73, Try.ntmps73
  go_upto_region 1 with (fail)
  have hb1 := (Below.refl w.heap.size w).alloc (Nat.le_refl _) (.cells #[.int .i64 k, .string p, .slice A n c, .int .i64 o, .int .i64 op, .int .i64 lk, .int .i64 li, .string lt, .int .i64 lo, .int .i64 rk, .int .i64 ri, .string rt, .int .i64 ro, .int .i64 of] 61)
  have h1 := Blk.new w 61 [.int .i64 k, .string p, .slice A n c, .int .i64 o, .int .i64 op, .int .i64 lk, .int .i64 li, .string lt, .int .i64 lo, .int .i64 rk, .int .i64 ri, .string rt, .int .i64 ro, .int .i64 of]
  generalize World.alloc _ _ = w1 at *
  generalize hR : w.heap.size = R at *
  have HRR := Lib.hid hR
  clear hR
  have HB1 := Lib.hid hb1
  have f0 := h1.cell 0
  have f2 := h1.cell 2
  have f5 := h1.cell 5
  have f6 := h1.cell 6
  have f7 := h1.cell 7
  have f8 := h1.cell 8
  have f9 := h1.cell 9
  have f10 := h1.cell 10
  have f11 := h1.cell 11
  have f12 := h1.cell 12
  simp only [List.getElem?_cons_zero, List.getElem?_cons_succ] at f0 f2 f5 f6 f7 f8 f9 f10 f11 f12
  have hs1 : R ≤ w1.heap.size := by have := h1.lt; omega
  clear h1 hb1
  by_cases k3 : k = 3
  · subst k3
    have hz : ts = [⟨lk, li, lt, lo⟩, ⟨rk, ri, rt, ro⟩] := by rw [HT.out, if_pos rfl]
    subst hz
    clear HT
    have HB2 := Lib.hid (HB1.out.alloc hs1 (.cells #[.int .i64 lk, .int .i64 li, .string lt, .int .i64 lo, .int .i64 rk, .int .i64 ri, .string rt, .int .i64 ro] 33))
    have HRN : Hid (Rd (w1.alloc (.cells #[.int .i64 lk, .int .i64 li, .string lt, .int .i64 lo, .int .i64 rk, .int .i64 ri, .string rt, .int .i64 ro] 33)) _ 4 (some ⟨w1.heap.size, 0, none⟩) 2 (tcells [⟨lk, li, lt, lo⟩, ⟨rk, ri, rt, ro⟩])) := Lib.hid (Rd_new w1 #[.int .i64 lk, .int .i64 li, .string lt, .int .i64 lo, .int .i64 rk, .int .i64 ri, .string rt, .int .i64 ro] 33 4 2 rfl (by omega))
    go_wp2
    go_ret
    exact ⟨_, 2, 2, rfl, HRN.out, by omega, .inr ⟨_, rfl, by rw [HRR.out]; exact hs1⟩, by rw [HRR.out]; exact HB2.out⟩
  · have hz : ts = es := by rw [HT.out, if_neg k3]
    have t1 : (k == 3) = false := by simpa using k3
    subst hz
    clear HT k3
    have HRN := Lib.hid (HR.out.up HB1.out hs1)
    go_wp2
    go_ret
    exact ⟨A, n, c, rfl, HRN.out, hn40, .inl ⟨rfl, rfl, rfl⟩, by rw [HRR.out]; exact HB1.out⟩

set_option maxRecDepth 200000 in
set_option maxHeartbeats 8000000 in
theorem alike_any (a b : Li) (w : World) (ha : Li.ok w a) (hb : Li.ok w b) :
    Calls Try.prog 76 #[.agg a.cells.toArray, .agg b.cells.toArray] w fun e w' => e = .returned (.bool (likeL a b)) ∧ Below w.heap.size w w' := by
  have HV : Hid (likeL a b = (decide (a.k = b.k) && (decide (a.op = b.op) && (decide (a.a.p = b.a.p) && decide (a.terms.length = b.terms.length))))) := Lib.hid rfl
  have KA := Lib.hid (fun W (h : Below w.heap.size w W) => terms_any a W (At.ok.up ha h))
  have KB := Lib.hid (fun W (h : Below w.heap.size w W) => terms_any b W (At.ok.up hb h))
  generalize likeL a b = v at *
  generalize a.terms = ta at *
  generalize b.terms = tb at *
  clear ha hb
  obtain ⟨k, ⟨p, A, n, c, o, es⟩, op, ⟨lk, li, lt, lo⟩, ⟨rk, ri, rt, ro⟩, of⟩ := a
  obtain ⟨k', ⟨p', A', n', c', o', es'⟩, op', ⟨lk', li', lt', lo'⟩, ⟨rk', ri', rt', ro'⟩, of'⟩ := b
  dsimp only at HV
  simp only [Li.cells] at KA KB
  show Calls Try.prog 76 #[.agg #[.int .i64 k, .string p, .slice A n c, .int .i64 o, .int .i64 op, .int .i64 lk, .int .i64 li, .string lt, .int .i64 lo, .int .i64 rk, .int .i64 ri, .string rt, .int .i64 ro, .int .i64 of],
    .agg #[.int .i64 k', .string p', .slice A' n' c', .int .i64 o', .int .i64 op', .int .i64 lk', .int .i64 li', .string lt', .int .i64 lo', .int .i64 rk', .int .i64 ri', .string rt', .int .i64 ro', .int .i64 of']] w _
  go_enter Try.func76, Try.ntmps76
  go_upto_region 1 with (fail)
  obtain ⟨hb3, h1, h2, hs3⟩ := two_alloc w 61 61 [.int .i64 k, .string p, .slice A n c, .int .i64 o, .int .i64 op, .int .i64 lk, .int .i64 li, .string lt, .int .i64 lo, .int .i64 rk, .int .i64 ri, .string rt, .int .i64 ro, .int .i64 of] [.int .i64 k', .string p', .slice A' n' c', .int .i64 o', .int .i64 op', .int .i64 lk', .int .i64 li', .string lt', .int .i64 lo', .int .i64 rk', .int .i64 ri', .string rt', .int .i64 ro', .int .i64 of']
  generalize World.alloc (World.alloc _ _) _ = w1 at *
  generalize hR : w.heap.size = R at *
  have HRR := Lib.hid hR
  clear hR
  have HB1 := Lib.hid hb3
  have H1 := Lib.hid h1
  have H2 := Lib.hid h2
  have hl1 : R < w1.heap.size := h1.lt
  have hl2 : R + 1 < w1.heap.size := h2.lt
  clear h1 h2 hb3 hs3
  by_cases e1 : k = k'
  rotate_left
  · have hz : v = false := by rw [HV.out, decide_eq_false e1]; rfl
    have t1 : (k == k') = false := by simpa using e1
    subst hz
    clear HV e1
    have f0 := cell_regrown ((H1.out.cell 0).trans rfl)
    have f1 := cell_regrown ((H1.out.cell 1).trans rfl)
    have f4 := cell_regrown ((H1.out.cell 4).trans rfl)
    have g0 := cell_regrown ((H2.out.cell 0).trans rfl)
    have g1 := cell_regrown ((H2.out.cell 1).trans rfl)
    have g4 := cell_regrown ((H2.out.cell 4).trans rfl)
    refine wp_region_quiet_below (by kernel_rfl) (by kernel_rfl) ?_
    repeat (go_big_quiet_step (fail))
    refine wpQuiet_nil ?_
    intro w6 hw6
    obtain ⟨⟨dq, osq⟩, rfl⟩ := hw6
    have HB6 := Lib.hid (HB1.out.trans ((below_regrown w1 dq osq).mono (by omega)))
    clear f0 f1 f4 g0 g1 g4
    go_wp2
    go_ret
    exact ⟨by rfl, by rw [HRR.out]; exact HB6.out⟩
  by_cases e2 : op = op'
  rotate_left
  · have hz : v = false := by rw [HV.out, decide_eq_false e2, Bool.false_and, Bool.and_false]
    have t1 : (op == op') = false := by simpa using e2
    subst e1
    subst hz
    clear HV e2
    have f0 := cell_regrown ((H1.out.cell 0).trans rfl)
    have f1 := cell_regrown ((H1.out.cell 1).trans rfl)
    have f4 := cell_regrown ((H1.out.cell 4).trans rfl)
    have g0 := cell_regrown ((H2.out.cell 0).trans rfl)
    have g1 := cell_regrown ((H2.out.cell 1).trans rfl)
    have g4 := cell_regrown ((H2.out.cell 4).trans rfl)
    refine wp_region_quiet_below (by kernel_rfl) (by kernel_rfl) ?_
    repeat (go_big_quiet_step (fail))
    refine wpQuiet_nil ?_
    intro w6 hw6
    obtain ⟨⟨dq, osq⟩, rfl⟩ := hw6
    have HB6 := Lib.hid (HB1.out.trans ((below_regrown w1 dq osq).mono (by omega)))
    clear f0 f1 f4 g0 g1 g4
    go_wp2
    go_ret
    exact ⟨by rfl, by rw [HRR.out]; exact HB6.out⟩
  by_cases e3 : p = p'
  rotate_left
  · have hz : v = false := by rw [HV.out, decide_eq_false e3, Bool.false_and, Bool.and_false, Bool.and_false]
    have t1 : (p.toList == p'.toList) = false := by simp only [beq_eq_false_iff_ne]; exact fun h => e3 (toList_inj h)
    subst e1
    subst e2
    subst hz
    clear HV e3
    have f0 := cell_regrown ((H1.out.cell 0).trans rfl)
    have f1 := cell_regrown ((H1.out.cell 1).trans rfl)
    have f4 := cell_regrown ((H1.out.cell 4).trans rfl)
    have g0 := cell_regrown ((H2.out.cell 0).trans rfl)
    have g1 := cell_regrown ((H2.out.cell 1).trans rfl)
    have g4 := cell_regrown ((H2.out.cell 4).trans rfl)
    refine wp_region_quiet_below (by kernel_rfl) (by kernel_rfl) ?_
    repeat (go_big_quiet_step (fail))
    refine wpQuiet_nil ?_
    intro w6 hw6
    obtain ⟨⟨dq, osq⟩, rfl⟩ := hw6
    have HB6 := Lib.hid (HB1.out.trans ((below_regrown w1 dq osq).mono (by omega)))
    clear f0 f1 f4 g0 g1 g4
    go_wp2
    go_ret
    exact ⟨by rfl, by rw [HRR.out]; exact HB6.out⟩
  have HV2 : Hid (v = decide (ta.length = tb.length)) := Lib.hid (by rw [HV.out, decide_eq_true e1, decide_eq_true e2, decide_eq_true e3, Bool.true_and, Bool.true_and, Bool.true_and])
  subst e1
  subst e2
  subst e3
  clear HV
  obtain ⟨C, hCi⟩ : ∃ C : World → Prop, ∀ w', C w' ↔ Below w1.heap.size w1 w' := ⟨_, fun _ => Iff.rfl⟩
  have HD : Hid (Below w1.heap.size w1 w1.drew) := Lib.hid ⟨rfl, rfl, rfl, Nat.le_refl _, fun _ _ => rfl⟩
  have hC : C w1.drew := (hCi _).2 HD.out
  have f0 : ∀ p : WC C, p.w.cell? ⟨R, 0, none⟩ = _ := fun p => (((hCi _).1 p.h).cell (p := ⟨R, 0, none⟩) hl1).trans ((H1.out.cell 0).trans rfl)
  have f1 : ∀ p : WC C, p.w.cell? ⟨R, 1, none⟩ = _ := fun p => (((hCi _).1 p.h).cell (p := ⟨R, 1, none⟩) hl1).trans ((H1.out.cell 1).trans rfl)
  have f2 : ∀ p : WC C, p.w.cell? ⟨R, 2, none⟩ = _ := fun p => (((hCi _).1 p.h).cell (p := ⟨R, 2, none⟩) hl1).trans ((H1.out.cell 2).trans rfl)
  have f3 : ∀ p : WC C, p.w.cell? ⟨R, 3, none⟩ = _ := fun p => (((hCi _).1 p.h).cell (p := ⟨R, 3, none⟩) hl1).trans ((H1.out.cell 3).trans rfl)
  have f4 : ∀ p : WC C, p.w.cell? ⟨R, 4, none⟩ = _ := fun p => (((hCi _).1 p.h).cell (p := ⟨R, 4, none⟩) hl1).trans ((H1.out.cell 4).trans rfl)
  have f5 : ∀ p : WC C, p.w.cell? ⟨R, 5, none⟩ = _ := fun p => (((hCi _).1 p.h).cell (p := ⟨R, 5, none⟩) hl1).trans ((H1.out.cell 5).trans rfl)
  have f6 : ∀ p : WC C, p.w.cell? ⟨R, 6, none⟩ = _ := fun p => (((hCi _).1 p.h).cell (p := ⟨R, 6, none⟩) hl1).trans ((H1.out.cell 6).trans rfl)
  have f7 : ∀ p : WC C, p.w.cell? ⟨R, 7, none⟩ = _ := fun p => (((hCi _).1 p.h).cell (p := ⟨R, 7, none⟩) hl1).trans ((H1.out.cell 7).trans rfl)
  have f8 : ∀ p : WC C, p.w.cell? ⟨R, 8, none⟩ = _ := fun p => (((hCi _).1 p.h).cell (p := ⟨R, 8, none⟩) hl1).trans ((H1.out.cell 8).trans rfl)
  have f9 : ∀ p : WC C, p.w.cell? ⟨R, 9, none⟩ = _ := fun p => (((hCi _).1 p.h).cell (p := ⟨R, 9, none⟩) hl1).trans ((H1.out.cell 9).trans rfl)
  have f10 : ∀ p : WC C, p.w.cell? ⟨R, 10, none⟩ = _ := fun p => (((hCi _).1 p.h).cell (p := ⟨R, 10, none⟩) hl1).trans ((H1.out.cell 10).trans rfl)
  have f11 : ∀ p : WC C, p.w.cell? ⟨R, 11, none⟩ = _ := fun p => (((hCi _).1 p.h).cell (p := ⟨R, 11, none⟩) hl1).trans ((H1.out.cell 11).trans rfl)
  have f12 : ∀ p : WC C, p.w.cell? ⟨R, 12, none⟩ = _ := fun p => (((hCi _).1 p.h).cell (p := ⟨R, 12, none⟩) hl1).trans ((H1.out.cell 12).trans rfl)
  have f13 : ∀ p : WC C, p.w.cell? ⟨R, 13, none⟩ = _ := fun p => (((hCi _).1 p.h).cell (p := ⟨R, 13, none⟩) hl1).trans ((H1.out.cell 13).trans rfl)
  have g0 : ∀ p : WC C, p.w.cell? ⟨R + 1, 0, none⟩ = _ := fun p => (((hCi _).1 p.h).cell (p := ⟨R + 1, 0, none⟩) hl2).trans ((H2.out.cell 0).trans rfl)
  have g1 : ∀ p : WC C, p.w.cell? ⟨R + 1, 1, none⟩ = _ := fun p => (((hCi _).1 p.h).cell (p := ⟨R + 1, 1, none⟩) hl2).trans ((H2.out.cell 1).trans rfl)
  have g2 : ∀ p : WC C, p.w.cell? ⟨R + 1, 2, none⟩ = _ := fun p => (((hCi _).1 p.h).cell (p := ⟨R + 1, 2, none⟩) hl2).trans ((H2.out.cell 2).trans rfl)
  have g3 : ∀ p : WC C, p.w.cell? ⟨R + 1, 3, none⟩ = _ := fun p => (((hCi _).1 p.h).cell (p := ⟨R + 1, 3, none⟩) hl2).trans ((H2.out.cell 3).trans rfl)
  have g4 : ∀ p : WC C, p.w.cell? ⟨R + 1, 4, none⟩ = _ := fun p => (((hCi _).1 p.h).cell (p := ⟨R + 1, 4, none⟩) hl2).trans ((H2.out.cell 4).trans rfl)
  have g5 : ∀ p : WC C, p.w.cell? ⟨R + 1, 5, none⟩ = _ := fun p => (((hCi _).1 p.h).cell (p := ⟨R + 1, 5, none⟩) hl2).trans ((H2.out.cell 5).trans rfl)
  have g6 : ∀ p : WC C, p.w.cell? ⟨R + 1, 6, none⟩ = _ := fun p => (((hCi _).1 p.h).cell (p := ⟨R + 1, 6, none⟩) hl2).trans ((H2.out.cell 6).trans rfl)
  have g7 : ∀ p : WC C, p.w.cell? ⟨R + 1, 7, none⟩ = _ := fun p => (((hCi _).1 p.h).cell (p := ⟨R + 1, 7, none⟩) hl2).trans ((H2.out.cell 7).trans rfl)
  have g8 : ∀ p : WC C, p.w.cell? ⟨R + 1, 8, none⟩ = _ := fun p => (((hCi _).1 p.h).cell (p := ⟨R + 1, 8, none⟩) hl2).trans ((H2.out.cell 8).trans rfl)
  have g9 : ∀ p : WC C, p.w.cell? ⟨R + 1, 9, none⟩ = _ := fun p => (((hCi _).1 p.h).cell (p := ⟨R + 1, 9, none⟩) hl2).trans ((H2.out.cell 9).trans rfl)
  have g10 : ∀ p : WC C, p.w.cell? ⟨R + 1, 10, none⟩ = _ := fun p => (((hCi _).1 p.h).cell (p := ⟨R + 1, 10, none⟩) hl2).trans ((H2.out.cell 10).trans rfl)
  have g11 : ∀ p : WC C, p.w.cell? ⟨R + 1, 11, none⟩ = _ := fun p => (((hCi _).1 p.h).cell (p := ⟨R + 1, 11, none⟩) hl2).trans ((H2.out.cell 11).trans rfl)
  have g12 : ∀ p : WC C, p.w.cell? ⟨R + 1, 12, none⟩ = _ := fun p => (((hCi _).1 p.h).cell (p := ⟨R + 1, 12, none⟩) hl2).trans ((H2.out.cell 12).trans rfl)
  have g13 : ∀ p : WC C, p.w.cell? ⟨R + 1, 13, none⟩ = _ := fun p => (((hCi _).1 p.h).cell (p := ⟨R + 1, 13, none⟩) hl2).trans ((H2.out.cell 13).trans rfl)
  have kn : Nonempty (WC C) := ⟨⟨_, hC⟩⟩
  refine wp_region_frontN C [0, 1, 2, 3, 4, 5, 6, 7, 8, 9, 10, 11, 12, 13, 14, 15, 16, 17, 18, 19, 20, 21, 22, 25] 7 (fun j => decide (j < 31)) (by kernel_rfl) (fun _ _ d _ _ h => by cases d <;> exact h) (by kernel_rfl) hC ?_
  simp only [List.map_cons, List.map_nil, List.getD_cons_zero, List.getD_cons_succ]
  repeat (go_big_quiet_step (fail))
  refine wpQuiet_nil ?_
  have HCi := Lib.hid hCi
  clear hC hCi f0 f1 f2 f3 f4 f5 f6 f7 f8 f9 f10 f11 f12 f13 g0 g1 g2 g3 g4 g5 g6 g7 g8 g9 g10 g11 g12 g13
  have ka := KA.out w1.drew (HB1.out.trans (HD.out.mono (Nat.le_of_lt hl1)))
  have hsd : w1.heap.size ≤ w1.drew.heap.size := Nat.le_refl _
  have HBD := Lib.hid (HB1.out.trans (HD.out.mono (Nat.le_of_lt hl1)))
  generalize w1.drew = wd at *
  refine wpN_one (i := 23) (by kernel_rfl) rfl ?_
  go_wp2_with fail
  refine ka.mono ?_
  rintro e w2 ⟨A1, n1, c1, rfl, hr1, h40, _, hb2⟩
  have MB := Lib.hid (HD.out.trans (hb2.mono hsd))
  have hs2 := Nat.le_trans hsd hb2.size
  have hla : ta.length = n1 := by have := hr1.1; rw [tcells_length] at this; omega
  have HLA := Lib.hid hla
  have hn1b := hr1.2.1
  clear hr1 hb2 ka hla
  go_wp2
  refine tailN_normal ((HCi.out _).2 MB.out) ?_
  refine wpN_frontW C [24] 5 _ (fun _ _ d _ _ h => by cases d <;> exact h) (by kernel_rfl) ((HCi.out _).2 MB.out) ?_
  simp only [List.map_cons, List.map_nil, List.getD_cons_zero, List.getD_cons_succ]
  repeat (go_big_quiet_step (fail))
  refine wpQuiet_nil ?_
  have kb := KB.out w2 (HB1.out.trans (MB.out.mono (Nat.le_of_lt hl1)))
  refine wpN_one (i := 26) (by kernel_rfl) rfl ?_
  go_wp2_with fail
  refine kb.mono ?_
  rintro e w3 ⟨A3, n3, c3, rfl, hr3, h403, _, hb3⟩
  have NB := Lib.hid (MB.out.trans (hb3.mono hs2))
  have hlb : tb.length = n3 := by have := hr3.1; rw [tcells_length] at this; omega
  rw [HLA.out, hlb] at HV2
  have HRZ := Lib.hid (HB1.out.trans (NB.out.mono (Nat.le_of_lt hl1)))
  clear hr3 hb3 kb hlb HLA
  go_wp2
  refine tailN_normal ((HCi.out _).2 NB.out) ?_
  by_cases hn : n1 = n3
  · have hz : v = true := by rw [HV2.out, decide_eq_true hn]
    subst hz
    subst hn
    clear HV2
    refine wpN_frontW C [27, 28, 29, 30] 0 _ (fun _ _ d _ _ h => by cases d <;> exact h) (by kernel_rfl) ((HCi.out _).2 NB.out) ?_
    simp only [List.map_cons, List.map_nil, List.getD_cons_zero, List.getD_cons_succ]
    repeat (go_big_quiet_step (fail))
    refine wpQuiet_nil ?_
    refine wpN_none (by kernel_rfl) ?_
    go_wp2
    go_ret
    exact ⟨by rfl, by rw [HRR.out]; exact HRZ.out⟩
  · have hz : v = false := by rw [HV2.out, decide_eq_false hn]
    have t1 : ((n1 : Int) == (n3 : Int)) = false := by simp only [beq_eq_false_iff_ne, ne_eq]; omega
    have t2 : (n1 == n3) = false := by simpa using hn
    subst hz
    clear HV2
    refine wpN_frontW C [27, 28, 29, 30] 0 _ (fun _ _ d _ _ h => by cases d <;> exact h) (by kernel_rfl) ((HCi.out _).2 NB.out) ?_
    simp only [List.map_cons, List.map_nil, List.getD_cons_zero, List.getD_cons_succ]
    repeat (go_big_quiet_step (fail))
    refine wpQuiet_nil ?_
    refine wpN_none (by kernel_rfl) ?_
    go_wp2
    go_ret
    exact ⟨by rfl, by rw [HRR.out]; exact HRZ.out⟩
end Go.Proofs.Ytjcgkplphiedjaa

namespace Go.Proofs.Ytjcgkplphiedjaa
open Go.RowKit Go.Sort

theorem Try.info153 : (Try.prog.info? 153).map (fun i => (i.zero, i.size, i.bytes)) = some (some (.agg #[.int .i64 0, .int .i64 0, .string ⟨#[]⟩, .int .i64 0]), 4, 40) := by kernel_rfl
theorem grown_cell {w w' : World} {P : Nat} (h : w.grownBy w' (some P)) {a : Addr} (h1 : a.block < w.heap.size) (h2 : a.block ≠ P) : w'.cell? a = w.cell? a :=
  World.cell?_of_block (h.block a.block h1 (fun e => h2 (by injection e)))
theorem grown_alloc {w w' : World} {row : Option Nat} (h : w.grownBy w' row) (o : Obj) : w.grownBy (w'.alloc o) row := grown_trans h (World.grownBy_alloc w' o row)
theorem grown_set {w w' : World} {P : Nat} (h : w.grownBy w' (some P)) (i : Nat) (u : Value) : w.grownBy (w'.setCell ⟨P, i, none⟩ u) (some P) :=
  ⟨h.os, h.tape, h.output, by simpa using h.size, fun k hk hr => (Below.heap_setCell w' ⟨P, i, none⟩ u k (fun e => hr (by rw [e]))).trans (h.block k hk hr)⟩
theorem grown_set_new {w w' : World} {row : Option Nat} (h : w.grownBy w' row) {g : Nat} (hg : w.heap.size ≤ g) (i : Nat) (u : Value) : w.grownBy (w'.setCell ⟨g, i, none⟩ u) row :=
  ⟨h.os, h.tape, h.output, by simpa using h.size, fun k hk hr => (Below.heap_setCell w' ⟨g, i, none⟩ u k (by show k ≠ g; omega)).trans (h.block k hk hr)⟩
theorem grown_below {w w' w'' : World} {row : Option Nat} (h : w.grownBy w' row) (hb : Below w'.heap.size w' w'') : w.grownBy w'' row := grown_trans h (below_grown hb row)
/-- A row of one's own that was made since grows: nothing else turns. -/
theorem grown_row {w w' w'' : World} {row : Option Nat} {base e size n : Nat} {v : Value} {xs : List Value} (h : w.grownBy w' row) (ho : w'.ownsRow base e size v n xs) (hb : w.heap.size ≤ base) (hg : w'.grownBy w'' v.ownBlock) : w.grownBy w'' row :=
  ⟨hg.os.trans h.os, hg.tape.trans h.tape, hg.output.trans h.output, Nat.le_trans h.size hg.size, fun k hk hr => (hg.block k (Nat.lt_of_lt_of_le hk h.size) (fun e => by have := (ho.lt k e.symm).1; omega)).trans (h.block k hk hr)⟩

set_option maxRecDepth 20000 in
set_option maxHeartbeats 8000000 in
theorem things_any (A : Option Addr) (n c m P : Nat) (ts : List T) (w : World) (hr : Rd w w.heap.size 4 A n (tcells ts)) (h40 : n * 40 ≤ 140737488351232) (hm : m + n ≤ 9223372036854775807)
    (hP : Blk w P 3 [.int .i64 (m : Int)]) (hAP : 0 < n → ∀ b o, A = some ⟨b, o, none⟩ → b ≠ P) :
    Calls Try.prog 72 #[.slice A n c, .pointer (some ⟨P, 0, none⟩)] w fun e w' => ∃ A' c', e = .returned (.slice A' n c') ∧
      w'.ownsRow w.heap.size 153 4 (.slice A' n c') n (thcells (num m ts)) ∧ Blk w' P 3 [.int .i64 ((m + cnt ts : Nat) : Int)] ∧ w.grownBy w' (some P) := by
  obtain ⟨i0, hi, hz0, hz1, hz2⟩ := info_parts Try.info153
  have hl : ts.length = n := by have := hr.1; rw [tcells_length] at this; omega
  have hnb := hr.2.1
  have HR := Lib.hid hr
  have HL := Lib.hid hl
  have HAP := Lib.hid hAP
  have HP0 : Hid (Blk w P 3 [.int .i64 ((m + cnt (ts.take 0) : Nat) : Int)]) := Lib.hid hP
  have hPlt : P < w.heap.size := hP.lt
  clear hr hl hP hAP
  go_enter Try.func72, Try.ntmps72
  go_upto_region 3 with (fail)
  generalize hR : w.heap.size = R at *
  have HRR := Lib.hid hR
  clear hR
  go_loopg [5, 11] n (fun gk u5 u11 wr => ∃ (k : Nat), u11 = .int .i64 k ∧ k ≤ n ∧ Hid (gk = n - k) ∧ Hid (w.grownBy wr (some P)) ∧ Hid (Blk wr P 3 [.int .i64 ((m + cnt (ts.take k) : Nat) : Int)]) ∧ Hid (wr.ownsRow R 153 4 u5 k (thcells (num m (ts.take k)))))
  case atStart => exact ⟨0, rfl, Nat.zero_le _, Lib.hid (by omega), Lib.hid (World.grownBy.refl _ _), HP0, Lib.hid (World.ownsRow_nil _ _ _ _)⟩
  case round =>
    clear HP0
    obtain ⟨k, rfl, hk, HG, HB, HP, HV⟩ := hrel
    have hsr : R ≤ wr.heap.size := by have := HB.out.size; rw [HRR.out] at this; exact this
    by_cases hlt : k < n
    · obtain ⟨b, o, hk1, rfl, hB, c0, c1, c2, c3⟩ := HR.out.term k hlt
      have hbP : b ≠ P := HAP.out (by omega) b o rfl
      have hBw : b < w.heap.size := by rw [HRR.out]; exact hB
      have c0 := (grown_cell HB.out (a := ⟨b, o + k * 4, none⟩) hBw hbP).trans c0
      have c1 := (grown_cell HB.out (a := ⟨b, o + k * 4 + 1, none⟩) hBw hbP).trans c1
      have c2 := (grown_cell HB.out (a := ⟨b, o + k * 4 + 2, none⟩) hBw hbP).trans c2
      have c3 := (grown_cell HB.out (a := ⟨b, o + k * 4 + 3, none⟩) hBw hbP).trans c3
      have HN := Lib.hid (num_snoc m ts k hk1)
      have HC := Lib.hid (cnt_snoc ts k hk1)
      have hcl : cnt (ts.take k) ≤ k := Nat.le_trans (cnt_le _) (by rw [List.length_take]; exact Nat.min_le_left _ _)
      generalize cnt (ts.take k) = q at *
      generalize hE : ts[k] = x at *
      clear hE
      obtain ⟨xk, xi, xt, xo⟩ := x
      dsimp only at c0 c1 c2 c3
      go_upto_region 6 with (fail)
      obtain ⟨hb3, h3, h4, hs3⟩ := two_alloc wr 33 153 [.int .i64 xk, .int .i64 xi, .string xt, .int .i64 xo] [.int .i64 xk, .int .i64 xi, .string xt, .int .i64 0]
      generalize World.alloc (World.alloc _ _) _ = w2 at *
      have hPr : P < wr.heap.size := HP.out.lt
      have K1 := Lib.hid (HP.out.below hb3 hPr)
      have KV := Lib.hid (own_below HV.out hb3)
      have KL : Hid (∀ q, u5.ownBlock = some q → q < wr.heap.size) := Lib.hid fun q hq => (HV.out.lt q hq).2
      have KB := Lib.hid (grown_below HB.out hb3)
      have L3 := Lib.hid h3
      have L4 := Lib.hid h4
      clear HB HP HV hb3 h3 h4 c0 c1 c2 c3
      generalize hZ : wr.heap.size = Z at *
      clear hZ
      have f0 := L3.out.cell 0
      have f1 := L3.out.cell 1
      have f2 := L3.out.cell 2
      have f3 := L3.out.cell 3
      simp only [List.getElem?_cons_zero, List.getElem?_cons_succ] at f0 f1 f2 f3
      have kn := nameless_any xk xi xo xt w2
      have HNN : Hid ((⟨xk, xi, xt, xo⟩ : T).nn = noName xk xt) := Lib.hid rfl
      generalize noName xk xt = nn at *
      go_wp2_with fail
      refine kn.mono ?_
      rintro e w3 ⟨rfl, hb3⟩
      have M1 := Lib.hid (K1.out.below hb3 K1.out.lt)
      have MV := Lib.hid (own_below KV.out hb3)
      have MB := Lib.hid (grown_below KB.out hb3)
      have M4 := Lib.hid (L4.out.below hb3 L4.out.lt)
      clear hb3 kn K1 KV KB L3 L4 f0 f1 f2 f3
      have HC1 : Hid ((m : Int) + (q : Int) + 1 = ((m + q + 1 : Nat) : Int)) := Lib.hid (by omega)
      cases nn with
      | true =>
        rw [HNN.out, if_pos rfl] at HN HC
        have p0 := M1.out.cell 0
        have s0 := M1.out.frozen 0
        have hl0 := M1.out.lt
        simp only [List.getElem?_cons_zero] at p0
        go_upto_region 8 with (fail)
        have N1 := Lib.hid (M1.out.set_ 0 (.int .i64 ((m : Int) + (q : Int) + 1)))
        have NB := Lib.hid (grown_set MB.out 0 (.int .i64 ((m : Int) + (q : Int) + 1)))
        have N4 := Lib.hid (M4.out.far (p := ⟨P, 0, none⟩) (by show Z + 1 ≠ P; omega) (.int .i64 ((m : Int) + (q : Int) + 1)))
        have NV := Lib.hid (own_setCell_blk MV.out M1.out (by decide) 0 (.int .i64 ((m : Int) + (q : Int) + 1)))
        simp only [List.set_cons_zero] at N1
        clear M1 MB M4 MV p0 s0 hl0
        generalize World.setCell _ _ _ = w4 at *
        have p0 := N1.out.cell 0
        have x3 := N4.out.cell 3
        have s3 := N4.out.frozen 3
        have hl4 := N4.out.lt
        simp only [List.getElem?_cons_zero, List.getElem?_cons_succ] at p0 x3
        go_upto_region 9 with (fail)
        have H4 := Lib.hid (N4.out.set_ 3 (.int .i64 ((m : Int) + (q : Int) + 1)))
        have K1 := Lib.hid (N1.out.far (p := ⟨Z + 1, 3, none⟩) (by show P ≠ Z + 1; omega) (.int .i64 ((m : Int) + (q : Int) + 1)))
        have KV := Lib.hid (ownsRow_setCell_other NV.out (a := ⟨Z + 1, 3, none⟩) (fun e => by have h1 := KL.out _ e; simp only at h1; omega) (.int .i64 ((m : Int) + (q : Int) + 1)))
        have KB := Lib.hid (grown_set_new NB.out (g := Z + 1) (by rw [HRR.out]; omega) 3 (.int .i64 ((m : Int) + (q : Int) + 1)))
        simp only [List.set_cons_succ, List.set_cons_zero] at H4
        clear N1 NB N4 NV KL p0 x3 s3 hl4
        generalize World.setCell _ _ _ = w4 at *
        rw [HC1.out] at H4 K1
        rw [HC1.out]
        simp only [T.th] at HN
        have hw4 : R ≤ w4.heap.size := by have := KB.out.size; rw [HRR.out] at this; exact this
        have x0 := H4.out.cell 0
        have x1 := H4.out.cell 1
        have x2 := H4.out.cell 2
        have x3 := H4.out.cell 3
        simp only [List.getElem?_cons_zero, List.getElem?_cons_succ] at x0 x1 x2 x3
        have hownb := KV.out
        go_wp2_with (at_builtin; go_must (refine wpList_append_own _ rfl _ _ 114 rfl R 153 i0 _ 4 40 Try.underlying114 hi hz0 hz1 hz2 rfl (by decide) _ _ _ rfl (hownb.alloc _) ⟨w4.heap.size, 0, none⟩ 1 1 (Th.cells ⟨xk, xi, xt, m + q + 1⟩) rfl rfl (fun j u h => new_cells _ _ _ j u h) (Th.one _) (by unfold maxLen; omega) (by omega) (by simp; omega) ?_))
        intro v7 w7 hown7 hg7 _
        have a1 := (K1.out.alloc (.cells (Th.cells ⟨xk, xi, xt, m + q + 1⟩).toArray 153)).grown hg7 (own_low hownb hPlt)
        have BL := grown_row (grown_alloc KB.out (.cells (Th.cells ⟨xk, xi, xt, m + q + 1⟩).toArray 153)) (hownb.alloc _) (by rw [HRR.out]; omega) hg7
        have V7 : w7.ownsRow R 153 4 v7 (k + 1) (thcells (num m (ts.take (k + 1)))) := by
          rw [HN.out, thcells_append]; simpa [thcells] using hown7
        have HA1 : Hid (Blk w7 P 3 [.int .i64 ((m + cnt (ts.take (k + 1)) : Nat) : Int)]) := Lib.hid (by rw [HC.out]; exact a1)
        have HBL := Lib.hid BL
        have HV7 := Lib.hid V7
        clear a1 BL V7 hown7 hownb hg7 K1 KV KB H4 x0 x1 x2 x3 HN HC
        go_wp2
        go_roundg (n - (k + 1))
        case measure => have := HG.out; omega
        case rel => exact ⟨k + 1, by go_num, by omega, Lib.hid rfl, HBL, HA1, HV7⟩
      | false =>
        rw [HNN.out, if_neg (by simp)] at HN HC
        have H4 := M4
        have K1 := M1
        have KV := MV
        have KB := MB
        clear M4 M1 MV MB KL
        generalize w3 = w4 at *
        simp only [T.th] at HN
        have hw4 : R ≤ w4.heap.size := by have := KB.out.size; rw [HRR.out] at this; exact this
        have x0 := H4.out.cell 0
        have x1 := H4.out.cell 1
        have x2 := H4.out.cell 2
        have x3 := H4.out.cell 3
        simp only [List.getElem?_cons_zero, List.getElem?_cons_succ] at x0 x1 x2 x3
        have hownb := KV.out
        go_wp2_with (at_builtin; go_must (refine wpList_append_own _ rfl _ _ 114 rfl R 153 i0 _ 4 40 Try.underlying114 hi hz0 hz1 hz2 rfl (by decide) _ _ _ rfl (hownb.alloc _) ⟨w4.heap.size, 0, none⟩ 1 1 (Th.cells ⟨xk, xi, xt, 0⟩) rfl rfl (fun j u h => new_cells _ _ _ j u h) (Th.one _) (by unfold maxLen; omega) (by omega) (by simp; omega) ?_))
        intro v7 w7 hown7 hg7 _
        have a1 := (K1.out.alloc (.cells (Th.cells ⟨xk, xi, xt, 0⟩).toArray 153)).grown hg7 (own_low hownb hPlt)
        have BL := grown_row (grown_alloc KB.out (.cells (Th.cells ⟨xk, xi, xt, 0⟩).toArray 153)) (hownb.alloc _) (by rw [HRR.out]; omega) hg7
        have V7 : w7.ownsRow R 153 4 v7 (k + 1) (thcells (num m (ts.take (k + 1)))) := by
          rw [HN.out, thcells_append]; simpa [thcells] using hown7
        have HA1 : Hid (Blk w7 P 3 [.int .i64 ((m + cnt (ts.take (k + 1)) : Nat) : Int)]) := Lib.hid (by rw [HC.out]; exact a1)
        have HBL := Lib.hid BL
        have HV7 := Lib.hid V7
        clear a1 BL V7 hown7 hownb hg7 K1 KV KB H4 x0 x1 x2 x3 HN HC
        go_wp2
        go_roundg (n - (k + 1))
        case measure => have := HG.out; omega
        case rel => exact ⟨k + 1, by go_num, by omega, Lib.hid rfl, HBL, HA1, HV7⟩
    · obtain rfl : k = n := by omega
      have hall : ts.take k = ts := List.take_of_length_le (by have := HL.out; omega)
      rw [hall] at HV HP
      obtain ⟨Ab, cb, rfl, hnb2⟩ := own_slice HV.out
      go_wp2
      go_ret
      exact ⟨Ab, cb, rfl, by rw [HRR.out]; exact HV.out, HP.out, HB.out⟩
end Go.Proofs.Ytjcgkplphiedjaa

namespace Go.Proofs.Ytjcgkplphiedjaa
open Go.RowKit Go.Sort

theorem eqIn125 (k i o k' i' o' : Int) (t t' : ByteArray) (w : World) :
    (Op.equalIn 10000 153 (.agg #[.int .i64 k, .int .i64 i, .string t, .int .i64 o]) (.agg #[.int .i64 k', .int .i64 i', .string t', .int .i64 o'])).run Try.prog w = .ok (k == k' && i == i' && t.toList == t'.toList && o == o') w := by
  rw [run_equalIn_struct (P := Try.prog) w 9999 153 _ _ (by kernel_rfl) (by kernel_rfl)]
  have h1 : ∃ a b c d : Field, (Try.prog.fieldsOf 153).toList = [a, b, c, d] ∧ a.name ≠ "_" ∧ b.name ≠ "_" ∧ c.name ≠ "_" ∧ d.name ≠ "_" ∧ a.type = 3 ∧ b.type = 2 ∧ c.type = 9 ∧ d.type = 3 ∧ a.offset = 0 ∧ b.offset = 1 ∧ c.offset = 2 ∧ d.offset = 3 := by
    simp only [Program.fieldsOf, Try.underlying153]
    exact ⟨_, _, _, _, rfl, by decide, by decide, by decide, by decide, rfl, rfl, rfl, rfl, rfl, rfl, rfl, rfl⟩
  obtain ⟨a, b, c, d, hl, n1, n2, n3, n4, t1, t2, t3, t4, o1, o2, o3, o4⟩ := h1
  rw [hl]
  simp only [Op.eqFields, t1, t2, t3, t4, o1, o2, o3, o4]
  go_simp
  repeat' split
  all_goals simp_all

theorem run_neqT (a b : Th) (w : World) : (binOp .neq 153 (.agg a.cells.toArray) (.agg b.cells.toArray)).run Try.prog w = .ok (.bool (!decide (a = b))) w := by
  obtain ⟨k, i, t, p⟩ := a
  obtain ⟨k', i', t', p'⟩ := b
  show (binOp .neq 153 (.agg #[.int .i64 k, .int .i64 i, .string t, .int .i64 (p : Int)]) (.agg #[.int .i64 k', .int .i64 i', .string t', .int .i64 (p' : Int)])).run Try.prog w = _
  rw [run_neq_struct, eqIn125]
  have e : (k == k' && i == i' && t.toList == t'.toList && (p : Int) == (p' : Int)) = decide ((⟨k, i, t, p⟩ : Th) = ⟨k', i', t', p'⟩) := by
    rw [Bool.eq_iff_iff]
    simp only [Bool.and_eq_true, beq_iff_eq, decide_eq_true_eq, Th.mk.injEq]
    constructor
    · rintro ⟨⟨⟨h1, h2⟩, h3⟩, h4⟩; exact ⟨h1, h2, toList_inj h3, by omega⟩
    · rintro ⟨h1, h2, h3, h4⟩; exact ⟨⟨⟨h1, h2⟩, by rw [h3]⟩, by omega⟩
  rw [e]; rfl

/-- A binding, as a map holds it. -/
def bdF (s : Bd) (t : ByteArray) : Option Value := (look s t).map fun x => .agg x.cells.toArray
theorem look_snoc (s : Bd) (t : ByteArray) (y : Th) (u : ByteArray) (h : look s t = none) : look (s ++ [(t, y)]) u = if u = t then some y else look s u := by
  unfold look at h ⊢
  rw [List.find?_append]
  by_cases e : u = t
  · subst e
    rw [Option.map_eq_none_iff] at h
    rw [h, if_pos rfl]
    simp
  · rw [if_neg e]
    have : ([(t, y)] : Bd).find? (fun p => decide (p.1 = u)) = none := by simp [Ne.symm e]
    rw [this, Option.or_none]
theorem takeF_drop (s : Bd) (ts : List T) (ys : List Th) (k : Nat) (h : k < ts.length) (h' : k < ys.length) : takeF s (ts.drop k) (ys.drop k) =
    if ts[k].nn = true then takeF s (ts.drop (k + 1)) (ys.drop (k + 1))
    else if ts[k].k = 4 then
      (match look s ts[k].t with
      | none => takeF (s ++ [(ts[k].t, ys[k])]) (ts.drop (k + 1)) (ys.drop (k + 1))
      | some z => if z = ys[k] then takeF s (ts.drop (k + 1)) (ys.drop (k + 1)) else (s, false))
    else if ts[k].th 0 = ys[k] then takeF s (ts.drop (k + 1)) (ys.drop (k + 1)) else (s, false) := by
  rw [List.drop_eq_getElem_cons h, List.drop_eq_getElem_cons h', takeF]
  cases look s ts[k].t <;> rfl
theorem takeF_end (s : Bd) (ts : List T) (ys : List Th) (k : Nat) (h : ts.length ≤ k) : takeF s (ts.drop k) (ys.drop k) = (s, true) := by
  rw [List.drop_eq_nil_of_le h, takeF]
  intros; simp_all
/-- Names of a binding. -/
def bnames (s : Bd) : List ByteArray := s.map Prod.fst
theorem bnames_append (a b : Bd) : bnames (a ++ b) = bnames a ++ bnames b := by simp [bnames]
theorem mp_cell_ne {w : World} {b k : Nat} {f : ByteArray → Option Value} (h : Mp w b k f) {g j : Nat} {u : Value} (hc : w.cell? ⟨g, j, none⟩ = some u) : g ≠ b := by
  rintro rfl
  obtain ⟨D, ⟨es, clock, h1, _⟩, _⟩ := h
  unfold World.cell? at hc
  simp only [h1] at hc
  cases hc
theorem mapT : Try.prog.underlying 120 = some (.map 9 153) := by kernel_rfl
theorem zeroT125 (w : World) : (zeroValue 153).run Try.prog w = .ok (.agg #[.int .i64 0, .int .i64 0, .string ⟨#[]⟩, .int .i64 0]) w := by kernel_rfl

theorem own_not_map {w : World} {base e size n b k : Nat} {v : Value} {xs : List Value} {f : ByteArray → Option Value} (h : w.ownsRow base e size v n xs) (hm : Mp w b k f) : v.ownBlock = none ∨ v.ownBlock ≠ some b := by
  rcases h.2 with ⟨rfl, _⟩ | ⟨g, cap, cur, rfl, _⟩
  · exact .inl rfl
  · exact .inr (fun e => hm.ne h e.symm)

set_option maxRecDepth 200000 in
set_option maxHeartbeats 16000000 in
theorem take_any (b mk : Nat) (s : Bd) (A : Option Addr) (n c : Nat) (ts : List T) (XA : Option Addr) (xc : Nat) (ys : List Th) (w : World) (hm : Mp w b mk (bdF s)) (hmk : mk + n ≤ 1000000) (hr : Rd w w.heap.size 4 A n (tcells ts)) (hx : Rd w w.heap.size 4 XA n (thcells ys))
    (hf : ∀ t ∈ ts, t.t.size ≤ maxLen) :
    Calls Try.prog 74 #[.map (some b), .slice A n c, .slice XA n xc] w fun e w' => ∃ F fn fc new, e = .returned (.tuple #[.slice F fn fc, .bool (takeF s ts ys).2]) ∧ Hid ((takeF s ts ys).1 = s ++ new) ∧
      Mp w' b (mk + new.length) (bdF (s ++ new)) ∧ new.length ≤ n ∧ w'.ownsRow w.heap.size 9 1 (.slice F fn fc) fn (scells (bnames new)) ∧ w.grownBy w' (some b) := by
  obtain ⟨i0, hi, hz0, hz1, hz2⟩ := info_parts Try.info9
  have hl : ts.length = n := by have := hr.1; rw [tcells_length] at this; omega
  have hxl : ys.length = n := by have := hx.1; rw [thcells_length] at this; omega
  have HR := Lib.hid hr
  have HX := Lib.hid hx
  have HL := Lib.hid hl
  have HXL := Lib.hid hxl
  have HF := Lib.hid hf
  have HM := Lib.hid hm
  have hbw : b < w.heap.size := hm.lt
  have HV : Hid (takeF (s ++ []) (ts.drop 0) (ys.drop 0) = takeF s ts ys) := Lib.hid (by rw [List.append_nil]; rfl)
  clear hr hx hl hxl hf hm
  generalize takeF s ts ys = res at *
  go_enter Try.func74, Try.ntmps74
  go_upto_region 3 with (fail)
  generalize hR : w.heap.size = R at *
  have HRR := Lib.hid hR
  clear hR
  go_loopg [8, 16] n (fun gk u8 u16 wr => ∃ (k m c8 : Nat) (A8 : Option Addr) (new : Bd), u16 = .int .i64 k ∧ u8 = .slice A8 m c8 ∧ k ≤ n ∧ m ≤ k ∧ Hid (gk = n - k) ∧ Hid (w.grownBy wr (some b)) ∧ Hid (Mp wr b (mk + new.length) (bdF (s ++ new))) ∧ Hid (wr.ownsRow R 9 1 (.slice A8 m c8) m (scells (bnames new))) ∧ Hid (takeF (s ++ new) (ts.drop k) (ys.drop k) = res))
  case atStart => exact ⟨0, 0, 0, none, [], rfl, rfl, Nat.zero_le _, Nat.le_refl _, Lib.hid (by omega), Lib.hid (World.grownBy.refl _ _), Lib.hid (by rw [List.append_nil]; exact HM.out), Lib.hid (World.ownsRow_nil _ _ _ _), HV⟩
  case round =>
    clear HV
    obtain ⟨k, m, c8, A8, new, rfl, rfl, hk, hmk2, HG, HB, HMP, HO, HV⟩ := hrel
    have hsr : R ≤ wr.heap.size := by have := HB.out.size; rw [HRR.out] at this; exact this
    have hnm : new.length = m := by have := HO.out.1; rw [scells_length] at this; unfold bnames at this; rw [List.length_map] at this; omega
    by_cases hlt : k < n
    rotate_left
    · obtain rfl : k = n := by omega
      have hz : res = (s ++ new, true) := by rw [← HV.out]; exact takeF_end _ ts ys k (by have := HL.out; omega)
      subst hz
      clear HV
      go_wp2
      go_ret2
      exact ⟨A8, m, c8, rfl, new, Lib.hid rfl, HMP.out, by omega, by rw [HRR.out]; exact HO.out, HB.out⟩
    obtain ⟨b1, o1, hk1, rfl, hB1, c0, c1, c2, c3⟩ := HR.out.term k hlt
    obtain ⟨b2, o2, hk2, rfl, hB2, hdd⟩ := HX.out.at Th.cells 4 (fun _ => rfl) (by omega) k hlt
    have d0 := hdd 0 _ (by omega) rfl
    have d1 := hdd 1 _ (by omega) rfl
    have d2 := hdd 2 _ (by omega) rfl
    have d3 := hdd 3 _ (by omega) rfl
    rw [Nat.add_zero] at d0
    clear hdd
    have hb1 : b1 ≠ b := mp_cell_ne HM.out c0
    have hb2 : b2 ≠ b := mp_cell_ne HM.out d0
    have hB1w : b1 < w.heap.size := by rw [HRR.out]; exact hB1
    have hB2w : b2 < w.heap.size := by rw [HRR.out]; exact hB2
    have c0 := (grown_cell HB.out (a := ⟨b1, o1 + k * 4, none⟩) hB1w hb1).trans c0
    have c1 := (grown_cell HB.out (a := ⟨b1, o1 + k * 4 + 1, none⟩) hB1w hb1).trans c1
    have c2 := (grown_cell HB.out (a := ⟨b1, o1 + k * 4 + 2, none⟩) hB1w hb1).trans c2
    have c3 := (grown_cell HB.out (a := ⟨b1, o1 + k * 4 + 3, none⟩) hB1w hb1).trans c3
    have hxs := HF.out ts[k] (List.getElem_mem hk1)
    have HS := Lib.hid (takeF_drop (s ++ new) ts ys k hk1 hk2)
    rw [HV.out] at HS
    clear HV
    generalize ts[k] = x at *
    generalize ys[k] = y at *
    obtain ⟨xk, xi, xt, xo⟩ := x
    obtain ⟨yk, yi, yt, yo⟩ := y
    have HD : Hid (∀ w', w.grownBy w' (some b) → w'.cell? ⟨b2, o2 + k * 4, none⟩ = some (.int .i64 yk) ∧ w'.cell? ⟨b2, o2 + k * 4 + 1, none⟩ = some (.int .i64 yi) ∧ w'.cell? ⟨b2, o2 + k * 4 + 2, none⟩ = some (.string yt) ∧ w'.cell? ⟨b2, o2 + k * 4 + 3, none⟩ = some (.int .i64 (yo : Int))) := Lib.hid (fun w' hg =>
      ⟨(grown_cell hg (a := ⟨b2, o2 + k * 4, none⟩) hB2w hb2).trans d0, (grown_cell hg (a := ⟨b2, o2 + k * 4 + 1, none⟩) hB2w hb2).trans d1, (grown_cell hg (a := ⟨b2, o2 + k * 4 + 2, none⟩) hB2w hb2).trans d2, (grown_cell hg (a := ⟨b2, o2 + k * 4 + 3, none⟩) hB2w hb2).trans d3⟩)
    dsimp only at c0 c1 c2 c3 HS hxs
    have hlk1 : k * 4 + 4 ≤ n * 4 := by omega
    go_upto_region 5 with (fail)
    have hb3 := (Below.refl wr.heap.size wr).alloc (Nat.le_refl _) (.cells #[.int .i64 xk, .int .i64 xi, .string xt, .int .i64 xo] 33)
    have L3 := Lib.hid (Blk.new wr 33 [.int .i64 xk, .int .i64 xi, .string xt, .int .i64 xo])
    have KM := Lib.hid (HMP.out.below hb3 HMP.out.lt)
    have KO := Lib.hid (own_below HO.out hb3)
    have KB := Lib.hid (grown_below HB.out hb3)
    clear HB HMP HO hb3 c0 c1 c2 c3 d0 d1 d2 d3
    generalize World.alloc _ _ = w2 at *
    generalize hZ : wr.heap.size = Z at *
    clear hZ
    have f0 := L3.out.cell 0
    have f1 := L3.out.cell 1
    have f2 := L3.out.cell 2
    have f3 := L3.out.cell 3
    simp only [List.getElem?_cons_zero, List.getElem?_cons_succ] at f0 f1 f2 f3
    have kn := nameless_any xk xi xo xt w2
    have HNN : Hid ((⟨xk, xi, xt, xo⟩ : T).nn = noName xk xt) := Lib.hid rfl
    rw [HNN.out] at HS
    clear HNN
    generalize noName xk xt = nn at *
    go_wp2_with fail
    refine kn.mono ?_
    rintro e w3 ⟨rfl, hb3⟩
    have M3 := Lib.hid (L3.out.below hb3 L3.out.lt)
    have MM := Lib.hid (KM.out.below hb3 KM.out.lt)
    have MO := Lib.hid (own_below KO.out hb3)
    have MB := Lib.hid (grown_below KB.out hb3)
    clear hb3 kn KM KO KB L3 f0 f1 f2 f3
    cases nn with
    | true =>
      rw [if_pos rfl] at HS
      have HN : Hid (takeF (s ++ new) (ts.drop (k + 1)) (ys.drop (k + 1)) = res) := Lib.hid HS.out.symm
      have HM1 := MM
      clear HS MM
      go_wp2
      go_roundg (n - (k + 1))
      case measure => have := HG.out; omega
      case rel => exact ⟨k + 1, m, c8, A8, new, by go_num, rfl, by omega, by omega, Lib.hid rfl, MB, HM1, MO, HN⟩
    | false =>
    rw [if_neg (by simp)] at HS
    have f0 := M3.out.cell 0
    have f1 := M3.out.cell 1
    have f2 := M3.out.cell 2
    have f3 := M3.out.cell 3
    have hz3 : Z < w3.heap.size := M3.out.lt
    simp only [List.getElem?_cons_zero, List.getElem?_cons_succ] at f0 f1 f2 f3
    go_upto_region 7 with (fail)
    have hb3 := (Below.refl w3.heap.size w3).alloc (Nat.le_refl _) (.cells #[.int .i64 xk, .int .i64 xi, .string xt, .int .i64 0] 153)
    have L3 := Lib.hid (M3.out.below hb3 hz3)
    have L4 := Lib.hid (Blk.new w3 153 [.int .i64 xk, .int .i64 xi, .string xt, .int .i64 0])
    have KM := Lib.hid (MM.out.below hb3 MM.out.lt)
    have KO := Lib.hid (own_below MO.out hb3)
    have KB := Lib.hid (grown_below MB.out hb3)
    clear MM MO MB M3 hb3 f0 f1 f2 f3
    generalize World.alloc _ _ = w4 at *
    generalize hY : w3.heap.size = Y at *
    clear hY
    have f0 := L3.out.cell 0
    have f1 := L3.out.cell 1
    have f2 := L3.out.cell 2
    have f3 := L3.out.cell 3
    simp only [List.getElem?_cons_zero, List.getElem?_cons_succ] at f0 f1 f2 f3
    have kv := variable_any xk xi xo xt w4
    by_cases k4 : xk = 4
    rotate_left
    · rw [if_neg k4] at HS
      have e4 : (xk == 4) = false := by simpa using k4
      rw [e4] at kv
      clear e4 k4
      go_wp2_with fail
      refine kv.mono ?_
      rintro e w5 ⟨rfl, hb5⟩
      have N4 := Lib.hid (L4.out.below hb5 L4.out.lt)
      have NM := Lib.hid (KM.out.below hb5 KM.out.lt)
      have NO := Lib.hid (own_below KO.out hb5)
      have NB := Lib.hid (grown_below KB.out hb5)
      clear L3 L4 KM KO KB hb5 kv f0 f1 f2 f3
      have L4 := N4
      have KM := NM
      have KO := NO
      have KB := NB
      clear N4 NM NO NB
      have HS : Hid (res = if (⟨xk, xi, xt, 0⟩ : Th) = ⟨yk, yi, yt, yo⟩ then takeF (s ++ new) (ts.drop (k + 1)) (ys.drop (k + 1)) else (s ++ new, false)) := HS
      have y0 := L4.out.cell 0
      have y1 := L4.out.cell 1
      have y2 := L4.out.cell 2
      have y3 := L4.out.cell 3
      simp only [List.getElem?_cons_zero, List.getElem?_cons_succ] at y0 y1 y2 y3
      obtain ⟨e0, e1, e2, e3⟩ := HD.out _ KB.out
      go_upto_region 13 with (fail)
      have y0 := cell_regrown y0
      have y1 := cell_regrown y1
      have y2 := cell_regrown y2
      have y3 := cell_regrown y3
      have e0 := cell_regrown e0
      have e1 := cell_regrown e1
      have e2 := cell_regrown e2
      have e3 := cell_regrown e3
      have kq : ∀ W, (binOp .neq 153 (.agg #[.int .i64 xk, .int .i64 xi, .string xt, .int .i64 0]) (.agg #[.int .i64 yk, .int .i64 yi, .string yt, .int .i64 (yo : Int)])).run Try.prog W = .ok (.bool (!decide ((⟨xk, xi, xt, 0⟩ : Th) = (⟨yk, yi, yt, yo⟩ : Th)))) W := fun W => run_neqT (⟨xk, xi, xt, 0⟩ : Th) ⟨yk, yi, yt, yo⟩ W
      have hlo : k < n := hlt
      by_cases he : (⟨xk, xi, xt, 0⟩ : Th) = (⟨yk, yi, yt, yo⟩ : Th)
      · rw [if_pos he] at HS
        rw [decide_eq_true he] at kq
        have HN : Hid (takeF (s ++ new) (ts.drop (k + 1)) (ys.drop (k + 1)) = res) := Lib.hid HS.out.symm
        clear HS he
        refine wp_region_quiet_below (by kernel_rfl) (by kernel_rfl) ?_
        repeat (go_big_quiet_step (fail))
        refine wpQuiet_nil ?_
        intro w6 hw6
        obtain ⟨⟨dq, osq⟩, rfl⟩ := hw6
        have NB := Lib.hid (grown_below KB.out (below_regrown w5 dq osq))
        have NO := Lib.hid (own_below KO.out (below_regrown w5 dq osq))
        have NM := Lib.hid (KM.out.below (below_regrown w5 dq osq) KM.out.lt)
        clear KB KO KM L4 y0 y1 y2 y3 e0 e1 e2 e3 kq
        go_wp2
        go_roundg (n - (k + 1))
        case measure => have := HG.out; omega
        case rel => exact ⟨k + 1, m, c8, A8, new, by go_num, rfl, by omega, by omega, Lib.hid rfl, NB, NM, NO, HN⟩
      · rw [if_neg he] at HS
        rw [decide_eq_false he] at kq
        have hz := HS.out
        clear HS he
        refine wp_region_quiet_below (by kernel_rfl) (by kernel_rfl) ?_
        repeat (go_big_quiet_step (fail))
        refine wpQuiet_nil ?_
        intro w6 hw6
        obtain ⟨⟨dq, osq⟩, rfl⟩ := hw6
        have NB := Lib.hid (grown_below KB.out (below_regrown w5 dq osq))
        have NO := Lib.hid (own_below KO.out (below_regrown w5 dq osq))
        have NM := Lib.hid (KM.out.below (below_regrown w5 dq osq) KM.out.lt)
        clear KB KO KM L4 y0 y1 y2 y3 e0 e1 e2 e3 kq
        subst hz
        go_wp2
        go_ret2
        exact ⟨A8, m, c8, rfl, new, Lib.hid rfl, NM.out, by omega, by rw [HRR.out]; exact NO.out, NB.out⟩
    · subst k4
      rw [if_pos rfl] at HS
      have e4 : ((4 : Int) == 4) = true := rfl
      rw [e4] at kv
      go_wp2_with fail
      refine kv.mono ?_
      rintro e w5 ⟨rfl, hb5⟩
      have N3 := Lib.hid (L3.out.below hb5 L3.out.lt)
      have N4 := Lib.hid (L4.out.below hb5 L4.out.lt)
      have NM := Lib.hid (KM.out.below hb5 KM.out.lt)
      have NO := Lib.hid (own_below KO.out hb5)
      have NB := Lib.hid (grown_below KB.out hb5)
      clear L3 L4 KM KO KB hb5 kv f0 f1 f2 f3
      have f2 := N3.out.cell 2
      simp only [List.getElem?_cons_zero, List.getElem?_cons_succ] at f2
      have kl := mp_lookup_ok NM.out mapT (zeroT125 w5) xt hxs
      have HBF : Hid (bdF (s ++ new) xt = (look (s ++ new) xt).map fun x => .agg x.cells.toArray) := Lib.hid rfl
      rw [HBF.out] at kl
      clear HBF
      cases hlk : look (s ++ new) xt with
      | none =>
        rw [hlk] at HS kl
        simp only [Option.map_none, Option.getD_none, Option.isSome_none] at kl
        dsimp only at HS
        go_upto_region 9 with (fail)
        have hb6 := (Below.refl w5.heap.size w5).alloc (Nat.le_refl _) (.cells #[.int .i64 0, .int .i64 0, .string ⟨#[]⟩, .int .i64 0] 153)
        have L3 := Lib.hid (N3.out.below hb6 N3.out.lt)
        have KM := Lib.hid (NM.out.below hb6 NM.out.lt)
        have KO := Lib.hid (own_below NO.out hb6)
        have KB := Lib.hid (grown_below NB.out hb6)
        clear N3 N4 NM NO NB hb6 kl f2
        generalize World.alloc _ _ = w6 at *
        have f2 := L3.out.cell 2
        simp only [List.getElem?_cons_zero, List.getElem?_cons_succ] at f2
        obtain ⟨e0, e1, e2, e3⟩ := HD.out _ KB.out
        go_upto_region 10 with (fail)
        obtain ⟨C, hCi⟩ : ∃ C : World → Prop, ∀ w', C w' ↔ w' = w6.drew := ⟨_, fun _ => Iff.rfl⟩
        have hC : C w6.drew := (hCi _).2 rfl
        have k2 : ∀ p : WC C, p.w.cell? ⟨Z, 2, none⟩ = some (.string xt) := fun p => by rw [(hCi _).1 p.h]; exact f2
        have q0 : ∀ p : WC C, p.w.cell? ⟨b2, o2 + k * 4, none⟩ = some (.int .i64 yk) := fun p => by rw [(hCi _).1 p.h]; exact e0
        have q1 : ∀ p : WC C, p.w.cell? ⟨b2, o2 + k * 4 + 1, none⟩ = some (.int .i64 yi) := fun p => by rw [(hCi _).1 p.h]; exact e1
        have q2 : ∀ p : WC C, p.w.cell? ⟨b2, o2 + k * 4 + 2, none⟩ = some (.string yt) := fun p => by rw [(hCi _).1 p.h]; exact e2
        have q3 : ∀ p : WC C, p.w.cell? ⟨b2, o2 + k * 4 + 3, none⟩ = some (.int .i64 (yo : Int)) := fun p => by rw [(hCi _).1 p.h]; exact e3
        have kn : Nonempty (WC C) := ⟨⟨_, hC⟩⟩
        refine wp_region_frontN C [0, 1, 2, 3, 4, 5, 6] 1 (fun j => decide (j < 7)) (by kernel_rfl) (fun _ _ d _ _ h => by cases d <;> exact h) (by kernel_rfl) hC ?_
        simp only [List.map_cons, List.map_nil, List.getD_cons_zero, List.getD_cons_succ]
        repeat (go_big_quiet_step (fail))
        refine wpQuiet_nil ?_
        have hbd : Below w6.heap.size w6 w6.drew := ⟨rfl, rfl, rfl, Nat.le_refl _, fun _ _ => rfl⟩
        have M3 := Lib.hid (L3.out.below hbd L3.out.lt)
        have MM := Lib.hid (KM.out.below hbd KM.out.lt)
        have MO := Lib.hid (own_below KO.out hbd)
        have MB := Lib.hid (grown_below KB.out hbd)
        clear k2 q0 q1 q2 q3 kn hC hCi hbd L3 KM KO KB f2 e0 e1 e2 e3
        generalize w6.drew = w7 at *
        refine wpN_one (i := 7) (by kernel_rfl) rfl ?_
        refine wpList_update_mp rfl _ _ _ 120 153 rfl mapT b (mk + new.length) _ rfl MM.out (by unfold maxLen; omega) xt rfl hxs _ rfl ?_
        intro w8 hm8 hg8
        have HM8 : Hid (Mp w8 b (mk + (new ++ [(xt, (⟨yk, yi, yt, yo⟩ : Th))]).length) (bdF (s ++ (new ++ [(xt, ⟨yk, yi, yt, yo⟩)])))) := Lib.hid (Mp.congr (by rw [List.length_append, List.length_singleton, ← Nat.add_assoc]; exact hm8) (fun u => by
          rw [← List.append_assoc]
          unfold bdF
          rw [look_snoc _ _ _ u hlk]
          split <;> rfl))
        have HB8 := Lib.hid (grown_trans MB.out hg8)
        have H38 := Lib.hid (M3.out.grown hg8 (fun e => MM.out.blk_ne M3.out (by injection e with e; exact e.symm)))
        have HO8 := Lib.hid (MO.out.kept hg8 (own_not_map MO.out MM.out))
        clear hm8 hg8 MM MB MO M3
        go_wp2
        refine (show tailN _ _ _ _ _ _ _ _ _ .normal _ _ from ⟨fun h => absurd h (by decide), ?_⟩)
        refine wpN_none (by kernel_rfl) ?_
        have f2 := H38.out.cell 2
        simp only [List.getElem?_cons_zero, List.getElem?_cons_succ] at f2
        have hs8 : R ≤ w8.heap.size := by have := HB8.out.size; rw [HRR.out] at this; exact this
        have hownb := HO8.out
        go_wp2_with (at_builtin; go_must (refine wpList_append_own _ rfl _ _ 23 rfl R 9 i0 _ 1 16 Try.underlying23 hi hz0 hz1 hz2 rfl (by decide) _ _ _ rfl (hownb.alloc _) ⟨w8.heap.size, 0, none⟩ 1 1 [.string xt] rfl rfl (fun j u h => new_cells _ _ _ j u h) (str_one _) (by unfold maxLen; omega) (by omega) (by simp; omega) ?_))
        intro v9 w9 hown9 hg9 _
        obtain ⟨A9, d9, rfl, hn9⟩ := own_slice hown9
        have BL := Lib.hid (grown_row (grown_alloc HB8.out (.cells #[.string xt] 9)) (hownb.alloc _) (by rw [HRR.out]; omega) hg9)
        have ML := Lib.hid ((HM8.out.alloc (.cells #[.string xt] 9)).grown hg9 (HM8.out.ne hownb))
        have OL : Hid (w9.ownsRow R 9 1 (.slice A9 (m + 1) d9) (m + 1) (scells (bnames (new ++ [(xt, ⟨yk, yi, yt, yo⟩)])))) := Lib.hid (by
          rw [bnames_append, scells_append]; simpa [scells, bnames] using hown9)
        have HN : Hid (takeF (s ++ (new ++ [(xt, ⟨yk, yi, yt, yo⟩)])) (ts.drop (k + 1)) (ys.drop (k + 1)) = res) := Lib.hid (by rw [← List.append_assoc]; exact HS.out.symm)
        clear hown9 hg9 hownb HB8 HM8 HO8 H38 f2 HS
        go_wp2
        go_roundg (n - (k + 1))
        case measure => have := HG.out; omega
        case rel => exact ⟨k + 1, m + 1, d9, A9, _, by go_num, rfl, by omega, by omega, Lib.hid rfl, BL, ML, OL, HN⟩
      | some z =>
        rw [hlk] at HS kl
        obtain ⟨zk, zi, zt, zo⟩ := z
        simp only [Option.map_some, Option.getD_some, Option.isSome_some, Th.cells] at kl
        dsimp only at HS
        clear hlk
        go_upto_region 9 with (fail)
        have hb6 := (Below.refl w5.heap.size w5).alloc (Nat.le_refl _) (.cells #[.int .i64 zk, .int .i64 zi, .string zt, .int .i64 (zo : Int)] 153)
        have hY5 : Y < w5.heap.size := N4.out.lt
        have L4 := Lib.hid (N4.out.below hb6 hY5)
        have L6 := Lib.hid (Blk.new w5 153 [.int .i64 zk, .int .i64 zi, .string zt, .int .i64 (zo : Int)])
        have KM := Lib.hid (NM.out.below hb6 NM.out.lt)
        have KO := Lib.hid (own_below NO.out hb6)
        have KB := Lib.hid (grown_below NB.out hb6)
        clear N3 N4 NM NO NB hb6 kl f2
        generalize World.alloc _ _ = w6 at *
        generalize w5.heap.size = X at *
        have z0 := L6.out.cell 0
        have z1 := L6.out.cell 1
        have z2 := L6.out.cell 2
        have z3 := L6.out.cell 3
        have g0 := L4.out.cell 0
        have g1 := L4.out.cell 1
        have g2 := L4.out.cell 2
        have g3 := L4.out.cell 3
        have s0 := L4.out.frozen 0
        have s1 := L4.out.frozen 1
        have s2 := L4.out.frozen 2
        have s3 := L4.out.frozen 3
        have hl4 := L4.out.lt
        simp only [List.getElem?_cons_zero, List.getElem?_cons_succ] at z0 z1 z2 z3 g0 g1 g2 g3
        have hRY : R ≤ Y := by omega
        have D1 := L4.out.set_ 0 (.int .i64 zk)
        have D2 := D1.set_ 1 (.int .i64 zi)
        have D3 := D2.set_ 2 (.string zt)
        have D4 := D3.set_ 3 (.int .i64 (zo : Int))
        simp only [List.set_cons_succ, List.set_cons_zero] at D4
        have hbY : b ≠ Y := by omega
        have EM := (((KM.out.far (p := ⟨Y, 0, none⟩) hbY (.int .i64 zk)).far (p := ⟨Y, 1, none⟩) hbY (.int .i64 zi)).far (p := ⟨Y, 2, none⟩) hbY (.string zt)).far (p := ⟨Y, 3, none⟩) hbY (.int .i64 (zo : Int))
        have EO := own_setCell_blk (own_setCell_blk (own_setCell_blk (own_setCell_blk KO.out L4.out (by decide) 0 (.int .i64 zk)) D1 (by decide) 1 (.int .i64 zi)) D2 (by decide) 2 (.string zt)) D3 (by decide) 3 (.int .i64 (zo : Int))
        have hRYw : w.heap.size ≤ Y := by rw [HRR.out]; exact hRY
        have EB := grown_set_new (grown_set_new (grown_set_new (grown_set_new KB.out hRYw 0 (.int .i64 zk)) hRYw 1 (.int .i64 zi)) hRYw 2 (.string zt)) hRYw 3 (.int .i64 (zo : Int))
        have M4 := Lib.hid D4
        have MM := Lib.hid EM
        have MO := Lib.hid EO
        have MB := Lib.hid EB
        clear D1 D2 D3 D4 EM EO EB L4 L6 KM KO KB hRYw
        go_upto_region 13 with (fail)
        clear z0 z1 z2 z3 g0 g1 g2 g3 s0 s1 s2 s3 hl4
        generalize World.setCell (World.setCell (World.setCell (World.setCell _ _ _) _ _) _ _) _ _ = w7 at *
        have L4 := M4
        have KM := MM
        have KO := MO
        have KB := MB
        clear M4 MM MO MB
        have y0 := L4.out.cell 0
        have y1 := L4.out.cell 1
        have y2 := L4.out.cell 2
        have y3 := L4.out.cell 3
        simp only [List.getElem?_cons_zero, List.getElem?_cons_succ] at y0 y1 y2 y3
        obtain ⟨e0, e1, e2, e3⟩ := HD.out _ KB.out
        have y0 := cell_regrown y0
        have y1 := cell_regrown y1
        have y2 := cell_regrown y2
        have y3 := cell_regrown y3
        have e0 := cell_regrown e0
        have e1 := cell_regrown e1
        have e2 := cell_regrown e2
        have e3 := cell_regrown e3
        have kq : ∀ W, (binOp .neq 153 (.agg #[.int .i64 zk, .int .i64 zi, .string zt, .int .i64 (zo : Int)]) (.agg #[.int .i64 yk, .int .i64 yi, .string yt, .int .i64 (yo : Int)])).run Try.prog W = .ok (.bool (!decide ((⟨zk, zi, zt, zo⟩ : Th) = (⟨yk, yi, yt, yo⟩ : Th)))) W := fun W => run_neqT (⟨zk, zi, zt, zo⟩ : Th) ⟨yk, yi, yt, yo⟩ W
        have hlo : k < n := hlt
        by_cases he : (⟨zk, zi, zt, zo⟩ : Th) = (⟨yk, yi, yt, yo⟩ : Th)
        · rw [if_pos he] at HS
          rw [decide_eq_true he] at kq
          have HN : Hid (takeF (s ++ new) (ts.drop (k + 1)) (ys.drop (k + 1)) = res) := Lib.hid HS.out.symm
          clear HS he
          refine wp_region_quiet_below (by kernel_rfl) (by kernel_rfl) ?_
          repeat (go_big_quiet_step (fail))
          refine wpQuiet_nil ?_
          intro w6 hw6
          obtain ⟨⟨dq, osq⟩, rfl⟩ := hw6
          have NB := Lib.hid (grown_below KB.out (below_regrown w7 dq osq))
          have NO := Lib.hid (own_below KO.out (below_regrown w7 dq osq))
          have NM := Lib.hid (KM.out.below (below_regrown w7 dq osq) KM.out.lt)
          clear KB KO KM L4 y0 y1 y2 y3 e0 e1 e2 e3 kq
          go_wp2
          go_roundg (n - (k + 1))
          case measure => have := HG.out; omega
          case rel => exact ⟨k + 1, m, c8, A8, new, by go_num, rfl, by omega, by omega, Lib.hid rfl, NB, NM, NO, HN⟩
        · rw [if_neg he] at HS
          rw [decide_eq_false he] at kq
          have hz := HS.out
          clear HS he
          refine wp_region_quiet_below (by kernel_rfl) (by kernel_rfl) ?_
          repeat (go_big_quiet_step (fail))
          refine wpQuiet_nil ?_
          intro w6 hw6
          obtain ⟨⟨dq, osq⟩, rfl⟩ := hw6
          have NB := Lib.hid (grown_below KB.out (below_regrown w7 dq osq))
          have NO := Lib.hid (own_below KO.out (below_regrown w7 dq osq))
          have NM := Lib.hid (KM.out.below (below_regrown w7 dq osq) KM.out.lt)
          clear KB KO KM L4 y0 y1 y2 y3 e0 e1 e2 e3 kq
          subst hz
          go_wp2
          go_ret2
          exact ⟨A8, m, c8, rfl, new, Lib.hid rfl, NM.out, by omega, by rw [HRR.out]; exact NO.out, NB.out⟩
end Go.Proofs.Ytjcgkplphiedjaa
