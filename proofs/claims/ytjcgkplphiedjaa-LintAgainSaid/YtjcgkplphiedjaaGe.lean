/- Terms as the program's linter sees them. | The same term. | A test's sides, the document's. -/
import Derived.Test.YtjcgkplphiedjaaGa
import Derived.Test.YtjcgkplphiedjaaGb
namespace Go.Proofs.Ytjcgkplphiedjaa
open Go.RowKit

set_option maxHeartbeats 1000000 in
theorem constantL_any (k i o : Int) (t : ByteArray) (w : World) :
    Calls Try.prog 70 #[.agg #[.int .i64 k, .int .i64 i, .string t, .int .i64 o]] w fun e w' => e = .returned (.agg #[.int .i64 k, .int .i64 i, .string t]) ∧ Below w.heap.size w w' := by
  go_enter Try.func70, Try.ntmps70
  go_upto_region 1 with (fail)
  have hb1 := ((Below.refl w.heap.size w).alloc (Nat.le_refl _) (.cells #[.int .i64 k, .int .i64 i, .string t, .int .i64 o] 33)).alloc (by simp) (.cells #[.int .i64 0, .int .i64 0, .string ⟨#[]⟩] 110)
  have h1 := (Blk.new w 33 [.int .i64 k, .int .i64 i, .string t, .int .i64 o]).alloc (.cells #[.int .i64 0, .int .i64 0, .string ⟨#[]⟩] 110)
  have h2 := Blk.new (w.alloc (.cells #[.int .i64 k, .int .i64 i, .string t, .int .i64 o] 33)) 110 [.int .i64 0, .int .i64 0, .string ⟨#[]⟩]
  have hsz : (w.alloc (.cells #[.int .i64 k, .int .i64 i, .string t, .int .i64 o] 33)).heap.size = w.heap.size + 1 := by simp
  rw [hsz] at h2
  generalize World.alloc _ _ = w1 at *
  generalize hR : w.heap.size = R at *
  have HRR := Lib.hid hR
  clear hR hsz
  have f0 := h1.cell 0
  have f1 := h1.cell 1
  have f2 := h1.cell 2
  have q0 := h2.cell 0
  have q1 := h2.cell 1
  have q2 := h2.cell 2
  have s0 := h2.frozen 0
  have s1 := h2.frozen 1
  have s2 := h2.frozen 2
  have hl2 := h2.lt
  simp only [List.getElem?_cons_zero, List.getElem?_cons_succ] at f0 f1 f2 q0 q1 q2
  have D1 := h2.set_ 0 (.int .i64 k)
  have D2 := D1.set_ 1 (.int .i64 i)
  have D3 := D2.set_ 2 (.string t)
  have HE := Lib.hid (((hb1.setCell (p := ⟨R + 1, 0, none⟩) (by simp) (.int .i64 k)).setCell (p := ⟨R + 1, 1, none⟩) (by simp) (.int .i64 i)).setCell (p := ⟨R + 1, 2, none⟩) (by simp) (.string t))
  have p0 := D3.cell 0
  have p1 := D3.cell 1
  have p2 := D3.cell 2
  simp at p0 p1 p2
  clear h1 h2 D1 D2 D3 hb1
  go_wp2
  refine bodyPost_ret (v := .agg #[.int .i64 k, .int .i64 i, .string t]) ?_ rfl ⟨rfl, ?_⟩
  · simp [results, Try.results70, go_sem, p0, p1, p2]
  · rw [HRR.out]; exact HE.out


theorem variable_any (k i o : Int) (t : ByteArray) (w : World) :
    Calls Try.prog 68 #[.agg #[.int .i64 k, .int .i64 i, .string t, .int .i64 o]] w fun e w' => e = .returned (.bool (k == 4)) ∧ Below w.heap.size w w' := by
  go_enter Try.func68, Try.ntmps68
  go_upto_region 1 with (fail)
  have hb1 := (Below.refl w.heap.size w).alloc (Nat.le_refl _) (.cells #[.int .i64 k, .int .i64 i, .string t, .int .i64 o] 33)
  have h1 := Blk.new w 33 [.int .i64 k, .int .i64 i, .string t, .int .i64 o]
  generalize World.alloc _ _ = w1 at *
  generalize hR : w.heap.size = R at *
  have HRR := Lib.hid hR
  clear hR
  have HB1 := Lib.hid hb1
  have H1 := Lib.hid h1
  have f0 := h1.cell 0
  have f1 := h1.cell 1
  have f2 := h1.cell 2
  have f3 := h1.cell 3
  simp only [List.getElem?_cons_zero, List.getElem?_cons_succ] at f0 f1 f2 f3
  clear h1 hb1
  go_wp2
  go_ret
  exact ⟨by rfl, by rw [HRR.out]; exact HB1.out⟩

/-- A nameless variable. -/
def noName (k : Int) (t : ByteArray) : Bool := (k == 4) && (t.toList == [95])

set_option maxRecDepth 20000 in
set_option maxHeartbeats 1000000 in
theorem nameless_any (k i o : Int) (t : ByteArray) (w : World) :
    Calls Try.prog 89 #[.agg #[.int .i64 k, .int .i64 i, .string t, .int .i64 o]] w fun e w' => e = .returned (.bool (noName k t)) ∧ Below w.heap.size w w' := by
  have HV : Hid (noName k t = ((k == 4) && (t.toList == [95]))) := Lib.hid rfl
  have kv := fun W => variable_any k i o t W
  generalize noName k t = v at *
  go_enter Try.func89, Try.ntmps89
  go_upto_region 1 with (fail)
  have hb1 := (Below.refl w.heap.size w).alloc (Nat.le_refl _) (.cells #[.int .i64 k, .int .i64 i, .string t, .int .i64 o] 33)
  have h1 := Blk.new w 33 [.int .i64 k, .int .i64 i, .string t, .int .i64 o]
  generalize World.alloc _ _ = w1 at *
  generalize hR : w.heap.size = R at *
  have HRR := Lib.hid hR
  clear hR
  have HB1 := Lib.hid hb1
  have H1 := Lib.hid h1
  have f0 := h1.cell 0
  have f1 := h1.cell 1
  have f2 := h1.cell 2
  have f3 := h1.cell 3
  simp only [List.getElem?_cons_zero, List.getElem?_cons_succ] at f0 f1 f2 f3
  clear h1 hb1
  have kv1 := kv w1
  clear kv
  by_cases k4 : k = 4
  · subst k4
    have e4 : ((4 : Int) == 4) = true := rfl
    rw [e4] at kv1
    go_wp2_with fail
    refine kv1.mono ?_
    rintro e w2 ⟨rfl, hb2⟩
    have HB2 := Lib.hid (HB1.out.trans (hb2.mono (HRR.out ▸ HB1.out.size)))
    have h2 := H1.out.below hb2 H1.out.lt
    clear f0 f1 f2 f3 kv1 hb2 H1 HB1
    have f2 := h2.cell 2
    simp only [List.getElem?_cons_zero, List.getElem?_cons_succ] at f2
    clear h2
    cases hq : (t.toList == [95]) with
    | true =>
      have hz : v = true := by rw [HV.out, e4, hq]; rfl
      subst hz
      clear HV
      go_wp2
      go_ret
      exact ⟨by rfl, by rw [HRR.out]; exact HB2.out⟩
    | false =>
      have hz : v = false := by rw [HV.out, e4, hq]; rfl
      subst hz
      clear HV
      go_wp2
      go_ret
      exact ⟨by rfl, by rw [HRR.out]; exact HB2.out⟩
  · have e4 : (k == 4) = false := by simpa using k4
    rw [e4] at kv1
    have hz : v = false := by rw [HV.out, e4]; rfl
    subst hz
    clear HV
    go_wp2_with fail
    refine kv1.mono ?_
    rintro e w2 ⟨rfl, hb2⟩
    have HB2 := Lib.hid (HB1.out.trans (hb2.mono (HRR.out ▸ HB1.out.size)))
    clear f0 f1 f2 f3 kv1 hb2 H1 HB1
    go_wp2
    go_ret
    exact ⟨by rfl, by rw [HRR.out]; exact HB2.out⟩

/-- A term without its offset. -/
theorem bareL_any (k i o : Int) (t : ByteArray) (w : World) :
    Calls Try.prog 90 #[.agg #[.int .i64 k, .int .i64 i, .string t, .int .i64 o]] w fun e w' => e = .returned (.agg #[.int .i64 k, .int .i64 i, .string t, .int .i64 0]) ∧ Below w.heap.size w w' := by
  go_enter Try.func90, Try.ntmps90
  go_upto_region 1 with (fail)
  have hb1 := ((Below.refl w.heap.size w).alloc (Nat.le_refl _) (.cells #[.int .i64 k, .int .i64 i, .string t, .int .i64 o] 33)).alloc (by simp) (.cells #[.int .i64 0, .int .i64 0, .string ⟨#[]⟩, .int .i64 0] 33)
  have h1 := (Blk.new w 33 [.int .i64 k, .int .i64 i, .string t, .int .i64 o]).alloc (.cells #[.int .i64 0, .int .i64 0, .string ⟨#[]⟩, .int .i64 0] 33)
  have h2 := Blk.new (w.alloc (.cells #[.int .i64 k, .int .i64 i, .string t, .int .i64 o] 33)) 33 [.int .i64 0, .int .i64 0, .string ⟨#[]⟩, .int .i64 0]
  have hsz : (w.alloc (.cells #[.int .i64 k, .int .i64 i, .string t, .int .i64 o] 33)).heap.size = w.heap.size + 1 := by simp
  rw [hsz] at h2
  generalize World.alloc _ _ = w1 at *
  generalize hR : w.heap.size = R at *
  have HRR := Lib.hid hR
  clear hR hsz
  have f3 := h1.cell 3
  have z3 := h1.frozen 3
  have hl1 := h1.lt
  simp only [List.getElem?_cons_zero, List.getElem?_cons_succ] at f3
  go_upto_region 2 with (fail)
  have hb2 := hb1.setCell (p := ⟨R, 3, none⟩) (Nat.le_refl _) (.int .i64 0)
  have g1 := h1.set_ 3 (.int .i64 0)
  have g2 := h2.far (p := ⟨R, 3, none⟩) (by show R + 1 ≠ R; omega) (.int .i64 0)
  simp only [List.set_cons_succ, List.set_cons_zero] at g1
  clear h1 h2 hb1 f3 z3 hl1
  generalize World.setCell _ _ _ = w2 at *
  have f0 := g1.cell 0
  have f1 := g1.cell 1
  have f2 := g1.cell 2
  have f3 := g1.cell 3
  have q0 := g2.cell 0
  have q1 := g2.cell 1
  have q2 := g2.cell 2
  have q3 := g2.cell 3
  have s0 := g2.frozen 0
  have s1 := g2.frozen 1
  have s2 := g2.frozen 2
  have s3 := g2.frozen 3
  have hl2 := g2.lt
  simp only [List.getElem?_cons_zero, List.getElem?_cons_succ] at f0 f1 f2 f3 q0 q1 q2 q3
  have D1 := g2.set_ 0 (.int .i64 k)
  have D2 := D1.set_ 1 (.int .i64 i)
  have D3 := D2.set_ 2 (.string t)
  have D4 := D3.set_ 3 (.int .i64 0)
  have HE := Lib.hid ((((hb2.setCell (p := ⟨R + 1, 0, none⟩) (by simp) (.int .i64 k)).setCell (p := ⟨R + 1, 1, none⟩) (by simp) (.int .i64 i)).setCell (p := ⟨R + 1, 2, none⟩) (by simp) (.string t)).setCell (p := ⟨R + 1, 3, none⟩) (by simp) (.int .i64 0))
  have p0 := D4.cell 0
  have p1 := D4.cell 1
  have p2 := D4.cell 2
  have p3 := D4.cell 3
  simp at p0 p1 p2 p3
  clear g1 g2 D1 D2 D3 D4 hb2
  go_wp2
  refine bodyPost_ret (v := .agg #[.int .i64 k, .int .i64 i, .string t, .int .i64 0]) ?_ rfl ⟨rfl, ?_⟩
  · simp [results, Try.results90, go_sem, p0, p1, p2, p3]
  · rw [HRR.out]; exact HE.out
end Go.Proofs.Ytjcgkplphiedjaa

namespace Go.Proofs.Ytjcgkplphiedjaa
open Go.RowKit Go.Sort

/-- The same term, offsets aside. -/
def like (k i k' i' : Int) (t t' : ByteArray) : Bool := k == k' && i == i' && t.toList == t'.toList && (0 : Int) == 0
def likeT (a b : T) : Bool := like a.k a.i b.k b.i a.t b.t
@[simp] theorem run_eql44L (k i k' i' : Int) (t t' : ByteArray) (w : World) :
    (binOp .eql 33 (.agg #[.int .i64 k, .int .i64 i, .string t, .int .i64 0]) (.agg #[.int .i64 k', .int .i64 i', .string t', .int .i64 0])).run Try.prog w = .ok (.bool (like k i k' i' t t')) w := run_eql44 k i 0 k' i' 0 t t' w

set_option maxRecDepth 200000 in
set_option maxHeartbeats 4000000 in
theorem same_any (a b : T) (w : World) :
    Calls Try.prog 66 #[.agg a.cells.toArray, .agg b.cells.toArray] w fun e w' => e = .returned (.bool (likeT a b && !noName a.k a.t)) ∧ Below w.heap.size w w' := by
  obtain ⟨k, i, t, o⟩ := a
  obtain ⟨k', i', t', o'⟩ := b
  show Calls Try.prog 66 #[.agg #[.int .i64 k, .int .i64 i, .string t, .int .i64 o], .agg #[.int .i64 k', .int .i64 i', .string t', .int .i64 o']] w _
  have kA := fun W => bareL_any k i o t W
  have kB := fun W => bareL_any k' i' o' t' W
  have kN := fun W => nameless_any k i o t W
  have HV : Hid ((likeT ⟨k, i, t, o⟩ ⟨k', i', t', o'⟩ && !noName k t) = (like k i k' i' t t' && !noName k t)) := Lib.hid rfl
  dsimp only
  generalize (likeT _ _ && !noName _ _) = v at *
  generalize noName k t = nn at *
  go_enter Try.func66, Try.ntmps66
  go_upto_region 1 with (fail)
  obtain ⟨hb3, h1, h2, hs3⟩ := two_alloc w 33 33 [.int .i64 k, .int .i64 i, .string t, .int .i64 o] [.int .i64 k', .int .i64 i', .string t', .int .i64 o']
  generalize World.alloc (World.alloc _ _) _ = w1 at *
  generalize hR : w.heap.size = R at *
  have HRR := Lib.hid hR
  clear hR
  have HB1 := Lib.hid hb3
  have f0 := cell_regrown ((h1.cell 0).trans rfl)
  have f1 := cell_regrown ((h1.cell 1).trans rfl)
  have f2 := cell_regrown ((h1.cell 2).trans rfl)
  have f3 := cell_regrown ((h1.cell 3).trans rfl)
  have g0 := cell_regrown ((h2.cell 0).trans rfl)
  have g1 := cell_regrown ((h2.cell 1).trans rfl)
  have g2 := cell_regrown ((h2.cell 2).trans rfl)
  have g3 := cell_regrown ((h2.cell 3).trans rfl)
  have cA : ∀ d os, Calls Try.prog 90 #[.agg #[.int .i64 k, .int .i64 i, .string t, .int .i64 o]] (grow (redrawn w1 d) os) fun e w'' => e = .returned (.agg #[.int .i64 k, .int .i64 i, .string t, .int .i64 0]) ∧ ∃ p : Regrown, w'' = grow (redrawn w1 p.d) p.os :=
    fun d os => Calls.regrown_of (kA _)
  have cB : ∀ d os, Calls Try.prog 90 #[.agg #[.int .i64 k', .int .i64 i', .string t', .int .i64 o']] (grow (redrawn w1 d) os) fun e w'' => e = .returned (.agg #[.int .i64 k', .int .i64 i', .string t', .int .i64 0]) ∧ ∃ p : Regrown, w'' = grow (redrawn w1 p.d) p.os :=
    fun d os => Calls.regrown_of (kB _)
  have cN : ∀ d os, Calls Try.prog 89 #[.agg #[.int .i64 k, .int .i64 i, .string t, .int .i64 o]] (grow (redrawn w1 d) os) fun e w'' => e = .returned (.bool nn) ∧ ∃ p : Regrown, w'' = grow (redrawn w1 p.d) p.os :=
    fun d os => Calls.regrown_of (kN _)
  clear h1 h2 hb3 hs3 kA kB kN
  cases hq : like k i k' i' t t' with
  | true =>
    cases nn with
    | true =>
      have hz : v = false := by rw [HV.out, hq]; rfl
      subst hz
      clear HV
      refine wp_region_quiet_below (by kernel_rfl) (by kernel_rfl) ?_
      repeat (go_big_quiet_step (first | exact cA _ _ | exact cB _ _ | exact cN _ _))
      refine wpQuiet_nil ?_
      intro w6 hw6
      obtain ⟨⟨dq, osq⟩, rfl⟩ := hw6
      have HB6 := Lib.hid (HB1.out.trans ((below_regrown w1 dq osq).mono (HRR.out ▸ HB1.out.size)))
      clear f0 f1 f2 f3 g0 g1 g2 g3 cA cB cN
      go_wp2
      go_ret
      exact ⟨by rfl, by rw [HRR.out]; exact HB6.out⟩
    | false =>
      have hz : v = true := by rw [HV.out, hq]; rfl
      subst hz
      clear HV
      refine wp_region_quiet_below (by kernel_rfl) (by kernel_rfl) ?_
      repeat (go_big_quiet_step (first | exact cA _ _ | exact cB _ _ | exact cN _ _))
      refine wpQuiet_nil ?_
      intro w6 hw6
      obtain ⟨⟨dq, osq⟩, rfl⟩ := hw6
      have HB6 := Lib.hid (HB1.out.trans ((below_regrown w1 dq osq).mono (HRR.out ▸ HB1.out.size)))
      clear f0 f1 f2 f3 g0 g1 g2 g3 cA cB cN
      go_wp2
      go_ret
      exact ⟨by rfl, by rw [HRR.out]; exact HB6.out⟩
  | false =>
    have hz : v = false := by rw [HV.out, hq]; rfl
    subst hz
    clear HV
    refine wp_region_quiet_below (by kernel_rfl) (by kernel_rfl) ?_
    repeat (go_big_quiet_step (first | exact cA _ _ | exact cB _ _ | exact cN _ _))
    refine wpQuiet_nil ?_
    intro w6 hw6
    obtain ⟨⟨dq, osq⟩, rfl⟩ := hw6
    have HB6 := Lib.hid (HB1.out.trans ((below_regrown w1 dq osq).mono (HRR.out ▸ HB1.out.size)))
    clear f0 f1 f2 f3 g0 g1 g2 g3 cA cB cN
    go_wp2
    go_ret
    exact ⟨by rfl, by rw [HRR.out]; exact HB6.out⟩
end Go.Proofs.Ytjcgkplphiedjaa

namespace Go.Proofs.Ytjcgkplphiedjaa
open Go.RowKit Go.Sort

def sideEq (l r : T) : Bool := decide (l.k = 4 ∧ r.k = 4) && ((l.t.toList == r.t.toList) && !(l.t.toList == [95]))
def sideFix (l r : T) : Bool := decide (l.k ≠ 4 ∧ r.k ≠ 4)

end Go.Proofs.Ytjcgkplphiedjaa
