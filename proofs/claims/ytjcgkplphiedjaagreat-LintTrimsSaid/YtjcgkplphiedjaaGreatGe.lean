/- Terms as the program's linter sees them. | The same term. | A test's sides, the document's. -/
import Derived.Test.YtjcgkplphiedjaaGreatGa
import Derived.Test.YtjcgkplphiedjaaGreatGb
namespace Go.Proofs.YtjcgkplphiedjaaGreat
open Go.RowKit

set_option maxHeartbeats 1000000 in
theorem constantL_any (k i o : Int) (t : ByteArray) (w : World) :
    Calls Tryz.prog 51 #[.agg #[.int .i64 k, .int .i64 i, .string t, .int .i64 o]] w fun e w' => e = .returned (.agg #[.int .i64 k, .int .i64 i, .string t]) ∧ Below w.heap.size w w' := by
  go_enter Tryz.func51, Tryz.ntmps51
  go_upto_region 1 with (fail)
  have hb1 := ((Below.refl w.heap.size w).alloc (Nat.le_refl _) (.cells #[.int .i64 k, .int .i64 i, .string t, .int .i64 o] 44)).alloc (by simp) (.cells #[.int .i64 0, .int .i64 0, .string ⟨#[]⟩] 63)
  have h1 := (Blk.new w 44 [.int .i64 k, .int .i64 i, .string t, .int .i64 o]).alloc (.cells #[.int .i64 0, .int .i64 0, .string ⟨#[]⟩] 63)
  have h2 := Blk.new (w.alloc (.cells #[.int .i64 k, .int .i64 i, .string t, .int .i64 o] 44)) 63 [.int .i64 0, .int .i64 0, .string ⟨#[]⟩]
  have hsz : (w.alloc (.cells #[.int .i64 k, .int .i64 i, .string t, .int .i64 o] 44)).heap.size = w.heap.size + 1 := by simp
  rw [hsz] at h2
  generalize World.alloc _ _ = w1 at *
  generalize hR : w.heap.size = R at *
  have HRR := Lib.hid hR
  clear hR hsz
  have f0 := h1.cell 0
  have f1 := h1.cell 1
  have f2 := h1.cell 2
  have q0 := h2.cell 0
  have q1 := h2.cell 1
  have q2 := h2.cell 2
  have s0 := h2.frozen 0
  have s1 := h2.frozen 1
  have s2 := h2.frozen 2
  have hl2 := h2.lt
  simp only [List.getElem?_cons_zero, List.getElem?_cons_succ] at f0 f1 f2 q0 q1 q2
  have D1 := h2.set_ 0 (.int .i64 k)
  have D2 := D1.set_ 1 (.int .i64 i)
  have D3 := D2.set_ 2 (.string t)
  have HE := Lib.hid (((hb1.setCell (p := ⟨R + 1, 0, none⟩) (by simp) (.int .i64 k)).setCell (p := ⟨R + 1, 1, none⟩) (by simp) (.int .i64 i)).setCell (p := ⟨R + 1, 2, none⟩) (by simp) (.string t))
  have p0 := D3.cell 0
  have p1 := D3.cell 1
  have p2 := D3.cell 2
  simp at p0 p1 p2
  clear h1 h2 D1 D2 D3 hb1
  go_wp2
  refine bodyPost_ret (v := .agg #[.int .i64 k, .int .i64 i, .string t]) ?_ rfl ⟨rfl, ?_⟩
  · simp [results, Tryz.results51, go_sem, p0, p1, p2]
  · rw [HRR.out]; exact HE.out


theorem variable_any (k i o : Int) (t : ByteArray) (w : World) :
    Calls Tryz.prog 49 #[.agg #[.int .i64 k, .int .i64 i, .string t, .int .i64 o]] w fun e w' => e = .returned (.bool (k == 4)) ∧ Below w.heap.size w w' := by
  go_enter Tryz.func49, Tryz.ntmps49
  go_upto_region 1 with (fail)
  have hb1 := (Below.refl w.heap.size w).alloc (Nat.le_refl _) (.cells #[.int .i64 k, .int .i64 i, .string t, .int .i64 o] 44)
  have h1 := Blk.new w 44 [.int .i64 k, .int .i64 i, .string t, .int .i64 o]
  generalize World.alloc _ _ = w1 at *
  generalize hR : w.heap.size = R at *
  have HRR := Lib.hid hR
  clear hR
  have HB1 := Lib.hid hb1
  have H1 := Lib.hid h1
  have f0 := h1.cell 0
  have f1 := h1.cell 1
  have f2 := h1.cell 2
  have f3 := h1.cell 3
  simp only [List.getElem?_cons_zero, List.getElem?_cons_succ] at f0 f1 f2 f3
  clear h1 hb1
  go_wp2
  go_ret
  exact ⟨by rfl, by rw [HRR.out]; exact HB1.out⟩

/-- A nameless variable. -/
def noName (k : Int) (t : ByteArray) : Bool := (k == 4) && (t.toList == [95])

set_option maxRecDepth 20000 in
set_option maxHeartbeats 1000000 in
theorem nameless_any (k i o : Int) (t : ByteArray) (w : World) :
    Calls Tryz.prog 66 #[.agg #[.int .i64 k, .int .i64 i, .string t, .int .i64 o]] w fun e w' => e = .returned (.bool (noName k t)) ∧ Below w.heap.size w w' := by
  have HV : Hid (noName k t = ((k == 4) && (t.toList == [95]))) := Lib.hid rfl
  have kv := fun W => variable_any k i o t W
  generalize noName k t = v at *
  go_enter Tryz.func66, Tryz.ntmps66
  go_upto_region 1 with (fail)
  have hb1 := (Below.refl w.heap.size w).alloc (Nat.le_refl _) (.cells #[.int .i64 k, .int .i64 i, .string t, .int .i64 o] 44)
  have h1 := Blk.new w 44 [.int .i64 k, .int .i64 i, .string t, .int .i64 o]
  generalize World.alloc _ _ = w1 at *
  generalize hR : w.heap.size = R at *
  have HRR := Lib.hid hR
  clear hR
  have HB1 := Lib.hid hb1
  have H1 := Lib.hid h1
  have f0 := h1.cell 0
  have f1 := h1.cell 1
  have f2 := h1.cell 2
  have f3 := h1.cell 3
  simp only [List.getElem?_cons_zero, List.getElem?_cons_succ] at f0 f1 f2 f3
  clear h1 hb1
  have kv1 := kv w1
  clear kv
  by_cases k4 : k = 4
  · subst k4
    have e4 : ((4 : Int) == 4) = true := rfl
    rw [e4] at kv1
    go_wp2_with fail
    refine kv1.mono ?_
    rintro e w2 ⟨rfl, hb2⟩
    have HB2 := Lib.hid (HB1.out.trans (hb2.mono (HRR.out ▸ HB1.out.size)))
    have h2 := H1.out.below hb2 H1.out.lt
    clear f0 f1 f2 f3 kv1 hb2 H1 HB1
    have f2 := h2.cell 2
    simp only [List.getElem?_cons_zero, List.getElem?_cons_succ] at f2
    clear h2
    cases hq : (t.toList == [95]) with
    | true =>
      have hz : v = true := by rw [HV.out, e4, hq]; rfl
      subst hz
      clear HV
      go_wp2
      go_ret
      exact ⟨by rfl, by rw [HRR.out]; exact HB2.out⟩
    | false =>
      have hz : v = false := by rw [HV.out, e4, hq]; rfl
      subst hz
      clear HV
      go_wp2
      go_ret
      exact ⟨by rfl, by rw [HRR.out]; exact HB2.out⟩
  · have e4 : (k == 4) = false := by simpa using k4
    rw [e4] at kv1
    have hz : v = false := by rw [HV.out, e4]; rfl
    subst hz
    clear HV
    go_wp2_with fail
    refine kv1.mono ?_
    rintro e w2 ⟨rfl, hb2⟩
    have HB2 := Lib.hid (HB1.out.trans (hb2.mono (HRR.out ▸ HB1.out.size)))
    clear f0 f1 f2 f3 kv1 hb2 H1 HB1
    go_wp2
    go_ret
    exact ⟨by rfl, by rw [HRR.out]; exact HB2.out⟩

/-- A term without its offset. -/
theorem bareL_any (k i o : Int) (t : ByteArray) (w : World) :
    Calls Tryz.prog 67 #[.agg #[.int .i64 k, .int .i64 i, .string t, .int .i64 o]] w fun e w' => e = .returned (.agg #[.int .i64 k, .int .i64 i, .string t, .int .i64 0]) ∧ Below w.heap.size w w' := by
  go_enter Tryz.func67, Tryz.ntmps67
  go_upto_region 1 with (fail)
  have hb1 := ((Below.refl w.heap.size w).alloc (Nat.le_refl _) (.cells #[.int .i64 k, .int .i64 i, .string t, .int .i64 o] 44)).alloc (by simp) (.cells #[.int .i64 0, .int .i64 0, .string ⟨#[]⟩, .int .i64 0] 44)
  have h1 := (Blk.new w 44 [.int .i64 k, .int .i64 i, .string t, .int .i64 o]).alloc (.cells #[.int .i64 0, .int .i64 0, .string ⟨#[]⟩, .int .i64 0] 44)
  have h2 := Blk.new (w.alloc (.cells #[.int .i64 k, .int .i64 i, .string t, .int .i64 o] 44)) 44 [.int .i64 0, .int .i64 0, .string ⟨#[]⟩, .int .i64 0]
  have hsz : (w.alloc (.cells #[.int .i64 k, .int .i64 i, .string t, .int .i64 o] 44)).heap.size = w.heap.size + 1 := by simp
  rw [hsz] at h2
  generalize World.alloc _ _ = w1 at *
  generalize hR : w.heap.size = R at *
  have HRR := Lib.hid hR
  clear hR hsz
  have f3 := h1.cell 3
  have z3 := h1.frozen 3
  have hl1 := h1.lt
  simp only [List.getElem?_cons_zero, List.getElem?_cons_succ] at f3
  go_upto_region 2 with (fail)
  have hb2 := hb1.setCell (p := ⟨R, 3, none⟩) (Nat.le_refl _) (.int .i64 0)
  have g1 := h1.set_ 3 (.int .i64 0)
  have g2 := h2.far (p := ⟨R, 3, none⟩) (by show R + 1 ≠ R; omega) (.int .i64 0)
  simp only [List.set_cons_succ, List.set_cons_zero] at g1
  clear h1 h2 hb1 f3 z3 hl1
  generalize World.setCell _ _ _ = w2 at *
  have f0 := g1.cell 0
  have f1 := g1.cell 1
  have f2 := g1.cell 2
  have f3 := g1.cell 3
  have q0 := g2.cell 0
  have q1 := g2.cell 1
  have q2 := g2.cell 2
  have q3 := g2.cell 3
  have s0 := g2.frozen 0
  have s1 := g2.frozen 1
  have s2 := g2.frozen 2
  have s3 := g2.frozen 3
  have hl2 := g2.lt
  simp only [List.getElem?_cons_zero, List.getElem?_cons_succ] at f0 f1 f2 f3 q0 q1 q2 q3
  have D1 := g2.set_ 0 (.int .i64 k)
  have D2 := D1.set_ 1 (.int .i64 i)
  have D3 := D2.set_ 2 (.string t)
  have D4 := D3.set_ 3 (.int .i64 0)
  have HE := Lib.hid ((((hb2.setCell (p := ⟨R + 1, 0, none⟩) (by simp) (.int .i64 k)).setCell (p := ⟨R + 1, 1, none⟩) (by simp) (.int .i64 i)).setCell (p := ⟨R + 1, 2, none⟩) (by simp) (.string t)).setCell (p := ⟨R + 1, 3, none⟩) (by simp) (.int .i64 0))
  have p0 := D4.cell 0
  have p1 := D4.cell 1
  have p2 := D4.cell 2
  have p3 := D4.cell 3
  simp at p0 p1 p2 p3
  clear g1 g2 D1 D2 D3 D4 hb2
  go_wp2
  refine bodyPost_ret (v := .agg #[.int .i64 k, .int .i64 i, .string t, .int .i64 0]) ?_ rfl ⟨rfl, ?_⟩
  · simp [results, Tryz.results67, go_sem, p0, p1, p2, p3]
  · rw [HRR.out]; exact HE.out
end Go.Proofs.YtjcgkplphiedjaaGreat

namespace Go.Proofs.YtjcgkplphiedjaaGreat
open Go.RowKit Go.Sort

/-- The same term, offsets aside. -/
def like (k i k' i' : Int) (t t' : ByteArray) : Bool := k == k' && i == i' && t.toList == t'.toList && (0 : Int) == 0
def likeT (a b : T) : Bool := like a.k a.i b.k b.i a.t b.t
@[simp] theorem run_eql44L (k i k' i' : Int) (t t' : ByteArray) (w : World) :
    (binOp .eql 44 (.agg #[.int .i64 k, .int .i64 i, .string t, .int .i64 0]) (.agg #[.int .i64 k', .int .i64 i', .string t', .int .i64 0])).run Tryz.prog w = .ok (.bool (like k i k' i' t t')) w := run_eql44 k i 0 k' i' 0 t t' w

set_option maxRecDepth 200000 in
set_option maxHeartbeats 4000000 in
theorem same_any (a b : T) (w : World) :
    Calls Tryz.prog 47 #[.agg a.cells.toArray, .agg b.cells.toArray] w fun e w' => e = .returned (.bool (likeT a b && !noName a.k a.t)) ∧ Below w.heap.size w w' := by
  obtain ⟨k, i, t, o⟩ := a
  obtain ⟨k', i', t', o'⟩ := b
  show Calls Tryz.prog 47 #[.agg #[.int .i64 k, .int .i64 i, .string t, .int .i64 o], .agg #[.int .i64 k', .int .i64 i', .string t', .int .i64 o']] w _
  have kA := fun W => bareL_any k i o t W
  have kB := fun W => bareL_any k' i' o' t' W
  have kN := fun W => nameless_any k i o t W
  have HV : Hid ((likeT ⟨k, i, t, o⟩ ⟨k', i', t', o'⟩ && !noName k t) = (like k i k' i' t t' && !noName k t)) := Lib.hid rfl
  dsimp only
  generalize (likeT _ _ && !noName _ _) = v at *
  generalize noName k t = nn at *
  go_enter Tryz.func47, Tryz.ntmps47
  go_upto_region 1 with (fail)
  obtain ⟨hb3, h1, h2, hs3⟩ := two_alloc w 44 44 [.int .i64 k, .int .i64 i, .string t, .int .i64 o] [.int .i64 k', .int .i64 i', .string t', .int .i64 o']
  generalize World.alloc (World.alloc _ _) _ = w1 at *
  generalize hR : w.heap.size = R at *
  have HRR := Lib.hid hR
  clear hR
  have HB1 := Lib.hid hb3
  have f0 := cell_regrown ((h1.cell 0).trans rfl)
  have f1 := cell_regrown ((h1.cell 1).trans rfl)
  have f2 := cell_regrown ((h1.cell 2).trans rfl)
  have f3 := cell_regrown ((h1.cell 3).trans rfl)
  have g0 := cell_regrown ((h2.cell 0).trans rfl)
  have g1 := cell_regrown ((h2.cell 1).trans rfl)
  have g2 := cell_regrown ((h2.cell 2).trans rfl)
  have g3 := cell_regrown ((h2.cell 3).trans rfl)
  have cA : ∀ d os, Calls Tryz.prog 67 #[.agg #[.int .i64 k, .int .i64 i, .string t, .int .i64 o]] (grow (redrawn w1 d) os) fun e w'' => e = .returned (.agg #[.int .i64 k, .int .i64 i, .string t, .int .i64 0]) ∧ ∃ p : Regrown, w'' = grow (redrawn w1 p.d) p.os :=
    fun d os => Calls.regrown_of (kA _)
  have cB : ∀ d os, Calls Tryz.prog 67 #[.agg #[.int .i64 k', .int .i64 i', .string t', .int .i64 o']] (grow (redrawn w1 d) os) fun e w'' => e = .returned (.agg #[.int .i64 k', .int .i64 i', .string t', .int .i64 0]) ∧ ∃ p : Regrown, w'' = grow (redrawn w1 p.d) p.os :=
    fun d os => Calls.regrown_of (kB _)
  have cN : ∀ d os, Calls Tryz.prog 66 #[.agg #[.int .i64 k, .int .i64 i, .string t, .int .i64 o]] (grow (redrawn w1 d) os) fun e w'' => e = .returned (.bool nn) ∧ ∃ p : Regrown, w'' = grow (redrawn w1 p.d) p.os :=
    fun d os => Calls.regrown_of (kN _)
  clear h1 h2 hb3 hs3 kA kB kN
  cases hq : like k i k' i' t t' with
  | true =>
    cases nn with
    | true =>
      have hz : v = false := by rw [HV.out, hq]; rfl
      subst hz
      clear HV
      refine wp_region_quiet_below (by kernel_rfl) (by kernel_rfl) ?_
      repeat (go_big_quiet_step (first | exact cA _ _ | exact cB _ _ | exact cN _ _))
      refine wpQuiet_nil ?_
      intro w6 hw6
      obtain ⟨⟨dq, osq⟩, rfl⟩ := hw6
      have HB6 := Lib.hid (HB1.out.trans ((below_regrown w1 dq osq).mono (HRR.out ▸ HB1.out.size)))
      clear f0 f1 f2 f3 g0 g1 g2 g3 cA cB cN
      go_wp2
      go_ret
      exact ⟨by rfl, by rw [HRR.out]; exact HB6.out⟩
    | false =>
      have hz : v = true := by rw [HV.out, hq]; rfl
      subst hz
      clear HV
      refine wp_region_quiet_below (by kernel_rfl) (by kernel_rfl) ?_
      repeat (go_big_quiet_step (first | exact cA _ _ | exact cB _ _ | exact cN _ _))
      refine wpQuiet_nil ?_
      intro w6 hw6
      obtain ⟨⟨dq, osq⟩, rfl⟩ := hw6
      have HB6 := Lib.hid (HB1.out.trans ((below_regrown w1 dq osq).mono (HRR.out ▸ HB1.out.size)))
      clear f0 f1 f2 f3 g0 g1 g2 g3 cA cB cN
      go_wp2
      go_ret
      exact ⟨by rfl, by rw [HRR.out]; exact HB6.out⟩
  | false =>
    have hz : v = false := by rw [HV.out, hq]; rfl
    subst hz
    clear HV
    refine wp_region_quiet_below (by kernel_rfl) (by kernel_rfl) ?_
    repeat (go_big_quiet_step (first | exact cA _ _ | exact cB _ _ | exact cN _ _))
    refine wpQuiet_nil ?_
    intro w6 hw6
    obtain ⟨⟨dq, osq⟩, rfl⟩ := hw6
    have HB6 := Lib.hid (HB1.out.trans ((below_regrown w1 dq osq).mono (HRR.out ▸ HB1.out.size)))
    clear f0 f1 f2 f3 g0 g1 g2 g3 cA cB cN
    go_wp2
    go_ret
    exact ⟨by rfl, by rw [HRR.out]; exact HB6.out⟩
end Go.Proofs.YtjcgkplphiedjaaGreat

namespace Go.Proofs.YtjcgkplphiedjaaGreat
open Go.RowKit Go.Sort

def sideEq (l r : T) : Bool := decide (l.k = 4 ∧ r.k = 4) && ((l.t.toList == r.t.toList) && !(l.t.toList == [95]))
def sideFix (l r : T) : Bool := decide (l.k ≠ 4 ∧ r.k ≠ 4)

set_option maxRecDepth 200000 in
set_option maxHeartbeats 8000000 in
theorem sides_ref (x : Li) (w : World) :
    Calls Tryz.prog 35 #[.agg x.cells.toArray] w fun e w' => e = .returned (.tuple #[.bool (sideEq x.l x.r), .bool (sideFix x.l x.r)]) ∧ Below w.heap.size w w' := by
  obtain ⟨k, ⟨p, A, n, c, o, es⟩, op, ⟨lk, li, lt, lo⟩, ⟨rk, ri, rt, ro⟩, of⟩ := x
  have HE : Hid (sideEq ⟨lk, li, lt, lo⟩ ⟨rk, ri, rt, ro⟩ = (decide (lk = 4 ∧ rk = 4) && ((lt.toList == rt.toList) && !(lt.toList == [95])))) := Lib.hid rfl
  have HX : Hid (sideFix ⟨lk, li, lt, lo⟩ ⟨rk, ri, rt, ro⟩ = decide (lk ≠ 4 ∧ rk ≠ 4)) := Lib.hid rfl
  show Calls Tryz.prog 35 #[.agg #[.int .i64 k, .string p, .slice A n c, .int .i64 o, .int .i64 op, .int .i64 lk, .int .i64 li, .string lt, .int .i64 lo, .int .i64 rk, .int .i64 ri, .string rt, .int .i64 ro, .int .i64 of]] w _
  dsimp only
  generalize sideEq _ _ = u at *
  generalize sideFix _ _ = v at *
  go_enter Tryz.func35, Tryz.ntmps35
  go_upto_region 1 with (fail)
  have hb1 := (Below.refl w.heap.size w).alloc (Nat.le_refl _) (.cells #[.int .i64 k, .string p, .slice A n c, .int .i64 o, .int .i64 op, .int .i64 lk, .int .i64 li, .string lt, .int .i64 lo, .int .i64 rk, .int .i64 ri, .string rt, .int .i64 ro, .int .i64 of] 46)
  have h1 := Blk.new w 46 [.int .i64 k, .string p, .slice A n c, .int .i64 o, .int .i64 op, .int .i64 lk, .int .i64 li, .string lt, .int .i64 lo, .int .i64 rk, .int .i64 ri, .string rt, .int .i64 ro, .int .i64 of]
  generalize World.alloc _ _ = w1 at *
  generalize hR : w.heap.size = R at *
  have HRR := Lib.hid hR
  clear hR
  have hs1 : R < w1.heap.size := h1.lt
  have f5 := h1.cell 5
  have f6 := h1.cell 6
  have f7 := h1.cell 7
  have f8 := h1.cell 8
  simp only [List.getElem?_cons_zero, List.getElem?_cons_succ] at f5 f6 f7 f8
  go_upto_region 2 with (fail)
  have hb2 := hb1.alloc (by omega) (.cells #[.int .i64 lk, .int .i64 li, .string lt, .int .i64 lo] 44)
  have g1 := Blk.new w1 44 [.int .i64 lk, .int .i64 li, .string lt, .int .i64 lo]
  have h2 := h1.alloc (.cells #[.int .i64 lk, .int .i64 li, .string lt, .int .i64 lo] 44)
  clear f5 f6 f7 f8 hb1 h1
  generalize World.alloc _ _ = w2 at *
  generalize w1.heap.size = P1 at *
  have hs2 : P1 < w2.heap.size := g1.lt
  have f9 := h2.cell 9
  have f10 := h2.cell 10
  have f11 := h2.cell 11
  have f12 := h2.cell 12
  simp only [List.getElem?_cons_zero, List.getElem?_cons_succ] at f9 f10 f11 f12
  go_upto_region 3 with (fail)
  have hb3 := hb2.alloc (by omega) (.cells #[.int .i64 rk, .int .i64 ri, .string rt, .int .i64 ro] 44)
  have g2 := Blk.new w2 44 [.int .i64 rk, .int .i64 ri, .string rt, .int .i64 ro]
  have g1' := g1.alloc (.cells #[.int .i64 rk, .int .i64 ri, .string rt, .int .i64 ro] 44)
  clear f9 f10 f11 f12 hb2 h2 g1
  generalize World.alloc _ _ = w3 at *
  generalize w2.heap.size = P2 at *
  have f0 := g1'.cell 0
  have f2 := g1'.cell 2
  have q0 := g2.cell 0
  have q2 := g2.cell 2
  simp only [List.getElem?_cons_zero, List.getElem?_cons_succ] at f0 f2 q0 q2
  have HB3 := Lib.hid hb3
  clear hb3 g2 g1'
  by_cases hl : lk = 4
  · subst hl
    by_cases hr : rk = 4
    · subst hr
      have hv : v = false := by rw [HX.out]; simp
      subst hv
      clear HX
      cases h1 : (lt.toList == rt.toList) with
      | true =>
        cases h2 : (lt.toList == [95]) with
        | true =>
          have hu : u = false := by rw [HE.out, h1, h2]; simp
          have t2 : (lt.toList != [95]) = false := by simp only [bne, h2]; rfl
          subst hu
          clear HE
          go_wp2
          go_ret2
          exact ⟨by rfl, by rw [HRR.out]; exact HB3.out⟩
        | false =>
          have hu : u = true := by rw [HE.out, h1, h2]; simp
          have t2 : (lt.toList != [95]) = true := by simp only [bne, h2]; rfl
          subst hu
          clear HE
          go_wp2
          go_ret2
          exact ⟨by rfl, by rw [HRR.out]; exact HB3.out⟩
      | false =>
        have hu : u = false := by rw [HE.out, h1]; simp
        subst hu
        clear HE
        go_wp2
        go_ret2
        exact ⟨by rfl, by rw [HRR.out]; exact HB3.out⟩
    · have hu : u = false := by rw [HE.out, decide_eq_false (by omega)]; rfl
      have hv : v = false := by rw [HX.out]; simp
      have t1 : (rk == 4) = false := by simpa using hr
      have t2 : (rk != 4) = true := by simpa using hr
      clear hr
      subst hu
      subst hv
      clear HE HX
      go_upto_region 5 with (fail)
      go_quiet (fail)
      go_wp2
      go_ret2
      exact ⟨by rfl, by rw [HRR.out]; exact ⟨HB3.out.os, HB3.out.tape, HB3.out.output, HB3.out.size, HB3.out.block⟩⟩
  · by_cases hr : rk = 4
    · have hu : u = false := by rw [HE.out, decide_eq_false (by omega)]; rfl
      have hv : v = false := by rw [HX.out]; simp [hr]
      have t1 : (lk == 4) = false := by simpa using hl
      have t2 : (lk != 4) = true := by simpa using hl
      subst hr
      clear hl
      subst hu
      subst hv
      clear HE HX
      go_upto_region 5 with (fail)
      go_quiet (fail)
      go_wp2
      go_ret2
      exact ⟨by rfl, by rw [HRR.out]; exact ⟨HB3.out.os, HB3.out.tape, HB3.out.output, HB3.out.size, HB3.out.block⟩⟩
    · have hu : u = false := by rw [HE.out, decide_eq_false (by omega)]; rfl
      have hv : v = true := by rw [HX.out]; simp [hl, hr]
      have t1 : (lk == 4) = false := by simpa using hl
      have t2 : (lk != 4) = true := by simpa using hl
      have t3 : (rk == 4) = false := by simpa using hr
      have t4 : (rk != 4) = true := by simpa using hr
      clear hl hr
      subst hu
      subst hv
      clear HE HX
      go_upto_region 5 with (fail)
      go_quiet (fail)
      go_wp2
      go_ret2
      exact ⟨by rfl, by rw [HRR.out]; exact ⟨HB3.out.os, HB3.out.tape, HB3.out.output, HB3.out.size, HB3.out.block⟩⟩
end Go.Proofs.YtjcgkplphiedjaaGreat
