/- Names, variables and constants that are valid: the program's. -/
import Derived.Test.YtjcgkplphiedjaaDoorTC2
namespace Go.Proofs.YtjcgkplphiedjaaDoorT
open Go.RowKit

set_option maxHeartbeats 1000000 in
theorem isName_sym (s : ByteArray) (hb : s.size ≤ 9223372036854775807) (w : World) : Calls Tryd.prog 81 #[.string s] w fun e w' => e = .returned (.bool (isNameS s)) ∧ Below w.heap.size w w' := by
  have kw := word_small s hb w
  have HV : Hid (isNameS s = (!(s.toList == notS) && wordS lowZ s)) := Lib.hid (by
    unfold isNameS wordS
    cases decide (1 ≤ s.size) <;> cases decide (s.size ≤ 64) <;> cases (s.toList == notS) <;> simp)
  generalize isNameS s = v at *
  generalize wordS lowZ s = u at *
  go_enter Tryd.func81, Tryd.ntmps81
  cases h3 : s.toList == notS with
  | true =>
    have hz : v = false := by rw [HV.out, h3]; simp
    have t1 : (s.toList != [110, 111, 116]) = false := by
      have : (s.toList == [110, 111, 116]) = true := h3
      simp only [bne, this]; rfl
    have t2 : (s.toList == [110, 111, 116]) = true := h3
    subst hz
    clear HV h3 kw
    go_wp2
    go_ret
    exact ⟨by rfl, Below.refl _ _⟩
  | false =>
    have hz : v = u := by rw [HV.out, h3]; simp
    have t1 : (s.toList != [110, 111, 116]) = true := by
      have : (s.toList == [110, 111, 116]) = false := h3
      simp only [bne, this]; rfl
    have t2 : (s.toList == [110, 111, 116]) = false := h3
    subst hz
    clear HV h3
    go_wp2_with fail
    refine kw.mono ?_
    rintro e w1 ⟨rfl, hb1⟩
    go_wp2
    go_ret
    exact ⟨by rfl, hb1⟩

/-- A constant's three cells, and whether it is valid. -/
def validC (k i : Int) (t : ByteArray) : Bool :=
  if k = 1 then t.toList == [] else if k = 2 then decide (i = 0) && isNameS t else if k = 3 then decide (i = 0) && decide (t.size ≤ 255) else false

set_option maxHeartbeats 4000000 in
theorem valid_ref (k i : Int) (t : ByteArray) (hb : t.size ≤ 9223372036854775807) (w : World) :
    Calls Tryd.prog 52 #[.agg #[.int .i64 k, .int .i64 i, .string t]] w fun e w' => e = .returned (.bool (validC k i t)) ∧ Below w.heap.size w w' := by
  have HV : Hid (validC k i t = if k = 1 then t.toList == [] else if k = 2 then decide (i = 0) && isNameS t else if k = 3 then decide (i = 0) && decide (t.size ≤ 255) else false) := Lib.hid rfl
  have kn := fun W => isName_ref t hb W
  generalize validC k i t = v at *
  generalize isNameS t = u at *
  go_enter Tryd.func52, Tryd.ntmps52
  go_upto_region 1 with (fail)
  have hb1 := (Below.refl w.heap.size w).alloc (Nat.le_refl _) (.cells #[.int .i64 k, .int .i64 i, .string t] 68)
  have h1 := Blk.new w 68 [.int .i64 k, .int .i64 i, .string t]
  generalize World.alloc _ _ = w1 at *
  have hs1 := hb1.size
  generalize hR : w.heap.size = R at *
  have HRR := Lib.hid hR
  clear hR
  have HB1 := Lib.hid hb1
  have f0 := h1.cell 0
  have f1 := h1.cell 1
  have f2 := h1.cell 2
  simp only [List.getElem?_cons_zero, List.getElem?_cons_succ] at f0 f1 f2
  clear h1 hb1
  by_cases k1 : k = 1
  · have HZ := Lib.hid (HV.out.trans (if_pos k1))
    subst k1
    clear HV
    generalize hq : (t.toList == []) = q at *
    subst HZ
    go_wp2
    go_ret
    exact ⟨by rfl, by rw [HRR.out]; exact HB1.out⟩
  replace HV := Lib.hid (HV.out.trans (if_neg k1))
  by_cases k2 : k = 2
  · have HZ := Lib.hid (HV.out.trans (if_pos k2))
    subst k2
    clear HV
    by_cases hi : i = 0
    · have hz : v = u := by rw [HZ.out, decide_eq_true hi]; simp
      subst hz
      subst hi
      clear HZ
      go_wp2_with fail
      refine (kn w1).mono ?_
      rintro e w2 ⟨rfl, hb2⟩
      go_wp2
      go_ret
      exact ⟨by rfl, by rw [HRR.out]; exact HB1.out⟩
    · have hz : v = false := by rw [HZ.out, decide_eq_false hi]; simp
      have t1 : (i == 0) = false := by simpa using hi
      subst hz
      clear HZ hi
      go_wp2
      go_ret
      exact ⟨by rfl, by rw [HRR.out]; exact HB1.out⟩
  replace HV := Lib.hid (HV.out.trans (if_neg k2))
  by_cases k3 : k = 3
  · have HZ := Lib.hid (HV.out.trans (if_pos k3))
    subst k3
    clear HV
    by_cases hi : i = 0
    · subst hi
      by_cases hl : t.size ≤ 255
      · have hz : v = true := by rw [HZ.out]; simp [hl]
        have t1 : decide ((t.size : Int) ≤ 255) = true := decide_eq_true (by omega)
        subst hz
        clear HZ hl
        go_wp2
        go_ret
        exact ⟨by rfl, by rw [HRR.out]; exact HB1.out⟩
      · have hz : v = false := by rw [HZ.out]; simp [hl]
        have t1 : decide ((t.size : Int) ≤ 255) = false := decide_eq_false (by omega)
        subst hz
        clear HZ hl
        go_wp2
        go_ret
        exact ⟨by rfl, by rw [HRR.out]; exact HB1.out⟩
    · have hz : v = false := by rw [HZ.out, decide_eq_false hi]; simp
      have t1 : (i == 0) = false := by simpa using hi
      subst hz
      clear HZ hi
      go_wp2
      go_ret
      exact ⟨by rfl, by rw [HRR.out]; exact HB1.out⟩
  replace HV := Lib.hid (HV.out.trans (if_neg k3))
  have hz : v = false := HV.out
  subst hz
  go_wp2
  go_ret
  exact ⟨by rfl, by rw [HRR.out]; exact HB1.out⟩

set_option maxHeartbeats 4000000 in
theorem valid_sym (k i : Int) (t : ByteArray) (hb : t.size ≤ 9223372036854775807) (w : World) :
    Calls Tryd.prog 57 #[.agg #[.int .i64 k, .int .i64 i, .string t]] w fun e w' => e = .returned (.bool (validC k i t)) ∧ Below w.heap.size w w' := by
  have HV : Hid (validC k i t = if k = 1 then t.toList == [] else if k = 2 then decide (i = 0) && isNameS t else if k = 3 then decide (i = 0) && decide (t.size ≤ 255) else false) := Lib.hid rfl
  have kn := fun W => isName_sym t hb W
  generalize validC k i t = v at *
  generalize isNameS t = u at *
  go_enter Tryd.func57, Tryd.ntmps57
  go_upto_region 1 with (fail)
  have hb1 := (Below.refl w.heap.size w).alloc (Nat.le_refl _) (.cells #[.int .i64 k, .int .i64 i, .string t] 68)
  have h1 := Blk.new w 68 [.int .i64 k, .int .i64 i, .string t]
  generalize World.alloc _ _ = w1 at *
  have hs1 := hb1.size
  generalize hR : w.heap.size = R at *
  have HRR := Lib.hid hR
  clear hR
  have HB1 := Lib.hid hb1
  have f0 := h1.cell 0
  have f1 := h1.cell 1
  have f2 := h1.cell 2
  simp only [List.getElem?_cons_zero, List.getElem?_cons_succ] at f0 f1 f2
  clear h1 hb1
  by_cases k1 : k = 1
  · have HZ := Lib.hid (HV.out.trans (if_pos k1))
    subst k1
    clear HV
    generalize hq : (t.toList == []) = q at *
    subst HZ
    go_wp2
    go_ret
    exact ⟨by rfl, by rw [HRR.out]; exact HB1.out⟩
  replace HV := Lib.hid (HV.out.trans (if_neg k1))
  by_cases k2 : k = 2
  · have HZ := Lib.hid (HV.out.trans (if_pos k2))
    subst k2
    clear HV
    by_cases hi : i = 0
    · have hz : v = u := by rw [HZ.out, decide_eq_true hi]; simp
      subst hz
      subst hi
      clear HZ
      go_wp2_with fail
      refine (kn w1).mono ?_
      rintro e w2 ⟨rfl, hb2⟩
      go_wp2
      go_ret
      exact ⟨by rfl, by rw [HRR.out]; exact HB1.out.trans (hb2.mono hs1)⟩
    · have hz : v = false := by rw [HZ.out, decide_eq_false hi]; simp
      have t1 : (i == 0) = false := by simpa using hi
      subst hz
      clear HZ hi
      go_wp2
      go_ret
      exact ⟨by rfl, by rw [HRR.out]; exact HB1.out⟩
  replace HV := Lib.hid (HV.out.trans (if_neg k2))
  by_cases k3 : k = 3
  · have HZ := Lib.hid (HV.out.trans (if_pos k3))
    subst k3
    clear HV
    by_cases hi : i = 0
    · subst hi
      by_cases hl : t.size ≤ 255
      · have hz : v = true := by rw [HZ.out]; simp [hl]
        have t1 : decide ((t.size : Int) ≤ 255) = true := decide_eq_true (by omega)
        subst hz
        clear HZ hl
        go_wp2
        go_ret
        exact ⟨by rfl, by rw [HRR.out]; exact HB1.out⟩
      · have hz : v = false := by rw [HZ.out]; simp [hl]
        have t1 : decide ((t.size : Int) ≤ 255) = false := decide_eq_false (by omega)
        subst hz
        clear HZ hl
        go_wp2
        go_ret
        exact ⟨by rfl, by rw [HRR.out]; exact HB1.out⟩
    · have hz : v = false := by rw [HZ.out, decide_eq_false hi]; simp
      have t1 : (i == 0) = false := by simpa using hi
      subst hz
      clear HZ hi
      go_wp2
      go_ret
      exact ⟨by rfl, by rw [HRR.out]; exact HB1.out⟩
  replace HV := Lib.hid (HV.out.trans (if_neg k3))
  have hz : v = false := HV.out
  subst hz
  go_wp2
  go_ret
  exact ⟨by rfl, by rw [HRR.out]; exact HB1.out⟩

end Go.Proofs.YtjcgkplphiedjaaDoorT
