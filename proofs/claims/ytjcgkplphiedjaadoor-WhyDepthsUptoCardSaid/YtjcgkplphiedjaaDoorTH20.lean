/- A text's canonical text, the program's: a byte's letter. -/
import Derived.Test.YtjcgkplphiedjaaDoorTH19
namespace Go.Proofs.YtjcgkplphiedjaaDoorT
open Go.RowKit Go.Sort

/-- What stands behind the backslash; 0 where there is none. -/
def letN (b : UInt8) : UInt8 := if b = 34 then 34 else if b = 92 then 92 else if b = 10 then 110 else if b = 9 then 116 else if b = 13 then 114 else 0
theorem letN_some {b : UInt8} (h : letN b ≠ 0) : letterS b = ⟨#[92, letN b]⟩ := by
  unfold letN at h
  unfold letterS letN
  by_cases h1 : b = 34
  · rw [if_pos h1, if_pos h1]
  by_cases h2 : b = 92
  · rw [if_neg h1, if_pos h2, if_neg h1, if_pos h2]
  by_cases h3 : b = 10
  · rw [if_neg h1, if_neg h2, if_pos h3, if_neg h1, if_neg h2, if_pos h3]
  by_cases h4 : b = 9
  · rw [if_neg h1, if_neg h2, if_neg h3, if_pos h4, if_neg h1, if_neg h2, if_neg h3, if_pos h4]
  by_cases h5 : b = 13
  · rw [if_neg h1, if_neg h2, if_neg h3, if_neg h4, if_pos h5, if_neg h1, if_neg h2, if_neg h3, if_neg h4, if_pos h5]
  · rw [if_neg h1, if_neg h2, if_neg h3, if_neg h4, if_neg h5] at h
    exact absurd rfl h
theorem letN_none {b : UInt8} (h : letN b = 0) : letterS b = if 32 ≤ b.toNat ∧ b.toNat ≤ 126 then ⟨#[b]⟩ else ⟨#[92, 120, hexD (b.toNat / 16), hexD (b.toNat % 16)]⟩ := by
  unfold letN at h
  unfold letterS
  by_cases h1 : b = 34
  · rw [if_pos h1] at h; cases h
  by_cases h2 : b = 92
  · rw [if_neg h1, if_pos h2] at h; cases h
  by_cases h3 : b = 10
  · rw [if_neg h1, if_neg h2, if_pos h3] at h; cases h
  by_cases h4 : b = 9
  · rw [if_neg h1, if_neg h2, if_neg h3, if_pos h4] at h; cases h
  by_cases h5 : b = 13
  · rw [if_neg h1, if_neg h2, if_neg h3, if_neg h4, if_pos h5] at h; cases h
  rw [if_neg h1, if_neg h2, if_neg h3, if_neg h4, if_neg h5]

set_option maxRecDepth 20000 in
set_option maxHeartbeats 2000000 in
theorem letter_sym (b : UInt8) (w : World) :
    Calls Tryd.prog 85 #[.int .u8 (b.toNat : Int)] w fun e w' => e = .returned (.int .u8 ((letN b).toNat : Int)) ∧ w' = w := by
  have hb := b.toNat_lt
  have HV : Hid (letN b = if b = 34 then 34 else if b = 92 then 92 else if b = 10 then 110 else if b = 9 then 116 else if b = 13 then 114 else 0) := Lib.hid rfl
  have e1 : (((b.toNat : Int)) == 34) = decide (b = 34) := byte_is b 34 (by omega)
  have e2 : (((b.toNat : Int)) == 92) = decide (b = 92) := byte_is b 92 (by omega)
  have e3 : (((b.toNat : Int)) == 10) = decide (b = 10) := byte_is b 10 (by omega)
  have e4 : (((b.toNat : Int)) == 9) = decide (b = 9) := byte_is b 9 (by omega)
  have e5 : (((b.toNat : Int)) == 13) = decide (b = 13) := byte_is b 13 (by omega)
  generalize letN b = v at *
  by_cases h1 : b = 34
  · have hz : v = 34 := by rw [HV.out, if_pos h1]
    rw [decide_eq_true h1] at e1
    have hn : (b.toNat : Int) = 34 := by simpa using e1
    subst hz
    rw [hn] at e1 ⊢
    clear HV e2 e3 e4 e5 h1 hn
    go_enter Tryd.func85, Tryd.ntmps85
    go_wp2
    go_ret
    exact ⟨by rfl, rfl⟩
  rw [decide_eq_false h1] at e1
  by_cases h2 : b = 92
  · have hz : v = 92 := by rw [HV.out, if_neg h1, if_pos h2]
    rw [decide_eq_true h2] at e2
    have hn : (b.toNat : Int) = 92 := by simpa using e2
    subst hz
    rw [hn] at e1 e2 ⊢
    clear HV e3 e4 e5 h1 h2 hn
    go_enter Tryd.func85, Tryd.ntmps85
    go_wp2
    go_ret
    exact ⟨by rfl, rfl⟩
  rw [decide_eq_false h2] at e2
  generalize hn : b.toNat = n at *
  by_cases h3 : b = 10
  · have hz : v = 110 := by rw [HV.out, if_neg h1, if_neg h2, if_pos h3]
    rw [decide_eq_true h3] at e3
    subst hz
    clear HV e4 e5 h1 h2 h3 hn
    go_enter Tryd.func85, Tryd.ntmps85
    go_wp2
    go_ret
    exact ⟨by rfl, rfl⟩
  rw [decide_eq_false h3] at e3
  by_cases h4 : b = 9
  · have hz : v = 116 := by rw [HV.out, if_neg h1, if_neg h2, if_neg h3, if_pos h4]
    rw [decide_eq_true h4] at e4
    subst hz
    clear HV e5 h1 h2 h3 h4 hn
    go_enter Tryd.func85, Tryd.ntmps85
    go_wp2
    go_ret
    exact ⟨by rfl, rfl⟩
  rw [decide_eq_false h4] at e4
  by_cases h5 : b = 13
  · have hz : v = 114 := by rw [HV.out, if_neg h1, if_neg h2, if_neg h3, if_neg h4, if_pos h5]
    rw [decide_eq_true h5] at e5
    subst hz
    clear HV h1 h2 h3 h4 h5 hn
    go_enter Tryd.func85, Tryd.ntmps85
    go_wp2
    go_ret
    exact ⟨by rfl, rfl⟩
  rw [decide_eq_false h5] at e5
  have hz : v = 0 := by rw [HV.out, if_neg h1, if_neg h2, if_neg h3, if_neg h4, if_neg h5]
  subst hz
  clear HV h1 h2 h3 h4 h5 hn
  go_enter Tryd.func85, Tryd.ntmps85
  go_wp2
  go_ret
  exact ⟨by rfl, rfl⟩

/-- A builder that has been written, and holds these bytes. -/
def BU (R : Nat) (l : List UInt8) (w : World) : Prop := Lib.BuilderAt 59 5 R R (.pointer (some ⟨R, 0, none⟩)) (Lib.byteCells l) w
theorem BU.is {R : Nat} {l : List UInt8} {w : World} (h : BU R l w) : Lib.IsBuilder 59 5 R R (Lib.byteCells l) w := .inr h
theorem BU.lt {R : Nat} {l : List UInt8} {w : World} (h : BU R l w) : R < w.heap.size := Lib.BuilderAt.lt h
theorem BU.below {R : Nat} {l : List UInt8} {w w' : World} (h : BU R l w) (hb : Below w.heap.size w w') : BU R l w' := YtjcgkplphiedjaaDoor.bat_below h hb
theorem wByte (R : Nat) (l : List UInt8) (x : UInt8) (w : World) (h : BU R l w) (hl : l.length ≤ 140737488355327) :
    Calls Tryd.prog 84 #[.pointer (some ⟨R, 0, none⟩), .int .u8 (x.toNat : Int)] w fun e w' => e = .returned .nilIface ∧ (BU R (l ++ [x]) w' ∧ Below R w w' ∧ Fz w w') := by
  refine (writeByte_fz R R (Lib.byteCells l) (x.toNat : Int) w h.is (by rw [Lib.byteCells_length]; omega) (Nat.le_of_lt h.lt)).mono ?_
  rintro e w' ⟨rfl, h1, h2, h3⟩
  refine ⟨rfl, ?_, h2, h3⟩
  unfold BU
  rw [Lib.byteCells_append]
  exact h1
theorem wStr (R : Nat) (l : List UInt8) (s : ByteArray) (w : World) (h : BU R l w) (hl : l.length + s.size ≤ 140737488355328) :
    Calls Tryd.prog 28 #[.pointer (some ⟨R, 0, none⟩), .string s] w fun e w' => e = .returned (.tuple #[.int .i64 s.size, .nilIface]) ∧ (BU R (l ++ s.toList) w' ∧ Below R w w' ∧ Fz w w') := by
  refine (write_fz R R (Lib.byteCells l) s w h.is (by rw [Lib.byteCells_length]; omega) (Nat.le_of_lt h.lt)).mono ?_
  rintro e w' ⟨rfl, h1, h2, h3⟩
  refine ⟨rfl, ?_, h2, h3⟩
  unfold BU
  rw [Lib.byteCells_append, ByteArray.toList_eq]
  exact h1
theorem wBytes (R : Nat) (l : List UInt8) (A : Option Addr) (m c : Nat) (news : List UInt8) (w : World) (h : BU R l w) (hA : A = none → c = 0) (hr : Rd w w.heap.size 1 A m (Lib.byteCells news)) (hl : l.length + m ≤ 140737488355328) :
    Calls Tryd.prog 86 #[.pointer (some ⟨R, 0, none⟩), .slice A m c] w fun e w' => e = .returned (.tuple #[.int .i64 m, .nilIface]) ∧ (BU R (l ++ news) w' ∧ Below R w w' ∧ Fz w w') := by
  refine (writeBytes_fz R R (Lib.byteCells l) A m c news w h hA hr (by rw [Lib.byteCells_length]; omega) (Nat.le_of_lt h.lt)).mono ?_
  rintro e w' ⟨rfl, h1, h2, h3⟩
  refine ⟨rfl, ?_, h2, h3⟩
  unfold BU
  rw [Lib.byteCells_append]
  exact h1
/-- The first write, at a builder that lies there fresh. -/
theorem wStr0 (R : Nat) (s : ByteArray) (w : World) (h : Lib.IsBuilder 59 5 R R [] w) (hl : s.size ≤ 140737488355328) :
    Calls Tryd.prog 28 #[.pointer (some ⟨R, 0, none⟩), .string s] w fun e w' => e = .returned (.tuple #[.int .i64 s.size, .nilIface]) ∧ (BU R s.toList w' ∧ Below R w w' ∧ Fz w w') := by
  refine (write_fz R R [] s w h (by simp only [List.length_nil]; omega) (Nat.le_of_lt (YtjcgkplphiedjaaDoor.isb_lt h))).mono ?_
  rintro e w' ⟨rfl, h1, h2, h3⟩
  refine ⟨rfl, ?_, h2, h3⟩
  unfold BU
  rw [ByteArray.toList_eq]
  exact h1
theorem wByte0 (R : Nat) (x : UInt8) (w : World) (h : Lib.IsBuilder 59 5 R R [] w) :
    Calls Tryd.prog 84 #[.pointer (some ⟨R, 0, none⟩), .int .u8 (x.toNat : Int)] w fun e w' => e = .returned .nilIface ∧ (BU R [x] w' ∧ Below R w w' ∧ Fz w w') := by
  refine (writeByte_fz R R [] (x.toNat : Int) w h (by simp) (Nat.le_of_lt (YtjcgkplphiedjaaDoor.isb_lt h))).mono ?_
  rintro e w' ⟨rfl, h1, h2, h3⟩
  exact ⟨rfl, h1, h2, h3⟩
theorem readB (R : Nat) (l : List UInt8) (w : World) (h : Lib.IsBuilder 59 5 R R (Lib.byteCells l) w) :
    Calls Tryd.prog 29 #[.pointer (some ⟨R, 0, none⟩)] w fun e w' => e = .returned (.string ⟨l.toArray⟩) ∧ Below R w w' :=
  Tryd.Builder_String_any R R l w h (Nat.le_of_lt (YtjcgkplphiedjaaDoor.isb_lt h))
end Go.Proofs.YtjcgkplphiedjaaDoorT
