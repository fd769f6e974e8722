/- Facts that are well formed: the program's look at a constant. -/
import Derived.Test.YtjcgkplphiedjaaDoorTC3
import Derived.Test.YtjcgkplphiedjaaDoorTH9
namespace Go.Proofs.YtjcgkplphiedjaaDoorT
open Go.RowKit Go.Sort

def validK (z : Cn) : Bool := validC z.k z.i z.t
/-- A fact that can be written: a name, at most eight constants. -/
def wellF (p : ByteArray) (xs : List Cn) : Bool := isNameS p && decide (xs.length ≤ 8) && xs.all validK
def fineK (z : Cn) : Prop := z.t.size ≤ 9223372036854775807

set_option maxHeartbeats 4000000 in
theorem wellConstK (z : Cn) (hb : fineK z) (w : World) :
    Calls Tryd.prog 83 #[.agg z.cells.toArray] w fun e w' => e = .returned (.int .i64 (if validK z = true then 0 else 5)) ∧ Below w.heap.size w w' := by
  obtain ⟨k, i, t⟩ := z
  show Calls Tryd.prog 83 #[.agg #[.int .i64 k, .int .i64 i, .string t]] w fun e w' => e = .returned (.int .i64 (if validC k i t = true then 0 else 5)) ∧ Below w.heap.size w w'
  cases hv : validC k i t with
  | true =>
    show Calls Tryd.prog 83 #[.agg #[.int .i64 k, .int .i64 i, .string t]] w fun e w' => e = .returned (.int .i64 0) ∧ Below w.heap.size w w'
    have hV := valid_sym k i t hb
    rw [hv] at hV
    have HV := Lib.hid hV
    clear hV hv hb
    go_enter Tryd.func83, Tryd.ntmps83
    go_upto_region 1 with (fail)
    have hb1 := (Below.refl w.heap.size w).alloc (Nat.le_refl _) (.cells #[.int .i64 k, .int .i64 i, .string t] 68)
    have h1 := Blk.new w 68 [.int .i64 k, .int .i64 i, .string t]
    generalize World.alloc _ _ = w1 at *
    generalize hR : w.heap.size = R at *
    have HRR := Lib.hid hR
    clear hR
    have f0 := (h1.cell 0).trans rfl
    have f1 := (h1.cell 1).trans rfl
    have f2 := (h1.cell 2).trans rfl
    have hs : R ≤ w1.heap.size := Nat.le_of_lt h1.lt
    have HB := Lib.hid hb1
    clear h1 hb1
    go_wp2_with fail
    refine (HV.out w1).mono ?_
    rintro e w2 ⟨rfl, hb2⟩
    have HB2 := Lib.hid (HB.out.trans (hb2.mono hs))
    clear hb2 HB HV f0 f1 f2
    go_wp2
    go_ret
    exact ⟨rfl, by rw [HRR.out]; exact HB2.out⟩
  | false =>
    show Calls Tryd.prog 83 #[.agg #[.int .i64 k, .int .i64 i, .string t]] w fun e w' => e = .returned (.int .i64 5) ∧ Below w.heap.size w w'
    have hV := valid_sym k i t hb
    rw [hv] at hV
    have HV := Lib.hid hV
    clear hV hv hb
    go_enter Tryd.func83, Tryd.ntmps83
    go_upto_region 1 with (fail)
    have hb1 := (Below.refl w.heap.size w).alloc (Nat.le_refl _) (.cells #[.int .i64 k, .int .i64 i, .string t] 68)
    have h1 := Blk.new w 68 [.int .i64 k, .int .i64 i, .string t]
    generalize World.alloc _ _ = w1 at *
    generalize hR : w.heap.size = R at *
    have HRR := Lib.hid hR
    clear hR
    have f0 := (h1.cell 0).trans rfl
    have f1 := (h1.cell 1).trans rfl
    have f2 := (h1.cell 2).trans rfl
    have hs : R ≤ w1.heap.size := Nat.le_of_lt h1.lt
    have HB := Lib.hid hb1
    clear h1 hb1
    go_wp2_with fail
    refine (HV.out w1).mono ?_
    rintro e w2 ⟨rfl, hb2⟩
    have HB2 := Lib.hid (HB.out.trans (hb2.mono hs))
    clear hb2 HB HV f0 f1 f2
    go_wp2
    go_ret
    exact ⟨rfl, by rw [HRR.out]; exact HB2.out⟩
end Go.Proofs.YtjcgkplphiedjaaDoorT
