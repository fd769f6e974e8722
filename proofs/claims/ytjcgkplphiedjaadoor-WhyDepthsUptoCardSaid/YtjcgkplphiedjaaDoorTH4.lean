/- Lists that are the same are found to be the same. -/
import Derived.Test.YtjcgkplphiedjaaDoorTH3
namespace Go.Proofs.YtjcgkplphiedjaaDoorT
open Go.RowKit

theorem eqInK (k i : Int) (t : ByteArray) (w : World) :
    (Op.equalIn 10000 68 (.agg #[.int .i64 k, .int .i64 i, .string t]) (.agg #[.int .i64 k, .int .i64 i, .string t])).run Tryd.prog w = .ok true w := by
  rw [run_equalIn_struct (P := Tryd.prog) w 9999 68 _ _ (by kernel_rfl) (by kernel_rfl)]
  have h1 : ∃ a b c : Field, (Tryd.prog.fieldsOf 68).toList = [a, b, c] ∧ a.name ≠ "_" ∧ b.name ≠ "_" ∧ c.name ≠ "_" ∧ a.type = 3 ∧ b.type = 2 ∧ c.type = 9 ∧ a.offset = 0 ∧ b.offset = 1 ∧ c.offset = 2 := by
    simp only [Program.fieldsOf, Tryd.underlying68]
    exact ⟨_, _, _, rfl, by decide, by decide, by decide, rfl, rfl, rfl, rfl, rfl, rfl⟩
  obtain ⟨a, b, c, hl, n1, n2, n3, t1, t2, t3, o1, o2, o3⟩ := h1
  rw [hl]
  simp only [Op.eqFields, t1, t2, t3, o1, o2, o3]
  go_simp
  repeat' split
  all_goals simp_all
@[simp] theorem run_neqK (k i : Int) (t : ByteArray) (w : World) :
    (binOp .neq 68 (.agg #[.int .i64 k, .int .i64 i, .string t]) (.agg #[.int .i64 k, .int .i64 i, .string t])).run Tryd.prog w = .ok (.bool false) w := by
  rw [run_neq_struct, eqInK]; rfl

set_option maxHeartbeats 4000000 in
theorem ints_same (A A' : Option Addr) (n c c' : Nat) (l : List Int) (w : World) (hr : Rd w w.heap.size 1 A n (icells l)) (hr' : Rd w w.heap.size 1 A' n (icells l)) :
    Calls Tryd.prog 13 #[.slice A n c, .slice A' n c'] w fun e w' => e = .returned (.bool true) ∧ Below w.heap.size w w' := by
  have HL := Lib.hid hr
  have HM := Lib.hid hr'
  have hnb := hr.2.1
  clear hr hr'
  generalize hR : w.heap.size = R at *
  have HRR := Lib.hid hR
  clear hR
  go_enter Tryd.func13, Tryd.ntmps13
  go_upto_region 4 with (fail)
  go_loopg [5] n (fun gk u5 wr => ∃ k : Nat, u5 = .int .i64 k ∧ k ≤ n ∧ Hid (gk = n - k) ∧ Hid (Below R w wr))
  case atStart => exact ⟨0, rfl, Nat.zero_le _, Lib.hid (by omega), Lib.hid (Below.refl _ _)⟩
  case round =>
    obtain ⟨k, rfl, hk, HG, HB⟩ := hrel
    by_cases hlt : k < n
    · obtain ⟨b1, o1, hk1, rfl, hb1, c1⟩ := (HL.out.below HB.out).ints k hlt
      obtain ⟨b2, o2, hk2, rfl, hb2, c2⟩ := (HM.out.below HB.out).ints k hlt
      generalize l[k] = z at *
      go_upto_region 6 with (fail)
      go_quiet (fail)
      go_wp2
      go_roundg (n - (k + 1))
      case measure => have := HG.out; omega
      case rel => exact ⟨k + 1, by go_num, by omega, Lib.hid rfl, Lib.hid (HB.out.trans ⟨rfl, rfl, rfl, Nat.le_refl _, fun _ _ => rfl⟩)⟩
    · obtain rfl : k = n := by omega
      go_wp2
      go_ret
      exact ⟨rfl, HB.out⟩

set_option maxHeartbeats 4000000 in
theorem consts_same (A A' : Option Addr) (n c c' : Nat) (l : List Cn) (w : World) (hr : Rd w w.heap.size 3 A n (kcells l)) (hr' : Rd w w.heap.size 3 A' n (kcells l)) :
    Calls Tryd.prog 37 #[.slice A n c, .slice A' n c'] w fun e w' => e = .returned (.bool true) ∧ Below w.heap.size w w' := by
  have HL := Lib.hid hr
  have HM := Lib.hid hr'
  have hnb := hr.2.1
  clear hr hr'
  generalize hR : w.heap.size = R at *
  have HRR := Lib.hid hR
  clear hR
  go_enter Tryd.func37, Tryd.ntmps37
  go_upto_region 4 with (fail)
  go_loopg [5] n (fun gk u5 wr => ∃ k : Nat, u5 = .int .i64 k ∧ k ≤ n ∧ Hid (gk = n - k) ∧ Hid (Below R w wr))
  case atStart => exact ⟨0, rfl, Nat.zero_le _, Lib.hid (by omega), Lib.hid (Below.refl _ _)⟩
  case round =>
    obtain ⟨k, rfl, hk, HG, HB⟩ := hrel
    by_cases hlt : k < n
    · obtain ⟨b1, o1, hk1, rfl, hb1, hc⟩ := (HL.out.below HB.out).at Cn.cells 3 (fun _ => rfl) (by omega) k hlt
      obtain ⟨b2, o2, hk2, rfl, hb2, hd⟩ := (HM.out.below HB.out).at Cn.cells 3 (fun _ => rfl) (by omega) k hlt
      have c0 := hc 0 _ (by omega) rfl
      have c1 := hc 1 _ (by omega) rfl
      have c2 := hc 2 _ (by omega) rfl
      have d0 := hd 0 _ (by omega) rfl
      have d1 := hd 1 _ (by omega) rfl
      have d2 := hd 2 _ (by omega) rfl
      rw [Nat.add_zero] at c0 d0
      clear hc hd
      generalize l[k] = z at *
      obtain ⟨zk, zi, zt⟩ := z
      dsimp only at c0 c1 c2 d0 d1 d2
      go_upto_region 6 with (fail)
      go_quiet (fail)
      go_wp2
      go_roundg (n - (k + 1))
      case measure => have := HG.out; omega
      case rel => exact ⟨k + 1, by go_num, by omega, Lib.hid rfl, Lib.hid (HB.out.trans ⟨rfl, rfl, rfl, Nat.le_refl _, fun _ _ => rfl⟩)⟩
    · obtain rfl : k = n := by omega
      go_wp2
      go_ret
      exact ⟨rfl, HB.out⟩
end Go.Proofs.YtjcgkplphiedjaaDoorT
