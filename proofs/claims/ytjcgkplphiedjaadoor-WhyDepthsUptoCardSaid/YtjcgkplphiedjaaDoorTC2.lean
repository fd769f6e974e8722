/- Words: the program's; constants that are valid. -/
import Derived.Test.YtjcgkplphiedjaaDoorTC1
namespace Go.Proofs.YtjcgkplphiedjaaDoorT
open Go.RowKit

set_option maxHeartbeats 1000000 in
theorem small_sym (x : Int) (w : World) : Calls Tryd.prog 101 #[.int .u8 x] w fun e w' => e = .returned (.bool (lowZ x)) ∧ w' = w := by
  have HZ : Hid (lowZ x = (decide (97 ≤ x) && decide (x ≤ 122))) := Lib.hid rfl
  generalize lowZ x = z at *
  go_enter Tryd.func101, Tryd.ntmps101
  by_cases h1 : 97 ≤ x
  · by_cases h2 : x ≤ 122
    · have hz : z = true := by rw [HZ.out]; simp [h1, h2]
      subst hz
      clear HZ
      go_wp2
      go_ret
      exact ⟨by rfl, rfl⟩
    · have hz : z = false := by rw [HZ.out]; simp [h2]
      subst hz
      clear HZ
      go_wp2
      go_ret
      exact ⟨by rfl, rfl⟩
  · have hz : z = false := by rw [HZ.out]; simp [h1]
    subst hz
    clear HZ
    go_wp2
    go_ret
    exact ⟨by rfl, rfl⟩


set_option maxHeartbeats 1000000 in
theorem big_sym (x : Int) (w : World) : Calls Tryd.prog 117 #[.int .u8 x] w fun e w' => e = .returned (.bool (bigZ x)) ∧ w' = w := by
  have HZ : Hid (bigZ x = ((decide (65 ≤ x) && decide (x ≤ 90)) || decide (x = 95))) := Lib.hid rfl
  generalize bigZ x = z at *
  go_enter Tryd.func117, Tryd.ntmps117
  by_cases h3 : x = 95
  · subst h3
    have hz : z = true := by rw [HZ.out]; rfl
    subst hz
    clear HZ
    go_wp2
    go_ret
    exact ⟨by rfl, rfl⟩
  · have t1 : (x == 95) = false := by simpa using h3
    by_cases h1 : 65 ≤ x
    · by_cases h2 : x ≤ 90
      · have hz : z = true := by rw [HZ.out]; simp [h1, h2]
        subst hz
        clear HZ h3
        go_wp2
        go_ret
        exact ⟨by rfl, rfl⟩
      · have hz : z = false := by rw [HZ.out]; simp [h2, h3]
        subst hz
        clear HZ h3
        go_wp2
        go_ret
        exact ⟨by rfl, rfl⟩
    · have hz : z = false := by rw [HZ.out]; simp [h1, h3]
      subst hz
      clear HZ h3
      go_wp2
      go_ret
      exact ⟨by rfl, rfl⟩

/-- A word whose first byte is as f says. -/
def wordS (f : Int → Bool) (s : ByteArray) : Bool := decide (1 ≤ s.size) && decide (s.size ≤ 64) && f (((s.toList).headD 0).toNat : Int) && tailB s 1

theorem wordZ_eq (x : Int) : wordZ x = (lowZ x || bigZ x || (decide (48 ≤ x) && decide (x ≤ 57))) := by
  unfold wordZ bigZ digZ
  cases lowZ x <;> cases uppZ x <;> cases decide (x = 95) <;> simp
theorem bytes_cell (w : World) (s : ByteArray) (cap : Nat) (fr : Nat × Nat) (j : Nat) (h : j + 1 < s.size) :
    (w.alloc (.cells (bytesRow (s.extract 1 s.size) cap) 5 fr)).drew.cell? ⟨w.heap.size, j, none⟩ = some (.int .u8 ((s[j + 1]).toNat : Int)) := by
  have hb : (w.alloc (.cells (bytesRow (s.extract 1 s.size) cap) 5 fr)).drew.heap[w.heap.size]? = some (.cells (bytesRow (s.extract 1 s.size) cap) 5 fr) := heap_alloc_new w _
  rw [Lib.cell_of_heap hb, bytesRow]
  have hl : j < (s.extract 1 s.size).data.size := by
    have : (s.extract 1 s.size).data.size = s.size - 1 := by simp
    omega
  rw [Array.getElem?_append_left (by simpa using hl), Array.getElem?_map, Array.getElem?_eq_getElem hl]
  simp [Nat.add_comm]
  rfl

set_option maxRecDepth 20000 in
set_option maxHeartbeats 4000000 in
theorem word_small (s : ByteArray) (hb : s.size ≤ 9223372036854775807) (w : World) :
    Calls Tryd.prog 100 #[.string s, .func (.func 101) #[] #[]] w fun e w' => e = .returned (.bool (wordS lowZ s)) ∧ Below w.heap.size w w' := by
  have HV : Hid (wordS lowZ s = (decide (1 ≤ s.size) && decide (s.size ≤ 64) && lowZ (((s.toList).headD 0).toNat : Int) && tailB s 1)) := Lib.hid rfl
  generalize wordS lowZ s = v at *
  go_enter Tryd.func100, Tryd.ntmps100
  by_cases h1 : 1 ≤ s.size
  · have h0 : (s.toList == []) = false := by
      have : s.toList ≠ [] := fun h => by have h2 := toList_size s; rw [h] at h2; simp only [List.length_nil] at h2; omega
      simpa using this
    by_cases h2 : s.size ≤ 64
    · have HV2 : Hid (v = (lowZ ((s[0]).toNat : Int) && tailB s 1)) := Lib.hid (by rw [HV.out, head_at s (by omega)]; simp [h1, h2])
      have kl := small_sym ((s[0]).toNat : Int) w
      clear HV
      generalize lowZ _ = l at *
      cases l with
      | false =>
        have hz : v = false := by rw [HV2.out]; simp
        subst hz
        clear HV2
        go_wp2_with fail
        refine kl.mono ?_
        rintro e w1 ⟨rfl, rfl⟩
        go_wp2
        go_ret
        exact ⟨by rfl, Below.refl _ _⟩
      | true =>
        have hz : v = tailB s 1 := by rw [HV2.out]; simp
        have HV := Lib.hid hz
        clear HV2 hz
        go_wp2_with fail
        refine kl.mono ?_
        rintro e w1 ⟨rfl, rfl⟩
        have hcv := fun w => run_bytes_of_string (P := Tryd.prog) w 9 57 5 (s.extract 1 s.size) Tryd.underlying9 Tryd.underlying57 Tryd.underlying5
        have hsz : (s.extract 1 s.size).size = s.size - 1 := by simp
        have hcell : ∀ (cap : Nat) (fr : Nat × Nat) (j : Nat) (h : j + 1 < s.size), (w1.alloc (.cells (bytesRow (s.extract 1 s.size) cap) 5 fr)).drew.cell? ⟨w1.heap.size, j, none⟩ = some (.int .u8 ((s[j + 1]).toNat : Int)) := fun cap fr j h => bytes_cell w1 s cap fr j h
        rw [hsz] at hcv
        go_upto_region 4 with (fail)
        have HC := Lib.hid (hcell (grownCap w1 (s.size - 1) 0 5) ((bytesRow (s.extract 1 s.size) (grownCap w1 (s.size - 1) 0 5)).size, (bytesRow (s.extract 1 s.size) (grownCap w1 (s.size - 1) 0 5)).size + 1))
        have HB := Lib.hid (((Below.refl w1.heap.size w1).alloc (Nat.le_refl _) (.cells (bytesRow (s.extract 1 s.size) (grownCap w1 (s.size - 1) 0 5)) 5 ((bytesRow (s.extract 1 s.size) (grownCap w1 (s.size - 1) 0 5)).size, (bytesRow (s.extract 1 s.size) (grownCap w1 (s.size - 1) 0 5)).size + 1))).drew)
        clear hcell hcv kl
        generalize grownCap w1 (s.size - 1) 0 5 = cap at *
        generalize World.drew _ = w2 at *
        generalize hR : w1.heap.size = R at *
        have HRR := Lib.hid hR
        clear hR
        go_loopg [25] (s.size - 1) (fun gk u25 wr => ∃ k : Nat, u25 = .int .i64 k ∧ k ≤ s.size - 1 ∧ Hid (gk = s.size - 1 - k) ∧ wr = w2 ∧ Hid (tailB s (k + 1) = v))
        case atStart => exact ⟨0, rfl, Nat.zero_le _, Lib.hid (by omega), rfl, Lib.hid HV.out.symm⟩
        case round =>
          obtain ⟨k, rfl, hk, HG, rfl, HT⟩ := hrel
          by_cases hlt : k < s.size - 1
          · have HS := Lib.hid (tailB_step s (k + 1) (by omega))
            have c0 := HC.out k (by omega)
            have kl := small_sym ((s[k + 1]).toNat : Int) wr
            have ku := big_sym ((s[k + 1]).toNat : Int) wr
            have HW : Hid (wordZ ((s[k + 1]).toNat : Int) = (lowZ ((s[k + 1]).toNat : Int) || bigZ ((s[k + 1]).toNat : Int) || (decide (48 ≤ ((s[k + 1]).toNat : Int)) && decide (((s[k + 1]).toNat : Int) ≤ 57)))) := Lib.hid (wordZ_eq _)
            generalize hx : ((s[k + 1]).toNat : Int) = x at *
            clear hx
            generalize lowZ _ = l at *
            generalize bigZ _ = u at *
            generalize wordZ x = z at *
            have HS2 : Hid (v = (z && tailB s (k + 1 + 1))) := Lib.hid (by rw [← HS.out, HT.out])
            clear HS HT
            cases l with
            | true =>
              have HN : Hid (tailB s (k + 1 + 1) = v) := Lib.hid (by rw [HS2.out, HW.out]; simp)
              clear HS2 HW ku
              go_wp2_with fail
              refine kl.mono ?_
              rintro e w1 ⟨rfl, rfl⟩
              go_wp2
              go_roundg (s.size - 1 - (k + 1))
              case measure => have := HG.out; omega
              case rel => exact ⟨k + 1, by go_num, by omega, Lib.hid rfl, rfl, HN⟩
            | false =>
            cases u with
            | true =>
              have HN : Hid (tailB s (k + 1 + 1) = v) := Lib.hid (by rw [HS2.out, HW.out]; simp)
              clear HS2 HW
              go_wp2_with fail
              refine kl.mono ?_
              rintro e w1 ⟨rfl, rfl⟩
              go_wp2_with fail
              refine ku.mono ?_
              rintro e w1 ⟨rfl, rfl⟩
              go_wp2
              go_roundg (s.size - 1 - (k + 1))
              case measure => have := HG.out; omega
              case rel => exact ⟨k + 1, by go_num, by omega, Lib.hid rfl, rfl, HN⟩
            | false =>
              by_cases h48 : 48 ≤ x
              · by_cases h57 : x ≤ 57
                · have HN : Hid (tailB s (k + 1 + 1) = v) := Lib.hid (by rw [HS2.out, HW.out]; simp [h48, h57])
                  clear HS2 HW
                  go_wp2_with fail
                  refine kl.mono ?_
                  rintro e w1 ⟨rfl, rfl⟩
                  go_wp2_with fail
                  refine ku.mono ?_
                  rintro e w1 ⟨rfl, rfl⟩
                  go_wp2
                  go_roundg (s.size - 1 - (k + 1))
                  case measure => have := HG.out; omega
                  case rel => exact ⟨k + 1, by go_num, by omega, Lib.hid rfl, rfl, HN⟩
                · have hz : v = false := by rw [HS2.out, HW.out]; simp [h57]
                  subst hz
                  clear HS2 HW
                  go_wp2_with fail
                  refine kl.mono ?_
                  rintro e w1 ⟨rfl, rfl⟩
                  go_wp2_with fail
                  refine ku.mono ?_
                  rintro e w1 ⟨rfl, rfl⟩
                  go_wp2
                  go_ret
                  exact ⟨by rfl, by rw [HRR.out]; exact HB.out⟩
              · have hz : v = false := by rw [HS2.out, HW.out]; simp [h48]
                subst hz
                clear HS2 HW
                go_wp2_with fail
                refine kl.mono ?_
                rintro e w1 ⟨rfl, rfl⟩
                go_wp2_with fail
                refine ku.mono ?_
                rintro e w1 ⟨rfl, rfl⟩
                go_wp2
                go_ret
                exact ⟨by rfl, by rw [HRR.out]; exact HB.out⟩
          · have hz : v = true := by rw [← HT.out]; exact tailB_end s (k + 1) (by omega)
            subst hz
            go_wp2
            go_ret
            exact ⟨by rfl, by rw [HRR.out]; exact HB.out⟩
    · have hz : v = false := by rw [HV.out]; simp [h2]
      subst hz
      clear HV
      go_wp2
      go_ret
      exact ⟨by rfl, Below.refl _ _⟩
  · have h0 : (s.toList == []) = true := by
      have : s.toList.length = 0 := by rw [← toList_size]; omega
      simpa using List.eq_nil_of_length_eq_zero this
    have hz : v = false := by rw [HV.out]; simp [h1]
    subst hz
    clear HV
    go_wp2
    go_ret
    exact ⟨by rfl, Below.refl _ _⟩
set_option maxRecDepth 20000 in
set_option maxHeartbeats 4000000 in
theorem word_big (s : ByteArray) (hb : s.size ≤ 9223372036854775807) (w : World) :
    Calls Tryd.prog 100 #[.string s, .func (.func 117) #[] #[]] w fun e w' => e = .returned (.bool (wordS bigZ s)) ∧ Below w.heap.size w w' := by
  have HV : Hid (wordS bigZ s = (decide (1 ≤ s.size) && decide (s.size ≤ 64) && bigZ (((s.toList).headD 0).toNat : Int) && tailB s 1)) := Lib.hid rfl
  generalize wordS bigZ s = v at *
  go_enter Tryd.func100, Tryd.ntmps100
  by_cases h1 : 1 ≤ s.size
  · have h0 : (s.toList == []) = false := by
      have : s.toList ≠ [] := fun h => by have h2 := toList_size s; rw [h] at h2; simp only [List.length_nil] at h2; omega
      simpa using this
    by_cases h2 : s.size ≤ 64
    · have HV2 : Hid (v = (bigZ ((s[0]).toNat : Int) && tailB s 1)) := Lib.hid (by rw [HV.out, head_at s (by omega)]; simp [h1, h2])
      have kl := big_sym ((s[0]).toNat : Int) w
      clear HV
      generalize bigZ _ = l at *
      cases l with
      | false =>
        have hz : v = false := by rw [HV2.out]; simp
        subst hz
        clear HV2
        go_wp2_with fail
        refine kl.mono ?_
        rintro e w1 ⟨rfl, rfl⟩
        go_wp2
        go_ret
        exact ⟨by rfl, Below.refl _ _⟩
      | true =>
        have hz : v = tailB s 1 := by rw [HV2.out]; simp
        have HV := Lib.hid hz
        clear HV2 hz
        go_wp2_with fail
        refine kl.mono ?_
        rintro e w1 ⟨rfl, rfl⟩
        have hcv := fun w => run_bytes_of_string (P := Tryd.prog) w 9 57 5 (s.extract 1 s.size) Tryd.underlying9 Tryd.underlying57 Tryd.underlying5
        have hsz : (s.extract 1 s.size).size = s.size - 1 := by simp
        have hcell : ∀ (cap : Nat) (fr : Nat × Nat) (j : Nat) (h : j + 1 < s.size), (w1.alloc (.cells (bytesRow (s.extract 1 s.size) cap) 5 fr)).drew.cell? ⟨w1.heap.size, j, none⟩ = some (.int .u8 ((s[j + 1]).toNat : Int)) := fun cap fr j h => bytes_cell w1 s cap fr j h
        rw [hsz] at hcv
        go_upto_region 4 with (fail)
        have HC := Lib.hid (hcell (grownCap w1 (s.size - 1) 0 5) ((bytesRow (s.extract 1 s.size) (grownCap w1 (s.size - 1) 0 5)).size, (bytesRow (s.extract 1 s.size) (grownCap w1 (s.size - 1) 0 5)).size + 1))
        have HB := Lib.hid (((Below.refl w1.heap.size w1).alloc (Nat.le_refl _) (.cells (bytesRow (s.extract 1 s.size) (grownCap w1 (s.size - 1) 0 5)) 5 ((bytesRow (s.extract 1 s.size) (grownCap w1 (s.size - 1) 0 5)).size, (bytesRow (s.extract 1 s.size) (grownCap w1 (s.size - 1) 0 5)).size + 1))).drew)
        clear hcell hcv kl
        generalize grownCap w1 (s.size - 1) 0 5 = cap at *
        generalize World.drew _ = w2 at *
        generalize hR : w1.heap.size = R at *
        have HRR := Lib.hid hR
        clear hR
        go_loopg [25] (s.size - 1) (fun gk u25 wr => ∃ k : Nat, u25 = .int .i64 k ∧ k ≤ s.size - 1 ∧ Hid (gk = s.size - 1 - k) ∧ wr = w2 ∧ Hid (tailB s (k + 1) = v))
        case atStart => exact ⟨0, rfl, Nat.zero_le _, Lib.hid (by omega), rfl, Lib.hid HV.out.symm⟩
        case round =>
          obtain ⟨k, rfl, hk, HG, rfl, HT⟩ := hrel
          by_cases hlt : k < s.size - 1
          · have HS := Lib.hid (tailB_step s (k + 1) (by omega))
            have c0 := HC.out k (by omega)
            have kl := small_sym ((s[k + 1]).toNat : Int) wr
            have ku := big_sym ((s[k + 1]).toNat : Int) wr
            have HW : Hid (wordZ ((s[k + 1]).toNat : Int) = (lowZ ((s[k + 1]).toNat : Int) || bigZ ((s[k + 1]).toNat : Int) || (decide (48 ≤ ((s[k + 1]).toNat : Int)) && decide (((s[k + 1]).toNat : Int) ≤ 57)))) := Lib.hid (wordZ_eq _)
            generalize hx : ((s[k + 1]).toNat : Int) = x at *
            clear hx
            generalize lowZ _ = l at *
            generalize bigZ _ = u at *
            generalize wordZ x = z at *
            have HS2 : Hid (v = (z && tailB s (k + 1 + 1))) := Lib.hid (by rw [← HS.out, HT.out])
            clear HS HT
            cases l with
            | true =>
              have HN : Hid (tailB s (k + 1 + 1) = v) := Lib.hid (by rw [HS2.out, HW.out]; simp)
              clear HS2 HW ku
              go_wp2_with fail
              refine kl.mono ?_
              rintro e w1 ⟨rfl, rfl⟩
              go_wp2
              go_roundg (s.size - 1 - (k + 1))
              case measure => have := HG.out; omega
              case rel => exact ⟨k + 1, by go_num, by omega, Lib.hid rfl, rfl, HN⟩
            | false =>
            cases u with
            | true =>
              have HN : Hid (tailB s (k + 1 + 1) = v) := Lib.hid (by rw [HS2.out, HW.out]; simp)
              clear HS2 HW
              go_wp2_with fail
              refine kl.mono ?_
              rintro e w1 ⟨rfl, rfl⟩
              go_wp2_with fail
              refine ku.mono ?_
              rintro e w1 ⟨rfl, rfl⟩
              go_wp2
              go_roundg (s.size - 1 - (k + 1))
              case measure => have := HG.out; omega
              case rel => exact ⟨k + 1, by go_num, by omega, Lib.hid rfl, rfl, HN⟩
            | false =>
              by_cases h48 : 48 ≤ x
              · by_cases h57 : x ≤ 57
                · have HN : Hid (tailB s (k + 1 + 1) = v) := Lib.hid (by rw [HS2.out, HW.out]; simp [h48, h57])
                  clear HS2 HW
                  go_wp2_with fail
                  refine kl.mono ?_
                  rintro e w1 ⟨rfl, rfl⟩
                  go_wp2_with fail
                  refine ku.mono ?_
                  rintro e w1 ⟨rfl, rfl⟩
                  go_wp2
                  go_roundg (s.size - 1 - (k + 1))
                  case measure => have := HG.out; omega
                  case rel => exact ⟨k + 1, by go_num, by omega, Lib.hid rfl, rfl, HN⟩
                · have hz : v = false := by rw [HS2.out, HW.out]; simp [h57]
                  subst hz
                  clear HS2 HW
                  go_wp2_with fail
                  refine kl.mono ?_
                  rintro e w1 ⟨rfl, rfl⟩
                  go_wp2_with fail
                  refine ku.mono ?_
                  rintro e w1 ⟨rfl, rfl⟩
                  go_wp2
                  go_ret
                  exact ⟨by rfl, by rw [HRR.out]; exact HB.out⟩
              · have hz : v = false := by rw [HS2.out, HW.out]; simp [h48]
                subst hz
                clear HS2 HW
                go_wp2_with fail
                refine kl.mono ?_
                rintro e w1 ⟨rfl, rfl⟩
                go_wp2_with fail
                refine ku.mono ?_
                rintro e w1 ⟨rfl, rfl⟩
                go_wp2
                go_ret
                exact ⟨by rfl, by rw [HRR.out]; exact HB.out⟩
          · have hz : v = true := by rw [← HT.out]; exact tailB_end s (k + 1) (by omega)
            subst hz
            go_wp2
            go_ret
            exact ⟨by rfl, by rw [HRR.out]; exact HB.out⟩
    · have hz : v = false := by rw [HV.out]; simp [h2]
      subst hz
      clear HV
      go_wp2
      go_ret
      exact ⟨by rfl, Below.refl _ _⟩
  · have h0 : (s.toList == []) = true := by
      have : s.toList.length = 0 := by rw [← toList_size]; omega
      simpa using List.eq_nil_of_length_eq_zero this
    have hz : v = false := by rw [HV.out]; simp [h1]
    subst hz
    clear HV
    go_wp2
    go_ret
    exact ⟨by rfl, Below.refl _ _⟩
end Go.Proofs.YtjcgkplphiedjaaDoorT
