/- Words: names and variables, the document's and the program's. | Words: the program's; constants that are valid. | Names, variables and constants that are valid: the program's. -/
import Derived.Test.YtjcgkplphiedjaaDoorTG1
namespace Go.Proofs.YtjcgkplphiedjaaDoorT
open Go.RowKit

def lowZ (x : Int) : Bool := decide (97 ≤ x) && decide (x ≤ 122)
def uppZ (x : Int) : Bool := decide (65 ≤ x) && decide (x ≤ 90)
def digZ (x : Int) : Bool := decide (48 ≤ x) && decide (x ≤ 57)
def wordZ (x : Int) : Bool := lowZ x || uppZ x || digZ x || decide (x = 95)
def bigZ (x : Int) : Bool := uppZ x || decide (x = 95)

set_option maxHeartbeats 1000000 in
theorem lower_ref (x : Int) (w : World) : Calls Tryd.prog 98 #[.int .u8 x] w fun e w' => e = .returned (.bool (lowZ x)) ∧ w' = w := by
  have HZ : Hid (lowZ x = (decide (97 ≤ x) && decide (x ≤ 122))) := Lib.hid rfl
  generalize lowZ x = z at *
  go_enter Tryd.func98, Tryd.ntmps98
  by_cases h1 : 97 ≤ x
  · by_cases h2 : x ≤ 122
    · have hz : z = true := by rw [HZ.out]; simp [h1, h2]
      subst hz
      clear HZ
      go_wp2
      go_ret
      exact ⟨by rfl, rfl⟩
    · have hz : z = false := by rw [HZ.out]; simp [h2]
      subst hz
      clear HZ
      go_wp2
      go_ret
      exact ⟨by rfl, rfl⟩
  · have hz : z = false := by rw [HZ.out]; simp [h1]
    subst hz
    clear HZ
    go_wp2
    go_ret
    exact ⟨by rfl, rfl⟩

set_option maxHeartbeats 1000000 in
theorem upper_ref (x : Int) (w : World) : Calls Tryd.prog 115 #[.int .u8 x] w fun e w' => e = .returned (.bool (uppZ x)) ∧ w' = w := by
  have HZ : Hid (uppZ x = (decide (65 ≤ x) && decide (x ≤ 90))) := Lib.hid rfl
  generalize uppZ x = z at *
  go_enter Tryd.func115, Tryd.ntmps115
  by_cases h1 : 65 ≤ x
  · by_cases h2 : x ≤ 90
    · have hz : z = true := by rw [HZ.out]; simp [h1, h2]
      subst hz
      clear HZ
      go_wp2
      go_ret
      exact ⟨by rfl, rfl⟩
    · have hz : z = false := by rw [HZ.out]; simp [h2]
      subst hz
      clear HZ
      go_wp2
      go_ret
      exact ⟨by rfl, rfl⟩
  · have hz : z = false := by rw [HZ.out]; simp [h1]
    subst hz
    clear HZ
    go_wp2
    go_ret
    exact ⟨by rfl, rfl⟩

set_option maxHeartbeats 1000000 in
theorem digit_ref (x : Int) (w : World) : Calls Tryd.prog 116 #[.int .u8 x] w fun e w' => e = .returned (.bool (digZ x)) ∧ w' = w := by
  have HZ : Hid (digZ x = (decide (48 ≤ x) && decide (x ≤ 57))) := Lib.hid rfl
  generalize digZ x = z at *
  go_enter Tryd.func116, Tryd.ntmps116
  by_cases h1 : 48 ≤ x
  · by_cases h2 : x ≤ 57
    · have hz : z = true := by rw [HZ.out]; simp [h1, h2]
      subst hz
      clear HZ
      go_wp2
      go_ret
      exact ⟨by rfl, rfl⟩
    · have hz : z = false := by rw [HZ.out]; simp [h2]
      subst hz
      clear HZ
      go_wp2
      go_ret
      exact ⟨by rfl, rfl⟩
  · have hz : z = false := by rw [HZ.out]; simp [h1]
    subst hz
    clear HZ
    go_wp2
    go_ret
    exact ⟨by rfl, rfl⟩

/-- The bytes from k on are letters, digits or _ . -/
def tailB (s : ByteArray) (k : Nat) : Bool := (s.toList.drop k).all fun b => wordZ (b.toNat : Int)
theorem tailB_end (s : ByteArray) (k : Nat) (h : s.size ≤ k) : tailB s k = true := by
  rw [tailB, List.drop_eq_nil_of_le (by rw [← toList_size]; exact h)]; rfl
theorem tailB_step (s : ByteArray) (k : Nat) (h : k < s.size) : tailB s k = (wordZ ((s[k]).toNat : Int) && tailB s (k + 1)) := by
  have hk : k < s.toList.length := by rw [← toList_size]; exact h
  have e : s.toList[k] = s[k] := by
    have : s.toList = s.data.toList := ByteArray.toList_eq s
    simp only [this]; rfl
  rw [tailB, tailB, List.drop_eq_getElem_cons hk, List.all_cons, e]

set_option maxHeartbeats 4000000 in
theorem tail_ref (s : ByteArray) (hs : s.size ≤ 64) (w : World) : Calls Tryd.prog 99 #[.string s] w fun e w' => e = .returned (.bool (tailB s 1)) ∧ w' = w := by
  have HV : Hid (tailB s 1 = tailB s 1) := Lib.hid rfl
  generalize hv : tailB s 1 = v at *
  replace HV := Lib.hid hv
  clear hv
  go_enter Tryd.func99, Tryd.ntmps99
  go_upto_region 2 with (fail)
  go_loopg [3] s.size (fun gk u3 wr => ∃ k : Nat, u3 = .int .i64 k ∧ k ≤ 64 + 1 ∧ Hid (gk = s.size + 1 - k) ∧ wr = w ∧ Hid (tailB s k = v))
  case atStart => exact ⟨1, rfl, by omega, Lib.hid (by omega), rfl, HV⟩
  case round =>
    obtain ⟨k, rfl, hk, HG, rfl, HT⟩ := hrel
    by_cases hlt : k < s.size
    · have HS := Lib.hid (tailB_step s k hlt)
      have kl := lower_ref ((s[k]).toNat : Int) wr
      have ku := upper_ref ((s[k]).toNat : Int) wr
      have kd := digit_ref ((s[k]).toNat : Int) wr
      have HW : Hid (wordZ ((s[k]).toNat : Int) = (lowZ ((s[k]).toNat : Int) || uppZ ((s[k]).toNat : Int) || digZ ((s[k]).toNat : Int) || decide (((s[k]).toNat : Int) = 95))) := Lib.hid rfl
      generalize lowZ _ = l at *
      generalize uppZ _ = u at *
      generalize digZ _ = d at *
      cases l with
      | true =>
        have HN : Hid (tailB s (k + 1) = v) := Lib.hid (by have := HS.out; rw [HW.out, HT.out] at this; simpa using this.symm)
        clear HT HS HW ku kd
        go_wp2_with fail
        refine kl.mono ?_
        rintro e w1 ⟨rfl, rfl⟩
        go_wp2
        go_roundg (s.size + 1 - (k + 1))
        case measure => have := HG.out; omega
        case rel => exact ⟨k + 1, by go_num, by omega, Lib.hid rfl, rfl, HN⟩
      | false =>
      cases u with
      | true =>
        have HN : Hid (tailB s (k + 1) = v) := Lib.hid (by have := HS.out; rw [HW.out, HT.out] at this; simpa using this.symm)
        clear HT HS HW kd
        go_wp2_with fail
        refine kl.mono ?_
        rintro e w1 ⟨rfl, rfl⟩
        go_wp2_with fail
        refine ku.mono ?_
        rintro e w1 ⟨rfl, rfl⟩
        go_wp2
        go_roundg (s.size + 1 - (k + 1))
        case measure => have := HG.out; omega
        case rel => exact ⟨k + 1, by go_num, by omega, Lib.hid rfl, rfl, HN⟩
      | false =>
      cases d with
      | true =>
        have HN : Hid (tailB s (k + 1) = v) := Lib.hid (by have := HS.out; rw [HW.out, HT.out] at this; simpa using this.symm)
        clear HT HS HW
        go_wp2_with fail
        refine kl.mono ?_
        rintro e w1 ⟨rfl, rfl⟩
        go_wp2_with fail
        refine ku.mono ?_
        rintro e w1 ⟨rfl, rfl⟩
        go_wp2_with fail
        refine kd.mono ?_
        rintro e w1 ⟨rfl, rfl⟩
        go_wp2
        go_roundg (s.size + 1 - (k + 1))
        case measure => have := HG.out; omega
        case rel => exact ⟨k + 1, by go_num, by omega, Lib.hid rfl, rfl, HN⟩
      | false =>
        by_cases h95 : ((s[k]).toNat : Int) = 95
        · have HN : Hid (tailB s (k + 1) = v) := Lib.hid (by have := HS.out; rw [HW.out, HT.out, h95] at this; simpa using this.symm)
          have t1 : (((s[k]).toNat : Int) != 95) = false := by simpa using h95
          clear HT HS HW h95
          go_wp2_with fail
          refine kl.mono ?_
          rintro e w1 ⟨rfl, rfl⟩
          go_wp2_with fail
          refine ku.mono ?_
          rintro e w1 ⟨rfl, rfl⟩
          go_wp2_with fail
          refine kd.mono ?_
          rintro e w1 ⟨rfl, rfl⟩
          go_wp2
          go_roundg (s.size + 1 - (k + 1))
          case measure => have := HG.out; omega
          case rel => exact ⟨k + 1, by go_num, by omega, Lib.hid rfl, rfl, HN⟩
        · have hz : v = false := by have := HS.out; rw [HW.out, HT.out, decide_eq_false h95] at this; simpa using this
          have t1 : (((s[k]).toNat : Int) != 95) = true := by simpa using h95
          subst hz
          clear HT HS HW h95
          go_wp2_with fail
          refine kl.mono ?_
          rintro e w1 ⟨rfl, rfl⟩
          go_wp2_with fail
          refine ku.mono ?_
          rintro e w1 ⟨rfl, rfl⟩
          go_wp2_with fail
          refine kd.mono ?_
          rintro e w1 ⟨rfl, rfl⟩
          go_wp2
          go_ret
          exact ⟨by rfl, rfl⟩
    · have hz : v = true := by rw [← HT.out]; exact tailB_end s k (by omega)
      subst hz
      go_wp2
      go_ret
      exact ⟨by rfl, rfl⟩

def notS : List UInt8 := [110, 111, 116]
/-- Names and variables. -/
def isNameS (s : ByteArray) : Bool := decide (1 ≤ s.size) && decide (s.size ≤ 64) && !(s.toList == notS) && lowZ (((s.toList).headD 0).toNat : Int) && tailB s 1
def isVarS (s : ByteArray) : Bool := decide (1 ≤ s.size) && decide (s.size ≤ 64) && bigZ (((s.toList).headD 0).toNat : Int) && tailB s 1
theorem head_at (s : ByteArray) (h : 0 < s.size) : (s.toList).headD 0 = s[0] := by
  have hk : 0 < s.toList.length := by rw [← toList_size]; exact h
  have e : s.toList[0] = s[0] := by
    have : s.toList = s.data.toList := ByteArray.toList_eq s
    simp only [this]; rfl
  have g : ∀ (l : List UInt8) (h : 0 < l.length), l.headD 0 = l[0] := fun l h => by
    cases l with
    | nil => simp at h
    | cons a l => rfl
  rw [← e]; exact g _ hk

set_option maxHeartbeats 4000000 in
theorem isName_ref (s : ByteArray) (hb : s.size ≤ 9223372036854775807) (w : World) : Calls Tryd.prog 79 #[.string s] w fun e w' => e = .returned (.bool (isNameS s)) ∧ w' = w := by
  have HV : Hid (isNameS s = (decide (1 ≤ s.size) && decide (s.size ≤ 64) && !(s.toList == notS) && lowZ (((s.toList).headD 0).toNat : Int) && tailB s 1)) := Lib.hid rfl
  generalize isNameS s = v at *
  go_enter Tryd.func79, Tryd.ntmps79
  by_cases h1 : 1 ≤ s.size
  · by_cases h2 : s.size ≤ 64
    · cases h3 : s.toList == notS with
      | true =>
        have hz : v = false := by rw [HV.out, h3]; simp
        subst hz
        have t1 : (s.toList == [110, 111, 116]) = true := h3
        clear HV h3
        go_wp2
        go_ret
        exact ⟨by rfl, rfl⟩
      | false =>
        have t1 : (s.toList == [110, 111, 116]) = false := h3
        have kl := lower_ref ((s[0]).toNat : Int) w
        have kt := tail_ref s h2 w
        have HV2 : Hid (v = (lowZ ((s[0]).toNat : Int) && tailB s 1)) := Lib.hid (by rw [HV.out, h3, head_at s (by omega)]; simp [h1, h2])
        clear HV h3
        generalize lowZ _ = l at *
        generalize tailB _ _ = t at *
        cases l with
        | true =>
          have hz : v = t := by rw [HV2.out]; simp
          subst hz
          clear HV2
          go_wp2_with fail
          refine kl.mono ?_
          rintro e w1 ⟨rfl, rfl⟩
          go_wp2_with fail
          refine kt.mono ?_
          rintro e w1 ⟨rfl, rfl⟩
          go_wp2
          go_ret
          exact ⟨by rfl, rfl⟩
        | false =>
          have hz : v = false := by rw [HV2.out]; simp
          subst hz
          clear HV2
          go_wp2_with fail
          refine kl.mono ?_
          rintro e w1 ⟨rfl, rfl⟩
          go_wp2
          go_ret
          exact ⟨by rfl, rfl⟩
    · have hz : v = false := by rw [HV.out]; simp [h2]
      subst hz
      clear HV
      go_wp2
      go_ret
      exact ⟨by rfl, rfl⟩
  · have hz : v = false := by rw [HV.out]; simp [h1]
    subst hz
    clear HV
    go_wp2
    go_ret
    exact ⟨by rfl, rfl⟩
end Go.Proofs.YtjcgkplphiedjaaDoorT

namespace Go.Proofs.YtjcgkplphiedjaaDoorT
open Go.RowKit

set_option maxHeartbeats 1000000 in
theorem small_sym (x : Int) (w : World) : Calls Tryd.prog 101 #[.int .u8 x] w fun e w' => e = .returned (.bool (lowZ x)) ∧ w' = w := by
  have HZ : Hid (lowZ x = (decide (97 ≤ x) && decide (x ≤ 122))) := Lib.hid rfl
  generalize lowZ x = z at *
  go_enter Tryd.func101, Tryd.ntmps101
  by_cases h1 : 97 ≤ x
  · by_cases h2 : x ≤ 122
    · have hz : z = true := by rw [HZ.out]; simp [h1, h2]
      subst hz
      clear HZ
      go_wp2
      go_ret
      exact ⟨by rfl, rfl⟩
    · have hz : z = false := by rw [HZ.out]; simp [h2]
      subst hz
      clear HZ
      go_wp2
      go_ret
      exact ⟨by rfl, rfl⟩
  · have hz : z = false := by rw [HZ.out]; simp [h1]
    subst hz
    clear HZ
    go_wp2
    go_ret
    exact ⟨by rfl, rfl⟩


set_option maxHeartbeats 1000000 in
theorem big_sym (x : Int) (w : World) : Calls Tryd.prog 117 #[.int .u8 x] w fun e w' => e = .returned (.bool (bigZ x)) ∧ w' = w := by
  have HZ : Hid (bigZ x = ((decide (65 ≤ x) && decide (x ≤ 90)) || decide (x = 95))) := Lib.hid rfl
  generalize bigZ x = z at *
  go_enter Tryd.func117, Tryd.ntmps117
  by_cases h3 : x = 95
  · subst h3
    have hz : z = true := by rw [HZ.out]; rfl
    subst hz
    clear HZ
    go_wp2
    go_ret
    exact ⟨by rfl, rfl⟩
  · have t1 : (x == 95) = false := by simpa using h3
    by_cases h1 : 65 ≤ x
    · by_cases h2 : x ≤ 90
      · have hz : z = true := by rw [HZ.out]; simp [h1, h2]
        subst hz
        clear HZ h3
        go_wp2
        go_ret
        exact ⟨by rfl, rfl⟩
      · have hz : z = false := by rw [HZ.out]; simp [h2, h3]
        subst hz
        clear HZ h3
        go_wp2
        go_ret
        exact ⟨by rfl, rfl⟩
    · have hz : z = false := by rw [HZ.out]; simp [h1, h3]
      subst hz
      clear HZ h3
      go_wp2
      go_ret
      exact ⟨by rfl, rfl⟩

/-- A word whose first byte is as f says. -/
def wordS (f : Int → Bool) (s : ByteArray) : Bool := decide (1 ≤ s.size) && decide (s.size ≤ 64) && f (((s.toList).headD 0).toNat : Int) && tailB s 1

theorem wordZ_eq (x : Int) : wordZ x = (lowZ x || bigZ x || (decide (48 ≤ x) && decide (x ≤ 57))) := by
  unfold wordZ bigZ digZ
  cases lowZ x <;> cases uppZ x <;> cases decide (x = 95) <;> simp
theorem bytes_cell (w : World) (s : ByteArray) (cap : Nat) (fr : Nat × Nat) (j : Nat) (h : j + 1 < s.size) :
    (w.alloc (.cells (bytesRow (s.extract 1 s.size) cap) 5 fr)).drew.cell? ⟨w.heap.size, j, none⟩ = some (.int .u8 ((s[j + 1]).toNat : Int)) := by
  have hb : (w.alloc (.cells (bytesRow (s.extract 1 s.size) cap) 5 fr)).drew.heap[w.heap.size]? = some (.cells (bytesRow (s.extract 1 s.size) cap) 5 fr) := heap_alloc_new w _
  rw [Lib.cell_of_heap hb, bytesRow]
  have hl : j < (s.extract 1 s.size).data.size := by
    have : (s.extract 1 s.size).data.size = s.size - 1 := by simp
    omega
  rw [Array.getElem?_append_left (by simpa using hl), Array.getElem?_map, Array.getElem?_eq_getElem hl]
  simp [Nat.add_comm]
  rfl

set_option maxRecDepth 20000 in
set_option maxHeartbeats 4000000 in
theorem word_small (s : ByteArray) (hb : s.size ≤ 9223372036854775807) (w : World) :
    Calls Tryd.prog 100 #[.string s, .func (.func 101) #[] #[]] w fun e w' => e = .returned (.bool (wordS lowZ s)) ∧ Below w.heap.size w w' := by
  have HV : Hid (wordS lowZ s = (decide (1 ≤ s.size) && decide (s.size ≤ 64) && lowZ (((s.toList).headD 0).toNat : Int) && tailB s 1)) := Lib.hid rfl
  generalize wordS lowZ s = v at *
  go_enter Tryd.func100, Tryd.ntmps100
  by_cases h1 : 1 ≤ s.size
  · have h0 : (s.toList == []) = false := by
      have : s.toList ≠ [] := fun h => by have h2 := toList_size s; rw [h] at h2; simp only [List.length_nil] at h2; omega
      simpa using this
    by_cases h2 : s.size ≤ 64
    · have HV2 : Hid (v = (lowZ ((s[0]).toNat : Int) && tailB s 1)) := Lib.hid (by rw [HV.out, head_at s (by omega)]; simp [h1, h2])
      have kl := small_sym ((s[0]).toNat : Int) w
      clear HV
      generalize lowZ _ = l at *
      cases l with
      | false =>
        have hz : v = false := by rw [HV2.out]; simp
        subst hz
        clear HV2
        go_wp2_with fail
        refine kl.mono ?_
        rintro e w1 ⟨rfl, rfl⟩
        go_wp2
        go_ret
        exact ⟨by rfl, Below.refl _ _⟩
      | true =>
        have hz : v = tailB s 1 := by rw [HV2.out]; simp
        have HV := Lib.hid hz
        clear HV2 hz
        go_wp2_with fail
        refine kl.mono ?_
        rintro e w1 ⟨rfl, rfl⟩
        have hcv := fun w => run_bytes_of_string (P := Tryd.prog) w 9 57 5 (s.extract 1 s.size) Tryd.underlying9 Tryd.underlying57 Tryd.underlying5
        have hsz : (s.extract 1 s.size).size = s.size - 1 := by simp
        have hcell : ∀ (cap : Nat) (fr : Nat × Nat) (j : Nat) (h : j + 1 < s.size), (w1.alloc (.cells (bytesRow (s.extract 1 s.size) cap) 5 fr)).drew.cell? ⟨w1.heap.size, j, none⟩ = some (.int .u8 ((s[j + 1]).toNat : Int)) := fun cap fr j h => bytes_cell w1 s cap fr j h
        rw [hsz] at hcv
        go_upto_region 4 with (fail)
        have HC := Lib.hid (hcell (grownCap w1 (s.size - 1) 0 5) ((bytesRow (s.extract 1 s.size) (grownCap w1 (s.size - 1) 0 5)).size, (bytesRow (s.extract 1 s.size) (grownCap w1 (s.size - 1) 0 5)).size + 1))
        have HB := Lib.hid (((Below.refl w1.heap.size w1).alloc (Nat.le_refl _) (.cells (bytesRow (s.extract 1 s.size) (grownCap w1 (s.size - 1) 0 5)) 5 ((bytesRow (s.extract 1 s.size) (grownCap w1 (s.size - 1) 0 5)).size, (bytesRow (s.extract 1 s.size) (grownCap w1 (s.size - 1) 0 5)).size + 1))).drew)
        clear hcell hcv kl
        generalize grownCap w1 (s.size - 1) 0 5 = cap at *
        generalize World.drew _ = w2 at *
        generalize hR : w1.heap.size = R at *
        have HRR := Lib.hid hR
        clear hR
        go_loopg [25] (s.size - 1) (fun gk u25 wr => ∃ k : Nat, u25 = .int .i64 k ∧ k ≤ s.size - 1 ∧ Hid (gk = s.size - 1 - k) ∧ wr = w2 ∧ Hid (tailB s (k + 1) = v))
        case atStart => exact ⟨0, rfl, Nat.zero_le _, Lib.hid (by omega), rfl, Lib.hid HV.out.symm⟩
        case round =>
          obtain ⟨k, rfl, hk, HG, rfl, HT⟩ := hrel
          by_cases hlt : k < s.size - 1
          · have HS := Lib.hid (tailB_step s (k + 1) (by omega))
            have c0 := HC.out k (by omega)
            have kl := small_sym ((s[k + 1]).toNat : Int) wr
            have ku := big_sym ((s[k + 1]).toNat : Int) wr
            have HW : Hid (wordZ ((s[k + 1]).toNat : Int) = (lowZ ((s[k + 1]).toNat : Int) || bigZ ((s[k + 1]).toNat : Int) || (decide (48 ≤ ((s[k + 1]).toNat : Int)) && decide (((s[k + 1]).toNat : Int) ≤ 57)))) := Lib.hid (wordZ_eq _)
            generalize hx : ((s[k + 1]).toNat : Int) = x at *
            clear hx
            generalize lowZ _ = l at *
            generalize bigZ _ = u at *
            generalize wordZ x = z at *
            have HS2 : Hid (v = (z && tailB s (k + 1 + 1))) := Lib.hid (by rw [← HS.out, HT.out])
            clear HS HT
            cases l with
            | true =>
              have HN : Hid (tailB s (k + 1 + 1) = v) := Lib.hid (by rw [HS2.out, HW.out]; simp)
              clear HS2 HW ku
              go_wp2_with fail
              refine kl.mono ?_
              rintro e w1 ⟨rfl, rfl⟩
              go_wp2
              go_roundg (s.size - 1 - (k + 1))
              case measure => have := HG.out; omega
              case rel => exact ⟨k + 1, by go_num, by omega, Lib.hid rfl, rfl, HN⟩
            | false =>
            cases u with
            | true =>
              have HN : Hid (tailB s (k + 1 + 1) = v) := Lib.hid (by rw [HS2.out, HW.out]; simp)
              clear HS2 HW
              go_wp2_with fail
              refine kl.mono ?_
              rintro e w1 ⟨rfl, rfl⟩
              go_wp2_with fail
              refine ku.mono ?_
              rintro e w1 ⟨rfl, rfl⟩
              go_wp2
              go_roundg (s.size - 1 - (k + 1))
              case measure => have := HG.out; omega
              case rel => exact ⟨k + 1, by go_num, by omega, Lib.hid rfl, rfl, HN⟩
            | false =>
              by_cases h48 : 48 ≤ x
              · by_cases h57 : x ≤ 57
                · have HN : Hid (tailB s (k + 1 + 1) = v) := Lib.hid (by rw [HS2.out, HW.out]; simp [h48, h57])
                  clear HS2 HW
                  go_wp2_with fail
                  refine kl.mono ?_
                  rintro e w1 ⟨rfl, rfl⟩
                  go_wp2_with fail
                  refine ku.mono ?_
                  rintro e w1 ⟨rfl, rfl⟩
                  go_wp2
                  go_roundg (s.size - 1 - (k + 1))
                  case measure => have := HG.out; omega
                  case rel => exact ⟨k + 1, by go_num, by omega, Lib.hid rfl, rfl, HN⟩
                · have hz : v = false := by rw [HS2.out, HW.out]; simp [h57]
                  subst hz
                  clear HS2 HW
                  go_wp2_with fail
                  refine kl.mono ?_
                  rintro e w1 ⟨rfl, rfl⟩
                  go_wp2_with fail
                  refine ku.mono ?_
                  rintro e w1 ⟨rfl, rfl⟩
                  go_wp2
                  go_ret
                  exact ⟨by rfl, by rw [HRR.out]; exact HB.out⟩
              · have hz : v = false := by rw [HS2.out, HW.out]; simp [h48]
                subst hz
                clear HS2 HW
                go_wp2_with fail
                refine kl.mono ?_
                rintro e w1 ⟨rfl, rfl⟩
                go_wp2_with fail
                refine ku.mono ?_
                rintro e w1 ⟨rfl, rfl⟩
                go_wp2
                go_ret
                exact ⟨by rfl, by rw [HRR.out]; exact HB.out⟩
          · have hz : v = true := by rw [← HT.out]; exact tailB_end s (k + 1) (by omega)
            subst hz
            go_wp2
            go_ret
            exact ⟨by rfl, by rw [HRR.out]; exact HB.out⟩
    · have hz : v = false := by rw [HV.out]; simp [h2]
      subst hz
      clear HV
      go_wp2
      go_ret
      exact ⟨by rfl, Below.refl _ _⟩
  · have h0 : (s.toList == []) = true := by
      have : s.toList.length = 0 := by rw [← toList_size]; omega
      simpa using List.eq_nil_of_length_eq_zero this
    have hz : v = false := by rw [HV.out]; simp [h1]
    subst hz
    clear HV
    go_wp2
    go_ret
    exact ⟨by rfl, Below.refl _ _⟩
set_option maxRecDepth 20000 in
set_option maxHeartbeats 4000000 in
theorem word_big (s : ByteArray) (hb : s.size ≤ 9223372036854775807) (w : World) :
    Calls Tryd.prog 100 #[.string s, .func (.func 117) #[] #[]] w fun e w' => e = .returned (.bool (wordS bigZ s)) ∧ Below w.heap.size w w' := by
  have HV : Hid (wordS bigZ s = (decide (1 ≤ s.size) && decide (s.size ≤ 64) && bigZ (((s.toList).headD 0).toNat : Int) && tailB s 1)) := Lib.hid rfl
  generalize wordS bigZ s = v at *
  go_enter Tryd.func100, Tryd.ntmps100
  by_cases h1 : 1 ≤ s.size
  · have h0 : (s.toList == []) = false := by
      have : s.toList ≠ [] := fun h => by have h2 := toList_size s; rw [h] at h2; simp only [List.length_nil] at h2; omega
      simpa using this
    by_cases h2 : s.size ≤ 64
    · have HV2 : Hid (v = (bigZ ((s[0]).toNat : Int) && tailB s 1)) := Lib.hid (by rw [HV.out, head_at s (by omega)]; simp [h1, h2])
      have kl := big_sym ((s[0]).toNat : Int) w
      clear HV
      generalize bigZ _ = l at *
      cases l with
      | false =>
        have hz : v = false := by rw [HV2.out]; simp
        subst hz
        clear HV2
        go_wp2_with fail
        refine kl.mono ?_
        rintro e w1 ⟨rfl, rfl⟩
        go_wp2
        go_ret
        exact ⟨by rfl, Below.refl _ _⟩
      | true =>
        have hz : v = tailB s 1 := by rw [HV2.out]; simp
        have HV := Lib.hid hz
        clear HV2 hz
        go_wp2_with fail
        refine kl.mono ?_
        rintro e w1 ⟨rfl, rfl⟩
        have hcv := fun w => run_bytes_of_string (P := Tryd.prog) w 9 57 5 (s.extract 1 s.size) Tryd.underlying9 Tryd.underlying57 Tryd.underlying5
        have hsz : (s.extract 1 s.size).size = s.size - 1 := by simp
        have hcell : ∀ (cap : Nat) (fr : Nat × Nat) (j : Nat) (h : j + 1 < s.size), (w1.alloc (.cells (bytesRow (s.extract 1 s.size) cap) 5 fr)).drew.cell? ⟨w1.heap.size, j, none⟩ = some (.int .u8 ((s[j + 1]).toNat : Int)) := fun cap fr j h => bytes_cell w1 s cap fr j h
        rw [hsz] at hcv
        go_upto_region 4 with (fail)
        have HC := Lib.hid (hcell (grownCap w1 (s.size - 1) 0 5) ((bytesRow (s.extract 1 s.size) (grownCap w1 (s.size - 1) 0 5)).size, (bytesRow (s.extract 1 s.size) (grownCap w1 (s.size - 1) 0 5)).size + 1))
        have HB := Lib.hid (((Below.refl w1.heap.size w1).alloc (Nat.le_refl _) (.cells (bytesRow (s.extract 1 s.size) (grownCap w1 (s.size - 1) 0 5)) 5 ((bytesRow (s.extract 1 s.size) (grownCap w1 (s.size - 1) 0 5)).size, (bytesRow (s.extract 1 s.size) (grownCap w1 (s.size - 1) 0 5)).size + 1))).drew)
        clear hcell hcv kl
        generalize grownCap w1 (s.size - 1) 0 5 = cap at *
        generalize World.drew _ = w2 at *
        generalize hR : w1.heap.size = R at *
        have HRR := Lib.hid hR
        clear hR
        go_loopg [25] (s.size - 1) (fun gk u25 wr => ∃ k : Nat, u25 = .int .i64 k ∧ k ≤ s.size - 1 ∧ Hid (gk = s.size - 1 - k) ∧ wr = w2 ∧ Hid (tailB s (k + 1) = v))
        case atStart => exact ⟨0, rfl, Nat.zero_le _, Lib.hid (by omega), rfl, Lib.hid HV.out.symm⟩
        case round =>
          obtain ⟨k, rfl, hk, HG, rfl, HT⟩ := hrel
          by_cases hlt : k < s.size - 1
          · have HS := Lib.hid (tailB_step s (k + 1) (by omega))
            have c0 := HC.out k (by omega)
            have kl := small_sym ((s[k + 1]).toNat : Int) wr
            have ku := big_sym ((s[k + 1]).toNat : Int) wr
            have HW : Hid (wordZ ((s[k + 1]).toNat : Int) = (lowZ ((s[k + 1]).toNat : Int) || bigZ ((s[k + 1]).toNat : Int) || (decide (48 ≤ ((s[k + 1]).toNat : Int)) && decide (((s[k + 1]).toNat : Int) ≤ 57)))) := Lib.hid (wordZ_eq _)
            generalize hx : ((s[k + 1]).toNat : Int) = x at *
            clear hx
            generalize lowZ _ = l at *
            generalize bigZ _ = u at *
            generalize wordZ x = z at *
            have HS2 : Hid (v = (z && tailB s (k + 1 + 1))) := Lib.hid (by rw [← HS.out, HT.out])
            clear HS HT
            cases l with
            | true =>
              have HN : Hid (tailB s (k + 1 + 1) = v) := Lib.hid (by rw [HS2.out, HW.out]; simp)
              clear HS2 HW ku
              go_wp2_with fail
              refine kl.mono ?_
              rintro e w1 ⟨rfl, rfl⟩
              go_wp2
              go_roundg (s.size - 1 - (k + 1))
              case measure => have := HG.out; omega
              case rel => exact ⟨k + 1, by go_num, by omega, Lib.hid rfl, rfl, HN⟩
            | false =>
            cases u with
            | true =>
              have HN : Hid (tailB s (k + 1 + 1) = v) := Lib.hid (by rw [HS2.out, HW.out]; simp)
              clear HS2 HW
              go_wp2_with fail
              refine kl.mono ?_
              rintro e w1 ⟨rfl, rfl⟩
              go_wp2_with fail
              refine ku.mono ?_
              rintro e w1 ⟨rfl, rfl⟩
              go_wp2
              go_roundg (s.size - 1 - (k + 1))
              case measure => have := HG.out; omega
              case rel => exact ⟨k + 1, by go_num, by omega, Lib.hid rfl, rfl, HN⟩
            | false =>
              by_cases h48 : 48 ≤ x
              · by_cases h57 : x ≤ 57
                · have HN : Hid (tailB s (k + 1 + 1) = v) := Lib.hid (by rw [HS2.out, HW.out]; simp [h48, h57])
                  clear HS2 HW
                  go_wp2_with fail
                  refine kl.mono ?_
                  rintro e w1 ⟨rfl, rfl⟩
                  go_wp2_with fail
                  refine ku.mono ?_
                  rintro e w1 ⟨rfl, rfl⟩
                  go_wp2
                  go_roundg (s.size - 1 - (k + 1))
                  case measure => have := HG.out; omega
                  case rel => exact ⟨k + 1, by go_num, by omega, Lib.hid rfl, rfl, HN⟩
                · have hz : v = false := by rw [HS2.out, HW.out]; simp [h57]
                  subst hz
                  clear HS2 HW
                  go_wp2_with fail
                  refine kl.mono ?_
                  rintro e w1 ⟨rfl, rfl⟩
                  go_wp2_with fail
                  refine ku.mono ?_
                  rintro e w1 ⟨rfl, rfl⟩
                  go_wp2
                  go_ret
                  exact ⟨by rfl, by rw [HRR.out]; exact HB.out⟩
              · have hz : v = false := by rw [HS2.out, HW.out]; simp [h48]
                subst hz
                clear HS2 HW
                go_wp2_with fail
                refine kl.mono ?_
                rintro e w1 ⟨rfl, rfl⟩
                go_wp2_with fail
                refine ku.mono ?_
                rintro e w1 ⟨rfl, rfl⟩
                go_wp2
                go_ret
                exact ⟨by rfl, by rw [HRR.out]; exact HB.out⟩
          · have hz : v = true := by rw [← HT.out]; exact tailB_end s (k + 1) (by omega)
            subst hz
            go_wp2
            go_ret
            exact ⟨by rfl, by rw [HRR.out]; exact HB.out⟩
    · have hz : v = false := by rw [HV.out]; simp [h2]
      subst hz
      clear HV
      go_wp2
      go_ret
      exact ⟨by rfl, Below.refl _ _⟩
  · have h0 : (s.toList == []) = true := by
      have : s.toList.length = 0 := by rw [← toList_size]; omega
      simpa using List.eq_nil_of_length_eq_zero this
    have hz : v = false := by rw [HV.out]; simp [h1]
    subst hz
    clear HV
    go_wp2
    go_ret
    exact ⟨by rfl, Below.refl _ _⟩
end Go.Proofs.YtjcgkplphiedjaaDoorT

namespace Go.Proofs.YtjcgkplphiedjaaDoorT
open Go.RowKit

set_option maxHeartbeats 1000000 in
theorem isName_sym (s : ByteArray) (hb : s.size ≤ 9223372036854775807) (w : World) : Calls Tryd.prog 81 #[.string s] w fun e w' => e = .returned (.bool (isNameS s)) ∧ Below w.heap.size w w' := by
  have kw := word_small s hb w
  have HV : Hid (isNameS s = (!(s.toList == notS) && wordS lowZ s)) := Lib.hid (by
    unfold isNameS wordS
    cases decide (1 ≤ s.size) <;> cases decide (s.size ≤ 64) <;> cases (s.toList == notS) <;> simp)
  generalize isNameS s = v at *
  generalize wordS lowZ s = u at *
  go_enter Tryd.func81, Tryd.ntmps81
  cases h3 : s.toList == notS with
  | true =>
    have hz : v = false := by rw [HV.out, h3]; simp
    have t1 : (s.toList != [110, 111, 116]) = false := by
      have : (s.toList == [110, 111, 116]) = true := h3
      simp only [bne, this]; rfl
    have t2 : (s.toList == [110, 111, 116]) = true := h3
    subst hz
    clear HV h3 kw
    go_wp2
    go_ret
    exact ⟨by rfl, Below.refl _ _⟩
  | false =>
    have hz : v = u := by rw [HV.out, h3]; simp
    have t1 : (s.toList != [110, 111, 116]) = true := by
      have : (s.toList == [110, 111, 116]) = false := h3
      simp only [bne, this]; rfl
    have t2 : (s.toList == [110, 111, 116]) = false := h3
    subst hz
    clear HV h3
    go_wp2_with fail
    refine kw.mono ?_
    rintro e w1 ⟨rfl, hb1⟩
    go_wp2
    go_ret
    exact ⟨by rfl, hb1⟩

/-- A constant's three cells, and whether it is valid. -/
def validC (k i : Int) (t : ByteArray) : Bool :=
  if k = 1 then t.toList == [] else if k = 2 then decide (i = 0) && isNameS t else if k = 3 then decide (i = 0) && decide (t.size ≤ 255) else false

set_option maxHeartbeats 4000000 in
theorem valid_ref (k i : Int) (t : ByteArray) (hb : t.size ≤ 9223372036854775807) (w : World) :
    Calls Tryd.prog 52 #[.agg #[.int .i64 k, .int .i64 i, .string t]] w fun e w' => e = .returned (.bool (validC k i t)) ∧ Below w.heap.size w w' := by
  have HV : Hid (validC k i t = if k = 1 then t.toList == [] else if k = 2 then decide (i = 0) && isNameS t else if k = 3 then decide (i = 0) && decide (t.size ≤ 255) else false) := Lib.hid rfl
  have kn := fun W => isName_ref t hb W
  generalize validC k i t = v at *
  generalize isNameS t = u at *
  go_enter Tryd.func52, Tryd.ntmps52
  go_upto_region 1 with (fail)
  have hb1 := (Below.refl w.heap.size w).alloc (Nat.le_refl _) (.cells #[.int .i64 k, .int .i64 i, .string t] 68)
  have h1 := Blk.new w 68 [.int .i64 k, .int .i64 i, .string t]
  generalize World.alloc _ _ = w1 at *
  have hs1 := hb1.size
  generalize hR : w.heap.size = R at *
  have HRR := Lib.hid hR
  clear hR
  have HB1 := Lib.hid hb1
  have f0 := h1.cell 0
  have f1 := h1.cell 1
  have f2 := h1.cell 2
  simp only [List.getElem?_cons_zero, List.getElem?_cons_succ] at f0 f1 f2
  clear h1 hb1
  by_cases k1 : k = 1
  · have HZ := Lib.hid (HV.out.trans (if_pos k1))
    subst k1
    clear HV
    generalize hq : (t.toList == []) = q at *
    subst HZ
    go_wp2
    go_ret
    exact ⟨by rfl, by rw [HRR.out]; exact HB1.out⟩
  replace HV := Lib.hid (HV.out.trans (if_neg k1))
  by_cases k2 : k = 2
  · have HZ := Lib.hid (HV.out.trans (if_pos k2))
    subst k2
    clear HV
    by_cases hi : i = 0
    · have hz : v = u := by rw [HZ.out, decide_eq_true hi]; simp
      subst hz
      subst hi
      clear HZ
      go_wp2_with fail
      refine (kn w1).mono ?_
      rintro e w2 ⟨rfl, hb2⟩
      go_wp2
      go_ret
      exact ⟨by rfl, by rw [HRR.out]; exact HB1.out⟩
    · have hz : v = false := by rw [HZ.out, decide_eq_false hi]; simp
      have t1 : (i == 0) = false := by simpa using hi
      subst hz
      clear HZ hi
      go_wp2
      go_ret
      exact ⟨by rfl, by rw [HRR.out]; exact HB1.out⟩
  replace HV := Lib.hid (HV.out.trans (if_neg k2))
  by_cases k3 : k = 3
  · have HZ := Lib.hid (HV.out.trans (if_pos k3))
    subst k3
    clear HV
    by_cases hi : i = 0
    · subst hi
      by_cases hl : t.size ≤ 255
      · have hz : v = true := by rw [HZ.out]; simp [hl]
        have t1 : decide ((t.size : Int) ≤ 255) = true := decide_eq_true (by omega)
        subst hz
        clear HZ hl
        go_wp2
        go_ret
        exact ⟨by rfl, by rw [HRR.out]; exact HB1.out⟩
      · have hz : v = false := by rw [HZ.out]; simp [hl]
        have t1 : decide ((t.size : Int) ≤ 255) = false := decide_eq_false (by omega)
        subst hz
        clear HZ hl
        go_wp2
        go_ret
        exact ⟨by rfl, by rw [HRR.out]; exact HB1.out⟩
    · have hz : v = false := by rw [HZ.out, decide_eq_false hi]; simp
      have t1 : (i == 0) = false := by simpa using hi
      subst hz
      clear HZ hi
      go_wp2
      go_ret
      exact ⟨by rfl, by rw [HRR.out]; exact HB1.out⟩
  replace HV := Lib.hid (HV.out.trans (if_neg k3))
  have hz : v = false := HV.out
  subst hz
  go_wp2
  go_ret
  exact ⟨by rfl, by rw [HRR.out]; exact HB1.out⟩

set_option maxHeartbeats 4000000 in
theorem valid_sym (k i : Int) (t : ByteArray) (hb : t.size ≤ 9223372036854775807) (w : World) :
    Calls Tryd.prog 57 #[.agg #[.int .i64 k, .int .i64 i, .string t]] w fun e w' => e = .returned (.bool (validC k i t)) ∧ Below w.heap.size w w' := by
  have HV : Hid (validC k i t = if k = 1 then t.toList == [] else if k = 2 then decide (i = 0) && isNameS t else if k = 3 then decide (i = 0) && decide (t.size ≤ 255) else false) := Lib.hid rfl
  have kn := fun W => isName_sym t hb W
  generalize validC k i t = v at *
  generalize isNameS t = u at *
  go_enter Tryd.func57, Tryd.ntmps57
  go_upto_region 1 with (fail)
  have hb1 := (Below.refl w.heap.size w).alloc (Nat.le_refl _) (.cells #[.int .i64 k, .int .i64 i, .string t] 68)
  have h1 := Blk.new w 68 [.int .i64 k, .int .i64 i, .string t]
  generalize World.alloc _ _ = w1 at *
  have hs1 := hb1.size
  generalize hR : w.heap.size = R at *
  have HRR := Lib.hid hR
  clear hR
  have HB1 := Lib.hid hb1
  have f0 := h1.cell 0
  have f1 := h1.cell 1
  have f2 := h1.cell 2
  simp only [List.getElem?_cons_zero, List.getElem?_cons_succ] at f0 f1 f2
  clear h1 hb1
  by_cases k1 : k = 1
  · have HZ := Lib.hid (HV.out.trans (if_pos k1))
    subst k1
    clear HV
    generalize hq : (t.toList == []) = q at *
    subst HZ
    go_wp2
    go_ret
    exact ⟨by rfl, by rw [HRR.out]; exact HB1.out⟩
  replace HV := Lib.hid (HV.out.trans (if_neg k1))
  by_cases k2 : k = 2
  · have HZ := Lib.hid (HV.out.trans (if_pos k2))
    subst k2
    clear HV
    by_cases hi : i = 0
    · have hz : v = u := by rw [HZ.out, decide_eq_true hi]; simp
      subst hz
      subst hi
      clear HZ
      go_wp2_with fail
      refine (kn w1).mono ?_
      rintro e w2 ⟨rfl, hb2⟩
      go_wp2
      go_ret
      exact ⟨by rfl, by rw [HRR.out]; exact HB1.out.trans (hb2.mono hs1)⟩
    · have hz : v = false := by rw [HZ.out, decide_eq_false hi]; simp
      have t1 : (i == 0) = false := by simpa using hi
      subst hz
      clear HZ hi
      go_wp2
      go_ret
      exact ⟨by rfl, by rw [HRR.out]; exact HB1.out⟩
  replace HV := Lib.hid (HV.out.trans (if_neg k2))
  by_cases k3 : k = 3
  · have HZ := Lib.hid (HV.out.trans (if_pos k3))
    subst k3
    clear HV
    by_cases hi : i = 0
    · subst hi
      by_cases hl : t.size ≤ 255
      · have hz : v = true := by rw [HZ.out]; simp [hl]
        have t1 : decide ((t.size : Int) ≤ 255) = true := decide_eq_true (by omega)
        subst hz
        clear HZ hl
        go_wp2
        go_ret
        exact ⟨by rfl, by rw [HRR.out]; exact HB1.out⟩
      · have hz : v = false := by rw [HZ.out]; simp [hl]
        have t1 : decide ((t.size : Int) ≤ 255) = false := decide_eq_false (by omega)
        subst hz
        clear HZ hl
        go_wp2
        go_ret
        exact ⟨by rfl, by rw [HRR.out]; exact HB1.out⟩
    · have hz : v = false := by rw [HZ.out, decide_eq_false hi]; simp
      have t1 : (i == 0) = false := by simpa using hi
      subst hz
      clear HZ hi
      go_wp2
      go_ret
      exact ⟨by rfl, by rw [HRR.out]; exact HB1.out⟩
  replace HV := Lib.hid (HV.out.trans (if_neg k3))
  have hz : v = false := HV.out
  subst hz
  go_wp2
  go_ret
  exact ⟨by rfl, by rw [HRR.out]; exact HB1.out⟩

end Go.Proofs.YtjcgkplphiedjaaDoorT
