/- Words: names and variables, the document's and the program's. -/
import Derived.Test.YtjcgkplphiedjaaDoorTB1
namespace Go.Proofs.YtjcgkplphiedjaaDoorT
open Go.RowKit

def lowZ (x : Int) : Bool := decide (97 ≤ x) && decide (x ≤ 122)
def uppZ (x : Int) : Bool := decide (65 ≤ x) && decide (x ≤ 90)
def digZ (x : Int) : Bool := decide (48 ≤ x) && decide (x ≤ 57)
def wordZ (x : Int) : Bool := lowZ x || uppZ x || digZ x || decide (x = 95)
def bigZ (x : Int) : Bool := uppZ x || decide (x = 95)

set_option maxHeartbeats 1000000 in
theorem lower_ref (x : Int) (w : World) : Calls Tryd.prog 98 #[.int .u8 x] w fun e w' => e = .returned (.bool (lowZ x)) ∧ w' = w := by
  have HZ : Hid (lowZ x = (decide (97 ≤ x) && decide (x ≤ 122))) := Lib.hid rfl
  generalize lowZ x = z at *
  go_enter Tryd.func98, Tryd.ntmps98
  by_cases h1 : 97 ≤ x
  · by_cases h2 : x ≤ 122
    · have hz : z = true := by rw [HZ.out]; simp [h1, h2]
      subst hz
      clear HZ
      go_wp2
      go_ret
      exact ⟨by rfl, rfl⟩
    · have hz : z = false := by rw [HZ.out]; simp [h2]
      subst hz
      clear HZ
      go_wp2
      go_ret
      exact ⟨by rfl, rfl⟩
  · have hz : z = false := by rw [HZ.out]; simp [h1]
    subst hz
    clear HZ
    go_wp2
    go_ret
    exact ⟨by rfl, rfl⟩

set_option maxHeartbeats 1000000 in
theorem upper_ref (x : Int) (w : World) : Calls Tryd.prog 115 #[.int .u8 x] w fun e w' => e = .returned (.bool (uppZ x)) ∧ w' = w := by
  have HZ : Hid (uppZ x = (decide (65 ≤ x) && decide (x ≤ 90))) := Lib.hid rfl
  generalize uppZ x = z at *
  go_enter Tryd.func115, Tryd.ntmps115
  by_cases h1 : 65 ≤ x
  · by_cases h2 : x ≤ 90
    · have hz : z = true := by rw [HZ.out]; simp [h1, h2]
      subst hz
      clear HZ
      go_wp2
      go_ret
      exact ⟨by rfl, rfl⟩
    · have hz : z = false := by rw [HZ.out]; simp [h2]
      subst hz
      clear HZ
      go_wp2
      go_ret
      exact ⟨by rfl, rfl⟩
  · have hz : z = false := by rw [HZ.out]; simp [h1]
    subst hz
    clear HZ
    go_wp2
    go_ret
    exact ⟨by rfl, rfl⟩

set_option maxHeartbeats 1000000 in
theorem digit_ref (x : Int) (w : World) : Calls Tryd.prog 116 #[.int .u8 x] w fun e w' => e = .returned (.bool (digZ x)) ∧ w' = w := by
  have HZ : Hid (digZ x = (decide (48 ≤ x) && decide (x ≤ 57))) := Lib.hid rfl
  generalize digZ x = z at *
  go_enter Tryd.func116, Tryd.ntmps116
  by_cases h1 : 48 ≤ x
  · by_cases h2 : x ≤ 57
    · have hz : z = true := by rw [HZ.out]; simp [h1, h2]
      subst hz
      clear HZ
      go_wp2
      go_ret
      exact ⟨by rfl, rfl⟩
    · have hz : z = false := by rw [HZ.out]; simp [h2]
      subst hz
      clear HZ
      go_wp2
      go_ret
      exact ⟨by rfl, rfl⟩
  · have hz : z = false := by rw [HZ.out]; simp [h1]
    subst hz
    clear HZ
    go_wp2
    go_ret
    exact ⟨by rfl, rfl⟩

/-- The bytes from k on are letters, digits or _ . -/
def tailB (s : ByteArray) (k : Nat) : Bool := (s.toList.drop k).all fun b => wordZ (b.toNat : Int)
theorem tailB_end (s : ByteArray) (k : Nat) (h : s.size ≤ k) : tailB s k = true := by
  rw [tailB, List.drop_eq_nil_of_le (by rw [← toList_size]; exact h)]; rfl
theorem tailB_step (s : ByteArray) (k : Nat) (h : k < s.size) : tailB s k = (wordZ ((s[k]).toNat : Int) && tailB s (k + 1)) := by
  have hk : k < s.toList.length := by rw [← toList_size]; exact h
  have e : s.toList[k] = s[k] := by
    have : s.toList = s.data.toList := ByteArray.toList_eq s
    simp only [this]; rfl
  rw [tailB, tailB, List.drop_eq_getElem_cons hk, List.all_cons, e]

set_option maxHeartbeats 4000000 in
theorem tail_ref (s : ByteArray) (hs : s.size ≤ 64) (w : World) : Calls Tryd.prog 99 #[.string s] w fun e w' => e = .returned (.bool (tailB s 1)) ∧ w' = w := by
  have HV : Hid (tailB s 1 = tailB s 1) := Lib.hid rfl
  generalize hv : tailB s 1 = v at *
  replace HV := Lib.hid hv
  clear hv
  go_enter Tryd.func99, Tryd.ntmps99
  go_upto_region 2 with (fail)
  go_loopg [3] s.size (fun gk u3 wr => ∃ k : Nat, u3 = .int .i64 k ∧ k ≤ 64 + 1 ∧ Hid (gk = s.size + 1 - k) ∧ wr = w ∧ Hid (tailB s k = v))
  case atStart => exact ⟨1, rfl, by omega, Lib.hid (by omega), rfl, HV⟩
  case round =>
    obtain ⟨k, rfl, hk, HG, rfl, HT⟩ := hrel
    by_cases hlt : k < s.size
    · have HS := Lib.hid (tailB_step s k hlt)
      have kl := lower_ref ((s[k]).toNat : Int) wr
      have ku := upper_ref ((s[k]).toNat : Int) wr
      have kd := digit_ref ((s[k]).toNat : Int) wr
      have HW : Hid (wordZ ((s[k]).toNat : Int) = (lowZ ((s[k]).toNat : Int) || uppZ ((s[k]).toNat : Int) || digZ ((s[k]).toNat : Int) || decide (((s[k]).toNat : Int) = 95))) := Lib.hid rfl
      generalize lowZ _ = l at *
      generalize uppZ _ = u at *
      generalize digZ _ = d at *
      cases l with
      | true =>
        have HN : Hid (tailB s (k + 1) = v) := Lib.hid (by have := HS.out; rw [HW.out, HT.out] at this; simpa using this.symm)
        clear HT HS HW ku kd
        go_wp2_with fail
        refine kl.mono ?_
        rintro e w1 ⟨rfl, rfl⟩
        go_wp2
        go_roundg (s.size + 1 - (k + 1))
        case measure => have := HG.out; omega
        case rel => exact ⟨k + 1, by go_num, by omega, Lib.hid rfl, rfl, HN⟩
      | false =>
      cases u with
      | true =>
        have HN : Hid (tailB s (k + 1) = v) := Lib.hid (by have := HS.out; rw [HW.out, HT.out] at this; simpa using this.symm)
        clear HT HS HW kd
        go_wp2_with fail
        refine kl.mono ?_
        rintro e w1 ⟨rfl, rfl⟩
        go_wp2_with fail
        refine ku.mono ?_
        rintro e w1 ⟨rfl, rfl⟩
        go_wp2
        go_roundg (s.size + 1 - (k + 1))
        case measure => have := HG.out; omega
        case rel => exact ⟨k + 1, by go_num, by omega, Lib.hid rfl, rfl, HN⟩
      | false =>
      cases d with
      | true =>
        have HN : Hid (tailB s (k + 1) = v) := Lib.hid (by have := HS.out; rw [HW.out, HT.out] at this; simpa using this.symm)
        clear HT HS HW
        go_wp2_with fail
        refine kl.mono ?_
        rintro e w1 ⟨rfl, rfl⟩
        go_wp2_with fail
        refine ku.mono ?_
        rintro e w1 ⟨rfl, rfl⟩
        go_wp2_with fail
        refine kd.mono ?_
        rintro e w1 ⟨rfl, rfl⟩
        go_wp2
        go_roundg (s.size + 1 - (k + 1))
        case measure => have := HG.out; omega
        case rel => exact ⟨k + 1, by go_num, by omega, Lib.hid rfl, rfl, HN⟩
      | false =>
        by_cases h95 : ((s[k]).toNat : Int) = 95
        · have HN : Hid (tailB s (k + 1) = v) := Lib.hid (by have := HS.out; rw [HW.out, HT.out, h95] at this; simpa using this.symm)
          have t1 : (((s[k]).toNat : Int) != 95) = false := by simpa using h95
          clear HT HS HW h95
          go_wp2_with fail
          refine kl.mono ?_
          rintro e w1 ⟨rfl, rfl⟩
          go_wp2_with fail
          refine ku.mono ?_
          rintro e w1 ⟨rfl, rfl⟩
          go_wp2_with fail
          refine kd.mono ?_
          rintro e w1 ⟨rfl, rfl⟩
          go_wp2
          go_roundg (s.size + 1 - (k + 1))
          case measure => have := HG.out; omega
          case rel => exact ⟨k + 1, by go_num, by omega, Lib.hid rfl, rfl, HN⟩
        · have hz : v = false := by have := HS.out; rw [HW.out, HT.out, decide_eq_false h95] at this; simpa using this
          have t1 : (((s[k]).toNat : Int) != 95) = true := by simpa using h95
          subst hz
          clear HT HS HW h95
          go_wp2_with fail
          refine kl.mono ?_
          rintro e w1 ⟨rfl, rfl⟩
          go_wp2_with fail
          refine ku.mono ?_
          rintro e w1 ⟨rfl, rfl⟩
          go_wp2_with fail
          refine kd.mono ?_
          rintro e w1 ⟨rfl, rfl⟩
          go_wp2
          go_ret
          exact ⟨by rfl, rfl⟩
    · have hz : v = true := by rw [← HT.out]; exact tailB_end s k (by omega)
      subst hz
      go_wp2
      go_ret
      exact ⟨by rfl, rfl⟩

def notS : List UInt8 := [110, 111, 116]
/-- Names and variables. -/
def isNameS (s : ByteArray) : Bool := decide (1 ≤ s.size) && decide (s.size ≤ 64) && !(s.toList == notS) && lowZ (((s.toList).headD 0).toNat : Int) && tailB s 1
def isVarS (s : ByteArray) : Bool := decide (1 ≤ s.size) && decide (s.size ≤ 64) && bigZ (((s.toList).headD 0).toNat : Int) && tailB s 1
theorem head_at (s : ByteArray) (h : 0 < s.size) : (s.toList).headD 0 = s[0] := by
  have hk : 0 < s.toList.length := by rw [← toList_size]; exact h
  have e : s.toList[0] = s[0] := by
    have : s.toList = s.data.toList := ByteArray.toList_eq s
    simp only [this]; rfl
  have g : ∀ (l : List UInt8) (h : 0 < l.length), l.headD 0 = l[0] := fun l h => by
    cases l with
    | nil => simp at h
    | cons a l => rfl
  rw [← e]; exact g _ hk

set_option maxHeartbeats 4000000 in
theorem isName_ref (s : ByteArray) (hb : s.size ≤ 9223372036854775807) (w : World) : Calls Tryd.prog 79 #[.string s] w fun e w' => e = .returned (.bool (isNameS s)) ∧ w' = w := by
  have HV : Hid (isNameS s = (decide (1 ≤ s.size) && decide (s.size ≤ 64) && !(s.toList == notS) && lowZ (((s.toList).headD 0).toNat : Int) && tailB s 1)) := Lib.hid rfl
  generalize isNameS s = v at *
  go_enter Tryd.func79, Tryd.ntmps79
  by_cases h1 : 1 ≤ s.size
  · by_cases h2 : s.size ≤ 64
    · cases h3 : s.toList == notS with
      | true =>
        have hz : v = false := by rw [HV.out, h3]; simp
        subst hz
        have t1 : (s.toList == [110, 111, 116]) = true := h3
        clear HV h3
        go_wp2
        go_ret
        exact ⟨by rfl, rfl⟩
      | false =>
        have t1 : (s.toList == [110, 111, 116]) = false := h3
        have kl := lower_ref ((s[0]).toNat : Int) w
        have kt := tail_ref s h2 w
        have HV2 : Hid (v = (lowZ ((s[0]).toNat : Int) && tailB s 1)) := Lib.hid (by rw [HV.out, h3, head_at s (by omega)]; simp [h1, h2])
        clear HV h3
        generalize lowZ _ = l at *
        generalize tailB _ _ = t at *
        cases l with
        | true =>
          have hz : v = t := by rw [HV2.out]; simp
          subst hz
          clear HV2
          go_wp2_with fail
          refine kl.mono ?_
          rintro e w1 ⟨rfl, rfl⟩
          go_wp2_with fail
          refine kt.mono ?_
          rintro e w1 ⟨rfl, rfl⟩
          go_wp2
          go_ret
          exact ⟨by rfl, rfl⟩
        | false =>
          have hz : v = false := by rw [HV2.out]; simp
          subst hz
          clear HV2
          go_wp2_with fail
          refine kl.mono ?_
          rintro e w1 ⟨rfl, rfl⟩
          go_wp2
          go_ret
          exact ⟨by rfl, rfl⟩
    · have hz : v = false := by rw [HV.out]; simp [h2]
      subst hz
      clear HV
      go_wp2
      go_ret
      exact ⟨by rfl, rfl⟩
  · have hz : v = false := by rw [HV.out]; simp [h1]
    subst hz
    clear HV
    go_wp2
    go_ret
    exact ⟨by rfl, rfl⟩
end Go.Proofs.YtjcgkplphiedjaaDoorT
