/- The document's decimal numbers. -/
import Derived.Test.YtjcgkplphiedjaaDoorA1
import Derived.Laws.IdiomStrings
import Derived.Laws.Concat
import Derived.Lib.ItoaLen
import Derived.Lib.ItoaNum
namespace Go.Proofs.YtjcgkplphiedjaaDoor
open Go.RowKit

theorem add_plain' (b j : Nat) : (⟨b, 0, none⟩ : Addr).add j = ⟨b, j, none⟩ := by unfold Addr.add; split <;> simp_all

theorem toList_size (a : ByteArray) : a.size = a.toList.length := by
  rw [ByteArray.toList_eq, Array.length_toList]; rfl
theorem toList_append (a b : ByteArray) : (a ++ b).toList = a.toList ++ b.toList := by
  rw [ByteArray.toList_eq, ByteArray.toList_eq, ByteArray.toList_eq, ByteArray.data_append, Array.toList_append]
theorem bytes_eq {b : ByteArray} {l : List UInt8} (h : b.toList = l) : b = ⟨l.toArray⟩ := by
  obtain ⟨d⟩ := b
  rw [ByteArray.toList_eq] at h
  subst h
  simp
theorem list_mk (l : List UInt8) : (⟨l.toArray⟩ : ByteArray).toList = l := by rw [ByteArray.toList_eq]
theorem neg_conv (l : List UInt8) : ((⟨#[45]⟩ : ByteArray) ++ ⟨l.toArray⟩) = ⟨(45 :: l).toArray⟩ := by
  refine (bytes_eq ?_)
  rw [toList_append, list_mk, list_mk]; rfl
theorem digit_conv (d : Nat) (c : UInt8) (hc : c.toNat = 48 + d) (w : World) : (convert 57 9 (.slice (some ⟨w.heap.size, 0, none⟩) 1 1)).run Tryd.prog (w.alloc (.cells #[.int .u8 (48 + (d : Int))] 5)) = .ok (.string ⟨#[c]⟩) (w.alloc (.cells #[.int .u8 (48 + (d : Int))] 5)) := by
  have h := run_convert_bytes_back (P := Tryd.prog) (w.alloc (.cells #[.int .u8 (48 + (d : Int))] 5)) 57 9 5 ⟨w.heap.size, 0, none⟩ 1 [c] Tryd.underlying57 Tryd.underlying5 Tryd.underlying9 (fun j hj => by
    have : j = 0 := by simpa using hj
    subst this
    rw [add_plain', cell_of_row _ w.heap.size 0 _ 5 (0, 0) (heap_alloc_new w _)]
    simp [hc])
  exact h
theorem dec_step (v : Nat) : Lib.decDigits v = (if v < 10 then [] else Lib.decDigits (v / 10)) ++ [UInt8.ofNat (48 + v % 10)] := by
  rw [Lib.decDigits]
  by_cases h : v < 10
  · rw [dif_pos h, if_pos h, Nat.mod_eq_of_lt h]; rfl
  · rw [dif_neg h, if_neg h]

set_option maxRecDepth 20000 in
set_option maxHeartbeats 2000000 in
theorem decimal01_pos (n : Nat) (h1 : n ≤ 9223372036854775807) (w : World) :
    Calls Tryd.prog 53 #[.int .i64 (n : Int)] w fun e w' => e = .returned (.string ⟨(Lib.decDigits n).toArray⟩) ∧ Below w.heap.size w w' := by
  have hlen : (Lib.decDigits n).length ≤ 20 := by rw [Lib.decDigits_length]; exact Lib.nDigits_le20 n (by omega)
  have HLEN := Lib.hid hlen
  clear hlen
  go_enter Tryd.func53, Tryd.ntmps53
  go_wp2
  go_loopg [3, 4] n (fun gk u3 u4 wr => ∃ (v : Nat) (s : ByteArray), u4 = .int .i64 (v : Int) ∧ u3 = .string s ∧ v ≤ n ∧ Hid (gk = v) ∧ Hid (Lib.decDigits n = Lib.decDigits v ++ s.toList) ∧ Hid (Below w.heap.size w wr))
  case atStart => exact ⟨n, ⟨#[]⟩, rfl, rfl, Nat.le_refl _, Lib.hid rfl, Lib.hid (by simp), Lib.hid (Below.refl _ _)⟩
  case round =>
    obtain ⟨v, s, rfl, rfl, hv, HG, HD, HB⟩ := hrel
    have hd : v % 10 < 10 := Nat.mod_lt _ (by omega)
    have hs : s.size ≤ 20 := by
      have := HLEN.out
      rw [HD.out, List.length_append] at this
      rw [toList_size]; omega
    go_upto_region 6 with (fail)
    rw [show ((v : Int) % 10) = ((v % 10 : Nat) : Int) by omega]
    obtain ⟨cc, hcc⟩ : ∃ cc : UInt8, cc = UInt8.ofNat (48 + v % 10) := ⟨_, rfl⟩
    have hcn : cc.toNat = 48 + v % 10 := by rw [hcc]; simp; omega
    have kc := digit_conv (v % 10) cc hcn wr
    have HST : Hid (Lib.decDigits v = (if v < 10 then [] else Lib.decDigits (v / 10)) ++ [cc]) := Lib.hid (by rw [hcc]; exact dec_step v)
    clear hcn hcc
    have HB2 := Lib.hid (HB.out.alloc HB.out.size (.cells #[.int .u8 (48 + ((v % 10 : Nat) : Int))] 5))
    have HDD : Hid (Lib.decDigits n = (if v < 10 then [] else Lib.decDigits (v / 10)) ++ ((⟨#[cc]⟩ : ByteArray) ++ s).toList) := Lib.hid (by
      rw [HD.out, HST.out, toList_append, List.append_assoc]; rw [show (⟨#[cc]⟩ : ByteArray).toList = [cc] from list_mk [_]])
    clear HD HST
    generalize hdd : v % 10 = d at *
    have hdv := Lib.hid hdd
    clear hdd
    by_cases h10 : v < 10
    · have HR : Hid (Lib.decDigits n = ((⟨#[cc]⟩ : ByteArray) ++ s).toList) := Lib.hid (by have := HDD.out; rw [if_pos h10] at this; simpa using this)
      have hq : v / 10 = 0 := by omega
      have t0 : ((((v : Int) / 10) == (0 : Int)) = true) := by simp; omega
      have hb := bytes_eq HR.out.symm
      clear HDD
      go_wp2
      go_ret
      exact ⟨by rfl, HB2.out⟩
    · have HR : Hid (Lib.decDigits n = Lib.decDigits (v / 10) ++ ((⟨#[cc]⟩ : ByteArray) ++ s).toList) := Lib.hid (by have := HDD.out; rw [if_neg h10] at this; exact this)
      have t0 : ((((v : Int) / 10) == (0 : Int)) = false) := by simp; omega
      clear HDD
      go_wp2
      go_roundg (v / 10)
      case measure => have := HG.out; omega
      case rel => exact ⟨v / 10, (⟨#[cc]⟩ : ByteArray) ++ s, by simp, rfl, by omega, Lib.hid rfl, HR, HB2⟩

set_option maxRecDepth 20000 in
set_option maxHeartbeats 2000000 in
theorem decimal01_neg (n : Nat) (h1 : n ≤ 9223372036854775808) (h0 : 0 < n) (w : World) :
    Calls Tryd.prog 53 #[.int .i64 (-(n : Int) : Int)] w fun e w' => e = .returned (.string ⟨(45 :: Lib.decDigits n).toArray⟩) ∧ Below w.heap.size w w' := by
  have hlen : (Lib.decDigits n).length ≤ 20 := by rw [Lib.decDigits_length]; exact Lib.nDigits_le20 n (by omega)
  have HLEN := Lib.hid hlen
  clear hlen
  go_enter Tryd.func53, Tryd.ntmps53
  go_wp2
  go_loopg [3, 4] n (fun gk u3 u4 wr => ∃ (v : Nat) (s : ByteArray), u4 = .int .i64 (-(v : Int) : Int) ∧ u3 = .string s ∧ v ≤ n ∧ Hid (gk = v) ∧ Hid (Lib.decDigits n = Lib.decDigits v ++ s.toList) ∧ Hid (Below w.heap.size w wr))
  case atStart => exact ⟨n, ⟨#[]⟩, rfl, rfl, Nat.le_refl _, Lib.hid rfl, Lib.hid (by simp), Lib.hid (Below.refl _ _)⟩
  case round =>
    obtain ⟨v, s, rfl, rfl, hv, HG, HD, HB⟩ := hrel
    have hd : v % 10 < 10 := Nat.mod_lt _ (by omega)
    have hs : s.size ≤ 20 := by
      have := HLEN.out
      rw [HD.out, List.length_append] at this
      rw [toList_size]; omega
    rcases Nat.eq_zero_or_pos (v % 10) with hz | hz
    · have t1 : decide (-((v : Int) % 10) < 0) = false := by simp; omega
      go_upto_region 6 with (fail)
      rw [show (-((v : Int) % 10)) = ((v % 10 : Nat) : Int) by omega]
      clear t1 hz
      obtain ⟨cc, hcc⟩ : ∃ cc : UInt8, cc = UInt8.ofNat (48 + v % 10) := ⟨_, rfl⟩
      have hcn : cc.toNat = 48 + v % 10 := by rw [hcc]; simp; omega
      have kc := digit_conv (v % 10) cc hcn wr
      have HST : Hid (Lib.decDigits v = (if v < 10 then [] else Lib.decDigits (v / 10)) ++ [cc]) := Lib.hid (by rw [hcc]; exact dec_step v)
      clear hcn hcc
      have HB2 := Lib.hid (HB.out.alloc HB.out.size (.cells #[.int .u8 (48 + ((v % 10 : Nat) : Int))] 5))
      have HDD : Hid (Lib.decDigits n = (if v < 10 then [] else Lib.decDigits (v / 10)) ++ ((⟨#[cc]⟩ : ByteArray) ++ s).toList) := Lib.hid (by
        rw [HD.out, HST.out, toList_append, List.append_assoc]; rw [show (⟨#[cc]⟩ : ByteArray).toList = [cc] from list_mk [_]])
      clear HD HST
      generalize hdd : v % 10 = d at *
      have hdv := Lib.hid hdd
      clear hdd
      by_cases h10 : v < 10
      · have HR : Hid (Lib.decDigits n = ((⟨#[cc]⟩ : ByteArray) ++ s).toList) := Lib.hid (by have := HDD.out; rw [if_pos h10] at this; simpa using this)
        have hq : v / 10 = 0 := by omega
        have t0 : (((-((v : Int) / 10)) == (0 : Int)) = true) := by simp; omega
        have hb := bytes_eq HR.out.symm
        clear HDD
        have hl20 := HLEN.out
        go_wp2
        go_ret
        exact ⟨by rw [← neg_conv]; rfl, HB2.out⟩
      · have HR : Hid (Lib.decDigits n = Lib.decDigits (v / 10) ++ ((⟨#[cc]⟩ : ByteArray) ++ s).toList) := Lib.hid (by have := HDD.out; rw [if_neg h10] at this; exact this)
        have t0 : (((-((v : Int) / 10)) == (0 : Int)) = false) := by simp; omega
        clear HDD
        go_wp2
        go_roundg (v / 10)
        case measure => have := HG.out; omega
        case rel => exact ⟨v / 10, (⟨#[cc]⟩ : ByteArray) ++ s, by simp, rfl, by omega, Lib.hid rfl, HR, HB2⟩
    · have t1 : decide (-((v : Int) % 10) < 0) = true := by simp; omega
      go_upto_region 6 with (fail)
      rw [show ((v : Int) % 10) = ((v % 10 : Nat) : Int) by omega]
      clear t1 hz
      obtain ⟨cc, hcc⟩ : ∃ cc : UInt8, cc = UInt8.ofNat (48 + v % 10) := ⟨_, rfl⟩
      have hcn : cc.toNat = 48 + v % 10 := by rw [hcc]; simp; omega
      have kc := digit_conv (v % 10) cc hcn wr
      have HST : Hid (Lib.decDigits v = (if v < 10 then [] else Lib.decDigits (v / 10)) ++ [cc]) := Lib.hid (by rw [hcc]; exact dec_step v)
      clear hcn hcc
      have HB2 := Lib.hid (HB.out.alloc HB.out.size (.cells #[.int .u8 (48 + ((v % 10 : Nat) : Int))] 5))
      have HDD : Hid (Lib.decDigits n = (if v < 10 then [] else Lib.decDigits (v / 10)) ++ ((⟨#[cc]⟩ : ByteArray) ++ s).toList) := Lib.hid (by
        rw [HD.out, HST.out, toList_append, List.append_assoc]; rw [show (⟨#[cc]⟩ : ByteArray).toList = [cc] from list_mk [_]])
      clear HD HST
      generalize hdd : v % 10 = d at *
      have hdv := Lib.hid hdd
      clear hdd
      by_cases h10 : v < 10
      · have HR : Hid (Lib.decDigits n = ((⟨#[cc]⟩ : ByteArray) ++ s).toList) := Lib.hid (by have := HDD.out; rw [if_pos h10] at this; simpa using this)
        have hq : v / 10 = 0 := by omega
        have t0 : (((-((v : Int) / 10)) == (0 : Int)) = true) := by simp; omega
        have hb := bytes_eq HR.out.symm
        clear HDD
        have hl20 := HLEN.out
        go_wp2
        go_ret
        exact ⟨by rw [← neg_conv]; rfl, HB2.out⟩
      · have HR : Hid (Lib.decDigits n = Lib.decDigits (v / 10) ++ ((⟨#[cc]⟩ : ByteArray) ++ s).toList) := Lib.hid (by have := HDD.out; rw [if_neg h10] at this; exact this)
        have t0 : (((-((v : Int) / 10)) == (0 : Int)) = false) := by simp; omega
        clear HDD
        go_wp2
        go_roundg (v / 10)
        case measure => have := HG.out; omega
        case rel => exact ⟨v / 10, (⟨#[cc]⟩ : ByteArray) ++ s, by simp, rfl, by omega, Lib.hid rfl, HR, HB2⟩
end Go.Proofs.YtjcgkplphiedjaaDoor
