/- Numbers' texts, the document's. | A byte's text, the document's. -/
import Derived.Test.YtjcgkplphiedjaaDoorTG8
import Derived.Test.YtjcgkplphiedjaaDoorTG9
import Derived.Laws.Concat
import Derived.Lib.ItoaLen
import Derived.Lib.ItoaNum
namespace Go.Proofs.YtjcgkplphiedjaaDoorT
open Go.RowKit

theorem list_mk (l : List UInt8) : (⟨l.toArray⟩ : ByteArray).toList = l := by rw [ByteArray.toList_eq]
theorem neg_conv (l : List UInt8) : ((⟨#[45]⟩ : ByteArray) ++ ⟨l.toArray⟩) = ⟨(45 :: l).toArray⟩ := by
  refine (bytes_eq ?_)
  rw [toList_append, list_mk, list_mk]; rfl
theorem digit_conv (d : Nat) (c : UInt8) (hc : c.toNat = 48 + d) (w : World) : (convert 57 9 (.slice (some ⟨w.heap.size, 0, none⟩) 1 1)).run Tryd.prog (w.alloc (.cells #[.int .u8 (48 + (d : Int))] 5)) = .ok (.string ⟨#[c]⟩) (w.alloc (.cells #[.int .u8 (48 + (d : Int))] 5)) := by
  have h := run_convert_bytes_back (P := Tryd.prog) (w.alloc (.cells #[.int .u8 (48 + (d : Int))] 5)) 57 9 5 ⟨w.heap.size, 0, none⟩ 1 [c] Tryd.underlying57 Tryd.underlying5 Tryd.underlying9 (fun j hj => by
    have : j = 0 := by simpa using hj
    subst this
    rw [add_plain', cell_of_row _ w.heap.size 0 _ 5 (0, 0) (heap_alloc_new w _)]
    simp [hc])
  exact h
theorem dec_step (v : Nat) : Lib.decDigits v = (if v < 10 then [] else Lib.decDigits (v / 10)) ++ [UInt8.ofNat (48 + v % 10)] := by
  rw [Lib.decDigits]
  by_cases h : v < 10
  · rw [dif_pos h, if_pos h, Nat.mod_eq_of_lt h]; rfl
  · rw [dif_neg h, if_neg h]

set_option maxRecDepth 20000 in
set_option maxHeartbeats 2000000 in
theorem decimal01_pos (n : Nat) (h1 : n ≤ 9223372036854775807) (w : World) :
    Calls Tryd.prog 53 #[.int .i64 (n : Int)] w fun e w' => e = .returned (.string ⟨(Lib.decDigits n).toArray⟩) ∧ Below w.heap.size w w' := by
  have hlen : (Lib.decDigits n).length ≤ 20 := by rw [Lib.decDigits_length]; exact Lib.nDigits_le20 n (by omega)
  have HLEN := Lib.hid hlen
  clear hlen
  go_enter Tryd.func53, Tryd.ntmps53
  go_wp2
  go_loopg [3, 4] n (fun gk u3 u4 wr => ∃ (v : Nat) (s : ByteArray), u4 = .int .i64 (v : Int) ∧ u3 = .string s ∧ v ≤ n ∧ Hid (gk = v) ∧ Hid (Lib.decDigits n = Lib.decDigits v ++ s.toList) ∧ Hid (Below w.heap.size w wr))
  case atStart => exact ⟨n, ⟨#[]⟩, rfl, rfl, Nat.le_refl _, Lib.hid rfl, Lib.hid (by simp), Lib.hid (Below.refl _ _)⟩
  case round =>
    obtain ⟨v, s, rfl, rfl, hv, HG, HD, HB⟩ := hrel
    have hd : v % 10 < 10 := Nat.mod_lt _ (by omega)
    have hs : s.size ≤ 20 := by
      have := HLEN.out
      rw [HD.out, List.length_append] at this
      rw [toList_size]; omega
    go_upto_region 6 with (fail)
    rw [show ((v : Int) % 10) = ((v % 10 : Nat) : Int) by omega]
    obtain ⟨cc, hcc⟩ : ∃ cc : UInt8, cc = UInt8.ofNat (48 + v % 10) := ⟨_, rfl⟩
    have hcn : cc.toNat = 48 + v % 10 := by rw [hcc]; simp; omega
    have kc := digit_conv (v % 10) cc hcn wr
    have HST : Hid (Lib.decDigits v = (if v < 10 then [] else Lib.decDigits (v / 10)) ++ [cc]) := Lib.hid (by rw [hcc]; exact dec_step v)
    clear hcn hcc
    have HB2 := Lib.hid (HB.out.alloc HB.out.size (.cells #[.int .u8 (48 + ((v % 10 : Nat) : Int))] 5))
    have HDD : Hid (Lib.decDigits n = (if v < 10 then [] else Lib.decDigits (v / 10)) ++ ((⟨#[cc]⟩ : ByteArray) ++ s).toList) := Lib.hid (by
      rw [HD.out, HST.out, toList_append, List.append_assoc]; rw [show (⟨#[cc]⟩ : ByteArray).toList = [cc] from list_mk [_]])
    clear HD HST
    generalize hdd : v % 10 = d at *
    have hdv := Lib.hid hdd
    clear hdd
    by_cases h10 : v < 10
    · have HR : Hid (Lib.decDigits n = ((⟨#[cc]⟩ : ByteArray) ++ s).toList) := Lib.hid (by have := HDD.out; rw [if_pos h10] at this; simpa using this)
      have hq : v / 10 = 0 := by omega
      have t0 : ((((v : Int) / 10) == (0 : Int)) = true) := by simp; omega
      have hb := bytes_eq HR.out.symm
      clear HDD
      go_wp2
      go_ret
      exact ⟨by rfl, HB2.out⟩
    · have HR : Hid (Lib.decDigits n = Lib.decDigits (v / 10) ++ ((⟨#[cc]⟩ : ByteArray) ++ s).toList) := Lib.hid (by have := HDD.out; rw [if_neg h10] at this; exact this)
      have t0 : ((((v : Int) / 10) == (0 : Int)) = false) := by simp; omega
      clear HDD
      go_wp2
      go_roundg (v / 10)
      case measure => have := HG.out; omega
      case rel => exact ⟨v / 10, (⟨#[cc]⟩ : ByteArray) ++ s, by simp, rfl, by omega, Lib.hid rfl, HR, HB2⟩

set_option maxRecDepth 20000 in
set_option maxHeartbeats 2000000 in
theorem decimal01_neg (n : Nat) (h1 : n ≤ 9223372036854775808) (h0 : 0 < n) (w : World) :
    Calls Tryd.prog 53 #[.int .i64 (-(n : Int) : Int)] w fun e w' => e = .returned (.string ⟨(45 :: Lib.decDigits n).toArray⟩) ∧ Below w.heap.size w w' := by
  have hlen : (Lib.decDigits n).length ≤ 20 := by rw [Lib.decDigits_length]; exact Lib.nDigits_le20 n (by omega)
  have HLEN := Lib.hid hlen
  clear hlen
  go_enter Tryd.func53, Tryd.ntmps53
  go_wp2
  go_loopg [3, 4] n (fun gk u3 u4 wr => ∃ (v : Nat) (s : ByteArray), u4 = .int .i64 (-(v : Int) : Int) ∧ u3 = .string s ∧ v ≤ n ∧ Hid (gk = v) ∧ Hid (Lib.decDigits n = Lib.decDigits v ++ s.toList) ∧ Hid (Below w.heap.size w wr))
  case atStart => exact ⟨n, ⟨#[]⟩, rfl, rfl, Nat.le_refl _, Lib.hid rfl, Lib.hid (by simp), Lib.hid (Below.refl _ _)⟩
  case round =>
    obtain ⟨v, s, rfl, rfl, hv, HG, HD, HB⟩ := hrel
    have hd : v % 10 < 10 := Nat.mod_lt _ (by omega)
    have hs : s.size ≤ 20 := by
      have := HLEN.out
      rw [HD.out, List.length_append] at this
      rw [toList_size]; omega
    rcases Nat.eq_zero_or_pos (v % 10) with hz | hz
    · have t1 : decide (-((v : Int) % 10) < 0) = false := by simp; omega
      go_upto_region 6 with (fail)
      rw [show (-((v : Int) % 10)) = ((v % 10 : Nat) : Int) by omega]
      clear t1 hz
      obtain ⟨cc, hcc⟩ : ∃ cc : UInt8, cc = UInt8.ofNat (48 + v % 10) := ⟨_, rfl⟩
      have hcn : cc.toNat = 48 + v % 10 := by rw [hcc]; simp; omega
      have kc := digit_conv (v % 10) cc hcn wr
      have HST : Hid (Lib.decDigits v = (if v < 10 then [] else Lib.decDigits (v / 10)) ++ [cc]) := Lib.hid (by rw [hcc]; exact dec_step v)
      clear hcn hcc
      have HB2 := Lib.hid (HB.out.alloc HB.out.size (.cells #[.int .u8 (48 + ((v % 10 : Nat) : Int))] 5))
      have HDD : Hid (Lib.decDigits n = (if v < 10 then [] else Lib.decDigits (v / 10)) ++ ((⟨#[cc]⟩ : ByteArray) ++ s).toList) := Lib.hid (by
        rw [HD.out, HST.out, toList_append, List.append_assoc]; rw [show (⟨#[cc]⟩ : ByteArray).toList = [cc] from list_mk [_]])
      clear HD HST
      generalize hdd : v % 10 = d at *
      have hdv := Lib.hid hdd
      clear hdd
      by_cases h10 : v < 10
      · have HR : Hid (Lib.decDigits n = ((⟨#[cc]⟩ : ByteArray) ++ s).toList) := Lib.hid (by have := HDD.out; rw [if_pos h10] at this; simpa using this)
        have hq : v / 10 = 0 := by omega
        have t0 : (((-((v : Int) / 10)) == (0 : Int)) = true) := by simp; omega
        have hb := bytes_eq HR.out.symm
        clear HDD
        have hl20 := HLEN.out
        go_wp2
        go_ret
        exact ⟨by rw [← neg_conv]; rfl, HB2.out⟩
      · have HR : Hid (Lib.decDigits n = Lib.decDigits (v / 10) ++ ((⟨#[cc]⟩ : ByteArray) ++ s).toList) := Lib.hid (by have := HDD.out; rw [if_neg h10] at this; exact this)
        have t0 : (((-((v : Int) / 10)) == (0 : Int)) = false) := by simp; omega
        clear HDD
        go_wp2
        go_roundg (v / 10)
        case measure => have := HG.out; omega
        case rel => exact ⟨v / 10, (⟨#[cc]⟩ : ByteArray) ++ s, by simp, rfl, by omega, Lib.hid rfl, HR, HB2⟩
    · have t1 : decide (-((v : Int) % 10) < 0) = true := by simp; omega
      go_upto_region 6 with (fail)
      rw [show ((v : Int) % 10) = ((v % 10 : Nat) : Int) by omega]
      clear t1 hz
      obtain ⟨cc, hcc⟩ : ∃ cc : UInt8, cc = UInt8.ofNat (48 + v % 10) := ⟨_, rfl⟩
      have hcn : cc.toNat = 48 + v % 10 := by rw [hcc]; simp; omega
      have kc := digit_conv (v % 10) cc hcn wr
      have HST : Hid (Lib.decDigits v = (if v < 10 then [] else Lib.decDigits (v / 10)) ++ [cc]) := Lib.hid (by rw [hcc]; exact dec_step v)
      clear hcn hcc
      have HB2 := Lib.hid (HB.out.alloc HB.out.size (.cells #[.int .u8 (48 + ((v % 10 : Nat) : Int))] 5))
      have HDD : Hid (Lib.decDigits n = (if v < 10 then [] else Lib.decDigits (v / 10)) ++ ((⟨#[cc]⟩ : ByteArray) ++ s).toList) := Lib.hid (by
        rw [HD.out, HST.out, toList_append, List.append_assoc]; rw [show (⟨#[cc]⟩ : ByteArray).toList = [cc] from list_mk [_]])
      clear HD HST
      generalize hdd : v % 10 = d at *
      have hdv := Lib.hid hdd
      clear hdd
      by_cases h10 : v < 10
      · have HR : Hid (Lib.decDigits n = ((⟨#[cc]⟩ : ByteArray) ++ s).toList) := Lib.hid (by have := HDD.out; rw [if_pos h10] at this; simpa using this)
        have hq : v / 10 = 0 := by omega
        have t0 : (((-((v : Int) / 10)) == (0 : Int)) = true) := by simp; omega
        have hb := bytes_eq HR.out.symm
        clear HDD
        have hl20 := HLEN.out
        go_wp2
        go_ret
        exact ⟨by rw [← neg_conv]; rfl, HB2.out⟩
      · have HR : Hid (Lib.decDigits n = Lib.decDigits (v / 10) ++ ((⟨#[cc]⟩ : ByteArray) ++ s).toList) := Lib.hid (by have := HDD.out; rw [if_neg h10] at this; exact this)
        have t0 : (((-((v : Int) / 10)) == (0 : Int)) = false) := by simp; omega
        clear HDD
        go_wp2
        go_roundg (v / 10)
        case measure => have := HG.out; omega
        case rel => exact ⟨v / 10, (⟨#[cc]⟩ : ByteArray) ++ s, by simp, rfl, by omega, Lib.hid rfl, HR, HB2⟩

theorem itoa_size (n : Int) (h0 : -9223372036854775808 ≤ n) (h1 : n ≤ 9223372036854775807) : (⟨(Lib.itoa n).toArray⟩ : ByteArray).size ≤ 21 := by
  have := Lib.itoa_length_le n h0 h1
  rw [toList_size, list_mk]; exact this

theorem decimal01_any (n : Int) (h0 : -9223372036854775808 ≤ n) (h1 : n ≤ 9223372036854775807) (w : World) :
    Calls Tryd.prog 53 #[.int .i64 n] w fun e w' => e = .returned (.string ⟨(Lib.itoa n).toArray⟩) ∧ Below w.heap.size w w' := by
  rcases Int.lt_or_le n 0 with h | h
  · obtain ⟨u, rfl⟩ : ∃ u : Nat, n = -(u : Int) := ⟨n.natAbs, by omega⟩
    rw [Lib.itoa_neg u (by omega)]
    exact decimal01_neg u (by omega) (by omega) w
  · obtain ⟨u, rfl⟩ : ∃ u : Nat, n = u := ⟨n.toNat, by omega⟩
    rw [Lib.itoa_nonneg]
    exact decimal01_pos u (by omega) w


end Go.Proofs.YtjcgkplphiedjaaDoorT

namespace Go.Proofs.YtjcgkplphiedjaaDoorT
open Go.RowKit

def hexL : List UInt8 := [48, 49, 50, 51, 52, 53, 54, 55, 56, 57, 97, 98, 99, 100, 101, 102]
def hexD (k : Nat) : UInt8 := hexL.getD k 0
def letterS (b : UInt8) : ByteArray :=
  if b = 34 then ⟨#[92, 34]⟩ else if b = 92 then ⟨#[92, 92]⟩ else if b = 10 then ⟨#[92, 110]⟩ else if b = 9 then ⟨#[92, 116]⟩ else if b = 13 then ⟨#[92, 114]⟩
  else if 32 ≤ b.toNat ∧ b.toNat ≤ 126 then ⟨#[b]⟩ else ⟨#[92, 120, hexD (b.toNat / 16), hexD (b.toNat % 16)]⟩
theorem letterS_size (b : UInt8) : (letterS b).size ≤ 4 := by
  unfold letterS
  repeat' split
  all_goals (show Array.size _ ≤ 4; simp)
theorem byte_is (b : UInt8) (k : Nat) (hk : k < 256) : (((b.toNat : Int)) == (k : Int)) = decide (b = UInt8.ofNat k) := by
  rw [Bool.eq_iff_iff, beq_iff_eq, decide_eq_true_eq]
  constructor
  · intro h
    have h1 : b.toNat = k := by omega
    apply UInt8.toNat_inj.1
    rw [h1]; simp; omega
  · rintro rfl
    simp; omega

theorem bytes_conv (l : List UInt8) (n : Nat) (hn : l.length = n) (w : World) (cs : Array Value) (hcs : cs = (l.map fun c => Value.int .u8 (c.toNat : Int)).toArray) :
    (convert 57 9 (.slice (some ⟨w.heap.size, 0, none⟩) n n)).run Tryd.prog (w.alloc (.cells cs 5)) = .ok (.string ⟨l.toArray⟩) (w.alloc (.cells cs 5)) := by
  subst hn
  have h := run_convert_bytes_back (P := Tryd.prog) (w.alloc (.cells cs 5)) 57 9 5 ⟨w.heap.size, 0, none⟩ l.length l Tryd.underlying57 Tryd.underlying5 Tryd.underlying9 (fun j hj => by
    rw [add_plain', cell_of_row _ w.heap.size j _ 5 (0, 0) (heap_alloc_new w _)]
    subst hcs
    simp [hj])
  exact h

theorem index_hex (q : Nat) (h : q < 16) (w : World) : (Instr.index 9 (.string ⟨#[48, 49, 50, 51, 52, 53, 54, 55, 56, 57, 97, 98, 99, 100, 101, 102]⟩) (.int .u8 (q : Int))).run Tryd.prog w = .ok (.int .u8 ((hexD q).toNat : Int)) w := by
  have hs : (⟨#[48, 49, 50, 51, 52, 53, 54, 55, 56, 57, 97, 98, 99, 100, 101, 102]⟩ : ByteArray).size = 16 := rfl
  rw [run_index_string w 9 _ .u8 (q : Int) Tryd.underlying9, dif_pos ⟨by omega, by rw [hs]; omega⟩]
  have : hexD q = hexL[q]'(by simpa [hexL] using h) := by
    unfold hexD List.getD
    rw [List.getElem?_eq_getElem (by simpa [hexL] using h)]; rfl
  rw [this]
  rfl

theorem bytes_conv_drew (l : List UInt8) (n : Nat) (hn : l.length = n) (w : World) (cs : Array Value) (hcs : cs = (l.map fun c => Value.int .u8 (c.toNat : Int)).toArray) :
    (convert 57 9 (.slice (some ⟨w.heap.size, 0, none⟩) n n)).run Tryd.prog (w.alloc (.cells cs 5)).drew = .ok (.string ⟨l.toArray⟩) (w.alloc (.cells cs 5)).drew := by
  subst hn
  have h := run_convert_bytes_back (P := Tryd.prog) (w.alloc (.cells cs 5)).drew 57 9 5 ⟨w.heap.size, 0, none⟩ l.length l Tryd.underlying57 Tryd.underlying5 Tryd.underlying9 (fun j hj => by
    show (w.alloc (.cells cs 5)).cell? _ = _
    rw [add_plain', cell_of_row _ w.heap.size j _ 5 (0, 0) (heap_alloc_new w _)]
    subst hcs
    simp [hj])
  exact h

set_option maxRecDepth 20000 in
set_option maxHeartbeats 2000000 in
theorem letter_ref (b : UInt8) (w : World) :
    Calls Tryd.prog 54 #[.int .u8 (b.toNat : Int)] w fun e w' => e = .returned (.string (letterS b)) ∧ Below w.heap.size w w' := by
  have hb := b.toNat_lt
  have HV : Hid (letterS b = if b = 34 then ⟨#[92, 34]⟩ else if b = 92 then ⟨#[92, 92]⟩ else if b = 10 then ⟨#[92, 110]⟩ else if b = 9 then ⟨#[92, 116]⟩ else if b = 13 then ⟨#[92, 114]⟩
    else if 32 ≤ b.toNat ∧ b.toNat ≤ 126 then ⟨#[b]⟩ else ⟨#[92, 120, hexD (b.toNat / 16), hexD (b.toNat % 16)]⟩) := Lib.hid rfl
  have e1 : (((b.toNat : Int)) == 34) = decide (b = 34) := byte_is b 34 (by omega)
  have e2 : (((b.toNat : Int)) == 92) = decide (b = 92) := byte_is b 92 (by omega)
  have e3 : (((b.toNat : Int)) == 10) = decide (b = 10) := byte_is b 10 (by omega)
  have e4 : (((b.toNat : Int)) == 9) = decide (b = 9) := byte_is b 9 (by omega)
  have e5 : (((b.toNat : Int)) == 13) = decide (b = 13) := byte_is b 13 (by omega)
  have kc1 := bytes_conv [b] 1 rfl w #[.int .u8 (b.toNat : Int)] rfl
  have kc4 := bytes_conv_drew [92, 120, hexD (b.toNat / 16), hexD (b.toNat % 16)] 4 rfl w #[.int .u8 92, .int .u8 120, .int .u8 ((hexD (b.toNat / 16)).toNat : Int), .int .u8 ((hexD (b.toNat % 16)).toNat : Int)] rfl
  generalize letterS b = v at *
  generalize hn : b.toNat = n at *
  by_cases h1 : b = 34
  · have hz : v = ⟨#[92, 34]⟩ := by rw [HV.out, if_pos h1]
    rw [decide_eq_true h1] at e1
    subst hz
    clear HV e2 e3 e4 e5 kc1 kc4 h1 hn
    go_enter Tryd.func54, Tryd.ntmps54
    go_wp2
    go_ret
    exact ⟨by rfl, Below.refl _ _⟩
  rw [decide_eq_false h1] at e1
  by_cases h2 : b = 92
  · have hz : v = ⟨#[92, 92]⟩ := by rw [HV.out, if_neg h1, if_pos h2]
    rw [decide_eq_true h2] at e2
    subst hz
    clear HV e3 e4 e5 kc1 kc4 h1 h2 hn
    go_enter Tryd.func54, Tryd.ntmps54
    go_wp2
    go_ret
    exact ⟨by rfl, Below.refl _ _⟩
  rw [decide_eq_false h2] at e2
  by_cases h3 : b = 10
  · have hz : v = ⟨#[92, 110]⟩ := by rw [HV.out, if_neg h1, if_neg h2, if_pos h3]
    rw [decide_eq_true h3] at e3
    subst hz
    clear HV e4 e5 kc1 kc4 h1 h2 h3 hn
    go_enter Tryd.func54, Tryd.ntmps54
    go_wp2
    go_ret
    exact ⟨by rfl, Below.refl _ _⟩
  rw [decide_eq_false h3] at e3
  by_cases h4 : b = 9
  · have hz : v = ⟨#[92, 116]⟩ := by rw [HV.out, if_neg h1, if_neg h2, if_neg h3, if_pos h4]
    rw [decide_eq_true h4] at e4
    subst hz
    clear HV e5 kc1 kc4 h1 h2 h3 h4 hn
    go_enter Tryd.func54, Tryd.ntmps54
    go_wp2
    go_ret
    exact ⟨by rfl, Below.refl _ _⟩
  rw [decide_eq_false h4] at e4
  by_cases h5 : b = 13
  · have hz : v = ⟨#[92, 114]⟩ := by rw [HV.out, if_neg h1, if_neg h2, if_neg h3, if_neg h4, if_pos h5]
    rw [decide_eq_true h5] at e5
    subst hz
    clear HV kc1 kc4 h1 h2 h3 h4 h5 hn
    go_enter Tryd.func54, Tryd.ntmps54
    go_wp2
    go_ret
    exact ⟨by rfl, Below.refl _ _⟩
  rw [decide_eq_false h5] at e5
  by_cases h6 : 32 ≤ n ∧ n ≤ 126
  · have hz : v = ⟨#[b]⟩ := by rw [HV.out, if_neg h1, if_neg h2, if_neg h3, if_neg h4, if_neg h5, if_pos h6]
    have t1 : decide ((32 : Int) ≤ (n : Int)) = true := decide_eq_true (by omega)
    have t2 : decide ((n : Int) ≤ 126) = true := decide_eq_true (by omega)
    have HB := Lib.hid ((Below.refl w.heap.size w).alloc (Nat.le_refl _) (.cells #[.int .u8 (n : Int)] 5))
    subst hz
    clear HV kc4 h1 h2 h3 h4 h5 h6 hn
    go_enter Tryd.func54, Tryd.ntmps54
    go_wp2
    go_ret
    exact ⟨by rfl, HB.out⟩
  · have hz : v = ⟨#[92, 120, hexD (n / 16), hexD (n % 16)]⟩ := by rw [HV.out, if_neg h1, if_neg h2, if_neg h3, if_neg h4, if_neg h5, if_neg h6]
    subst hz
    clear HV h1 h2 h3 h4 h5 hn kc1
    obtain ⟨q, hq⟩ : ∃ q, n / 16 = q := ⟨_, rfl⟩
    obtain ⟨r, hr⟩ : ∃ r, n % 16 = r := ⟨_, rfl⟩
    have c1 : (n : Int) / 16 = (q : Int) := by omega
    have c2 : (n : Int) % 16 = (r : Int) := by omega
    rw [hq, hr] at kc4 ⊢
    go_enter Tryd.func54, Tryd.ntmps54
    have HB := Lib.hid ((Below.refl w.heap.size w).alloc (Nat.le_refl _) (.cells #[.int .u8 92, .int .u8 120, .int .u8 ((hexD q).toNat : Int), .int .u8 ((hexD r).toNat : Int)] 5)).drew
    have ki1 := index_hex q (by omega)
    have ki2 := index_hex r (by omega)
    by_cases h7 : 32 ≤ n
    · have t1 : decide ((32 : Int) ≤ (n : Int)) = true := decide_eq_true (by omega)
      have t2 : decide ((n : Int) ≤ 126) = false := decide_eq_false (by omega)
      go_upto_region 14 with (fail)
      obtain ⟨C, hC⟩ : ∃ C : World → Prop, ∀ w, C w := ⟨fun _ => True, fun _ => trivial⟩
      have kn : Nonempty (WC C) := ⟨⟨w, hC w⟩⟩
      refine wp_region_frontN C [0, 1, 2, 3, 4, 5] 3 (fun j => decide (j < 9)) (by kernel_rfl) (fun _ _ d _ _ h => by cases d <;> exact h) (by kernel_rfl) (hC _) ?_
      simp only [List.map_cons, List.map_nil, List.getD_cons_zero, List.getD_cons_succ]
      repeat (go_big_quiet_step (fail))
      refine wpQuiet_nil ?_
      refine wpN_one (i := 6) (by kernel_rfl) rfl ?_
      go_wp2
      refine tailN_normal (hC _) ?_
      refine wpN_one (i := 7) (by kernel_rfl) rfl ?_
      go_wp2
      refine tailN_normal (hC _) ?_
      refine wpN_one (i := 8) (by kernel_rfl) rfl ?_
      go_wp2
      refine tailN_normal (hC _) ?_
      refine wpN_none (by kernel_rfl) ?_
      go_wp2
      go_ret
      exact ⟨by rfl, HB.out⟩
    · have t1 : decide ((32 : Int) ≤ (n : Int)) = false := decide_eq_false (by omega)
      go_upto_region 14 with (fail)
      obtain ⟨C, hC⟩ : ∃ C : World → Prop, ∀ w, C w := ⟨fun _ => True, fun _ => trivial⟩
      have kn : Nonempty (WC C) := ⟨⟨w, hC w⟩⟩
      refine wp_region_frontN C [0, 1, 2, 3, 4, 5] 3 (fun j => decide (j < 9)) (by kernel_rfl) (fun _ _ d _ _ h => by cases d <;> exact h) (by kernel_rfl) (hC _) ?_
      simp only [List.map_cons, List.map_nil, List.getD_cons_zero, List.getD_cons_succ]
      repeat (go_big_quiet_step (fail))
      refine wpQuiet_nil ?_
      refine wpN_one (i := 6) (by kernel_rfl) rfl ?_
      go_wp2
      refine tailN_normal (hC _) ?_
      refine wpN_one (i := 7) (by kernel_rfl) rfl ?_
      go_wp2
      refine tailN_normal (hC _) ?_
      refine wpN_one (i := 8) (by kernel_rfl) rfl ?_
      go_wp2
      refine tailN_normal (hC _) ?_
      refine wpN_none (by kernel_rfl) ?_
      go_wp2
      go_ret
      exact ⟨by rfl, HB.out⟩
end Go.Proofs.YtjcgkplphiedjaaDoorT
