/- Numbers' texts, the document's. | A byte's text, the document's. | Constants' and terms' texts, the document's. | Lists' and atoms' texts, the document's. -/
import Derived.Test.YtjcgkplphiedjaaGa
import Derived.Test.YtjcgkplphiedjaaGi
import Derived.Laws.Concat
import Derived.Lib.ItoaLen
import Derived.Lib.ItoaNum
namespace Go.Proofs.Ytjcgkplphiedjaa
open Go.RowKit

theorem list_mk (l : List UInt8) : (⟨l.toArray⟩ : ByteArray).toList = l := by rw [ByteArray.toList_eq]
theorem neg_conv (l : List UInt8) : ((⟨#[45]⟩ : ByteArray) ++ ⟨l.toArray⟩) = ⟨(45 :: l).toArray⟩ := by
  refine (bytes_eq ?_)
  rw [toList_append, list_mk, list_mk]; rfl
theorem digit_conv (d : Nat) (c : UInt8) (hc : c.toNat = 48 + d) (w : World) : (convert 64 9 (.slice (some ⟨w.heap.size, 0, none⟩) 1 1)).run Try.prog (w.alloc (.cells #[.int .u8 (48 + (d : Int))] 5)) = .ok (.string ⟨#[c]⟩) (w.alloc (.cells #[.int .u8 (48 + (d : Int))] 5)) := by
  have h := run_convert_bytes_back (P := Try.prog) (w.alloc (.cells #[.int .u8 (48 + (d : Int))] 5)) 64 9 5 ⟨w.heap.size, 0, none⟩ 1 [c] Try.underlying64 Try.underlying5 Try.underlying9 (fun j hj => by
    have : j = 0 := by simpa using hj
    subst this
    rw [add_plain', cell_of_row _ w.heap.size 0 _ 5 (0, 0) (heap_alloc_new w _)]
    simp [hc])
  exact h
theorem dec_step (v : Nat) : Lib.decDigits v = (if v < 10 then [] else Lib.decDigits (v / 10)) ++ [UInt8.ofNat (48 + v % 10)] := by
  rw [Lib.decDigits]
  by_cases h : v < 10
  · rw [dif_pos h, if_pos h, Nat.mod_eq_of_lt h]; rfl
  · rw [dif_neg h, if_neg h]

set_option maxRecDepth 20000 in
set_option maxHeartbeats 2000000 in
theorem decimal01_pos (n : Nat) (h1 : n ≤ 9223372036854775807) (w : World) :
    Calls Try.prog 126 #[.int .i64 (n : Int)] w fun e w' => e = .returned (.string ⟨(Lib.decDigits n).toArray⟩) ∧ Below w.heap.size w w' := by
  have hlen : (Lib.decDigits n).length ≤ 20 := by rw [Lib.decDigits_length]; exact Lib.nDigits_le20 n (by omega)
  have HLEN := Lib.hid hlen
  clear hlen
  go_enter Try.func126, Try.ntmps126
  go_wp2
  go_loopg [3, 4] n (fun gk u3 u4 wr => ∃ (v : Nat) (s : ByteArray), u4 = .int .i64 (v : Int) ∧ u3 = .string s ∧ v ≤ n ∧ Hid (gk = v) ∧ Hid (Lib.decDigits n = Lib.decDigits v ++ s.toList) ∧ Hid (Below w.heap.size w wr))
  case atStart => exact ⟨n, ⟨#[]⟩, rfl, rfl, Nat.le_refl _, Lib.hid rfl, Lib.hid (by simp), Lib.hid (Below.refl _ _)⟩
  case round =>
    obtain ⟨v, s, rfl, rfl, hv, HG, HD, HB⟩ := hrel
    have hd : v % 10 < 10 := Nat.mod_lt _ (by omega)
    have hs : s.size ≤ 20 := by
      have := HLEN.out
      rw [HD.out, List.length_append] at this
      rw [toList_size]; omega
    go_upto_region 6 with (fail)
    rw [show ((v : Int) % 10) = ((v % 10 : Nat) : Int) by omega]
    obtain ⟨cc, hcc⟩ : ∃ cc : UInt8, cc = UInt8.ofNat (48 + v % 10) := ⟨_, rfl⟩
    have hcn : cc.toNat = 48 + v % 10 := by rw [hcc]; simp; omega
    have kc := digit_conv (v % 10) cc hcn wr
    have HST : Hid (Lib.decDigits v = (if v < 10 then [] else Lib.decDigits (v / 10)) ++ [cc]) := Lib.hid (by rw [hcc]; exact dec_step v)
    clear hcn hcc
    have HB2 := Lib.hid (HB.out.alloc HB.out.size (.cells #[.int .u8 (48 + ((v % 10 : Nat) : Int))] 5))
    have HDD : Hid (Lib.decDigits n = (if v < 10 then [] else Lib.decDigits (v / 10)) ++ ((⟨#[cc]⟩ : ByteArray) ++ s).toList) := Lib.hid (by
      rw [HD.out, HST.out, toList_append, List.append_assoc]; rw [show (⟨#[cc]⟩ : ByteArray).toList = [cc] from list_mk [_]])
    clear HD HST
    generalize hdd : v % 10 = d at *
    have hdv := Lib.hid hdd
    clear hdd
    by_cases h10 : v < 10
    · have HR : Hid (Lib.decDigits n = ((⟨#[cc]⟩ : ByteArray) ++ s).toList) := Lib.hid (by have := HDD.out; rw [if_pos h10] at this; simpa using this)
      have hq : v / 10 = 0 := by omega
      have t0 : ((((v : Int) / 10) == (0 : Int)) = true) := by simp; omega
      have hb := bytes_eq HR.out.symm
      clear HDD
      go_wp2
      go_ret
      exact ⟨by rfl, HB2.out⟩
    · have HR : Hid (Lib.decDigits n = Lib.decDigits (v / 10) ++ ((⟨#[cc]⟩ : ByteArray) ++ s).toList) := Lib.hid (by have := HDD.out; rw [if_neg h10] at this; exact this)
      have t0 : ((((v : Int) / 10) == (0 : Int)) = false) := by simp; omega
      clear HDD
      go_wp2
      go_roundg (v / 10)
      case measure => have := HG.out; omega
      case rel => exact ⟨v / 10, (⟨#[cc]⟩ : ByteArray) ++ s, by simp, rfl, by omega, Lib.hid rfl, HR, HB2⟩

set_option maxRecDepth 20000 in
set_option maxHeartbeats 2000000 in
theorem decimal01_neg (n : Nat) (h1 : n ≤ 9223372036854775808) (h0 : 0 < n) (w : World) :
    Calls Try.prog 126 #[.int .i64 (-(n : Int) : Int)] w fun e w' => e = .returned (.string ⟨(45 :: Lib.decDigits n).toArray⟩) ∧ Below w.heap.size w w' := by
  have hlen : (Lib.decDigits n).length ≤ 20 := by rw [Lib.decDigits_length]; exact Lib.nDigits_le20 n (by omega)
  have HLEN := Lib.hid hlen
  clear hlen
  go_enter Try.func126, Try.ntmps126
  go_wp2
  go_loopg [3, 4] n (fun gk u3 u4 wr => ∃ (v : Nat) (s : ByteArray), u4 = .int .i64 (-(v : Int) : Int) ∧ u3 = .string s ∧ v ≤ n ∧ Hid (gk = v) ∧ Hid (Lib.decDigits n = Lib.decDigits v ++ s.toList) ∧ Hid (Below w.heap.size w wr))
  case atStart => exact ⟨n, ⟨#[]⟩, rfl, rfl, Nat.le_refl _, Lib.hid rfl, Lib.hid (by simp), Lib.hid (Below.refl _ _)⟩
  case round =>
    obtain ⟨v, s, rfl, rfl, hv, HG, HD, HB⟩ := hrel
    have hd : v % 10 < 10 := Nat.mod_lt _ (by omega)
    have hs : s.size ≤ 20 := by
      have := HLEN.out
      rw [HD.out, List.length_append] at this
      rw [toList_size]; omega
    rcases Nat.eq_zero_or_pos (v % 10) with hz | hz
    · have t1 : decide (-((v : Int) % 10) < 0) = false := by simp; omega
      go_upto_region 6 with (fail)
      rw [show (-((v : Int) % 10)) = ((v % 10 : Nat) : Int) by omega]
      clear t1 hz
      obtain ⟨cc, hcc⟩ : ∃ cc : UInt8, cc = UInt8.ofNat (48 + v % 10) := ⟨_, rfl⟩
      have hcn : cc.toNat = 48 + v % 10 := by rw [hcc]; simp; omega
      have kc := digit_conv (v % 10) cc hcn wr
      have HST : Hid (Lib.decDigits v = (if v < 10 then [] else Lib.decDigits (v / 10)) ++ [cc]) := Lib.hid (by rw [hcc]; exact dec_step v)
      clear hcn hcc
      have HB2 := Lib.hid (HB.out.alloc HB.out.size (.cells #[.int .u8 (48 + ((v % 10 : Nat) : Int))] 5))
      have HDD : Hid (Lib.decDigits n = (if v < 10 then [] else Lib.decDigits (v / 10)) ++ ((⟨#[cc]⟩ : ByteArray) ++ s).toList) := Lib.hid (by
        rw [HD.out, HST.out, toList_append, List.append_assoc]; rw [show (⟨#[cc]⟩ : ByteArray).toList = [cc] from list_mk [_]])
      clear HD HST
      generalize hdd : v % 10 = d at *
      have hdv := Lib.hid hdd
      clear hdd
      by_cases h10 : v < 10
      · have HR : Hid (Lib.decDigits n = ((⟨#[cc]⟩ : ByteArray) ++ s).toList) := Lib.hid (by have := HDD.out; rw [if_pos h10] at this; simpa using this)
        have hq : v / 10 = 0 := by omega
        have t0 : (((-((v : Int) / 10)) == (0 : Int)) = true) := by simp; omega
        have hb := bytes_eq HR.out.symm
        clear HDD
        have hl20 := HLEN.out
        go_wp2
        go_ret
        exact ⟨by rw [← neg_conv]; rfl, HB2.out⟩
      · have HR : Hid (Lib.decDigits n = Lib.decDigits (v / 10) ++ ((⟨#[cc]⟩ : ByteArray) ++ s).toList) := Lib.hid (by have := HDD.out; rw [if_neg h10] at this; exact this)
        have t0 : (((-((v : Int) / 10)) == (0 : Int)) = false) := by simp; omega
        clear HDD
        go_wp2
        go_roundg (v / 10)
        case measure => have := HG.out; omega
        case rel => exact ⟨v / 10, (⟨#[cc]⟩ : ByteArray) ++ s, by simp, rfl, by omega, Lib.hid rfl, HR, HB2⟩
    · have t1 : decide (-((v : Int) % 10) < 0) = true := by simp; omega
      go_upto_region 6 with (fail)
      rw [show ((v : Int) % 10) = ((v % 10 : Nat) : Int) by omega]
      clear t1 hz
      obtain ⟨cc, hcc⟩ : ∃ cc : UInt8, cc = UInt8.ofNat (48 + v % 10) := ⟨_, rfl⟩
      have hcn : cc.toNat = 48 + v % 10 := by rw [hcc]; simp; omega
      have kc := digit_conv (v % 10) cc hcn wr
      have HST : Hid (Lib.decDigits v = (if v < 10 then [] else Lib.decDigits (v / 10)) ++ [cc]) := Lib.hid (by rw [hcc]; exact dec_step v)
      clear hcn hcc
      have HB2 := Lib.hid (HB.out.alloc HB.out.size (.cells #[.int .u8 (48 + ((v % 10 : Nat) : Int))] 5))
      have HDD : Hid (Lib.decDigits n = (if v < 10 then [] else Lib.decDigits (v / 10)) ++ ((⟨#[cc]⟩ : ByteArray) ++ s).toList) := Lib.hid (by
        rw [HD.out, HST.out, toList_append, List.append_assoc]; rw [show (⟨#[cc]⟩ : ByteArray).toList = [cc] from list_mk [_]])
      clear HD HST
      generalize hdd : v % 10 = d at *
      have hdv := Lib.hid hdd
      clear hdd
      by_cases h10 : v < 10
      · have HR : Hid (Lib.decDigits n = ((⟨#[cc]⟩ : ByteArray) ++ s).toList) := Lib.hid (by have := HDD.out; rw [if_pos h10] at this; simpa using this)
        have hq : v / 10 = 0 := by omega
        have t0 : (((-((v : Int) / 10)) == (0 : Int)) = true) := by simp; omega
        have hb := bytes_eq HR.out.symm
        clear HDD
        have hl20 := HLEN.out
        go_wp2
        go_ret
        exact ⟨by rw [← neg_conv]; rfl, HB2.out⟩
      · have HR : Hid (Lib.decDigits n = Lib.decDigits (v / 10) ++ ((⟨#[cc]⟩ : ByteArray) ++ s).toList) := Lib.hid (by have := HDD.out; rw [if_neg h10] at this; exact this)
        have t0 : (((-((v : Int) / 10)) == (0 : Int)) = false) := by simp; omega
        clear HDD
        go_wp2
        go_roundg (v / 10)
        case measure => have := HG.out; omega
        case rel => exact ⟨v / 10, (⟨#[cc]⟩ : ByteArray) ++ s, by simp, rfl, by omega, Lib.hid rfl, HR, HB2⟩

theorem itoa_size (n : Int) (h0 : -9223372036854775808 ≤ n) (h1 : n ≤ 9223372036854775807) : (⟨(Lib.itoa n).toArray⟩ : ByteArray).size ≤ 21 := by
  have := Lib.itoa_length_le n h0 h1
  rw [toList_size, list_mk]; exact this

theorem decimal01_any (n : Int) (h0 : -9223372036854775808 ≤ n) (h1 : n ≤ 9223372036854775807) (w : World) :
    Calls Try.prog 126 #[.int .i64 n] w fun e w' => e = .returned (.string ⟨(Lib.itoa n).toArray⟩) ∧ Below w.heap.size w w' := by
  rcases Int.lt_or_le n 0 with h | h
  · obtain ⟨u, rfl⟩ : ∃ u : Nat, n = -(u : Int) := ⟨n.natAbs, by omega⟩
    rw [Lib.itoa_neg u (by omega)]
    exact decimal01_neg u (by omega) (by omega) w
  · obtain ⟨u, rfl⟩ : ∃ u : Nat, n = u := ⟨n.toNat, by omega⟩
    rw [Lib.itoa_nonneg]
    exact decimal01_pos u (by omega) w


end Go.Proofs.Ytjcgkplphiedjaa

namespace Go.Proofs.Ytjcgkplphiedjaa
open Go.RowKit

def hexL : List UInt8 := [48, 49, 50, 51, 52, 53, 54, 55, 56, 57, 97, 98, 99, 100, 101, 102]
def hexD (k : Nat) : UInt8 := hexL.getD k 0
def letterS (b : UInt8) : ByteArray :=
  if b = 34 then ⟨#[92, 34]⟩ else if b = 92 then ⟨#[92, 92]⟩ else if b = 10 then ⟨#[92, 110]⟩ else if b = 9 then ⟨#[92, 116]⟩ else if b = 13 then ⟨#[92, 114]⟩
  else if 32 ≤ b.toNat ∧ b.toNat ≤ 126 then ⟨#[b]⟩ else ⟨#[92, 120, hexD (b.toNat / 16), hexD (b.toNat % 16)]⟩
theorem letterS_size (b : UInt8) : (letterS b).size ≤ 4 := by
  unfold letterS
  repeat' split
  all_goals (show Array.size _ ≤ 4; simp)
theorem byte_is (b : UInt8) (k : Nat) (hk : k < 256) : (((b.toNat : Int)) == (k : Int)) = decide (b = UInt8.ofNat k) := by
  rw [Bool.eq_iff_iff, beq_iff_eq, decide_eq_true_eq]
  constructor
  · intro h
    have h1 : b.toNat = k := by omega
    apply UInt8.toNat_inj.1
    rw [h1]; simp; omega
  · rintro rfl
    simp; omega

theorem bytes_conv (l : List UInt8) (n : Nat) (hn : l.length = n) (w : World) (cs : Array Value) (hcs : cs = (l.map fun c => Value.int .u8 (c.toNat : Int)).toArray) :
    (convert 64 9 (.slice (some ⟨w.heap.size, 0, none⟩) n n)).run Try.prog (w.alloc (.cells cs 5)) = .ok (.string ⟨l.toArray⟩) (w.alloc (.cells cs 5)) := by
  subst hn
  have h := run_convert_bytes_back (P := Try.prog) (w.alloc (.cells cs 5)) 64 9 5 ⟨w.heap.size, 0, none⟩ l.length l Try.underlying64 Try.underlying5 Try.underlying9 (fun j hj => by
    rw [add_plain', cell_of_row _ w.heap.size j _ 5 (0, 0) (heap_alloc_new w _)]
    subst hcs
    simp [hj])
  exact h

theorem index_hex (q : Nat) (h : q < 16) (w : World) : (Instr.index 9 (.string ⟨#[48, 49, 50, 51, 52, 53, 54, 55, 56, 57, 97, 98, 99, 100, 101, 102]⟩) (.int .u8 (q : Int))).run Try.prog w = .ok (.int .u8 ((hexD q).toNat : Int)) w := by
  have hs : (⟨#[48, 49, 50, 51, 52, 53, 54, 55, 56, 57, 97, 98, 99, 100, 101, 102]⟩ : ByteArray).size = 16 := rfl
  rw [run_index_string w 9 _ .u8 (q : Int) Try.underlying9, dif_pos ⟨by omega, by rw [hs]; omega⟩]
  have : hexD q = hexL[q]'(by simpa [hexL] using h) := by
    unfold hexD List.getD
    rw [List.getElem?_eq_getElem (by simpa [hexL] using h)]; rfl
  rw [this]
  rfl

theorem bytes_conv_drew (l : List UInt8) (n : Nat) (hn : l.length = n) (w : World) (cs : Array Value) (hcs : cs = (l.map fun c => Value.int .u8 (c.toNat : Int)).toArray) :
    (convert 64 9 (.slice (some ⟨w.heap.size, 0, none⟩) n n)).run Try.prog (w.alloc (.cells cs 5)).drew = .ok (.string ⟨l.toArray⟩) (w.alloc (.cells cs 5)).drew := by
  subst hn
  have h := run_convert_bytes_back (P := Try.prog) (w.alloc (.cells cs 5)).drew 64 9 5 ⟨w.heap.size, 0, none⟩ l.length l Try.underlying64 Try.underlying5 Try.underlying9 (fun j hj => by
    show (w.alloc (.cells cs 5)).cell? _ = _
    rw [add_plain', cell_of_row _ w.heap.size j _ 5 (0, 0) (heap_alloc_new w _)]
    subst hcs
    simp [hj])
  exact h

set_option maxRecDepth 20000 in
set_option maxHeartbeats 2000000 in
theorem letter_ref (b : UInt8) (w : World) :
    Calls Try.prog 127 #[.int .u8 (b.toNat : Int)] w fun e w' => e = .returned (.string (letterS b)) ∧ Below w.heap.size w w' := by
  have hb := b.toNat_lt
  have HV : Hid (letterS b = if b = 34 then ⟨#[92, 34]⟩ else if b = 92 then ⟨#[92, 92]⟩ else if b = 10 then ⟨#[92, 110]⟩ else if b = 9 then ⟨#[92, 116]⟩ else if b = 13 then ⟨#[92, 114]⟩
    else if 32 ≤ b.toNat ∧ b.toNat ≤ 126 then ⟨#[b]⟩ else ⟨#[92, 120, hexD (b.toNat / 16), hexD (b.toNat % 16)]⟩) := Lib.hid rfl
  have e1 : (((b.toNat : Int)) == 34) = decide (b = 34) := byte_is b 34 (by omega)
  have e2 : (((b.toNat : Int)) == 92) = decide (b = 92) := byte_is b 92 (by omega)
  have e3 : (((b.toNat : Int)) == 10) = decide (b = 10) := byte_is b 10 (by omega)
  have e4 : (((b.toNat : Int)) == 9) = decide (b = 9) := byte_is b 9 (by omega)
  have e5 : (((b.toNat : Int)) == 13) = decide (b = 13) := byte_is b 13 (by omega)
  have kc1 := bytes_conv [b] 1 rfl w #[.int .u8 (b.toNat : Int)] rfl
  have kc4 := bytes_conv_drew [92, 120, hexD (b.toNat / 16), hexD (b.toNat % 16)] 4 rfl w #[.int .u8 92, .int .u8 120, .int .u8 ((hexD (b.toNat / 16)).toNat : Int), .int .u8 ((hexD (b.toNat % 16)).toNat : Int)] rfl
  generalize letterS b = v at *
  generalize hn : b.toNat = n at *
  by_cases h1 : b = 34
  · have hz : v = ⟨#[92, 34]⟩ := by rw [HV.out, if_pos h1]
    rw [decide_eq_true h1] at e1
    subst hz
    clear HV e2 e3 e4 e5 kc1 kc4 h1 hn
    go_enter Try.func127, Try.ntmps127
    go_wp2
    go_ret
    exact ⟨by rfl, Below.refl _ _⟩
  rw [decide_eq_false h1] at e1
  by_cases h2 : b = 92
  · have hz : v = ⟨#[92, 92]⟩ := by rw [HV.out, if_neg h1, if_pos h2]
    rw [decide_eq_true h2] at e2
    subst hz
    clear HV e3 e4 e5 kc1 kc4 h1 h2 hn
    go_enter Try.func127, Try.ntmps127
    go_wp2
    go_ret
    exact ⟨by rfl, Below.refl _ _⟩
  rw [decide_eq_false h2] at e2
  by_cases h3 : b = 10
  · have hz : v = ⟨#[92, 110]⟩ := by rw [HV.out, if_neg h1, if_neg h2, if_pos h3]
    rw [decide_eq_true h3] at e3
    subst hz
    clear HV e4 e5 kc1 kc4 h1 h2 h3 hn
    go_enter Try.func127, Try.ntmps127
    go_wp2
    go_ret
    exact ⟨by rfl, Below.refl _ _⟩
  rw [decide_eq_false h3] at e3
  by_cases h4 : b = 9
  · have hz : v = ⟨#[92, 116]⟩ := by rw [HV.out, if_neg h1, if_neg h2, if_neg h3, if_pos h4]
    rw [decide_eq_true h4] at e4
    subst hz
    clear HV e5 kc1 kc4 h1 h2 h3 h4 hn
    go_enter Try.func127, Try.ntmps127
    go_wp2
    go_ret
    exact ⟨by rfl, Below.refl _ _⟩
  rw [decide_eq_false h4] at e4
  by_cases h5 : b = 13
  · have hz : v = ⟨#[92, 114]⟩ := by rw [HV.out, if_neg h1, if_neg h2, if_neg h3, if_neg h4, if_pos h5]
    rw [decide_eq_true h5] at e5
    subst hz
    clear HV kc1 kc4 h1 h2 h3 h4 h5 hn
    go_enter Try.func127, Try.ntmps127
    go_wp2
    go_ret
    exact ⟨by rfl, Below.refl _ _⟩
  rw [decide_eq_false h5] at e5
  by_cases h6 : 32 ≤ n ∧ n ≤ 126
  · have hz : v = ⟨#[b]⟩ := by rw [HV.out, if_neg h1, if_neg h2, if_neg h3, if_neg h4, if_neg h5, if_pos h6]
    have t1 : decide ((32 : Int) ≤ (n : Int)) = true := decide_eq_true (by omega)
    have t2 : decide ((n : Int) ≤ 126) = true := decide_eq_true (by omega)
    have HB := Lib.hid ((Below.refl w.heap.size w).alloc (Nat.le_refl _) (.cells #[.int .u8 (n : Int)] 5))
    subst hz
    clear HV kc4 h1 h2 h3 h4 h5 h6 hn
    go_enter Try.func127, Try.ntmps127
    go_wp2
    go_ret
    exact ⟨by rfl, HB.out⟩
  · have hz : v = ⟨#[92, 120, hexD (n / 16), hexD (n % 16)]⟩ := by rw [HV.out, if_neg h1, if_neg h2, if_neg h3, if_neg h4, if_neg h5, if_neg h6]
    subst hz
    clear HV h1 h2 h3 h4 h5 hn kc1
    obtain ⟨q, hq⟩ : ∃ q, n / 16 = q := ⟨_, rfl⟩
    obtain ⟨r, hr⟩ : ∃ r, n % 16 = r := ⟨_, rfl⟩
    have c1 : (n : Int) / 16 = (q : Int) := by omega
    have c2 : (n : Int) % 16 = (r : Int) := by omega
    rw [hq, hr] at kc4 ⊢
    go_enter Try.func127, Try.ntmps127
    have HB := Lib.hid ((Below.refl w.heap.size w).alloc (Nat.le_refl _) (.cells #[.int .u8 92, .int .u8 120, .int .u8 ((hexD q).toNat : Int), .int .u8 ((hexD r).toNat : Int)] 5)).drew
    have ki1 := index_hex q (by omega)
    have ki2 := index_hex r (by omega)
    by_cases h7 : 32 ≤ n
    · have t1 : decide ((32 : Int) ≤ (n : Int)) = true := decide_eq_true (by omega)
      have t2 : decide ((n : Int) ≤ 126) = false := decide_eq_false (by omega)
      go_upto_region 14 with (fail)
      obtain ⟨C, hC⟩ : ∃ C : World → Prop, ∀ w, C w := ⟨fun _ => True, fun _ => trivial⟩
      have kn : Nonempty (WC C) := ⟨⟨w, hC w⟩⟩
      refine wp_region_frontN C [0, 1, 2, 3, 4, 5] 3 (fun j => decide (j < 9)) (by kernel_rfl) (fun _ _ d _ _ h => by cases d <;> exact h) (by kernel_rfl) (hC _) ?_
      simp only [List.map_cons, List.map_nil, List.getD_cons_zero, List.getD_cons_succ]
      repeat (go_big_quiet_step (fail))
      refine wpQuiet_nil ?_
      refine wpN_one (i := 6) (by kernel_rfl) rfl ?_
      go_wp2
      refine tailN_normal (hC _) ?_
      refine wpN_one (i := 7) (by kernel_rfl) rfl ?_
      go_wp2
      refine tailN_normal (hC _) ?_
      refine wpN_one (i := 8) (by kernel_rfl) rfl ?_
      go_wp2
      refine tailN_normal (hC _) ?_
      refine wpN_none (by kernel_rfl) ?_
      go_wp2
      go_ret
      exact ⟨by rfl, HB.out⟩
    · have t1 : decide ((32 : Int) ≤ (n : Int)) = false := decide_eq_false (by omega)
      go_upto_region 14 with (fail)
      obtain ⟨C, hC⟩ : ∃ C : World → Prop, ∀ w, C w := ⟨fun _ => True, fun _ => trivial⟩
      have kn : Nonempty (WC C) := ⟨⟨w, hC w⟩⟩
      refine wp_region_frontN C [0, 1, 2, 3, 4, 5] 3 (fun j => decide (j < 9)) (by kernel_rfl) (fun _ _ d _ _ h => by cases d <;> exact h) (by kernel_rfl) (hC _) ?_
      simp only [List.map_cons, List.map_nil, List.getD_cons_zero, List.getD_cons_succ]
      repeat (go_big_quiet_step (fail))
      refine wpQuiet_nil ?_
      refine wpN_one (i := 6) (by kernel_rfl) rfl ?_
      go_wp2
      refine tailN_normal (hC _) ?_
      refine wpN_one (i := 7) (by kernel_rfl) rfl ?_
      go_wp2
      refine tailN_normal (hC _) ?_
      refine wpN_one (i := 8) (by kernel_rfl) rfl ?_
      go_wp2
      refine tailN_normal (hC _) ?_
      refine wpN_none (by kernel_rfl) ?_
      go_wp2
      go_ret
      exact ⟨by rfl, HB.out⟩
end Go.Proofs.Ytjcgkplphiedjaa

namespace Go.Proofs.Ytjcgkplphiedjaa
open Go.RowKit

def inI (n : Int) : Prop := -9223372036854775808 ≤ n ∧ n ≤ 9223372036854775807
def it (n : Int) : ByteArray := ⟨(Lib.itoa n).toArray⟩
theorem it_size (n : Int) (h : inI n) : (it n).size ≤ 21 := itoa_size n h.1 h.2
theorem app_size (a b : ByteArray) : (a ++ b).size = a.size + b.size := by rw [toList_size, toList_append, List.length_append, ← toList_size, ← toList_size]

def quo (s : ByteArray) (l : List UInt8) : ByteArray := l.foldl (fun s b => s ++ letterS b) s
theorem quo_step (s t : ByteArray) (k : Nat) (h : k < t.size) : quo s (t.toList.drop k) = quo (s ++ letterS t[k]) (t.toList.drop (k + 1)) := by
  have hk : k < t.toList.length := by rw [← toList_size]; exact h
  have e : t.toList[k] = t[k] := by
    have : t.toList = t.data.toList := ByteArray.toList_eq t
    simp only [this]; rfl
  rw [List.drop_eq_getElem_cons hk, e]; rfl
theorem quo_end (s t : ByteArray) (k : Nat) (h : t.size ≤ k) : quo s (t.toList.drop k) = s := by
  rw [List.drop_eq_nil_of_le (by rw [← toList_size]; exact h)]; rfl
theorem quo_size : ∀ (l : List UInt8) (s : ByteArray), (quo s l).size ≤ s.size + 4 * l.length
  | [], s => by simp [quo]
  | b :: l, s => by
    have h := quo_size l (s ++ letterS b)
    have h2 := letterS_size b
    rw [app_size] at h
    show (quo (s ++ letterS b) l).size ≤ _
    rw [List.length_cons]; omega
def textS (k i : Int) (t : ByteArray) : ByteArray := if validC k i t = false then ⟨#[]⟩ else if k = 1 then it i else if k = 2 then t else quo ⟨#[34]⟩ t.toList ++ ⟨#[34]⟩
theorem textS_size (k i : Int) (t : ByteArray) (hi : inI i) : (textS k i t).size ≤ 1022 := by
  unfold textS
  split
  · show (0 : Nat) ≤ 1022; omega
  · rename_i hv
    unfold validC at hv
    split
    · have := it_size i hi; omega
    · rename_i k1
      rw [if_neg k1] at hv
      split
      · rename_i k2
        rw [if_pos k2] at hv
        have hn : isNameS t = true := by
          cases h : isNameS t with
          | true => rfl
          | false => rw [h] at hv; simp at hv
        unfold isNameS at hn
        simp only [Bool.and_eq_true, decide_eq_true_eq] at hn
        have := hn.1.1.1.2
        omega
      · rename_i k2
        rw [if_neg k2] at hv
        have hs : t.size ≤ 255 := by
          rcases Nat.lt_or_ge 255 t.size with h | h
          · exfalso
            apply hv
            split
            · rw [decide_eq_false (by omega : ¬ t.size ≤ 255), Bool.and_false]
            · rfl
          · exact h
        have h1 := quo_size t.toList ⟨#[34]⟩
        have h2 : (⟨#[34]⟩ : ByteArray).size = 1 := rfl
        rw [app_size, h2]
        rw [h2, ← toList_size] at h1
        omega

set_option maxRecDepth 20000 in
set_option maxHeartbeats 4000000 in
theorem text_const (k i : Int) (t : ByteArray) (hi : inI i) (hb : t.size ≤ 9223372036854775807) (w : World) :
    Calls Try.prog 112 #[.agg #[.int .i64 k, .int .i64 i, .string t]] w fun e w' => e = .returned (.string (textS k i t)) ∧ Below w.heap.size w w' := by
  have HV : Hid (textS k i t = if validC k i t = false then ⟨#[]⟩ else if k = 1 then it i else if k = 2 then t else quo ⟨#[34]⟩ t.toList ++ ⟨#[34]⟩) := Lib.hid rfl
  have HSZ : Hid ((textS k i t).size ≤ 1022) := Lib.hid (textS_size k i t hi)
  have HKV : Hid (∀ W, Calls Try.prog 125 #[.agg #[.int .i64 k, .int .i64 i, .string t]] W fun e w' => e = .returned (.bool (validC k i t)) ∧ Below W.heap.size W w') := Lib.hid (fun W => valid_ref k i t hb W)
  have HKD : Hid (∀ W, Calls Try.prog 126 #[.int .i64 i] W fun e w' => e = .returned (.string (it i)) ∧ Below W.heap.size W w') := Lib.hid (fun W => decimal01_any i hi.1 hi.2 W)
  have HVC : Hid (validC k i t = true → k ≠ 1 → k ≠ 2 → t.size ≤ 255) := Lib.hid (by
    intro hv k1 k2
    unfold validC at hv
    rw [if_neg k1, if_neg k2] at hv
    split at hv
    · rw [Bool.and_eq_true, decide_eq_true_eq, decide_eq_true_eq] at hv
      exact hv.2
    · cases hv)
  generalize textS k i t = v at *
  generalize validC k i t = vc at *
  go_enter Try.func112, Try.ntmps112
  go_upto_region 1 with (fail)
  have hb1 := (Below.refl w.heap.size w).alloc (Nat.le_refl _) (.cells #[.int .i64 k, .int .i64 i, .string t] 110)
  have h1 := Blk.new w 110 [.int .i64 k, .int .i64 i, .string t]
  generalize World.alloc _ _ = w1 at *
  generalize hR : w.heap.size = R at *
  have HRR := Lib.hid hR
  clear hR
  have HB1 := Lib.hid hb1
  have H1 := Lib.hid h1
  have f0 := h1.cell 0
  have f1 := h1.cell 1
  have f2 := h1.cell 2
  simp only [List.getElem?_cons_zero, List.getElem?_cons_succ] at f0 f1 f2
  have hs1 : R ≤ w1.heap.size := by have := h1.lt; omega
  clear h1 hb1
  have ka := HKV.out w1
  go_wp2_with fail
  refine ka.mono ?_
  rintro e w2 ⟨rfl, hb2⟩
  have HB2 := Lib.hid (HB1.out.trans (hb2.mono hs1))
  have H2 := Lib.hid (H1.out.below hb2 H1.out.lt)
  have hs2 : R ≤ w2.heap.size := Nat.le_trans hs1 hb2.size
  have g0 := H2.out.cell 0
  have g1 := H2.out.cell 1
  have g2 := H2.out.cell 2
  simp only [List.getElem?_cons_zero, List.getElem?_cons_succ] at g0 g1 g2
  clear ka hb2 HB1 H1 f0 f1 f2
  cases vc with
  | false =>
    have hz : v = ⟨#[]⟩ := by rw [HV.out, if_pos rfl]
    subst hz
    clear HV HSZ
    go_wp2
    go_ret
    exact ⟨by rfl, by rw [HRR.out]; exact HB2.out⟩
  | true =>
    by_cases k1 : k = 1
    · subst k1
      have hz : v = it i := by rw [HV.out, if_neg (by simp), if_pos rfl]
      subst hz
      clear HV HSZ
      have kd := HKD.out w2
      go_wp2_with fail
      refine kd.mono ?_
      rintro e w3 ⟨rfl, hb3⟩
      have HB3 := Lib.hid (HB2.out.trans (hb3.mono hs2))
      go_wp2
      go_ret
      exact ⟨by rfl, by rw [HRR.out]; exact HB3.out⟩
    have t1 : (k == 1) = false := by simpa using k1
    by_cases k2 : k = 2
    · subst k2
      have hz : v = t := by rw [HV.out, if_neg (by simp), if_neg (by omega), if_pos rfl]
      subst hz
      clear HV HSZ k1
      go_wp2
      go_ret
      exact ⟨by rfl, by rw [HRR.out]; exact HB2.out⟩
    have t2 : (k == 2) = false := by simpa using k2
    have HV2 : Hid (quo ⟨#[34]⟩ (t.toList.drop 0) ++ ⟨#[34]⟩ = v) := Lib.hid (by rw [HV.out, if_neg (by simp), if_neg k1, if_neg k2]; rfl)
    have ht := HVC.out rfl k1 k2
    clear HV k1 k2 HVC
    go_upto_region 10 with (fail)
    clear g0 g1 g2
    go_loopg [3, 4] t.size (fun gk u3 u4 wr => ∃ (j : Nat) (s : ByteArray), u4 = .int .i64 j ∧ u3 = .string s ∧ j ≤ t.size ∧ s.size ≤ 1 + 4 * j ∧ Hid (gk = t.size - j) ∧ Hid (Below R w wr) ∧ Hid (Blk wr R 110 [.int .i64 k, .int .i64 i, .string t]) ∧ Hid (quo s (t.toList.drop j) ++ ⟨#[34]⟩ = v))
    case atStart => exact ⟨0, ⟨#[34]⟩, rfl, rfl, Nat.zero_le _, by show (1 : Nat) ≤ 1; omega, Lib.hid (by omega), HB2, H2, HV2⟩
    case round =>
      clear HB2 H2 HV2
      obtain ⟨j, s, rfl, rfl, hj, hsz, HG, HB, H2, HV⟩ := hrel
      have g2 := H2.out.cell 2
      simp only [List.getElem?_cons_zero, List.getElem?_cons_succ] at g2
      by_cases hlt : j < t.size
      · have HS : Hid (quo (s ++ letterS t[j]) (t.toList.drop (j + 1)) ++ ⟨#[34]⟩ = v) := Lib.hid (by rw [← HV.out, quo_step s t j hlt])
        have kl := letter_ref t[j] wr
        have hl4 := letterS_size t[j]
        have hsz2 : (s ++ letterS t[j]).size ≤ 1 + 4 * (j + 1) := by rw [app_size]; omega
        generalize hE : letterS t[j] = y at *
        clear hE HV
        go_wp2_with fail
        refine kl.mono ?_
        rintro e w3 ⟨rfl, hb3⟩
        have HB3 := Lib.hid (HB.out.trans (hb3.mono (by have := HB.out.size; rw [HRR.out] at this; exact this)))
        have H3 := Lib.hid (H2.out.below hb3 H2.out.lt)
        clear kl hb3 HB H2 g2
        go_wp2
        go_roundg (t.size - (j + 1))
        case measure => have := HG.out; omega
        case rel => exact ⟨j + 1, s ++ y, by go_num, rfl, by omega, hsz2, Lib.hid rfl, HB3, H3, HS⟩
      · have hz : s ++ ⟨#[34]⟩ = v := by rw [← HV.out, quo_end s t j (by omega)]
        have h1 : (⟨#[34]⟩ : ByteArray).size = 1 := rfl
        subst hz
        clear HV HSZ
        go_wp2
        go_ret
        exact ⟨by rfl, by rw [HRR.out]; exact HB.out⟩

def termS (e : T) : ByteArray := if e.err = 0 then (if e.k = 4 then e.t else textS e.k e.i e.t) else ⟨#[]⟩
theorem termS_size (e : T) (hi : inI e.i) : (termS e).size ≤ 1022 := by
  unfold termS
  split
  · rename_i h
    split
    · rename_i k4
      unfold T.err termE at h
      rw [if_pos k4] at h
      split at h
      · rename_i hv
        have hv := hv.2
        unfold isVarS at hv
        simp only [Bool.and_eq_true, decide_eq_true_eq] at hv
        have := hv.1.1.2
        omega
      · cases h
    · exact textS_size _ _ _ hi
  · show (0 : Nat) ≤ 1022; omega

set_option maxRecDepth 20000 in
set_option maxHeartbeats 4000000 in
theorem term_text (x : T) (hi : inI x.i) (hb : x.fine) (w : World) :
    Calls Try.prog 97 #[.agg x.cells.toArray] w fun e w' => e = .returned (.string (termS x)) ∧ Below w.heap.size w w' := by
  have HV : Hid (termS x = if x.err = 0 then (if x.k = 4 then x.t else textS x.k x.i x.t) else ⟨#[]⟩) := Lib.hid rfl
  have HKT := Lib.hid (fun W => term_ref x.k x.i x.o x.t hb W)
  have HKX := Lib.hid (fun W => text_const x.k x.i x.t hi hb W)
  generalize termS x = v at *
  unfold T.err at HV
  obtain ⟨k, i, t, o⟩ := x
  dsimp only at HV HKT HKX
  generalize termE k i t = q at *
  generalize textS k i t = tx at *
  show Calls Try.prog 97 #[.agg #[.int .i64 k, .int .i64 i, .string t, .int .i64 o]] w _
  go_enter Try.func97, Try.ntmps97
  go_upto_region 1 with (fail)
  have hb1 := (Below.refl w.heap.size w).alloc (Nat.le_refl _) (.cells #[.int .i64 k, .int .i64 i, .string t, .int .i64 o] 33)
  have h1 := Blk.new w 33 [.int .i64 k, .int .i64 i, .string t, .int .i64 o]
  generalize World.alloc _ _ = w1 at *
  generalize hR : w.heap.size = R at *
  have HRR := Lib.hid hR
  clear hR
  have HB1 := Lib.hid hb1
  have H1 := Lib.hid h1
  have f0 := h1.cell 0
  have f1 := h1.cell 1
  have f2 := h1.cell 2
  have f3 := h1.cell 3
  simp only [List.getElem?_cons_zero, List.getElem?_cons_succ] at f0 f1 f2 f3
  have hs1 : R ≤ w1.heap.size := by have := h1.lt; omega
  clear h1 hb1
  have ka := HKT.out w1
  go_wp2_with fail
  refine ka.mono ?_
  rintro e w2 ⟨rfl, hb2⟩
  have HB2 := Lib.hid (HB1.out.trans (hb2.mono hs1))
  have H2 := Lib.hid (H1.out.below hb2 H1.out.lt)
  have hs2 : R ≤ w2.heap.size := Nat.le_trans hs1 hb2.size
  have g0 := H2.out.cell 0
  have g1 := H2.out.cell 1
  have g2 := H2.out.cell 2
  simp only [List.getElem?_cons_zero, List.getElem?_cons_succ] at g0 g1 g2
  clear ka hb2 HB1 H1 f0 f1 f2 f3
  by_cases hq : q = 0
  · subst hq
    by_cases k4 : k = 4
    · subst k4
      have hz : v = t := by rw [HV.out, if_pos rfl, if_pos rfl]
      subst hz
      clear HV
      go_wp2
      go_ret
      exact ⟨by rfl, by rw [HRR.out]; exact HB2.out⟩
    · have hz : v = tx := by rw [HV.out, if_pos rfl, if_neg k4]
      have t1 : (k == 4) = false := by simpa using k4
      subst hz
      clear HV k4
      have kx := HKX.out w2
      go_wp2_with fail
      refine kx.mono ?_
      rintro e w3 ⟨rfl, hb3⟩
      have HB3 := Lib.hid (HB2.out.trans (hb3.mono hs2))
      go_wp2
      go_ret
      exact ⟨by rfl, by rw [HRR.out]; exact HB3.out⟩
  · have hz : v = ⟨#[]⟩ := by rw [HV.out, if_neg hq]
    have t1 : (q != 0) = true := by simpa using hq
    have t2 : (q == 0) = false := by simpa using hq
    subst hz
    clear HV hq
    go_wp2
    go_ret
    exact ⟨by rfl, by rw [HRR.out]; exact HB2.out⟩

/-- A comparison's sign. -/
def signS (op : Int) : ByteArray := if op = 1 then ⟨#[61]⟩ else if op = 2 then ⟨#[33, 61]⟩ else if op = 3 then ⟨#[60]⟩ else if op = 4 then ⟨#[60, 61]⟩ else if op = 5 then ⟨#[62]⟩ else ⟨#[62, 61]⟩
theorem signS_size (op : Int) : (signS op).size ≤ 2 := by
  unfold signS
  repeat' split
  all_goals (show Array.size _ ≤ 2; simp)
set_option maxHeartbeats 2000000 in
theorem sign_ref (op : Int) (w : World) : Calls Try.prog 113 #[.int .i64 op] w fun e w' => e = .returned (.string (signS op)) ∧ Below w.heap.size w w' := by
  have HV : Hid (signS op = if op = 1 then ⟨#[61]⟩ else if op = 2 then ⟨#[33, 61]⟩ else if op = 3 then ⟨#[60]⟩ else if op = 4 then ⟨#[60, 61]⟩ else if op = 5 then ⟨#[62]⟩ else ⟨#[62, 61]⟩) := Lib.hid rfl
  generalize signS op = v at *
  go_enter Try.func113, Try.ntmps113
  by_cases h1 : op = 1
  · have hz : v = ⟨#[61]⟩ := by rw [HV.out, if_pos h1]
    subst h1; subst hz
    go_wp2
    go_ret
    exact ⟨by rfl, Below.refl _ _⟩
  by_cases h2 : op = 2
  · have hz : v = ⟨#[33, 61]⟩ := by rw [HV.out, if_neg h1, if_pos h2]
    subst h2; subst hz
    go_wp2
    go_ret
    exact ⟨by rfl, Below.refl _ _⟩
  by_cases h3 : op = 3
  · have hz : v = ⟨#[60]⟩ := by rw [HV.out, if_neg h1, if_neg h2, if_pos h3]
    subst h3; subst hz
    go_wp2
    go_ret
    exact ⟨by rfl, Below.refl _ _⟩
  by_cases h4 : op = 4
  · have hz : v = ⟨#[60, 61]⟩ := by rw [HV.out, if_neg h1, if_neg h2, if_neg h3, if_pos h4]
    subst h4; subst hz
    go_wp2
    go_ret
    exact ⟨by rfl, Below.refl _ _⟩
  by_cases h5 : op = 5
  · have hz : v = ⟨#[62]⟩ := by rw [HV.out, if_neg h1, if_neg h2, if_neg h3, if_neg h4, if_pos h5]
    subst h5; subst hz
    go_wp2
    go_ret
    exact ⟨by rfl, Below.refl _ _⟩
  · have hz : v = ⟨#[62, 61]⟩ := by rw [HV.out, if_neg h1, if_neg h2, if_neg h3, if_neg h4, if_neg h5]
    have t1 : (op == 1) = false := by simpa using h1
    have t2 : (op == 2) = false := by simpa using h2
    have t3 : (op == 3) = false := by simpa using h3
    have t4 : (op == 4) = false := by simpa using h4
    have t5 : (op == 5) = false := by simpa using h5
    subst hz
    clear h1 h2 h3 h4 h5
    go_wp2
    go_ret
    exact ⟨by rfl, Below.refl _ _⟩
end Go.Proofs.Ytjcgkplphiedjaa

namespace Go.Proofs.Ytjcgkplphiedjaa
open Go.RowKit

def lsGo : ByteArray → Bool → List ByteArray → ByteArray
  | s, _, [] => s
  | s, true, x :: xs => lsGo (s ++ x) false xs
  | s, false, x :: xs => lsGo ((s ++ ⟨#[44, 32]⟩) ++ x) false xs
def listS (l : List ByteArray) : ByteArray := lsGo ⟨#[]⟩ true l
theorem lsGo_end (s : ByteArray) (b : Bool) (l : List ByteArray) (k : Nat) (h : l.length ≤ k) : lsGo s b (l.drop k) = s := by
  rw [List.drop_eq_nil_of_le h, lsGo]
theorem lsGo_size (N : Nat) : ∀ (l : List ByteArray) (s : ByteArray) (b : Bool), (∀ x ∈ l, x.size ≤ N) → (lsGo s b l).size ≤ s.size + l.length * (N + 2)
  | [], s, b, _ => by rw [lsGo]; simp
  | x :: xs, s, true, h => by
    have h1 := lsGo_size N xs (s ++ x) false (fun y hy => h y (List.mem_cons_of_mem _ hy))
    have h2 := h x (by simp)
    rw [app_size] at h1
    rw [lsGo, List.length_cons, Nat.add_mul]; omega
  | x :: xs, s, false, h => by
    have h1 := lsGo_size N xs ((s ++ ⟨#[44, 32]⟩) ++ x) false (fun y hy => h y (List.mem_cons_of_mem _ hy))
    have h2 := h x (by simp)
    have h3 : (⟨#[44, 32]⟩ : ByteArray).size = 2 := rfl
    rw [app_size, app_size, h3] at h1
    rw [lsGo, List.length_cons, Nat.add_mul]; omega
theorem listS_size (N : Nat) (l : List ByteArray) (h : ∀ x ∈ l, x.size ≤ N) : (listS l).size ≤ l.length * (N + 2) := by
  have := lsGo_size N l ⟨#[]⟩ true h
  have h0 : (⟨#[]⟩ : ByteArray).size = 0 := rfl
  unfold listS; omega

set_option maxRecDepth 20000 in
set_option maxHeartbeats 4000000 in
theorem listed_ref (A : Option Addr) (n c N : Nat) (l : List ByteArray) (w : World) (hr : Rd w w.heap.size 1 A n (scells l)) (hN : N ≤ 1000000) (hn : n ≤ 16) (hs : ∀ x ∈ l, x.size ≤ N) :
    Calls Try.prog 100 #[.slice A n c] w fun e w' => e = .returned (.string (listS l)) ∧ Below w.heap.size w w' := by
  have hl : l.length = n := by have := hr.1; rw [scells_length] at this; omega
  have HV : Hid (lsGo ⟨#[]⟩ (decide (0 = 0)) (l.drop 0) = listS l) := Lib.hid rfl
  have HR := Lib.hid hr
  have HL := Lib.hid hl
  have HS := Lib.hid hs
  clear hr hl hs
  generalize listS l = v at *
  go_enter Try.func100, Try.ntmps100
  go_upto_region 3 with (fail)
  generalize hR : w.heap.size = R at *
  have HRR := Lib.hid hR
  clear hR
  go_loopg [3, 4] n (fun gk u3 u4 wr => ∃ (k : Nat) (s : ByteArray), u4 = .int .i64 k ∧ u3 = .string s ∧ k ≤ n ∧ s.size ≤ k * 1000002 ∧ Hid (gk = n - k) ∧ Hid (Below R w wr) ∧ Hid (lsGo s (decide (k = 0)) (l.drop k) = v))
  case atStart => exact ⟨0, ⟨#[]⟩, rfl, rfl, Nat.zero_le _, by show (0 : Nat) ≤ _; omega, Lib.hid (by omega), Lib.hid (Below.refl _ _), HV⟩
  case round =>
    clear HV
    obtain ⟨k, s, rfl, rfl, hk, hsz, HG, HB, HV⟩ := hrel
    by_cases hlt : k < n
    · obtain ⟨b, o, hk1, rfl, hB, c0⟩ := (HR.out.below HB.out).str k hlt
      have hx := HS.out l[k] (List.getElem_mem hk1)
      have HD : Hid (l.drop k = l[k] :: l.drop (k + 1)) := Lib.hid (List.drop_eq_getElem_cons hk1)
      generalize l[k] = x at *
      have h2 : (⟨#[44, 32]⟩ : ByteArray).size = 2 := rfl
      have hsz1 := app_size s x
      have hsz2 := app_size (s ++ ⟨#[44, 32]⟩) x
      have hsz3 := app_size s ⟨#[44, 32]⟩
      rcases Nat.eq_zero_or_pos k with k0 | k0
      · have HN : Hid (lsGo (s ++ x) (decide (k + 1 = 0)) (l.drop (k + 1)) = v) := Lib.hid (by rw [← HV.out, HD.out, decide_eq_true k0, decide_eq_false (by omega : ¬ k + 1 = 0), lsGo])
        have t1 : decide ((0 : Int) < (k : Int)) = false := decide_eq_false (by omega)
        have hszn : (s ++ x).size ≤ (k + 1) * 1000002 := by rw [hsz1]; omega
        clear HV HD hsz2 hsz3
        subst k0
        rw [Nat.add_zero] at c0
        go_wp2
        go_roundg (n - (0 + 1))
        case measure => have := HG.out; omega
        case rel => exact ⟨0 + 1, s ++ x, by go_num, rfl, by omega, hszn, Lib.hid rfl, HB, HN⟩
      · have HN : Hid (lsGo ((s ++ ⟨#[44, 32]⟩) ++ x) (decide (k + 1 = 0)) (l.drop (k + 1)) = v) := Lib.hid (by rw [← HV.out, HD.out, decide_eq_false (by omega : ¬ k = 0), decide_eq_false (by omega : ¬ k + 1 = 0), lsGo])
        have t1 : decide ((0 : Int) < (k : Int)) = true := decide_eq_true (by omega)
        have hszn : ((s ++ ⟨#[44, 32]⟩) ++ x).size ≤ (k + 1) * 1000002 := by rw [hsz2, hsz3, h2]; omega
        clear HV HD
        go_wp2
        go_roundg (n - (k + 1))
        case measure => have := HG.out; omega
        case rel => exact ⟨k + 1, (s ++ ⟨#[44, 32]⟩) ++ x, by go_num, rfl, by omega, hszn, Lib.hid rfl, HB, HN⟩
    · have hz : s = v := by rw [← HV.out]; exact (lsGo_end s _ l k (by have := HL.out; omega)).symm
      subst hz
      go_wp2
      go_ret
      exact ⟨by rfl, by rw [HRR.out]; exact HB.out⟩

def appS (p : ByteArray) (l : List ByteArray) : ByteArray := if l.length = 0 then p else ((p ++ ⟨#[40]⟩) ++ listS l) ++ ⟨#[41]⟩
theorem appS_size (N : Nat) (p : ByteArray) (l : List ByteArray) (h : ∀ x ∈ l, x.size ≤ N) : (appS p l).size ≤ p.size + 2 + l.length * (N + 2) := by
  have h1 := listS_size N l h
  have h2 : (⟨#[40]⟩ : ByteArray).size = 1 := rfl
  have h3 : (⟨#[41]⟩ : ByteArray).size = 1 := rfl
  unfold appS
  split
  · omega
  · rw [app_size, app_size, app_size, h2, h3]; omega

set_option maxRecDepth 20000 in
set_option maxHeartbeats 4000000 in
theorem applied_ref (p : ByteArray) (A : Option Addr) (n c N : Nat) (l : List ByteArray) (w : World) (hp : p.size ≤ 1000000) (hr : Rd w w.heap.size 1 A n (scells l)) (hN : N ≤ 1000000) (hn : n ≤ 16) (hs : ∀ x ∈ l, x.size ≤ N) :
    Calls Try.prog 98 #[.string p, .slice A n c] w fun e w' => e = .returned (.string (appS p l)) ∧ Below w.heap.size w w' := by
  have hl : l.length = n := by have := hr.1; rw [scells_length] at this; omega
  have HV : Hid (appS p l = if n = 0 then p else ((p ++ ⟨#[40]⟩) ++ listS l) ++ ⟨#[41]⟩) := Lib.hid (by rw [← hl]; rfl)
  have kl := listed_ref A n c N l w hr hN hn hs
  have hls := listS_size N l hs
  rw [hl] at hls
  have hls2 : (listS l).size ≤ 17000000 := by
    have : n * (N + 2) ≤ 16 * 1000002 := Nat.mul_le_mul hn (by omega)
    omega
  generalize appS p l = v at *
  generalize listS l = y at *
  clear hr hl hs hls
  go_enter Try.func98, Try.ntmps98
  rcases Nat.eq_zero_or_pos n with h0 | h0
  · have hz : v = p := by rw [HV.out, if_pos h0]
    subst hz
    subst h0
    clear HV kl
    go_wp2
    go_ret
    exact ⟨by rfl, Below.refl _ _⟩
  · have hz : v = ((p ++ ⟨#[40]⟩) ++ y) ++ ⟨#[41]⟩ := by rw [HV.out, if_neg (by omega)]
    have t1 : ((n : Int) == 0) = false := by simpa using (by omega : ¬ (n : Int) = 0)
    have h2 : (⟨#[40]⟩ : ByteArray).size = 1 := rfl
    have h3 : (⟨#[41]⟩ : ByteArray).size = 1 := rfl
    have s1 := app_size p ⟨#[40]⟩
    have s2 := app_size (p ++ ⟨#[40]⟩) y
    have s3 := app_size ((p ++ ⟨#[40]⟩) ++ y) ⟨#[41]⟩
    subst hz
    clear HV
    go_wp2_with fail
    refine kl.mono ?_
    rintro e w3 ⟨rfl, hb3⟩
    clear kl
    go_wp2
    go_ret
    exact ⟨by rfl, hb3⟩
end Go.Proofs.Ytjcgkplphiedjaa
