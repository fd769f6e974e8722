/- strconv.Quote's bytes tell what was quoted. | strconv.Quote is one to one, and what stands behind it is told too. -/
import Derived.Test.YtjcgkplphiedjaaDoorTG11
import Derived.Lib.QuoteLoop
namespace Go.Proofs.YtjcgkplphiedjaaDoorT
open Go.RowKit

def unhex (h : Int) : Int := if h < 58 then h - 48 else h - 87
theorem unhex_digit {x : Nat} (h : x < 16) : unhex (Lib.hexDigit x) = x := by
  unfold unhex Lib.hexDigit
  by_cases h1 : x < 10
  · rw [if_pos h1, if_pos (by omega)]; omega
  · rw [if_neg h1, if_neg (by omega)]; omega
/-- How long a code word is, by its first two bytes. -/
def clen : List Int → Nat
  | 92 :: c :: _ => if c = 120 then 4 else if c = 117 then 6 else if c = 85 then 10 else 2
  | c :: _ => if c < 128 then 1 else if c < 224 then 2 else if c < 240 then 3 else 4
  | [] => 0
theorem clen_esc (c : Int) (X : List Int) : clen (92 :: c :: X) = if c = 120 then 4 else if c = 117 then 6 else if c = 85 then 10 else 2 := by
  unfold clen; rfl
theorem clen_one {c : Int} (h : c ≠ 92) (X : List Int) : clen (c :: X) = if c < 128 then 1 else if c < 224 then 2 else if c < 240 then 3 else 4 := by
  unfold clen
  split
  · rename_i h1; simp only [List.cons.injEq] at h1; exact absurd h1.1 h
  · rename_i h1; simp only [List.cons.injEq] at h1; rw [h1.1]
  · rename_i h1; cases h1
/-- What a code word stands for. -/
def chunk (o : List Int) : List Int :=
  if o.headD 0 = 92 then
    (if o.getD 1 0 = 120 then [unhex (o.getD 2 0) * 16 + unhex (o.getD 3 0)]
    else if o.getD 1 0 = 117 then Lib.encodeRuneZ (unhex (o.getD 2 0) * 4096 + unhex (o.getD 3 0) * 256 + unhex (o.getD 4 0) * 16 + unhex (o.getD 5 0))
    else if o.getD 1 0 = 85 then Lib.encodeRuneZ (unhex (o.getD 2 0) * 268435456 + unhex (o.getD 3 0) * 16777216 + unhex (o.getD 4 0) * 1048576 + unhex (o.getD 5 0) * 65536 + unhex (o.getD 6 0) * 4096 + unhex (o.getD 7 0) * 256 + unhex (o.getD 8 0) * 16 + unhex (o.getD 9 0))
    else if o.getD 1 0 = 97 then [7] else if o.getD 1 0 = 98 then [8] else if o.getD 1 0 = 102 then [12] else if o.getD 1 0 = 110 then [10] else if o.getD 1 0 = 114 then [13]
    else if o.getD 1 0 = 116 then [9] else if o.getD 1 0 = 118 then [11] else [o.getD 1 0])
  else o

theorem enc_small {r : Int} (h0 : 0 ≤ r) (h1 : r ≤ 127) : Lib.encodeRuneZ r = [r] := Lib.encodeRuneZ_one h0 h1
/-- A rune's bytes: their number, and that the first is no sign of an escape. -/
theorem enc_word {r : Int} (h0 : 0 ≤ r) (h1 : r ≠ 92) (h2 : r ≠ 34) : (Lib.encodeRuneZ r).headD 0 ≠ 92 ∧ (Lib.encodeRuneZ r).headD 0 ≠ 34 ∧ Lib.encodeRuneZ r ≠ [] ∧ (∀ X, clen (Lib.encodeRuneZ r ++ X) = (Lib.encodeRuneZ r).length) ∧ ∀ x ∈ Lib.encodeRuneZ r, 0 ≤ x ∧ x < 256 := by
  unfold Lib.encodeRuneZ
  split
  · refine ⟨h1, h2, by simp, fun X => ?_, ?_⟩
    · show clen (r :: X) = 1
      rw [clen_one h1, if_pos (by omega)]
    · intro x hx; simp only [List.mem_singleton] at hx; omega
  split
  · refine ⟨by show 192 + r / 64 ≠ 92; omega, by show 192 + r / 64 ≠ 34; omega, by simp, fun X => ?_, ?_⟩
    · show clen ((192 + r / 64) :: _) = 2
      rw [clen_one (by omega), if_neg (by omega), if_pos (by omega)]
    · intro x hx; simp only [List.mem_cons, List.not_mem_nil, or_false] at hx; omega
  split
  · refine ⟨by show 224 + r / 4096 ≠ 92; omega, by show 224 + r / 4096 ≠ 34; omega, by simp, fun X => ?_, ?_⟩
    · show clen ((224 + r / 4096) :: _) = 3
      rw [clen_one (by omega), if_neg (by omega), if_neg (by omega), if_pos (by omega)]
    · intro x hx; simp only [List.mem_cons, List.not_mem_nil, or_false] at hx; omega
  split
  · refine ⟨by show 240 + r / 262144 ≠ 92; omega, by show 240 + r / 262144 ≠ 34; omega, by simp, fun X => ?_, ?_⟩
    · show clen ((240 + r / 262144) :: _) = 4
      rw [clen_one (by omega), if_neg (by omega), if_neg (by omega), if_neg (by omega)]
    · intro x hx; simp only [List.mem_cons, List.not_mem_nil, or_false] at hx; omega
  · refine ⟨by decide, by decide, by simp, fun X => by rfl, ?_⟩
    intro x hx; simp only [List.mem_cons, List.not_mem_nil, or_false] at hx; omega

theorem hex_low {x : Nat} (h : x < 16) : 0 ≤ Lib.hexDigit x ∧ Lib.hexDigit x < 256 := by
  unfold Lib.hexDigit; split <;> omega
/-- A code word: its length by its first bytes; it begins with no quote; it tells its rune. -/
structure Word (o : List Int) (bytes : List Int) : Prop where
  len : ∀ X, clen (o ++ X) = o.length
  ne : o ≠ []
  head : o.headD 0 ≠ 34
  chunk : chunk o = bytes
  low : ∀ x ∈ o, 0 ≤ x ∧ x < 256

theorem word_x {v : Nat} (h : v < 256) : Word [92, 120, Lib.hexDigit (v / 16), Lib.hexDigit (v % 16)] [(v : Int)] := by
  refine ⟨fun X => by show clen (92 :: 120 :: _) = 4; rw [clen_esc, if_pos rfl], by simp, by show (92 : Int) ≠ 34; decide, ?_, ?_⟩
  · show (if (92 : Int) = 92 then (if (120 : Int) = 120 then [unhex (Lib.hexDigit (v / 16)) * 16 + unhex (Lib.hexDigit (v % 16))] else _) else _) = _
    rw [if_pos rfl, if_pos rfl, unhex_digit (by omega), unhex_digit (by omega)]
    congr 1; omega
  · have h1 := hex_low (show v / 16 < 16 by omega)
    have h2 := hex_low (show v % 16 < 16 by omega)
    intro x hx; simp only [List.mem_cons, List.not_mem_nil, or_false] at hx
    rcases hx with rfl | rfl | rfl | rfl <;> omega
theorem word_2 {c r : Int} (h : (c = 34 ∧ r = 34) ∨ (c = 92 ∧ r = 92) ∨ (c = 97 ∧ r = 7) ∨ (c = 98 ∧ r = 8) ∨ (c = 102 ∧ r = 12) ∨ (c = 110 ∧ r = 10) ∨ (c = 114 ∧ r = 13) ∨ (c = 116 ∧ r = 9) ∨ (c = 118 ∧ r = 11)) : Word [92, c] [r] := by
  rcases h with ⟨rfl, rfl⟩ | ⟨rfl, rfl⟩ | ⟨rfl, rfl⟩ | ⟨rfl, rfl⟩ | ⟨rfl, rfl⟩ | ⟨rfl, rfl⟩ | ⟨rfl, rfl⟩ | ⟨rfl, rfl⟩ | ⟨rfl, rfl⟩
  all_goals exact ⟨fun X => rfl, by simp, by decide, by decide, by decide⟩
theorem word_rune (T : Lib.PrintTabs) {r : Nat} (hv : Lib.validRune (r : Int) = true) (hm : r ≤ 1114111) : Word (Lib.escRune T (r : Int)) (Lib.encodeRuneZ (r : Int)) := by
  have HV := Lib.hid hv
  clear hv
  have hE : (r : Int) ≤ 127 → Lib.encodeRuneZ (r : Int) = [(r : Int)] := fun h => enc_small (by omega) h
  unfold Lib.escRune
  by_cases c0 : (r : Int) = 34 ∨ (r : Int) = 92
  · rw [if_pos c0, hE (by omega)]
    rcases c0 with h | h
    · exact word_2 (.inl ⟨h, h⟩)
    · exact word_2 (.inr (.inl ⟨h, h⟩))
  rw [if_neg c0]
  by_cases c1 : Lib.isPrintR T (r : Int) = true
  · rw [if_pos c1]
    obtain ⟨h1, h2, h3, h4, h5⟩ := enc_word (r := (r : Int)) (by omega) (by omega) (by omega)
    exact ⟨h4, h3, h2, if_neg h1, h5⟩
  rw [if_neg c1]
  by_cases c2 : (r : Int) = 7
  · rw [if_pos c2, hE (by omega)]; exact word_2 (.inr (.inr (.inl ⟨rfl, c2⟩)))
  rw [if_neg c2]
  by_cases c3 : (r : Int) = 8
  · rw [if_pos c3, hE (by omega)]; exact word_2 (.inr (.inr (.inr (.inl ⟨rfl, c3⟩))))
  rw [if_neg c3]
  by_cases c4 : (r : Int) = 12
  · rw [if_pos c4, hE (by omega)]; exact word_2 (.inr (.inr (.inr (.inr (.inl ⟨rfl, c4⟩)))))
  rw [if_neg c4]
  by_cases c5 : (r : Int) = 10
  · rw [if_pos c5, hE (by omega)]; exact word_2 (.inr (.inr (.inr (.inr (.inr (.inl ⟨rfl, c5⟩))))))
  rw [if_neg c5]
  by_cases c6 : (r : Int) = 13
  · rw [if_pos c6, hE (by omega)]; exact word_2 (.inr (.inr (.inr (.inr (.inr (.inr (.inl ⟨rfl, c6⟩)))))))
  rw [if_neg c6]
  by_cases c7 : (r : Int) = 9
  · rw [if_pos c7, hE (by omega)]; exact word_2 (.inr (.inr (.inr (.inr (.inr (.inr (.inr (.inl ⟨rfl, c7⟩))))))))
  rw [if_neg c7]
  by_cases c8 : (r : Int) = 11
  · rw [if_pos c8, hE (by omega)]; exact word_2 (.inr (.inr (.inr (.inr (.inr (.inr (.inr (.inr ⟨rfl, c8⟩))))))))
  rw [if_neg c8]
  by_cases c9 : (r : Int) < 32 ∨ (r : Int) = 127
  · rw [if_pos c9, hE (by omega)]
    have := word_x (v := r) (by omega)
    rwa [Int.toNat_natCast]
  rw [if_neg c9, if_neg (by rw [HV.out]; decide)]
  by_cases c11 : (r : Int) < 65536
  · rw [if_pos c11, Int.toNat_natCast]
    refine ⟨fun X => by show clen (92 :: 117 :: _) = 6; rw [clen_esc, if_neg (by decide), if_pos rfl], by simp, by show (92 : Int) ≠ 34; decide, ?_, ?_⟩
    · show (if (92 : Int) = 92 then (if (117 : Int) = 120 then _ else if (117 : Int) = 117 then Lib.encodeRuneZ (unhex (Lib.hexDigit (r / 16 ^ 3 % 16)) * 4096 + unhex (Lib.hexDigit (r / 16 ^ 2 % 16)) * 256 + unhex (Lib.hexDigit (r / 16 ^ 1 % 16)) * 16 + unhex (Lib.hexDigit (r / 16 ^ 0 % 16))) else _) else _) = _
      rw [if_pos rfl, if_neg (by decide), if_pos rfl, unhex_digit (by omega), unhex_digit (by omega), unhex_digit (by omega), unhex_digit (by omega)]
      refine congrArg Lib.encodeRuneZ ?_
      simp only [Nat.reducePow, Nat.div_one]
      omega
    · intro x hx
      simp only [Lib.hexDigits, List.mem_cons, List.not_mem_nil, or_false] at hx
      rcases hx with rfl | rfl | rfl | rfl | rfl | rfl
      · omega
      · omega
      all_goals exact hex_low (by omega)
  · rw [if_neg c11, Int.toNat_natCast]
    refine ⟨fun X => by show clen (92 :: 85 :: _) = 10; rw [clen_esc, if_neg (by decide), if_neg (by decide), if_pos rfl], by simp, by show (92 : Int) ≠ 34; decide, ?_, ?_⟩
    · show (if (92 : Int) = 92 then (if (85 : Int) = 120 then _ else if (85 : Int) = 117 then _ else if (85 : Int) = 85 then Lib.encodeRuneZ (unhex (Lib.hexDigit (r / 16 ^ 7 % 16)) * 268435456 + unhex (Lib.hexDigit (r / 16 ^ 6 % 16)) * 16777216 + unhex (Lib.hexDigit (r / 16 ^ 5 % 16)) * 1048576 + unhex (Lib.hexDigit (r / 16 ^ 4 % 16)) * 65536 + unhex (Lib.hexDigit (r / 16 ^ 3 % 16)) * 4096 + unhex (Lib.hexDigit (r / 16 ^ 2 % 16)) * 256 + unhex (Lib.hexDigit (r / 16 ^ 1 % 16)) * 16 + unhex (Lib.hexDigit (r / 16 ^ 0 % 16))) else _) else _) = _
      rw [if_pos rfl, if_neg (by decide), if_neg (by decide), if_pos rfl]
      rw [unhex_digit (by omega), unhex_digit (by omega), unhex_digit (by omega), unhex_digit (by omega), unhex_digit (by omega), unhex_digit (by omega), unhex_digit (by omega), unhex_digit (by omega)]
      refine congrArg Lib.encodeRuneZ ?_
      simp only [Nat.reducePow, Nat.div_one]
      omega
    · intro x hx
      simp only [Lib.hexDigits, List.mem_cons, List.not_mem_nil, or_false] at hx
      rcases hx with rfl | rfl | rfl | rfl | rfl | rfl | rfl | rfl | rfl | rfl
      · omega
      · omega
      all_goals exact hex_low (by omega)
end Go.Proofs.YtjcgkplphiedjaaDoorT

namespace Go.Proofs.YtjcgkplphiedjaaDoorT
open Go.RowKit

def ints (s : ByteArray) : List Int := s.toList.map fun b => (b.toNat : Int)
theorem ints_length (s : ByteArray) : (ints s).length = s.size := by rw [ints, List.length_map, ← toList_size]
theorem ints_take (s : ByteArray) (k : Nat) (h : k ≤ s.size) : (ints s).take k = (List.range k).map fun j => ((s.get! j).toNat : Int) := by
  apply List.ext_getElem
  · rw [List.length_take, ints_length, List.length_map, List.length_range]; omega
  · intro j h1 h2
    rw [List.length_take, ints_length] at h1
    have e : s.get! j = s.toList[j]'(by rw [← toList_size]; omega) := by
      cases s with
      | mk d =>
        have : (⟨d⟩ : ByteArray).toList = d.toList := ByteArray.toList_eq _
        simp only [this]
        have hj : j < d.size := by have : d.size = (⟨d⟩ : ByteArray).size := rfl; omega
        show d[j]! = _
        rw [getElem!_pos d j hj]
        simp
    simp only [List.getElem_take, ints, List.getElem_map, List.getElem_range]
    rw [e]
theorem enc_decode (n b0 b1 b2 b3 : Nat) (h0 : b0 < 256) (_h1 : b1 < 256) (h2 : b2 < 256) (hb : ¬ ((Lib.decodeN n b0 b1 b2 b3).2 = 1 ∧ (Lib.decodeN n b0 b1 b2 b3).1 = 65533)) :
    Lib.encodeRuneZ ((Lib.decodeN n b0 b1 b2 b3).1 : Int) = ([(b0 : Int), b1, b2, b3]).take (Lib.decodeN n b0 b1 b2 b3).2 := by
  unfold Lib.decodeN at hb ⊢
  by_cases c0 : b0 < 128
  · rw [if_pos c0]
    exact enc_small (by omega) (by omega)
  rw [if_neg c0] at hb ⊢
  by_cases c1 : b0 / 32 = 6 ∧ (1 < n ∧ b1 / 64 = 2)
  · rw [if_pos c1] at hb ⊢
    by_cases d : b0 % 32 * 64 + b1 % 64 ≥ 128
    · rw [if_pos d]
      show Lib.encodeRuneZ _ = [(b0 : Int), b1]
      rw [Lib.encodeRuneZ_two (by omega) (by omega)]
      congr 1
      · omega
      · congr 1; omega
    · rw [if_neg d] at hb; exact absurd ⟨rfl, rfl⟩ hb
  rw [if_neg c1] at hb ⊢
  by_cases c2 : b0 / 16 = 14 ∧ (1 < n ∧ b1 / 64 = 2) ∧ (2 < n ∧ b2 / 64 = 2)
  · rw [if_pos c2] at hb ⊢
    by_cases d : b0 % 16 * 4096 + b1 % 64 * 64 + b2 % 64 ≥ 2048 ∧ (b0 % 16 * 4096 + b1 % 64 * 64 + b2 % 64 < 55296 ∨ (57344 ≤ b0 % 16 * 4096 + b1 % 64 * 64 + b2 % 64 ∧ b0 % 16 * 4096 + b1 % 64 * 64 + b2 % 64 ≤ 1114111))
    · rw [if_pos d]
      show Lib.encodeRuneZ _ = [(b0 : Int), b1, b2]
      unfold Lib.encodeRuneZ
      rw [if_neg (by omega), if_neg (by omega), if_pos (by omega)]
      congr 1
      · omega
      · congr 1
        · omega
        · congr 1; omega
    · rw [if_neg d] at hb; exact absurd ⟨rfl, rfl⟩ hb
  rw [if_neg c2] at hb ⊢
  by_cases c3 : b0 / 8 = 30 ∧ (1 < n ∧ b1 / 64 = 2) ∧ (2 < n ∧ b2 / 64 = 2) ∧ (3 < n ∧ b3 / 64 = 2)
  · rw [if_pos c3] at hb ⊢
    by_cases d : b0 % 8 * 262144 + b1 % 64 * 4096 + b2 % 64 * 64 + b3 % 64 ≥ 65536 ∧ (b0 % 8 * 262144 + b1 % 64 * 4096 + b2 % 64 * 64 + b3 % 64 < 55296 ∨ (57344 ≤ b0 % 8 * 262144 + b1 % 64 * 4096 + b2 % 64 * 64 + b3 % 64 ∧ b0 % 8 * 262144 + b1 % 64 * 4096 + b2 % 64 * 64 + b3 % 64 ≤ 1114111))
    · rw [if_pos d]
      show Lib.encodeRuneZ _ = [(b0 : Int), b1, b2, b3]
      unfold Lib.encodeRuneZ
      rw [if_neg (by omega), if_neg (by omega), if_neg (by omega), if_pos (by omega)]
      congr 1
      · omega
      · congr 1
        · omega
        · congr 1
          · omega
          · congr 1; omega
    · rw [if_neg d] at hb; exact absurd ⟨rfl, rfl⟩ hb
  · rw [if_neg c3] at hb; exact absurd ⟨rfl, rfl⟩ hb
theorem width_pos (s : ByteArray) : 1 ≤ (Utf8.decode s 0).2 ∧ (Utf8.decode s 0).2 ≤ 4 := by
  rw [Lib.decode_at]
  unfold Lib.decodeN
  repeat' split
  all_goals (simp only; omega)
theorem rune_top (s : ByteArray) : (Utf8.decode s 0).1 ≤ 1114111 := by
  rw [Lib.decode_at]
  have := Lib.decodeN_valid (s.size - 0) (s.get! 0).toNat (s.get! (0 + 1)).toNat (s.get! (0 + 2)).toNat (s.get! (0 + 3)).toNat (UInt8.toNat_lt _)
  omega

theorem word_step (T : Lib.PrintTabs) (s : ByteArray) (h : 0 < s.size) : Word (Lib.quoteStep T s) ((ints s).take (Utf8.decode s 0).2) := by
  have hw := Lib.width_le s h
  unfold Lib.quoteStep
  by_cases hb : (Utf8.decode s 0).2 = 1 ∧ (Utf8.decode s 0).1 = 65533
  · rw [if_pos hb, hb.1, ints_take s 1 (by omega)]
    exact word_x (v := (s.get! 0).toNat) (UInt8.toNat_lt _)
  · rw [if_neg hb]
    have hr := word_rune T (Lib.rune_valid s) (rune_top s)
    have e : Lib.encodeRuneZ ((Utf8.decode s 0).1 : Int) = (ints s).take (Utf8.decode s 0).2 := by
      rw [ints_take s _ hw]
      have hp := width_pos s
      rw [Lib.decode_at] at hb hp ⊢
      rw [enc_decode _ _ _ _ _ (UInt8.toNat_lt _) (UInt8.toNat_lt _) (UInt8.toNat_lt _) hb]
      generalize (Lib.decodeN (s.size - 0) (s.get! 0).toNat (s.get! (0 + 1)).toNat (s.get! (0 + 2)).toNat (s.get! (0 + 3)).toNat).2 = k at hp
      match k, hp with
      | 1, _ => rfl
      | 2, _ => rfl
      | 3, _ => rfl
      | 4, _ => rfl
    rw [e] at hr
    exact hr

theorem rest_list (s : ByteArray) (k : Nat) (h : k ≤ s.size) : (s.extract k s.size).toList = s.toList.drop k := by
  rw [ByteArray.toList_eq, ByteArray.toList_eq, ByteArray.data_extract, Array.toList_extract]
  have : s.size = s.data.toList.length := by simp
  rw [List.extract_eq_take_drop, List.take_of_length_le (by rw [List.length_drop]; omega)]
theorem toNat_map {a b : List UInt8} (h : (a.map fun x => (x.toNat : Int)) = b.map fun x => (x.toNat : Int)) : a = b := by
  induction a generalizing b with
  | nil => cases b with
    | nil => rfl
    | cons y b => cases h
  | cons x a ih =>
    cases b with
    | nil => cases h
    | cons y b =>
      simp only [List.map_cons, List.cons.injEq] at h
      rw [ih h.2, UInt8.toNat_inj.1 (by omega : x.toNat = y.toNat)]
theorem quoteFrom_low (T : Lib.PrintTabs) : ∀ (f : Nat) (s : ByteArray), s.size ≤ f → ∀ x ∈ Lib.quoteFrom T f s, 0 ≤ x ∧ x < 256
  | 0, s, _ => by intro x hx; cases hx
  | f + 1, s, hf => by
    intro x hx
    rcases Nat.eq_zero_or_pos s.size with h | h
    · rw [Lib.quoteFrom_end T _ s (by omega)] at hx; cases hx
    · rw [Lib.quoteFrom_step T _ s h hf] at hx
      rcases List.mem_append.1 hx with hx | hx
      · exact (word_step T s h).low x hx
      · exact quoteFrom_low T f _ (by rw [Lib.size_rest]; have := width_pos s; omega) x hx
theorem quoteFrom_inj (T : Lib.PrintTabs) : ∀ (f f' : Nat) (s s' : ByteArray) (X X' : List Int), s.size ≤ f → s'.size ≤ f' → Lib.quoteFrom T f s ++ 34 :: X = Lib.quoteFrom T f' s' ++ 34 :: X' → s.toList = s'.toList ∧ X = X' := by
  intro f
  induction f with
  | zero =>
    intro f' s s' X X' h1 h2 h
    rw [Lib.quoteFrom_end T _ s (by omega)] at h
    rcases Nat.eq_zero_or_pos s'.size with h3 | h3
    · rw [Lib.quoteFrom_end T _ s' (by omega)] at h
      have e1 : s.toList = [] := List.eq_nil_of_length_eq_zero (by rw [← toList_size]; omega)
      have e2 : s'.toList = [] := List.eq_nil_of_length_eq_zero (by rw [← toList_size]; omega)
      exact ⟨e1.trans e2.symm, by simpa using h⟩
    · rw [Lib.quoteFrom_step T _ s' h3 h2] at h
      have hw := word_step T s' h3
      exfalso
      apply hw.head
      have hne := hw.ne
      generalize Lib.quoteStep T s' = o at *
      cases o with
      | nil => exact absurd rfl hne
      | cons a o => simp only [List.nil_append, List.cons_append, List.cons.injEq] at h; exact h.1.symm
  | succ f ih =>
    intro f' s s' X X' h1 h2 h
    rcases Nat.eq_zero_or_pos s.size with h4 | h4
    · rw [Lib.quoteFrom_end T _ s (by omega)] at h
      rcases Nat.eq_zero_or_pos s'.size with h3 | h3
      · rw [Lib.quoteFrom_end T _ s' (by omega)] at h
        have e1 : s.toList = [] := List.eq_nil_of_length_eq_zero (by rw [← toList_size]; omega)
        have e2 : s'.toList = [] := List.eq_nil_of_length_eq_zero (by rw [← toList_size]; omega)
        exact ⟨e1.trans e2.symm, by simpa using h⟩
      · rw [Lib.quoteFrom_step T _ s' h3 h2] at h
        have hw := word_step T s' h3
        exfalso
        apply hw.head
        have hne := hw.ne
        generalize Lib.quoteStep T s' = o at *
        cases o with
        | nil => exact absurd rfl hne
        | cons a o => simp only [List.nil_append, List.cons_append, List.cons.injEq] at h; exact h.1.symm
    · rw [Lib.quoteFrom_step T _ s h4 h1] at h
      rcases Nat.eq_zero_or_pos s'.size with h3 | h3
      · rw [Lib.quoteFrom_end T _ s' (by omega)] at h
        have hw := word_step T s h4
        exfalso
        apply hw.head
        have hne := hw.ne
        generalize Lib.quoteStep T s = o at *
        cases o with
        | nil => exact absurd rfl hne
        | cons a o => simp only [List.nil_append, List.cons_append, List.cons.injEq] at h; exact h.1
      · rw [Lib.quoteFrom_step T _ s' h3 h2, List.append_assoc, List.append_assoc] at h
        have w1 := word_step T s h4
        have w2 := word_step T s' h3
        have hl : (Lib.quoteStep T s).length = (Lib.quoteStep T s').length := by
          rw [← w1.len (Lib.quoteFrom T (f + 1 - 1) (s.extract (Utf8.decode s 0).2 s.size) ++ 34 :: X), h, w2.len]
        obtain ⟨e1, e2⟩ := List.append_inj h hl
        have hc : (ints s).take (Utf8.decode s 0).2 = (ints s').take (Utf8.decode s' 0).2 := by rw [← w1.chunk, ← w2.chunk, e1]
        have hk1 := Lib.width_le s h4
        have hk2 := Lib.width_le s' h3
        have p1 := width_pos s
        have p2 := width_pos s'
        have hww : (Utf8.decode s 0).2 = (Utf8.decode s' 0).2 := by
          have := congrArg List.length hc
          rw [List.length_take, List.length_take, ints_length, ints_length] at this
          omega
        obtain ⟨r1, r2⟩ := ih (f' - 1) _ _ X X' (by rw [Lib.size_rest]; omega) (by rw [Lib.size_rest]; omega) e2
        refine ⟨?_, r2⟩
        rw [rest_list s _ hk1, rest_list s' _ hk2, ← hww] at r1
        rw [← hww] at hc
        unfold ints at hc
        rw [← List.map_take, ← List.map_take] at hc
        rw [← List.take_append_drop (Utf8.decode s 0).2 s.toList, toNat_map hc, r1, List.take_append_drop]
/-- A quoted text, as bytes. -/
def qB (T : Lib.PrintTabs) (s : ByteArray) : List UInt8 := (strOfNums (Lib.quoteZ T s)).toList
theorem qB_ints (T : Lib.PrintTabs) (s : ByteArray) : ((qB T s).map fun x => (x.toNat : Int)) = Lib.quoteZ T s := by
  have hl : ∀ x ∈ Lib.quoteZ T s, 0 ≤ x ∧ x < 256 := by
    intro x hx
    unfold Lib.quoteZ at hx
    rcases List.mem_cons.1 hx with rfl | hx
    · omega
    · rcases List.mem_append.1 hx with hx | hx
      · exact quoteFrom_low T _ s (Nat.le_refl _) x hx
      · simp only [List.mem_singleton] at hx; omega
  unfold qB strOfNums
  rw [mk_list, List.map_map]
  generalize Lib.quoteZ T s = l at hl
  induction l with
  | nil => rfl
  | cons x l ih =>
    have h1 := hl x (by simp)
    rw [List.map_cons, ih fun y hy => hl y (List.mem_cons_of_mem _ hy)]
    congr 1
    show ((UInt8.ofNat x.toNat).toNat : Int) = x
    rw [UInt8.toNat_ofNat']
    omega
theorem qB_inj {T : Lib.PrintTabs} {s s' : ByteArray} {X X' : List UInt8} (h : qB T s ++ X = qB T s' ++ X') : s = s' ∧ X = X' := by
  have h1 := congrArg (fun l : List UInt8 => l.map fun x => (x.toNat : Int)) h
  simp only [List.map_append, qB_ints] at h1
  unfold Lib.quoteZ at h1
  simp only [List.cons_append, List.append_assoc, List.cons.injEq, true_and, List.nil_append] at h1
  obtain ⟨e1, e2⟩ := quoteFrom_inj T _ _ s s' _ _ (Nat.le_refl _) (Nat.le_refl _) h1
  exact ⟨list_eq e1, toNat_map e2⟩

theorem digit_of {k : Nat} (h : k < 10) : (UInt8.ofNat (48 + k)).toNat = 48 + k := by rw [UInt8.toNat_ofNat']; omega
theorem dec_low : ∀ (n : Nat), ∀ b ∈ Lib.decDigits n, 48 ≤ b.toNat ∧ b.toNat ≤ 57 := by
  intro n
  induction n using Nat.strongRecOn with
  | _ n ih =>
    intro b hb
    rw [dec_step] at hb
    rcases List.mem_append.1 hb with hb | hb
    · split at hb
      · cases hb
      · exact ih (n / 10) (by omega) b hb
    · simp only [List.mem_singleton] at hb
      rw [hb, digit_of (Nat.mod_lt _ (by omega))]
      omega
theorem itoa_low (n : Int) : ∀ b ∈ Lib.itoa n, b ≠ 32 := by
  intro b hb
  rcases Int.lt_or_le n 0 with h | h
  · obtain ⟨u, rfl⟩ : ∃ u : Nat, n = -(u : Int) := ⟨n.natAbs, by omega⟩
    rw [Lib.itoa_neg u (by omega)] at hb
    rcases List.mem_cons.1 hb with rfl | hb
    · decide
    · have := dec_low u b hb
      rintro rfl
      have e : (32 : UInt8).toNat = 32 := rfl
      omega
  · obtain ⟨u, rfl⟩ : ∃ u : Nat, n = u := ⟨n.toNat, by omega⟩
    rw [Lib.itoa_nonneg] at hb
    have := dec_low u b hb
    rintro rfl
    have e : (32 : UInt8).toNat = 32 := rfl
    omega
/-- The number that digits say. -/
def valD (l : List UInt8) : Nat := l.foldl (fun a b => a * 10 + (b.toNat - 48)) 0
theorem val_dec : ∀ n : Nat, valD (Lib.decDigits n) = n := by
  intro n
  induction n using Nat.strongRecOn with
  | _ n ih =>
    have e : valD (Lib.decDigits n) = valD (if n < 10 then [] else Lib.decDigits (n / 10)) * 10 + ((UInt8.ofNat (48 + n % 10)).toNat - 48) := by
      conv => lhs; rw [dec_step n]
      unfold valD
      rw [List.foldl_append]; rfl
    rw [e, digit_of (Nat.mod_lt _ (by omega))]
    by_cases h : n < 10
    · rw [if_pos h]; show 0 * 10 + _ = _; omega
    · rw [if_neg h, ih (n / 10) (by omega)]; omega
theorem itoa_inj {a b : Int} (h : Lib.itoa a = Lib.itoa b) : a = b := by
  rcases Int.lt_or_le a 0 with ha | ha
  · obtain ⟨u, rfl⟩ : ∃ u : Nat, a = -(u : Int) := ⟨a.natAbs, by omega⟩
    rw [Lib.itoa_neg u (by omega)] at h
    rcases Int.lt_or_le b 0 with hb | hb
    · obtain ⟨v, rfl⟩ : ∃ v : Nat, b = -(v : Int) := ⟨b.natAbs, by omega⟩
      rw [Lib.itoa_neg v (by omega)] at h
      simp only [List.cons.injEq, true_and] at h
      have := congrArg valD h
      rw [val_dec, val_dec] at this
      omega
    · obtain ⟨v, rfl⟩ : ∃ v : Nat, b = v := ⟨b.toNat, by omega⟩
      rw [Lib.itoa_nonneg] at h
      have hm : (45 : UInt8) ∈ Lib.decDigits v := by rw [← h]; simp
      have := dec_low v _ hm
      have e : (45 : UInt8).toNat = 45 := rfl
      omega
  · obtain ⟨u, rfl⟩ : ∃ u : Nat, a = u := ⟨a.toNat, by omega⟩
    rw [Lib.itoa_nonneg] at h
    rcases Int.lt_or_le b 0 with hb | hb
    · obtain ⟨v, rfl⟩ : ∃ v : Nat, b = -(v : Int) := ⟨b.natAbs, by omega⟩
      rw [Lib.itoa_neg v (by omega)] at h
      have hm : (45 : UInt8) ∈ Lib.decDigits u := by rw [h]; simp
      have := dec_low u _ hm
      have e : (45 : UInt8).toNat = 45 := rfl
      omega
    · obtain ⟨v, rfl⟩ : ∃ v : Nat, b = v := ⟨b.toNat, by omega⟩
      rw [Lib.itoa_nonneg] at h
      have := congrArg valD h
      rw [val_dec, val_dec] at this
      omega
theorem tok_inj : ∀ {a b X X' : List UInt8}, (∀ x ∈ a, x ≠ 32) → (∀ x ∈ b, x ≠ 32) → a ++ 32 :: X = b ++ 32 :: X' → a = b ∧ X = X'
  | [], [], X, X', _, _, h => by simpa using h
  | [], y :: b, X, X', _, hb, h => by
    simp only [List.nil_append, List.cons_append, List.cons.injEq] at h
    exact absurd h.1.symm (hb y (by simp))
  | x :: a, [], X, X', ha, _, h => by
    simp only [List.nil_append, List.cons_append, List.cons.injEq] at h
    exact absurd h.1 (ha x (by simp))
  | x :: a, y :: b, X, X', ha, hb, h => by
    simp only [List.cons_append, List.cons.injEq] at h
    obtain ⟨h1, h2⟩ := tok_inj (fun z hz => ha z (List.mem_cons_of_mem _ hz)) (fun z hz => hb z (List.mem_cons_of_mem _ hz)) h.2
    exact ⟨by rw [h.1, h1], h2⟩

/-- A constant in a key; a fact's key. -/
def argB (T : Lib.PrintTabs) (z : Cn) : List UInt8 := 32 :: ((it z.k).toList ++ 32 :: ((it z.i).toList ++ 32 :: qB T z.t))
def keyB (T : Lib.PrintTabs) (p : ByteArray) (xs : List Cn) : List UInt8 := qB T p ++ xs.flatMap (argB T)
theorem args_inj {T : Lib.PrintTabs} : ∀ {xs ys : List Cn}, xs.flatMap (argB T) = ys.flatMap (argB T) → xs = ys
  | [], [], _ => rfl
  | [], y :: ys, h => by simp [argB] at h
  | x :: xs, [], h => by simp [argB] at h
  | x :: xs, y :: ys, h => by
    simp only [List.flatMap_cons, argB, List.cons_append, List.append_assoc, List.cons.injEq, true_and] at h
    unfold it at h
    rw [mk_list, mk_list, mk_list, mk_list] at h
    obtain ⟨h1, h2⟩ := tok_inj (itoa_low _) (itoa_low _) h
    obtain ⟨h3, h4⟩ := tok_inj (itoa_low _) (itoa_low _) h2
    obtain ⟨h5, h6⟩ := qB_inj h4
    obtain ⟨xk, xi, xt⟩ := x
    obtain ⟨yk, yi, yt⟩ := y
    have e1 : xk = yk := itoa_inj h1
    have e2 : xi = yi := itoa_inj h3
    have e3 : xt = yt := h5
    rw [e1, e2, e3, args_inj h6]
theorem keyB_inj {T : Lib.PrintTabs} {p q : ByteArray} {xs ys : List Cn} (h : keyB T p xs = keyB T q ys) : p = q ∧ xs = ys := by
  unfold keyB at h
  obtain ⟨h1, h2⟩ := qB_inj h
  exact ⟨h1, args_inj h2⟩
end Go.Proofs.YtjcgkplphiedjaaDoorT
