/- Constants' texts, the document's. -/
import Derived.Test.YtjcgkplphiedjaaDoorTH15
namespace Go.Proofs.YtjcgkplphiedjaaDoorT
open Go.RowKit

def inI (n : Int) : Prop := -9223372036854775808 ≤ n ∧ n ≤ 9223372036854775807
def it (n : Int) : ByteArray := ⟨(Lib.itoa n).toArray⟩
theorem it_size (n : Int) (h : inI n) : (it n).size ≤ 21 := itoa_size n h.1 h.2
theorem app_size (a b : ByteArray) : (a ++ b).size = a.size + b.size := by rw [toList_size, toList_append, List.length_append, ← toList_size, ← toList_size]

def quo (s : ByteArray) (l : List UInt8) : ByteArray := l.foldl (fun s b => s ++ letterS b) s
theorem quo_step (s t : ByteArray) (k : Nat) (h : k < t.size) : quo s (t.toList.drop k) = quo (s ++ letterS t[k]) (t.toList.drop (k + 1)) := by
  have hk : k < t.toList.length := by rw [← toList_size]; exact h
  have e : t.toList[k] = t[k] := by
    have : t.toList = t.data.toList := ByteArray.toList_eq t
    simp only [this]; rfl
  rw [List.drop_eq_getElem_cons hk, e]; rfl
theorem quo_end (s t : ByteArray) (k : Nat) (h : t.size ≤ k) : quo s (t.toList.drop k) = s := by
  rw [List.drop_eq_nil_of_le (by rw [← toList_size]; exact h)]; rfl
theorem quo_size : ∀ (l : List UInt8) (s : ByteArray), (quo s l).size ≤ s.size + 4 * l.length
  | [], s => by simp [quo]
  | b :: l, s => by
    have h := quo_size l (s ++ letterS b)
    have h2 := letterS_size b
    rw [app_size] at h
    show (quo (s ++ letterS b) l).size ≤ _
    rw [List.length_cons]; omega
def textS (k i : Int) (t : ByteArray) : ByteArray := if validC k i t = false then ⟨#[]⟩ else if k = 1 then it i else if k = 2 then t else quo ⟨#[34]⟩ t.toList ++ ⟨#[34]⟩
theorem textS_size (k i : Int) (t : ByteArray) (hi : inI i) : (textS k i t).size ≤ 1022 := by
  unfold textS
  split
  · show (0 : Nat) ≤ 1022; omega
  · rename_i hv
    unfold validC at hv
    split
    · have := it_size i hi; omega
    · rename_i k1
      rw [if_neg k1] at hv
      split
      · rename_i k2
        rw [if_pos k2] at hv
        have hn : isNameS t = true := by
          cases h : isNameS t with
          | true => rfl
          | false => rw [h] at hv; simp at hv
        unfold isNameS at hn
        simp only [Bool.and_eq_true, decide_eq_true_eq] at hn
        have := hn.1.1.1.2
        omega
      · rename_i k2
        rw [if_neg k2] at hv
        have hs : t.size ≤ 255 := by
          rcases Nat.lt_or_ge 255 t.size with h | h
          · exfalso
            apply hv
            split
            · rw [decide_eq_false (by omega : ¬ t.size ≤ 255), Bool.and_false]
            · rfl
          · exact h
        have h1 := quo_size t.toList ⟨#[34]⟩
        have h2 : (⟨#[34]⟩ : ByteArray).size = 1 := rfl
        rw [app_size, h2]
        rw [h2, ← toList_size] at h1
        omega

set_option maxRecDepth 20000 in
set_option maxHeartbeats 4000000 in
theorem text_const (k i : Int) (t : ByteArray) (hi : inI i) (hb : t.size ≤ 9223372036854775807) (w : World) :
    Calls Tryd.prog 32 #[.agg #[.int .i64 k, .int .i64 i, .string t]] w fun e w' => e = .returned (.string (textS k i t)) ∧ Below w.heap.size w w' := by
  have HV : Hid (textS k i t = if validC k i t = false then ⟨#[]⟩ else if k = 1 then it i else if k = 2 then t else quo ⟨#[34]⟩ t.toList ++ ⟨#[34]⟩) := Lib.hid rfl
  have HSZ : Hid ((textS k i t).size ≤ 1022) := Lib.hid (textS_size k i t hi)
  have HKV : Hid (∀ W, Calls Tryd.prog 52 #[.agg #[.int .i64 k, .int .i64 i, .string t]] W fun e w' => e = .returned (.bool (validC k i t)) ∧ Below W.heap.size W w') := Lib.hid (fun W => valid_ref k i t hb W)
  have HKD : Hid (∀ W, Calls Tryd.prog 53 #[.int .i64 i] W fun e w' => e = .returned (.string (it i)) ∧ Below W.heap.size W w') := Lib.hid (fun W => decimal01_any i hi.1 hi.2 W)
  have HVC : Hid (validC k i t = true → k ≠ 1 → k ≠ 2 → t.size ≤ 255) := Lib.hid (by
    intro hv k1 k2
    unfold validC at hv
    rw [if_neg k1, if_neg k2] at hv
    split at hv
    · rw [Bool.and_eq_true, decide_eq_true_eq, decide_eq_true_eq] at hv
      exact hv.2
    · cases hv)
  generalize textS k i t = v at *
  generalize validC k i t = vc at *
  go_enter Tryd.func32, Tryd.ntmps32
  go_upto_region 1 with (fail)
  have hb1 := (Below.refl w.heap.size w).alloc (Nat.le_refl _) (.cells #[.int .i64 k, .int .i64 i, .string t] 68)
  have h1 := Blk.new w 68 [.int .i64 k, .int .i64 i, .string t]
  generalize World.alloc _ _ = w1 at *
  generalize hR : w.heap.size = R at *
  have HRR := Lib.hid hR
  clear hR
  have HB1 := Lib.hid hb1
  have H1 := Lib.hid h1
  have f0 := h1.cell 0
  have f1 := h1.cell 1
  have f2 := h1.cell 2
  simp only [List.getElem?_cons_zero, List.getElem?_cons_succ] at f0 f1 f2
  have hs1 : R ≤ w1.heap.size := by have := h1.lt; omega
  clear h1 hb1
  have ka := HKV.out w1
  go_wp2_with fail
  refine ka.mono ?_
  rintro e w2 ⟨rfl, hb2⟩
  have HB2 := Lib.hid (HB1.out.trans (hb2.mono hs1))
  have H2 := Lib.hid (H1.out.below hb2 H1.out.lt)
  have hs2 : R ≤ w2.heap.size := Nat.le_trans hs1 hb2.size
  have g0 := H2.out.cell 0
  have g1 := H2.out.cell 1
  have g2 := H2.out.cell 2
  simp only [List.getElem?_cons_zero, List.getElem?_cons_succ] at g0 g1 g2
  clear ka hb2 HB1 H1 f0 f1 f2
  cases vc with
  | false =>
    have hz : v = ⟨#[]⟩ := by rw [HV.out, if_pos rfl]
    subst hz
    clear HV HSZ
    go_wp2
    go_ret
    exact ⟨by rfl, by rw [HRR.out]; exact HB2.out⟩
  | true =>
    by_cases k1 : k = 1
    · subst k1
      have hz : v = it i := by rw [HV.out, if_neg (by simp), if_pos rfl]
      subst hz
      clear HV HSZ
      have kd := HKD.out w2
      go_wp2_with fail
      refine kd.mono ?_
      rintro e w3 ⟨rfl, hb3⟩
      have HB3 := Lib.hid (HB2.out.trans (hb3.mono hs2))
      go_wp2
      go_ret
      exact ⟨by rfl, by rw [HRR.out]; exact HB3.out⟩
    have t1 : (k == 1) = false := by simpa using k1
    by_cases k2 : k = 2
    · subst k2
      have hz : v = t := by rw [HV.out, if_neg (by simp), if_neg (by omega), if_pos rfl]
      subst hz
      clear HV HSZ k1
      go_wp2
      go_ret
      exact ⟨by rfl, by rw [HRR.out]; exact HB2.out⟩
    have t2 : (k == 2) = false := by simpa using k2
    have HV2 : Hid (quo ⟨#[34]⟩ (t.toList.drop 0) ++ ⟨#[34]⟩ = v) := Lib.hid (by rw [HV.out, if_neg (by simp), if_neg k1, if_neg k2]; rfl)
    have ht := HVC.out rfl k1 k2
    clear HV k1 k2 HVC
    go_upto_region 10 with (fail)
    clear g0 g1 g2
    go_loopg [3, 4] t.size (fun gk u3 u4 wr => ∃ (j : Nat) (s : ByteArray), u4 = .int .i64 j ∧ u3 = .string s ∧ j ≤ t.size ∧ s.size ≤ 1 + 4 * j ∧ Hid (gk = t.size - j) ∧ Hid (Below R w wr) ∧ Hid (Blk wr R 68 [.int .i64 k, .int .i64 i, .string t]) ∧ Hid (quo s (t.toList.drop j) ++ ⟨#[34]⟩ = v))
    case atStart => exact ⟨0, ⟨#[34]⟩, rfl, rfl, Nat.zero_le _, by show (1 : Nat) ≤ 1; omega, Lib.hid (by omega), HB2, H2, HV2⟩
    case round =>
      clear HB2 H2 HV2
      obtain ⟨j, s, rfl, rfl, hj, hsz, HG, HB, H2, HV⟩ := hrel
      have g2 := H2.out.cell 2
      simp only [List.getElem?_cons_zero, List.getElem?_cons_succ] at g2
      by_cases hlt : j < t.size
      · have HS : Hid (quo (s ++ letterS t[j]) (t.toList.drop (j + 1)) ++ ⟨#[34]⟩ = v) := Lib.hid (by rw [← HV.out, quo_step s t j hlt])
        have kl := letter_ref t[j] wr
        have hl4 := letterS_size t[j]
        have hsz2 : (s ++ letterS t[j]).size ≤ 1 + 4 * (j + 1) := by rw [app_size]; omega
        generalize hE : letterS t[j] = y at *
        clear hE HV
        go_wp2_with fail
        refine kl.mono ?_
        rintro e w3 ⟨rfl, hb3⟩
        have HB3 := Lib.hid (HB.out.trans (hb3.mono (by have := HB.out.size; rw [HRR.out] at this; exact this)))
        have H3 := Lib.hid (H2.out.below hb3 H2.out.lt)
        clear kl hb3 HB H2 g2
        go_wp2
        go_roundg (t.size - (j + 1))
        case measure => have := HG.out; omega
        case rel => exact ⟨j + 1, s ++ y, by go_num, rfl, by omega, hsz2, Lib.hid rfl, HB3, H3, HS⟩
      · have hz : s ++ ⟨#[34]⟩ = v := by rw [← HV.out, quo_end s t j (by omega)]
        have h1 : (⟨#[34]⟩ : ByteArray).size = 1 := rfl
        subst hz
        clear HV HSZ
        go_wp2
        go_ret
        exact ⟨by rfl, by rw [HRR.out]; exact HB.out⟩

end Go.Proofs.YtjcgkplphiedjaaDoorT
