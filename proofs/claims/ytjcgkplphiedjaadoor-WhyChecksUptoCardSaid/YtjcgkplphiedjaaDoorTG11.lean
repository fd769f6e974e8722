/- Constants' texts, the document's. | Lists' texts, the document's. | Texts of facts and of lines, plain. -/
import Derived.Test.YtjcgkplphiedjaaDoorTG10
namespace Go.Proofs.YtjcgkplphiedjaaDoorT
open Go.RowKit

def inI (n : Int) : Prop := -9223372036854775808 ≤ n ∧ n ≤ 9223372036854775807
def it (n : Int) : ByteArray := ⟨(Lib.itoa n).toArray⟩
theorem it_size (n : Int) (h : inI n) : (it n).size ≤ 21 := itoa_size n h.1 h.2
theorem app_size (a b : ByteArray) : (a ++ b).size = a.size + b.size := by rw [toList_size, toList_append, List.length_append, ← toList_size, ← toList_size]

def quo (s : ByteArray) (l : List UInt8) : ByteArray := l.foldl (fun s b => s ++ letterS b) s
theorem quo_step (s t : ByteArray) (k : Nat) (h : k < t.size) : quo s (t.toList.drop k) = quo (s ++ letterS t[k]) (t.toList.drop (k + 1)) := by
  have hk : k < t.toList.length := by rw [← toList_size]; exact h
  have e : t.toList[k] = t[k] := by
    have : t.toList = t.data.toList := ByteArray.toList_eq t
    simp only [this]; rfl
  rw [List.drop_eq_getElem_cons hk, e]; rfl
theorem quo_end (s t : ByteArray) (k : Nat) (h : t.size ≤ k) : quo s (t.toList.drop k) = s := by
  rw [List.drop_eq_nil_of_le (by rw [← toList_size]; exact h)]; rfl
theorem quo_size : ∀ (l : List UInt8) (s : ByteArray), (quo s l).size ≤ s.size + 4 * l.length
  | [], s => by simp [quo]
  | b :: l, s => by
    have h := quo_size l (s ++ letterS b)
    have h2 := letterS_size b
    rw [app_size] at h
    show (quo (s ++ letterS b) l).size ≤ _
    rw [List.length_cons]; omega
def textS (k i : Int) (t : ByteArray) : ByteArray := if validC k i t = false then ⟨#[]⟩ else if k = 1 then it i else if k = 2 then t else quo ⟨#[34]⟩ t.toList ++ ⟨#[34]⟩
theorem textS_size (k i : Int) (t : ByteArray) (hi : inI i) : (textS k i t).size ≤ 1022 := by
  unfold textS
  split
  · show (0 : Nat) ≤ 1022; omega
  · rename_i hv
    unfold validC at hv
    split
    · have := it_size i hi; omega
    · rename_i k1
      rw [if_neg k1] at hv
      split
      · rename_i k2
        rw [if_pos k2] at hv
        have hn : isNameS t = true := by
          cases h : isNameS t with
          | true => rfl
          | false => rw [h] at hv; simp at hv
        unfold isNameS at hn
        simp only [Bool.and_eq_true, decide_eq_true_eq] at hn
        have := hn.1.1.1.2
        omega
      · rename_i k2
        rw [if_neg k2] at hv
        have hs : t.size ≤ 255 := by
          rcases Nat.lt_or_ge 255 t.size with h | h
          · exfalso
            apply hv
            split
            · rw [decide_eq_false (by omega : ¬ t.size ≤ 255), Bool.and_false]
            · rfl
          · exact h
        have h1 := quo_size t.toList ⟨#[34]⟩
        have h2 : (⟨#[34]⟩ : ByteArray).size = 1 := rfl
        rw [app_size, h2]
        rw [h2, ← toList_size] at h1
        omega

set_option maxRecDepth 20000 in
set_option maxHeartbeats 4000000 in
theorem text_const (k i : Int) (t : ByteArray) (hi : inI i) (hb : t.size ≤ 9223372036854775807) (w : World) :
    Calls Tryd.prog 32 #[.agg #[.int .i64 k, .int .i64 i, .string t]] w fun e w' => e = .returned (.string (textS k i t)) ∧ Below w.heap.size w w' := by
  have HV : Hid (textS k i t = if validC k i t = false then ⟨#[]⟩ else if k = 1 then it i else if k = 2 then t else quo ⟨#[34]⟩ t.toList ++ ⟨#[34]⟩) := Lib.hid rfl
  have HSZ : Hid ((textS k i t).size ≤ 1022) := Lib.hid (textS_size k i t hi)
  have HKV : Hid (∀ W, Calls Tryd.prog 52 #[.agg #[.int .i64 k, .int .i64 i, .string t]] W fun e w' => e = .returned (.bool (validC k i t)) ∧ Below W.heap.size W w') := Lib.hid (fun W => valid_ref k i t hb W)
  have HKD : Hid (∀ W, Calls Tryd.prog 53 #[.int .i64 i] W fun e w' => e = .returned (.string (it i)) ∧ Below W.heap.size W w') := Lib.hid (fun W => decimal01_any i hi.1 hi.2 W)
  have HVC : Hid (validC k i t = true → k ≠ 1 → k ≠ 2 → t.size ≤ 255) := Lib.hid (by
    intro hv k1 k2
    unfold validC at hv
    rw [if_neg k1, if_neg k2] at hv
    split at hv
    · rw [Bool.and_eq_true, decide_eq_true_eq, decide_eq_true_eq] at hv
      exact hv.2
    · cases hv)
  generalize textS k i t = v at *
  generalize validC k i t = vc at *
  go_enter Tryd.func32, Tryd.ntmps32
  go_upto_region 1 with (fail)
  have hb1 := (Below.refl w.heap.size w).alloc (Nat.le_refl _) (.cells #[.int .i64 k, .int .i64 i, .string t] 68)
  have h1 := Blk.new w 68 [.int .i64 k, .int .i64 i, .string t]
  generalize World.alloc _ _ = w1 at *
  generalize hR : w.heap.size = R at *
  have HRR := Lib.hid hR
  clear hR
  have HB1 := Lib.hid hb1
  have H1 := Lib.hid h1
  have f0 := h1.cell 0
  have f1 := h1.cell 1
  have f2 := h1.cell 2
  simp only [List.getElem?_cons_zero, List.getElem?_cons_succ] at f0 f1 f2
  have hs1 : R ≤ w1.heap.size := by have := h1.lt; omega
  clear h1 hb1
  have ka := HKV.out w1
  go_wp2_with fail
  refine ka.mono ?_
  rintro e w2 ⟨rfl, hb2⟩
  have HB2 := Lib.hid (HB1.out.trans (hb2.mono hs1))
  have H2 := Lib.hid (H1.out.below hb2 H1.out.lt)
  have hs2 : R ≤ w2.heap.size := Nat.le_trans hs1 hb2.size
  have g0 := H2.out.cell 0
  have g1 := H2.out.cell 1
  have g2 := H2.out.cell 2
  simp only [List.getElem?_cons_zero, List.getElem?_cons_succ] at g0 g1 g2
  clear ka hb2 HB1 H1 f0 f1 f2
  cases vc with
  | false =>
    have hz : v = ⟨#[]⟩ := by rw [HV.out, if_pos rfl]
    subst hz
    clear HV HSZ
    go_wp2
    go_ret
    exact ⟨by rfl, by rw [HRR.out]; exact HB2.out⟩
  | true =>
    by_cases k1 : k = 1
    · subst k1
      have hz : v = it i := by rw [HV.out, if_neg (by simp), if_pos rfl]
      subst hz
      clear HV HSZ
      have kd := HKD.out w2
      go_wp2_with fail
      refine kd.mono ?_
      rintro e w3 ⟨rfl, hb3⟩
      have HB3 := Lib.hid (HB2.out.trans (hb3.mono hs2))
      go_wp2
      go_ret
      exact ⟨by rfl, by rw [HRR.out]; exact HB3.out⟩
    have t1 : (k == 1) = false := by simpa using k1
    by_cases k2 : k = 2
    · subst k2
      have hz : v = t := by rw [HV.out, if_neg (by simp), if_neg (by omega), if_pos rfl]
      subst hz
      clear HV HSZ k1
      go_wp2
      go_ret
      exact ⟨by rfl, by rw [HRR.out]; exact HB2.out⟩
    have t2 : (k == 2) = false := by simpa using k2
    have HV2 : Hid (quo ⟨#[34]⟩ (t.toList.drop 0) ++ ⟨#[34]⟩ = v) := Lib.hid (by rw [HV.out, if_neg (by simp), if_neg k1, if_neg k2]; rfl)
    have ht := HVC.out rfl k1 k2
    clear HV k1 k2 HVC
    go_upto_region 10 with (fail)
    clear g0 g1 g2
    go_loopg [3, 4] t.size (fun gk u3 u4 wr => ∃ (j : Nat) (s : ByteArray), u4 = .int .i64 j ∧ u3 = .string s ∧ j ≤ t.size ∧ s.size ≤ 1 + 4 * j ∧ Hid (gk = t.size - j) ∧ Hid (Below R w wr) ∧ Hid (Blk wr R 68 [.int .i64 k, .int .i64 i, .string t]) ∧ Hid (quo s (t.toList.drop j) ++ ⟨#[34]⟩ = v))
    case atStart => exact ⟨0, ⟨#[34]⟩, rfl, rfl, Nat.zero_le _, by show (1 : Nat) ≤ 1; omega, Lib.hid (by omega), HB2, H2, HV2⟩
    case round =>
      clear HB2 H2 HV2
      obtain ⟨j, s, rfl, rfl, hj, hsz, HG, HB, H2, HV⟩ := hrel
      have g2 := H2.out.cell 2
      simp only [List.getElem?_cons_zero, List.getElem?_cons_succ] at g2
      by_cases hlt : j < t.size
      · have HS : Hid (quo (s ++ letterS t[j]) (t.toList.drop (j + 1)) ++ ⟨#[34]⟩ = v) := Lib.hid (by rw [← HV.out, quo_step s t j hlt])
        have kl := letter_ref t[j] wr
        have hl4 := letterS_size t[j]
        have hsz2 : (s ++ letterS t[j]).size ≤ 1 + 4 * (j + 1) := by rw [app_size]; omega
        generalize hE : letterS t[j] = y at *
        clear hE HV
        go_wp2_with fail
        refine kl.mono ?_
        rintro e w3 ⟨rfl, hb3⟩
        have HB3 := Lib.hid (HB.out.trans (hb3.mono (by have := HB.out.size; rw [HRR.out] at this; exact this)))
        have H3 := Lib.hid (H2.out.below hb3 H2.out.lt)
        clear kl hb3 HB H2 g2
        go_wp2
        go_roundg (t.size - (j + 1))
        case measure => have := HG.out; omega
        case rel => exact ⟨j + 1, s ++ y, by go_num, rfl, by omega, hsz2, Lib.hid rfl, HB3, H3, HS⟩
      · have hz : s ++ ⟨#[34]⟩ = v := by rw [← HV.out, quo_end s t j (by omega)]
        have h1 : (⟨#[34]⟩ : ByteArray).size = 1 := rfl
        subst hz
        clear HV HSZ
        go_wp2
        go_ret
        exact ⟨by rfl, by rw [HRR.out]; exact HB.out⟩

end Go.Proofs.YtjcgkplphiedjaaDoorT

namespace Go.Proofs.YtjcgkplphiedjaaDoorT
open Go.RowKit

def lsGo : ByteArray → Bool → List ByteArray → ByteArray
  | s, _, [] => s
  | s, true, x :: xs => lsGo (s ++ x) false xs
  | s, false, x :: xs => lsGo ((s ++ ⟨#[44, 32]⟩) ++ x) false xs
def listS (l : List ByteArray) : ByteArray := lsGo ⟨#[]⟩ true l
theorem lsGo_end (s : ByteArray) (b : Bool) (l : List ByteArray) (k : Nat) (h : l.length ≤ k) : lsGo s b (l.drop k) = s := by
  rw [List.drop_eq_nil_of_le h, lsGo]
theorem lsGo_size (N : Nat) : ∀ (l : List ByteArray) (s : ByteArray) (b : Bool), (∀ x ∈ l, x.size ≤ N) → (lsGo s b l).size ≤ s.size + l.length * (N + 2)
  | [], s, b, _ => by rw [lsGo]; simp
  | x :: xs, s, true, h => by
    have h1 := lsGo_size N xs (s ++ x) false (fun y hy => h y (List.mem_cons_of_mem _ hy))
    have h2 := h x (by simp)
    rw [app_size] at h1
    rw [lsGo, List.length_cons, Nat.add_mul]; omega
  | x :: xs, s, false, h => by
    have h1 := lsGo_size N xs ((s ++ ⟨#[44, 32]⟩) ++ x) false (fun y hy => h y (List.mem_cons_of_mem _ hy))
    have h2 := h x (by simp)
    have h3 : (⟨#[44, 32]⟩ : ByteArray).size = 2 := rfl
    rw [app_size, app_size, h3] at h1
    rw [lsGo, List.length_cons, Nat.add_mul]; omega
theorem listS_size (N : Nat) (l : List ByteArray) (h : ∀ x ∈ l, x.size ≤ N) : (listS l).size ≤ l.length * (N + 2) := by
  have := lsGo_size N l ⟨#[]⟩ true h
  have h0 : (⟨#[]⟩ : ByteArray).size = 0 := rfl
  unfold listS; omega

set_option maxRecDepth 20000 in
set_option maxHeartbeats 4000000 in
theorem listed_ref (A : Option Addr) (n c N : Nat) (l : List ByteArray) (w : World) (hr : Rd w w.heap.size 1 A n (scells l)) (hN : N ≤ 1000000) (hn : n ≤ 16) (hs : ∀ x ∈ l, x.size ≤ N) :
    Calls Tryd.prog 80 #[.slice A n c] w fun e w' => e = .returned (.string (listS l)) ∧ Below w.heap.size w w' := by
  have hl : l.length = n := by have := hr.1; rw [scells_length] at this; omega
  have HV : Hid (lsGo ⟨#[]⟩ (decide (0 = 0)) (l.drop 0) = listS l) := Lib.hid rfl
  have HR := Lib.hid hr
  have HL := Lib.hid hl
  have HS := Lib.hid hs
  clear hr hl hs
  generalize listS l = v at *
  go_enter Tryd.func80, Tryd.ntmps80
  go_upto_region 3 with (fail)
  generalize hR : w.heap.size = R at *
  have HRR := Lib.hid hR
  clear hR
  go_loopg [3, 4] n (fun gk u3 u4 wr => ∃ (k : Nat) (s : ByteArray), u4 = .int .i64 k ∧ u3 = .string s ∧ k ≤ n ∧ s.size ≤ k * 1000002 ∧ Hid (gk = n - k) ∧ Hid (Below R w wr) ∧ Hid (lsGo s (decide (k = 0)) (l.drop k) = v))
  case atStart => exact ⟨0, ⟨#[]⟩, rfl, rfl, Nat.zero_le _, by show (0 : Nat) ≤ _; omega, Lib.hid (by omega), Lib.hid (Below.refl _ _), HV⟩
  case round =>
    clear HV
    obtain ⟨k, s, rfl, rfl, hk, hsz, HG, HB, HV⟩ := hrel
    by_cases hlt : k < n
    · obtain ⟨b, o, hk1, rfl, hB, c0⟩ := (HR.out.below HB.out).str k hlt
      have hx := HS.out l[k] (List.getElem_mem hk1)
      have HD : Hid (l.drop k = l[k] :: l.drop (k + 1)) := Lib.hid (List.drop_eq_getElem_cons hk1)
      generalize l[k] = x at *
      have h2 : (⟨#[44, 32]⟩ : ByteArray).size = 2 := rfl
      have hsz1 := app_size s x
      have hsz2 := app_size (s ++ ⟨#[44, 32]⟩) x
      have hsz3 := app_size s ⟨#[44, 32]⟩
      rcases Nat.eq_zero_or_pos k with k0 | k0
      · have HN : Hid (lsGo (s ++ x) (decide (k + 1 = 0)) (l.drop (k + 1)) = v) := Lib.hid (by rw [← HV.out, HD.out, decide_eq_true k0, decide_eq_false (by omega : ¬ k + 1 = 0), lsGo])
        have t1 : decide ((0 : Int) < (k : Int)) = false := decide_eq_false (by omega)
        have hszn : (s ++ x).size ≤ (k + 1) * 1000002 := by rw [hsz1]; omega
        clear HV HD hsz2 hsz3
        subst k0
        rw [Nat.add_zero] at c0
        go_wp2
        go_roundg (n - (0 + 1))
        case measure => have := HG.out; omega
        case rel => exact ⟨0 + 1, s ++ x, by go_num, rfl, by omega, hszn, Lib.hid rfl, HB, HN⟩
      · have HN : Hid (lsGo ((s ++ ⟨#[44, 32]⟩) ++ x) (decide (k + 1 = 0)) (l.drop (k + 1)) = v) := Lib.hid (by rw [← HV.out, HD.out, decide_eq_false (by omega : ¬ k = 0), decide_eq_false (by omega : ¬ k + 1 = 0), lsGo])
        have t1 : decide ((0 : Int) < (k : Int)) = true := decide_eq_true (by omega)
        have hszn : ((s ++ ⟨#[44, 32]⟩) ++ x).size ≤ (k + 1) * 1000002 := by rw [hsz2, hsz3, h2]; omega
        clear HV HD
        go_wp2
        go_roundg (n - (k + 1))
        case measure => have := HG.out; omega
        case rel => exact ⟨k + 1, (s ++ ⟨#[44, 32]⟩) ++ x, by go_num, rfl, by omega, hszn, Lib.hid rfl, HB, HN⟩
    · have hz : s = v := by rw [← HV.out]; exact (lsGo_end s _ l k (by have := HL.out; omega)).symm
      subst hz
      go_wp2
      go_ret
      exact ⟨by rfl, by rw [HRR.out]; exact HB.out⟩

def appS (p : ByteArray) (l : List ByteArray) : ByteArray := if l.length = 0 then p else ((p ++ ⟨#[40]⟩) ++ listS l) ++ ⟨#[41]⟩
theorem appS_size (N : Nat) (p : ByteArray) (l : List ByteArray) (h : ∀ x ∈ l, x.size ≤ N) : (appS p l).size ≤ p.size + 2 + l.length * (N + 2) := by
  have h1 := listS_size N l h
  have h2 : (⟨#[40]⟩ : ByteArray).size = 1 := rfl
  have h3 : (⟨#[41]⟩ : ByteArray).size = 1 := rfl
  unfold appS
  split
  · omega
  · rw [app_size, app_size, app_size, h2, h3]; omega

set_option maxRecDepth 20000 in
set_option maxHeartbeats 4000000 in
theorem applied_ref (p : ByteArray) (A : Option Addr) (n c N : Nat) (l : List ByteArray) (w : World) (hp : p.size ≤ 1000000) (hr : Rd w w.heap.size 1 A n (scells l)) (hN : N ≤ 1000000) (hn : n ≤ 16) (hs : ∀ x ∈ l, x.size ≤ N) :
    Calls Tryd.prog 51 #[.string p, .slice A n c] w fun e w' => e = .returned (.string (appS p l)) ∧ Below w.heap.size w w' := by
  have hl : l.length = n := by have := hr.1; rw [scells_length] at this; omega
  have HV : Hid (appS p l = if n = 0 then p else ((p ++ ⟨#[40]⟩) ++ listS l) ++ ⟨#[41]⟩) := Lib.hid (by rw [← hl]; rfl)
  have kl := listed_ref A n c N l w hr hN hn hs
  have hls := listS_size N l hs
  rw [hl] at hls
  have hls2 : (listS l).size ≤ 17000000 := by
    have : n * (N + 2) ≤ 16 * 1000002 := Nat.mul_le_mul hn (by omega)
    omega
  generalize appS p l = v at *
  generalize listS l = y at *
  clear hr hl hs hls
  go_enter Tryd.func51, Tryd.ntmps51
  rcases Nat.eq_zero_or_pos n with h0 | h0
  · have hz : v = p := by rw [HV.out, if_pos h0]
    subst hz
    subst h0
    clear HV kl
    go_wp2
    go_ret
    exact ⟨by rfl, Below.refl _ _⟩
  · have hz : v = ((p ++ ⟨#[40]⟩) ++ y) ++ ⟨#[41]⟩ := by rw [HV.out, if_neg (by omega)]
    have t1 : ((n : Int) == 0) = false := by simpa using (by omega : ¬ (n : Int) = 0)
    have h2 : (⟨#[40]⟩ : ByteArray).size = 1 := rfl
    have h3 : (⟨#[41]⟩ : ByteArray).size = 1 := rfl
    have s1 := app_size p ⟨#[40]⟩
    have s2 := app_size (p ++ ⟨#[40]⟩) y
    have s3 := app_size ((p ++ ⟨#[40]⟩) ++ y) ⟨#[41]⟩
    subst hz
    clear HV
    go_wp2_with fail
    refine kl.mono ?_
    rintro e w3 ⟨rfl, hb3⟩
    clear kl
    go_wp2
    go_ret
    exact ⟨by rfl, hb3⟩
end Go.Proofs.YtjcgkplphiedjaaDoorT

namespace Go.Proofs.YtjcgkplphiedjaaDoorT
open Go.RowKit Go.Sort

theorem mk_list (l : List UInt8) : (⟨l.toArray⟩ : ByteArray).toList = l := by rw [ByteArray.toList_eq]
theorem list_eq {a b : ByteArray} (h : a.toList = b.toList) : a = b := by
  rw [bytes_eq h, ByteArray.toList_eq]
theorem list_nil {a : ByteArray} (h : a.toList = []) : a = ⟨#[]⟩ := bytes_eq h

/-- Texts with a comma and a space between each two. -/
def jo : List (List UInt8) → List UInt8
  | [] => []
  | x :: xs => x ++ xs.flatMap fun y => [44, 32] ++ y
theorem jo_one (x : List UInt8) : jo [x] = x := by simp [jo]
theorem jo_snoc {l : List (List UInt8)} (h : 0 < l.length) (x : List UInt8) : jo (l ++ [x]) = jo l ++ ([44, 32] ++ x) := by
  cases l with
  | nil => simp at h
  | cons y ys => simp [jo]
theorem jo_take {α : Type} (f : α → List UInt8) (l : List α) (k : Nat) (h : k < l.length) : jo ((l.take (k + 1)).map f) = if k = 0 then f l[k] else jo ((l.take k).map f) ++ ([44, 32] ++ f l[k]) := by
  rw [take_snoc l k h, List.map_append, List.map_cons, List.map_nil]
  by_cases hk : k = 0
  · subst hk; rw [if_pos rfl]; simp [jo]
  · rw [if_neg hk, jo_snoc (by rw [List.length_map, List.length_take]; omega)]
theorem jo_length (N : Nat) : ∀ l : List (List UInt8), (∀ x ∈ l, x.length ≤ N) → (jo l).length ≤ l.length * (N + 2)
  | [], _ => by simp [jo]
  | x :: xs, h => by
    have h1 := h x (by simp)
    have h2 : (xs.flatMap fun y => [44, 32] ++ y).length ≤ xs.length * (N + 2) := by
      have hh : ∀ y ∈ xs, y.length ≤ N := fun y hy => h y (List.mem_cons_of_mem _ hy)
      clear h h1
      induction xs with
      | nil => simp
      | cons y ys ih =>
        have := ih (fun z hz => hh z (List.mem_cons_of_mem _ hz))
        have hy := hh y (by simp)
        rw [List.flatMap_cons, List.length_append, List.length_append, List.length_cons, List.length_cons, List.length_cons, List.length_nil, Nat.add_mul]
        omega
    rw [jo, List.length_append, List.length_cons, Nat.add_mul]
    omega
theorem lsGo_flat : ∀ (l : List ByteArray) (s : ByteArray), (lsGo s false l).toList = s.toList ++ (l.map (·.toList)).flatMap fun y => [44, 32] ++ y
  | [], s => by rw [lsGo]; simp
  | x :: xs, s => by
    rw [lsGo, lsGo_flat xs, toList_append, toList_append, mk_list]
    simp
theorem listS_jo (l : List ByteArray) : (listS l).toList = jo (l.map (·.toList)) := by
  cases l with
  | nil => rw [listS, lsGo]; exact mk_list []
  | cons x xs =>
    rw [listS, lsGo, lsGo_flat, toList_append, mk_list]
    simp [jo]

def textK (z : Cn) : ByteArray := textS z.k z.i z.t
theorem textK_size (z : Cn) (hi : inI z.i) : (textK z).size ≤ 1022 := textS_size _ _ _ hi
theorem textK_no {z : Cn} (h : validK z = false) : textK z = ⟨#[]⟩ := if_pos h
theorem decDigits_ne (n : Nat) : Lib.decDigits n ≠ [] := by
  rw [dec_step]; simp
theorem itoa_ne (n : Int) : Lib.itoa n ≠ [] := by
  rcases Int.lt_or_le n 0 with h | h
  · obtain ⟨u, rfl⟩ : ∃ u : Nat, n = -(u : Int) := ⟨n.natAbs, by omega⟩
    rw [Lib.itoa_neg u (by omega)]; simp
  · obtain ⟨u, rfl⟩ : ∃ u : Nat, n = u := ⟨n.toNat, by omega⟩
    rw [Lib.itoa_nonneg]; exact decDigits_ne u
theorem name_ne {s : ByteArray} (h : isNameS s = true) : s.toList ≠ [] := by
  intro hs
  have : s.size = 0 := by rw [toList_size, hs]; rfl
  unfold isNameS at h
  simp only [Bool.and_eq_true, decide_eq_true_eq] at h
  have := h.1.1.1.1
  omega
theorem textK_yes {z : Cn} (h : validK z = true) : (textK z).toList ≠ [] := by
  unfold validK at h
  unfold textK textS
  rw [if_neg (by rw [h]; decide)]
  split
  · unfold it; rw [mk_list]; exact itoa_ne _
  · rename_i k1
    split
    · rename_i k2
      unfold validC at h
      rw [if_neg k1, if_pos k2, Bool.and_eq_true] at h
      exact name_ne h.2
    · rw [toList_append]; simp
theorem name_size {s : ByteArray} (h : isNameS s = true) : s.size ≤ 64 := by
  unfold isNameS at h
  simp only [Bool.and_eq_true, decide_eq_true_eq] at h
  exact h.1.1.1.2

/-- A fact's text. -/
def factT (p : ByteArray) (xs : List Cn) : ByteArray := if wellF p xs = true then appS p (xs.map textK) else ⟨#[]⟩
theorem wellF_parts {p : ByteArray} {xs : List Cn} (h : wellF p xs = true) : isNameS p = true ∧ xs.length ≤ 8 ∧ xs.all validK = true := by
  unfold wellF at h
  simp only [Bool.and_eq_true, decide_eq_true_eq] at h
  exact ⟨h.1.1, h.1.2, h.2⟩
theorem factT_size (p : ByteArray) (xs : List Cn) (hi : ∀ z ∈ xs, inI z.i) : (factT p xs).size ≤ 8258 := by
  unfold factT
  split
  · rename_i h
    obtain ⟨h1, h2, _⟩ := wellF_parts h
    have h3 := name_size h1
    have h4 := appS_size 1022 p (xs.map textK) (by
      intro x hx
      obtain ⟨z, hz, rfl⟩ := List.mem_map.1 hx
      exact textK_size z (hi z hz))
    rw [List.length_map] at h4
    have : xs.length * 1024 ≤ 8 * 1024 := Nat.mul_le_mul_right _ h2
    omega
  · show (0 : Nat) ≤ 8258; omega
theorem factT_yes {p : ByteArray} {xs : List Cn} (h : wellF p xs = true) : (factT p xs).toList ≠ [] := by
  have hp := name_ne (wellF_parts h).1
  unfold factT
  rw [if_pos h]
  unfold appS
  split
  · exact hp
  · rw [toList_append]; simp
theorem factT_no {p : ByteArray} {xs : List Cn} (h : wellF p xs = false) : factT p xs = ⟨#[]⟩ := if_neg (by rw [h]; decide)
/-- A fact's text, as bytes. -/
theorem factT_bytes {p : ByteArray} {xs : List Cn} (h : wellF p xs = true) : (factT p xs).toList = if xs.length = 0 then p.toList else p.toList ++ ([40] ++ (jo (xs.map fun z => (textK z).toList) ++ [41])) := by
  unfold factT
  rw [if_pos h]
  unfold appS
  rw [List.length_map]
  split
  · rfl
  · rw [toList_append, toList_append, toList_append, listS_jo, mk_list, mk_list, List.map_map]
    simp [Function.comp_def]

/-- What a line's numbers and constants must be. -/
structure Ln.nice (x : Ln) : Prop where
  p : x.p.size ≤ 9223372036854775807
  xs : ∀ z ∈ x.xs, inI z.i ∧ fineK z
  ss : ∀ z ∈ x.ss, inI z.i ∧ fineK z
  r : inI x.r
  fs : ∀ f ∈ x.fs, inI f
def okL (x : Ln) : Bool := wellF x.p x.xs && (decide (x.r = -1) || x.ss.all validK)
/-- The lines that a line comes from, as a text. -/
def fromL (fs : List Int) : List UInt8 := if fs.length = 0 then [] else [32, 102, 114, 111, 109, 32] ++ jo (fs.map fun f => (it f).toList)
def subL (ss : List Cn) : List UInt8 := jo (ss.map fun z => (textK z).toList)
def headL (i : Nat) (x : Ln) : List UInt8 := (it (i : Int)).toList ++ ([58, 32] ++ (factT x.p x.xs).toList)
def givenL : List UInt8 := [32, 103, 105, 118, 101, 110, 10]
def byL (r : Int) : List UInt8 := [32, 98, 121, 32] ++ ((it r).toList ++ [32, 123])
def lineL (i : Nat) (x : Ln) : List UInt8 := headL i x ++ (if x.r = -1 then givenL else byL x.r ++ (subL x.ss ++ ([125] ++ (fromL x.fs ++ [10]))))
def textL : Nat → List Ln → List UInt8
  | _, [] => []
  | k, x :: xs => lineL k x ++ textL (k + 1) xs
theorem textL_app : ∀ (a b : List Ln) (k : Nat), textL k (a ++ b) = textL k a ++ textL (k + a.length) b
  | [], b, k => by simp [textL]
  | x :: a, b, k => by
    rw [List.cons_append, textL, textL, textL_app a b (k + 1), List.append_assoc, List.length_cons]
    congr 3; omega
theorem textL_take (l : List Ln) (k : Nat) (h : k < l.length) : textL 0 (l.take (k + 1)) = textL 0 (l.take k) ++ lineL k l[k] := by
  rw [take_snoc l k h, textL_app, List.length_take, Nat.min_eq_left (Nat.le_of_lt h), Nat.zero_add]
  simp [textL]
def proofS (l : List Ln) : ByteArray := if l.all okL = true then ⟨(textL 0 l).toArray⟩ else ⟨#[]⟩

/-- How long texts get. -/
def Ln.wt (x : Ln) : Nat := 1 + x.ss.length + x.fs.length
def wts (l : List Ln) : Nat := (l.map Ln.wt).sum
theorem headL_length (i : Nat) (x : Ln) (h : x.nice) (hi : i ≤ 9223372036854775807) : (headL i x).length ≤ 8281 := by
  have h1 := factT_size x.p x.xs fun z hz => (h.xs z hz).1
  have h2 := it_size (i : Int) ⟨by omega, by omega⟩
  rw [toList_size] at h1 h2
  unfold headL
  simp only [List.length_append, List.length_cons, List.length_nil]
  omega
theorem byL_length (r : Int) (h : inI r) : (byL r).length ≤ 27 := by
  have h2 := it_size r h
  rw [toList_size] at h2
  unfold byL
  simp only [List.length_append, List.length_cons, List.length_nil]
  omega
theorem subL_length (ss : List Cn) (h : ∀ z ∈ ss, inI z.i) : (subL ss).length ≤ ss.length * 1024 := by
  have := jo_length 1022 (ss.map fun z => (textK z).toList) (by
    intro x hx
    obtain ⟨z, hz, rfl⟩ := List.mem_map.1 hx
    rw [← toList_size]; exact textK_size z (h z hz))
  rw [List.length_map] at this
  exact this
theorem jofs_length (fs : List Int) (h : ∀ z ∈ fs, inI z) : (jo (fs.map fun f => (it f).toList)).length ≤ fs.length * 23 := by
  have := jo_length 21 (fs.map fun f => (it f).toList) (by
    intro x hx
    obtain ⟨z, hz, rfl⟩ := List.mem_map.1 hx
    rw [← toList_size]; exact it_size z (h z hz))
  rw [List.length_map] at this
  exact this
theorem fromL_length (fs : List Int) (h : ∀ z ∈ fs, inI z) : (fromL fs).length ≤ 6 + fs.length * 23 := by
  have h1 := jofs_length fs h
  unfold fromL
  split
  · simp
  · simp only [List.length_append, List.length_cons, List.length_nil]; omega
theorem lineL_length (i : Nat) (x : Ln) (h : x.nice) (hi : i ≤ 9223372036854775807) : (lineL i x).length ≤ 10000 * x.wt := by
  have h1 := headL_length i x h hi
  have h2 := byL_length x.r h.r
  have h3 := subL_length x.ss fun z hz => (h.ss z hz).1
  have h4 := fromL_length x.fs h.fs
  unfold lineL Ln.wt
  split
  · simp only [List.length_append, givenL, List.length_cons, List.length_nil]; omega
  · simp only [List.length_append, List.length_cons, List.length_nil]; omega
theorem textL_length : ∀ (l : List Ln) (k : Nat), (∀ x ∈ l, x.nice) → k + l.length ≤ 9223372036854775807 → (textL k l).length ≤ 10000 * wts l
  | [], k, _, _ => by simp [textL]
  | x :: l, k, h, hk => by
    rw [List.length_cons] at hk
    have h1 := lineL_length k x (h x (by simp)) (by omega)
    have h2 := textL_length l (k + 1) (fun y hy => h y (List.mem_cons_of_mem _ hy)) (by omega)
    have e : wts (x :: l) = x.wt + wts l := by simp [wts]
    rw [textL, List.length_append, e]
    omega
theorem wts_take (l : List Ln) (k : Nat) : wts (l.take k) ≤ wts l := by
  have e : wts l = wts (l.take k) + wts (l.drop k) := by
    unfold wts
    rw [List.map_take, List.map_drop, ← List.sum_append, List.take_append_drop]
  omega
theorem wts_length (l : List Ln) : l.length ≤ wts l := by
  induction l with
  | nil => simp
  | cons x l ih =>
    have e : wts (x :: l) = x.wt + wts l := by simp [wts]
    rw [e, List.length_cons]; unfold Ln.wt; omega
theorem wts_mem {l : List Ln} {x : Ln} (h : x ∈ l) : x.wt ≤ wts l := by
  induction l with
  | nil => cases h
  | cons y l ih =>
    have e : wts (y :: l) = y.wt + wts l := by simp [wts]
    rw [e]
    rcases List.mem_cons.1 h with rfl | h
    · omega
    · have := ih h; omega
theorem textL_bound (l : List Ln) (k : Nat) (h : ∀ x ∈ l, x.nice) (hw : wts l ≤ 1048576) : (textL 0 (l.take k)).length ≤ 10485760000 := by
  have h1 := textL_length (l.take k) 0 (fun x hx => h x (List.mem_of_mem_take hx)) (by have := wts_length l; rw [List.length_take]; omega)
  have h2 := wts_take l k
  omega
/-- The cores say it all. -/
theorem lineL_core {x y : Ln} (h : x.core = y.core) (i : Nat) : lineL i x = lineL i y ∧ okL x = okL y := by
  simp only [Ln.core, Prod.mk.injEq] at h
  obtain ⟨h1, h2, h3, h4, h5⟩ := h
  unfold lineL headL okL
  rw [h1, h2, h3, h4, h5]
  exact ⟨rfl, rfl⟩
end Go.Proofs.YtjcgkplphiedjaaDoorT
