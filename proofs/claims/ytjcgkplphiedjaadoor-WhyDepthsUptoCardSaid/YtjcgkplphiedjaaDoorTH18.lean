/- Texts of facts and of lines, plain. -/
import Derived.Test.YtjcgkplphiedjaaDoorTH17
namespace Go.Proofs.YtjcgkplphiedjaaDoorT
open Go.RowKit Go.Sort

theorem mk_list (l : List UInt8) : (⟨l.toArray⟩ : ByteArray).toList = l := by rw [ByteArray.toList_eq]
theorem list_eq {a b : ByteArray} (h : a.toList = b.toList) : a = b := by
  rw [bytes_eq h, ByteArray.toList_eq]
theorem list_nil {a : ByteArray} (h : a.toList = []) : a = ⟨#[]⟩ := bytes_eq h

/-- Texts with a comma and a space between each two. -/
def jo : List (List UInt8) → List UInt8
  | [] => []
  | x :: xs => x ++ xs.flatMap fun y => [44, 32] ++ y
theorem jo_one (x : List UInt8) : jo [x] = x := by simp [jo]
theorem jo_snoc {l : List (List UInt8)} (h : 0 < l.length) (x : List UInt8) : jo (l ++ [x]) = jo l ++ ([44, 32] ++ x) := by
  cases l with
  | nil => simp at h
  | cons y ys => simp [jo]
theorem jo_take {α : Type} (f : α → List UInt8) (l : List α) (k : Nat) (h : k < l.length) : jo ((l.take (k + 1)).map f) = if k = 0 then f l[k] else jo ((l.take k).map f) ++ ([44, 32] ++ f l[k]) := by
  rw [take_snoc l k h, List.map_append, List.map_cons, List.map_nil]
  by_cases hk : k = 0
  · subst hk; rw [if_pos rfl]; simp [jo]
  · rw [if_neg hk, jo_snoc (by rw [List.length_map, List.length_take]; omega)]
theorem jo_length (N : Nat) : ∀ l : List (List UInt8), (∀ x ∈ l, x.length ≤ N) → (jo l).length ≤ l.length * (N + 2)
  | [], _ => by simp [jo]
  | x :: xs, h => by
    have h1 := h x (by simp)
    have h2 : (xs.flatMap fun y => [44, 32] ++ y).length ≤ xs.length * (N + 2) := by
      have hh : ∀ y ∈ xs, y.length ≤ N := fun y hy => h y (List.mem_cons_of_mem _ hy)
      clear h h1
      induction xs with
      | nil => simp
      | cons y ys ih =>
        have := ih (fun z hz => hh z (List.mem_cons_of_mem _ hz))
        have hy := hh y (by simp)
        rw [List.flatMap_cons, List.length_append, List.length_append, List.length_cons, List.length_cons, List.length_cons, List.length_nil, Nat.add_mul]
        omega
    rw [jo, List.length_append, List.length_cons, Nat.add_mul]
    omega
theorem lsGo_flat : ∀ (l : List ByteArray) (s : ByteArray), (lsGo s false l).toList = s.toList ++ (l.map (·.toList)).flatMap fun y => [44, 32] ++ y
  | [], s => by rw [lsGo]; simp
  | x :: xs, s => by
    rw [lsGo, lsGo_flat xs, toList_append, toList_append, mk_list]
    simp
theorem listS_jo (l : List ByteArray) : (listS l).toList = jo (l.map (·.toList)) := by
  cases l with
  | nil => rw [listS, lsGo]; exact mk_list []
  | cons x xs =>
    rw [listS, lsGo, lsGo_flat, toList_append, mk_list]
    simp [jo]

def textK (z : Cn) : ByteArray := textS z.k z.i z.t
theorem textK_size (z : Cn) (hi : inI z.i) : (textK z).size ≤ 1022 := textS_size _ _ _ hi
theorem textK_no {z : Cn} (h : validK z = false) : textK z = ⟨#[]⟩ := if_pos h
theorem decDigits_ne (n : Nat) : Lib.decDigits n ≠ [] := by
  rw [dec_step]; simp
theorem itoa_ne (n : Int) : Lib.itoa n ≠ [] := by
  rcases Int.lt_or_le n 0 with h | h
  · obtain ⟨u, rfl⟩ : ∃ u : Nat, n = -(u : Int) := ⟨n.natAbs, by omega⟩
    rw [Lib.itoa_neg u (by omega)]; simp
  · obtain ⟨u, rfl⟩ : ∃ u : Nat, n = u := ⟨n.toNat, by omega⟩
    rw [Lib.itoa_nonneg]; exact decDigits_ne u
theorem name_ne {s : ByteArray} (h : isNameS s = true) : s.toList ≠ [] := by
  intro hs
  have : s.size = 0 := by rw [toList_size, hs]; rfl
  unfold isNameS at h
  simp only [Bool.and_eq_true, decide_eq_true_eq] at h
  have := h.1.1.1.1
  omega
theorem textK_yes {z : Cn} (h : validK z = true) : (textK z).toList ≠ [] := by
  unfold validK at h
  unfold textK textS
  rw [if_neg (by rw [h]; decide)]
  split
  · unfold it; rw [mk_list]; exact itoa_ne _
  · rename_i k1
    split
    · rename_i k2
      unfold validC at h
      rw [if_neg k1, if_pos k2, Bool.and_eq_true] at h
      exact name_ne h.2
    · rw [toList_append]; simp
theorem name_size {s : ByteArray} (h : isNameS s = true) : s.size ≤ 64 := by
  unfold isNameS at h
  simp only [Bool.and_eq_true, decide_eq_true_eq] at h
  exact h.1.1.1.2

/-- A fact's text. -/
def factT (p : ByteArray) (xs : List Cn) : ByteArray := if wellF p xs = true then appS p (xs.map textK) else ⟨#[]⟩
theorem wellF_parts {p : ByteArray} {xs : List Cn} (h : wellF p xs = true) : isNameS p = true ∧ xs.length ≤ 8 ∧ xs.all validK = true := by
  unfold wellF at h
  simp only [Bool.and_eq_true, decide_eq_true_eq] at h
  exact ⟨h.1.1, h.1.2, h.2⟩
theorem factT_size (p : ByteArray) (xs : List Cn) (hi : ∀ z ∈ xs, inI z.i) : (factT p xs).size ≤ 8258 := by
  unfold factT
  split
  · rename_i h
    obtain ⟨h1, h2, _⟩ := wellF_parts h
    have h3 := name_size h1
    have h4 := appS_size 1022 p (xs.map textK) (by
      intro x hx
      obtain ⟨z, hz, rfl⟩ := List.mem_map.1 hx
      exact textK_size z (hi z hz))
    rw [List.length_map] at h4
    have : xs.length * 1024 ≤ 8 * 1024 := Nat.mul_le_mul_right _ h2
    omega
  · show (0 : Nat) ≤ 8258; omega
theorem factT_yes {p : ByteArray} {xs : List Cn} (h : wellF p xs = true) : (factT p xs).toList ≠ [] := by
  have hp := name_ne (wellF_parts h).1
  unfold factT
  rw [if_pos h]
  unfold appS
  split
  · exact hp
  · rw [toList_append]; simp
theorem factT_no {p : ByteArray} {xs : List Cn} (h : wellF p xs = false) : factT p xs = ⟨#[]⟩ := if_neg (by rw [h]; decide)
/-- A fact's text, as bytes. -/
theorem factT_bytes {p : ByteArray} {xs : List Cn} (h : wellF p xs = true) : (factT p xs).toList = if xs.length = 0 then p.toList else p.toList ++ ([40] ++ (jo (xs.map fun z => (textK z).toList) ++ [41])) := by
  unfold factT
  rw [if_pos h]
  unfold appS
  rw [List.length_map]
  split
  · rfl
  · rw [toList_append, toList_append, toList_append, listS_jo, mk_list, mk_list, List.map_map]
    simp [Function.comp_def]

/-- What a line's numbers and constants must be. -/
structure Ln.nice (x : Ln) : Prop where
  p : x.p.size ≤ 9223372036854775807
  xs : ∀ z ∈ x.xs, inI z.i ∧ fineK z
  ss : ∀ z ∈ x.ss, inI z.i ∧ fineK z
  r : inI x.r
  fs : ∀ f ∈ x.fs, inI f
def okL (x : Ln) : Bool := wellF x.p x.xs && (decide (x.r = -1) || x.ss.all validK)
/-- The lines that a line comes from, as a text. -/
def fromL (fs : List Int) : List UInt8 := if fs.length = 0 then [] else [32, 102, 114, 111, 109, 32] ++ jo (fs.map fun f => (it f).toList)
def subL (ss : List Cn) : List UInt8 := jo (ss.map fun z => (textK z).toList)
def headL (i : Nat) (x : Ln) : List UInt8 := (it (i : Int)).toList ++ ([58, 32] ++ (factT x.p x.xs).toList)
def givenL : List UInt8 := [32, 103, 105, 118, 101, 110, 10]
def byL (r : Int) : List UInt8 := [32, 98, 121, 32] ++ ((it r).toList ++ [32, 123])
def lineL (i : Nat) (x : Ln) : List UInt8 := headL i x ++ (if x.r = -1 then givenL else byL x.r ++ (subL x.ss ++ ([125] ++ (fromL x.fs ++ [10]))))
def textL : Nat → List Ln → List UInt8
  | _, [] => []
  | k, x :: xs => lineL k x ++ textL (k + 1) xs
theorem textL_app : ∀ (a b : List Ln) (k : Nat), textL k (a ++ b) = textL k a ++ textL (k + a.length) b
  | [], b, k => by simp [textL]
  | x :: a, b, k => by
    rw [List.cons_append, textL, textL, textL_app a b (k + 1), List.append_assoc, List.length_cons]
    congr 3; omega
theorem textL_take (l : List Ln) (k : Nat) (h : k < l.length) : textL 0 (l.take (k + 1)) = textL 0 (l.take k) ++ lineL k l[k] := by
  rw [take_snoc l k h, textL_app, List.length_take, Nat.min_eq_left (Nat.le_of_lt h), Nat.zero_add]
  simp [textL]
def proofS (l : List Ln) : ByteArray := if l.all okL = true then ⟨(textL 0 l).toArray⟩ else ⟨#[]⟩

/-- How long texts get. -/
def Ln.wt (x : Ln) : Nat := 1 + x.ss.length + x.fs.length
def wts (l : List Ln) : Nat := (l.map Ln.wt).sum
theorem headL_length (i : Nat) (x : Ln) (h : x.nice) (hi : i ≤ 9223372036854775807) : (headL i x).length ≤ 8281 := by
  have h1 := factT_size x.p x.xs fun z hz => (h.xs z hz).1
  have h2 := it_size (i : Int) ⟨by omega, by omega⟩
  rw [toList_size] at h1 h2
  unfold headL
  simp only [List.length_append, List.length_cons, List.length_nil]
  omega
theorem byL_length (r : Int) (h : inI r) : (byL r).length ≤ 27 := by
  have h2 := it_size r h
  rw [toList_size] at h2
  unfold byL
  simp only [List.length_append, List.length_cons, List.length_nil]
  omega
theorem subL_length (ss : List Cn) (h : ∀ z ∈ ss, inI z.i) : (subL ss).length ≤ ss.length * 1024 := by
  have := jo_length 1022 (ss.map fun z => (textK z).toList) (by
    intro x hx
    obtain ⟨z, hz, rfl⟩ := List.mem_map.1 hx
    rw [← toList_size]; exact textK_size z (h z hz))
  rw [List.length_map] at this
  exact this
theorem jofs_length (fs : List Int) (h : ∀ z ∈ fs, inI z) : (jo (fs.map fun f => (it f).toList)).length ≤ fs.length * 23 := by
  have := jo_length 21 (fs.map fun f => (it f).toList) (by
    intro x hx
    obtain ⟨z, hz, rfl⟩ := List.mem_map.1 hx
    rw [← toList_size]; exact it_size z (h z hz))
  rw [List.length_map] at this
  exact this
theorem fromL_length (fs : List Int) (h : ∀ z ∈ fs, inI z) : (fromL fs).length ≤ 6 + fs.length * 23 := by
  have h1 := jofs_length fs h
  unfold fromL
  split
  · simp
  · simp only [List.length_append, List.length_cons, List.length_nil]; omega
theorem lineL_length (i : Nat) (x : Ln) (h : x.nice) (hi : i ≤ 9223372036854775807) : (lineL i x).length ≤ 10000 * x.wt := by
  have h1 := headL_length i x h hi
  have h2 := byL_length x.r h.r
  have h3 := subL_length x.ss fun z hz => (h.ss z hz).1
  have h4 := fromL_length x.fs h.fs
  unfold lineL Ln.wt
  split
  · simp only [List.length_append, givenL, List.length_cons, List.length_nil]; omega
  · simp only [List.length_append, List.length_cons, List.length_nil]; omega
theorem textL_length : ∀ (l : List Ln) (k : Nat), (∀ x ∈ l, x.nice) → k + l.length ≤ 9223372036854775807 → (textL k l).length ≤ 10000 * wts l
  | [], k, _, _ => by simp [textL]
  | x :: l, k, h, hk => by
    rw [List.length_cons] at hk
    have h1 := lineL_length k x (h x (by simp)) (by omega)
    have h2 := textL_length l (k + 1) (fun y hy => h y (List.mem_cons_of_mem _ hy)) (by omega)
    have e : wts (x :: l) = x.wt + wts l := by simp [wts]
    rw [textL, List.length_append, e]
    omega
theorem wts_take (l : List Ln) (k : Nat) : wts (l.take k) ≤ wts l := by
  have e : wts l = wts (l.take k) + wts (l.drop k) := by
    unfold wts
    rw [List.map_take, List.map_drop, ← List.sum_append, List.take_append_drop]
  omega
theorem wts_length (l : List Ln) : l.length ≤ wts l := by
  induction l with
  | nil => simp
  | cons x l ih =>
    have e : wts (x :: l) = x.wt + wts l := by simp [wts]
    rw [e, List.length_cons]; unfold Ln.wt; omega
theorem wts_mem {l : List Ln} {x : Ln} (h : x ∈ l) : x.wt ≤ wts l := by
  induction l with
  | nil => cases h
  | cons y l ih =>
    have e : wts (y :: l) = y.wt + wts l := by simp [wts]
    rw [e]
    rcases List.mem_cons.1 h with rfl | h
    · omega
    · have := ih h; omega
theorem textL_bound (l : List Ln) (k : Nat) (h : ∀ x ∈ l, x.nice) (hw : wts l ≤ 1048576) : (textL 0 (l.take k)).length ≤ 10485760000 := by
  have h1 := textL_length (l.take k) 0 (fun x hx => h x (List.mem_of_mem_take hx)) (by have := wts_length l; rw [List.length_take]; omega)
  have h2 := wts_take l k
  omega
/-- The cores say it all. -/
theorem lineL_core {x y : Ln} (h : x.core = y.core) (i : Nat) : lineL i x = lineL i y ∧ okL x = okL y := by
  simp only [Ln.core, Prod.mk.injEq] at h
  obtain ⟨h1, h2, h3, h4, h5⟩ := h
  unfold lineL headL okL
  rw [h1, h2, h3, h4, h5]
  exact ⟨rfl, rfl⟩
end Go.Proofs.YtjcgkplphiedjaaDoorT
