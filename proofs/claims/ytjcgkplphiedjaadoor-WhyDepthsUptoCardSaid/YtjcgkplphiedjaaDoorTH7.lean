/- The depth of each line: plain. -/
import Derived.Test.YtjcgkplphiedjaaDoorTH6
namespace Go.Proofs.YtjcgkplphiedjaaDoorT
open Go.RowKit Go.Sort

/-- The deepest of the lines that are named; none where one does not lie ahead. -/
def deepN (l : List Int) (i : Nat) : List Int → Int → Option Int
  | [], d => some d
  | n :: r, d => if 0 ≤ n ∧ n < (i : Int) then deepN l i r (max d (l.getD n.toNat 0)) else none
theorem deepN_append (l : List Int) (i : Nat) : ∀ (a b : List Int) (d : Int), deepN l i (a ++ b) d = (deepN l i a d).bind (deepN l i b)
  | [], _, _ => rfl
  | n :: a, b, d => by
    rw [List.cons_append, deepN, deepN]
    by_cases h : 0 ≤ n ∧ n < (i : Int)
    · rw [if_pos h, if_pos h, deepN_append l i a b]
    · rw [if_neg h, if_neg h]; rfl
def stepD (l : List Int) (x : Ln) : Option Int := if x.r = -1 then some 0 else (deepN l l.length x.fs 0).map (· + 1)
def depthL : List Ln → List Int → Option (List Int)
  | [], l => some l
  | x :: r, l => (stepD l x).bind fun d => depthL r (l ++ [d])
theorem depthL_append : ∀ (a b : List Ln) (l : List Int), depthL (a ++ b) l = (depthL a l).bind (depthL b)
  | [], _, _ => rfl
  | x :: a, b, l => by
    rw [List.cons_append, depthL, depthL]
    cases stepD l x with
    | none => rfl
    | some d => exact depthL_append a b (l ++ [d])
theorem depthL_length : ∀ (a : List Ln) (l m : List Int), depthL a l = some m → m.length = l.length + a.length
  | [], l, m, h => by cases h; simp
  | x :: a, l, m, h => by
    rw [depthL] at h
    cases hd : stepD l x with
    | none => rw [hd] at h; cases h
    | some d =>
      rw [hd] at h
      have := depthL_length a (l ++ [d]) m h
      simp only [List.length_append, List.length_cons, List.length_nil] at this ⊢
      omega
/-- Each depth is below the number of lines. -/
def lowD (l : List Int) : Prop := ∀ d ∈ l, 0 ≤ d ∧ d ≤ (l.length : Int)
theorem getD_low {l : List Int} (h : lowD l) (k : Nat) : 0 ≤ l.getD k 0 ∧ l.getD k 0 ≤ (l.length : Int) := by
  rw [List.getD_eq_getElem?_getD]
  cases hk : l[k]? with
  | none => simp
  | some d => exact h d (List.mem_of_getElem? hk)
theorem deepN_low {l : List Int} (h : lowD l) (i : Nat) : ∀ (a : List Int) (d e : Int), 0 ≤ d → d ≤ (l.length : Int) → deepN l i a d = some e → 0 ≤ e ∧ e ≤ (l.length : Int)
  | [], d, e, h0, h1, he => by cases he; exact ⟨h0, h1⟩
  | n :: a, d, e, h0, h1, he => by
    rw [deepN] at he
    split at he
    · have := getD_low h n.toNat
      exact deepN_low h i a _ e (by omega) (by omega) he
    · cases he
theorem lowD_step {l : List Int} {x : Ln} {d : Int} (h : lowD l) (hd : stepD l x = some d) : lowD (l ++ [d]) := by
  intro e he
  rw [List.length_append, List.length_singleton]
  rcases List.mem_append.1 he with he | he
  · have := h e he; omega
  · rw [List.mem_singleton.1 he]
    unfold stepD at hd
    split at hd
    · cases hd; omega
    · cases hn : deepN l l.length x.fs 0 with
      | none => rw [hn] at hd; cases hd
      | some q =>
        rw [hn] at hd
        have := deepN_low h l.length x.fs 0 q (by omega) (by omega) hn
        simp only [Option.map_some, Option.some.injEq] at hd
        omega
theorem lowD_all : ∀ (a : List Ln) (l m : List Int), lowD l → depthL a l = some m → lowD m
  | [], l, m, h, hm => by cases hm; exact h
  | x :: a, l, m, h, hm => by
    rw [depthL] at hm
    cases hd : stepD l x with
    | none => rw [hd] at hm; cases hm
    | some d =>
      rw [hd] at hm
      exact lowD_all a (l ++ [d]) m (lowD_step h hd) hm
theorem depthL_snoc {ls : List Ln} {k : Nat} (hk : k < ls.length) {acc : List Int} (h : depthL (ls.take k) [] = some acc) : depthL (ls.take (k + 1)) [] = (stepD acc ls[k]).map fun d => acc ++ [d] := by
  rw [take_snoc ls k hk, depthL_append, h]
  show depthL [ls[k]] acc = _
  rw [depthL]
  cases stepD acc ls[k] <;> rfl
theorem depthL_none {ls : List Ln} {k : Nat} (hk : k < ls.length) {acc : List Int} (h : depthL (ls.take k) [] = some acc) (hs : stepD acc ls[k] = none) : depthL ls [] = none := by
  have e : ls = ls.take k ++ (ls[k] :: ls.drop (k + 1)) := by rw [List.getElem_cons_drop, List.take_append_drop]
  rw [e, depthL_append, h]
  show depthL (ls[k] :: ls.drop (k + 1)) acc = none
  rw [depthL, hs]; rfl
end Go.Proofs.YtjcgkplphiedjaaDoorT
