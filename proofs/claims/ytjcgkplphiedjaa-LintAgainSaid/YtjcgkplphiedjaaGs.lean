/- The findings in a program, plainly. | Counting by names, plainly: what the program's maps hold. | The findings hang on what clauses hold, not on where their lists lie. -/
import Derived.Test.YtjcgkplphiedjaaGd
import Derived.Test.YtjcgkplphiedjaaGe
import Derived.Test.YtjcgkplphiedjaaGr
namespace Go.Proofs.Ytjcgkplphiedjaa
open Go.RowKit

/-- A comparison of constants. -/
def holdsB (op c : Int) : Bool := if op = 1 then c == 0 else if op = 2 then c != 0 else if op = 3 then decide (c < 0) else if op = 4 then decide (c ≤ 0) else if op = 5 then decide (0 < c) else decide (0 ≤ c)
def cmpR (op k i : Int) (s : ByteArray) (l j : Int) (t : ByteArray) : Bool :=
  if op < 1 ∨ 6 < op then false else if validC k i s = true then (if validC l j t = true then holdsB op (cmpC k i s l j t) else false) else false

def cmpErr (op k i : Int) (s : ByteArray) (l j : Int) (t : ByteArray) : Int :=
  if op < 1 ∨ 6 < op then 2 else if validC k i s = true then (if validC l j t = true then 0 else 5) else 5

/-- What can be seen of a test alone: whether it always holds, or never does. -/
def opIdle (op : Int) : Bool := (op == 1) || ((op == 4) || (op == 6))
def verdB (x : Li) : Option Bool :=
  if x.k = 3 then (if sideEq x.l x.r = true then some (opIdle x.op) else if sideFix x.l x.r = true then some (cmpR x.op x.l.k x.l.i x.l.t x.r.k x.r.i x.r.t) else none) else none
def verdI (x : Li) : Int := match verdB x with
  | none => 0
  | some true => 1
  | some false => -1
def idleB (x : Li) : Bool := decide (verdB x = some true)
def voidB (x : Li) : Bool := decide (verdB x = some false)
theorem verdI_pos (x : Li) : 0 < verdI x ↔ idleB x = true := by
  unfold verdI idleB
  cases verdB x with
  | none => simp
  | some b => cases b <;> simp
theorem verdI_neg (x : Li) : verdI x < 0 ↔ voidB x = true := by
  unfold verdI voidB
  cases verdB x with
  | none => simp
  | some b => cases b <;> simp

/-- The first place at which something holds. -/
def firstI {α : Type} (f : Nat → α → Bool) : Nat → List α → Option Nat
  | _, [] => none
  | k, a :: l => if f k a = true then some k else firstI f (k + 1) l
theorem firstI_drop {α : Type} (f : Nat → α → Bool) (l : List α) (k : Nat) (h : k < l.length) : firstI f k (l.drop k) = if f k l[k] = true then some k else firstI f (k + 1) (l.drop (k + 1)) := by
  rw [List.drop_eq_getElem_cons h]; rfl
theorem firstI_end {α : Type} (f : Nat → α → Bool) (l : List α) (k j : Nat) (h : l.length ≤ k) : firstI f j (l.drop k) = none := by
  rw [List.drop_eq_nil_of_le h]; rfl
theorem firstI_congr {α : Type} {f g : Nat → α → Bool} : ∀ (l : List α) (k : Nat), (∀ j, (h : j < l.length) → f (k + j) l[j] = g (k + j) l[j]) → firstI f k l = firstI g k l
  | [], _, _ => rfl
  | a :: l, k, h => by
    have h0 := h 0 (by simp)
    simp only [Nat.add_zero, List.getElem_cons_zero] at h0
    unfold firstI
    have e := firstI_congr (f := f) (g := g) l (k + 1) (fun j hj => by
      have := h (j + 1) (by simpa using hj)
      simp only [List.getElem_cons_succ] at this
      have e : k + 1 + j = k + (j + 1) := by omega
      rw [e]; exact this)
    rw [h0, e]
theorem firstI_some {α : Type} {f : Nat → α → Bool} : ∀ (l : List α) (k m : Nat), firstI f k l = some m → k ≤ m ∧ m < k + l.length
  | [], _, _, h => by cases h
  | a :: l, k, m, h => by
    unfold firstI at h
    split at h
    · injection h with h; subst h; simp
    · have := firstI_some l (k + 1) m h
      simp only [List.length_cons]
      omega
def optI : Option Nat → Int
  | none => -1
  | some k => (k : Int)

/-- A positive literal that a negated one denies. -/
def sameT (a b : T) : Bool := likeT a b && !a.nn
def eqTs : List T → List T → Bool
  | [], [] => true
  | a :: as_, b :: bs => sameT a b && eqTs as_ bs
  | _, _ => false
theorem eqTs_drop (X Y : List T) (k : Nat) (h : k < X.length) (h' : k < Y.length) : eqTs (X.drop k) (Y.drop k) = (sameT X[k] Y[k] && eqTs (X.drop (k + 1)) (Y.drop (k + 1))) := by
  rw [List.drop_eq_getElem_cons h, List.drop_eq_getElem_cons h']; rfl
theorem eqTs_end (X Y : List T) (k : Nat) (h : X.length ≤ k) (h' : Y.length ≤ k) : eqTs (X.drop k) (Y.drop k) = true := by
  rw [List.drop_eq_nil_of_le h, List.drop_eq_nil_of_le h']; rfl
theorem eqTs_length : ∀ (X Y : List T), X.length ≠ Y.length → eqTs X Y = false
  | [], [], h => absurd rfl h
  | [], _ :: _, _ => rfl
  | _ :: _, [], _ => rfl
  | a :: X, b :: Y, h => by
    unfold eqTs
    rw [eqTs_length X Y (fun e => h (by simp [e])), Bool.and_false]
def meetsB (m l : Li) : Bool := (m.k == 1) && ((m.a.p.toList == l.a.p.toList) && eqTs m.a.es l.a.es)
def refB (ls : List Li) (l : Li) : Bool := (l.k == 2) && ls.any fun m => meetsB m l
def faultB (ls : List Li) (l : Li) : Bool := voidB l || refB ls l
def atO (x : Cl) : Option Nat := firstI (fun _ l => faultB x.ls l) 0 x.ls

def twiceO (cs : List Cl) (i : Nat) (x : Cl) : Option Nat := firstI (fun _ y => againR x y) 0 (cs.take i)
def covB (i : Nat) (x : Cl) (j : Nat) (y : Cl) : Bool := decide (j ≠ i) && (coversD y x && (decide (j < i) || !coversD x y))
def coveredO (cs : List Cl) (i : Nat) (x : Cl) : Option Nat := firstI (covB i x) 0 cs

/-- A finding. -/
structure Fd where
  k : Int
  c : Int
  o : Int
  f : Int
  n : ByteArray
def Fd.cells (x : Fd) : List Value := [.int .i64 x.k, .int .i64 x.c, .int .i64 x.o, .int .i64 x.f, .string x.n]
def fcells (l : List Fd) : List Value := l.flatMap Fd.cells
theorem fcells_length (l : List Fd) : (fcells l).length = l.length * 5 := flat_length Fd.cells 5 (fun _ => rfl) l
theorem fcells_append (a b : List Fd) : fcells (a ++ b) = fcells a ++ fcells b := by simp [fcells]
theorem Fd.one (x : Fd) : ∀ u ∈ x.cells, u.oneCell' = true := by
  intro u hu
  simp only [Fd.cells, List.mem_cons, List.not_mem_nil, or_false] at hu
  rcases hu with rfl | rfl | rfl | rfl | rfl <;> rfl
theorem fds_one (l : List Fd) : ∀ u ∈ fcells l, u.oneCell' = true := by
  intro u hu
  obtain ⟨x, _, hu⟩ := List.mem_flatMap.1 hu
  exact x.one u hu

def noS : ByteArray := ⟨#[]⟩
def othersF (cs : List Cl) (i : Nat) (x : Cl) : List Fd := match twiceO cs i x with
  | some j => [⟨1, i, j, x.h.o, noS⟩]
  | none => match coveredO cs i x with
    | some j => [⟨2, i, j, x.h.o, noS⟩]
    | none => []
def offAt (x : Cl) (k : Nat) : Int := (x.ls[k]?.map Li.o).getD 0
def neverF (i : Nat) (x : Cl) : List Fd := match atO x with
  | some k => [⟨3, i, -1, offAt x k, noS⟩]
  | none => []
def timesT (L : List T) (s : ByteArray) : Nat := L.countP fun t => (t.k == 4) && (t.t.toList == s.toList)
def headS (s : ByteArray) : Int := ((s.toList.headD 0).toNat : Int)
def singleB (L : List T) (t : T) : Bool := (t.k == 4) && (!(headS t.t == 95) && decide (timesT L t.t = 1))
def singleFd (i : Nat) (t : T) : Fd := ⟨4, i, -1, t.o, t.t⟩
def singlesL (L : List T) (i : Nat) (l : List T) : List Fd := (l.filter (singleB L)).map (singleFd i)
def singlesF (i : Nat) (x : Cl) : List Fd := singlesL x.tot i x.tot
def idleFd (i : Nat) (l : Li) : Fd := ⟨5, i, -1, l.o, noS⟩
def idlesL (i : Nat) (l : List Li) : List Fd := (l.filter idleB).map (idleFd i)
def idlesF (i : Nat) (x : Cl) : List Fd := idlesL i x.ls
def askB (s : ByteArray) (l : Li) : Bool := !(l.k == 3) && (l.a.p.toList == s.toList)
def namedB' (cs : List Cl) (s : ByteArray) : Bool := cs.any fun y => y.ls.any (askB s)
def tellB (s : ByteArray) (y : Cl) : Bool := decide (0 < y.ls.length) && (y.h.p.toList == s.toList)
def toldB (cs : List Cl) (i : Nat) (s : ByteArray) : Bool := (cs.take i).any (tellB s)
def unusedB (cs : List Cl) (i : Nat) (x : Cl) : Bool := decide (0 < x.ls.length) && (!namedB' cs x.h.p && !toldB cs i x.h.p)
def unusedF (cs : List Cl) (i : Nat) (x : Cl) : List Fd := if unusedB cs i x = true then [⟨6, i, -1, x.h.o, x.h.p⟩] else []
def findF (cs : List Cl) (i : Nat) (x : Cl) : List Fd := othersF cs i x ++ (neverF i x ++ (singlesF i x ++ (idlesF i x ++ unusedF cs i x)))
def lookN (cs : List Cl) : Nat → List Fd
  | 0 => []
  | i + 1 => lookN cs i ++ ((cs[i]?.map (findF cs i)).getD [])
def lookF (cs : List Cl) : List Fd := if wellE cs = 0 then lookN cs cs.length else []
theorem lookN_succ (cs : List Cl) (i : Nat) (h : i < cs.length) : lookN cs (i + 1) = lookN cs i ++ findF cs i cs[i] := by
  rw [lookN, List.getElem?_eq_getElem h]; rfl
theorem singlesL_succ (L : List T) (i k : Nat) (l : List T) (h : k < l.length) : singlesL L i (l.take (k + 1)) = singlesL L i (l.take k) ++ (if singleB L l[k] = true then [singleFd i l[k]] else []) := by
  unfold singlesL
  rw [take_snoc l k h, List.filter_append, List.map_append]
  cases h : singleB L l[k] <;> simp [h]
theorem idlesL_succ (i k : Nat) (l : List Li) (h : k < l.length) : idlesL i (l.take (k + 1)) = idlesL i (l.take k) ++ (if idleB l[k] = true then [idleFd i l[k]] else []) := by
  unfold idlesL
  rw [take_snoc l k h, List.filter_append, List.map_append]
  cases h : idleB l[k] <;> simp [h]

theorem othersF_len (cs : List Cl) (i : Nat) (x : Cl) : (othersF cs i x).length ≤ 1 := by
  unfold othersF
  split
  · simp
  · split <;> simp
theorem neverF_len (i : Nat) (x : Cl) : (neverF i x).length ≤ 1 := by
  unfold neverF
  split <;> simp
theorem singlesL_len (L : List T) (i : Nat) (l : List T) : (singlesL L i l).length ≤ l.length := by
  unfold singlesL; rw [List.length_map]; exact List.length_filter_le _ _
theorem idlesL_len (i : Nat) (l : List Li) : (idlesL i l).length ≤ l.length := by
  unfold idlesL; rw [List.length_map]; exact List.length_filter_le _ _
theorem unusedF_len (cs : List Cl) (i : Nat) (x : Cl) : (unusedF cs i x).length ≤ 1 := by
  unfold unusedF
  split <;> simp

/-- What a program that is well formed has. -/
theorem wellE_parts {cs : List Cl} (h : wellE cs = 0) : cs.length ≤ 512 ∧ ∀ x ∈ cs, clauseE x = 0 := by
  unfold wellE at h
  split at h
  · cases h
  · exact ⟨by omega, firstE_all h⟩
theorem termE_var {e : T} (h : e.err = 0) (hk : e.k = 4) : e.i = 0 ∧ isVarS e.t = true := by
  unfold T.err termE at h
  rw [if_pos hk] at h
  split at h
  · assumption
  · cases h
theorem atomE_terms {p : ByteArray} {es : List T} (h : atomE p es = 0) : ∀ e ∈ es, e.err = 0 := by
  unfold atomE at h
  split at h
  · cases h
  · split at h
    · cases h
    · exact firstE_all h
theorem litE_err {x : Li} (h : litE x = 0) : ∀ e ∈ x.terms, e.err = 0 := by
  intro e he
  unfold litE at h
  unfold Li.terms at he
  split at h
  · rename_i hk
    split at h
    · cases h
    · rw [if_neg (by omega)] at he
      exact atomE_terms h e he
  · split at h
    · rename_i hk
      rw [if_pos hk] at he
      split at h
      · cases h
      · exact firstE_all h e he
    · cases h
theorem clauseE_err {x : Cl} (h : clauseE x = 0) : ∀ e ∈ x.tot, e.err = 0 := by
  obtain ⟨h1, h2, h3⟩ := clauseE_parts h
  intro e he
  unfold Cl.tot at he
  rcases List.mem_append.1 he with he | he
  · exact atomE_terms h1 e he
  · obtain ⟨y, hy, he⟩ := List.mem_flatMap.1 he
    exact litE_err (firstE_all h3 y hy) e he
theorem litE_good {x : Li} (h : litE x = 0) : x.good := by
  refine ⟨fun hk => ?_, fun hk => ?_, fun e he h4 => (termE_var (litE_err h e he) h4).1⟩
  · unfold litE at h
    rw [if_neg (by omega), if_pos hk] at h
    split at h
    · cases h
    · rename_i hn
      have : (x.a.p.toList == []) = true := by
        cases hc : (x.a.p.toList == []) with
        | true => rfl
        | false => exact absurd (.inl (.inr hc)) hn
      exact bytes_eq (by simpa using this)
  · unfold litE at h
    split at h
    · split at h
      · cases h
      · rename_i hn
        by_cases h0 : x.op = 0
        · exact h0
        · exact absurd (.inl h0) hn
    · first
        | (rw [if_neg hk] at h; cases h)
        | cases h
theorem clauseE_good {x : Cl} (h : clauseE x = 0) : x.good := by
  refine ⟨fun e he h4 => (termE_var (clauseE_err h e (List.mem_append.2 (.inl he))) h4).1, fun y hy => ?_⟩
  obtain ⟨_, _, h3⟩ := clauseE_parts h
  exact litE_good (firstE_all h3 y hy)
theorem coversPD {a b : Cl} (ha : clauseE a = 0) (hb : clauseE b = 0) : coversP a b = coversD a b := by
  rw [covers_same (clauseE_good ha) (clauseE_good hb)]
  unfold coversD
  by_cases h : a.ls.length ≤ 6
  · rw [if_pos ⟨ha, hb, h⟩, decide_eq_true h, Bool.true_and]
  · rw [if_neg (fun hh => h hh.2.2), decide_eq_false h, Bool.false_and]
theorem againPR {a b : Cl} (ha : clauseE a = 0) (hb : clauseE b = 0) : againP a b = againR b a := again_same (clauseE_good ha) (clauseE_good hb)

/-- The program's test of a test: the sides are one. -/
def sideSame (l r : T) : Bool := (likeT l r && !l.nn) && (l.k == 4)
theorem sides_same {l r : T} (hl : l.err = 0) (hr : r.err = 0) : sideSame l r = sideEq l r := by
  unfold sideSame sideEq likeT like T.nn noName
  by_cases h4 : l.k = 4
  · by_cases h5 : r.k = 4
    · have h1 := (termE_var hl h4).1
      have h2 := (termE_var hr h5).1
      rw [h4, h5, h1, h2]
      simp
    · have e1 : (l.k == r.k) = false := by simp; omega
      rw [e1, decide_eq_false (fun h => h5 h.2)]
      simp
  · have e1 : (l.k == 4) = false := by simp; omega
    rw [e1, decide_eq_false (fun h => h4 h.1)]
    simp
end Go.Proofs.Ytjcgkplphiedjaa

namespace Go.Proofs.Ytjcgkplphiedjaa
open Go.RowKit

def getI (m : List (ByteArray × Int)) (s : ByteArray) : Int := ((m.find? fun p => decide (p.1 = s)).map Prod.snd).getD 0
def intF (m : List (ByteArray × Int)) (s : ByteArray) : Option Value := (m.find? fun p => decide (p.1 = s)).map fun p => .int .i64 p.2
theorem intF_get (m : List (ByteArray × Int)) (s : ByteArray) : (intF m s).getD (.int .i64 0) = .int .i64 (getI m s) := by
  unfold intF getI
  cases m.find? fun p => decide (p.1 = s) <;> rfl
theorem intF_put (m : List (ByteArray × Int)) (s : ByteArray) (v : Int) (u : ByteArray) : (if u = s then some (Value.int .i64 v) else intF m u) = intF ((s, v) :: m) u := by
  unfold intF
  rw [List.find?_cons]
  by_cases h : u = s
  · subst h; simp
  · rw [if_neg h, decide_eq_false (fun e => h e.symm)]
theorem getI_put (m : List (ByteArray × Int)) (s : ByteArray) (v : Int) (u : ByteArray) : getI ((s, v) :: m) u = if s = u then v else getI m u := by
  unfold getI
  rw [List.find?_cons]
  by_cases h : s = u
  · rw [if_pos h, decide_eq_true h]; rfl
  · rw [if_neg h, decide_eq_false h]
theorem str_beq (a b : ByteArray) : (a.toList == b.toList) = decide (a = b) := by
  by_cases h : a = b
  · subst h; simp
  · rw [decide_eq_false h]
    cases hc : (a.toList == b.toList) with
    | false => rfl
    | true => exact absurd ((bytes_eq (l := b.toList) (by simpa using hc)).trans (bytes_eq (b := b) rfl).symm) h

/-- How often names stand in terms. -/
def TCnt (m : List (ByteArray × Int)) (L : List T) : Prop := ∀ s, getI m s = (timesT L s : Nat)
theorem TCnt.nil : TCnt [] [] := fun _ => rfl
theorem TCnt.skip {m : List (ByteArray × Int)} {L : List T} {t : T} (h : TCnt m L) (hk : (t.k == 4) = false) : TCnt m (L ++ [t]) := by
  intro s
  rw [h s]
  unfold timesT
  rw [List.countP_append]
  simp [hk]
theorem TCnt.add {m : List (ByteArray × Int)} {L : List T} {t : T} (h : TCnt m L) (hk : (t.k == 4) = true) : TCnt ((t.t, getI m t.t + 1) :: m) (L ++ [t]) := by
  intro s
  rw [getI_put, h s, h t.t]
  unfold timesT
  rw [List.countP_append, List.countP_singleton, hk, Bool.true_and, str_beq]
  by_cases e : t.t = s
  · rw [if_pos e, e]; simp
  · rw [if_neg e, decide_eq_false e]; simp
theorem TCnt.le {m : List (ByteArray × Int)} {L : List T} (h : TCnt m L) (s : ByteArray) : 0 ≤ getI m s ∧ getI m s ≤ L.length := by
  rw [h s]
  have : timesT L s ≤ L.length := List.countP_le_length
  omega

/-- How often predicates stand in bodies. -/
def LCnt (m : List (ByteArray × Int)) (L : List Li) : Prop := ∀ s, getI m s = ((L.countP (askB s) : Nat) : Int)
theorem LCnt.nil : LCnt [] [] := fun _ => rfl
theorem LCnt.skip {m : List (ByteArray × Int)} {L : List Li} {l : Li} (h : LCnt m L) (hk : (l.k == 3) = true) : LCnt m (L ++ [l]) := by
  intro s
  rw [h s, List.countP_append]
  simp [askB, hk]
theorem LCnt.add {m : List (ByteArray × Int)} {L : List Li} {l : Li} (h : LCnt m L) (hk : (l.k == 3) = false) : LCnt ((l.a.p, getI m l.a.p + 1) :: m) (L ++ [l]) := by
  intro s
  rw [getI_put, h s, h l.a.p, List.countP_append, List.countP_singleton]
  unfold askB
  rw [hk, Bool.not_false, Bool.true_and, str_beq]
  by_cases e : l.a.p = s
  · rw [if_pos e, e]; simp
  · rw [if_neg e, decide_eq_false e]; simp
theorem LCnt.le {m : List (ByteArray × Int)} {L : List Li} (h : LCnt m L) (s : ByteArray) : 0 ≤ getI m s ∧ getI m s ≤ L.length := by
  rw [h s]
  have : L.countP (askB s) ≤ L.length := List.countP_le_length
  omega

/-- What Look's map says when clause i comes. -/
def Told (m : List (ByteArray × Int)) (cs : List Cl) (i : Nat) : Prop := ∀ s, getI m s = 0 ↔ namedB' cs s = false ∧ toldB cs i s = false
theorem Told.start {m : List (ByteArray × Int)} {cs : List Cl} (h : LCnt m (cs.flatMap Cl.ls)) : Told m cs 0 := by
  intro s
  rw [h s]
  have e : toldB cs 0 s = false := by simp [toldB]
  rw [e]
  simp only [and_true]
  constructor
  · intro h0
    have h0 : (cs.flatMap Cl.ls).countP (askB s) = 0 := by omega
    rw [List.countP_eq_zero] at h0
    rw [namedB', List.any_eq_false]
    intro y hy hc
    obtain ⟨l, hl, hc⟩ := List.any_eq_true.1 hc
    exact h0 l (List.mem_flatMap.2 ⟨y, hy, hl⟩) hc
  · intro h0
    have : (cs.flatMap Cl.ls).countP (askB s) = 0 := by
      rw [List.countP_eq_zero]
      intro l hl hc
      obtain ⟨y, hy, hl⟩ := List.mem_flatMap.1 hl
      rw [namedB', List.any_eq_false] at h0
      exact h0 y hy (List.any_eq_true.2 ⟨l, hl, hc⟩)
    omega
theorem toldB_succ (cs : List Cl) (i : Nat) (h : i < cs.length) (s : ByteArray) : toldB cs (i + 1) s = (toldB cs i s || tellB s cs[i]) := by
  unfold toldB
  rw [take_snoc cs i h, List.any_append]
  simp
theorem Told.same {m : List (ByteArray × Int)} {cs : List Cl} {i : Nat} (h : Told m cs i) (hi : i < cs.length) (hc : (0 < cs[i].ls.length) → getI m cs[i].h.p ≠ 0) : Told m cs (i + 1) := by
  intro s
  rw [toldB_succ cs i hi]
  by_cases ht : tellB s cs[i] = true
  · have h2 := ht
    unfold tellB at h2
    rw [Bool.and_eq_true, str_beq, decide_eq_true_eq, decide_eq_true_eq] at h2
    obtain ⟨h3, h4⟩ := h2
    have := hc h3
    rw [h4] at this
    rw [ht]
    simp [this]
  · have ht : tellB s cs[i] = false := by simpa using ht
    rw [ht, Bool.or_false]
    exact h s
theorem Told.put {m : List (ByteArray × Int)} {cs : List Cl} {i : Nat} (h : Told m cs i) (hi : i < cs.length) (hc : 0 < cs[i].ls.length) : Told ((cs[i].h.p, -1) :: m) cs (i + 1) := by
  intro s
  rw [toldB_succ cs i hi, getI_put]
  have et : tellB s cs[i] = decide (cs[i].h.p = s) := by unfold tellB; rw [decide_eq_true hc, Bool.true_and, str_beq]
  rw [et]
  by_cases e : cs[i].h.p = s
  · rw [if_pos e, decide_eq_true e]; simp
  · rw [if_neg e, decide_eq_false e, Bool.or_false]
    exact h s
theorem Told.unused {m : List (ByteArray × Int)} {cs : List Cl} {i : Nat} (h : Told m cs i) (x : Cl) : unusedB cs i x = (decide (0 < x.ls.length) && (getI m x.h.p == 0)) := by
  unfold unusedB
  congr 1
  have := h x.h.p
  cases h1 : namedB' cs x.h.p <;> cases h2 : toldB cs i x.h.p <;> rw [h1, h2] at this <;> simp at this <;> simp [this]
end Go.Proofs.Ytjcgkplphiedjaa

namespace Go.Proofs.Ytjcgkplphiedjaa
open Go.RowKit

def At.strip (a : At) : At := ⟨a.p, none, 0, 0, a.o, a.es⟩
def Li.strip (x : Li) : Li := ⟨x.k, x.a.strip, x.op, x.l, x.r, x.o⟩
def Cl.strip (x : Cl) : Cl := ⟨x.h.strip, none, 0, 0, x.ls.map Li.strip⟩
def atOf (a : ByteArray × Int × List T) : At := ⟨a.1, none, 0, 0, a.2.1, a.2.2⟩
def liOf (x : Int × (ByteArray × Int × List T) × Int × T × T × Int) : Li := ⟨x.1, atOf x.2.1, x.2.2.1, x.2.2.2.1, x.2.2.2.2.1, x.2.2.2.2.2⟩
theorem strip_core (x : Cl) : x.strip = ⟨atOf x.core.1, none, 0, 0, x.core.2.map liOf⟩ := by
  unfold Cl.strip Cl.core
  rw [List.map_map]
  rfl
theorem strips_core {cs ds : List Cl} (h : cs.map Cl.core = ds.map Cl.core) : cs.map Cl.strip = ds.map Cl.strip := by
  have e : Cl.strip = (fun c => (⟨atOf c.1, none, 0, 0, c.2.map liOf⟩ : Cl)) ∘ Cl.core := funext strip_core
  rw [e, ← List.map_map, ← List.map_map, h]

theorem firstE_map {α : Type} {f : α → Int} {g : α → α} (h : ∀ x, f (g x) = f x) : ∀ l : List α, firstE f (l.map g) = firstE f l
  | [] => rfl
  | a :: l => by
    simp only [List.map_cons, firstE]
    rw [h, firstE_map h l]
theorem firstI_map {α : Type} {f f' : Nat → α → Bool} {g : α → α} (h : ∀ k x, f (k) (g x) = f' k x) : ∀ (l : List α) (k : Nat), firstI f k (l.map g) = firstI f' k l
  | [], _ => rfl
  | a :: l, k => by
    simp only [List.map_cons, firstI]
    rw [h, firstI_map h l]
theorem litE_strip (x : Li) : litE x.strip = litE x := rfl
theorem clauseE_strip (x : Cl) : clauseE x.strip = clauseE x := by
  unfold clauseE
  have e : firstE litE x.strip.ls = firstE litE x.ls := firstE_map litE_strip x.ls
  have l : x.strip.ls.length = x.ls.length := List.length_map ..
  rw [e, l]
  rfl
theorem pairL_strip : ∀ (ls : List Li) (n : Nat), (pairL n (ls.map Li.strip)).map mkPt = (pairL n ls).map mkPt
  | [], _ => rfl
  | l :: ls, n => by
    simp only [List.map_cons, pairL]
    have e : l.strip.terms = l.terms := rfl
    rw [e, pairL_strip ls]
    rfl
theorem bodyPts_strip (x : Cl) : bodyPts x.strip = bodyPts x := pairL_strip x.ls _
theorem headPt_strip (x : Cl) : headPt x.strip = headPt x := rfl
theorem len_strip (x : Cl) : x.strip.ls.length = x.ls.length := List.length_map ..
theorem againR_strip (x y : Cl) : againR x.strip y.strip = againR x y := by
  unfold againR
  simp only [bodyPts_strip, headPt_strip, len_strip]
theorem coversD_strip (x y : Cl) : coversD x.strip y.strip = coversD x y := by
  unfold coversD
  simp only [bodyPts_strip, headPt_strip, len_strip, clauseE_strip]
theorem tot_strip (x : Cl) : x.strip.tot = x.tot := by
  unfold Cl.tot
  have e : x.strip.ls.flatMap Li.terms = x.ls.flatMap Li.terms := by
    show (x.ls.map Li.strip).flatMap Li.terms = _
    rw [List.flatMap_map]
    rfl
  rw [e]
  rfl
theorem twiceO_strip (cs : List Cl) (i : Nat) (x : Cl) : twiceO (cs.map Cl.strip) i x.strip = twiceO cs i x := by
  unfold twiceO
  rw [← List.map_take]
  exact firstI_map (fun k y => againR_strip x y) _ _
theorem coveredO_strip (cs : List Cl) (i : Nat) (x : Cl) : coveredO (cs.map Cl.strip) i x.strip = coveredO cs i x := by
  unfold coveredO
  refine firstI_map (fun k y => ?_) _ _
  unfold covB
  rw [coversD_strip, coversD_strip]
theorem othersF_strip (cs : List Cl) (i : Nat) (x : Cl) : othersF (cs.map Cl.strip) i x.strip = othersF cs i x := by
  unfold othersF
  rw [twiceO_strip, coveredO_strip]
  rfl
theorem faultB_strip (ls : List Li) (l : Li) : faultB (ls.map Li.strip) l.strip = faultB ls l := by
  unfold faultB refB
  rw [List.any_map]
  rfl
theorem atO_strip (x : Cl) : atO x.strip = atO x := firstI_map (fun _ l => faultB_strip x.ls l) x.ls 0
theorem offAt_strip (x : Cl) (k : Nat) : offAt x.strip k = offAt x k := by
  unfold offAt
  have e : x.strip.ls[k]? = x.ls[k]?.map Li.strip := List.getElem?_map ..
  rw [e]
  cases x.ls[k]? <;> rfl
theorem neverF_strip (i : Nat) (x : Cl) : neverF i x.strip = neverF i x := by
  unfold neverF
  rw [atO_strip]
  simp only [offAt_strip]
theorem singlesF_strip (i : Nat) (x : Cl) : singlesF i x.strip = singlesF i x := by
  unfold singlesF
  rw [tot_strip]
theorem idlesF_strip (i : Nat) (x : Cl) : idlesF i x.strip = idlesF i x := by
  unfold idlesF idlesL
  have e : x.strip.ls = x.ls.map Li.strip := rfl
  rw [e, List.filter_map, List.map_map]
  rfl
theorem namedB_strip (cs : List Cl) (s : ByteArray) : namedB' (cs.map Cl.strip) s = namedB' cs s := by
  unfold namedB'
  rw [List.any_map]
  congr 1
  funext y
  show (y.ls.map Li.strip).any (askB s) = _
  rw [List.any_map]
  rfl
theorem toldB_strip (cs : List Cl) (i : Nat) (s : ByteArray) : toldB (cs.map Cl.strip) i s = toldB cs i s := by
  unfold toldB
  rw [← List.map_take, List.any_map]
  congr 1
  funext y
  show tellB s y.strip = _
  unfold tellB
  rw [len_strip]
  rfl
theorem unusedF_strip (cs : List Cl) (i : Nat) (x : Cl) : unusedF (cs.map Cl.strip) i x.strip = unusedF cs i x := by
  have e : x.strip.h.p = x.h.p := rfl
  have e2 : x.strip.h.o = x.h.o := rfl
  unfold unusedF unusedB
  rw [len_strip, e, e2, namedB_strip, toldB_strip]
theorem findF_strip (cs : List Cl) (i : Nat) (x : Cl) : findF (cs.map Cl.strip) i x.strip = findF cs i x := by
  unfold findF
  rw [othersF_strip, neverF_strip, singlesF_strip, idlesF_strip, unusedF_strip]
theorem lookN_strip (cs : List Cl) : ∀ i, lookN (cs.map Cl.strip) i = lookN cs i
  | 0 => rfl
  | i + 1 => by
    simp only [lookN]
    rw [lookN_strip cs i, List.getElem?_map]
    cases cs[i]? with
    | none => rfl
    | some x =>
      simp only [Option.map_some, Option.getD_some]
      rw [findF_strip]
theorem wellE_strip (cs : List Cl) : wellE (cs.map Cl.strip) = wellE cs := by
  unfold wellE
  rw [List.length_map, firstE_map clauseE_strip]
theorem lookF_strip (cs : List Cl) : lookF (cs.map Cl.strip) = lookF cs := by
  unfold lookF
  rw [wellE_strip, List.length_map, lookN_strip]
theorem lookF_core {cs ds : List Cl} (h : cs.map Cl.core = ds.map Cl.core) : lookF cs = lookF ds := by
  rw [← lookF_strip cs, strips_core h, lookF_strip]
end Go.Proofs.Ytjcgkplphiedjaa
