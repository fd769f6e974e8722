/- A line by a rule: what it is. | What is small. | Checks by what the data say: plain laws. -/
import Derived.Test.YtjcgkplphiedjaaDoorTG27
import Derived.Test.YtjcgkplphiedjaaDoorTG25
namespace Go.Proofs.YtjcgkplphiedjaaDoorT
open Go.RowKit Go.Sort

/-- A premise: its line's fact. -/
def premB (x : Co) (L : List Ln) (ss : List Cn) (p : Pn) (id : Int) : Bool :=
  match underS x.ds x.cs ss p.p p.xs with
  | none => false
  | some (q, l) => if id < 0 then false else match L[id.toNat]? with
    | none => false
    | some y => sameB y.p y.xs q l
/-- What must be absent. -/
def absB (x : Co) (ms : List Fa) (ss : List Cn) (p : Pn) : Bool :=
  match underS x.ds x.cs ss p.p p.xs with
  | none => false
  | some (q, l) => !memB ms q l
/-- The head. -/
def headB (x : Co) (y : Ln) (p : Pn) : Bool :=
  match underS x.ds x.cs y.ss p.p p.xs with
  | none => false
  | some (q, l) => sameB q l y.p y.xs
/-- A line by this rule, the lines ahead of it being L. -/
def ruleB (x : Co) (ms : List Fa) (L : List Ln) (y : Ln) (r : Rl) : Bool :=
  if y.m = r.vn then (if knownB x.cs y.ss = true then (if y.k = r.pn then
    (if (r.ps.zip y.fs).all (fun q => premB x L y.ss q.1 q.2) = true then
      (if r.ts.all (testB x.cs y.ss) = true then
        (if r.ns.all (absB x ms y.ss) = true then headB x y r.h else false) else false) else false) else false) else false) else false
/-- A line by a rule. -/
def derivedB (x : Co) (ms : List Fa) (L : List Ln) (y : Ln) : Bool :=
  if y.r < 0 then false else match x.rs[y.r.toNat]? with
  | none => false
  | some r => ruleB x ms L y r

end Go.Proofs.YtjcgkplphiedjaaDoorT

namespace Go.Proofs.YtjcgkplphiedjaaDoorT
open Go.RowKit Go.Sort

/-- What is small in a line. -/
structure Ln.small (x : Ln) : Prop where
  p : x.p.size ≤ 1048576
  xs : ∀ z ∈ x.xs, keyK z
  ss : ∀ z ∈ x.ss, keyK z
  n : x.n ≤ 1048576
  m : x.m ≤ 1048576
  k : x.k ≤ 1048576

end Go.Proofs.YtjcgkplphiedjaaDoorT

namespace Go.Proofs.YtjcgkplphiedjaaDoorT
open Go.RowKit Go.Sort

/-- A premise, an absence, a head, a rule, by what they say. -/
def premC (ds : List Pd) (cs : List Cn) (L : List Ln) (ss : List Cn) (p : Int × List Sl) (id : Int) : Bool :=
  match underS ds cs ss p.1 p.2 with
  | none => false
  | some (q, l) => if id < 0 then false else match L[id.toNat]? with
    | none => false
    | some y => sameB y.p y.xs q l
def memC (M : List (ByteArray × List Cn)) (p : ByteArray) (xs : List Cn) : Bool := M.any fun y => sameB y.1 y.2 p xs
def absC (ds : List Pd) (cs : List Cn) (M : List (ByteArray × List Cn)) (ss : List Cn) (p : Int × List Sl) : Bool :=
  match underS ds cs ss p.1 p.2 with
  | none => false
  | some (q, l) => !memC M q l
def headC (ds : List Pd) (cs : List Cn) (y : Ln) (p : Int × List Sl) : Bool :=
  match underS ds cs y.ss p.1 p.2 with
  | none => false
  | some (q, l) => sameB q l y.p y.xs
def ruleC (ds : List Pd) (cs : List Cn) (M : List (ByteArray × List Cn)) (L : List Ln) (y : Ln) (r : (Int × List Sl) × List (Int × List Sl) × List Ts × List (Int × List Sl) × List ByteArray × Int) : Bool :=
  if y.m = r.2.2.2.2.1.length then (if knownB cs y.ss = true then (if y.k = r.2.1.length then
    (if (r.2.1.zip y.fs).all (fun q => premC ds cs L y.ss q.1 q.2) = true then
      (if r.2.2.1.all (testB cs y.ss) = true then
        (if r.2.2.2.1.all (absC ds cs M y.ss) = true then headC ds cs y r.1 else false) else false) else false) else false) else false) else false

theorem memB_core (ms : List Fa) (p : ByteArray) (xs : List Cn) : memB ms p xs = memC (ms.map Fa.core) p xs := by
  unfold memB memC
  rw [List.any_map]
  rfl
theorem absB_core (x : Co) (ms : List Fa) (ss : List Cn) (p : Pn) : absB x ms ss p = absC x.ds x.cs (ms.map Fa.core) ss p.core := by
  unfold absB absC
  simp only [memB_core]
  rfl
/-- The lists of a rule are as long as their slices say. -/
def Co.tidy (x : Co) : Prop := ∀ r ∈ x.rs, r.vs.length = r.vn ∧ r.ps.length = r.pn
theorem ruleB_core (x : Co) (ms : List Fa) (L : List Ln) (y : Ln) (r : Rl) (h1 : r.vs.length = r.vn) (h2 : r.ps.length = r.pn) :
    ruleB x ms L y r = ruleC x.ds x.cs (ms.map Fa.core) L y r.core := by
  have e1 : (r.ps.zip y.fs).all (fun q => premB x L y.ss q.1 q.2) = ((r.ps.map Pn.core).zip y.fs).all (fun q => premC x.ds x.cs L y.ss q.1 q.2) := by
    rw [List.zip_map_left, List.all_map]
    rfl
  have e2 : r.ns.all (absB x ms y.ss) = (r.ns.map Pn.core).all (absC x.ds x.cs (ms.map Fa.core) y.ss) := by
    rw [List.all_map]
    congr 1
    funext p
    exact absB_core x ms y.ss p
  unfold ruleB ruleC
  rw [← h1, ← h2, e1, e2]
  simp only [Rl.core, List.length_map]
  rfl
theorem derivedB_core {x x' : Co} {ms ms' : List Fa} (hc : x'.core = x.core) (h : x.tidy) (h' : x'.tidy) (hm : ms'.map Fa.core = ms.map Fa.core) (L : List Ln) (y : Ln) :
    derivedB x' ms' L y = derivedB x ms L y := by
  unfold Co.core at hc
  simp only [Prod.mk.injEq] at hc
  obtain ⟨hd, hcs, hr, _⟩ := hc
  unfold derivedB
  split
  · rfl
  · have hk : (x'.rs.map Rl.core)[y.r.toNat]? = (x.rs.map Rl.core)[y.r.toNat]? := by rw [hr]
    rw [List.getElem?_map, List.getElem?_map] at hk
    cases e : x.rs[y.r.toNat]? with
    | none =>
      cases e' : x'.rs[y.r.toNat]? with
      | none => rfl
      | some r' => rw [e, e'] at hk; cases hk
    | some r =>
      cases e' : x'.rs[y.r.toNat]? with
      | none => rw [e, e'] at hk; cases hk
      | some r' =>
        rw [e, e'] at hk
        simp only [Option.map_some, Option.some.injEq] at hk
        have t := h r (List.mem_of_getElem? e)
        have t' := h' r' (List.mem_of_getElem? e')
        show ruleB x' ms' L y r' = ruleB x ms L y r
        rw [ruleB_core x ms L y r t.1 t.2, ruleB_core x' ms' L y r' t'.1 t'.2, hd, hcs, hm, hk]
theorem givenB_core {x x' : Co} (hc : x'.core = x.core) (y : Ln) : givenB x' y = givenB x y := by
  unfold Co.core at hc
  simp only [Prod.mk.injEq] at hc
  obtain ⟨hd, hcs, _, hf⟩ := hc
  have key : ∀ z : Co, z.fs.any (isRow z.ds z.cs y.p y.xs) = (z.fs.map Rw.core).any (fun r => match factS z.ds z.cs r.1 r.2 with | some (q, l) => sameB q l y.p y.xs | none => false) := by
    intro z
    rw [List.any_map]
    rfl
  unfold givenB
  rw [key x, key x', hd, hcs, hf]

/-- Is a line right, the lines ahead of it being L? -/
def rightB (x : Co) (ms : List Fa) (L : List Ln) (y : Ln) : Bool := if y.r = -1 then givenB x y else derivedB x ms L y
def rightAt (x : Co) (ms : List Fa) (ls : List Ln) (i : Nat) : Bool := match ls[i]? with
  | none => true
  | some y => rightB x ms (ls.take i) y
/-- The number of the first that is not right, or -1. -/
def FirstBad (f : Nat → Bool) (n : Nat) (V : Int) : Prop := (V = -1 ∧ ∀ j < n, f j = true) ∨ ∃ i : Nat, i < n ∧ V = (i : Int) ∧ f i = false ∧ ∀ j < i, f j = true
theorem FirstBad.unique {f : Nat → Bool} {n : Nat} {V V' : Int} (h : FirstBad f n V) (h' : FirstBad f n V') : V = V' := by
  rcases h with ⟨rfl, h⟩ | ⟨i, hi, rfl, h1, h2⟩
  · rcases h' with ⟨rfl, h'⟩ | ⟨i', hi', rfl, h1', h2'⟩
    · rfl
    · rw [h i' hi'] at h1'; cases h1'
  · rcases h' with ⟨rfl, h'⟩ | ⟨i', hi', rfl, h1', h2'⟩
    · rw [h' i hi] at h1; cases h1
    · rcases Nat.lt_trichotomy i i' with h | h | h
      · rw [h2' i h] at h1; cases h1
      · rw [h]
      · rw [h2 i' h] at h1'; cases h1'
theorem rightAt_core {x x' : Co} {ms ms' : List Fa} (hc : x'.core = x.core) (h : x.tidy) (h' : x'.tidy) (hm : ms'.map Fa.core = ms.map Fa.core) (ls : List Ln) : rightAt x' ms' ls = rightAt x ms ls := by
  funext i
  unfold rightAt rightB
  split
  · rfl
  · rw [givenB_core hc, derivedB_core hc h h' hm]
end Go.Proofs.YtjcgkplphiedjaaDoorT
