/- Clauses as data: what reads as one; which predicates are needed. No program. -/
import Derived.Test.YtjcgkplphiedjaaJ6
namespace Go.Proofs.Ytjcgkplphiedjaa
open Go.RowKit

/-- A literal: its fourteen cells. -/
structure Li where
  k : Int
  a : At
  op : Int
  l : T
  r : T
  o : Int
def Li.cells (x : Li) : List Value := [.int .i64 x.k, .string x.a.p, .slice x.a.A x.a.n x.a.c, .int .i64 x.a.o, .int .i64 x.op, .int .i64 x.l.k, .int .i64 x.l.i, .string x.l.t, .int .i64 x.l.o, .int .i64 x.r.k, .int .i64 x.r.i, .string x.r.t, .int .i64 x.r.o, .int .i64 x.o]
def lcells (l : List Li) : List Value := l.flatMap Li.cells
/-- A clause: its four cells. -/
structure Cl where
  h : At
  A : Option Addr
  n : Nat
  c : Nat
  ls : List Li
def Cl.cells (x : Cl) : List Value := [.string x.h.p, .slice x.h.A x.h.n x.h.c, .int .i64 x.h.o, .slice x.A x.n x.c]
def ccells (l : List Cl) : List Value := l.flatMap Cl.cells

theorem flat_at {α : Type} (f : α → List Value) (s : Nat) (hf : ∀ x, (f x).length = s) (l : List α) (k j : Nat) (hk : k < l.length) (hj : j < s) : (l.flatMap f)[k * s + j]? = (f l[k])[j]? := by
  induction l generalizing k with
  | nil => simp at hk
  | cons e es ih =>
    cases k with
    | zero =>
      simp only [List.flatMap_cons, Nat.zero_mul, Nat.zero_add, List.getElem_cons_zero]
      rw [List.getElem?_append_left (by rw [hf]; exact hj)]
    | succ k =>
      simp only [List.flatMap_cons, List.getElem_cons_succ]
      have e1 : (k + 1) * s + j = s + (k * s + j) := by rw [Nat.succ_mul]; omega
      rw [List.getElem?_append_right (by rw [hf]; omega), hf, e1, Nat.add_sub_cancel_left]
      exact ih k (by simpa using hk)
theorem flat_length {α : Type} (f : α → List Value) (s : Nat) (hf : ∀ x, (f x).length = s) (l : List α) : (l.flatMap f).length = l.length * s := by
  induction l with
  | nil => simp
  | cons e es ih => rw [List.flatMap_cons, List.length_append, hf, ih, List.length_cons, Nat.succ_mul]; omega

theorem Rd.at {α : Type} (f : α → List Value) (s : Nat) (hf : ∀ x, (f x).length = s) {w : World} {B : Nat} {A : Option Addr} {n : Nat} {l : List α} (h : Rd w B s A n (l.flatMap f)) (hs : 0 < s) (k : Nat) (hk : k < n) :
    ∃ b o, ∃ h2 : k < l.length, A = some ⟨b, o, none⟩ ∧ b < B ∧ ∀ j u, j < s → (f l[k])[j]? = some u → w.cell? ⟨b, o + k * s + j, none⟩ = some u := by
  obtain ⟨h1, h2, h3⟩ := h
  obtain ⟨b, o, hA, hb, hc⟩ := h3 (by omega)
  rw [flat_length f s hf] at h1
  have hl : l.length = n := Nat.eq_of_mul_eq_mul_right hs h1
  refine ⟨b, o, by omega, hA, hb, fun j u hj hu => ?_⟩
  rw [Nat.add_assoc]
  exact hc _ _ (by rw [flat_at f s hf l k j (by omega) hj]; exact hu)

theorem lcells_append (a b : List Li) : lcells (a ++ b) = lcells a ++ lcells b := by simp [lcells]
theorem ccells_append (a b : List Cl) : ccells (a ++ b) = ccells a ++ ccells b := by simp [ccells]
theorem lcells_length (l : List Li) : (lcells l).length = l.length * 14 := flat_length Li.cells 14 (fun _ => rfl) l
theorem ccells_length (l : List Cl) : (ccells l).length = l.length * 4 := flat_length Cl.cells 4 (fun _ => rfl) l
theorem Li.one (x : Li) : ∀ u ∈ x.cells, u.oneCell' = true := by
  intro u hu
  simp only [Li.cells, List.mem_cons, List.not_mem_nil, or_false] at hu
  rcases hu with rfl | rfl | rfl | rfl | rfl | rfl | rfl | rfl | rfl | rfl | rfl | rfl | rfl | rfl <;> rfl
theorem Cl.one (x : Cl) : ∀ u ∈ x.cells, u.oneCell' = true := by
  intro u hu
  simp only [Cl.cells, List.mem_cons, List.not_mem_nil, or_false] at hu
  rcases hu with rfl | rfl | rfl | rfl <;> rfl

/-- What stands behind a literal, a clause. -/
def Li.ok (w : World) (x : Li) : Prop := At.ok w x.a
def Cl.ok (w : World) (x : Cl) : Prop := At.ok w x.h ∧ Rd w w.heap.size 14 x.A x.n (lcells x.ls) ∧ x.n * 152 ≤ 140737488351232 ∧ ∀ y ∈ x.ls, Li.ok w y
theorem At.ok.up {w w' : World} {a : At} (h : At.ok w a) (hb : Below w.heap.size w w') : At.ok w' a := ⟨h.1.up hb hb.size, h.2⟩
theorem Cl.ok.up {w w' : World} {x : Cl} (h : Cl.ok w x) (hb : Below w.heap.size w w') : Cl.ok w' x := ⟨h.1.up hb, h.2.1.up hb hb.size, h.2.2.1, fun y hy => At.ok.up (h.2.2.2 y hy) hb⟩

/-- What counts of them: everything but where the lists lie. -/
def At.core (a : At) : ByteArray × Int × List T := (a.p, a.o, a.es)
def Li.core (x : Li) : Int × (ByteArray × Int × List T) × Int × T × T × Int := (x.k, x.a.core, x.op, x.l, x.r, x.o)
def Cl.core (x : Cl) : (ByteArray × Int × List T) × List (Int × (ByteArray × Int × List T) × Int × T × T × Int) := (x.h.core, x.ls.map Li.core)

/-- The predicates that a clause's positive and negated literals ask for. -/
def asksL (ls : List Li) : List ByteArray := (ls.filter fun x => x.k == 1 || x.k == 2).map (·.a.p)
def Cl.asks (c : Cl) : List ByteArray := asksL c.ls
theorem asksL_snoc {ls : List Li} {k : Nat} (hk : k < ls.length) : asksL (ls.take (k + 1)) = asksL (ls.take k) ++ (if (ls[k].k == 1 || ls[k].k == 2) = true then [ls[k].a.p] else []) := by
  unfold asksL
  rw [take_snoc _ _ hk, List.filter_append, List.map_append]
  congr 1
  cases h : (ls[k].k == 1 || ls[k].k == 2) <;> simp only [List.filter_cons, List.filter_nil, h, Bool.false_eq_true, if_false, if_true, List.map_cons, List.map_nil]
theorem asksL_le (ls : List Li) : (asksL ls).length ≤ ls.length := by
  unfold asksL
  rw [List.length_map]; exact List.length_filter_le _ _

inductive Need (cs : List Cl) (goals : List ByteArray) : ByteArray → Prop
  | goal {s : ByteArray} : s ∈ goals → Need cs goals s
  | step {c : Cl} {s : ByteArray} : c ∈ cs → Need cs goals c.h.p → s ∈ c.asks → Need cs goals s

theorem Need.mem {cs : List Cl} {goals S : List ByteArray} (h1 : ∀ g ∈ goals, g ∈ S) (h2 : ∀ c ∈ cs, c.h.p ∈ S → ∀ s ∈ c.asks, s ∈ S) {s : ByteArray} (h : Need cs goals s) : s ∈ S := by
  induction h with
  | goal h => exact h1 _ h
  | step hc _ hs ih => exact h2 _ hc ih _ hs

theorem toList_inj {a b : ByteArray} (h : a.toList = b.toList) : a = b := (bytes_eq (b := a) h).trans (bytes_eq (b := b) rfl).symm
theorem has_iff {l : List ByteArray} {s : ByteArray} : has l s = true ↔ s ∈ l := by
  unfold has
  rw [List.any_eq_true]
  constructor
  · rintro ⟨x, hx, h⟩
    have e : x = s := toList_inj (by simpa using h)
    rw [← e]; exact hx
  · intro h
    exact ⟨s, h, by simp⟩
theorem has_not {l : List ByteArray} {s : ByteArray} (h : s ∉ l) : has l s = false := by
  cases e : has l s
  · rfl
  · exact absurd (has_iff.1 e) h

/-- How many of the asked names are not there yet. -/
def fresh (cs : List Cl) (l : List ByteArray) : Nat := ((cs.flatMap Cl.asks).filter fun s => !has l s).length
def allAsks (cs : List Cl) : Nat := (cs.flatMap Cl.asks).length
theorem fresh_le (cs : List Cl) (l : List ByteArray) : fresh cs l ≤ allAsks cs := List.length_filter_le _ _
theorem filter_lt {α : Type} {p q : α → Bool} : ∀ {l : List α}, (∀ x ∈ l, q x = true → p x = true) → (∃ x ∈ l, p x = true ∧ q x = false) → (l.filter q).length < (l.filter p).length
  | [], _, h => by obtain ⟨x, hx, _⟩ := h; cases hx
  | a :: l, h1, h2 => by
    have hle : ∀ (l : List α), (∀ x ∈ l, q x = true → p x = true) → (l.filter q).length ≤ (l.filter p).length := by
      intro l
      induction l with
      | nil => intro _; exact Nat.le_refl _
      | cons b l ih =>
        intro h
        have := ih fun x hx => h x (List.mem_cons_of_mem _ hx)
        simp only [List.filter_cons]
        cases hq : q b
        · cases hp : p b <;> simp <;> omega
        · rw [h b (by simp) hq]; simpa using this
    rw [List.filter_cons, List.filter_cons]
    obtain ⟨x, hx, hp, hq⟩ := h2
    rcases List.mem_cons.1 hx with rfl | hx
    · rw [hp, hq]
      have := hle l fun y hy => h1 y (List.mem_cons_of_mem _ hy)
      simp; omega
    · have ih := filter_lt (l := l) (fun y hy => h1 y (List.mem_cons_of_mem _ hy)) ⟨x, hx, hp, hq⟩
      cases ha : q a
      · cases hb : p a <;> simp <;> omega
      · rw [h1 a (by simp) ha]; simpa using ih
theorem fresh_push {cs : List Cl} {l : List ByteArray} {c : Cl} {s : ByteArray} (hc : c ∈ cs) (hs : s ∈ c.asks) (hn : s ∉ l) : fresh cs (l ++ [s]) < fresh cs l := by
  unfold fresh
  refine filter_lt (fun x _ hx => ?_) ⟨s, List.mem_flatMap.2 ⟨c, hc, hs⟩, ?_, ?_⟩
  · cases h : has l x
    · rfl
    · have := has_iff.2 (List.mem_append_left [s] (has_iff.1 h))
      rw [this] at hx; cases hx
  · rw [has_not hn]; rfl
  · rw [has_iff.2 (by simp)]; rfl

/-- What the clauses that are not wanted yet still owe. -/
def owed (cs : List Cl) (S : List ByteArray) : Nat := (cs.map fun c => if has S c.h.p = true then 0 else c.asks.length).sum
/-- What the clauses of one head push. -/
def pushes (cs : List Cl) (g : ByteArray) : List ByteArray := (cs.filter fun c => c.h.p.toList == g.toList).flatMap Cl.asks
theorem owed_push {cs : List Cl} {S : List ByteArray} {g : ByteArray} (hg : g ∉ S) : (pushes cs g).length + owed cs (g :: S) = owed cs S := by
  induction cs with
  | nil => rfl
  | cons c cs ih =>
    have e1 : owed (c :: cs) (g :: S) = (if has (g :: S) c.h.p = true then 0 else c.asks.length) + owed cs (g :: S) := by simp [owed]
    have e2 : owed (c :: cs) S = (if has S c.h.p = true then 0 else c.asks.length) + owed cs S := by simp [owed]
    rw [e1, e2]
    by_cases h : c.h.p = g
    · have e3 : pushes (c :: cs) g = c.asks ++ pushes cs g := by simp [pushes, h]
      rw [e3, List.length_append, h, has_iff.2 (by simp : g ∈ g :: S), has_not hg]
      simp; omega
    · have hb : (c.h.p.toList == g.toList) = false := by
        simp only [beq_eq_false_iff_ne]; exact fun e => h (toList_inj e)
      have e3 : pushes (c :: cs) g = pushes cs g := by simp [pushes, hb]
      have e4 : has (g :: S) c.h.p = has S c.h.p := by
        have hb' : (g.toList == c.h.p.toList) = false := by simp only [beq_eq_false_iff_ne]; exact fun e => h (toList_inj e.symm)
        simp [has, hb']
      rw [e3, e4]; omega
theorem owed_nil (cs : List Cl) : owed cs [] = allAsks cs := by
  induction cs with
  | nil => rfl
  | cons c cs ih =>
    have e1 : owed (c :: cs) [] = c.asks.length + owed cs [] := by simp [owed, has]
    have e2 : allAsks (c :: cs) = c.asks.length + allAsks cs := by simp [allAsks]
    rw [e1, e2, ih]
theorem pushes_snoc {cs : List Cl} {k : Nat} (hk : k < cs.length) (g : ByteArray) : pushes (cs.take (k + 1)) g = pushes (cs.take k) g ++ (if (cs[k].h.p.toList == g.toList) = true then cs[k].asks else []) := by
  unfold pushes
  rw [take_snoc _ _ hk, List.filter_append, List.flatMap_append]
  congr 1
  cases h : (cs[k].h.p.toList == g.toList) <;> simp only [List.filter_cons, List.filter_nil, h, Bool.false_eq_true, if_false, if_true, List.flatMap_cons, List.flatMap_nil, List.append_nil]
theorem pushes_le (cs : List Cl) (g : ByteArray) (k : Nat) : (pushes (cs.take k) g).length ≤ (pushes cs g).length := by
  have h : pushes cs g = pushes (cs.take k) g ++ pushes (cs.drop k) g := by
    unfold pushes
    rw [← List.flatMap_append, ← List.filter_append, List.take_append_drop]
  rw [h, List.length_append]; omega
theorem mem_pushes {cs : List Cl} {g s : ByteArray} : s ∈ pushes cs g ↔ ∃ c ∈ cs, c.h.p = g ∧ s ∈ c.asks := by
  unfold pushes
  rw [List.mem_flatMap]
  constructor
  · rintro ⟨c, hc, hs⟩
    rw [List.mem_filter] at hc
    exact ⟨c, hc.1, toList_inj (by simpa using hc.2), hs⟩
  · rintro ⟨c, hc, rfl, hs⟩
    exact ⟨c, List.mem_filter.2 ⟨hc, by simp⟩, hs⟩

/-- The state of the search with a stack: S is done, todo is to come. -/
structure Hunt (cs : List Cl) (goals S todo : List ByteArray) : Prop where
  sound : ∀ s, s ∈ S ∨ s ∈ todo → Need cs goals s
  goals : ∀ g ∈ goals, g ∈ S ∨ g ∈ todo
  closed : ∀ c ∈ cs, c.h.p ∈ S → ∀ s ∈ c.asks, s ∈ S ∨ s ∈ todo
theorem Hunt.start (cs : List Cl) (goals : List ByteArray) : Hunt cs goals [] goals :=
  ⟨fun s h => by rcases h with h | h; cases h; exact .goal h, fun g h => .inr h, fun c _ h => by cases h⟩
theorem Hunt.skip {cs : List Cl} {goals S todo : List ByteArray} {g : ByteArray} (h : Hunt cs goals S (todo ++ [g])) (hg : g ∈ S) : Hunt cs goals S todo := by
  have key : ∀ s, s ∈ S ∨ s ∈ todo ++ [g] → s ∈ S ∨ s ∈ todo := fun s hs => by
    rcases hs with hs | hs
    · exact .inl hs
    · rcases List.mem_append.1 hs with hs | hs
      · exact .inr hs
      · rw [List.mem_singleton.1 hs]; exact .inl hg
  exact ⟨fun s hs => h.sound s (hs.imp id (List.mem_append_left _)), fun x hx => key x (h.goals x hx), fun c hc hp s hs => key s (h.closed c hc hp s hs)⟩
theorem Hunt.take {cs : List Cl} {goals S todo : List ByteArray} {g : ByteArray} (h : Hunt cs goals S (todo ++ [g])) : Hunt cs goals (g :: S) (todo ++ pushes cs g) := by
  have hg : Need cs goals g := h.sound g (.inr (by simp))
  have key : ∀ s, s ∈ S ∨ s ∈ todo ++ [g] → s ∈ g :: S ∨ s ∈ todo ++ pushes cs g := fun s hs => by
    rcases hs with hs | hs
    · exact .inl (List.mem_cons_of_mem _ hs)
    · rcases List.mem_append.1 hs with hs | hs
      · exact .inr (List.mem_append_left _ hs)
      · rw [List.mem_singleton.1 hs]; exact .inl (by simp)
  refine ⟨fun s hs => ?_, fun x hx => key x (h.goals x hx), fun c hc hp s hs => ?_⟩
  · rcases hs with hs | hs
    · rcases List.mem_cons.1 hs with rfl | hs
      · exact hg
      · exact h.sound s (.inl hs)
    · rcases List.mem_append.1 hs with hs | hs
      · exact h.sound s (.inr (List.mem_append_left _ hs))
      · obtain ⟨c, hc, e, hs2⟩ := mem_pushes.1 hs
        exact .step hc (e ▸ hg) hs2
  · rcases List.mem_cons.1 hp with rfl | hp
    · exact .inr (List.mem_append_right _ (mem_pushes.2 ⟨c, hc, rfl, hs⟩))
    · exact key s (h.closed c hc hp s hs)
theorem Hunt.done {cs : List Cl} {goals S : List ByteArray} (h : Hunt cs goals S []) (s : ByteArray) : s ∈ S ↔ Need cs goals s :=
  ⟨fun hs => h.sound s (.inl hs), fun hs => hs.mem (fun g hg => (h.goals g hg).resolve_right (by simp)) (fun c hc hp s hs => (h.closed c hc hp s hs).resolve_right (by simp))⟩

/-- The clauses that stay. -/
noncomputable def keepB (cs : List Cl) (goals : List ByteArray) (c : Cl) : Bool := @decide (Need cs goals c.h.p) (Classical.propDecidable _)
theorem keepB_iff {cs : List Cl} {goals : List ByteArray} {c : Cl} : keepB cs goals c = true ↔ Need cs goals c.h.p := by
  unfold keepB; simp
theorem keep_snoc {cs : List Cl} {k : Nat} (hk : k < cs.length) (p : Cl → Bool) : (cs.take (k + 1)).filter p = (cs.take k).filter p ++ (if p cs[k] = true then [cs[k]] else []) := by
  rw [take_snoc _ _ hk, List.filter_append]
  congr 1
  cases h : p cs[k] <;> simp only [List.filter_cons, List.filter_nil, h, Bool.false_eq_true, if_false, if_true]
end Go.Proofs.Ytjcgkplphiedjaa
