/- Clauses that cover clauses, plain: ways side by side find what there is. | Clauses that cover clauses, plain: the program's search and the document's ways come to the same. | A clause that is another again, plain: the program's places and the document's ways come to the same. | Maps from names to values, of one's own: read, written, struck. -/
import Derived.Test.YtjcgkplphiedjaaGe
import Derived.Maps.OwnOps
import Derived.Maps.Views
import Derived.Maps.OwnSet
import Derived.StringKeys
namespace Go.Proofs.Ytjcgkplphiedjaa

/-- A term of a clause as a thing: own is 0, but for a _ . -/
structure Th where
  k : Int
  i : Int
  t : ByteArray
  own : Nat
deriving DecidableEq
/-- A head or a literal. -/
structure Pt where
  kind : Int
  pred : ByteArray
  op : Int
  ths : List Th
abbrev Wy := List (Th × Th)

def Th.v (a : Th) : Bool := decide (a.k = 4)
def stands (w : Wy) (a : Th) : Option Th := (w.find? fun p => decide (p.1 = a)).map Prod.snd
def fitT : Wy → List Th → List Th → Option Wy
  | out, x :: xs, y :: ys =>
    if x.v = true then
      match stands out x with
      | some z => if z = y then fitT out xs ys else none
      | none => fitT (out ++ [(x, y)]) xs ys
    else if x = y then fitT out xs ys else none
  | out, _, _ => some out

def agrees (s : Th → Th) (w : Wy) : Prop := ∀ p ∈ w, s p.1 = p.2
def FitL (s : Th → Th) : List Th → List Th → Prop
  | x :: xs, y :: ys => (if x.v = true then s x else x) = y ∧ FitL s xs ys
  | _, _ => True
def keys (w : Wy) : List Th := w.map Prod.fst

theorem stands_some {w : Wy} {a b : Th} (h : stands w a = some b) : (a, b) ∈ w := by
  unfold stands at h
  obtain ⟨p, hp, rfl⟩ := Option.map_eq_some_iff.1 h
  have h1 := List.find?_some hp
  have h2 := List.mem_of_find?_eq_some hp
  have : p.1 = a := by simpa using h1
  rw [← this]; exact h2
theorem stands_none {w : Wy} {a : Th} (h : stands w a = none) : a ∉ keys w := by
  unfold stands at h
  rw [Option.map_eq_none_iff, List.find?_eq_none] at h
  intro hm
  obtain ⟨p, hp, rfl⟩ := List.mem_map.1 hm
  exact h p hp (by simp)
theorem stands_key {w : Wy} {a : Th} (h : a ∈ keys w) : ∃ b, stands w a = some b := by
  cases e : stands w a with
  | none => exact absurd h (stands_none e)
  | some b => exact ⟨b, rfl⟩
theorem stands_pre {w : Wy} {a b : Th} (l : Wy) (h : stands w a = some b) : stands (w ++ l) a = some b := by
  unfold stands at h ⊢
  obtain ⟨p, hp, rfl⟩ := Option.map_eq_some_iff.1 h
  rw [List.find?_append, hp]; rfl
theorem stands_mem {w : Wy} (hn : (keys w).Nodup) {a b : Th} (h : (a, b) ∈ w) : stands w a = some b := by
  induction w with
  | nil => cases h
  | cons p w ih =>
    unfold keys at hn
    rw [List.map_cons, List.nodup_cons] at hn
    unfold stands
    rw [List.find?_cons]
    rcases List.mem_cons.1 h with e | h
    · subst e; simp
    · have hne : p.1 ≠ a := fun e => hn.1 (by rw [e]; exact List.mem_map.2 ⟨_, h, rfl⟩)
      rw [decide_eq_false hne]
      exact ih hn.2 h

theorem agrees_append {s : Th → Th} {w l : Wy} : agrees s (w ++ l) ↔ agrees s w ∧ agrees s l := by
  unfold agrees
  constructor
  · exact fun h => ⟨fun p hp => h p (List.mem_append_left _ hp), fun p hp => h p (List.mem_append_right _ hp)⟩
  · rintro ⟨h1, h2⟩ p hp
    rcases List.mem_append.1 hp with hp | hp
    · exact h1 p hp
    · exact h2 p hp

/-- What a way that was made longer is. -/
structure Longer (w : Wy) (xs ys : List Th) (w' : Wy) : Prop where
  all : ∀ s, agrees s w' ↔ agrees s w ∧ FitL s xs ys
  dom : ∀ a, a ∈ keys w' ↔ a ∈ keys w ∨ (a ∈ xs ∧ a.v = true)
  nodup : (keys w).Nodup → (keys w').Nodup
  old : ∀ a b, stands w a = some b → stands w' a = some b

theorem fitT_some : ∀ (xs ys : List Th) (w w' : Wy), xs.length = ys.length → fitT w xs ys = some w' → Longer w xs ys w'
  | [], [], w, w', _, h => by
    unfold fitT at h
    cases h
    exact ⟨fun s => by simp [FitL], fun a => by simp, id, fun _ _ => id⟩
  | [], y :: ys, _, _, hl, _ => by simp at hl
  | x :: xs, [], _, _, hl, _ => by simp at hl
  | x :: xs, y :: ys, w, w', hl, h => by
    have hl' : xs.length = ys.length := by simpa using hl
    unfold fitT at h
    by_cases hv : x.v = true
    · rw [if_pos hv] at h
      cases hs : stands w x with
      | some z =>
        rw [hs] at h
        dsimp only at h
        by_cases hz : z = y
        · subst hz
          rw [if_pos rfl] at h
          have ih := fitT_some xs ys w w' hl' h
          have hm := stands_some hs
          refine ⟨fun s => ?_, fun a => ?_, ih.nodup, ih.old⟩
          · rw [ih.all s, FitL, if_pos hv]
            constructor
            · rintro ⟨h1, h2⟩; exact ⟨h1, h1 _ hm, h2⟩
            · rintro ⟨h1, _, h2⟩; exact ⟨h1, h2⟩
          · rw [ih.dom a, List.mem_cons]
            constructor
            · rintro (h1 | ⟨h1, h2⟩)
              · exact .inl h1
              · exact .inr ⟨.inr h1, h2⟩
            · rintro (h1 | ⟨rfl | h1, h2⟩)
              · exact .inl h1
              · exact .inl (List.mem_map.2 ⟨_, hm, rfl⟩)
              · exact .inr ⟨h1, h2⟩
        · rw [if_neg hz] at h; cases h
      | none =>
        rw [hs] at h
        dsimp only at h
        have ih := fitT_some xs ys _ w' hl' h
        refine ⟨fun s => ?_, fun a => ?_, fun hn => ih.nodup ?_, fun a b hab => ih.old a b (stands_pre _ hab)⟩
        · rw [ih.all s, agrees_append, FitL, if_pos hv]
          have : agrees s [(x, y)] ↔ s x = y := by simp [agrees]
          rw [this, and_assoc]
        · rw [ih.dom a, List.mem_cons]
          have : a ∈ keys (w ++ [(x, y)]) ↔ a ∈ keys w ∨ a = x := by simp [keys]
          rw [this]
          constructor
          · rintro ((h1 | rfl) | ⟨h1, h2⟩)
            · exact .inl h1
            · exact .inr ⟨.inl rfl, hv⟩
            · exact .inr ⟨.inr h1, h2⟩
          · rintro (h1 | ⟨rfl | h1, h2⟩)
            · exact .inl (.inl h1)
            · exact .inl (.inr rfl)
            · exact .inr ⟨h1, h2⟩
        · have : keys (w ++ [(x, y)]) = keys w ++ [x] := by simp [keys]
          rw [this, List.nodup_append]
          refine ⟨hn, by simp, ?_⟩
          rintro a ha b hb rfl
          rw [List.mem_singleton] at hb
          subst hb
          exact stands_none hs ha
    · rw [if_neg hv] at h
      by_cases hz : x = y
      · subst hz
        rw [if_pos rfl] at h
        have ih := fitT_some xs ys w w' hl' h
        refine ⟨fun s => ?_, fun a => ?_, ih.nodup, ih.old⟩
        · rw [ih.all s, FitL, if_neg hv]; simp
        · rw [ih.dom a, List.mem_cons]
          constructor
          · rintro (h1 | ⟨h1, h2⟩)
            · exact .inl h1
            · exact .inr ⟨.inr h1, h2⟩
          · rintro (h1 | ⟨rfl | h1, h2⟩)
            · exact .inl h1
            · exact absurd h2 hv
            · exact .inr ⟨h1, h2⟩
      · rw [if_neg hz] at h; cases h

theorem fitT_none : ∀ (xs ys : List Th) (w : Wy) (s : Th → Th), fitT w xs ys = none → agrees s w → ¬ FitL s xs ys
  | [], _, w, s, h, _ => by unfold fitT at h; cases h
  | x :: xs, [], w, s, h, _ => by unfold fitT at h; cases h
  | x :: xs, y :: ys, w, s, h, ha => by
    unfold fitT at h
    rintro ⟨h1, h2⟩
    by_cases hv : x.v = true
    · rw [if_pos hv] at h h1
      cases hs : stands w x with
      | some z =>
        rw [hs] at h
        dsimp only at h
        have hz : z = y := by rw [← h1]; exact (ha _ (stands_some hs)).symm
        rw [if_pos hz] at h
        exact fitT_none xs ys w s h ha h2
      | none =>
        rw [hs] at h
        dsimp only at h
        exact fitT_none xs ys _ s h (agrees_append.2 ⟨ha, by simpa [agrees] using h1⟩) h2
    · rw [if_neg hv] at h h1
      rw [if_pos h1] at h
      exact fitT_none xs ys w s h ha h2

def Pt.meets (a b : Pt) : Prop := a.kind = b.kind ∧ a.pred = b.pred ∧ a.op = b.op ∧ a.ths.length = b.ths.length
instance (a b : Pt) : Decidable (a.meets b) := by unfold Pt.meets; infer_instance
def fitP (w : Wy) (a b : Pt) : Option Wy := if a.meets b then fitT w a.ths b.ths else none
def Fit (s : Th → Th) (a b : Pt) : Prop := a.meets b ∧ FitL s a.ths b.ths

theorem fitP_some {w w' : Wy} {a b : Pt} (h : fitP w a b = some w') : a.meets b ∧ Longer w a.ths b.ths w' := by
  unfold fitP at h
  split at h
  · rename_i hm
    exact ⟨hm, fitT_some _ _ _ _ hm.2.2.2 h⟩
  · cases h
theorem fitP_none {w : Wy} {a b : Pt} {s : Th → Th} (h : fitP w a b = none) (ha : agrees s w) : ¬ Fit s a b := by
  unfold fitP at h
  rintro ⟨hm, hf⟩
  rw [if_pos hm] at h
  exact fitT_none _ _ _ _ h ha hf

def askedB (l : List Pt) (a : Th) : Bool := l.any fun p => p.ths.any fun t => decide (t = a)
def keptW (w : Wy) (l : List Pt) : Wy := w.filter fun p => askedB l p.1
def alikeW (v w : Wy) : Bool := decide (v.length = w.length) && v.all fun p => decide (stands w p.1 = some p.2)
def joinedW (l : List Wy) (w : Wy) : List Wy := if (l.any fun v => alikeW v w) = true then l else l ++ [w]
def stepI (w : Wy) (a : Pt) (rest : List Pt) : List Pt → List Wy → List Wy
  | [], next => next
  | q :: qs, next => stepI w a rest qs (match fitP w a q with | some w' => joinedW next (keptW w' rest) | none => next)
def stepO (a : Pt) (rest ys : List Pt) : List Wy → List Wy → List Wy
  | [], next => next
  | w :: ws, next => stepO a rest ys ws (stepI w a rest ys next)
def waysL (ys : List Pt) : List Wy → List Pt → List Wy
  | ways, [] => ways
  | ways, a :: rest => waysL ys (stepO a rest ys ways []) rest
/-- The document's answer: the heads, the literals. -/
def coversR (x0 y0 : Pt) (xs ys : List Pt) : Bool :=
  match fitP [] x0 y0 with
  | none => false
  | some w => !(waysL ys [keptW w xs] xs).isEmpty
def Sat (x0 y0 : Pt) (ys : List Pt) (s : Th → Th) (xs : List Pt) : Prop := Fit s x0 y0 ∧ ∀ p ∈ xs, ∃ q ∈ ys, Fit s p q

theorem joined_mem {l : List Wy} {w v : Wy} (h : v ∈ joinedW l w) : v ∈ l ∨ v = w := by
  unfold joinedW at h
  split at h
  · exact .inl h
  · rcases List.mem_append.1 h with h | h
    · exact .inl h
    · exact .inr (by simpa using h)
theorem joined_old {l : List Wy} {w v : Wy} (h : v ∈ l) : v ∈ joinedW l w := by
  unfold joinedW
  split
  · exact h
  · exact List.mem_append_left _ h
theorem joined_new (l : List Wy) (w : Wy) : ∃ v ∈ joinedW l w, ∀ s, agrees s w → agrees s v := by
  unfold joinedW
  split
  · rename_i h
    obtain ⟨v, hv, ha⟩ := List.any_eq_true.1 h
    refine ⟨v, hv, fun s hs p hp => ?_⟩
    unfold alikeW at ha
    rw [Bool.and_eq_true, List.all_eq_true] at ha
    have := ha.2 p hp
    rw [decide_eq_true_eq] at this
    exact hs _ (stands_some this)
  · exact ⟨w, by simp, fun _ => id⟩

theorem stepI_mem {w : Wy} {a : Pt} {rest : List Pt} : ∀ (ys : List Pt) (next : List Wy) (v : Wy), v ∈ stepI w a rest ys next → v ∈ next ∨ ∃ q ∈ ys, ∃ w', fitP w a q = some w' ∧ v = keptW w' rest
  | [], next, v, h => .inl h
  | q :: qs, next, v, h => by
    rw [stepI] at h
    rcases stepI_mem qs _ v h with h | ⟨q', hq, r⟩
    · cases hf : fitP w a q with
      | none => rw [hf] at h; exact .inl h
      | some w' =>
        rw [hf] at h
        rcases joined_mem h with h | h
        · exact .inl h
        · exact .inr ⟨q, by simp, w', hf, h⟩
    · exact .inr ⟨q', List.mem_cons_of_mem _ hq, r⟩
theorem stepI_old {w : Wy} {a : Pt} {rest : List Pt} : ∀ (ys : List Pt) (next : List Wy) (v : Wy), v ∈ next → v ∈ stepI w a rest ys next
  | [], _, _, h => h
  | q :: qs, next, v, h => by
    rw [stepI]
    refine stepI_old qs _ v ?_
    cases hf : fitP w a q with
    | none => exact h
    | some w' => exact joined_old h
theorem stepI_new {w : Wy} {a : Pt} {rest : List Pt} : ∀ (ys : List Pt) (next : List Wy) (q : Pt), q ∈ ys → ∀ w', fitP w a q = some w' → ∃ v ∈ stepI w a rest ys next, ∀ s, agrees s (keptW w' rest) → agrees s v
  | [], _, _, h, _, _ => by cases h
  | p :: qs, next, q, h, w', hf => by
    rw [stepI]
    rcases List.mem_cons.1 h with rfl | h
    · rw [hf]
      obtain ⟨v, hv, hs⟩ := joined_new next (keptW w' rest)
      exact ⟨v, stepI_old qs _ v hv, hs⟩
    · exact stepI_new qs _ q h w' hf
theorem stepO_mem {a : Pt} {rest ys : List Pt} : ∀ (ws : List Wy) (next : List Wy) (v : Wy), v ∈ stepO a rest ys ws next → v ∈ next ∨ ∃ w ∈ ws, ∃ q ∈ ys, ∃ w', fitP w a q = some w' ∧ v = keptW w' rest
  | [], _, _, h => .inl h
  | w :: ws, next, v, h => by
    rw [stepO] at h
    rcases stepO_mem ws _ v h with h | ⟨w', hw, r⟩
    · rcases stepI_mem ys next v h with h | r
      · exact .inl h
      · exact .inr ⟨w, by simp, r⟩
    · exact .inr ⟨w', List.mem_cons_of_mem _ hw, r⟩
theorem stepO_old {a : Pt} {rest ys : List Pt} : ∀ (ws : List Wy) (next : List Wy) (v : Wy), v ∈ next → v ∈ stepO a rest ys ws next
  | [], _, _, h => h
  | w :: ws, next, v, h => by rw [stepO]; exact stepO_old ws _ v (stepI_old ys next v h)
theorem stepO_new {a : Pt} {rest ys : List Pt} : ∀ (ws : List Wy) (next : List Wy) (w : Wy), w ∈ ws → ∀ q ∈ ys, ∀ w', fitP w a q = some w' → ∃ v ∈ stepO a rest ys ws next, ∀ s, agrees s (keptW w' rest) → agrees s v
  | [], _, _, h, _, _, _, _ => by cases h
  | u :: ws, next, w, h, q, hq, w', hf => by
    rw [stepO]
    rcases List.mem_cons.1 h with rfl | h
    · obtain ⟨v, hv, hs⟩ := stepI_new (rest := rest) ys next q hq w' hf
      exact ⟨v, stepO_old ws _ v hv, hs⟩
    · exact stepO_new ws _ w h q hq w' hf

/-- The ways after some parts. -/
structure Inv (x0 y0 : Pt) (ys done rest : List Pt) (W : List Wy) : Prop where
  sound : ∀ w ∈ W, (keys w).Nodup ∧ (∀ a : Th, a.v = true → (a ∈ x0.ths ∨ ∃ p ∈ done, a ∈ p.ths) → (∃ p ∈ rest, a ∈ p.ths) → a ∈ keys w) ∧ ∃ s, Sat x0 y0 ys s done ∧ agrees s w
  whole : ∀ s, Sat x0 y0 ys s done → ∃ w ∈ W, agrees s w

theorem asked_iff {l : List Pt} {a : Th} : askedB l a = true ↔ ∃ p ∈ l, a ∈ p.ths := by
  unfold askedB
  rw [List.any_eq_true]
  constructor
  · rintro ⟨p, hp, h⟩
    obtain ⟨t, ht, he⟩ := List.any_eq_true.1 h
    rw [decide_eq_true_eq] at he
    exact ⟨p, hp, he ▸ ht⟩
  · rintro ⟨p, hp, h⟩
    exact ⟨p, hp, List.any_eq_true.2 ⟨a, h, by simp⟩⟩
theorem kept_keys {w : Wy} {l : List Pt} {a : Th} : a ∈ keys (keptW w l) ↔ a ∈ keys w ∧ ∃ p ∈ l, a ∈ p.ths := by
  unfold keys keptW
  rw [List.mem_map, List.mem_map]
  constructor
  · rintro ⟨p, hp, rfl⟩
    rw [List.mem_filter] at hp
    exact ⟨⟨p, hp.1, rfl⟩, asked_iff.1 hp.2⟩
  · rintro ⟨⟨p, hp, rfl⟩, ha⟩
    exact ⟨p, List.mem_filter.2 ⟨hp, asked_iff.2 ha⟩, rfl⟩
theorem kept_nodup {w : Wy} {l : List Pt} (h : (keys w).Nodup) : (keys (keptW w l)).Nodup := by
  unfold keys keptW
  exact h.sublist (List.filter_sublist.map _)
theorem kept_agrees {s : Th → Th} {w : Wy} {l : List Pt} (h : agrees s w) : agrees s (keptW w l) :=
  fun p hp => h p (List.mem_filter.1 hp).1

theorem FitL_congr {s s' : Th → Th} : ∀ (xs ys : List Th), (∀ a ∈ xs, a.v = true → s a = s' a) → FitL s xs ys → FitL s' xs ys
  | [], _, _, _ => by simp [FitL]
  | x :: xs, [], _, _ => by simp [FitL]
  | x :: xs, y :: ys, h, hf => by
    obtain ⟨h1, h2⟩ := hf
    refine ⟨?_, FitL_congr xs ys (fun a ha => h a (List.mem_cons_of_mem _ ha)) h2⟩
    by_cases hv : x.v = true
    · rw [if_pos hv] at h1 ⊢
      rw [← h x (by simp) hv]; exact h1
    · rw [if_neg hv] at h1 ⊢; exact h1
theorem Sat_congr {x0 y0 : Pt} {ys done : List Pt} {s s' : Th → Th} (h : ∀ a : Th, a.v = true → (a ∈ x0.ths ∨ ∃ p ∈ done, a ∈ p.ths) → s a = s' a) (hs : Sat x0 y0 ys s done) : Sat x0 y0 ys s' done := by
  refine ⟨⟨hs.1.1, FitL_congr _ _ (fun a ha hv => h a hv (.inl ha)) hs.1.2⟩, fun p hp => ?_⟩
  obtain ⟨q, hq, hm, hf⟩ := hs.2 p hp
  exact ⟨q, hq, hm, FitL_congr _ _ (fun a ha hv => h a hv (.inr ⟨p, hp, ha⟩)) hf⟩

/-- What a way says, and else as before. -/
def over (w : Wy) (s : Th → Th) (a : Th) : Th := (stands w a).getD (s a)
theorem over_agrees {w : Wy} {s : Th → Th} (hn : (keys w).Nodup) : agrees (over w s) w := by
  intro p hp
  unfold over
  rw [stands_mem (a := p.1) (b := p.2) hn hp]; rfl

theorem Inv.start {x0 y0 : Pt} {xs ys : List Pt} {w : Wy} (h : fitP [] x0 y0 = some w) : Inv x0 y0 ys [] xs [keptW w xs] := by
  obtain ⟨hm, hL⟩ := fitP_some h
  have hn := hL.nodup (by simp [keys])
  refine ⟨fun v hv => ?_, fun s hs => ⟨keptW w xs, by simp, kept_agrees ((hL.all s).2 ⟨(fun _ h => nomatch h), hs.1.2⟩)⟩⟩
  rw [List.mem_singleton] at hv
  subst hv
  refine ⟨kept_nodup hn, fun a hv hd hr => kept_keys.2 ⟨(hL.dom a).2 (.inr ⟨?_, hv⟩), hr⟩, over w id, ⟨⟨hm, ((hL.all _).1 (over_agrees hn)).2⟩, (fun p hp => nomatch hp)⟩, kept_agrees (over_agrees hn)⟩
  rcases hd with h | ⟨p, hp, _⟩
  · exact h
  · cases hp

theorem Inv.step {x0 y0 : Pt} {ys done rest : List Pt} {a : Pt} {W : List Wy} (h : Inv x0 y0 ys done (a :: rest) W) : Inv x0 y0 ys (done ++ [a]) rest (stepO a rest ys W []) := by
  constructor
  · intro v hv
    rcases stepO_mem W [] v hv with hv | ⟨w, hw, q, hq, w', hf, rfl⟩
    · cases hv
    obtain ⟨hn, hd, s, hs, hag⟩ := h.sound w hw
    obtain ⟨hm, hL⟩ := fitP_some hf
    have hn' := hL.nodup hn
    have hcd : ∀ b : Th, b.v = true → (b ∈ x0.ths ∨ ∃ p ∈ done, b ∈ p.ths) → s b = over w' s b := by
      intro b hb ho
      unfold over
      cases he : stands w' b with
      | none => rfl
      | some z =>
        have hk : b ∈ keys w' := List.mem_map.2 ⟨_, stands_some he, rfl⟩
        have hkw : b ∈ keys w := by
          rcases (hL.dom b).1 hk with hk | ⟨hk, _⟩
          · exact hk
          · exact hd b hb ho ⟨a, by simp, hk⟩
        obtain ⟨z', hz'⟩ := stands_key hkw
        have := hL.old b z' hz'
        rw [he] at this
        cases this
        exact hag _ (stands_some hz')
    refine ⟨kept_nodup hn', fun b hb ho hr => kept_keys.2 ⟨(hL.dom b).2 ?_, hr⟩, over w' s, ⟨(Sat_congr hcd hs).1, fun p hp => ?_⟩, kept_agrees (over_agrees hn')⟩
    · rcases ho with ho | ⟨p, hp, ho⟩
      · obtain ⟨r, hr1, hr2⟩ := hr
        exact .inl (hd b hb (.inl ho) ⟨r, List.mem_cons_of_mem _ hr1, hr2⟩)
      · rcases List.mem_append.1 hp with hp | hp
        · obtain ⟨r, hr1, hr2⟩ := hr
          exact .inl (hd b hb (.inr ⟨p, hp, ho⟩) ⟨r, List.mem_cons_of_mem _ hr1, hr2⟩)
        · rw [List.mem_singleton] at hp
          subst hp
          exact .inr ⟨ho, hb⟩
    · rcases List.mem_append.1 hp with hp | hp
      · exact (Sat_congr hcd hs).2 p hp
      · rw [List.mem_singleton] at hp
        subst hp
        exact ⟨q, hq, hm, ((hL.all _).1 (over_agrees hn')).2⟩
  · intro s hs
    obtain ⟨w, hw, hag⟩ := h.whole s ⟨hs.1, fun p hp => hs.2 p (List.mem_append_left _ hp)⟩
    obtain ⟨q, hq, hf⟩ := hs.2 a (by simp)
    cases he : fitP w a q with
    | none => exact absurd hf (fitP_none he hag)
    | some w' =>
      obtain ⟨hm, hL⟩ := fitP_some he
      obtain ⟨v, hv, hvs⟩ := stepO_new (rest := rest) W [] w hw q hq w' he
      exact ⟨v, hv, hvs s (kept_agrees ((hL.all s).2 ⟨hag, hf.2⟩))⟩

theorem Inv.last {x0 y0 : Pt} {ys : List Pt} : ∀ (rest done : List Pt) (W : List Wy), Inv x0 y0 ys done rest W → Inv x0 y0 ys (done ++ rest) [] (waysL ys W rest)
  | [], done, W, h => by rw [List.append_nil]; exact h
  | a :: rest, done, W, h => by
    have := Inv.last rest (done ++ [a]) _ h.step
    rw [List.append_assoc, List.singleton_append] at this
    exact this

theorem coversR_iff (x0 y0 : Pt) (xs ys : List Pt) : coversR x0 y0 xs ys = true ↔ ∃ s, Sat x0 y0 ys s xs := by
  unfold coversR
  cases hf : fitP [] x0 y0 with
  | none =>
    refine ⟨fun h => (by cases h), ?_⟩
    rintro ⟨s, h, _⟩
    exact absurd h (fitP_none hf fun _ h => nomatch h)
  | some w =>
    have hI := Inv.last xs [] _ (Inv.start (ys := ys) (xs := xs) hf)
    rw [List.nil_append] at hI
    dsimp only
    constructor
    · intro h
      cases hW : waysL ys [keptW w xs] xs with
      | nil => rw [hW] at h; cases h
      | cons v l =>
        obtain ⟨_, _, s, hs, _⟩ := hI.sound v (by rw [hW]; simp)
        exact ⟨s, hs⟩
    · rintro ⟨s, hs⟩
      obtain ⟨v, hv, _⟩ := hI.whole s hs
      cases hW : waysL ys [keptW w xs] xs with
      | nil => rw [hW] at hv; cases hv
      | cons v l => rfl
end Go.Proofs.Ytjcgkplphiedjaa

namespace Go.Proofs.Ytjcgkplphiedjaa

def T.th (e : T) (own : Nat) : Th := ⟨e.k, e.i, e.t, own⟩
def T.nn (e : T) : Bool := noName e.k e.t
/-- How many nameless terms there are. -/
def cnt : List T → Nat
  | [] => 0
  | t :: ts => (if t.nn = true then 1 else 0) + cnt ts
/-- Terms as things; n came ahead. -/
def num : Nat → List T → List Th
  | _, [] => []
  | n, t :: ts => if t.nn = true then t.th (n + 1) :: num (n + 1) ts else t.th 0 :: num n ts
def Li.terms (l : Li) : List T := if l.k = 3 then [l.l, l.r] else l.a.es

theorem num_length : ∀ (n : Nat) (ts : List T), (num n ts).length = ts.length
  | _, [] => rfl
  | n, t :: ts => by
    rw [num]
    split <;> simp [num_length]
theorem num_own : ∀ (n : Nat) (ts : List T) (x : Th), x ∈ num n ts → x.own = 0 ∨ (n < x.own ∧ x.own ≤ n + cnt ts)
  | _, [], _, h => by cases h
  | n, t :: ts, x, h => by
    rw [num] at h
    rw [cnt]
    by_cases ht : t.nn = true
    · rw [if_pos ht] at h ⊢
      rcases List.mem_cons.1 h with rfl | h
      · right; simp only [T.th]; omega
      · rcases num_own (n + 1) ts x h with h | h
        · exact .inl h
        · right; omega
    · rw [if_neg ht] at h ⊢
      rcases List.mem_cons.1 h with rfl | h
      · left; rfl
      · rcases num_own n ts x h with h | h
        · exact .inl h
        · right; omega

abbrev Bd := List (ByteArray × Th)
def look (s : Bd) (t : ByteArray) : Option Th := (s.find? fun p => decide (p.1 = t)).map Prod.snd
def takeF : Bd → List T → List Th → Bd × Bool
  | s, t :: ts, y :: ys =>
    if t.nn = true then takeF s ts ys
    else if t.k = 4 then
      match look s t.t with
      | none => takeF (s ++ [(t.t, y)]) ts ys
      | some z => if z = y then takeF s ts ys else (s, false)
    else if t.th 0 = y then takeF s ts ys else (s, false)
  | s, _, _ => (s, true)
def likeL (a b : Li) : Bool := decide (a.k = b.k) && (decide (a.op = b.op) && (decide (a.a.p = b.a.p) && decide (a.terms.length = b.terms.length)))
def searchP (ys : List (Li × List Th)) : Bd → List Li → Bool
  | _, [] => true
  | s, a :: as_ => ys.any fun q => likeL a q.1 && ((takeF s a.terms q.2).2 && searchP ys (takeF s a.terms q.2).1 as_)
def pairL : Nat → List Li → List (Li × List Th)
  | _, [] => []
  | n, l :: ls => (l, num n l.terms) :: pairL (n + cnt l.terms) ls
/-- The program's answer. -/
def coversP (a b : Cl) : Bool :=
  if 6 < a.ls.length ∨ a.h.p ≠ b.h.p ∨ a.h.es.length ≠ b.h.es.length then false
  else (takeF [] a.h.es (num 0 b.h.es)).2 && searchP (pairL (cnt b.h.es) b.ls) (takeF [] a.h.es (num 0 b.h.es)).1 a.ls

def agB (r : ByteArray → Th) (s : Bd) : Prop := ∀ p ∈ s, r p.1 = p.2
def FitB (r : ByteArray → Th) : List T → List Th → Prop
  | t :: ts, y :: ys => (t.nn = true ∨ (if t.k = 4 then r t.t else t.th 0) = y) ∧ FitB r ts ys
  | _, _ => True

theorem look_some {s : Bd} {a : ByteArray} {b : Th} (h : look s a = some b) : (a, b) ∈ s := by
  unfold look at h
  obtain ⟨p, hp, rfl⟩ := Option.map_eq_some_iff.1 h
  have h1 := List.find?_some hp
  have h2 := List.mem_of_find?_eq_some hp
  have : p.1 = a := by simpa using h1
  rw [← this]; exact h2
theorem look_none {s : Bd} {a : ByteArray} (h : look s a = none) : a ∉ s.map Prod.fst := by
  unfold look at h
  rw [Option.map_eq_none_iff, List.find?_eq_none] at h
  intro hm
  obtain ⟨p, hp, rfl⟩ := List.mem_map.1 hm
  exact h p hp (by simp)
theorem look_mem {s : Bd} (hn : (s.map Prod.fst).Nodup) {a : ByteArray} {b : Th} (h : (a, b) ∈ s) : look s a = some b := by
  induction s with
  | nil => cases h
  | cons p s ih =>
    rw [List.map_cons, List.nodup_cons] at hn
    unfold look
    rw [List.find?_cons]
    rcases List.mem_cons.1 h with e | h
    · subst e; simp
    · have hne : p.1 ≠ a := fun e => hn.1 (by rw [e]; exact List.mem_map.2 ⟨_, h, rfl⟩)
      rw [decide_eq_false hne]
      exact ih hn.2 h
theorem agB_append {r : ByteArray → Th} {w l : Bd} : agB r (w ++ l) ↔ agB r w ∧ agB r l := by
  unfold agB
  constructor
  · exact fun h => ⟨fun p hp => h p (List.mem_append_left _ hp), fun p hp => h p (List.mem_append_right _ hp)⟩
  · rintro ⟨h1, h2⟩ p hp
    rcases List.mem_append.1 hp with hp | hp
    · exact h1 p hp
    · exact h2 p hp
theorem look_snoc_nodup {s : Bd} {a : ByteArray} {b : Th} (hn : (s.map Prod.fst).Nodup) (h : look s a = none) : ((s ++ [(a, b)]).map Prod.fst).Nodup := by
  rw [List.map_append, List.nodup_append]
  refine ⟨hn, by simp, ?_⟩
  rintro x hx y hy rfl
  have : x = a := by simpa using hy
  subst this
  exact look_none h hx

theorem takeF_true : ∀ (ts : List T) (ys : List Th) (s : Bd), (takeF s ts ys).2 = true → ∀ r, agB r (takeF s ts ys).1 ↔ agB r s ∧ FitB r ts ys
  | [], _, s, _, r => by simp [takeF, FitB]
  | t :: ts, [], s, _, r => by simp [takeF, FitB]
  | t :: ts, y :: ys, s, h, r => by
    rw [takeF] at h ⊢
    by_cases hn : t.nn = true
    · rw [if_pos hn] at h ⊢
      rw [takeF_true ts ys s h r, FitB]
      simp [hn]
    · rw [if_neg hn] at h ⊢
      rw [FitB]
      by_cases h4 : t.k = 4
      · rw [if_pos h4] at h ⊢
        rw [if_pos h4]
        cases hl : look s t.t with
        | none =>
          rw [hl] at h
          dsimp only at h ⊢
          rw [takeF_true ts ys _ h r, agB_append]
          have : agB r [(t.t, y)] ↔ r t.t = y := by simp [agB]
          rw [this, and_assoc]
          simp [hn]
        | some z =>
          rw [hl] at h
          dsimp only at h ⊢
          by_cases hz : z = y
          · subst hz
            rw [if_pos rfl] at h ⊢
            rw [takeF_true ts ys s h r]
            have hm := look_some hl
            constructor
            · rintro ⟨h1, h2⟩; exact ⟨h1, .inr (h1 _ hm), h2⟩
            · rintro ⟨h1, _, h2⟩; exact ⟨h1, h2⟩
          · rw [if_neg hz] at h; cases h
      · rw [if_neg h4] at h ⊢
        rw [if_neg h4]
        by_cases hz : t.th 0 = y
        · rw [if_pos hz] at h ⊢
          rw [takeF_true ts ys s h r]
          simp [hz]
        · rw [if_neg hz] at h; cases h
theorem takeF_false : ∀ (ts : List T) (ys : List Th) (s : Bd), (takeF s ts ys).2 = false → ∀ r, agB r s → ¬ FitB r ts ys
  | [], _, s, h, r, _ => by simp [takeF] at h
  | t :: ts, [], s, h, r, _ => by simp [takeF] at h
  | t :: ts, y :: ys, s, h, r, ha => by
    rw [takeF] at h
    rintro ⟨h1, h2⟩
    by_cases hn : t.nn = true
    · rw [if_pos hn] at h
      exact takeF_false ts ys s h r ha h2
    · rw [if_neg hn] at h
      replace h1 := h1.resolve_left hn
      by_cases h4 : t.k = 4
      · rw [if_pos h4] at h h1
        cases hl : look s t.t with
        | none =>
          rw [hl] at h
          exact takeF_false ts ys _ h r (agB_append.2 ⟨ha, by simpa [agB] using h1⟩) h2
        | some z =>
          rw [hl] at h
          dsimp only at h
          have hz : z = y := by rw [← h1]; exact (ha _ (look_some hl)).symm
          rw [if_pos hz] at h
          exact takeF_false ts ys s h r ha h2
      · rw [if_neg h4] at h h1
        rw [if_pos h1] at h
        exact takeF_false ts ys s h r ha h2
theorem takeF_nodup : ∀ (ts : List T) (ys : List Th) (s : Bd), (s.map Prod.fst).Nodup → ((takeF s ts ys).1.map Prod.fst).Nodup
  | [], _, s, h => by simpa [takeF] using h
  | t :: ts, [], s, h => by simpa [takeF] using h
  | t :: ts, y :: ys, s, h => by
    rw [takeF]
    split
    · exact takeF_nodup ts ys s h
    · split
      · cases hl : look s t.t with
        | none => exact takeF_nodup ts ys _ (look_snoc_nodup h hl)
        | some z =>
          dsimp only
          split
          · exact takeF_nodup ts ys s h
          · exact h
      · split
        · exact takeF_nodup ts ys s h
        · exact h

theorem searchP_iff (ys : List (Li × List Th)) : ∀ (as_ : List Li) (s : Bd), (s.map Prod.fst).Nodup →
    (searchP ys s as_ = true ↔ ∃ r, agB r s ∧ ∀ a ∈ as_, ∃ q ∈ ys, likeL a q.1 = true ∧ FitB r a.terms q.2)
  | [], s, hn => by
    refine ⟨fun _ => ⟨fun t => (look s t).getD ⟨0, 0, ⟨#[]⟩, 0⟩, fun p hp => ?_, fun a h => nomatch h⟩, fun _ => rfl⟩
    show (look s p.1).getD _ = p.2
    rw [look_mem (a := p.1) (b := p.2) hn hp]; rfl
  | a :: as_, s, hn => by
    rw [searchP, List.any_eq_true]
    constructor
    · rintro ⟨q, hq, h⟩
      rw [Bool.and_eq_true, Bool.and_eq_true] at h
      obtain ⟨h1, h2, h3⟩ := h
      obtain ⟨r, hr, hA⟩ := (searchP_iff ys as_ _ (takeF_nodup _ _ _ hn)).1 h3
      obtain ⟨hr1, hr2⟩ := (takeF_true _ _ _ h2 r).1 hr
      refine ⟨r, hr1, fun x hx => ?_⟩
      rcases List.mem_cons.1 hx with rfl | hx
      · exact ⟨q, hq, h1, hr2⟩
      · exact hA x hx
    · rintro ⟨r, hr, hA⟩
      obtain ⟨q, hq, h1, h2⟩ := hA a (by simp)
      cases hb : (takeF s a.terms q.2).2 with
      | false => exact absurd h2 (takeF_false _ _ _ hb r hr)
      | true =>
        refine ⟨q, hq, ?_⟩
        rw [h1, hb, (searchP_iff ys as_ _ (takeF_nodup _ _ _ hn)).2 ⟨r, (takeF_true _ _ _ hb r).2 ⟨hr, h2⟩, fun x hx => hA x (List.mem_cons_of_mem _ hx)⟩]
        rfl

/-- A literal as a part. -/
def mkPt (q : Li × List Th) : Pt := if q.1.k = 3 then ⟨3, ⟨#[]⟩, q.1.op, q.2⟩ else ⟨q.1.k, q.1.a.p, 0, q.2⟩
def headPt (a : Cl) : Pt := ⟨0, a.h.p, 0, num 0 a.h.es⟩
def bodyPts (a : Cl) : List Pt := (pairL (cnt a.h.es) a.ls).map mkPt
/-- What holds of literals that are well formed. -/
def Li.good (l : Li) : Prop := (l.k = 3 → l.a.p = ⟨#[]⟩) ∧ (l.k ≠ 3 → l.op = 0) ∧ ∀ t ∈ l.terms, t.k = 4 → t.i = 0
def Cl.good (c : Cl) : Prop := (∀ t ∈ c.h.es, t.k = 4 → t.i = 0) ∧ ∀ l ∈ c.ls, l.good

theorem FitB_of {s : Th → Th} : ∀ (n : Nat) (ts : List T) (ys : List Th), (∀ t ∈ ts, t.k = 4 → t.i = 0) → FitL s (num n ts) ys → FitB (fun t => s ⟨4, 0, t, 0⟩) ts ys
  | _, [], _, _, _ => trivial
  | n, t :: ts, [], _, _ => by simp [FitB]
  | n, t :: ts, y :: ys, h, hf => by
    rw [num] at hf
    have hT := fun u hu => h u (List.mem_cons_of_mem _ hu)
    by_cases hn : t.nn = true
    · rw [if_pos hn] at hf
      exact ⟨.inl hn, FitB_of (n + 1) ts ys hT hf.2⟩
    · rw [if_neg hn] at hf
      obtain ⟨h1, h2⟩ := hf
      refine ⟨.inr ?_, FitB_of n ts ys hT h2⟩
      by_cases h4 : t.k = 4
      · rw [if_pos h4]
        rw [if_pos (by simp [Th.v, T.th, h4])] at h1
        rw [← h1]
        simp only [T.th, h4, h t (by simp) h4]
      · rw [if_neg h4]
        rw [if_neg (by simp [Th.v, T.th, h4])] at h1
        exact h1

/-- A valuation of things that goes with one of names. -/
def goes (s : Th → Th) (r : ByteArray → Th) : Prop := ∀ x : Th, x.own = 0 → s x = r x.t

theorem FitL_of {r : ByteArray → Th} : ∀ (ts : List T) (n : Nat) (ys : List Th) (s : Th → Th), ts.length = ys.length → FitB r ts ys → goes s r →
    ∃ s', (∀ x : Th, (x.own ≤ n ∨ n + cnt ts < x.own) → s' x = s x) ∧ FitL s' (num n ts) ys
  | [], n, ys, s, _, _, _ => ⟨s, fun _ _ => rfl, by simp [num, FitL]⟩
  | t :: ts, n, [], s, hl, _, _ => by simp at hl
  | t :: ts, n, y :: ys, s, hl, hf, hg => by
    obtain ⟨h1, h2⟩ := hf
    have hl' : ts.length = ys.length := by simpa using hl
    by_cases hn : t.nn = true
    · obtain ⟨s1, ha, hb⟩ := FitL_of ts (n + 1) ys s hl' h2 hg
      refine ⟨fun x => if x = t.th (n + 1) then y else s1 x, fun x hx => ?_, ?_⟩
      · rw [cnt, if_pos hn] at hx
        dsimp only
        have hne : x ≠ t.th (n + 1) := by rintro rfl; simp only [T.th] at hx; omega
        rw [if_neg hne]
        exact ha x (by omega)
      · rw [num, if_pos hn]
        have h4 : t.k = 4 := by
          have := hn
          unfold T.nn noName at this
          rw [Bool.and_eq_true] at this
          simpa using this.1
        refine ⟨?_, FitL_congr _ _ (fun a ha _ => ?_) hb⟩
        · rw [if_pos (by simp [Th.v, T.th, h4])]; simp
        · rw [if_neg]
          rintro rfl
          have := num_own _ _ _ ha
          simp only [T.th] at this
          omega
    · obtain ⟨s1, ha, hb⟩ := FitL_of ts n ys s hl' h2 hg
      refine ⟨s1, fun x hx => ha x (by rw [cnt, if_neg hn] at hx; omega), ?_⟩
      rw [num, if_neg hn]
      refine ⟨?_, hb⟩
      replace h1 := h1.resolve_left hn
      by_cases h4 : t.k = 4
      · rw [if_pos h4] at h1
        rw [if_pos (by simp [Th.v, T.th, h4]), ha _ (.inl (by simp [T.th])), hg _ rfl]
        exact h1
      · rw [if_neg h4] at h1
        rw [if_neg (by simp [Th.v, T.th, h4])]
        exact h1

theorem mkPt_ths (q : Li × List Th) : (mkPt q).ths = q.2 := by
  unfold mkPt; split <;> rfl
theorem meets_iff {a b : Li} {xs ys : List Th} (ha : a.good) (hb : b.good) (hx : xs.length = a.terms.length) (hy : ys.length = b.terms.length) : (mkPt (a, xs)).meets (mkPt (b, ys)) ↔ likeL a b = true := by
  have e : likeL a b = true ↔ a.k = b.k ∧ a.op = b.op ∧ a.a.p = b.a.p ∧ a.terms.length = b.terms.length := by
    unfold likeL; simp [Bool.and_eq_true]
  rw [e]
  unfold Pt.meets
  rw [mkPt_ths, mkPt_ths]
  dsimp only
  rw [hx, hy]
  unfold mkPt
  dsimp only
  by_cases h3 : a.k = 3
  · by_cases h3' : b.k = 3
    · rw [if_pos h3, if_pos h3', ha.1 h3, hb.1 h3', h3, h3']
      dsimp only
      constructor
      · rintro ⟨_, _, h1, h2⟩; exact ⟨rfl, h1, rfl, h2⟩
      · rintro ⟨_, h1, _, h2⟩; exact ⟨rfl, rfl, h1, h2⟩
    · rw [if_pos h3, if_neg h3']
      dsimp only
      constructor
      · rintro ⟨h, _⟩; exact absurd h.symm h3'
      · rintro ⟨h, _⟩; exact absurd (h.symm.trans h3) h3'
  · by_cases h3' : b.k = 3
    · rw [if_neg h3, if_pos h3']
      dsimp only
      constructor
      · rintro ⟨h, _⟩; exact absurd h h3
      · rintro ⟨h, _⟩; exact absurd (h.trans h3') h3
    · rw [if_neg h3, if_neg h3', ha.2.1 h3, hb.2.1 h3']
      dsimp only
      constructor
      · rintro ⟨h1, h2, _, h4⟩; exact ⟨h1, rfl, h2, h4⟩
      · rintro ⟨h1, _, h2, h4⟩; exact ⟨h1, h2, rfl, h4⟩

theorem pairL_mem : ∀ (n : Nat) (ls : List Li) (q : Li × List Th), q ∈ pairL n ls → q.1 ∈ ls ∧ q.2.length = q.1.terms.length
  | _, [], _, h => by cases h
  | n, l :: ls, q, h => by
    rw [pairL] at h
    rcases List.mem_cons.1 h with rfl | h
    · exact ⟨by simp, num_length _ _⟩
    · have := pairL_mem _ ls q h
      exact ⟨List.mem_cons_of_mem _ this.1, this.2⟩

/-- From names to things, literal by literal. -/
theorem sat_of {r : ByteArray → Th} {ys : List (Li × List Th)} (hy : ∀ q ∈ ys, q.1.good ∧ q.2.length = q.1.terms.length) : ∀ (ls : List Li) (n : Nat) (s : Th → Th), (∀ l ∈ ls, l.good) →
    (∀ l ∈ ls, ∃ q ∈ ys, likeL l q.1 = true ∧ FitB r l.terms q.2) → goes s r →
    ∃ s', (∀ x : Th, x.own ≤ n → s' x = s x) ∧ ∀ p ∈ (pairL n ls).map mkPt, ∃ q ∈ ys.map mkPt, Fit s' p q
  | [], n, s, _, _, _ => ⟨s, fun _ _ => rfl, fun p hp => nomatch hp⟩
  | l :: ls, n, s, hgd, h, hg => by
    obtain ⟨s1, ha, hb⟩ := sat_of hy ls (n + cnt l.terms) s (fun x hx => hgd x (List.mem_cons_of_mem _ hx)) (fun x hx => h x (List.mem_cons_of_mem _ hx)) hg
    obtain ⟨q, hq, h1, h2⟩ := h l (by simp)
    have hlen : l.terms.length = q.2.length := by
      have h1' := h1
      unfold likeL at h1'
      simp only [Bool.and_eq_true, decide_eq_true_eq] at h1'
      rw [(hy q hq).2]; exact h1'.2.2.2
    have hg1 : goes s1 r := fun x hx => by rw [ha x (by omega)]; exact hg x hx
    obtain ⟨s2, hc, hd⟩ := FitL_of l.terms n q.2 s1 hlen h2 hg1
    refine ⟨s2, fun x hx => by rw [hc x (.inl hx), ha x (by omega)], fun p hp => ?_⟩
    rw [pairL, List.map_cons] at hp
    rcases List.mem_cons.1 hp with rfl | hp
    · refine ⟨mkPt q, List.mem_map.2 ⟨q, hq, rfl⟩, (meets_iff (hgd l (by simp)) (hy q hq).1 (num_length _ _) (hy q hq).2).2 h1, ?_⟩
      rw [mkPt_ths, mkPt_ths]; exact hd
    · obtain ⟨u, hu, hm, hf⟩ := hb p hp
      refine ⟨u, hu, hm, FitL_congr _ _ (fun a hx _ => ?_) hf⟩
      obtain ⟨v, hv, rfl⟩ := List.mem_map.1 hp
      rw [mkPt_ths] at hx
      symm
      refine hc a ?_
      have hown : ∀ (n : Nat) (ls : List Li) (v : Li × List Th), v ∈ pairL n ls → ∀ a ∈ v.2, a.own = 0 ∨ n < a.own := by
        intro n ls
        induction ls generalizing n with
        | nil => intro v hv; cases hv
        | cons x xs ih =>
          intro v hv a ha
          rw [pairL] at hv
          rcases List.mem_cons.1 hv with rfl | hv
          · rcases num_own _ _ _ ha with h | h
            · exact .inl h
            · exact .inr h.1
          · rcases ih _ v hv a ha with h | h
            · exact .inl h
            · right; omega
      rcases hown _ _ v hv a hx with h | h
      · left; omega
      · right; exact h

/-- The program's answer is the document's. -/
theorem covers_same {a b : Cl} (ha : a.good) (hb : b.good) : coversP a b = (decide (a.ls.length ≤ 6) && coversR (headPt a) (headPt b) (bodyPts a) (bodyPts b)) := by
  rw [Bool.eq_iff_iff, Bool.and_eq_true, coversR_iff, decide_eq_true_eq]
  unfold coversP
  by_cases h6 : 6 < a.ls.length
  · rw [if_pos (.inl h6)]
    refine ⟨fun h => (by cases h), fun h => absurd h.1 (by omega)⟩
  by_cases hp : a.h.p ≠ b.h.p
  · rw [if_pos (.inr (.inl hp))]
    refine ⟨fun h => (by cases h), ?_⟩
    rintro ⟨_, s, h, _⟩
    exact absurd h.1.2.1 hp
  by_cases hl : a.h.es.length ≠ b.h.es.length
  · rw [if_pos (.inr (.inr hl))]
    refine ⟨fun h => (by cases h), ?_⟩
    rintro ⟨_, s, h, _⟩
    have := h.1.2.2.2
    simp only [headPt, num_length] at this
    exact absurd this hl
  rw [if_neg (by rintro (h | h | h); exact h6 h; exact hp h; exact hl h)]
  have hp' : a.h.p = b.h.p := Classical.not_not.1 hp
  have hl' : a.h.es.length = b.h.es.length := Classical.not_not.1 hl
  have hy : ∀ q ∈ pairL (cnt b.h.es) b.ls, q.1.good ∧ q.2.length = q.1.terms.length := fun q hq => ⟨hb.2 _ (pairL_mem _ _ q hq).1, (pairL_mem _ _ q hq).2⟩
  rw [Bool.and_eq_true]
  constructor
  · rintro ⟨h1, h2⟩
    refine ⟨by omega, ?_⟩
    obtain ⟨r, hr, hA⟩ := (searchP_iff _ _ _ (takeF_nodup _ _ _ (by simp))).1 h2
    obtain ⟨_, hf⟩ := (takeF_true _ _ _ h1 r).1 hr
    obtain ⟨s1, hs1, hs2⟩ := sat_of hy a.ls (cnt a.h.es) (fun x => r x.t) ha.2 hA (fun x _ => rfl)
    have hg1 : goes s1 r := fun x hx => hs1 x (by omega)
    obtain ⟨s2, hc, hd⟩ := FitL_of a.h.es 0 (num 0 b.h.es) s1 (by rw [num_length]; exact hl') hf hg1
    refine ⟨s2, ⟨⟨rfl, hp', rfl, by simp only [headPt, num_length]; exact hl'⟩, hd⟩, fun p hp => ?_⟩
    obtain ⟨q, hq, hm, hfit⟩ := hs2 p hp
    refine ⟨q, hq, hm, FitL_congr _ _ (fun x hx _ => ?_) hfit⟩
    symm
    refine hc x ?_
    obtain ⟨v, hv, rfl⟩ := List.mem_map.1 hp
    rw [mkPt_ths] at hx
    have hown : ∀ (n : Nat) (ls : List Li) (v : Li × List Th), v ∈ pairL n ls → ∀ a ∈ v.2, a.own = 0 ∨ n < a.own := by
      intro n ls
      induction ls generalizing n with
      | nil => intro v hv; cases hv
      | cons x xs ih =>
        intro v hv a ha
        rw [pairL] at hv
        rcases List.mem_cons.1 hv with rfl | hv
        · rcases num_own _ _ _ ha with h | h
          · exact .inl h
          · exact .inr h.1
        · rcases ih _ v hv a ha with h | h
          · exact .inl h
          · right; omega
    rcases hown _ _ v hv x hx with h | h
    · left; omega
    · right; rw [Nat.zero_add]; exact h
  · rintro ⟨_, s, ⟨hm, hf⟩, hA⟩
    have hfB := FitB_of 0 a.h.es (num 0 b.h.es) ha.1 hf
    have ht : (takeF [] a.h.es (num 0 b.h.es)).2 = true := by
      cases hb2 : (takeF [] a.h.es (num 0 b.h.es)).2 with
      | true => rfl
      | false => exact absurd hfB (takeF_false _ _ _ hb2 _ (fun p hp => nomatch hp))
    refine ⟨ht, (searchP_iff _ _ _ (takeF_nodup _ _ _ (by simp))).2 ⟨fun t => s ⟨4, 0, t, 0⟩, (takeF_true _ _ _ ht _).2 ⟨(fun p hp => nomatch hp), hfB⟩, fun l hl => ?_⟩⟩
    have hex : ∀ (n : Nat) (ls : List Li), l ∈ ls → ∃ m, (l, num m l.terms) ∈ pairL n ls := by
      intro n ls
      induction ls generalizing n with
      | nil => intro h; cases h
      | cons x xs ih =>
        intro h
        rw [pairL]
        rcases List.mem_cons.1 h with rfl | h
        · exact ⟨n, by simp⟩
        · obtain ⟨m, hm⟩ := ih (n + cnt x.terms) h
          exact ⟨m, List.mem_cons_of_mem _ hm⟩
    obtain ⟨m, hmem⟩ := hex (cnt a.h.es) a.ls hl
    obtain ⟨q, hq, hme, hfi⟩ := hA (mkPt (l, num m l.terms)) (List.mem_map.2 ⟨_, hmem, rfl⟩)
    obtain ⟨v, hv, rfl⟩ := List.mem_map.1 hq
    rw [mkPt_ths, mkPt_ths] at hfi
    exact ⟨v, hv, (meets_iff (ha.2 l hl) (hy v hv).1 (num_length _ _) (hy v hv).2).1 hme, FitB_of m l.terms v.2 (ha.2 l hl).2.2 hfi⟩
end Go.Proofs.Ytjcgkplphiedjaa

namespace Go.Proofs.Ytjcgkplphiedjaa

def named2 (x y : T) : Bool := (decide (x.k = 4) && decide (y.k = 4)) && (!x.nn && !y.nn)
def getN (m : List (ByteArray × Nat)) (s : ByteArray) : Nat := ((m.find? fun p => decide (p.1 = s)).map Prod.snd).getD 0
def places : List (ByteArray × Nat) → List (ByteArray × Nat) → Nat → List T → List T → Bool
  | th, bk, i, x :: xs, y :: ys =>
    if named2 x y = true then
      if getN th x.t = getN bk y.t then
        if getN th x.t = 0 then places ((x.t, i + 1) :: th) ((y.t, i + 1) :: bk) (i + 1) xs ys else places th bk (i + 1) xs ys
      else false
    else if likeT x y = true then places th bk (i + 1) xs ys else false
  | _, _, _, _, _ => true
/-- A clause's terms in reading order. -/
def Cl.tot (a : Cl) : List T := a.h.es ++ a.ls.flatMap Li.terms
def alikes : List Li → List Li → Bool
  | a :: as_, b :: bs => likeL a b && alikes as_ bs
  | [], [] => true
  | _, _ => false
/-- The program's answer. -/
def againP (a b : Cl) : Bool :=
  if a.h.p ≠ b.h.p ∨ a.h.es.length ≠ b.h.es.length ∨ alikes a.ls b.ls = false then false else places [] [] 0 a.tot b.tot

def bothW : Wy → Wy → List Pt → List Pt → Option (Wy × Wy)
  | tw, fr, x :: xs, y :: ys =>
    match fitP tw x y with
    | none => none
    | some tw' => match fitP fr y x with
      | none => none
      | some fr' => bothW tw' fr' xs ys
  | tw, fr, _, _ => some (tw, fr)
def namedB (p : Th × Th) : Bool := decide (p.2.k = 4) && (decide (0 < p.1.own) == decide (0 < p.2.own))
/-- The document's answer. -/
def againR (a b : Cl) : Bool :=
  if a.ls.length ≠ b.ls.length then false
  else match bothW [] [] (headPt a :: bodyPts a) (headPt b :: bodyPts b) with
    | none => false
    | some q => q.1.all namedB

theorem likeT_iff {x y : T} : likeT x y = true ↔ x.k = y.k ∧ x.i = y.i ∧ x.t = y.t := by
  unfold likeT like
  simp only [Bool.and_eq_true, beq_iff_eq]
  constructor
  · rintro ⟨⟨⟨h1, h2⟩, h3⟩, _⟩; exact ⟨h1, h2, toList_inj h3⟩
  · rintro ⟨h1, h2, h3⟩; exact ⟨⟨⟨h1, h2⟩, by rw [h3]⟩, trivial⟩
theorem nn_k {x : T} (h : x.nn = true) : x.k = 4 := by
  unfold T.nn noName at h
  rw [Bool.and_eq_true] at h
  simpa using h.1
theorem nn_t {x : T} (h : x.nn = true) : x.t = ⟨#[95]⟩ := by
  unfold T.nn noName at h
  rw [Bool.and_eq_true] at h
  exact bytes_eq (by simpa using h.2)
theorem like_nn {x y : T} (h : likeT x y = true) : x.nn = y.nn := by
  obtain ⟨h1, _, h3⟩ := likeT_iff.1 h
  unfold T.nn; rw [h1, h3]
theorem named2_iff {x y : T} : named2 x y = true ↔ x.k = 4 ∧ y.k = 4 ∧ x.nn = false ∧ y.nn = false := by
  unfold named2
  simp [and_assoc]

/-- What it comes to. -/
def Sem (Z : List (T × T)) : Prop := (∀ p ∈ Z, named2 p.1 p.2 = false → likeT p.1 p.2 = true) ∧ ∀ p ∈ Z, ∀ q ∈ Z, named2 p.1 p.2 = true → named2 q.1 q.2 = true → (p.1.t = q.1.t ↔ p.2.t = q.2.t)

theorem getN_same (m : List (ByteArray × Nat)) (s : ByteArray) (v : Nat) : getN ((s, v) :: m) s = v := by
  unfold getN; simp
theorem getN_other (m : List (ByteArray × Nat)) {s s' : ByteArray} (v : Nat) (h : s ≠ s') : getN ((s, v) :: m) s' = getN m s' := by
  unfold getN
  rw [List.find?_cons, decide_eq_false h]

structure Placed (th bk : List (ByteArray × Nat)) (i : Nat) (Z : List (T × T)) : Prop where
  at_ : ∀ p ∈ Z, named2 p.1 p.2 = true → getN th p.1.t = getN bk p.2.t ∧ 0 < getN th p.1.t
  thOf : ∀ s, 0 < getN th s → ∃ p ∈ Z, named2 p.1 p.2 = true ∧ p.1.t = s
  bkOf : ∀ s, 0 < getN bk s → ∃ p ∈ Z, named2 p.1 p.2 = true ∧ p.2.t = s
  thInj : ∀ s s', getN th s = getN th s' → 0 < getN th s → s = s'
  bkInj : ∀ s s', getN bk s = getN bk s' → 0 < getN bk s → s = s'
  thLe : ∀ s, getN th s ≤ i
  bkLe : ∀ s, getN bk s ≤ i

theorem Placed.start : Placed [] [] 0 [] := by
  have z : ∀ s : ByteArray, getN [] s = 0 := fun s => rfl
  exact ⟨(fun _ h => nomatch h), fun s h => absurd h (by rw [z]; omega), fun s h => absurd h (by rw [z]; omega), fun s s' _ h => absurd h (by rw [z]; omega), fun s s' _ h => absurd h (by rw [z]; omega), fun s => by rw [z]; omega, fun s => by rw [z]; omega⟩
theorem Placed.same {th bk : List (ByteArray × Nat)} {i : Nat} {Z : List (T × T)} (h : Placed th bk i Z) (p : T × T) (hp : named2 p.1 p.2 = true → getN th p.1.t = getN bk p.2.t ∧ 0 < getN th p.1.t) : Placed th bk (i + 1) (Z ++ [p]) := by
  refine ⟨fun q hq hn => ?_, fun s hs => ?_, fun s hs => ?_, h.thInj, h.bkInj, fun s => Nat.le_succ_of_le (h.thLe s), fun s => Nat.le_succ_of_le (h.bkLe s)⟩
  · rcases List.mem_append.1 hq with hq | hq
    · exact h.at_ q hq hn
    · rw [List.mem_singleton] at hq; subst hq; exact hp hn
  · obtain ⟨q, hq, r⟩ := h.thOf s hs; exact ⟨q, List.mem_append_left _ hq, r⟩
  · obtain ⟨q, hq, r⟩ := h.bkOf s hs; exact ⟨q, List.mem_append_left _ hq, r⟩
theorem Placed.put {th bk : List (ByteArray × Nat)} {i : Nat} {Z : List (T × T)} (h : Placed th bk i Z) (p : T × T) (hn : named2 p.1 p.2 = true) (h0 : getN th p.1.t = 0) (h1 : getN bk p.2.t = 0) :
    Placed ((p.1.t, i + 1) :: th) ((p.2.t, i + 1) :: bk) (i + 1) (Z ++ [p]) := by
  have gth : ∀ s, getN ((p.1.t, i + 1) :: th) s = if p.1.t = s then i + 1 else getN th s := fun s => by
    by_cases e : p.1.t = s
    · subst e; rw [getN_same, if_pos rfl]
    · rw [getN_other _ _ e, if_neg e]
  have gbk : ∀ s, getN ((p.2.t, i + 1) :: bk) s = if p.2.t = s then i + 1 else getN bk s := fun s => by
    by_cases e : p.2.t = s
    · subst e; rw [getN_same, if_pos rfl]
    · rw [getN_other _ _ e, if_neg e]
  refine ⟨fun q hq hqn => ?_, fun s hs => ?_, fun s hs => ?_, fun s s' he hp => ?_, fun s s' he hp => ?_, fun s => ?_, fun s => ?_⟩
  · rcases List.mem_append.1 hq with hq | hq
    · obtain ⟨a1, a2⟩ := h.at_ q hq hqn
      have e1 : p.1.t ≠ q.1.t := fun e => by rw [e] at h0; omega
      have e2 : p.2.t ≠ q.2.t := fun e => by rw [e] at h1; omega
      rw [gth, gbk, if_neg e1, if_neg e2]; exact ⟨a1, a2⟩
    · rw [List.mem_singleton] at hq
      subst hq
      rw [gth, gbk, if_pos rfl, if_pos rfl]; exact ⟨rfl, by omega⟩
  · rw [gth] at hs
    split at hs
    · rename_i e; exact ⟨p, by simp, hn, e⟩
    · obtain ⟨q, hq, r⟩ := h.thOf s hs; exact ⟨q, List.mem_append_left _ hq, r⟩
  · rw [gbk] at hs
    split at hs
    · rename_i e; exact ⟨p, by simp, hn, e⟩
    · obtain ⟨q, hq, r⟩ := h.bkOf s hs; exact ⟨q, List.mem_append_left _ hq, r⟩
  · rw [gth, gth] at he
    rw [gth] at hp
    have l1 := h.thLe s
    have l2 := h.thLe s'
    split at he
    · rename_i e
      split at he
      · rename_i e'; rw [← e, ← e']
      · omega
    · rename_i e
      rw [if_neg e] at hp
      split at he
      · omega
      · exact h.thInj s s' he hp
  · rw [gbk, gbk] at he
    rw [gbk] at hp
    have l1 := h.bkLe s
    have l2 := h.bkLe s'
    split at he
    · rename_i e
      split at he
      · rename_i e'; rw [← e, ← e']
      · omega
    · rename_i e
      rw [if_neg e] at hp
      split at he
      · omega
      · exact h.bkInj s s' he hp
  · rw [gth]
    have := h.thLe s
    split <;> omega
  · rw [gbk]
    have := h.bkLe s
    split <;> omega

theorem Sem.pre {Z Z' : List (T × T)} (h : Sem (Z ++ Z')) : Sem Z :=
  ⟨fun p hp => h.1 p (List.mem_append_left _ hp), fun p hp q hq => h.2 p (List.mem_append_left _ hp) q (List.mem_append_left _ hq)⟩

theorem places_iff : ∀ (xs ys : List T) (th bk : List (ByteArray × Nat)) (i : Nat) (Z : List (T × T)), Placed th bk i Z → Sem Z → (places th bk i xs ys = true ↔ Sem (Z ++ xs.zip ys))
  | [], ys, th, bk, i, Z, hJ, hS => by simp [places, hS]
  | x :: xs, [], th, bk, i, Z, hJ, hS => by simp [places, hS]
  | x :: xs, y :: ys, th, bk, i, Z, hJ, hS => by
    rw [places, List.zip_cons_cons]
    have ez : Z ++ (x, y) :: xs.zip ys = (Z ++ [(x, y)]) ++ xs.zip ys := by simp
    rw [ez]
    by_cases hn : named2 x y = true
    · rw [if_pos hn]
      by_cases he : getN th x.t = getN bk y.t
      · rw [if_pos he]
        have hS' : Sem (Z ++ [(x, y)]) := by
          have key : ∀ q ∈ Z, named2 q.1 q.2 = true → (x.t = q.1.t ↔ y.t = q.2.t) := fun q hq hqn => by
            obtain ⟨a1, a2⟩ := hJ.at_ q hq hqn
            constructor
            · intro e
              refine (hJ.bkInj _ _ ?_ (by omega)).symm
              rw [← a1, ← e]; exact he
            · intro e
              refine (hJ.thInj _ _ ?_ a2).symm
              rw [a1, ← e]; exact he.symm
          refine ⟨fun q hq hqn => ?_, fun q hq r hr hqn hrn => ?_⟩
          · rcases List.mem_append.1 hq with hq | hq
            · exact hS.1 q hq hqn
            · rw [List.mem_singleton] at hq; subst hq; rw [hn] at hqn; cases hqn
          · rcases List.mem_append.1 hq with hq | hq
            · rcases List.mem_append.1 hr with hr | hr
              · exact hS.2 q hq r hr hqn hrn
              · rw [List.mem_singleton] at hr; subst hr
                have := key q hq hqn
                exact ⟨fun e => (this.1 e.symm).symm, fun e => (this.2 e.symm).symm⟩
            · rw [List.mem_singleton] at hq; subst hq
              rcases List.mem_append.1 hr with hr | hr
              · exact key r hr hrn
              · rw [List.mem_singleton] at hr; subst hr; exact ⟨fun _ => rfl, fun _ => rfl⟩
        by_cases h0 : getN th x.t = 0
        · rw [if_pos h0]
          exact places_iff xs ys _ _ _ _ (hJ.put (x, y) hn h0 (he ▸ h0)) hS'
        · rw [if_neg h0]
          exact places_iff xs ys _ _ _ _ (hJ.same (x, y) (fun _ => ⟨he, Nat.pos_of_ne_zero h0⟩)) hS'
      · rw [if_neg he]
        refine ⟨fun h => (by cases h), fun h => absurd ?_ he⟩
        have h2 := fun q hq hqn => h.2 q (List.mem_append_left _ (List.mem_append_left _ hq)) (x, y) (List.mem_append_left _ (by simp)) hqn hn
        rcases Nat.eq_zero_or_pos (getN th x.t) with h0 | h0
        · rcases Nat.eq_zero_or_pos (getN bk y.t) with h1 | h1
          · omega
          · obtain ⟨q, hq, hqn, e⟩ := hJ.bkOf _ h1
            have e2 := (h2 q hq hqn).2 e
            obtain ⟨a1, a2⟩ := hJ.at_ q hq hqn
            dsimp only at e2
            rw [← e2, ← e]; exact a1
        · obtain ⟨q, hq, hqn, e⟩ := hJ.thOf _ h0
          have e2 := (h2 q hq hqn).1 e
          obtain ⟨a1, a2⟩ := hJ.at_ q hq hqn
          dsimp only at e2
          rw [← e2, ← e]; exact a1
    · rw [if_neg hn]
      have hn' : named2 x y = false := by simpa using hn
      by_cases hl : likeT x y = true
      · rw [if_pos hl]
        refine places_iff xs ys _ _ _ _ (hJ.same (x, y) (fun h => absurd h hn)) ⟨fun q hq hqn => ?_, fun q hq r hr hqn hrn => ?_⟩
        · rcases List.mem_append.1 hq with hq | hq
          · exact hS.1 q hq hqn
          · rw [List.mem_singleton] at hq; subst hq; exact hl
        · rcases List.mem_append.1 hq with hq | hq
          · rcases List.mem_append.1 hr with hr | hr
            · exact hS.2 q hq r hr hqn hrn
            · rw [List.mem_singleton] at hr; subst hr; exact absurd hrn hn
          · rw [List.mem_singleton] at hq; subst hq; exact absurd hqn hn
      · rw [if_neg hl]
        refine ⟨fun h => (by cases h), fun h => absurd (h.1 (x, y) (List.mem_append_left _ (by simp)) hn') hl⟩

/-- All parts side by side. -/
def AllFit (s : Th → Th) : List Pt → List Pt → Prop
  | x :: xs, y :: ys => Fit s x y ∧ AllFit s xs ys
  | _, _ => True
theorem bothW_some : ∀ (xs ys : List Pt) (tw fr tw' fr' : Wy), xs.length = ys.length → bothW tw fr xs ys = some (tw', fr') → (keys tw).Nodup → (keys fr).Nodup →
    ((∀ s, agrees s tw' → agrees s tw ∧ AllFit s xs ys) ∧ (∀ s, agrees s fr' → agrees s fr ∧ AllFit s ys xs) ∧ (∀ s, agrees s tw → AllFit s xs ys → agrees s tw')
      ∧ (∀ a, a ∈ keys tw' ↔ a ∈ keys tw ∨ (a.v = true ∧ ∃ p ∈ xs, a ∈ p.ths)) ∧ (keys tw').Nodup ∧ (keys fr').Nodup)
  | [], [], tw, fr, tw', fr', _, h, h1, h2 => by
    simp only [bothW, Option.some.injEq, Prod.mk.injEq] at h
    obtain ⟨rfl, rfl⟩ := h
    exact ⟨fun s h => ⟨h, trivial⟩, fun s h => ⟨h, trivial⟩, fun s h _ => h, fun a => by simp, h1, h2⟩
  | [], _ :: _, _, _, _, _, hl, _, _, _ => by simp at hl
  | _ :: _, [], _, _, _, _, hl, _, _, _ => by simp at hl
  | x :: xs, y :: ys, tw, fr, tw', fr', hl, h, h1, h2 => by
    rw [bothW] at h
    cases e1 : fitP tw x y with
    | none => rw [e1] at h; cases h
    | some t1 =>
      rw [e1] at h
      dsimp only at h
      cases e2 : fitP fr y x with
      | none => rw [e2] at h; cases h
      | some f1 =>
        rw [e2] at h
        dsimp only at h
        obtain ⟨m1, L1⟩ := fitP_some e1
        obtain ⟨m2, L2⟩ := fitP_some e2
        obtain ⟨a1, a2, a3, a4, a5, a6⟩ := bothW_some xs ys t1 f1 tw' fr' (by simpa using hl) h (L1.nodup h1) (L2.nodup h2)
        refine ⟨fun s hs => ?_, fun s hs => ?_, fun s hs hf => a3 s ((L1.all s).2 ⟨hs, hf.1.2⟩) hf.2, fun a => ?_, a5, a6⟩
        · obtain ⟨b1, b2⟩ := a1 s hs
          obtain ⟨c1, c2⟩ := (L1.all s).1 b1
          exact ⟨c1, ⟨m1, c2⟩, b2⟩
        · obtain ⟨b1, b2⟩ := a2 s hs
          obtain ⟨c1, c2⟩ := (L2.all s).1 b1
          exact ⟨c1, ⟨m2, c2⟩, b2⟩
        · rw [a4 a, L1.dom a]
          constructor
          · rintro ((h | ⟨h, h'⟩) | ⟨h, p, hp, hap⟩)
            · exact .inl h
            · exact .inr ⟨h', x, by simp, h⟩
            · exact .inr ⟨h, p, List.mem_cons_of_mem _ hp, hap⟩
          · rintro (h | ⟨h, p, hp, hap⟩)
            · exact .inl (.inl h)
            · rcases List.mem_cons.1 hp with rfl | hp
              · exact .inl (.inr ⟨hap, h⟩)
              · exact .inr ⟨h, p, hp, hap⟩
theorem bothW_none : ∀ (xs ys : List Pt) (tw fr : Wy) (s u : Th → Th), bothW tw fr xs ys = none → agrees s tw → agrees u fr → AllFit s xs ys → AllFit u ys xs → False
  | [], _, _, _, _, _, h, _, _, _, _ => by simp [bothW] at h
  | _ :: _, [], _, _, _, _, h, _, _, _, _ => by simp [bothW] at h
  | x :: xs, y :: ys, tw, fr, s, u, h, hs, hu, f1, f2 => by
    rw [bothW] at h
    cases e1 : fitP tw x y with
    | none => exact fitP_none e1 hs f1.1
    | some t1 =>
      rw [e1] at h
      dsimp only at h
      cases e2 : fitP fr y x with
      | none => exact fitP_none e2 hu f2.1
      | some f1' =>
        rw [e2] at h
        dsimp only at h
        exact bothW_none xs ys t1 f1' s u h (((fitP_some e1).2.all s).2 ⟨hs, f1.1.2⟩) (((fitP_some e2).2.all u).2 ⟨hu, f2.1.2⟩) f1.2 f2.2

/-- The document's answer, as valuations. -/
theorem againR_iff (a b : Cl) : againR a b = true ↔ a.ls.length = b.ls.length ∧ ∃ s u, AllFit s (headPt a :: bodyPts a) (headPt b :: bodyPts b) ∧ AllFit u (headPt b :: bodyPts b) (headPt a :: bodyPts a)
      ∧ ∀ x : Th, x.v = true → (∃ p ∈ headPt a :: bodyPts a, x ∈ p.ths) → namedB (x, s x) = true := by
  unfold againR
  have pl : ∀ (n : Nat) (ls : List Li), (pairL n ls).length = ls.length := by
    intro n ls
    induction ls generalizing n with
    | nil => rfl
    | cons l ls ih => simp [pairL, ih]
  by_cases hl : a.ls.length ≠ b.ls.length
  · rw [if_pos hl]
    exact ⟨fun h => (by cases h), fun h => absurd h.1 hl⟩
  rw [if_neg hl]
  have hl' := Classical.not_not.1 hl
  have hlen : (headPt a :: bodyPts a).length = (headPt b :: bodyPts b).length := by simp [bodyPts, pl, hl']
  cases e : bothW [] [] (headPt a :: bodyPts a) (headPt b :: bodyPts b) with
  | none =>
    refine ⟨fun h => (by cases h), ?_⟩
    rintro ⟨_, s, u, h1, h2, _⟩
    exact (bothW_none _ _ _ _ s u e (fun _ h => nomatch h) (fun _ h => nomatch h) h1 h2).elim
  | some q =>
    obtain ⟨tw, fr⟩ := q
    obtain ⟨a1, a2, a3, a4, a5, a6⟩ := bothW_some _ _ _ _ _ _ hlen e (by simp [keys]) (by simp [keys])
    dsimp only
    rw [List.all_eq_true]
    constructor
    · intro h
      refine ⟨hl', over tw id, over fr id, (a1 _ (over_agrees a5)).2, (a2 _ (over_agrees a6)).2, fun x hv hx => ?_⟩
      obtain ⟨z, hz⟩ := stands_key ((a4 x).2 (.inr ⟨hv, hx⟩))
      have := h _ (stands_some hz)
      unfold over
      rw [hz]; exact this
    · rintro ⟨_, s, u, h1, h2, h3⟩ p hp
      have hk : p.1 ∈ keys tw := List.mem_map.2 ⟨p, hp, rfl⟩
      rcases (a4 p.1).1 hk with h | ⟨h, hx⟩
      · cases h
      · have := h3 p.1 h hx
        rw [a3 s (fun _ h => nomatch h) h1 p hp] at this
        exact this

theorem num_append : ∀ (n : Nat) (xs ys : List T), num n (xs ++ ys) = num n xs ++ num (n + cnt xs) ys
  | n, [], ys => by simp [num, cnt]
  | n, x :: xs, ys => by
    rw [List.cons_append, num, num, cnt]
    by_cases h : x.nn = true
    · rw [if_pos h, if_pos h, if_pos h, num_append (n + 1) xs ys, List.cons_append]
      congr 3; omega
    · rw [if_neg h, if_neg h, if_neg h, num_append n xs ys, List.cons_append]
      congr 3; omega
theorem flat_ths : ∀ (n : Nat) (ls : List Li), ((pairL n ls).map mkPt).flatMap Pt.ths = num n (ls.flatMap Li.terms)
  | _, [] => rfl
  | n, l :: ls => by
    rw [pairL, List.map_cons, List.flatMap_cons, List.flatMap_cons, mkPt_ths, flat_ths, num_append]
theorem clause_ths (a : Cl) : (headPt a :: bodyPts a).flatMap Pt.ths = num 0 a.tot := by
  rw [List.flatMap_cons, bodyPts, flat_ths, Cl.tot, num_append, Nat.zero_add]; rfl
theorem FitL_append {s : Th → Th} : ∀ (xs ys xs' ys' : List Th), xs.length = ys.length → (FitL s (xs ++ xs') (ys ++ ys') ↔ FitL s xs ys ∧ FitL s xs' ys')
  | [], [], _, _, _ => by simp [FitL]
  | [], _ :: _, _, _, h => by simp at h
  | _ :: _, [], _, _, h => by simp at h
  | x :: xs, y :: ys, xs', ys', h => by
    rw [List.cons_append, List.cons_append, FitL, FitL, FitL_append xs ys xs' ys' (by simpa using h), and_assoc]
def AllMeet : List Pt → List Pt → Prop
  | x :: xs, y :: ys => x.meets y ∧ AllMeet xs ys
  | [], [] => True
  | _, _ => False
theorem AllFit_iff {s : Th → Th} : ∀ (xs ys : List Pt), xs.length = ys.length → (AllFit s xs ys ↔ AllMeet xs ys ∧ FitL s (xs.flatMap Pt.ths) (ys.flatMap Pt.ths))
  | [], [], _ => by simp [AllFit, AllMeet, FitL]
  | [], _ :: _, h => by simp at h
  | _ :: _, [], h => by simp at h
  | x :: xs, y :: ys, h => by
    rw [AllFit, AllMeet, List.flatMap_cons, List.flatMap_cons, AllFit_iff xs ys (by simpa using h)]
    constructor
    · rintro ⟨⟨h1, h2⟩, h3, h4⟩
      exact ⟨⟨h1, h3⟩, (FitL_append _ _ _ _ h1.2.2.2).2 ⟨h2, h4⟩⟩
    · rintro ⟨⟨h1, h3⟩, h4⟩
      obtain ⟨h2, h5⟩ := (FitL_append _ _ _ _ h1.2.2.2).1 h4
      exact ⟨⟨h1, h2⟩, h3, h5⟩
theorem AllMeet_swap : ∀ (xs ys : List Pt), AllMeet xs ys → AllMeet ys xs
  | [], [], _ => trivial
  | [], _ :: _, h => h
  | _ :: _, [], h => h
  | _ :: xs, _ :: ys, h => ⟨⟨h.1.1.symm, h.1.2.1.symm, h.1.2.2.1.symm, h.1.2.2.2.symm⟩, AllMeet_swap xs ys h.2⟩
theorem AllMeet_alikes : ∀ (n m : Nat) (as_ bs : List Li), (∀ l ∈ as_, l.good) → (∀ l ∈ bs, l.good) → (AllMeet ((pairL n as_).map mkPt) ((pairL m bs).map mkPt) ↔ alikes as_ bs = true)
  | _, _, [], [], _, _ => by simp [pairL, AllMeet, alikes]
  | _, _, [], _ :: _, _, _ => by simp [pairL, AllMeet, alikes]
  | _, _, _ :: _, [], _, _ => by simp [pairL, AllMeet, alikes]
  | n, m, a :: as_, b :: bs, ha, hb => by
    rw [pairL, pairL, List.map_cons, List.map_cons, AllMeet, alikes, Bool.and_eq_true, meets_iff (ha a (by simp)) (hb b (by simp)) (num_length _ _) (num_length _ _),
      AllMeet_alikes _ _ as_ bs (fun l hl => ha l (List.mem_cons_of_mem _ hl)) (fun l hl => hb l (List.mem_cons_of_mem _ hl))]
theorem alikes_length : ∀ (as_ bs : List Li), alikes as_ bs = true → as_.length = bs.length
  | [], [], _ => rfl
  | [], _ :: _, h => by simp [alikes] at h
  | _ :: _, [], h => by simp [alikes] at h
  | a :: as_, b :: bs, h => by
    rw [alikes, Bool.and_eq_true] at h
    simp [alikes_length as_ bs h.2]

theorem FitL_zip {s : Th → Th} : ∀ (xs ys : List Th), FitL s xs ys ↔ ∀ p ∈ xs.zip ys, (if p.1.v = true then s p.1 else p.1) = p.2
  | [], _ => by simp [FitL]
  | _ :: _, [] => by simp [FitL]
  | x :: xs, y :: ys => by
    rw [FitL, FitL_zip xs ys, List.zip_cons_cons, List.forall_mem_cons]
theorem zip_num : ∀ (n m : Nat) (xs ys : List T) (p : T × T), p ∈ xs.zip ys → ∃ i j, (p.1.th i, p.2.th j) ∈ (num n xs).zip (num m ys) ∧ (0 < i ↔ p.1.nn = true) ∧ (0 < j ↔ p.2.nn = true)
  | _, _, [], _, p, h => by simp at h
  | _, _, _ :: _, [], p, h => by simp at h
  | n, m, x :: xs, y :: ys, p, h => by
    rw [List.zip_cons_cons] at h
    rw [num, num]
    rcases List.mem_cons.1 h with rfl | h
    · refine ⟨if x.nn = true then n + 1 else 0, if y.nn = true then m + 1 else 0, ?_, ?_, ?_⟩
      · by_cases h1 : x.nn = true <;> by_cases h2 : y.nn = true <;> simp [h1, h2]
      · by_cases h1 : x.nn = true <;> simp [h1]
      · by_cases h2 : y.nn = true <;> simp [h2]
    · by_cases h1 : x.nn = true
      · by_cases h2 : y.nn = true
        · obtain ⟨i, j, hm, r⟩ := zip_num (n + 1) (m + 1) xs ys p h
          exact ⟨i, j, by rw [if_pos h1, if_pos h2, List.zip_cons_cons]; exact List.mem_cons_of_mem _ hm, r⟩
        · obtain ⟨i, j, hm, r⟩ := zip_num (n + 1) m xs ys p h
          exact ⟨i, j, by rw [if_pos h1, if_neg h2, List.zip_cons_cons]; exact List.mem_cons_of_mem _ hm, r⟩
      · by_cases h2 : y.nn = true
        · obtain ⟨i, j, hm, r⟩ := zip_num n (m + 1) xs ys p h
          exact ⟨i, j, by rw [if_neg h1, if_pos h2, List.zip_cons_cons]; exact List.mem_cons_of_mem _ hm, r⟩
        · obtain ⟨i, j, hm, r⟩ := zip_num n m xs ys p h
          exact ⟨i, j, by rw [if_neg h1, if_neg h2, List.zip_cons_cons]; exact List.mem_cons_of_mem _ hm, r⟩
theorem num_zip : ∀ (n : Nat) (xs ys : List T) (p : Th × Th), (∀ q ∈ xs.zip ys, q.1.nn = q.2.nn) → p ∈ (num n xs).zip (num n ys) → ∃ q ∈ xs.zip ys, ∃ i, p = (q.1.th i, q.2.th i) ∧ (0 < i ↔ q.1.nn = true)
  | _, [], _, p, _, h => by simp [num] at h
  | n, x :: xs, [], p, _, h => by simp [num] at h
  | n, x :: xs, y :: ys, p, hq, h => by
    have h0 : x.nn = y.nn := hq (x, y) (by simp)
    have hq' : ∀ q ∈ xs.zip ys, q.1.nn = q.2.nn := fun q h => hq q (by rw [List.zip_cons_cons]; exact List.mem_cons_of_mem _ h)
    rw [num, num, ← h0] at h
    by_cases h1 : x.nn = true
    · rw [if_pos h1, if_pos h1, List.zip_cons_cons] at h
      rcases List.mem_cons.1 h with rfl | h
      · exact ⟨(x, y), by simp, n + 1, rfl, by simp [h1]⟩
      · obtain ⟨q, hq1, r⟩ := num_zip (n + 1) xs ys p hq' h
        exact ⟨q, by rw [List.zip_cons_cons]; exact List.mem_cons_of_mem _ hq1, r⟩
    · rw [if_neg h1, if_neg h1, List.zip_cons_cons] at h
      rcases List.mem_cons.1 h with rfl | h
      · exact ⟨(x, y), by simp, 0, rfl, by simp [h1]⟩
      · obtain ⟨q, hq1, r⟩ := num_zip n xs ys p hq' h
        exact ⟨q, by rw [List.zip_cons_cons]; exact List.mem_cons_of_mem _ hq1, r⟩

theorem zip_fst_mem {α β : Type} : ∀ (xs : List α) (ys : List β) (x : α), xs.length = ys.length → x ∈ xs → ∃ y, (x, y) ∈ xs.zip ys
  | [], _, _, _, h => by cases h
  | _ :: _, [], _, h, _ => by simp at h
  | a :: xs, b :: ys, x, hl, h => by
    rcases List.mem_cons.1 h with rfl | h
    · exact ⟨b, by simp⟩
    · obtain ⟨y, hy⟩ := zip_fst_mem xs ys x (by simpa using hl) h
      exact ⟨y, by rw [List.zip_cons_cons]; exact List.mem_cons_of_mem _ hy⟩
theorem zip_swap_mem {α β : Type} : ∀ (xs : List α) (ys : List β) (p : β × α), p ∈ ys.zip xs → (p.2, p.1) ∈ xs.zip ys
  | [], _, p, h => by simp at h
  | _ :: _, [], p, h => by simp at h
  | a :: xs, b :: ys, p, h => by
    rw [List.zip_cons_cons] at h ⊢
    rcases List.mem_cons.1 h with rfl | h
    · simp
    · exact List.mem_cons_of_mem _ (zip_swap_mem xs ys p h)

/-- A valuation out of pairs. -/
noncomputable def outOf (Z : List (T × T)) (x : Th) : Th :=
  if 0 < x.own then x else ((Z.find? fun p => named2 p.1 p.2 && decide (p.1.t = x.t)).map fun p => p.2.th 0).getD x
theorem outOf_fit {X Y : List T} (hY : ∀ t ∈ Y, t.k = 4 → t.i = 0) (h : Sem (X.zip Y)) : FitL (outOf (X.zip Y)) (num 0 X) (num 0 Y) := by
  have hnn : ∀ q ∈ X.zip Y, q.1.nn = q.2.nn := fun q hq => by
    cases hn : named2 q.1 q.2 with
    | true => obtain ⟨_, _, h1, h2⟩ := named2_iff.1 hn; rw [h1, h2]
    | false => exact like_nn (h.1 q hq hn)
  rw [FitL_zip]
  intro p hp
  obtain ⟨q, hq, i, rfl, hi⟩ := num_zip 0 X Y p hnn hp
  dsimp only
  cases hn : named2 q.1 q.2 with
  | false =>
    obtain ⟨l1, l2, l3⟩ := likeT_iff.1 (h.1 q hq hn)
    have e : q.1.th i = q.2.th i := by simp only [T.th, l1, l2, l3]
    by_cases hv : (q.1.th i).v = true
    · rw [if_pos hv]
      have h4 : q.1.k = 4 := of_decide_eq_true hv
      have hN : q.1.nn = true := by
        cases hq1 : q.1.nn with
        | true => rfl
        | false =>
          have := named2_iff.2 ⟨h4, l1 ▸ h4, hq1, (hnn q hq) ▸ hq1⟩
          rw [hn] at this; cases this
      unfold outOf
      rw [if_pos (by exact hi.2 hN)]; exact e
    · rw [if_neg hv]; exact e
  | true =>
    obtain ⟨h1, h2, h3, h4⟩ := named2_iff.1 hn
    obtain rfl : i = 0 := by
      rcases Nat.eq_zero_or_pos i with e | e
      · exact e
      · rw [hi.1 e] at h3; cases h3
    rw [if_pos (by simp [Th.v, T.th, h1])]
    unfold outOf
    rw [if_neg (by simp [T.th])]
    cases hf : (X.zip Y).find? fun p => named2 p.1 p.2 && decide (p.1.t = (q.1.th 0).t) with
    | none =>
      rw [List.find?_eq_none] at hf
      exact absurd (by simp [hn, T.th]) (hf q hq)
    | some r =>
      have g1 := List.find?_some hf
      have g2 := List.mem_of_find?_eq_some hf
      rw [Bool.and_eq_true, decide_eq_true_eq] at g1
      have g3 := (h.2 r g2 q hq g1.1 hn).1 g1.2
      obtain ⟨r1, r2, r3, r4⟩ := named2_iff.1 g1.1
      have iy : r.2.i = 0 := hY r.2 (List.of_mem_zip (show (r.1, r.2) ∈ X.zip Y from g2)).2 r2
      have iy' : q.2.i = 0 := hY q.2 (List.of_mem_zip (show (q.1, q.2) ∈ X.zip Y from hq)).2 h2
      show r.2.th 0 = q.2.th 0
      simp only [T.th, r2, h2, iy, iy', g3]
theorem Sem.swap {X Y : List T} (h : Sem (X.zip Y)) : Sem (Y.zip X) := by
  have hs : ∀ x y, named2 x y = named2 y x := fun x y => by
    rw [Bool.eq_iff_iff, named2_iff, named2_iff]
    constructor
    · rintro ⟨a, b, c, d⟩; exact ⟨b, a, d, c⟩
    · rintro ⟨a, b, c, d⟩; exact ⟨b, a, d, c⟩
  refine ⟨fun p hp hn => ?_, fun p hp q hq hn hn' => ?_⟩
  · have := h.1 _ (zip_swap_mem X Y p hp) (by rw [hs]; exact hn)
    obtain ⟨a, b, c⟩ := likeT_iff.1 this
    exact likeT_iff.2 ⟨a.symm, b.symm, c.symm⟩
  · exact (h.2 _ (zip_swap_mem X Y p hp) _ (zip_swap_mem X Y q hq) (by rw [hs]; exact hn) (by rw [hs]; exact hn')).symm

theorem Sem_iff {X Y : List T} (hl : X.length = Y.length) (hX : ∀ t ∈ X, t.k = 4 → t.i = 0) (hY : ∀ t ∈ Y, t.k = 4 → t.i = 0) :
    Sem (X.zip Y) ↔ ∃ s u, FitL s (num 0 X) (num 0 Y) ∧ FitL u (num 0 Y) (num 0 X) ∧ ∀ x : Th, x.v = true → x ∈ num 0 X → namedB (x, s x) = true := by
  constructor
  · intro h
    refine ⟨_, _, outOf_fit hY h, outOf_fit hX h.swap, fun x hv hx => ?_⟩
    obtain ⟨y, hy⟩ := zip_fst_mem (num 0 X) (num 0 Y) x (by rw [num_length, num_length]; exact hl) hx
    have hf := (FitL_zip _ _).1 (outOf_fit hY h) _ hy
    dsimp only at hf
    rw [if_pos hv] at hf
    have hnn : ∀ q ∈ X.zip Y, q.1.nn = q.2.nn := fun q hq => by
      cases hn : named2 q.1 q.2 with
      | true => obtain ⟨_, _, h1, h2⟩ := named2_iff.1 hn; rw [h1, h2]
      | false => exact like_nn (h.1 q hq hn)
    obtain ⟨q, hq, i, e, hi⟩ := num_zip 0 X Y _ hnn hy
    injection e with e1 e2
    rw [hf]
    subst e1 e2
    have h4 : q.1.k = 4 := of_decide_eq_true hv
    have : q.2.k = 4 := by
      cases hn : named2 q.1 q.2 with
      | true => exact (named2_iff.1 hn).2.1
      | false => rw [← (likeT_iff.1 (h.1 q hq hn)).1]; exact h4
    show (decide (q.2.k = 4) && (decide (0 < i) == decide (0 < i))) = true
    rw [decide_eq_true this, beq_self_eq_true]; rfl
  · rintro ⟨s, u, h1, h2, h3⟩
    rw [FitL_zip] at h1 h2
    have key : ∀ p ∈ X.zip Y, ∃ i j, (0 < i ↔ p.1.nn = true) ∧ (0 < j ↔ p.2.nn = true) ∧ (if (p.1.th i).v = true then s (p.1.th i) else p.1.th i) = p.2.th j ∧ (if (p.2.th j).v = true then u (p.2.th j) else p.2.th j) = p.1.th i
        ∧ ((p.1.th i).v = true → namedB (p.1.th i, s (p.1.th i)) = true) := fun p hp => by
      obtain ⟨i, j, hm, hi, hj⟩ := zip_num 0 0 X Y p hp
      have hm' := zip_swap_mem (num 0 Y) (num 0 X) _ hm
      exact ⟨i, j, hi, hj, h1 _ hm, h2 _ hm', fun hv => h3 _ hv (List.of_mem_zip hm).1⟩
    refine ⟨fun p hp hn => ?_, fun p hp q hq hn hn' => ?_⟩
    · obtain ⟨i, j, hi, hj, e1, e2, e3⟩ := key p hp
      by_cases hv : (p.1.th i).v = true
      · rw [if_pos hv] at e1
        have hb := e3 hv
        rw [e1] at hb
        unfold namedB at hb
        rw [Bool.and_eq_true, decide_eq_true_eq, beq_iff_eq] at hb
        have k1 : p.1.k = 4 := of_decide_eq_true hv
        have k2 : p.2.k = 4 := hb.1
        have own : decide (0 < i) = decide (0 < j) := hb.2
        cases n1 : p.1.nn with
        | false =>
          have n2 : p.2.nn = false := by
            cases n2 : p.2.nn with
            | false => rfl
            | true =>
              have a := hj.2 n2
              rw [decide_eq_true a] at own
              have := hi.1 (of_decide_eq_true own)
              rw [n1] at this; cases this
          rw [named2_iff.2 ⟨k1, k2, n1, n2⟩] at hn; cases hn
        | true =>
          have a := hi.2 n1
          rw [decide_eq_true a] at own
          have n2 := hj.1 (of_decide_eq_true own.symm)
          have m1 := (List.of_mem_zip (show (p.1, p.2) ∈ X.zip Y from hp)).1
          have m2 := (List.of_mem_zip (show (p.1, p.2) ∈ X.zip Y from hp)).2
          exact likeT_iff.2 ⟨by rw [k1, k2], by rw [hX _ m1 k1, hY _ m2 k2], by rw [nn_t n1, nn_t n2]⟩
      · rw [if_neg hv] at e1
        simp only [T.th, Th.mk.injEq] at e1
        exact likeT_iff.2 ⟨e1.1, e1.2.1, e1.2.2.1⟩
    · obtain ⟨i, j, hi, hj, e1, e2, _⟩ := key p hp
      obtain ⟨i', j', hi', hj', f1, f2, _⟩ := key q hq
      obtain ⟨a1, a2, a3, a4⟩ := named2_iff.1 hn
      obtain ⟨b1, b2, b3, b4⟩ := named2_iff.1 hn'
      have z : ∀ {i : Nat} {x : T}, (0 < i ↔ x.nn = true) → x.nn = false → i = 0 := fun {i x} h h' => by
        rcases Nat.eq_zero_or_pos i with e | e
        · exact e
        · rw [h.1 e] at h'; cases h'
      obtain rfl := z hi a3
      obtain rfl := z hj a4
      obtain rfl := z hi' b3
      obtain rfl := z hj' b4
      have m := List.of_mem_zip (show (p.1, p.2) ∈ X.zip Y from hp)
      have m' := List.of_mem_zip (show (q.1, q.2) ∈ X.zip Y from hq)
      rw [if_pos (by simp [Th.v, T.th, a1])] at e1
      rw [if_pos (by simp [Th.v, T.th, a2])] at e2
      rw [if_pos (by simp [Th.v, T.th, b1])] at f1
      rw [if_pos (by simp [Th.v, T.th, b2])] at f2
      constructor
      · intro e
        have : p.1.th 0 = q.1.th 0 := by simp only [T.th, a1, b1, hX _ m.1 a1, hX _ m'.1 b1, e]
        rw [this, f1] at e1
        simp only [T.th, Th.mk.injEq] at e1
        exact e1.2.2.1.symm
      · intro e
        have : p.2.th 0 = q.2.th 0 := by simp only [T.th, a2, b2, hY _ m.2 a2, hY _ m'.2 b2, e]
        rw [this, f2] at e2
        simp only [T.th, Th.mk.injEq] at e2
        exact e2.2.2.1.symm

theorem tot_good {a : Cl} (h : a.good) : ∀ t ∈ a.tot, t.k = 4 → t.i = 0 := by
  intro t ht
  rcases List.mem_append.1 ht with ht | ht
  · exact h.1 t ht
  · obtain ⟨l, hl, ht⟩ := List.mem_flatMap.1 ht
    exact (h.2 l hl).2.2 t ht
theorem alikes_tot : ∀ (as_ bs : List Li), alikes as_ bs = true → (as_.flatMap Li.terms).length = (bs.flatMap Li.terms).length
  | [], [], _ => rfl
  | [], _ :: _, h => by simp [alikes] at h
  | _ :: _, [], h => by simp [alikes] at h
  | a :: as_, b :: bs, h => by
    rw [alikes, Bool.and_eq_true] at h
    have := h.1
    unfold likeL at this
    simp only [Bool.and_eq_true, decide_eq_true_eq] at this
    rw [List.flatMap_cons, List.flatMap_cons, List.length_append, List.length_append, alikes_tot as_ bs h.2, this.2.2.2]

/-- The program's answer is the document's, whichever clause comes first there. -/
theorem again_same {a b : Cl} (ha : a.good) (hb : b.good) : againP a b = againR b a := by
  rw [Bool.eq_iff_iff, againR_iff]
  unfold againP
  by_cases hc : a.h.p ≠ b.h.p ∨ a.h.es.length ≠ b.h.es.length ∨ alikes a.ls b.ls = false
  · rw [if_pos hc]
    refine ⟨fun h => (by cases h), ?_⟩
    rintro ⟨hlen, s, u, h1, h2, _⟩
    have pl : ∀ (n : Nat) (ls : List Li), (pairL n ls).length = ls.length := by
      intro n ls
      induction ls generalizing n with
      | nil => rfl
      | cons l ls ih => simp [pairL, ih]
    have h3 := ((AllFit_iff _ _ (by simp [bodyPts, pl, hlen])).1 h2).1
    obtain ⟨⟨_, m1, _, m2⟩, m3⟩ := h3
    have m3 := (AllMeet_alikes _ _ a.ls b.ls ha.2 hb.2).1 m3
    simp only [headPt, num_length] at m1 m2
    rcases hc with hc | hc | hc
    · exact absurd m1 hc
    · exact absurd m2 hc
    · rw [m3] at hc; cases hc
  · rw [if_neg hc]
    have h1 : a.h.p = b.h.p := Classical.not_not.1 fun h => hc (.inl h)
    have h2 : a.h.es.length = b.h.es.length := Classical.not_not.1 fun h => hc (.inr (.inl h))
    have h3 : alikes a.ls b.ls = true := by
      cases e : alikes a.ls b.ls with
      | true => rfl
      | false => exact absurd (.inr (.inr e)) hc
    have hlen := alikes_length _ _ h3
    have htl : a.tot.length = b.tot.length := by
      unfold Cl.tot
      rw [List.length_append, List.length_append, h2, alikes_tot _ _ h3]
    rw [places_iff a.tot b.tot [] [] 0 [] Placed.start ⟨(fun _ h => nomatch h), (fun _ h => nomatch h)⟩, List.nil_append]
    have pl : ∀ (n : Nat) (ls : List Li), (pairL n ls).length = ls.length := by
      intro n ls
      induction ls generalizing n with
      | nil => rfl
      | cons l ls ih => simp [pairL, ih]
    have hM : AllMeet (headPt a :: bodyPts a) (headPt b :: bodyPts b) := by
      refine ⟨⟨rfl, h1, rfl, by simp only [headPt, num_length]; exact h2⟩, ?_⟩
      exact (AllMeet_alikes _ _ a.ls b.ls ha.2 hb.2).2 h3
    have hM' := AllMeet_swap _ _ hM
    have l1 : (headPt a :: bodyPts a).length = (headPt b :: bodyPts b).length := by simp [bodyPts, pl, hlen]
    constructor
    · intro h
      obtain ⟨s, u, f1, f2, f3⟩ := (Sem_iff htl.symm (tot_good hb) (tot_good ha)).1 h.swap
      refine ⟨hlen.symm, s, u, (AllFit_iff _ _ l1.symm).2 ⟨hM', by rw [clause_ths, clause_ths]; exact f1⟩, (AllFit_iff _ _ l1).2 ⟨hM, by rw [clause_ths, clause_ths]; exact f2⟩, fun x hv hx => f3 x hv ?_⟩
      rw [← clause_ths]
      exact List.mem_flatMap.2 hx
    · rintro ⟨_, s, u, f1, f2, f3⟩
      have g1 := ((AllFit_iff _ _ l1.symm).1 f1).2
      have g2 := ((AllFit_iff _ _ l1).1 f2).2
      rw [clause_ths, clause_ths] at g1 g2
      refine ((Sem_iff htl.symm (tot_good hb) (tot_good ha)).2 ⟨s, u, g1, g2, fun x hv hx => f3 x hv ?_⟩).swap
      rw [← clause_ths] at hx
      exact List.mem_flatMap.1 hx
end Go.Proofs.Ytjcgkplphiedjaa

namespace Go.Proofs.Ytjcgkplphiedjaa
open Go.RowKit Go.Maps Go.WideMaps

theorem nameKey : Keyed Try.prog 9 := string_keyed Try.underlying9

def heldE (v : Value) : Option (DataW Value × List MemPlace) := some (.held v, [])
/-- A map that holds f's values. -/
def Mp (w : World) (b k : Nat) (f : ByteArray → Option Value) : Prop :=
  ∃ D : DataW Value, w.ownsMap Try.prog 9 heldE b k D ∧ IsMap D ∧ ∀ (s : ByteArray) (z : DataW Value), D.atKey (.string s.data.toList) z = ((f s).map DataW.held).getD z
theorem Mp.of_block {w w' : World} {b k : Nat} {f : ByteArray → Option Value} (h : Mp w b k f) (e : w'.heap[b]? = w.heap[b]?) : Mp w' b k f := by
  obtain ⟨D, ⟨es, clock, h1, h2⟩, h3⟩ := h
  exact ⟨D, ⟨es, clock, e.trans h1, h2⟩, h3⟩
theorem Mp.congr {w : World} {b k : Nat} {f g : ByteArray → Option Value} (h : Mp w b k f) (e : ∀ s, f s = g s) : Mp w b k g := by
  obtain rfl : f = g := funext e
  exact h
theorem Mp.mono {w : World} {b k k' : Nat} {f : ByteArray → Option Value} (h : Mp w b k f) (e : k ≤ k') : Mp w b k' f := by
  obtain ⟨D, h1, h2⟩ := h
  exact ⟨D, h1.mono e, h2⟩
theorem Mp.lt {w : World} {b k : Nat} {f : ByteArray → Option Value} (h : Mp w b k f) : b < w.heap.size := by
  obtain ⟨D, h1, _⟩ := h
  exact h1.lt
theorem Mp.alloc {w : World} {b k : Nat} {f : ByteArray → Option Value} (h : Mp w b k f) (o : Obj) : Mp (w.alloc o) b k f := h.of_block (Below.heap_alloc w o b h.lt)
theorem Mp.below {w w' : World} {b k B : Nat} {f : ByteArray → Option Value} (h : Mp w b k f) (hb : Below B w w') (hB : b < B) : Mp w' b k f := h.of_block (hb.block b hB)
theorem Mp.far {w : World} {b k : Nat} {f : ByteArray → Option Value} (h : Mp w b k f) {p : Addr} (hp : b ≠ p.block) (u : Value) : Mp (w.setCell p u) b k f := h.of_block (Below.heap_setCell w p u b hp)
theorem Mp.ne {w : World} {b k base e size n : Nat} {f : ByteArray → Option Value} {v : Value} {xs : List Value} (h : Mp w b k f) (ho : w.ownsRow base e size v n xs) : some b ≠ v.ownBlock := by
  obtain ⟨D, ⟨es, clock, h1, _⟩, _⟩ := h
  rcases ho.2 with ⟨rfl, _⟩ | ⟨g', cap, cur, rfl, _, hh, _⟩
  · simp [Value.ownBlock]
  · intro he
    simp only [Value.ownBlock, Option.some.injEq] at he
    subst he
    rw [h1] at hh
    simp at hh
theorem Mp.grown {w w' : World} {b k : Nat} {f : ByteArray → Option Value} {row : Option Nat} (h : Mp w b k f) (hg : w.grownBy w' row) (hne : some b ≠ row) : Mp w' b k f := h.of_block (hg.block b h.lt hne)
theorem Mp.blk_ne {w : World} {b k g : Nat} {t : TypeId} {cs : List Value} {f : ByteArray → Option Value} (h : Mp w b k f) (hg : Blk w g t cs) : b ≠ g := by
  intro e
  subst e
  obtain ⟨D, ⟨es, clock, h1, _⟩, _⟩ := h
  unfold Blk at hg
  rw [h1] at hg
  simp at hg
theorem Mp.made (w : World) : Mp (w.alloc (.map #[] 0)) w.heap.size 0 (fun _ => none) :=
  ⟨_, World.ownsMap_made w Try.prog 9 _, isMap_empty, fun _ _ => rfl⟩

theorem mp_lookup {w : World} {b k : Nat} {f : ByteArray → Option Value} (h : Mp w b k f) {t e : TypeId} (ht : Try.prog.underlying t = some (.map 9 e)) {z : Value} (hz : (zeroValue e).run Try.prog w = .ok z w) (s : ByteArray) (hs : s.size ≤ maxLen) :
    (Instr.lookup t (.map (some b)) (.string s) false).run Try.prog w = .ok ((f s).getD z) w := by
  obtain ⟨D, h1, h2, h3⟩ := h
  obtain ⟨v, ps, hrun, hv⟩ := h1.lookup nameKey ht hz (R := heldE) (zd := .held z) (zp := []) rfl (keyOf_string_mk Try.underlying9 hs)
  rw [hrun]
  rw [h3 s] at hv
  unfold heldE at hv
  simp only [Option.some.injEq, Prod.mk.injEq] at hv
  cases hf : f s with
  | none => rw [hf] at hv; simp only [Option.map_none, Option.getD_none, DataW.held.injEq] at hv; rw [hv.1]; rfl
  | some u => rw [hf] at hv; simp only [Option.map_some, Option.getD_some, DataW.held.injEq] at hv; rw [hv.1]; rfl
theorem mp_lookup_ok {w : World} {b k : Nat} {f : ByteArray → Option Value} (h : Mp w b k f) {t e : TypeId} (ht : Try.prog.underlying t = some (.map 9 e)) {z : Value} (hz : (zeroValue e).run Try.prog w = .ok z w) (s : ByteArray) (hs : s.size ≤ maxLen) :
    (Instr.lookup t (.map (some b)) (.string s) true).run Try.prog w = .ok (.tuple #[(f s).getD z, .bool (f s).isSome]) w := by
  obtain ⟨D, h1, h2, h3⟩ := h
  obtain ⟨v, ps, hrun, hv⟩ := h1.look_ok nameKey ht hz (R := heldE) (zd := .held z) (zp := []) rfl (keyOf_string_mk Try.underlying9 hs)
  rw [hrun]
  rw [h3 s] at hv
  unfold heldE at hv
  simp only [Option.some.injEq, Prod.mk.injEq] at hv
  cases hf : f s with
  | none =>
    rw [hf] at hv
    simp only [Option.map_none, Option.getD_none, DataW.held.injEq] at hv
    rw [hv.1, has_false_of_atKey (k := .string s.data.toList) (D := D) (fun z => by rw [h3 s, hf]; rfl)]; rfl
  | some u =>
    rw [hf] at hv
    simp only [Option.map_some, Option.getD_some, DataW.held.injEq] at hv
    rw [hv.1, has_true_of_atKey (k := .string s.data.toList) (D := D) (y := .held u) (fun z => by rw [h3 s, hf]; rfl)]; rfl

theorem lit_ne {s s' : ByteArray} (e : s' ≠ s) : Lit.string s'.data.toList ≠ Lit.string s.data.toList := by
  intro he
  injection he with he
  exact e (toList_inj (by rw [ByteArray.toList_eq, ByteArray.toList_eq]; exact he))

theorem wpList_update_mp {w : World} {ops : Array Oper} {rest : List Oper} {o : Oper} {a : Act} {Q : Exit → Act → World → Prop} (hg : o.guard = none) (m x v : Operand) (t e : TypeId) (hop : o.op = Op.mapUpdate t m x v)
    (ht : Try.prog.underlying t = some (.map 9 e)) (b n : Nat) (f : ByteArray → Option Value) (hm : a.eval m = .map (some b)) (h : Mp w b n f) (hn : n < maxLen) (s : ByteArray) (hx : a.eval x = .string s) (hs : s.size ≤ maxLen) (u : Value) (hv : a.eval v = u)
    (hK : ∀ w', Mp w' b (n + 1) (fun s' => if s' = s then some u else f s') → w.grownBy w' (some b) → wpList Try.prog ops Q rest (a.put o.dst undef) w') : wpList Try.prog ops Q (o :: rest) a w := by
  obtain ⟨D, h1, h2, h3⟩ := h
  refine wpList_mapUpdate_own w hg m x v t hop 9 e nameKey ht heldE b n D hm h1 hn _ _ _ hx hv (keyOf_string_mk Try.underlying9 hs) (.held u) [] rfl ?_
  intro w' h4 h5
  refine hK w' ⟨_, h4, h2.put _ _, fun s' z => ?_⟩ h5
  by_cases e : s' = s
  · subst e
    rw [atKey_put_same h2 (nameKey.key (keyOf_string_mk Try.underlying9 hs))]; dsimp only; rw [if_pos rfl]; rfl
  · rw [atKey_put_other (lit_ne e), h3 s']; dsimp only; rw [if_neg e]

theorem wpList_delete_mp {w : World} {ops : Array Oper} {rest : List Oper} {o : Oper} {a : Act} {Q : Exit → Act → World → Prop} (hg : o.guard = none) (m x : Operand) (t e : TypeId)
    (hop : o.op = Op.call { callee := Callee.builtin Builtin.delete, args := #[m, x], argTypes := #[t, 9] })
    (ht : Try.prog.underlying t = some (.map 9 e)) (b n : Nat) (f : ByteArray → Option Value) (hm : a.eval m = .map (some b)) (h : Mp w b n f) (s : ByteArray) (hx : a.eval x = .string s) (hs : s.size ≤ maxLen)
    (hK : ∀ w', Mp w' b n (fun s' => if s' = s then none else f s') → w.mapTurned w' b → wpList Try.prog ops Q rest (a.put o.dst (.tuple #[])) w') : wpList Try.prog ops Q (o :: rest) a w := by
  obtain ⟨D, h1, h2, h3⟩ := h
  refine wpList_delete_own w hg m x t 9 hop e nameKey ht heldE b n D hm h1 _ _ hx (keyOf_string_mk Try.underlying9 hs) ?_
  intro w' h4 h5
  refine hK w' ⟨_, h4, h2.del _, fun s' z => ?_⟩ h5
  by_cases e : s' = s
  · subst e
    rw [atKey_del_same]; dsimp only; rw [if_pos rfl]; rfl
  · rw [atKey_del_other (lit_ne e), h3 s']; dsimp only; rw [if_neg e]
end Go.Proofs.Ytjcgkplphiedjaa
