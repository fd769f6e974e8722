/- A region that draws its order: operations that only read (whatever is written beside them does not touch what they read) are taken first, in one order; the few that write come behind them, in the order that their edges force. -/
import Derived.Test.YtjcgkplphiedjaaDoorRows
import Derived.WalkKit
import Derived.Deep.QuietTactic
import Derived.BigQuiet
import Derived.OrdersHeld
namespace Go.Proofs.YtjcgkplphiedjaaDoorT
open Go.RowKit

section
variable {P : Program} {ops : Array Oper} {Q : Exit → Act → World → Prop} {md : Region.Mode} {C : World → Prop}

/-- An operation that yields a value and leaves the world alone, or halts. -/
def calm (o : Oper) : Bool :=
  match o.op with
  | .move _ | .assign _ | .pick .. | .load .. | .binOp .. | .unOp .. | .convert .. | .fieldAddr .. | .field .. | .indexAddr .. | .index .. | .slice .. | .extract .. => true
  | .nilCheck _ => true
  | .call { callee := .builtin .len, .. } | .call { callee := .builtin .min, .. } | .call { callee := .builtin .max, .. } | .call { callee := .builtin .cap, .. } => true
  | _ => false

def isValue : Result Next → Prop
  | .ok (.value _) _ => True
  | .ok _ _ => False
  | .halt _ _ => True

theorem isValue_bind (s : Sem Value) (w : World) : isValue ((do pure (.value (← s)) : Sem Next).run P w) := by
  simp only [Sem.run_bind]
  generalize s.run P w = r
  cases r with
  | ok v w' => exact trivial
  | halt h w' => exact trivial

theorem calm_value {o : Oper} (h : calm o = true) (ρ : Operand → Value) (w : World) : isValue ((execOp ρ o).run P w) := by
  obtain ⟨dst, op, type, pos, after, guard⟩ := o
  unfold execOp
  cases op with
  | move x => exact trivial
  | assign x => exact trivial
  | pick c a b =>
    simp only [Sem.run_bind]
    generalize (asBool (ρ c)).run P w = r
    cases r with
    | ok v w' => exact trivial
    | halt h w' => exact trivial
  | load t a => exact isValue_bind _ w
  | binOp => exact isValue_bind _ w
  | unOp => exact isValue_bind _ w
  | convert => exact isValue_bind _ w
  | fieldAddr => exact isValue_bind _ w
  | field => exact isValue_bind _ w
  | indexAddr => exact isValue_bind _ w
  | index => exact isValue_bind _ w
  | slice => exact isValue_bind _ w
  | extract => exact isValue_bind _ w
  | nilCheck x =>
    have hp : ∃ h w', (runtimePanic (α := Next) .nilDeref).run P w = .halt h w' := ⟨_, _, rfl⟩
    obtain ⟨ph, pw, hp⟩ := hp
    simp only
    generalize ρ x = v
    cases v with
    | pointer a => cases a with
      | none => simp only; rw [hp]; exact trivial
      | some a => exact trivial
    | nilIface => simp only; rw [hp]; exact trivial
    | nilFunc => simp only; rw [hp]; exact trivial
    | func fn first captured =>
      cases fn with
      | method name =>
        simp only
        split
        · rw [hp]; exact trivial
        · simp only [Sem.run_bind]
          generalize Sem.run P _ w = r1
          cases r1 with
          | halt h w' => exact trivial
          | ok p w1 =>
            simp only [Result.andThen_ok]
            generalize Sem.run P _ w1 = r2
            cases r2 with
            | halt h w' => exact trivial
            | ok b w2 =>
              simp only [Result.andThen_ok]
              split <;> exact trivial
        · exact trivial
      | _ => exact trivial
    | _ => exact trivial
  | call c =>
    obtain ⟨callee, args, argTypes⟩ := c
    cases callee with
    | builtin b =>
      simp only [Sem.run_bind, resolve, Sem.run_pure, Result.andThen_ok, invoke]
      cases b with
      | len => exact isValue_bind _ w
      | min => exact isValue_bind _ w
      | max => exact isValue_bind _ w
      | cap => exact isValue_bind _ w
      | _ => simp [calm] at h
    | _ => simp [calm] at h
  | _ => simp [calm] at h

/-- A calm operation that is quiet in the class yields its value in every world of the class. -/
theorem yields_of_quietAt {o : Oper} {a : Act} {v : Value} (hc : calm o = true) (hw : Region.wanted o (yielded ops a.tmps) = true) (h : ∀ w, C w → o.quietAt P a C w v) : YieldsIf P ops C o v a := by
  refine .inl ⟨hw, fun w hC => ?_⟩
  have h1 := h w hC
  have h2 := calm_value (P := P) hc a.eval w
  unfold Oper.quietAt at h1
  generalize (execOp a.eval o).run P w = r at h1 h2
  cases r with
  | halt x w' => simp only [Oper.quietUpon] at h1
  | ok x w' =>
    cases x with
    | value u =>
      simp only [Oper.quietUpon] at h1
      rw [h1.1, h1.2]
    | _ => simp [isValue] at h2

/-- Whatever order is picked from here on; behind the operations of 'nd' the world is of the class. -/
def wpN (P : Program) (md : Region.Mode) (ops : Array Oper) (Q : Exit → Act → World → Prop) (C : World → Prop) (nd : Nat → Bool) : Nat → Array Bool → Act → World → Prop
  | 0, listed, a, w => Region.ready md ops listed = [] ∧ Q .normal a w
  | fuel + 1, listed, a, w =>
    (Region.ready md ops listed = [] → Q .normal a w) ∧
    ∀ i ∈ Region.ready md ops listed, wpOp P ops Q i (fun a' w' => (nd i = true → C w') ∧ wpN P md ops Q C nd fuel (listed.setIfInBounds i true) a' w') a w

theorem wpN_any {nd : Nat → Bool} : ∀ (fuel : Nat) (listed : Array Bool) (a : Act) (w : World), wpN P md ops Q C nd fuel listed a w → wpAny P md ops Q fuel listed a w
  | 0, _, _, _, h => h
  | fuel + 1, _, _, _, h => ⟨h.1, fun i hi => wpOp_mono (fun a' w' h' => wpN_any fuel _ a' w' h'.2) (h.2 i hi)⟩

/-- Does every operation that is not in 'nd' wait for number i? -/
def waited (md : Region.Mode) (ops : Array Oper) (nd : Nat → Bool) (i : Nat) : Bool :=
  (List.range ops.size).all fun j => nd j || (match ops[j]? with | some oj => oj.after.any (fun e => Region.binds md e && e.on == i) | none => true)

theorem wpN_first {nd : Nat → Bool} {i : Nat} {oi : Oper} {v : Value} (hi : ops[i]? = some oi) (hs : Region.noSelect ops = true)
    (hQ : ∀ c a d v w, Q (.panic c) (Act.put a d v) w → Q (.panic c) a w) (hw : waited md ops nd i = true) :
    ∀ (fuel : Nat) (listed : Array Bool) (a : Act) (w : World),
      (∀ j oj, ops[j]? = some oj → j ≠ i → listed.getD j true = false → (∀ e ∈ oj.after, Region.binds md e = true → e.on ≠ i) → oi.apart ops oj = true) →
      i ∈ Region.ready md ops listed → YieldsIf P ops C oi v a → C w →
      wpN P md ops Q C nd fuel (listed.setIfInBounds i true) (a.put oi.dst v) w → wpN P md ops Q C nd (fuel + 1) listed a w := by
  have hsel := Region.noSelect_spec hs
  intro fuel
  induction fuel with
  | zero =>
    intro listed a w _ hr hy hC H
    refine ⟨fun h => (by rw [h] at hr; cases hr), fun j hj => ?_⟩
    by_cases hji : j = i
    · subst hji; exact hy.wpOp hi hC ⟨fun _ => hC, H⟩
    · have := ready_mono hj hji
      rw [H.1] at this
      cases this
  | succ fuel ih =>
    intro listed a w hfree hr hy hC H
    refine ⟨fun h => (by rw [h] at hr; cases hr), fun j hj => ?_⟩
    by_cases hji : j = i
    · subst hji; exact hy.wpOp hi hC ⟨fun _ => hC, H⟩
    · have h1 := H.2 j (ready_mono hj hji)
      obtain ⟨hjun, oj, hoj, hall⟩ := mem_ready.1 hj
      have hnot : ∀ e ∈ oj.after, Region.binds md e = true → e.on ≠ i := fun e he hb heq => by
        have h1 := hall e he hb
        have h0 := (mem_ready.1 hr).1
        rw [heq] at h1
        rcases Nat.lt_or_ge i listed.size with h' | h'
        · simp [h'] at h0 h1; rw [h0] at h1; cases h1
        · simp [Array.getElem?_eq_none h'] at h1
      have hndj : nd j = true := by
        unfold waited at hw
        rw [List.all_eq_true] at hw
        have hjs : j < ops.size := (Array.getElem?_eq_some_iff.1 hoj).1
        have := hw j (List.mem_range.2 hjs)
        simp only [hoj, Bool.or_eq_true] at this
        rcases this with h | h
        · exact h
        · rw [Array.any_eq_true'] at h
          obtain ⟨e, he, h⟩ := h
          simp only [Bool.and_eq_true, beq_iff_eq] at h
          exact absurd h.2 (hnot e he h.1)
      have h2 := wpOp_putIf hoj (hfree j oj hoj hji hjun hnot) (fun cs b => hsel i oi cs b hi) (fun cs b => hsel j oj cs b hoj) (fun c a w => hQ c a _ _ w) hy h1
      have hfree' : ∀ k ok, ops[k]? = some ok → k ≠ i → (listed.setIfInBounds j true).getD k true = false →
          (∀ e ∈ ok.after, Region.binds md e = true → e.on ≠ i) → oi.apart ops ok = true := fun k ok hk hki hun hno => by
        refine hfree k ok hk hki ?_ hno
        by_cases hjk : j = k
        · subst hjk; exact hjun
        · rw [getD_set_ne true hjk] at hun; exact hun
      refine wpOp_mono (fun a' w' h3 => ⟨h3.2.1, ih (listed.setIfInBounds j true) a' w' hfree' (ready_mono hr (Ne.symm hji)) h3.1 (h3.2.1 hndj) ?_⟩) h2
      rw [Array.setIfInBounds_comm _ _ hji]
      exact h3.2.2

/-- What follows the calm ones, in its forced order; each as a list of its own. -/
def wpTail (P : Program) (ops : Array Oper) (Q : Exit → Act → World → Prop) (C : World → Prop) : List (Oper × Bool) → Act → World → Prop
  | [], a, w => Q .normal a w
  | (o, b) :: rest, a, w => wpList P ops (fun e a' w' => match e with | .normal => (b = true → C w') ∧ wpTail P ops Q C rest a' w' | .panic c => Q (.panic c) a' w' | .outgrown => Q .outgrown a' w' | _ => False) [o] a w

def frontB (md : Region.Mode) (ops : Array Oper) (nd : Nat → Bool) : List Nat → Array Bool → Bool
  | [], _ => true
  | i :: rest, listed => (Region.ready md ops listed).contains i && Region.free md ops listed i && waited md ops nd i && ((ops[i]?).map calm).getD false && frontB md ops nd rest (listed.setIfInBounds i true)

def laterB (md : Region.Mode) (ops : Array Oper) : List Nat → Array Bool → Bool
  | [], listed => (Region.ready md ops listed).isEmpty
  | i :: rest, listed => Region.ready md ops listed == [i] && laterB md ops rest (listed.setIfInBounds i true)

def listAll : List Nat → Array Bool → Array Bool
  | [], l => l
  | i :: rest, l => listAll rest (l.setIfInBounds i true)

theorem wpN_tail {nd : Nat → Bool} : ∀ (T : List Nat) (l : List (Oper × Bool)) (listed : Array Bool) (a : Act) (w : World), l.map (fun p => some p.1) = T.map (fun i => ops[i]?) → l.map (·.2) = T.map nd →
    laterB md ops T listed = true → wpTail P ops Q C l a w → wpN P md ops Q C nd T.length listed a w
  | [], l, listed, a, w, h1, _, hB, h => by
    have : l = [] := by simpa using h1
    subst this
    exact ⟨by simpa [laterB] using hB, h⟩
  | i :: T, [], _, _, _, h1, _, _, _ => by simp at h1
  | i :: T, (o, b) :: l, listed, a, w, h1, h2, hB, h => by
    simp only [List.map_cons, List.cons.injEq] at h1 h2
    obtain ⟨ho, h1⟩ := h1
    obtain ⟨hb, h2⟩ := h2
    simp only [laterB, Bool.and_eq_true, beq_iff_eq] at hB
    obtain ⟨hr, hB⟩ := hB
    refine ⟨fun h0 => (by rw [hr] at h0; cases h0), fun j hj => ?_⟩
    rw [hr] at hj
    simp only [List.mem_singleton] at hj
    subst hj
    unfold wpOp
    simp only [← ho]
    unfold wpTail at h
    unfold wpList at h
    have hnext : ∀ a' w', (b = true → C w') ∧ wpTail P ops Q C l a' w' → (nd j = true → C w') ∧ wpN P md ops Q C nd T.length (listed.setIfInBounds j true) a' w' :=
      fun a' w' h' => ⟨fun hn => h'.1 (hb.trans hn), wpN_tail T l _ a' w' h1 h2 hB h'.2⟩
    by_cases hwt : Region.wanted o (yielded ops a.tmps) = true
    · rw [if_pos hwt] at h ⊢
      rcases h with h | ⟨ha, hl⟩
      · refine .inl ?_
        unfold Oper.wp at h ⊢
        generalize (execOp a.eval o).run P w = r at h
        cases r with
        | ok x w' =>
          cases x <;> simp only [Oper.upon, wpList] at h ⊢
          case value u => exact hnext _ _ h
          case skip => exact hnext _ _ h
          case defer d => exact hnext _ _ h
          case enter f args =>
            refine Calls.mono h fun e w'' he => ?_
            cases e with
            | returned u => exact hnext _ _ he
            | panicked c => exact he
            | outgrown =>
              obtain ⟨a1, w1, h1⟩ := he
              exact ⟨a1, w1, h1⟩
          case row row args => exact Rows.mono h fun u w'' he => hnext _ _ he
        | halt x w' =>
          cases x <;> simp only [Oper.upon] at h ⊢
          case panic u => exact h
      · refine .inr ⟨ha, ?_⟩
        obtain ⟨a1, w1, h1⟩ := hl
        exact ⟨a1, w1, h1⟩
    · rw [if_neg hwt] at h ⊢
      exact hnext _ _ h

theorem wpN_front {nd : Nat → Bool} (hs : Region.noSelect ops = true) (hQ : ∀ c a d v w, Q (.panic c) (Act.put a d v) w → Q (.panic c) a w) (k : Nat) :
    ∀ (F : List Nat) (l : List Oper) (listed : Array Bool) (a : Act) (w : World), l.map some = F.map (fun i => ops[i]?) → frontB md ops nd F listed = true → C w →
      wpQuiet P ops C (fun a' => wpN P md ops Q C nd k (listAll F listed) a' w) l a → wpN P md ops Q C nd (F.length + k) listed a w
  | [], l, listed, a, w, h1, _, _, h => by
    have : l = [] := by simpa using h1
    subst this
    have h' : wpN P md ops Q C nd k listed a w := h
    rw [List.length_nil, Nat.zero_add]; exact h'
  | i :: F, [], _, _, _, h1, _, _, _ => by simp at h1
  | i :: F, o :: l, listed, a, w, h1, hB, hC, h => by
    simp only [List.map_cons, List.cons.injEq] at h1
    obtain ⟨ho, h1⟩ := h1
    simp only [frontB, Bool.and_eq_true] at hB
    obtain ⟨⟨⟨⟨hr, hf⟩, hw⟩, hc⟩, hB⟩ := hB
    rw [← ho] at hc
    simp only [Option.map_some, Option.getD_some] at hc
    rw [List.length_cons, Nat.add_right_comm]
    have key : ∃ v, YieldsIf P ops C o v a ∧ wpQuiet P ops C (fun a' => wpN P md ops Q C nd k (listAll (i :: F) listed) a' w) l (a.put o.dst v) := by
      unfold wpQuiet at h
      by_cases hwt : Region.wanted o (yielded ops a.tmps) = true
      · rw [if_pos hwt] at h
        obtain ⟨v, hv, hn⟩ := h
        exact ⟨v, yields_of_quietAt hc hwt hv, hn⟩
      · rw [if_neg hwt] at h
        exact ⟨undef, .inr ⟨by simpa using hwt, rfl⟩, h⟩
    obtain ⟨v, hy, hn⟩ := key
    exact wpN_first ho.symm hs hQ hw (F.length + k) listed a w (Region.free_spec ho.symm hf) (by simpa using hr) hy hC (wpN_front hs hQ k F l _ _ w h1 hB hC hn)

/-- THE LAW: F: the numbers of those that only read, in an order that serves; T: the numbers of the others, in their forced order; nd: which of those may come up while one of F still waits (behind those the class must hold anew). -/
theorem wp_region_front (C : World → Prop) {id : Nat} {a : Act} {w : World} {l : List Oper} (F T : List Nat) (nd : Nat → Bool) (hm : P.follows .mixedOrders = true)
    (hQ : ∀ c a d v w, Q (.panic c) (Act.put a d v) w → Q (.panic c) a w)
    (hB : (Region.noSelect l.toArray && frontB .any l.toArray nd F (Array.replicate l.length false) && laterB .any l.toArray T (listAll F (Array.replicate l.length false)) && (F.length + T.length == l.length) && F.all (· < l.length) && T.all (· < l.length)) = true)
    (hC : C w.drew)
    (h : wpQuiet P l.toArray C (fun a' => wpTail P l.toArray Q C (T.map fun i => (l.getD i default, nd i)) a' w.drew) (F.map fun i => l.getD i default) a) : (Code.region id l.toArray true).wp P Q a w := by
  simp only [Bool.and_eq_true, beq_iff_eq] at hB
  obtain ⟨⟨⟨⟨⟨hs, hf⟩, ht⟩, hlen⟩, hF1⟩, hT1⟩ := hB
  have pick : ∀ G : List Nat, G.all (· < l.length) = true → (G.map fun i => some (l.getD i default)) = G.map fun i => l.toArray[i]? := by
    intro G hG
    apply List.map_congr_left
    intro i hi
    have := List.all_eq_true.1 hG i hi
    simp only [decide_eq_true_eq] at this
    simp [List.getD, this]
  refine wp_region_any hm (wpN_any _ _ _ _ (nd := nd) (C := C) ?_)
  have h2 := wpN_front (P := P) (Q := Q) (md := .any) (C := C) hs hQ T.length F (F.map fun i => l.getD i default) (Array.replicate l.length false) a w.drew (by rw [List.map_map]; exact pick F hF1) hf hC ?_
  · rw [hlen] at h2
    simpa using h2
  · have mono : ∀ (m : List Oper) (G G' : Act → Prop) (a : Act), (∀ a, G a → G' a) → wpQuiet P l.toArray C G m a → wpQuiet P l.toArray C G' m a := by
      intro m
      induction m with
      | nil => intro G G' a hg hh; exact hg a hh
      | cons o m ih =>
        intro G G' a hg hh
        unfold wpQuiet at hh ⊢
        split
        · rename_i hw; rw [if_pos hw] at hh; exact Oper.quiet_mono (fun a h => ih G G' a hg h) hh
        · rename_i hw; rw [if_neg hw] at hh; exact ih G G' _ hg hh
    exact mono _ _ _ a (fun a' h' => wpN_tail T _ _ a' _ (by rw [List.map_map]; exact pick T hT1) (by rw [List.map_map]; rfl) ht h') h

/-- What is asked behind one operation of the tail. -/
def tailQ (P : Program) (ops : Array Oper) (Q : Exit → Act → World → Prop) (C : World → Prop) (b : Bool) (rest : List (Oper × Bool)) : Exit → Act → World → Prop := fun e a' w' =>
  match e with | .normal => (b = true → C w') ∧ wpTail P ops Q C rest a' w' | .panic c => Q (.panic c) a' w' | .outgrown => Q .outgrown a' w' | _ => False
theorem wpTail_cons {o : Oper} {b : Bool} {rest : List (Oper × Bool)} {a : Act} {w : World} (h : wpList P ops (tailQ P ops Q C b rest) [o] a w) : wpTail P ops Q C ((o, b) :: rest) a w := h
theorem tailQ_normal {b : Bool} {rest : List (Oper × Bool)} {a : Act} {w : World} (h1 : b = true → C w) (h2 : wpTail P ops Q C rest a w) : tailQ P ops Q C b rest .normal a w := ⟨h1, h2⟩
theorem wpTail_nil {a : Act} {w : World} (h : Q .normal a w) : wpTail P ops Q C [] a w := h

/-- A world of the class, as a thing of its own (so that the walk's rules may speak of it). -/
structure WC (C : World → Prop) where
  w : World
  h : C w

/-- The same, the class said as the walk can use it: lay the facts as 'forall p : WC C, p.w.cell? .. = ..', and 'Nonempty (WC C)'. -/
theorem wp_region_front' (C : World → Prop) {id : Nat} {a : Act} {w : World} {l : List Oper} (F T : List Nat) (nd : Nat → Bool) (hm : P.follows .mixedOrders = true)
    (hQ : ∀ c a d v w, Q (.panic c) (Act.put a d v) w → Q (.panic c) a w)
    (hB : (Region.noSelect l.toArray && frontB .any l.toArray nd F (Array.replicate l.length false) && laterB .any l.toArray T (listAll F (Array.replicate l.length false)) && (F.length + T.length == l.length) && F.all (· < l.length) && T.all (· < l.length)) = true)
    (hC : C w.drew)
    (h : wpQuiet P l.toArray (fun w' => ∃ p : WC C, w' = p.w) (fun a' => wpTail P l.toArray Q C (T.map fun i => (l.getD i default, nd i)) a' w.drew) (F.map fun i => l.getD i default) a) : (Code.region id l.toArray true).wp P Q a w := by
  have e : (fun w' => ∃ p : WC C, w' = p.w) = C := by
    funext w'
    exact propext ⟨fun ⟨p, hp⟩ => hp ▸ p.h, fun h => ⟨⟨w', h⟩, rfl⟩⟩
  rw [e] at h
  exact wp_region_front C F T nd hm hQ hB hC h

/-- One calm operation by hand: its value, in every world of the class. -/
theorem wpQuiet_by {o : Oper} {rest : List Oper} {a : Act} {G : Act → Prop} (v : Value) (hg : o.guard = none) (h1 : ∀ w', C w' → o.quietAt P a C w' v)
    (h2 : ∀ K : Act → Prop, (∀ a, wpQuiet P ops C G rest a → K a) → K (a.put o.dst v)) : wpQuiet P ops C G (o :: rest) a := by
  unfold wpQuiet
  have hw : Region.wanted o (yielded ops a.tmps) = true := by simp [Region.wanted, hg]
  rw [if_pos hw]
  exact ⟨v, h1, h2 _ (fun _ h => h)⟩
end

section
variable {P : Program} {ops : Array Oper} {Q : Exit → Act → World → Prop} {md : Region.Mode} {C : World → Prop} {nd : Nat → Bool}

/-- What is asked behind operation i, k others to come. -/
def tailN (P : Program) (md : Region.Mode) (ops : Array Oper) (Q : Exit → Act → World → Prop) (C : World → Prop) (nd : Nat → Bool) (k : Nat) (listed : Array Bool) (i : Nat) : Exit → Act → World → Prop := fun e a' w' =>
  match e with | .normal => (nd i = true → C w') ∧ wpN P md ops Q C nd k (listed.setIfInBounds i true) a' w' | .panic c => Q (.panic c) a' w' | .outgrown => Q .outgrown a' w' | _ => False
theorem tailN_normal {k : Nat} {listed : Array Bool} {i : Nat} {a : Act} {w : World} (h1 : C w) (h2 : wpN P md ops Q C nd k (listed.setIfInBounds i true) a w) : tailN P md ops Q C nd k listed i .normal a w := ⟨fun _ => h1, h2⟩

theorem wpN_run {k i : Nat} {listed : Array Bool} {o : Oper} {a : Act} {w : World} (ho : ops[i]? = some o) (h : wpList P ops (tailN P md ops Q C nd k listed i) [o] a w) :
    wpOp P ops Q i (fun a' w' => (nd i = true → C w') ∧ wpN P md ops Q C nd k (listed.setIfInBounds i true) a' w') a w := by
  unfold wpOp
  simp only [ho]
  unfold wpList at h
  have hnext : ∀ a' w', tailN P md ops Q C nd k listed i .normal a' w' → (nd i = true → C w') ∧ wpN P md ops Q C nd k (listed.setIfInBounds i true) a' w' := fun a' w' h' => h'
  by_cases hwt : Region.wanted o (yielded ops a.tmps) = true
  · rw [if_pos hwt] at h ⊢
    rcases h with h | ⟨ha, hl⟩
    · refine .inl ?_
      unfold Oper.wp at h ⊢
      generalize (execOp a.eval o).run P w = r at h
      cases r with
      | ok x w' =>
        cases x <;> simp only [Oper.upon, wpList] at h ⊢
        case value u => exact hnext _ _ h
        case skip => exact hnext _ _ h
        case defer d => exact hnext _ _ h
        case enter f args =>
          refine Calls.mono h fun e w'' he => ?_
          cases e with
          | returned u => exact hnext _ _ he
          | panicked c => exact he
          | outgrown =>
            obtain ⟨a1, w1, h1⟩ := he
            exact ⟨a1, w1, h1⟩
        case row row args => exact Rows.mono h fun u w'' he => hnext _ _ he
      | halt x w' =>
        cases x <;> simp only [Oper.upon] at h ⊢
        case panic u => exact h
    · refine .inr ⟨ha, ?_⟩
      obtain ⟨a1, w1, h1⟩ := hl
      exact ⟨a1, w1, h1⟩
  · rw [if_neg hwt] at h ⊢
    exact hnext _ _ h

theorem wpN_one {k i : Nat} {listed : Array Bool} {o : Oper} {a : Act} {w : World} (hr : Region.ready md ops listed = [i]) (ho : ops[i]? = some o)
    (h : wpList P ops (tailN P md ops Q C nd k listed i) [o] a w) : wpN P md ops Q C nd (k + 1) listed a w := by
  refine ⟨fun h0 => (by rw [hr] at h0; cases h0), fun j hj => ?_⟩
  rw [hr] at hj
  simp only [List.mem_singleton] at hj
  subst hj
  exact wpN_run ho h
theorem wpN_two {k i j : Nat} {listed : Array Bool} {o o' : Oper} {a : Act} {w : World} (hr : Region.ready md ops listed = [i, j]) (ho : ops[i]? = some o) (ho' : ops[j]? = some o')
    (h : wpList P ops (tailN P md ops Q C nd k listed i) [o] a w) (h' : wpList P ops (tailN P md ops Q C nd k listed j) [o'] a w) : wpN P md ops Q C nd (k + 1) listed a w := by
  refine ⟨fun h0 => (by rw [hr] at h0; cases h0), fun x hx => ?_⟩
  rw [hr] at hx
  simp only [List.mem_cons, List.not_mem_nil, or_false] at hx
  rcases hx with rfl | rfl
  · exact wpN_run ho h
  · exact wpN_run ho' h'
theorem wpN_none {listed : Array Bool} {a : Act} {w : World} (hr : Region.ready md ops listed = []) (h : Q .normal a w) : wpN P md ops Q C nd 0 listed a w := ⟨hr, h⟩

/-- The calm ones first, whatever order behind them. -/
theorem wp_region_frontN (C : World → Prop) {id : Nat} {a : Act} {w : World} {l : List Oper} (F : List Nat) (k : Nat) (nd : Nat → Bool) (hm : P.follows .mixedOrders = true)
    (hQ : ∀ c a d v w, Q (.panic c) (Act.put a d v) w → Q (.panic c) a w)
    (hB : (Region.noSelect l.toArray && frontB .any l.toArray nd F (Array.replicate l.length false) && (F.length + k == l.length) && F.all (· < l.length)) = true)
    (hC : C w.drew)
    (h : wpQuiet P l.toArray (fun w' => ∃ p : WC C, w' = p.w) (fun a' => wpN P .any l.toArray Q C nd k (listAll F (Array.replicate l.length false)) a' w.drew) (F.map fun i => l.getD i default) a) : (Code.region id l.toArray true).wp P Q a w := by
  have e : (fun w' => ∃ p : WC C, w' = p.w) = C := by
    funext w'
    exact propext ⟨fun ⟨p, hp⟩ => hp ▸ p.h, fun h => ⟨⟨w', h⟩, rfl⟩⟩
  rw [e] at h
  simp only [Bool.and_eq_true, beq_iff_eq, List.all_eq_true, decide_eq_true_eq] at hB
  obtain ⟨⟨⟨hs, hf⟩, hlen⟩, hF⟩ := hB
  have pick : ∀ (L : List Nat), (∀ i ∈ L, i < l.length) → L.map (fun i => some (l.getD i default)) = L.map (fun i => l.toArray[i]?) := by
    intro L hL
    refine List.map_congr_left fun i hi => ?_
    have := hL i hi
    simp [List.getD, this]
  refine wp_region_any hm (wpN_any _ _ _ _ (nd := nd) (C := C) ?_)
  have h2 := wpN_front (P := P) (Q := Q) (md := .any) (C := C) hs hQ k F (F.map fun i => l.getD i default) (Array.replicate l.length false) a w.drew (by rw [List.map_map]; exact pick F hF) hf hC h
  rw [hlen] at h2
  simpa using h2
end
theorem wpN_frontW {P : Program} {Q : Exit → Act → World → Prop} (C : World → Prop) {a : Act} {w : World} {l : List Oper} {nd : Nat → Bool} (F : List Nat) (k : Nat) (listed : Array Bool)
    (hQ : ∀ c a d v w, Q (.panic c) (Act.put a d v) w → Q (.panic c) a w)
    (hB : (Region.noSelect l.toArray && frontB .any l.toArray nd F listed && F.all (· < l.length)) = true)
    (hC : C w)
    (h : wpQuiet P l.toArray (fun w' => ∃ p : WC C, w' = p.w) (fun a' => wpN P .any l.toArray Q C nd k (listAll F listed) a' w) (F.map fun i => l.getD i default) a) : wpN P .any l.toArray Q C nd (F.length + k) listed a w := by
  have e : (fun w' => ∃ p : WC C, w' = p.w) = C := by
    funext w'
    exact propext ⟨fun ⟨p, hp⟩ => hp ▸ p.h, fun h => ⟨⟨w', h⟩, rfl⟩⟩
  rw [e] at h
  simp only [Bool.and_eq_true, List.all_eq_true, decide_eq_true_eq] at hB
  obtain ⟨⟨hs, hf⟩, hF⟩ := hB
  have pick : ∀ (L : List Nat), (∀ i ∈ L, i < l.length) → L.map (fun i => some (l.getD i default)) = L.map (fun i => l.toArray[i]?) := by
    intro L hL
    refine List.map_congr_left fun i hi => ?_
    have := hL i hi
    simp [List.getD, this]
  exact wpN_front (P := P) (Q := Q) (md := .any) (C := C) hs hQ k F (F.map fun i => l.getD i default) listed a w (by rw [List.map_map]; exact pick F hF) hf hC h

end Go.Proofs.YtjcgkplphiedjaaDoorT
