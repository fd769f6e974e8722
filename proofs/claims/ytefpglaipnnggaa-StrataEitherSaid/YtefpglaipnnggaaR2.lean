/- A region that draws its order, behind its calm front: one step where one operation is ready, two where two are. -/
import Derived.Test.YtefpglaipnnggaaR1
namespace Go.Proofs.Ytefpglaipnnggaa
open Go.RowKit

section
variable {P : Program} {ops : Array Oper} {Q : Exit → Act → World → Prop} {md : Region.Mode} {C : World → Prop} {nd : Nat → Bool}

/-- What is asked behind operation i, k others to come. -/
def tailN (P : Program) (md : Region.Mode) (ops : Array Oper) (Q : Exit → Act → World → Prop) (C : World → Prop) (nd : Nat → Bool) (k : Nat) (listed : Array Bool) (i : Nat) : Exit → Act → World → Prop := fun e a' w' =>
  match e with | .normal => (nd i = true → C w') ∧ wpN P md ops Q C nd k (listed.setIfInBounds i true) a' w' | .panic c => Q (.panic c) a' w' | .outgrown => Q .outgrown a' w' | _ => False
theorem tailN_normal {k : Nat} {listed : Array Bool} {i : Nat} {a : Act} {w : World} (h1 : C w) (h2 : wpN P md ops Q C nd k (listed.setIfInBounds i true) a w) : tailN P md ops Q C nd k listed i .normal a w := ⟨fun _ => h1, h2⟩

theorem wpN_run {k i : Nat} {listed : Array Bool} {o : Oper} {a : Act} {w : World} (ho : ops[i]? = some o) (h : wpList P ops (tailN P md ops Q C nd k listed i) [o] a w) :
    wpOp P ops Q i (fun a' w' => (nd i = true → C w') ∧ wpN P md ops Q C nd k (listed.setIfInBounds i true) a' w') a w := by
  unfold wpOp
  simp only [ho]
  unfold wpList at h
  have hnext : ∀ a' w', tailN P md ops Q C nd k listed i .normal a' w' → (nd i = true → C w') ∧ wpN P md ops Q C nd k (listed.setIfInBounds i true) a' w' := fun a' w' h' => h'
  by_cases hwt : Region.wanted o (yielded ops a.tmps) = true
  · rw [if_pos hwt] at h ⊢
    rcases h with h | ⟨ha, hl⟩
    · refine .inl ?_
      unfold Oper.wp at h ⊢
      generalize (execOp a.eval o).run P w = r at h
      cases r with
      | ok x w' =>
        cases x <;> simp only [Oper.upon, wpList] at h ⊢
        case value u => exact hnext _ _ h
        case skip => exact hnext _ _ h
        case defer d => exact hnext _ _ h
        case enter f args =>
          refine Calls.mono h fun e w'' he => ?_
          cases e with
          | returned u => exact hnext _ _ he
          | panicked c => exact he
          | outgrown =>
            obtain ⟨a1, w1, h1⟩ := he
            exact ⟨a1, w1, h1⟩
        case row row args => exact Rows.mono h fun u w'' he => hnext _ _ he
      | halt x w' =>
        cases x <;> simp only [Oper.upon] at h ⊢
        case panic u => exact h
    · refine .inr ⟨ha, ?_⟩
      obtain ⟨a1, w1, h1⟩ := hl
      exact ⟨a1, w1, h1⟩
  · rw [if_neg hwt] at h ⊢
    exact hnext _ _ h

theorem wpN_one {k i : Nat} {listed : Array Bool} {o : Oper} {a : Act} {w : World} (hr : Region.ready md ops listed = [i]) (ho : ops[i]? = some o)
    (h : wpList P ops (tailN P md ops Q C nd k listed i) [o] a w) : wpN P md ops Q C nd (k + 1) listed a w := by
  refine ⟨fun h0 => (by rw [hr] at h0; cases h0), fun j hj => ?_⟩
  rw [hr] at hj
  simp only [List.mem_singleton] at hj
  subst hj
  exact wpN_run ho h
theorem wpN_two {k i j : Nat} {listed : Array Bool} {o o' : Oper} {a : Act} {w : World} (hr : Region.ready md ops listed = [i, j]) (ho : ops[i]? = some o) (ho' : ops[j]? = some o')
    (h : wpList P ops (tailN P md ops Q C nd k listed i) [o] a w) (h' : wpList P ops (tailN P md ops Q C nd k listed j) [o'] a w) : wpN P md ops Q C nd (k + 1) listed a w := by
  refine ⟨fun h0 => (by rw [hr] at h0; cases h0), fun x hx => ?_⟩
  rw [hr] at hx
  simp only [List.mem_cons, List.not_mem_nil, or_false] at hx
  rcases hx with rfl | rfl
  · exact wpN_run ho h
  · exact wpN_run ho' h'
theorem wpN_none {listed : Array Bool} {a : Act} {w : World} (hr : Region.ready md ops listed = []) (h : Q .normal a w) : wpN P md ops Q C nd 0 listed a w := ⟨hr, h⟩

/-- The calm ones first, whatever order behind them. -/
theorem wp_region_frontN (C : World → Prop) {id : Nat} {a : Act} {w : World} {l : List Oper} (F : List Nat) (k : Nat) (nd : Nat → Bool) (hm : P.follows .mixedOrders = true)
    (hQ : ∀ c a d v w, Q (.panic c) (Act.put a d v) w → Q (.panic c) a w)
    (hB : (Region.noSelect l.toArray && frontB .any l.toArray nd F (Array.replicate l.length false) && (F.length + k == l.length) && F.all (· < l.length)) = true)
    (hC : C w.drew)
    (h : wpQuiet P l.toArray (fun w' => ∃ p : WC C, w' = p.w) (fun a' => wpN P .any l.toArray Q C nd k (listAll F (Array.replicate l.length false)) a' w.drew) (F.map fun i => l.getD i default) a) : (Code.region id l.toArray true).wp P Q a w := by
  have e : (fun w' => ∃ p : WC C, w' = p.w) = C := by
    funext w'
    exact propext ⟨fun ⟨p, hp⟩ => hp ▸ p.h, fun h => ⟨⟨w', h⟩, rfl⟩⟩
  rw [e] at h
  simp only [Bool.and_eq_true, beq_iff_eq, List.all_eq_true, decide_eq_true_eq] at hB
  obtain ⟨⟨⟨hs, hf⟩, hlen⟩, hF⟩ := hB
  have pick : ∀ (L : List Nat), (∀ i ∈ L, i < l.length) → L.map (fun i => some (l.getD i default)) = L.map (fun i => l.toArray[i]?) := by
    intro L hL
    refine List.map_congr_left fun i hi => ?_
    have := hL i hi
    simp [List.getD, this]
  refine wp_region_any hm (wpN_any _ _ _ _ (nd := nd) (C := C) ?_)
  have h2 := wpN_front (P := P) (Q := Q) (md := .any) (C := C) hs hQ k F (F.map fun i => l.getD i default) (Array.replicate l.length false) a w.drew (by rw [List.map_map]; exact pick F hF) hf hC h
  rw [hlen] at h2
  simpa using h2
end
end Go.Proofs.Ytefpglaipnnggaa
