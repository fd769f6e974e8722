/- Plain: walks along edges, and the walk that finds components (its states and its steps); no program in sight. -/
import Derived.Test.YtefpglaipnnggaaRows
namespace Go.Proofs.Ytefpglaipnnggaa

/-- A walk of so many steps. -/
def RN (E : Int → Int → Prop) : Nat → Int → Int → Prop
  | 0, u, v => u = v
  | k + 1, u, v => ∃ x, E u x ∧ RN E k x v

def Reach (E : Int → Int → Prop) (u v : Int) : Prop := ∃ k, RN E k u v
def Scc (E : Int → Int → Prop) (u v : Int) : Prop := Reach E u v ∧ Reach E v u

section
variable {E : Int → Int → Prop}
theorem RN.add : ∀ {a b : Nat} {u v x : Int}, RN E a u v → RN E b v x → RN E (a + b) u x
  | 0, b, u, v, x, h, k => by cases h; simpa using k
  | a + 1, b, u, v, x, h, k => by
    obtain ⟨y, h1, h2⟩ := h
    rw [Nat.add_right_comm]
    exact ⟨y, h1, RN.add h2 k⟩
theorem Reach.refl (u : Int) : Reach E u u := ⟨0, rfl⟩
theorem Reach.step {u v : Int} (h : E u v) : Reach E u v := ⟨1, v, h, rfl⟩
theorem Reach.trans {u v x : Int} (h : Reach E u v) (k : Reach E v x) : Reach E u x := by
  obtain ⟨a, h⟩ := h
  obtain ⟨b, k⟩ := k
  exact ⟨a + b, h.add k⟩
theorem Scc.refl (u : Int) : Scc E u u := ⟨.refl u, .refl u⟩
theorem Scc.symm {u v : Int} (h : Scc E u v) : Scc E v u := ⟨h.2, h.1⟩
theorem Scc.trans {u v x : Int} (h : Scc E u v) (k : Scc E v x) : Scc E u x := ⟨h.1.trans k.1, k.2.trans h.2⟩
theorem RN.closed {S : Int → Prop} (hS : ∀ u v, S u → E u v → S v) : ∀ {k : Nat} {u v : Int}, S u → RN E k u v → S v
  | 0, u, v, h, k => by cases k; exact h
  | k + 1, u, v, h, ⟨x, h1, h2⟩ => RN.closed hS (hS u x h h1) h2
theorem Reach.closed {S : Int → Prop} (hS : ∀ u v, S u → E u v → S v) {u v : Int} (h : S u) (k : Reach E u v) : S v := by
  obtain ⟨k, hk⟩ := k; exact hk.closed hS h
end

def Vx (n : Int) (v : Int) : Prop := 0 ≤ v ∧ v < n

/-- An edge that has been gone through. -/
def Proc (E : Int → Int → Prop) (adj : Int → List Int) (C : List (Int × Nat)) (w x : Int) : Prop :=
  (∃ c ∈ C, c.1 = w ∧ ∃ j, j < c.2 ∧ (adj w)[j]? = some x) ∨ ((∀ c ∈ C, c.1 ≠ w) ∧ E w x)

/-- A state of the walk: times, components' numbers, the open list, the stack (its top first). -/
structure TB (n : Int) (E : Int → Int → Prop) (adj : Int → List Int) (τ κ : Int → Int) (opn : List Int) (clock count : Int) (C : List (Int × Nat)) : Prop where
  eV : ∀ u x, Vx n u → E u x → Vx n x
  hadj : ∀ u x, Vx n u → (x ∈ adj u ↔ E u x)
  clk : 0 ≤ clock
  tpos : ∀ v, Vx n v → 0 ≤ τ v ∧ τ v ≤ clock
  tinj : ∀ u v, Vx n u → Vx n v → τ u ≠ 0 → τ u = τ v → u = v
  oV : ∀ v ∈ opn, Vx n v
  oiff : ∀ v, Vx n v → (v ∈ opn ↔ τ v ≠ 0 ∧ κ v < 0)
  osort : opn.Pairwise (fun a b => τ a < τ b)
  kun : ∀ v, Vx n v → τ v = 0 → κ v < 0
  kcnt : ∀ v, Vx n v → κ v < count
  cnt : 0 ≤ count
  used : ∀ k, 0 ≤ k → k < count → ∃ v, Vx n v ∧ κ v = k
  cgray : ∀ c ∈ C, c.1 ∈ opn
  csort : C.Pairwise (fun a b => τ b.1 < τ a.1)
  cidx : ∀ c ∈ C, c.2 ≤ (adj c.1).length
  black : ∀ v, Vx n v → τ v ≠ 0 → (∀ c ∈ C, c.1 ≠ v) → ∀ x, E v x → τ x ≠ 0
  grayE : ∀ c ∈ C, ∀ j, j < c.2 → ∀ x, (adj c.1)[j]? = some x → τ x ≠ 0
  fin : ∀ v x, Vx n v → 0 ≤ κ v → E v x → 0 ≤ κ x
  up : ∀ w ∈ opn, ∃ c ∈ C, τ c.1 ≤ τ w ∧ Reach E w c.1
  down : ∀ c ∈ C, ∀ w ∈ opn, τ c.1 ≤ τ w → Reach E c.1 w
  scc : ∀ u v, Vx n u → Vx n v → 0 ≤ κ u → (κ u = κ v ↔ Scc E u v)

/-- What the lows say of the stack's predicates. -/
structure TL (E : Int → Int → Prop) (adj : Int → List Int) (τ l : Int → Int) (opn : List Int) (C : List (Int × Nat)) : Prop where
  lows : ∀ c ∈ C, l c.1 ≤ τ c.1 ∧ ∃ u ∈ opn, τ u = l c.1 ∧ Reach E c.1 u
  lowc : ∀ c ∈ C, ∀ w ∈ opn, τ c.1 ≤ τ w → (∀ c' ∈ C, τ c.1 < τ c'.1 → τ w < τ c'.1) → ∀ x ∈ opn, Proc E adj C w x → l c.1 ≤ τ x

section
variable {n : Int} {E : Int → Int → Prop} {adj : Int → List Int} {τ l κ τ' l' κ' : Int → Int} {opn : List Int} {clock count : Int} {C : List (Int × Nat)}

theorem bump {P : Int → Prop} {v : Int} {i j : Nat} {rest : List (Int × Nat)} (h : ∀ c ∈ (v, i) :: rest, P c.1) : ∀ c ∈ (v, j) :: rest, P c.1 := by
  intro c hc
  rcases List.mem_cons.1 hc with rfl | hc
  · exact h (v, i) (by simp)
  · exact h c (List.mem_cons_of_mem _ hc)

theorem TB.one {c c' : Int × Nat} (h : TB n E adj τ κ opn clock count C) (hc : c ∈ C) (hc' : c' ∈ C) (e : c.1 = c'.1) : c = c' := by
  by_cases hne : c = c'
  · exact hne
  · exfalso
    have h1 : C.Pairwise (fun a b => a.1 ≠ b.1) := h.csort.imp (fun {a b} hab e => by rw [e] at hab; omega)
    have key : ∀ (C : List (Int × Nat)), C.Pairwise (fun a b => a.1 ≠ b.1) → c ∈ C → c' ∈ C → False := by
      intro C
      induction C with
      | nil => intro _ h; cases h
      | cons a C ih =>
        intro hp h1 h2
        obtain ⟨hp1, hp2⟩ := List.pairwise_cons.1 hp
        rcases List.mem_cons.1 h1 with ha | ha <;> rcases List.mem_cons.1 h2 with hb | hb
        · exact hne (ha.trans hb.symm)
        · subst ha; exact hp1 _ hb e
        · subst hb; exact hp1 _ ha e.symm
        · exact ih hp2 ha hb
    exact key C h1 hc hc'

/-- The top's next edge leads to one that is known. -/
theorem TB.skip {v q : Int} {i : Nat} {rest : List (Int × Nat)} (h : TB n E adj τ κ opn clock count ((v, i) :: rest)) (hq : (adj v)[i]? = some q) (hqt : τ q ≠ 0) :
    TB n E adj τ κ opn clock count ((v, i + 1) :: rest) := by
  have hvo := h.cgray (v, i) (by simp)
  refine ⟨h.eV, h.hadj, h.clk, h.tpos, h.tinj, h.oV, h.oiff, h.osort, h.kun, h.kcnt, h.cnt, h.used, bump (P := (· ∈ opn)) h.cgray, ?_, ?_, ?_, ?_, h.fin, ?_, ?_, h.scc⟩
  · have := List.pairwise_cons.1 h.csort
    exact List.pairwise_cons.2 ⟨this.1, this.2⟩
  · intro c hc
    rcases List.mem_cons.1 hc with rfl | hc
    · exact (List.getElem?_eq_some_iff.1 hq).1
    · exact h.cidx c (List.mem_cons_of_mem _ hc)
  · intro w hw ht hC x hx
    exact h.black w hw ht (bump (P := (· ≠ w)) hC) x hx
  · intro c hc j hj x hx
    rcases List.mem_cons.1 hc with rfl | hc
    · by_cases e : j = i
      · subst e
        simp only at hx
        rw [hq] at hx
        injection hx with hx
        subst hx; exact hqt
      · exact h.grayE (v, i) (by simp) j (by simp only at hj ⊢; omega) x hx
    · exact h.grayE c (List.mem_cons_of_mem _ hc) j hj x hx
  · intro w hw
    obtain ⟨c, hc, h1, h2⟩ := h.up w hw
    rcases List.mem_cons.1 hc with rfl | hc
    · exact ⟨(v, i + 1), by simp, h1, h2⟩
    · exact ⟨c, List.mem_cons_of_mem _ hc, h1, h2⟩
  · exact bump (P := fun c => ∀ w ∈ opn, τ c ≤ τ w → Reach E c w) h.down

theorem Proc.unbump {v q w x : Int} {i : Nat} {rest : List (Int × Nat)} (hq : (adj v)[i]? = some q) (hp : Proc E adj ((v, i + 1) :: rest) w x) : Proc E adj ((v, i) :: rest) w x ∨ (w = v ∧ x = q) := by
  rcases hp with ⟨c', hc', e, j, hj, hx'⟩ | ⟨hb, he⟩
  · rcases List.mem_cons.1 hc' with rfl | hc'
    · simp only at e hj; subst e
      by_cases e : j = i
      · subst e
        rw [hq] at hx'
        injection hx' with hx'
        exact .inr ⟨rfl, hx'.symm⟩
      · exact .inl (.inl ⟨(v, i), by simp, rfl, j, by simp only; omega, hx'⟩)
    · exact .inl (.inl ⟨c', List.mem_cons_of_mem _ hc', e, j, hj, hx'⟩)
  · exact .inl (.inr ⟨bump (P := (· ≠ w)) hb, he⟩)

/-- .. to a finished one. -/
theorem TL.skip {v q : Int} {i : Nat} {rest : List (Int × Nat)} (h : TL E adj τ l opn ((v, i) :: rest)) (hq : (adj v)[i]? = some q) (hno : q ∉ opn) :
    TL E adj τ l opn ((v, i + 1) :: rest) := by
  refine ⟨bump (P := fun c => l c ≤ τ c ∧ ∃ u ∈ opn, τ u = l c ∧ Reach E c u) h.lows, ?_⟩
  intro c hc w hw hle hseg x hx hp
  have hseg' := bump (i := i + 1) (j := i) (P := fun c' => τ c.1 < τ c' → τ w < τ c') hseg
  rcases Proc.unbump hq hp with hp' | ⟨_, rfl⟩
  · rcases List.mem_cons.1 hc with rfl | hc
    · exact h.lowc (v, i) (by simp) w hw hle hseg' x hx hp'
    · exact h.lowc c (List.mem_cons_of_mem _ hc) w hw hle hseg' x hx hp'
  · exact absurd hx hno

/-- .. to an open one. -/
theorem TL.see {v q : Int} {i : Nat} {rest : List (Int × Nat)} (hb : TB n E adj τ κ opn clock count ((v, i) :: rest)) (h : TL E adj τ l opn ((v, i) :: rest)) (hq : (adj v)[i]? = some q) (hqo : q ∈ opn)
    (hl : ∀ x, Vx n x → l' x = if x = v then min (l v) (τ q) else l x) : TL E adj τ l' opn ((v, i + 1) :: rest) := by
  have hvo := hb.cgray (v, i) (by simp)
  have hvV := hb.oV v hvo
  have hE : E v q := (hb.hadj v q hvV).1 (List.mem_of_getElem? hq)
  have hlv : l' v = min (l v) (τ q) := by rw [hl v hvV, if_pos rfl]
  have hlc : ∀ c ∈ rest, l' c.1 = l c.1 := fun c hc => by
    rw [hl _ (hb.oV _ (hb.cgray c (List.mem_cons_of_mem _ hc))), if_neg]
    intro e
    have := (List.pairwise_cons.1 hb.csort).1 c hc
    rw [e] at this; simp at this
  refine ⟨?_, ?_⟩
  · intro c hc
    rcases List.mem_cons.1 hc with rfl | hc
    · obtain ⟨h1, u, h2, h3, h4⟩ := h.lows (v, i) (by simp)
      simp only at h1 h3 h4 ⊢
      rw [hlv]
      refine ⟨by omega, ?_⟩
      by_cases hm : l v ≤ τ q
      · exact ⟨u, h2, by omega, h4⟩
      · exact ⟨q, hqo, by omega, .step hE⟩
    · rw [hlc c hc]; exact h.lows c (List.mem_cons_of_mem _ hc)
  · intro c hc w hw hle hseg x hx hp
    have hseg' := bump (i := i + 1) (j := i) (P := fun c' => τ c.1 < τ c' → τ w < τ c') hseg
    rcases Proc.unbump hq hp with hp' | ⟨rfl, rfl⟩
    · rcases List.mem_cons.1 hc with rfl | hc
      · have := h.lowc (v, i) (by simp) w hw hle hseg' x hx hp'
        simp only at this ⊢
        rw [hlv]; omega
      · rw [hlc c hc]
        exact h.lowc c (List.mem_cons_of_mem _ hc) w hw hle hseg' x hx hp'
    · -- the new edge: w is the top itself
      rcases List.mem_cons.1 hc with rfl | hc
      · simp only; rw [hlv]; omega
      · have h1 := (List.pairwise_cons.1 hb.csort).1 c hc
        have := hseg (w, i + 1) (by simp) h1
        simp at this
end
end Go.Proofs.Ytefpglaipnnggaa
