/- Plain: the steps of the walk that finds components: a predicate is entered, a predicate is left. -/
import Derived.Test.YtefpglaipnnggaaP1
namespace Go.Proofs.Ytefpglaipnnggaa

section
variable {n : Int} {E : Int → Int → Prop} {adj : Int → List Int} {τ l κ τ' l' κ' : Int → Int} {opn : List Int} {clock count : Int} {C : List (Int × Nat)}

/-- What a new predicate asks of the stack below it. -/
structure Under (E : Int → Int → Prop) (adj : Int → List Int) (τ : Int → Int) (opn : List Int) (C C0 : List (Int × Nat)) (q : Int) : Prop where
  cgray : ∀ c ∈ C0, c.1 ∈ opn
  csort : C0.Pairwise (fun a b => τ b.1 < τ a.1)
  cidx : ∀ c ∈ C0, c.2 ≤ (adj c.1).length
  names : ∀ w, (∀ c ∈ C0, c.1 ≠ w) → ∀ c ∈ C, c.1 ≠ w
  grayE : ∀ c ∈ C0, ∀ j, j < c.2 → ∀ x, (adj c.1)[j]? = some x → τ x ≠ 0 ∨ x = q
  up : ∀ w ∈ opn, ∃ c ∈ C0, τ c.1 ≤ τ w ∧ Reach E w c.1
  down : ∀ c ∈ C0, ∀ w ∈ opn, τ c.1 ≤ τ w → Reach E c.1 w
  to : ∀ c ∈ C0, Reach E c.1 q
  proc : ∀ w x, Proc E adj C0 w x → Proc E adj C w x ∨ x = q
  segs : ∀ (P : Int → Prop), (∀ c ∈ C0, P c.1) → ∀ c ∈ C, P c.1
  back : ∀ (P : Int → Prop), (∀ c ∈ C, P c.1) → ∀ c ∈ C0, P c.1

theorem Under.root (h : TB n E adj τ κ opn clock count []) (q : Int) : Under E adj τ opn [] [] q := by
  have ho : ∀ w ∈ opn, False := fun w hw => by obtain ⟨c, hc, _⟩ := h.up w hw; cases hc
  exact ⟨by simp, by simp, by simp, by simp, by simp, fun w hw => (ho w hw).elim, by simp, by simp, fun w x hp => .inl hp, by simp, by simp⟩

theorem TB.top {v : Int} {i : Nat} {rest : List (Int × Nat)} (h : TB n E adj τ κ opn clock count ((v, i) :: rest)) : ∀ c ∈ (v, i) :: rest, τ c.1 ≤ τ v := by
  intro c hc
  rcases List.mem_cons.1 hc with rfl | hc
  · exact Int.le_refl _
  · have := (List.pairwise_cons.1 h.csort).1 c hc
    simp only at this; omega

theorem Under.child {v q : Int} {i : Nat} {rest : List (Int × Nat)} (h : TB n E adj τ κ opn clock count ((v, i) :: rest)) (hq : (adj v)[i]? = some q) :
    Under E adj τ opn ((v, i) :: rest) ((v, i + 1) :: rest) q := by
  have hvo := h.cgray (v, i) (by simp)
  have hvV := h.oV v hvo
  have hE : E v q := (h.hadj v q hvV).1 (List.mem_of_getElem? hq)
  refine ⟨bump (P := (· ∈ opn)) h.cgray, ?_, ?_, fun w hw => bump (P := (· ≠ w)) hw, ?_, ?_, bump (P := fun c => ∀ w ∈ opn, τ c ≤ τ w → Reach E c w) h.down, ?_, ?_, fun P hP => bump hP, fun P hP => bump hP⟩
  · have := List.pairwise_cons.1 h.csort
    exact List.pairwise_cons.2 ⟨this.1, this.2⟩
  · intro c hc
    rcases List.mem_cons.1 hc with rfl | hc
    · exact (List.getElem?_eq_some_iff.1 hq).1
    · exact h.cidx c (List.mem_cons_of_mem _ hc)
  · intro c hc j hj x hx
    rcases List.mem_cons.1 hc with rfl | hc
    · by_cases e : j = i
      · subst e
        simp only at hx
        rw [hq] at hx
        injection hx with hx
        exact .inr hx.symm
      · exact .inl (h.grayE (v, i) (by simp) j (by simp only at hj ⊢; omega) x hx)
    · exact .inl (h.grayE c (List.mem_cons_of_mem _ hc) j hj x hx)
  · intro w hw
    obtain ⟨c, hc, h1, h2⟩ := h.up w hw
    rcases List.mem_cons.1 hc with rfl | hc
    · exact ⟨(v, i + 1), by simp, h1, h2⟩
    · exact ⟨c, List.mem_cons_of_mem _ hc, h1, h2⟩
  · exact bump (i := i) (P := fun c => Reach E c q) fun c hc => (h.down c hc v hvo (h.top c hc)).trans (.step hE)
  · intro w x hp
    rcases Proc.unbump hq hp with hp | ⟨_, e⟩
    · exact .inl hp
    · exact .inr e

theorem TB.push {C0 : List (Int × Nat)} {q : Int} (h : TB n E adj τ κ opn clock count C) (u : Under E adj τ opn C C0 q) (hqV : Vx n q) (hq0 : τ q = 0)
    (ht : ∀ x, Vx n x → τ' x = if x = q then clock + 1 else τ x) : TB n E adj τ' κ (opn ++ [q]) (clock + 1) count ((q, 0) :: C0) := by
  have hck := h.clk
  have hqo : q ∉ opn := fun hm => ((h.oiff q hqV).1 hm).1 hq0
  have htq : τ' q = clock + 1 := by rw [ht q hqV, if_pos rfl]
  have hto : ∀ x ∈ opn, τ' x = τ x := fun x hx => by rw [ht x (h.oV x hx), if_neg (fun (e : x = q) => hqo (e ▸ hx))]
  have hne : ∀ x, Vx n x → x ≠ q → τ' x = τ x := fun x hx e => by rw [ht x hx, if_neg e]
  have hlt : ∀ x ∈ opn, τ x < clock + 1 := fun x hx => by have := (h.tpos x (h.oV x hx)).2; omega
  have hnz : ∀ x, Vx n x → τ x ≠ 0 → τ' x ≠ 0 := fun x hx e => by
    by_cases hxq : x = q
    · subst hxq; omega
    · rw [hne x hx hxq]; exact e
  have hmem : ∀ w, w ∈ opn ++ [q] → w ∈ opn ∨ w = q := fun w hw => by simpa using hw
  refine ⟨h.eV, h.hadj, by omega, ?_, ?_, ?_, ?_, ?_, ?_, h.kcnt, h.cnt, h.used, ?_, ?_, ?_, ?_, ?_, h.fin, ?_, ?_, h.scc⟩
  · intro v hv
    by_cases e : v = q
    · subst e; omega
    · have := h.tpos v hv; rw [hne v hv e]; omega
  · intro a b ha hb h0 he
    by_cases e1 : a = q <;> by_cases e2 : b = q
    · rw [e1, e2]
    · subst e1
      have := (h.tpos b hb).2
      rw [htq, hne b hb e2] at he; omega
    · subst e2
      have := (h.tpos a ha).2
      rw [htq, hne a ha e1] at he; omega
    · rw [hne a ha e1] at h0 he
      rw [hne b hb e2] at he
      exact h.tinj a b ha hb h0 he
  · intro v hv
    rcases hmem v hv with hv | rfl
    · exact h.oV v hv
    · exact hqV
  · intro v hv
    by_cases e : v = q
    · subst e
      have := h.kun v hv hq0
      simp only [List.mem_append, List.mem_singleton, or_true, true_iff]
      omega
    · rw [hne v hv e, List.mem_append, List.mem_singleton]
      have := h.oiff v hv
      constructor
      · rintro (hm | hm)
        · exact this.1 hm
        · exact absurd hm e
      · intro hm; exact .inl (this.2 hm)
  · refine List.pairwise_append.2 ⟨?_, by simp, ?_⟩
    · refine h.osort.imp_of_mem ?_
      intro a b ha hb hab
      rw [hto a ha, hto b hb]; exact hab
    · intro a ha b hb
      simp only [List.mem_singleton] at hb
      subst hb
      rw [hto a ha, htq]; exact hlt a ha
  · intro v hv h0
    by_cases e : v = q
    · subst e; omega
    · rw [hne v hv e] at h0; exact h.kun v hv h0
  · intro c hc
    rcases List.mem_cons.1 hc with rfl | hc
    · simp
    · simp [u.cgray c hc]
  · refine List.pairwise_cons.2 ⟨fun c hc => ?_, ?_⟩
    · simp only
      rw [htq, hto _ (u.cgray c hc)]; exact hlt _ (u.cgray c hc)
    · refine u.csort.imp_of_mem ?_
      intro a b ha hb hab
      rw [hto _ (u.cgray a ha), hto _ (u.cgray b hb)]; exact hab
  · intro c hc
    rcases List.mem_cons.1 hc with rfl | hc
    · simp
    · exact u.cidx c hc
  · intro v hv h0 hC x hx
    have e : v ≠ q := fun e => hC (q, 0) (by simp) e.symm
    rw [hne v hv e] at h0
    exact hnz x (h.eV v x hv hx) (h.black v hv h0 (u.names v (fun c hc => hC c (List.mem_cons_of_mem _ hc))) x hx)
  · intro c hc j hj x hx
    rcases List.mem_cons.1 hc with rfl | hc
    · simp at hj
    · have hcV := h.oV _ (u.cgray c hc)
      have hxV := h.eV _ x hcV ((h.hadj _ x hcV).1 (List.mem_of_getElem? hx))
      rcases u.grayE c hc j hj x hx with h1 | rfl
      · exact hnz x hxV h1
      · omega
  · intro w hw
    rcases hmem w hw with hw | rfl
    · obtain ⟨c, hc, h1, h2⟩ := u.up w hw
      exact ⟨c, List.mem_cons_of_mem _ hc, by rw [hto _ (u.cgray c hc), hto w hw]; exact h1, h2⟩
    · exact ⟨(w, 0), by simp, Int.le_refl _, .refl _⟩
  · intro c hc0 w hw hle
    rcases List.mem_cons.1 hc0 with rfl | hc
    · rcases hmem w hw with hw | rfl
      · simp only at hle
        have := hlt w hw
        rw [htq, hto w hw] at hle; omega
      · exact .refl _
    · clear hc0
      rcases hmem w hw with hw | rfl
      · rw [hto _ (u.cgray c hc), hto w hw] at hle
        exact u.down c hc w hw hle
      · exact u.to c hc

theorem TL.push {C0 : List (Int × Nat)} {q : Int} (hb : TB n E adj τ κ opn clock count C) (h : TL E adj τ l opn C) (u : Under E adj τ opn C C0 q) (hqV : Vx n q) (hq0 : τ q = 0)
    (ht : ∀ x, Vx n x → τ' x = if x = q then clock + 1 else τ x) (hl : ∀ x, Vx n x → l' x = if x = q then clock + 1 else l x) : TL E adj τ' l' (opn ++ [q]) ((q, 0) :: C0) := by
  have hqo : q ∉ opn := fun hm => ((hb.oiff q hqV).1 hm).1 hq0
  have htq : τ' q = clock + 1 := by rw [ht q hqV, if_pos rfl]
  have hto : ∀ x ∈ opn, τ' x = τ x := fun x hx => by rw [ht x (hb.oV x hx), if_neg (fun (e : x = q) => hqo (e ▸ hx))]
  have hlo : ∀ x ∈ opn, l' x = l x := fun x hx => by rw [hl x (hb.oV x hx), if_neg (fun (e : x = q) => hqo (e ▸ hx))]
  have hlt : ∀ x ∈ opn, τ x < clock + 1 := fun x hx => by have := (hb.tpos x (hb.oV x hx)).2; omega
  have hmem : ∀ w, w ∈ opn ++ [q] → w ∈ opn ∨ w = q := fun w hw => by simpa using hw
  have hlows := u.back (fun c => l c ≤ τ c ∧ ∃ u ∈ opn, τ u = l c ∧ Reach E c u) h.lows
  refine ⟨?_, ?_⟩
  · intro c hc
    rcases List.mem_cons.1 hc with rfl | hc
    · simp only
      exact ⟨by rw [htq, hl q hqV, if_pos rfl]; exact Int.le_refl _, q, by simp, by rw [htq, hl q hqV, if_pos rfl], .refl _⟩
    · obtain ⟨h1, x, h2, h3, h4⟩ := hlows c hc
      have hco := u.cgray c hc
      rw [hlo _ hco, hto _ hco]
      exact ⟨h1, x, by simp [h2], by rw [hto x h2]; exact h3, h4⟩
  · intro c hc0 w hw hle hseg x hx hp
    rcases List.mem_cons.1 hc0 with rfl | hc
    · exfalso
      rcases hmem w hw with hw | rfl
      · simp only at hle
        have := hlt w hw
        rw [htq, hto w hw] at hle; omega
      · rcases hp with ⟨c', hc', e, j, hj, _⟩ | ⟨hb', _⟩
        · rcases List.mem_cons.1 hc' with rfl | hc'
          · simp at hj
          · exact hqo (e ▸ u.cgray c' hc')
        · exact hb' (w, 0) (by simp) rfl
    · clear hc0
      have hco := u.cgray c hc
      have hwo : w ∈ opn := by
        rcases hmem w hw with hw | rfl
        · exact hw
        · have := hseg (w, 0) (by simp) (by simp only; rw [htq, hto _ hco]; exact hlt _ hco)
          simp at this
      rw [hlo _ hco]
      rcases hmem x hx with hxo | rfl
      · rw [hto x hxo]
        have hp' : Proc E adj C0 w x := by
          rcases hp with ⟨c', hc', e, j, hj, hx'⟩ | ⟨hb', he⟩
          · rcases List.mem_cons.1 hc' with rfl | hc'
            · simp at hj
            · exact .inl ⟨c', hc', e, j, hj, hx'⟩
          · exact .inr ⟨fun c' hc' => hb' c' (List.mem_cons_of_mem _ hc'), he⟩
        rcases u.proc w x hp' with hp' | rfl
        · -- the segment below
          have hcC : ∀ (P : Int → Prop), (∀ c ∈ C, P c.1) → P c.1 := fun P hP => u.back P hP c hc
          have key : ∀ d ∈ C, τ d.1 ≤ τ w → (∀ c' ∈ C, τ d.1 < τ c'.1 → τ w < τ c'.1) → l d.1 ≤ τ x := fun d hd h1 h2 => h.lowc d hd w hwo h1 h2 x hxo hp'
          rw [hto _ hco, hto w hwo] at hle
          have hseg' : ∀ c' ∈ C, τ c.1 < τ c'.1 → τ w < τ c'.1 := u.segs (fun c' => τ c.1 < τ c' → τ w < τ c') fun c' hc' hlt' => by
            have := hseg c' (List.mem_cons_of_mem _ hc') (by rw [hto _ hco, hto _ (u.cgray c' hc')]; exact hlt')
            rw [hto w hwo, hto _ (u.cgray c' hc')] at this
            exact this
          exact hcC (fun d => τ d ≤ τ w → (∀ c' ∈ C, τ d < τ c'.1 → τ w < τ c'.1) → l d ≤ τ x) key hle hseg'
        · exact absurd hxo hqo
      · have h1 := (hlows c hc).1
        have h2 := hlt _ hco
        rw [htq]; omega
end
end Go.Proofs.Ytefpglaipnnggaa
