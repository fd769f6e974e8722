/- Plain: the steps of the walk that finds components: a predicate is left, with its component or without. -/
import Derived.Test.YtefpglaipnnggaaP2
namespace Go.Proofs.Ytefpglaipnnggaa

section
variable {n : Int} {E : Int → Int → Prop} {adj : Int → List Int} {τ l κ τ' l' κ' : Int → Int} {opn : List Int} {clock count : Int} {C : List (Int × Nat)}

/-- All edges of the top are gone through. -/
theorem done_proc {v : Int} {rest : List (Int × Nat)} (h : TB n E adj τ κ opn clock count ((v, (adj v).length) :: rest)) {x : Int} (hx : E v x) : ∃ j, j < (adj v).length ∧ (adj v)[j]? = some x := by
  have hvV := h.oV v (h.cgray (v, (adj v).length) (by simp))
  obtain ⟨j, hj, e⟩ := List.getElem_of_mem ((h.hadj v x hvV).2 hx)
  exact ⟨j, hj, by rw [List.getElem?_eq_getElem hj, e]⟩

theorem TB.done_black {v : Int} {rest : List (Int × Nat)} (h : TB n E adj τ κ opn clock count ((v, (adj v).length) :: rest)) :
    ∀ w, Vx n w → τ w ≠ 0 → (∀ c ∈ rest, c.1 ≠ w) → ∀ x, E w x → τ x ≠ 0 := by
  intro w hw h0 hr x hx
  by_cases e : w = v
  · subst e
    obtain ⟨j, hj, hx'⟩ := done_proc h hx
    exact h.grayE (w, (adj w).length) (by simp) j hj x hx'
  · refine h.black w hw h0 (fun c hc => ?_) x hx
    rcases List.mem_cons.1 hc with rfl | hc
    · exact fun e' => e e'.symm
    · exact hr c hc

theorem Proc.done {v w x : Int} {rest : List (Int × Nat)} (h : TB n E adj τ κ opn clock count ((v, (adj v).length) :: rest)) (hp : Proc E adj rest w x) : Proc E adj ((v, (adj v).length) :: rest) w x := by
  rcases hp with ⟨c', hc', e, j, hj, hx'⟩ | ⟨hb, he⟩
  · exact .inl ⟨c', List.mem_cons_of_mem _ hc', e, j, hj, hx'⟩
  · by_cases e : w = v
    · subst e
      obtain ⟨j, hj, hx'⟩ := done_proc h he
      exact .inl ⟨(w, (adj w).length), by simp, rfl, j, hj, hx'⟩
    · refine .inr ⟨fun c hc => ?_, he⟩
      rcases List.mem_cons.1 hc with rfl | hc
      · exact fun e' => e e'.symm
      · exact hb c hc

theorem TB.below_top {v : Int} {i : Nat} {rest : List (Int × Nat)} (h : TB n E adj τ κ opn clock count ((v, i) :: rest)) : ∀ c ∈ rest, τ c.1 < τ v :=
  fun c hc => (List.pairwise_cons.1 h.csort).1 c hc

/-- The top is left, and something earlier is reached from it: it stays open. -/
theorem TB.pop_low {v : Int} {rest : List (Int × Nat)} (h : TB n E adj τ κ opn clock count ((v, (adj v).length) :: rest)) (hl : TL E adj τ l opn ((v, (adj v).length) :: rest)) (hne : l v ≠ τ v) :
    ∃ u j rest', rest = (u, j) :: rest' ∧ TB n E adj τ κ opn clock count rest ∧ ((∀ x, Vx n x → l' x = if x = u then min (l u) (l v) else l x) → TL E adj τ l' opn rest) := by
  have hvo := h.cgray (v, (adj v).length) (by simp)
  obtain ⟨hle, u0, hu0, htu, hru⟩ := hl.lows (v, (adj v).length) (by simp)
  simp only at hle htu hru
  have hlow : ∃ c ∈ rest, τ c.1 ≤ τ u0 ∧ Reach E u0 c.1 := by
    obtain ⟨c, hc, h1, h2⟩ := h.up u0 hu0
    rcases List.mem_cons.1 hc with rfl | hc
    · simp only at h1; omega
    · exact ⟨c, hc, h1, h2⟩
  have hbt := h.below_top
  match rest, h, hl, hlow, hbt with
  | [], _, _, ⟨c, hc, _⟩, _ => cases hc
  | (u, j) :: rest', h, hl, hlow, hbt =>
    have huo := h.cgray (u, j) (by simp)
    have hut := hbt (u, j) (by simp)
    simp only at hut huo
    refine ⟨u, j, rest', rfl, ?_, fun hl' => ?_⟩
    · refine ⟨h.eV, h.hadj, h.clk, h.tpos, h.tinj, h.oV, h.oiff, h.osort, h.kun, h.kcnt, h.cnt, h.used, fun c hc => h.cgray c (List.mem_cons_of_mem _ hc), (List.pairwise_cons.1 h.csort).2, fun c hc => h.cidx c (List.mem_cons_of_mem _ hc), h.done_black, fun c hc => h.grayE c (List.mem_cons_of_mem _ hc), h.fin, ?_, fun c hc => h.down c (List.mem_cons_of_mem _ hc), h.scc⟩
      intro w hw
      obtain ⟨c, hc, h1, h2⟩ := h.up w hw
      rcases List.mem_cons.1 hc with rfl | hc
      · obtain ⟨c0, hc0, h3, h4⟩ := hlow
        exact ⟨c0, hc0, by simp only at h1; omega, (h2.trans hru).trans h4⟩
      · exact ⟨c, hc, h1, h2⟩
    · have huV := h.oV u huo
      have hlu : l' u = min (l u) (l v) := by rw [hl' u huV, if_pos rfl]
      have hlc : ∀ c ∈ rest', l' c.1 = l c.1 := fun c hc => by
        have hs := List.pairwise_cons.1 (List.pairwise_cons.1 h.csort).2
        have h1 := hs.1 c hc
        rw [hl' _ (h.oV _ (h.cgray c (by simp [hc]))), if_neg]
        intro e
        rw [e] at h1; simp at h1
      refine ⟨?_, ?_⟩
      · intro c hc
        rcases List.mem_cons.1 hc with rfl | hc'
        · obtain ⟨h1, x, h2, h3, h4⟩ := hl.lows (u, j) (by simp)
          simp only at h1 h3 h4 ⊢
          rw [hlu]
          refine ⟨by omega, ?_⟩
          by_cases hm : l u ≤ l v
          · exact ⟨x, h2, by omega, h4⟩
          · exact ⟨u0, hu0, by omega, (h.down (u, j) (by simp) v hvo (by simp only; omega)).trans hru⟩
        · rw [hlc c hc']; exact hl.lows c (by simp [hc'])
      · intro c hc w hw hcw hseg x hx hp
        have hp' := Proc.done h hp
        rcases List.mem_cons.1 hc with rfl | hc'
        · simp only at hcw hseg ⊢
          rw [hlu]
          by_cases hv : τ v ≤ τ w
          · have := hl.lowc (v, (adj v).length) (by simp) w hw hv (fun c' hc' hlt => by have := h.top c' hc'; simp only at hlt; omega) x hx hp'
            simp only at this; omega
          · have := hl.lowc (u, j) (by simp) w hw hcw (fun c' hc' hlt => by
              rcases List.mem_cons.1 hc' with rfl | hc'
              · simp only; omega
              · exact hseg c' hc' hlt) x hx hp'
            simp only at this; omega
        · rw [hlc c hc']
          have hcu : τ c.1 < τ u := (List.pairwise_cons.1 (List.pairwise_cons.1 h.csort).2).1 c hc'
          have hwu := hseg (u, j) (by simp) hcu
          simp only at hwu
          exact hl.lowc c (by simp [hc']) w hw hcw (fun c' hc'' hlt => by
            rcases List.mem_cons.1 hc'' with rfl | hc''
            · simp only; omega
            · exact hseg c' hc'' hlt) x hx hp'

/-- The top is left, and nothing earlier is reached from it: it and what was found since are a component. -/
theorem TB.pop_scc {v : Int} {rest : List (Int × Nat)} (h : TB n E adj τ κ opn clock count ((v, (adj v).length) :: rest)) (hl : TL E adj τ l opn ((v, (adj v).length) :: rest)) (heq : l v = τ v) :
    ∃ pre post, opn = pre ++ v :: post ∧ v ∉ post ∧ (∀ κ' : Int → Int, (∀ x, Vx n x → κ' x = if x ∈ v :: post then count else κ x) → TB n E adj τ κ' pre clock (count + 1) rest ∧ TL E adj τ l pre rest) := by
  have hvo : v ∈ opn := h.cgray (v, (adj v).length) (by simp)
  obtain ⟨pre, post, hopn⟩ := List.append_of_mem hvo
  have hsort := h.osort
  rw [hopn] at hsort
  obtain ⟨s1, s2, s3⟩ := List.pairwise_append.1 hsort
  obtain ⟨s4, s5⟩ := List.pairwise_cons.1 s2
  have hpre : ∀ x ∈ pre, τ x < τ v := fun x hx => s3 x hx v (by simp)
  have hpost : ∀ x ∈ v :: post, τ v ≤ τ x := fun x hx => by
    rcases List.mem_cons.1 hx with rfl | hx
    · exact Int.le_refl _
    · have := s4 x hx; omega
  have hseg : ∀ x ∈ opn, τ v ≤ τ x → x ∈ v :: post := fun x hx hle => by
    rw [hopn] at hx
    rcases List.mem_append.1 hx with hx | hx
    · have := hpre x hx; omega
    · exact hx
  have hsub : ∀ x ∈ v :: post, x ∈ opn := fun x hx => by rw [hopn]; exact List.mem_append_right _ hx
  have hprs : ∀ x ∈ pre, x ∈ opn := fun x hx => by rw [hopn]; exact List.mem_append_left _ hx
  have hdis : ∀ x ∈ pre, x ∉ v :: post := fun x hx hx' => by have := hpre x hx; have := hpost x hx'; omega
  have hun : ∀ x ∈ opn, κ x < 0 := fun x hx => ((h.oiff x (h.oV x hx)).1 hx).2
  -- closed
  have k1 : ∀ w ∈ v :: post, ∀ x, E w x → x ∈ v :: post ∨ 0 ≤ κ x := by
    intro w hw x hx
    have hwo := hsub w hw
    have hwV := h.oV w hwo
    have hxV := h.eV w x hwV hx
    by_cases hk : 0 ≤ κ x
    · exact .inr hk
    · have hnr : ∀ c ∈ rest, c.1 ≠ w := fun c hc e => by
        have h1 := h.below_top c hc
        have h2 := hpost w hw
        rw [e] at h1; omega
      have hx0 := h.done_black w hwV ((h.oiff w hwV).1 hwo).1 hnr x hx
      have hxo := (h.oiff x hxV).2 ⟨hx0, by omega⟩
      have hp : Proc E adj ((v, (adj v).length) :: rest) w x := Proc.done h (.inr ⟨hnr, hx⟩)
      have := hl.lowc (v, (adj v).length) (by simp) w hwo (hpost w hw) (fun c' hc' hlt => by have := h.top c' hc'; simp only at hlt; omega) x hxo hp
      simp only at this
      exact .inl (hseg x hxo (by omega))
  have hclosed : ∀ a b, (a ∈ v :: post ∨ (Vx n a ∧ 0 ≤ κ a)) → E a b → (b ∈ v :: post ∨ (Vx n b ∧ 0 ≤ κ b)) := by
    intro a b ha hab
    rcases ha with ha | ⟨haV, ha⟩
    · have haV := h.oV a (hsub a ha)
      rcases k1 a ha b hab with h1 | h1
      · exact .inl h1
      · exact .inr ⟨h.eV a b haV hab, h1⟩
    · exact .inr ⟨h.eV a b haV hab, h.fin a b haV ha hab⟩
  have hfinc : ∀ a b, (Vx n a ∧ 0 ≤ κ a) → E a b → (Vx n b ∧ 0 ≤ κ b) := fun a b ⟨haV, ha⟩ hab => ⟨h.eV a b haV hab, h.fin a b haV ha hab⟩
  have k2 : ∀ w ∈ v :: post, Reach E v w := fun w hw => h.down (v, (adj v).length) (by simp) w (hsub w hw) (hpost w hw)
  have k3 : ∀ w ∈ v :: post, Reach E w v := by
    intro w hw
    obtain ⟨c, hc, h1, h2⟩ := h.up w (hsub w hw)
    have h3 := h2.closed (S := fun a => a ∈ v :: post ∨ (Vx n a ∧ 0 ≤ κ a)) hclosed (.inl hw)
    have hco := h.cgray c hc
    rcases h3 with h3 | ⟨_, h3⟩
    · have h4 := hpost _ h3
      rcases List.mem_cons.1 hc with rfl | hc
      · exact h2
      · have := h.below_top c hc; omega
    · have := hun _ hco; omega
  have k4 : ∀ a ∈ v :: post, ∀ x, Vx n x → Scc E a x → x ∈ v :: post := by
    intro a ha x hx hs
    rcases hs.1.closed (S := fun a => a ∈ v :: post ∨ (Vx n a ∧ 0 ≤ κ a)) hclosed (.inl ha) with h1 | h1
    · exact h1
    · have := hs.2.closed (S := fun a => Vx n a ∧ 0 ≤ κ a) hfinc h1
      have h2 := hun a (hsub a ha)
      omega
  refine ⟨pre, post, hopn, fun hm => by have := s4 v hm; omega, fun κ' hk => ?_⟩
  have hks : ∀ x ∈ v :: post, κ' x = count := fun x hx => by rw [hk x (h.oV x (hsub x hx)), if_pos hx]
  have hkn : ∀ x, Vx n x → x ∉ v :: post → κ' x = κ x := fun x hx hn => by rw [hk x hx, if_neg hn]
  have hcn := h.cnt
  refine ⟨⟨h.eV, h.hadj, h.clk, h.tpos, h.tinj, fun x hx => h.oV x (hprs x hx), ?_, s1, ?_, ?_, by omega, ?_, ?_, (List.pairwise_cons.1 h.csort).2, fun c hc => h.cidx c (List.mem_cons_of_mem _ hc), h.done_black,
    fun c hc => h.grayE c (List.mem_cons_of_mem _ hc), ?_, ?_, fun c hc w hw => h.down c (List.mem_cons_of_mem _ hc) w (hprs w hw), ?_⟩, ⟨?_, ?_⟩⟩
  · intro x hx
    by_cases hs : x ∈ v :: post
    · rw [hks x hs]
      constructor
      · intro hp; exact absurd hs (hdis x hp)
      · intro hp; omega
    · rw [hkn x hx hs, ← h.oiff x hx, hopn, List.mem_append]
      constructor
      · intro hp; exact .inl hp
      · rintro (hp | hp)
        · exact hp
        · exact absurd hp hs
  · intro x hx h0
    have hs : x ∉ v :: post := fun hs => ((h.oiff x hx).1 (hsub x hs)).1 h0
    rw [hkn x hx hs]; exact h.kun x hx h0
  · intro x hx
    by_cases hs : x ∈ v :: post
    · rw [hks x hs]; omega
    · rw [hkn x hx hs]; have := h.kcnt x hx; omega
  · intro k k0 k1'
    by_cases e : k = count
    · exact ⟨v, h.oV v hvo, by rw [hks v (by simp), e]⟩
    · obtain ⟨y, hy, hyk⟩ := h.used k k0 (by omega)
      refine ⟨y, hy, ?_⟩
      rw [hkn y hy (fun hs => by have := hun y (hsub y hs); omega)]; exact hyk
  · intro c hc
    have h1 := h.cgray c (List.mem_cons_of_mem _ hc)
    rw [hopn] at h1
    rcases List.mem_append.1 h1 with h1 | h1
    · exact h1
    · have h2 := hpost _ h1
      have h3 := h.below_top c hc
      omega
  · intro a x ha h0 hx
    by_cases hs : a ∈ v :: post
    · by_cases hs' : x ∈ v :: post
      · rw [hks x hs']; exact hcn
      · rw [hkn x (h.eV a x ha hx) hs']
        exact (k1 a hs x hx).resolve_left hs'
    · rw [hkn a ha hs] at h0
      by_cases hs' : x ∈ v :: post
      · rw [hks x hs']; exact hcn
      · rw [hkn x (h.eV a x ha hx) hs']; exact h.fin a x ha h0 hx
  · intro w hw
    obtain ⟨c, hc, h1, h2⟩ := h.up w (hprs w hw)
    rcases List.mem_cons.1 hc with rfl | hc
    · have := hpre w hw; simp only at h1; omega
    · exact ⟨c, hc, h1, h2⟩
  · intro a x ha hx h0
    by_cases hs : a ∈ v :: post
    · rw [hks a hs]
      by_cases hs' : x ∈ v :: post
      · rw [hks x hs']
        exact ⟨fun _ => ⟨(k3 a hs).trans (k2 x hs'), (k3 x hs').trans (k2 a hs)⟩, fun _ => rfl⟩
      · rw [hkn x hx hs']
        exact ⟨fun e => by have := h.kcnt x hx; omega, fun hsc => absurd (k4 a hs x hx hsc) hs'⟩
    · rw [hkn a ha hs] at h0 ⊢
      by_cases hs' : x ∈ v :: post
      · rw [hks x hs']
        exact ⟨fun e => by have := h.kcnt a ha; omega, fun hsc => absurd (k4 x hs' a ha hsc.symm) hs⟩
      · rw [hkn x hx hs']; exact h.scc a x ha hx h0
  · intro c hc
    obtain ⟨h1, u, h2, h3, h4⟩ := hl.lows c (List.mem_cons_of_mem _ hc)
    refine ⟨h1, u, ?_, h3, h4⟩
    have h5 := h.below_top c hc
    rw [hopn] at h2
    rcases List.mem_append.1 h2 with h2 | h2
    · exact h2
    · have := hpost u h2; omega
  · intro c hc w hw hcw hsg x hx hp
    refine hl.lowc c (List.mem_cons_of_mem _ hc) w (hprs w hw) hcw (fun c' hc' hlt => ?_) x (hprs x hx) (Proc.done h hp)
    rcases List.mem_cons.1 hc' with rfl | hc'
    · exact hpre w hw
    · exact hsg c' hc' hlt
end
end Go.Proofs.Ytefpglaipnnggaa
