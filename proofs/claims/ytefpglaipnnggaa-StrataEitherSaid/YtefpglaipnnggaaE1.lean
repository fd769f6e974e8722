/- Plain: the order of the components, told one by one; it is the only one; there is always one that may be told next. -/
import Derived.Test.YtefpglaipnnggaaC6
namespace Go.Proofs.Ytefpglaipnnggaa

/-- All predicates, rising. -/
def ps (n : Nat) : List Int := (List.range n).map (fun k : Nat => (k : Int))
theorem mem_ps {n : Nat} {x : Int} : x ∈ ps n ↔ Vx n x := by
  simp only [ps, List.mem_map, List.mem_range, Vx]
  constructor
  · rintro ⟨k, hk, rfl⟩; omega
  · rintro ⟨h1, h2⟩; exact ⟨x.toNat, by omega, by omega⟩
theorem ps_succ (n : Nat) : ps (n + 1) = ps n ++ [(n : Int)] := by simp [ps, List.range_succ]
theorem ps_length (n : Nat) : (ps n).length = n := by simp [ps]
theorem ps_sorted (n : Nat) : (ps n).Pairwise (· < ·) := by
  induction n with
  | zero => simp [ps]
  | succ n ih =>
    rw [ps_succ, List.pairwise_append]
    refine ⟨ih, by simp, fun a ha b hb => ?_⟩
    rw [List.mem_singleton.1 hb]
    exact (mem_ps.1 ha).2

theorem filter_lt {α : Type} (P Q : α → Bool) : ∀ (l : List α), (∀ x ∈ l, P x = true → Q x = true) → (∃ x ∈ l, Q x = true ∧ P x = false) → (l.filter P).length < (l.filter Q).length
  | [], _, h => by obtain ⟨x, hx, _⟩ := h; cases hx
  | a :: l, hi, hx => by
    have hle : ∀ (l : List α), (∀ x ∈ l, P x = true → Q x = true) → (l.filter P).length ≤ (l.filter Q).length := by
      intro l
      induction l with
      | nil => intro _; exact Nat.le_refl _
      | cons b l ih =>
        intro h
        have h1 := ih (fun x hx => h x (List.mem_cons_of_mem _ hx))
        have h2 := h b (by simp)
        simp only [List.filter_cons]
        split <;> split <;> simp_all <;> omega
    have hi' : ∀ x ∈ l, P x = true → Q x = true := fun x hx => hi x (List.mem_cons_of_mem _ hx)
    obtain ⟨x, hx, hq, hp⟩ := hx
    rcases List.mem_cons.1 hx with rfl | hx
    · have := hle l hi'
      simp only [List.filter_cons, hq, hp, if_true]
      simp; omega
    · have ih := filter_lt P Q l hi' ⟨x, hx, hq, hp⟩
      have h2 := hi a (by simp)
      simp only [List.filter_cons]
      split <;> split <;> simp_all <;> omega

theorem nodup_le {α : Type} [DecidableEq α] : ∀ (l m : List α), l.Nodup → (∀ x ∈ l, x ∈ m) → l.length ≤ m.length
  | [], _, _, _ => by simp
  | a :: l, m, hn, hs => by
    obtain ⟨h1, h2⟩ := List.nodup_cons.1 hn
    have ha := hs a (by simp)
    have ih := nodup_le l (m.erase a) h2 (fun x hx => (List.mem_erase_of_ne (fun e => h1 (by rw [← e]; exact hx))).2 (hs x (List.mem_cons_of_mem _ hx)))
    rw [List.length_erase_of_mem ha] at ih
    have := List.length_pos_of_mem ha
    simp only [List.length_cons]; omega

/-- Some list of the lists holds it. -/
def Told (out : List (List Int)) (p : Int) : Prop := ∃ l ∈ out, p ∈ l
/-- It may be told next: it is not told; all edges into its component from others come from such as are told. -/
def Ready (n : Nat) (es : List E) (T : Int → Prop) (p : Int) : Prop := Vx n p ∧ ¬ T p ∧ ∀ e ∈ es, Scc (Eg es) e.t p → ¬ Scc (Eg es) e.f p → T e.f
open Classical in
noncomputable def cls (n : Nat) (E : Int → Int → Prop) (p : Int) : List Int := (ps n).filter (fun q => decide (Scc E p q))

inductive Steps (n : Nat) (es : List E) : List (List Int) → Prop
  | nil : Steps n es []
  | snoc {out : List (List Int)} {p : Int} : Steps n es out → Ready n es (Told out) p → (∀ q, Ready n es (Told out) q → p ≤ q) → Steps n es (out ++ [cls n (Eg es) p])

theorem Steps.unique {n : Nat} {es : List E} {a : List (List Int)} (ha : Steps n es a) : ∀ {b}, Steps n es b → a.length = b.length → a = b := by
  induction ha with
  | nil => intro b _ hl; exact (List.eq_nil_of_length_eq_zero (by simpa using hl.symm)).symm
  | snoc h1 h2 h3 ih =>
    intro b hb hl
    cases hb with
    | nil => simp at hl
    | snoc k1 k2 k3 =>
      have e := ih k1 (by simpa using hl)
      subst e
      rw [Int.le_antisymm (h3 _ k2) (k3 _ h2)]

theorem Steps.before {n : Nat} {es : List E} {b : List (List Int)} (hb : Steps n es b) : ∀ k, k < b.length → Steps n es (b.take k) ∧ ∃ p, Ready n es (Told (b.take k)) p := by
  induction hb with
  | nil => intro k hk; simp at hk
  | @snoc out p h1 h2 h3 ih =>
    intro k hk
    simp only [List.length_append, List.length_singleton] at hk
    rw [List.take_append_of_le_length (by omega)]
    by_cases e : k = out.length
    · rw [e, List.take_length]; exact ⟨h1, p, h2⟩
    · exact ih k (by omega)

/-- All components, told in order. -/
def Done (n : Nat) (es : List E) (out : List (List Int)) : Prop := Steps n es out ∧ ∀ v, Vx n v → Told out v
theorem Done.unique {n : Nat} {es : List E} {a b : List (List Int)} (ha : Done n es a) (hb : Done n es b) : a = b := by
  have key : ∀ {a b : List (List Int)}, Done n es a → Done n es b → ¬ a.length < b.length := by
    intro a b ha hb hlt
    obtain ⟨h1, p, h2⟩ := hb.1.before _ hlt
    have e := ha.1.unique h1 (by rw [List.length_take]; omega)
    rw [← e] at h2
    exact h2.2.1 (ha.2 p h2.1)
  exact ha.1.unique hb.1 (by have := key ha hb; have := key hb ha; omega)

/-- Where one is not told, one may be told. -/
theorem progress {n : Nat} {es : List E} (hf : Fits n es) (T : Int → Prop) : ∀ (k : Nat) (p : Int), Vx n p → ¬ T p → (∀ m : List Int, m = (ps n).filter (fun q => @decide (Reach (Eg es) q p) (Classical.propDecidable _)) → m.length ≤ k) → ∃ q, Ready n es T q
  | 0, p, hv, _, hm => by
    exfalso
    have := hm _ rfl
    have h : p ∈ (ps n).filter (fun q => @decide (Reach (Eg es) q p) (Classical.propDecidable _)) := List.mem_filter.2 ⟨mem_ps.2 hv, by simpa using Reach.refl p⟩
    have := List.length_pos_of_mem h
    omega
  | k + 1, p, hv, ht, hm => by
    by_cases hr : ∀ e ∈ es, Scc (Eg es) e.t p → ¬ Scc (Eg es) e.f p → T e.f
    · exact ⟨p, hv, ht, hr⟩
    · simp only [Classical.not_forall] at hr
      obtain ⟨e, he, h1, h2, h3⟩ := hr
      have hok := hf.2.2 e he
      have hef : Eg es e.f e.t := ⟨e, he, rfl, rfl⟩
      have hrp : Reach (Eg es) e.f p := (Reach.step hef).trans h1.1
      refine progress hf T k e.f ⟨hok.1, hok.2.1⟩ h3 (fun m hm2 => ?_)
      subst hm2
      have := hm _ rfl
      have hlt := filter_lt (fun q => @decide (Reach (Eg es) q e.f) (Classical.propDecidable _)) (fun q => @decide (Reach (Eg es) q p) (Classical.propDecidable _)) (ps n)
        (fun x _ h => by simp only [decide_eq_true_eq] at h ⊢; exact h.trans hrp)
        ⟨p, mem_ps.2 hv, by simpa using Reach.refl p, by simp only [decide_eq_false_iff_not]; exact fun h => h2 ⟨hrp, h⟩⟩
      omega

theorem progress' {n : Nat} {es : List E} (hf : Fits n es) {T : Int → Prop} {p : Int} (hv : Vx n p) (ht : ¬ T p) : ∃ q, Ready n es T q :=
  progress hf T _ p hv ht (fun m hm => Nat.le_of_eq (by rw [hm]))

section
variable {n : Nat} {es : List E} {κ : Int → Int} {count : Int}

/-- The members of a component. -/
def mem (n : Nat) (κ : Int → Int) (c : Int) : List Int := (ps n).filter (fun v => κ v == c)
theorem mem_mem {v c : Int} : v ∈ mem n κ c ↔ Vx n v ∧ κ v = c := by simp [mem, mem_ps]
theorem mem_sorted (c : Int) : (mem n κ c).Pairwise (· < ·) := List.Pairwise.filter _ (ps_sorted n)
theorem mem_snoc (k : Nat) (c : Int) : mem (k + 1) κ c = if κ k = c then mem k κ c ++ [(k : Int)] else mem k κ c := by
  unfold mem
  rw [ps_succ, List.filter_append]
  by_cases h : κ k = c <;> simp [h]
theorem hd_mem (h : Part n (Eg es) κ count) {c : Int} (h0 : 0 ≤ c) (h1 : c < count) : ∃ v rest, mem n κ c = v :: rest ∧ Vx n v ∧ κ v = c ∧ ∀ x, Vx n x → κ x = c → v ≤ x := by
  obtain ⟨v, hv, hc⟩ := h.used c h0 h1
  have hm : v ∈ mem n κ c := mem_mem.2 ⟨hv, hc⟩
  cases hl : mem n κ c with
  | nil => rw [hl] at hm; cases hm
  | cons a l =>
    have ha : a ∈ mem n κ c := by rw [hl]; simp
    obtain ⟨ha1, ha2⟩ := mem_mem.1 ha
    refine ⟨a, l, rfl, ha1, ha2, fun x hx hxc => ?_⟩
    have hxm : x ∈ mem n κ c := mem_mem.2 ⟨hx, hxc⟩
    have hs := mem_sorted (n := n) (κ := κ) c
    rw [hl] at hxm hs
    rcases List.mem_cons.1 hxm with rfl | hxl
    · exact Int.le_refl _
    · exact Int.le_of_lt ((List.pairwise_cons.1 hs).1 x hxl)

theorem cls_mem (h : Part n (Eg es) κ count) {p : Int} (hp : Vx n p) : cls n (Eg es) p = mem n κ (κ p) := by
  unfold cls mem
  apply List.filter_congr
  intro q hq
  have := h.scc p q hp (mem_ps.1 hq)
  by_cases e : κ p = κ q
  · have h2 := this.1 e
    simp [e, h2]
  · have h2 : ¬ Scc (Eg es) p q := fun x => e (this.2 x)
    have h3 : ¬ κ q = κ p := fun x => e x.symm
    simp [h2, h3]

theorem told_ch {ch : List Int} {v : Int} : Told (ch.map (mem n κ)) v ↔ Vx n v ∧ κ v ∈ ch := by
  simp only [Told, List.mem_map]
  constructor
  · rintro ⟨l, ⟨c, hc, rfl⟩, hv⟩
    obtain ⟨h1, h2⟩ := mem_mem.1 hv
    exact ⟨h1, h2 ▸ hc⟩
  · rintro ⟨h1, h2⟩; exact ⟨_, ⟨_, h2, rfl⟩, mem_mem.2 ⟨h1, rfl⟩⟩

/-- A component that may be told next. -/
def CR (es : List E) (κ : Int → Int) (ch : List Int) (c : Int) : Prop := c ∉ ch ∧ ∀ e ∈ es, κ e.t = c → κ e.f ≠ c → κ e.f ∈ ch
theorem ready_ch (hf : Fits n es) (h : Part n (Eg es) κ count) {ch : List Int} {p : Int} : Ready n es (Told (ch.map (mem n κ))) p ↔ Vx n p ∧ CR es κ ch (κ p) := by
  constructor
  · rintro ⟨h1, h2, h3⟩
    refine ⟨h1, fun hc => h2 (told_ch.2 ⟨h1, hc⟩), fun e he ht hne => ?_⟩
    have hok := hf.2.2 e he
    exact (told_ch.1 (h3 e he ((h.scc e.t p ⟨hok.2.2.1, hok.2.2.2⟩ h1).1 ht) (fun hs => hne ((h.scc e.f p ⟨hok.1, hok.2.1⟩ h1).2 hs)))).2
  · rintro ⟨h1, h2, h3⟩
    refine ⟨h1, fun ht => h2 (told_ch.1 ht).2, fun e he ht hne => ?_⟩
    have hok := hf.2.2 e he
    exact told_ch.2 ⟨⟨hok.1, hok.2.1⟩, h3 e he ((h.scc e.t p ⟨hok.2.2.1, hok.2.2.2⟩ h1).2 ht) (fun hs => hne ((h.scc e.f p ⟨hok.1, hok.2.1⟩ h1).1 hs))⟩

theorem steps_next (hf : Fits n es) (h : Part n (Eg es) κ count) {ch : List Int} {b v : Int} {rest : List Int} (hs : Steps n es (ch.map (mem n κ))) (hb : CR es κ ch b) (hv : mem n κ b = v :: rest)
    (hmin : ∀ c, 0 ≤ c → c < count → CR es κ ch c → ∀ u r, mem n κ c = u :: r → v ≤ u) : Steps n es ((ch ++ [b]).map (mem n κ)) := by
  have hvm : v ∈ mem n κ b := by rw [hv]; simp
  obtain ⟨hv1, hv2⟩ := mem_mem.1 hvm
  have e : (ch ++ [b]).map (mem n κ) = ch.map (mem n κ) ++ [cls n (Eg es) v] := by rw [cls_mem h hv1, hv2, List.map_append]; rfl
  rw [e]
  refine .snoc hs ((ready_ch hf h).2 ⟨hv1, by rw [hv2]; exact hb⟩) (fun q hq => ?_)
  obtain ⟨hq1, hq2⟩ := (ready_ch hf h).1 hq
  have hr := h.rng q hq1
  obtain ⟨u, r, hu, _, _, hu3⟩ := hd_mem h hr.1 hr.2
  exact Int.le_trans (hmin _ hr.1 hr.2 hq2 u r hu) (hu3 q hq1 rfl)

theorem cr_some (hf : Fits n es) (h : Part n (Eg es) κ count) {ch : List Int} (hl : (ch.length : Int) < count) : ∃ c, 0 ≤ c ∧ c < count ∧ CR es κ ch c := by
  have hex : ∃ c, 0 ≤ c ∧ c < count ∧ c ∉ ch := by
    by_cases hx : ∃ c, 0 ≤ c ∧ c < count ∧ c ∉ ch
    · exact hx
    · exfalso
      have hall : ∀ c ∈ ps count.toNat, c ∈ ch := fun c hc => by
        obtain ⟨h1, h2⟩ := mem_ps.1 hc
        by_cases hm : c ∈ ch
        · exact hm
        · exact absurd ⟨c, h1, by omega, hm⟩ hx
      have := nodup_le (ps count.toNat) ch ((ps_sorted _).imp (fun h e => by omega)) hall
      rw [ps_length] at this
      omega
  obtain ⟨c, hc0, hc1, hc2⟩ := hex
  obtain ⟨v, hv, hvc⟩ := h.used c hc0 hc1
  obtain ⟨q, hq⟩ := progress' hf (T := Told (ch.map (mem n κ))) hv (fun ht => hc2 (hvc ▸ (told_ch.1 ht).2))
  obtain ⟨hq1, hq2⟩ := (ready_ch hf h).1 hq
  exact ⟨κ q, (h.rng q hq1).1, (h.rng q hq1).2, hq2⟩

theorem done_ch {ch : List Int} (hs : Steps n es (ch.map (mem n κ))) (h : Part n (Eg es) κ count) (hd : ch.Nodup) (hin : ∀ c ∈ ch, 0 ≤ c ∧ c < count) (hl : count ≤ ch.length) : Done n es (ch.map (mem n κ)) := by
  refine ⟨hs, fun v hv => told_ch.2 ⟨hv, ?_⟩⟩
  by_cases hm : κ v ∈ ch
  · exact hm
  · exfalso
    have hr := h.rng v hv
    have := nodup_le (κ v :: ch) (ps count.toNat) (List.nodup_cons.2 ⟨hm, hd⟩) (fun x hx => by
      rw [mem_ps]
      rcases List.mem_cons.1 hx with rfl | hx
      · exact ⟨hr.1, by omega⟩
      · have := hin x hx; exact ⟨this.1, by omega⟩)
    rw [ps_length, List.length_cons] at this
    omega

/-- How many edges a component waits for. -/
def W (κ : Int → Int) (ch : List Int) (l : List E) (c : Int) : Nat := (l.filter (fun e => κ e.t == c && (κ e.f != c && !ch.contains (κ e.f)))).length
def D (κ : Int → Int) (b : Int) (l : List E) (c : Int) : Nat := (l.filter (fun e => κ e.f == b && (κ e.t != b && κ e.t == c))).length
theorem W_zero {ch : List Int} {c : Int} : W κ ch es c = 0 ↔ ∀ e ∈ es, κ e.t = c → κ e.f ≠ c → κ e.f ∈ ch := by
  unfold W
  rw [List.length_eq_zero_iff, List.filter_eq_nil_iff]
  constructor
  · intro h e he h1 h2
    have := h e he
    by_cases hm : κ e.f ∈ ch
    · exact hm
    · exact absurd (by simp [h1, h2, hm]) this
  · intro h e he hx
    simp only [Bool.and_eq_true, beq_iff_eq, bne_iff_ne, Bool.not_eq_true', List.contains_eq_mem, decide_eq_false_iff_not] at hx
    exact hx.2.2 (h e he hx.1 hx.2.1)
theorem W_D {κ : Int → Int} {ch : List Int} {b c : Int} (hb : b ∉ ch) : ∀ (l : List E), W κ ch l c = W κ (ch ++ [b]) l c + D κ b l c
  | [] => rfl
  | e :: l => by
    have ih := W_D (κ := κ) (c := c) hb l
    unfold W D at ih ⊢
    simp only [List.filter_cons, List.contains_eq_mem, List.mem_append, List.mem_singleton]
    by_cases h1 : κ e.t = c <;> by_cases h2 : κ e.f = b <;> by_cases h3 : κ e.f = c <;> by_cases h4 : κ e.f ∈ ch <;> by_cases h5 : c = b <;> simp_all <;> omega
theorem W_snoc (ch : List Int) (l : List E) (e : E) (c : Int) : W κ ch (l ++ [e]) c = W κ ch l c + (if κ e.t == c && (κ e.f != c && !ch.contains (κ e.f)) then 1 else 0) := by
  unfold W; rw [List.filter_append, List.length_append]; simp only [List.filter_cons, List.filter_nil]; split <;> rfl
theorem D_snoc (b : Int) (l : List E) (e : E) (c : Int) : D κ b (l ++ [e]) c = D κ b l c + (if κ e.f == b && (κ e.t != b && κ e.t == c) then 1 else 0) := by
  unfold D; rw [List.filter_append, List.length_append]; simp only [List.filter_cons, List.filter_nil]; split <;> rfl
theorem W_le (ch : List Int) (l : List E) (c : Int) : W κ ch l c ≤ l.length := List.length_filter_le _ _
end
end Go.Proofs.Ytefpglaipnnggaa
