/- Plain: distances to a goal, and the shortest way there. -/
import Derived.Test.YtefpglaipnnggaaH2
namespace Go.Proofs.Ytefpglaipnnggaa

/-- The distance of v to the goal g. -/
def Dd (es : List E) (g v : Int) (k : Nat) : Prop := RN (Eg es) k v g ∧ ∀ j, j < k → ¬ RN (Eg es) j v g
section
variable {es : List E} {g v : Int} {n : Nat}
theorem Dd.unique {k k' : Nat} (h : Dd es g v k) (h' : Dd es g v k') : k = k' := by
  rcases Nat.lt_trichotomy k k' with h1 | h1 | h1
  · exact absurd h.1 (h'.2 _ h1)
  · exact h1
  · exact absurd h'.1 (h.2 _ h1)
theorem Dd.of_RN : ∀ {k : Nat}, RN (Eg es) k v g → ∃ j, j ≤ k ∧ Dd es g v j := by
  intro k
  induction k using Nat.strongRecOn with
  | _ k ih =>
    intro h
    by_cases h1 : ∃ j, j < k ∧ RN (Eg es) j v g
    · obtain ⟨j, hj, h2⟩ := h1
      obtain ⟨i, hi, h3⟩ := ih j hj h2
      exact ⟨i, by omega, h3⟩
    · exact ⟨k, Nat.le_refl _, h, fun j hj h2 => h1 ⟨j, hj, h2⟩⟩
theorem Dd.zero : Dd es g g 0 := ⟨rfl, fun _ hj => absurd hj (Nat.not_lt_zero _)⟩
theorem Dd.zero_iff {k : Nat} (h : Dd es g v k) : k = 0 ↔ v = g := by
  constructor
  · rintro rfl; exact h.1
  · rintro rfl; exact h.unique Dd.zero
theorem Dd.next {k : Nat} (h : Dd es g v (k + 1)) : ∃ e ∈ es, e.f = v ∧ Dd es g e.t k := by
  obtain ⟨⟨x, ⟨e, he, h1, h2⟩, h3⟩, h4⟩ := h
  subst h1 h2
  exact ⟨e, he, rfl, h3, fun j hj h5 => h4 (j + 1) (by omega) ⟨e.t, ⟨e, he, rfl, rfl⟩, h5⟩⟩
theorem Dd.lt (hf : Fits n es) {k : Nat} (hv : Vx n v) (h : Dd es g v k) : k < n := by
  have key : ∀ (k : Nat) (v : Int), Vx n v → Dd es g v k → ∃ L : List Int, L.length = k + 1 ∧ L.Nodup ∧ (∀ x ∈ L, Vx n x) ∧ ∀ x ∈ L, ∃ j, j ≤ k ∧ Dd es g x j := by
    intro k
    induction k with
    | zero => exact fun v hv h => ⟨[v], rfl, by simp, by simpa using hv, fun x hx => by rw [List.mem_singleton.1 hx]; exact ⟨0, Nat.le_refl _, h⟩⟩
    | succ k ih =>
      intro v hv h
      obtain ⟨e, he, h1, h2⟩ := h.next
      have hok := hf.2.2 e he
      obtain ⟨L, l1, l2, l3, l4⟩ := ih e.t ⟨hok.2.2.1, hok.2.2.2⟩ h2
      refine ⟨v :: L, by simp [l1], List.nodup_cons.2 ⟨fun hm => ?_, l2⟩, fun x hx => ?_, fun x hx => ?_⟩
      · obtain ⟨j, hj, h3⟩ := l4 v hm
        have := h3.unique h
        omega
      · rcases List.mem_cons.1 hx with rfl | hx
        · exact hv
        · exact l3 x hx
      · rcases List.mem_cons.1 hx with rfl | hx
        · exact ⟨k + 1, Nat.le_refl _, h⟩
        · obtain ⟨j, hj, h3⟩ := l4 x hx
          exact ⟨j, by omega, h3⟩
  obtain ⟨L, l1, l2, l3, _⟩ := key k v hv h
  have h1 := nodup_le L (ps n) l2 (fun x hx => mem_ps.2 (l3 x hx))
  rw [ps_length] at h1
  omega
end

/-- The distances while they are written: s stands for none yet. -/
structure FAR (n : Nat) (es : List E) (g s : Int) (r : Nat) (done : List E) (l : List Int) : Prop where
  len : l.length = n
  sound : ∀ v, Vx n v → lv l v = s ∨ ∃ k : Nat, lv l v = k ∧ Dd es g v k
  comp : ∀ v, Vx n v → ∀ k, k ≤ r → Dd es g v k → lv l v ≠ s
  part : ∀ e ∈ done, Dd es g e.t r → lv l e.f ≠ s
def Sent (n : Nat) (s : Int) : Prop := s = n ∨ s = -1
section
variable {n : Nat} {es : List E} {g s : Int} {r : Nat} {done : List E} {l : List Int}
theorem FAR.first (_hf : Fits n es) (hs : Sent n s) (hg : Vx n g) (hl : l.length = n) (h : ∀ v, Vx n v → lv l v = if v = g then 0 else s) : FAR n es g s 0 [] l := by
  refine ⟨hl, fun v hv => ?_, fun v hv k hk hd => ?_, fun e he => by simp at he⟩
  · rw [h v hv]
    split
    · rename_i e; subst e; exact .inr ⟨0, rfl, Dd.zero⟩
    · exact .inl rfl
  · have : k = 0 := by omega
    rw [h v hv, if_pos (hd.zero_iff.1 this)]
    have := hg.1
    have := hg.2
    rcases hs with rfl | rfl <;> omega
theorem FAR.step (hf : Fits n es) (h : FAR n es g s r done l) (hsn : Sent n s) {e : E} (he : e ∈ es) (ht : lv l e.t = r) (hrn : (r : Int) ≠ s) (hs : lv l e.f = s) : FAR n es g s r (done ++ [e]) (l.set e.f.toNat ((r : Int) + 1)) := by
  have hok := hf.2.2 e he
  have hvf : Vx n e.f := ⟨hok.1, hok.2.1⟩
  have hvt : Vx n e.t := ⟨hok.2.2.1, hok.2.2.2⟩
  have hlt : e.f.toNat < l.length := by have := h.len; have := hvf.1; have := hvf.2; omega
  have hdt : Dd es g e.t r := by
    rcases h.sound e.t hvt with h1 | ⟨k, h1, h2⟩
    · omega
    · have : k = r := by omega
      rw [← this]; exact h2
  have hdf : Dd es g e.f (r + 1) := by
    refine ⟨⟨e.t, ⟨e, he, rfl, rfl⟩, hdt.1⟩, fun j hj h1 => ?_⟩
    obtain ⟨i, hi, h2⟩ := Dd.of_RN h1
    exact h.comp e.f hvf i (by omega) h2 hs
  have hr1 : ((r : Int) + 1) ≠ s := by
    have := hdf.lt hf hvf
    rcases hsn with rfl | rfl <;> omega
  refine ⟨by simpa using h.len, fun v hv => ?_, fun v hv k hk hd => ?_, fun e' he' hd => ?_⟩
  · rw [lv_set hlt]
    split
    · rename_i e1
      have : v = e.f := by have := hv.1; have := hvf.1; omega
      subst this
      exact .inr ⟨r + 1, by omega, hdf⟩
    · exact h.sound v hv
  · rw [lv_set hlt]
    split
    · exact hr1
    · exact h.comp v hv k hk hd
  · rw [lv_set hlt]
    split
    · exact hr1
    · rename_i hne
      rcases List.mem_append.1 he' with he' | he'
      · exact h.part e' he' hd
      · rw [List.mem_singleton.1 he'] at hne; exact absurd rfl hne
theorem FAR.skip (hf : Fits n es) (h : FAR n es g s r done l) {e : E} (he : e ∈ es) (hne : ¬ (lv l e.t = r ∧ lv l e.f = s)) : FAR n es g s r (done ++ [e]) l := by
  have hok := hf.2.2 e he
  have hvt : Vx n e.t := ⟨hok.2.2.1, hok.2.2.2⟩
  refine ⟨h.len, h.sound, h.comp, fun e' he' hd => ?_⟩
  rcases List.mem_append.1 he' with he' | he'
  · exact h.part e' he' hd
  · rw [List.mem_singleton.1 he'] at hd ⊢
    intro hs
    refine hne ⟨?_, hs⟩
    rcases h.sound e.t hvt with h1 | ⟨k, h1, h2⟩
    · exact absurd h1 (h.comp e.t hvt r (Nat.le_refl _) hd)
    · have := h2.unique hd
      omega
theorem FAR.gtr (hf : Fits n es) (h : FAR n es g n r done l) {e : E} (he : e ∈ es) (hr : r < n) (ht : lv l e.t = r) : ((r : Int) + 1 < lv l e.f) ↔ lv l e.f = n := by
  have hok := hf.2.2 e he
  have hvf : Vx n e.f := ⟨hok.1, hok.2.1⟩
  have hvt : Vx n e.t := ⟨hok.2.2.1, hok.2.2.2⟩
  have hdt : Dd es g e.t r := by
    rcases h.sound e.t hvt with h1 | ⟨k, h1, h2⟩
    · omega
    · have : k = r := by omega
      rw [← this]; exact h2
  have hrn : RN (Eg es) (r + 1) e.f g := ⟨e.t, ⟨e, he, rfl, rfl⟩, hdt.1⟩
  obtain ⟨j, hj, hd⟩ := Dd.of_RN hrn
  have hjn := hd.lt hf hvf
  constructor
  · intro h1
    rcases h.sound e.f hvf with h2 | ⟨k, h2, h3⟩
    · exact h2
    · have := h3.unique hd
      omega
  · intro h1
    have : ¬ j ≤ r := fun h2 => h.comp e.f hvf j h2 hd h1
    omega
theorem FAR.neg (h : FAR n es g (-1) r done l) {v : Int} (hv : Vx n v) : lv l v < 0 ↔ lv l v = -1 := by
  rcases h.sound v hv with h1 | ⟨k, h1, _⟩ <;> omega
theorem FAR.round (_hf : Fits n es) (h : FAR n es g s r es l) : FAR n es g s (r + 1) [] l := by
  refine ⟨h.len, h.sound, fun v hv k hk hd => ?_, fun e he => by simp at he⟩
  by_cases h1 : k ≤ r
  · exact h.comp v hv k h1 hd
  · have : k = r + 1 := by omega
    subst this
    obtain ⟨e, he, h2, h3⟩ := hd.next
    rw [← h2]
    exact h.part e he h3
end
/-- The distances, written. -/
def Far (n : Nat) (es : List E) (g s : Int) (l : List Int) : Prop := l.length = n ∧ ∀ v, Vx n v → (lv l v = s ∧ ∀ k, ¬ Dd es g v k) ∨ ∃ k : Nat, lv l v = k ∧ k < n ∧ Dd es g v k
theorem FAR.last {n : Nat} {es : List E} {g s : Int} {r : Nat} {done : List E} {l : List Int} (hf : Fits n es) (h : FAR n es g s r done l) (hr : n ≤ r) : Far n es g s l :=
  ⟨h.len, fun v hv => by
    rcases h.sound v hv with h1 | ⟨k, h1, h2⟩
    · exact .inl ⟨h1, fun k hk => h.comp v hv k (by have := hk.lt hf hv; omega) hk h1⟩
    · exact .inr ⟨k, h1, h2.lt hf hv, h2⟩⟩
section
variable {n : Nat} {es : List E} {g s : Int} {l : List Int}
theorem Far.eq (h : Far n es g s l) {v : Int} (hv : Vx n v) {k : Nat} (hd : Dd es g v k) : lv l v = k := by
  rcases h.2 v hv with ⟨_, h2⟩ | ⟨j, h1, _, h2⟩
  · exact absurd hd (h2 k)
  · rw [h1, h2.unique hd]

/-- One step nearer. -/
def Nx (es : List E) (g a : Int) (e : E) : Prop := e.f = a ∧ ∃ k, Dd es g a (k + 1) ∧ Dd es g e.t k
theorem Far.nx (h : Far n es g s l) (hs : Sent n s) {e : E} (hok : okE n e) {a : Int} {k : Nat} (hk : k < n) (hd : Dd es g a (k + 1)) : (e.f = a ∧ lv l e.t = k) ↔ Nx es g a e := by
  have hvt : Vx n e.t := ⟨hok.2.2.1, hok.2.2.2⟩
  constructor
  · rintro ⟨h1, h2⟩
    refine ⟨h1, k, hd, ?_⟩
    rcases h.2 _ hvt with ⟨h3, _⟩ | ⟨j, h3, _, h4⟩
    · rcases hs with rfl | rfl <;> omega
    · have : j = k := by omega
      rw [← this]; exact h4
  · rintro ⟨h1, j, h2, h3⟩
    have : j = k := by have := h2.unique hd; omega
    subst this
    exact ⟨h1, h.eq hvt h3⟩
end
/-- The shortest way, by the first edge that leads nearer. -/
def Wy (es : List E) (g : Int) : Int → List Int → Prop
  | a, [] => a = g
  | a, i :: rest => a ≠ g ∧ ∃ j : Nat, ∃ hj : j < es.length, i = j ∧ Nx es g a es[j] ∧ (∀ q, (hq : q < j) → ¬ Nx es g a (es[q]'(Nat.lt_trans hq hj))) ∧ Wy es g es[j].t rest
theorem Wy.unique {es : List E} {g : Int} : ∀ {l l' : List Int} {a : Int}, Wy es g a l → Wy es g a l' → l = l'
  | [], [], _, _, _ => rfl
  | [], _ :: _, _, h, h' => absurd h h'.1
  | _ :: _, [], _, h, h' => absurd h' h.1
  | i :: l, i' :: l', a, h, h' => by
    obtain ⟨_, j, hj, rfl, h1, h2, h3⟩ := h
    obtain ⟨_, j', hj', rfl, h1', h2', h3'⟩ := h'
    have : j = j' := by
      rcases Nat.lt_trichotomy j j' with h4 | h4 | h4
      · exact absurd h1 (h2' j h4)
      · exact h4
      · exact absurd h1' (h2 j' h4)
    subst this
    rw [Wy.unique h3 h3']
theorem Wy.small {es : List E} {g : Int} : ∀ {l : List Int} {a : Int}, Wy es g a l → Dd es g a l.length
  | [], a, h => by cases h; exact Dd.zero
  | i :: l, a, h => by
    obtain ⟨_, j, hj, rfl, ⟨h1, k, h2, h2'⟩, _, h3⟩ := h
    have h4 := Wy.small h3
    have : k = l.length := h2'.unique h4
    subst this
    exact h2

/-- The answer of Cycle: the ring, the error. -/
def Ring (x : Int) (es : List E) (l : List Int) (code : Int) : Prop :=
  (∃ n : Nat, x = n ∧ Fits n es ∧ NoBad es ∧ l = [] ∧ code = 0) ∨
  (∃ n b : Nat, ∃ hb : b < es.length, x = n ∧ Fits n es ∧ badAt es = b ∧ (∃ rest, l = (b : Int) :: rest ∧ Wy es es[b].f es[b].t rest) ∧ code = 0) ∨
  (¬ Fits x es ∧ l = [] ∧ code = 2)
theorem Ring.unique {x : Int} {es : List E} {l l' : List Int} {c c' : Int} (h : Ring x es l c) (h' : Ring x es l' c') : l = l' ∧ c = c' := by
  have bad : ∀ b : Nat, badAt es = b → ¬ NoBad es := fun b hb hn => by have := badAt_neg.2 hn; omega
  rcases h with ⟨n, rfl, h1, h2, h3, h4⟩ | ⟨n, b, hb, rfl, h1, h2, ⟨r, h3, h4⟩, h5⟩ | ⟨h1, h2, h3⟩ <;> rcases h' with ⟨n', e, k1, k2, k3, k4⟩ | ⟨n', b', hb', e, k1, k2, ⟨r', k3, k4⟩, k5⟩ | ⟨k1, k2, k3⟩
  · exact ⟨by rw [h3, k3], by omega⟩
  · exact absurd h2 (bad _ k2)
  · exact absurd h1 k1
  · exact absurd k2 (bad _ h2)
  · have : b = b' := by omega
    subst this
    exact ⟨by rw [h3, k3, h4.unique k4], by omega⟩
  · exact absurd h1 k1
  · rw [e] at h1; exact absurd k1 h1
  · rw [e] at h1; exact absurd k1 h1
  · exact ⟨by rw [h2, k2], by omega⟩
theorem Ring.small {x : Int} {es : List E} {l : List Int} {c : Int} (h : Ring x es l c) : l.length ≤ 128 := by
  rcases h with ⟨n, rfl, h1, h2, h3, h4⟩ | ⟨n, b, hb, rfl, h1, h2, ⟨r, h3, h4⟩, h5⟩ | ⟨h1, h2, h3⟩
  · rw [h3]; simp
  · have hok := h1.2.2 _ (List.getElem_mem hb)
    have h6 := h4.small.lt h1 ⟨hok.2.2.1, hok.2.2.2⟩
    have := h1.2.1
    rw [h3, List.length_cons]; omega
  · rw [h2]; simp
/-- The bad edge: its end reaches its beginning. -/
theorem bad_edge {es : List E} (h : ¬ NoBad es) : ∃ b : Nat, ∃ hb : b < es.length, badAt es = b ∧ ∃ k, Dd es es[b].f es[b].t k := by
  have h0 : ¬ badAt es < 0 := fun h1 => h (badAt_neg.1 h1)
  unfold badAt firstAt at h0 ⊢
  split at h0
  · rename_i h1
    rw [if_pos h1]
    refine ⟨_, h1, rfl, ?_⟩
    have h2 := List.findIdx_getElem (w := h1)
    simp only [Bool.and_eq_true, decide_eq_true_eq] at h2
    obtain ⟨k, hk⟩ := h2.2.2
    obtain ⟨j, _, hj⟩ := Dd.of_RN hk
    exact ⟨j, hj⟩
  · omega
end Go.Proofs.Ytefpglaipnnggaa
