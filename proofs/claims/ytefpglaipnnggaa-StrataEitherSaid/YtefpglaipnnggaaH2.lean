/- Levels: plain facts; step. -/
import Derived.Test.YtefpglaipnnggaaH1
import Derived.Test.YtefpglaipnnggaaG2
import Derived.Lib.QuietBelow
namespace Go.Proofs.Ytefpglaipnnggaa
open Go.RowKit

/-- How much higher an edge wants its end. -/
def stp (e : E) : Int := if e.neg then 1 else 0
/-- A level mapping. -/
def Mp (n : Nat) (es : List E) (M : Int → Int) : Prop := (∀ v, Vx n v → 0 ≤ M v) ∧ ∀ e ∈ es, M e.f + stp e ≤ M e.t
/-- The least one, as a list. -/
def LeastL (n : Nat) (es : List E) (l : List Int) : Prop := l.length = n ∧ Mp n es (lv l) ∧ ∀ M, Mp n es M → ∀ v, Vx n v → lv l v ≤ M v
def NoBad (es : List E) : Prop := ∀ e ∈ es, e.neg = true → ¬ Scc (Eg es) e.f e.t

theorem stp_nonneg (e : E) : 0 ≤ stp e ∧ stp e ≤ 1 := by unfold stp; split <;> omega
theorem LeastL.unique {n : Nat} {es : List E} {l l' : List Int} (h : LeastL n es l) (h' : LeastL n es l') : l = l' := by
  apply List.ext_getElem (h.1.trans h'.1.symm)
  intro i h1 h2
  have hv : Vx n (i : Int) := ⟨by omega, by have := h.1; omega⟩
  have a := h.2.2 _ h'.2.1 i hv
  have b := h'.2.2 _ h.2.1 i hv
  have e1 : lv l i = l[i] := lv_get h1
  have e2 : lv l' i = l'[i] := lv_get h2
  omega
theorem Mp.reach {n : Nat} {es : List E} {M : Int → Int} (h : Mp n es M) {u v : Int} (hr : Reach (Eg es) u v) : M u ≤ M v := by
  obtain ⟨k, hk⟩ := hr
  induction k generalizing u with
  | zero => cases hk; exact Int.le_refl _
  | succ k ih =>
    obtain ⟨x, ⟨e, he, h1, h2⟩, hr⟩ := hk
    have h3 := h.2 e he
    have h4 := (stp_nonneg e).1
    have := ih hr
    rw [h1, h2] at h3
    omega
theorem Mp.scc {n : Nat} {es : List E} {M : Int → Int} (h : Mp n es M) {u v : Int} (hs : Scc (Eg es) u v) : M u = M v := Int.le_antisymm (h.reach hs.1) (h.reach hs.2)
theorem Mp.noBad {n : Nat} {es : List E} {M : Int → Int} (h : Mp n es M) : NoBad es := fun e he hn hs => by
  have h1 := h.2 e he
  have h2 := h.scc hs
  simp only [stp, hn, if_true] at h1
  omega
/-- Where no negated edge is inside a component there is a mapping, below n. -/
theorem NoBad.map {n : Nat} {es : List E} (hf : Fits n es) (h : NoBad es) : ∃ M, Mp n es M ∧ ∀ v, Vx n v → M v < n := by
  refine ⟨fun v => (((ps n).filter (fun u => @decide (Reach (Eg es) u v ∧ ¬ Reach (Eg es) v u) (Classical.propDecidable _))).length : Int), ⟨fun v _ => by dsimp only; omega, fun e he => ?_⟩, fun v hv => ?_⟩
  · have hok := hf.2.2 e he
    have hst : Reach (Eg es) e.f e.t := Reach.step ⟨e, he, rfl, rfl⟩
    have himp : ∀ x ∈ ps n, (@decide (Reach (Eg es) x e.f ∧ ¬ Reach (Eg es) e.f x) (Classical.propDecidable _)) = true → (@decide (Reach (Eg es) x e.t ∧ ¬ Reach (Eg es) e.t x) (Classical.propDecidable _)) = true := fun x _ hx => by
      simp only [decide_eq_true_eq] at hx ⊢
      exact ⟨hx.1.trans hst, fun k => hx.2 (hst.trans k)⟩
    by_cases hn : e.neg = true
    · have hlt := filter_lt _ _ (ps n) himp ⟨e.f, mem_ps.2 ⟨hok.1, hok.2.1⟩, by simp only [decide_eq_true_eq]; exact ⟨hst, fun k => h e he hn ⟨hst, k⟩⟩, by simp only [decide_eq_false_iff_not]; exact fun k => k.2 k.1⟩
      simp only [stp, hn, if_true]
      omega
    · have hs : stp e = 0 := by simp [stp, hn]
      rw [hs]
      have hle : ∀ (l : List Int), (∀ x ∈ l, x ∈ ps n) → (l.filter (fun u => @decide (Reach (Eg es) u e.f ∧ ¬ Reach (Eg es) e.f u) (Classical.propDecidable _))).length ≤ (l.filter (fun u => @decide (Reach (Eg es) u e.t ∧ ¬ Reach (Eg es) e.t u) (Classical.propDecidable _))).length := by
        intro l
        induction l with
        | nil => intro _; exact Nat.le_refl _
        | cons a l ih =>
          intro hl
          have h1 := ih (fun x hx => hl x (List.mem_cons_of_mem _ hx))
          have h2 := himp a (hl a (by simp))
          simp only [List.filter_cons]
          split <;> split <;> simp_all <;> omega
      have := hle (ps n) (fun x hx => hx)
      dsimp only
      omega
  · have hlt := filter_lt (fun u => @decide (Reach (Eg es) u v ∧ ¬ Reach (Eg es) v u) (Classical.propDecidable _)) (fun _ => true) (ps n) (fun _ _ _ => rfl) ⟨v, mem_ps.2 hv, rfl, by simp only [decide_eq_false_iff_not]; exact fun k => k.2 k.1⟩
    have hft : ((ps n).filter (fun _ => true)).length ≤ (ps n).length := List.length_filter_le _ _
    rw [ps_length] at hft
    dsimp only
    omega
theorem badAt_neg {es : List E} : badAt es < 0 ↔ NoBad es := by
  unfold badAt firstAt
  constructor
  · intro h e he hn hs
    rw [if_pos] at h
    · omega
    · rw [List.findIdx_lt_length]
      exact ⟨e, he, by simp [hn, hs]⟩
  · intro h
    rw [if_neg]
    · omega
    · rw [List.findIdx_lt_length]
      rintro ⟨e, he, h1⟩
      simp only [Bool.and_eq_true, decide_eq_true_eq] at h1
      exact h e he h1.1 h1.2
theorem badAt_m1 {es : List E} (h : NoBad es) : badAt es = -1 := by
  have h1 := badAt_neg.2 h
  unfold badAt firstAt at h1 ⊢
  split at h1
  · omega
  · rename_i h2; rw [if_neg h2]

/-- The levels' answer: the list, the error. -/
def Levs (x : Int) (es : List E) (l : List Int) (code : Int) : Prop := (∃ n : Nat, x = n ∧ Fits n es ∧ LeastL n es l ∧ code = 0) ∨ (∃ n : Nat, x = n ∧ Fits n es ∧ ¬ NoBad es ∧ l = [] ∧ code = 40) ∨ (¬ Fits x es ∧ l = [] ∧ code = 2)
theorem Levs.unique {x : Int} {es : List E} {l l' : List Int} {c c' : Int} (h : Levs x es l c) (h' : Levs x es l' c') : l = l' ∧ c = c' := by
  rcases h with ⟨n, rfl, h1, h2, h3⟩ | ⟨n, rfl, h1, h2, h3, h4⟩ | ⟨h1, h2, h3⟩ <;> rcases h' with ⟨n', e, k1, k2, k3⟩ | ⟨n', e, k1, k2, k3, k4⟩ | ⟨k1, k2, k3⟩
  · have : n = n' := by omega
    subst this
    exact ⟨h2.unique k2, by omega⟩
  · exact absurd h2.2.1.noBad k2
  · exact absurd h1 k1
  · exact absurd k2.2.1.noBad h2
  · exact ⟨h3.trans k3.symm, by omega⟩
  · exact absurd h1 k1
  · rw [e] at h1; exact absurd k1 h1
  · rw [e] at h1; exact absurd k1 h1
  · exact ⟨h2.trans k2.symm, by omega⟩
theorem Levs.small {x : Int} {es : List E} {l : List Int} {c : Int} (h : Levs x es l c) : l.length ≤ 128 := by
  rcases h with ⟨n, rfl, h1, h2, h3⟩ | ⟨n, rfl, h1, h2, h3, h4⟩ | ⟨h1, h2, h3⟩
  · have := h1.2.1; have := h2.1; omega
  · rw [h3]; simp
  · rw [h2]; simp

set_option maxRecDepth 20000 in
theorem step_any (e : E) (w : World) : Calls Try.prog 55 #[.agg #[.int .i64 e.f, .int .i64 e.t, .bool e.neg, .int .i64 e.r]] w fun r w' => r = .returned (.int .i64 (stp e)) ∧ Below w.heap.size w w' := by
  obtain ⟨ef, et, en, er⟩ := e
  unfold stp
  have hE := Blk.new w 43 [.int .i64 ef, .int .i64 et, .bool en, .int .i64 er]
  have HB := Lib.hid ((Below.refl w.heap.size w).alloc (Nat.le_refl _) (.cells #[.int .i64 ef, .int .i64 et, .bool en, .int .i64 er] 43))
  have e2 := hE.cell 2
  simp only [List.getElem?_cons_zero, List.getElem?_cons_succ] at e2
  clear hE
  go_enter Try.func55, Try.ntmps55
  cases en with
  | false =>
    go_wp2
    go_ret
    exact ⟨rfl, HB.out⟩
  | true =>
    go_wp2
    go_ret
    exact ⟨rfl, HB.out⟩
end Go.Proofs.Ytefpglaipnnggaa
