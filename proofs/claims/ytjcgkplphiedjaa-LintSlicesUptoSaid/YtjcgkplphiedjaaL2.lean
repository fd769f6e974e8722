/- Clauses of one's own: rows of terms, of literals, of clauses. -/
import Derived.Test.YtjcgkplphiedjaaL1
namespace Go.Proofs.Ytjcgkplphiedjaa
open Go.RowKit

theorem own_below {w w' : World} {R size n : Nat} {e : TypeId} {v : Value} {xs : List Value} (h : w.ownsRow R e size v n xs) (hb : Below w.heap.size w w') : w'.ownsRow R e size v n xs := by
  refine ⟨h.1, ?_⟩
  rcases h.2 with h2 | ⟨g, cap, cur, hv, hg, hc, r⟩
  · exact .inl h2
  · exact .inr ⟨g, cap, cur, hv, hg, (hb.block g (Array.getElem?_eq_some_iff.1 hc).1).trans hc, r⟩
theorem own_le {w : World} {R R' size n : Nat} {e : TypeId} {v : Value} {xs : List Value} (h : w.ownsRow R e size v n xs) (hb : R' ≤ R) : w.ownsRow R' e size v n xs := by
  refine ⟨h.1, ?_⟩
  rcases h.2 with h2 | ⟨g, cap, cur, hv, hg, r⟩
  · exact .inl h2
  · exact .inr ⟨g, cap, cur, hv, Nat.le_trans hb hg, r⟩
theorem own_kept_types {w w' : World} {base base' e e' size size' n n' : Nat} {v v' : Value} {xs xs' : List Value} (h : w.ownsRow base e size v n xs) (h' : w.ownsRow base' e' size' v' n' xs') (hne : e ≠ e') (hg : w.grownBy w' v'.ownBlock) : w'.ownsRow base e size v n xs := by
  refine h.kept hg ?_
  rcases h.2 with ⟨rfl, _⟩ | ⟨g, cap, cur, rfl, _, hgg, _⟩
  · exact .inl rfl
  · refine .inr ?_
    have := own_blk_ne h' (g := g) (t := e) (cs := cur.toList) (by unfold Blk; simpa using hgg) hne
    simpa [Value.ownBlock] using this

/-- The last one off a row of one's own. -/
theorem own_pop {w : World} {base e size n : Nat} {A : Option Addr} {c : Nat} {xs ys : List Value} (h : w.ownsRow base e size (.slice A (n + 1) c) (n + 1) (xs ++ ys)) (hl : xs.length = n * size) : w.ownsRow base e size (.slice A n c) n xs := by
  refine ⟨hl, ?_⟩
  rcases h.2 with ⟨_, h0⟩ | ⟨g, cap, cur, hv, hb, hg, hnc, hcm, hcs, ht⟩
  · omega
  · simp only [Value.slice.injEq] at hv
    obtain ⟨rfl, _, rfl⟩ := hv
    refine .inr ⟨g, c, cur, rfl, hb, hg, by omega, hcm, hcs, ?_⟩
    have h2 := congrArg (List.take (n * size)) ht
    rw [List.take_take, Nat.min_eq_left (Nat.mul_le_mul_right _ (Nat.le_succ _)), ← hl, List.take_left] at h2
    rw [← hl]; exact h2

/-- Its terms lie in a row of one's own. -/
def At.own (w : World) (R : Nat) (a : At) : Prop := w.ownsRow R 33 4 (.slice a.A a.n a.c) a.n (tcells a.es)
theorem At.own.below {w w' : World} {R : Nat} {a : At} (h : At.own w R a) (hb : Below w.heap.size w w') : At.own w' R a := own_below h hb
theorem At.own.le {w : World} {R R' : Nat} {a : At} (h : At.own w R a) (hb : R' ≤ R) : At.own w R' a := own_le h hb
theorem own_none {w : World} {base e size n c : Nat} {xs : List Value} (h : w.ownsRow base e size (.slice none n c) n xs) : c = 0 := by
  rcases h.2 with ⟨h, _⟩ | ⟨g, cap, cur, h, _⟩
  · simp only [Value.slice.injEq] at h; exact h.2.2
  · simp at h
theorem own_rd {w : World} {base e size n c : Nat} {A : Option Addr} {xs : List Value} (h : w.ownsRow base e size (.slice A n c) n xs) : Rd w w.heap.size size A n xs := by
  obtain ⟨h1, h2⟩ := h
  rcases h2 with ⟨hv, rfl⟩ | ⟨g, cap, cur, hv, hb, hg, hnc, hcm, hcs, ht⟩
  · exact ⟨h1, by omega, fun h => absurd h (by omega)⟩
  · simp only [Value.slice.injEq] at hv
    obtain ⟨rfl, _, rfl⟩ := hv
    refine ⟨h1, by unfold maxLen at hcm; omega, fun _ => ⟨g, 0, rfl, (Array.getElem?_eq_some_iff.1 hg).1, fun j u hu => ?_⟩⟩
    rw [Nat.zero_add, cell_of_row w g j cur e (0, 0) hg]
    rw [← ht, List.getElem?_take] at hu
    split at hu
    · simpa using hu
    · cases hu
theorem At.own.ok {w : World} {R : Nat} {a : At} (h : At.own w R a) (hs : a.es.length * 40 ≤ 140737488351232) : At.ok w a := by
  have hr := own_rd h
  have hl : a.es.length = a.n := by have := hr.1; rw [tcells_length] at this; omega
  exact ⟨hr, fun hA => by unfold At.own at h; rw [hA] at h; exact own_none h, by rw [← hl]; exact hs⟩
theorem At.ok.size {w : World} {a : At} (h : At.ok w a) : a.es.length * 40 ≤ 140737488351232 := by
  have hl : a.es.length = a.n := by have := h.1.1; rw [tcells_length] at this; omega
  rw [hl]; exact h.2.2

/-- A clause's lists lie in rows of one's own. -/
structure Cl.own (w : World) (R : Nat) (x : Cl) : Prop where
  h : At.own w R x.h
  b : w.ownsRow R 61 14 (.slice x.A x.n x.c) x.n (lcells x.ls)
  l : ∀ y ∈ x.ls, At.own w R y.a
theorem Cl.own.below {w w' : World} {R : Nat} {x : Cl} (h : Cl.own w R x) (hb : Below w.heap.size w w') : Cl.own w' R x := ⟨h.h.below hb, own_below h.b hb, fun y hy => (h.l y hy).below hb⟩
theorem Cl.own.le {w : World} {R R' : Nat} {x : Cl} (h : Cl.own w R x) (hb : R' ≤ R) : Cl.own w R' x := ⟨h.h.le hb, own_le h.b hb, fun y hy => (h.l y hy).le hb⟩
theorem Cl.own.kept {w w' : World} {R R' n : Nat} {x : Cl} {v : Value} {xs : List Value} (h : Cl.own w R x) (h' : w.ownsRow R' 45 4 v n xs) (hg : w.grownBy w' v.ownBlock) : Cl.own w' R x :=
  ⟨own_kept_types h.h h' (by decide) hg, own_kept_types h.b h' (by decide) hg, fun y hy => own_kept_types (h.l y hy) h' (by decide) hg⟩
theorem At.own.kept {w w' : World} {R R' n : Nat} {x : At} {v : Value} {xs : List Value} (h : At.own w R x) (h' : w.ownsRow R' 61 14 v n xs) (hg : w.grownBy w' v.ownBlock) : At.own w' R x := own_kept_types h h' (by decide) hg

/-- One clause has the core of another that is whole: then it is whole. -/
theorem core_sizes {w : World} {a : At} {b : At} (h : b.core = a.core) (ha : At.ok w a) : b.es.length * 40 ≤ 140737488351232 := by
  have : b.es = a.es := congrArg (fun p => p.2.2) h
  rw [this]; exact ha.size
theorem Cl.own.ok {w w0 : World} {R : Nat} {y x : Cl} (h : Cl.own w R y) (hc : y.core = x.core) (hx : Cl.ok w0 x) : Cl.ok w y := by
  have hh : y.h.core = x.h.core := congrArg (fun p => p.1) hc
  have hl : y.ls.map Li.core = x.ls.map Li.core := congrArg (fun p => p.2) hc
  have hlen : y.ls.length = x.ls.length := by have := congrArg List.length hl; simpa using this
  have h1 : y.ls.length = y.n := by have := (own_rd h.b).1; rw [lcells_length] at this; omega
  have h2 : x.ls.length = x.n := by have := hx.2.1.1; rw [lcells_length] at this; omega
  refine ⟨h.h.ok (core_sizes hh hx.1), own_rd h.b, by have := hx.2.2.1; omega, fun z hz => ?_⟩
  obtain ⟨i, hi, rfl⟩ := List.mem_iff_getElem.1 hz
  have hi' : i < x.ls.length := by omega
  have e : y.ls[i].core = x.ls[i].core := by
    have := congrArg (fun l => l[i]?) hl
    simpa [hi, hi'] using this
  have e2 : y.ls[i].a.core = x.ls[i].a.core := congrArg (fun p => p.2.1) e
  exact (h.l _ hz).ok (core_sizes e2 (hx.2.2.2 _ (List.getElem_mem hi')))
end Go.Proofs.Ytjcgkplphiedjaa
