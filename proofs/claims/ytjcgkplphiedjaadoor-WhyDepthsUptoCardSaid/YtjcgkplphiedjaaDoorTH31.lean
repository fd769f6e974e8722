/- The law of depths and texts: its walk. -/
import Derived.Test.YtjcgkplphiedjaaDoorTH29
namespace Go.Proofs.YtjcgkplphiedjaaDoorT
open Go.RowKit Go.Sort

theorem core_back {ls ls' : List Ln} (h : ls'.map Ln.core = ls.map Ln.core) {x : Ln} (hx : x ∈ ls') : ∃ y ∈ ls, y.core = x.core := by
  have : x.core ∈ ls.map Ln.core := h ▸ List.mem_map.2 ⟨x, hx, rfl⟩
  obtain ⟨y, hy, e⟩ := List.mem_map.1 this
  exact ⟨y, hy, e⟩
theorem nice_core {x y : Ln} (h : y.core = x.core) (hn : y.nice) : x.nice := by
  simp only [Ln.core, Prod.mk.injEq] at h
  obtain ⟨h1, h2, h3, h4, h5⟩ := h
  exact ⟨h1 ▸ hn.p, h2 ▸ hn.xs, h4 ▸ hn.ss, h3 ▸ hn.r, h5 ▸ hn.fs⟩
theorem wts_core {ls ls' : List Ln} (h : ls'.map Ln.core = ls.map Ln.core) : wts ls' = wts ls := by
  have e : ∀ l : List Ln, wts l = ((l.map Ln.core).map fun c => 1 + c.2.2.2.1.length + c.2.2.2.2.length).sum := fun l => by
    unfold wts; rw [List.map_map]; rfl
  rw [e, e, h]
theorem core_lens {x y : Ln} (h : y.core = x.core) : y.xs.length = x.xs.length ∧ y.ss.length = x.ss.length ∧ y.fs.length = x.fs.length := by
  simp only [Ln.core, Prod.mk.injEq] at h
  obtain ⟨h1, h2, h3, h4, h5⟩ := h
  exact ⟨by rw [h2], by rw [h4], by rw [h5]⟩

theorem own_set1 {w : World} {base e n c i g : Nat} {u : Value} {xs : List Value} (h : w.ownsRow base e 1 (.slice (some ⟨g, 0, none⟩) n c) n xs) (hi : i < n) :
    base ≤ g ∧ w.frozen? ⟨g, i, none⟩ = false ∧ (∀ v, xs[i]? = some v → w.cell? ⟨g, i, none⟩ = some v) ∧ (w.setCell ⟨g, i, none⟩ u).ownsRow base e 1 (.slice (some ⟨g, 0, none⟩) n c) n (xs.set i u) := by
  obtain ⟨g', cap, cur, hv, hb, hg, hnc, hcm, hcs, ht⟩ := own_blk h (by omega)
  simp only [Value.slice.injEq, Option.some.injEq, Addr.mk.injEq, and_true, true_and] at hv
  obtain ⟨rfl, rfl⟩ := hv
  refine ⟨hb, hg.frozen i, fun v hv => ?_, ?_⟩
  · rw [hg.cell i]
    rw [← ht, List.getElem?_take] at hv
    split at hv
    · exact hv
    · cases hv
  · refine ⟨by rw [List.length_set]; exact h.1, .inr ⟨g, c, (cur.set i u).toArray, rfl, hb, hg.set_ i u, hnc, hcm, by simp [hcs], ?_⟩⟩
    rw [← ht]
    simp only [List.take_set]
theorem neg_set (m : List Int) (i : Nat) (h : i < m.length) : (icells (List.replicate i (-7) ++ m.drop i)).set i (.int .i64 (-7)) = icells (List.replicate (i + 1) (-7) ++ m.drop (i + 1)) := by
  rw [icells_set, List.drop_eq_getElem_cons h]
  have := set_mid (List.replicate i (-7 : Int)) (m.drop (i + 1)) m[i] (-7)
  rw [List.length_replicate] at this
  rw [this, List.replicate_succ', List.append_assoc]
  rfl

/-- What lies there before the law's first look, and stays. -/
structure Held (w : World) (R Q : Nat) (g n D : Nat) (A1 : Option Addr) (ls1 ls2 : List Ln) (z : Ln) : Prop where
  own : w.ownsRow Q 66 5 (.slice (some ⟨g, 0, none⟩) (n + 1) D) (n + 1) (ncells (ls2 ++ [z]))
  room : ∀ x ∈ ls2, Ln.room w Q x
  ok : ∀ x ∈ ls2, Ln.ok w x ∧ x.nice
  kept : Rd w w.heap.size 5 A1 n (ncells ls1)
  ok1 : ∀ x ∈ ls1, Ln.ok w x
  pow : PowB R w
  size : R ≤ w.heap.size
theorem Held.up {w w' : World} {R Q g n D : Nat} {A1 : Option Addr} {ls1 ls2 : List Ln} {z : Ln} (h : Held w R Q g n D A1 ls1 ls2 z) (hb : Below w.heap.size w w') : Held w' R Q g n D A1 ls1 ls2 z :=
  ⟨own_below h.own hb, fun x hx => (h.room x hx).below hb, fun x hx => ⟨(h.ok x hx).1.up hb, (h.ok x hx).2⟩, h.kept.up hb hb.size, fun x hx => (h.ok1 x hx).up hb, h.pow.below (hb.mono h.size), Nat.le_trans h.size hb.size⟩
theorem Held.rd {w : World} {R Q g n D : Nat} {A1 : Option Addr} {ls1 ls2 : List Ln} {z : Ln} (h : Held w R Q g n D A1 ls1 ls2 z) : Rd w w.heap.size 5 (some ⟨g, 0, none⟩) n (ncells ls2) := by
  have ho := h.own
  have hlen : ls2.length = n := by have := ho.1; rw [ncells_length, List.length_append, List.length_singleton] at this; omega
  rw [ncells_append] at ho
  exact (own_pre ho (by rw [ncells_length, hlen])).1
end Go.Proofs.YtjcgkplphiedjaaDoorT
