import Derived.Test.YtefpglaipnnggaaC2
import Derived.Deep.RegionHeld3
import Derived.Deep.AppendLies
import Derived.Laws.MakeOwn
import Derived.Deep.DeepCutAuto
namespace Go.Proofs.Ytefpglaipnnggaa
open Go.RowKit

theorem run_make_rowN {P : Program} (t e : TypeId) (i : TypeInfo) (z : Value) (ht : P.underlying t = some (.slice e)) (hi : P.info? e = some i) (hz : i.zero = some z)
    (kl kc : IntKind) (n c : Nat) (hnc : n ≤ c) (hbytes : i.bytes * c ≤ 281474976710656) (h63 : c ≤ 9223372036854775807) (w : World) :
    (Instr.makeSlice t (.int kl (n : Int)) (.int kc (c : Int))).run P w = .ok (.slice (some ⟨w.heap.size, 0, none⟩) n c) (w.alloc (.cells (madeCells z.cells (c * i.size)) e)) := by
  have hb : (i.bytes : Int) * (c : Int) ≤ 281474976710656 := by
    have h : ((i.bytes * c : Nat) : Int) ≤ 281474976710656 := by omega
    rwa [Int.natCast_mul] at h
  have hr := run_make (P := P) w t e i z ht hi hz kl kc n c (by omega) (by omega) hb (by omega)
  simp only [Int.toNat_natCast] at hr
  exact hr

theorem Try.info37 : (Try.prog.info? 37).map (fun i => (i.zero, i.size, i.bytes)) = some (some (.slice none 0 0), 1, 24) := by kernel_rfl

theorem made_one (z : Value) (hz : z.cells = #[z]) (n : Nat) : madeCells z.cells (n * 1) = (List.replicate n z).toArray := by
  apply Array.ext_getElem?
  intro i
  rw [hz]
  simp only [madeCells, Nat.mul_one, Array.getElem?_map, Array.getElem?_range, List.getElem?_toArray, List.getElem?_replicate]
  split <;> simp [Nat.mod_one]

def zints (n : Nat) : Array Value := (icells (List.replicate n 0)).toArray
def nils (n : Nat) : Array Value := (List.replicate n (Value.slice none 0 0)).toArray

/-- Five new blocks, one behind the other. -/
theorem new5 (w : World) (a b c d e : Obj) : ∀ (W : World), W = ((((w.alloc a).alloc b).alloc c).alloc d).alloc e →
    W.heap[w.heap.size]? = some a ∧ W.heap[w.heap.size + 1]? = some b ∧ W.heap[w.heap.size + 1 + 1]? = some c ∧ W.heap[w.heap.size + 1 + 1 + 1]? = some d ∧ W.heap[w.heap.size + 1 + 1 + 1 + 1]? = some e := by
  rintro W rfl
  show ((((((w.heap.push a).push b).push c).push d).push e)[_]? = _ ∧ (((((w.heap.push a).push b).push c).push d).push e)[_]? = _ ∧ (((((w.heap.push a).push b).push c).push d).push e)[_]? = _ ∧ (((((w.heap.push a).push b).push c).push d).push e)[_]? = _ ∧ (((((w.heap.push a).push b).push c).push d).push e)[_]? = _)
  simp only [Array.getElem?_push, Array.size_push]
  refine ⟨?_, ?_, ?_, ?_, ?_⟩
  · rw [if_neg (by omega), if_neg (by omega), if_neg (by omega), if_neg (by omega), if_pos trivial]
  · rw [if_neg (by omega), if_neg (by omega), if_neg (by omega), if_pos trivial]
  · rw [if_neg (by omega), if_neg (by omega), if_pos trivial]
  · rw [if_neg (by omega), if_pos trivial]
  · rw [if_pos trivial]

/-- The seeker in the making: its five blocks. -/
structure Mk (w wx : World) (s gt gl gc go n : Nat) (comp : List Int) (rows : List Value) : Prop where
  below : Below w.heap.size w wx
  bs : Blk wx s 78 [sl go n, sl gt n, sl gl n, sl gc n, .slice none 0 0, .int .i64 0, .int .i64 0]
  bt : Blk wx gt 3 (icells (List.replicate n 0))
  bl : Blk wx gl 3 (icells (List.replicate n 0))
  bc : Blk wx gc 3 (icells comp)
  bo : Blk wx go 37 rows
  ge : w.heap.size ≤ s ∧ w.heap.size ≤ gt ∧ w.heap.size ≤ gl ∧ w.heap.size ≤ gc ∧ w.heap.size ≤ go
  ne : s ≠ gt ∧ s ≠ gl ∧ s ≠ gc ∧ gt ≠ gl ∧ gt ≠ gc ∧ gl ≠ gc ∧ s ≠ go ∧ gt ≠ go ∧ gl ≠ go ∧ gc ≠ go

theorem made_of {w : World} {a b c d e : Obj} {s gt gl gc go n : Nat} (hs : (((((w.alloc a).alloc b).alloc c).alloc d).alloc e).heap[s]? = some (.cells #[sl go n, sl gt n, sl gl n, sl gc n, .slice none 0 0, .int .i64 0, .int .i64 0] 78 (0, 0)))
    (ht : (((((w.alloc a).alloc b).alloc c).alloc d).alloc e).heap[gt]? = some (.cells (zints n) 3 (0, 0))) (hl : (((((w.alloc a).alloc b).alloc c).alloc d).alloc e).heap[gl]? = some (.cells (zints n) 3 (0, 0)))
    (hc : (((((w.alloc a).alloc b).alloc c).alloc d).alloc e).heap[gc]? = some (.cells (zints n) 3 (0, 0))) (ho : (((((w.alloc a).alloc b).alloc c).alloc d).alloc e).heap[go]? = some (.cells (nils n) 37 (0, 0)))
    (ge : w.heap.size ≤ s ∧ w.heap.size ≤ gt ∧ w.heap.size ≤ gl ∧ w.heap.size ≤ gc ∧ w.heap.size ≤ go)
    (ne : s ≠ gt ∧ s ≠ gl ∧ s ≠ gc ∧ gt ≠ gl ∧ gt ≠ gc ∧ gl ≠ gc ∧ s ≠ go ∧ gt ≠ go ∧ gl ≠ go ∧ gc ≠ go) :
    Mk w (((((w.alloc a).alloc b).alloc c).alloc d).alloc e).drew s gt gl gc go n (List.replicate n 0) (List.replicate n (.slice none 0 0)) :=
  ⟨((((((Below.refl _ w).alloc (Nat.le_refl _) a).alloc (by simp) b).alloc (by simp; omega) c).alloc (by simp; omega) d).alloc (by simp; omega) e).drew, hs, ht, hl, hc, ho, ge, ne⟩

theorem Mk.set_comp {w wx : World} {s gt gl gc go n : Nat} {comp : List Int} {rows : List Value} (h : Mk w wx s gt gl gc go n comp rows) (i : Nat) (x : Int) :
    Mk w (wx.setCell ⟨gc, i, none⟩ (.int .i64 x)) s gt gl gc go n (comp.set i x) rows := by
  obtain ⟨n1, n2, n3, n4, n5, n6, n7, n8, n9, n10⟩ := h.ne
  exact ⟨h.below.setCell h.ge.2.2.2.1 _, h.bs.far n3 _, h.bt.far n5 _, h.bl.far n6 _, by rw [← icells_set]; exact h.bc.set_ i _, h.bo.far n10.symm _, h.ge, h.ne⟩
theorem Mk.alloc {w wx : World} {s gt gl gc go n : Nat} {comp : List Int} {rows : List Value} (h : Mk w wx s gt gl gc go n comp rows) (o : Obj) : Mk w (wx.alloc o) s gt gl gc go n comp rows :=
  ⟨h.below.alloc h.below.size o, h.bs.alloc o, h.bt.alloc o, h.bl.alloc o, h.bc.alloc o, h.bo.alloc o, h.ge, h.ne⟩
theorem Mk.drew {w wx : World} {s gt gl gc go n : Nat} {comp : List Int} {rows : List Value} (h : Mk w wx s gt gl gc go n comp rows) : Mk w wx.drew s gt gl gc go n comp rows :=
  ⟨h.below.drew, h.bs, h.bt, h.bl, h.bc, h.bo, h.ge, h.ne⟩
theorem Mk.row {w wx w1 : World} {s gt gl gc go n : Nat} {comp : List Int} {rows : List Value} {row : Option Nat} (h : Mk w wx s gt gl gc go n comp rows) (hg : wx.grownBy w1 row)
    (hr : ∀ k, row = some k → w.heap.size ≤ k ∧ k ≠ s ∧ k ≠ gt ∧ k ≠ gl ∧ k ≠ gc ∧ k ≠ go) (i : Nat) (u : Value) : Mk w (w1.setCell ⟨go, i, none⟩ u) s gt gl gc go n comp (rows.set i u) := by
  obtain ⟨n1, n2, n3, n4, n5, n6, n7, n8, n9, n10⟩ := h.ne
  refine ⟨(h.below.grown hg h.below.size (fun k hk => (hr k hk).1)).setCell h.ge.2.2.2.2 _, (h.bs.grown hg fun e => ?_).far n7 _, (h.bt.grown hg fun e => ?_).far n8 _, (h.bl.grown hg fun e => ?_).far n9 _, (h.bc.grown hg fun e => ?_).far n10 _, (h.bo.grown hg fun e => ?_).set_ i u, h.ge, h.ne⟩
  all_goals (obtain ⟨_, a1, a2, a3, a4, a5⟩ := hr _ e.symm; simp at *)

/-- Who is led to from a predicate, in the edges' order. -/
def adjL (es : List E) (v : Int) : List Int := (es.filter (fun e => e.f == v)).map (·.t)

theorem adjL_snoc (es : List E) (e : E) (v : Int) : adjL (es ++ [e]) v = if e.f = v then adjL es v ++ [e.t] else adjL es v := by
  unfold adjL
  rw [List.filter_append]
  by_cases h : e.f = v <;> simp [h]

/-- The rows of the out list, behind k edges. -/
structure Rows2 (B : Nat) (wx : World) (gt gl gc n : Nat) (es : List E) (rows : List Value) : Prop where
  len : rows.length = n
  own : ∀ v, (h : v < rows.length) → wx.ownsRow B 3 1 rows[v] (adjL es v).length (icells (adjL es v)) ∧ rows[v].ownBlock ≠ some gt ∧ rows[v].ownBlock ≠ some gl ∧ rows[v].ownBlock ≠ some gc
  apart : ∀ u v, (hu : u < rows.length) → (hv : v < rows.length) → u ≠ v → rows[u].ownBlock = rows[v].ownBlock → rows[u].ownBlock = none

theorem Rows2.nils (B : Nat) (wx : World) (gt gl gc n : Nat) : Rows2 B wx gt gl gc n [] (List.replicate n (.slice none 0 0)) :=
  ⟨by simp, fun v h => by simp only [List.getElem_replicate]; exact ⟨World.ownsRow_nil _ _ _ _, by simp [Value.ownBlock], by simp [Value.ownBlock], by simp [Value.ownBlock]⟩, fun u v hu hv _ _ => by simp [Value.ownBlock]⟩
theorem Rows2.alloc {B : Nat} {wx : World} {gt gl gc n : Nat} {es : List E} {rows : List Value} (h : Rows2 B wx gt gl gc n es rows) (o : Obj) : Rows2 B (wx.alloc o) gt gl gc n es rows :=
  ⟨h.len, fun v hv => ⟨(h.own v hv).1.alloc o, (h.own v hv).2⟩, h.apart⟩
theorem Rows2.drew {B : Nat} {wx : World} {gt gl gc n : Nat} {es : List E} {rows : List Value} (h : Rows2 B wx gt gl gc n es rows) : Rows2 B wx.drew gt gl gc n es rows :=
  ⟨h.len, fun v hv => ⟨(h.own v hv).1, (h.own v hv).2⟩, h.apart⟩

theorem Rows2.push {B : Nat} {wx w1 : World} {gt gl gc go n f H g cap : Nat} {es : List E} {rows : List Value} {x : E} {cs : List Value} (h : Rows2 B wx gt gl gc n es rows) (hx : x.f = (f : Int)) (hf : f < rows.length)
    (hH : wx.heap.size = H) (hown : w1.ownsRow B 3 1 (.slice (some ⟨g, 0, none⟩) ((adjL es f).length + 1) cap) ((adjL es f).length + 1) (icells (adjL es f) ++ [.int .i64 x.t])) (hg : wx.grownBy w1 rows[f].ownBlock)
    (hat : rows[f].ownBlock = some g ∨ g = H) (hgt : gt < wx.heap.size ∧ gl < wx.heap.size ∧ gc < wx.heap.size) (hgo : Blk w1 go 37 cs) :
    Rows2 B (w1.setCell ⟨go, f, none⟩ (.slice (some ⟨g, 0, none⟩) ((adjL es f).length + 1) cap)) gt gl gc n (es ++ [x]) (rows.set f (.slice (some ⟨g, 0, none⟩) ((adjL es f).length + 1) cap)) := by
  have hfar : ∀ u, (hu : u < rows.length) → u ≠ f → rows[u].ownBlock ≠ some g ∧ (rows[u].ownBlock = none ∨ rows[u].ownBlock ≠ rows[f].ownBlock) := by
    intro u hu hne
    have h1 : rows[u].ownBlock = none ∨ rows[u].ownBlock ≠ rows[f].ownBlock := by
      by_cases e : rows[u].ownBlock = rows[f].ownBlock
      · exact .inl (h.apart u f hu hf hne e)
      · exact .inr e
    refine ⟨fun e => ?_, h1⟩
    rcases hat with hat | hat
    · rcases h1 with h1 | h1
      · rw [h1] at e; cases e
      · exact h1 (e.trans hat.symm)
    · have := ((h.own u hu).1.lt g e).2
      omega
  refine ⟨by simpa using h.len, fun v hv => ?_, fun u v hu hv hne e => ?_⟩
  · by_cases e : v = f
    · subst e
      simp only [List.getElem_set_self]
      rw [adjL_snoc, if_pos hx]
      refine ⟨?_, ?_⟩
      · rw [List.length_append, List.length_singleton, icells_append]
        exact own_setCell_blk hown hgo (by decide) _ _
      · obtain ⟨_, a1, a2, a3⟩ := h.own v hf
        have key : ∀ b, b < wx.heap.size → rows[v].ownBlock ≠ some b → some g ≠ some b := fun b hb hn e => by
          injection e with e
          rcases hat with hat | hat
          · exact hn (by rw [hat, e])
          · omega
        exact ⟨key gt hgt.1 a1, key gl hgt.2.1 a2, key gc hgt.2.2 a3⟩
    · have hv' : v < rows.length := by simpa using hv
      rw [List.getElem_set_ne (fun h => e h.symm)]
      rw [adjL_snoc, if_neg (by rw [hx]; omega)]
      refine ⟨own_setCell_blk ((h.own v hv').1.kept hg (hfar v hv' e).2) hgo (by decide) _ _, (h.own v hv').2⟩
  · have hu' : u < rows.length := by simpa using hu
    have hv' : v < rows.length := by simpa using hv
    by_cases e1 : u = f
    · subst e1
      rw [List.getElem_set_self, List.getElem_set_ne (fun h => hne h)] at e
      exact absurd e.symm (hfar v hv' (fun h => hne h.symm)).1
    · by_cases e2 : v = f
      · subst e2
        rw [List.getElem_set_self, List.getElem_set_ne (fun h => e1 h.symm)] at e
        exact absurd e (hfar u hu' e1).1
      · rw [List.getElem_set_ne (fun h => e1 h.symm), List.getElem_set_ne (fun h => e2 h.symm)] at e
        rw [List.getElem_set_ne (fun h => e1 h.symm)]
        exact h.apart u v hu' hv' hne e

end Go.Proofs.Ytefpglaipnnggaa
