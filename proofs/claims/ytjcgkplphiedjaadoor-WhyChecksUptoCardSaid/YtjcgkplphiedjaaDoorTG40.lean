/- The law of depths and texts: its walk. | The law of checks: its walk. -/
import Derived.Test.YtjcgkplphiedjaaDoorTG16
import Derived.Test.YtjcgkplphiedjaaDoorTG32
import Derived.Test.YtjcgkplphiedjaaDoorTG34
import Derived.Test.YtjcgkplphiedjaaDoorTG36
import Derived.Test.YtjcgkplphiedjaaDoorTG39
namespace Go.Proofs.YtjcgkplphiedjaaDoorT
open Go.RowKit Go.Sort

theorem core_back {ls ls' : List Ln} (h : ls'.map Ln.core = ls.map Ln.core) {x : Ln} (hx : x ∈ ls') : ∃ y ∈ ls, y.core = x.core := by
  have : x.core ∈ ls.map Ln.core := h ▸ List.mem_map.2 ⟨x, hx, rfl⟩
  obtain ⟨y, hy, e⟩ := List.mem_map.1 this
  exact ⟨y, hy, e⟩
theorem nice_core {x y : Ln} (h : y.core = x.core) (hn : y.nice) : x.nice := by
  simp only [Ln.core, Prod.mk.injEq] at h
  obtain ⟨h1, h2, h3, h4, h5⟩ := h
  exact ⟨h1 ▸ hn.p, h2 ▸ hn.xs, h4 ▸ hn.ss, h3 ▸ hn.r, h5 ▸ hn.fs⟩
theorem wts_core {ls ls' : List Ln} (h : ls'.map Ln.core = ls.map Ln.core) : wts ls' = wts ls := by
  have e : ∀ l : List Ln, wts l = ((l.map Ln.core).map fun c => 1 + c.2.2.2.1.length + c.2.2.2.2.length).sum := fun l => by
    unfold wts; rw [List.map_map]; rfl
  rw [e, e, h]
theorem core_lens {x y : Ln} (h : y.core = x.core) : y.xs.length = x.xs.length ∧ y.ss.length = x.ss.length ∧ y.fs.length = x.fs.length := by
  simp only [Ln.core, Prod.mk.injEq] at h
  obtain ⟨h1, h2, h3, h4, h5⟩ := h
  exact ⟨by rw [h2], by rw [h4], by rw [h5]⟩

theorem own_set1 {w : World} {base e n c i g : Nat} {u : Value} {xs : List Value} (h : w.ownsRow base e 1 (.slice (some ⟨g, 0, none⟩) n c) n xs) (hi : i < n) :
    base ≤ g ∧ w.frozen? ⟨g, i, none⟩ = false ∧ (∀ v, xs[i]? = some v → w.cell? ⟨g, i, none⟩ = some v) ∧ (w.setCell ⟨g, i, none⟩ u).ownsRow base e 1 (.slice (some ⟨g, 0, none⟩) n c) n (xs.set i u) := by
  obtain ⟨g', cap, cur, hv, hb, hg, hnc, hcm, hcs, ht⟩ := own_blk h (by omega)
  simp only [Value.slice.injEq, Option.some.injEq, Addr.mk.injEq, and_true, true_and] at hv
  obtain ⟨rfl, rfl⟩ := hv
  refine ⟨hb, hg.frozen i, fun v hv => ?_, ?_⟩
  · rw [hg.cell i]
    rw [← ht, List.getElem?_take] at hv
    split at hv
    · exact hv
    · cases hv
  · refine ⟨by rw [List.length_set]; exact h.1, .inr ⟨g, c, (cur.set i u).toArray, rfl, hb, hg.set_ i u, hnc, hcm, by simp [hcs], ?_⟩⟩
    rw [← ht]
    simp only [List.take_set]
theorem neg_set (m : List Int) (i : Nat) (h : i < m.length) : (icells (List.replicate i (-7) ++ m.drop i)).set i (.int .i64 (-7)) = icells (List.replicate (i + 1) (-7) ++ m.drop (i + 1)) := by
  rw [icells_set, List.drop_eq_getElem_cons h]
  have := set_mid (List.replicate i (-7 : Int)) (m.drop (i + 1)) m[i] (-7)
  rw [List.length_replicate] at this
  rw [this, List.replicate_succ', List.append_assoc]
  rfl

/-- What lies there before the law's first look, and stays. -/
structure Held (w : World) (R Q : Nat) (g n D : Nat) (A1 : Option Addr) (ls1 ls2 : List Ln) (z : Ln) : Prop where
  own : w.ownsRow Q 66 5 (.slice (some ⟨g, 0, none⟩) (n + 1) D) (n + 1) (ncells (ls2 ++ [z]))
  room : ∀ x ∈ ls2, Ln.room w Q x
  ok : ∀ x ∈ ls2, Ln.ok w x ∧ x.nice
  kept : Rd w w.heap.size 5 A1 n (ncells ls1)
  ok1 : ∀ x ∈ ls1, Ln.ok w x
  pow : PowB R w
  size : R ≤ w.heap.size
theorem Held.up {w w' : World} {R Q g n D : Nat} {A1 : Option Addr} {ls1 ls2 : List Ln} {z : Ln} (h : Held w R Q g n D A1 ls1 ls2 z) (hb : Below w.heap.size w w') : Held w' R Q g n D A1 ls1 ls2 z :=
  ⟨own_below h.own hb, fun x hx => (h.room x hx).below hb, fun x hx => ⟨(h.ok x hx).1.up hb, (h.ok x hx).2⟩, h.kept.up hb hb.size, fun x hx => (h.ok1 x hx).up hb, h.pow.below (hb.mono h.size), Nat.le_trans h.size hb.size⟩
theorem Held.rd {w : World} {R Q g n D : Nat} {A1 : Option Addr} {ls1 ls2 : List Ln} {z : Ln} (h : Held w R Q g n D A1 ls1 ls2 z) : Rd w w.heap.size 5 (some ⟨g, 0, none⟩) n (ncells ls2) := by
  have ho := h.own
  have hlen : ls2.length = n := by have := ho.1; rw [ncells_length, List.length_append, List.length_singleton] at this; omega
  rw [ncells_append] at ho
  exact (own_pre ho (by rw [ncells_length, hlen])).1
end Go.Proofs.YtjcgkplphiedjaaDoorT

namespace Go.Proofs.YtjcgkplphiedjaaDoorT
open Go.RowKit Go.Sort
open YtjcgkplphiedjaaDoor (Pow)

theorem wpList_slice_by {P : Program} {w : World} {ops : Array Oper} {rest : List Oper} {o : Oper} {a : Act} {Q : Exit → Act → World → Prop} (hg : o.guard = none) (t : TypeId) (x lo : Operand) (hop : o.op = Op.slice t x (some lo) none none)
    (vx vl u : Value) (hx : a.eval x = vx) (hl : a.eval lo = vl) (hrun : (Instr.sliceAt t vx (some vl) none none).run P w = .ok u w) (hK : wpList P ops Q rest (a.put o.dst u) w) : wpList P ops Q (o :: rest) a w := by
  refine wpList_plain hg fun K' hK' => ?_
  unfold Oper.wp
  simp [execOp, hop, hx, hl, hrun, Result.andThen]
  exact hK' _ _ hK
theorem slice_lines (g n c l : Nat) (hl : l ≤ n) (hc : l < c) (w : World) : (Instr.sliceAt 25 (.slice (some ⟨g, 0, none⟩) n c) (some (.int .i64 (l : Int))) none none).run Tryd.prog w = .ok (.slice (some ⟨g, l * 5, none⟩) (n - l) (c - l)) w := by
  have hs : ∀ w, (sizeOf (Tryd.prog.elem 25)).run Tryd.prog w = .ok 5 w := fun w => by kernel_rfl
  have ht : Tryd.prog.underlying 25 = some (.slice (Tryd.prog.elem 25)) := by kernel_rfl
  have hr : (Instr.sliceAt 25 (.slice (some ⟨g, 0, none⟩) n c) (some (.int .i64 (l : Int))) none none).run Tryd.prog w = .ok (sliced (some ⟨g, 0, none⟩) l n c 5) w := by
    rw [run_sliceAt_slice w _ _ _ _ _ ht, run_slice_l w _ _ _ _ ht .i64 (l : Int) (by omega) (by omega), hs]
    rfl
  rw [hr]
  unfold sliced
  rw [if_neg (by omega)]
  have : (⟨g, 0, none⟩ : Addr).add (l * 5) = ⟨g, l * 5, none⟩ := by unfold Addr.add; split <;> simp_all
  rw [Option.map_some, this]
theorem Rd_drop {w : World} {B g n i : Nat} {ls : List Ln} (h : Rd w B 5 (some ⟨g, 0, none⟩) n (ncells ls)) (hi : i ≤ n) (hl : ls.length = n) : Rd w B 5 (some ⟨g, i * 5, none⟩) (n - i) (ncells (ls.drop i)) := by
  have e : ncells ls = ncells (ls.take i) ++ ncells (ls.drop i) := by rw [← ncells_append, List.take_append_drop]
  rw [e] at h
  obtain ⟨h1, h2, h3⟩ := h
  have ht : (ncells (ls.take i)).length = i * 5 := by rw [ncells_length, List.length_take]; congr 1; omega
  refine ⟨by rw [ncells_length, List.length_drop, hl], by omega, fun hp => ?_⟩
  obtain ⟨b, o, hA, hb, hc⟩ := h3 (by omega)
  simp only [Option.some.injEq, Addr.mk.injEq, and_true] at hA
  obtain ⟨rfl, rfl⟩ := hA
  refine ⟨g, i * 5, rfl, hb, fun j u hu => ?_⟩
  have := hc (i * 5 + j) u (by rw [List.getElem?_append_right (by omega), ht]; rw [Nat.add_sub_cancel_left]; exact hu)
  rwa [Nat.zero_add] at this

theorem Rl.core_lens {w w' : World} {x y : Rl} (h : y.core = x.core) (hx : x.ok w) (hy : y.ok w') : y.h.n = x.h.n := by
  simp only [Rl.core, Pn.core, Prod.mk.injEq] at h
  have h1 : (slcells x.h.xs).length = x.h.n * 2 := hx.h.1
  have h2 : (slcells y.h.xs).length = y.h.n * 2 := hy.h.1
  rw [h.1.2] at h2
  omega
theorem pats_small {w w' : World} {l l' : List Pn} (h : l'.map Pn.core = l.map Pn.core) (ho : ∀ y ∈ l, y.ok w) (ho' : ∀ y ∈ l', y.ok w') (hs : ∀ y ∈ l, y.n ≤ 1048576) : ∀ y ∈ l', y.n ≤ 1048576 := by
  intro y hy
  have : y.core ∈ l.map Pn.core := h ▸ List.mem_map.2 ⟨y, hy, rfl⟩
  obtain ⟨x, hx, e⟩ := List.mem_map.1 this
  simp only [Pn.core, Prod.mk.injEq] at e
  have h1 : (slcells x.xs).length = x.n * 2 := (ho x hx).1
  have h2 : (slcells y.xs).length = y.n * 2 := (ho' y hy).1
  rw [← e.2] at h2
  have := hs x hx
  omega
theorem Co.fine_core {w w' : World} {x x' : Co} (h : x'.core = x.core) (hx : x.ok w) (hx' : x'.ok w') (hf : x.fine) : x'.fine := by
  unfold Co.core at h
  simp only [Prod.mk.injEq] at h
  obtain ⟨hd, hc, hr, hfs⟩ := h
  refine ⟨by rw [hd]; exact hf.d, by rw [hc]; exact hf.c, fun y hy => ?_, fun y hy => ?_⟩
  · have : y.core ∈ x.fs.map Rw.core := hfs ▸ List.mem_map.2 ⟨y, hy, rfl⟩
    obtain ⟨z, hz, e⟩ := List.mem_map.1 this
    simp only [Rw.core, Prod.mk.injEq] at e
    have h1 : (icells z.xs).length = z.n * 1 := (hx.fs z hz).1
    have h2 : (icells y.xs).length = y.n * 1 := (hx'.fs y hy).1
    rw [← e.2] at h2
    have := hf.f z hz
    omega
  · have : y.core ∈ x.rs.map Rl.core := hr ▸ List.mem_map.2 ⟨y, hy, rfl⟩
    obtain ⟨z, hz, e⟩ := List.mem_map.1 this
    have h0 := hf.r z hz
    have e' := e
    simp only [Rl.core, Prod.mk.injEq] at e'
    refine ⟨by rw [Rl.core_lens e.symm (hx.rs z hz) (hx'.rs y hy)]; exact h0.1, pats_small e'.2.1.symm (hx.rs z hz).ps (hx'.rs y hy).ps h0.2.1, pats_small e'.2.2.2.1.symm (hx.rs z hz).ns (hx'.rs y hy).ns h0.2.2⟩
theorem Co.tidy_ok {w : World} {x : Co} (h : x.ok w) : x.tidy := fun r hr => by
  have h1 : (scells r.vs).length = r.vn * 1 := (h.rs r hr).v.1
  have h2 : (pncells r.ps).length = r.pn * 2 := (h.rs r hr).p.1
  have h3 : (scells r.vs).length = r.vs.length := by simp [scells]
  rw [pncells_length] at h2
  exact ⟨by omega, by omega⟩
theorem small_core {w w' : World} {x y : Ln} (h : y.core = x.core) (hx : Ln.ok w x) (hy : Ln.ok w' y) (hs : x.small) : y.small := by
  simp only [Ln.core, Prod.mk.injEq] at h
  obtain ⟨h1, h2, _, h4, h5⟩ := h
  have a1 : (kcells x.xs).length = x.n * 3 := hx.a.1
  have a2 : (kcells y.xs).length = y.n * 3 := hy.a.1
  have b1 : (kcells x.ss).length = x.m * 3 := hx.s.1
  have b2 : (kcells y.ss).length = y.m * 3 := hy.s.1
  have c1 : (icells x.fs).length = x.k * 1 := hx.f.1
  have c2 : (icells y.fs).length = y.k * 1 := hy.f.1
  rw [h2] at a2
  rw [h4] at b2
  rw [h5] at c2
  have := hs.n
  have := hs.m
  have := hs.k
  exact ⟨by rw [h1]; exact hs.p, by rw [h2]; exact hs.xs, by rw [h4]; exact hs.ss, by omega, by omega, by omega⟩
theorem fa_small_core {w w' : World} {x y : Fa} (h : y.core = x.core) (hx : x.ok w) (hy : y.ok w') (hs : x.small) : y.small := by
  simp only [Fa.core, Prod.mk.injEq] at h
  obtain ⟨h1, h2⟩ := h
  have a1 : (kcells x.xs).length = x.n * 3 := hx.1
  have a2 : (kcells y.xs).length = y.n * 3 := hy.1
  rw [h2] at a2
  have := hs.1
  exact ⟨by omega, by rw [h1]; exact hs.2.1, by rw [h2]; exact hs.2.2⟩

/-- What the law keeps: its arguments, its copies, the room behind lines and facts. -/
structure Law (T : Lib.PrintTabs) (w : World) (R K Q Qf g n D gf m Df : Nat) (A1 M : Option Addr) (x x' : Co) (ms ms' : List Fa) (ls1 ls2 : List Ln) (z : Ln) (zf : Fa) : Prop where
  own : w.ownsRow Q 66 5 (.slice (some ⟨g, 0, none⟩) (n + 1) D) (n + 1) (ncells (ls2 ++ [z]))
  room : ∀ y ∈ ls2, Ln.room w Q y
  ok : ∀ y ∈ ls2, Ln.ok w y
  kept : Rd w w.heap.size 5 A1 n (ncells ls1)
  ok1 : ∀ y ∈ ls1, Ln.ok w y
  cx : x.ok w
  cy : x'.ok w
  fm : Rd w w.heap.size 2 M m (facells ms)
  fms : ∀ y ∈ ms, y.ok w
  fo : w.ownsRow Qf 45 2 (.slice (some ⟨gf, 0, none⟩) (m + 1) Df) (m + 1) (facells (ms' ++ [zf]))
  fos : ∀ y ∈ ms', y.ok w
  b : Blk w R 40 x.cells
  b' : Blk w K 40 x'.cells
  tabs : LB R T w
theorem Law.up {T : Lib.PrintTabs} {w w' : World} {R K Q Qf g n D gf m Df : Nat} {A1 M : Option Addr} {x x' : Co} {ms ms' : List Fa} {ls1 ls2 : List Ln} {z : Ln} {zf : Fa} (h : Law T w R K Q Qf g n D gf m Df A1 M x x' ms ms' ls1 ls2 z zf) (hb : Below w.heap.size w w') : Law T w' R K Q Qf g n D gf m Df A1 M x x' ms ms' ls1 ls2 z zf :=
  ⟨own_below h.own hb, fun y hy => (h.room y hy).below hb, fun y hy => (h.ok y hy).up hb, h.kept.up hb hb.size, fun y hy => (h.ok1 y hy).up hb, h.cx.up hb, h.cy.up hb, h.fm.up hb hb.size, fun y hy => (h.fms y hy).up hb, own_below h.fo hb, fun y hy => (h.fos y hy).up hb, h.b.below hb h.b.lt, h.b'.below hb h.b'.lt, h.tabs.below (hb.mono (Nat.le_of_lt h.b.lt))⟩
section
variable {T : Lib.PrintTabs} {w : World} {R K Q Qf g n D gf m Df : Nat} {A1 M : Option Addr} {x x' : Co} {ms ms' : List Fa} {ls1 ls2 : List Ln} {z : Ln} {zf : Fa}
theorem Law.rd (h : Law T w R K Q Qf g n D gf m Df A1 M x x' ms ms' ls1 ls2 z zf) : Rd w w.heap.size 5 (some ⟨g, 0, none⟩) n (ncells ls2) := by
  have ho := h.own
  have hlen : ls2.length = n := by have := ho.1; rw [ncells_length, List.length_append, List.length_singleton] at this; omega
  rw [ncells_append] at ho
  exact (own_pre ho (by rw [ncells_length, hlen])).1
theorem Law.caps (h : Law T w R K Q Qf g n D gf m Df A1 M x x' ms ms' ls1 ls2 z zf) : n + 1 ≤ D ∧ D ≤ 9223372036854775807 := by
  have ho := h.own
  have hlen : ls2.length = n := by have := ho.1; rw [ncells_length, List.length_append, List.length_singleton] at this; omega
  rw [ncells_append] at ho
  have := own_pre ho (by rw [ncells_length, hlen])
  exact ⟨this.2.2.1, this.2.2.2.1⟩
theorem Law.rdf (h : Law T w R K Q Qf g n D gf m Df A1 M x x' ms ms' ls1 ls2 z zf) : Rd w w.heap.size 2 (some ⟨gf, 0, none⟩) m (facells ms') := by
  have ho := h.fo
  have hlen : ms'.length = m := by have := ho.1; rw [facells_length, List.length_append, List.length_singleton] at this; omega
  rw [facells_append] at ho
  exact (own_pre ho (by rw [facells_length, hlen])).1
theorem Law.capf (h : Law T w R K Q Qf g n D gf m Df A1 M x x' ms ms' ls1 ls2 z zf) : m + 1 ≤ Df ∧ Df ≤ 9223372036854775807 ∧ w.cell? ⟨gf, m * 2, none⟩ = some (.string zf.s) := by
  have ho := h.fo
  have hlen : ms'.length = m := by have := ho.1; rw [facells_length, List.length_append, List.length_singleton] at this; omega
  rw [facells_append] at ho
  have := own_pre ho (by rw [facells_length, hlen])
  exact ⟨this.2.2.1, this.2.2.2.1, this.2.1 0 (.string zf.s) rfl⟩
end
end Go.Proofs.YtjcgkplphiedjaaDoorT
