/- All findings in a program: the document's Look. -/
import Derived.Test.YtjcgkplphiedjaaGw
namespace Go.Proofs.Ytjcgkplphiedjaa
open Go.RowKit Go.Sort

/-- What Look has in memory while it looks at a clause. -/
structure LkS (w wq : World) (R Z : Nat) (pr cl : List Value) (v : Value) (O : List Fd) : Prop where
  b : Below R w wq
  p : Blk wq R 37 pr
  z : Blk wq Z 45 cl
  o : wq.ownsRow R 51 5 v O.length (fcells O)
  hr : R ≤ wq.heap.size
theorem LkS.up {w wq wq' : World} {R Z : Nat} {pr cl : List Value} {v : Value} {O : List Fd} (h : LkS w wq R Z pr cl v O) (hb : Below wq.heap.size wq wq') : LkS w wq' R Z pr cl v O :=
  ⟨h.b.trans (hb.mono h.hr), h.p.below hb h.p.lt, h.z.below hb h.z.lt, own_below h.o hb, Nat.le_trans h.hr hb.size⟩
theorem LkS.one {w wq wq' : World} {R Z : Nat} {pr cl : List Value} {v v' : Value} {O : List Fd} (h : LkS w wq R Z pr cl v O) (f : Fd) (ho : wq'.ownsRow R 51 5 v' (O.length + 1) (fcells O ++ f.cells)) (hg : (wq.alloc (.cells f.cells.toArray 51)).grownBy wq' v.ownBlock) : LkS w wq' R Z pr cl v' (O ++ [f]) := by
  have hba := (Below.refl wq.heap.size wq).alloc (Nat.le_refl _) (.cells f.cells.toArray 51)
  have h2 := h.up hba
  refine ⟨h2.b.grown hg h2.hr (fun q hq => (h.o.lt q hq).1), h2.p.grown hg (own_blk_ne h2.o h2.p (by decide)), h2.z.grown hg (own_blk_ne h2.o h2.z (by decide)), ?_, Nat.le_trans h2.hr hg.size⟩
  rw [fcells_append, List.length_append]
  simpa [fcells] using ho
theorem LkS.more {w wq wq' : World} {R Z : Nat} {pr cl : List Value} {v v' : Value} {O N : List Fd} (h : LkS w wq R Z pr cl v O) (ho : wq'.ownsRow R 51 5 v' (O.length + N.length) (fcells O ++ fcells N)) (hg : wq.grownBy wq' v.ownBlock) : LkS w wq' R Z pr cl v' (O ++ N) := by
  refine ⟨h.b.grown hg h.hr (fun q hq => (h.o.lt q hq).1), h.p.grown hg (own_blk_ne h.o h.p (by decide)), h.z.grown hg (own_blk_ne h.o h.z (by decide)), ?_, Nat.le_trans h.hr hg.size⟩
  rw [fcells_append, List.length_append]
  exact ho

theorem findF_len {cs : List Cl} {i : Nat} {x : Cl} (h : clauseE x = 0) : (findF cs i x).length ≤ 155 := by
  have h1 := othersF_len cs i x
  have h2 := neverF_len i x
  have h3 := singlesL_len x.tot i x.tot
  have h4 := idlesL_len i x.ls
  have h5 := unusedF_len cs i x
  obtain ⟨h6, h7⟩ := clause_small h
  unfold findF singlesF idlesF
  simp only [List.length_append]
  omega
theorem lookN_len {cs : List Cl} (h : ∀ x ∈ cs, clauseE x = 0) : ∀ i, (lookN cs i).length ≤ 155 * i
  | 0 => by simp [lookN]
  | i + 1 => by
    rw [lookN, List.length_append]
    have h1 := lookN_len h i
    have h2 : ((cs[i]?.map (findF cs i)).getD []).length ≤ 155 := by
      cases hx : cs[i]? with
      | none => simp
      | some x => exact findF_len (h x (List.mem_of_getElem? hx))
    omega
theorem optI_none : optI none = -1 := rfl
theorem optI_some (k : Nat) : optI (some k) = (k : Int) := rfl
theorem var_size {x : Cl} (h : clauseE x = 0) : ∀ t ∈ x.tot, t.k = 4 → 0 < t.t.size := by
  intro t ht hk
  have h2 := (termE_var (clauseE_err h t ht) hk).2
  unfold isVarS at h2
  simp only [Bool.and_eq_true, decide_eq_true_eq] at h2
  omega

end Go.Proofs.Ytjcgkplphiedjaa
