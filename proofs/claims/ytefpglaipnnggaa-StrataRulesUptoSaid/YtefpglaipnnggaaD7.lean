/- The law of the edges: its argument opened, the bound used. -/
import Derived.Test.YtefpglaipnnggaaD6
import Derived.Test.YtefpglaipnnggaaB2
namespace Go.Proofs.Ytefpglaipnnggaa
open Go.ChangeShapes Go.WideShapes Go.ChangeAt Go.RowKit Go.Deep

theorem bulk_one {H : Type} (d : DataW H) : 1 ≤ Rows.uptoBulk d := by
  cases d with
  | lit l => cases l <;> simp [Rows.uptoBulk]
  | nil => simp [Rows.uptoBulk]
  | ptr d => simp [Rows.uptoBulk]
  | slice elems spare => simp [Rows.uptoBulk]
  | agg parts => simp [Rows.uptoBulk]
  | iface t d => simp [Rows.uptoBulk]
  | map entries => simp [Rows.uptoBulk]
  | held h => simp [Rows.uptoBulk]
theorem bulk_length {H : Type} (l : List (DataW H)) : l.length ≤ Rows.uptoBulkAll l := by
  induction l with
  | nil => simp [Rows.uptoBulkAll]
  | cons x r ih => have := bulk_one x; simp only [Rows.uptoBulkAll, List.length_cons]; omega
theorem bulk_slice {H : Type} (elems spare : List (DataW H)) : Rows.uptoBulkAll elems + 1 ≤ Rows.uptoBulk (.slice elems spare) := by
  simp only [Rows.uptoBulk]; omega
theorem bulk_sum {H : Type} {α : Type} (f : α → Nat) : ∀ (l : List α) (ds : List (DataW H)), l.length = ds.length → (∀ i (h1 : i < l.length) (h2 : i < ds.length), f l[i] ≤ Rows.uptoBulk ds[i]) → (l.map f).sum ≤ Rows.uptoBulkAll ds
  | [], [], _, _ => by simp [Rows.uptoBulkAll]
  | [], _ :: _, h, _ => by simp at h
  | _ :: _, [], h, _ => by simp at h
  | a :: l, d :: ds, h, hle => by
    have h0 := hle 0 (by simp) (by simp)
    have h1 := bulk_sum f l ds (by simpa using h) (fun i h1 h2 => by
      have := hle (i + 1) (by simpa using h1) (by simpa using h2)
      simpa using this)
    simp only [List.getElem_cons_zero] at h0
    simp only [List.map_cons, List.sum_cons, Rows.uptoBulkAll]
    omega

section
variable {H : Type} {enc : TypeId × Value → H} {W : World}

theorem slice_form {t e : TypeId} {fuel : Nat} {v : Value} {y : DataW H × List MemPlace} (ht : Try.prog.underlying t = some (.slice e)) (h : DataW.trod enc Try.prog W 0 (fun _ => true) true fuel t [v] = some y) : ∃ s : Sl, v = .slice s.A s.n s.c := by
  rcases open_slice ht h with ⟨hcs, _⟩ | ⟨a, len, cap, m, n, D, Pl, hcs, _⟩
  · simp at hcs; exact ⟨⟨none, 0, 0⟩, hcs⟩
  · simp at hcs; exact ⟨⟨some a, len, cap⟩, hcs⟩

theorem flat_get {α : Type} (f : α → List Value) (s : Nat) (hf : ∀ x, (f x).length = s) (hs : 0 < s) {l : List α} {j : Nat} {u : Value} (hu : (l.flatMap f)[j]? = some u) : ∃ h : j / s < l.length, (f l[j / s])[j % s]? = some u := by
  have hj : j < (l.flatMap f).length := (List.getElem?_eq_some_iff.1 hu).1
  rw [flat_length f s hf] at hj
  have h1 : j / s < l.length := Nat.div_lt_of_lt_mul (by rw [Nat.mul_comm]; exact hj)
  refine ⟨h1, ?_⟩
  have h := flat_at f s hf l (j / s) (j % s) h1 (Nat.mod_lt _ hs)
  rw [← h, ← hu]
  congr 1
  rw [Nat.mul_comm]; exact Nat.div_add_mod j s

theorem open_pats {v : Value} {y : DataW H × List MemPlace} {fuel : Nat} (hf : DataW.trod enc Try.prog W 0 (fun _ => true) true fuel 29 [v] = some y) :
    ∃ (s : Sl) (es : List Pt), v = .slice s.A s.n s.c ∧ Rd W W.heap.size 2 s.A s.n (pcells es) ∧ es.length ≤ Rows.uptoBulk y.1 := by
  rcases open_slice_fields Try.underlying29 Try.underlying28 (by kernel_rfl) (by kernel_rfl) hf with ⟨hcs, hx⟩ | ⟨a, len, cap, m, D, Pl, hcs, _, hl, hm, hmm, hx, hi⟩
  · simp at hcs
    subst hcs
    exact ⟨⟨none, 0, 0⟩, [], rfl, Rd_nil _ _ _, by simp⟩
  · simp at hcs
    subst hcs hx
    simp only [if_true] at hmm
    subst hmm
    have key : ∀ i, i < len → ∃ e : Pt, ∀ j, j < 2 → W.cell? (a.add (i * 2 + j)) = e.cells[j]? := by
      intro i hil
      obtain ⟨ys, n, _, _, _, hfld⟩ := hi i (by omega)
      obtain ⟨v0, y0, c0, _, t0⟩ := hfld 0 _ rfl
      obtain ⟨v1, y1, c1, _, t1⟩ := hfld 1 _ rfl
      obtain ⟨x0, e0, _, _⟩ := DataW.trod_int Try.underlying3 t0
      obtain ⟨s1, rfl⟩ := slice_form Try.underlying26 t1
      simp only [List.cons.injEq, and_true] at e0
      subst e0
      refine ⟨⟨x0, s1⟩, fun j hj => ?_⟩
      match j, hj with
      | 0, _ => exact c0
      | 1, _ => exact c1
    haveI : Inhabited Pt := ⟨⟨0, ⟨none, 0, 0⟩⟩⟩
    obtain ⟨es, hlen, hes⟩ := flat_ex key
    refine ⟨⟨some a, len, m⟩, es, rfl, ⟨by rw [pcells_length, hlen], by unfold maxLen at hm; show len ≤ _; omega, fun hn => ?_⟩, ?_⟩
    · have hn : 0 < len := hn
      obtain ⟨b, off, spot⟩ := a
      have h0 := hes 0 (by omega) 0 (by omega)
      have h0 := cell_plain (h0.trans (show _ = some (Value.int .i64 es[0].p) from rfl))
      have hspot : spot = none := by simpa [Addr.add] using h0.1
      subst hspot
      refine ⟨b, off, rfl, by simpa [Addr.add] using h0.2, fun j u hu => ?_⟩
      obtain ⟨h1, h2⟩ := flat_get Pt.cells 2 (fun _ => rfl) (by omega) hu
      have := hes (j / 2) h1 (j % 2) (by omega)
      rw [add_plain] at this
      rw [← h2, ← this]
      congr 2; omega
    · have h1 := bulk_slice ((List.range len).map D) ((List.range (m - len)).map fun j => D (len + j))
      have h2 := bulk_length ((List.range len).map D)
      simp only [List.length_map, List.length_range] at h2
      rw [hlen]
      show len ≤ Rows.uptoBulk (.slice ((List.range len).map D) ((List.range (m - len)).map fun j => D (len + j)))
      omega

set_option maxRecDepth 20000 in
theorem open_rules {base : Nat} {v : Value} {d : DataW H} {p : List MemPlace} (hv : Value.okWide Try.prog W .any base 22 v) (h : DataW.Trod enc Try.prog W 0 (fun _ => true) true 22 v d p) :
    ∃ (A : Option Addr) (n c : Nat) (rs : List Ru), v = .slice A n c ∧ Rd W W.heap.size 7 A n (rcells rs) ∧ (∀ r ∈ rs, Ru.ok W r) ∧ n ≤ Rows.uptoBulk d ∧ (rs.map Ru.size).sum ≤ Rows.uptoBulk d := by
  obtain ⟨a0, len, cap, rfl⟩ := okWide_slice Try.underlying22 hv
  obtain ⟨fuel, hf⟩ := h
  rcases open_slice Try.underlying22 hf with ⟨hcs, hx⟩ | ⟨a, len', cap', m, nf, D, Pl, hcs, _, hl, hm, hmm, hx, hi⟩
  · simp [Value.cells] at hcs
    obtain ⟨rfl, rfl, rfl⟩ := hcs
    exact ⟨none, 0, 0, [], rfl, Rd_nil _ _ _, by simp, by omega, by simp⟩
  · simp [Value.cells] at hcs
    obtain ⟨rfl, rfl, rfl⟩ := hcs
    simp only [Prod.mk.injEq] at hx
    obtain ⟨rfl, rfl⟩ := hx
    simp only [if_true] at hmm
    subst hmm
    have hC : Try.prog.cellsOf 33 = 7 := by kernel_rfl
    have key : ∀ i, i < len → ∃ e : Ru, (∀ j, j < 7 → W.cell? (a.add (i * 7 + j)) = e.cells[j]?) ∧ Ru.ok W e ∧ e.size ≤ Rows.uptoBulk (D i) := by
      intro i hil
      obtain ⟨cs', hc, ht'⟩ := hi i (by omega)
      rw [hC] at hc
      obtain ⟨ys, n', hn', hy, hlen, hyl, hfld⟩ := DataW.trod_struct Try.underlying33 ht'
      obtain ⟨_, hcl, hat⟩ := World.cells?_some hc
      match cs', hcl with
      | [v0, v1, v2, v3, v4, v5, v6], _ =>
      match ys, hyl with
      | [y0, y1, y2, y3, y4, y5], _ =>
      have t0 : DataW.trod enc Try.prog W 0 (fun _ => true) true n' 28 (([v0, v1, v2, v3, v4, v5, v6].drop 0).take (Try.prog.cellsOf 28)) = some y0 := hfld 0 _ rfl
      have t1 : DataW.trod enc Try.prog W 0 (fun _ => true) true n' 29 (([v0, v1, v2, v3, v4, v5, v6].drop 2).take (Try.prog.cellsOf 29)) = some y1 := hfld 1 _ rfl
      have t2 : DataW.trod enc Try.prog W 0 (fun _ => true) true n' 30 (([v0, v1, v2, v3, v4, v5, v6].drop 3).take (Try.prog.cellsOf 30)) = some y2 := hfld 2 _ rfl
      have t3 : DataW.trod enc Try.prog W 0 (fun _ => true) true n' 29 (([v0, v1, v2, v3, v4, v5, v6].drop 4).take (Try.prog.cellsOf 29)) = some y3 := hfld 3 _ rfl
      have t4 : DataW.trod enc Try.prog W 0 (fun _ => true) true n' 31 (([v0, v1, v2, v3, v4, v5, v6].drop 5).take (Try.prog.cellsOf 31)) = some y4 := hfld 4 _ rfl
      have t5 : DataW.trod enc Try.prog W 0 (fun _ => true) true n' 3 (([v0, v1, v2, v3, v4, v5, v6].drop 6).take (Try.prog.cellsOf 3)) = some y5 := hfld 5 _ rfl
      rw [show Try.prog.cellsOf 28 = 2 by kernel_rfl] at t0
      rw [show Try.prog.cellsOf 29 = 1 by kernel_rfl] at t1 t3
      rw [show Try.prog.cellsOf 30 = 1 by kernel_rfl] at t2
      rw [show Try.prog.cellsOf 31 = 1 by kernel_rfl] at t4
      rw [show Try.prog.cellsOf 3 = 1 by kernel_rfl] at t5
      simp only [List.drop_zero, List.drop_succ_cons, List.take_succ_cons, List.take_zero] at t0 t1 t2 t3 t4 t5
      obtain ⟨zs, n2, hn2, hz, _, hzl, hz2⟩ := DataW.trod_struct Try.underlying28 t0
      match zs, hzl with
      | [z0, z1], _ =>
      have u0 : DataW.trod enc Try.prog W 0 (fun _ => true) true n2 3 (([v0, v1].drop 0).take (Try.prog.cellsOf 3)) = some z0 := hz2 0 _ rfl
      have u1 : DataW.trod enc Try.prog W 0 (fun _ => true) true n2 26 (([v0, v1].drop 1).take (Try.prog.cellsOf 26)) = some z1 := hz2 1 _ rfl
      rw [show Try.prog.cellsOf 3 = 1 by kernel_rfl] at u0
      rw [show Try.prog.cellsOf 26 = 1 by kernel_rfl] at u1
      simp only [List.drop_zero, List.drop_succ_cons, List.take_succ_cons, List.take_zero] at u0 u1
      obtain ⟨x0, e0, _, _⟩ := DataW.trod_int Try.underlying3 u0
      obtain ⟨sa, rfl⟩ := slice_form Try.underlying26 u1
      obtain ⟨s1, pos, rfl, hr1, hb1⟩ := open_pats t1
      obtain ⟨s2, rfl⟩ := slice_form Try.underlying30 t2
      obtain ⟨s3, neg, rfl, hr3, hb3⟩ := open_pats t3
      obtain ⟨s4, rfl⟩ := slice_form Try.underlying31 t4
      obtain ⟨x5, e5, _, _⟩ := DataW.trod_int Try.underlying3 t5
      simp only [List.cons.injEq, and_true] at e0 e5
      subst e0 e5
      refine ⟨⟨⟨x0, sa⟩, s1, pos, s2, s3, neg, s4, x5⟩, fun j hj => ?_, ⟨hr1, hr3⟩, ?_⟩
      · rw [← Go.Deep.add_add]
        exact hat j hj
      · simp only [Prod.mk.injEq, List.map_cons, List.map_nil] at hy
        rw [hy.1]
        simp only [Rows.uptoBulk, Rows.uptoBulkAll, Ru.size]
        omega
    haveI : Inhabited Ru := ⟨⟨⟨0, ⟨none, 0, 0⟩⟩, ⟨none, 0, 0⟩, [], ⟨none, 0, 0⟩, ⟨none, 0, 0⟩, [], ⟨none, 0, 0⟩, 0⟩⟩
    obtain ⟨rs, hlen, hes⟩ := flat_ex key
    have h1 := bulk_slice ((List.range len).map D) ((List.range (m - len)).map fun j => D (len + j))
    have h2 := bulk_length ((List.range len).map D)
    simp only [List.length_map, List.length_range] at h2
    have h3 := bulk_sum Ru.size rs ((List.range len).map D) (by simp [hlen]) (fun i h1 h2 => by
      have := (hes i h1).2.2
      simpa using this)
    refine ⟨some a, len, m, rs, rfl, ⟨by rw [rcells_length, hlen], by unfold maxLen at hm; omega, fun hn => ?_⟩, fun x hx => by obtain ⟨i, hi2, rfl⟩ := List.mem_iff_getElem.1 hx; exact (hes i hi2).2.1, by omega, by omega⟩
    obtain ⟨b, off, spot⟩ := a
    have h0 := (hes 0 (by omega)).1 0 (by omega)
    have h0 := cell_plain (h0.trans (show _ = some (Value.int .i64 rs[0].h.p) from rfl))
    have hspot : spot = none := by simpa [Addr.add] using h0.1
    subst hspot
    refine ⟨b, off, rfl, by simpa [Addr.add] using h0.2, fun j u hu => ?_⟩
    obtain ⟨h1, h2⟩ := flat_get Ru.cells 7 (fun _ => rfl) (by omega) hu
    have := (hes (j / 7) h1).1 (j % 7) (by omega)
    rw [add_plain] at this
    rw [← h2, ← this]
    congr 2; omega
end
end Go.Proofs.Ytefpglaipnnggaa
