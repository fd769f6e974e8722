/- Programs that come in, opened. -/
import Derived.Test.YtjcgkplphiedjaaL2
import Derived.Test.YtjcgkplphiedjaaJ8
namespace Go.Proofs.Ytjcgkplphiedjaa
open Go.ChangeShapes Go.WideShapes Go.ChangeAt Go.RowKit Go.Deep

theorem bulk_one {H : Type} (d : DataW H) : 1 ≤ Rows.uptoBulk d := by
  cases d with
  | lit l => cases l <;> simp [Rows.uptoBulk]
  | nil => simp [Rows.uptoBulk]
  | ptr d => simp [Rows.uptoBulk]
  | slice elems spare => simp [Rows.uptoBulk]
  | agg parts => simp [Rows.uptoBulk]
  | iface t d => simp [Rows.uptoBulk]
  | map entries => simp [Rows.uptoBulk]
  | held h => simp [Rows.uptoBulk]
theorem bulk_length {H : Type} (l : List (DataW H)) : l.length ≤ Rows.uptoBulkAll l := by
  induction l with
  | nil => simp [Rows.uptoBulkAll]
  | cons x r ih => have := bulk_one x; simp only [Rows.uptoBulkAll, List.length_cons]; omega
theorem bulk_slice {H : Type} (elems spare : List (DataW H)) : Rows.uptoBulkAll elems + 1 ≤ Rows.uptoBulk (.slice elems spare) := by
  simp only [Rows.uptoBulk]; omega
theorem bulk_mem {H : Type} {x : DataW H} : ∀ {l : List (DataW H)}, x ∈ l → Rows.uptoBulk x ≤ Rows.uptoBulkAll l
  | y :: l, h => by
    rw [Rows.uptoBulkAll]
    rcases List.mem_cons.1 h with rfl | h
    · omega
    · have := bulk_mem h; omega
theorem bulk_sum {H : Type} {α : Type} (f : α → Nat) : ∀ (l : List α) (ds : List (DataW H)), l.length = ds.length → (∀ i (h1 : i < l.length) (h2 : i < ds.length), f l[i] ≤ Rows.uptoBulk ds[i]) → (l.map f).sum ≤ Rows.uptoBulkAll ds
  | [], [], _, _ => by simp [Rows.uptoBulkAll]
  | [], _ :: _, h, _ => by simp at h
  | _ :: _, [], h, _ => by simp at h
  | a :: l, d :: ds, h, hle => by
    have h0 := hle 0 (by simp) (by simp)
    have h1 := bulk_sum f l ds (by simpa using h) (fun i h1 h2 => by
      have := hle (i + 1) (by simpa using h1) (by simpa using h2)
      simpa using this)
    simp only [List.getElem_cons_zero] at h0
    simp only [List.map_cons, List.sum_cons, Rows.uptoBulkAll]
    omega

theorem flat_get {α : Type} (f : α → List Value) (s : Nat) (hf : ∀ x, (f x).length = s) (hs : 0 < s) {l : List α} {j : Nat} {u : Value} (hu : (l.flatMap f)[j]? = some u) : ∃ h : j / s < l.length, (f l[j / s])[j % s]? = some u := by
  have hj : j < (l.flatMap f).length := (List.getElem?_eq_some_iff.1 hu).1
  rw [flat_length f s hf] at hj
  have h1 : j / s < l.length := Nat.div_lt_of_lt_mul (by rw [Nat.mul_comm]; exact hj)
  refine ⟨h1, ?_⟩
  have h := flat_at f s hf l (j / s) (j % s) h1 (Nat.mod_lt _ hs)
  rw [← h, ← hu]
  congr 1
  rw [Nat.mul_comm]; exact Nat.div_add_mod j s

section
variable {H : Type} {enc : TypeId × Value → H} {W : World}

theorem open_atom {n : Nat} {v0 v1 v2 : Value} {y : DataW H × List MemPlace} (h : DataW.trod enc Try.prog W 0 (fun _ => true) true n 27 [v0, v1, v2] = some y) (hb : Rows.uptoBulk y.1 ≤ 1048576) :
    ∃ a : At, v0 = .string a.p ∧ v1 = .slice a.A a.n a.c ∧ v2 = .int .i64 a.o ∧ At.ok W a ∧ a.p.size ≤ maxLen := by
  obtain ⟨ys, n', _, hy, _, hyl, hfld⟩ := DataW.trod_struct Try.underlying27 h
  match ys, hyl with
  | [y0, y1, y2], _ =>
  have t0 : DataW.trod enc Try.prog W 0 (fun _ => true) true n' 9 (([v0, v1, v2].drop 0).take (Try.prog.cellsOf 9)) = some y0 := hfld 0 _ rfl
  have t1 : DataW.trod enc Try.prog W 0 (fun _ => true) true n' 25 (([v0, v1, v2].drop 1).take (Try.prog.cellsOf 25)) = some y1 := hfld 1 _ rfl
  have t2 : DataW.trod enc Try.prog W 0 (fun _ => true) true n' 3 (([v0, v1, v2].drop 2).take (Try.prog.cellsOf 3)) = some y2 := hfld 2 _ rfl
  rw [show Try.prog.cellsOf 9 = 1 by kernel_rfl] at t0
  rw [show Try.prog.cellsOf 25 = 1 by kernel_rfl] at t1
  rw [show Try.prog.cellsOf 3 = 1 by kernel_rfl] at t2
  simp only [List.drop_zero, List.drop_succ_cons, List.take_succ_cons, List.take_zero] at t0 t1 t2
  obtain ⟨x0, e0, _, hs0⟩ := DataW.trod_string Try.underlying9 t0
  obtain ⟨A1, n1, c1, es1, rfl, hr1, hA1, hb1⟩ := open_terms t1
  obtain ⟨x2, e2, _, _⟩ := DataW.trod_int Try.underlying3 t2
  simp only [List.cons.injEq, and_true] at e0 e2
  subst e0 e2
  rw [hy] at hb
  simp only [List.map_cons, List.map_nil, Rows.uptoBulk, Rows.uptoBulkAll] at hb
  refine ⟨⟨x0, A1, n1, c1, x2, es1⟩, rfl, rfl, rfl, ⟨hr1, hA1, ?_⟩, hs0⟩
  rcases hb1 with h0 | ⟨el, sp, he, h0⟩
  · simp only [h0]; omega
  · have h2 := bulk_slice el sp
    have h3 := bulk_length el
    rw [← he] at h2
    show n1 * 40 ≤ _
    omega

theorem open_term {n : Nat} {v0 v1 v2 v3 : Value} {y : DataW H × List MemPlace} (h : DataW.trod enc Try.prog W 0 (fun _ => true) true n 33 [v0, v1, v2, v3] = some y) :
    ∃ t : T, v0 = .int .i64 t.k ∧ v1 = .int .i64 t.i ∧ v2 = .string t.t ∧ v3 = .int .i64 t.o := by
  obtain ⟨ys, n', _, hy, _, hyl, hfld⟩ := DataW.trod_struct Try.underlying33 h
  match ys, hyl with
  | [y0, y1, y2, y3], _ =>
  have t0 : DataW.trod enc Try.prog W 0 (fun _ => true) true n' 3 (([v0, v1, v2, v3].drop 0).take (Try.prog.cellsOf 3)) = some y0 := hfld 0 _ rfl
  have t1 : DataW.trod enc Try.prog W 0 (fun _ => true) true n' 2 (([v0, v1, v2, v3].drop 1).take (Try.prog.cellsOf 2)) = some y1 := hfld 1 _ rfl
  have t2 : DataW.trod enc Try.prog W 0 (fun _ => true) true n' 9 (([v0, v1, v2, v3].drop 2).take (Try.prog.cellsOf 9)) = some y2 := hfld 2 _ rfl
  have t3 : DataW.trod enc Try.prog W 0 (fun _ => true) true n' 3 (([v0, v1, v2, v3].drop 3).take (Try.prog.cellsOf 3)) = some y3 := hfld 3 _ rfl
  rw [show Try.prog.cellsOf 3 = 1 by kernel_rfl] at t0 t3
  rw [show Try.prog.cellsOf 2 = 1 by kernel_rfl] at t1
  rw [show Try.prog.cellsOf 9 = 1 by kernel_rfl] at t2
  simp only [List.drop_zero, List.drop_succ_cons, List.take_succ_cons, List.take_zero] at t0 t1 t2 t3
  obtain ⟨x0, e0, _, _⟩ := DataW.trod_int Try.underlying3 t0
  obtain ⟨x1, e1, _, _⟩ := DataW.trod_int Try.underlying2 t1
  obtain ⟨x2, e2, _⟩ := DataW.trod_string Try.underlying9 t2
  obtain ⟨x3, e3, _, _⟩ := DataW.trod_int Try.underlying3 t3
  simp only [List.cons.injEq, and_true] at e0 e1 e2 e3
  subst e0 e1 e2 e3
  exact ⟨⟨x0, x1, x2, x3⟩, rfl, rfl, rfl, rfl⟩

set_option maxRecDepth 20000 in
theorem open_lits {v : Value} {y : DataW H × List MemPlace} {fuel : Nat} (hf : DataW.trod enc Try.prog W 0 (fun _ => true) true fuel 43 [v] = some y) (hb : Rows.uptoBulk y.1 ≤ 1048576) :
    ∃ (A : Option Addr) (n c : Nat) (ls : List Li), v = .slice A n c ∧ Rd W W.heap.size 14 A n (lcells ls) ∧ (∀ x ∈ ls, Li.ok W x ∧ x.a.p.size ≤ maxLen) ∧ n ≤ Rows.uptoBulk y.1 := by
  rcases open_slice Try.underlying43 hf with ⟨hcs, hx⟩ | ⟨a, len, cap, m, nf, D, Pl, hcs, _, hl, hm, hmm, hx, hi⟩
  · simp at hcs
    subst hcs
    exact ⟨none, 0, 0, [], rfl, ⟨by simp [lcells], by omega, fun h => absurd h (by omega)⟩, by simp, by omega⟩
  · simp at hcs
    subst hcs hx
    simp only [if_true] at hmm
    subst hmm
    have hC : Try.prog.cellsOf 61 = 14 := by kernel_rfl
    have h1 := bulk_slice ((List.range len).map D) ((List.range (m - len)).map fun j => D (len + j))
    have h2 := bulk_length ((List.range len).map D)
    simp only [List.length_map, List.length_range] at h2
    have key : ∀ i, i < len → ∃ e : Li, (∀ j, j < 14 → W.cell? (a.add (i * 14 + j)) = e.cells[j]?) ∧ Li.ok W e ∧ e.a.p.size ≤ maxLen := by
      intro i hil
      have hbi : Rows.uptoBulk (D i) ≤ 1048576 := by
        have := bulk_mem (List.mem_map.2 ⟨i, by simpa using hil, rfl⟩ : D i ∈ (List.range len).map D)
        have hb' : Rows.uptoBulk (DataW.slice ((List.range len).map D) ((List.range (m - len)).map fun j => D (len + j))) ≤ 1048576 := hb
        omega
      obtain ⟨cs', hc, ht'⟩ := hi i (by omega)
      rw [hC] at hc
      obtain ⟨ys, n', hn', hy, hlen, hyl, hfld⟩ := DataW.trod_struct Try.underlying61 ht'
      obtain ⟨_, hcl, hat⟩ := World.cells?_some hc
      match cs', hcl with
      | [v0, v1, v2, v3, v4, v5, v6, v7, v8, v9, v10, v11, v12, v13], _ =>
      match ys, hyl with
      | [y0, y1, y2, y3, y4, y5], _ =>
      have t0 : DataW.trod enc Try.prog W 0 (fun _ => true) true n' 3 (([v0, v1, v2, v3, v4, v5, v6, v7, v8, v9, v10, v11, v12, v13].drop 0).take (Try.prog.cellsOf 3)) = some y0 := hfld 0 _ rfl
      have t1 : DataW.trod enc Try.prog W 0 (fun _ => true) true n' 27 (([v0, v1, v2, v3, v4, v5, v6, v7, v8, v9, v10, v11, v12, v13].drop 1).take (Try.prog.cellsOf 27)) = some y1 := hfld 1 _ rfl
      have t2 : DataW.trod enc Try.prog W 0 (fun _ => true) true n' 3 (([v0, v1, v2, v3, v4, v5, v6, v7, v8, v9, v10, v11, v12, v13].drop 4).take (Try.prog.cellsOf 3)) = some y2 := hfld 2 _ rfl
      have t3 : DataW.trod enc Try.prog W 0 (fun _ => true) true n' 33 (([v0, v1, v2, v3, v4, v5, v6, v7, v8, v9, v10, v11, v12, v13].drop 5).take (Try.prog.cellsOf 33)) = some y3 := hfld 3 _ rfl
      have t4 : DataW.trod enc Try.prog W 0 (fun _ => true) true n' 33 (([v0, v1, v2, v3, v4, v5, v6, v7, v8, v9, v10, v11, v12, v13].drop 9).take (Try.prog.cellsOf 33)) = some y4 := hfld 4 _ rfl
      have t5 : DataW.trod enc Try.prog W 0 (fun _ => true) true n' 3 (([v0, v1, v2, v3, v4, v5, v6, v7, v8, v9, v10, v11, v12, v13].drop 13).take (Try.prog.cellsOf 3)) = some y5 := hfld 5 _ rfl
      rw [show Try.prog.cellsOf 3 = 1 by kernel_rfl] at t0 t2 t5
      rw [show Try.prog.cellsOf 27 = 3 by kernel_rfl] at t1
      rw [show Try.prog.cellsOf 33 = 4 by kernel_rfl] at t3 t4
      simp only [List.drop_zero, List.drop_succ_cons, List.take_succ_cons, List.take_zero] at t0 t1 t2 t3 t4 t5
      simp only [Prod.mk.injEq, List.map_cons, List.map_nil] at hy
      rw [hy.1] at hbi
      simp only [Rows.uptoBulk, Rows.uptoBulkAll] at hbi
      obtain ⟨x0, e0, _, _⟩ := DataW.trod_int Try.underlying3 t0
      obtain ⟨at1, rfl, rfl, rfl, hok1, hsz1⟩ := open_atom t1 (by omega)
      obtain ⟨x2, e2, _, _⟩ := DataW.trod_int Try.underlying3 t2
      obtain ⟨tl, rfl, rfl, rfl, rfl⟩ := open_term t3
      obtain ⟨tr, rfl, rfl, rfl, rfl⟩ := open_term t4
      obtain ⟨x5, e5, _, _⟩ := DataW.trod_int Try.underlying3 t5
      simp only [List.cons.injEq, and_true] at e0 e2 e5
      subst e0 e2 e5
      refine ⟨⟨x0, at1, x2, tl, tr, x5⟩, fun j hj => ?_, hok1, hsz1⟩
      rw [← Go.Deep.add_add]
      exact hat j hj
    haveI : Inhabited Li := ⟨⟨0, ⟨⟨#[]⟩, none, 0, 0, 0, []⟩, 0, mark, mark, 0⟩⟩
    obtain ⟨ls, hlen, hes⟩ := flat_ex key
    refine ⟨some a, len, m, ls, rfl, ⟨by rw [lcells_length, hlen], by unfold maxLen at hm; omega, fun hn => ?_⟩, fun x hx => by obtain ⟨i, hi2, rfl⟩ := List.mem_iff_getElem.1 hx; exact (hes i hi2).2, by show len ≤ Rows.uptoBulk (DataW.slice ((List.range len).map D) ((List.range (m - len)).map fun j => D (len + j))); omega⟩
    obtain ⟨b, off, spot⟩ := a
    have h0 := (hes 0 (by omega)).1 0 (by omega)
    have h0 := cell_plain (h0.trans (show _ = some (Value.int .i64 ls[0].k) from rfl))
    have hspot : spot = none := by simpa [Addr.add] using h0.1
    subst hspot
    refine ⟨b, off, rfl, by simpa [Addr.add] using h0.2, fun j u hu => ?_⟩
    obtain ⟨h1, h2⟩ := flat_get Li.cells 14 (fun _ => rfl) (by omega) hu
    have := (hes (j / 14) h1).1 (j % 14) (by omega)
    rw [add_plain] at this
    rw [← h2, ← this]
    congr 2; omega

/-- The names in a clause are of a length that a machine holds. -/
def Cl.fine (c : Cl) : Prop := c.h.p.size ≤ maxLen ∧ ∀ x ∈ c.ls, x.a.p.size ≤ maxLen

set_option maxRecDepth 20000 in
theorem open_clauses {v : Value} {y : DataW H × List MemPlace} {fuel : Nat} (hf : DataW.trod enc Try.prog W 0 (fun _ => true) true fuel 35 [v] = some y) (hb : Rows.uptoBulk y.1 ≤ 1048576) :
    ∃ (A : Option Addr) (n c : Nat) (cs : List Cl), v = .slice A n c ∧ Rd W W.heap.size 4 A n (ccells cs) ∧ (∀ x ∈ cs, Cl.ok W x ∧ x.fine) ∧ n ≤ Rows.uptoBulk y.1 ∧ (cs.map fun x => x.ls.length).sum ≤ Rows.uptoBulk y.1 := by
  rcases open_slice Try.underlying35 hf with ⟨hcs, hx⟩ | ⟨a, len, cap, m, nf, D, Pl, hcs, _, hl, hm, hmm, hx, hi⟩
  · simp at hcs
    subst hcs
    exact ⟨none, 0, 0, [], rfl, ⟨by simp [ccells], by omega, fun h => absurd h (by omega)⟩, by simp, by omega, by simp⟩
  · simp at hcs
    subst hcs hx
    simp only [if_true] at hmm
    subst hmm
    have hC : Try.prog.cellsOf 45 = 4 := by kernel_rfl
    have h1 := bulk_slice ((List.range len).map D) ((List.range (m - len)).map fun j => D (len + j))
    have h2 := bulk_length ((List.range len).map D)
    simp only [List.length_map, List.length_range] at h2
    have key : ∀ i, i < len → ∃ e : Cl, (∀ j, j < 4 → W.cell? (a.add (i * 4 + j)) = e.cells[j]?) ∧ (Cl.ok W e ∧ e.fine) ∧ e.ls.length ≤ Rows.uptoBulk (D i) := by
      intro i hil
      have hbi : Rows.uptoBulk (D i) ≤ 1048576 := by
        have := bulk_mem (List.mem_map.2 ⟨i, by simpa using hil, rfl⟩ : D i ∈ (List.range len).map D)
        have hb' : Rows.uptoBulk (DataW.slice ((List.range len).map D) ((List.range (m - len)).map fun j => D (len + j))) ≤ 1048576 := hb
        omega
      obtain ⟨cs', hc, ht'⟩ := hi i (by omega)
      rw [hC] at hc
      obtain ⟨ys, n', hn', hy, hlen, hyl, hfld⟩ := DataW.trod_struct Try.underlying45 ht'
      obtain ⟨_, hcl, hat⟩ := World.cells?_some hc
      match cs', hcl with
      | [v0, v1, v2, v3], _ =>
      match ys, hyl with
      | [y0, y1], _ =>
      have t0 : DataW.trod enc Try.prog W 0 (fun _ => true) true n' 27 (([v0, v1, v2, v3].drop 0).take (Try.prog.cellsOf 27)) = some y0 := hfld 0 _ rfl
      have t1 : DataW.trod enc Try.prog W 0 (fun _ => true) true n' 43 (([v0, v1, v2, v3].drop 3).take (Try.prog.cellsOf 43)) = some y1 := hfld 1 _ rfl
      rw [show Try.prog.cellsOf 27 = 3 by kernel_rfl] at t0
      rw [show Try.prog.cellsOf 43 = 1 by kernel_rfl] at t1
      simp only [List.drop_zero, List.drop_succ_cons, List.take_succ_cons, List.take_zero] at t0 t1
      simp only [Prod.mk.injEq, List.map_cons, List.map_nil] at hy
      rw [hy.1] at hbi
      simp only [Rows.uptoBulk, Rows.uptoBulkAll] at hbi
      obtain ⟨at0, rfl, rfl, rfl, hok0, hsz0⟩ := open_atom t0 (by omega)
      obtain ⟨A1, n1, c1, ls, rfl, hr1, hls, hn1⟩ := open_lits t1 (by omega)
      have hlen1 : ls.length = n1 := by have := hr1.1; rw [lcells_length] at this; omega
      refine ⟨⟨at0, A1, n1, c1, ls⟩, fun j hj => ?_, ⟨⟨hok0, hr1, by show n1 * 152 ≤ _; omega, fun z hz => (hls z hz).1⟩, hsz0, fun z hz => (hls z hz).2⟩, ?_⟩
      · rw [← Go.Deep.add_add]
        exact hat j hj
      · rw [hy.1]
        simp only [Rows.uptoBulk, Rows.uptoBulkAll]
        omega
    haveI : Inhabited Cl := ⟨⟨⟨⟨#[]⟩, none, 0, 0, 0, []⟩, none, 0, 0, []⟩⟩
    obtain ⟨cs, hlen, hes⟩ := flat_ex key
    have h3 := bulk_sum (fun x : Cl => x.ls.length) cs ((List.range len).map D) (by simp [hlen]) (fun i h1 h2 => by
      have := (hes i h1).2.2
      simpa using this)
    refine ⟨some a, len, m, cs, rfl, ⟨by rw [ccells_length, hlen], by unfold maxLen at hm; omega, fun hn => ?_⟩, fun x hx => by obtain ⟨i, hi2, rfl⟩ := List.mem_iff_getElem.1 hx; exact (hes i hi2).2.1, ?_, ?_⟩
    · obtain ⟨b, off, spot⟩ := a
      have h0 := (hes 0 (by omega)).1 0 (by omega)
      have h0 := cell_plain (h0.trans (show _ = some (Value.string cs[0].h.p) from rfl))
      have hspot : spot = none := by simpa [Addr.add] using h0.1
      subst hspot
      refine ⟨b, off, rfl, by simpa [Addr.add] using h0.2, fun j u hu => ?_⟩
      obtain ⟨h1, h2⟩ := flat_get Cl.cells 4 (fun _ => rfl) (by omega) hu
      have := (hes (j / 4) h1).1 (j % 4) (by omega)
      rw [add_plain] at this
      rw [← h2, ← this]
      congr 2; omega
    · show len ≤ Rows.uptoBulk (DataW.slice ((List.range len).map D) ((List.range (m - len)).map fun j => D (len + j)))
      omega
    · show (cs.map fun x : Cl => x.ls.length).sum ≤ Rows.uptoBulk (DataW.slice ((List.range len).map D) ((List.range (m - len)).map fun j => D (len + j)))
      omega
end
end Go.Proofs.Ytjcgkplphiedjaa
