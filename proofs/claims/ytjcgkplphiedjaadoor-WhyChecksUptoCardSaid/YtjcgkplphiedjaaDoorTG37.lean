/- Lines that come in, opened. -/
import Derived.Test.YtjcgkplphiedjaaDoorTG11
import Derived.Test.YtjcgkplphiedjaaDoorA9
namespace Go.Proofs.YtjcgkplphiedjaaDoorT
open Go.ChangeShapes Go.WideShapes Go.ChangeAt Go.RowKit Go.Deep
open YtjcgkplphiedjaaDoor (bulk_one bulk_length bulk_slice bulk_mem flat_get cell_plain flat_ex)

theorem bulk_sum {H : Type} {α : Type} (f : α → Nat) : ∀ (l : List α) (ds : List (DataW H)), l.length = ds.length → (∀ i (h1 : i < l.length) (h2 : i < ds.length), f l[i] ≤ YtjcgkplphiedjaaDoor.Rows.uptoBulk ds[i]) → (l.map f).sum ≤ YtjcgkplphiedjaaDoor.Rows.uptoBulkAll ds
  | [], [], _, _ => by simp [YtjcgkplphiedjaaDoor.Rows.uptoBulkAll]
  | [], _ :: _, h, _ => by simp at h
  | _ :: _, [], h, _ => by simp at h
  | a :: l, d :: ds, h, hle => by
    have h0 := hle 0 (by simp) (by simp)
    have h1 := bulk_sum f l ds (by simpa using h) (fun i h1 h2 => by
      have := hle (i + 1) (by simpa using h1) (by simpa using h2)
      simpa using this)
    simp only [List.getElem_cons_zero] at h0
    simp only [List.map_cons, List.sum_cons, YtjcgkplphiedjaaDoor.Rows.uptoBulkAll]
    omega
theorem inI_of {z : Int} (h : (Lit.int .i64 z).wf = true) : inI z := YtjcgkplphiedjaaDoor.inI_of h

section
variable {H : Type} {enc : TypeId × Value → H} {W : World}

theorem open_const {n : Nat} {v0 v1 v2 : Value} {y : DataW H × List MemPlace} (h : DataW.trod enc Tryd.prog W 0 (fun _ => true) true n 68 [v0, v1, v2] = some y) :
    ∃ z : Cn, v0 = .int .i64 z.k ∧ v1 = .int .i64 z.i ∧ v2 = .string z.t ∧ (inI z.i ∧ fineK z) := by
  obtain ⟨ys, n', _, hy, _, hyl, hfld⟩ := DataW.trod_struct Tryd.underlying68 h
  match ys, hyl with
  | [y0, y1, y2], _ =>
  have t0 : DataW.trod enc Tryd.prog W 0 (fun _ => true) true n' 3 (([v0, v1, v2].drop 0).take (Tryd.prog.cellsOf 3)) = some y0 := hfld 0 _ rfl
  have t1 : DataW.trod enc Tryd.prog W 0 (fun _ => true) true n' 2 (([v0, v1, v2].drop 1).take (Tryd.prog.cellsOf 2)) = some y1 := hfld 1 _ rfl
  have t2 : DataW.trod enc Tryd.prog W 0 (fun _ => true) true n' 9 (([v0, v1, v2].drop 2).take (Tryd.prog.cellsOf 9)) = some y2 := hfld 2 _ rfl
  rw [show Tryd.prog.cellsOf 3 = 1 by kernel_rfl] at t0
  rw [show Tryd.prog.cellsOf 2 = 1 by kernel_rfl] at t1
  rw [show Tryd.prog.cellsOf 9 = 1 by kernel_rfl] at t2
  simp only [List.drop_zero, List.drop_succ_cons, List.take_succ_cons, List.take_zero] at t0 t1 t2
  obtain ⟨x0, e0, _, _⟩ := DataW.trod_int Tryd.underlying3 t0
  obtain ⟨x1, e1, _, r1⟩ := DataW.trod_int Tryd.underlying2 t1
  obtain ⟨x2, e2, _, hs⟩ := DataW.trod_string Tryd.underlying9 t2
  simp only [List.cons.injEq, and_true] at e0 e1 e2
  subst e0 e1 e2
  exact ⟨⟨x0, x1, x2⟩, rfl, rfl, rfl, inI_of r1, by unfold maxLen at hs; exact hs⟩

set_option maxRecDepth 20000 in
theorem open_consts {v : Value} {y : DataW H × List MemPlace} {fuel : Nat} (hf : DataW.trod enc Tryd.prog W 0 (fun _ => true) true fuel 36 [v] = some y) :
    ∃ (A : Option Addr) (n c : Nat) (xs : List Cn), v = .slice A n c ∧ Rd W W.heap.size 3 A n (kcells xs) ∧ (A = none → c = 0) ∧ (∀ z ∈ xs, inI z.i ∧ fineK z) ∧ n + 1 ≤ YtjcgkplphiedjaaDoor.Rows.uptoBulk y.1 := by
  rcases open_slice Tryd.underlying36 hf with ⟨hcs, hx⟩ | ⟨a, len, cap, m, nf, D, Pl, hcs, _, hl, hm, hmm, hx, hi⟩
  · simp at hcs
    subst hcs
    exact ⟨none, 0, 0, [], rfl, ⟨by simp [kcells], by omega, fun h => absurd h (by omega)⟩, fun _ => rfl, by simp, by have := bulk_one y.1; omega⟩
  · simp at hcs
    subst hcs hx
    simp only [if_true] at hmm
    subst hmm
    have hC : Tryd.prog.cellsOf 68 = 3 := by kernel_rfl
    have h1 := bulk_slice ((List.range len).map D) ((List.range (m - len)).map fun j => D (len + j))
    have h2 := bulk_length ((List.range len).map D)
    simp only [List.length_map, List.length_range] at h2
    have key : ∀ i, i < len → ∃ e : Cn, (∀ j, j < 3 → W.cell? (a.add (i * 3 + j)) = e.cells[j]?) ∧ (inI e.i ∧ fineK e) := by
      intro i hil
      obtain ⟨cs', hc, ht'⟩ := hi i (by omega)
      rw [hC] at hc
      obtain ⟨_, hcl, hat⟩ := World.cells?_some hc
      match cs', hcl with
      | [v0, v1, v2], _ =>
      obtain ⟨z, rfl, rfl, rfl, hz⟩ := open_const ht'
      refine ⟨z, fun j hj => ?_, hz⟩
      rw [← Go.Deep.add_add]
      exact hat j hj
    haveI : Inhabited Cn := ⟨⟨0, 0, ⟨#[]⟩⟩⟩
    obtain ⟨xs, hlen, hes⟩ := flat_ex key
    refine ⟨some a, len, m, xs, rfl, ⟨by rw [kcells_length, hlen], by unfold maxLen at hm; omega, fun hn => ?_⟩, (fun h => by cases h), fun x hx => by obtain ⟨i, hi2, rfl⟩ := List.mem_iff_getElem.1 hx; exact (hes i hi2).2, by show len + 1 ≤ YtjcgkplphiedjaaDoor.Rows.uptoBulk (DataW.slice ((List.range len).map D) ((List.range (m - len)).map fun j => D (len + j))); omega⟩
    obtain ⟨b, off, spot⟩ := a
    have h0 := (hes 0 (by omega)).1 0 (by omega)
    have h0 := cell_plain (h0.trans (show _ = some (Value.int .i64 xs[0].k) from rfl))
    have hspot : spot = none := by simpa [Addr.add] using h0.1
    subst hspot
    refine ⟨b, off, rfl, by simpa [Addr.add] using h0.2, fun j u hu => ?_⟩
    obtain ⟨h1, h2⟩ := flat_get Cn.cells 3 (fun _ => rfl) (by omega) hu
    have := (hes (j / 3) h1).1 (j % 3) (by omega)
    rw [add_plain] at this
    rw [← h2, ← this]
    congr 2; omega

set_option maxRecDepth 20000 in
theorem open_nums {v : Value} {y : DataW H × List MemPlace} {fuel : Nat} (hf : DataW.trod enc Tryd.prog W 0 (fun _ => true) true fuel 27 [v] = some y) :
    ∃ (A : Option Addr) (n c : Nat) (xs : List Int), v = .slice A n c ∧ Rd W W.heap.size 1 A n (icells xs) ∧ (A = none → c = 0) ∧ (∀ z ∈ xs, inI z) ∧ n + 1 ≤ YtjcgkplphiedjaaDoor.Rows.uptoBulk y.1 := by
  rcases open_slice Tryd.underlying27 hf with ⟨hcs, hx⟩ | ⟨a, len, cap, m, nf, D, Pl, hcs, _, hl, hm, hmm, hx, hi⟩
  · simp at hcs
    subst hcs
    exact ⟨none, 0, 0, [], rfl, ⟨by simp [icells], by omega, fun h => absurd h (by omega)⟩, fun _ => rfl, by simp, by have := bulk_one y.1; omega⟩
  · simp at hcs
    subst hcs hx
    simp only [if_true] at hmm
    subst hmm
    have hC : Tryd.prog.cellsOf 3 = 1 := by kernel_rfl
    have h1 := bulk_slice ((List.range len).map D) ((List.range (m - len)).map fun j => D (len + j))
    have h2 := bulk_length ((List.range len).map D)
    simp only [List.length_map, List.length_range] at h2
    have key : ∀ i, i < len → ∃ e : Int, W.cell? (a.add i) = some (.int .i64 e) ∧ inI e := by
      intro i hil
      obtain ⟨cs', hc, ht'⟩ := hi i (by omega)
      rw [hC, Nat.mul_one] at hc
      obtain ⟨_, hcl, hat⟩ := World.cells?_some hc
      match cs', hcl with
      | [v0], _ =>
      obtain ⟨x0, e0, _, r0⟩ := DataW.trod_int Tryd.underlying3 ht'
      simp only [List.cons.injEq, and_true] at e0
      subst e0
      refine ⟨x0, ?_, inI_of r0⟩
      have := hat 0 (by omega)
      rw [Go.Deep.add_add] at this
      simpa using this
    obtain ⟨xs, hlen, hes⟩ := flat_ex key
    refine ⟨some a, len, m, xs, rfl, ⟨by rw [icells_length, hlen], by unfold maxLen at hm; omega, fun hn => ?_⟩, (fun h => by cases h), fun x hx => by obtain ⟨i, hi2, rfl⟩ := List.mem_iff_getElem.1 hx; exact (hes i hi2).2, by show len + 1 ≤ YtjcgkplphiedjaaDoor.Rows.uptoBulk (DataW.slice ((List.range len).map D) ((List.range (m - len)).map fun j => D (len + j))); omega⟩
    obtain ⟨b, off, spot⟩ := a
    have h0 := cell_plain (hes 0 (by omega)).1
    have hspot : spot = none := by simpa [Addr.add] using h0.1
    subst hspot
    refine ⟨b, off, rfl, by simpa [Addr.add] using h0.2, fun j u hu => ?_⟩
    have hj : j < xs.length := by
      have := (List.getElem?_eq_some_iff.1 hu).1
      rw [icells_length] at this; omega
    have := (hes j hj).1
    rw [add_plain] at this
    rw [this, ← hu]
    simp [icells, hj]

set_option maxRecDepth 20000 in
theorem open_lines {v : Value} {y : DataW H × List MemPlace} {fuel : Nat} (hf : DataW.trod enc Tryd.prog W 0 (fun _ => true) true fuel 25 [v] = some y) (hb : YtjcgkplphiedjaaDoor.Rows.uptoBulk y.1 ≤ 1048576) :
    ∃ (A : Option Addr) (n c : Nat) (ls : List Ln), v = .slice A n c ∧ Rd W W.heap.size 5 A n (ncells ls) ∧ (A = none → c = 0) ∧ (∀ x ∈ ls, (Ln.ok W x ∧ x.nice) ∧ x.n ≤ 1048576) ∧ n ≤ 1048576 ∧ wts ls ≤ 1048576 := by
  rcases open_slice Tryd.underlying25 hf with ⟨hcs, hx⟩ | ⟨a, len, cap, m, nf, D, Pl, hcs, _, hl, hm, hmm, hx, hi⟩
  · simp at hcs
    subst hcs
    exact ⟨none, 0, 0, [], rfl, ⟨by simp [ncells], by omega, fun h => absurd h (by omega)⟩, fun _ => rfl, by simp, by omega, by simp [wts]⟩
  · simp at hcs
    subst hcs hx
    simp only [if_true] at hmm
    subst hmm
    have hC : Tryd.prog.cellsOf 66 = 5 := by kernel_rfl
    have hb' : YtjcgkplphiedjaaDoor.Rows.uptoBulk (DataW.slice ((List.range len).map D) ((List.range (m - len)).map fun j => D (len + j))) ≤ 1048576 := hb
    have h1 := bulk_slice ((List.range len).map D) ((List.range (m - len)).map fun j => D (len + j))
    have h2 := bulk_length ((List.range len).map D)
    simp only [List.length_map, List.length_range] at h2
    have key : ∀ i, i < len → ∃ e : Ln, (∀ j, j < 5 → W.cell? (a.add (i * 5 + j)) = e.cells[j]?) ∧ ((Ln.ok W e ∧ e.nice) ∧ e.n ≤ 1048576) ∧ e.wt ≤ YtjcgkplphiedjaaDoor.Rows.uptoBulk (D i) := by
      intro i hil
      have hbi : YtjcgkplphiedjaaDoor.Rows.uptoBulk (D i) ≤ 1048576 := by
        have := bulk_mem (List.mem_map.2 ⟨i, by simpa using hil, rfl⟩ : D i ∈ (List.range len).map D)
        omega
      obtain ⟨cs', hc, ht'⟩ := hi i (by omega)
      rw [hC] at hc
      obtain ⟨ys, n', hn', hy, hlen, hyl, hfld⟩ := DataW.trod_struct Tryd.underlying66 ht'
      obtain ⟨_, hcl, hat⟩ := World.cells?_some hc
      match cs', hcl with
      | [v0, v1, v2, v3, v4], _ =>
      match ys, hyl with
      | [y0, y1, y2, y3], _ =>
      have t0 : DataW.trod enc Tryd.prog W 0 (fun _ => true) true n' 45 (([v0, v1, v2, v3, v4].drop 0).take (Tryd.prog.cellsOf 45)) = some y0 := hfld 0 _ rfl
      have t1 : DataW.trod enc Tryd.prog W 0 (fun _ => true) true n' 3 (([v0, v1, v2, v3, v4].drop 2).take (Tryd.prog.cellsOf 3)) = some y1 := hfld 1 _ rfl
      have t2 : DataW.trod enc Tryd.prog W 0 (fun _ => true) true n' 36 (([v0, v1, v2, v3, v4].drop 3).take (Tryd.prog.cellsOf 36)) = some y2 := hfld 2 _ rfl
      have t3 : DataW.trod enc Tryd.prog W 0 (fun _ => true) true n' 27 (([v0, v1, v2, v3, v4].drop 4).take (Tryd.prog.cellsOf 27)) = some y3 := hfld 3 _ rfl
      rw [show Tryd.prog.cellsOf 45 = 2 by kernel_rfl] at t0
      rw [show Tryd.prog.cellsOf 3 = 1 by kernel_rfl] at t1
      rw [show Tryd.prog.cellsOf 36 = 1 by kernel_rfl] at t2
      rw [show Tryd.prog.cellsOf 27 = 1 by kernel_rfl] at t3
      simp only [List.drop_zero, List.drop_succ_cons, List.take_succ_cons, List.take_zero] at t0 t1 t2 t3
      obtain ⟨zs, n2, _, hz, _, hzl, hzf⟩ := DataW.trod_struct Tryd.underlying45 t0
      match zs, hzl with
      | [z0, z1], _ =>
      have s0 : DataW.trod enc Tryd.prog W 0 (fun _ => true) true n2 9 (([v0, v1].drop 0).take (Tryd.prog.cellsOf 9)) = some z0 := hzf 0 _ rfl
      have s1 : DataW.trod enc Tryd.prog W 0 (fun _ => true) true n2 36 (([v0, v1].drop 1).take (Tryd.prog.cellsOf 36)) = some z1 := hzf 1 _ rfl
      rw [show Tryd.prog.cellsOf 9 = 1 by kernel_rfl] at s0
      rw [show Tryd.prog.cellsOf 36 = 1 by kernel_rfl] at s1
      simp only [List.drop_zero, List.drop_succ_cons, List.take_succ_cons, List.take_zero] at s0 s1
      simp only [Prod.mk.injEq, List.map_cons, List.map_nil] at hy hz
      rw [hy.1] at hbi
      simp only [YtjcgkplphiedjaaDoor.Rows.uptoBulk, YtjcgkplphiedjaaDoor.Rows.uptoBulkAll] at hbi
      have hbz : YtjcgkplphiedjaaDoor.Rows.uptoBulk y0.1 ≤ 1048576 := by omega
      rw [hz] at hbz
      simp only [YtjcgkplphiedjaaDoor.Rows.uptoBulk, YtjcgkplphiedjaaDoor.Rows.uptoBulkAll] at hbz
      obtain ⟨x0, e0, _, hs0⟩ := DataW.trod_string Tryd.underlying9 s0
      obtain ⟨A1, n1, c1, xs, rfl, hr1, hA1, hx1, hn1⟩ := open_consts s1
      obtain ⟨x2, e2, _, r2⟩ := DataW.trod_int Tryd.underlying3 t1
      obtain ⟨A3, n3, c3, ss, rfl, hr3, hA3, hx3, hn3⟩ := open_consts t2
      obtain ⟨A4, n4, c4, fs, rfl, hr4, hA4, hx4, hn4⟩ := open_nums t3
      simp only [List.cons.injEq, and_true] at e0 e2
      subst e0 e2
      have hlx : xs.length = n1 := by have := hr1.1; rw [kcells_length] at this; omega
      have hls : ss.length = n3 := by have := hr3.1; rw [kcells_length] at this; omega
      have hlf : fs.length = n4 := by have := hr4.1; rw [icells_length] at this; omega
      refine ⟨⟨x0, A1, n1, c1, x2, A3, n3, c3, A4, n4, c4, xs, ss, fs⟩, fun j hj => ?_, ⟨⟨⟨hr1, hr3, hr4, by show n1 * 32 ≤ _; omega, by show n3 * 32 ≤ _; omega, by show n4 * 8 ≤ _; omega, hA1, hA3, hA4⟩, ⟨by unfold maxLen at hs0; exact hs0, hx1, hx3, inI_of r2, hx4⟩⟩, by show n1 ≤ _; omega⟩, ?_⟩
      · rw [← Go.Deep.add_add]
        exact hat j hj
      · rw [hy.1]
        simp only [YtjcgkplphiedjaaDoor.Rows.uptoBulk, YtjcgkplphiedjaaDoor.Rows.uptoBulkAll, Ln.wt]
        omega
    haveI : Inhabited Ln := ⟨⟨⟨#[]⟩, none, 0, 0, 0, none, 0, 0, none, 0, 0, [], [], []⟩⟩
    obtain ⟨ls, hlen, hes⟩ := flat_ex key
    have h3 := bulk_sum Ln.wt ls ((List.range len).map D) (by simp [hlen]) (fun i h1 h2 => by
      have := (hes i h1).2.2
      simpa using this)
    refine ⟨some a, len, m, ls, rfl, ⟨by rw [ncells_length, hlen], by unfold maxLen at hm; omega, fun hn => ?_⟩, (fun h => by cases h), fun x hx => by obtain ⟨i, hi2, rfl⟩ := List.mem_iff_getElem.1 hx; exact (hes i hi2).2.1, by omega, by unfold wts; omega⟩
    obtain ⟨b, off, spot⟩ := a
    have h0 := (hes 0 (by omega)).1 0 (by omega)
    have h0 := cell_plain (h0.trans (show _ = some (Value.string ls[0].p) from rfl))
    have hspot : spot = none := by simpa [Addr.add] using h0.1
    subst hspot
    refine ⟨b, off, rfl, by simpa [Addr.add] using h0.2, fun j u hu => ?_⟩
    obtain ⟨h1, h2⟩ := flat_get Ln.cells 5 (fun _ => rfl) (by omega) hu
    have := (hes (j / 5) h1).1 (j % 5) (by omega)
    rw [add_plain] at this
    rw [← h2, ← this]
    congr 2; omega
end
end Go.Proofs.YtjcgkplphiedjaaDoorT
