/- Cores, facts, lines that come in, opened. -/
import Derived.Test.YtjcgkplphiedjaaDoorTG30
import Derived.Test.YtjcgkplphiedjaaDoorTG37
namespace Go.Proofs.YtjcgkplphiedjaaDoorT
open Go.ChangeShapes Go.WideShapes Go.ChangeAt Go.RowKit Go.Deep
open YtjcgkplphiedjaaDoor (bulk_one bulk_length bulk_slice bulk_mem flat_get cell_plain flat_ex)

instance : Inhabited Cn := ⟨⟨0, 0, ⟨#[]⟩⟩⟩
instance : Inhabited Sl := ⟨⟨false, 0⟩⟩
instance : Inhabited Pd := ⟨⟨⟨#[]⟩, 0⟩⟩
instance : Inhabited Pn := ⟨⟨0, none, 0, 0, []⟩⟩
instance : Inhabited Rw := ⟨⟨0, none, 0, 0, []⟩⟩
instance : Inhabited Ts := ⟨⟨0, default, default⟩⟩
instance : Inhabited Rl := ⟨⟨default, none, 0, 0, [], none, 0, 0, [], none, 0, 0, [], none, 0, 0, [], 0⟩⟩
instance : Inhabited Fa := ⟨⟨⟨#[]⟩, none, 0, 0, []⟩⟩
instance : Inhabited Ln := ⟨⟨⟨#[]⟩, none, 0, 0, 0, none, 0, 0, none, 0, 0, [], [], []⟩⟩

section
variable {H : Type} {enc : TypeId × Value → H} {W : World}

set_option maxRecDepth 20000 in
/-- A list that comes in, its elements opened one by one. -/
theorem open_list {α : Type} [Inhabited α] {t e : TypeId} {c : Nat} (cells : α → List Value) (Q : α → Prop) (hc0 : 0 < c) (hcl : ∀ x, (cells x).length = c) (ht : Tryd.prog.underlying t = some (.slice e)) (hC : Tryd.prog.cellsOf e = c)
    (h1 : ∀ {n : Nat} {vs : List Value} {y : DataW H × List MemPlace}, vs.length = c → DataW.trod enc Tryd.prog W 0 (fun _ => true) true n e vs = some y → YtjcgkplphiedjaaDoor.Rows.uptoBulk y.1 ≤ 1048576 → ∃ x : α, vs = cells x ∧ Q x)
    {v : Value} {y : DataW H × List MemPlace} {fuel : Nat} (hf : DataW.trod enc Tryd.prog W 0 (fun _ => true) true fuel t [v] = some y) (hb : YtjcgkplphiedjaaDoor.Rows.uptoBulk y.1 ≤ 1048576) :
    ∃ (A : Option Addr) (n c' : Nat) (xs : List α), v = .slice A n c' ∧ Rd W W.heap.size c A n (xs.flatMap cells) ∧ (A = none → c' = 0) ∧ (∀ x ∈ xs, Q x) ∧ n + 1 ≤ 1048576 := by
  rcases open_slice ht hf with ⟨hcs, hx⟩ | ⟨a, len, cap, m, nf, D, Pl, hcs, _, hl, hm, hmm, hx, hi⟩
  · simp at hcs
    subst hcs
    exact ⟨none, 0, 0, [], rfl, ⟨by simp, by omega, fun h => absurd h (by omega)⟩, fun _ => rfl, by simp, by omega⟩
  · simp at hcs
    subst hcs hx
    simp only [if_true] at hmm
    subst hmm
    have hb' : YtjcgkplphiedjaaDoor.Rows.uptoBulk (DataW.slice ((List.range len).map D) ((List.range (m - len)).map fun j => D (len + j))) ≤ 1048576 := hb
    have h2 := bulk_slice ((List.range len).map D) ((List.range (m - len)).map fun j => D (len + j))
    have h3 := bulk_length ((List.range len).map D)
    simp only [List.length_map, List.length_range] at h3
    have key : ∀ i, i < len → ∃ e : α, (∀ j, j < c → W.cell? (a.add (i * c + j)) = (cells e)[j]?) ∧ Q e := by
      intro i hil
      have hbi : YtjcgkplphiedjaaDoor.Rows.uptoBulk (D i) ≤ 1048576 := by
        have := bulk_mem (List.mem_map.2 ⟨i, by simpa using hil, rfl⟩ : D i ∈ (List.range len).map D)
        omega
      obtain ⟨cs', hc, ht'⟩ := hi i (by omega)
      rw [hC] at hc
      obtain ⟨_, hcl', hat⟩ := World.cells?_some hc
      obtain ⟨x, rfl, hQ⟩ := h1 hcl' ht' hbi
      refine ⟨x, fun j hj => ?_, hQ⟩
      rw [← Go.Deep.add_add]
      exact hat j hj
    obtain ⟨xs, hlen, hes⟩ := flat_ex key
    refine ⟨some a, len, m, xs, rfl, ⟨by rw [flat_length cells c hcl, hlen], by unfold maxLen at hm; omega, fun hn => ?_⟩, (fun h => by cases h), fun x hx => by obtain ⟨i, hi2, rfl⟩ := List.mem_iff_getElem.1 hx; exact (hes i hi2).2, by omega⟩
    obtain ⟨b, off, spot⟩ := a
    have h0 := (hes 0 (by omega)).1 0 hc0
    have h0 := cell_plain (h0.trans (List.getElem?_eq_getElem (by rw [hcl]; exact hc0)))
    have hspot : spot = none := by simpa [Addr.add] using h0.1
    subst hspot
    refine ⟨b, off, rfl, by simpa [Addr.add] using h0.2, fun j u hu => ?_⟩
    obtain ⟨h1, h2⟩ := flat_get cells c hcl hc0 hu
    have := (hes (j / c) h1).1 (j % c) (Nat.mod_lt _ hc0)
    rw [add_plain] at this
    rw [← h2, ← this]
    congr 3
    rw [Nat.mul_comm]; exact (Nat.div_add_mod j c).symm

set_option maxRecDepth 20000 in
theorem icells_flat (l : List Int) : icells l = l.flatMap (fun z : Int => [Value.int .i64 z]) := by induction l with
  | nil => rfl
  | cons a l ih => simp only [icells, List.map_cons, List.flatMap_cons, List.singleton_append] at ih ⊢; rw [ih]
theorem scells_flat (l : List ByteArray) : scells l = l.flatMap (fun z : ByteArray => [Value.string z]) := by induction l with
  | nil => rfl
  | cons a l ih => simp only [scells, List.map_cons, List.flatMap_cons, List.singleton_append] at ih ⊢; rw [ih]
theorem open_str1 {n : Nat} {vs : List Value} {y : DataW H × List MemPlace} (_hl : vs.length = 1) (h : DataW.trod enc Tryd.prog W 0 (fun _ => true) true n 9 vs = some y) (hb : YtjcgkplphiedjaaDoor.Rows.uptoBulk y.1 ≤ 1048576) :
    ∃ x : ByteArray, vs = [.string x] ∧ x.size ≤ 1048576 := by
  obtain ⟨x, e, d, _⟩ := DataW.trod_string Tryd.underlying9 h
  refine ⟨x, e, ?_⟩
  rw [d] at hb
  simp only [YtjcgkplphiedjaaDoor.Rows.uptoBulk] at hb
  have : x.data.toList.length = x.size := by rw [Array.length_toList]; rfl
  omega
set_option maxRecDepth 20000 in
theorem open_int1 {n : Nat} {vs : List Value} {y : DataW H × List MemPlace} (_hl : vs.length = 1) (h : DataW.trod enc Tryd.prog W 0 (fun _ => true) true n 3 vs = some y) (_hb : YtjcgkplphiedjaaDoor.Rows.uptoBulk y.1 ≤ 1048576) :
    ∃ x : Int, vs = [.int .i64 x] ∧ inI x := by
  obtain ⟨x, e, _, r⟩ := DataW.trod_int Tryd.underlying3 h
  exact ⟨x, e, inI_of r⟩
set_option maxRecDepth 20000 in
theorem open_long1 {n : Nat} {vs : List Value} {y : DataW H × List MemPlace} (_hl : vs.length = 1) (h : DataW.trod enc Tryd.prog W 0 (fun _ => true) true n 2 vs = some y) (_hb : YtjcgkplphiedjaaDoor.Rows.uptoBulk y.1 ≤ 1048576) :
    ∃ x : Int, vs = [.int .i64 x] ∧ inI x := by
  obtain ⟨x, e, _, r⟩ := DataW.trod_int Tryd.underlying2 h
  exact ⟨x, e, inI_of r⟩
set_option maxRecDepth 20000 in
theorem open_bool1 {n : Nat} {vs : List Value} {y : DataW H × List MemPlace} (_hl : vs.length = 1) (h : DataW.trod enc Tryd.prog W 0 (fun _ => true) true n 4 vs = some y) (_hb : YtjcgkplphiedjaaDoor.Rows.uptoBulk y.1 ≤ 1048576) :
    ∃ x : Bool, vs = [.bool x] ∧ True := by
  obtain ⟨x, e, _⟩ := DataW.trod_bool Tryd.underlying4 h
  exact ⟨x, e, trivial⟩
set_option maxRecDepth 20000 in
theorem open_constK {n : Nat} {vs : List Value} {y : DataW H × List MemPlace} (hl : vs.length = 3) (h : DataW.trod enc Tryd.prog W 0 (fun _ => true) true n 68 vs = some y) (hb : YtjcgkplphiedjaaDoor.Rows.uptoBulk y.1 ≤ 1048576) :
    ∃ x : Cn, vs = x.cells ∧ (keyK x) := by
  obtain ⟨ys, n', _, hy, _, hyl, hfld⟩ := DataW.trod_struct Tryd.underlying68 h
  match vs, hl with
  | [v0, v1, v2], _ =>
  match ys, hyl with
  | [y0, y1, y2], _ =>
  have t0 : DataW.trod enc Tryd.prog W 0 (fun _ => true) true n' 3 (([v0, v1, v2].drop 0).take (Tryd.prog.cellsOf 3)) = some y0 := hfld 0 _ rfl
  rw [show Tryd.prog.cellsOf 3 = 1 by kernel_rfl] at t0
  have t1 : DataW.trod enc Tryd.prog W 0 (fun _ => true) true n' 2 (([v0, v1, v2].drop 1).take (Tryd.prog.cellsOf 2)) = some y1 := hfld 1 _ rfl
  rw [show Tryd.prog.cellsOf 2 = 1 by kernel_rfl] at t1
  have t2 : DataW.trod enc Tryd.prog W 0 (fun _ => true) true n' 9 (([v0, v1, v2].drop 2).take (Tryd.prog.cellsOf 9)) = some y2 := hfld 2 _ rfl
  rw [show Tryd.prog.cellsOf 9 = 1 by kernel_rfl] at t2
  simp only [List.drop_zero, List.drop_succ_cons, List.take_succ_cons, List.take_zero] at t0 t1 t2
  rw [hy] at hb
  simp only [List.map_cons, List.map_nil, YtjcgkplphiedjaaDoor.Rows.uptoBulk, YtjcgkplphiedjaaDoor.Rows.uptoBulkAll] at hb
  obtain ⟨x0, e0, q0⟩ := open_int1 rfl t0 (by omega)
  simp only [List.cons.injEq, and_true] at e0
  subst e0
  obtain ⟨x1, e1, q1⟩ := open_long1 rfl t1 (by omega)
  simp only [List.cons.injEq, and_true] at e1
  subst e1
  obtain ⟨x2, e2, q2⟩ := open_str1 rfl t2 (by omega)
  simp only [List.cons.injEq, and_true] at e2
  subst e2
  exact ⟨⟨x0, x1, x2⟩, rfl, q0, q1, q2⟩
set_option maxRecDepth 20000 in
theorem open_constsK {v : Value} {y : DataW H × List MemPlace} {fuel : Nat} (hf : DataW.trod enc Tryd.prog W 0 (fun _ => true) true fuel 36 [v] = some y) (hb : YtjcgkplphiedjaaDoor.Rows.uptoBulk y.1 ≤ 1048576) :
    ∃ (A : Option Addr) (n c' : Nat) (xs : List Cn), v = .slice A n c' ∧ Rd W W.heap.size 3 A n (xs.flatMap Cn.cells) ∧ (A = none → c' = 0) ∧ (∀ x ∈ xs, keyK x) ∧ n + 1 ≤ 1048576 :=
  open_list Cn.cells (fun x => keyK x) (by decide) (fun _ => rfl) Tryd.underlying36 (by kernel_rfl) (fun hl h hb => open_constK hl h hb) hf hb
set_option maxRecDepth 20000 in
theorem open_numsK {v : Value} {y : DataW H × List MemPlace} {fuel : Nat} (hf : DataW.trod enc Tryd.prog W 0 (fun _ => true) true fuel 27 [v] = some y) (hb : YtjcgkplphiedjaaDoor.Rows.uptoBulk y.1 ≤ 1048576) :
    ∃ (A : Option Addr) (n c' : Nat) (xs : List Int), v = .slice A n c' ∧ Rd W W.heap.size 1 A n (xs.flatMap (fun z : Int => [Value.int .i64 z])) ∧ (A = none → c' = 0) ∧ (∀ x ∈ xs, inI x) ∧ n + 1 ≤ 1048576 :=
  open_list (fun z : Int => [Value.int .i64 z]) (fun x => inI x) (by decide) (fun _ => rfl) Tryd.underlying27 (by kernel_rfl) (fun hl h hb => open_int1 hl h hb) hf hb
set_option maxRecDepth 20000 in
theorem open_strsK {v : Value} {y : DataW H × List MemPlace} {fuel : Nat} (hf : DataW.trod enc Tryd.prog W 0 (fun _ => true) true fuel 71 [v] = some y) (hb : YtjcgkplphiedjaaDoor.Rows.uptoBulk y.1 ≤ 1048576) :
    ∃ (A : Option Addr) (n c' : Nat) (xs : List ByteArray), v = .slice A n c' ∧ Rd W W.heap.size 1 A n (xs.flatMap (fun z : ByteArray => [Value.string z])) ∧ (A = none → c' = 0) ∧ (∀ x ∈ xs, x.size ≤ 1048576) ∧ n + 1 ≤ 1048576 :=
  open_list (fun z : ByteArray => [Value.string z]) (fun x => x.size ≤ 1048576) (by decide) (fun _ => rfl) Tryd.underlying71 (by kernel_rfl) (fun hl h hb => open_str1 hl h hb) hf hb
set_option maxRecDepth 20000 in
theorem open_slotK {n : Nat} {vs : List Value} {y : DataW H × List MemPlace} (hl : vs.length = 2) (h : DataW.trod enc Tryd.prog W 0 (fun _ => true) true n 117 vs = some y) (hb : YtjcgkplphiedjaaDoor.Rows.uptoBulk y.1 ≤ 1048576) :
    ∃ x : Sl, vs = x.cells ∧ (True) := by
  obtain ⟨ys, n', _, hy, _, hyl, hfld⟩ := DataW.trod_struct Tryd.underlying117 h
  match vs, hl with
  | [v0, v1], _ =>
  match ys, hyl with
  | [y0, y1], _ =>
  have t0 : DataW.trod enc Tryd.prog W 0 (fun _ => true) true n' 4 (([v0, v1].drop 0).take (Tryd.prog.cellsOf 4)) = some y0 := hfld 0 _ rfl
  rw [show Tryd.prog.cellsOf 4 = 1 by kernel_rfl] at t0
  have t1 : DataW.trod enc Tryd.prog W 0 (fun _ => true) true n' 3 (([v0, v1].drop 1).take (Tryd.prog.cellsOf 3)) = some y1 := hfld 1 _ rfl
  rw [show Tryd.prog.cellsOf 3 = 1 by kernel_rfl] at t1
  simp only [List.drop_zero, List.drop_succ_cons, List.take_succ_cons, List.take_zero] at t0 t1
  rw [hy] at hb
  simp only [List.map_cons, List.map_nil, YtjcgkplphiedjaaDoor.Rows.uptoBulk, YtjcgkplphiedjaaDoor.Rows.uptoBulkAll] at hb
  obtain ⟨x0, e0, q0⟩ := open_bool1 rfl t0 (by omega)
  simp only [List.cons.injEq, and_true] at e0
  subst e0
  obtain ⟨x1, e1, q1⟩ := open_int1 rfl t1 (by omega)
  simp only [List.cons.injEq, and_true] at e1
  subst e1
  exact ⟨⟨x0, x1⟩, rfl, trivial⟩
set_option maxRecDepth 20000 in
theorem open_slotsK {v : Value} {y : DataW H × List MemPlace} {fuel : Nat} (hf : DataW.trod enc Tryd.prog W 0 (fun _ => true) true fuel 75 [v] = some y) (hb : YtjcgkplphiedjaaDoor.Rows.uptoBulk y.1 ≤ 1048576) :
    ∃ (A : Option Addr) (n c' : Nat) (xs : List Sl), v = .slice A n c' ∧ Rd W W.heap.size 2 A n (xs.flatMap Sl.cells) ∧ (A = none → c' = 0) ∧ (∀ x ∈ xs, True) ∧ n + 1 ≤ 1048576 :=
  open_list Sl.cells (fun x => True) (by decide) (fun _ => rfl) Tryd.underlying75 (by kernel_rfl) (fun hl h hb => open_slotK hl h hb) hf hb
set_option maxRecDepth 20000 in
theorem open_predK {n : Nat} {vs : List Value} {y : DataW H × List MemPlace} (hl : vs.length = 2) (h : DataW.trod enc Tryd.prog W 0 (fun _ => true) true n 94 vs = some y) (hb : YtjcgkplphiedjaaDoor.Rows.uptoBulk y.1 ≤ 1048576) :
    ∃ x : Pd, vs = x.cells ∧ (x.s.size ≤ 1048576) := by
  obtain ⟨ys, n', _, hy, _, hyl, hfld⟩ := DataW.trod_struct Tryd.underlying94 h
  match vs, hl with
  | [v0, v1], _ =>
  match ys, hyl with
  | [y0, y1], _ =>
  have t0 : DataW.trod enc Tryd.prog W 0 (fun _ => true) true n' 9 (([v0, v1].drop 0).take (Tryd.prog.cellsOf 9)) = some y0 := hfld 0 _ rfl
  rw [show Tryd.prog.cellsOf 9 = 1 by kernel_rfl] at t0
  have t1 : DataW.trod enc Tryd.prog W 0 (fun _ => true) true n' 3 (([v0, v1].drop 1).take (Tryd.prog.cellsOf 3)) = some y1 := hfld 1 _ rfl
  rw [show Tryd.prog.cellsOf 3 = 1 by kernel_rfl] at t1
  simp only [List.drop_zero, List.drop_succ_cons, List.take_succ_cons, List.take_zero] at t0 t1
  rw [hy] at hb
  simp only [List.map_cons, List.map_nil, YtjcgkplphiedjaaDoor.Rows.uptoBulk, YtjcgkplphiedjaaDoor.Rows.uptoBulkAll] at hb
  obtain ⟨x0, e0, q0⟩ := open_str1 rfl t0 (by omega)
  simp only [List.cons.injEq, and_true] at e0
  subst e0
  obtain ⟨x1, e1, q1⟩ := open_int1 rfl t1 (by omega)
  simp only [List.cons.injEq, and_true] at e1
  subst e1
  exact ⟨⟨x0, x1⟩, rfl, q0⟩
set_option maxRecDepth 20000 in
theorem open_predsK {v : Value} {y : DataW H × List MemPlace} {fuel : Nat} (hf : DataW.trod enc Tryd.prog W 0 (fun _ => true) true fuel 35 [v] = some y) (hb : YtjcgkplphiedjaaDoor.Rows.uptoBulk y.1 ≤ 1048576) :
    ∃ (A : Option Addr) (n c' : Nat) (xs : List Pd), v = .slice A n c' ∧ Rd W W.heap.size 2 A n (xs.flatMap Pd.cells) ∧ (A = none → c' = 0) ∧ (∀ x ∈ xs, x.s.size ≤ 1048576) ∧ n + 1 ≤ 1048576 :=
  open_list Pd.cells (fun x => x.s.size ≤ 1048576) (by decide) (fun _ => rfl) Tryd.underlying35 (by kernel_rfl) (fun hl h hb => open_predK hl h hb) hf hb
set_option maxRecDepth 20000 in
theorem open_patK {n : Nat} {vs : List Value} {y : DataW H × List MemPlace} (hl : vs.length = 2) (h : DataW.trod enc Tryd.prog W 0 (fun _ => true) true n 77 vs = some y) (hb : YtjcgkplphiedjaaDoor.Rows.uptoBulk y.1 ≤ 1048576) :
    ∃ x : Pn, vs = x.cells ∧ ((x.ok W ∧ (x.A = none → x.c = 0)) ∧ x.n ≤ 1048576) := by
  obtain ⟨ys, n', _, hy, _, hyl, hfld⟩ := DataW.trod_struct Tryd.underlying77 h
  match vs, hl with
  | [v0, v1], _ =>
  match ys, hyl with
  | [y0, y1], _ =>
  have t0 : DataW.trod enc Tryd.prog W 0 (fun _ => true) true n' 3 (([v0, v1].drop 0).take (Tryd.prog.cellsOf 3)) = some y0 := hfld 0 _ rfl
  rw [show Tryd.prog.cellsOf 3 = 1 by kernel_rfl] at t0
  have t1 : DataW.trod enc Tryd.prog W 0 (fun _ => true) true n' 75 (([v0, v1].drop 1).take (Tryd.prog.cellsOf 75)) = some y1 := hfld 1 _ rfl
  rw [show Tryd.prog.cellsOf 75 = 1 by kernel_rfl] at t1
  simp only [List.drop_zero, List.drop_succ_cons, List.take_succ_cons, List.take_zero] at t0 t1
  rw [hy] at hb
  simp only [List.map_cons, List.map_nil, YtjcgkplphiedjaaDoor.Rows.uptoBulk, YtjcgkplphiedjaaDoor.Rows.uptoBulkAll] at hb
  obtain ⟨x0, e0, q0⟩ := open_int1 rfl t0 (by omega)
  simp only [List.cons.injEq, and_true] at e0
  subst e0
  obtain ⟨A1, n1, c1, x1, rfl, r1, a1, q1, b1⟩ := open_slotsK t1 (by omega)
  exact ⟨⟨x0, A1, n1, c1, x1⟩, rfl, ⟨r1, a1⟩, by show n1 ≤ _; omega⟩
set_option maxRecDepth 20000 in
theorem open_patsK {v : Value} {y : DataW H × List MemPlace} {fuel : Nat} (hf : DataW.trod enc Tryd.prog W 0 (fun _ => true) true fuel 78 [v] = some y) (hb : YtjcgkplphiedjaaDoor.Rows.uptoBulk y.1 ≤ 1048576) :
    ∃ (A : Option Addr) (n c' : Nat) (xs : List Pn), v = .slice A n c' ∧ Rd W W.heap.size 2 A n (xs.flatMap Pn.cells) ∧ (A = none → c' = 0) ∧ (∀ x ∈ xs, (x.ok W ∧ (x.A = none → x.c = 0)) ∧ x.n ≤ 1048576) ∧ n + 1 ≤ 1048576 :=
  open_list Pn.cells (fun x => (x.ok W ∧ (x.A = none → x.c = 0)) ∧ x.n ≤ 1048576) (by decide) (fun _ => rfl) Tryd.underlying78 (by kernel_rfl) (fun hl h hb => open_patK hl h hb) hf hb
set_option maxRecDepth 20000 in
theorem open_rowK {n : Nat} {vs : List Value} {y : DataW H × List MemPlace} (hl : vs.length = 2) (h : DataW.trod enc Tryd.prog W 0 (fun _ => true) true n 84 vs = some y) (hb : YtjcgkplphiedjaaDoor.Rows.uptoBulk y.1 ≤ 1048576) :
    ∃ x : Rw, vs = x.cells ∧ ((x.ok W ∧ (x.A = none → x.c = 0)) ∧ x.n ≤ 1048576) := by
  obtain ⟨ys, n', _, hy, _, hyl, hfld⟩ := DataW.trod_struct Tryd.underlying84 h
  match vs, hl with
  | [v0, v1], _ =>
  match ys, hyl with
  | [y0, y1], _ =>
  have t0 : DataW.trod enc Tryd.prog W 0 (fun _ => true) true n' 3 (([v0, v1].drop 0).take (Tryd.prog.cellsOf 3)) = some y0 := hfld 0 _ rfl
  rw [show Tryd.prog.cellsOf 3 = 1 by kernel_rfl] at t0
  have t1 : DataW.trod enc Tryd.prog W 0 (fun _ => true) true n' 27 (([v0, v1].drop 1).take (Tryd.prog.cellsOf 27)) = some y1 := hfld 1 _ rfl
  rw [show Tryd.prog.cellsOf 27 = 1 by kernel_rfl] at t1
  simp only [List.drop_zero, List.drop_succ_cons, List.take_succ_cons, List.take_zero] at t0 t1
  rw [hy] at hb
  simp only [List.map_cons, List.map_nil, YtjcgkplphiedjaaDoor.Rows.uptoBulk, YtjcgkplphiedjaaDoor.Rows.uptoBulkAll] at hb
  obtain ⟨x0, e0, q0⟩ := open_int1 rfl t0 (by omega)
  simp only [List.cons.injEq, and_true] at e0
  subst e0
  obtain ⟨A1, n1, c1, x1, rfl, r1, a1, q1, b1⟩ := open_numsK t1 (by omega)
  exact ⟨⟨x0, A1, n1, c1, x1⟩, rfl, ⟨by show Rd W _ 1 A1 n1 (icells x1); rw [icells_flat]; exact r1, a1⟩, by show n1 ≤ _; omega⟩
set_option maxRecDepth 20000 in
theorem open_rowsK {v : Value} {y : DataW H × List MemPlace} {fuel : Nat} (hf : DataW.trod enc Tryd.prog W 0 (fun _ => true) true fuel 38 [v] = some y) (hb : YtjcgkplphiedjaaDoor.Rows.uptoBulk y.1 ≤ 1048576) :
    ∃ (A : Option Addr) (n c' : Nat) (xs : List Rw), v = .slice A n c' ∧ Rd W W.heap.size 2 A n (xs.flatMap Rw.cells) ∧ (A = none → c' = 0) ∧ (∀ x ∈ xs, (x.ok W ∧ (x.A = none → x.c = 0)) ∧ x.n ≤ 1048576) ∧ n + 1 ≤ 1048576 :=
  open_list Rw.cells (fun x => (x.ok W ∧ (x.A = none → x.c = 0)) ∧ x.n ≤ 1048576) (by decide) (fun _ => rfl) Tryd.underlying38 (by kernel_rfl) (fun hl h hb => open_rowK hl h hb) hf hb
set_option maxRecDepth 20000 in
theorem open_testK {n : Nat} {vs : List Value} {y : DataW H × List MemPlace} (hl : vs.length = 5) (h : DataW.trod enc Tryd.prog W 0 (fun _ => true) true n 119 vs = some y) (hb : YtjcgkplphiedjaaDoor.Rows.uptoBulk y.1 ≤ 1048576) :
    ∃ x : Ts, vs = x.cells ∧ (True) := by
  obtain ⟨ys, n', _, hy, _, hyl, hfld⟩ := DataW.trod_struct Tryd.underlying119 h
  match vs, hl with
  | [v0, v1, v2, v3, v4], _ =>
  match ys, hyl with
  | [y0, y1, y2], _ =>
  have t0 : DataW.trod enc Tryd.prog W 0 (fun _ => true) true n' 3 (([v0, v1, v2, v3, v4].drop 0).take (Tryd.prog.cellsOf 3)) = some y0 := hfld 0 _ rfl
  rw [show Tryd.prog.cellsOf 3 = 1 by kernel_rfl] at t0
  have t1 : DataW.trod enc Tryd.prog W 0 (fun _ => true) true n' 117 (([v0, v1, v2, v3, v4].drop 1).take (Tryd.prog.cellsOf 117)) = some y1 := hfld 1 _ rfl
  rw [show Tryd.prog.cellsOf 117 = 2 by kernel_rfl] at t1
  have t2 : DataW.trod enc Tryd.prog W 0 (fun _ => true) true n' 117 (([v0, v1, v2, v3, v4].drop 3).take (Tryd.prog.cellsOf 117)) = some y2 := hfld 2 _ rfl
  rw [show Tryd.prog.cellsOf 117 = 2 by kernel_rfl] at t2
  simp only [List.drop_zero, List.drop_succ_cons, List.take_succ_cons, List.take_zero] at t0 t1 t2
  rw [hy] at hb
  simp only [List.map_cons, List.map_nil, YtjcgkplphiedjaaDoor.Rows.uptoBulk, YtjcgkplphiedjaaDoor.Rows.uptoBulkAll] at hb
  obtain ⟨x0, e0, q0⟩ := open_int1 rfl t0 (by omega)
  simp only [List.cons.injEq, and_true] at e0
  subst e0
  obtain ⟨x1, e1, q1⟩ := open_slotK rfl t1 (by omega)
  simp only [Sl.cells, List.cons.injEq, and_true] at e1
  obtain ⟨rfl, rfl⟩ := e1
  obtain ⟨x2, e2, q2⟩ := open_slotK rfl t2 (by omega)
  simp only [Sl.cells, List.cons.injEq, and_true] at e2
  obtain ⟨rfl, rfl⟩ := e2
  exact ⟨⟨x0, x1, x2⟩, rfl, trivial⟩
set_option maxRecDepth 20000 in
theorem open_testsK {v : Value} {y : DataW H × List MemPlace} {fuel : Nat} (hf : DataW.trod enc Tryd.prog W 0 (fun _ => true) true fuel 79 [v] = some y) (hb : YtjcgkplphiedjaaDoor.Rows.uptoBulk y.1 ≤ 1048576) :
    ∃ (A : Option Addr) (n c' : Nat) (xs : List Ts), v = .slice A n c' ∧ Rd W W.heap.size 5 A n (xs.flatMap Ts.cells) ∧ (A = none → c' = 0) ∧ (∀ x ∈ xs, True) ∧ n + 1 ≤ 1048576 :=
  open_list Ts.cells (fun x => True) (by decide) (fun _ => rfl) Tryd.underlying79 (by kernel_rfl) (fun hl h hb => open_testK hl h hb) hf hb

/-- The lists that come in have an array or no room. -/
structure Rl.nil (x : Rl) : Prop where
  h : x.h.A = none → x.h.c = 0
  p : x.PA = none → x.pc = 0
  t : x.TA = none → x.tc = 0
  n : x.NA = none → x.nc = 0
  v : x.VA = none → x.vc = 0
  ps : ∀ y ∈ x.ps, y.A = none → y.c = 0
  ns : ∀ y ∈ x.ns, y.A = none → y.c = 0
/-- What is small in a rule. -/
structure Rl.small (x : Rl) : Prop where
  h : x.h.n ≤ 1048576
  p : x.pn ≤ 1048576
  t : x.tn ≤ 1048576
  n : x.nn ≤ 1048576
  v : x.vn ≤ 1048576
  ps : ∀ y ∈ x.ps, y.n ≤ 1048576
  ns : ∀ y ∈ x.ns, y.n ≤ 1048576
set_option maxRecDepth 20000 in
theorem open_ruleK {n : Nat} {vs : List Value} {y : DataW H × List MemPlace} (hl : vs.length = 7) (h : DataW.trod enc Tryd.prog W 0 (fun _ => true) true n 81 vs = some y) (hb : YtjcgkplphiedjaaDoor.Rows.uptoBulk y.1 ≤ 1048576) :
    ∃ x : Rl, vs = x.cells ∧ (x.ok W ∧ x.nil ∧ x.small) := by
  obtain ⟨ys, n', _, hy, _, hyl, hfld⟩ := DataW.trod_struct Tryd.underlying81 h
  match vs, hl with
  | [v0, v1, v2, v3, v4, v5, v6], _ =>
  match ys, hyl with
  | [y0, y1, y2, y3, y4, y5], _ =>
  have t0 : DataW.trod enc Tryd.prog W 0 (fun _ => true) true n' 77 (([v0, v1, v2, v3, v4, v5, v6].drop 0).take (Tryd.prog.cellsOf 77)) = some y0 := hfld 0 _ rfl
  rw [show Tryd.prog.cellsOf 77 = 2 by kernel_rfl] at t0
  have t1 : DataW.trod enc Tryd.prog W 0 (fun _ => true) true n' 78 (([v0, v1, v2, v3, v4, v5, v6].drop 2).take (Tryd.prog.cellsOf 78)) = some y1 := hfld 1 _ rfl
  rw [show Tryd.prog.cellsOf 78 = 1 by kernel_rfl] at t1
  have t2 : DataW.trod enc Tryd.prog W 0 (fun _ => true) true n' 79 (([v0, v1, v2, v3, v4, v5, v6].drop 3).take (Tryd.prog.cellsOf 79)) = some y2 := hfld 2 _ rfl
  rw [show Tryd.prog.cellsOf 79 = 1 by kernel_rfl] at t2
  have t3 : DataW.trod enc Tryd.prog W 0 (fun _ => true) true n' 78 (([v0, v1, v2, v3, v4, v5, v6].drop 4).take (Tryd.prog.cellsOf 78)) = some y3 := hfld 3 _ rfl
  rw [show Tryd.prog.cellsOf 78 = 1 by kernel_rfl] at t3
  have t4 : DataW.trod enc Tryd.prog W 0 (fun _ => true) true n' 71 (([v0, v1, v2, v3, v4, v5, v6].drop 5).take (Tryd.prog.cellsOf 71)) = some y4 := hfld 4 _ rfl
  rw [show Tryd.prog.cellsOf 71 = 1 by kernel_rfl] at t4
  have t5 : DataW.trod enc Tryd.prog W 0 (fun _ => true) true n' 3 (([v0, v1, v2, v3, v4, v5, v6].drop 6).take (Tryd.prog.cellsOf 3)) = some y5 := hfld 5 _ rfl
  rw [show Tryd.prog.cellsOf 3 = 1 by kernel_rfl] at t5
  simp only [List.drop_zero, List.drop_succ_cons, List.take_succ_cons, List.take_zero] at t0 t1 t2 t3 t4 t5
  rw [hy] at hb
  simp only [List.map_cons, List.map_nil, YtjcgkplphiedjaaDoor.Rows.uptoBulk, YtjcgkplphiedjaaDoor.Rows.uptoBulkAll] at hb
  obtain ⟨x0, e0, q0⟩ := open_patK rfl t0 (by omega)
  simp only [Pn.cells, List.cons.injEq, and_true] at e0
  obtain ⟨rfl, rfl⟩ := e0
  obtain ⟨A1, n1, c1, x1, rfl, r1, a1, q1, b1⟩ := open_patsK t1 (by omega)
  obtain ⟨A2, n2, c2, x2, rfl, r2, a2, q2, b2⟩ := open_testsK t2 (by omega)
  obtain ⟨A3, n3, c3, x3, rfl, r3, a3, q3, b3⟩ := open_patsK t3 (by omega)
  obtain ⟨A4, n4, c4, x4, rfl, r4, a4, q4, b4⟩ := open_strsK t4 (by omega)
  obtain ⟨x5, e5, q5⟩ := open_int1 rfl t5 (by omega)
  simp only [List.cons.injEq, and_true] at e5
  subst e5
  exact ⟨⟨x0, A1, n1, c1, x1, A2, n2, c2, x2, A3, n3, c3, x3, A4, n4, c4, x4, x5⟩, rfl,
    ⟨q0.1.1, r1, fun y hy => (q1 y hy).1.1, r2, r3, fun y hy => (q3 y hy).1.1, by show Rd W _ 1 A4 n4 (scells x4); rw [scells_flat]; exact r4⟩,
    ⟨q0.1.2, a1, a2, a3, a4, fun y hy => (q1 y hy).1.2, fun y hy => (q3 y hy).1.2⟩,
    ⟨q0.2, by show n1 ≤ _; omega, by show n2 ≤ _; omega, by show n3 ≤ _; omega, by show n4 ≤ _; omega, fun y hy => (q1 y hy).2, fun y hy => (q3 y hy).2⟩⟩
set_option maxRecDepth 20000 in
theorem open_rulesK {v : Value} {y : DataW H × List MemPlace} {fuel : Nat} (hf : DataW.trod enc Tryd.prog W 0 (fun _ => true) true fuel 37 [v] = some y) (hb : YtjcgkplphiedjaaDoor.Rows.uptoBulk y.1 ≤ 1048576) :
    ∃ (A : Option Addr) (n c' : Nat) (xs : List Rl), v = .slice A n c' ∧ Rd W W.heap.size 7 A n (xs.flatMap Rl.cells) ∧ (A = none → c' = 0) ∧ (∀ x ∈ xs, x.ok W ∧ x.nil ∧ x.small) ∧ n + 1 ≤ 1048576 :=
  open_list Rl.cells (fun x => x.ok W ∧ x.nil ∧ x.small) (by decide) (fun _ => rfl) Tryd.underlying37 (by kernel_rfl) (fun hl h hb => open_ruleK hl h hb) hf hb

structure Co.nil (x : Co) : Prop where
  d : x.DA = none → x.dc = 0
  c : x.CA = none → x.cc = 0
  f : x.FA = none → x.fc = 0
  rs : ∀ y ∈ x.rs, y.nil
  fs : ∀ y ∈ x.fs, y.A = none → y.c = 0
structure Co.small (x : Co) : Prop where
  d : x.dn ≤ 1048576
  c : x.cn ≤ 1048576
  r : x.rn ≤ 1048576
  f : x.fn ≤ 1048576
  rs : ∀ y ∈ x.rs, y.small
set_option maxRecDepth 20000 in
theorem open_coreK {n : Nat} {vs : List Value} {y : DataW H × List MemPlace} (hl : vs.length = 4) (h : DataW.trod enc Tryd.prog W 0 (fun _ => true) true n 40 vs = some y) (hb : YtjcgkplphiedjaaDoor.Rows.uptoBulk y.1 ≤ 1048576) :
    ∃ x : Co, vs = x.cells ∧ (x.ok W ∧ x.fine ∧ x.nil ∧ x.small) := by
  obtain ⟨ys, n', _, hy, _, hyl, hfld⟩ := DataW.trod_struct Tryd.underlying40 h
  match vs, hl with
  | [v0, v1, v2, v3], _ =>
  match ys, hyl with
  | [y0, y1, y2, y3], _ =>
  have t0 : DataW.trod enc Tryd.prog W 0 (fun _ => true) true n' 35 (([v0, v1, v2, v3].drop 0).take (Tryd.prog.cellsOf 35)) = some y0 := hfld 0 _ rfl
  rw [show Tryd.prog.cellsOf 35 = 1 by kernel_rfl] at t0
  have t1 : DataW.trod enc Tryd.prog W 0 (fun _ => true) true n' 36 (([v0, v1, v2, v3].drop 1).take (Tryd.prog.cellsOf 36)) = some y1 := hfld 1 _ rfl
  rw [show Tryd.prog.cellsOf 36 = 1 by kernel_rfl] at t1
  have t2 : DataW.trod enc Tryd.prog W 0 (fun _ => true) true n' 37 (([v0, v1, v2, v3].drop 2).take (Tryd.prog.cellsOf 37)) = some y2 := hfld 2 _ rfl
  rw [show Tryd.prog.cellsOf 37 = 1 by kernel_rfl] at t2
  have t3 : DataW.trod enc Tryd.prog W 0 (fun _ => true) true n' 38 (([v0, v1, v2, v3].drop 3).take (Tryd.prog.cellsOf 38)) = some y3 := hfld 3 _ rfl
  rw [show Tryd.prog.cellsOf 38 = 1 by kernel_rfl] at t3
  simp only [List.drop_zero, List.drop_succ_cons, List.take_succ_cons, List.take_zero] at t0 t1 t2 t3
  rw [hy] at hb
  simp only [List.map_cons, List.map_nil, YtjcgkplphiedjaaDoor.Rows.uptoBulk, YtjcgkplphiedjaaDoor.Rows.uptoBulkAll] at hb
  obtain ⟨A0, n0, c0, x0, rfl, r0, a0, q0, b0⟩ := open_predsK t0 (by omega)
  obtain ⟨A1, n1, c1, x1, rfl, r1, a1, q1, b1⟩ := open_constsK t1 (by omega)
  obtain ⟨A2, n2, c2, x2, rfl, r2, a2, q2, b2⟩ := open_rulesK t2 (by omega)
  obtain ⟨A3, n3, c3, x3, rfl, r3, a3, q3, b3⟩ := open_rowsK t3 (by omega)
  exact ⟨⟨A0, n0, c0, x0, A1, n1, c1, x1, A2, n2, c2, x2, A3, n3, c3, x3⟩, rfl,
    ⟨r0, r1, r2, fun y hy => (q2 y hy).1, r3, fun y hy => (q3 y hy).1.1⟩,
    ⟨q0, q1, fun y hy => (q3 y hy).2, fun y hy => ⟨(q2 y hy).2.2.h, (q2 y hy).2.2.ps, (q2 y hy).2.2.ns⟩⟩,
    ⟨a0, a1, a3, fun y hy => (q2 y hy).2.1, fun y hy => (q3 y hy).1.2⟩,
    ⟨by show n0 ≤ _; omega, by show n1 ≤ _; omega, by show n2 ≤ _; omega, by show n3 ≤ _; omega, fun y hy => (q2 y hy).2.2⟩⟩
set_option maxRecDepth 20000 in
theorem open_factK {n : Nat} {vs : List Value} {y : DataW H × List MemPlace} (hl : vs.length = 2) (h : DataW.trod enc Tryd.prog W 0 (fun _ => true) true n 45 vs = some y) (hb : YtjcgkplphiedjaaDoor.Rows.uptoBulk y.1 ≤ 1048576) :
    ∃ x : Fa, vs = x.cells ∧ ((x.ok W ∧ (x.A = none → x.c = 0)) ∧ x.n ≤ 1048576 ∧ x.s.size ≤ 1048576 ∧ ∀ z ∈ x.xs, keyK z) := by
  obtain ⟨ys, n', _, hy, _, hyl, hfld⟩ := DataW.trod_struct Tryd.underlying45 h
  match vs, hl with
  | [v0, v1], _ =>
  match ys, hyl with
  | [y0, y1], _ =>
  have t0 : DataW.trod enc Tryd.prog W 0 (fun _ => true) true n' 9 (([v0, v1].drop 0).take (Tryd.prog.cellsOf 9)) = some y0 := hfld 0 _ rfl
  rw [show Tryd.prog.cellsOf 9 = 1 by kernel_rfl] at t0
  have t1 : DataW.trod enc Tryd.prog W 0 (fun _ => true) true n' 36 (([v0, v1].drop 1).take (Tryd.prog.cellsOf 36)) = some y1 := hfld 1 _ rfl
  rw [show Tryd.prog.cellsOf 36 = 1 by kernel_rfl] at t1
  simp only [List.drop_zero, List.drop_succ_cons, List.take_succ_cons, List.take_zero] at t0 t1
  rw [hy] at hb
  simp only [List.map_cons, List.map_nil, YtjcgkplphiedjaaDoor.Rows.uptoBulk, YtjcgkplphiedjaaDoor.Rows.uptoBulkAll] at hb
  obtain ⟨x0, e0, q0⟩ := open_str1 rfl t0 (by omega)
  simp only [List.cons.injEq, and_true] at e0
  subst e0
  obtain ⟨A1, n1, c1, x1, rfl, r1, a1, q1, b1⟩ := open_constsK t1 (by omega)
  exact ⟨⟨x0, A1, n1, c1, x1⟩, rfl, ⟨r1, a1⟩, by show n1 ≤ _; omega, q0, q1⟩
set_option maxRecDepth 20000 in
theorem open_factsK {v : Value} {y : DataW H × List MemPlace} {fuel : Nat} (hf : DataW.trod enc Tryd.prog W 0 (fun _ => true) true fuel 41 [v] = some y) (hb : YtjcgkplphiedjaaDoor.Rows.uptoBulk y.1 ≤ 1048576) :
    ∃ (A : Option Addr) (n c' : Nat) (xs : List Fa), v = .slice A n c' ∧ Rd W W.heap.size 2 A n (xs.flatMap Fa.cells) ∧ (A = none → c' = 0) ∧ (∀ x ∈ xs, (x.ok W ∧ (x.A = none → x.c = 0)) ∧ x.n ≤ 1048576 ∧ x.s.size ≤ 1048576 ∧ ∀ z ∈ x.xs, keyK z) ∧ n + 1 ≤ 1048576 :=
  open_list Fa.cells (fun x => (x.ok W ∧ (x.A = none → x.c = 0)) ∧ x.n ≤ 1048576 ∧ x.s.size ≤ 1048576 ∧ ∀ z ∈ x.xs, keyK z) (by decide) (fun _ => rfl) Tryd.underlying41 (by kernel_rfl) (fun hl h hb => open_factK hl h hb) hf hb
set_option maxRecDepth 20000 in
theorem open_lineK {n : Nat} {vs : List Value} {y : DataW H × List MemPlace} (hl : vs.length = 5) (h : DataW.trod enc Tryd.prog W 0 (fun _ => true) true n 66 vs = some y) (hb : YtjcgkplphiedjaaDoor.Rows.uptoBulk y.1 ≤ 1048576) :
    ∃ x : Ln, vs = x.cells ∧ (Ln.ok W x ∧ x.small) := by
  obtain ⟨ys, n', _, hy, _, hyl, hfld⟩ := DataW.trod_struct Tryd.underlying66 h
  match vs, hl with
  | [v0, v1, v2, v3, v4], _ =>
  match ys, hyl with
  | [y0, y1, y2, y3], _ =>
  have t0 : DataW.trod enc Tryd.prog W 0 (fun _ => true) true n' 45 (([v0, v1, v2, v3, v4].drop 0).take (Tryd.prog.cellsOf 45)) = some y0 := hfld 0 _ rfl
  rw [show Tryd.prog.cellsOf 45 = 2 by kernel_rfl] at t0
  have t1 : DataW.trod enc Tryd.prog W 0 (fun _ => true) true n' 3 (([v0, v1, v2, v3, v4].drop 2).take (Tryd.prog.cellsOf 3)) = some y1 := hfld 1 _ rfl
  rw [show Tryd.prog.cellsOf 3 = 1 by kernel_rfl] at t1
  have t2 : DataW.trod enc Tryd.prog W 0 (fun _ => true) true n' 36 (([v0, v1, v2, v3, v4].drop 3).take (Tryd.prog.cellsOf 36)) = some y2 := hfld 2 _ rfl
  rw [show Tryd.prog.cellsOf 36 = 1 by kernel_rfl] at t2
  have t3 : DataW.trod enc Tryd.prog W 0 (fun _ => true) true n' 27 (([v0, v1, v2, v3, v4].drop 4).take (Tryd.prog.cellsOf 27)) = some y3 := hfld 3 _ rfl
  rw [show Tryd.prog.cellsOf 27 = 1 by kernel_rfl] at t3
  simp only [List.drop_zero, List.drop_succ_cons, List.take_succ_cons, List.take_zero] at t0 t1 t2 t3
  rw [hy] at hb
  simp only [List.map_cons, List.map_nil, YtjcgkplphiedjaaDoor.Rows.uptoBulk, YtjcgkplphiedjaaDoor.Rows.uptoBulkAll] at hb
  obtain ⟨x0, e0, q0⟩ := open_factK rfl t0 (by omega)
  simp only [Fa.cells, List.cons.injEq, and_true] at e0
  obtain ⟨rfl, rfl⟩ := e0
  obtain ⟨x1, e1, q1⟩ := open_int1 rfl t1 (by omega)
  simp only [List.cons.injEq, and_true] at e1
  subst e1
  obtain ⟨A2, n2, c2, x2, rfl, r2, a2, q2, b2⟩ := open_constsK t2 (by omega)
  obtain ⟨A3, n3, c3, x3, rfl, r3, a3, q3, b3⟩ := open_numsK t3 (by omega)
  exact ⟨⟨x0.s, x0.A, x0.n, x0.c, x1, A2, n2, c2, A3, n3, c3, x0.xs, x2, x3⟩, rfl,
    ⟨q0.1.1, r2, by show Rd W _ 1 A3 n3 (icells x3); rw [icells_flat]; exact r3, by have := q0.2.1; show x0.n * 32 ≤ _; omega, by show n2 * 32 ≤ _; omega, by show n3 * 8 ≤ _; omega, q0.1.2, a2, a3⟩,
    ⟨q0.2.2.1, q0.2.2.2, q2, q0.2.1, by show n2 ≤ _; omega, by show n3 ≤ _; omega⟩⟩
set_option maxRecDepth 20000 in
theorem open_linesK {v : Value} {y : DataW H × List MemPlace} {fuel : Nat} (hf : DataW.trod enc Tryd.prog W 0 (fun _ => true) true fuel 25 [v] = some y) (hb : YtjcgkplphiedjaaDoor.Rows.uptoBulk y.1 ≤ 1048576) :
    ∃ (A : Option Addr) (n c' : Nat) (xs : List Ln), v = .slice A n c' ∧ Rd W W.heap.size 5 A n (xs.flatMap Ln.cells) ∧ (A = none → c' = 0) ∧ (∀ x ∈ xs, Ln.ok W x ∧ x.small) ∧ n + 1 ≤ 1048576 :=
  open_list Ln.cells (fun x => Ln.ok W x ∧ x.small) (by decide) (fun _ => rfl) Tryd.underlying25 (by kernel_rfl) (fun hl h hb => open_lineK hl h hb) hf hb
end
end Go.Proofs.YtjcgkplphiedjaaDoorT
