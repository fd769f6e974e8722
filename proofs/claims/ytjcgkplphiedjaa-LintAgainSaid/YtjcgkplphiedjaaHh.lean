/- Programs that come in, opened; and the lifting of a walk to a row. | Opening a program, by the weights of its lists: no bound on its bulk. From a walk to a row. -/
import Derived.Test.YtjcgkplphiedjaaGs
import Derived.ProofKit
import Derived.OpenShut
import Derived.JoinedCond
import Derived.SizedLaws
import Derived.SliceStrings
import Derived.Deep.Slices
import Derived.Deep.Fields
import Derived.ChangeSame
import Derived.Carry
namespace Go.Proofs.Ytjcgkplphiedjaa
open Go.ChangeShapes Go.WideShapes Go.ChangeAt Go.RowKit Go.Deep

theorem trodAll_length {H : Type} {enc : TypeId × Value → H} {P : Program} {w : World} {base : Nat} {sp : Nat → Bool} {held : Bool} :
    ∀ {ts : List TypeId} {vs : List Value} {ds : List (DataW H)} {ps : List MemPlace}, DataW.TrodAll enc P w base sp held ts vs ds ps → ds.length = ts.length
  | [], _, _, _, h => by obtain ⟨_, rfl, _⟩ := trodAll_nil h; rfl
  | t :: ts, _, _, _, h => by
    obtain ⟨v, vs, d, ds, p, q, rfl, rfl, rfl, h1, h2⟩ := trodAll_cons h
    simp [trodAll_length h2]

theorem Try.laidOut : laidOutB Try.prog = true := by kernel_rfl
theorem Try.own : ownKnob Try.prog.godebug = none := by kernel_rfl

section
variable {H : Type} {enc : TypeId × Value → H} {P : Program}

theorem trodAll_below {W W' : World} (hl : laidOutB P = true) (hb : Below W.heap.size W W') :
    ∀ {ts : List TypeId} {vs : List Value} {ds : List (DataW H)} {ps : List MemPlace}, (∀ t ∈ ts, P.readableRec t = true ∧ t < P.types.size) →
      DataW.TrodAll enc P W 0 (fun _ => true) true ts vs ds ps → (∀ x ∈ ps, x.block < W.heap.size) → DataW.TrodAll enc P W' 0 (fun b => decide (b < W.heap.size)) true ts vs ds ps
  | [], _, _, _, _, h, _ => by
    obtain ⟨rfl, rfl, rfl⟩ := trodAll_nil h
    exact rfl
  | t :: ts, _, _, _, hts, h, hlt => by
    obtain ⟨v, vs, d, ds, p, q, rfl, rfl, rfl, h1, h2⟩ := trodAll_cons h
    have h1' := Below.trod hl (hts t (by simp)).1 (hts t (by simp)).2 h1 hb (fun x hx => hlt x (by simp [hx]))
    have h2' := trodAll_below hl hb (fun t ht => hts t (by simp [ht])) h2 (fun x hx => hlt x (by simp [hx]))
    exact ⟨p, q, h1', h2', rfl⟩

theorem law_post {f : Func} {s : ChangeSpec} {W W' : World} {args : Array Value} {ds gs : List (DataW H)} {before : List MemPlace} (tb : TypeId)
    (hl : laidOutB P = true) (hts : ∀ t ∈ f.params.toList, P.readableRec t = true ∧ t < P.types.size) (hv : s.vars = [])
    (hrt : f.resultTypes = #[tb]) (htb : P.underlying tb = some .bool)
    (hres : (s.fn H (ds ++ gs)).results = [.lit (.bool true)]) (harg : (s.fn H (ds ++ gs)).args = ds) (hvar : (s.fn H (ds ++ gs)).vars = [])
    (hW : DataW.Whole enc P f.params.toList s.vars false W args.toList ds gs before) (hb : Below W.heap.size W W') :
    s.post enc P f false true false false W args (.bool true) W' := by
  have hlt : ∀ p ∈ before, p.block < W.heap.size := fun p hp => hW.lt p hp
  have hW' := hW
  obtain ⟨p, q, hA, hV, rfl, _, _⟩ := hW
  rw [hv] at hV
  obtain ⟨rfl, rfl⟩ := trodVars_none hV
  refine ⟨ds, [], p ++ [], [], p, [], hW', ?_, ?_, ?_, hb.frame _, fun h => by cases h⟩
  · rw [hres, hrt]
    exact trodAll_mk1 (shut_bool htb true)
  · rw [harg]
    exact trodAll_below hl hb hts hA (fun x hx => hlt x (by simpa using hx))
  · rw [hv, hvar]
    rfl

end

theorem cell_plain {w : World} {a : Addr} {v : Value} (h : w.cell? a = some v) : a.spot = none ∧ a.block < w.heap.size :=
  ⟨World.cell?_spot h, World.block_lt_of_cell? w a h⟩

section
variable {H : Type} {enc : TypeId × Value → H} {W : World}
theorem open_slice_fields {P : Program} {w : World} {base : Nat} {spare : Nat → Bool} {held : Bool} {t e : TypeId} {fs : Array Field} {fuel : Nat} {cs : List Value} {x : DataW H × List MemPlace} (ht : P.underlying t = some (.slice e)) (he : P.underlying e = some (.struct fs))
    (hone : oneCellFields P fs = true) (hC : P.cellsOf e = fs.size) (h : DataW.trod enc P w base spare held fuel t cs = some x) :
    (cs = [.slice none 0 0] ∧ x = (.nil, [])) ∨
    ∃ (a : Addr) (len cap m : Nat) (D : Nat → DataW H) (Pl : Nat → List MemPlace), cs = [.slice (some a) len cap] ∧ base ≤ a.block ∧ len ≤ cap ∧ cap ≤ maxLen ∧ m = (if spare a.block then cap else len) ∧
      x = (.slice ((List.range len).map D) ((List.range (m - len)).map fun j => D (len + j)), MemPlace.row a (m * fs.size) ++ (List.range m).flatMap Pl) ∧
      ∀ i, i < m → ∃ (ys : List (DataW H × List MemPlace)) (n : Nat), D i = .agg (ys.map (·.1)) ∧ Pl i = ys.flatMap (·.2) ∧ ys.length = fs.size ∧
        ∀ (j : Nat) (f : Field), fs[j]? = some f → ∃ (v : Value) (y : DataW H × List MemPlace), w.cell? (a.add (i * fs.size + j)) = some v ∧ ys[j]? = some y ∧ DataW.trod enc P w base spare held n f.type [v] = some y := by
  rcases open_slice ht h with h0 | ⟨a, len, cap, m, n, D, Pl, hcs, hb, hl, hm, hmm, hx, hi⟩
  · exact .inl h0
  · refine .inr ⟨a, len, cap, m, D, Pl, hcs, hb, hl, hm, hmm, by rw [hC] at hx; exact hx, fun i him => ?_⟩
    obtain ⟨cs', hc, ht'⟩ := hi i him
    rw [hC] at hc
    obtain ⟨ys, n', hn', hy, hlen, hyl, hf⟩ := DataW.trod_struct he ht'
    obtain ⟨_, hcl, hat⟩ := World.cells?_some hc
    simp only [Prod.mk.injEq] at hy
    refine ⟨ys, n', hy.1, hy.2, hyl, fun j f hj => ?_⟩
    obtain ⟨ho, hk⟩ := hone_of hone j f hj
    have hjl : j < fs.size := (Array.getElem?_eq_some_iff.1 hj).1
    have hcell := hat j hjl
    have hv : cs'[j]? = some (cs'[j]'(by omega)) := List.getElem?_eq_getElem (by omega)
    have h1 := hf j f hj
    rw [ho, hk] at h1
    have hone' : (cs'.drop j).take 1 = [cs'[j]'(by omega)] := by
      rw [List.drop_eq_getElem_cons (by omega)]
      rfl
    rw [hone'] at h1
    have hys : ys[j]? = some (ys[j]'(by omega)) := List.getElem?_eq_getElem (by omega)
    refine ⟨_, _, ?_, hys, h1.trans hys⟩
    rw [← Go.Deep.add_add, hcell, hv]

theorem flat_ex {α : Type} [Inhabited α] {n : Nat} {p : Nat → α → Prop} (h : ∀ i, i < n → ∃ x, p i x) : ∃ l : List α, l.length = n ∧ ∀ i (hi : i < l.length), p i l[i] := by
  obtain ⟨f, hf⟩ := choose_lt h
  exact ⟨(List.range n).map f, by simp, fun i hi => by simpa using hf i (by simpa using hi)⟩


theorem tcells_get {es : List T} {j : Nat} {u : Value} (hu : (tcells es)[j]? = some u) : ∃ h : j / 4 < es.length, (es[j / 4]).cells[j % 4]? = some u := by
  have hj : j < (tcells es).length := (List.getElem?_eq_some_iff.1 hu).1
  rw [tcells_length] at hj
  have h1 : j / 4 < es.length := by omega
  refine ⟨h1, ?_⟩
  have := tcells_at es (j / 4) (j % 4) h1 (by omega)
  rw [← this, ← hu]; congr 1; omega

theorem acells_get {es : List At} {j : Nat} {u : Value} (hu : (acells es)[j]? = some u) : ∃ h : j / 3 < es.length, (es[j / 3]).cells[j % 3]? = some u := by
  have hj : j < (acells es).length := (List.getElem?_eq_some_iff.1 hu).1
  rw [acells_length] at hj
  have h1 : j / 3 < es.length := by omega
  refine ⟨h1, ?_⟩
  have := acells_at es (j / 3) (j % 3) h1 (by omega)
  rw [← this, ← hu]; congr 1; omega

theorem wf64 {n : Int} (h : (Lit.int .i64 n).wf = true) : inI n := by
  unfold Lit.wf at h
  rw [Bool.and_eq_true, decide_eq_true_eq, decide_eq_true_eq] at h
  exact h

theorem open_terms {v : Value} {y : DataW H × List MemPlace} {fuel : Nat} (hf : DataW.trod enc Try.prog W 0 (fun _ => true) true fuel 25 [v] = some y) :
    ∃ (A : Option Addr) (n c : Nat) (es : List T), v = .slice A n c ∧ Rd W W.heap.size 4 A n (tcells es) ∧ (A = none → c = 0) ∧ (∀ e ∈ es, e.fine ∧ inI e.i) ∧ (n = 0 ∨ ∃ el sp, y.1 = .slice el sp ∧ el.length = n) := by
  rcases open_slice_fields Try.underlying25 Try.underlying33 (by kernel_rfl) (by kernel_rfl) hf with ⟨hcs, hx⟩ | ⟨a, len, cap, m, D, Pl, hcs, _, hl, hm, hmm, hx, hi⟩
  · simp at hcs
    subst hcs
    exact ⟨none, 0, 0, [], rfl, ⟨by simp [tcells], by omega, fun h => absurd h (by omega)⟩, fun _ => rfl, by simp, .inl rfl⟩
  · simp at hcs
    subst hcs hx
    simp only [if_true] at hmm
    subst hmm
    have key : ∀ i, i < len → ∃ e : T, (∀ j, j < 4 → W.cell? (a.add (i * 4 + j)) = e.cells[j]?) ∧ (e.fine ∧ inI e.i) := by
      intro i hil
      obtain ⟨ys, n, _, _, _, hfld⟩ := hi i (by omega)
      obtain ⟨v0, y0, c0, _, t0⟩ := hfld 0 _ rfl
      obtain ⟨v1, y1, c1, _, t1⟩ := hfld 1 _ rfl
      obtain ⟨v2, y2, c2, _, t2⟩ := hfld 2 _ rfl
      obtain ⟨v3, y3, c3, _, t3⟩ := hfld 3 _ rfl
      obtain ⟨x0, e0, _, _⟩ := DataW.trod_int Try.underlying3 t0
      obtain ⟨x1, e1, _, g1⟩ := DataW.trod_int Try.underlying2 t1
      obtain ⟨x2, e2, _, g2⟩ := DataW.trod_string Try.underlying9 t2
      obtain ⟨x3, e3, _, _⟩ := DataW.trod_int Try.underlying3 t3
      simp only [List.cons.injEq, and_true] at e0 e1 e2 e3
      subst e0 e1 e2 e3
      refine ⟨⟨x0, x1, x2, x3⟩, fun j hj => ?_, g2, wf64 g1⟩
      match j, hj with
      | 0, _ => exact c0
      | 1, _ => exact c1
      | 2, _ => exact c2
      | 3, _ => exact c3
    haveI : Inhabited T := ⟨mark⟩
    obtain ⟨es, hlen, hes⟩ := flat_ex key
    refine ⟨some a, len, m, es, rfl, ⟨by rw [tcells_length, hlen], by unfold maxLen at hm; omega, fun hn => ?_⟩, fun h => (by cases h), fun e he => by obtain ⟨i, hi2, rfl⟩ := List.mem_iff_getElem.1 he; exact (hes i hi2).2, .inr ⟨_, _, rfl, by simp⟩⟩
    obtain ⟨b, off, spot⟩ := a
    have h0 := (hes 0 (by omega)).1 0 (by omega)
    have h0 := cell_plain (h0.trans (show _ = some (Value.int .i64 es[0].k) from rfl))
    have hspot : spot = none := by simpa [Addr.add] using h0.1
    subst hspot
    refine ⟨b, off, rfl, by simpa [Addr.add] using h0.2, fun j u hu => ?_⟩
    obtain ⟨h1, h2⟩ := tcells_get hu
    have := (hes (j / 4) h1).1 (j % 4) (by omega)
    rw [add_plain] at this
    rw [← h2, ← this]
    congr 2; omega

end

theorem bulk_one {H : Type} (d : DataW H) : 1 ≤ Rows.uptoBulk d := by
  cases d with
  | lit l => cases l <;> simp [Rows.uptoBulk]
  | nil => simp [Rows.uptoBulk]
  | ptr d => simp [Rows.uptoBulk]
  | slice elems spare => simp [Rows.uptoBulk]
  | agg parts => simp [Rows.uptoBulk]
  | iface t d => simp [Rows.uptoBulk]
  | map entries => simp [Rows.uptoBulk]
  | held h => simp [Rows.uptoBulk]
theorem bulk_length {H : Type} (l : List (DataW H)) : l.length ≤ Rows.uptoBulkAll l := by
  induction l with
  | nil => simp [Rows.uptoBulkAll]
  | cons x r ih => have := bulk_one x; simp only [Rows.uptoBulkAll, List.length_cons]; omega
theorem bulk_slice {H : Type} (elems spare : List (DataW H)) : Rows.uptoBulkAll elems + 1 ≤ Rows.uptoBulk (.slice elems spare) := by
  simp only [Rows.uptoBulk]; omega
theorem bulk_mem {H : Type} {x : DataW H} : ∀ {l : List (DataW H)}, x ∈ l → Rows.uptoBulk x ≤ Rows.uptoBulkAll l
  | y :: l, h => by
    rw [Rows.uptoBulkAll]
    rcases List.mem_cons.1 h with rfl | h
    · omega
    · have := bulk_mem h; omega
theorem bulk_sum {H : Type} {α : Type} (f : α → Nat) : ∀ (l : List α) (ds : List (DataW H)), l.length = ds.length → (∀ i (h1 : i < l.length) (h2 : i < ds.length), f l[i] ≤ Rows.uptoBulk ds[i]) → (l.map f).sum ≤ Rows.uptoBulkAll ds
  | [], [], _, _ => by simp [Rows.uptoBulkAll]
  | [], _ :: _, h, _ => by simp at h
  | _ :: _, [], h, _ => by simp at h
  | a :: l, d :: ds, h, hle => by
    have h0 := hle 0 (by simp) (by simp)
    have h1 := bulk_sum f l ds (by simpa using h) (fun i h1 h2 => by
      have := hle (i + 1) (by simpa using h1) (by simpa using h2)
      simpa using this)
    simp only [List.getElem_cons_zero] at h0
    simp only [List.map_cons, List.sum_cons, Rows.uptoBulkAll]
    omega

theorem flat_get {α : Type} (f : α → List Value) (s : Nat) (hf : ∀ x, (f x).length = s) (hs : 0 < s) {l : List α} {j : Nat} {u : Value} (hu : (l.flatMap f)[j]? = some u) : ∃ h : j / s < l.length, (f l[j / s])[j % s]? = some u := by
  have hj : j < (l.flatMap f).length := (List.getElem?_eq_some_iff.1 hu).1
  rw [flat_length f s hf] at hj
  have h1 : j / s < l.length := Nat.div_lt_of_lt_mul (by rw [Nat.mul_comm]; exact hj)
  refine ⟨h1, ?_⟩
  have h := flat_at f s hf l (j / s) (j % s) h1 (Nat.mod_lt _ hs)
  rw [← h, ← hu]
  congr 1
  rw [Nat.mul_comm]; exact Nat.div_add_mod j s

section
variable {H : Type} {enc : TypeId × Value → H} {W : World}

theorem open_atom {n : Nat} {v0 v1 v2 : Value} {y : DataW H × List MemPlace} (h : DataW.trod enc Try.prog W 0 (fun _ => true) true n 27 [v0, v1, v2] = some y) (hb : Rows.uptoBulk y.1 ≤ 1048576) :
    ∃ a : At, v0 = .string a.p ∧ v1 = .slice a.A a.n a.c ∧ v2 = .int .i64 a.o ∧ At.ok W a ∧ (a.fine ∧ a.ints) := by
  obtain ⟨ys, n', _, hy, _, hyl, hfld⟩ := DataW.trod_struct Try.underlying27 h
  match ys, hyl with
  | [y0, y1, y2], _ =>
  have t0 : DataW.trod enc Try.prog W 0 (fun _ => true) true n' 9 (([v0, v1, v2].drop 0).take (Try.prog.cellsOf 9)) = some y0 := hfld 0 _ rfl
  have t1 : DataW.trod enc Try.prog W 0 (fun _ => true) true n' 25 (([v0, v1, v2].drop 1).take (Try.prog.cellsOf 25)) = some y1 := hfld 1 _ rfl
  have t2 : DataW.trod enc Try.prog W 0 (fun _ => true) true n' 3 (([v0, v1, v2].drop 2).take (Try.prog.cellsOf 3)) = some y2 := hfld 2 _ rfl
  rw [show Try.prog.cellsOf 9 = 1 by kernel_rfl] at t0
  rw [show Try.prog.cellsOf 25 = 1 by kernel_rfl] at t1
  rw [show Try.prog.cellsOf 3 = 1 by kernel_rfl] at t2
  simp only [List.drop_zero, List.drop_succ_cons, List.take_succ_cons, List.take_zero] at t0 t1 t2
  obtain ⟨x0, e0, _, hs0⟩ := DataW.trod_string Try.underlying9 t0
  obtain ⟨A1, n1, c1, es1, rfl, hr1, hA1, hf1, hb1⟩ := open_terms t1
  obtain ⟨x2, e2, _, _⟩ := DataW.trod_int Try.underlying3 t2
  simp only [List.cons.injEq, and_true] at e0 e2
  subst e0 e2
  rw [hy] at hb
  simp only [List.map_cons, List.map_nil, Rows.uptoBulk, Rows.uptoBulkAll] at hb
  refine ⟨⟨x0, A1, n1, c1, x2, es1⟩, rfl, rfl, rfl, ⟨hr1, hA1, ?_⟩, ⟨hs0, fun e he => (hf1 e he).1⟩, fun e he => (hf1 e he).2⟩
  rcases hb1 with h0 | ⟨el, sp, he, h0⟩
  · simp only [h0]; omega
  · have h2 := bulk_slice el sp
    have h3 := bulk_length el
    rw [← he] at h2
    show n1 * 40 ≤ _
    omega

theorem open_term {n : Nat} {v0 v1 v2 v3 : Value} {y : DataW H × List MemPlace} (h : DataW.trod enc Try.prog W 0 (fun _ => true) true n 33 [v0, v1, v2, v3] = some y) :
    ∃ t : T, v0 = .int .i64 t.k ∧ v1 = .int .i64 t.i ∧ v2 = .string t.t ∧ v3 = .int .i64 t.o ∧ t.fine ∧ inI t.i := by
  obtain ⟨ys, n', _, hy, _, hyl, hfld⟩ := DataW.trod_struct Try.underlying33 h
  match ys, hyl with
  | [y0, y1, y2, y3], _ =>
  have t0 : DataW.trod enc Try.prog W 0 (fun _ => true) true n' 3 (([v0, v1, v2, v3].drop 0).take (Try.prog.cellsOf 3)) = some y0 := hfld 0 _ rfl
  have t1 : DataW.trod enc Try.prog W 0 (fun _ => true) true n' 2 (([v0, v1, v2, v3].drop 1).take (Try.prog.cellsOf 2)) = some y1 := hfld 1 _ rfl
  have t2 : DataW.trod enc Try.prog W 0 (fun _ => true) true n' 9 (([v0, v1, v2, v3].drop 2).take (Try.prog.cellsOf 9)) = some y2 := hfld 2 _ rfl
  have t3 : DataW.trod enc Try.prog W 0 (fun _ => true) true n' 3 (([v0, v1, v2, v3].drop 3).take (Try.prog.cellsOf 3)) = some y3 := hfld 3 _ rfl
  rw [show Try.prog.cellsOf 3 = 1 by kernel_rfl] at t0 t3
  rw [show Try.prog.cellsOf 2 = 1 by kernel_rfl] at t1
  rw [show Try.prog.cellsOf 9 = 1 by kernel_rfl] at t2
  simp only [List.drop_zero, List.drop_succ_cons, List.take_succ_cons, List.take_zero] at t0 t1 t2 t3
  obtain ⟨x0, e0, _, _⟩ := DataW.trod_int Try.underlying3 t0
  obtain ⟨x1, e1, _, g1⟩ := DataW.trod_int Try.underlying2 t1
  obtain ⟨x2, e2, _, g2⟩ := DataW.trod_string Try.underlying9 t2
  obtain ⟨x3, e3, _, _⟩ := DataW.trod_int Try.underlying3 t3
  simp only [List.cons.injEq, and_true] at e0 e1 e2 e3
  subst e0 e1 e2 e3
  exact ⟨⟨x0, x1, x2, x3⟩, rfl, rfl, rfl, rfl, g2, wf64 g1⟩

set_option maxRecDepth 20000 in
theorem open_lits {v : Value} {y : DataW H × List MemPlace} {fuel : Nat} (hf : DataW.trod enc Try.prog W 0 (fun _ => true) true fuel 43 [v] = some y) (hb : Rows.uptoBulk y.1 ≤ 1048576) :
    ∃ (A : Option Addr) (n c : Nat) (ls : List Li), v = .slice A n c ∧ Rd W W.heap.size 14 A n (lcells ls) ∧ (∀ x ∈ ls, Li.ok W x ∧ (x.fine ∧ x.ints)) ∧ n ≤ Rows.uptoBulk y.1 := by
  rcases open_slice Try.underlying43 hf with ⟨hcs, hx⟩ | ⟨a, len, cap, m, nf, D, Pl, hcs, _, hl, hm, hmm, hx, hi⟩
  · simp at hcs
    subst hcs
    exact ⟨none, 0, 0, [], rfl, ⟨by simp [lcells], by omega, fun h => absurd h (by omega)⟩, by simp, by omega⟩
  · simp at hcs
    subst hcs hx
    simp only [if_true] at hmm
    subst hmm
    have hC : Try.prog.cellsOf 61 = 14 := by kernel_rfl
    have h1 := bulk_slice ((List.range len).map D) ((List.range (m - len)).map fun j => D (len + j))
    have h2 := bulk_length ((List.range len).map D)
    simp only [List.length_map, List.length_range] at h2
    have key : ∀ i, i < len → ∃ e : Li, (∀ j, j < 14 → W.cell? (a.add (i * 14 + j)) = e.cells[j]?) ∧ Li.ok W e ∧ (e.fine ∧ e.ints) := by
      intro i hil
      have hbi : Rows.uptoBulk (D i) ≤ 1048576 := by
        have := bulk_mem (List.mem_map.2 ⟨i, by simpa using hil, rfl⟩ : D i ∈ (List.range len).map D)
        have hb' : Rows.uptoBulk (DataW.slice ((List.range len).map D) ((List.range (m - len)).map fun j => D (len + j))) ≤ 1048576 := hb
        omega
      obtain ⟨cs', hc, ht'⟩ := hi i (by omega)
      rw [hC] at hc
      obtain ⟨ys, n', hn', hy, hlen, hyl, hfld⟩ := DataW.trod_struct Try.underlying61 ht'
      obtain ⟨_, hcl, hat⟩ := World.cells?_some hc
      match cs', hcl with
      | [v0, v1, v2, v3, v4, v5, v6, v7, v8, v9, v10, v11, v12, v13], _ =>
      match ys, hyl with
      | [y0, y1, y2, y3, y4, y5], _ =>
      have t0 : DataW.trod enc Try.prog W 0 (fun _ => true) true n' 3 (([v0, v1, v2, v3, v4, v5, v6, v7, v8, v9, v10, v11, v12, v13].drop 0).take (Try.prog.cellsOf 3)) = some y0 := hfld 0 _ rfl
      have t1 : DataW.trod enc Try.prog W 0 (fun _ => true) true n' 27 (([v0, v1, v2, v3, v4, v5, v6, v7, v8, v9, v10, v11, v12, v13].drop 1).take (Try.prog.cellsOf 27)) = some y1 := hfld 1 _ rfl
      have t2 : DataW.trod enc Try.prog W 0 (fun _ => true) true n' 3 (([v0, v1, v2, v3, v4, v5, v6, v7, v8, v9, v10, v11, v12, v13].drop 4).take (Try.prog.cellsOf 3)) = some y2 := hfld 2 _ rfl
      have t3 : DataW.trod enc Try.prog W 0 (fun _ => true) true n' 33 (([v0, v1, v2, v3, v4, v5, v6, v7, v8, v9, v10, v11, v12, v13].drop 5).take (Try.prog.cellsOf 33)) = some y3 := hfld 3 _ rfl
      have t4 : DataW.trod enc Try.prog W 0 (fun _ => true) true n' 33 (([v0, v1, v2, v3, v4, v5, v6, v7, v8, v9, v10, v11, v12, v13].drop 9).take (Try.prog.cellsOf 33)) = some y4 := hfld 4 _ rfl
      have t5 : DataW.trod enc Try.prog W 0 (fun _ => true) true n' 3 (([v0, v1, v2, v3, v4, v5, v6, v7, v8, v9, v10, v11, v12, v13].drop 13).take (Try.prog.cellsOf 3)) = some y5 := hfld 5 _ rfl
      rw [show Try.prog.cellsOf 3 = 1 by kernel_rfl] at t0 t2 t5
      rw [show Try.prog.cellsOf 27 = 3 by kernel_rfl] at t1
      rw [show Try.prog.cellsOf 33 = 4 by kernel_rfl] at t3 t4
      simp only [List.drop_zero, List.drop_succ_cons, List.take_succ_cons, List.take_zero] at t0 t1 t2 t3 t4 t5
      simp only [Prod.mk.injEq, List.map_cons, List.map_nil] at hy
      rw [hy.1] at hbi
      simp only [Rows.uptoBulk, Rows.uptoBulkAll] at hbi
      obtain ⟨x0, e0, _, _⟩ := DataW.trod_int Try.underlying3 t0
      obtain ⟨at1, rfl, rfl, rfl, hok1, hsz1⟩ := open_atom t1 (by omega)
      obtain ⟨x2, e2, _, _⟩ := DataW.trod_int Try.underlying3 t2
      obtain ⟨tl, rfl, rfl, rfl, rfl, fl, il⟩ := open_term t3
      obtain ⟨tr, rfl, rfl, rfl, rfl, fr, ir⟩ := open_term t4
      obtain ⟨x5, e5, _, _⟩ := DataW.trod_int Try.underlying3 t5
      simp only [List.cons.injEq, and_true] at e0 e2 e5
      subst e0 e2 e5
      refine ⟨⟨x0, at1, x2, tl, tr, x5⟩, fun j hj => ?_, hok1, ⟨hsz1.1, fl, fr⟩, ⟨hsz1.2, il, ir⟩⟩
      rw [← Go.Deep.add_add]
      exact hat j hj
    haveI : Inhabited Li := ⟨⟨0, ⟨⟨#[]⟩, none, 0, 0, 0, []⟩, 0, mark, mark, 0⟩⟩
    obtain ⟨ls, hlen, hes⟩ := flat_ex key
    refine ⟨some a, len, m, ls, rfl, ⟨by rw [lcells_length, hlen], by unfold maxLen at hm; omega, fun hn => ?_⟩, fun x hx => by obtain ⟨i, hi2, rfl⟩ := List.mem_iff_getElem.1 hx; exact (hes i hi2).2, by show len ≤ Rows.uptoBulk (DataW.slice ((List.range len).map D) ((List.range (m - len)).map fun j => D (len + j))); omega⟩
    obtain ⟨b, off, spot⟩ := a
    have h0 := (hes 0 (by omega)).1 0 (by omega)
    have h0 := cell_plain (h0.trans (show _ = some (Value.int .i64 ls[0].k) from rfl))
    have hspot : spot = none := by simpa [Addr.add] using h0.1
    subst hspot
    refine ⟨b, off, rfl, by simpa [Addr.add] using h0.2, fun j u hu => ?_⟩
    obtain ⟨h1, h2⟩ := flat_get Li.cells 14 (fun _ => rfl) (by omega) hu
    have := (hes (j / 14) h1).1 (j % 14) (by omega)
    rw [add_plain] at this
    rw [← h2, ← this]
    congr 2; omega

set_option maxRecDepth 20000 in
theorem open_clauses {v : Value} {y : DataW H × List MemPlace} {fuel : Nat} (hf : DataW.trod enc Try.prog W 0 (fun _ => true) true fuel 35 [v] = some y) (hb : Rows.uptoBulk y.1 ≤ 1048576) :
    ∃ (A : Option Addr) (n c : Nat) (cs : List Cl), v = .slice A n c ∧ Rd W W.heap.size 4 A n (ccells cs) ∧ (∀ x ∈ cs, Cl.ok W x ∧ (x.fines ∧ x.ints)) ∧ n ≤ Rows.uptoBulk y.1 ∧ (cs.map fun x => x.ls.length).sum ≤ Rows.uptoBulk y.1 := by
  rcases open_slice Try.underlying35 hf with ⟨hcs, hx⟩ | ⟨a, len, cap, m, nf, D, Pl, hcs, _, hl, hm, hmm, hx, hi⟩
  · simp at hcs
    subst hcs
    exact ⟨none, 0, 0, [], rfl, ⟨by simp [ccells], by omega, fun h => absurd h (by omega)⟩, by simp, by omega, by simp⟩
  · simp at hcs
    subst hcs hx
    simp only [if_true] at hmm
    subst hmm
    have hC : Try.prog.cellsOf 45 = 4 := by kernel_rfl
    have h1 := bulk_slice ((List.range len).map D) ((List.range (m - len)).map fun j => D (len + j))
    have h2 := bulk_length ((List.range len).map D)
    simp only [List.length_map, List.length_range] at h2
    have key : ∀ i, i < len → ∃ e : Cl, (∀ j, j < 4 → W.cell? (a.add (i * 4 + j)) = e.cells[j]?) ∧ (Cl.ok W e ∧ (e.fines ∧ e.ints)) ∧ e.ls.length ≤ Rows.uptoBulk (D i) := by
      intro i hil
      have hbi : Rows.uptoBulk (D i) ≤ 1048576 := by
        have := bulk_mem (List.mem_map.2 ⟨i, by simpa using hil, rfl⟩ : D i ∈ (List.range len).map D)
        have hb' : Rows.uptoBulk (DataW.slice ((List.range len).map D) ((List.range (m - len)).map fun j => D (len + j))) ≤ 1048576 := hb
        omega
      obtain ⟨cs', hc, ht'⟩ := hi i (by omega)
      rw [hC] at hc
      obtain ⟨ys, n', hn', hy, hlen, hyl, hfld⟩ := DataW.trod_struct Try.underlying45 ht'
      obtain ⟨_, hcl, hat⟩ := World.cells?_some hc
      match cs', hcl with
      | [v0, v1, v2, v3], _ =>
      match ys, hyl with
      | [y0, y1], _ =>
      have t0 : DataW.trod enc Try.prog W 0 (fun _ => true) true n' 27 (([v0, v1, v2, v3].drop 0).take (Try.prog.cellsOf 27)) = some y0 := hfld 0 _ rfl
      have t1 : DataW.trod enc Try.prog W 0 (fun _ => true) true n' 43 (([v0, v1, v2, v3].drop 3).take (Try.prog.cellsOf 43)) = some y1 := hfld 1 _ rfl
      rw [show Try.prog.cellsOf 27 = 3 by kernel_rfl] at t0
      rw [show Try.prog.cellsOf 43 = 1 by kernel_rfl] at t1
      simp only [List.drop_zero, List.drop_succ_cons, List.take_succ_cons, List.take_zero] at t0 t1
      simp only [Prod.mk.injEq, List.map_cons, List.map_nil] at hy
      rw [hy.1] at hbi
      simp only [Rows.uptoBulk, Rows.uptoBulkAll] at hbi
      obtain ⟨at0, rfl, rfl, rfl, hok0, hsz0⟩ := open_atom t0 (by omega)
      obtain ⟨A1, n1, c1, ls, rfl, hr1, hls, hn1⟩ := open_lits t1 (by omega)
      have hlen1 : ls.length = n1 := by have := hr1.1; rw [lcells_length] at this; omega
      refine ⟨⟨at0, A1, n1, c1, ls⟩, fun j hj => ?_, ⟨⟨hok0, hr1, by show n1 * 152 ≤ _; omega, fun z hz => (hls z hz).1⟩, ⟨hsz0.1, fun z hz => (hls z hz).2.1⟩, ⟨hsz0.2, fun z hz => (hls z hz).2.2⟩⟩, ?_⟩
      · rw [← Go.Deep.add_add]
        exact hat j hj
      · rw [hy.1]
        simp only [Rows.uptoBulk, Rows.uptoBulkAll]
        omega
    haveI : Inhabited Cl := ⟨⟨⟨⟨#[]⟩, none, 0, 0, 0, []⟩, none, 0, 0, []⟩⟩
    obtain ⟨cs, hlen, hes⟩ := flat_ex key
    have h3 := bulk_sum (fun x : Cl => x.ls.length) cs ((List.range len).map D) (by simp [hlen]) (fun i h1 h2 => by
      have := (hes i h1).2.2
      simpa using this)
    refine ⟨some a, len, m, cs, rfl, ⟨by rw [ccells_length, hlen], by unfold maxLen at hm; omega, fun hn => ?_⟩, fun x hx => by obtain ⟨i, hi2, rfl⟩ := List.mem_iff_getElem.1 hx; exact (hes i hi2).2.1, ?_, ?_⟩
    · obtain ⟨b, off, spot⟩ := a
      have h0 := (hes 0 (by omega)).1 0 (by omega)
      have h0 := cell_plain (h0.trans (show _ = some (Value.string cs[0].h.p) from rfl))
      have hspot : spot = none := by simpa [Addr.add] using h0.1
      subst hspot
      refine ⟨b, off, rfl, by simpa [Addr.add] using h0.2, fun j u hu => ?_⟩
      obtain ⟨h1, h2⟩ := flat_get Cl.cells 4 (fun _ => rfl) (by omega) hu
      have := (hes (j / 4) h1).1 (j % 4) (by omega)
      rw [add_plain] at this
      rw [← h2, ← this]
      congr 2; omega
    · show len ≤ Rows.uptoBulk (DataW.slice ((List.range len).map D) ((List.range (m - len)).map fun j => D (len + j)))
      omega
    · show (cs.map fun x : Cl => x.ls.length).sum ≤ Rows.uptoBulk (DataW.slice ((List.range len).map D) ((List.range (m - len)).map fun j => D (len + j)))
      omega
end

section
variable {H : Type} {enc : TypeId × Value → H} {W : World}
set_option maxRecDepth 100000 in
theorem open_prog {base : Nat} {v : Value} {d : DataW H} {p : List MemPlace} (hv : Value.okWide Try.prog W .any base 37 v) (h : DataW.Trod enc Try.prog W 0 (fun _ => true) true 37 v d p) (hb : Rows.uptoBulk d ≤ 1048576) :
    ∃ (A : Option Addr) (n c : Nat) (cs : List Cl), v = .agg #[.slice A n c] ∧ Rd W W.heap.size 4 A n (ccells cs) ∧ (∀ x ∈ cs, Cl.ok W x ∧ (x.fines ∧ x.ints)) ∧ n ≤ Rows.uptoBulk d ∧ (cs.map fun x => x.ls.length).sum ≤ Rows.uptoBulk d := by
  obtain ⟨cs, rfl, hsz⟩ := okWide_struct Try.underlying37 hv
  obtain ⟨fuel, hf⟩ := h
  obtain ⟨xs, n, _, hd, hlen, hxl, hfld⟩ := DataW.trod_struct Try.underlying37 hf
  simp only [Prod.mk.injEq] at hd
  obtain ⟨rfl, _⟩ := hd
  have hxl : xs.length = 1 := hxl
  have hsz : cs.size = 1 := hsz.trans (by kernel_rfl)
  obtain ⟨l⟩ := cs
  match l, hsz, xs, hxl with
  | [v0], _, [y0], _ =>
    have t0 : DataW.trod enc Try.prog W 0 (fun _ => true) true n 35 [v0] = some y0 := hfld 0 _ rfl
    simp only [List.map_cons, List.map_nil, Rows.uptoBulk, Rows.uptoBulkAll] at hb ⊢
    obtain ⟨A, n1, c1, cs, rfl, h1, h2, h3, h4⟩ := open_clauses t0 (by omega)
    exact ⟨A, n1, c1, cs, rfl, h1, h2, by omega, by omega⟩

end

set_option maxRecDepth 100000 in
theorem law_upto {F : FuncId} {fn : Func} {s : ChangeSpec} (ts : List TypeId) (os : Os) (started : os.Started) (H : Type) (enc : TypeId × Value → H) (Fi : Stop.Interp)
    (noInit : Try.prog.inits.idxOf? F = none) (hfn : Try.prog.funcs[F]? = some fn) (hp : fn.params = ts.toArray) (hrt : fn.resultTypes = #[4]) (hv : s.vars = [])
    (hs : ∀ ds : List (DataW H), ds.length = ts.length → (s.fn H (ds ++ [])).results = [.lit (.bool true)] ∧ (s.fn H (ds ++ [])).args = ds ∧ (s.fn H (ds ++ [])).vars = [])
    (hts : ∀ t ∈ ts, Try.prog.readableRec t = true ∧ t < Try.prog.types.size)
    (witness : ∃ (w : World) (tape : Tape) (i : Input), w.os = os ∧ (w.forCall tape i).Shaped Try.prog ∧ i.vars = [] ∧ Input.okWide Try.prog (w.forCall tape i) .any w.heap.size F i ∧
      (Rows.OpenSpec.upto s).pre6 enc Try.prog fn [] false (w.forCall tape i).memory i.args ∧ ({} : Assume).holds Try.prog (lone (Frame.enter Try.prog F i.args .normal) [] (w.forCall tape i)))
    (calls : ∀ (W : World) (base : Nat) (args : Array Value) (ds : List (DataW H)) (p : List MemPlace),
      (∀ (j : Nat) t v, ts[j]? = some t → args[j]? = some v → Value.okWide Try.prog W .any base t v) → DataW.TrodAll enc Try.prog W 0 (fun _ => true) true ts args.toList ds p →
      Rows.uptoBulkAll ds ≤ 1048576 → Calls Try.prog F args W fun e W' => e = .returned (.bool true) ∧ Below W.heap.size W W') :
    ReturnsInHanded {} Try.checked os F .any ((Rows.OpenSpec.upto s).pre6 enc Try.prog fn [] false) (((Rows.OpenSpec.upto s).at Fi).post enc Try.prog fn false true false false) := by
  refine returnsInHanded_of_cond (C := Try.checked) (s := Rows.OpenSpec.upto s) (k := Rows.uptoSmall) rfl Try.own started noInit hfn witness ?_
  intro W base args ds gs before hval0 hW0 _ hk _
  have hval : ∀ (j : Nat) t v, fn.params[j]? = some t → args[j]? = some v → Value.okWide Try.prog W .any base t v := hval0
  have hW : DataW.Whole enc Try.prog fn.params.toList s.vars false W args.toList ds gs before := hW0
  clear hval0 hW0
  have hW' := hW
  obtain ⟨p, q, hA, hV, rfl, _, _⟩ := hW
  rw [hv] at hV
  obtain ⟨rfl, rfl⟩ := trodVars_none hV
  rw [List.append_nil] at hk
  have hk2 : Rows.uptoBulkAll ds ≤ 1048576 := of_decide_eq_true hk
  rw [hp] at hA hval
  have hlen := trodAll_length hA
  obtain ⟨h1, h2, h3⟩ := hs ds (by simpa using hlen)
  refine (calls W base args ds p (fun j t v ht hv => hval j t v (by simpa using ht) hv) (by simpa using hA) hk2).mono fun e W' ⟨he, hb⟩ => ?_
  subst he
  exact ⟨_, rfl, law_post 4 Try.laidOut (by rw [hp]; intro t ht; exact hts t (by simpa using ht)) hv hrt Try.underlying4 h1 h2 h3 hW' hb⟩

end Go.Proofs.Ytjcgkplphiedjaa

namespace Go.Proofs.Ytjcgkplphiedjaa
open Go.ChangeShapes Go.WideShapes Go.ChangeAt Go.RowKit Go.Deep

section
variable {H : Type} {enc : TypeId × Value → H} {W : World}
theorem mem_weightsAll {P : Program} {e : TypeId} {n : Nat} {x : DataW H} : ∀ {l : List (DataW H)}, x ∈ l → n ∈ x.weights P e → n ∈ DataW.weightsAll P e l
  | y :: l, h, hn => by
    rw [DataW.weightsAll, List.mem_append]
    rcases List.mem_cons.1 h with rfl | h
    · exact .inl hn
    · exact .inr (mem_weightsAll h hn)

theorem open_atomW {n : Nat} {v0 v1 v2 : Value} {y : DataW H × List MemPlace} (h : DataW.trod enc Try.prog W 0 (fun _ => true) true n 27 [v0, v1, v2] = some y) (hw : ∀ m ∈ DataW.weights Try.prog 27 y.1, m ≤ reachBytes) :
    ∃ a : At, v0 = .string a.p ∧ v1 = .slice a.A a.n a.c ∧ v2 = .int .i64 a.o ∧ At.ok W a ∧ (a.fine ∧ a.ints) := by
  obtain ⟨ys, n', _, hy, _, hyl, hfld⟩ := DataW.trod_struct Try.underlying27 h
  match ys, hyl with
  | [y0, y1, y2], _ =>
  have t0 : DataW.trod enc Try.prog W 0 (fun _ => true) true n' 9 (([v0, v1, v2].drop 0).take (Try.prog.cellsOf 9)) = some y0 := hfld 0 _ rfl
  have t1 : DataW.trod enc Try.prog W 0 (fun _ => true) true n' 25 (([v0, v1, v2].drop 1).take (Try.prog.cellsOf 25)) = some y1 := hfld 1 _ rfl
  have t2 : DataW.trod enc Try.prog W 0 (fun _ => true) true n' 3 (([v0, v1, v2].drop 2).take (Try.prog.cellsOf 3)) = some y2 := hfld 2 _ rfl
  rw [show Try.prog.cellsOf 9 = 1 by kernel_rfl] at t0
  rw [show Try.prog.cellsOf 25 = 1 by kernel_rfl] at t1
  rw [show Try.prog.cellsOf 3 = 1 by kernel_rfl] at t2
  simp only [List.drop_zero, List.drop_succ_cons, List.take_succ_cons, List.take_zero] at t0 t1 t2
  obtain ⟨x0, e0, _, hs0⟩ := DataW.trod_string Try.underlying9 t0
  obtain ⟨A1, n1, c1, es1, rfl, hr1, hA1, hf1, hb1⟩ := open_terms t1
  obtain ⟨x2, e2, _, _⟩ := DataW.trod_int Try.underlying3 t2
  simp only [List.cons.injEq, and_true] at e0 e2
  subst e0 e2
  rw [hy] at hw
  refine ⟨⟨x0, A1, n1, c1, x2, es1⟩, rfl, rfl, rfl, ⟨hr1, hA1, ?_⟩, ⟨hs0, fun e he => (hf1 e he).1⟩, fun e he => (hf1 e he).2⟩
  rcases hb1 with h0 | ⟨el, sp, he, h0⟩
  · simp only [h0]; omega
  · have h2 : (el.length + sp.length) * Try.prog.bytesOf 33 ∈ DataW.weights Try.prog 27 (DataW.agg ([y0, y1, y2].map (·.1))) := by
      rw [DataW.weights, Try.underlying27]
      refine DataW.weights_mem_each (j := 1) (t := 25) (d := y1.1) rfl rfl _ ?_
      rw [he, DataW.weights, Try.underlying25]
      simp
    have h3 := hw _ h2
    rw [show Try.prog.bytesOf 33 = 40 by kernel_rfl] at h3
    simp only [reachBytes] at h3
    show n1 * 40 ≤ _
    omega

set_option maxRecDepth 20000 in
theorem open_litsW {v : Value} {y : DataW H × List MemPlace} {fuel : Nat} (hf : DataW.trod enc Try.prog W 0 (fun _ => true) true fuel 43 [v] = some y) (hw : ∀ m ∈ DataW.weights Try.prog 43 y.1, m ≤ reachBytes) :
    ∃ (A : Option Addr) (n c : Nat) (ls : List Li), v = .slice A n c ∧ Rd W W.heap.size 14 A n (lcells ls) ∧ (∀ x ∈ ls, Li.ok W x ∧ (x.fine ∧ x.ints)) ∧ n * 152 ≤ 140737488351232 := by
  rcases open_slice Try.underlying43 hf with ⟨hcs, hx⟩ | ⟨a, len, cap, m, nf, D, Pl, hcs, _, hl, hm, hmm, hx, hi⟩
  · simp at hcs
    subst hcs
    exact ⟨none, 0, 0, [], rfl, ⟨by simp [lcells], by omega, fun h => absurd h (by omega)⟩, by simp, by omega⟩
  · simp at hcs
    subst hcs hx
    simp only [if_true] at hmm
    subst hmm
    have hC : Try.prog.cellsOf 61 = 14 := by kernel_rfl
    have h1 : (((List.range len).map D).length + ((List.range (m - len)).map fun j => D (len + j)).length) * Try.prog.bytesOf 61 ∈ DataW.weights Try.prog 43 (DataW.slice ((List.range len).map D) ((List.range (m - len)).map fun j => D (len + j))) := by
      rw [DataW.weights, Try.underlying43]
      simp
    have h2 := hw _ h1
    rw [show Try.prog.bytesOf 61 = 152 by kernel_rfl] at h2
    simp only [reachBytes, List.length_map, List.length_range] at h2
    clear h1
    have key : ∀ i, i < len → ∃ e : Li, (∀ j, j < 14 → W.cell? (a.add (i * 14 + j)) = e.cells[j]?) ∧ Li.ok W e ∧ (e.fine ∧ e.ints) := by
      intro i hil
      have hwi : ∀ k ∈ DataW.weights Try.prog 61 (D i), k ≤ reachBytes := fun k hk => hw k (by
        rw [DataW.weights, Try.underlying43]
        exact List.mem_cons_of_mem _ (List.mem_append_left _ (mem_weightsAll (List.mem_map.2 ⟨i, by simpa using hil, rfl⟩) hk)))
      obtain ⟨cs', hc, ht'⟩ := hi i (by omega)
      rw [hC] at hc
      obtain ⟨ys, n', hn', hy, hlen, hyl, hfld⟩ := DataW.trod_struct Try.underlying61 ht'
      obtain ⟨_, hcl, hat⟩ := World.cells?_some hc
      match cs', hcl with
      | [v0, v1, v2, v3, v4, v5, v6, v7, v8, v9, v10, v11, v12, v13], _ =>
      match ys, hyl with
      | [y0, y1, y2, y3, y4, y5], _ =>
      have t0 : DataW.trod enc Try.prog W 0 (fun _ => true) true n' 3 (([v0, v1, v2, v3, v4, v5, v6, v7, v8, v9, v10, v11, v12, v13].drop 0).take (Try.prog.cellsOf 3)) = some y0 := hfld 0 _ rfl
      have t1 : DataW.trod enc Try.prog W 0 (fun _ => true) true n' 27 (([v0, v1, v2, v3, v4, v5, v6, v7, v8, v9, v10, v11, v12, v13].drop 1).take (Try.prog.cellsOf 27)) = some y1 := hfld 1 _ rfl
      have t2 : DataW.trod enc Try.prog W 0 (fun _ => true) true n' 3 (([v0, v1, v2, v3, v4, v5, v6, v7, v8, v9, v10, v11, v12, v13].drop 4).take (Try.prog.cellsOf 3)) = some y2 := hfld 2 _ rfl
      have t3 : DataW.trod enc Try.prog W 0 (fun _ => true) true n' 33 (([v0, v1, v2, v3, v4, v5, v6, v7, v8, v9, v10, v11, v12, v13].drop 5).take (Try.prog.cellsOf 33)) = some y3 := hfld 3 _ rfl
      have t4 : DataW.trod enc Try.prog W 0 (fun _ => true) true n' 33 (([v0, v1, v2, v3, v4, v5, v6, v7, v8, v9, v10, v11, v12, v13].drop 9).take (Try.prog.cellsOf 33)) = some y4 := hfld 4 _ rfl
      have t5 : DataW.trod enc Try.prog W 0 (fun _ => true) true n' 3 (([v0, v1, v2, v3, v4, v5, v6, v7, v8, v9, v10, v11, v12, v13].drop 13).take (Try.prog.cellsOf 3)) = some y5 := hfld 5 _ rfl
      rw [show Try.prog.cellsOf 3 = 1 by kernel_rfl] at t0 t2 t5
      rw [show Try.prog.cellsOf 27 = 3 by kernel_rfl] at t1
      rw [show Try.prog.cellsOf 33 = 4 by kernel_rfl] at t3 t4
      simp only [List.drop_zero, List.drop_succ_cons, List.take_succ_cons, List.take_zero] at t0 t1 t2 t3 t4 t5
      simp only [Prod.mk.injEq, List.map_cons, List.map_nil] at hy
      rw [hy.1] at hwi
      have hw1 : ∀ k ∈ DataW.weights Try.prog 27 y1.1, k ≤ reachBytes := fun k hk => hwi k (by
        rw [DataW.weights, Try.underlying61]
        exact DataW.weights_mem_each (j := 1) (t := 27) (d := y1.1) rfl rfl _ hk)
      obtain ⟨x0, e0, _, _⟩ := DataW.trod_int Try.underlying3 t0
      obtain ⟨at1, rfl, rfl, rfl, hok1, hsz1⟩ := open_atomW t1 hw1
      obtain ⟨x2, e2, _, _⟩ := DataW.trod_int Try.underlying3 t2
      obtain ⟨tl, rfl, rfl, rfl, rfl, fl, il⟩ := open_term t3
      obtain ⟨tr, rfl, rfl, rfl, rfl, fr, ir⟩ := open_term t4
      obtain ⟨x5, e5, _, _⟩ := DataW.trod_int Try.underlying3 t5
      simp only [List.cons.injEq, and_true] at e0 e2 e5
      subst e0 e2 e5
      refine ⟨⟨x0, at1, x2, tl, tr, x5⟩, fun j hj => ?_, hok1, ⟨hsz1.1, fl, fr⟩, ⟨hsz1.2, il, ir⟩⟩
      rw [← Go.Deep.add_add]
      exact hat j hj
    haveI : Inhabited Li := ⟨⟨0, ⟨⟨#[]⟩, none, 0, 0, 0, []⟩, 0, mark, mark, 0⟩⟩
    obtain ⟨ls, hlen, hes⟩ := flat_ex key
    refine ⟨some a, len, m, ls, rfl, ⟨by rw [lcells_length, hlen], by unfold maxLen at hm; omega, fun hn => ?_⟩, fun x hx => by obtain ⟨i, hi2, rfl⟩ := List.mem_iff_getElem.1 hx; exact (hes i hi2).2, by omega⟩
    obtain ⟨b, off, spot⟩ := a
    have h0 := (hes 0 (by omega)).1 0 (by omega)
    have h0 := cell_plain (h0.trans (show _ = some (Value.int .i64 ls[0].k) from rfl))
    have hspot : spot = none := by simpa [Addr.add] using h0.1
    subst hspot
    refine ⟨b, off, rfl, by simpa [Addr.add] using h0.2, fun j u hu => ?_⟩
    obtain ⟨h1, h2⟩ := flat_get Li.cells 14 (fun _ => rfl) (by omega) hu
    have := (hes (j / 14) h1).1 (j % 14) (by omega)
    rw [add_plain] at this
    rw [← h2, ← this]
    congr 2; omega

set_option maxRecDepth 20000 in
theorem open_clausesW {v : Value} {y : DataW H × List MemPlace} {fuel : Nat} (hf : DataW.trod enc Try.prog W 0 (fun _ => true) true fuel 35 [v] = some y) (hw : ∀ m ∈ DataW.weights Try.prog 35 y.1, m ≤ reachBytes) :
    ∃ (A : Option Addr) (n c : Nat) (cs : List Cl), v = .slice A n c ∧ Rd W W.heap.size 4 A n (ccells cs) ∧ (∀ x ∈ cs, Cl.ok W x ∧ (x.fines ∧ x.ints)) ∧ n * 72 ≤ 140737488351232 := by
  rcases open_slice Try.underlying35 hf with ⟨hcs, hx⟩ | ⟨a, len, cap, m, nf, D, Pl, hcs, _, hl, hm, hmm, hx, hi⟩
  · simp at hcs
    subst hcs
    exact ⟨none, 0, 0, [], rfl, ⟨by simp [ccells], by omega, fun h => absurd h (by omega)⟩, by simp, by omega⟩
  · simp at hcs
    subst hcs hx
    simp only [if_true] at hmm
    subst hmm
    have hC : Try.prog.cellsOf 45 = 4 := by kernel_rfl
    have h1 : (((List.range len).map D).length + ((List.range (m - len)).map fun j => D (len + j)).length) * Try.prog.bytesOf 45 ∈ DataW.weights Try.prog 35 (DataW.slice ((List.range len).map D) ((List.range (m - len)).map fun j => D (len + j))) := by
      rw [DataW.weights, Try.underlying35]
      simp
    have h2 := hw _ h1
    rw [show Try.prog.bytesOf 45 = 72 by kernel_rfl] at h2
    simp only [reachBytes, List.length_map, List.length_range] at h2
    clear h1
    have key : ∀ i, i < len → ∃ e : Cl, (∀ j, j < 4 → W.cell? (a.add (i * 4 + j)) = e.cells[j]?) ∧ (Cl.ok W e ∧ (e.fines ∧ e.ints)) := by
      intro i hil
      have hwi : ∀ k ∈ DataW.weights Try.prog 45 (D i), k ≤ reachBytes := fun k hk => hw k (by
        rw [DataW.weights, Try.underlying35]
        exact List.mem_cons_of_mem _ (List.mem_append_left _ (mem_weightsAll (List.mem_map.2 ⟨i, by simpa using hil, rfl⟩) hk)))
      obtain ⟨cs', hc, ht'⟩ := hi i (by omega)
      rw [hC] at hc
      obtain ⟨ys, n', hn', hy, hlen, hyl, hfld⟩ := DataW.trod_struct Try.underlying45 ht'
      obtain ⟨_, hcl, hat⟩ := World.cells?_some hc
      match cs', hcl with
      | [v0, v1, v2, v3], _ =>
      match ys, hyl with
      | [y0, y1], _ =>
      have t0 : DataW.trod enc Try.prog W 0 (fun _ => true) true n' 27 (([v0, v1, v2, v3].drop 0).take (Try.prog.cellsOf 27)) = some y0 := hfld 0 _ rfl
      have t1 : DataW.trod enc Try.prog W 0 (fun _ => true) true n' 43 (([v0, v1, v2, v3].drop 3).take (Try.prog.cellsOf 43)) = some y1 := hfld 1 _ rfl
      rw [show Try.prog.cellsOf 27 = 3 by kernel_rfl] at t0
      rw [show Try.prog.cellsOf 43 = 1 by kernel_rfl] at t1
      simp only [List.drop_zero, List.drop_succ_cons, List.take_succ_cons, List.take_zero] at t0 t1
      simp only [Prod.mk.injEq, List.map_cons, List.map_nil] at hy
      rw [hy.1] at hwi
      have hw0 : ∀ k ∈ DataW.weights Try.prog 27 y0.1, k ≤ reachBytes := fun k hk => hwi k (by
        rw [DataW.weights, Try.underlying45]
        exact DataW.weights_mem_each (j := 0) (t := 27) (d := y0.1) rfl rfl _ hk)
      have hw1 : ∀ k ∈ DataW.weights Try.prog 43 y1.1, k ≤ reachBytes := fun k hk => hwi k (by
        rw [DataW.weights, Try.underlying45]
        exact DataW.weights_mem_each (j := 1) (t := 43) (d := y1.1) rfl rfl _ hk)
      obtain ⟨at0, rfl, rfl, rfl, hok0, hsz0⟩ := open_atomW t0 hw0
      obtain ⟨A1, n1, c1, ls, rfl, hr1, hls, hn1⟩ := open_litsW t1 hw1
      have hlen1 : ls.length = n1 := by have := hr1.1; rw [lcells_length] at this; omega
      refine ⟨⟨at0, A1, n1, c1, ls⟩, fun j hj => ?_, ⟨⟨hok0, hr1, by show n1 * 152 ≤ _; omega, fun z hz => (hls z hz).1⟩, ⟨hsz0.1, fun z hz => (hls z hz).2.1⟩, ⟨hsz0.2, fun z hz => (hls z hz).2.2⟩⟩⟩
      rw [← Go.Deep.add_add]
      exact hat j hj
    haveI : Inhabited Cl := ⟨⟨⟨⟨#[]⟩, none, 0, 0, 0, []⟩, none, 0, 0, []⟩⟩
    obtain ⟨cs, hlen, hes⟩ := flat_ex key
    refine ⟨some a, len, m, cs, rfl, ⟨by rw [ccells_length, hlen], by unfold maxLen at hm; omega, fun hn => ?_⟩, fun x hx => by obtain ⟨i, hi2, rfl⟩ := List.mem_iff_getElem.1 hx; exact (hes i hi2).2, by omega⟩
    obtain ⟨b, off, spot⟩ := a
    have h0 := (hes 0 (by omega)).1 0 (by omega)
    have h0 := cell_plain (h0.trans (show _ = some (Value.string cs[0].h.p) from rfl))
    have hspot : spot = none := by simpa [Addr.add] using h0.1
    subst hspot
    refine ⟨b, off, rfl, by simpa [Addr.add] using h0.2, fun j u hu => ?_⟩
    obtain ⟨h1, h2⟩ := flat_get Cl.cells 4 (fun _ => rfl) (by omega) hu
    have := (hes (j / 4) h1).1 (j % 4) (by omega)
    rw [add_plain] at this
    rw [← h2, ← this]
    congr 2; omega

set_option maxRecDepth 100000 in
theorem open_progW {base : Nat} {v : Value} {d : DataW H} {p : List MemPlace} (hv : Value.okWide Try.prog W .any base 37 v) (h : DataW.Trod enc Try.prog W 0 (fun _ => true) true 37 v d p) (hw : ∀ m ∈ DataW.weights Try.prog 37 d, m ≤ reachBytes) :
    ∃ (A : Option Addr) (n c : Nat) (cs : List Cl), v = .agg #[.slice A n c] ∧ Rd W W.heap.size 4 A n (ccells cs) ∧ (∀ x ∈ cs, Cl.ok W x ∧ (x.fines ∧ x.ints)) ∧ n * 72 ≤ 140737488351232 := by
  obtain ⟨cs, rfl, hsz⟩ := okWide_struct Try.underlying37 hv
  obtain ⟨fuel, hf⟩ := h
  obtain ⟨xs, n, _, hd, hlen, hxl, hfld⟩ := DataW.trod_struct Try.underlying37 hf
  simp only [Prod.mk.injEq] at hd
  obtain ⟨rfl, _⟩ := hd
  have hxl : xs.length = 1 := hxl
  have hsz : cs.size = 1 := hsz.trans (by kernel_rfl)
  obtain ⟨l⟩ := cs
  match l, hsz, xs, hxl with
  | [v0], _, [y0], _ =>
    have t0 : DataW.trod enc Try.prog W 0 (fun _ => true) true n 35 [v0] = some y0 := hfld 0 _ rfl
    obtain ⟨A, n1, c1, cs, rfl, h1, h2, h3⟩ := open_clausesW t0 (fun k hk => hw k (by
      rw [DataW.weights, Try.underlying37]
      exact DataW.weights_mem_each (j := 0) (t := 35) (d := y0.1) rfl rfl _ hk))
    exact ⟨A, n1, c1, cs, rfl, h1, h2, h3⟩
end

set_option maxRecDepth 100000 in
theorem law_lifted {F : FuncId} {fn : Func} {s : ChangeSpec} (ts : List TypeId) (os : Os) (started : os.Started) (H : Type) (enc : TypeId × Value → H)
    (noInit : Try.prog.inits.idxOf? F = none) (hfn : Try.prog.funcs[F]? = some fn) (hp : fn.params = ts.toArray) (hrt : fn.resultTypes = #[4]) (hv : s.vars = [])
    (hs : ∀ ds : List (DataW H), ds.length = ts.length → (s.fn H (ds ++ [])).results = [.lit (.bool true)] ∧ (s.fn H (ds ++ [])).args = ds ∧ (s.fn H (ds ++ [])).vars = [])
    (hts : ∀ t ∈ ts, Try.prog.readableRec t = true ∧ t < Try.prog.types.size)
    (witness : ∃ (w : World) (tape : Tape) (i : Input), w.os = os ∧ (w.forCall tape i).Shaped Try.prog ∧ i.vars = [] ∧ Input.okWide Try.prog (w.forCall tape i) .any w.heap.size F i ∧
      s.pre6 enc Try.prog fn [] false (w.forCall tape i).memory i.args ∧ ({} : Assume).holds Try.prog (lone (Frame.enter Try.prog F i.args .normal) [] (w.forCall tape i)))
    (calls : ∀ (W : World) (base : Nat) (args : Array Value) (ds : List (DataW H)) (p : List MemPlace),
      (∀ (j : Nat) t v, ts[j]? = some t → args[j]? = some v → Value.okWide Try.prog W .any base t v) → DataW.TrodAll enc Try.prog W 0 (fun _ => true) true ts args.toList ds p →
      (DataW.weightsEach Try.prog ts ds).all (· ≤ reachBytes) = true → Calls Try.prog F args W fun e W' => e = .returned (.bool true) ∧ Below W.heap.size W W') :
    ReturnsInHanded {} Try.checked os F .any (s.pre6 enc Try.prog fn [] false) (s.post enc Try.prog fn false true false false) := by
  refine returnsInHanded_of_change_sized (C := Try.checked) Try.own started noInit hfn witness ?_
  intro W base args ds gs before hval0 hW0 _ hsz0 _
  have hval : ∀ (j : Nat) t v, fn.params[j]? = some t → args[j]? = some v → Value.okWide Try.prog W .any base t v := hval0
  have hW : DataW.Whole enc Try.prog fn.params.toList s.vars false W args.toList ds gs before := hW0
  have hsz : (DataW.weightsEach Try.prog (fn.params.toList ++ s.plain.varTypes Try.prog) (ds ++ gs)).all (· ≤ reachBytes) = true := hsz0
  clear hval0 hW0 hsz0
  have hW' := hW
  obtain ⟨p, q, hA, hV, rfl, _, _⟩ := hW
  rw [hv] at hV
  obtain ⟨rfl, rfl⟩ := trodVars_none hV
  have hvt : s.plain.varTypes Try.prog = [] := by
    simp [DataSpec.varTypes, ChangeSpec.plain, hv]
  rw [hvt, List.append_nil, List.append_nil, hp] at hsz
  rw [hp] at hA hval
  have hlen := trodAll_length hA
  obtain ⟨h1, h2, h3⟩ := hs ds (by simpa using hlen)
  refine (calls W base args ds p (fun j t v ht hv => hval j t v (by simpa using ht) hv) (by simpa using hA) (by simpa using hsz)).mono fun e W' ⟨he, hb⟩ => ?_
  subst he
  exact ⟨_, rfl, law_post 4 Try.laidOut (by rw [hp]; intro t ht; exact hts t (by simpa using ht)) hv hrt Try.underlying4 h1 h2 h3 hW' hb⟩

end Go.Proofs.Ytjcgkplphiedjaa
