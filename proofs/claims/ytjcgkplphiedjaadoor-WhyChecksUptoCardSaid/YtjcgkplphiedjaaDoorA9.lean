/- Findings that come in, opened. -/
import Derived.Test.YtjcgkplphiedjaaDoorA8
import Derived.ProofKit
import Derived.OpenShut
import Derived.JoinedCond
import Derived.SizedLaws
import Derived.SliceStrings
import Derived.Deep.Slices
import Derived.Deep.Fields
import Derived.ChangeSame
import Derived.Carry
import Derived.LaidLaws
import Derived.LaidMore
import Derived.MakeChecks
import Derived.Lib.LaidTab
import Derived.Stop.LaidErr
namespace Go.Proofs.YtjcgkplphiedjaaDoor
open Go.ChangeShapes Go.WideShapes Go.ChangeAt Go.RowKit Go.Deep

theorem Tryd.laidOut : laidOutB Tryd.prog = true := by kernel_rfl
theorem Tryd.own : ownKnob Tryd.prog.godebug = none := by kernel_rfl

theorem trodAll_length {H : Type} {enc : TypeId × Value → H} {P : Program} {w : World} {base : Nat} {sp : Nat → Bool} {held : Bool} :
    ∀ {ts : List TypeId} {vs : List Value} {ds : List (DataW H)} {ps : List MemPlace}, DataW.TrodAll enc P w base sp held ts vs ds ps → ds.length = ts.length
  | [], _, _, _, h => by obtain ⟨_, rfl, _⟩ := trodAll_nil h; rfl
  | t :: ts, _, _, _, h => by
    obtain ⟨v, vs, d, ds, p, q, rfl, rfl, rfl, h1, h2⟩ := trodAll_cons h
    simp [trodAll_length h2]

theorem bulk_one {H : Type} (d : DataW H) : 1 ≤ Rows.uptoBulk d := by
  cases d with
  | lit l => cases l <;> simp [Rows.uptoBulk]
  | nil => simp [Rows.uptoBulk]
  | ptr d => simp [Rows.uptoBulk]
  | slice elems spare => simp [Rows.uptoBulk]
  | agg parts => simp [Rows.uptoBulk]
  | iface t d => simp [Rows.uptoBulk]
  | map entries => simp [Rows.uptoBulk]
  | held h => simp [Rows.uptoBulk]
theorem bulk_length {H : Type} (l : List (DataW H)) : l.length ≤ Rows.uptoBulkAll l := by
  induction l with
  | nil => simp [Rows.uptoBulkAll]
  | cons x r ih => have := bulk_one x; simp only [Rows.uptoBulkAll, List.length_cons]; omega
theorem bulk_slice {H : Type} (elems spare : List (DataW H)) : Rows.uptoBulkAll elems + 1 ≤ Rows.uptoBulk (.slice elems spare) := by
  simp only [Rows.uptoBulk]; omega
theorem bulk_mem {H : Type} {x : DataW H} : ∀ {l : List (DataW H)}, x ∈ l → Rows.uptoBulk x ≤ Rows.uptoBulkAll l
  | y :: l, h => by
    rw [Rows.uptoBulkAll]
    rcases List.mem_cons.1 h with rfl | h
    · omega
    · have := bulk_mem h; omega
theorem flat_get {α : Type} (f : α → List Value) (s : Nat) (hf : ∀ x, (f x).length = s) (hs : 0 < s) {l : List α} {j : Nat} {u : Value} (hu : (l.flatMap f)[j]? = some u) : ∃ h : j / s < l.length, (f l[j / s])[j % s]? = some u := by
  have hj : j < (l.flatMap f).length := (List.getElem?_eq_some_iff.1 hu).1
  rw [flat_length f s hf] at hj
  have h1 : j / s < l.length := Nat.div_lt_of_lt_mul (by rw [Nat.mul_comm]; exact hj)
  refine ⟨h1, ?_⟩
  have h := flat_at f s hf l (j / s) (j % s) h1 (Nat.mod_lt _ hs)
  rw [← h, ← hu]
  congr 1
  rw [Nat.mul_comm]; exact Nat.div_add_mod j s

section
variable {H : Type} {enc : TypeId × Value → H} {P : Program}

theorem trodAll_below {W W' : World} (hl : laidOutB P = true) (hb : Below W.heap.size W W') :
    ∀ {ts : List TypeId} {vs : List Value} {ds : List (DataW H)} {ps : List MemPlace}, (∀ t ∈ ts, P.readableRec t = true ∧ t < P.types.size) →
      DataW.TrodAll enc P W 0 (fun _ => true) true ts vs ds ps → (∀ x ∈ ps, x.block < W.heap.size) → DataW.TrodAll enc P W' 0 (fun b => decide (b < W.heap.size)) true ts vs ds ps
  | [], _, _, _, _, h, _ => by
    obtain ⟨rfl, rfl, rfl⟩ := trodAll_nil h
    exact rfl
  | t :: ts, _, _, _, hts, h, hlt => by
    obtain ⟨v, vs, d, ds, p, q, rfl, rfl, rfl, h1, h2⟩ := trodAll_cons h
    have h1' := Below.trod hl (hts t (by simp)).1 (hts t (by simp)).2 h1 hb (fun x hx => hlt x (by simp [hx]))
    have h2' := trodAll_below hl hb (fun t ht => hts t (by simp [ht])) h2 (fun x hx => hlt x (by simp [hx]))
    exact ⟨p, q, h1', h2', rfl⟩

theorem law_post {f : Func} {s : ChangeSpec} {W W' : World} {args : Array Value} {ds gs : List (DataW H)} {before : List MemPlace} (tb : TypeId)
    (hl : laidOutB P = true) (hts : ∀ t ∈ f.params.toList, P.readableRec t = true ∧ t < P.types.size) (hv : s.vars = [])
    (hrt : f.resultTypes = #[tb]) (htb : P.underlying tb = some .bool)
    (hres : (s.fn H (ds ++ gs)).results = [.lit (.bool true)]) (harg : (s.fn H (ds ++ gs)).args = ds) (hvar : (s.fn H (ds ++ gs)).vars = [])
    (hW : DataW.Whole enc P f.params.toList s.vars false W args.toList ds gs before) (hb : Below W.heap.size W W') :
    s.post enc P f false true false false W args (.bool true) W' := by
  have hlt : ∀ p ∈ before, p.block < W.heap.size := fun p hp => hW.lt p hp
  have hW' := hW
  obtain ⟨p, q, hA, hV, rfl, _, _⟩ := hW
  rw [hv] at hV
  obtain ⟨rfl, rfl⟩ := trodVars_none hV
  refine ⟨ds, [], p ++ [], [], p, [], hW', ?_, ?_, ?_, hb.frame _, fun h => by cases h⟩
  · rw [hres, hrt]
    exact trodAll_mk1 (shut_bool htb true)
  · rw [harg]
    exact trodAll_below hl hb hts hA (fun x hx => hlt x (by simpa using hx))
  · rw [hv, hvar]
    rfl

end

theorem cell_plain {w : World} {a : Addr} {v : Value} (h : w.cell? a = some v) : a.spot = none ∧ a.block < w.heap.size :=
  ⟨World.cell?_spot h, World.block_lt_of_cell? w a h⟩

section
variable {H : Type} {enc : TypeId × Value → H} {W : World}
theorem open_slice_fields {P : Program} {w : World} {base : Nat} {spare : Nat → Bool} {held : Bool} {t e : TypeId} {fs : Array Field} {fuel : Nat} {cs : List Value} {x : DataW H × List MemPlace} (ht : P.underlying t = some (.slice e)) (he : P.underlying e = some (.struct fs))
    (hone : oneCellFields P fs = true) (hC : P.cellsOf e = fs.size) (h : DataW.trod enc P w base spare held fuel t cs = some x) :
    (cs = [.slice none 0 0] ∧ x = (.nil, [])) ∨
    ∃ (a : Addr) (len cap m : Nat) (D : Nat → DataW H) (Pl : Nat → List MemPlace), cs = [.slice (some a) len cap] ∧ base ≤ a.block ∧ len ≤ cap ∧ cap ≤ maxLen ∧ m = (if spare a.block then cap else len) ∧
      x = (.slice ((List.range len).map D) ((List.range (m - len)).map fun j => D (len + j)), MemPlace.row a (m * fs.size) ++ (List.range m).flatMap Pl) ∧
      ∀ i, i < m → ∃ (ys : List (DataW H × List MemPlace)) (n : Nat), D i = .agg (ys.map (·.1)) ∧ Pl i = ys.flatMap (·.2) ∧ ys.length = fs.size ∧
        ∀ (j : Nat) (f : Field), fs[j]? = some f → ∃ (v : Value) (y : DataW H × List MemPlace), w.cell? (a.add (i * fs.size + j)) = some v ∧ ys[j]? = some y ∧ DataW.trod enc P w base spare held n f.type [v] = some y := by
  rcases open_slice ht h with h0 | ⟨a, len, cap, m, n, D, Pl, hcs, hb, hl, hm, hmm, hx, hi⟩
  · exact .inl h0
  · refine .inr ⟨a, len, cap, m, D, Pl, hcs, hb, hl, hm, hmm, by rw [hC] at hx; exact hx, fun i him => ?_⟩
    obtain ⟨cs', hc, ht'⟩ := hi i him
    rw [hC] at hc
    obtain ⟨ys, n', hn', hy, hlen, hyl, hf⟩ := DataW.trod_struct he ht'
    obtain ⟨_, hcl, hat⟩ := World.cells?_some hc
    simp only [Prod.mk.injEq] at hy
    refine ⟨ys, n', hy.1, hy.2, hyl, fun j f hj => ?_⟩
    obtain ⟨ho, hk⟩ := hone_of hone j f hj
    have hjl : j < fs.size := (Array.getElem?_eq_some_iff.1 hj).1
    have hcell := hat j hjl
    have hv : cs'[j]? = some (cs'[j]'(by omega)) := List.getElem?_eq_getElem (by omega)
    have h1 := hf j f hj
    rw [ho, hk] at h1
    have hone' : (cs'.drop j).take 1 = [cs'[j]'(by omega)] := by
      rw [List.drop_eq_getElem_cons (by omega)]
      rfl
    rw [hone'] at h1
    have hys : ys[j]? = some (ys[j]'(by omega)) := List.getElem?_eq_getElem (by omega)
    refine ⟨_, _, ?_, hys, h1.trans hys⟩
    rw [← Go.Deep.add_add, hcell, hv]

theorem flat_ex {α : Type} [Inhabited α] {n : Nat} {p : Nat → α → Prop} (h : ∀ i, i < n → ∃ x, p i x) : ∃ l : List α, l.length = n ∧ ∀ i (hi : i < l.length), p i l[i] := by
  obtain ⟨f, hf⟩ := choose_lt h
  exact ⟨(List.range n).map f, by simp, fun i hi => by simpa using hf i (by simpa using hi)⟩



theorem inI_of {z : Int} (h : (Lit.int .i64 z).wf = true) : inI z := by
  simp only [Lit.wf, Bool.and_eq_true, decide_eq_true_eq] at h
  have h1 : IntKind.i64.min = -9223372036854775808 := by decide
  have h2 : IntKind.i64.max = 9223372036854775807 := by decide
  exact ⟨by rw [← h1]; exact h.1, by rw [← h2]; exact h.2⟩

set_option maxRecDepth 100000 in
theorem open_findings {base : Nat} {v : Value} {d : DataW H} {p : List MemPlace} (hv : Value.okWide Tryd.prog W .any base 22 v) (h : DataW.Trod enc Tryd.prog W 0 (fun _ => true) true 22 v d p) (hb : Rows.uptoBulk d ≤ 1048576) :
    ∃ (A : Option Addr) (n c : Nat) (fs : List Fd), v = .slice A n c ∧ Rd W W.heap.size 5 A n (fcells fs) ∧ (A = none → c = 0) ∧ (∀ x ∈ fs, x.fine) ∧ n ≤ Rows.uptoBulk d := by
  obtain ⟨a0, len, cap, rfl⟩ := okWide_slice Tryd.underlying22 hv
  obtain ⟨fuel, hf⟩ := h
  have hfs := Tryd.underlying52
  rcases open_slice_fields Tryd.underlying22 hfs (by kernel_rfl) (by kernel_rfl) hf with ⟨hcs, hx⟩ | ⟨a, len', cap', m, D, Pl, hcs, _, hl, hm, hmm, hx, hi⟩
  · simp [Value.cells] at hcs
    obtain ⟨rfl, rfl, rfl⟩ := hcs
    exact ⟨none, 0, 0, [], rfl, ⟨by simp [fcells], by omega, fun h => absurd h (by omega)⟩, fun _ => rfl, by simp, by omega⟩
  · simp [Value.cells] at hcs
    obtain ⟨rfl, rfl, rfl⟩ := hcs
    simp only [Prod.mk.injEq] at hx
    obtain ⟨rfl, rfl⟩ := hx
    simp only [if_true] at hmm
    subst hmm
    have h1 := bulk_slice ((List.range len).map D) ((List.range (m - len)).map fun j => D (len + j))
    have h2 := bulk_length ((List.range len).map D)
    simp only [List.length_map, List.length_range] at h2
    have key : ∀ i, i < len → ∃ e : Fd, (∀ j, j < 5 → W.cell? (a.add (i * 5 + j)) = e.cells[j]?) ∧ e.fine := by
      intro i hil
      have hbi : Rows.uptoBulk (D i) ≤ 1048576 := by
        have := bulk_mem (List.mem_map.2 ⟨i, by simpa using hil, rfl⟩ : D i ∈ (List.range len).map D)
        omega
      obtain ⟨ys, n, hD, _, hyl, hfld⟩ := hi i (by omega)
      obtain ⟨v0, y0, c0, _, t0⟩ := hfld 0 _ rfl
      obtain ⟨v1, y1, c1, _, t1⟩ := hfld 1 _ rfl
      obtain ⟨v2, y2, c2, _, t2⟩ := hfld 2 _ rfl
      obtain ⟨v3, y3, c3, _, t3⟩ := hfld 3 _ rfl
      obtain ⟨v4, y4, c4, hy4, t4⟩ := hfld 4 _ rfl
      obtain ⟨x0, e0, _, r0⟩ := DataW.trod_int Tryd.underlying3 t0
      obtain ⟨x1, e1, _, r1⟩ := DataW.trod_int Tryd.underlying3 t1
      obtain ⟨x2, e2, _, r2⟩ := DataW.trod_int Tryd.underlying3 t2
      obtain ⟨x3, e3, _, r3⟩ := DataW.trod_int Tryd.underlying3 t3
      obtain ⟨x4, e4, hd4, _⟩ := DataW.trod_string Tryd.underlying9 t4
      simp only [List.cons.injEq, and_true] at e0 e1 e2 e3 e4
      subst e0 e1 e2 e3 e4
      refine ⟨⟨x0, x1, x2, x3, x4⟩, fun j hj => ?_, ⟨inI_of r0, inI_of r1, inI_of r2, inI_of r3⟩, ?_⟩
      · match j, hj with
        | 0, _ => exact c0
        | 1, _ => exact c1
        | 2, _ => exact c2
        | 3, _ => exact c3
        | 4, _ => exact c4
      · have hm4 : y4.1 ∈ ys.map (·.1) := List.mem_map.2 ⟨y4, List.mem_of_getElem? hy4, rfl⟩
        have := bulk_mem hm4
        rw [hD] at hbi
        simp only [Rows.uptoBulk] at hbi
        rw [hd4] at this
        simp only [Rows.uptoBulk] at this
        show x4.size ≤ 1048576
        rw [toList_size, ByteArray.toList_eq]
        omega
    haveI : Inhabited Fd := ⟨⟨0, 0, 0, 0, ⟨#[]⟩⟩⟩
    obtain ⟨fs, hlen, hes⟩ := flat_ex key
    refine ⟨some a, len, m, fs, rfl, ⟨by rw [fcells, flat_length Fd.cells 5 (fun _ => rfl), hlen], by unfold maxLen at hm; omega, fun hn => ?_⟩, (fun h => by cases h), fun x hx => by obtain ⟨i, hi2, rfl⟩ := List.mem_iff_getElem.1 hx; exact (hes i hi2).2, by omega⟩
    obtain ⟨b, off, spot⟩ := a
    have h0 := (hes 0 (by omega)).1 0 (by omega)
    have h0 := cell_plain (h0.trans (show _ = some (Value.int .i64 fs[0].k) from rfl))
    have hspot : spot = none := by simpa [Addr.add] using h0.1
    subst hspot
    refine ⟨b, off, rfl, by simpa [Addr.add] using h0.2, fun j u hu => ?_⟩
    obtain ⟨h1, h2⟩ := flat_get Fd.cells 5 (fun _ => rfl) (by omega) hu
    have := (hes (j / 5) h1).1 (j % 5) (by omega)
    rw [add_plain] at this
    rw [← h2, ← this]
    congr 2; omega
end

theorem pow_of_laid {W : World} (h : laidMetH Tryd.prog Rows.lintTextsUptoRow.laid W) : Pow W := by
  rw [MakeChecks.laidMetH_plain _ _ _ (by kernel_rfl)] at h
  have h2 := laidMet.tail (laidMet.tail h)
  exact Lib.tabIs_of_head (g := 1) (t := 155) (e := 143) (n := 20) (by kernel_rfl) (by kernel_rfl) (by kernel_rfl) (by kernel_rfl) (by kernel_rfl) (by kernel_rfl) h2
end Go.Proofs.YtjcgkplphiedjaaDoor
