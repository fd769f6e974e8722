/- From a walk to a row: MagicAdorns. -/
import Derived.Test.YtjcgkplphiedjaaJ6
import Derived.ProofKit
import Derived.OpenShut
import Derived.JoinedCond
import Derived.SizedLaws
import Derived.SliceStrings
import Derived.Deep.Slices
import Derived.Deep.Fields
import Derived.ChangeSame
import Derived.Carry
namespace Go.Proofs.Ytjcgkplphiedjaa
open Go.ChangeShapes Go.WideShapes Go.ChangeAt Go.RowKit Go.Deep

theorem Try.laidOut : laidOutB Try.prog = true := by kernel_rfl
theorem Try.own : ownKnob Try.prog.godebug = none := by kernel_rfl

section
variable {H : Type} {enc : TypeId × Value → H} {P : Program}

theorem trodAll_below {W W' : World} (hl : laidOutB P = true) (hb : Below W.heap.size W W') :
    ∀ {ts : List TypeId} {vs : List Value} {ds : List (DataW H)} {ps : List MemPlace}, (∀ t ∈ ts, P.readableRec t = true ∧ t < P.types.size) →
      DataW.TrodAll enc P W 0 (fun _ => true) true ts vs ds ps → (∀ x ∈ ps, x.block < W.heap.size) → DataW.TrodAll enc P W' 0 (fun b => decide (b < W.heap.size)) true ts vs ds ps
  | [], _, _, _, _, h, _ => by
    obtain ⟨rfl, rfl, rfl⟩ := trodAll_nil h
    exact rfl
  | t :: ts, _, _, _, hts, h, hlt => by
    obtain ⟨v, vs, d, ds, p, q, rfl, rfl, rfl, h1, h2⟩ := trodAll_cons h
    have h1' := Below.trod hl (hts t (by simp)).1 (hts t (by simp)).2 h1 hb (fun x hx => hlt x (by simp [hx]))
    have h2' := trodAll_below hl hb (fun t ht => hts t (by simp [ht])) h2 (fun x hx => hlt x (by simp [hx]))
    exact ⟨p, q, h1', h2', rfl⟩

theorem law_post {f : Func} {s : ChangeSpec} {W W' : World} {args : Array Value} {ds gs : List (DataW H)} {before : List MemPlace} (tb : TypeId)
    (hl : laidOutB P = true) (hts : ∀ t ∈ f.params.toList, P.readableRec t = true ∧ t < P.types.size) (hv : s.vars = [])
    (hrt : f.resultTypes = #[tb]) (htb : P.underlying tb = some .bool)
    (hres : (s.fn H (ds ++ gs)).results = [.lit (.bool true)]) (harg : (s.fn H (ds ++ gs)).args = ds) (hvar : (s.fn H (ds ++ gs)).vars = [])
    (hW : DataW.Whole enc P f.params.toList s.vars false W args.toList ds gs before) (hb : Below W.heap.size W W') :
    s.post enc P f false true false false W args (.bool true) W' := by
  have hlt : ∀ p ∈ before, p.block < W.heap.size := fun p hp => hW.lt p hp
  have hW' := hW
  obtain ⟨p, q, hA, hV, rfl, _, _⟩ := hW
  rw [hv] at hV
  obtain ⟨rfl, rfl⟩ := trodVars_none hV
  refine ⟨ds, [], p ++ [], [], p, [], hW', ?_, ?_, ?_, hb.frame _, fun h => by cases h⟩
  · rw [hres, hrt]
    exact trodAll_mk1 (shut_bool htb true)
  · rw [harg]
    exact trodAll_below hl hb hts hA (fun x hx => hlt x (by simpa using hx))
  · rw [hv, hvar]
    rfl

end

theorem cell_plain {w : World} {a : Addr} {v : Value} (h : w.cell? a = some v) : a.spot = none ∧ a.block < w.heap.size :=
  ⟨World.cell?_spot h, World.block_lt_of_cell? w a h⟩

section
variable {H : Type} {enc : TypeId × Value → H} {W : World}
theorem open_slice_fields {P : Program} {w : World} {base : Nat} {spare : Nat → Bool} {held : Bool} {t e : TypeId} {fs : Array Field} {fuel : Nat} {cs : List Value} {x : DataW H × List MemPlace} (ht : P.underlying t = some (.slice e)) (he : P.underlying e = some (.struct fs))
    (hone : oneCellFields P fs = true) (hC : P.cellsOf e = fs.size) (h : DataW.trod enc P w base spare held fuel t cs = some x) :
    (cs = [.slice none 0 0] ∧ x = (.nil, [])) ∨
    ∃ (a : Addr) (len cap m : Nat) (D : Nat → DataW H) (Pl : Nat → List MemPlace), cs = [.slice (some a) len cap] ∧ base ≤ a.block ∧ len ≤ cap ∧ cap ≤ maxLen ∧ m = (if spare a.block then cap else len) ∧
      x = (.slice ((List.range len).map D) ((List.range (m - len)).map fun j => D (len + j)), MemPlace.row a (m * fs.size) ++ (List.range m).flatMap Pl) ∧
      ∀ i, i < m → ∃ (ys : List (DataW H × List MemPlace)) (n : Nat), D i = .agg (ys.map (·.1)) ∧ Pl i = ys.flatMap (·.2) ∧ ys.length = fs.size ∧
        ∀ (j : Nat) (f : Field), fs[j]? = some f → ∃ (v : Value) (y : DataW H × List MemPlace), w.cell? (a.add (i * fs.size + j)) = some v ∧ ys[j]? = some y ∧ DataW.trod enc P w base spare held n f.type [v] = some y := by
  rcases open_slice ht h with h0 | ⟨a, len, cap, m, n, D, Pl, hcs, hb, hl, hm, hmm, hx, hi⟩
  · exact .inl h0
  · refine .inr ⟨a, len, cap, m, D, Pl, hcs, hb, hl, hm, hmm, by rw [hC] at hx; exact hx, fun i him => ?_⟩
    obtain ⟨cs', hc, ht'⟩ := hi i him
    rw [hC] at hc
    obtain ⟨ys, n', hn', hy, hlen, hyl, hf⟩ := DataW.trod_struct he ht'
    obtain ⟨_, hcl, hat⟩ := World.cells?_some hc
    simp only [Prod.mk.injEq] at hy
    refine ⟨ys, n', hy.1, hy.2, hyl, fun j f hj => ?_⟩
    obtain ⟨ho, hk⟩ := hone_of hone j f hj
    have hjl : j < fs.size := (Array.getElem?_eq_some_iff.1 hj).1
    have hcell := hat j hjl
    have hv : cs'[j]? = some (cs'[j]'(by omega)) := List.getElem?_eq_getElem (by omega)
    have h1 := hf j f hj
    rw [ho, hk] at h1
    have hone' : (cs'.drop j).take 1 = [cs'[j]'(by omega)] := by
      rw [List.drop_eq_getElem_cons (by omega)]
      rfl
    rw [hone'] at h1
    have hys : ys[j]? = some (ys[j]'(by omega)) := List.getElem?_eq_getElem (by omega)
    refine ⟨_, _, ?_, hys, h1.trans hys⟩
    rw [← Go.Deep.add_add, hcell, hv]

theorem flat_ex {α : Type} [Inhabited α] {n : Nat} {p : Nat → α → Prop} (h : ∀ i, i < n → ∃ x, p i x) : ∃ l : List α, l.length = n ∧ ∀ i (hi : i < l.length), p i l[i] := by
  obtain ⟨f, hf⟩ := choose_lt h
  exact ⟨(List.range n).map f, by simp, fun i hi => by simpa using hf i (by simpa using hi)⟩


theorem tcells_get {es : List T} {j : Nat} {u : Value} (hu : (tcells es)[j]? = some u) : ∃ h : j / 4 < es.length, (es[j / 4]).cells[j % 4]? = some u := by
  have hj : j < (tcells es).length := (List.getElem?_eq_some_iff.1 hu).1
  rw [tcells_length] at hj
  have h1 : j / 4 < es.length := by omega
  refine ⟨h1, ?_⟩
  have := tcells_at es (j / 4) (j % 4) h1 (by omega)
  rw [← this, ← hu]; congr 1; omega

theorem acells_get {es : List At} {j : Nat} {u : Value} (hu : (acells es)[j]? = some u) : ∃ h : j / 3 < es.length, (es[j / 3]).cells[j % 3]? = some u := by
  have hj : j < (acells es).length := (List.getElem?_eq_some_iff.1 hu).1
  rw [acells_length] at hj
  have h1 : j / 3 < es.length := by omega
  refine ⟨h1, ?_⟩
  have := acells_at es (j / 3) (j % 3) h1 (by omega)
  rw [← this, ← hu]; congr 1; omega

theorem open_terms {v : Value} {y : DataW H × List MemPlace} {fuel : Nat} (hf : DataW.trod enc Try.prog W 0 (fun _ => true) true fuel 25 [v] = some y) :
    ∃ (A : Option Addr) (n c : Nat) (es : List T), v = .slice A n c ∧ Rd W W.heap.size 4 A n (tcells es) ∧ (A = none → c = 0) ∧ (n = 0 ∨ ∃ el sp, y.1 = .slice el sp ∧ el.length = n) := by
  rcases open_slice_fields Try.underlying25 Try.underlying33 (by kernel_rfl) (by kernel_rfl) hf with ⟨hcs, hx⟩ | ⟨a, len, cap, m, D, Pl, hcs, _, hl, hm, hmm, hx, hi⟩
  · simp at hcs
    subst hcs
    exact ⟨none, 0, 0, [], rfl, ⟨by simp [tcells], by omega, fun h => absurd h (by omega)⟩, fun _ => rfl, .inl rfl⟩
  · simp at hcs
    subst hcs hx
    simp only [if_true] at hmm
    subst hmm
    have key : ∀ i, i < len → ∃ e : T, ∀ j, j < 4 → W.cell? (a.add (i * 4 + j)) = e.cells[j]? := by
      intro i hil
      obtain ⟨ys, n, _, _, _, hfld⟩ := hi i (by omega)
      obtain ⟨v0, y0, c0, _, t0⟩ := hfld 0 _ rfl
      obtain ⟨v1, y1, c1, _, t1⟩ := hfld 1 _ rfl
      obtain ⟨v2, y2, c2, _, t2⟩ := hfld 2 _ rfl
      obtain ⟨v3, y3, c3, _, t3⟩ := hfld 3 _ rfl
      obtain ⟨x0, e0, _, _⟩ := DataW.trod_int Try.underlying3 t0
      obtain ⟨x1, e1, _, _⟩ := DataW.trod_int Try.underlying2 t1
      obtain ⟨x2, e2, _⟩ := DataW.trod_string Try.underlying9 t2
      obtain ⟨x3, e3, _, _⟩ := DataW.trod_int Try.underlying3 t3
      simp only [List.cons.injEq, and_true] at e0 e1 e2 e3
      subst e0 e1 e2 e3
      refine ⟨⟨x0, x1, x2, x3⟩, fun j hj => ?_⟩
      match j, hj with
      | 0, _ => exact c0
      | 1, _ => exact c1
      | 2, _ => exact c2
      | 3, _ => exact c3
    haveI : Inhabited T := ⟨mark⟩
    obtain ⟨es, hlen, hes⟩ := flat_ex key
    refine ⟨some a, len, m, es, rfl, ⟨by rw [tcells_length, hlen], by unfold maxLen at hm; omega, fun hn => ?_⟩, fun h => (by cases h), .inr ⟨_, _, rfl, by simp⟩⟩
    obtain ⟨b, off, spot⟩ := a
    have h0 := hes 0 (by omega) 0 (by omega)
    have h0 := cell_plain (h0.trans (show _ = some (Value.int .i64 es[0].k) from rfl))
    have hspot : spot = none := by simpa [Addr.add] using h0.1
    subst hspot
    refine ⟨b, off, rfl, by simpa [Addr.add] using h0.2, fun j u hu => ?_⟩
    obtain ⟨h1, h2⟩ := tcells_get hu
    have := hes (j / 4) h1 (j % 4) (by omega)
    rw [add_plain] at this
    rw [← h2, ← this]
    congr 2; omega

theorem mem_weightsAll {P : Program} {e : TypeId} {n : Nat} {x : DataW H} : ∀ {l : List (DataW H)}, x ∈ l → n ∈ x.weights P e → n ∈ DataW.weightsAll P e l
  | y :: l, h, hn => by
    rw [DataW.weightsAll, List.mem_append]
    rcases List.mem_cons.1 h with rfl | h
    · exact .inl hn
    · exact .inr (mem_weightsAll h hn)

set_option maxRecDepth 100000 in
theorem open_atoms {base : Nat} {v : Value} {d : DataW H} {p : List MemPlace} (hv : Value.okWide Try.prog W .any base 22 v) (h : DataW.Trod enc Try.prog W 0 (fun _ => true) true 22 v d p) (hw : ∀ n ∈ d.weights Try.prog 22, n ≤ reachBytes) :
    ∃ (A : Option Addr) (n c : Nat) (ats : List At), v = .slice A n c ∧ Rd W W.heap.size 3 A n (acells ats) ∧ ∀ a ∈ ats, At.ok W a := by
  obtain ⟨a0, len, cap, rfl⟩ := okWide_slice Try.underlying22 hv
  obtain ⟨fuel, hf⟩ := h
  have hfs := Try.underlying27
  rcases open_slice_fields Try.underlying22 hfs (by kernel_rfl) (by kernel_rfl) hf with ⟨hcs, hx⟩ | ⟨a, len', cap', m, D, Pl, hcs, _, hl, hm, hmm, hx, hi⟩
  · simp [Value.cells] at hcs
    obtain ⟨rfl, rfl, rfl⟩ := hcs
    exact ⟨none, 0, 0, [], rfl, ⟨by simp [acells], by omega, fun h => absurd h (by omega)⟩, by simp⟩
  · simp [Value.cells] at hcs
    obtain ⟨rfl, rfl, rfl⟩ := hcs
    simp only [Prod.mk.injEq] at hx
    obtain ⟨rfl, rfl⟩ := hx
    simp only [if_true] at hmm
    subst hmm
    have key : ∀ i, i < len → ∃ e : At, (∀ j, j < 3 → W.cell? (a.add (i * 3 + j)) = e.cells[j]?) ∧ At.ok W e := by
      intro i hil
      obtain ⟨ys, n, hD, _, hyl, hfld⟩ := hi i (by omega)
      obtain ⟨v0, y0, c0, _, t0⟩ := hfld 0 _ rfl
      obtain ⟨v1, y1, c1, hy1, t1⟩ := hfld 1 _ rfl
      obtain ⟨v2, y2, c2, _, t2⟩ := hfld 2 _ rfl
      obtain ⟨x0, e0, _⟩ := DataW.trod_string Try.underlying9 t0
      obtain ⟨A1, n1, cc1, es1, rfl, hr1, hA1, hb1⟩ := open_terms t1
      obtain ⟨x2, e2, _, _⟩ := DataW.trod_int Try.underlying3 t2
      simp only [List.cons.injEq, and_true] at e0 e2
      subst e0 e2
      refine ⟨⟨x0, A1, n1, cc1, x2, es1⟩, fun j hj => ?_, hr1, hA1, ?_⟩
      · match j, hj with
        | 0, _ => exact c0
        | 1, _ => exact c1
        | 2, _ => exact c2
      · rcases hb1 with rfl | ⟨el, sp, he, rfl⟩
        · simp
        · have hmem : (el.length + sp.length) * Try.prog.bytesOf 33 ∈ (D i).weights Try.prog 27 := by
            rw [hD, DataW.weights, hfs]
            refine DataW.weights_mem_each (j := 1) (t := 25) (d := y1.1) rfl (by rw [List.getElem?_map, hy1]; rfl) _ ?_
            rw [he, DataW.weights, Try.underlying25]
            simp
          have h2 : (el.length + sp.length) * Try.prog.bytesOf 33 ∈ DataW.weights Try.prog 22 (DataW.slice ((List.range len).map D) ((List.range (m - len)).map fun j => D (len + j))) := by
            rw [DataW.weights, Try.underlying22]
            refine List.mem_cons_of_mem _ (List.mem_append_left _ (mem_weightsAll (List.mem_map.2 ⟨i, by simpa using hil, rfl⟩) hmem))
          have := hw _ h2
          rw [show Try.prog.bytesOf 33 = 40 by kernel_rfl] at this
          simp only [reachBytes] at this
          show el.length * 40 ≤ 140737488351232
          omega
    haveI : Inhabited At := ⟨⟨⟨#[]⟩, none, 0, 0, 0, []⟩⟩
    obtain ⟨ats, hlen, hes⟩ := flat_ex key
    refine ⟨some a, len, m, ats, rfl, ⟨by rw [acells_length, hlen], by unfold maxLen at hm; omega, fun hn => ?_⟩, fun x hx => by obtain ⟨i, hi2, rfl⟩ := List.mem_iff_getElem.1 hx; exact (hes i hi2).2⟩
    obtain ⟨b, off, spot⟩ := a
    have h0 := (hes 0 (by omega)).1 0 (by omega)
    have h0 := cell_plain (h0.trans (show _ = some (Value.string ats[0].p) from rfl))
    have hspot : spot = none := by simpa [Addr.add] using h0.1
    subst hspot
    refine ⟨b, off, rfl, by simpa [Addr.add] using h0.2, fun j u hu => ?_⟩
    obtain ⟨h1, h2⟩ := acells_get hu
    have := (hes (j / 3) h1).1 (j % 3) (by omega)
    rw [add_plain] at this
    rw [← h2, ← this]
    congr 2; omega

set_option maxRecDepth 100000 in
theorem open_names {base : Nat} {v : Value} {d : DataW H} {p : List MemPlace} (hv : Value.okWide Try.prog W .any base 23 v) (h : DataW.Trod enc Try.prog W 0 (fun _ => true) true 23 v d p) (hw : ∀ n ∈ d.weights Try.prog 23, n ≤ reachBytes) :
    ∃ (A : Option Addr) (n c : Nat) (l : List ByteArray), v = .slice A n c ∧ Rd W W.heap.size 1 A n (scells l) ∧ (A = none → c = 0) ∧ n * 16 ≤ 140737488351232 := by
  obtain ⟨a0, len, cap, rfl⟩ := okWide_slice Try.underlying23 hv
  obtain ⟨fuel, hf⟩ := h
  rcases open_strings Try.underlying23 Try.underlying9 (by kernel_rfl) hf with ⟨hcs, hx⟩ | ⟨a, len', cap', ss, hcs, _, hl, hm, hz, hx, hcell, _⟩
  · simp [Value.cells] at hcs
    obtain ⟨rfl, rfl, rfl⟩ := hcs
    exact ⟨none, 0, 0, [], rfl, ⟨by simp [scells], by omega, fun h => absurd h (by omega)⟩, fun _ => rfl, by omega⟩
  · simp [Value.cells] at hcs
    obtain ⟨rfl, rfl, rfl⟩ := hcs
    simp only [Prod.mk.injEq] at hx
    obtain ⟨rfl, rfl⟩ := hx
    simp only [if_true] at hz
    refine ⟨some a, len, cap, ss.take len, rfl, ⟨by rw [scells_length, List.length_take]; omega, by unfold maxLen at hm; omega, fun hn => ?_⟩, fun h => (by cases h), ?_⟩
    · obtain ⟨b, off, spot⟩ := a
      have h0 := cell_plain (hcell 0 (by omega))
      have hspot : spot = none := by simpa [Addr.add] using h0.1
      subst hspot
      refine ⟨b, off, rfl, by simpa [Addr.add] using h0.2, fun j u hu => ?_⟩
      simp only [scells, List.getElem?_map, Option.map_eq_some_iff] at hu
      obtain ⟨z, hz1, rfl⟩ := hu
      have hj : j < len := by
        have := (List.getElem?_eq_some_iff.1 hz1).1
        rw [List.length_take] at this; omega
      have := hcell j (by omega)
      rw [add_plain] at this
      rw [this]
      rw [List.getElem?_take, if_pos hj] at hz1
      simp [List.getD, hz1]
    · have h2 : ((strs (H := H) (ss.take len)).length + (strs (H := H) (ss.drop len)).length) * Try.prog.bytesOf 9 ∈ DataW.weights Try.prog 23 (DataW.slice (strs (H := H) (ss.take len)) (strs (ss.drop len))) := by
        rw [DataW.weights, Try.underlying23]
        simp
      have := hw _ h2
      rw [show Try.prog.bytesOf 9 = 16 by kernel_rfl] at this
      have hsl : (strs (H := H) (ss.take len)).length = len := by simp [strs]; omega
      simp only [reachBytes] at this
      omega
end
end Go.Proofs.Ytjcgkplphiedjaa
