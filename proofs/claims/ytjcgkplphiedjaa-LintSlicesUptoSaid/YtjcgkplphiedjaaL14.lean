/- LintSlices, where what it reads is of bulk at most 1048576: at any program and any goals the law answers true and its arguments read as before. Condition: the bound on the bulk, nothing else. -/
import Derived.Test.YtjcgkplphiedjaaL9
import Derived.Test.YtjcgkplphiedjaaL13
namespace Go.Proofs.Ytjcgkplphiedjaa
open Go.ChangeShapes Go.WideShapes Go.ChangeAt Go.RowKit Go.Deep

theorem part_one {α : Type} {l : List α} {o k : Nat} {x : List α} (hl : l.length = 1) (ho : o = 0) (hk : k = 1) (h : (l.drop o).take k = x) : x = l := by
  subst ho hk
  rw [List.drop_zero, List.take_of_length_le (by omega)] at h
  exact h.symm

section
variable {H : Type} {enc : TypeId × Value → H} {W : World}
set_option maxRecDepth 100000 in
theorem open_prog {base : Nat} {v : Value} {d : DataW H} {p : List MemPlace} (hv : Value.okWide Try.prog W .any base 37 v) (h : DataW.Trod enc Try.prog W 0 (fun _ => true) true 37 v d p) (hb : Rows.uptoBulk d ≤ 1048576) :
    ∃ (A : Option Addr) (n c : Nat) (cs : List Cl), v = .agg #[.slice A n c] ∧ Rd W W.heap.size 4 A n (ccells cs) ∧ (∀ x ∈ cs, Cl.ok W x ∧ x.fine) ∧ n ≤ Rows.uptoBulk d ∧ (cs.map fun x => x.ls.length).sum ≤ Rows.uptoBulk d := by
  obtain ⟨cs, rfl, hsz⟩ := okWide_struct Try.underlying37 hv
  obtain ⟨fuel, hf⟩ := h
  obtain ⟨xs, n, _, hd, hlen, hxl, hfld⟩ := DataW.trod_struct Try.underlying37 hf
  simp only [Prod.mk.injEq] at hd
  obtain ⟨rfl, _⟩ := hd
  have hxl : xs.length = 1 := hxl
  have hsz : cs.size = 1 := hsz.trans (by kernel_rfl)
  obtain ⟨l⟩ := cs
  match l, hsz, xs, hxl with
  | [v0], _, [y0], _ =>
    have t0 : DataW.trod enc Try.prog W 0 (fun _ => true) true n 35 [v0] = some y0 := hfld 0 _ rfl
    simp only [List.map_cons, List.map_nil, Rows.uptoBulk, Rows.uptoBulkAll] at hb ⊢
    obtain ⟨A, n1, c1, cs, rfl, h1, h2, h3, h4⟩ := open_clauses t0 (by omega)
    exact ⟨A, n1, c1, cs, rfl, h1, h2, by omega, by omega⟩

set_option maxRecDepth 100000 in
theorem open_goals {base : Nat} {v : Value} {d : DataW H} {p : List MemPlace} (hv : Value.okWide Try.prog W .any base 23 v) (h : DataW.Trod enc Try.prog W 0 (fun _ => true) true 23 v d p) :
    ∃ (A : Option Addr) (n c : Nat) (l : List ByteArray), v = .slice A n c ∧ Rd W W.heap.size 1 A n (scells l) ∧ (A = none → c = 0) ∧ (∀ s ∈ l, s.size ≤ maxLen) ∧ n ≤ Rows.uptoBulk d := by
  obtain ⟨a0, len, cap, rfl⟩ := okWide_slice Try.underlying23 hv
  obtain ⟨fuel, hf⟩ := h
  rcases open_strings Try.underlying23 Try.underlying9 (by kernel_rfl) hf with ⟨hcs, hx⟩ | ⟨a, len', cap', ss, hcs, _, hl, hm, hz, hx, hcell, hss⟩
  · simp [Value.cells] at hcs
    obtain ⟨rfl, rfl, rfl⟩ := hcs
    exact ⟨none, 0, 0, [], rfl, ⟨by simp [scells], by omega, fun h => absurd h (by omega)⟩, fun _ => rfl, by simp, by omega⟩
  · simp [Value.cells] at hcs
    obtain ⟨rfl, rfl, rfl⟩ := hcs
    simp only [Prod.mk.injEq] at hx
    obtain ⟨rfl, rfl⟩ := hx
    simp only [if_true] at hz
    refine ⟨some a, len, cap, ss.take len, rfl, ⟨by rw [scells_length, List.length_take]; omega, by unfold maxLen at hm; omega, fun hn => ?_⟩, fun h => (by cases h), fun s hs => hss s (List.mem_of_mem_take hs), ?_⟩
    · obtain ⟨b, off, spot⟩ := a
      have h0 := cell_plain (hcell 0 (by omega))
      have hspot : spot = none := by simpa [Addr.add] using h0.1
      subst hspot
      refine ⟨b, off, rfl, by simpa [Addr.add] using h0.2, fun j u hu => ?_⟩
      simp only [scells, List.getElem?_map, Option.map_eq_some_iff] at hu
      obtain ⟨z, hz1, rfl⟩ := hu
      have hj : j < len := by
        have := (List.getElem?_eq_some_iff.1 hz1).1
        rw [List.length_take] at this; omega
      have := hcell j (by omega)
      rw [add_plain] at this
      rw [this]
      rw [List.getElem?_take, if_pos hj] at hz1
      simp [List.getD, hz1]
    · have h1 := bulk_slice (strs (H := H) (ss.take len)) (strs (ss.drop len))
      have h2 := bulk_length (strs (H := H) (ss.take len))
      have hsl : (strs (H := H) (ss.take len)).length = len := by simp [strs]; omega
      omega
end

theorem allAsks_le (cs : List Cl) : allAsks cs ≤ (cs.map fun x => x.ls.length).sum := by
  induction cs with
  | nil => simp [allAsks]
  | cons c cs ih =>
    have e : allAsks (c :: cs) = c.asks.length + allAsks cs := by simp [allAsks]
    have h := asksL_le c.ls
    rw [e]
    simp only [List.map_cons, List.sum_cons]
    unfold Cl.asks
    omega
theorem need_fine {cs : List Cl} {goals : List ByteArray} (h1 : ∀ g ∈ goals, g.size ≤ maxLen) (h2 : ∀ c ∈ cs, c.fine) {s : ByteArray} (h : Need cs goals s) : s.size ≤ maxLen := by
  cases h with
  | goal h => exact h1 _ h
  | step hc _ hs =>
    obtain ⟨x, hx, rfl⟩ := List.mem_map.1 hs
    exact (h2 _ hc).2 x (List.mem_filter.1 hx).1

set_option maxRecDepth 100000 in
theorem LintSlices_calls {H : Type} {enc : TypeId × Value → H} {W : World} {base : Nat} {args : Array Value} {ds : List (DataW H)} {p : List MemPlace}
    (hval : ∀ (j : Nat) t v, ([37, 23] : List TypeId)[j]? = some t → args[j]? = some v → Value.okWide Try.prog W .any base t v)
    (hA : DataW.TrodAll enc Try.prog W 0 (fun _ => true) true [37, 23] args.toList ds p) (hk : Rows.uptoBulkAll ds ≤ 1048576) :
    Calls Try.prog 4 args W fun e W' => e = .returned (.bool true) ∧ Below W.heap.size W W' := by
  obtain ⟨v0, vs0, d0, ds0, p0, q0, hargs, rfl, rfl, h0, r0⟩ := trodAll_cons hA
  obtain ⟨v1, vs1, d1, ds1, p1, q1, rfl, rfl, rfl, h1, r1⟩ := trodAll_cons r0
  obtain ⟨rfl, rfl, rfl⟩ := trodAll_nil r1
  obtain rfl : args = #[v0, v1] := by cases args; simp_all
  simp only [Rows.uptoBulkAll] at hk
  obtain ⟨A, n, c, cs, rfl, hr, hok, hn, hs⟩ := open_prog (hval 0 37 v0 rfl rfl) h0 (by omega)
  obtain ⟨A', m, c', l, rfl, hr', hA', hss, hm⟩ := open_goals (hval 1 23 v1 rfl rfl) h1
  have ha := allAsks_le cs
  exact LintSlices_walk A A' n c m c' cs l W hr (fun x hx => (hok x hx).1) hr' hA' (by omega) (by omega) (fun s h => need_fine hss (fun x hx => (hok x hx).2) h) (fun x hx => (hok x hx).2.1)

set_option maxRecDepth 100000 in
theorem law_upto {F : FuncId} {fn : Func} {s : ChangeSpec} (ts : List TypeId) (os : Os) (started : os.Started) (H : Type) (enc : TypeId × Value → H) (Fi : Stop.Interp)
    (noInit : Try.prog.inits.idxOf? F = none) (hfn : Try.prog.funcs[F]? = some fn) (hp : fn.params = ts.toArray) (hrt : fn.resultTypes = #[4]) (hv : s.vars = [])
    (hs : ∀ ds : List (DataW H), ds.length = ts.length → (s.fn H (ds ++ [])).results = [.lit (.bool true)] ∧ (s.fn H (ds ++ [])).args = ds ∧ (s.fn H (ds ++ [])).vars = [])
    (hts : ∀ t ∈ ts, Try.prog.readableRec t = true ∧ t < Try.prog.types.size)
    (witness : ∃ (w : World) (tape : Tape) (i : Input), w.os = os ∧ (w.forCall tape i).Shaped Try.prog ∧ i.vars = [] ∧ Input.okWide Try.prog (w.forCall tape i) .any w.heap.size F i ∧
      (Rows.OpenSpec.upto s).pre6 enc Try.prog fn [] false (w.forCall tape i).memory i.args ∧ ({} : Assume).holds Try.prog (lone (Frame.enter Try.prog F i.args .normal) [] (w.forCall tape i)))
    (calls : ∀ (W : World) (base : Nat) (args : Array Value) (ds : List (DataW H)) (p : List MemPlace),
      (∀ (j : Nat) t v, ts[j]? = some t → args[j]? = some v → Value.okWide Try.prog W .any base t v) → DataW.TrodAll enc Try.prog W 0 (fun _ => true) true ts args.toList ds p →
      Rows.uptoBulkAll ds ≤ 1048576 → Calls Try.prog F args W fun e W' => e = .returned (.bool true) ∧ Below W.heap.size W W') :
    ReturnsInHanded {} Try.checked os F .any ((Rows.OpenSpec.upto s).pre6 enc Try.prog fn [] false) (((Rows.OpenSpec.upto s).at Fi).post enc Try.prog fn false true false false) := by
  refine returnsInHanded_of_cond (C := Try.checked) (s := Rows.OpenSpec.upto s) (k := Rows.uptoSmall) rfl Try.own started noInit hfn witness ?_
  intro W base args ds gs before hval0 hW0 _ hk _
  have hval : ∀ (j : Nat) t v, fn.params[j]? = some t → args[j]? = some v → Value.okWide Try.prog W .any base t v := hval0
  have hW : DataW.Whole enc Try.prog fn.params.toList s.vars false W args.toList ds gs before := hW0
  clear hval0 hW0
  have hW' := hW
  obtain ⟨p, q, hA, hV, rfl, _, _⟩ := hW
  rw [hv] at hV
  obtain ⟨rfl, rfl⟩ := trodVars_none hV
  rw [List.append_nil] at hk
  have hk2 : Rows.uptoBulkAll ds ≤ 1048576 := of_decide_eq_true hk
  rw [hp] at hA hval
  have hlen := trodAll_length hA
  obtain ⟨h1, h2, h3⟩ := hs ds (by simpa using hlen)
  refine (calls W base args ds p (fun j t v ht hv => hval j t v (by simpa using ht) hv) (by simpa using hA) hk2).mono fun e W' ⟨he, hb⟩ => ?_
  subst he
  exact ⟨_, rfl, law_post 4 Try.laidOut (by rw [hp]; intro t ht; exact hts t (by simpa using ht)) hv hrt Try.underlying4 h1 h2 h3 hW' hb⟩

set_option maxRecDepth 100000 in
theorem LintSlices_lifted (os : Os) (started : os.Started) (H : Type) (enc : TypeId × Value → H) (F : Stop.Interp) :
    ReturnsInHanded {} Try.checked os 4 .any ((Rows.OpenSpec.upto Rows.lintSlicesSpec).pre6 enc Try.prog Try.f4 Rows.lintSlicesUptoRow.domain false) (((Rows.OpenSpec.upto Rows.lintSlicesSpec).at F).post enc Try.prog Try.f4 false true false false) :=
  law_upto [37, 23] os started H enc F (by kernel_rfl) Try.func4 Try.params4 (by kernel_rfl) rfl
    (fun ds h => match ds, h with | [_, _], _ => ⟨rfl, rfl, rfl⟩) (by intro t ht; exact of_decide_eq_true (List.all_eq_true.1 (show [37, 23].all (fun t => decide (Try.prog.readableRec t = true ∧ t < Try.prog.types.size)) = true by kernel_rfl) t ht))
    (OpenSpec.witness (enc := enc) (C := Try.checked) (s := Rows.OpenSpec.upto Rows.lintSlicesSpec) (k := Rows.uptoSmall) rfl false ⟨#[], #[.agg #[.slice none 0 0], .slice none 0 0], []⟩ 8 (by kernel_rfl) (by kernel_rfl) (by kernel_rfl)
      (x := ([.agg [.nil], .nil], [], [])) (by kernel_rfl) rfl (by kernel_rfl))
    (fun _ _ _ _ _ hv hA hs => LintSlices_calls hv hA hs)

theorem LintSlicesUpto_holds : Rows.LintSlicesUptoSaid :=
  OpenClaim.holds_of_cond 4 Try.f4 rfl rfl rfl rfl rfl rfl rfl ⟨rfl, rfl, rfl, rfl, rfl⟩ rfl rfl rfl rfl rfl (by kernel_rfl) Try.func4 (by kernel_rfl)
    (of_decide_eq_true (by kernel_rfl)) (by unfold Func.isWrapper; first | (rw [if_pos (by decide +kernel)]; kernel_rfl) | (rw [if_neg (by decide +kernel)]; exact ⟨rfl, rfl⟩))
    (fun os started H enc _ F => LintSlices_lifted os started H enc F)
end Go.Proofs.Ytjcgkplphiedjaa
