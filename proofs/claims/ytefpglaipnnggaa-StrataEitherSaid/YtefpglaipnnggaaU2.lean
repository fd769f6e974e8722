/- StrataEither: at any predicates, edges, levels and walk the law answers true and its argument reads as before. No condition. -/
import Derived.Test.YtefpglaipnnggaaU1
import Derived.Test.YtefpglaipnnggaaB2
namespace Go.Proofs.Ytefpglaipnnggaa
open Go.ChangeShapes Go.WideShapes Go.ChangeAt Go.RowKit Go.Deep

theorem part_at {l : List Value} {o k : Nat} (ho : o < l.length) (hk : k = 1) : (l.drop o).take k = [l[o]] := by
  subst hk
  rw [List.drop_eq_getElem_cons ho]
  rfl

section
variable {H : Type} {enc : TypeId × Value → H} {W : World}
theorem field_islice {v : Value} {y : DataW H × List MemPlace} {fuel : Nat} (hf : DataW.trod enc Try.prog W 0 (fun _ => true) true fuel 37 [v] = some y) :
    ∃ (A : Option Addr) (n c : Nat) (l : List Int), v = .slice A n c ∧ Rd W W.heap.size 1 A n (icells l) ∧ (n = 0 ∨ ∃ el sp, y.1 = .slice el sp ∧ el.length = n) := by
  rcases open_ints Try.underlying37 Try.underlying3 (by kernel_rfl) hf with ⟨hcs, hx⟩ | ⟨a, len, cap, zs, hcs, _, hl, hm, hz, hx, hcell, hwz⟩
  · simp at hcs
    subst hcs
    exact ⟨none, 0, 0, [], rfl, Rd_nil _ _ _, .inl rfl⟩
  · simp at hcs
    subst hcs hx
    simp only [if_true] at hz
    refine ⟨some a, len, cap, zs.take len, rfl, ⟨by rw [icells_length, List.length_take]; omega, by unfold maxLen at hm; omega, fun hn => ?_⟩, .inr ⟨_, _, rfl, by simp [lits]; omega⟩⟩
    obtain ⟨b, off, spot⟩ := a
    have h0 := cell_plain (hcell 0 (by omega))
    have hspot : spot = none := by simpa [Addr.add] using h0.1
    subst hspot
    refine ⟨b, off, rfl, by simpa [Addr.add] using h0.2, fun j u hu => ?_⟩
    simp only [icells, List.getElem?_map, Option.map_eq_some_iff] at hu
    obtain ⟨z, hz1, rfl⟩ := hu
    have hj : j < len := by
      have := (List.getElem?_eq_some_iff.1 hz1).1
      rw [List.length_take] at this; omega
    have := hcell j (by omega)
    rw [add_plain] at this
    rw [this]
    rw [List.getElem?_take, if_pos hj] at hz1
    simp [List.getD, hz1]

theorem field_edges {v : Value} {y : DataW H × List MemPlace} {fuel : Nat} (hf : DataW.trod enc Try.prog W 0 (fun _ => true) true fuel 23 [v] = some y) :
    ∃ (A : Option Addr) (n c : Nat) (es : List E), v = .slice A n c ∧ Rd W W.heap.size 4 A n (ecells es) ∧ (n = 0 ∨ ∃ el sp, y.1 = .slice el sp ∧ el.length = n) := by
  have hfs := Try.underlying43
  rcases open_slice_fields Try.underlying23 hfs (by kernel_rfl) (by kernel_rfl) hf with ⟨hcs, hx⟩ | ⟨a, len, cap, m, D, Pl, hcs, _, hl, hm, hmm, hx, hi⟩
  · simp at hcs
    subst hcs
    exact ⟨none, 0, 0, [], rfl, Rd_nil _ _ _, .inl rfl⟩
  · simp at hcs
    subst hcs hx
    simp only [if_true] at hmm
    subst hmm
    have key : ∀ i, i < len → ∃ e : E, ∀ j, j < 4 → W.cell? (a.add (i * 4 + j)) = e.cells[j]? := by
      intro i hil
      obtain ⟨ys, n, _, _, _, hfld⟩ := hi i (by omega)
      obtain ⟨v0, y0, c0, _, t0⟩ := hfld 0 _ rfl
      obtain ⟨v1, y1, c1, _, t1⟩ := hfld 1 _ rfl
      obtain ⟨v2, y2, c2, _, t2⟩ := hfld 2 _ rfl
      obtain ⟨v3, y3, c3, _, t3⟩ := hfld 3 _ rfl
      obtain ⟨x0, e0, _, _⟩ := DataW.trod_int Try.underlying3 t0
      obtain ⟨x1, e1, _, _⟩ := DataW.trod_int Try.underlying3 t1
      obtain ⟨x2, e2, _⟩ := DataW.trod_bool Try.underlying4 t2
      obtain ⟨x3, e3, _, _⟩ := DataW.trod_int Try.underlying3 t3
      simp only [List.cons.injEq, and_true] at e0 e1 e2 e3
      subst e0 e1 e2 e3
      refine ⟨⟨x0, x1, x2, x3⟩, fun j hj => ?_⟩
      match j, hj with
      | 0, _ => exact c0
      | 1, _ => exact c1
      | 2, _ => exact c2
      | 3, _ => exact c3
    obtain ⟨es, hlen, hes⟩ := flat_ex key
    refine ⟨some a, len, m, es, rfl, ⟨by rw [ecells_length, hlen], by unfold maxLen at hm; omega, fun hn => ?_⟩, .inr ⟨_, _, rfl, by simp⟩⟩
    obtain ⟨b, off, spot⟩ := a
    have h0 := hes 0 (by omega) 0 (by omega)
    have h0 := cell_plain (h0.trans (show _ = some (Value.int .i64 es[0].f) from rfl))
    have hspot : spot = none := by simpa [Addr.add] using h0.1
    subst hspot
    refine ⟨b, off, rfl, by simpa [Addr.add] using h0.2, fun j u hu => ?_⟩
    obtain ⟨h1, h2⟩ := ecells_get hu
    have := hes (j / 4) h1 (j % 4) (by omega)
    rw [add_plain] at this
    rw [← h2, ← this]
    congr 2; omega

theorem open_case {base : Nat} {v : Value} {d : DataW H} {p : List MemPlace} (hv : Value.okWide Try.prog W .any base 62 v) (h : DataW.Trod enc Try.prog W 0 (fun _ => true) true 62 v d p) (hw : ∀ n ∈ d.weights Try.prog 62, n ≤ reachBytes) :
    ∃ (x : Int) (A AL AW : Option Addr) (m c kl cl kw cw : Nat) (es : List E) (ls wk : List Int), v = .agg #[.int .i64 x, .slice A m c, .slice AL kl cl, .slice AW kw cw] ∧ Rd W W.heap.size 4 A m (ecells es) ∧ Rd W W.heap.size 1 AL kl (icells ls) ∧ Rd W W.heap.size 1 AW kw (icells wk) ∧
      m * 32 ≤ 140737488351232 ∧ kl * 8 ≤ 140737488351232 ∧ kw * 8 ≤ 140737488351232 := by
  obtain ⟨cs, rfl, hsz⟩ := okWide_struct Try.underlying62 hv
  obtain ⟨fuel, hf⟩ := h
  obtain ⟨xs, n, _, hd, hlen, hxl, hfld⟩ := DataW.trod_struct Try.underlying62 hf
  simp only [Prod.mk.injEq] at hd
  obtain ⟨rfl, _⟩ := hd
  have hxl : xs.length = 4 := hxl
  have hsz : cs.size = 4 := hsz.trans (by kernel_rfl)
  obtain ⟨l⟩ := cs
  match l, hsz, xs, hxl with
  | [v0, v1, v2, v3], _, [y0, y1, y2, y3], _ =>
    have t0 : DataW.trod enc Try.prog W 0 (fun _ => true) true n 3 [v0] = some y0 := hfld 0 _ rfl
    have t1 : DataW.trod enc Try.prog W 0 (fun _ => true) true n 23 [v1] = some y1 := hfld 1 _ rfl
    have t2 : DataW.trod enc Try.prog W 0 (fun _ => true) true n 37 [v2] = some y2 := hfld 2 _ rfl
    have t3 : DataW.trod enc Try.prog W 0 (fun _ => true) true n 37 [v3] = some y3 := hfld 3 _ rfl
    obtain ⟨x0, e0, _, _⟩ := DataW.trod_int Try.underlying3 t0
    simp only [List.cons.injEq, and_true] at e0
    subst e0
    obtain ⟨A, m, c, es, rfl, hr, hb⟩ := field_edges t1
    obtain ⟨AL, kl, cl, ls, rfl, hrl, hbl⟩ := field_islice t2
    obtain ⟨AW, kw, cw, wk, rfl, hrw, hbw⟩ := field_islice t3
    have key : ∀ (j t e : Nat) (yj : DataW H × List MemPlace) (k bytes : Nat), ([3, 23, 37, 37] : List TypeId)[j]? = some t → ([y0, y1, y2, y3] : List (DataW H × List MemPlace))[j]? = some yj → Try.prog.underlying t = some (.slice e) → Try.prog.bytesOf e = bytes →
        (k = 0 ∨ ∃ el sp, yj.1 = .slice el sp ∧ el.length = k) → k * bytes ≤ 140737488351232 := by
      intro j t e yj k bytes ht hy hu hby hk
      rcases hk with rfl | ⟨el, sp, he, rfl⟩
      · omega
      · have hmem : (el.length + sp.length) * Try.prog.bytesOf e ∈ (DataW.agg ([y0, y1, y2, y3].map (·.1))).weights Try.prog 62 := by
          rw [DataW.weights, Try.underlying62]
          refine DataW.weights_mem_each (j := j) (t := t) (d := yj.1) ht (by rw [List.getElem?_map, hy]; rfl) _ ?_
          rw [he, DataW.weights, hu]
          simp
        have h1 := hw _ hmem
        rw [hby] at h1
        simp only [reachBytes] at h1
        have h2 : el.length * bytes ≤ (el.length + sp.length) * bytes := Nat.mul_le_mul_right _ (by omega)
        exact Nat.le_trans h2 (by omega)
    exact ⟨x0, A, AL, AW, m, c, kl, cl, kw, cw, es, ls, wk, rfl, hr, hrl, hrw, key 1 23 43 y1 m 32 rfl rfl Try.underlying23 (by kernel_rfl) hb, key 2 37 3 y2 kl 8 rfl rfl Try.underlying37 (by kernel_rfl) hbl, key 3 37 3 y3 kw 8 rfl rfl Try.underlying37 (by kernel_rfl) hbw⟩
end

theorem StrataEither_calls {H : Type} {enc : TypeId × Value → H} {W : World} {base : Nat} {args : Array Value} {ds : List (DataW H)} {p : List MemPlace}
    (hval : ∀ (j : Nat) t v, ([62] : List TypeId)[j]? = some t → args[j]? = some v → Value.okWide Try.prog W .any base t v)
    (hA : DataW.TrodAll enc Try.prog W 0 (fun _ => true) true [62] args.toList ds p) (hsz : (DataW.weightsEach Try.prog [62] ds).all (· ≤ reachBytes) = true) :
    Calls Try.prog 13 args W fun e W' => e = .returned (.bool true) ∧ Below W.heap.size W W' := by
  obtain ⟨v0, vs0, d0, ds0, p0, q0, hargs, rfl, rfl, h0, r0⟩ := trodAll_cons hA
  obtain ⟨rfl, rfl, rfl⟩ := trodAll_nil r0
  obtain rfl : args = #[v0] := by cases args; simp_all
  have hall : ∀ n ∈ d0.weights Try.prog 62, n ≤ reachBytes := fun n hn => by
    have := List.all_eq_true.1 hsz n (DataW.weights_mem_each (j := 0) rfl rfl n hn)
    simpa using this
  obtain ⟨x, A, AL, AW, m, c, kl, cl, kw, cw, es, ls, wk, rfl, hr, hrl, hrw, b1, b2, b3⟩ := open_case (hval 0 62 v0 rfl rfl) h0 hall
  exact StrataEither_walk x A AL AW m c kl cl kw cw es ls wk W hr hrl hrw b1 b2 b3

set_option maxRecDepth 100000 in
theorem StrataEither_lifted (os : Os) (started : os.Started) (H : Type) (enc : TypeId × Value → H) :
    ReturnsInHanded {} Try.checked os 13 .any (Rows.strataEitherSpec.pre6 enc Try.prog Try.f13 Rows.strataEitherRow.domain false) (Rows.strataEitherSpec.post enc Try.prog Try.f13 false true false false) :=
  law_lifted [62] os started H enc (by kernel_rfl) Try.func13 Try.params13 (by kernel_rfl) rfl
    (fun ds h => match ds, h with | [_], _ => ⟨rfl, rfl, rfl⟩) (by intro t ht; exact of_decide_eq_true (List.all_eq_true.1 (show [62].all (fun t => decide (Try.prog.readableRec t = true ∧ t < Try.prog.types.size)) = true by kernel_rfl) t ht))
    (ChangeSpec.witness6 (enc := enc) (C := Try.checked) false ⟨#[], #[.agg #[.int .i64 0, .slice none 0 0, .slice none 0 0, .slice none 0 0]], []⟩ 8 (by kernel_rfl) (by kernel_rfl) (by kernel_rfl) (by kernel_rfl))
    (fun _ _ _ _ _ hv hA hs => StrataEither_calls hv hA hs)

theorem StrataEither_holds : Rows.StrataEitherSaid :=
  OpenClaim.holds_of_wide 13 Try.f13 rfl rfl rfl rfl rfl rfl rfl ⟨rfl, rfl, rfl, rfl, rfl⟩ rfl rfl rfl rfl rfl (by kernel_rfl) Try.func13 (by kernel_rfl)
    (of_decide_eq_true (by kernel_rfl)) (by unfold Func.isWrapper; first | (rw [if_pos (by decide +kernel)]; kernel_rfl) | (rw [if_neg (by decide +kernel)]; exact ⟨rfl, rfl⟩))
    (fun os started H enc _ => StrataEither_lifted os started H enc)
end Go.Proofs.Ytefpglaipnnggaa
