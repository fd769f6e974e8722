/- StrataMore: at any number, any edges and any edge more the law answers true and its arguments read as before. No condition. -/
import Derived.Test.YtefpglaipnnggaaQ2
import Derived.Test.YtefpglaipnnggaaB2
namespace Go.Proofs.Ytefpglaipnnggaa
open Go.ChangeShapes Go.WideShapes Go.ChangeAt Go.RowKit Go.Deep

theorem part_one {α : Type} {l : List α} {o k : Nat} {x : α} (hk : k = 1) (h : (l.drop o).take k = [x]) : l[o]? = some x := by
  subst hk
  have h2 : ((l.drop o).take 1)[0]? = some x := by rw [h]; rfl
  simpa [List.getElem?_take, List.getElem?_drop] using h2

theorem open_edge {H : Type} {enc : TypeId × Value → H} {W : World} {base : Nat} {v : Value} {d : DataW H} {p : List MemPlace} (hv : Value.okWide Try.prog W .any base 43 v) (h : DataW.Trod enc Try.prog W 0 (fun _ => true) true 43 v d p) :
    ∃ y : E, v = .agg #[.int .i64 y.f, .int .i64 y.t, .bool y.neg, .int .i64 y.r] := by
  obtain ⟨cs, rfl, hsz⟩ := okWide_struct Try.underlying43 hv
  obtain ⟨fuel, hf⟩ := h
  obtain ⟨xs, n, _, _, hlen, hxl, hfld⟩ := DataW.trod_struct Try.underlying43 hf
  have hxl : xs.length = 4 := hxl
  have t0 := (hfld 0 _ rfl).trans (List.getElem?_eq_getElem (by omega))
  have t1 := (hfld 1 _ rfl).trans (List.getElem?_eq_getElem (by omega))
  have t2 := (hfld 2 _ rfl).trans (List.getElem?_eq_getElem (by omega))
  have t3 := (hfld 3 _ rfl).trans (List.getElem?_eq_getElem (by omega))
  obtain ⟨x0, e0, _, _⟩ := DataW.trod_int Try.underlying3 t0
  obtain ⟨x1, e1, _, _⟩ := DataW.trod_int Try.underlying3 t1
  obtain ⟨x2, e2, _⟩ := DataW.trod_bool Try.underlying4 t2
  obtain ⟨x3, e3, _, _⟩ := DataW.trod_int Try.underlying3 t3
  have h0 := part_one (by kernel_rfl) e0
  have h1 := part_one (by kernel_rfl) e1
  have h2 := part_one (by kernel_rfl) e2
  have h3 := part_one (by kernel_rfl) e3
  have hsz : cs.size = 4 := hsz.trans (by kernel_rfl)
  refine ⟨⟨x0, x1, x2, x3⟩, ?_⟩
  congr 1
  obtain ⟨l⟩ := cs
  match l, hsz with
  | [a, b, c, e], _ =>
    simp [Value.cells] at h0 h1 h2 h3
    rw [h0, h1, h2, h3]

theorem StrataMore_calls {H : Type} {enc : TypeId × Value → H} {W : World} {base : Nat} {args : Array Value} {ds : List (DataW H)} {p : List MemPlace}
    (hval : ∀ (j : Nat) t v, ([3, 23, 43] : List TypeId)[j]? = some t → args[j]? = some v → Value.okWide Try.prog W .any base t v)
    (hA : DataW.TrodAll enc Try.prog W 0 (fun _ => true) true [3, 23, 43] args.toList ds p) (hsz : (DataW.weightsEach Try.prog [3, 23, 43] ds).all (· ≤ reachBytes) = true) :
    Calls Try.prog 14 args W fun e W' => e = .returned (.bool true) ∧ Below W.heap.size W W' := by
  obtain ⟨v0, vs0, d0, ds0, p0, q0, hargs, rfl, rfl, h0, r0⟩ := trodAll_cons hA
  obtain ⟨v1, vs1, d1, ds1, p1, q1, rfl, rfl, rfl, h1, r1⟩ := trodAll_cons r0
  obtain ⟨v2, vs2, d2, ds2, p2, q2, rfl, rfl, rfl, h2, r2⟩ := trodAll_cons r1
  obtain ⟨rfl, rfl, rfl⟩ := trodAll_nil r2
  obtain rfl : args = #[v0, v1, v2] := by cases args; simp_all
  obtain ⟨x, rfl, rfl, rfl, w0⟩ := open_int Try.underlying3 (hval 0 3 v0 rfl rfl) h0
  obtain ⟨A, n, c, es, rfl, hr, hb⟩ := open_edges (hval 1 23 v1 rfl rfl) h1
  obtain ⟨y, rfl⟩ := open_edge (hval 2 43 v2 rfl rfl) h2
  exact StrataMore_walk x A n c es y W hr (edges_bound hsz (j := 1) rfl rfl hb)

set_option maxRecDepth 100000 in
theorem StrataMore_lifted (os : Os) (started : os.Started) (H : Type) (enc : TypeId × Value → H) :
    ReturnsInHanded {} Try.checked os 14 .any (Rows.strataMoreSpec.pre6 enc Try.prog Try.f14 Rows.strataMoreRow.domain false) (Rows.strataMoreSpec.post enc Try.prog Try.f14 false true false false) :=
  law_lifted [3, 23, 43] os started H enc (by kernel_rfl) Try.func14 Try.params14 (by kernel_rfl) rfl
    (fun ds h => match ds, h with | [_, _, _], _ => ⟨rfl, rfl, rfl⟩) (by intro t ht; exact of_decide_eq_true (List.all_eq_true.1 (show [3, 23, 43].all (fun t => decide (Try.prog.readableRec t = true ∧ t < Try.prog.types.size)) = true by kernel_rfl) t ht))
    (ChangeSpec.witness6 (enc := enc) (C := Try.checked) false ⟨#[], #[.int .i64 0, .slice none 0 0, .agg #[.int .i64 0, .int .i64 0, .bool false, .int .i64 0]], []⟩ 8 (by kernel_rfl) (by kernel_rfl) (by kernel_rfl) (by kernel_rfl))
    (fun _ _ _ _ _ hv hA hs => StrataMore_calls hv hA hs)

theorem StrataMore_holds : Rows.StrataMoreSaid :=
  OpenClaim.holds_of_wide 14 Try.f14 rfl rfl rfl rfl rfl rfl rfl ⟨rfl, rfl, rfl, rfl, rfl⟩ rfl rfl rfl rfl rfl (by kernel_rfl) Try.func14 (by kernel_rfl)
    (of_decide_eq_true (by kernel_rfl)) (by unfold Func.isWrapper; first | (rw [if_pos (by decide +kernel)]; kernel_rfl) | (rw [if_neg (by decide +kernel)]; exact ⟨rfl, rfl⟩))
    (fun os started H enc _ => StrataMore_lifted os started H enc)
end Go.Proofs.Ytefpglaipnnggaa
