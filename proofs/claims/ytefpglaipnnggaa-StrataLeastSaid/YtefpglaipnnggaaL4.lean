/- StrataLeast: at any number and any edges the law answers true and its arguments read as before. No condition. -/
import Derived.Test.YtefpglaipnnggaaL3
import Derived.Test.YtefpglaipnnggaaB2
namespace Go.Proofs.Ytefpglaipnnggaa
open Go.ChangeShapes Go.WideShapes Go.ChangeAt Go.RowKit Go.Deep

theorem StrataLeast_calls {H : Type} {enc : TypeId × Value → H} {W : World} {base : Nat} {args : Array Value} {ds : List (DataW H)} {p : List MemPlace}
    (hval : ∀ (j : Nat) t v, ([3, 23] : List TypeId)[j]? = some t → args[j]? = some v → Value.okWide Try.prog W .any base t v)
    (hA : DataW.TrodAll enc Try.prog W 0 (fun _ => true) true [3, 23] args.toList ds p) (hsz : (DataW.weightsEach Try.prog [3, 23] ds).all (· ≤ reachBytes) = true) :
    Calls Try.prog 12 args W fun e W' => e = .returned (.bool true) ∧ Below W.heap.size W W' := by
  obtain ⟨v0, vs0, d0, ds0, p0, q0, hargs, rfl, rfl, h0, r0⟩ := trodAll_cons hA
  obtain ⟨v1, vs1, d1, ds1, p1, q1, rfl, rfl, rfl, h1, r1⟩ := trodAll_cons r0
  obtain ⟨rfl, rfl, rfl⟩ := trodAll_nil r1
  obtain rfl : args = #[v0, v1] := by cases args; simp_all
  obtain ⟨x, rfl, rfl, rfl, w0⟩ := open_int Try.underlying3 (hval 0 3 v0 rfl rfl) h0
  obtain ⟨A, n, c, es, rfl, hr, hb⟩ := open_edges (hval 1 23 v1 rfl rfl) h1
  exact StrataLeast_walk x A n c es W hr (edges_bound hsz (j := 1) rfl rfl hb)

set_option maxRecDepth 100000 in
theorem StrataLeast_lifted (os : Os) (started : os.Started) (H : Type) (enc : TypeId × Value → H) :
    ReturnsInHanded {} Try.checked os 12 .any (Rows.strataLeastSpec.pre6 enc Try.prog Try.f12 Rows.strataLeastRow.domain false) (Rows.strataLeastSpec.post enc Try.prog Try.f12 false true false false) :=
  law_lifted [3, 23] os started H enc (by kernel_rfl) Try.func12 Try.params12 (by kernel_rfl) rfl
    (fun ds h => match ds, h with | [_, _], _ => ⟨rfl, rfl, rfl⟩) (by intro t ht; exact of_decide_eq_true (List.all_eq_true.1 (show [3, 23].all (fun t => decide (Try.prog.readableRec t = true ∧ t < Try.prog.types.size)) = true by kernel_rfl) t ht))
    (ChangeSpec.witness6 (enc := enc) (C := Try.checked) false ⟨#[], #[.int .i64 0, .slice none 0 0], []⟩ 8 (by kernel_rfl) (by kernel_rfl) (by kernel_rfl) (by kernel_rfl))
    (fun _ _ _ _ _ hv hA hs => StrataLeast_calls hv hA hs)

theorem StrataLeast_holds : Rows.StrataLeastSaid :=
  OpenClaim.holds_of_wide 12 Try.f12 rfl rfl rfl rfl rfl rfl rfl ⟨rfl, rfl, rfl, rfl, rfl⟩ rfl rfl rfl rfl rfl (by kernel_rfl) Try.func12 (by kernel_rfl)
    (of_decide_eq_true (by kernel_rfl)) (by unfold Func.isWrapper; first | (rw [if_pos (by decide +kernel)]; kernel_rfl) | (rw [if_neg (by decide +kernel)]; exact ⟨rfl, rfl⟩))
    (fun os started H enc _ => StrataLeast_lifted os started H enc)
end Go.Proofs.Ytefpglaipnnggaa
