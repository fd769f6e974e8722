/- LintAgain: whatever the input the law answers true and its argument reads as before. No condition. -/
import Derived.Test.YtjcgkplphiedjaaHn
import Derived.Test.YtjcgkplphiedjaaHh
namespace Go.Proofs.Ytjcgkplphiedjaa
open Go.ChangeShapes Go.WideShapes Go.ChangeAt Go.RowKit Go.Deep

set_option maxRecDepth 100000 in
theorem LintAgain_calls {H : Type} {enc : TypeId × Value → H} {W : World} {base : Nat} {args : Array Value} {ds : List (DataW H)} {p : List MemPlace}
    (hval : ∀ (j : Nat) t v, ([37, 3, 3] : List TypeId)[j]? = some t → args[j]? = some v → Value.okWide Try.prog W .any base t v)
    (hA : DataW.TrodAll enc Try.prog W 0 (fun _ => true) true [37, 3, 3] args.toList ds p) (hsz : (DataW.weightsEach Try.prog [37, 3, 3] ds).all (· ≤ reachBytes) = true) :
    Calls Try.prog 5 args W fun e W' => e = .returned (.bool true) ∧ Below W.heap.size W W' := by
  obtain ⟨v0, vs0, d0, ds0, p0, q0, hargs, rfl, rfl, h0, r0⟩ := trodAll_cons hA
  obtain ⟨v1, vs1, d1, ds1, p1, q1, rfl, rfl, rfl, _, r1⟩ := trodAll_cons r0
  obtain ⟨v2, vs2, d2, ds2, p2, q2, rfl, rfl, rfl, _, r2⟩ := trodAll_cons r1
  obtain ⟨rfl, rfl, rfl⟩ := trodAll_nil r2
  obtain rfl : args = #[v0, v1, v2] := by cases args; simp_all
  have hall : ∀ n ∈ DataW.weights Try.prog 37 d0, n ≤ reachBytes := fun n hn => by
    have := List.all_eq_true.1 hsz n (DataW.weights_mem_each (j := 0) rfl rfl n hn)
    simpa using this
  obtain ⟨A, n, c, cs, rfl, hr, hok, hn⟩ := open_progW (hval 0 37 v0 rfl rfl) h0 hall
  obtain ⟨kin, rfl⟩ := okWide_int Try.underlying3 (hval 1 3 v1 rfl rfl)
  obtain ⟨off, rfl⟩ := okWide_int Try.underlying3 (hval 2 3 v2 rfl rfl)
  exact LintAgain_walk A n c kin off cs W hr (fun x hx => (hok x hx).1) (fun x hx => (hok x hx).2.1)

set_option maxRecDepth 100000 in
theorem LintAgain_lifted (os : Os) (started : os.Started) (H : Type) (enc : TypeId × Value → H) :
    ReturnsInHanded {} Try.checked os 5 .any (Rows.lintAgainSpec.pre6 enc Try.prog Try.f5 Rows.lintAgainRow.domain false) (Rows.lintAgainSpec.post enc Try.prog Try.f5 false true false false) :=
  law_lifted [37, 3, 3] os started H enc (by kernel_rfl) Try.func5 Try.params5 (by kernel_rfl) rfl
    (fun ds h => match ds, h with | [_, _, _], _ => ⟨rfl, rfl, rfl⟩) (by intro t ht; exact of_decide_eq_true (List.all_eq_true.1 (show [37, 3, 3].all (fun t => decide (Try.prog.readableRec t = true ∧ t < Try.prog.types.size)) = true by kernel_rfl) t ht))
    (ChangeSpec.witness6 (enc := enc) (C := Try.checked) false ⟨#[], #[.agg #[.slice none 0 0], .int .i64 0, .int .i64 0], []⟩ 8 (by kernel_rfl) (by kernel_rfl) (by kernel_rfl) (by kernel_rfl))
    (fun _ _ _ _ _ hv hA hs => LintAgain_calls hv hA hs)

theorem LintAgain_holds : Rows.LintAgainSaid :=
  OpenClaim.holds_of_wide 5 Try.f5 rfl rfl rfl rfl rfl rfl rfl ⟨rfl, rfl, rfl, rfl, rfl⟩ rfl rfl rfl rfl rfl (by kernel_rfl) Try.func5 (by kernel_rfl)
    (of_decide_eq_true (by kernel_rfl)) (by unfold Func.isWrapper; first | (rw [if_pos (by decide +kernel)]; kernel_rfl) | (rw [if_neg (by decide +kernel)]; exact ⟨rfl, rfl⟩))
    (fun os started H enc _ => LintAgain_lifted os started H enc)
end Go.Proofs.Ytjcgkplphiedjaa
