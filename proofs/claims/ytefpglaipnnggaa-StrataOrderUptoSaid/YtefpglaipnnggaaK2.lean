/- StrataOrder, where what it reads is of bulk at most 1048576. Condition: the bound on the bulk, nothing else. -/
import Derived.Test.YtefpglaipnnggaaK1
import Derived.Test.YtefpglaipnnggaaD8
namespace Go.Proofs.Ytefpglaipnnggaa
open Go.ChangeShapes Go.WideShapes Go.ChangeAt Go.RowKit Go.Deep

theorem bulk_count {H : Type} {d : DataW H} {n : Nat} (h : n = 0 ∨ ∃ el sp, d = .slice el sp ∧ el.length = n) : n ≤ Rows.uptoBulk d := by
  rcases h with rfl | ⟨el, sp, rfl, rfl⟩
  · omega
  · have h1 := bulk_slice el sp
    have h2 := bulk_length el
    omega

theorem StrataOrder_calls {H : Type} {enc : TypeId × Value → H} {W : World} {base : Nat} {args : Array Value} {ds : List (DataW H)} {p : List MemPlace}
    (hval : ∀ (j : Nat) t v, ([3, 23, 37] : List TypeId)[j]? = some t → args[j]? = some v → Value.okWide Try.prog W .any base t v)
    (hA : DataW.TrodAll enc Try.prog W 0 (fun _ => true) true [3, 23, 37] args.toList ds p) (hk : Rows.uptoBulkAll ds ≤ 1048576) :
    Calls Try.prog 10 args W fun e W' => e = .returned (.bool true) ∧ Below W.heap.size W W' := by
  obtain ⟨v0, vs0, d0, ds0, p0, q0, hargs, rfl, rfl, h0, r0⟩ := trodAll_cons hA
  obtain ⟨v1, vs1, d1, ds1, p1, q1, rfl, rfl, rfl, h1, r1⟩ := trodAll_cons r0
  obtain ⟨v2, vs2, d2, ds2, p2, q2, rfl, rfl, rfl, h2, r2⟩ := trodAll_cons r1
  obtain ⟨rfl, rfl, rfl⟩ := trodAll_nil r2
  obtain rfl : args = #[v0, v1, v2] := by cases args; simp_all
  obtain ⟨x, rfl, rfl, rfl, w0⟩ := open_int Try.underlying3 (hval 0 3 v0 rfl rfl) h0
  obtain ⟨A, n, c, es, rfl, hr, hb⟩ := open_edges (hval 1 23 v1 rfl rfl) h1
  obtain ⟨A', m, c', ls, rfl, hr', _, hb'⟩ := open_islice (hval 2 37 v2 rfl rfl) h2
  have b1 := bulk_count hb
  have b2 := bulk_count hb'
  simp only [Rows.uptoBulkAll] at hk
  exact StrataOrder_walk x A A' n c m c' es ls W hr hr' (by omega) (by omega)

set_option maxRecDepth 100000 in
theorem StrataOrder_lifted (os : Os) (started : os.Started) (H : Type) (enc : TypeId × Value → H) (F : Stop.Interp) :
    ReturnsInHanded {} Try.checked os 10 .any ((Rows.OpenSpec.upto Rows.strataOrderSpec).pre6 enc Try.prog Try.f10 Rows.strataOrderUptoRow.domain false) (((Rows.OpenSpec.upto Rows.strataOrderSpec).at F).post enc Try.prog Try.f10 false true false false) :=
  law_upto [3, 23, 37] os started H enc F (by kernel_rfl) Try.func10 Try.params10 (by kernel_rfl) rfl
    (fun ds h => match ds, h with | [_, _, _], _ => ⟨rfl, rfl, rfl⟩) (by intro t ht; exact of_decide_eq_true (List.all_eq_true.1 (show [3, 23, 37].all (fun t => decide (Try.prog.readableRec t = true ∧ t < Try.prog.types.size)) = true by kernel_rfl) t ht))
    (OpenSpec.witness (enc := enc) (C := Try.checked) (s := Rows.OpenSpec.upto Rows.strataOrderSpec) (k := Rows.uptoSmall) rfl false ⟨#[], #[.int .i64 0, .slice none 0 0, .slice none 0 0], []⟩ 8 (by kernel_rfl) (by kernel_rfl) (by kernel_rfl)
      (x := ([.lit (.int .i64 0), .nil, .nil], [], [])) (by kernel_rfl) rfl (by kernel_rfl))
    (fun _ _ _ _ _ hv hA hs => StrataOrder_calls hv hA hs)

theorem StrataOrderUpto_holds : Rows.StrataOrderUptoSaid :=
  OpenClaim.holds_of_cond 10 Try.f10 rfl rfl rfl rfl rfl rfl rfl ⟨rfl, rfl, rfl, rfl, rfl⟩ rfl rfl rfl rfl rfl (by kernel_rfl) Try.func10 (by kernel_rfl)
    (of_decide_eq_true (by kernel_rfl)) (by unfold Func.isWrapper; first | (rw [if_pos (by decide +kernel)]; kernel_rfl) | (rw [if_neg (by decide +kernel)]; exact ⟨rfl, rfl⟩))
    (fun os started H enc _ F => StrataOrder_lifted os started H enc F)
end Go.Proofs.Ytefpglaipnnggaa
