/- StrataHolds: at any number, any edges and any levels the law answers true and its arguments read as before. No condition. -/
import Derived.Test.YtefpglaipnnggaaB1
namespace Go.Proofs.Ytefpglaipnnggaa
open Go.ChangeShapes Go.WideShapes Go.ChangeAt Go.RowKit Go.Deep

theorem edges_bound {H : Type} {ts : List TypeId} {ds : List (DataW H)} (h : (DataW.weightsEach Try.prog ts ds).all (· ≤ reachBytes) = true) {j n : Nat} {d : DataW H} (ht : ts[j]? = some 23) (hd : ds[j]? = some d)
    (hn : n = 0 ∨ ∃ el sp, d = .slice el sp ∧ el.length = n) : n * 32 ≤ 140737488351232 := by
  rcases hn with rfl | ⟨el, sp, rfl, rfl⟩
  · omega
  · have := sized_slice h ht hd Try.underlying23
    rw [show Try.prog.bytesOf 43 = 32 by kernel_rfl] at this
    simp only [reachBytes] at this
    omega

theorem ints_bound {H : Type} {ts : List TypeId} {ds : List (DataW H)} (h : (DataW.weightsEach Try.prog ts ds).all (· ≤ reachBytes) = true) {j n : Nat} {d : DataW H} (ht : ts[j]? = some 37) (hd : ds[j]? = some d)
    (hn : n = 0 ∨ ∃ el sp, d = .slice el sp ∧ el.length = n) : n * 8 ≤ 140737488351232 := by
  rcases hn with rfl | ⟨el, sp, rfl, rfl⟩
  · omega
  · have := sized_slice h ht hd Try.underlying37
    rw [show Try.prog.bytesOf 3 = 8 by kernel_rfl] at this
    simp only [reachBytes] at this
    omega

theorem StrataHolds_calls {H : Type} {enc : TypeId × Value → H} {W : World} {base : Nat} {args : Array Value} {ds : List (DataW H)} {p : List MemPlace}
    (hval : ∀ (j : Nat) t v, ([3, 23, 37] : List TypeId)[j]? = some t → args[j]? = some v → Value.okWide Try.prog W .any base t v)
    (hA : DataW.TrodAll enc Try.prog W 0 (fun _ => true) true [3, 23, 37] args.toList ds p) (hsz : (DataW.weightsEach Try.prog [3, 23, 37] ds).all (· ≤ reachBytes) = true) :
    Calls Try.prog 4 args W fun e W' => e = .returned (.bool true) ∧ Below W.heap.size W W' := by
  obtain ⟨v0, vs0, d0, ds0, p0, q0, hargs, rfl, rfl, h0, r0⟩ := trodAll_cons hA
  obtain ⟨v1, vs1, d1, ds1, p1, q1, rfl, rfl, rfl, h1, r1⟩ := trodAll_cons r0
  obtain ⟨v2, vs2, d2, ds2, p2, q2, rfl, rfl, rfl, h2, r2⟩ := trodAll_cons r1
  obtain ⟨rfl, rfl, rfl⟩ := trodAll_nil r2
  obtain rfl : args = #[v0, v1, v2] := by cases args; simp_all
  obtain ⟨x, rfl, rfl, rfl, w0⟩ := open_int Try.underlying3 (hval 0 3 v0 rfl rfl) h0
  obtain ⟨A, n, c, es, rfl, hr, hb⟩ := open_edges (hval 1 23 v1 rfl rfl) h1
  obtain ⟨A', m, c', ls, rfl, hr', _, hb'⟩ := open_islice (hval 2 37 v2 rfl rfl) h2
  exact StrataHolds_walk x A A' n c m c' es ls W hr hr' (edges_bound hsz (j := 1) rfl rfl hb) (ints_bound hsz (j := 2) rfl rfl hb')

theorem trodAll_length {H : Type} {enc : TypeId × Value → H} {P : Program} {w : World} {base : Nat} {sp : Nat → Bool} {held : Bool} :
    ∀ {ts : List TypeId} {vs : List Value} {ds : List (DataW H)} {ps : List MemPlace}, DataW.TrodAll enc P w base sp held ts vs ds ps → ds.length = ts.length
  | [], _, _, _, h => by obtain ⟨_, rfl, _⟩ := trodAll_nil h; rfl
  | t :: ts, _, _, _, h => by
    obtain ⟨v, vs, d, ds, p, q, rfl, rfl, rfl, h1, h2⟩ := trodAll_cons h
    simp [trodAll_length h2]

theorem law_lifted {F : FuncId} {fn : Func} {s : ChangeSpec} (ts : List TypeId) (os : Os) (started : os.Started) (H : Type) (enc : TypeId × Value → H)
    (noInit : Try.prog.inits.idxOf? F = none) (hfn : Try.prog.funcs[F]? = some fn) (hp : fn.params = ts.toArray) (hrt : fn.resultTypes = #[4]) (hv : s.vars = [])
    (hs : ∀ ds : List (DataW H), ds.length = ts.length → (s.fn H (ds ++ [])).results = [.lit (.bool true)] ∧ (s.fn H (ds ++ [])).args = ds ∧ (s.fn H (ds ++ [])).vars = [])
    (hts : ∀ t ∈ ts, Try.prog.readableRec t = true ∧ t < Try.prog.types.size)
    (witness : ∃ (w : World) (tape : Tape) (i : Input), w.os = os ∧ (w.forCall tape i).Shaped Try.prog ∧ i.vars = [] ∧ Input.okWide Try.prog (w.forCall tape i) .any w.heap.size F i ∧
      s.pre6 enc Try.prog fn [] false (w.forCall tape i).memory i.args ∧ ({} : Assume).holds Try.prog (lone (Frame.enter Try.prog F i.args .normal) [] (w.forCall tape i)))
    (calls : ∀ (W : World) (base : Nat) (args : Array Value) (ds : List (DataW H)) (p : List MemPlace),
      (∀ (j : Nat) t v, ts[j]? = some t → args[j]? = some v → Value.okWide Try.prog W .any base t v) → DataW.TrodAll enc Try.prog W 0 (fun _ => true) true ts args.toList ds p →
      (DataW.weightsEach Try.prog ts ds).all (· ≤ reachBytes) = true → Calls Try.prog F args W fun e W' => e = .returned (.bool true) ∧ Below W.heap.size W W') :
    ReturnsInHanded {} Try.checked os F .any (s.pre6 enc Try.prog fn [] false) (s.post enc Try.prog fn false true false false) := by
  refine returnsInHanded_of_change_sized (C := Try.checked) Try.own started noInit hfn witness ?_
  intro W base args ds gs before hval0 hW0 _ hsz0 _
  have hval : ∀ (j : Nat) t v, fn.params[j]? = some t → args[j]? = some v → Value.okWide Try.prog W .any base t v := hval0
  have hW : DataW.Whole enc Try.prog fn.params.toList s.vars false W args.toList ds gs before := hW0
  have hsz : (DataW.weightsEach Try.prog (fn.params.toList ++ s.plain.varTypes Try.prog) (ds ++ gs)).all (· ≤ reachBytes) = true := hsz0
  clear hval0 hW0 hsz0
  have hW' := hW
  obtain ⟨p, q, hA, hV, rfl, _, _⟩ := hW
  rw [hv] at hV
  obtain ⟨rfl, rfl⟩ := trodVars_none hV
  have hvt : s.plain.varTypes Try.prog = [] := by
    simp [DataSpec.varTypes, ChangeSpec.plain, hv]
  rw [hvt, List.append_nil, List.append_nil, hp] at hsz
  rw [hp] at hA hval
  have hlen := trodAll_length hA
  obtain ⟨h1, h2, h3⟩ := hs ds (by simpa using hlen)
  refine (calls W base args ds p (fun j t v ht hv => hval j t v (by simpa using ht) hv) (by simpa using hA) (by simpa using hsz)).mono fun e W' ⟨he, hb⟩ => ?_
  subst he
  exact ⟨_, rfl, law_post 4 Try.laidOut (by rw [hp]; intro t ht; exact hts t (by simpa using ht)) hv hrt Try.underlying4 h1 h2 h3 hW' hb⟩

set_option maxRecDepth 100000 in
theorem StrataHolds_lifted (os : Os) (started : os.Started) (H : Type) (enc : TypeId × Value → H) :
    ReturnsInHanded {} Try.checked os 4 .any (Rows.strataHoldsSpec.pre6 enc Try.prog Try.f4 Rows.strataHoldsRow.domain false) (Rows.strataHoldsSpec.post enc Try.prog Try.f4 false true false false) :=
  law_lifted [3, 23, 37] os started H enc (by kernel_rfl) Try.func4 Try.params4 (by kernel_rfl) rfl
    (fun ds h => match ds, h with | [_, _, _], _ => ⟨rfl, rfl, rfl⟩) (by intro t ht; exact of_decide_eq_true (List.all_eq_true.1 (show [3, 23, 37].all (fun t => decide (Try.prog.readableRec t = true ∧ t < Try.prog.types.size)) = true by kernel_rfl) t ht))
    (ChangeSpec.witness6 (enc := enc) (C := Try.checked) false ⟨#[], #[.int .i64 0, .slice none 0 0, .slice none 0 0], []⟩ 8 (by kernel_rfl) (by kernel_rfl) (by kernel_rfl) (by kernel_rfl))
    (fun _ _ _ _ _ hv hA hs => StrataHolds_calls hv hA hs)

theorem StrataHolds_holds : Rows.StrataHoldsSaid :=
  OpenClaim.holds_of_wide 4 Try.f4 rfl rfl rfl rfl rfl rfl rfl ⟨rfl, rfl, rfl, rfl, rfl⟩ rfl rfl rfl rfl rfl (by kernel_rfl) Try.func4 (by kernel_rfl)
    (of_decide_eq_true (by kernel_rfl)) (by unfold Func.isWrapper; first | (rw [if_pos (by decide +kernel)]; kernel_rfl) | (rw [if_neg (by decide +kernel)]; exact ⟨rfl, rfl⟩))
    (fun os started H enc _ => StrataHolds_lifted os started H enc)
end Go.Proofs.Ytefpglaipnnggaa
