/- WhyDepths, where what it reads is of bulk at most 1048576: at any lines the law answers true and its arguments read as before; and its card. Conditions: the bound on the bulk, and the tables that the card ties to the text. -/
import Derived.Test.YtjcgkplphiedjaaDoorTH32
import Derived.Test.YtjcgkplphiedjaaDoorTH30
import Derived.Test.YtjcgkplphiedjaaDoorA10
namespace Go.Proofs.YtjcgkplphiedjaaDoor
open Go.ChangeShapes Go.WideShapes Go.ChangeAt Go.RowKit Go.Deep

theorem pow_of_laid4 {W : World} (h : laidMetH Tryd.prog Rows.whyDepthsUptoRow.laid W) : Pow W := by
  rw [MakeChecks.laidMetH_plain _ _ _ (by kernel_rfl)] at h
  have h2 := laidMet.tail (laidMet.tail h)
  exact Lib.tabIs_of_head (g := 1) (t := 155) (e := 143) (n := 20) (by kernel_rfl) (by kernel_rfl) (by kernel_rfl) (by kernel_rfl) (by kernel_rfl) (by kernel_rfl) h2

set_option maxRecDepth 100000 in
theorem WhyDepths_calls {H : Type} {enc : TypeId × Value → H} {W : World} {base : Nat} {args : Array Value} {ds : List (DataW H)} {p : List MemPlace}
    (hval : ∀ (j : Nat) t v, ([25] : List TypeId)[j]? = some t → args[j]? = some v → Value.okWide Tryd.prog W .any base t v)
    (hA : DataW.TrodAll enc Tryd.prog W 0 (fun _ => true) true [25] args.toList ds p) (hk : Rows.uptoBulkAll ds ≤ 1048576) (hpow : Pow W) :
    Calls Tryd.prog 4 args W fun e W' => e = .returned (.bool true) ∧ Below W.heap.size W W' := by
  obtain ⟨v0, vs0, d0, ds0, p0, q0, hargs, rfl, rfl, h0, r0⟩ := trodAll_cons hA
  obtain ⟨rfl, rfl, rfl⟩ := trodAll_nil r0
  obtain rfl : args = #[v0] := by cases args; simp_all
  simp only [Rows.uptoBulkAll] at hk
  obtain ⟨a0, len, cap, rfl⟩ := okWide_slice Tryd.underlying25 (hval 0 25 v0 rfl rfl)
  obtain ⟨fuel, hf⟩ := h0
  have hf' : DataW.trod enc Tryd.prog W 0 (fun _ => true) true fuel 25 [.slice a0 len cap] = some (d0, p0) := hf
  obtain ⟨A, n, c, ls, e, hr, _, hok, hn, hw⟩ := YtjcgkplphiedjaaDoorT.open_lines hf' (by show Rows.uptoBulk d0 ≤ _; omega)
  simp only [Value.slice.injEq] at e
  obtain ⟨rfl, rfl, rfl⟩ := e
  exact YtjcgkplphiedjaaDoorT.WhyDepths_walk a0 len cap ls W hr hok hn hw hpow

theorem door_met4 (os : Os) (args : Array Value) : laidMetH Tryd.prog Rows.whyDepthsUptoRow.laid ((World.doorLaid Tryd.prog 400 os).forCall (fun _ _ => 0) ⟨#[], args, []⟩).memory := by
  rw [MakeChecks.laidMetH_plain _ _ _ (by kernel_rfl)]
  exact laidMet_of_run' 8 (by kernel_rfl) (by kernel_rfl)

set_option maxRecDepth 100000 in
theorem depths_witness (os : Os) (H : Type) (enc : TypeId × Value → H) : ∃ (w : World) (tape : Tape) (i : Input), w.os = os ∧ (w.forCall tape i).Shaped Tryd.prog ∧ i.vars = [] ∧ Input.okWide Tryd.prog (w.forCall tape i) .any w.heap.size 4 i ∧
      (Rows.OpenSpec.upto Rows.whyDepthsSpec).preRow enc Tryd.prog Tryd.f4 [] false Rows.whyDepthsUptoRow.laid (w.forCall tape i).memory i.args ∧ ({} : Assume).holds Tryd.prog (lone (Frame.enter Tryd.prog 4 i.args .normal) [] (w.forCall tape i)) :=
  have hok : Input.okWideB Tryd.prog ((World.doorLaid Tryd.prog 400 os).forCall (fun _ _ => 0) ⟨#[], #[.slice none 0 0], []⟩) 4 ⟨#[], #[.slice none 0 0], []⟩ = true := by kernel_rfl
  ⟨World.doorLaid Tryd.prog 400 os, fun _ _ => 0, ⟨#[], #[.slice none 0 0], []⟩, rfl, World.shaped_of_RefB (by kernel_rfl) (by kernel_rfl), (Input.okWide_of_okWideB (base := 0) hok).1, (Input.okWide_of_okWideB hok).2,
    OpenSpec.preRow_of_cond 8 (x := ([.nil], [], [])) (by kernel_rfl) rfl (fun k hk => by
      obtain rfl : Rows.uptoSmall = k := Option.some.inj hk
      rfl) (by kernel_rfl) (door_met4 os _), by
    simp [Assume.holds]⟩

set_option maxRecDepth 100000 in
theorem WhyDepths_lifted (os : Os) (started : os.Started) (H : Type) (enc : TypeId × Value → H) (F : Stop.Interp) :
    ReturnsInHanded {} Tryd.checked os 4 .any ((Rows.OpenSpec.upto Rows.whyDepthsSpec).preRow enc Tryd.prog Tryd.f4 [] false Rows.whyDepthsUptoRow.laid) (((Rows.OpenSpec.upto Rows.whyDepthsSpec).at F).post enc Tryd.prog Tryd.f4 false true false false) :=
  law_upto_laid [25] os started H enc F (by kernel_rfl) Tryd.func4 Tryd.params4 (by kernel_rfl) rfl
    (fun ds h => match ds, h with | [_], _ => ⟨rfl, rfl, rfl⟩) (by intro t ht; exact of_decide_eq_true (List.all_eq_true.1 (show [25].all (fun t => decide (Tryd.prog.readableRec t = true ∧ t < Tryd.prog.types.size)) = true by kernel_rfl) t ht))
    (depths_witness os H enc)
    (fun _ _ _ _ _ hv hA hs hL => WhyDepths_calls hv hA hs (pow_of_laid4 hL))

theorem WhyDepthsUptoRow_holds : Rows.WhyDepthsUptoSaid :=
  OpenClaim.holds_of_cond 4 Tryd.f4 rfl rfl rfl rfl rfl rfl rfl ⟨rfl, rfl, rfl, rfl, rfl⟩ rfl rfl rfl rfl rfl (by kernel_rfl) Tryd.func4 (by kernel_rfl)
    (of_decide_eq_true (by kernel_rfl)) (by unfold Func.isWrapper; first | (rw [if_pos (by decide +kernel)]; kernel_rfl) | (rw [if_neg (by decide +kernel)]; exact ⟨rfl, rfl⟩))
    (fun os started H enc _ F => WhyDepths_lifted os started H enc F)

theorem WhyDepthsUptoCard_holds : Rows.WhyDepthsUptoCardSaid :=
  Claim7.holds_tied_plain_at .later [] [.data, .data, .data] true (true, "0ec2d29c7cdb701243066266e4c56323d85303fc0af23e5f52ecadc383c61015") false
    WhyDepthsUptoRow_holds (fun _ h => by cases h) (by kernel_rfl) (fun _ h => by cases h) whyDepthsUpto_row_tie rfl ⟨rfl, rfl⟩ (by kernel_rfl) rfl
    (fun f fn hf hfn => by
      obtain rfl : f = 4 := Option.some.inj ((show Tryd.prog.funcNamed "edict/edictlaw16.WhyDepths" = some 4 by kernel_rfl).symm.trans hf) |>.symm
      obtain rfl : fn = Tryd.f4 := (Option.some.inj (Tryd.func4.symm.trans hfn)).symm
      exact ⟨by kernel_rfl, fun j t ht => by
        rw [Tryd.params4] at ht
        have hm : t ∈ [25] := by simpa using Array.mem_of_getElem? ht
        have hall : ([25].all fun u => !Tryd.prog.wantsStandIn u) = true := by kernel_rfl
        exact (show Tryd.prog.wantsStandIn t = false by simpa using List.all_eq_true.1 hall t hm)⟩)
    (by kernel_rfl)
end Go.Proofs.YtjcgkplphiedjaaDoor
