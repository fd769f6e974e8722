/- WhyChecks, where what it reads is of bulk at most 1048576: at any core, memory and lines the law answers true and its arguments read as before; and its card. Conditions: the bound on the bulk, and the tables that the card ties to the text. -/
import Derived.Test.YtjcgkplphiedjaaDoorTG41
import Derived.Test.YtjcgkplphiedjaaDoorA10
import Derived.PinnedBridge
import Derived.Lay
namespace Go.Proofs.YtjcgkplphiedjaaDoor
open Go.ChangeShapes Go.WideShapes Go.ChangeAt Go.RowKit Go.Deep

theorem tables_of_laid5 {W : World} (h : laidMetH Tryd.prog Rows.whyChecksUptoRow.laid W) : YtjcgkplphiedjaaDoorT.Tabs Lib.goPrintTabs W ∧ Pow W := by
  rw [MakeChecks.laidMetH_plain _ _ _ (by kernel_rfl)] at h
  have h2 := laidMet.tail (laidMet.tail h)
  have h3 := laidMet.tail h2
  have h4 := laidMet.tail h3
  have h5 := laidMet.tail h4
  have h6 := laidMet.tail h5
  have h7 := laidMet.tail h6
  have h8 := laidMet.tail h7
  have h9 := laidMet.tail h8
  have hp : Pow W := Lib.tabIs_of_head (g := 1) (t := 155) (e := 143) (n := 20) (by kernel_rfl) (by kernel_rfl) (by kernel_rfl) (by kernel_rfl) (by kernel_rfl) (by kernel_rfl) h2
  have a3 := Lib.laidMet.reads h3 (.head _)
  have a5 := Lib.laidMet.reads h5 (.head _)
  have a6 := Lib.laidMet.reads h6 (.head _)
  have a7 := Lib.laidMet.reads h7 (.head _)
  have a8 := Lib.laidMet.reads h8 (.head _)
  have a9 := Lib.laidMet.reads h9 (.head _)
  have e3 : (Rows.laid_unicode_utf8_acceptRanges : DataW Unit) = Lib.acceptData := by kernel_rfl
  have e5 : Rows.laid_strconv_isNotPrint16 = Lib.sliceData .u16 Lib.goPrintTabs.n16 := Pinned.isNotPrint16_eq
  have e6 : Rows.laid_strconv_isNotPrint32 = Lib.sliceData .u16 Lib.goPrintTabs.n32 := Pinned.isNotPrint32_eq
  have e7 : Rows.laid_strconv_isPrint16 = Lib.sliceData .u16 Lib.goPrintTabs.p16 := Pinned.isPrint16_eq
  have e8 : Rows.laid_strconv_isPrint32 = Lib.sliceData .u32 Lib.goPrintTabs.p32 := Pinned.isPrint32_eq
  have e9 : Rows.laid_unicode_utf8_first = Lib.firstData := Pinned.utf8First_eq
  rw [e3] at a3
  rw [e5] at a5
  rw [e6] at a6
  rw [e7] at a7
  rw [e8] at a8
  rw [e9] at a9
  exact ⟨⟨printTabs_of_reads (ρ := Tryd.lays177_ren) { Tryd.lays177 with } ⟨by kernel_rfl, by kernel_rfl, by kernel_rfl, by kernel_rfl, by kernel_rfl, by kernel_rfl, by kernel_rfl, by kernel_rfl, by kernel_rfl, by kernel_rfl⟩ a7 a5 a8 a6,
    utf8Tabs_of_reads (ρ := Tryd.lays177_ren) { Tryd.lays177 with } ⟨by kernel_rfl, by kernel_rfl, by kernel_rfl, by kernel_rfl, by kernel_rfl, by kernel_rfl, by kernel_rfl⟩ a9 a3⟩, hp⟩

set_option maxRecDepth 100000 in
theorem WhyChecks_calls {H : Type} {enc : TypeId × Value → H} {W : World} {base : Nat} {args : Array Value} {ds : List (DataW H)} {p : List MemPlace}
    (hval : ∀ (j : Nat) t v, ([40, 41, 25] : List TypeId)[j]? = some t → args[j]? = some v → Value.okWide Tryd.prog W .any base t v)
    (hA : DataW.TrodAll enc Tryd.prog W 0 (fun _ => true) true [40, 41, 25] args.toList ds p) (hk : Rows.uptoBulkAll ds ≤ 1048576) (ht : YtjcgkplphiedjaaDoorT.Tabs Lib.goPrintTabs W) (hpow : Pow W) :
    Calls Tryd.prog 5 args W fun e W' => e = .returned (.bool true) ∧ Below W.heap.size W W' := by
  obtain ⟨v0, vs0, d0, ds0, p0, q0, hargs, rfl, rfl, h0, r0⟩ := trodAll_cons hA
  obtain ⟨v1, vs1, d1, ds1, p1, q1, rfl, rfl, rfl, h1, r1⟩ := trodAll_cons r0
  obtain ⟨v2, vs2, d2, ds2, p2, q2, rfl, rfl, rfl, h2, r2⟩ := trodAll_cons r1
  obtain ⟨rfl, rfl, rfl⟩ := trodAll_nil r2
  obtain rfl : args = #[v0, v1, v2] := by cases args; simp_all
  simp only [Rows.uptoBulkAll] at hk
  obtain ⟨cs, rfl, hsz⟩ := okWide_struct Tryd.underlying40 (hval 0 40 v0 rfl rfl)
  obtain ⟨a1, len1, cap1, rfl⟩ := okWide_slice Tryd.underlying41 (hval 1 41 v1 rfl rfl)
  obtain ⟨a2, len2, cap2, rfl⟩ := okWide_slice Tryd.underlying25 (hval 2 25 v2 rfl rfl)
  obtain ⟨f0, g0⟩ := h0
  obtain ⟨f1, g1⟩ := h1
  obtain ⟨f2, g2⟩ := h2
  have g0' : DataW.trod enc Tryd.prog W 0 (fun _ => true) true f0 40 cs.toList = some (d0, p0) := g0
  have g1' : DataW.trod enc Tryd.prog W 0 (fun _ => true) true f1 41 [.slice a1 len1 cap1] = some (d1, p1) := g1
  have g2' : DataW.trod enc Tryd.prog W 0 (fun _ => true) true f2 25 [.slice a2 len2 cap2] = some (d2, p2) := g2
  have hc4 : cs.size = 4 := hsz.trans (by kernel_rfl)
  obtain ⟨x, hx, hxo, hxf, hxn, hxs⟩ := YtjcgkplphiedjaaDoorT.open_coreK (by simpa using hc4) g0' (by show Rows.uptoBulk d0 ≤ _; omega)
  obtain ⟨M, m, mc, ms, e1, hm, _, hms, hmb⟩ := YtjcgkplphiedjaaDoorT.open_factsK g1' (by show Rows.uptoBulk d1 ≤ _; omega)
  obtain ⟨A, n, c, ls, e2, hr, _, hls, hn⟩ := YtjcgkplphiedjaaDoorT.open_linesK g2' (by show Rows.uptoBulk d2 ≤ _; omega)
  simp only [Value.slice.injEq] at e1 e2
  obtain ⟨rfl, rfl, rfl⟩ := e1
  obtain ⟨rfl, rfl, rfl⟩ := e2
  obtain rfl : cs = x.cells.toArray := by rw [← hx]
  exact YtjcgkplphiedjaaDoorT.WhyChecks_walk Lib.goPrintTabs x a1 len1 cap1 ms a2 len2 cap2 ls W hxo hxf hxn hxs hm (fun y hy => ⟨⟨(hms y hy).1, (hms y hy).2.1⟩, (hms y hy).2⟩) (by omega) hr hls (by omega) ht hpow

set_option maxRecDepth 1000000 in
theorem laid_met5 (os : Os) (args : Array Value) : laidMetH Tryd.prog Rows.whyChecksUptoRow.laid ((World.laidAll Tryd.prog os Rows.whyChecksUptoRow.laid).forCall (fun _ _ => 0) ⟨#[], args, []⟩).memory := by
  rw [MakeChecks.laidMetH_plain _ _ _ (by kernel_rfl)]
  exact laidMet_laidAll _ (by kernel_rfl) (by kernel_rfl)

def chArgs : Array Value := #[.agg #[.slice none 0 0, .slice none 0 0, .slice none 0 0, .slice none 0 0], .slice none 0 0, .slice none 0 0]

set_option maxRecDepth 1000000 in
theorem checks_witness (os : Os) (H : Type) (enc : TypeId × Value → H) : ∃ (w : World) (tape : Tape) (i : Input), w.os = os ∧ (w.forCall tape i).Shaped Tryd.prog ∧ i.vars = [] ∧ Input.okWide Tryd.prog (w.forCall tape i) .any w.heap.size 5 i ∧
      (Rows.OpenSpec.upto Rows.whyChecksSpec).preRow enc Tryd.prog Tryd.f5 [] false Rows.whyChecksUptoRow.laid (w.forCall tape i).memory i.args ∧ ({} : Assume).holds Tryd.prog (lone (Frame.enter Tryd.prog 5 i.args .normal) [] (w.forCall tape i)) :=
  have hok : Input.okWideB Tryd.prog ((World.laidAll Tryd.prog os Rows.whyChecksUptoRow.laid).forCall (fun _ _ => 0) ⟨#[], chArgs, []⟩) 5 ⟨#[], chArgs, []⟩ = true := by kernel_rfl
  ⟨World.laidAll Tryd.prog os Rows.whyChecksUptoRow.laid, fun _ _ => 0, ⟨#[], chArgs, []⟩, World.laidAll_os _ _ _, World.shaped_of_ZipB (by kernel_rfl) (by kernel_rfl), rfl, (Input.okWide_of_okWideB hok).2,
    OpenSpec.preRow_of_cond 8 (x := ([.agg [.nil, .nil, .nil, .nil], .nil, .nil], [], [])) (by kernel_rfl) rfl (fun k hk => by
      obtain rfl : Rows.uptoSmall = k := Option.some.inj hk
      rfl) (by kernel_rfl) (laid_met5 os _), by
    simp [Assume.holds]⟩

set_option maxRecDepth 100000 in
theorem WhyChecks_lifted (os : Os) (started : os.Started) (H : Type) (enc : TypeId × Value → H) (F : Stop.Interp) :
    ReturnsInHanded {} Tryd.checked os 5 .any ((Rows.OpenSpec.upto Rows.whyChecksSpec).preRow enc Tryd.prog Tryd.f5 [] false Rows.whyChecksUptoRow.laid) (((Rows.OpenSpec.upto Rows.whyChecksSpec).at F).post enc Tryd.prog Tryd.f5 false true false false) :=
  law_upto_laid [40, 41, 25] os started H enc F (by kernel_rfl) Tryd.func5 Tryd.params5 (by kernel_rfl) rfl
    (fun ds h => match ds, h with | [_, _, _], _ => ⟨rfl, rfl, rfl⟩) (by intro t ht; exact of_decide_eq_true (List.all_eq_true.1 (show [40, 41, 25].all (fun t => decide (Tryd.prog.readableRec t = true ∧ t < Tryd.prog.types.size)) = true by kernel_rfl) t ht))
    (checks_witness os H enc)
    (fun _ _ _ _ _ hv hA hs hL => WhyChecks_calls hv hA hs (tables_of_laid5 hL).1 (tables_of_laid5 hL).2)

theorem WhyChecksUptoRow_holds : Rows.WhyChecksUptoSaid :=
  OpenClaim.holds_of_cond 5 Tryd.f5 rfl rfl rfl rfl rfl rfl rfl ⟨rfl, rfl, rfl, rfl, rfl⟩ rfl rfl rfl rfl rfl (by kernel_rfl) Tryd.func5 (by kernel_rfl)
    (of_decide_eq_true (by kernel_rfl)) (by unfold Func.isWrapper; first | (rw [if_pos (by decide +kernel)]; kernel_rfl) | (rw [if_neg (by decide +kernel)]; exact ⟨rfl, rfl⟩))
    (fun os started H enc _ F => WhyChecks_lifted os started H enc F)

theorem WhyChecksUptoCard_holds : Rows.WhyChecksUptoCardSaid :=
  Claim7.holds_tied_plain_at .later [] [.data, .data, .data, .data, .pinned, .pinned, .pinned, .pinned, .pinned, .pinned] true (true, "0ec2d29c7cdb701243066266e4c56323d85303fc0af23e5f52ecadc383c61015") false
    WhyChecksUptoRow_holds (fun _ h => by cases h) (by kernel_rfl) (fun _ h => by cases h) whyChecksUpto_row_tie rfl ⟨rfl, rfl⟩ (by kernel_rfl) rfl
    (fun f fn hf hfn => by
      obtain rfl : f = 5 := Option.some.inj ((show Tryd.prog.funcNamed "edict/edictlaw16.WhyChecks" = some 5 by kernel_rfl).symm.trans hf) |>.symm
      obtain rfl : fn = Tryd.f5 := (Option.some.inj (Tryd.func5.symm.trans hfn)).symm
      exact ⟨by kernel_rfl, fun j t ht => by
        rw [Tryd.params5] at ht
        have hm : t ∈ [40, 41, 25] := by simpa using Array.mem_of_getElem? ht
        have hall : ([40, 41, 25].all fun u => !Tryd.prog.wantsStandIn u) = true := by kernel_rfl
        exact (show Tryd.prog.wantsStandIn t = false by simpa using List.all_eq_true.1 hall t hm)⟩)
    (by kernel_rfl)
end Go.Proofs.YtjcgkplphiedjaaDoor
