/- LintTexts, where what it reads is of bulk at most 1048576: at any text and any findings the law answers true and its arguments read as before; and its card. Conditions: the bound on the bulk, and the tables that the card ties to the text. -/
import Derived.Test.YtjcgkplphiedjaaDoorA9
import Derived.Test.YtjcgkplphiedjaaDoorTie
import Derived.Test.YtjcgkplphiedjaaDoorCards
import Derived.SevenTiedAt
import Derived.RowKitTokens
import Derived.ChangeMaps5
namespace Go.Proofs.YtjcgkplphiedjaaDoor
open Go.ChangeShapes Go.WideShapes Go.ChangeAt Go.RowKit Go.Deep

set_option maxRecDepth 100000 in
theorem LintTexts_calls {H : Type} {enc : TypeId × Value → H} {W : World} {base : Nat} {args : Array Value} {ds : List (DataW H)} {p : List MemPlace}
    (hval : ∀ (j : Nat) t v, ([9, 22] : List TypeId)[j]? = some t → args[j]? = some v → Value.okWide Tryd.prog W .any base t v)
    (hA : DataW.TrodAll enc Tryd.prog W 0 (fun _ => true) true [9, 22] args.toList ds p) (hk : Rows.uptoBulkAll ds ≤ 1048576) (hpow : Pow W) :
    Calls Tryd.prog 3 args W fun e W' => e = .returned (.bool true) ∧ Below W.heap.size W W' := by
  obtain ⟨v0, vs0, d0, ds0, p0, q0, hargs, rfl, rfl, h0, r0⟩ := trodAll_cons hA
  obtain ⟨v1, vs1, d1, ds1, p1, q1, rfl, rfl, rfl, h1, r1⟩ := trodAll_cons r0
  obtain ⟨rfl, rfl, rfl⟩ := trodAll_nil r1
  obtain rfl : args = #[v0, v1] := by cases args; simp_all
  simp only [Rows.uptoBulkAll] at hk
  obtain ⟨A, n, c, fs, rfl, hr, hAn, hok, hn⟩ := open_findings (hval 1 22 v1 rfl rfl) h1 (by omega)
  obtain ⟨src, rfl, rfl, _, _⟩ := ChangeMaps.open_string Tryd.underlying9 (hval 0 9 v0 rfl rfl) h0
  simp only [Rows.uptoBulk] at hk
  exact LintTexts_walk A n c src fs W hr hAn hok (by omega) (by rw [toList_size, ByteArray.toList_eq]; omega) hpow

set_option maxRecDepth 100000 in
theorem law_upto_laid {F : FuncId} {fn : Func} {s : ChangeSpec} {laid : List (String × DataW Unit)} (ts : List TypeId) (os : Os) (started : os.Started) (H : Type) (enc : TypeId × Value → H) (Fi : Stop.Interp)
    (noInit : Tryd.prog.inits.idxOf? F = none) (hfn : Tryd.prog.funcs[F]? = some fn) (hp : fn.params = ts.toArray) (hrt : fn.resultTypes = #[4]) (hv : s.vars = [])
    (hs : ∀ ds : List (DataW H), ds.length = ts.length → (s.fn H (ds ++ [])).results = [.lit (.bool true)] ∧ (s.fn H (ds ++ [])).args = ds ∧ (s.fn H (ds ++ [])).vars = [])
    (hts : ∀ t ∈ ts, Tryd.prog.readableRec t = true ∧ t < Tryd.prog.types.size)
    (witness : ∃ (w : World) (tape : Tape) (i : Input), w.os = os ∧ (w.forCall tape i).Shaped Tryd.prog ∧ i.vars = [] ∧ Input.okWide Tryd.prog (w.forCall tape i) .any w.heap.size F i ∧
      (Rows.OpenSpec.upto s).preRow enc Tryd.prog fn [] false laid (w.forCall tape i).memory i.args ∧ ({} : Assume).holds Tryd.prog (lone (Frame.enter Tryd.prog F i.args .normal) [] (w.forCall tape i)))
    (calls : ∀ (W : World) (base : Nat) (args : Array Value) (ds : List (DataW H)) (p : List MemPlace),
      (∀ (j : Nat) t v, ts[j]? = some t → args[j]? = some v → Value.okWide Tryd.prog W .any base t v) → DataW.TrodAll enc Tryd.prog W 0 (fun _ => true) true ts args.toList ds p →
      Rows.uptoBulkAll ds ≤ 1048576 → laidMetH Tryd.prog laid W → Calls Tryd.prog F args W fun e W' => e = .returned (.bool true) ∧ Below W.heap.size W W') :
    ReturnsInHanded {} Tryd.checked os F .any ((Rows.OpenSpec.upto s).preRow enc Tryd.prog fn [] false laid) (((Rows.OpenSpec.upto s).at Fi).post enc Tryd.prog fn false true false false) := by
  refine returnsInHanded_of_calls Tryd.own started noInit witness ?_
  intro w tape i _ _ _ hok hpre _
  obtain ⟨_, _, _, fn', hfn', _, _, _, _, hval⟩ := hok
  have e : fn' = fn := Option.some.inj (hfn'.symm.trans hfn)
  subst e
  obtain ⟨⟨hpp, hl⟩, _⟩ := hpre
  obtain ⟨ds, gs, before, hw, hc, hk⟩ := OpenSpec.pre_parts hpp
  have hW : DataW.Whole enc Tryd.prog fn'.params.toList s.vars false (w.forCall tape i) i.args.toList ds gs before := DataW.Whole.of_heap (w' := w.forCall tape i) (by rfl) hw
  have hL : laidMetH Tryd.prog laid (w.forCall tape i) := hl.of_heap (by rfl)
  have hk := hk Rows.uptoSmall rfl
  clear hw hc hl
  generalize w.forCall tape i = W at *
  have hW' := hW
  obtain ⟨p, q, hA, hV, rfl, _, _⟩ := hW
  rw [hv] at hV
  obtain ⟨rfl, rfl⟩ := trodVars_none hV
  rw [List.append_nil] at hk
  have hk2 : Rows.uptoBulkAll ds ≤ 1048576 := of_decide_eq_true hk
  rw [hp] at hA hval
  have hlen := trodAll_length hA
  obtain ⟨h1, h2, h3⟩ := hs ds (by simpa using hlen)
  refine (calls W _ i.args ds p (fun j t v ht hv => hval j t v (by simpa using ht) hv) (by simpa using hA) hk2 hL).mono fun e W' ⟨he, hb⟩ => ?_
  subst he
  exact ChangeSpec.post_blind (law_post 4 Tryd.laidOut (by rw [hp]; intro t ht; exact hts t (by simpa using ht)) hv hrt Tryd.underlying4 h1 h2 h3 hW' hb)

theorem door_met (os : Os) (args : Array Value) : laidMetH Tryd.prog Rows.lintTextsUptoRow.laid ((World.doorLaid Tryd.prog 400 os).forCall (fun _ _ => 0) ⟨#[], args, []⟩).memory := by
  rw [MakeChecks.laidMetH_plain _ _ _ (by kernel_rfl)]
  exact laidMet_of_run' 8 (by kernel_rfl) (by kernel_rfl)

set_option maxRecDepth 100000 in
theorem texts_witness (os : Os) (H : Type) (enc : TypeId × Value → H) : ∃ (w : World) (tape : Tape) (i : Input), w.os = os ∧ (w.forCall tape i).Shaped Tryd.prog ∧ i.vars = [] ∧ Input.okWide Tryd.prog (w.forCall tape i) .any w.heap.size 3 i ∧
      (Rows.OpenSpec.upto Rows.lintTextsSpec).preRow enc Tryd.prog Tryd.f3 [] false Rows.lintTextsUptoRow.laid (w.forCall tape i).memory i.args ∧ ({} : Assume).holds Tryd.prog (lone (Frame.enter Tryd.prog 3 i.args .normal) [] (w.forCall tape i)) :=
  have hok : Input.okWideB Tryd.prog ((World.doorLaid Tryd.prog 400 os).forCall (fun _ _ => 0) ⟨#[], #[.string ⟨#[]⟩, .slice none 0 0], []⟩) 3 ⟨#[], #[.string ⟨#[]⟩, .slice none 0 0], []⟩ = true := by kernel_rfl
  ⟨World.doorLaid Tryd.prog 400 os, fun _ _ => 0, ⟨#[], #[.string ⟨#[]⟩, .slice none 0 0], []⟩, rfl, World.shaped_of_RefB (by kernel_rfl) (by kernel_rfl), (Input.okWide_of_okWideB (base := 0) hok).1, (Input.okWide_of_okWideB hok).2,
    OpenSpec.preRow_of_cond 8 (x := ([.lit (.string []), .nil], [], [])) (by kernel_rfl) rfl (fun k hk => by
      obtain rfl : Rows.uptoSmall = k := Option.some.inj hk
      rfl) (by kernel_rfl) (door_met os _), by
    simp [Assume.holds]⟩

set_option maxRecDepth 100000 in
theorem LintTexts_lifted (os : Os) (started : os.Started) (H : Type) (enc : TypeId × Value → H) (F : Stop.Interp) :
    ReturnsInHanded {} Tryd.checked os 3 .any ((Rows.OpenSpec.upto Rows.lintTextsSpec).preRow enc Tryd.prog Tryd.f3 [] false Rows.lintTextsUptoRow.laid) (((Rows.OpenSpec.upto Rows.lintTextsSpec).at F).post enc Tryd.prog Tryd.f3 false true false false) :=
  law_upto_laid [9, 22] os started H enc F (by kernel_rfl) Tryd.func3 Tryd.params3 (by kernel_rfl) rfl
    (fun ds h => match ds, h with | [_, _], _ => ⟨rfl, rfl, rfl⟩) (by intro t ht; exact of_decide_eq_true (List.all_eq_true.1 (show [9, 22].all (fun t => decide (Tryd.prog.readableRec t = true ∧ t < Tryd.prog.types.size)) = true by kernel_rfl) t ht))
    (texts_witness os H enc)
    (fun _ _ _ _ _ hv hA hs hL => LintTexts_calls hv hA hs (pow_of_laid hL))

theorem LintTextsUptoRow_holds : Rows.LintTextsUptoSaid :=
  OpenClaim.holds_of_cond 3 Tryd.f3 rfl rfl rfl rfl rfl rfl rfl ⟨rfl, rfl, rfl, rfl, rfl⟩ rfl rfl rfl rfl rfl (by kernel_rfl) Tryd.func3 (by kernel_rfl)
    (of_decide_eq_true (by kernel_rfl)) (by unfold Func.isWrapper; first | (rw [if_pos (by decide +kernel)]; kernel_rfl) | (rw [if_neg (by decide +kernel)]; exact ⟨rfl, rfl⟩))
    (fun os started H enc _ F => LintTexts_lifted os started H enc F)

theorem LintTextsUptoCard_holds : Rows.LintTextsUptoCardSaid :=
  Claim7.holds_tied_plain_at .later [] [.data, .data, .data] true (true, "0ec2d29c7cdb701243066266e4c56323d85303fc0af23e5f52ecadc383c61015") false
    LintTextsUptoRow_holds (fun _ h => by cases h) (by kernel_rfl) (fun _ h => by cases h) lintTextsUpto_row_tie rfl ⟨rfl, rfl⟩ (by kernel_rfl) rfl
    (fun f fn hf hfn => by
      obtain rfl : f = 3 := Option.some.inj ((show Tryd.prog.funcNamed "edict/edictlaw18.LintTexts" = some 3 by kernel_rfl).symm.trans hf) |>.symm
      obtain rfl : fn = Tryd.f3 := (Option.some.inj (Tryd.func3.symm.trans hfn)).symm
      exact ⟨by kernel_rfl, fun j t ht => by
        rw [Tryd.params3] at ht
        have hm : t ∈ [9, 22] := by simpa using Array.mem_of_getElem? ht
        have hall : ([9, 22].all fun u => !Tryd.prog.wantsStandIn u) = true := by kernel_rfl
        exact (show Tryd.prog.wantsStandIn t = false by simpa using List.all_eq_true.1 hall t hm)⟩)
    (by kernel_rfl)
end Go.Proofs.YtjcgkplphiedjaaDoor
