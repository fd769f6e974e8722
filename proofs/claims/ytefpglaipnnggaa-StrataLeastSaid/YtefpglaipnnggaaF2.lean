/- The law of the components: its walk. -/
import Derived.Test.YtefpglaipnnggaaF1
namespace Go.Proofs.Ytefpglaipnnggaa
open Go.RowKit

/-- What stands all along: the law's own edges, one more behind them. -/
structure SK (W w : World) (g cap m : Nat) (es : List E) : Prop where
  b : Below W.heap.size W w
  full : w.ownsRow W.heap.size 43 4 (.slice (some ⟨g, 0, none⟩) (m + 1) cap) (m + 1) (ecells es ++ E.cells ⟨-77, 0, false, 0⟩)
theorem SK.up {W w w' : World} {g cap m : Nat} {es : List E} (h : SK W w g cap m es) (hb : Below w.heap.size w w') : SK W w' g cap m es :=
  ⟨h.b.trans (hb.mono h.b.size), own_below h.full hb⟩
theorem SK.giv {W w : World} {g cap m : Nat} {es : List E} (h : SK W w g cap m es) (hl : es.length = m) : w.ownsRow W.heap.size 43 4 (.slice (some ⟨g, 0, none⟩) m cap) m (ecells es) :=
  (own_prefix h.full (by rw [ecells_length, hl])).1

theorem LL.rdl {w : World} {U c : Nat} {A : Option Addr} {vs : List Value} {ls : List (List Int)} (h : LL w U (.slice A ls.length c) vs ls) : RdL w A ls.length vs ls := by
  obtain ⟨A', c', e, hr⟩ := h.rd
  have hA : A = A' := by injection e
  rw [hA]; exact hr
/-- All that stands behind the four calls. -/
structure CB (W w : World) (g cap m : Nat) (es : List E) (AG : Option Addr) (cG : Nat) (vsG : List Value) (AA : Option Addr) (cA : Nat) (vsA : List Value) (AO : Option Addr) (cO : Nat) (vsO : List Value) (AW : Option Addr) (vsW : List Value) (ls lo : List (List Int)) : Prop where
  sk : SK W w g cap m es
  gg : LL w W.heap.size (.slice AG ls.length cG) vsG ls
  aa : LL w W.heap.size (.slice AA ls.length cA) vsA ls
  oo : LL w W.heap.size (.slice AO lo.length cO) vsO lo
  ww : RdL w AW ls.length vsW ls
theorem CB.up {W w w' : World} {g cap m : Nat} {es : List E} {AG : Option Addr} {cG : Nat} {vsG : List Value} {AA : Option Addr} {cA : Nat} {vsA : List Value} {AO : Option Addr} {cO : Nat} {vsO : List Value} {AW : Option Addr} {vsW : List Value} {ls lo : List (List Int)}
    (h : CB W w g cap m es AG cG vsG AA cA vsA AO cO vsO AW vsW ls lo) (hb : Below w.heap.size w w') : CB W w' g cap m es AG cG vsG AA cA vsA AO cO vsO AW vsW ls lo :=
  ⟨h.sk.up hb, h.gg.below hb, h.aa.below hb, h.oo.below hb, h.ww.up hb⟩

set_option maxRecDepth 20000 in
set_option maxHeartbeats 4000000 in
theorem StrataComponents_walk (x : Int) (A : Option Addr) (m c : Nat) (es : List E) (w : World) (hr : Rd w w.heap.size 4 A m (ecells es)) (hreach : m * 32 ≤ 140737488351232) :
    Calls Try.prog 6 #[.int .i64 x, .slice A m c] w fun e w' => e = .returned (.bool true) ∧ Below w.heap.size w w' := by
  obtain ⟨i0, hi, hz0, hz1, hz2⟩ := info_parts Try.info43
  obtain ⟨i1, hi', hz0', hz1', hz2'⟩ := info_parts Try.info37
  have HR := Lib.hid hr
  have HM := Lib.hid hreach
  have hlen : es.length = m := by have := hr.1; rw [ecells_length] at this; omega
  have HL := Lib.hid hlen
  have hmb := hr.2.1
  clear hr hreach hlen
  go_enter Try.func6, Try.ntmps6
  go_wp2_with fail
  refine (edges_any A m c es _ HR.out HM.out).mono ?_
  rintro e w1 ⟨v1, rfl, hown1, hb1⟩
  have HB1 := Lib.hid hb1
  have hm32 := HM.out
  have hs1 : w.heap.size ≤ w1.heap.size := hb1.size
  go_wp2_with (at_builtin; go_must (refine wpList_append_own _ rfl _ _ 23 rfl w.heap.size 43 i0 _ 4 32 Try.underlying23 hi hz0 hz1 hz2 rfl (by decide) _ _ _ rfl (hown1.alloc _) ⟨w1.heap.size, 0, none⟩ 1 1 (E.cells ⟨-77, 0, false, 0⟩) rfl rfl (fun j u h => new_cells _ _ _ j u h) (E.one _) (by unfold maxLen; omega) (by omega) (by simp; omega) ?_))
  intro v2 w2 hown2 hg2 _
  obtain ⟨g, cap, cur, rfl, hgb, hgB, _⟩ := own_blkd hown2 (by omega)
  have H2 : Hid (SK w w2 g cap m es) := Lib.hid ⟨(hb1.alloc hs1 _).grown hg2 (by simp; omega) (fun q hq => (hown1.lt q hq).1), hown2⟩
  obtain ⟨_, hcap, hcm⟩ := own_prefix hown2 (by rw [ecells_length, HL.out])
  have hcm2 : cap ≤ 9223372036854775807 := by unfold maxLen at hcm; omega
  have hcap2 : m ≤ cap := by omega
  clear hown2 hown1 hg2 hb1 hgB hcm
  go_wp2_with fail
  refine (refComps_all A m c x es _ (HR.out.up H2.out.b H2.out.b.size)).mono ?_
  rintro e w3 ⟨vW, vsW, ls, code, rfl, hb3, hL3, hC3⟩
  obtain ⟨AW, cW, rfl, hR3⟩ := hL3.rd
  have HCO := Lib.hid hC3
  have HRW := Lib.hid hR3
  have H3 := Lib.hid (H2.out.up hb3)
  clear hb3 hL3 hC3 hR3 H2 HB1
  go_wp2_with fail
  refine (progComps_all (some ⟨g, 0, none⟩) m cap x es _ (own_rd (H3.out.giv HL.out)) HM.out).mono ?_
  rintro e w4 ⟨vG, vsG, lsG, codeG, rfl, hb4, hL4, hC4⟩
  obtain ⟨e1, e2⟩ := hC4.unique HCO.out
  subst e1 e2
  obtain ⟨AG, cG, rfl, hR4⟩ := hL4.rd
  have HG := Lib.hid (hL4.le H3.out.b.size)
  have HRW := Lib.hid (HRW.out.up hb4)
  have H4 := Lib.hid (H3.out.up hb4)
  clear hb4 hL4 hC4 hR4 H3
  go_wp2_with fail
  have hal := (Below.refl w4.heap.size w4).alloc (Nat.le_refl _) (.cells #[.int .i64 0, .int .i64 1, .bool false, .int .i64 0] 43)
  have hlit := Rd_new w4 #[.int .i64 0, .int .i64 1, .bool false, .int .i64 0] 43 4 rfl
  have HG := Lib.hid (HG.out.below hal)
  have HRW := Lib.hid (HRW.out.up hal)
  have H5 := Lib.hid (H4.out.up hal)
  clear hal H4
  refine (progComps_all _ 1 1 3 [⟨0, 1, false, 0⟩] _ hlit (by decide)).mono ?_
  rintro e w6 ⟨vO, vsO, lsO, codeO, rfl, hb6, hL6, hC6⟩
  obtain ⟨ho3, rfl⟩ := three hC6
  obtain ⟨AO, cO, rfl, hR6⟩ := hL6.rd
  have HGO : Hid (∀ i j, (hi : i < vsG.length) → (hj : j < vsO.length) → ∀ q, vsG[i].ownBlock = some q → vsO[j].ownBlock ≠ some q) := Lib.hid fun i j hi hj q hq hq2 => by
    have h1 := ((HG.out.own i hi (by have := HG.out.len; omega)).lt q hq).2
    have h2 := ((hL6.own j hj (by have := hL6.len; omega)).lt q hq2).1
    omega
  have HO := Lib.hid (hL6.le H5.out.b.size)
  have HO3 := Lib.hid ho3
  have HCO3 := Lib.hid hC6.small
  have HG := Lib.hid (HG.out.below hb6)
  have HRW := Lib.hid (HRW.out.up hb6)
  have H6 := Lib.hid (H5.out.up hb6)
  clear hb6 hL6 hC6 hR6 H5 ho3 hlit
  go_wp2_with fail
  refine (progComps_all (some ⟨g, 0, none⟩) m cap x es _ (own_rd (H6.out.giv HL.out)) HM.out).mono ?_
  rintro e w7 ⟨vA, vsA, lsA, codeA, rfl, hb7, hL7, hC7⟩
  obtain ⟨e1, e2⟩ := hC7.unique HCO.out
  subst e1 e2
  obtain ⟨AA, cA, rfl, hR7⟩ := hL7.rd
  have HGA : Hid (∀ i j, (hi : i < vsG.length) → (hj : j < vsA.length) → ∀ q, vsG[i].ownBlock = some q → vsA[j].ownBlock ≠ some q) := Lib.hid fun i j hi hj q hq hq2 => by
    have h1 := ((HG.out.own i hi (by have := HG.out.len; omega)).lt q hq).2
    have h2 := ((hL7.own j hj (by have := hL7.len; omega)).lt q hq2).1
    omega
  have HOA : Hid (∀ i j, (hi : i < vsA.length) → (hj : j < vsO.length) → ∀ q, vsA[i].ownBlock = some q → vsO[j].ownBlock ≠ some q) := Lib.hid fun i j hi hj q hq hq2 => by
    have h1 := ((HO.out.own j hj (by have := HO.out.len; omega)).lt q hq2).2
    have h2 := ((hL7.own i hi (by have := hL7.len; omega)).lt q hq).1
    omega
  have HGR : Hid (∀ q, (Value.slice AG lsA.length cG).ownBlock = some q → (Value.slice AA lsA.length cA).ownBlock ≠ some q) := Lib.hid fun q hq hq2 => by
    have h1 := (HG.out.row.lt q hq).2
    have h2 := (hL7.row.lt q hq2).1
    omega
  have HA := Lib.hid (hL7.le H6.out.b.size)
  have HG := Lib.hid (HG.out.below hb7)
  have HO := Lib.hid (HO.out.below hb7)
  have HRW := Lib.hid (HRW.out.up hb7)
  have H7 := Lib.hid (H6.out.up hb7)
  clear hb7 hL7 hC7 hR7 H6
  have hcode : (codeA == codeA) = true := by simp
  have HC7 : Hid (CB w w7 g cap m es AG cG vsG AA cA vsA AO cO vsO AW vsW lsA lsO) := Lib.hid ⟨H7.out, HG.out, HA.out, HO.out, HRW.out⟩
  clear H7 HG HA HO HRW
  go_wp2_with fail
  refine (equalLists_same AG AW lsA.length cG cW vsG vsW lsA _ HC7.out.gg.rdl HC7.out.ww).mono ?_
  rintro e w8 ⟨rfl, q8, hq8⟩
  have HC8 := Lib.hid (HC7.out.up (w' := w8) (by rw [← hq8]; exact below_drewN (Below.refl _ _) q8))
  clear hq8 HC7
  go_wp2_with fail
  refine (equalLists_same AA AW lsA.length cA cW vsA vsW lsA _ HC8.out.aa.rdl HC8.out.ww).mono ?_
  rintro e w9 ⟨rfl, q9, hq9⟩
  have HC9 := Lib.hid (HC8.out.up (w' := w9) (by rw [← hq9]; exact below_drewN (Below.refl _ _) q9))
  clear hq9 HC8
  have hq2 : decide (es = es) = true := by simp
  go_wp2_with fail
  refine (equalEdges_any (some ⟨g, 0, none⟩) A m m cap c es es _ (own_rd (HC9.out.sk.giv HL.out)) (HR.out.up HC9.out.sk.b HC9.out.sk.b.size)).mono ?_
  rintro e wa ⟨rfl, qa, hqa⟩
  have HCa := Lib.hid (HC9.out.up (w' := wa) (by rw [← hqa]; exact below_drewN (Below.refl _ _) qa))
  clear hqa HC9
  have f77 : wa.cell? ⟨g, m * 4, none⟩ = some (.int .i64 (-77)) := by
    rw [HCa.out.sk.full.cellAt (m * 4) (by omega), List.getElem?_append_right (by rw [ecells_length, HL.out]; exact Nat.le_refl _), ecells_length, HL.out, Nat.sub_self]; rfl
  have hlo : lsO.length = 3 := HO3.out
  have hls := HCO.out.small.1
  generalize hZ : wa.heap.size = Z at *
  have HZ := Lib.hid hZ
  have HwZ : Hid (w.heap.size ≤ Z) := Lib.hid (by have := HCa.out.sk.b.size; omega)
  clear hZ
  have howns := World.ownsRow_nil wa Z 37 1
  go_wp2_with (at_builtin; go_must (refine wpList_append_all rfl _ _ 44 rfl Z 37 i1 _ 1 24 Try.underlying44 hi' hz0' hz1' hz2' rfl (by decide) _ 0 [] rfl howns AG lsA.length cG vsG rfl (own_nil0 HCa.out.gg.row) HCa.out.gg.rdl.rd HCa.out.gg.ls.one (by unfold maxLen; omega) (by omega) (by have := HZ.out; omega) ?_))
  intro vb wb hownb hgb'
  have hBb := (Below.refl Z wa).grown hgb' (Nat.le_of_eq HZ.out.symm) (fun q hq => by cases hq)
  have HBb := Lib.hid hBb
  have HCb := Lib.hid (HCa.out.up (by rw [HZ.out]; exact hBb))
  have hzb : Z ≤ wb.heap.size := by have := hBb.size; have := HZ.out; omega
  clear hgb' hBb howns f77
  go_wp2_with (at_builtin; go_must (refine wpList_append_all rfl _ _ 44 rfl Z 37 i1 _ 1 24 Try.underlying44 hi' hz0' hz1' hz2' rfl (by decide) _ lsA.length vsG rfl hownb AA lsA.length cA vsA rfl (own_nil0 HCb.out.aa.row) HCb.out.aa.rdl.rd HCb.out.aa.ls.one (by unfold maxLen; omega) (by omega) hzb ?_))
  intro vc wc hownc hgc
  have hBc := (Below.refl Z wb).grown hgc hzb (fun q hq => (hownb.lt q hq).1)
  have HBc := Lib.hid (HBb.out.trans hBc)
  have HCc := Lib.hid (HCa.out.up (by rw [HZ.out]; exact HBc.out))
  have hzc : Z ≤ wc.heap.size := by have := hBc.size; omega
  clear hgc hBc hownb hzb HBb HCb
  have hrdO := HCc.out.oo.rdl.rd
  rw [hlo] at hrdO
  go_wp2_with (at_builtin; go_must (refine wpList_append_all rfl _ _ 44 rfl Z 37 i1 _ 1 24 Try.underlying44 hi' hz0' hz1' hz2' rfl (by decide) _ (lsA.length + lsA.length) (vsG ++ vsA) rfl hownc AO 3 cO vsO rfl (own_nil0 HCc.out.oo.row) hrdO HCc.out.oo.ls.one (by unfold maxLen; omega) (by omega) hzc ?_))
  intro vd wd hownd hgd
  have hBd := (Below.refl Z wc).grown hgd hzc (fun q hq => (hownc.lt q hq).1)
  have HBd := Lib.hid (HBc.out.trans hBd)
  have HCd := Lib.hid (HCa.out.up (by rw [HZ.out]; exact HBd.out))
  clear hgd hBd hownc hzc HBc HCc hrdO
  obtain ⟨Ad, cd, rfl, _⟩ := own_slice hownd
  have HLS : Hid (LS wd w.heap.size ((vsG ++ vsA) ++ vsO) ((lsA ++ lsA) ++ lsO)) := Lib.hid (by
    have hl1 := HCd.out.gg.len
    refine (HCd.out.gg.ls.cat HCd.out.aa.ls HGA.out).cat HCd.out.oo.ls (fun i j hi hj q hq => ?_)
    by_cases e : i < vsG.length
    · rw [List.getElem_append_left e] at hq; exact HGO.out i j e hj q hq
    · rw [List.getElem_append_right (by omega)] at hq
      exact HOA.out _ j (by simp at hi; omega) hj q hq)
  have HLD : Hid (LL wd w.heap.size (.slice Ad (lsA.length + lsA.length + 3) cd) ((vsG ++ vsA) ++ vsO) ((lsA ++ lsA) ++ lsO)) := Lib.hid ⟨by
    have h := own_le hownd HwZ.out
    rw [← List.append_assoc] at h
    rw [List.length_append, List.length_append, hlo]; exact h, HLS.out.own, HLS.out.apart⟩
  clear hownd HLS
  go_wp2_with fail
  refine (alone_any w.heap.size Ad (lsA.length + lsA.length + 3) cd ((vsG ++ vsA) ++ vsO) ((lsA ++ lsA) ++ lsO) _ HLD.out (by rw [List.length_append, List.length_append, hlo]) (by omega) (fun l hl => by
    have h1 := HCO.out.small.2
    have h2 := HCO3.out.2
    rcases List.mem_append.1 hl with hl | hl
    · rcases List.mem_append.1 hl with hl | hl
      · have := (h1 l hl).2; omega
      · have := (h1 l hl).2; omega
    · have := (h2 l hl).2; omega) HCd.out.sk.b.size).mono ?_
  rintro e we ⟨rfl, hbe, hfe⟩
  have HBE := Lib.hid (HCd.out.sk.b.trans hbe)
  have HFU := Lib.hid (own_frg HCd.out.sk.full hfe (by decide))
  have HGG := Lib.hid (own_frg HCd.out.gg.row hfe (by decide))
  have HAA := Lib.hid (own_frg HCd.out.aa.row hfe (by decide))
  have HVS : Hid (∀ i, (h : i < vsA.length) → ∃ Ai ci k, vsA[i] = .slice Ai (k + 1) ci ∧ k ≤ 1000) := Lib.hid fun i h => by
    have hl := HCd.out.aa.len
    obtain ⟨Ai, ci, e, _⟩ := HCd.out.aa.rdl.at_ i h (by omega)
    have hs := HCO.out.small.2 _ (List.getElem_mem (show i < lsA.length by omega))
    exact ⟨Ai, ci, lsA[i].length - 1, by rw [e]; congr 1; omega, by omega⟩
  clear hbe hfe HCd HLD HCa HBd HGO HGA HOA HCO3 HO3
  go_wp2
  go_loopg [16] lsA.length (fun gk v wr => ∃ (i : Nat) (xs : List Value), v = .int .i64 i ∧ i ≤ lsA.length ∧ gk = lsA.length - i ∧ Hid (Below w.heap.size w wr) ∧ Hid (wr.ownsRow w.heap.size 43 4 (.slice (some ⟨g, 0, none⟩) (m + 1) cap) (m + 1) (ecells es ++ E.cells ⟨-77, 0, false, 0⟩)) ∧
    Hid (wr.ownsRow w.heap.size 37 1 (.slice AA lsA.length cA) lsA.length vsA) ∧ Hid (wr.ownsRow w.heap.size 37 1 (.slice AG lsA.length cG) lsA.length xs))
  case atStart => exact ⟨0, vsG, rfl, Nat.zero_le _, by omega, HBE, HFU, HAA, HGG⟩
  case round =>
    clear HBE HFU HAA HGG
    obtain ⟨i, xs, rfl, hi9, hgi, HBE, HFU, HAA, HGG⟩ := hrel
    have HK := Lib.hid hgi
    clear hgi
    generalize hLe : lsA.length = L at *
    have HLe := Lib.hid hLe
    clear hLe
    by_cases hlt : i < L
    · obtain ⟨gG, capG, curG, hv, hbG, hgG, _⟩ := own_blkd HGG.out (by omega)
      have hAG : AG = some ⟨gG, 0, none⟩ := by injection hv
      subst hAG
      clear hv
      have hxl : xs.length = L := by have := HGG.out.1; omega
      have y0 : wr.cell? ⟨gG, i, none⟩ = some xs[i] := by rw [HGG.out.cellAt i (by omega), List.getElem?_eq_getElem (by omega)]
      have z0 := HGG.out.frozenAt i
      have hst := HGG.out.stored i (.slice none 0 0)
      have HGG2 := Lib.hid hst.1
      have HBE2 := Lib.hid (HBE.out.setCell (p := ⟨gG, i, none⟩) hbG (.slice none 0 0))
      have HFU2 := Lib.hid (own_setCell_blk HFU.out hgG (by decide) i (.slice none 0 0))
      have HAA2 := Lib.hid (own_apart HAA.out hst.2 (HGR.out gG rfl))
      clear hst hgG
      generalize xs[i] = x0 at *
      go_upto_region 17 with (fail)
      clear HBE HFU HAA HGG y0 z0
      generalize World.setCell _ _ _ = wf at *
      go_wp2
      go_roundg (L - (i + 1))
      case measure => have := HK.out; omega
      case rel => exact ⟨i + 1, _, by go_num, by omega, rfl, HBE2, HFU2, HAA2, HGG2⟩
    · obtain rfl : i = L := by omega
      obtain ⟨wg, hwg⟩ : ∃ x, x = wr := ⟨wr, rfl⟩
      subst hwg
      have hal : vsA.length = i := by have := HAA.out.1; omega
      clear HK HGG
      go_wp2
      go_loopg [17] i (fun gk v wr => ∃ (j : Nat), v = .int .i64 j ∧ j ≤ i ∧ gk = i - j ∧ wr = wg)
      case atStart => exact ⟨0, rfl, Nat.zero_le _, by omega, rfl⟩
      case round =>
        obtain ⟨j, rfl, hj, hgj, hwr⟩ := hrel
        have HK := Lib.hid hgj
        clear hgj
        obtain rfl : wg = wr := hwr.symm
        by_cases hlt2 : j < i
        · obtain ⟨b, o, hA, hbb, hcc⟩ := (own_rd HAA.out).2.2 (by omega)
          have y0 := hcc j _ (List.getElem?_eq_getElem (by omega))
          obtain ⟨Ai, ci, k, hvk, hk⟩ := HVS.out j (by omega)
          rw [hvk] at y0
          subst hA
          have hk0 : (((k + 1 : Nat) : Int) == 0) = false := by simp; omega
          clear hcc hvk
          go_wp2
          go_roundg (i - (j + 1))
          case measure => have := HK.out; omega
          case rel => exact ⟨j + 1, by go_num, by omega, rfl, rfl⟩
        · obtain rfl : j = i := by omega
          have hgiv := (own_prefix HFU.out (by rw [ecells_length, HL.out])).1
          go_wp2_with fail
          refine (turn_any w.heap.size (some ⟨g, 0, none⟩) m cap es _ hgiv).mono ?_
          rintro e wh ⟨rfl, hownh, hgh⟩
          have HOH := Lib.hid hownh
          have HBH := Lib.hid (HBE.out.grown hgh HBE.out.size (fun q hq => (hgiv.lt q hq).1))
          clear hownh hgh hgiv HBE HFU HAA
          go_wp2_with fail
          refine (edges_sl (some ⟨g, 0, none⟩) m cap (es.map turnE) _ (own_rd HOH.out) HM.out).mono ?_
          rintro e wi ⟨Ai, ci, rfl, _, hrdi, hbi⟩
          have HOI := Lib.hid (own_below HOH.out hbi)
          have HBI := Lib.hid (HBH.out.trans (hbi.mono HBH.out.size))
          have HRI := Lib.hid hrdi
          clear hrdi hbi HOH HBH
          go_wp2_with fail
          refine (refComps_all Ai m ci x (es.map turnE) _ HRI.out).mono ?_
          rintro e wj ⟨vJ, vsJ, lsJ, codeJ, rfl, hbj, hLj, hCj⟩
          obtain ⟨AJ, cJ, rfl, hRj⟩ := hLj.rd
          have HCJ := Lib.hid hCj
          have HRJ := Lib.hid hRj
          have HOJ := Lib.hid (own_below HOI.out hbj)
          have HBJ := Lib.hid (HBI.out.trans (hbj.mono HBI.out.size))
          clear hbj hLj hCj hRj HOI HBI HRI
          go_wp2_with fail
          refine (progComps_all (some ⟨g, 0, none⟩) m cap x (es.map turnE) _ (own_rd HOJ.out) HM.out).mono ?_
          rintro e wk ⟨vK, vsK, lsK, codeK, rfl, hbk, hLk, hCk⟩
          obtain ⟨e1, e2⟩ := hCk.unique HCJ.out
          subst e1 e2
          obtain ⟨AK, cK, rfl, hRk⟩ := hLk.rd
          have HRK := Lib.hid hRk
          have HRJ := Lib.hid (HRJ.out.up hbk)
          have HBK := Lib.hid (HBJ.out.trans (hbk.mono HBJ.out.size))
          clear hbk hLk hCk hRk HOJ HBJ HCJ
          have hcode2 : (codeK == codeK) = true := by simp
          go_wp2_with fail
          refine (equalLists_same AK AJ lsK.length cK cJ vsK vsJ lsK _ HRK.out HRJ.out).mono ?_
          rintro e wl ⟨rfl, ql, hql⟩
          have HBL := Lib.hid (HBK.out.trans ((below_drewN (Below.refl _ _) ql).mono HBK.out.size))
          rw [hql] at HBL
          clear hql
          go_wp2
          go_ret
          exact ⟨rfl, HBL.out⟩
end Go.Proofs.Ytefpglaipnnggaa
