/- The law of the levels: its walk. -/
import Derived.Test.YtefpglaipnnggaaH4
import Derived.Test.YtefpglaipnnggaaF2
namespace Go.Proofs.Ytefpglaipnnggaa
open Go.RowKit

theorem two {l : List Int} {code : Int} (h : Levs 2 [⟨0, 1, true, 0⟩] l code) : l = [0, 1] ∧ code = 0 := by
  have hf : Fits 2 [⟨0, 1, true, 0⟩] := ⟨by omega, by omega, fun e he => by rw [List.mem_singleton.1 he]; unfold okE; dsimp only; omega⟩
  have hl : LeastL 2 [⟨0, 1, true, 0⟩] [0, 1] := by
    refine ⟨rfl, ⟨fun v hv => ?_, fun e he => ?_⟩, fun M hM v hv => ?_⟩
    · have h1 := hv.1
      have h2 := hv.2
      have : v = 0 ∨ v = 1 := by omega
      rcases this with rfl | rfl <;> simp [lv]
    · rw [List.mem_singleton.1 he]; simp [lv, stp]
    · have h1 := hv.1
      have h2 := hv.2
      have h3 := hM.2 ⟨0, 1, true, 0⟩ (by simp)
      have h4 := hM.1 0 ⟨by omega, by omega⟩
      simp only [stp, if_true] at h3
      have : v = 0 ∨ v = 1 := by omega
      rcases this with rfl | rfl
      · show lv [0, 1] 0 ≤ M 0
        simpa [lv] using h4
      · show lv [0, 1] 1 ≤ M 1
        have : lv [0, 1] 1 = 1 := rfl
        omega
  exact h.unique (.inl ⟨2, rfl, hf, hl, rfl⟩)

/-- All that stands behind the four calls. -/
structure CV (W w : World) (g cap m : Nat) (es : List E) (AG : Option Addr) (cG : Nat) (AA : Option Addr) (cA : Nat) (AO : Option Addr) (cO : Nat) (AW : Option Addr) (l : List Int) : Prop where
  sk : SK W w g cap m es
  gg : w.ownsRow W.heap.size 3 1 (.slice AG l.length cG) l.length (icells l)
  aa : w.ownsRow W.heap.size 3 1 (.slice AA l.length cA) l.length (icells l)
  oo : w.ownsRow W.heap.size 3 1 (.slice AO 2 cO) 2 (icells [0, 1])
  ww : Rd w w.heap.size 1 AW l.length (icells l)
theorem CV.up {W w w' : World} {g cap m : Nat} {es : List E} {AG : Option Addr} {cG : Nat} {AA : Option Addr} {cA : Nat} {AO : Option Addr} {cO : Nat} {AW : Option Addr} {l : List Int}
    (h : CV W w g cap m es AG cG AA cA AO cO AW l) (hb : Below w.heap.size w w') : CV W w' g cap m es AG cG AA cA AO cO AW l :=
  ⟨h.sk.up hb, own_below h.gg hb, own_below h.aa hb, own_below h.oo hb, h.ww.up hb hb.size⟩

set_option maxRecDepth 20000 in
set_option maxHeartbeats 4000000 in
theorem StrataLevels_walk (x : Int) (A : Option Addr) (m c : Nat) (es : List E) (w : World) (hr : Rd w w.heap.size 4 A m (ecells es)) (hreach : m * 32 ≤ 140737488351232) :
    Calls Try.prog 9 #[.int .i64 x, .slice A m c] w fun e w' => e = .returned (.bool true) ∧ Below w.heap.size w w' := by
  obtain ⟨i0, hi, hz0, hz1, hz2⟩ := info_parts Try.info43
  have HR := Lib.hid hr
  have HM := Lib.hid hreach
  have hlen : es.length = m := by have := hr.1; rw [ecells_length] at this; omega
  have HL := Lib.hid hlen
  have hmb := hr.2.1
  clear hr hreach hlen
  go_enter Try.func9, Try.ntmps9
  go_wp2_with fail
  refine (edges_any A m c es _ HR.out HM.out).mono ?_
  rintro e w1 ⟨v1, rfl, hown1, hb1⟩
  have hm32 := HM.out
  have hs1 : w.heap.size ≤ w1.heap.size := hb1.size
  go_wp2_with (at_builtin; go_must (refine wpList_append_own _ rfl _ _ 23 rfl w.heap.size 43 i0 _ 4 32 Try.underlying23 hi hz0 hz1 hz2 rfl (by decide) _ _ _ rfl (hown1.alloc _) ⟨w1.heap.size, 0, none⟩ 1 1 (E.cells ⟨-77, 0, false, 0⟩) rfl rfl (fun j u h => new_cells _ _ _ j u h) (E.one _) (by unfold maxLen; omega) (by omega) (by simp; omega) ?_))
  intro v2 w2 hown2 hg2 _
  obtain ⟨g, cap, cur, rfl, hgb, hgB, _⟩ := own_blkd hown2 (by omega)
  have H2 : Hid (SK w w2 g cap m es) := Lib.hid ⟨(hb1.alloc hs1 _).grown hg2 (by simp; omega) (fun q hq => (hown1.lt q hq).1), hown2⟩
  obtain ⟨_, hcap, hcm⟩ := own_prefix hown2 (by rw [ecells_length, HL.out])
  have hcm2 : cap ≤ 9223372036854775807 := by unfold maxLen at hcm; omega
  have hcap2 : m ≤ cap := by omega
  clear hown2 hown1 hg2 hb1 hgB hcm
  go_wp2_with fail
  refine (refLevels_all A m c x es _ (HR.out.up H2.out.b H2.out.b.size)).mono ?_
  rintro e w3 ⟨vW, l, code, rfl, hb3, hL3, hC3⟩
  obtain ⟨AW, cW, rfl, hR3⟩ := own_slice hL3
  have HCO := Lib.hid hC3
  have HRW := Lib.hid hR3
  have H3 := Lib.hid (H2.out.up hb3)
  clear hb3 hL3 hC3 hR3 H2
  go_wp2_with fail
  refine (progLevels_all (some ⟨g, 0, none⟩) m cap x es _ (own_rd (H3.out.giv HL.out)) HM.out).mono ?_
  rintro e w4 ⟨vG, lG, codeG, rfl, hb4, hL4, hC4⟩
  obtain ⟨e1, e2⟩ := hC4.unique HCO.out
  subst e1 e2
  obtain ⟨AG, cG, rfl, _⟩ := own_slice hL4
  have HG4 := Lib.hid (own_le hL4 H3.out.b.size)
  have HW4 := Lib.hid (HRW.out.up hb4 hb4.size)
  have H4 := Lib.hid (H3.out.up hb4)
  clear hb4 hL4 hC4 H3 HRW
  go_wp2_with fail
  have hal := (Below.refl w4.heap.size w4).alloc (Nat.le_refl _) (.cells #[.int .i64 0, .int .i64 1, .bool true, .int .i64 0] 43)
  have hlit := Rd_new w4 #[.int .i64 0, .int .i64 1, .bool true, .int .i64 0] 43 4 rfl
  have HG5 := Lib.hid (own_below HG4.out hal)
  have HW5 := Lib.hid (HW4.out.up hal hal.size)
  have H5 := Lib.hid (H4.out.up hal)
  clear hal H4 HG4 HW4
  refine (progLevels_all _ 1 1 2 [⟨0, 1, true, 0⟩] _ hlit (by decide)).mono ?_
  rintro e w6 ⟨vO, lO, codeO, rfl, hb6, hL6, hC6⟩
  obtain ⟨rfl, rfl⟩ := two hC6
  obtain ⟨AO, cO, rfl, _⟩ := own_slice hL6
  have HGO : Hid (∀ q, (Value.slice AG lG.length cG).ownBlock = some q → (Value.slice AO ([0, 1] : List Int).length cO).ownBlock ≠ some q) := Lib.hid fun q hq hq2 => by
    have h1 := (HG5.out.lt q hq).2
    have h2 := (hL6.lt q hq2).1
    omega
  have HO6 := Lib.hid (own_le hL6 H5.out.b.size)
  have HG6 := Lib.hid (own_below HG5.out hb6)
  have HW6 := Lib.hid (HW5.out.up hb6 hb6.size)
  have H6 := Lib.hid (H5.out.up hb6)
  clear hb6 hL6 hC6 H5 hlit HG5 HW5
  go_wp2_with fail
  refine (progLevels_all (some ⟨g, 0, none⟩) m cap x es _ (own_rd (H6.out.giv HL.out)) HM.out).mono ?_
  rintro e w7 ⟨vA, lA, codeA, rfl, hb7, hL7, hC7⟩
  obtain ⟨e1, e2⟩ := hC7.unique HCO.out
  subst e1 e2
  obtain ⟨AA, cA, rfl, _⟩ := own_slice hL7
  have HGA : Hid (∀ q, (Value.slice AG lA.length cG).ownBlock = some q → (Value.slice AA lA.length cA).ownBlock ≠ some q) := Lib.hid fun q hq hq2 => by
    have h1 := (HG6.out.lt q hq).2
    have h2 := (hL7.lt q hq2).1
    omega
  have HOA : Hid (∀ q, (Value.slice AO 2 cO).ownBlock = some q → (Value.slice AA lA.length cA).ownBlock ≠ some q) := Lib.hid fun q hq hq2 => by
    have h1 := (HO6.out.lt q hq).2
    have h2 := (hL7.lt q hq2).1
    omega
  have HC7 : Hid (CV w w7 g cap m es AG cG AA cA AO cO AW lA) := Lib.hid ⟨H6.out.up hb7, own_below HG6.out hb7, own_le hL7 H6.out.b.size, own_below HO6.out hb7, HW6.out.up hb7 hb7.size⟩
  clear hb7 hL7 hC7 H6 HG6 HO6 HW6
  have hcode : (codeA == codeA) = true := by simp
  have hql : decide (lA = lA) = true := by simp
  go_wp2_with fail
  refine (equalInts_any AG AW lA.length lA.length cG cW lA lA _ (own_rd HC7.out.gg) HC7.out.ww).mono ?_
  rintro e w8 ⟨rfl, q8, hq8⟩
  have HC8 := Lib.hid (HC7.out.up (w' := w8) (by rw [← hq8]; exact below_drewN (Below.refl _ _) q8))
  clear hq8 HC7
  go_wp2_with fail
  refine (equalInts_any AA AW lA.length lA.length cA cW lA lA _ (own_rd HC8.out.aa) HC8.out.ww).mono ?_
  rintro e w9 ⟨rfl, q9, hq9⟩
  have HC9 := Lib.hid (HC8.out.up (w' := w9) (by rw [← hq9]; exact below_drewN (Below.refl _ _) q9))
  clear hq9 HC8
  have hq2 : decide (es = es) = true := by simp
  go_wp2_with fail
  refine (equalEdges_any (some ⟨g, 0, none⟩) A m m cap c es es _ (own_rd (HC9.out.sk.giv HL.out)) (HR.out.up HC9.out.sk.b HC9.out.sk.b.size)).mono ?_
  rintro e wa ⟨rfl, qa, hqa⟩
  have HCa := Lib.hid (HC9.out.up (w' := wa) (by rw [← hqa]; exact below_drewN (Below.refl _ _) qa))
  clear hqa HC9
  have f77 : wa.cell? ⟨g, m * 4, none⟩ = some (.int .i64 (-77)) := by
    rw [HCa.out.sk.full.cellAt (m * 4) (by omega), List.getElem?_append_right (by rw [ecells_length, HL.out]; exact Nat.le_refl _), ecells_length, HL.out, Nat.sub_self]; rfl
  go_wp2_with fail
  have hal := (Below.refl wa.heap.size wa).alloc (Nat.le_refl _) (.cells #[.int .i64 0, .int .i64 1] 3)
  have hlo : (wa.alloc (.cells #[.int .i64 0, .int .i64 1] 3)).ownsRow 0 3 1 (.slice (some ⟨wa.heap.size, 0, none⟩) 2 2) 2 (icells [0, 1]) :=
    own_mk (size := 1) (Nat.zero_le _) (Blk.new wa 3 [.int .i64 0, .int .i64 1]) (Nat.le_refl _) (by unfold maxLen; omega) rfl rfl rfl
  have HLO := Lib.hid hlo
  have HCb := Lib.hid (HCa.out.up hal)
  clear hal hlo HCa f77
  have hq3 : decide (([0, 1] : List Int) = [0, 1]) = true := by simp
  refine (equalInts_any AO (some ⟨wa.heap.size, 0, none⟩) 2 2 cO 2 [0, 1] [0, 1] _ (own_rd HCb.out.oo) (own_rd HLO.out)).mono ?_
  rintro e wb ⟨rfl, qb, hqb⟩
  have HCc := Lib.hid (HCb.out.up (w' := wb) (by rw [← hqb]; exact below_drewN (Below.refl _ _) qb))
  clear hqb HCb HLO
  go_wp2_with fail
  have hal := (Below.refl wb.heap.size wb).alloc (Nat.le_refl _) (.cells #[.slice AG lA.length cG, .slice AO 2 cO, .slice AA lA.length cA] 37)
  have HCd := Lib.hid (HCc.out.up hal)
  have hU : w.heap.size ≤ wb.heap.size := HCc.out.sk.b.size
  have hl128 : lA.length ≤ 128 := HCO.out.small
  have hll : LL (wb.alloc (.cells #[.slice AG lA.length cG, .slice AO 2 cO, .slice AA lA.length cA] 37)) w.heap.size (.slice (some ⟨wb.heap.size, 0, none⟩) 3 3) [.slice AG lA.length cG, .slice AO 2 cO, .slice AA lA.length cA] [lA, [0, 1], lA] := by
    refine ⟨own_mk (size := 1) hU (Blk.new wb 37 [.slice AG lA.length cG, .slice AO 2 cO, .slice AA lA.length cA]) (Nat.le_refl _) (by unfold maxLen; omega) rfl rfl rfl, fun i h1 h2 => ?_, fun i j h1 h2 hne he => ?_⟩
    · match i, h1, h2 with
      | 0, _, _ => exact HCd.out.gg
      | 1, _, _ => exact HCd.out.oo
      | 2, _, _ => exact HCd.out.aa
    · have n1 := HGO.out
      have n2 := HGA.out
      have n3 := HOA.out
      simp only [List.length_cons, List.length_nil] at h1 h2
      have key : ∀ (a b : Value), (∀ q, a.ownBlock = some q → b.ownBlock ≠ some q) → (a.ownBlock = b.ownBlock → a.ownBlock = none) ∧ (b.ownBlock = a.ownBlock → b.ownBlock = none) := fun a b h => by
        constructor
        · intro e
          cases ha : a.ownBlock with
          | none => rfl
          | some q => rw [ha] at e; exact absurd e.symm (h q ha)
        · intro e
          cases ha : a.ownBlock with
          | none => rw [ha] at e; exact e
          | some q => rw [ha] at e; exact absurd e (h q ha)
      have k1 := key _ _ n1
      have k2 := key _ _ n2
      have k3 := key _ _ n3
      match i, j, h1, h2, hne with
      | 0, 0, _, _, h => exact absurd rfl h
      | 0, 1, _, _, _ => exact k1.1 he
      | 0, 2, _, _, _ => exact k2.1 he
      | 1, 0, _, _, _ => exact k1.2 he
      | 1, 1, _, _, h => exact absurd rfl h
      | 1, 2, _, _, _ => exact k3.1 he
      | 2, 0, _, _, _ => exact k2.2 he
      | 2, 1, _, _, _ => exact k3.2 he
      | 2, 2, _, _, h => exact absurd rfl h
  refine (alone_any w.heap.size (some ⟨wb.heap.size, 0, none⟩) 3 3 _ [lA, [0, 1], lA] _ hll rfl (by omega) (fun l hl => by
    simp only [List.mem_cons, List.mem_nil_iff, or_false] at hl
    rcases hl with rfl | rfl | rfl
    · omega
    · simp
    · omega) HCd.out.sk.b.size).mono ?_
  rintro e we ⟨rfl, hbe, hfe⟩
  have HBE := Lib.hid (HCd.out.sk.b.trans hbe)
  have HFU := Lib.hid (own_frg HCd.out.sk.full hfe (by decide))
  clear hbe hfe HCd hll hal HCc HGO HGA HOA
  have hgiv := (own_prefix HFU.out (by rw [ecells_length, HL.out])).1
  go_wp2_with fail
  refine (turn_any w.heap.size (some ⟨g, 0, none⟩) m cap es _ hgiv).mono ?_
  rintro e wh ⟨rfl, hownh, hgh⟩
  have HOH := Lib.hid hownh
  have HBH := Lib.hid (HBE.out.grown hgh HBE.out.size (fun q hq => (hgiv.lt q hq).1))
  clear hownh hgh hgiv HBE HFU
  go_wp2_with fail
  refine (edges_sl (some ⟨g, 0, none⟩) m cap (es.map turnE) _ (own_rd HOH.out) HM.out).mono ?_
  rintro e wi ⟨Ai, ci, rfl, _, hrdi, hbi⟩
  have HOI := Lib.hid (own_below HOH.out hbi)
  have HBI := Lib.hid (HBH.out.trans (hbi.mono HBH.out.size))
  have HRI := Lib.hid hrdi
  clear hrdi hbi HOH HBH
  go_wp2_with fail
  refine (refLevels_all Ai m ci x (es.map turnE) _ HRI.out).mono ?_
  rintro e wj ⟨vJ, lJ, codeJ, rfl, hbj, hLj, hCj⟩
  obtain ⟨AJ, cJ, rfl, hRj⟩ := own_slice hLj
  have HCJ := Lib.hid hCj
  have HRJ := Lib.hid hRj
  have HOJ := Lib.hid (own_below HOI.out hbj)
  have HBJ := Lib.hid (HBI.out.trans (hbj.mono HBI.out.size))
  clear hbj hLj hCj hRj HOI HBI HRI
  go_wp2_with fail
  refine (progLevels_all (some ⟨g, 0, none⟩) m cap x (es.map turnE) _ (own_rd HOJ.out) HM.out).mono ?_
  rintro e wk ⟨vK, lK, codeK, rfl, hbk, hLk, hCk⟩
  obtain ⟨e1, e2⟩ := hCk.unique HCJ.out
  subst e1 e2
  obtain ⟨AK, cK, rfl, hRk⟩ := own_slice hLk
  have HRK := Lib.hid hRk
  have HRJ := Lib.hid (HRJ.out.up hbk hbk.size)
  have HBK := Lib.hid (HBJ.out.trans (hbk.mono HBJ.out.size))
  clear hbk hLk hCk hRk HOJ HBJ HCJ
  have hcode2 : (codeK == codeK) = true := by simp
  have hqk : decide (lK = lK) = true := by simp
  go_wp2_with fail
  refine (equalInts_any AK AJ lK.length lK.length cK cJ lK lK _ HRK.out HRJ.out).mono ?_
  rintro e wl ⟨rfl, ql, hql2⟩
  have HBL := Lib.hid (HBK.out.trans ((below_drewN (Below.refl _ _) ql).mono HBK.out.size))
  rw [hql2] at HBL
  clear hql2
  go_wp2
  go_ret
  exact ⟨rfl, HBL.out⟩
end Go.Proofs.Ytefpglaipnnggaa
