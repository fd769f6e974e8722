/- The law of the cycle: its walk. -/
import Derived.Test.YtefpglaipnnggaaI6
import Derived.Test.YtefpglaipnnggaaH5
namespace Go.Proofs.Ytefpglaipnnggaa
open Go.RowKit

open Classical in
noncomputable def badV (x : Int) (es : List E) : Int := if Fits x es then badAt es else 0
open Classical in
noncomputable def badC (x : Int) (es : List E) : Int := if Fits x es then 0 else 2
theorem refBad_all (A : Option Addr) (m c : Nat) (x : Int) (es : List E) (w : World) (hr : Rd w w.heap.size 4 A m (ecells es)) :
    Calls Try.prog 36 #[.int .i64 x, .slice A m c] w fun e w' => e = .returned (.tuple #[.int .i64 (badV x es), .int .i64 (badC x es)]) ∧ Below w.heap.size w w' := by
  unfold badV badC
  by_cases hf : Fits x es
  · obtain ⟨n, rfl⟩ : ∃ n : Nat, x = n := ⟨x.toNat, by have := hf.1; omega⟩
    rw [if_pos hf, if_pos hf]
    exact refBad_any A m c n es w hr hf
  · rw [if_neg hf, if_neg hf]
    refine (refBad_no A m c x es w hr hf).mono ?_
    rintro e w' ⟨rfl, rfl⟩
    exact ⟨rfl, Below.refl _ _⟩
theorem progBad_all (A : Option Addr) (m c : Nat) (x : Int) (es : List E) (w : World) (hr : Rd w w.heap.size 4 A m (ecells es)) (hreach : m * 32 ≤ 140737488351232) :
    Calls Try.prog 38 #[.int .i64 x, .slice A m c] w fun e w' => e = .returned (.tuple #[.int .i64 (badV x es), .int .i64 (badC x es)]) ∧ Below w.heap.size w w' := by
  unfold badV badC
  by_cases hf : Fits x es
  · obtain ⟨n, rfl⟩ : ∃ n : Nat, x = n := ⟨x.toNat, by have := hf.1; omega⟩
    rw [if_pos hf, if_pos hf]
    exact progBad_any A m c n es w hr hf hreach
  · rw [if_neg hf, if_neg hf]
    exact progBad_no A m c x es w hr hf
theorem loop1 {l : List Int} {code : Int} (h : Ring 1 [⟨0, 0, true, 0⟩] l code) : l = [0] ∧ code = 0 := by
  have hf : Fits 1 [⟨0, 0, true, 0⟩] := ⟨by omega, by omega, fun e he => by rw [List.mem_singleton.1 he]; unfold okE; dsimp only; omega⟩
  have hb : badAt [⟨0, 0, true, 0⟩] = (0 : Nat) := by
    have h1 := Scc.refl (E := Eg [⟨0, 0, true, 0⟩]) 0
    unfold badAt firstAt
    simp [List.findIdx_cons, h1]
  exact h.unique (.inr (.inl ⟨1, 0, by simp, rfl, hf, hb, ⟨[], rfl, rfl⟩, rfl⟩))

/-- All that stands behind the calls. -/
structure CY (W w : World) (AE : Option Addr) (cE m : Nat) (es : List E) (AG : Option Addr) (cG : Nat) (AA : Option Addr) (cA : Nat) (AO : Option Addr) (cO : Nat) (AW : Option Addr) (l : List Int) : Prop where
  b : Below W.heap.size W w
  giv : w.ownsRow W.heap.size 43 4 (.slice AE m cE) m (ecells es)
  gg : w.ownsRow W.heap.size 3 1 (.slice AG l.length cG) l.length (icells l)
  aa : w.ownsRow W.heap.size 3 1 (.slice AA l.length cA) l.length (icells l)
  oo : w.ownsRow W.heap.size 3 1 (.slice AO 1 cO) 1 (icells [0])
  ww : Rd w w.heap.size 1 AW l.length (icells l)
theorem CY.up {W w w' : World} {AE : Option Addr} {cE m : Nat} {es : List E} {AG : Option Addr} {cG : Nat} {AA : Option Addr} {cA : Nat} {AO : Option Addr} {cO : Nat} {AW : Option Addr} {l : List Int}
    (h : CY W w AE cE m es AG cG AA cA AO cO AW l) (hb : Below w.heap.size w w') : CY W w' AE cE m es AG cG AA cA AO cO AW l :=
  ⟨h.b.trans (hb.mono h.b.size), own_below h.giv hb, own_below h.gg hb, own_below h.aa hb, own_below h.oo hb, h.ww.up hb hb.size⟩

set_option maxRecDepth 20000 in
set_option maxHeartbeats 4000000 in
theorem StrataCycle_walk (x : Int) (A : Option Addr) (m c : Nat) (es : List E) (w : World) (hr : Rd w w.heap.size 4 A m (ecells es)) (hreach : m * 32 ≤ 140737488351232) :
    Calls Try.prog 8 #[.int .i64 x, .slice A m c] w fun e w' => e = .returned (.bool true) ∧ Below w.heap.size w w' := by
  have HR := Lib.hid hr
  have HM := Lib.hid hreach
  have hmb := hr.2.1
  clear hr hreach
  go_enter Try.func8, Try.ntmps8
  go_wp2_with fail
  refine (edges_sl A m c es _ HR.out HM.out).mono ?_
  rintro e w1 ⟨AE, cE, rfl, hown1, _, hb1⟩
  have HB1 := Lib.hid hb1
  have HE1 := Lib.hid hown1
  clear hb1 hown1
  go_wp2_with fail
  refine (refCycle_all A m c x es _ (HR.out.up HB1.out HB1.out.size)).mono ?_
  rintro e w2 ⟨vW, l, code, rfl, hb2, hL2, hC2⟩
  obtain ⟨AW, cW, rfl, hR2⟩ := own_slice hL2
  have HCO := Lib.hid hC2
  have HW2 := Lib.hid hR2
  have HB2 := Lib.hid (HB1.out.trans (hb2.mono HB1.out.size))
  have HE2 := Lib.hid (own_below HE1.out hb2)
  clear hb2 hL2 hC2 hR2 HE1 HB1
  go_wp2_with fail
  refine (refBad_all A m c x es _ (HR.out.up HB2.out HB2.out.size)).mono ?_
  rintro e w3 ⟨rfl, hb3⟩
  have HB3 := Lib.hid (HB2.out.trans (hb3.mono HB2.out.size))
  have HE3 := Lib.hid (own_below HE2.out hb3)
  have HW3 := Lib.hid (HW2.out.up hb3 hb3.size)
  clear hb3 HB2 HE2 HW2
  go_wp2_with fail
  refine (progCycle_all AE m cE x es _ (own_rd HE3.out) HM.out).mono ?_
  rintro e w4 ⟨vG, lG, codeG, rfl, hb4, hL4, hC4⟩
  obtain ⟨e1, e2⟩ := hC4.unique HCO.out
  subst e1 e2
  obtain ⟨AG, cG, rfl, _⟩ := own_slice hL4
  have HG4 := Lib.hid (own_le hL4 HB3.out.size)
  have HW4 := Lib.hid (HW3.out.up hb4 hb4.size)
  have HB4 := Lib.hid (HB3.out.trans (hb4.mono HB3.out.size))
  have HE4 := Lib.hid (own_below HE3.out hb4)
  clear hb4 hL4 hC4 HB3 HE3 HW3
  go_wp2_with fail
  refine (progBad_all AE m cE x es _ (own_rd HE4.out) HM.out).mono ?_
  rintro e w5 ⟨rfl, hb5⟩
  have HG5 := Lib.hid (own_below HG4.out hb5)
  have HW5 := Lib.hid (HW4.out.up hb5 hb5.size)
  have HB5 := Lib.hid (HB4.out.trans (hb5.mono HB4.out.size))
  have HE5 := Lib.hid (own_below HE4.out hb5)
  clear hb5 HB4 HE4 HW4 HG4
  go_wp2_with fail
  have hal := (Below.refl w5.heap.size w5).alloc (Nat.le_refl _) (.cells #[.int .i64 0, .int .i64 0, .bool true, .int .i64 0] 43)
  have hlit := Rd_new w5 #[.int .i64 0, .int .i64 0, .bool true, .int .i64 0] 43 4 rfl
  have HG6 := Lib.hid (own_below HG5.out hal)
  have HW6 := Lib.hid (HW5.out.up hal hal.size)
  have HB6 := Lib.hid (HB5.out.trans (hal.mono HB5.out.size))
  have HE6 := Lib.hid (own_below HE5.out hal)
  clear hal HB5 HE5 HW5 HG5
  refine (progCycle_all _ 1 1 1 [⟨0, 0, true, 0⟩] _ hlit (by decide)).mono ?_
  rintro e w7 ⟨vO, lO, codeO, rfl, hb7, hL7, hC7⟩
  obtain ⟨rfl, rfl⟩ := loop1 hC7
  have hL7' : w7.ownsRow (w5.alloc (.cells #[.int .i64 0, .int .i64 0, .bool true, .int .i64 0] 43)).heap.size 3 1 vO 1 (icells [0]) := hL7
  obtain ⟨AO, cO, rfl, _⟩ := own_slice hL7'
  have HGO : Hid (∀ q, (Value.slice AG lG.length cG).ownBlock = some q → (Value.slice AO 1 cO).ownBlock ≠ some q) := Lib.hid fun q hq hq2 => by
    have h1 := (HG6.out.lt q hq).2
    have h2 := (hL7'.lt q hq2).1
    omega
  have HO7 := Lib.hid (own_le hL7' HB6.out.size)
  have HG7 := Lib.hid (own_below HG6.out hb7)
  have HW7 := Lib.hid (HW6.out.up hb7 hb7.size)
  have HB7 := Lib.hid (HB6.out.trans (hb7.mono HB6.out.size))
  have HE7 := Lib.hid (own_below HE6.out hb7)
  clear hb7 hL7 hL7' hC7 hlit HB6 HE6 HW6 HG6
  go_wp2_with fail
  refine (progCycle_all AE m cE x es _ (own_rd HE7.out) HM.out).mono ?_
  rintro e w8 ⟨vA, lA, codeA, rfl, hb8, hL8, hC8⟩
  obtain ⟨e1, e2⟩ := hC8.unique HCO.out
  subst e1 e2
  obtain ⟨AA, cA, rfl, _⟩ := own_slice hL8
  have HGA : Hid (∀ q, (Value.slice AG lA.length cG).ownBlock = some q → (Value.slice AA lA.length cA).ownBlock ≠ some q) := Lib.hid fun q hq hq2 => by
    have h1 := (HG7.out.lt q hq).2
    have h2 := (hL8.lt q hq2).1
    omega
  have HOA : Hid (∀ q, (Value.slice AO 1 cO).ownBlock = some q → (Value.slice AA lA.length cA).ownBlock ≠ some q) := Lib.hid fun q hq hq2 => by
    have h1 := (HO7.out.lt q hq).2
    have h2 := (hL8.lt q hq2).1
    omega
  have HC8 : Hid (CY w w8 AE cE m es AG cG AA cA AO cO AW lA) := Lib.hid ⟨HB7.out.trans (hb8.mono HB7.out.size), own_below HE7.out hb8, own_below HG7.out hb8, own_le hL8 HB7.out.size, own_below HO7.out hb8, HW7.out.up hb8 hb8.size⟩
  clear hb8 hL8 hC8 HB7 HE7 HG7 HO7 HW7
  have hcode : (codeA == codeA) = true := by simp
  have hql : decide (lA = lA) = true := by simp
  have hbv : (badV x es == badV x es) = true := by simp
  have hbc : (badC x es == badC x es) = true := by simp
  go_wp2_with fail
  refine (equalInts_any AG AW lA.length lA.length cG cW lA lA _ (own_rd HC8.out.gg) HC8.out.ww).mono ?_
  rintro e w9 ⟨rfl, q9, hq9⟩
  have HC9 := Lib.hid (HC8.out.up (w' := w9) (by rw [← hq9]; exact below_drewN (Below.refl _ _) q9))
  clear hq9 HC8
  go_wp2_with fail
  refine (equalInts_any AA AW lA.length lA.length cA cW lA lA _ (own_rd HC9.out.aa) HC9.out.ww).mono ?_
  rintro e wa ⟨rfl, qa, hqa⟩
  have HCa := Lib.hid (HC9.out.up (w' := wa) (by rw [← hqa]; exact below_drewN (Below.refl _ _) qa))
  clear hqa HC9
  have hq2 : decide (es = es) = true := by simp
  go_wp2_with fail
  refine (equalEdges_any AE A m m cE c es es _ (own_rd HCa.out.giv) (HR.out.up HCa.out.b HCa.out.b.size)).mono ?_
  rintro e wb ⟨rfl, qb, hqb⟩
  have HCb := Lib.hid (HCa.out.up (w' := wb) (by rw [← hqb]; exact below_drewN (Below.refl _ _) qb))
  clear hqb HCa
  go_wp2_with fail
  have hal := (Below.refl wb.heap.size wb).alloc (Nat.le_refl _) (.cells #[.slice AG lA.length cG, .slice AO 1 cO, .slice AA lA.length cA] 37)
  have HCd := Lib.hid (HCb.out.up hal)
  have hU : w.heap.size ≤ wb.heap.size := HCb.out.b.size
  have hl128 : lA.length ≤ 128 := HCO.out.small
  have hll : LL (wb.alloc (.cells #[.slice AG lA.length cG, .slice AO 1 cO, .slice AA lA.length cA] 37)) w.heap.size (.slice (some ⟨wb.heap.size, 0, none⟩) 3 3) [.slice AG lA.length cG, .slice AO 1 cO, .slice AA lA.length cA] [lA, [0], lA] := by
    refine ⟨own_mk (size := 1) hU (Blk.new wb 37 [.slice AG lA.length cG, .slice AO 1 cO, .slice AA lA.length cA]) (Nat.le_refl _) (by unfold maxLen; omega) rfl rfl rfl, fun i h1 h2 => ?_, fun i j h1 h2 hne he => ?_⟩
    · match i, h1, h2 with
      | 0, _, _ => exact HCd.out.gg
      | 1, _, _ => exact HCd.out.oo
      | 2, _, _ => exact HCd.out.aa
    · have n1 := HGO.out
      have n2 := HGA.out
      have n3 := HOA.out
      simp only [List.length_cons, List.length_nil] at h1 h2
      have key : ∀ (a b : Value), (∀ q, a.ownBlock = some q → b.ownBlock ≠ some q) → (a.ownBlock = b.ownBlock → a.ownBlock = none) ∧ (b.ownBlock = a.ownBlock → b.ownBlock = none) := fun a b h => by
        constructor
        · intro e
          cases ha : a.ownBlock with
          | none => rfl
          | some q => rw [ha] at e; exact absurd e.symm (h q ha)
        · intro e
          cases ha : a.ownBlock with
          | none => rw [ha] at e; exact e
          | some q => rw [ha] at e; exact absurd e (h q ha)
      have k1 := key _ _ n1
      have k2 := key _ _ n2
      have k3 := key _ _ n3
      match i, j, h1, h2, hne with
      | 0, 0, _, _, h => exact absurd rfl h
      | 0, 1, _, _, _ => exact k1.1 he
      | 0, 2, _, _, _ => exact k2.1 he
      | 1, 0, _, _, _ => exact k1.2 he
      | 1, 1, _, _, h => exact absurd rfl h
      | 1, 2, _, _, _ => exact k3.1 he
      | 2, 0, _, _, _ => exact k2.2 he
      | 2, 1, _, _, _ => exact k3.2 he
      | 2, 2, _, _, h => exact absurd rfl h
  refine (alone_any w.heap.size (some ⟨wb.heap.size, 0, none⟩) 3 3 _ [lA, [0], lA] _ hll rfl (by omega) (fun l hl => by
    simp only [List.mem_cons, List.mem_nil_iff, or_false] at hl
    rcases hl with rfl | rfl | rfl
    · omega
    · simp
    · omega) HCd.out.b.size).mono ?_
  rintro e we ⟨rfl, hbe, hfe⟩
  have HBE := Lib.hid (HCd.out.b.trans hbe)
  have HGV := Lib.hid (own_frg HCd.out.giv hfe (by decide))
  clear hbe hfe HCd hll hal HCb HGO HGA HOA
  go_wp2_with fail
  refine (turn_any w.heap.size AE m cE es _ HGV.out).mono ?_
  rintro e wh ⟨rfl, hownh, hgh⟩
  have HOH := Lib.hid hownh
  have HBH := Lib.hid (HBE.out.grown hgh HBE.out.size (fun q hq => (HGV.out.lt q hq).1))
  clear hownh hgh HBE HGV
  go_wp2_with fail
  refine (edges_sl AE m cE (es.map turnE) _ (own_rd HOH.out) HM.out).mono ?_
  rintro e wi ⟨Ai, ci, rfl, _, hrdi, hbi⟩
  have HOI := Lib.hid (own_below HOH.out hbi)
  have HBI := Lib.hid (HBH.out.trans (hbi.mono HBH.out.size))
  have HRI := Lib.hid hrdi
  clear hrdi hbi HOH HBH
  go_wp2_with fail
  refine (refCycle_all Ai m ci x (es.map turnE) _ HRI.out).mono ?_
  rintro e wj ⟨vJ, lJ, codeJ, rfl, hbj, hLj, hCj⟩
  obtain ⟨AJ, cJ, rfl, hRj⟩ := own_slice hLj
  have HCJ := Lib.hid hCj
  have HRJ := Lib.hid hRj
  have HOJ := Lib.hid (own_below HOI.out hbj)
  have HBJ := Lib.hid (HBI.out.trans (hbj.mono HBI.out.size))
  clear hbj hLj hCj hRj HOI HBI HRI
  go_wp2_with fail
  refine (edges_sl AE m cE (es.map turnE) _ (own_rd HOJ.out) HM.out).mono ?_
  rintro e wk ⟨Ak, ck, rfl, _, hrdk, hbk⟩
  have HOK := Lib.hid (own_below HOJ.out hbk)
  have HBK := Lib.hid (HBJ.out.trans (hbk.mono HBJ.out.size))
  have HRJ := Lib.hid (HRJ.out.up hbk hbk.size)
  have HRK := Lib.hid hrdk
  clear hrdk hbk HOJ HBJ
  go_wp2_with fail
  refine (refBad_all Ak m ck x (es.map turnE) _ HRK.out).mono ?_
  rintro e wl ⟨rfl, hbl⟩
  have HOL := Lib.hid (own_below HOK.out hbl)
  have HBL := Lib.hid (HBK.out.trans (hbl.mono HBK.out.size))
  have HRJ := Lib.hid (HRJ.out.up hbl hbl.size)
  clear hbl HOK HBK HRK
  go_wp2_with fail
  refine (progCycle_all AE m cE x (es.map turnE) _ (own_rd HOL.out) HM.out).mono ?_
  rintro e wm ⟨vK, lK, codeK, rfl, hbm, hLk, hCk⟩
  obtain ⟨e1, e2⟩ := hCk.unique HCJ.out
  subst e1 e2
  obtain ⟨AK, cK, rfl, hRk⟩ := own_slice hLk
  have HRK := Lib.hid hRk
  have HRJ := Lib.hid (HRJ.out.up hbm hbm.size)
  have HBM := Lib.hid (HBL.out.trans (hbm.mono HBL.out.size))
  have HOM := Lib.hid (own_below HOL.out hbm)
  clear hbm hLk hCk hRk HOL HBL HCJ
  go_wp2_with fail
  refine (progBad_all AE m cE x (es.map turnE) _ (own_rd HOM.out) HM.out).mono ?_
  rintro e wn ⟨rfl, hbn⟩
  have HRK := Lib.hid (HRK.out.up hbn hbn.size)
  have HRJ := Lib.hid (HRJ.out.up hbn hbn.size)
  have HBN := Lib.hid (HBM.out.trans (hbn.mono HBM.out.size))
  clear hbn HBM HOM
  have hcode2 : (codeK == codeK) = true := by simp
  have hqk : decide (lK = lK) = true := by simp
  have hbv2 : (badV x (es.map turnE) == badV x (es.map turnE)) = true := by simp
  have hbc2 : (badC x (es.map turnE) == badC x (es.map turnE)) = true := by simp
  go_wp2_with fail
  refine (equalInts_any AK AJ lK.length lK.length cK cJ lK lK _ HRK.out HRJ.out).mono ?_
  rintro e wo ⟨rfl, qo, hqo⟩
  have HBO := Lib.hid (HBN.out.trans ((below_drewN (Below.refl _ _) qo).mono HBN.out.size))
  rw [hqo] at HBO
  clear hqo
  go_wp2
  go_ret
  exact ⟨rfl, HBO.out⟩
end Go.Proofs.Ytefpglaipnnggaa
