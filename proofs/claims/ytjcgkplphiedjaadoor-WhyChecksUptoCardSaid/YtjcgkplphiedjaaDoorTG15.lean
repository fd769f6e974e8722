/- A fact's text, the document's; a number's. | A proof's text, the document's. | A strings.Builder that grows ahead of its first write. -/
import Derived.Test.YtjcgkplphiedjaaDoorTG11
import Derived.Test.YtjcgkplphiedjaaDoorTG13
namespace Go.Proofs.YtjcgkplphiedjaaDoorT
open Go.RowKit Go.Sort

set_option maxRecDepth 20000 in
theorem dec_ref (n : Int) (h : inI n) (w : World) :
    Calls Tryd.prog 31 #[.int .i64 n] w fun e w' => e = .returned (.string (it n)) ∧ Below w.heap.size w w' := by
  have HK := Lib.hid (fun W => text_const 1 n ⟨#[]⟩ h (by show (0 : Nat) ≤ _; omega) W)
  have HT : Hid (textS 1 n ⟨#[]⟩ = it n) := Lib.hid (by unfold textS validC; rw [if_pos rfl, mk_list, if_neg (by decide), if_pos rfl])
  rw [HT.out] at HK
  go_enter Tryd.func31, Tryd.ntmps31
  go_wp2_with fail
  refine (HK.out w).mono ?_
  rintro e w2 ⟨rfl, hb2⟩
  go_wp2
  go_ret
  exact ⟨by rfl, hb2⟩

set_option maxRecDepth 20000 in
set_option maxHeartbeats 4000000 in
theorem fact_ref (p : ByteArray) (A : Option Addr) (n c : Nat) (l : List Cn) (w : World) (hr : Rd w w.heap.size 3 A n (kcells l)) (hz : ∀ z ∈ l, inI z.i ∧ fineK z) (hps : p.size ≤ 9223372036854775807) :
    Calls Tryd.prog 30 #[.agg #[.string p, .slice A n c]] w fun e w' => e = .returned (.string (factT p l)) ∧ Below w.heap.size w w' := by
  obtain ⟨i0, hi, hz0, hz1, hz2⟩ := info_parts Tryd.info9
  have hlen : l.length = n := by have := hr.1; rw [kcells_length] at this; omega
  have HR := Lib.hid hr
  have HZ := Lib.hid hz
  have HN := Lib.hid hlen
  have HW := Lib.hid (fun W h => wellFact_ref p hps A n c l W h (fun z hz' => (hz z hz').2))
  clear hr hz hlen
  obtain ⟨V, hV⟩ : ∃ V, V = factT p l := ⟨_, rfl⟩
  rw [← hV]
  have HV := Lib.hid hV
  clear hV
  go_enter Tryd.func30, Tryd.ntmps30
  go_upto_region 1 with (fail)
  have hba := (Below.refl w.heap.size w).alloc (Nat.le_refl _) (.cells #[.string p, .slice A n c] 45)
  have h1 := Blk.new w 45 [.string p, .slice A n c]
  generalize World.alloc _ _ = w1 at *
  generalize hR : w.heap.size = R at *
  have HRR := Lib.hid hR
  clear hR
  have f0 := (h1.cell 0).trans rfl
  have f1 := (h1.cell 1).trans rfl
  have HB1 := Lib.hid hba
  have H1 := Lib.hid h1
  have hs1 := h1.lt
  clear hba h1
  go_wp2_with fail
  refine (HW.out w1 (HR.out.up HB1.out (Nat.le_of_lt hs1))).mono ?_
  rintro e w2 ⟨rfl, hb2⟩
  have HB2 := Lib.hid (HB1.out.trans (hb2.mono (Nat.le_of_lt hs1)))
  have H2 := Lib.hid (H1.out.below hb2 H1.out.lt)
  clear hb2 HB1 H1 f0 f1 HW hs1
  cases hwf : wellF p l with
  | false =>
    obtain rfl : V = ⟨#[]⟩ := by rw [HV.out, factT_no hwf]
    clear HV hwf
    go_wp2
    go_ret
    exact ⟨by rfl, by rw [HRR.out]; exact HB2.out⟩
  | true =>
    obtain ⟨hnm, h8, _⟩ := wellF_parts hwf
    have hps2 := name_size hnm
    have hn8 : n ≤ 8 := by have := HN.out; omega
    have HVV : Hid (V = appS p (l.map textK)) := Lib.hid (by rw [HV.out]; exact if_pos hwf)
    clear HV hwf hnm h8
    go_upto_region 5 with (fail)
    go_loopg [3, 4] n (fun gk u3 u4 wr => ∃ k : Nat, u4 = .int .i64 k ∧ k ≤ n ∧ Hid (gk = n - k) ∧ Hid (wr.ownsRow R 9 1 u3 k (scells ((l.take k).map textK))) ∧ Hid (Below R w wr) ∧ Hid (Blk wr R 45 [.string p, .slice A n c]))
    case atStart => exact ⟨0, rfl, Nat.zero_le _, Lib.hid (by omega), Lib.hid (World.ownsRow_nil _ _ _ _), HB2, H2⟩
    case round =>
      clear HB2 H2
      obtain ⟨k, rfl, hk, HG, HO, HB, H1⟩ := hrel
      have f0 := (H1.out.cell 0).trans rfl
      have f1 := (H1.out.cell 1).trans rfl
      by_cases hlt : k < n
      · obtain ⟨b1, o1, hk1, rfl, hb1, hc⟩ := (HR.out.below HB.out).at Cn.cells 3 (fun _ => rfl) (by omega) k hlt
        have c0 := hc 0 _ (by omega) rfl
        have c1 := hc 1 _ (by omega) rfl
        have c2 := hc 2 _ (by omega) rfl
        rw [Nat.add_zero] at c0
        clear hc
        have hzk := HZ.out l[k] (List.getElem_mem hk1)
        have HTK := Lib.hid (take_snoc l k hk1)
        generalize l[k] = z at *
        obtain ⟨zk, zi, zt⟩ := z
        dsimp only at c0 c1 c2
        have HX := Lib.hid (fun W => text_const zk zi zt hzk.1 hzk.2 W)
        have HE : Hid (textK ⟨zk, zi, zt⟩ = textS zk zi zt) := Lib.hid rfl
        generalize textS zk zi zt = s at *
        clear hzk
        obtain ⟨A3, d3, rfl, hn3⟩ := own_slice HO.out
        go_wp2_with fail
        refine (HX.out wr).mono ?_
        rintro e w5 ⟨rfl, hb5⟩
        have hl := H1.out.lt
        have HB5 := Lib.hid (HB.out.trans (hb5.mono (Nat.le_of_lt hl)))
        have H5 := Lib.hid (H1.out.below hb5 hl)
        have hown := own_below HO.out hb5
        have hs5 := H5.out.lt
        clear hb5 hl HB H1 HX HO c0 c1 c2 f0 f1
        go_wp2_with (at_builtin; go_must (refine wpList_append_own _ rfl _ _ 71 rfl R 9 i0 _ 1 16 Tryd.underlying71 hi hz0 hz1 hz2 rfl (by decide) _ _ _ rfl (hown.alloc _) ⟨w5.heap.size, 0, none⟩ 1 1 [.string s] rfl rfl (fun j u h => new_cells _ _ _ j u h) (by intro u hu; simp at hu; subst hu; rfl) (by unfold maxLen; omega) (by omega) (by simp; omega) ?_))
        intro v7 w7 hown7 hg7 _
        have BL := Lib.hid ((HB5.out.alloc (Nat.le_of_lt hs5) (.cells #[.string s] 9)).grown hg7 (by simp; omega) (fun q hq => (hown.lt q hq).1))
        have V7 : Hid (w7.ownsRow R 9 1 v7 (k + 1) (scells ((l.take (k + 1)).map textK))) := Lib.hid (by rw [HTK.out]; simpa [scells, HE.out] using hown7)
        have H7 : Hid (Blk w7 R 45 [.string p, .slice (some ⟨b1, o1, none⟩) n c]) := Lib.hid ((H5.out.alloc (.cells #[.string s] 9)).grown hg7 (own_blk_ne hown H5.out (by decide)))
        clear hown7 hown hg7 HB5 hs5 H5
        go_wp2
        go_roundg (n - (k + 1))
        case measure => have := HG.out; omega
        case rel => exact ⟨k + 1, by go_num, by omega, Lib.hid rfl, V7, BL, H7⟩
      · obtain rfl : k = n := by omega
        have hall : l.take k = l := List.take_of_length_le (by have := HN.out; omega)
        rw [hall] at HO
        obtain ⟨A3, d3, rfl, hn3⟩ := own_slice HO.out
        have ka := applied_ref p A3 k d3 1022 (l.map textK) wr (by omega) (own_rd HO.out) (by omega) (by omega) (by
          intro x hx
          obtain ⟨z, hz', rfl⟩ := List.mem_map.1 hx
          exact textK_size z (HZ.out z hz').1)
        rw [← HVV.out] at ka
        clear HVV
        go_wp2_with fail
        refine ka.mono ?_
        rintro e w5 ⟨rfl, hb5⟩
        have HB5 := Lib.hid (HB.out.trans (hb5.mono (Nat.le_of_lt H1.out.lt)))
        clear hb5
        go_wp2
        go_ret
        exact ⟨by rfl, by rw [HRR.out]; exact HB5.out⟩
end Go.Proofs.YtjcgkplphiedjaaDoorT

namespace Go.Proofs.YtjcgkplphiedjaaDoorT
open Go.RowKit Go.Sort

theorem from_take (fs : List Int) (k : Nat) (h : k < fs.length) : fromL (fs.take (k + 1)) = if k = 0 then [32, 102, 114, 111, 109, 32] ++ (it fs[k]).toList else fromL (fs.take k) ++ ([44, 32] ++ (it fs[k]).toList) := by
  have hj := jo_take (fun f => (it f).toList) fs k h
  unfold fromL
  rw [if_neg (by rw [List.length_take]; omega), hj]
  by_cases hk : k = 0
  · rw [if_pos hk, if_pos hk]
  · rw [if_neg hk, if_neg hk, if_neg (by rw [List.length_take]; omega)]
    simp
theorem sub_take (ss : List Cn) (k : Nat) (h : k < ss.length) : subL (ss.take (k + 1)) = if k = 0 then (textK ss[k]).toList else subL (ss.take k) ++ ([44, 32] ++ (textK ss[k]).toList) := jo_take (fun z => (textK z).toList) ss k h
theorem proofS_no {ls : List Ln} {i : Nat} (h : i < ls.length) (hx : okL ls[i] = false) : proofS ls = ⟨#[]⟩ := by
  unfold proofS
  rw [if_neg]
  intro hh
  have := List.all_eq_true.1 hh ls[i] (List.getElem_mem h)
  rw [hx] at this; cases this
theorem proofS_yes {ls : List Ln} (h : ls.all okL = true) : proofS ls = ⟨(textL 0 ls).toArray⟩ := if_pos h
theorem all_take {α : Type} {f : α → Bool} {l : List α} {k : Nat} (h : k < l.length) (h1 : (l.take k).all f = true) (h2 : f l[k] = true) : (l.take (k + 1)).all f = true := by
  rw [take_snoc l k h, List.all_append, h1]; simp [h2]

set_option maxRecDepth 20000 in
set_option maxHeartbeats 16000000 in
theorem text_ref (A : Option Addr) (n c : Nat) (ls : List Ln) (w : World) (hr : Rd w w.heap.size 5 A n (ncells ls)) (hok : ∀ x ∈ ls, Ln.ok w x ∧ x.nice) (hw : wts ls ≤ 1048576) :
    Calls Tryd.prog 11 #[.slice A n c] w fun e w' => e = .returned (.string (proofS ls)) ∧ Below w.heap.size w w' := by
  have hlen : ls.length = n := by have := hr.1; rw [ncells_length] at this; omega
  have hn : n ≤ 1048576 := by have := wts_length ls; omega
  have HL := Lib.hid hr
  have HK := Lib.hid hok
  have HW := Lib.hid hw
  have HN := Lib.hid hlen
  clear hr hok hw hlen
  generalize hR : w.heap.size = R at *
  have HRR := Lib.hid hR
  clear hR
  obtain ⟨V, hV⟩ : ∃ V, V = proofS ls := ⟨_, rfl⟩
  rw [← hV]
  have HV := Lib.hid hV
  clear hV
  go_enter Tryd.func11, Tryd.ntmps11
  go_upto_region 3 with (fail)
  go_loopg [3, 4] n (fun gk u3 u4 wr => ∃ (i : Nat) (S : ByteArray), u4 = .int .i64 i ∧ u3 = .string S ∧ i ≤ n ∧ Hid (gk = n - i) ∧ Hid (S.toList = textL 0 (ls.take i)) ∧ Hid (Below R w wr) ∧ Hid ((ls.take i).all okL = true))
  case atStart => exact ⟨0, ⟨#[]⟩, rfl, rfl, Nat.zero_le _, Lib.hid (by omega), Lib.hid (by rw [mk_list]; rfl), Lib.hid (Below.refl _ _), Lib.hid rfl⟩
  case round =>
    obtain ⟨i, S, rfl, rfl, hi, HG, HS, HB, HA⟩ := hrel
    have hsR : R ≤ wr.heap.size := HRR.out ▸ HB.out.size
    by_cases hlt : i < n
    · obtain ⟨b1, o1, hk1, rfl, hb1, hc⟩ := (HL.out.below HB.out).at Ln.cells 5 (fun _ => rfl) (by omega) i hlt
      have c0 := hc 0 _ (by omega) rfl
      have c1 := hc 1 _ (by omega) rfl
      have c2 := hc 2 _ (by omega) rfl
      have c3 := hc 3 _ (by omega) rfl
      have c4 := hc 4 _ (by omega) rfl
      rw [Nat.add_zero] at c0
      clear hc
      have hSb : S.size ≤ 10485760000 := by
        rw [toList_size, HS.out]
        exact textL_bound ls i (fun x hx => (HK.out x hx).2) HW.out
      have hx := HK.out ls[i] (List.getElem_mem hk1)
      have hwt := wts_mem (List.getElem_mem hk1)
      have HTL := Lib.hid (textL_take ls i hk1)
      have HNO : Hid (okL ls[i] = false → V = ⟨#[]⟩) := Lib.hid fun h => by rw [HV.out]; exact proofS_no hk1 h
      have HYES : Hid (okL ls[i] = true → (ls.take (i + 1)).all okL = true) := Lib.hid fun h => all_take hk1 HA.out h
      generalize ls[i] = x at *
      have HO : Hid (Ln.ok wr x) := Lib.hid (hx.1.up (HRR.out ▸ HB.out))
      have hni := hx.2
      clear hx
      have hww : x.wt ≤ 1048576 := Nat.le_trans hwt HW.out
      clear hwt
      obtain ⟨xp, xA, xn, xc, xr, xB, xm, xd, xF, xk, xe, xxs, xss, xfs⟩ := x
      obtain ⟨hp, hxs, hss, hrr, hfs⟩ := hni
      dsimp only at c0 c1 c2 c3 c4 hp hxs hss hrr hfs
      have HRx := Lib.hid HO.out.a
      have HRs := Lib.hid HO.out.s
      have HRf := Lib.hid HO.out.f
      clear HO
      dsimp only at HRx HRs HRf
      have hsl : xss.length = xm := by have := HRs.out.1; rw [kcells_length] at this; omega
      have hfl : xfs.length = xk := by have := HRf.out.1; rw [icells_length] at this; omega
      have hm20 : xm ≤ 1048576 := by unfold Ln.wt at hww; dsimp only at hww; omega
      have hk20 : xk ≤ 1048576 := by unfold Ln.wt at hww; dsimp only at hww; omega
      have HSL := Lib.hid hsl
      have HFL := Lib.hid hfl
      have HSS := Lib.hid hss
      have HFS := Lib.hid hfs
      clear hww hsl hfl
      have hF := factT_size xp xxs fun z hz => (hxs z hz).1
      have hD := it_size (i : Int) ⟨by omega, by omega⟩
      have hE := it_size xr hrr
      have HKF := Lib.hid (fun W h => fact_ref xp xA xn xc xxs W h hxs hp)
      have HKD := Lib.hid (fun W => dec_ref (i : Int) ⟨by omega, by omega⟩ W)
      have HKE := Lib.hid (fun W => dec_ref xr hrr W)
      have HLI : Hid (lineL i ⟨xp, xA, xn, xc, xr, xB, xm, xd, xF, xk, xe, xxs, xss, xfs⟩ = ((it (i : Int)).toList ++ ([58, 32] ++ (factT xp xxs).toList)) ++ (if xr = -1 then givenL else ([32, 98, 121, 32] ++ ((it xr).toList ++ [32, 123])) ++ (subL xss ++ ([125] ++ (fromL xfs ++ [10]))))) := Lib.hid rfl
      have HOK : Hid (okL ⟨xp, xA, xn, xc, xr, xB, xm, xd, xF, xk, xe, xxs, xss, xfs⟩ = (wellF xp xxs && (decide (xr = -1) || xss.all validK))) := Lib.hid rfl
      have HFY : Hid (wellF xp xxs = true → ((factT xp xxs).toList == []) = false) := Lib.hid fun h => by simpa using factT_yes h
      have HFN : Hid (wellF xp xxs = false → ((factT xp xxs).toList == []) = true) := Lib.hid fun h => by rw [factT_no h, mk_list]; rfl
      clear hxs hss hfs hrr hp
      generalize lineL _ _ = LL at *
      generalize okL _ = ok at *
      generalize factT xp xxs = FT at *
      generalize it (i : Int) = D at *
      generalize it xr = E at *
      go_upto_region 6 with (fail)
      have HBA := Lib.hid ((Below.refl wr.heap.size wr).alloc (Nat.le_refl _) (.cells #[.string xp, .slice xA xn xc, .int .i64 xr, .slice xB xm xd, .slice xF xk xe] 66))
      have HX := Lib.hid (Blk.new wr 66 [.string xp, .slice xA xn xc, .int .i64 xr, .slice xB xm xd, .slice xF xk xe])
      clear c0 c1 c2 c3 c4
      generalize World.alloc _ _ = wa at *
      have HRx1 := Lib.hid (HRx.out.up HBA.out HBA.out.size)
      have HRs1 := Lib.hid (HRs.out.below HBA.out)
      have HRf1 := Lib.hid (HRf.out.below HBA.out)
      have HB1 := Lib.hid (HB.out.trans (HBA.out.mono hsR))
      clear HBA HRx HRs HRf HB
      generalize hZ : wr.heap.size = Z at *
      clear hZ
      have x0 := (HX.out.cell 0).trans rfl
      have x1 := (HX.out.cell 1).trans rfl
      have x2 := (HX.out.cell 2).trans rfl
      go_wp2_with fail
      refine (HKF.out wa HRx1.out).mono ?_
      rintro e w2 ⟨rfl, hb2⟩
      have hs1 := HX.out.lt
      have HX2 := Lib.hid (HX.out.below hb2 hs1)
      have HRs2 := Lib.hid (HRs1.out.below (hb2.mono (Nat.le_of_lt hs1)))
      have HRf2 := Lib.hid (HRf1.out.below (hb2.mono (Nat.le_of_lt hs1)))
      have HB2 := Lib.hid (HB1.out.trans (hb2.mono (by omega)))
      clear hb2 hs1 HX HRs1 HRf1 HRx1 HB1 HKF x0 x1 x2
      have x2 := (HX2.out.cell 2).trans rfl
      cases hwf : wellF xp xxs with
      | false =>
        have t1 := HFN.out hwf
        have hz : V = ⟨#[]⟩ := HNO.out (by rw [HOK.out, hwf]; rfl)
        subst hz
        clear hwf
        go_wp2
        go_ret
        exact ⟨by rfl, HB2.out⟩
      | true =>
        have t1 := HFY.out hwf
        have HOK2 : Hid (ok = (decide (xr = -1) || xss.all validK)) := Lib.hid (by rw [HOK.out, hwf]; rfl)
        clear hwf HFY HFN HOK
        go_wp2_with fail
        refine (HKD.out w2).mono ?_
        rintro e w3 ⟨rfl, hb3⟩
        have hs2 := HX2.out.lt
        have HX3 := Lib.hid (HX2.out.below hb3 hs2)
        have HRs3 := Lib.hid (HRs2.out.below (hb3.mono (Nat.le_of_lt hs2)))
        have HRf3 := Lib.hid (HRf2.out.below (hb3.mono (Nat.le_of_lt hs2)))
        have HB3 := Lib.hid (HB2.out.trans (hb3.mono (by omega)))
        clear hb3 hs2 HX2 HRs2 HRf2 HB2 HKD x2
        have x2 := (HX3.out.cell 2).trans rfl
        have h2 : (⟨#[58, 32]⟩ : ByteArray).size = 2 := rfl
        have s1 := app_size S D
        have s2 := app_size (S ++ D) ⟨#[58, 32]⟩
        have s3 := app_size ((S ++ D) ++ ⟨#[58, 32]⟩) FT
        have HT1 : Hid ((((S ++ D) ++ ⟨#[58, 32]⟩) ++ FT).toList = textL 0 (ls.take i) ++ (D.toList ++ ([58, 32] ++ FT.toList))) := Lib.hid (by rw [toList_append, toList_append, toList_append, HS.out, mk_list [58, 32]]; simp only [List.append_assoc])
        by_cases hg : xr = -1
        · have HAN := Lib.hid (HYES.out (by rw [HOK2.out, decide_eq_true hg]; rfl))
          have HLN : Hid (((((S ++ D) ++ ⟨#[58, 32]⟩) ++ FT) ++ ⟨#[32, 103, 105, 118, 101, 110, 10]⟩).toList = textL 0 (ls.take (i + 1))) := Lib.hid (by rw [toList_append, HT1.out, HTL.out, HLI.out, if_pos hg, mk_list [32, 103, 105, 118, 101, 110, 10], List.append_assoc]; rfl)
          clear HT1 HTL HLI HOK2 HYES HNO
          subst hg
          have h3 : (⟨#[32, 103, 105, 118, 101, 110, 10]⟩ : ByteArray).size = 7 := rfl
          go_wp2
          go_roundg (n - (i + 1))
          case measure => have := HG.out; omega
          case rel => exact ⟨i + 1, _, by go_num, rfl, by omega, Lib.hid rfl, HLN, HB3, HAN⟩
        · have tg : (xr == -1) = false := by simpa using hg
          have HLN : Hid (textL 0 (ls.take (i + 1)) = ((textL 0 (ls.take i) ++ (D.toList ++ ([58, 32] ++ FT.toList))) ++ ([32, 98, 121, 32] ++ (E.toList ++ [32, 123]))) ++ (subL xss ++ ([125] ++ (fromL xfs ++ [10])))) := Lib.hid (by rw [HTL.out, HLI.out, if_neg hg]; simp only [List.append_assoc])
          have HOK3 : Hid (ok = xss.all validK) := Lib.hid (by rw [HOK2.out, decide_eq_false hg]; rfl)
          clear HTL HLI HOK2 hg
          generalize hS1 : ((S ++ D) ++ ⟨#[58, 32]⟩) ++ FT = S1 at *
          have hS1b : S1.size ≤ 10485768300 := by omega
          have HS1 := Lib.hid hS1
          clear hS1 s1 s2 s3
          have h3 : (⟨#[32, 98, 121, 32]⟩ : ByteArray).size = 4 := rfl
          have s1 := app_size S1 ⟨#[32, 98, 121, 32]⟩
          have s2 := app_size (S1 ++ ⟨#[32, 98, 121, 32]⟩) E
          have s3 := app_size ((S1 ++ ⟨#[32, 98, 121, 32]⟩) ++ E) ⟨#[32, 123]⟩
          have h4 : (⟨#[32, 123]⟩ : ByteArray).size = 2 := rfl
          go_wp2_with fail
          refine (HKE.out w3).mono ?_
          rintro e w4 ⟨rfl, hb4⟩
          have hs3 := HX3.out.lt
          have HX4 := Lib.hid (HX3.out.below hb4 hs3)
          have HRs4 := Lib.hid (HRs3.out.below (hb4.mono (Nat.le_of_lt hs3)))
          have HRf4 := Lib.hid (HRf3.out.below (hb4.mono (Nat.le_of_lt hs3)))
          have HB4 := Lib.hid (HB3.out.trans (hb4.mono (by omega)))
          clear hb4 hs3 HX3 HRs3 HRf3 HB3 HKE x2
          have HT2 : Hid ((((S1 ++ ⟨#[32, 98, 121, 32]⟩) ++ E) ++ ⟨#[32, 123]⟩).toList = (textL 0 (ls.take i) ++ (D.toList ++ ([58, 32] ++ FT.toList))) ++ ([32, 98, 121, 32] ++ (E.toList ++ [32, 123]))) := Lib.hid (by rw [toList_append, toList_append, toList_append, HT1.out, mk_list [32, 98, 121, 32], mk_list [32, 123]]; simp only [List.append_assoc])
          generalize hP2 : (textL 0 (ls.take i) ++ (D.toList ++ ([58, 32] ++ FT.toList))) ++ ([32, 98, 121, 32] ++ (E.toList ++ [32, 123])) = P2 at *
          clear hP2 HT1
          go_upto_region 14 with (fail)
          rw [HS1.out]
          generalize hS2 : ((S1 ++ ⟨#[32, 98, 121, 32]⟩) ++ E) ++ ⟨#[32, 123]⟩ = S2 at *
          have hS2b : S2.size ≤ 10485768327 := by omega
          clear hS2 s1 s2 s3 h3 h4 h2 hS1b hF hD hE hSb tg t1
          go_loopg [3, 7] xm (fun gk u3 u7 wr => ∃ (k : Nat) (T : ByteArray), u7 = .int .i64 k ∧ u3 = .string T ∧ k ≤ xm ∧ T.size ≤ 10485768327 + 1024 * k ∧ Hid (gk = xm - k) ∧ Hid (T.toList = P2 ++ subL (xss.take k)) ∧ Hid (Below R w wr) ∧ Hid (Blk wr Z 66 [.string xp, .slice xA xn xc, .int .i64 xr, .slice xB xm xd, .slice xF xk xe]) ∧ Hid (Rd wr Z 3 xB xm (kcells xss)) ∧ Hid (Rd wr Z 1 xF xk (icells xfs)) ∧ Hid ((xss.take k).all validK = true))
          case atStart => exact ⟨0, S2, rfl, rfl, Nat.zero_le _, hS2b, Lib.hid (by omega), Lib.hid (by rw [HT2.out]; simp [subL, jo]), HB4, HX4, HRs4, HRf4, Lib.hid rfl⟩
          case round =>
            clear HB4 HX4 HRs4 HRf4 HT2 hS2b
            obtain ⟨k, T, rfl, rfl, hk, hTb, HG2, HT, HB, HX, HRs, HRf, HA2⟩ := hrel
            have x3 := (HX.out.cell 3).trans rfl
            have x4 := (HX.out.cell 4).trans rfl
            have hsZ := HX.out.lt
            by_cases hlt2 : k < xm
            · obtain ⟨b2, o2, hk2, rfl, hb2, hc⟩ := HRs.out.at Cn.cells 3 (fun _ => rfl) (by omega) k hlt2
              have c0 := hc 0 _ (by omega) rfl
              have c1 := hc 1 _ (by omega) rfl
              have c2 := hc 2 _ (by omega) rfl
              rw [Nat.add_zero] at c0
              clear hc
              have hzk := HSS.out xss[k] (List.getElem_mem hk2)
              have HST := Lib.hid (sub_take xss k hk2)
              have HAK : Hid (validK xss[k] = true → (xss.take (k + 1)).all validK = true) := Lib.hid fun h => all_take hk2 HA2.out h
              have HAN : Hid (validK xss[k] = false → V = ⟨#[]⟩) := Lib.hid fun h => HNO.out (by
                rw [HOK3.out, List.all_eq_false]; exact ⟨xss[k], List.getElem_mem hk2, by simp [h]⟩)
              generalize xss[k] = z at *
              obtain ⟨zk, zi, zt⟩ := z
              dsimp only at c0 c1 c2
              have hZS := textK_size ⟨zk, zi, zt⟩ hzk.1
              have HKT : Hid (∀ W, Calls Tryd.prog 32 #[.agg #[.int .i64 zk, .int .i64 zi, .string zt]] W fun e w' => e = .returned (.string (textK ⟨zk, zi, zt⟩)) ∧ Below W.heap.size W w') := Lib.hid (fun W => text_const zk zi zt hzk.1 hzk.2 W)
              have HZY : Hid (validK ⟨zk, zi, zt⟩ = true → ((textK ⟨zk, zi, zt⟩).toList == []) = false) := Lib.hid fun h => by simpa using textK_yes h
              have HZN : Hid (validK ⟨zk, zi, zt⟩ = false → ((textK ⟨zk, zi, zt⟩).toList == []) = true) := Lib.hid fun h => by rw [textK_no h, mk_list []]; rfl
              clear hzk
              generalize textK ⟨zk, zi, zt⟩ = tz at *
              go_wp2_with fail
              refine (HKT.out wr).mono ?_
              rintro e w5 ⟨rfl, hb5⟩
              have HX5 := Lib.hid (HX.out.below hb5 hsZ)
              have HRs5 := Lib.hid (HRs.out.below (hb5.mono (Nat.le_of_lt hsZ)))
              have HRf5 := Lib.hid (HRf.out.below (hb5.mono (Nat.le_of_lt hsZ)))
              have HB5 := Lib.hid (HB.out.trans (hb5.mono (by omega)))
              clear hb5 HX HRs HRf HB HKT c0 c1 c2 x3 x4
              cases hv : validK ⟨zk, zi, zt⟩ with
              | false =>
                have t1 := HZN.out hv
                have hz : V = ⟨#[]⟩ := HAN.out hv
                subst hz
                clear hv
                go_wp2
                go_ret
                exact ⟨by rfl, HB5.out⟩
              | true =>
                have t1 := HZY.out hv
                have HA5 := Lib.hid (HAK.out hv)
                clear hv HZY HZN HAN HAK
                have h2 : (⟨#[44, 32]⟩ : ByteArray).size = 2 := rfl
                rcases Nat.eq_zero_or_pos k with k0 | k0
                · have t2 : decide ((0 : Int) < (k : Int)) = false := decide_eq_false (by omega)
                  have s1 := app_size T tz
                  have HT5 : Hid ((T ++ tz).toList = P2 ++ subL (xss.take (k + 1))) := Lib.hid (by rw [toList_append, HT.out, HST.out, if_pos k0, k0]; simp [subL, jo])
                  subst k0
                  go_wp2
                  go_roundg (xm - (0 + 1))
                  case measure => have := HG2.out; omega
                  case rel => exact ⟨0 + 1, T ++ tz, by go_num, rfl, by omega, by omega, Lib.hid rfl, HT5, HB5, HX5, HRs5, HRf5, HA5⟩
                · have t2 : decide ((0 : Int) < (k : Int)) = true := decide_eq_true (by omega)
                  have s1 := app_size T ⟨#[44, 32]⟩
                  have s2 := app_size (T ++ ⟨#[44, 32]⟩) tz
                  have HT5 : Hid (((T ++ ⟨#[44, 32]⟩) ++ tz).toList = P2 ++ subL (xss.take (k + 1))) := Lib.hid (by rw [toList_append, toList_append, HT.out, HST.out, if_neg (by omega), mk_list [44, 32]]; simp only [List.append_assoc])
                  go_wp2
                  go_roundg (xm - (k + 1))
                  case measure => have := HG2.out; omega
                  case rel => exact ⟨k + 1, (T ++ ⟨#[44, 32]⟩) ++ tz, by go_num, rfl, by omega, by omega, Lib.hid rfl, HT5, HB5, HX5, HRs5, HRf5, HA5⟩
            · obtain rfl : k = xm := by omega
              have hall : xss.take k = xss := List.take_of_length_le (by have := HSL.out; omega)
              rw [hall] at HT HA2
              have HAI := Lib.hid (HYES.out (by rw [HOK3.out]; exact HA2.out))
              have HT6 : Hid ((T ++ ⟨#[125]⟩).toList = (P2 ++ (subL xss ++ [125])) ++ fromL (xfs.take 0)) := Lib.hid (by rw [toList_append, HT.out, mk_list [125]]; simp [fromL])
              have HLN2 : Hid (textL 0 (ls.take (i + 1)) = (P2 ++ (subL xss ++ [125])) ++ (fromL xfs ++ [10])) := Lib.hid (by rw [HLN.out]; simp only [List.append_assoc])
              have s1 := app_size T ⟨#[125]⟩
              have h1 : (⟨#[125]⟩ : ByteArray).size = 1 := rfl
              clear HLN HT HA2 hall HOK3 HYES HNO
              generalize P2 ++ (subL xss ++ [125]) = P3 at *
              go_upto_region 24 with (fail)
              generalize hT2 : T ++ ⟨#[125]⟩ = T2 at *
              have hT2b : T2.size ≤ 11559510152 := by omega
              clear hT2 s1 h1 hTb x3 x4 hlt2
              go_loopg [3, 9] xk (fun gk u3 u9 wr => ∃ (q : Nat) (T : ByteArray), u9 = .int .i64 q ∧ u3 = .string T ∧ q ≤ xk ∧ T.size ≤ 11559510152 + 27 * q ∧ Hid (gk = xk - q) ∧ Hid (T.toList = P3 ++ fromL (xfs.take q)) ∧ Hid (Below R w wr) ∧ Hid (Blk wr Z 66 [.string xp, .slice xA xn xc, .int .i64 xr, .slice xB k xd, .slice xF xk xe]) ∧ Hid (Rd wr Z 1 xF xk (icells xfs)))
              case atStart => exact ⟨0, T2, rfl, rfl, Nat.zero_le _, hT2b, Lib.hid (by omega), HT6, HB, HX, HRf⟩
              case round =>
                clear HT6 HB HX HRs HRf hT2b hsZ
                obtain ⟨q, T, rfl, rfl, hq, hTb, HG3, HT, HB, HX, HRf⟩ := hrel
                have x4 := (HX.out.cell 4).trans rfl
                have hsZ := HX.out.lt
                by_cases hlt3 : q < xk
                · obtain ⟨b3, o3, hk3, rfl, hb3, c0⟩ := HRf.out.ints q hlt3
                  have hfi := HFS.out xfs[q] (List.getElem_mem hk3)
                  have HST := Lib.hid (from_take xfs q hk3)
                  generalize xfs[q] = f at *
                  have hFb := it_size f hfi
                  have HKD := Lib.hid (fun W => dec_ref f hfi W)
                  clear hfi
                  generalize it f = tf at *
                  have h2 : (⟨#[44, 32]⟩ : ByteArray).size = 2 := rfl
                  have h6 : (⟨#[32, 102, 114, 111, 109, 32]⟩ : ByteArray).size = 6 := rfl
                  rcases Nat.eq_zero_or_pos q with k0 | k0
                  · have s1 := app_size T ⟨#[32, 102, 114, 111, 109, 32]⟩
                    have s2 := app_size (T ++ ⟨#[32, 102, 114, 111, 109, 32]⟩) tf
                    have HT5 : Hid (((T ++ ⟨#[32, 102, 114, 111, 109, 32]⟩) ++ tf).toList = P3 ++ fromL (xfs.take (q + 1))) := Lib.hid (by rw [toList_append, toList_append, HT.out, HST.out, if_pos k0, k0, mk_list [32, 102, 114, 111, 109, 32]]; simp [fromL])
                    subst k0
                    rw [Nat.add_zero] at c0
                    go_wp2_with fail
                    refine (HKD.out wr).mono ?_
                    rintro e w5 ⟨rfl, hb5⟩
                    have HX5 := Lib.hid (HX.out.below hb5 hsZ)
                    have HRf5 := Lib.hid (HRf.out.below (hb5.mono (Nat.le_of_lt hsZ)))
                    have HB5 := Lib.hid (HB.out.trans (hb5.mono (by omega)))
                    clear hb5 HX HRf HB HKD c0 x4
                    go_wp2
                    go_roundg (xk - (0 + 1))
                    case measure => have := HG3.out; omega
                    case rel => exact ⟨0 + 1, _, by go_num, rfl, by omega, by omega, Lib.hid rfl, HT5, HB5, HX5, HRf5⟩
                  · have t2 : ((q : Int) == 0) = false := by simpa using (by omega : ¬ (q : Int) = 0)
                    have s1 := app_size T ⟨#[44, 32]⟩
                    have s2 := app_size (T ++ ⟨#[44, 32]⟩) tf
                    have HT5 : Hid (((T ++ ⟨#[44, 32]⟩) ++ tf).toList = P3 ++ fromL (xfs.take (q + 1))) := Lib.hid (by rw [toList_append, toList_append, HT.out, HST.out, if_neg (by omega), mk_list [44, 32]]; simp only [List.append_assoc])
                    go_wp2_with fail
                    refine (HKD.out wr).mono ?_
                    rintro e w5 ⟨rfl, hb5⟩
                    have HX5 := Lib.hid (HX.out.below hb5 hsZ)
                    have HRf5 := Lib.hid (HRf.out.below (hb5.mono (Nat.le_of_lt hsZ)))
                    have HB5 := Lib.hid (HB.out.trans (hb5.mono (by omega)))
                    clear hb5 HX HRf HB HKD c0 x4
                    go_wp2
                    go_roundg (xk - (q + 1))
                    case measure => have := HG3.out; omega
                    case rel => exact ⟨q + 1, _, by go_num, rfl, by omega, by omega, Lib.hid rfl, HT5, HB5, HX5, HRf5⟩
                · obtain rfl : q = xk := by omega
                  have hall : xfs.take q = xfs := List.take_of_length_le (by have := HFL.out; omega)
                  rw [hall] at HT
                  have HT6 : Hid ((T ++ ⟨#[10]⟩).toList = textL 0 (ls.take (i + 1))) := Lib.hid (by rw [toList_append, HT.out, HLN2.out, mk_list [10], List.append_assoc])
                  have s1 := app_size T ⟨#[10]⟩
                  have h1 : (⟨#[10]⟩ : ByteArray).size = 1 := rfl
                  clear HLN2 HT hall
                  go_wp2
                  go_roundg (n - (i + 1))
                  case measure => have := HG.out; omega
                  case rel => exact ⟨i + 1, T ++ ⟨#[10]⟩, by go_num, rfl, by omega, Lib.hid rfl, HT6, HB, HAI⟩
    · obtain rfl : i = n := by omega
      have hall : ls.take i = ls := List.take_of_length_le (by have := HN.out; omega)
      rw [hall] at HS HA
      have hz : V = S := by rw [HV.out, proofS_yes HA.out, ← HS.out]; exact (bytes_eq rfl).symm
      subst hz
      go_wp2
      go_ret
      exact ⟨by rfl, HB.out⟩
end Go.Proofs.YtjcgkplphiedjaaDoorT

namespace Go.Proofs.YtjcgkplphiedjaaDoorT
open Go.RowKit Go.Sort

theorem Tryd.sizeByte : (Tryd.prog.info? 5).map (·.size) = some 1 := by kernel_rfl

set_option maxHeartbeats 4000000 in
set_option maxRecDepth 100000 in
theorem grow_fresh (B b n : Nat) (w : World) (hB : B ≤ b) (hbk : w.heap[b]? = some (.cells #[.pointer (some ⟨b, 0, none⟩), .slice none 0 0] 59 (0, 0))) (hBw : B ≤ w.heap.size) (hn : n ≤ 281474976710656) :
    Calls Tryd.prog 87 #[.pointer (some ⟨b, 0, none⟩), .int .i64 n] w fun e w' => e = .returned (.tuple #[]) ∧ (Lib.BuilderAt 59 5 B b (.pointer (some ⟨b, 0, none⟩)) [] w' ∧ Below B w w') := by
  obtain ⟨cs, hrun, hle, hmax⟩ := Lib.run_makeNoZero (P := Tryd.prog) w.drew #[3] 57 5 Tryd.underlying57 n hn
  have hw : IntKind.i64.wrap (IntKind.i64.wrap 0 + (n : Int)) = n := by
    rw [IntKind.wrap_i64, IntKind.wrap_i64]
    omega
  have hcall : (callFunc 102 #[.int .i64 (n : Int)]).run Tryd.prog w.drew = .ok (.value (.slice (some ⟨w.drew.heap.size, 0, none⟩) n cs.size)) (w.drew.drew.drew.alloc (.cells cs 5)) := by
    rw [run_callFunc_extern Tryd.func102 (by kernel_rfl) (by kernel_rfl) (by kernel_rfl) (e := Extern.BytealgMakeNoZero.makeNoZero #[3] #[57]) (by kernel_rfl), hrun]
    rfl
  have hlt : b < w.heap.size := heap_lt hbk
  have c1 : w.drew.cell? ⟨b, 1, none⟩ = some (.slice none 0 0) := by
    have : w.drew.heap[b]? = _ := hbk
    rw [Lib.cell_of_heap this]; rfl
  have c2 : (w.alloc (.cells cs 5)).cell? ⟨b, 1, none⟩ = some (.slice none 0 0) := by
    rw [Lib.cell_of_heap ((Lib.alloc_old w _ b hlt).trans hbk)]; rfl
  have f2 : (w.alloc (.cells cs 5)).frozen? ⟨b, 1, none⟩ = false := Lib.frozen_of_heap ((Lib.alloc_old w _ b hlt).trans hbk) 1
  have hcopy : ∀ W : World, (Builtin.copy_ #[57, 57] 3 #[.slice (some ⟨w.heap.size, 0, none⟩) 0 cs.size, .slice none 0 0]).run Tryd.prog W = .ok (goInt 0) W :=
    fun W => run_copy_none W 57 57 3 5 _ _ 0 cs.size 0 0 Tryd.underlying57 Tryd.sizeByte rfl
  clear hw hlt
  go_enter Tryd.func87, Tryd.ntmps87
  go_wp2
  have hfin := Lib.grown_fresh (T := 59) (e := 5) (cs := cs) hB hbk hBw (hmax (by unfold maxLen; omega)) (by decide)
  go_region
  all_goals (go_wp2; go_end0; exact ⟨rfl, hfin⟩)

set_option maxHeartbeats 4000000 in
set_option maxRecDepth 100000 in
theorem Grow_fresh (b n : Nat) (w : World) (hbk : w.heap[b]? = some (.cells #[.pointer none, .slice none 0 0] 59 (0, 0))) (hn : n ≤ 281474976710656) :
    Calls Tryd.prog 60 #[.pointer (some ⟨b, 0, none⟩), .int .i64 n] w fun e w' => e = .returned (.tuple #[]) ∧ (BU b [] w' ∧ Below b w w') := by
  have hlt : b < w.heap.size := heap_lt hbk
  have hbk1 : (w.setCell ⟨b, 0, none⟩ (.pointer (some ⟨b, 0, none⟩))).heap[b]? = some (.cells #[.pointer (some ⟨b, 0, none⟩), .slice none 0 0] 59 (0, 0)) := by
    simp [World.setCell, Array.getElem?_modify, hbk]
  have c1 : (w.setCell ⟨b, 0, none⟩ (.pointer (some ⟨b, 0, none⟩))).cell? ⟨b, 1, none⟩ = some (.slice none 0 0) := by rw [Lib.cell_of_heap hbk1]; rfl
  have hb1 : Below b w (w.setCell ⟨b, 0, none⟩ (.pointer (some ⟨b, 0, none⟩))) := (Below.refl b w).setCell (p := ⟨b, 0, none⟩) (Nat.le_refl _) _
  have hU : Lib.BuilderAt 59 5 b b (.pointer (some ⟨b, 0, none⟩)) [] (w.setCell ⟨b, 0, none⟩ (.pointer (some ⟨b, 0, none⟩))) := ⟨Nat.le_refl _, .slice none 0 0, hbk1, World.ownsRow_nil _ _ _ _, by simp [Value.ownBlock]⟩
  have hs : b ≤ (w.setCell ⟨b, 0, none⟩ (.pointer (some ⟨b, 0, none⟩))).heap.size := Nat.le_of_lt (heap_lt hbk1)
  go_enter Tryd.func60, Tryd.ntmps60
  go_wp2_with (go_at_call 49; refine (YtjcgkplphiedjaaDoor.copyCheck_fresh b w (by rw [Lib.cell_of_heap hbk]; rfl) (by simp [World.shape?, hbk]) (Lib.frozen_of_heap hbk 0)).mono ?_; rintro e w' ⟨rfl, rfl⟩)
  generalize w.setCell ⟨b, 0, none⟩ (.pointer (some ⟨b, 0, none⟩)) = w1 at *
  have HU := Lib.hid hU
  have HB1 := Lib.hid hb1
  have HK := Lib.hid hbk1
  have HSz := Lib.hid hs
  have d1 : w1.drew.cell? ⟨b, 1, none⟩ = some (.slice none 0 0) := c1
  clear hbk hlt hU hb1 hbk1 hs
  go_region
  all_goals go_wp2_with (go_at_call 87; refine (grow_fresh b b n w1.drew (Nat.le_refl _) HK.out HSz.out hn).mono ?_; rintro e w' ⟨rfl, h1, h2⟩)
  all_goals first
    | (go_end0; exact ⟨rfl, h1, HB1.out.drew.trans h2⟩)
    | (go_end0; exact ⟨rfl, HU.out.drew, HB1.out.drew⟩)

/-- Texts that lie in a slice, joined. -/
def lens (xs : List ByteArray) : Nat := (xs.map ByteArray.size).sum
theorem lens_take (xs : List ByteArray) (k : Nat) (h : k < xs.length) : lens (xs.take (k + 1)) = lens (xs.take k) + xs[k].size := by
  unfold lens
  rw [take_snoc xs k h, List.map_append, List.sum_append]
  simp
theorem lens_le (xs : List ByteArray) (hs : ∀ x ∈ xs, x.size ≤ 1024) : lens xs ≤ xs.length * 1024 := by
  induction xs with
  | nil => simp [lens]
  | cons x xs ih =>
    have h1 := ih fun y hy => hs y (List.mem_cons_of_mem _ hy)
    have h2 := hs x (by simp)
    have e : lens (x :: xs) = x.size + lens xs := by simp [lens]
    rw [e, List.length_cons, Nat.succ_mul]; omega
theorem jo_next (xs : List ByteArray) (k : Nat) (h : k < xs.length) (hk : 0 < k) : jo ((xs.take (k + 1)).map (·.toList)) = jo ((xs.take k).map (·.toList)) ++ ([44, 32] ++ xs[k].toList) := by
  rw [jo_take (·.toList) xs k h, if_neg (by omega)]

set_option maxRecDepth 20000 in
set_option maxHeartbeats 8000000 in
theorem join_any (A : Option Addr) (n c : Nat) (xs : List ByteArray) (w : World) (hr : Rd w w.heap.size 1 A n (scells xs)) (hcap : n ≤ c) (hn : n ≤ 1048576) (hs : ∀ x ∈ xs, x.size ≤ 1024) :
    Calls Tryd.prog 35 #[.slice A n c, .string ⟨#[44, 32]⟩] w fun e w' => e = .returned (.string ⟨(jo (xs.map (·.toList))).toArray⟩) ∧ Below w.heap.size w w' := by
  have hlen : xs.length = n := by have := hr.1; rw [scells_length] at this; omega
  have HR := Lib.hid hr
  have HS := Lib.hid hs
  have HN := Lib.hid hlen
  clear hr hs hlen
  have h2 : (⟨#[44, 32]⟩ : ByteArray).size = 2 := rfl
  obtain ⟨V, hV⟩ : ∃ V, V = jo (xs.map (·.toList)) := ⟨_, rfl⟩
  rw [← hV]
  have HV := Lib.hid hV
  clear hV
  go_enter Tryd.func35, Tryd.ntmps35
  rcases Nat.eq_zero_or_pos n with h0 | h0
  · subst h0
    have hx : xs = [] := List.eq_nil_of_length_eq_zero HN.out
    have hz : V = [] := by rw [HV.out, hx]; rfl
    subst hz
    go_wp2
    go_ret
    exact ⟨rfl, Below.refl _ _⟩
  have t0 : ((n : Int) == 0) = false := by simpa using (by omega : ¬ (n : Int) = 0)
  by_cases h1 : n = 1
  · subst h1
    obtain ⟨b, o, hk, rfl, hb, c0⟩ := HR.out.str 0 (by omega)
    have hz : V = xs[0].toList := by
      rw [HV.out]
      match xs, HN.out with
      | [x], _ => exact jo_one _
    have HE : Hid ((⟨V.toArray⟩ : ByteArray) = xs[0]) := Lib.hid (by rw [hz]; exact (bytes_eq rfl).symm)
    rw [Nat.add_zero] at c0
    rw [HE.out]
    generalize xs[0] = x at *
    clear hz
    go_wp2
    go_ret
    exact ⟨rfl, Below.refl _ _⟩
  have t1 : ((n : Int) == 1) = false := by simpa using (by omega : ¬ (n : Int) = 1)
  have t2 : ¬ ((9223372036854775807 : Int) / ((n : Int) - 1) ≤ 2) := by
    have : (3 : Int) ≤ 9223372036854775807 / ((n : Int) - 1) := (Int.le_ediv_iff_mul_le (by omega)).2 (by omega)
    omega
  have t3 : decide ((9223372036854775807 : Int) / ((n : Int) - 1) ≤ 2) = false := decide_eq_false t2
  clear t2
  go_upto_region 12 with (fail)
  have hlb : lens xs ≤ 1048576 * 1024 := by
    have := lens_le xs HS.out
    rw [HN.out] at this
    omega
  go_loopg [5, 41] n (fun gk u5 u41 wr => ∃ (k q : Nat), u41 = .int .i64 k ∧ u5 = .int .i64 q ∧ k ≤ n ∧ w = wr ∧ Hid (gk = n - k) ∧ q ≤ 2097152 + 1024 * k ∧ Hid (q = 2 * (n - 1) + lens (xs.take k)))
  case atStart => exact ⟨0, 2 * (n - 1), rfl, by go_num, Nat.zero_le _, rfl, Lib.hid (by omega), by omega, Lib.hid (by simp [lens])⟩
  case round =>
    obtain ⟨k, q, rfl, rfl, hk, rfl, HG, hq, HQ⟩ := hrel
    by_cases hlt : k < n
    · obtain ⟨b, o, hk1, rfl, hb, c0⟩ := HR.out.str k hlt
      have hx := HS.out xs[k] (List.getElem_mem hk1)
      have HQ2 : Hid (q + xs[k].size = 2 * (n - 1) + lens (xs.take (k + 1))) := Lib.hid (by rw [lens_take xs k hk1, HQ.out]; omega)
      generalize xs[k] = x at *
      go_wp2
      go_roundg (n - (k + 1))
      case measure => have := HG.out; omega
      case rel => exact ⟨k + 1, q + x.size, by go_num, by go_num, by omega, rfl, Lib.hid rfl, by omega, HQ2⟩
    · obtain rfl : k = n := by omega
      obtain ⟨b, o, hk1, rfl, hb, c0⟩ := HR.out.str 0 h0
      rw [Nat.add_zero] at c0
      clear HQ
      have hba := (Below.refl w.heap.size w).alloc (Nat.le_refl _) (.cells #[.pointer none, .slice none 0 0] 59)
      have hgx := heap_alloc_new w (.cells #[.pointer none, .slice none 0 0] 59)
      go_upto_region 19 with (fail)
      generalize World.alloc _ _ = w1 at *
      have HR1 := Lib.hid (HR.out.below hba)
      have HB1 := Lib.hid hba
      have HX1 := Lib.hid hgx
      have c1 := (hba.cell (p := ⟨b, o, none⟩) hb).trans c0
      clear hba hgx c0 HR
      generalize hR : w.heap.size = R at *
      have HRR := Lib.hid hR
      clear hR
      clear t0 t1 t3
      have hx0 := HS.out xs[0] (List.getElem_mem hk1)
      have HJ0 : Hid (jo ((xs.take (0 + 1)).map (·.toList)) = xs[0].toList) := Lib.hid (by rw [jo_take (·.toList) xs 0 hk1, if_pos rfl])
      generalize hx00 : xs[0] = x0 at *
      clear hx00
      go_wp2_with fail
      refine (Grow_fresh R q w1 HX1.out (by omega)).mono ?_
      rintro e w2 ⟨rfl, h2', hb2⟩
      have HU2 := Lib.hid h2'
      have HB2 := Lib.hid (HB1.out.trans hb2)
      have HR2 := Lib.hid (HR1.out.below hb2)
      have c2 := (hb2.cell (p := ⟨b, o, none⟩) hb).trans c1
      clear h2' hb2 HB1 HX1 HR1 c1
      go_wp2_with fail
      refine (wStr R [] x0 w2 HU2.out (by simp only [List.length_nil]; omega)).mono ?_
      rintro e w3 ⟨rfl, h3, hb3, _⟩
      have HU3 : Hid (BU R (jo ((xs.take (0 + 1)).map (·.toList))) w3) := Lib.hid (by rw [HJ0.out]; simpa using h3)
      have HB3 := Lib.hid (HB2.out.trans hb3)
      have HR3 := Lib.hid (HR2.out.below hb3)
      clear h3 hb3 HU2 HB2 HR2 c2
      go_upto_region 22 with (fail)
      go_loopg [65] (k - 1) (fun gk u65 wr => ∃ (j : Nat), u65 = .int .i64 j ∧ j ≤ k - 1 ∧ Hid (gk = k - 1 - j) ∧ Hid (BU R (jo ((xs.take (j + 1)).map (·.toList))) wr) ∧ Hid (Below R w wr) ∧ Hid (Rd wr R 1 (some ⟨b, o, none⟩) k (scells xs)))
      case atStart => exact ⟨0, rfl, Nat.zero_le _, Lib.hid (by omega), HU3, HB3, HR3⟩
      case round =>
        clear HU3 HB3 HR3
        obtain ⟨j, rfl, hj, HG2, HU, HB, HRx⟩ := hrel
        have hjl : (jo ((xs.take (j + 1)).map (·.toList))).length ≤ 1048576 * 1026 := by
          have h1 := jo_length 1024 ((xs.take (j + 1)).map (·.toList)) (by
            intro y hy
            obtain ⟨x, hx, rfl⟩ := List.mem_map.1 hy
            rw [← toList_size]; exact HS.out x (List.mem_of_mem_take hx))
          rw [List.length_map, List.length_take] at h1
          have h2 : min (j + 1) xs.length * (1024 + 2) ≤ 1048576 * (1024 + 2) := Nat.mul_le_mul_right _ (by omega)
          omega
        by_cases hlt2 : j < k - 1
        · obtain ⟨b', o', hk2, e', hb', c0⟩ := HRx.out.str (j + 1) (by omega)
          simp only [Option.some.injEq, Addr.mk.injEq, and_true] at e'
          obtain ⟨rfl, rfl⟩ := e'
          have hx := HS.out xs[j + 1] (List.getElem_mem hk2)
          have HJ : Hid (jo ((xs.take (j + 1 + 1)).map (·.toList)) = jo ((xs.take (j + 1)).map (·.toList)) ++ ([44, 32] ++ xs[j + 1].toList)) := Lib.hid (jo_next xs (j + 1) hk2 (by omega))
          have c0 : wr.cell? ⟨b, o + 1 + j, none⟩ = some (.string xs[j + 1]) := by rw [← c0]; congr 2; omega
          generalize xs[j + 1] = x at *
          generalize jo ((xs.take (j + 1)).map (·.toList)) = J at *
          have ks := fun W (hW : BU R J W) => wStr R J ⟨#[44, 32]⟩ W hW (by omega)
          rw [mk_list [44, 32]] at ks
          go_wp2_with fail
          refine (ks wr HU.out).mono ?_
          rintro e w5 ⟨rfl, h5, hb5, _⟩
          have HU5 := Lib.hid h5
          have HB5 := Lib.hid (HB.out.trans hb5)
          have HR5 := Lib.hid (HRx.out.below hb5)
          clear h5 hb5 HU HB HRx ks c0
          go_wp2_with fail
          refine (wStr R _ x w5 HU5.out (by simp only [List.length_append, List.length_cons, List.length_nil]; omega)).mono ?_
          rintro e w6 ⟨rfl, h6, hb6, _⟩
          have HU6 : Hid (BU R (jo ((xs.take (j + 1 + 1)).map (·.toList))) w6) := Lib.hid (by rw [HJ.out]; simpa using h6)
          have HB6 := Lib.hid (HB5.out.trans hb6)
          have HR6 := Lib.hid (HR5.out.below hb6)
          clear h6 hb6 HU5 HB5 HR5
          go_wp2
          go_roundg (k - 1 - (j + 1))
          case measure => have := HG2.out; omega
          case rel => exact ⟨j + 1, by go_num, by omega, Lib.hid rfl, HU6, HB6, HR6⟩
        · have hall : xs.take (j + 1) = xs := List.take_of_length_le (by have := HN.out; omega)
          rw [hall, ← HV.out] at HU
          go_wp2_with fail
          refine (readB R V wr HU.out.is).mono ?_
          rintro e w6 ⟨rfl, hb6⟩
          have HB6 := Lib.hid (HB.out.trans hb6)
          clear hb6 HB
          go_wp2
          go_ret
          exact ⟨by rfl, by rw [HRR.out]; exact HB6.out⟩
end Go.Proofs.YtjcgkplphiedjaaDoorT
