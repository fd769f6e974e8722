/- A proof's text, the program's. -/
import Derived.Test.YtjcgkplphiedjaaDoorTG14
import Derived.Test.YtjcgkplphiedjaaDoorTG15
namespace Go.Proofs.YtjcgkplphiedjaaDoorT
open Go.RowKit Go.Sort

theorem itoa_w (n : Int) (h : inI n) (w : World) (hp : Pow w) :
    Calls Tryd.prog 26 #[.int .i64 n] w fun e w' => e = .returned (.string (it n)) ∧ Below w.heap.size w w' := YtjcgkplphiedjaaDoor.itoa_any n h w hp
theorem wStrI (R : Nat) (l : List UInt8) (s : ByteArray) (w : World) (h : Lib.IsBuilder 59 5 R R (Lib.byteCells l) w) (hl : l.length + s.size ≤ 140737488355328) :
    Calls Tryd.prog 28 #[.pointer (some ⟨R, 0, none⟩), .string s] w fun e w' => e = .returned (.tuple #[.int .i64 s.size, .nilIface]) ∧ (BU R (l ++ s.toList) w' ∧ Below R w w' ∧ Fz w w') := by
  refine (write_fz R R (Lib.byteCells l) s w h (by rw [Lib.byteCells_length]; omega) (Nat.le_of_lt (YtjcgkplphiedjaaDoor.isb_lt h))).mono ?_
  rintro e w' ⟨rfl, h1, h2, h3⟩
  refine ⟨rfl, ?_, h2, h3⟩
  unfold BU
  rw [Lib.byteCells_append, ByteArray.toList_eq]
  exact h1
theorem BU.grown {R base size n : Nat} {l : List UInt8} {w w' : World} {v : Value} {xs : List Value} (h : BU R l w) (ho : w.ownsRow base 9 size v n xs) (hg : w.grownBy w' v.ownBlock) : BU R l w' := by
  obtain ⟨hB, u, hb, hown, hne⟩ := h
  have hbk : Blk w R 59 [.pointer (some ⟨R, 0, none⟩), u] := hb
  exact ⟨hB, u, (hg.block R (heap_lt hb) (own_blk_ne ho hbk (by decide))).trans hb, own_kept_types hown ho (by decide) hg, hne⟩
theorem own_cap {w : World} {base e size n c : Nat} {A : Option Addr} {xs : List Value} (h : w.ownsRow base e size (.slice A n c) n xs) : n ≤ c := by
  rcases h.2 with ⟨hv, rfl⟩ | ⟨g, cap, cur, hv, _, _, hnc, _⟩
  · omega
  · simp only [Value.slice.injEq] at hv
    omega

set_option maxRecDepth 20000 in
set_option maxHeartbeats 16000000 in
theorem text_why (A : Option Addr) (n c : Nat) (ls : List Ln) (w : World) (hr : Rd w w.heap.size 5 A n (ncells ls)) (hok : ∀ x ∈ ls, Ln.ok w x ∧ x.nice) (hw : wts ls ≤ 1048576) (hp : Pow w) :
    Calls Tryd.prog 14 #[.slice A n c] w fun e w' => e = .returned (.string (proofS ls)) ∧ Below w.heap.size w w' := by
  obtain ⟨i0, hi0, hz0, hz1, hz2⟩ := info_parts Tryd.info9
  have hlen : ls.length = n := by have := hr.1; rw [ncells_length] at this; omega
  have hn : n ≤ 1048576 := by have := wts_length ls; omega
  have HL := Lib.hid hr
  have HK := Lib.hid hok
  have HW := Lib.hid hw
  have HN := Lib.hid hlen
  have HP := Lib.hid (PowB.of hp rfl)
  clear hr hok hw hlen hp
  obtain ⟨V, hV⟩ : ∃ V, V = proofS ls := ⟨_, rfl⟩
  rw [← hV]
  have HV := Lib.hid hV
  clear hV
  go_enter Tryd.func14, Tryd.ntmps14
  go_upto_region 3 with (fail)
  have HI := Lib.hid (Lib.fresh_isBuilder 59 5 w)
  have HB0 := Lib.hid ((Below.refl w.heap.size w).alloc (Nat.le_refl _) (.cells #[.pointer none, .slice none 0 0] 59))
  generalize World.alloc _ _ = w1 at *
  generalize hR : w.heap.size = R at *
  have HRR := Lib.hid hR
  clear hR
  go_loopg [16] n (fun gk u16 wr => ∃ (i : Nat), u16 = .int .i64 i ∧ i ≤ n ∧ Hid (gk = n - i) ∧ Hid (Lib.IsBuilder 59 5 R R (Lib.byteCells (textL 0 (ls.take i))) wr) ∧ Hid (Below R w wr) ∧ Hid ((ls.take i).all okL = true))
  case atStart => exact ⟨0, rfl, Nat.zero_le _, Lib.hid (by omega), Lib.hid (by simpa [textL, Lib.byteCells] using HI.out), HB0, Lib.hid rfl⟩
  case round =>
    clear HI HB0
    obtain ⟨i, rfl, hi, HG, HI, HB, HA⟩ := hrel
    have hsR : R < wr.heap.size := YtjcgkplphiedjaaDoor.isb_lt HI.out
    by_cases hlt : i < n
    · obtain ⟨b1, o1, hk1, rfl, hb1, hc⟩ := (HL.out.below HB.out).at Ln.cells 5 (fun _ => rfl) (by omega) i hlt
      have c0 := hc 0 _ (by omega) rfl
      have c1 := hc 1 _ (by omega) rfl
      have c2 := hc 2 _ (by omega) rfl
      have c3 := hc 3 _ (by omega) rfl
      have c4 := hc 4 _ (by omega) rfl
      rw [Nat.add_zero] at c0
      clear hc
      have hSb : (textL 0 (ls.take i)).length ≤ 10485760000 := textL_bound ls i (fun x hx => (HK.out x hx).2) HW.out
      have hx := HK.out ls[i] (List.getElem_mem hk1)
      have hwt := wts_mem (List.getElem_mem hk1)
      have HTL := Lib.hid (textL_take ls i hk1)
      have HNO : Hid (okL ls[i] = false → V = ⟨#[]⟩) := Lib.hid fun h => by rw [HV.out]; exact proofS_no hk1 h
      have HYES : Hid (okL ls[i] = true → (ls.take (i + 1)).all okL = true) := Lib.hid fun h => all_take hk1 HA.out h
      generalize ls[i] = x at *
      have HO := Lib.hid hx.1
      have hni := hx.2
      clear hx
      have hww : x.wt ≤ 1048576 := Nat.le_trans hwt HW.out
      clear hwt
      obtain ⟨xp, xA, xn, xc, xr, xB, xm, xd, xF, xk, xe, xxs, xss, xfs⟩ := x
      obtain ⟨hp, hxs, hss, hrr, hfs⟩ := hni
      dsimp only at c0 c1 c2 c3 c4 hp hxs hss hrr hfs
      have hRx := HO.out.a
      have hRs := HO.out.s
      have hRf := HO.out.f
      rw [HRR.out] at hRx hRs hRf
      dsimp only at hRx hRs hRf
      have HRx := Lib.hid hRx
      have HRs := Lib.hid hRs
      have HRf := Lib.hid hRf
      clear HO hRx hRs hRf
      have hsl : xss.length = xm := by have := HRs.out.1; rw [kcells_length] at this; omega
      have hfl : xfs.length = xk := by have := HRf.out.1; rw [icells_length] at this; omega
      have hm20 : xm ≤ 1048576 := by unfold Ln.wt at hww; dsimp only at hww; omega
      have hk20 : xk ≤ 1048576 := by unfold Ln.wt at hww; dsimp only at hww; omega
      have HSL := Lib.hid hsl
      have HFL := Lib.hid hfl
      have HSS := Lib.hid hss
      have HFS := Lib.hid hfs
      clear hww hsl hfl
      have hF := factT_size xp xxs fun z hz => (hxs z hz).1
      have hD := it_size (i : Int) ⟨by omega, by omega⟩
      have hE := it_size xr hrr
      have HKF := Lib.hid (fun W h hP => fact_print xp xA xn xc xxs W h hxs hp hP)
      have HKD := Lib.hid (fun W hP => itoa_w (i : Int) ⟨by omega, by omega⟩ W hP)
      have HKE := Lib.hid (fun W hP => itoa_w xr hrr W hP)
      have HLI : Hid (lineL i ⟨xp, xA, xn, xc, xr, xB, xm, xd, xF, xk, xe, xxs, xss, xfs⟩ = ((it (i : Int)).toList ++ ([58, 32] ++ (factT xp xxs).toList)) ++ (if xr = -1 then givenL else ([32, 98, 121, 32] ++ ((it xr).toList ++ [32, 123])) ++ (subL xss ++ ([125] ++ (fromL xfs ++ [10]))))) := Lib.hid rfl
      have HOK : Hid (okL ⟨xp, xA, xn, xc, xr, xB, xm, xd, xF, xk, xe, xxs, xss, xfs⟩ = (wellF xp xxs && (decide (xr = -1) || xss.all validK))) := Lib.hid rfl
      have HFY : Hid (wellF xp xxs = true → ((factT xp xxs).toList == []) = false) := Lib.hid fun h => by simpa using factT_yes h
      have HFN : Hid (wellF xp xxs = false → ((factT xp xxs).toList == []) = true) := Lib.hid fun h => by rw [factT_no h, mk_list []]; rfl
      clear hxs hss hfs hrr hp
      generalize lineL _ _ = LL at *
      generalize okL _ = ok at *
      generalize factT xp xxs = FT at *
      generalize it (i : Int) = D at *
      generalize it xr = E at *
      go_upto_region 5 with (fail)
      have HBA := Lib.hid ((Below.refl wr.heap.size wr).alloc (Nat.le_refl _) (.cells #[.string xp, .slice xA xn xc, .int .i64 xr, .slice xB xm xd, .slice xF xk xe] 66))
      have HX := Lib.hid (Blk.new wr 66 [.string xp, .slice xA xn xc, .int .i64 xr, .slice xB xm xd, .slice xF xk xe])
      clear c0 c1 c2 c3 c4
      generalize World.alloc _ _ = wa at *
      have HI1 := Lib.hid (YtjcgkplphiedjaaDoor.isb_below HI.out HBA.out)
      have HB1 := Lib.hid (HB.out.trans (HBA.out.mono (Nat.le_of_lt hsR)))
      clear HBA HI HB
      generalize hZ : wr.heap.size = Z at *
      clear hZ
      have x0 := (HX.out.cell 0).trans rfl
      have x1 := (HX.out.cell 1).trans rfl
      have x2 := (HX.out.cell 2).trans rfl
      have hs1 : R ≤ wa.heap.size := by have := HX.out.lt; omega
      go_wp2_with fail
      refine (HKF.out wa (HRx.out.up HB1.out hs1) (HP.out.below HB1.out).pow).mono ?_
      rintro e w2 ⟨rfl, hb2⟩
      have HX2 := Lib.hid (HX.out.below hb2 HX.out.lt)
      have HI2 := Lib.hid (YtjcgkplphiedjaaDoor.isb_below HI1.out hb2)
      have HB2 := Lib.hid (HB1.out.trans (hb2.mono hs1))
      clear hb2 hs1 HX HI1 HB1 HKF x0 x1 x2
      have x2 := (HX2.out.cell 2).trans rfl
      cases hwf : wellF xp xxs with
      | false =>
        have t1 := HFN.out hwf
        have hz : V = ⟨#[]⟩ := HNO.out (by rw [HOK.out, hwf]; rfl)
        subst hz
        clear hwf
        go_wp2
        go_ret
        exact ⟨by rfl, by rw [HRR.out]; exact HB2.out⟩
      | true =>
        have t1 := HFY.out hwf
        have HOK2 : Hid (ok = (decide (xr = -1) || xss.all validK)) := Lib.hid (by rw [HOK.out, hwf]; rfl)
        clear hwf HFY HFN HOK
        go_wp2_with fail
        refine (HKD.out w2 (HP.out.below HB2.out).pow).mono ?_
        rintro e w3 ⟨rfl, hb3⟩
        have hs2 := HX2.out.lt
        have HX3 := Lib.hid (HX2.out.below hb3 hs2)
        have HI3 := Lib.hid (YtjcgkplphiedjaaDoor.isb_below HI2.out hb3)
        have HB3 := Lib.hid (HB2.out.trans (hb3.mono (by omega)))
        clear hb3 hs2 HX2 HI2 HB2 HKD x2
        have h2 : (⟨#[58, 32]⟩ : ByteArray).size = 2 := rfl
        have s1 := app_size D ⟨#[58, 32]⟩
        have s2 := app_size (D ++ ⟨#[58, 32]⟩) FT
        have ks := fun W (hW : Lib.IsBuilder 59 5 R R (Lib.byteCells (textL 0 (ls.take i))) W) => wStrI R _ ((D ++ ⟨#[58, 32]⟩) ++ FT) W hW (by omega)
        have HT1 : Hid (textL 0 (ls.take i) ++ ((D ++ ⟨#[58, 32]⟩) ++ FT).toList = textL 0 (ls.take i) ++ (D.toList ++ ([58, 32] ++ FT.toList))) := Lib.hid (by rw [toList_append, toList_append, mk_list [58, 32], List.append_assoc])
        go_wp2_with fail
        refine (ks w3 HI3.out).mono ?_
        rintro e w4 ⟨rfl, h4, hb4, hf4⟩
        rw [HT1.out] at h4
        have HU4 := Lib.hid h4
        have HB4 := Lib.hid (HB3.out.trans hb4)
        have HX4 : Hid (Blk w4 Z 66 [.string xp, .slice xA xn xc, .int .i64 xr, .slice xB xm xd, .slice xF xk xe]) := Lib.hid (hf4 Z _ _ _ HX3.out (.inr ⟨by decide, by decide⟩))
        clear h4 hb4 hf4 HI3 HB3 HX3 ks HT1
        have x2 := (HX4.out.cell 2).trans rfl
        have hP1b : (textL 0 (ls.take i) ++ (D.toList ++ ([58, 32] ++ FT.toList))).length ≤ 10485768300 := by
          rw [toList_size] at hD hF
          simp only [List.length_append, List.length_cons, List.length_nil]; omega
        by_cases hg : xr = -1
        · have HAN := Lib.hid (HYES.out (by rw [HOK2.out, decide_eq_true hg]; rfl))
          have HLN : Hid ((textL 0 (ls.take i) ++ (D.toList ++ ([58, 32] ++ FT.toList))) ++ [32, 103, 105, 118, 101, 110, 10] = textL 0 (ls.take (i + 1))) := Lib.hid (by rw [HTL.out, HLI.out, if_pos hg, List.append_assoc]; rfl)
          clear HTL HLI HOK2 HYES HNO
          subst hg
          have h7 : (⟨#[32, 103, 105, 118, 101, 110, 10]⟩ : ByteArray).size = 7 := rfl
          have ks := fun W (hW : BU R (textL 0 (ls.take i) ++ (D.toList ++ ([58, 32] ++ FT.toList))) W) => wStr R _ ⟨#[32, 103, 105, 118, 101, 110, 10]⟩ W hW (by omega)
          rw [mk_list [32, 103, 105, 118, 101, 110, 10], HLN.out] at ks
          go_wp2_with fail
          refine (ks w4 HU4.out).mono ?_
          rintro e w5 ⟨rfl, h5, hb5, _⟩
          have HI5 := Lib.hid h5.is
          have HB5 := Lib.hid (HB4.out.trans hb5)
          clear h5 hb5 HU4 HB4 HX4 ks x2
          go_wp2
          go_roundg (n - (i + 1))
          case measure => have := HG.out; omega
          case rel => exact ⟨i + 1, by go_num, by omega, Lib.hid rfl, HI5, HB5, HAN⟩
        · have tg : (xr == -1) = false := by simpa using hg
          have HLN : Hid (textL 0 (ls.take (i + 1)) = (textL 0 (ls.take i) ++ (D.toList ++ ([58, 32] ++ FT.toList))) ++ (([32, 98, 121, 32] ++ (E.toList ++ [32, 123])) ++ (subL xss ++ ([125] ++ (fromL xfs ++ [10]))))) := Lib.hid (by rw [HTL.out, HLI.out, if_neg hg]; simp only [List.append_assoc])
          have HOK3 : Hid (ok = xss.all validK) := Lib.hid (by rw [HOK2.out, decide_eq_false hg]; rfl)
          clear HTL HLI HOK2 hg
          generalize textL 0 (ls.take i) ++ (D.toList ++ ([58, 32] ++ FT.toList)) = P1 at *
          have x3 := (HX4.out.cell 3).trans rfl
          go_upto_region 13 with (fail)
          have hsR4 := HU4.out.lt
          clear x2 x3 t1 tg s1 s2 h2 hF hD hSb hsR
          go_loopg [7, 39] xm (fun gk u7 u39 wr => ∃ (k : Nat), u39 = .int .i64 k ∧ k ≤ xm ∧ Hid (gk = xm - k) ∧ Hid (wr.ownsRow R 9 1 u7 k (scells ((xss.take k).map textK))) ∧ Hid (Below R w wr) ∧ Hid (BU R P1 wr) ∧ Hid (Blk wr Z 66 [.string xp, .slice xA xn xc, .int .i64 xr, .slice xB xm xd, .slice xF xk xe]) ∧ Hid ((xss.take k).all validK = true))
          case atStart => exact ⟨0, rfl, Nat.zero_le _, Lib.hid (by omega), Lib.hid (World.ownsRow_nil _ _ _ _), HB4, HU4, HX4, Lib.hid rfl⟩
          case round =>
            clear HB4 HU4 HX4 hsR4
            obtain ⟨k, rfl, hk, HG2, HO, HB, HU, HX, HA2⟩ := hrel
            have hsR := HU.out.lt
            by_cases hlt2 : k < xm
            · obtain ⟨b2, o2, hk2, rfl, hb2, hc⟩ := (HRs.out.below HB.out).at Cn.cells 3 (fun _ => rfl) (by omega) k hlt2
              have c0 := hc 0 _ (by omega) rfl
              have c1 := hc 1 _ (by omega) rfl
              have c2 := hc 2 _ (by omega) rfl
              rw [Nat.add_zero] at c0
              clear hc
              have hzk := HSS.out xss[k] (List.getElem_mem hk2)
              have HTK := Lib.hid (take_snoc xss k hk2)
              have HAK : Hid (validK xss[k] = true → (xss.take (k + 1)).all validK = true) := Lib.hid fun h => all_take hk2 HA2.out h
              have HAN : Hid (validK xss[k] = false → V = ⟨#[]⟩) := Lib.hid fun h => HNO.out (by
                rw [HOK3.out, List.all_eq_false]; exact ⟨xss[k], List.getElem_mem hk2, by simp [h]⟩)
              generalize xss[k] = z at *
              obtain ⟨zk, zi, zt⟩ := z
              dsimp only at c0 c1 c2
              have hZS := textK_size ⟨zk, zi, zt⟩ hzk.1
              have HKT : Hid (∀ W, Pow W → Calls Tryd.prog 34 #[.agg #[.int .i64 zk, .int .i64 zi, .string zt]] W fun e w' => e = .returned (.string (textK ⟨zk, zi, zt⟩)) ∧ Below W.heap.size W w') := Lib.hid (fun W hP => text_sym zk zi zt hzk.1 hzk.2 W hP)
              have HZY : Hid (validK ⟨zk, zi, zt⟩ = true → ((textK ⟨zk, zi, zt⟩).toList == []) = false) := Lib.hid fun h => by simpa using textK_yes h
              have HZN : Hid (validK ⟨zk, zi, zt⟩ = false → ((textK ⟨zk, zi, zt⟩).toList == []) = true) := Lib.hid fun h => by rw [textK_no h, mk_list []]; rfl
              clear hzk
              obtain ⟨A7, d7, rfl, hn7⟩ := own_slice HO.out
              generalize htz : textK ⟨zk, zi, zt⟩ = tz at *
              have HTZ := Lib.hid htz
              clear htz
              go_upto_region 15 with (fail)
              have HBA := Lib.hid ((Below.refl wr.heap.size wr).alloc (Nat.le_refl _) (.cells #[.int .i64 zk, .int .i64 zi, .string zt] 68))
              have HZ := Lib.hid (Blk.new wr 68 [.int .i64 zk, .int .i64 zi, .string zt])
              clear c0 c1 c2
              generalize World.alloc _ _ = wa at *
              have HO1 := Lib.hid (own_below HO.out HBA.out)
              have HU1 := Lib.hid (HU.out.below HBA.out)
              have HX1 := Lib.hid (HX.out.below HBA.out HX.out.lt)
              have HB1 := Lib.hid (HB.out.trans (HBA.out.mono (Nat.le_of_lt hsR)))
              clear HBA HO HU HX HB
              generalize hY : wr.heap.size = Y at *
              clear hY
              have y0 := (HZ.out.cell 0).trans rfl
              have y1 := (HZ.out.cell 1).trans rfl
              have y2 := (HZ.out.cell 2).trans rfl
              go_wp2_with fail
              refine (HKT.out wa (HP.out.below HB1.out).pow).mono ?_
              rintro e w5 ⟨rfl, hb5⟩
              have hown := own_below HO1.out hb5
              have HU5 := Lib.hid (HU1.out.below hb5)
              have HX5 := Lib.hid (HX1.out.below hb5 HX1.out.lt)
              have HB5 := Lib.hid (HB1.out.trans (hb5.mono (Nat.le_of_lt HU1.out.lt)))
              clear hb5 HO1 HU1 HX1 HB1 HKT HZ y0 y1 y2
              have hs5 := HU5.out.lt
              cases hv : validK ⟨zk, zi, zt⟩ with
              | false =>
                have t1 := HZN.out hv
                have hz : V = ⟨#[]⟩ := HAN.out hv
                subst hz
                clear hv
                go_wp2
                go_ret
                exact ⟨by rfl, by rw [HRR.out]; exact HB5.out⟩
              | true =>
                have t1 := HZY.out hv
                have HA5 := Lib.hid (HAK.out hv)
                clear hv HZY HZN HAN HAK
                go_wp2_with (at_builtin; go_must (refine wpList_append_own _ rfl _ _ 71 rfl R 9 i0 _ 1 16 Tryd.underlying71 hi0 hz0 hz1 hz2 rfl (by decide) _ _ _ rfl (hown.alloc _) ⟨w5.heap.size, 0, none⟩ 1 1 [.string tz] rfl rfl (fun j u h => new_cells _ _ _ j u h) (by intro u hu; simp at hu; subst hu; rfl) (by unfold maxLen; omega) (by omega) (by simp; omega) ?_))
                intro v7 w7 hown7 hg7 _
                have BL := Lib.hid ((HB5.out.alloc (Nat.le_of_lt hs5) (.cells #[.string tz] 9)).grown hg7 (by simp; omega) (fun q hq => (hown.lt q hq).1))
                have V7 : Hid (w7.ownsRow R 9 1 v7 (k + 1) (scells ((xss.take (k + 1)).map textK))) := Lib.hid (by rw [HTK.out]; simpa [scells, HTZ.out] using hown7)
                have X7 := Lib.hid ((HX5.out.alloc (.cells #[.string tz] 9)).grown hg7 (own_blk_ne hown HX5.out (by decide)))
                have U7 : Hid (BU R P1 w7) := Lib.hid (BU.grown (HU5.out.below ((Below.refl w5.heap.size w5).alloc (Nat.le_refl _) (.cells #[.string tz] 9))) (hown.alloc _) hg7)
                clear hown7 hown hg7 HB5 hs5 HX5 HU5
                go_wp2
                go_roundg (xm - (k + 1))
                case measure => have := HG2.out; omega
                case rel => exact ⟨k + 1, by go_num, by omega, Lib.hid rfl, V7, BL, U7, X7, HA5⟩
            · obtain rfl : k = xm := by omega
              have hall : xss.take k = xss := List.take_of_length_le (by have := HSL.out; omega)
              rw [hall] at HO HA2
              have HAI := Lib.hid (HYES.out (by rw [HOK3.out]; exact HA2.out))
              clear HA2 hall HOK3 HYES HNO hlt2
              obtain ⟨A7, d7, rfl, hn7⟩ := own_slice HO.out
              have hcap := own_cap HO.out
              have x2 := (HX.out.cell 2).trans rfl
              go_wp2_with fail
              refine (HKE.out wr (HP.out.below HB.out).pow).mono ?_
              rintro e w5 ⟨rfl, hb5⟩
              have HO5 := Lib.hid (own_below HO.out hb5)
              have HU5 := Lib.hid (HU.out.below hb5)
              have HX5 := Lib.hid (HX.out.below hb5 HX.out.lt)
              have HB5 := Lib.hid (HB.out.trans (hb5.mono (Nat.le_of_lt hsR)))
              clear hb5 HO HU HX HB HKE x2 hsR
              have HJ := Lib.hid (join_any A7 k d7 (xss.map textK) w5 (own_rd HO5.out) hcap hm20 (by
                intro x hx
                obtain ⟨z, hz', rfl⟩ := List.mem_map.1 hx
                have := textK_size z (HSS.out z hz').1
                omega))
              have HJE : Hid (jo ((xss.map textK).map (·.toList)) = subL xss) := Lib.hid (by rw [List.map_map]; rfl)
              rw [HJE.out] at HJ
              have hsub : (subL xss).length ≤ 1048576 * 1024 := by
                have h1 := subL_length xss fun z hz' => (HSS.out z hz').1
                have h2 : xss.length * 1024 ≤ 1048576 * 1024 := Nat.mul_le_mul_right _ (by rw [HSL.out]; exact hm20)
                omega
              clear HJE
              generalize hSJ : (⟨(subL xss).toArray⟩ : ByteArray) = SJ at *
              have HSJ : Hid (SJ.toList = subL xss) := Lib.hid (by rw [← hSJ, mk_list])
              have hSJb : SJ.size ≤ 1048576 * 1024 := by rw [toList_size, HSJ.out]; exact hsub
              clear hSJ
              have h4 : (⟨#[32, 98, 121, 32]⟩ : ByteArray).size = 4 := rfl
              have h2 : (⟨#[32, 123]⟩ : ByteArray).size = 2 := rfl
              have h1 : (⟨#[125]⟩ : ByteArray).size = 1 := rfl
              have s1 := app_size ⟨#[32, 98, 121, 32]⟩ E
              have s2 := app_size (⟨#[32, 98, 121, 32]⟩ ++ E) ⟨#[32, 123]⟩
              have s3 := app_size ((⟨#[32, 98, 121, 32]⟩ ++ E) ++ ⟨#[32, 123]⟩) SJ
              have s4 := app_size (((⟨#[32, 98, 121, 32]⟩ ++ E) ++ ⟨#[32, 123]⟩) ++ SJ) ⟨#[125]⟩
              go_wp2_with fail
              refine HJ.out.mono ?_
              rintro e w6 ⟨rfl, hb6⟩
              have HU6 := Lib.hid (HU5.out.below hb6)
              have HX6 := Lib.hid (HX5.out.below hb6 HX5.out.lt)
              have HB6 := Lib.hid (HB5.out.trans (hb6.mono (Nat.le_of_lt HU5.out.lt)))
              clear hb6 HO5 HU5 HX5 HB5 HJ
              have ks := fun W (hW : BU R P1 W) => wStr R P1 ((((⟨#[32, 98, 121, 32]⟩ ++ E) ++ ⟨#[32, 123]⟩) ++ SJ) ++ ⟨#[125]⟩) W hW (by omega)
              have HPE : Hid (P1 ++ ((((⟨#[32, 98, 121, 32]⟩ ++ E) ++ ⟨#[32, 123]⟩) ++ SJ) ++ ⟨#[125]⟩ : ByteArray).toList = P1 ++ (([32, 98, 121, 32] ++ (E.toList ++ [32, 123])) ++ (subL xss ++ [125]))) := Lib.hid (by
                rw [toList_append, toList_append, toList_append, toList_append, mk_list [32, 98, 121, 32], mk_list [32, 123], mk_list [125], HSJ.out]; simp only [List.append_assoc])
              rw [HPE.out] at ks
              go_wp2_with fail
              refine (ks w6 HU6.out).mono ?_
              rintro e w7 ⟨rfl, h7, hb7, hf7⟩
              have HU7 := Lib.hid h7
              have HB7 := Lib.hid (HB6.out.trans hb7)
              have HX7 : Hid (Blk w7 Z 66 [.string xp, .slice xA xn xc, .int .i64 xr, .slice xB k xd, .slice xF xk xe]) := Lib.hid (hf7 Z _ _ _ HX6.out (.inr ⟨by decide, by decide⟩))
              clear h7 hb7 hf7 HU6 HB6 HX6 ks HPE
              have HLN2 : Hid (textL 0 (ls.take (i + 1)) = (P1 ++ (([32, 98, 121, 32] ++ (E.toList ++ [32, 123])) ++ (subL xss ++ [125]))) ++ (fromL xfs ++ [10])) := Lib.hid (by rw [HLN.out]; simp only [List.append_assoc])
              have hP2b : (P1 ++ (([32, 98, 121, 32] ++ (E.toList ++ [32, 123])) ++ (subL xss ++ [125]))).length ≤ 11559510152 := by
                rw [toList_size] at hE
                simp only [List.length_append, List.length_cons, List.length_nil]; omega
              clear HLN s1 s2 s3 s4 h4 h2 h1 hSJb hsub hP1b HSJ hE hn7 hcap
              generalize P1 ++ (([32, 98, 121, 32] ++ (E.toList ++ [32, 123])) ++ (subL xss ++ [125])) = P2 at *
              have x4 := (HX7.out.cell 4).trans rfl
              go_upto_region 22 with (fail)
              clear x4
              go_loopg [8, 65] xk (fun gk u8 u65 wr => ∃ (q : Nat), u65 = .int .i64 q ∧ q ≤ xk ∧ Hid (gk = xk - q) ∧ Hid (wr.ownsRow R 9 1 u8 q (scells ((xfs.take q).map it))) ∧ Hid (Below R w wr) ∧ Hid (BU R P2 wr))
              case atStart => exact ⟨0, rfl, Nat.zero_le _, Lib.hid (by omega), Lib.hid (World.ownsRow_nil _ _ _ _), HB7, HU7⟩
              case round =>
                clear HB7 HU7 HX7
                obtain ⟨q, rfl, hq, HG3, HO, HB, HU⟩ := hrel
                have hsR := HU.out.lt
                obtain ⟨A8, d8, rfl, hn8⟩ := own_slice HO.out
                by_cases hlt3 : q < xk
                · obtain ⟨b3, o3, hk3, rfl, hb3, c0⟩ := (HRf.out.below HB.out).ints q hlt3
                  have hfi := HFS.out xfs[q] (List.getElem_mem hk3)
                  have HTK := Lib.hid (take_snoc xfs q hk3)
                  generalize xfs[q] = f at *
                  have HKD := Lib.hid (fun W hP => itoa_w f hfi W hP)
                  clear hfi
                  generalize hft : it f = tf at *
                  have HFT := Lib.hid hft
                  clear hft
                  go_wp2_with fail
                  refine (HKD.out wr (HP.out.below HB.out).pow).mono ?_
                  rintro e w5 ⟨rfl, hb5⟩
                  have hown := own_below HO.out hb5
                  have HU5 := Lib.hid (HU.out.below hb5)
                  have HB5 := Lib.hid (HB.out.trans (hb5.mono (Nat.le_of_lt hsR)))
                  have hs5 := HU5.out.lt
                  clear hb5 HO HU HB HKD c0 hsR
                  go_wp2_with (at_builtin; go_must (refine wpList_append_own _ rfl _ _ 71 rfl R 9 i0 _ 1 16 Tryd.underlying71 hi0 hz0 hz1 hz2 rfl (by decide) _ _ _ rfl (hown.alloc _) ⟨w5.heap.size, 0, none⟩ 1 1 [.string tf] rfl rfl (fun j u h => new_cells _ _ _ j u h) (by intro u hu; simp at hu; subst hu; rfl) (by unfold maxLen; omega) (by omega) (by simp; omega) ?_))
                  intro v7 w7 hown7 hg7 _
                  have BL := Lib.hid ((HB5.out.alloc (Nat.le_of_lt hs5) (.cells #[.string tf] 9)).grown hg7 (by simp; omega) (fun q hq => (hown.lt q hq).1))
                  have V7 : Hid (w7.ownsRow R 9 1 v7 (q + 1) (scells ((xfs.take (q + 1)).map it))) := Lib.hid (by rw [HTK.out]; simpa [scells, HFT.out] using hown7)
                  have U7 : Hid (BU R P2 w7) := Lib.hid (BU.grown (HU5.out.below ((Below.refl w5.heap.size w5).alloc (Nat.le_refl _) (.cells #[.string tf] 9))) (hown.alloc _) hg7)
                  clear hown7 hown hg7 HB5 hs5 HU5
                  go_wp2
                  go_roundg (xk - (q + 1))
                  case measure => have := HG3.out; omega
                  case rel => exact ⟨q + 1, by go_num, by omega, Lib.hid rfl, V7, BL, U7⟩
                · obtain rfl : q = xk := by omega
                  have hall : xfs.take q = xfs := List.take_of_length_le (by have := HFL.out; omega)
                  rw [hall] at HO
                  have h1 : (⟨#[10]⟩ : ByteArray).size = 1 := rfl
                  rcases Nat.eq_zero_or_pos q with q0 | q0
                  · have t1 : decide ((0 : Int) < (q : Int)) = false := decide_eq_false (by omega)
                    have HLE : Hid (P2 ++ [10] = textL 0 (ls.take (i + 1))) := Lib.hid (by rw [HLN2.out]; unfold fromL; rw [if_pos (by have := HFL.out; omega)]; rfl)
                    have ks := fun W (hW : BU R P2 W) => wStr R P2 ⟨#[10]⟩ W hW (by omega)
                    rw [mk_list [10], HLE.out] at ks
                    clear HLN2 HO hall
                    go_wp2_with fail
                    refine (ks wr HU.out).mono ?_
                    rintro e w5 ⟨rfl, h5, hb5, _⟩
                    have HI5 := Lib.hid h5.is
                    have HB5 := Lib.hid (HB.out.trans hb5)
                    clear h5 hb5 HU HB ks
                    go_wp2
                    go_roundg (n - (i + 1))
                    case measure => have := HG.out; omega
                    case rel => exact ⟨i + 1, by go_num, by omega, Lib.hid rfl, HI5, HB5, HAI⟩
                  · have t1 : decide ((0 : Int) < (q : Int)) = true := decide_eq_true (by omega)
                    have HJ := Lib.hid (join_any A8 q d8 (xfs.map it) wr (own_rd HO.out) (own_cap HO.out) hk20 (by
                      intro x hx
                      obtain ⟨z, hz', rfl⟩ := List.mem_map.1 hx
                      have := it_size z (HFS.out z hz')
                      omega))
                    have HJE : Hid ((xfs.map it).map (·.toList) = xfs.map fun f => (it f).toList) := Lib.hid (by rw [List.map_map]; rfl)
                    rw [HJE.out] at HJ
                    have hsub : (jo (xfs.map fun f => (it f).toList)).length ≤ 1048576 * 23 := by
                      have h1 := jofs_length xfs HFS.out
                      have h2 : xfs.length * 23 ≤ 1048576 * 23 := Nat.mul_le_mul_right _ (by rw [HFL.out]; exact hk20)
                      omega
                    have HLE : Hid ((P2 ++ ([32, 102, 114, 111, 109, 32] ++ jo (xfs.map fun f => (it f).toList))) ++ [10] = textL 0 (ls.take (i + 1))) := Lib.hid (by rw [HLN2.out]; unfold fromL; rw [if_neg (by have := HFL.out; omega)]; simp only [List.append_assoc])
                    clear HJE HLN2 hall
                    generalize jo (xfs.map fun f => (it f).toList) = J at *
                    generalize hSJ : (⟨J.toArray⟩ : ByteArray) = SJ at *
                    have HSJ : Hid (SJ.toList = J) := Lib.hid (by rw [← hSJ, mk_list])
                    have hSJb : SJ.size ≤ 1048576 * 23 := by rw [toList_size, HSJ.out]; exact hsub
                    clear hSJ
                    have h6 : (⟨#[32, 102, 114, 111, 109, 32]⟩ : ByteArray).size = 6 := rfl
                    have s1 := app_size ⟨#[32, 102, 114, 111, 109, 32]⟩ SJ
                    have ks := fun W (hW : BU R P2 W) => wStr R P2 (⟨#[32, 102, 114, 111, 109, 32]⟩ ++ SJ) W hW (by omega)
                    rw [toList_append, mk_list [32, 102, 114, 111, 109, 32], HSJ.out] at ks
                    have k2 := fun W (hW : BU R (P2 ++ ([32, 102, 114, 111, 109, 32] ++ J)) W) => wStr R (P2 ++ ([32, 102, 114, 111, 109, 32] ++ J)) ⟨#[10]⟩ W hW (by simp only [List.length_append, List.length_cons, List.length_nil]; omega)
                    rw [mk_list [10], HLE.out] at k2
                    go_wp2_with fail
                    refine HJ.out.mono ?_
                    rintro e w5 ⟨rfl, hb5⟩
                    have HU5 := Lib.hid (HU.out.below hb5)
                    have HB5 := Lib.hid (HB.out.trans (hb5.mono (Nat.le_of_lt hsR)))
                    clear hb5 HU HB HJ HO hsR
                    go_wp2_with fail
                    refine (ks w5 HU5.out).mono ?_
                    rintro e w6 ⟨rfl, h6', hb6, _⟩
                    have HU6 := Lib.hid h6'
                    have HB6 := Lib.hid (HB5.out.trans hb6)
                    clear h6' hb6 HU5 HB5 ks
                    go_wp2_with fail
                    refine (k2 w6 HU6.out).mono ?_
                    rintro e w7 ⟨rfl, h7', hb7, _⟩
                    have HI7 := Lib.hid h7'.is
                    have HB7 := Lib.hid (HB6.out.trans hb7)
                    clear h7' hb7 HU6 HB6 k2
                    go_wp2
                    go_roundg (n - (i + 1))
                    case measure => have := HG.out; omega
                    case rel => exact ⟨i + 1, by go_num, by omega, Lib.hid rfl, HI7, HB7, HAI⟩
    · obtain rfl : i = n := by omega
      have hall : ls.take i = ls := List.take_of_length_le (by have := HN.out; omega)
      rw [hall] at HI HA
      have hz : V = ⟨(textL 0 ls).toArray⟩ := by rw [HV.out, proofS_yes HA.out]
      subst hz
      go_wp2_with fail
      refine (readB R _ wr HI.out).mono ?_
      rintro e w6 ⟨rfl, hb6⟩
      have HB6 := Lib.hid (HB.out.trans hb6)
      clear hb6 HB
      go_wp2
      go_ret
      exact ⟨by rfl, by rw [HRR.out]; exact HB6.out⟩
end Go.Proofs.YtjcgkplphiedjaaDoorT
