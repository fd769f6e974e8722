/- A pattern under a substitution, the program's. -/
import Derived.Test.YtjcgkplphiedjaaDoorTG20
namespace Go.Proofs.YtjcgkplphiedjaaDoorT
open Go.RowKit Go.Sort

set_option maxRecDepth 20000 in
set_option maxHeartbeats 8000000 in
theorem under_why (x : Co) (p : Pn) (A : Option Addr) (n c : Nat) (sub : List Cn) (w : World) (hx : x.ok w) (hp : p.ok w) (hr : Rd w w.heap.size 3 A n (kcells sub)) (hpn : p.n ≤ 1048576) :
    Calls Tryd.prog 69 #[.agg x.cells.toArray, .agg p.cells.toArray, .slice A n c] w fun e w' => UnderSaid (underS x.ds x.cs sub p.p p.xs) w.heap.size e w' ∧ Below w.heap.size w w' := by
  obtain ⟨i0, hi0, hz0, hz1, hz2⟩ := info_parts Tryd.info68
  have hlp : p.xs.length = p.n := by have h := hp.1; rw [slcells, flat_length Sl.cells 2 (fun _ => rfl)] at h; omega
  have hld : x.ds.length = x.dn := by have h := hx.d.1; rw [pdcells, flat_length Pd.cells 2 (fun _ => rfl)] at h; omega
  obtain ⟨V, hV⟩ : ∃ V, V = underS x.ds x.cs sub p.p p.xs := ⟨_, rfl⟩
  rw [← hV]
  have HD := Lib.hid hx.d
  have HC := Lib.hid hx.c
  have HXB := Lib.hid (fun (s : Sl) W h1 h2 => term_why x s A n c sub W h1 h2)
  obtain ⟨DA, dn, dc, ds, CA, cn, cc, cs, RA, rn, rc, rs, FA, fn, fc, fs⟩ := x
  obtain ⟨pp, pA, pn, pc, pxs⟩ := p
  dsimp only at HD HC hlp hld hpn hV HXB
  simp only [Co.cells] at HXB
  show Calls Tryd.prog 69 #[.agg #[.slice DA dn dc, .slice CA cn cc, .slice RA rn rc, .slice FA fn fc], .agg #[.int .i64 pp, .slice pA pn pc], .slice A n c] w _
  have HP : Hid (Rd w w.heap.size 2 pA pn (slcells pxs)) := Lib.hid hp
  have HR := Lib.hid hr
  have HV := Lib.hid hV
  have HLP := Lib.hid hlp
  have hdb := HD.out.2.1
  clear hx hp hr hV hlp
  go_enter Tryd.func69, Tryd.ntmps69
  go_upto_region 1 with (fail)
  obtain ⟨hb, h1, h2, h3, hsz⟩ := three_alloc w 40 77 45 [.slice DA dn dc, .slice CA cn cc, .slice RA rn rc, .slice FA fn fc] [.int .i64 pp, .slice pA pn pc] [.string ⟨#[]⟩, .slice none 0 0]
  generalize World.alloc (World.alloc (World.alloc _ _) _) _ = w3 at *
  generalize hR : w.heap.size = R at *
  have HRR := Lib.hid hR
  clear hR
  have HB := Lib.hid hb
  have H1 := Lib.hid h1
  have H2 := Lib.hid h2
  have H3 := Lib.hid h3
  have f0 := (h1.cell 0).trans rfl
  have g0 := (h2.cell 0).trans rfl
  have g1 := (h2.cell 1).trans rfl
  clear h1 h2 h3 hb
  rcases Int.lt_or_le pp 0 with hs0 | hs0
  · have t0 : decide (pp < 0) = true := decide_eq_true hs0
    obtain rfl : V = none := by rw [HV.out]; exact if_pos hs0
    clear HV HXB
    go_quiet (fail)
    clear t0 f0 g0 g1
    have hbq : Below R w3 (w3.drewN nq) := ⟨rfl, rfl, rfl, Nat.le_refl _, fun _ _ => rfl⟩
    have hd := H3.out.drewN nq
    generalize World.drewN w3 nq = w4 at *
    have HB4 := Lib.hid (HB.out.trans hbq)
    have q0 := hd.frozen 0
    have q1 := hd.frozen 1
    have r0 := (hd.cell 0).trans rfl
    have r1 := (hd.cell 1).trans rfl
    have hk := (hd.set_ 0 (.string ⟨#[]⟩)).set_ 1 (.slice none 0 0)
    have hb5 := Lib.hid ((HB4.out.setCell (p := ⟨R + 1 + 1, 0, none⟩) (by show R ≤ R + 1 + 1; omega) (.string ⟨#[]⟩)).setCell (p := ⟨R + 1 + 1, 1, none⟩) (by show R ≤ R + 1 + 1; omega) (.slice none 0 0))
    clear hbq hd HB HB4
    go_wp2
    generalize World.setCell (World.setCell _ _ _) _ _ = w5 at *
    have k0 := (hk.cell 0).trans rfl
    have k1 := (hk.cell 1).trans rfl
    refine bodyPost_ret (v := .tuple #[.agg #[.string ⟨#[]⟩, .slice none 0 0], .bool false]) (by simp [results, Tryd.results69, go_sem, k0, k1]) rfl ?_
    exact ⟨⟨⟨#[]⟩, none, 0, 0, [], rfl, World.ownsRow_nil _ _ _ _, .inr ⟨rfl, rfl, rfl⟩⟩, by rw [HRR.out]; exact hb5.out⟩
  obtain ⟨N, rfl⟩ : ∃ N : Nat, pp = (N : Int) := ⟨pp.toNat, by omega⟩
  have t0 : decide ((N : Int) < 0) = false := decide_eq_false (by omega)
  have HV2 : Hid (V = match ds[N]? with | none => none | some d => if (pxs.length : Int) = d.a then (bindAll cs sub pxs).map fun l => (d.s, l) else none) := Lib.hid (by rw [HV.out]; unfold underS; rw [if_neg (by omega)]; rfl)
  clear HV
  by_cases hN : dn ≤ N
  · have t1 : decide ((dn : Int) ≤ (N : Int)) = true := decide_eq_true (by omega)
    obtain rfl : V = none := by rw [HV2.out, List.getElem?_eq_none (by omega)]
    clear HV2 HXB
    go_quiet (fail)
    clear t0 t1 f0 g0 g1
    have hbq : Below R w3 (w3.drewN nq) := ⟨rfl, rfl, rfl, Nat.le_refl _, fun _ _ => rfl⟩
    have hd := H3.out.drewN nq
    generalize World.drewN w3 nq = w4 at *
    have HB4 := Lib.hid (HB.out.trans hbq)
    have q0 := hd.frozen 0
    have q1 := hd.frozen 1
    have r0 := (hd.cell 0).trans rfl
    have r1 := (hd.cell 1).trans rfl
    have hk := (hd.set_ 0 (.string ⟨#[]⟩)).set_ 1 (.slice none 0 0)
    have hb5 := Lib.hid ((HB4.out.setCell (p := ⟨R + 1 + 1, 0, none⟩) (by show R ≤ R + 1 + 1; omega) (.string ⟨#[]⟩)).setCell (p := ⟨R + 1 + 1, 1, none⟩) (by show R ≤ R + 1 + 1; omega) (.slice none 0 0))
    clear hbq hd HB HB4
    go_wp2
    generalize World.setCell (World.setCell _ _ _) _ _ = w5 at *
    have k0 := (hk.cell 0).trans rfl
    have k1 := (hk.cell 1).trans rfl
    refine bodyPost_ret (v := .tuple #[.agg #[.string ⟨#[]⟩, .slice none 0 0], .bool false]) (by simp [results, Tryd.results69, go_sem, k0, k1]) rfl ?_
    exact ⟨⟨⟨#[]⟩, none, 0, 0, [], rfl, World.ownsRow_nil _ _ _ _, .inr ⟨rfl, rfl, rfl⟩⟩, by rw [HRR.out]; exact hb5.out⟩
  have t1 : decide ((dn : Int) ≤ (N : Int)) = false := decide_eq_false (by omega)
  obtain ⟨b1, o1, hk1, rfl, hb1, hc⟩ := (HD.out.below HB.out).at Pd.cells 2 (fun _ => rfl) (by omega) N (by omega)
  have c0 := hc 0 _ (by omega) rfl
  have c1 := hc 1 _ (by omega) rfl
  rw [Nat.add_zero] at c0
  clear hc
  have HV3 : Hid (V = if (pxs.length : Int) = ds[N].a then (bindAll cs sub pxs).map fun l => (ds[N].s, l) else none) := Lib.hid (by rw [HV2.out, List.getElem?_eq_getElem hk1])
  clear HV2
  generalize ds[N] = d at *
  obtain ⟨dS, dA⟩ := d
  dsimp only at c0 c1 HV3
  rw [HLP.out] at HV3
  by_cases hA : (pn : Int) = dA
  · have t2 : (dA != (pn : Int)) = false := by simpa using hA.symm
    have HV4 : Hid (V = (bindAll cs sub pxs).map fun l => (dS, l)) := Lib.hid (by rw [HV3.out, if_pos hA])
    clear HV3 hA
    go_quiet (fail)
    clear t0 t1 t2
    have hbq : Below R w3 (w3.drewN nq) := ⟨rfl, rfl, rfl, Nat.le_refl _, fun _ _ => rfl⟩
    have hd1 := H1.out.drewN nq
    have hd2 := H2.out.drewN nq
    have hd3 := H3.out.drewN nq
    have d0 := (hbq.cell (p := ⟨b1, o1 + N * 2, none⟩) hb1).trans c0
    have d1 := (hbq.cell (p := ⟨b1, o1 + N * 2 + 1, none⟩) hb1).trans c1
    have hsz4 : (w3.drewN nq).heap.size = R + 1 + 1 + 1 := hsz
    clear c0 c1 f0 g0 g1 H1 H2 H3 hsz
    generalize World.drewN w3 nq = w4 at *
    have HB4 := Lib.hid (HB.out.trans hbq)
    have f0 := (hd1.cell 0).trans rfl
    have g0 := (hd2.cell 0).trans rfl
    have g1 := (hd2.cell 1).trans rfl
    go_upto_region 5 with (fail)
    have hba := (Below.refl w4.heap.size w4).alloc (Nat.le_refl _) (.cells #[.string dS, .slice none 0 0] 45)
    have HF := Lib.hid (Blk.new w4 45 [.string dS, .slice none 0 0])
    have hs5 : (w4.alloc (.cells #[.string dS, .slice none 0 0] 45)).heap.size = R + 1 + 1 + 1 + 1 := by simp [hsz4]
    generalize World.alloc _ _ = w5 at *
    rw [hsz4] at hba HF
    have G1 := Lib.hid (hd1.below hba (by omega))
    have G2 := Lib.hid (hd2.below hba (by omega))
    have G3 := Lib.hid (hd3.below hba (by omega))
    have GB := Lib.hid (HB4.out.trans (hba.mono (by omega)))
    clear hbq hd1 hd2 hd3 d0 d1 f0 g0 g1 hba HB HB4
    clear hsz4
    have hsF : R + 1 + 1 + 1 < w5.heap.size := by omega
    go_loopg [49] pn (fun gk u49 wr => ∃ (i : Nat) (acc : List Cn) (A8 : Option Addr) (c8 : Nat), u49 = .int .i64 i ∧ i ≤ pn ∧ Hid (gk = pn - i) ∧ Hid (bindAll cs sub (pxs.take i) = some acc) ∧ Hid (Below R w wr) ∧ Hid (Blk wr R 40 [.slice (some ⟨b1, o1, none⟩) dn dc, .slice CA cn cc, .slice RA rn rc, .slice FA fn fc]) ∧ Hid (Blk wr (R + 1) 77 [.int .i64 (N : Int), .slice pA pn pc]) ∧ Hid (Blk wr (R + 1 + 1) 45 [.string ⟨#[]⟩, .slice none 0 0]) ∧ Hid (Blk wr (R + 1 + 1 + 1) 45 [.string dS, .slice A8 i c8]) ∧ Hid (wr.ownsRow R 68 3 (.slice A8 i c8) i (kcells acc)))
    case atStart => exact ⟨0, [], none, 0, rfl, Nat.zero_le _, Lib.hid (by omega), Lib.hid rfl, GB, G1, G2, G3, HF, Lib.hid (World.ownsRow_nil _ _ _ _)⟩
    case round =>
      clear GB G1 G2 G3 HF hs5 hsF
      obtain ⟨i, acc, A8, c8, rfl, hi, HG, HA, GB, G1, G2, G3, HF, HO⟩ := hrel
      have hsF := HF.out.lt
      by_cases hlt : i < pn
      · obtain ⟨b2, o2, hk2, rfl, hb2, hc⟩ := (HP.out.below GB.out).at Sl.cells 2 (fun _ => rfl) (by omega) i hlt
        have c0 := hc 0 _ (by omega) rfl
        have c1 := hc 1 _ (by omega) rfl
        rw [Nat.add_zero] at c0
        clear hc
        have HST := Lib.hid (bindAll_step hk2 HA.out)
        generalize pxs[i] = s at *
        have HB8 := Lib.hid (HXB.out s)
        obtain ⟨sv, sn⟩ := s
        simp only [Sl.cells] at HB8
        dsimp only at c0 c1
        obtain ⟨o, ho⟩ : ∃ o, bindS cs sub ⟨sv, sn⟩ = o := ⟨_, rfl⟩
        rw [ho] at HB8
        rw [ho] at HST
        obtain ⟨z, hz⟩ : ∃ z, o.getD noK = z := ⟨_, rfl⟩
        have HZ := Lib.hid hz
        unfold optK at HB8
        rw [hz] at HB8
        clear ho hz
        obtain ⟨zk, zi, zt⟩ := z
        simp only [Cn.cells] at HB8
        obtain ⟨ob, hob⟩ : ∃ ob, o.isSome = ob := ⟨_, rfl⟩
        rw [hob] at HB8
        have HOB := Lib.hid hob
        clear hob
        go_upto_region 7 with (fail)
        have hba := (Below.refl wr.heap.size wr).alloc (Nat.le_refl _) (.cells #[.bool sv, .int .i64 sn] 117)
        have GS := Lib.hid (Blk.new wr 117 [.bool sv, .int .i64 sn])
        have G1 := Lib.hid (G1.out.below hba G1.out.lt)
        have G2 := Lib.hid (G2.out.below hba G2.out.lt)
        have G3 := Lib.hid (G3.out.below hba G3.out.lt)
        have HF := Lib.hid (HF.out.below hba HF.out.lt)
        have HO := Lib.hid (own_below HO.out hba)
        have GB := Lib.hid (GB.out.trans (hba.mono (by omega)))
        have hsa : wr.heap.size < (wr.alloc (.cells #[.bool sv, .int .i64 sn] 117)).heap.size := by simp
        clear hba c0 c1
        generalize World.alloc _ _ = wa at *
        generalize hY : wr.heap.size = Y at *
        clear hY
        have f0 := (G1.out.cell 0).trans rfl
        have f1 := (G1.out.cell 1).trans rfl
        have f2 := (G1.out.cell 2).trans rfl
        have f3 := (G1.out.cell 3).trans rfl
        have e0 := (GS.out.cell 0).trans rfl
        have e1 := (GS.out.cell 1).trans rfl
        have hRa : R ≤ wa.heap.size := by omega
        go_wp2_with fail
        refine (HB8.out wa ((HC.out.below GB.out).up (Below.refl _ _) hRa) ((HR.out.below GB.out).up (Below.refl _ _) hRa)).mono ?_
        rintro e v1 ⟨rfl, hb⟩
        have hbk := (Below.refl v1.heap.size v1).alloc (Nat.le_refl _) (.cells #[.int .i64 zk, .int .i64 zi, .string zt] 68)
        have hbx := hb.trans (hbk.mono hb.size)
        clear f0 f1 f2 f3 e0 e1
        go_upto_region 8 with (fail)
        have HKX := Lib.hid (Blk.new v1 68 [.int .i64 zk, .int .i64 zi, .string zt])
        generalize hwc : World.alloc _ _ = wc at *
        generalize hKe : v1.heap.size = K at *
        have X1 := Lib.hid (G1.out.below hbx G1.out.lt)
        have X2 := Lib.hid (G2.out.below hbx G2.out.lt)
        have X3 := Lib.hid (G3.out.below hbx G3.out.lt)
        have XF := Lib.hid (HF.out.below hbx HF.out.lt)
        have XO := Lib.hid (own_below HO.out hbx)
        have XB := Lib.hid (GB.out.trans (hbx.mono hRa))
        have hsx : R + 1 + 1 + 1 < wc.heap.size := XF.out.lt
        clear G1 G2 G3 HF HO GB hbx hbk hb HB8 hsF hwc hKe
        cases ob with
        | false =>
          have hn : o = none := by cases o with | none => rfl | some z => have := HOB.out; cases this
          obtain rfl : V = none := by rw [HV4.out, HST.out.2 hn]; rfl
          have q0 := X3.out.frozen 0
          have q1 := X3.out.frozen 1
          have r0 := (X3.out.cell 0).trans rfl
          have r1 := (X3.out.cell 1).trans rfl
          have hk := (X3.out.set_ 0 (.string ⟨#[]⟩)).set_ 1 (.slice none 0 0)
          have hb5 := Lib.hid ((XB.out.setCell (p := ⟨R + 1 + 1, 0, none⟩) (by show R ≤ R + 1 + 1; omega) (.string ⟨#[]⟩)).setCell (p := ⟨R + 1 + 1, 1, none⟩) (by show R ≤ R + 1 + 1; omega) (.slice none 0 0))
          clear HST HZ HOB
          go_wp2
          generalize World.setCell (World.setCell _ _ _) _ _ = w9 at *
          have k0 := (hk.cell 0).trans rfl
          have k1 := (hk.cell 1).trans rfl
          refine bodyPost_ret (v := .tuple #[.agg #[.string ⟨#[]⟩, .slice none 0 0], .bool false]) (by simp [results, Tryd.results69, go_sem, k0, k1]) rfl ?_
          exact ⟨⟨⟨#[]⟩, none, 0, 0, [], rfl, World.ownsRow_nil _ _ _ _, .inr ⟨rfl, rfl, rfl⟩⟩, by rw [HRR.out]; exact hb5.out⟩
        | true =>
          have hz9 : o = some ⟨zk, zi, zt⟩ := by
            cases o with
            | none => have := HOB.out; cases this
            | some y => have := HZ.out; exact congrArg some this
          have HA2 := Lib.hid (HST.out.1 _ hz9)
          clear HST HZ HOB hz9
          have hown := XO.out
          have m0 := (HKX.out.cell 0).trans rfl
          have m1 := (HKX.out.cell 1).trans rfl
          have m2 := (HKX.out.cell 2).trans rfl
          have n0 := (XF.out.cell 0).trans rfl
          have n1 := (XF.out.cell 1).trans rfl
          go_wp2_with (at_builtin; go_must (refine wpList_append_own _ rfl _ _ 36 rfl R 68 i0 _ 3 32 Tryd.underlying36 hi0 hz0 hz1 hz2 rfl (by decide) _ _ _ rfl (hown.alloc _) ⟨wc.heap.size, 0, none⟩ 1 1 [.int .i64 zk, .int .i64 zi, .string zt] rfl rfl (fun j u h => new_cells _ _ _ j u h) (by intro u hu; exact cons_one [⟨zk, zi, zt⟩] u (by simpa [kcells, Cn.cells] using hu)) (by unfold maxLen; omega) (by omega) (by simp; omega) ?_))
          intro v7 w7 hown7 hg7 _
          obtain ⟨A9, c9, rfl, _⟩ := own_slice hown7
          have Y1 := (X1.out.alloc (.cells #[.int .i64 zk, .int .i64 zi, .string zt] 68)).grown hg7 (own_blk_ne hown X1.out (by decide))
          have Y2 := (X2.out.alloc (.cells #[.int .i64 zk, .int .i64 zi, .string zt] 68)).grown hg7 (own_blk_ne hown X2.out (by decide))
          have Y3 := (X3.out.alloc (.cells #[.int .i64 zk, .int .i64 zi, .string zt] 68)).grown hg7 (own_blk_ne hown X3.out (by decide))
          have YF := (XF.out.alloc (.cells #[.int .i64 zk, .int .i64 zi, .string zt] 68)).grown hg7 (own_blk_ne hown XF.out (by decide))
          have YB := (XB.out.alloc (by omega) (.cells #[.int .i64 zk, .int .i64 zi, .string zt] 68)).grown hg7 (by simp; omega) (fun q hq => (hown.lt q hq).1)
          have YO : w7.ownsRow R 68 3 (.slice A9 (i + 1) c9) (i + 1) (kcells (acc ++ [⟨zk, zi, zt⟩])) := by rw [kcells_append]; simpa [kcells, Cn.cells] using hown7
          have l1 := YF.frozen 1
          have l0 := (YF.cell 0).trans rfl
          have l2 := (YF.cell 1).trans rfl
          have E1 := Lib.hid (Y1.far (p := ⟨R + 1 + 1 + 1, 1, none⟩) (by show R ≠ R + 1 + 1 + 1; omega) (.slice A9 (i + 1) c9))
          have E2 := Lib.hid (Y2.far (p := ⟨R + 1 + 1 + 1, 1, none⟩) (by show R + 1 ≠ R + 1 + 1 + 1; omega) (.slice A9 (i + 1) c9))
          have E3 := Lib.hid (Y3.far (p := ⟨R + 1 + 1 + 1, 1, none⟩) (by show R + 1 + 1 ≠ R + 1 + 1 + 1; omega) (.slice A9 (i + 1) c9))
          have EF := Lib.hid (YF.set_ 1 (.slice A9 (i + 1) c9))
          have EB := Lib.hid (YB.setCell (p := ⟨R + 1 + 1 + 1, 1, none⟩) (by show R ≤ R + 1 + 1 + 1; omega) (.slice A9 (i + 1) c9))
          have EO := Lib.hid (own_setCell_blk YO YF (by decide) 1 (.slice A9 (i + 1) c9))
          clear hown7 hown hg7 XB X1 X2 X3 XF XO Y1 Y2 Y3 YF YB YO m0 m1 m2 n0 n1 HKX
          go_wp2
          go_roundg (pn - (i + 1))
          case measure => have := HG.out; omega
          case rel => exact ⟨i + 1, acc ++ [⟨zk, zi, zt⟩], A9, c9, by go_num, by omega, Lib.hid rfl, HA2, EB, E1, E2, E3, EF, EO⟩
      · obtain rfl : i = pn := by omega
        have hall : pxs.take i = pxs := List.take_of_length_le (by have := HLP.out; omega)
        rw [hall] at HA
        obtain rfl : V = some (dS, acc) := by rw [HV4.out, HA.out]; rfl
        have q0 := G3.out.frozen 0
        have q1 := G3.out.frozen 1
        have r0 := (G3.out.cell 0).trans rfl
        have r1 := (G3.out.cell 1).trans rfl
        have n0 := (HF.out.cell 0).trans rfl
        have n1 := (HF.out.cell 1).trans rfl
        have hk := (G3.out.set_ 0 (.string dS)).set_ 1 (.slice A8 i c8)
        have hb5 := Lib.hid ((GB.out.setCell (p := ⟨R + 1 + 1, 0, none⟩) (by show R ≤ R + 1 + 1; omega) (.string dS)).setCell (p := ⟨R + 1 + 1, 1, none⟩) (by show R ≤ R + 1 + 1; omega) (.slice A8 i c8))
        have ho2 := own_setCell_blk HO.out G3.out (by decide) 0 (.string dS)
        have ho3 := Lib.hid (own_setCell_blk ho2 (G3.out.set_ 0 (.string dS)) (by decide) 1 (.slice A8 i c8))
        clear ho2
        go_wp2
        generalize World.setCell (World.setCell _ _ _) _ _ = w9 at *
        have k0 := (hk.cell 0).trans rfl
        have k1 := (hk.cell 1).trans rfl
        refine bodyPost_ret (v := .tuple #[.agg #[.string dS, .slice A8 i c8], .bool true]) (by simp [results, Tryd.results69, go_sem, k0, k1]) rfl ?_
        exact ⟨⟨dS, A8, i, c8, acc, rfl, by rw [HRR.out]; exact ho3.out, .inl rfl⟩, by rw [HRR.out]; exact hb5.out⟩
  · have t2 : (dA != (pn : Int)) = true := by simpa using fun h => hA h.symm
    obtain rfl : V = none := by rw [HV3.out, if_neg hA]
    clear HV3 HXB hA
    go_quiet (fail)
    clear t0 t1 t2 f0 g0 g1 c0 c1
    have hbq : Below R w3 (w3.drewN nq) := ⟨rfl, rfl, rfl, Nat.le_refl _, fun _ _ => rfl⟩
    have hd := H3.out.drewN nq
    generalize World.drewN w3 nq = w4 at *
    have HB4 := Lib.hid (HB.out.trans hbq)
    have q0 := hd.frozen 0
    have q1 := hd.frozen 1
    have r0 := (hd.cell 0).trans rfl
    have r1 := (hd.cell 1).trans rfl
    have hk := (hd.set_ 0 (.string ⟨#[]⟩)).set_ 1 (.slice none 0 0)
    have hb5 := Lib.hid ((HB4.out.setCell (p := ⟨R + 1 + 1, 0, none⟩) (by show R ≤ R + 1 + 1; omega) (.string ⟨#[]⟩)).setCell (p := ⟨R + 1 + 1, 1, none⟩) (by show R ≤ R + 1 + 1; omega) (.slice none 0 0))
    clear hbq hd HB HB4
    go_wp2
    generalize World.setCell (World.setCell _ _ _) _ _ = w5 at *
    have k0 := (hk.cell 0).trans rfl
    have k1 := (hk.cell 1).trans rfl
    refine bodyPost_ret (v := .tuple #[.agg #[.string ⟨#[]⟩, .slice none 0 0], .bool false]) (by simp [results, Tryd.results69, go_sem, k0, k1]) rfl ?_
    exact ⟨⟨⟨#[]⟩, none, 0, 0, [], rfl, World.ownsRow_nil _ _ _ _, .inr ⟨rfl, rfl, rfl⟩⟩, by rw [HRR.out]; exact hb5.out⟩
end Go.Proofs.YtjcgkplphiedjaaDoorT
