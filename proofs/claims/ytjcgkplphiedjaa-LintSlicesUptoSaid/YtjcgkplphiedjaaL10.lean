/- The program's slice of a program: its walk. -/
import Derived.Test.YtjcgkplphiedjaaL8
namespace Go.Proofs.Ytjcgkplphiedjaa
open Go.RowKit Go.Maps Go.WideMaps

theorem own_kept_map {w w' : World} {base e size n b k : Nat} {S : List ByteArray} {v : Value} {xs : List Value} (h : w.ownsRow base e size v n xs) (hm : Wm w b k S) (hg : w.grownBy w' (some b)) : w'.ownsRow base e size v n xs := by
  have hne := hm.ne h
  refine ⟨h.1, ?_⟩
  rcases h.2 with h2 | ⟨g, cap, cur, rfl, hb, hc, r⟩
  · exact .inl h2
  · refine .inr ⟨g, cap, cur, rfl, hb, ?_, r⟩
    have hlt := (Array.getElem?_eq_some_iff.1 hc).1
    exact (hg.block g hlt (fun e => hne (by simp only [Value.ownBlock]; exact e.symm))).trans hc

set_option maxRecDepth 20000 in
set_option maxHeartbeats 8000000 in
theorem lintSlice_any (A A' : Option Addr) (n c m c' : Nat) (cs : List Cl) (goals : List ByteArray) (w : World) (hr : Rd w w.heap.size 4 A n (ccells cs)) (hok : ∀ x ∈ cs, Cl.ok w x) (hg : Rd w w.heap.size 1 A' m (scells goals)) (hA' : A' = none → c' = 0)
    (hbd : (m + allAsks cs) * 16 ≤ 140737488351232) (hn : n * 72 ≤ 140737488351232) (hfn : ∀ s, Need cs goals s → s.size ≤ maxLen) (hfh : ∀ x ∈ cs, x.h.p.size ≤ maxLen) :
    Calls Try.prog 16 #[.agg #[.slice A n c], .slice A' m c'] w fun e w' => ∃ A2 c2 cs', e = .returned (.agg #[.slice A2 cs'.length c2]) ∧ w'.ownsRow w.heap.size 45 4 (.slice A2 cs'.length c2) cs'.length (ccells cs') ∧ cs'.map Cl.core = (cs.filter (keepB cs goals)).map Cl.core ∧
      (∀ x ∈ cs', Cl.own w' w.heap.size x) ∧ Below w.heap.size w w' := by
  obtain ⟨i0, hi, hz0, hz1, hz2⟩ := info_parts Try.info9
  obtain ⟨j0, hj, hy0, hy1, hy2⟩ := info_parts Try.info45
  have HL := Lib.hid hr
  have HK := Lib.hid hok
  have HGL := Lib.hid hg
  have HA' := Lib.hid hA'
  have HFN := Lib.hid hfn
  have HFH := Lib.hid hfh
  have hmb := hr.2.1
  have hlen : cs.length = n := by have := hr.1; rw [ccells_length] at this; omega
  have hglen : goals.length = m := by have := hg.1; rw [scells_length] at this; omega
  have HN := Lib.hid hlen
  have HGN := Lib.hid hglen
  clear hr hok hlen hg hA' hfn hfh hglen
  have hmm := @run_makeMap Try.prog
  go_enter Try.func16, Try.ntmps16
  go_upto_region 2 with (fail)
  clear hmm
  obtain ⟨hb3, h1, h2, hs3⟩ := two_alloc w 37 37 [.slice A n c] [.slice none 0 0]
  have h3 := Wm.made ((w.alloc (.cells #[.slice A n c] 37)).alloc (.cells #[.slice none 0 0] 37))
  have hb4 := hb3.alloc hb3.size (.map #[] 0)
  replace h1 := h1.alloc (.map #[] 0)
  replace h2 := h2.alloc (.map #[] 0)
  have e3 : ((w.alloc (.cells #[.slice A n c] 37)).alloc (.cells #[.slice none 0 0] 37)).heap.size = w.heap.size + 1 + 1 := hs3
  rw [e3] at h3
  clear e3 hs3 hb3
  generalize World.alloc (World.alloc (World.alloc _ _) _) _ = w3 at *
  generalize hR : w.heap.size = R at *
  have HRR := Lib.hid hR
  clear hR
  have HB3 := Lib.hid hb4
  have H13 := Lib.hid h1
  have H23 := Lib.hid h2
  have HM3 := Lib.hid h3
  have hs3 : R + 1 + 1 < w3.heap.size := h3.lt
  clear hb4 h1 h2 h3
  go_wp2_with fail
  refine (clone_any A' m c' goals w3 (HGL.out.up HB3.out (by omega)) HA'.out (by omega)).mono ?_
  rintro e w5 ⟨A5, c5, rfl, hown5, hb5⟩
  have HB5 := Lib.hid (HB3.out.trans (hb5.mono (by omega)))
  have H15 := Lib.hid (H13.out.below hb5 (by omega))
  have H25 := Lib.hid (H23.out.below hb5 (by omega))
  have HM5 := Lib.hid (HM3.out.below hb5 hs3)
  have HV5 : Hid (w5.ownsRow R 9 1 (.slice A5 m c5) goals.length (scells goals)) := Lib.hid (by rw [HGN.out]; exact own_le hown5 (by omega))
  clear hown5 hb5 HB3 H13 H23 HM3 hs3
  go_wp2
  go_loopg [6] (m + allAsks cs) (fun gk u6 wr => ∃ (S todo : List ByteArray) (k : Nat), Hid (gk = todo.length + owed cs S) ∧ k + gk ≤ m + allAsks cs ∧ Hid (Hunt cs goals S todo) ∧ Hid (Below R w wr) ∧ Hid (Blk wr R 37 [.slice A n c]) ∧ Hid (Blk wr (R + 1) 37 [.slice none 0 0]) ∧
    Hid (Wm wr (R + 1 + 1) k S) ∧ Hid (wr.ownsRow R 9 1 u6 todo.length (scells todo)))
  case atStart => exact ⟨[], goals, 0, Lib.hid (by rw [owed_nil, HGN.out]), by omega, Lib.hid (Hunt.start cs goals), HB5, H15, H25, HM5, HV5⟩
  case round =>
    clear HB5 H15 H25 HM5 HV5
    obtain ⟨S, todo, k, HG, hkb, HH, HB, H1, H2, HM, HV⟩ := hrel
    rcases List.eq_nil_or_concat todo with rfl | ⟨t, g, e⟩
    · obtain ⟨A6, c6, rfl, hn6⟩ := own_slice HV.out
      have HNE : Hid (∀ s, s ∈ S ↔ Need cs goals s) := Lib.hid HH.out.done
      clear HV HH HG
      go_upto_region 20 with (fail)
      have hsm := HM.out.lt
      have HB6 := Lib.hid (HB.out.alloc (by omega) (.cells #[.slice none 0 0] 37))
      have H16 := Lib.hid (H1.out.alloc (.cells #[.slice none 0 0] 37))
      have H26 := Lib.hid (H2.out.alloc (.cells #[.slice none 0 0] 37))
      have HM6 := Lib.hid (HM.out.alloc (.cells #[.slice none 0 0] 37))
      have H36 := Lib.hid (Blk.new wr 37 [.slice none 0 0])
      clear HB H1 H2 HM
      generalize World.alloc _ _ = w6 at *
      generalize wr.heap.size = Z at *
      have f0 := H16.out.cell 0
      simp only [List.getElem?_cons_zero] at f0
      go_wp2
      clear f0
      go_loopg [76] n (fun gk u76 wx => ∃ (i q : Nat) (acc : List Cl) (vb : Value), u76 = .int .i64 i ∧ i ≤ n ∧ Hid (gk = n - i) ∧ Hid (acc.length = q) ∧ q ≤ i ∧ Hid (Below R w wx) ∧ Hid (Blk wx R 37 [.slice A n c]) ∧ Hid (Blk wx (R + 1) 37 [.slice none 0 0]) ∧
        Hid (Blk wx Z 37 [vb]) ∧ Hid (wx.ownsRow R 45 4 vb q (ccells acc)) ∧ Hid (acc.map Cl.core = ((cs.take i).filter (keepB cs goals)).map Cl.core) ∧ Hid (∀ y ∈ acc, Cl.own wx R y) ∧ Hid (Wm wx (R + 1 + 1) k S))
      case atStart => exact ⟨0, 0, [], .slice none 0 0, rfl, Nat.zero_le _, Lib.hid (by omega), Lib.hid rfl, Nat.le_refl _, HB6, H16, H26, H36, World.ownsRow_nil _ _ _ _, Lib.hid rfl, Lib.hid (by simp), HM6⟩
      case round =>
        clear HB6 H16 H26 H36 HM6
        obtain ⟨i, q, acc, vb, rfl, hin, HG, HQ, hqi, HB, H1, H2, H3, HV, HC, HW, HM⟩ := hrel
        by_cases hlt : i < n
        · obtain ⟨B', off, hk1, rfl, hB, hc⟩ := (HL.out.below HB.out).at Cl.cells 4 (fun _ => rfl) (by omega) i hlt
          have c0 := hc 0 _ (by omega) rfl
          have c1 := hc 1 _ (by omega) rfl
          have c2 := hc 2 _ (by omega) rfl
          have c3 := hc 3 _ (by omega) rfl
          rw [Nat.add_zero] at c0
          clear hc
          have hlkk := HK.out cs[i] (List.getElem_mem hk1)
          have hgs := HFH.out cs[i] (List.getElem_mem hk1)
          have HTK0 := Lib.hid (keep_snoc hk1 (keepB cs goals))
          generalize cs[i] = z at *
          have HZ0 : Hid (Cl.ok wr z) := Lib.hid (hlkk.up (HRR.out ▸ HB.out))
          clear hlkk
          go_upto_region 23 with (fail)
          clear c0 c1 c2 c3
          have hba0 := (Below.refl wr.heap.size wr).alloc (Nat.le_refl _) (.cells z.cells.toArray 45)
          have hsz := H3.out.lt
          have hsm := HM.out.lt
          have HB2 := Lib.hid (HB.out.alloc (by omega) (.cells z.cells.toArray 45))
          have H12 := Lib.hid (H1.out.alloc (.cells z.cells.toArray 45))
          have H22 := Lib.hid (H2.out.alloc (.cells z.cells.toArray 45))
          have H32 := Lib.hid (H3.out.alloc (.cells z.cells.toArray 45))
          have HM2 := Lib.hid (HM.out.alloc (.cells z.cells.toArray 45))
          have HV2 := Lib.hid (HV.out.alloc (.cells z.cells.toArray 45))
          have HW2 : Hid (∀ y ∈ acc, Cl.own (wr.alloc (.cells z.cells.toArray 45)) R y) := Lib.hid fun y hy => (HW.out y hy).below hba0
          have HZ2 := Lib.hid (HZ0.out.up hba0)
          have HP2 := Lib.hid (Blk.new wr 45 z.cells)
          have HVL : Hid (∀ x, vb.ownBlock = some x → x < wr.heap.size) := Lib.hid fun x hx => (HV.out.lt x hx).2
          obtain ⟨⟨zp, zA, zn, zc, zo, zes⟩, zB, zm, zd, zls⟩ := z
          simp only [Cl.cells] at HB2 H12 H22 H32 HM2 HV2 HW2 HZ2 HP2
          dsimp only at hgs HTK0
          clear HB H1 H2 H3 HM HV HW HZ0 hba0
          generalize World.alloc _ _ = wa at *
          generalize wr.heap.size = P at *
          have p0 := HP2.out.cell 0
          simp only [List.getElem?_cons_zero] at p0
          by_cases hp : zp ∈ S
          · have hv : (if has S zp = true then (1 : Int) else 0) = 1 := by rw [if_pos (has_iff.2 hp)]
            have hkp : keepB cs goals ⟨⟨zp, zA, zn, zc, zo, zes⟩, zB, zm, zd, zls⟩ = true := keepB_iff.2 ((HNE.out _).1 hp)
            have HTK : Hid ((cs.take (i + 1)).filter (keepB cs goals) = (cs.take i).filter (keepB cs goals) ++ [⟨⟨zp, zA, zn, zc, zo, zes⟩, zB, zm, zd, zls⟩]) := Lib.hid (by rw [HTK0.out, hkp, if_pos rfl])
            clear hp hkp HTK0
            go_upto_region 24 with (at_lookup; go_must (refine wpList_lookup_wm rfl _ _ rfl (R + 1 + 1) k S rfl HM2.out zp rfl hgs ?_); rw [hv])
            clear p0 hv
            have hbd : Below wa.heap.size wa wa.drew := (Below.refl _ _).drew
            have HBd : Hid (Below R w wa.drew) := Lib.hid HB2.out.drew
            have H1d := Lib.hid H12.out.drew
            have H2d := Lib.hid H22.out.drew
            have H3d := Lib.hid H32.out.drew
            have HPd := Lib.hid HP2.out.drew
            have HMd : Hid (Wm wa.drew (R + 1 + 1) k S) := Lib.hid (HM2.out.of_block rfl)
            have HVd : Hid (wa.drew.ownsRow R 45 4 vb q (ccells acc)) := Lib.hid HV2.out.drew
            have HWd : Hid (∀ y ∈ acc, Cl.own wa.drew R y) := Lib.hid fun y hy => (HW2.out y hy).below hbd
            have HZd : Hid (Cl.ok wa.drew ⟨⟨zp, zA, zn, zc, zo, zes⟩, zB, zm, zd, zls⟩) := Lib.hid (HZ2.out.up hbd)
            clear hbd HB2 H12 H22 H32 HM2 HV2 HW2 HZ2 HP2
            generalize hdw : wa.drew = wd at *
            obtain ⟨C, hCi⟩ : ∃ C : World → Prop, ∀ w', C w' ↔ (Blk w' Z 37 [vb] ∧ Blk w' P 45 [.string zp, .slice zA zn zc, .int .i64 zo, .slice zB zm zd]) := ⟨_, fun _ => Iff.rfl⟩
            have hC : C wd := (hCi _).2 ⟨H3d.out, HPd.out⟩
            have HCi := Lib.hid hCi
            have k3 : ∀ p : WC C, p.w.cell? ⟨Z, 0, none⟩ = some vb := fun p => ((hCi _).1 p.h).1.cell 0
            have g0 : ∀ p : WC C, p.w.cell? ⟨P, 0, none⟩ = some (.string zp) := fun p => ((hCi _).1 p.h).2.cell 0
            have g1 : ∀ p : WC C, p.w.cell? ⟨P, 1, none⟩ = some (.slice zA zn zc) := fun p => ((hCi _).1 p.h).2.cell 1
            have g2 : ∀ p : WC C, p.w.cell? ⟨P, 2, none⟩ = some (.int .i64 zo) := fun p => ((hCi _).1 p.h).2.cell 2
            have g3 : ∀ p : WC C, p.w.cell? ⟨P, 3, none⟩ = some (.slice zB zm zd) := fun p => ((hCi _).1 p.h).2.cell 3
            have kn : Nonempty (WC C) := ⟨⟨_, hC⟩⟩
            clear hCi
            refine wp_region_front' C [0, 1, 2] [3, 4, 5, 6, 7] (fun j => decide (j < 7)) (by kernel_rfl) (fun _ _ d _ _ h => by cases d <;> exact h) (by kernel_rfl) (hdw ▸ hC) ?_
            simp only [List.map_cons, List.map_nil, List.getD_cons_zero, List.getD_cons_succ]
            repeat (go_big_quiet_step (fail))
            refine wpQuiet_nil ?_
            clear k3 g0 g1 g2 g3 kn hC
            rw [hdw]
            clear hdw
            refine wpTail_cons ?_
            go_wp2_with fail
            refine (lintCopied_any ⟨⟨zp, zA, zn, zc, zo, zes⟩, zB, zm, zd, zls⟩ wd HZd.out).mono ?_
            rintro e w5 ⟨y, rfl, hcy, hoy, hb5⟩
            obtain ⟨⟨yp, yA, yn, yc, yo, yes⟩, yB, ym, yd, yls⟩ := y
            dsimp only [Cl.cells]
            have hl1 := H1d.out.lt
            have hl2 := H2d.out.lt
            have hl3 := H3d.out.lt
            have hlp := HPd.out.lt
            have hs5 := hb5.size
            have K1 := Lib.hid (H1d.out.below hb5 (by omega))
            have K2 := Lib.hid (H2d.out.below hb5 (by omega))
            have K3 := Lib.hid (H3d.out.below hb5 (by omega))
            have KP := Lib.hid (HPd.out.below hb5 (by omega))
            have KM := Lib.hid (HMd.out.below hb5 HMd.out.lt)
            have KB := Lib.hid (HBd.out.trans (hb5.mono (by omega)))
            have hown := own_below HVd.out hb5
            have KW : Hid (∀ y ∈ acc, Cl.own w5 R y) := Lib.hid fun y hy => (HWd.out y hy).below hb5
            have KY := Lib.hid (Cl.own.le hoy (show R ≤ wd.heap.size by omega))
            have KC := Lib.hid hcy
            have hl5 : R ≤ w5.heap.size := by omega
            clear hb5 hoy hcy H1d H2d H3d HPd HMd HBd HVd HWd HZd hl1 hl2 hl3 hs5
            go_wp2
            refine tailQ_normal (fun _ => (HCi.out _).2 ⟨K3.out, KP.out⟩) ?_
            refine wpTail_cons ?_
            go_wp2
            refine tailQ_normal (fun _ => (HCi.out _).2 ⟨K3.out.alloc _, KP.out.alloc _⟩) ?_
            refine wpTail_cons ?_
            refine wpList_append_own _ rfl _ _ 35 rfl R 45 j0 _ 4 72 Try.underlying35 hj hy0 hy1 hy2 rfl (by decide) _ _ _ rfl (hown.alloc _) ⟨w5.heap.size, 0, none⟩ 1 1 (Cl.cells ⟨⟨yp, yA, yn, yc, yo, yes⟩, yB, ym, yd, yls⟩) rfl rfl (fun j u h => new_cells _ _ _ j u h) (Cl.one _) (by unfold maxLen; omega) (by omega) (by simp; omega) ?_
            intro v7 w7 hown7 hg7 _
            obtain ⟨A7, d7, rfl, hn7⟩ := own_slice hown7
            have a1 := (K1.out.alloc (.cells (Cl.cells ⟨⟨yp, yA, yn, yc, yo, yes⟩, yB, ym, yd, yls⟩).toArray 45)).grown hg7 (own_blk_ne hown K1.out (by decide))
            have a2 := (K2.out.alloc (.cells (Cl.cells ⟨⟨yp, yA, yn, yc, yo, yes⟩, yB, ym, yd, yls⟩).toArray 45)).grown hg7 (own_blk_ne hown K2.out (by decide))
            have a3 := (K3.out.alloc (.cells (Cl.cells ⟨⟨yp, yA, yn, yc, yo, yes⟩, yB, ym, yd, yls⟩).toArray 45)).grown hg7 (own_blk_ne hown K3.out (by decide))
            have aP := (KP.out.alloc (.cells (Cl.cells ⟨⟨yp, yA, yn, yc, yo, yes⟩, yB, ym, yd, yls⟩).toArray 45)).grown hg7 (fun e => by have := HVL.out _ e.symm; omega)
            have aM := (KM.out.alloc (.cells (Cl.cells ⟨⟨yp, yA, yn, yc, yo, yes⟩, yB, ym, yd, yls⟩).toArray 45)).grown hg7 (KM.out.ne hown)
            have hba := (Below.refl w5.heap.size w5).alloc (Nat.le_refl _) (.cells (Cl.cells ⟨⟨yp, yA, yn, yc, yo, yes⟩, yB, ym, yd, yls⟩).toArray 45)
            have BL := (KB.out.alloc (by omega) (.cells (Cl.cells ⟨⟨yp, yA, yn, yc, yo, yes⟩, yB, ym, yd, yls⟩).toArray 45)).grown hg7 (by simp; omega) (fun x hx => (hown.lt x hx).1)
            have W7 : ∀ x ∈ acc ++ [(⟨⟨yp, yA, yn, yc, yo, yes⟩, yB, ym, yd, yls⟩ : Cl)], Cl.own w7 R x := by
              intro x hx
              rcases List.mem_append.1 hx with hx | hx
              · exact ((KW.out x hx).below hba).kept (hown.alloc _) hg7
              · rw [List.mem_singleton.1 hx]
                exact (KY.out.below hba).kept (hown.alloc _) hg7
            have C7 : (acc ++ [(⟨⟨yp, yA, yn, yc, yo, yes⟩, yB, ym, yd, yls⟩ : Cl)]).map Cl.core = ((cs.take (i + 1)).filter (keepB cs goals)).map Cl.core := by
              rw [HTK.out, List.map_append, List.map_append, HC.out]
              simp only [List.map_cons, List.map_nil, KC.out]
            have V7 : w7.ownsRow R 45 4 (.slice A7 (q + 1) d7) (q + 1) (ccells (acc ++ [(⟨⟨yp, yA, yn, yc, yo, yes⟩, yB, ym, yd, yls⟩ : Cl)])) := by
              rw [ccells_append]; simpa [ccells] using hown7
            have z3 := a3.frozen 0
            have y3 := a3.cell 0
            simp only [List.getElem?_cons_zero] at y3
            have hl7 := a3.lt
            have HA1 := Lib.hid a1
            have HA2 := Lib.hid a2
            have HA3 := Lib.hid a3
            have HAP := Lib.hid aP
            have HAM := Lib.hid aM
            have HBL := Lib.hid BL
            have HW7 := Lib.hid W7
            have HC7 := Lib.hid C7
            have HV7 := Lib.hid V7
            clear a1 a2 a3 aP aM BL W7 C7 V7 hown7 hown hg7 hba K1 K2 K3 KP KM KW KB KY KC HC HTK
            go_wp2
            refine tailQ_normal (fun _ => (HCi.out _).2 ⟨HA3.out, HAP.out⟩) ?_
            refine wpTail_cons ?_
            go_wp2
            refine tailQ_normal (fun _ => (HCi.out _).2 ⟨HA3.out, HAP.out⟩) ?_
            refine wpTail_cons ?_
            go_wp2
            refine tailQ_normal (fun h => by cases h) ?_
            refine wpTail_nil ?_
            have HG1 := Lib.hid (HA1.out.far (p := ⟨Z, 0, none⟩) (by simp; omega) (.slice A7 (q + 1) d7))
            have HG2 := Lib.hid (HA2.out.far (p := ⟨Z, 0, none⟩) (by simp; omega) (.slice A7 (q + 1) d7))
            have HG3 := Lib.hid (HA3.out.set_ 0 (.slice A7 (q + 1) d7))
            have HGM := Lib.hid (HAM.out.far (p := ⟨Z, 0, none⟩) (HAM.out.blk_ne HA3.out) (.slice A7 (q + 1) d7))
            have HVG := Lib.hid (own_setCell_blk HV7.out HA3.out (by decide) 0 (.slice A7 (q + 1) d7))
            have HBG := Lib.hid (HBL.out.setCell (p := ⟨Z, 0, none⟩) (by simp; omega) (.slice A7 (q + 1) d7))
            have HWG : Hid (∀ x ∈ acc ++ [(⟨⟨yp, yA, yn, yc, yo, yes⟩, yB, ym, yd, yls⟩ : Cl)], Cl.own (w7.setCell ⟨Z, 0, none⟩ (.slice A7 (q + 1) d7)) R x) := Lib.hid fun x hx => (HW7.out x hx).set HA3.out (by decide) (by decide) 0 _
            simp only [List.set_cons_zero] at HG3
            clear HA1 HA2 HA3 HAP HAM HBL HV7 HW7 z3 y3 hl7 HCi
            generalize World.setCell _ _ _ = w8 at *
            go_wp2
            go_roundg (n - (i + 1))
            case measure => have := HG.out; omega
            case rel => exact ⟨i + 1, q + 1, _, _, by go_num, by omega, Lib.hid rfl, Lib.hid (by have := HQ.out; simp; omega), by omega, HBG, HG1, HG2, HG3, HVG, HC7, HWG, HGM⟩
          · have hv : (if has S zp = true then (1 : Int) else 0) = 0 := by rw [has_not hp]; rfl
            have hkp : keepB cs goals ⟨⟨zp, zA, zn, zc, zo, zes⟩, zB, zm, zd, zls⟩ = false := by
              cases e : keepB cs goals ⟨⟨zp, zA, zn, zc, zo, zes⟩, zB, zm, zd, zls⟩
              · rfl
              · exact absurd ((HNE.out _).2 (keepB_iff.1 e)) hp
            have HTK : Hid ((cs.take (i + 1)).filter (keepB cs goals) = (cs.take i).filter (keepB cs goals)) := Lib.hid (by rw [HTK0.out, hkp]; simp)
            clear hp hkp HTK0
            go_wp2_with (at_lookup; go_must (refine wpList_lookup_wm rfl _ _ rfl (R + 1 + 1) k S rfl HM2.out zp rfl hgs ?_); rw [hv])
            go_roundg (n - (i + 1))
            case measure => have := HG.out; omega
            case rel => exact ⟨i + 1, q, acc, vb, by go_num, by omega, Lib.hid rfl, HQ, by omega, HB2, H12, H22, H32, HV2, by rw [HTK.out]; exact HC, HW2, HM2⟩
        · obtain rfl : i = n := by omega
          have hall : cs.take i = cs := List.take_of_length_le (by have := HN.out; omega)
          rw [hall] at HC
          obtain ⟨Ab, cb, rfl, hnb2⟩ := own_slice HV.out
          have q0 := H3.out.cell 0
          have r0 := H2.out.cell 0
          have s0 := H2.out.frozen 0
          have hl2 := H2.out.lt
          simp only [List.getElem?_cons_zero] at q0 r0
          have D1 := H2.out.set_ 0 (.slice Ab q cb)
          have E2 := own_setCell_blk HV.out H2.out (by decide) 0 (.slice Ab q cb)
          have E3 : ∀ x ∈ acc, Cl.own (wr.setCell ⟨R + 1, 0, none⟩ (.slice Ab q cb)) R x := fun x hx => (HW.out x hx).set H2.out (by decide) (by decide) 0 _
          have E4 := HB.out.setCell (p := ⟨R + 1, 0, none⟩) (by simp) (.slice Ab q cb)
          have p0 := D1.cell 0
          simp at p0
          have HE2 := Lib.hid E2
          have HE3 := Lib.hid E3
          have HE4 := Lib.hid E4
          clear E2 E3 E4 D1 HB H1 H2 H3 HV HW HM
          go_wp2
          refine bodyPost_ret (v := .agg #[.slice Ab q cb]) ?_ rfl ⟨Ab, cb, acc, by rw [HQ.out], ?_, HC.out, ?_, ?_⟩
          · simp [results, Try.results16, go_sem, p0]
          · rw [HRR.out, HQ.out]; exact HE2.out
          · rw [HRR.out]; exact HE3.out
          · rw [HRR.out]; exact HE4.out
    · obtain rfl : todo = t ++ [g] := by rw [e, List.concat_eq_append]
      clear e
      obtain ⟨g', cap, rfl, hgl, hc0, hown', hcap, hcm⟩ := names_pop HV.out
      have HT := Lib.hid hown'
      clear hown' HV
      have hgk : gk = t.length + 1 + owed cs S := by have := HG.out; simpa using this
      clear HG
      have hgs := HFN.out g (HH.out.sound g (.inr (by simp)))
      by_cases hgS : g ∈ S
      · have hv : (if has S g = true then (1 : Int) else 0) = 1 := by rw [if_pos (has_iff.2 hgS)]
        have HGS := Lib.hid hgS
        clear hgS
        go_wp2_with (at_lookup; go_must (refine wpList_lookup_wm rfl _ _ rfl (R + 1 + 1) k S rfl HM.out g rfl hgs ?_); rw [hv])
        go_roundg (t.length + owed cs S)
        case measure => omega
        case rel => exact ⟨S, t, k, Lib.hid rfl, by omega, Lib.hid (HH.out.skip HGS.out), HB, H1, H2, HM, HT⟩
      · have hv : (if has S g = true then (1 : Int) else 0) = 0 := by rw [has_not hgS]; rfl
        have HGS := Lib.hid hgS
        have HPU := Lib.hid (owed_push (cs := cs) hgS)
        clear hgS
        go_wp2_with (first | (at_lookup; go_must (refine wpList_lookup_wm rfl _ _ rfl (R + 1 + 1) k S rfl HM.out g rfl hgs ?_); rw [hv]) | (at_mapUpdate; go_must (refine wpList_update_wm rfl _ _ _ rfl (R + 1 + 1) k S rfl HM.out (by unfold maxLen; omega) g rfl hgs rfl ?_)))
        intro w7 hm7 hg7
        have hlm := HM.out.lt
        have HB7 := Lib.hid (HB.out.grown hg7 (by omega) (fun q hq => by cases hq; omega))
        have H17 := Lib.hid (H1.out.grown hg7 (by simp; omega))
        have H27 := Lib.hid (H2.out.grown hg7 (by simp))
        have HT7 := Lib.hid (own_kept_map HT.out HM.out hg7)
        have HM7 := Lib.hid hm7
        have HH7 := Lib.hid HH.out.take
        clear hm7 hg7 hlm HB H1 H2 HT HM HH hc0 hgl hv
        have f0 := H17.out.cell 0
        simp only [List.getElem?_cons_zero] at f0
        go_wp2
        clear f0
        go_loopg [6, 41] n (fun g2 u6 u41 wx => ∃ (i : Nat), u41 = .int .i64 i ∧ i ≤ n ∧ Hid (g2 = n - i) ∧ Hid (Below R w wx) ∧ Hid (Blk wx R 37 [.slice A n c]) ∧ Hid (Blk wx (R + 1) 37 [.slice none 0 0]) ∧
          Hid (Wm wx (R + 1 + 1) (k + 1) (g :: S)) ∧ Hid (wx.ownsRow R 9 1 u6 (t ++ pushes (cs.take i) g).length (scells (t ++ pushes (cs.take i) g))))
        case atStart => exact ⟨0, rfl, Nat.zero_le _, Lib.hid (by omega), HB7, H17, H27, HM7, by simpa [pushes] using HT7⟩
        case round =>
          clear HB7 H17 H27 HM7 HT7
          obtain ⟨i, rfl, hin, HG2, HB, H1, H2, HM, HV⟩ := hrel
          by_cases hlt : i < n
          · obtain ⟨B', off, hk1, rfl, hB, hc⟩ := (HL.out.below HB.out).at Cl.cells 4 (fun _ => rfl) (by omega) i hlt
            have c0 := hc 0 _ (by omega) rfl
            have c1 := hc 1 _ (by omega) rfl
            have c2 := hc 2 _ (by omega) rfl
            have c3 := hc 3 _ (by omega) rfl
            rw [Nat.add_zero] at c0
            clear hc
            have hzk := HK.out cs[i] (List.getElem_mem hk1)
            have HPS := Lib.hid (pushes_snoc hk1 g)
            have HPL := Lib.hid (pushes_le cs g (i + 1))
            generalize cs[i] = z at *
            have HZ : Hid (Rd w R 14 z.A z.n (lcells z.ls)) := Lib.hid (by rw [← HRR.out]; exact hzk.2.1)
            have hznb := hzk.2.1.2.1
            have hzlen : z.ls.length = z.n := by have := hzk.2.1.1; rw [lcells_length] at this; omega
            have HZN := Lib.hid hzlen
            clear hzk hzlen
            go_upto_region 11 with (fail)
            clear c0 c1 c2 c3
            obtain ⟨⟨zp, zA, zn, zc, zo, zes⟩, zB, zm, zd, zls⟩ := z
            dsimp only [Cl.asks] at HZ hznb HZN HPS
            have hsz := HM.out.lt
            have HB2 := Lib.hid (HB.out.alloc (by omega) (.cells #[.string zp, .slice zA zn zc, .int .i64 zo, .slice zB zm zd] 45))
            have H12 := Lib.hid (H1.out.alloc (.cells #[.string zp, .slice zA zn zc, .int .i64 zo, .slice zB zm zd] 45))
            have H22 := Lib.hid (H2.out.alloc (.cells #[.string zp, .slice zA zn zc, .int .i64 zo, .slice zB zm zd] 45))
            have HM2 := Lib.hid (HM.out.alloc (.cells #[.string zp, .slice zA zn zc, .int .i64 zo, .slice zB zm zd] 45))
            have HV2 := Lib.hid (HV.out.alloc (.cells #[.string zp, .slice zA zn zc, .int .i64 zo, .slice zB zm zd] 45))
            have HY2 := Lib.hid (Blk.new wr 45 [.string zp, .slice zA zn zc, .int .i64 zo, .slice zB zm zd])
            clear HB H1 H2 HM HV hsz
            generalize World.alloc _ _ = wa at *
            generalize wr.heap.size = Q at *
            have y0 := HY2.out.cell 0
            have y3 := HY2.out.cell 3
            simp only [List.getElem?_cons_zero, List.getElem?_cons_succ] at y0 y3
            by_cases hpg : zp.toList = g.toList
            · have b1 : (zp.toList == g.toList) = true := by simpa using hpg
              have b2 : (zp.toList != g.toList) = false := by simpa using hpg
              have HPS2 : Hid (pushes (cs.take (i + 1)) g = pushes (cs.take i) g ++ asksL zls) := Lib.hid (by rw [HPS.out, b1, if_pos rfl])
              clear HPS hpg
              go_wp2
              clear b1 b2 y0 y3
              go_loopg [6, 53] zm (fun g3 u6 u53 wy => ∃ (j : Nat), u53 = .int .i64 j ∧ j ≤ zm ∧ Hid (g3 = zm - j) ∧ Hid (Below R w wy) ∧ Hid (Blk wy R 37 [.slice (some ⟨B', off, none⟩) n c]) ∧ Hid (Blk wy (R + 1) 37 [.slice none 0 0]) ∧
                Hid (Wm wy (R + 1 + 1) (k + 1) (g :: S)) ∧ Hid (wy.ownsRow R 9 1 u6 (t ++ (pushes (cs.take i) g ++ asksL (zls.take j))).length (scells (t ++ (pushes (cs.take i) g ++ asksL (zls.take j))))))
              case atStart => exact ⟨0, rfl, Nat.zero_le _, Lib.hid (by omega), HB2, H12, H22, HM2, by simpa [asksL] using HV2⟩
              case round =>
                clear HB2 H12 H22 HM2 HV2 HY2
                obtain ⟨j, rfl, hjm, HG3, HB, H1, H2, HM, HV⟩ := hrel
                by_cases hlt3 : j < zm
                · obtain ⟨B2, off2, hj1, rfl, hB2, hc⟩ := (HZ.out.below HB.out).at Li.cells 14 (fun _ => rfl) (by omega) j hlt3
                  have c0 := hc 0 _ (by omega) rfl
                  have c1 := hc 1 _ (by omega) rfl
                  have c2 := hc 2 _ (by omega) rfl
                  have c3 := hc 3 _ (by omega) rfl
                  have c4 := hc 4 _ (by omega) rfl
                  have c5' := hc 5 _ (by omega) rfl
                  have c6' := hc 6 _ (by omega) rfl
                  have c7 := hc 7 _ (by omega) rfl
                  have c8 := hc 8 _ (by omega) rfl
                  have c9 := hc 9 _ (by omega) rfl
                  have c10 := hc 10 _ (by omega) rfl
                  have c11 := hc 11 _ (by omega) rfl
                  have c12 := hc 12 _ (by omega) rfl
                  have c13 := hc 13 _ (by omega) rfl
                  rw [Nat.add_zero] at c0
                  clear hc
                  have HTJ := Lib.hid (asksL_snoc hj1)
                  have HAL := Lib.hid (asksL_take_le zls (j + 1))
                  go_upto_region 15 with (fail)
                  have hsz := HM.out.lt
                  have HB3 := Lib.hid (HB.out.alloc (by omega) (.cells (zls[j]).cells.toArray 61))
                  have H13 := Lib.hid (H1.out.alloc (.cells (zls[j]).cells.toArray 61))
                  have H23 := Lib.hid (H2.out.alloc (.cells (zls[j]).cells.toArray 61))
                  have HM3 := Lib.hid (HM.out.alloc (.cells (zls[j]).cells.toArray 61))
                  have HV3 := Lib.hid (HV.out.alloc (.cells (zls[j]).cells.toArray 61))
                  have HP3 := Lib.hid (Blk.new wr 61 (zls[j]).cells)
                  simp only [Li.cells] at HB3 H13 H23 HM3 HV3 HP3
                  clear c0 c1 c2 c3 c4 c5' c6' c7 c8 c9 c10 c11 c12 c13 HB H1 H2 HM HV hsz
                  generalize zls[j] = y at *
                  obtain ⟨yk, ⟨yp, yA, yn, yc, yo, yes⟩, yop, yl, yr, yof⟩ := y
                  dsimp only at HB3 H13 H23 HM3 HV3 HP3 HTJ
                  generalize World.alloc _ _ = wb at *
                  generalize wr.heap.size = P at *
                  have x0 := HP3.out.cell 0
                  have x1 := HP3.out.cell 1
                  simp only [List.getElem?_cons_zero, List.getElem?_cons_succ] at x0 x1
                  have hkk : (yk == 1) = true ∨ ((yk == 1) = false ∧ (yk == 2) = true) ∨ ((yk == 1) = false ∧ (yk == 2) = false) := by
                    cases (yk == 1) <;> cases (yk == 2) <;> simp
                  rcases hkk with hk1' | ⟨hk1', hk2'⟩ | ⟨hk1', hk2'⟩
                  rotate_left 2
                  · have HTE : Hid (asksL (zls.take (j + 1)) = asksL (zls.take j)) := Lib.hid (by rw [HTJ.out, hk1', hk2']; simp)
                    clear HTJ
                    go_wp2
                    go_roundg (zm - (j + 1))
                    case measure => have := HG3.out; omega
                    case rel => exact ⟨j + 1, by go_num, by omega, Lib.hid rfl, HB3, H13, H23, HM3, by rw [HTE.out]; exact HV3⟩
                  all_goals
                    have hkor : (yk == 1 || yk == 2) = true := by first | rw [hk1', Bool.true_or] | rw [hk1', hk2', Bool.false_or]
                    have HTE : Hid (asksL (zls.take (j + 1)) = asksL (zls.take j) ++ [yp]) := Lib.hid (by rw [HTJ.out, hkor, if_pos rfl])
                    clear HTJ hkor
                    have hown := HV3.out
                    have hrm : (t ++ (pushes (cs.take i) g ++ asksL (zls.take j))).length + 1 ≤ m + allAsks cs := by
                      have q1 := HPL.out
                      rw [HPS2.out, List.length_append] at q1
                      have q2 := HAL.out
                      rw [HTE.out, List.length_append, List.length_singleton] at q2
                      have q3 := HPU.out
                      simp only [List.length_append]
                      omega
                    have hlw := HP3.out.lt
                    have hlx := H13.out.lt
                    go_wp2_with (at_builtin; go_must (refine wpList_append_own _ rfl _ _ 23 rfl R 9 i0 _ 1 16 Try.underlying23 hi hz0 hz1 hz2 rfl (by decide) _ _ _ rfl (hown.alloc _) ⟨wb.heap.size, 0, none⟩ 1 1 [.string yp] rfl rfl (fun j u h => new_cells _ _ _ j u h) (str_one yp) (by unfold maxLen; omega) (by omega) (by simp; omega) ?_))
                    intro v7 w7 hown7 hg7 _
                    have H17 := Lib.hid ((H13.out.alloc (.cells #[.string yp] 9)).grown hg7 (own_blk_ne hown H13.out (by decide)))
                    have H27 := Lib.hid ((H23.out.alloc (.cells #[.string yp] 9)).grown hg7 (own_blk_ne hown H23.out (by decide)))
                    have HM7 := Lib.hid ((HM3.out.alloc (.cells #[.string yp] 9)).grown hg7 (HM3.out.ne hown))
                    have HB7 := Lib.hid ((HB3.out.alloc (by omega) (.cells #[.string yp] 9)).grown hg7 (by simp; omega) (fun q hq => (hown.lt q hq).1))
                    have HV7 : Hid (w7.ownsRow R 9 1 v7 (t ++ (pushes (cs.take i) g ++ asksL (zls.take (j + 1)))).length (scells (t ++ (pushes (cs.take i) g ++ asksL (zls.take (j + 1)))))) := Lib.hid (by
                      rw [HTE.out, ← List.append_assoc (pushes (cs.take i) g), ← List.append_assoc t, scells_append, List.length_append]
                      simpa [scells] using hown7)
                    clear hown hown7 hg7 H13 H23 HM3 HB3 HV3 HP3 x0 x1 hlw hlx
                    go_wp2
                    go_roundg (zm - (j + 1))
                    case measure => have := HG3.out; omega
                    case rel => exact ⟨j + 1, by go_num, by omega, Lib.hid rfl, HB7, H17, H27, HM7, HV7⟩
                · obtain rfl : j = zm := by omega
                  have hall : zls.take j = zls := List.take_of_length_le (by have := HZN.out; omega)
                  have HV7 : Hid (wr.ownsRow R 9 1 u6 (t ++ pushes (cs.take (i + 1)) g).length (scells (t ++ pushes (cs.take (i + 1)) g))) := by
                    rw [HPS2.out]; rw [hall] at HV; exact HV
                  clear hall HV
                  go_wp2
                  go_roundg (n - (i + 1))
                  case measure => have := HG2.out; omega
                  case rel => exact ⟨i + 1, by go_num, by omega, Lib.hid rfl, HB, H1, H2, HM, HV7⟩
            · have b1 : (zp.toList == g.toList) = false := by simpa using hpg
              have b2 : (zp.toList != g.toList) = true := by simpa using hpg
              have HPS2 : Hid (pushes (cs.take (i + 1)) g = pushes (cs.take i) g) := Lib.hid (by rw [HPS.out, b1]; simp)
              clear HPS hpg
              go_wp2
              clear b1 b2 y0 y3
              go_roundg (n - (i + 1))
              case measure => have := HG2.out; omega
              case rel => exact ⟨i + 1, by go_num, by omega, Lib.hid rfl, HB2, H12, H22, HM2, by rw [HPS2.out]; exact HV2⟩
          · obtain rfl : i = n := by omega
            have hall : cs.take i = cs := List.take_of_length_le (by have := HN.out; omega)
            rw [hall] at HV
            clear hall
            go_wp2
            go_roundg ((t ++ pushes cs g).length + owed cs (g :: S))
            case measure => have := HPU.out; simp only [List.length_append]; omega
            case rel => exact ⟨g :: S, t ++ pushes cs g, k + 1, Lib.hid rfl, by have := HPU.out; simp only [List.length_append]; omega, HH7, HB, H1, H2, HM, HV⟩
end Go.Proofs.Ytjcgkplphiedjaa
