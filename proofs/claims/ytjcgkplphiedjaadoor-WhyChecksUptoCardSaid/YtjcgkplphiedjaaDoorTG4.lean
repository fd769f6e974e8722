/- The law's lines with marks behind their lists. | Lists that are the same are found to be the same. -/
import Derived.Test.YtjcgkplphiedjaaDoorTG3
namespace Go.Proofs.YtjcgkplphiedjaaDoorT
open Go.RowKit

set_option maxRecDepth 20000 in
set_option maxHeartbeats 4000000 in
theorem roomy_any (A : Option Addr) (n c : Nat) (ls : List Ln) (w : World) (hr : Rd w w.heap.size 5 A n (ncells ls)) (hok : ∀ x ∈ ls, Ln.ok w x) (hn : (n + 1) * 96 ≤ 140737488351232)
    (hb1 : ∀ x ∈ ls, (x.n + 1) * 32 ≤ 140737488351232) (hb2 : ∀ x ∈ ls, (x.m + 1) * 32 ≤ 140737488351232) (hb3 : ∀ x ∈ ls, (x.k + 1) * 8 ≤ 140737488351232) :
    Calls Tryd.prog 9 #[.slice A n c] w fun e w' => ∃ A' c' ls' z, e = .returned (.slice A' n c') ∧ w'.ownsRow w.heap.size 66 5 (.slice A' (n + 1) c') (n + 1) (ncells (ls' ++ [z])) ∧ z.r = -77 ∧ ls'.map Ln.core = ls.map Ln.core ∧ (∀ x ∈ ls', Ln.room w' w.heap.size x) ∧ Below w.heap.size w w' := by
  obtain ⟨i0, hi, hz0, hz1, hz2⟩ := info_parts Tryd.info68
  obtain ⟨k0, hki, hk0, hk1', hk2⟩ := info_parts Tryd.info3
  obtain ⟨j0, hj, hy0, hy1, hy2⟩ := info_parts Tryd.info66
  have HL := Lib.hid hr
  have HK := Lib.hid hok
  have hmb := hr.2.1
  have hlen : ls.length = n := by have := hr.1; rw [ncells_length] at this; omega
  have HN := Lib.hid hlen
  have HB1 := Lib.hid hb1
  have HB2 := Lib.hid hb2
  have HB3 := Lib.hid hb3
  clear hr hok hlen hb1 hb2 hb3
  generalize hR : w.heap.size = R at *
  have HRR := Lib.hid hR
  clear hR
  go_enter Tryd.func9, Tryd.ntmps9
  go_upto_region 3 with (fail)
  go_loopg [3, 4] n (fun gk u3 u4 wr => ∃ (k : Nat) (acc : List Ln), u4 = .int .i64 k ∧ k ≤ n ∧ Hid (gk = n - k) ∧ Hid (Below R w wr) ∧ Hid (R ≤ wr.heap.size) ∧ Hid (wr.ownsRow R 66 5 u3 k (ncells acc)) ∧ Hid (acc.map Ln.core = (ls.take k).map Ln.core) ∧ Hid (∀ y ∈ acc, Ln.room wr R y))
  case atStart => exact ⟨0, [], rfl, Nat.zero_le _, Lib.hid (by omega), Lib.hid (Below.refl _ _), Lib.hid (by rw [HRR.out]; exact Nat.le_refl _), Lib.hid (World.ownsRow_nil _ _ _ _), Lib.hid rfl, Lib.hid (by simp)⟩
  case round =>
    obtain ⟨k, acc, rfl, hk, HG, HB, HS, HV, HC, HW⟩ := hrel
    by_cases hlt : k < n
    · obtain ⟨B', off, hk1, rfl, hB, hc⟩ := (HL.out.below HB.out).at Ln.cells 5 (fun _ => rfl) (by omega) k hlt
      have c0 := hc 0 _ (by omega) rfl
      have c1 := hc 1 _ (by omega) rfl
      have c2 := hc 2 _ (by omega) rfl
      have c3 := hc 3 _ (by omega) rfl
      have c4 := hc 4 _ (by omega) rfl
      rw [Nat.add_zero] at c0
      clear hc
      have hlkk := HK.out ls[k] (List.getElem_mem hk1)
      have HTK := Lib.hid (take_snoc ls k hk1)
      have hq1 := HB1.out ls[k] (List.getElem_mem hk1)
      have hq2 := HB2.out ls[k] (List.getElem_mem hk1)
      have hq3 := HB3.out ls[k] (List.getElem_mem hk1)
      generalize ls[k] = z at *
      have HZ : Hid (Ln.ok wr z) := Lib.hid (hlkk.up (HRR.out ▸ HB.out))
      clear hlkk
      obtain ⟨zp, zA, zn, zc, zr, zB, zm, zd, zF, zk, ze, zxs, zss, zfs⟩ := z
      have hzn := HZ.out.an
      have hzm := HZ.out.sn
      have hzk := HZ.out.fn
      dsimp only at c0 c1 c2 c3 c4 hzn hzm hzk hq1 hq2 hq3
      go_upto_region 6 with (fail)
      have HBZ := Lib.hid ((Below.refl wr.heap.size wr).alloc (Nat.le_refl _) (.cells #[.string zp, .slice zA zn zc, .int .i64 zr, .slice zB zm zd, .slice zF zk ze] 66))
      have HX := Lib.hid (Blk.new wr 66 [.string zp, .slice zA zn zc, .int .i64 zr, .slice zB zm zd, .slice zF zk ze])
      clear c0 c1 c2 c3 c4
      generalize World.alloc _ _ = wa0 at *
      generalize hZ : wr.heap.size = Z at *
      have HZZ := Lib.hid hZ
      clear hZ
      have hRZ : R ≤ Z := HS.out
      have hs0 := HX.out.lt
      have hBw : Below wr.heap.size wr wa0 := by rw [HZZ.out]; exact HBZ.out
      have hown0 : (wa0.alloc (.cells #[] 68)).ownsRow wa0.heap.size 68 3 (.slice (some ⟨wa0.heap.size, 0, none⟩) 0 0) 0 [] := own_empty (Nat.le_refl _)
      have hba := (Below.refl wa0.heap.size wa0).alloc (Nat.le_refl _) (.cells #[] 68)
      have hbw := hba.size
      have HRd : Hid (Rd (wa0.alloc (.cells #[] 68)) (wa0.alloc (.cells #[] 68)).heap.size 3 zA zn (kcells zxs)) := Lib.hid ((HZ.out.a.up hBw hBw.size).up hba hba.size)
      have g2 := (HX.out.cell 1).trans rfl
      go_wp2_with (at_builtin; go_must (refine wpList_append_all rfl _ _ 36 rfl wa0.heap.size 68 i0 _ 3 32 Tryd.underlying36 hi hz0 hz1 hz2 rfl (by decide) _ _ _ rfl hown0 zA zn zc (kcells zxs) rfl HZ.out.aA HRd.out (cons_one zxs) (by unfold maxLen; omega) (by omega) hbw ?_))
      intro v1 w1 hown1 hg1
      have hb := hba.grown hg1 hbw (fun k hk => (hown0.lt k hk).1)
      obtain ⟨A1, d1, rfl, hn1⟩ := own_slice hown1
      clear hown0 hg1 hba hbw HRd g2 hBw
      try simp only [Nat.zero_add, List.nil_append] at hown1
      go_wp2_with (at_builtin; go_must (refine wpList_append_own _ rfl _ _ 36 rfl wa0.heap.size 68 i0 _ 3 32 Tryd.underlying36 hi hz0 hz1 hz2 rfl (by decide) _ _ _ rfl (hown1.alloc _) ⟨w1.heap.size, 0, none⟩ 1 1 (Cn.cells markK) rfl rfl (fun j u h => new_cells _ _ _ j u h) (fun u hu => cons_one [markK] u (by simpa [kcells] using hu)) (by unfold maxLen; omega) (by omega) (by have := hb.size; simp; omega) ?_))
      intro v w1' hown hg _
      have hb2 := (hb.alloc hb.size (.cells (Cn.cells markK).toArray 68)).grown hg (by have := hb.size; simp; omega) (fun k hk => (hown1.lt k hk).1)
      obtain ⟨g1, D1, cur1, rfl, hgb1, _, hnc1, hcm1, _, _⟩ := own_blk hown (by omega)
      have HX' := Lib.hid (HX.out.below hb2 hs0)
      have HBZ' := Lib.hid (HBZ.out.trans (hb2.mono (Nat.le_of_lt hs0)))
      have HP1 := Lib.hid (own_le hown (Nat.le_of_lt hs0))
      clear hown1 hown hg hb hb2 HX HBZ hs0
      have HX := HX'
      have HBZ := HBZ'
      clear HX' HBZ'
      go_upto_region 7 with (fail)
      have hs0 := HX.out.lt
      have hBw : Below wr.heap.size wr w1' := by rw [HZZ.out]; exact HBZ.out
      have hown0 : (w1'.alloc (.cells #[] 68)).ownsRow w1'.heap.size 68 3 (.slice (some ⟨w1'.heap.size, 0, none⟩) 0 0) 0 [] := own_empty (Nat.le_refl _)
      have hba := (Below.refl w1'.heap.size w1').alloc (Nat.le_refl _) (.cells #[] 68)
      have hbw := hba.size
      have HRd : Hid (Rd (w1'.alloc (.cells #[] 68)) (w1'.alloc (.cells #[] 68)).heap.size 3 zB zm (kcells zss)) := Lib.hid ((HZ.out.s.up hBw hBw.size).up hba hba.size)
      have g2 := (HX.out.cell 3).trans rfl
      go_wp2_with (at_builtin; go_must (refine wpList_append_all rfl _ _ 36 rfl w1'.heap.size 68 i0 _ 3 32 Tryd.underlying36 hi hz0 hz1 hz2 rfl (by decide) _ _ _ rfl hown0 zB zm zd (kcells zss) rfl HZ.out.sA HRd.out (cons_one zss) (by unfold maxLen; omega) (by omega) hbw ?_))
      intro v2 w2 hown2 hg2
      have hb := hba.grown hg2 hbw (fun k hk => (hown0.lt k hk).1)
      obtain ⟨A2, d2, rfl, hn2⟩ := own_slice hown2
      clear hown0 hg2 hba hbw HRd g2 hBw
      try simp only [Nat.zero_add, List.nil_append] at hown2
      go_wp2_with (at_builtin; go_must (refine wpList_append_own _ rfl _ _ 36 rfl w1'.heap.size 68 i0 _ 3 32 Tryd.underlying36 hi hz0 hz1 hz2 rfl (by decide) _ _ _ rfl (hown2.alloc _) ⟨w2.heap.size, 0, none⟩ 1 1 (Cn.cells markK) rfl rfl (fun j u h => new_cells _ _ _ j u h) (fun u hu => cons_one [markK] u (by simpa [kcells] using hu)) (by unfold maxLen; omega) (by omega) (by have := hb.size; simp; omega) ?_))
      intro v w2' hown hg _
      have hb2 := (hb.alloc hb.size (.cells (Cn.cells markK).toArray 68)).grown hg (by have := hb.size; simp; omega) (fun k hk => (hown2.lt k hk).1)
      obtain ⟨g2, D2, cur2, rfl, hgb2, _, hnc2, hcm2, _, _⟩ := own_blk hown (by omega)
      have HX' := Lib.hid (HX.out.below hb2 hs0)
      have HBZ' := Lib.hid (HBZ.out.trans (hb2.mono (Nat.le_of_lt hs0)))
      have HP2 := Lib.hid (own_le hown (Nat.le_of_lt hs0))
      have HP1n := Lib.hid (own_below HP1.out hb2)
      clear HP1
      have HP1 := HP1n
      clear HP1n
      clear hown2 hown hg hb hb2 HX HBZ hs0
      have HX := HX'
      have HBZ := HBZ'
      clear HX' HBZ'
      go_upto_region 8 with (fail)
      have hs0 := HX.out.lt
      have hBw : Below wr.heap.size wr w2' := by rw [HZZ.out]; exact HBZ.out
      have hown0 : (w2'.alloc (.cells #[] 3)).ownsRow w2'.heap.size 3 1 (.slice (some ⟨w2'.heap.size, 0, none⟩) 0 0) 0 [] := own_empty (Nat.le_refl _)
      have hba := (Below.refl w2'.heap.size w2').alloc (Nat.le_refl _) (.cells #[] 3)
      have hbw := hba.size
      have HRd : Hid (Rd (w2'.alloc (.cells #[] 3)) (w2'.alloc (.cells #[] 3)).heap.size 1 zF zk (icells zfs)) := Lib.hid ((HZ.out.f.up hBw hBw.size).up hba hba.size)
      have g2 := (HX.out.cell 4).trans rfl
      go_wp2_with (at_builtin; go_must (refine wpList_append_all rfl _ _ 27 rfl w2'.heap.size 3 k0 _ 1 8 Tryd.underlying27 hki hk0 hk1' hk2 rfl (by decide) _ _ _ rfl hown0 zF zk ze (icells zfs) rfl HZ.out.fA HRd.out (ints_one zfs) (by unfold maxLen; omega) (by omega) hbw ?_))
      intro v3 w3 hown3 hg3
      have hb := hba.grown hg3 hbw (fun k hk => (hown0.lt k hk).1)
      obtain ⟨A3, d3, rfl, hn3⟩ := own_slice hown3
      clear hown0 hg3 hba hbw HRd g2 hBw
      try simp only [Nat.zero_add, List.nil_append] at hown3
      go_wp2_with (at_builtin; go_must (refine wpList_append_own _ rfl _ _ 27 rfl w2'.heap.size 3 k0 _ 1 8 Tryd.underlying27 hki hk0 hk1' hk2 rfl (by decide) _ _ _ rfl (hown3.alloc _) ⟨w3.heap.size, 0, none⟩ 1 1 ([.int .i64 77]) rfl rfl (fun j u h => new_cells _ _ _ j u h) (ints_one [77]) (by unfold maxLen; omega) (by omega) (by have := hb.size; simp; omega) ?_))
      intro v w3' hown hg _
      have hb2 := (hb.alloc hb.size (.cells ([.int .i64 77]).toArray 3)).grown hg (by have := hb.size; simp; omega) (fun k hk => (hown3.lt k hk).1)
      obtain ⟨g3, D3, cur3, rfl, hgb3, _, hnc3, hcm3, _, _⟩ := own_blk hown (by omega)
      have HX' := Lib.hid (HX.out.below hb2 hs0)
      have HBZ' := Lib.hid (HBZ.out.trans (hb2.mono (Nat.le_of_lt hs0)))
      have HP3 := Lib.hid (own_le hown (Nat.le_of_lt hs0))
      have HP1n := Lib.hid (own_below HP1.out hb2)
      have HP2n := Lib.hid (own_below HP2.out hb2)
      clear HP1
      clear HP2
      have HP1 := HP1n
      clear HP1n
      have HP2 := HP2n
      clear HP2n
      clear hown3 hown hg hb hb2 HX HBZ hs0
      have HX := HX'
      have HBZ := HBZ'
      clear HX' HBZ'
      go_upto_region 9 with (fail)
      have f0 := HX.out.frozen 1
      have f1 := (HX.out.cell 1).trans rfl
      have f2 := HX.out.lt
      have hcast1 : (((zn + 1 : Nat) : Int) - 1) = (zn : Int) := by omega
      have hcp1 : (zn : Int) ≤ (D1 : Int) := by omega
      go_upto_region 10 with (fail)
      have HX' := Lib.hid (HX.out.set_ 1 (.slice (some ⟨g1, 0, none⟩) zn D1))
      have HBZ' := Lib.hid (HBZ.out.setCell (p := ⟨Z, 1, none⟩) (by simp) (.slice (some ⟨g1, 0, none⟩) zn D1))
      have HP1n := Lib.hid (own_setCell_blk HP1.out HX.out (by decide) 1 (.slice (some ⟨g1, 0, none⟩) zn D1))
      have HP2n := Lib.hid (own_setCell_blk HP2.out HX.out (by decide) 1 (.slice (some ⟨g1, 0, none⟩) zn D1))
      have HP3n := Lib.hid (own_setCell_blk HP3.out HX.out (by decide) 1 (.slice (some ⟨g1, 0, none⟩) zn D1))
      simp only [List.set_cons_succ, List.set_cons_zero] at HX'
      clear HX HBZ HP1 HP2 HP3 f0 f1 f2
      have HX := HX'
      have HBZ := HBZ'
      clear HX' HBZ'
      have HP1 := HP1n
      clear HP1n
      have HP2 := HP2n
      clear HP2n
      have HP3 := HP3n
      clear HP3n
      generalize World.setCell _ _ _ = x1 at *
      have f0 := HX.out.frozen 3
      have f1 := (HX.out.cell 3).trans rfl
      have f2 := HX.out.lt
      have hcast2 : (((zm + 1 : Nat) : Int) - 1) = (zm : Int) := by omega
      have hcp2 : (zm : Int) ≤ (D2 : Int) := by omega
      go_upto_region 11 with (fail)
      have HX' := Lib.hid (HX.out.set_ 3 (.slice (some ⟨g2, 0, none⟩) zm D2))
      have HBZ' := Lib.hid (HBZ.out.setCell (p := ⟨Z, 3, none⟩) (by simp) (.slice (some ⟨g2, 0, none⟩) zm D2))
      have HP1n := Lib.hid (own_setCell_blk HP1.out HX.out (by decide) 3 (.slice (some ⟨g2, 0, none⟩) zm D2))
      have HP2n := Lib.hid (own_setCell_blk HP2.out HX.out (by decide) 3 (.slice (some ⟨g2, 0, none⟩) zm D2))
      have HP3n := Lib.hid (own_setCell_blk HP3.out HX.out (by decide) 3 (.slice (some ⟨g2, 0, none⟩) zm D2))
      simp only [List.set_cons_succ, List.set_cons_zero] at HX'
      clear HX HBZ HP1 HP2 HP3 f0 f1 f2
      have HX := HX'
      have HBZ := HBZ'
      clear HX' HBZ'
      have HP1 := HP1n
      clear HP1n
      have HP2 := HP2n
      clear HP2n
      have HP3 := HP3n
      clear HP3n
      generalize World.setCell _ _ _ = x2 at *
      have f0 := HX.out.frozen 4
      have f1 := (HX.out.cell 4).trans rfl
      have f2 := HX.out.lt
      have hcast3 : (((zk + 1 : Nat) : Int) - 1) = (zk : Int) := by omega
      have hcp3 : (zk : Int) ≤ (D3 : Int) := by omega
      go_upto_region 12 with (fail)
      have HX' := Lib.hid (HX.out.set_ 4 (.slice (some ⟨g3, 0, none⟩) zk D3))
      have HBZ' := Lib.hid (HBZ.out.setCell (p := ⟨Z, 4, none⟩) (by simp) (.slice (some ⟨g3, 0, none⟩) zk D3))
      have HP1n := Lib.hid (own_setCell_blk HP1.out HX.out (by decide) 4 (.slice (some ⟨g3, 0, none⟩) zk D3))
      have HP2n := Lib.hid (own_setCell_blk HP2.out HX.out (by decide) 4 (.slice (some ⟨g3, 0, none⟩) zk D3))
      have HP3n := Lib.hid (own_setCell_blk HP3.out HX.out (by decide) 4 (.slice (some ⟨g3, 0, none⟩) zk D3))
      simp only [List.set_cons_succ, List.set_cons_zero] at HX'
      clear HX HBZ HP1 HP2 HP3 f0 f1 f2
      have HX := HX'
      have HBZ := HBZ'
      clear HX' HBZ'
      have HP1 := HP1n
      clear HP1n
      have HP2 := HP2n
      clear HP2n
      have HP3 := HP3n
      clear HP3n
      generalize World.setCell _ _ _ = x3 at *
      have q0 := (HX.out.cell 0).trans rfl
      have q1 := (HX.out.cell 1).trans rfl
      have q2 := (HX.out.cell 2).trans rfl
      have q3 := (HX.out.cell 3).trans rfl
      have q4 := (HX.out.cell 4).trans rfl
      have hbz : Below wr.heap.size wr x3 := by rw [HZZ.out]; exact HBZ.out
      have hsz := hbz.size
      have hown := own_below HV.out hbz
      have KW : Hid (∀ y ∈ acc, Ln.room x3 R y) := Lib.hid fun y hy => (HW.out y hy).below hbz
      have KB := Lib.hid (HB.out.trans (hbz.mono (by rw [HZZ.out]; exact HS.out)))
      have KY : Hid (Ln.room x3 R ⟨zp, some ⟨g1, 0, none⟩, zn, D1, zr, some ⟨g2, 0, none⟩, zm, D2, some ⟨g3, 0, none⟩, zk, D3, zxs, zss, zfs⟩) := Lib.hid ⟨by have := own_le HP1.out HS.out; simpa [kcells] using this, by have := own_le HP2.out HS.out; simpa [kcells] using this, by have := own_le HP3.out HS.out; simpa [icells] using this⟩
      have hRx : R ≤ x3.heap.size := by have := HZZ.out; omega
      go_wp2_with (at_builtin; go_must (refine wpList_append_own _ rfl _ _ 25 rfl R 66 j0 _ 5 96 Tryd.underlying25 hj hy0 hy1 hy2 rfl (by decide) _ _ _ rfl (hown.alloc _) ⟨x3.heap.size, 0, none⟩ 1 1 (Ln.cells ⟨zp, some ⟨g1, 0, none⟩, zn, D1, zr, some ⟨g2, 0, none⟩, zm, D2, some ⟨g3, 0, none⟩, zk, D3, zxs, zss, zfs⟩) rfl rfl (fun j u h => new_cells _ _ _ j u h) (Ln.one _) (by unfold maxLen; omega) (by omega) (by simp; omega) ?_))
      intro v7 w7 hown7 hg7 _
      obtain ⟨A7, d7, rfl, hn7⟩ := own_slice hown7
      have hba := (Below.refl x3.heap.size x3).alloc (Nat.le_refl _) (.cells (Ln.cells ⟨zp, some ⟨g1, 0, none⟩, zn, D1, zr, some ⟨g2, 0, none⟩, zm, D2, some ⟨g3, 0, none⟩, zk, D3, zxs, zss, zfs⟩).toArray 66)
      have BL := Lib.hid ((KB.out.alloc hRx (.cells (Ln.cells ⟨zp, some ⟨g1, 0, none⟩, zn, D1, zr, some ⟨g2, 0, none⟩, zm, D2, some ⟨g3, 0, none⟩, zk, D3, zxs, zss, zfs⟩).toArray 66)).grown hg7 (by simp; omega) (fun q hq => (hown.lt q hq).1))
      have W7 : Hid (∀ q ∈ acc ++ [(⟨zp, some ⟨g1, 0, none⟩, zn, D1, zr, some ⟨g2, 0, none⟩, zm, D2, some ⟨g3, 0, none⟩, zk, D3, zxs, zss, zfs⟩ : Ln)], Ln.room w7 R q) := Lib.hid (by
        intro q hq
        rcases List.mem_append.1 hq with hq | hq
        · exact ((KW.out q hq).below hba).kept (hown.alloc _) hg7
        · rw [List.mem_singleton.1 hq]
          exact (KY.out.below hba).kept (hown.alloc _) hg7)
      have C7 : Hid ((acc ++ [(⟨zp, some ⟨g1, 0, none⟩, zn, D1, zr, some ⟨g2, 0, none⟩, zm, D2, some ⟨g3, 0, none⟩, zk, D3, zxs, zss, zfs⟩ : Ln)]).map Ln.core = (ls.take (k + 1)).map Ln.core) := Lib.hid (by
        rw [HTK.out, List.map_append, List.map_append, HC.out]; rfl)
      have V7 : Hid (w7.ownsRow R 66 5 (.slice A7 (k + 1) d7) (k + 1) (ncells (acc ++ [(⟨zp, some ⟨g1, 0, none⟩, zn, D1, zr, some ⟨g2, 0, none⟩, zm, D2, some ⟨g3, 0, none⟩, zk, D3, zxs, zss, zfs⟩ : Ln)]))) := Lib.hid (by
        rw [ncells_append]; simpa [ncells] using hown7)
      have S7 : Hid (R ≤ w7.heap.size) := Lib.hid (Nat.le_trans (by simp; omega) hg7.size)
      clear hown7 hown hg7 hba KW KB KY hbz HP1 HP2 HP3 HX HBZ HV HW HC HTK HB q0 q1 q2 q3 q4
      go_wp2
      go_roundg (n - (k + 1))
      case measure => have := HG.out; omega
      case rel => exact ⟨k + 1, _, by go_num, by omega, Lib.hid rfl, BL, S7, V7, C7, W7⟩
    · obtain rfl : k = n := by omega
      have hall : ls.take k = ls := List.take_of_length_le (by have := HN.out; omega)
      rw [hall] at HC
      have hown := HV.out
      have hRx := HS.out
      obtain ⟨Ab, cb, rfl, hnb2⟩ := own_slice hown
      go_wp2_with (at_builtin; go_must (refine wpList_append_own _ rfl _ _ 25 rfl R 66 j0 _ 5 96 Tryd.underlying25 hj hy0 hy1 hy2 rfl (by decide) _ _ _ rfl (hown.alloc _) ⟨wr.heap.size, 0, none⟩ 1 1 (Ln.cells ⟨⟨#[]⟩, none, 0, 0, -77, none, 0, 0, none, 0, 0, [], [], []⟩) rfl rfl (fun j u h => new_cells _ _ _ j u h) (Ln.one _) (by unfold maxLen; omega) (by omega) (by simp; omega) ?_))
      intro v7 w7 hown7 hg7 _
      have hba := (Below.refl wr.heap.size wr).alloc (Nat.le_refl _) (.cells (Ln.cells ⟨⟨#[]⟩, none, 0, 0, -77, none, 0, 0, none, 0, 0, [], [], []⟩).toArray 66)
      have BL := Lib.hid ((HB.out.alloc hRx (.cells (Ln.cells ⟨⟨#[]⟩, none, 0, 0, -77, none, 0, 0, none, 0, 0, [], [], []⟩).toArray 66)).grown hg7 (by simp; omega) (fun q hq => (hown.lt q hq).1))
      have W7 : Hid (∀ q ∈ acc, Ln.room w7 R q) := Lib.hid (fun q hq => ((HW.out q hq).below hba).kept (hown.alloc _) hg7)
      obtain ⟨g7, D7, cur7, rfl, hgb7, _, hnc7, hcm7, _, _⟩ := own_blk hown7 (by omega)
      have V7 : Hid (w7.ownsRow R 66 5 (.slice (some ⟨g7, 0, none⟩) (k + 1) D7) (k + 1) (ncells (acc ++ [(⟨⟨#[]⟩, none, 0, 0, -77, none, 0, 0, none, 0, 0, [], [], []⟩ : Ln)]))) := Lib.hid (by
        rw [ncells_append]; simpa [ncells] using hown7)
      have hcp7 : (k : Int) ≤ (D7 : Int) := by omega
      clear hown7 hown hg7 hba HB HV HW
      go_wp2
      go_ret
      exact ⟨_, D7, acc, ⟨⟨#[]⟩, none, 0, 0, -77, none, 0, 0, none, 0, 0, [], [], []⟩, rfl, V7.out, rfl, HC.out, W7.out, BL.out⟩
end Go.Proofs.YtjcgkplphiedjaaDoorT

namespace Go.Proofs.YtjcgkplphiedjaaDoorT
open Go.RowKit

theorem eqInK (k i : Int) (t : ByteArray) (w : World) :
    (Op.equalIn 10000 68 (.agg #[.int .i64 k, .int .i64 i, .string t]) (.agg #[.int .i64 k, .int .i64 i, .string t])).run Tryd.prog w = .ok true w := by
  rw [run_equalIn_struct (P := Tryd.prog) w 9999 68 _ _ (by kernel_rfl) (by kernel_rfl)]
  have h1 : ∃ a b c : Field, (Tryd.prog.fieldsOf 68).toList = [a, b, c] ∧ a.name ≠ "_" ∧ b.name ≠ "_" ∧ c.name ≠ "_" ∧ a.type = 3 ∧ b.type = 2 ∧ c.type = 9 ∧ a.offset = 0 ∧ b.offset = 1 ∧ c.offset = 2 := by
    simp only [Program.fieldsOf, Tryd.underlying68]
    exact ⟨_, _, _, rfl, by decide, by decide, by decide, rfl, rfl, rfl, rfl, rfl, rfl⟩
  obtain ⟨a, b, c, hl, n1, n2, n3, t1, t2, t3, o1, o2, o3⟩ := h1
  rw [hl]
  simp only [Op.eqFields, t1, t2, t3, o1, o2, o3]
  go_simp
  repeat' split
  all_goals simp_all
@[simp] theorem run_neqK (k i : Int) (t : ByteArray) (w : World) :
    (binOp .neq 68 (.agg #[.int .i64 k, .int .i64 i, .string t]) (.agg #[.int .i64 k, .int .i64 i, .string t])).run Tryd.prog w = .ok (.bool false) w := by
  rw [run_neq_struct, eqInK]; rfl

set_option maxHeartbeats 4000000 in
theorem ints_same (A A' : Option Addr) (n c c' : Nat) (l : List Int) (w : World) (hr : Rd w w.heap.size 1 A n (icells l)) (hr' : Rd w w.heap.size 1 A' n (icells l)) :
    Calls Tryd.prog 13 #[.slice A n c, .slice A' n c'] w fun e w' => e = .returned (.bool true) ∧ Below w.heap.size w w' := by
  have HL := Lib.hid hr
  have HM := Lib.hid hr'
  have hnb := hr.2.1
  clear hr hr'
  generalize hR : w.heap.size = R at *
  have HRR := Lib.hid hR
  clear hR
  go_enter Tryd.func13, Tryd.ntmps13
  go_upto_region 4 with (fail)
  go_loopg [5] n (fun gk u5 wr => ∃ k : Nat, u5 = .int .i64 k ∧ k ≤ n ∧ Hid (gk = n - k) ∧ Hid (Below R w wr))
  case atStart => exact ⟨0, rfl, Nat.zero_le _, Lib.hid (by omega), Lib.hid (Below.refl _ _)⟩
  case round =>
    obtain ⟨k, rfl, hk, HG, HB⟩ := hrel
    by_cases hlt : k < n
    · obtain ⟨b1, o1, hk1, rfl, hb1, c1⟩ := (HL.out.below HB.out).ints k hlt
      obtain ⟨b2, o2, hk2, rfl, hb2, c2⟩ := (HM.out.below HB.out).ints k hlt
      generalize l[k] = z at *
      go_upto_region 6 with (fail)
      go_quiet (fail)
      go_wp2
      go_roundg (n - (k + 1))
      case measure => have := HG.out; omega
      case rel => exact ⟨k + 1, by go_num, by omega, Lib.hid rfl, Lib.hid (HB.out.trans ⟨rfl, rfl, rfl, Nat.le_refl _, fun _ _ => rfl⟩)⟩
    · obtain rfl : k = n := by omega
      go_wp2
      go_ret
      exact ⟨rfl, HB.out⟩

set_option maxHeartbeats 4000000 in
theorem consts_same (A A' : Option Addr) (n c c' : Nat) (l : List Cn) (w : World) (hr : Rd w w.heap.size 3 A n (kcells l)) (hr' : Rd w w.heap.size 3 A' n (kcells l)) :
    Calls Tryd.prog 37 #[.slice A n c, .slice A' n c'] w fun e w' => e = .returned (.bool true) ∧ Below w.heap.size w w' := by
  have HL := Lib.hid hr
  have HM := Lib.hid hr'
  have hnb := hr.2.1
  clear hr hr'
  generalize hR : w.heap.size = R at *
  have HRR := Lib.hid hR
  clear hR
  go_enter Tryd.func37, Tryd.ntmps37
  go_upto_region 4 with (fail)
  go_loopg [5] n (fun gk u5 wr => ∃ k : Nat, u5 = .int .i64 k ∧ k ≤ n ∧ Hid (gk = n - k) ∧ Hid (Below R w wr))
  case atStart => exact ⟨0, rfl, Nat.zero_le _, Lib.hid (by omega), Lib.hid (Below.refl _ _)⟩
  case round =>
    obtain ⟨k, rfl, hk, HG, HB⟩ := hrel
    by_cases hlt : k < n
    · obtain ⟨b1, o1, hk1, rfl, hb1, hc⟩ := (HL.out.below HB.out).at Cn.cells 3 (fun _ => rfl) (by omega) k hlt
      obtain ⟨b2, o2, hk2, rfl, hb2, hd⟩ := (HM.out.below HB.out).at Cn.cells 3 (fun _ => rfl) (by omega) k hlt
      have c0 := hc 0 _ (by omega) rfl
      have c1 := hc 1 _ (by omega) rfl
      have c2 := hc 2 _ (by omega) rfl
      have d0 := hd 0 _ (by omega) rfl
      have d1 := hd 1 _ (by omega) rfl
      have d2 := hd 2 _ (by omega) rfl
      rw [Nat.add_zero] at c0 d0
      clear hc hd
      generalize l[k] = z at *
      obtain ⟨zk, zi, zt⟩ := z
      dsimp only at c0 c1 c2 d0 d1 d2
      go_upto_region 6 with (fail)
      go_quiet (fail)
      go_wp2
      go_roundg (n - (k + 1))
      case measure => have := HG.out; omega
      case rel => exact ⟨k + 1, by go_num, by omega, Lib.hid rfl, Lib.hid (HB.out.trans ⟨rfl, rfl, rfl, Nat.le_refl _, fun _ _ => rfl⟩)⟩
    · obtain rfl : k = n := by omega
      go_wp2
      go_ret
      exact ⟨rfl, HB.out⟩
end Go.Proofs.YtjcgkplphiedjaaDoorT
