/- The law's copy of lines. -/
import Derived.Test.YtjcgkplphiedjaaDoorTH1
namespace Go.Proofs.YtjcgkplphiedjaaDoorT
open Go.RowKit

set_option maxRecDepth 20000 in
set_option maxHeartbeats 4000000 in
theorem copied_any (A : Option Addr) (n c : Nat) (ls : List Ln) (w : World) (hr : Rd w w.heap.size 5 A n (ncells ls)) (hok : ∀ x ∈ ls, Ln.ok w x) (hn : n * 96 ≤ 140737488351232) :
    Calls Tryd.prog 8 #[.slice A n c] w fun e w' => ∃ A' c' ls', e = .returned (.slice A' n c') ∧ w'.ownsRow w.heap.size 66 5 (.slice A' n c') n (ncells ls') ∧ ls'.map Ln.core = ls.map Ln.core ∧ (∀ x ∈ ls', Ln.own w' w.heap.size x) ∧ Below w.heap.size w w' := by
  obtain ⟨i0, hi, hz0, hz1, hz2⟩ := info_parts Tryd.info68
  obtain ⟨k0, hki, hk0, hk1', hk2⟩ := info_parts Tryd.info3
  obtain ⟨j0, hj, hy0, hy1, hy2⟩ := info_parts Tryd.info66
  have HL := Lib.hid hr
  have HK := Lib.hid hok
  have hmb := hr.2.1
  have hlen : ls.length = n := by have := hr.1; rw [ncells_length] at this; omega
  have HN := Lib.hid hlen
  clear hr hok hlen
  generalize hR : w.heap.size = R at *
  have HRR := Lib.hid hR
  clear hR
  go_enter Tryd.func8, Tryd.ntmps8
  go_upto_region 3 with (fail)
  go_loopg [3, 4] n (fun gk u3 u4 wr => ∃ (k : Nat) (acc : List Ln), u4 = .int .i64 k ∧ k ≤ n ∧ Hid (gk = n - k) ∧ Hid (Below R w wr) ∧ Hid (R ≤ wr.heap.size) ∧ Hid (wr.ownsRow R 66 5 u3 k (ncells acc)) ∧ Hid (acc.map Ln.core = (ls.take k).map Ln.core) ∧ Hid (∀ y ∈ acc, Ln.own wr R y))
  case atStart => exact ⟨0, [], rfl, Nat.zero_le _, Lib.hid (by omega), Lib.hid (Below.refl _ _), Lib.hid (by rw [HRR.out]; exact Nat.le_refl _), Lib.hid (World.ownsRow_nil _ _ _ _), Lib.hid rfl, Lib.hid (by simp)⟩
  case round =>
    obtain ⟨k, acc, rfl, hk, HG, HB, HS, HV, HC, HW⟩ := hrel
    by_cases hlt : k < n
    · obtain ⟨B', off, hk1, rfl, hB, hc⟩ := (HL.out.below HB.out).at Ln.cells 5 (fun _ => rfl) (by omega) k hlt
      have c0 := hc 0 _ (by omega) rfl
      have c1 := hc 1 _ (by omega) rfl
      have c2 := hc 2 _ (by omega) rfl
      have c3 := hc 3 _ (by omega) rfl
      have c4 := hc 4 _ (by omega) rfl
      rw [Nat.add_zero] at c0
      clear hc
      have hlkk := HK.out ls[k] (List.getElem_mem hk1)
      have HTK := Lib.hid (take_snoc ls k hk1)
      generalize ls[k] = z at *
      have HZ : Hid (Ln.ok wr z) := Lib.hid (hlkk.up (HRR.out ▸ HB.out))
      clear hlkk
      obtain ⟨zp, zA, zn, zc, zr, zB, zm, zd, zF, zk, ze, zxs, zss, zfs⟩ := z
      have hzn := HZ.out.an
      have hzm := HZ.out.sn
      have hzk := HZ.out.fn
      dsimp only at c0 c1 c2 c3 c4 hzn hzm hzk
      go_upto_region 6 with (fail)
      have HBZ := Lib.hid ((Below.refl wr.heap.size wr).alloc (Nat.le_refl _) (.cells #[.string zp, .slice zA zn zc, .int .i64 zr, .slice zB zm zd, .slice zF zk ze] 66))
      have HX := Lib.hid (Blk.new wr 66 [.string zp, .slice zA zn zc, .int .i64 zr, .slice zB zm zd, .slice zF zk ze])
      clear c0 c1 c2 c3 c4
      generalize World.alloc _ _ = wa0 at *
      generalize hZ : wr.heap.size = Z at *
      have HZZ := Lib.hid hZ
      clear hZ
      have hRZ : R ≤ Z := HS.out
      have hs0 := HX.out.lt
      have hBw : Below wr.heap.size wr wa0 := by rw [HZZ.out]; exact HBZ.out
      have hown0 : (wa0.alloc (.cells #[] 68)).ownsRow wa0.heap.size 68 3 (.slice (some ⟨wa0.heap.size, 0, none⟩) 0 0) 0 [] := own_empty (Nat.le_refl _)
      have hba := (Below.refl wa0.heap.size wa0).alloc (Nat.le_refl _) (.cells #[] 68)
      have hbw := hba.size
      have HRd : Hid (Rd (wa0.alloc (.cells #[] 68)) (wa0.alloc (.cells #[] 68)).heap.size 3 zA zn (kcells zxs)) := Lib.hid ((HZ.out.a.up hBw hBw.size).up hba hba.size)
      have g2 := (HX.out.cell 1).trans rfl
      go_wp2_with (at_builtin; go_must (refine wpList_append_all rfl _ _ 36 rfl wa0.heap.size 68 i0 _ 3 32 Tryd.underlying36 hi hz0 hz1 hz2 rfl (by decide) _ _ _ rfl hown0 zA zn zc (kcells zxs) rfl HZ.out.aA HRd.out (cons_one zxs) (by unfold maxLen; omega) (by omega) hbw ?_))
      intro v1 w1 hown1 hg1
      have hb := hba.grown hg1 hbw (fun k hk => (hown0.lt k hk).1)
      obtain ⟨A1, d1, rfl, hn1⟩ := own_slice hown1
      have HXn := Lib.hid (HX.out.below hb hs0)
      have HBn := Lib.hid (HBZ.out.trans (hb.mono (Nat.le_of_lt hs0)))
      have HP1 := Lib.hid (own_le hown1 (Nat.le_of_lt hs0))
      clear hown1 hg1 hb hown0 hba hbw HRd g2 HX HBZ hBw hs0
      have f0 := HXn.out.frozen 1
      have f1 := (HXn.out.cell 1).trans rfl
      have f2 := HXn.out.lt
      go_upto_region 7 with (fail)
      have HX := Lib.hid (HXn.out.set_ 1 (.slice A1 zn d1))
      have HBZ := Lib.hid (HBn.out.setCell (p := ⟨Z, 1, none⟩) (by simp) (.slice A1 zn d1))
      have HQ1 := Lib.hid (own_setCell_blk HP1.out HXn.out (by decide) 1 (.slice A1 zn d1))
      simp only [List.set_cons_succ, List.set_cons_zero] at HX
      clear HXn HBn HP1  f0 f1 f2
      generalize World.setCell _ _ _ = x1 at *
      have HP1 := HQ1
      clear HQ1
      have hs0 := HX.out.lt
      have hBw : Below wr.heap.size wr x1 := by rw [HZZ.out]; exact HBZ.out
      have hown0 : (x1.alloc (.cells #[] 68)).ownsRow x1.heap.size 68 3 (.slice (some ⟨x1.heap.size, 0, none⟩) 0 0) 0 [] := own_empty (Nat.le_refl _)
      have hba := (Below.refl x1.heap.size x1).alloc (Nat.le_refl _) (.cells #[] 68)
      have hbw := hba.size
      have HRd : Hid (Rd (x1.alloc (.cells #[] 68)) (x1.alloc (.cells #[] 68)).heap.size 3 zB zm (kcells zss)) := Lib.hid ((HZ.out.s.up hBw hBw.size).up hba hba.size)
      have g2 := (HX.out.cell 3).trans rfl
      go_wp2_with (at_builtin; go_must (refine wpList_append_all rfl _ _ 36 rfl x1.heap.size 68 i0 _ 3 32 Tryd.underlying36 hi hz0 hz1 hz2 rfl (by decide) _ _ _ rfl hown0 zB zm zd (kcells zss) rfl HZ.out.sA HRd.out (cons_one zss) (by unfold maxLen; omega) (by omega) hbw ?_))
      intro v2 w2 hown2 hg2
      have hb := hba.grown hg2 hbw (fun k hk => (hown0.lt k hk).1)
      obtain ⟨A2, d2, rfl, hn2⟩ := own_slice hown2
      have HXn := Lib.hid (HX.out.below hb hs0)
      have HBn := Lib.hid (HBZ.out.trans (hb.mono (Nat.le_of_lt hs0)))
      have HP2 := Lib.hid (own_le hown2 (Nat.le_of_lt hs0))
      have HP1n := Lib.hid (own_below HP1.out hb)
      clear HP1
      clear hown2 hg2 hb hown0 hba hbw HRd g2 HX HBZ hBw hs0
      have f0 := HXn.out.frozen 3
      have f1 := (HXn.out.cell 3).trans rfl
      have f2 := HXn.out.lt
      go_upto_region 8 with (fail)
      have HX := Lib.hid (HXn.out.set_ 3 (.slice A2 zm d2))
      have HBZ := Lib.hid (HBn.out.setCell (p := ⟨Z, 3, none⟩) (by simp) (.slice A2 zm d2))
      have HQ2 := Lib.hid (own_setCell_blk HP2.out HXn.out (by decide) 3 (.slice A2 zm d2))
      have HQ1 := Lib.hid (own_setCell_blk HP1n.out HXn.out (by decide) 3 (.slice A2 zm d2))
      simp only [List.set_cons_succ, List.set_cons_zero] at HX
      clear HXn HBn HP2 HP1n f0 f1 f2
      generalize World.setCell _ _ _ = x2 at *
      have HP1 := HQ1
      clear HQ1
      have HP2 := HQ2
      clear HQ2
      have hs0 := HX.out.lt
      have hBw : Below wr.heap.size wr x2 := by rw [HZZ.out]; exact HBZ.out
      have hown0 : (x2.alloc (.cells #[] 3)).ownsRow x2.heap.size 3 1 (.slice (some ⟨x2.heap.size, 0, none⟩) 0 0) 0 [] := own_empty (Nat.le_refl _)
      have hba := (Below.refl x2.heap.size x2).alloc (Nat.le_refl _) (.cells #[] 3)
      have hbw := hba.size
      have HRd : Hid (Rd (x2.alloc (.cells #[] 3)) (x2.alloc (.cells #[] 3)).heap.size 1 zF zk (icells zfs)) := Lib.hid ((HZ.out.f.up hBw hBw.size).up hba hba.size)
      have g2 := (HX.out.cell 4).trans rfl
      go_wp2_with (at_builtin; go_must (refine wpList_append_all rfl _ _ 27 rfl x2.heap.size 3 k0 _ 1 8 Tryd.underlying27 hki hk0 hk1' hk2 rfl (by decide) _ _ _ rfl hown0 zF zk ze (icells zfs) rfl HZ.out.fA HRd.out (ints_one zfs) (by unfold maxLen; omega) (by omega) hbw ?_))
      intro v3 w3 hown3 hg3
      have hb := hba.grown hg3 hbw (fun k hk => (hown0.lt k hk).1)
      obtain ⟨A3, d3, rfl, hn3⟩ := own_slice hown3
      have HXn := Lib.hid (HX.out.below hb hs0)
      have HBn := Lib.hid (HBZ.out.trans (hb.mono (Nat.le_of_lt hs0)))
      have HP3 := Lib.hid (own_le hown3 (Nat.le_of_lt hs0))
      have HP1n := Lib.hid (own_below HP1.out hb)
      have HP2n := Lib.hid (own_below HP2.out hb)
      clear HP1
      clear HP2
      clear hown3 hg3 hb hown0 hba hbw HRd g2 HX HBZ hBw hs0
      have f0 := HXn.out.frozen 4
      have f1 := (HXn.out.cell 4).trans rfl
      have f2 := HXn.out.lt
      go_upto_region 9 with (fail)
      have HX := Lib.hid (HXn.out.set_ 4 (.slice A3 zk d3))
      have HBZ := Lib.hid (HBn.out.setCell (p := ⟨Z, 4, none⟩) (by simp) (.slice A3 zk d3))
      have HQ3 := Lib.hid (own_setCell_blk HP3.out HXn.out (by decide) 4 (.slice A3 zk d3))
      have HQ1 := Lib.hid (own_setCell_blk HP1n.out HXn.out (by decide) 4 (.slice A3 zk d3))
      have HQ2 := Lib.hid (own_setCell_blk HP2n.out HXn.out (by decide) 4 (.slice A3 zk d3))
      simp only [List.set_cons_succ, List.set_cons_zero] at HX
      clear HXn HBn HP3 HP1n HP2n f0 f1 f2
      generalize World.setCell _ _ _ = x3 at *
      have HP1 := HQ1
      clear HQ1
      have HP2 := HQ2
      clear HQ2
      have HP3 := HQ3
      clear HQ3
      have q0 := (HX.out.cell 0).trans rfl
      have q1 := (HX.out.cell 1).trans rfl
      have q2 := (HX.out.cell 2).trans rfl
      have q3 := (HX.out.cell 3).trans rfl
      have q4 := (HX.out.cell 4).trans rfl
      have hbz : Below wr.heap.size wr x3 := by rw [HZZ.out]; exact HBZ.out
      have hsz := hbz.size
      have hown := own_below HV.out hbz
      have KW : Hid (∀ y ∈ acc, Ln.own x3 R y) := Lib.hid fun y hy => (HW.out y hy).below hbz
      have KB := Lib.hid (HB.out.trans (hbz.mono (by rw [HZZ.out]; exact HS.out)))
      have KY : Hid (Ln.own x3 R ⟨zp, A1, zn, d1, zr, A2, zm, d2, A3, zk, d3, zxs, zss, zfs⟩) := Lib.hid ⟨own_le HP1.out HS.out, own_le HP2.out HS.out, own_le HP3.out HS.out⟩
      have hRx : R ≤ x3.heap.size := by have := HZZ.out; omega
      go_wp2_with (at_builtin; go_must (refine wpList_append_own _ rfl _ _ 25 rfl R 66 j0 _ 5 96 Tryd.underlying25 hj hy0 hy1 hy2 rfl (by decide) _ _ _ rfl (hown.alloc _) ⟨x3.heap.size, 0, none⟩ 1 1 (Ln.cells ⟨zp, A1, zn, d1, zr, A2, zm, d2, A3, zk, d3, zxs, zss, zfs⟩) rfl rfl (fun j u h => new_cells _ _ _ j u h) (Ln.one _) (by unfold maxLen; omega) (by omega) (by simp; omega) ?_))
      intro v7 w7 hown7 hg7 _
      obtain ⟨A7, d7, rfl, hn7⟩ := own_slice hown7
      have hba := (Below.refl x3.heap.size x3).alloc (Nat.le_refl _) (.cells (Ln.cells ⟨zp, A1, zn, d1, zr, A2, zm, d2, A3, zk, d3, zxs, zss, zfs⟩).toArray 66)
      have BL := Lib.hid ((KB.out.alloc hRx (.cells (Ln.cells ⟨zp, A1, zn, d1, zr, A2, zm, d2, A3, zk, d3, zxs, zss, zfs⟩).toArray 66)).grown hg7 (by simp; omega) (fun q hq => (hown.lt q hq).1))
      have W7 : Hid (∀ q ∈ acc ++ [(⟨zp, A1, zn, d1, zr, A2, zm, d2, A3, zk, d3, zxs, zss, zfs⟩ : Ln)], Ln.own w7 R q) := Lib.hid (by
        intro q hq
        rcases List.mem_append.1 hq with hq | hq
        · exact ((KW.out q hq).below hba).kept (hown.alloc _) hg7
        · rw [List.mem_singleton.1 hq]
          exact (KY.out.below hba).kept (hown.alloc _) hg7)
      have C7 : Hid ((acc ++ [(⟨zp, A1, zn, d1, zr, A2, zm, d2, A3, zk, d3, zxs, zss, zfs⟩ : Ln)]).map Ln.core = (ls.take (k + 1)).map Ln.core) := Lib.hid (by
        rw [HTK.out, List.map_append, List.map_append, HC.out]; rfl)
      have V7 : Hid (w7.ownsRow R 66 5 (.slice A7 (k + 1) d7) (k + 1) (ncells (acc ++ [(⟨zp, A1, zn, d1, zr, A2, zm, d2, A3, zk, d3, zxs, zss, zfs⟩ : Ln)]))) := Lib.hid (by
        rw [ncells_append]; simpa [ncells] using hown7)
      have S7 : Hid (R ≤ w7.heap.size) := Lib.hid (Nat.le_trans (by simp; omega) hg7.size)
      clear hown7 hown hg7 hba KW KB KY hbz HP1 HP2 HP3 HX HBZ HV HW HC HTK HB q0 q1 q2 q3 q4
      go_wp2
      go_roundg (n - (k + 1))
      case measure => have := HG.out; omega
      case rel => exact ⟨k + 1, _, by go_num, by omega, Lib.hid rfl, BL, S7, V7, C7, W7⟩
    · obtain rfl : k = n := by omega
      have hall : ls.take k = ls := List.take_of_length_le (by have := HN.out; omega)
      rw [hall] at HC
      obtain ⟨Ab, cb, rfl, hnb2⟩ := own_slice HV.out
      go_wp2
      go_ret
      exact ⟨Ab, cb, acc, rfl, HV.out, HC.out, HW.out, HB.out⟩
end Go.Proofs.YtjcgkplphiedjaaDoorT
