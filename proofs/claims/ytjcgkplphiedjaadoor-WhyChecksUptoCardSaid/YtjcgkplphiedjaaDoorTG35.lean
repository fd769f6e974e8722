/- The law's copies of patterns and of facts. -/
import Derived.Test.YtjcgkplphiedjaaDoorTG29
import Derived.Test.YtjcgkplphiedjaaDoorTG9
namespace Go.Proofs.YtjcgkplphiedjaaDoorT
open Go.RowKit

theorem Tryd.info117 : (Tryd.prog.info? 117).map (fun i => (i.zero, i.size, i.bytes)) = some (some (.agg #[.bool false, .int .i64 0]), 2, 16) := by kernel_rfl
theorem Tryd.info77 : (Tryd.prog.info? 77).map (fun i => (i.zero, i.size, i.bytes)) = some (some (.agg #[.int .i64 0, .slice none 0 0]), 2, 32) := by kernel_rfl
theorem slots_one (l : List Sl) : ∀ u ∈ slcells l, u.oneCell' = true := by
  intro u hu
  obtain ⟨x, _, hu⟩ := List.mem_flatMap.1 hu
  simp only [Sl.cells, List.mem_cons, List.not_mem_nil, or_false] at hu
  rcases hu with rfl | rfl <;> rfl
theorem slcells_length (l : List Sl) : (slcells l).length = l.length * 2 := flat_length Sl.cells 2 (fun _ => rfl) l
theorem pncells_length (l : List Pn) : (pncells l).length = l.length * 2 := flat_length Pn.cells 2 (fun _ => rfl) l
theorem pncells_append (a b : List Pn) : pncells (a ++ b) = pncells a ++ pncells b := by simp [pncells]
theorem Pn.one (x : Pn) : ∀ u ∈ x.cells, u.oneCell' = true := by
  intro u hu
  simp only [Pn.cells, List.mem_cons, List.not_mem_nil, or_false] at hu
  rcases hu with rfl | rfl <;> rfl
/-- A pattern whose list is its own. -/
def Pn.own (w : World) (R : Nat) (y : Pn) : Prop := w.ownsRow R 117 2 (.slice y.A y.n y.c) y.n (slcells y.xs)
theorem Pn.own.below {w w' : World} {R : Nat} {x : Pn} (h : x.own w R) (hb : Below w.heap.size w w') : x.own w' R := own_below h hb
theorem Pn.own.le {w : World} {R R' : Nat} {x : Pn} (h : x.own w R) (hb : R' ≤ R) : x.own w R' := own_le h hb
theorem Pn.own.kept {w w' : World} {R R' n : Nat} {x : Pn} {v : Value} {xs : List Value} (h : x.own w R) (h' : w.ownsRow R' 77 2 v n xs) (hg : w.grownBy w' v.ownBlock) : x.own w' R := own_kept_types h h' (by decide) hg
theorem Pn.own.ok {w : World} {R : Nat} {x : Pn} (h : x.own w R) : x.ok w := own_rd h

set_option maxRecDepth 20000 in
set_option maxHeartbeats 8000000 in
theorem patterns_any (A : Option Addr) (n c : Nat) (l : List Pn) (w : World) (hr : Rd w w.heap.size 2 A n (pncells l)) (hok : ∀ x ∈ l, (x.ok w ∧ (x.A = none → x.c = 0)) ∧ x.n ≤ 1048576) (hn : n ≤ 1048576) :
    Calls Tryd.prog 38 #[.slice A n c] w fun e w' => ∃ A' c' l', e = .returned (.slice A' n c') ∧ w'.ownsRow w.heap.size 77 2 (.slice A' n c') n (pncells l') ∧ l'.map Pn.core = l.map Pn.core ∧ (∀ x ∈ l', Pn.own w' w.heap.size x) ∧ Below w.heap.size w w' := by
  obtain ⟨i0, hi, hz0, hz1, hz2⟩ := info_parts Tryd.info117
  obtain ⟨j0, hj, hy0, hy1, hy2⟩ := info_parts Tryd.info77
  have HL := Lib.hid hr
  have HK := Lib.hid hok
  have hmb := hr.2.1
  have hlen : l.length = n := by have := hr.1; rw [pncells_length] at this; omega
  have HN := Lib.hid hlen
  clear hr hok hlen
  generalize hR : w.heap.size = R at *
  have HRR := Lib.hid hR
  clear hR
  go_enter Tryd.func38, Tryd.ntmps38
  go_upto_region 3 with (fail)
  go_loopg [3, 4] n (fun gk u3 u4 wr => ∃ (k : Nat) (acc : List Pn), u4 = .int .i64 k ∧ k ≤ n ∧ Hid (gk = n - k) ∧ Hid (Below R w wr) ∧ Hid (R ≤ wr.heap.size) ∧ Hid (wr.ownsRow R 77 2 u3 k (pncells acc)) ∧ Hid (acc.map Pn.core = (l.take k).map Pn.core) ∧ Hid (∀ y ∈ acc, Pn.own wr R y))
  case atStart => exact ⟨0, [], rfl, Nat.zero_le _, Lib.hid (by omega), Lib.hid (Below.refl _ _), Lib.hid (by rw [HRR.out]; exact Nat.le_refl _), Lib.hid (World.ownsRow_nil _ _ _ _), Lib.hid rfl, Lib.hid (by simp)⟩
  case round =>
    obtain ⟨k, acc, rfl, hk, HG, HB, HS, HV, HC, HW⟩ := hrel
    obtain ⟨A4, d4, rfl, hn4⟩ := own_slice HV.out
    by_cases hlt : k < n
    · obtain ⟨B', off, hk1, rfl, hB, hc⟩ := (HL.out.below HB.out).at Pn.cells 2 (fun _ => rfl) (by omega) k hlt
      have c0 := hc 0 _ (by omega) rfl
      have c1 := hc 1 _ (by omega) rfl
      rw [Nat.add_zero] at c0
      clear hc
      have hz := HK.out l[k] (List.getElem_mem hk1)
      have HTK := Lib.hid (take_snoc l k hk1)
      generalize l[k] = z at *
      obtain ⟨zp, zA, zn, zc, zxs⟩ := z
      obtain ⟨⟨hzo, hzA⟩, hzn⟩ := hz
      dsimp only at c0 c1 hzA hzn
      have HZ : Hid (Rd wr wr.heap.size 2 zA zn (slcells zxs)) := Lib.hid (Rd.up (show Rd w w.heap.size 2 zA zn (slcells zxs) from hzo) (HRR.out ▸ HB.out) HB.out.size)
      clear hzo
      go_upto_region 5 with (fail)
      have hbd : Below wr.heap.size wr wr.drew := (Below.refl _ _).drew
      have HBd : Hid (Below R w wr.drew) := Lib.hid HB.out.drew
      have HVd : Hid (wr.drew.ownsRow R 77 2 (.slice A4 k d4) k (pncells acc)) := Lib.hid HV.out.drew
      have HWd : Hid (∀ y ∈ acc, Pn.own wr.drew R y) := Lib.hid fun y hy => (HW.out y hy).below hbd
      have HZd : Hid (Rd wr.drew wr.drew.heap.size 2 zA zn (slcells zxs)) := Lib.hid (HZ.out.up hbd hbd.size)
      have hSd : R ≤ wr.drew.heap.size := HS.out
      have e0 : wr.drew.cell? ⟨B', off + k * 2, none⟩ = some (.int .i64 zp) := c0
      have e1 : wr.drew.cell? ⟨B', off + k * 2 + 1, none⟩ = some (.slice zA zn zc) := c1
      clear c0 c1 hbd HB HS HV HW HZ
      generalize hdw : wr.drew = wd at *
      obtain ⟨C, hCi⟩ : ∃ C : World → Prop, ∀ w', C w' ↔ (w'.cell? ⟨B', off + k * 2, none⟩ = some (.int .i64 zp) ∧ w'.cell? ⟨B', off + k * 2 + 1, none⟩ = some (.slice zA zn zc)) := ⟨_, fun _ => Iff.rfl⟩
      have hC : C wd := (hCi _).2 ⟨e0, e1⟩
      have HCg : Hid (∀ w', Below R w w' → C w') := Lib.hid fun w' hb => (hCi _).2
        ⟨(hb.cell hB).trans ((HBd.out.cell hB).symm.trans e0), (hb.cell hB).trans ((HBd.out.cell hB).symm.trans e1)⟩
      have g0 : ∀ p : WC C, p.w.cell? ⟨B', off + k * 2, none⟩ = some (.int .i64 zp) := fun p => ((hCi _).1 p.h).1
      have g1 : ∀ p : WC C, p.w.cell? ⟨B', off + k * 2 + 1, none⟩ = some (.slice zA zn zc) := fun p => ((hCi _).1 p.h).2
      have kn : Nonempty (WC C) := ⟨⟨_, hC⟩⟩
      clear hCi e0 e1
      refine wp_region_front' C [0, 1, 2, 3, 4, 5, 7, 8, 9, 10, 11] [6, 12, 13, 14, 15, 16] (fun j => decide (j < 16)) (by kernel_rfl) (fun _ _ d _ _ h => by cases d <;> exact h) (by kernel_rfl) (hdw ▸ hC) ?_
      simp only [List.map_cons, List.map_nil, List.getD_cons_zero, List.getD_cons_succ]
      repeat (go_big_quiet_step (fail))
      refine wpQuiet_nil ?_
      clear g0 g1 kn hC
      rw [hdw]
      clear hdw
      refine wpTail_cons ?_
      have hown0 : (wd.alloc (.cells #[] 117)).ownsRow wd.heap.size 117 2 (.slice (some ⟨wd.heap.size, 0, none⟩) 0 0) 0 [] := own_empty (Nat.le_refl _)
      have hba := (Below.refl wd.heap.size wd).alloc (Nat.le_refl _) (.cells #[] 117)
      have hbw := hba.size
      have HRd := Lib.hid (HZd.out.up hba hbw)
      have HC1 := Lib.hid (HCg.out _ (HBd.out.trans (hba.mono hSd)))
      go_wp2
      refine tailQ_normal (fun _ => HC1.out) ?_
      refine wpTail_cons ?_
      refine wpList_append_all rfl _ _ 75 rfl wd.heap.size 117 i0 _ 2 16 Tryd.underlying75 hi hz0 hz1 hz2 rfl (by decide) _ _ _ rfl hown0 zA zn zc (slcells zxs) rfl hzA HRd.out (slots_one zxs) (by unfold maxLen; omega) (by omega) hbw ?_
      intro v1 w1 hown1 hg1
      have hb1 := hba.grown hg1 hbw (fun k hk => (hown0.lt k hk).1)
      obtain ⟨A1, d1, rfl, hn1⟩ := own_slice hown1
      have HP1 := Lib.hid (own_le hown1 hSd)
      have HB1 := Lib.hid (HBd.out.trans (hb1.mono hSd))
      have HV1 := Lib.hid (own_below HVd.out hb1)
      have HW1 : Hid (∀ y ∈ acc, Pn.own w1 R y) := Lib.hid fun y hy => (HWd.out y hy).below hb1
      have hS1 : R ≤ w1.heap.size := Nat.le_trans hSd hb1.size
      have HC2 := Lib.hid (HCg.out _ HB1.out)
      clear hown1 hg1 hb1 hown0 hba hbw HRd HC1 HBd HVd HWd HZd hSd
      rw [Nat.zero_add] at HP1
      go_wp2
      refine tailQ_normal (fun _ => HC2.out) ?_
      refine wpTail_cons ?_
      go_wp2
      refine tailQ_normal (fun _ => HC2.out) ?_
      refine wpTail_cons ?_
      have hown := HV1.out
      have hba := (Below.refl w1.heap.size w1).alloc (Nat.le_refl _) (.cells (Pn.cells ⟨zp, A1, zn, d1, zxs⟩).toArray 77)
      have HC3 := Lib.hid (HCg.out _ (HB1.out.trans (hba.mono hS1)))
      have KY : Hid (Pn.own w1 R ⟨zp, A1, zn, d1, zxs⟩) := Lib.hid (by show w1.ownsRow R 117 2 (.slice A1 zn d1) zn (slcells zxs); simpa using HP1.out)
      go_wp2
      refine tailQ_normal (fun _ => HC3.out) ?_
      refine wpTail_cons ?_
      refine wpList_append_own _ rfl _ _ 78 rfl R 77 j0 _ 2 32 Tryd.underlying78 hj hy0 hy1 hy2 rfl (by decide) _ _ _ rfl (hown.alloc _) ⟨w1.heap.size, 0, none⟩ 1 1 (Pn.cells ⟨zp, A1, zn, d1, zxs⟩) rfl rfl (fun j u h => new_cells _ _ _ j u h) (Pn.one _) (by unfold maxLen; omega) (by omega) (by simp; omega) ?_
      intro v7 w7 hown7 hg7 _
      have BL := Lib.hid ((HB1.out.alloc hS1 (.cells (Pn.cells ⟨zp, A1, zn, d1, zxs⟩).toArray 77)).grown hg7 (by simp; omega) (fun q hq => (hown.lt q hq).1))
      have W7 : Hid (∀ q ∈ acc ++ [(⟨zp, A1, zn, d1, zxs⟩ : Pn)], Pn.own w7 R q) := Lib.hid (by
        intro q hq
        rcases List.mem_append.1 hq with hq | hq
        · exact ((HW1.out q hq).below hba).kept (hown.alloc _) hg7
        · rw [List.mem_singleton.1 hq]
          exact (KY.out.below hba).kept (hown.alloc _) hg7)
      have C7 : Hid ((acc ++ [(⟨zp, A1, zn, d1, zxs⟩ : Pn)]).map Pn.core = (l.take (k + 1)).map Pn.core) := Lib.hid (by
        rw [HTK.out, List.map_append, List.map_append, HC.out]
        rfl)
      have V7 : Hid (w7.ownsRow R 77 2 v7 (k + 1) (pncells (acc ++ [(⟨zp, A1, zn, d1, zxs⟩ : Pn)]))) := Lib.hid (by rw [pncells_append]; simpa [pncells] using hown7)
      have S7 : Hid (R ≤ w7.heap.size) := Lib.hid (Nat.le_trans (by simp; omega) hg7.size)
      have HC7 := Lib.hid (HCg.out _ BL.out)
      clear hown7 hg7 hba hown HB1 HV1 HW1 HC2 HC3 KY HP1 HC HTK
      refine tailQ_normal (fun _ => HC7.out) ?_
      refine wpTail_cons ?_
      go_wp2
      refine tailQ_normal (fun h => by cases h) ?_
      refine wpTail_nil ?_
      go_wp2
      go_roundg (n - (k + 1))
      case measure => have := HG.out; omega
      case rel => exact ⟨k + 1, acc ++ [(⟨zp, A1, zn, d1, zxs⟩ : Pn)], by go_num, by omega, Lib.hid rfl, BL, S7, V7, C7, W7⟩
    · obtain rfl : n = k := by omega
      have hall : l.take n = l := List.take_of_length_le (by have := HN.out; omega)
      rw [hall] at HC
      go_wp2
      go_ret
      exact ⟨A4, d4, acc, rfl, HV.out, HC.out, HW.out, HB.out⟩

set_option maxRecDepth 20000 in
set_option maxHeartbeats 8000000 in
theorem factsOf_any (A : Option Addr) (n c : Nat) (l : List Fa) (w : World) (hr : Rd w w.heap.size 2 A n (facells l)) (hok : ∀ x ∈ l, (x.ok w ∧ (x.A = none → x.c = 0)) ∧ x.n ≤ 1048576) (hn : n ≤ 1048576) :
    Calls Tryd.prog 18 #[.slice A n c] w fun e w' => ∃ A' c' l', e = .returned (.slice A' n c') ∧ w'.ownsRow w.heap.size 45 2 (.slice A' n c') n (facells l') ∧ l'.map Fa.core = l.map Fa.core ∧ (∀ x ∈ l', Fa.own w' w.heap.size x) ∧ Below w.heap.size w w' := by
  obtain ⟨i0, hi, hz0, hz1, hz2⟩ := info_parts Tryd.info68
  obtain ⟨j0, hj, hy0, hy1, hy2⟩ := info_parts Tryd.info45
  have HL := Lib.hid hr
  have HK := Lib.hid hok
  have hmb := hr.2.1
  have hlen : l.length = n := by have := hr.1; rw [facells_length] at this; omega
  have HN := Lib.hid hlen
  clear hr hok hlen
  generalize hR : w.heap.size = R at *
  have HRR := Lib.hid hR
  clear hR
  go_enter Tryd.func18, Tryd.ntmps18
  go_upto_region 3 with (fail)
  go_loopg [3, 4] n (fun gk u3 u4 wr => ∃ (k : Nat) (acc : List Fa), u4 = .int .i64 k ∧ k ≤ n ∧ Hid (gk = n - k) ∧ Hid (Below R w wr) ∧ Hid (R ≤ wr.heap.size) ∧ Hid (wr.ownsRow R 45 2 u3 k (facells acc)) ∧ Hid (acc.map Fa.core = (l.take k).map Fa.core) ∧ Hid (∀ y ∈ acc, Fa.own wr R y))
  case atStart => exact ⟨0, [], rfl, Nat.zero_le _, Lib.hid (by omega), Lib.hid (Below.refl _ _), Lib.hid (by rw [HRR.out]; exact Nat.le_refl _), Lib.hid (World.ownsRow_nil _ _ _ _), Lib.hid rfl, Lib.hid (by simp)⟩
  case round =>
    obtain ⟨k, acc, rfl, hk, HG, HB, HS, HV, HC, HW⟩ := hrel
    obtain ⟨A4, d4, rfl, hn4⟩ := own_slice HV.out
    by_cases hlt : k < n
    · obtain ⟨B', off, hk1, rfl, hB, hc⟩ := (HL.out.below HB.out).at Fa.cells 2 (fun _ => rfl) (by omega) k hlt
      have c0 := hc 0 _ (by omega) rfl
      have c1 := hc 1 _ (by omega) rfl
      rw [Nat.add_zero] at c0
      clear hc
      have hz := HK.out l[k] (List.getElem_mem hk1)
      have HTK := Lib.hid (take_snoc l k hk1)
      generalize l[k] = z at *
      obtain ⟨zp, zA, zn, zc, zxs⟩ := z
      obtain ⟨⟨hzo, hzA⟩, hzn⟩ := hz
      dsimp only at c0 c1 hzA hzn
      have HZ : Hid (Rd wr wr.heap.size 3 zA zn (kcells zxs)) := Lib.hid (Rd.up (show Rd w w.heap.size 3 zA zn (kcells zxs) from hzo) (HRR.out ▸ HB.out) HB.out.size)
      clear hzo
      go_upto_region 5 with (fail)
      have hbd : Below wr.heap.size wr wr.drew := (Below.refl _ _).drew
      have HBd : Hid (Below R w wr.drew) := Lib.hid HB.out.drew
      have HVd : Hid (wr.drew.ownsRow R 45 2 (.slice A4 k d4) k (facells acc)) := Lib.hid HV.out.drew
      have HWd : Hid (∀ y ∈ acc, Fa.own wr.drew R y) := Lib.hid fun y hy => (HW.out y hy).below hbd
      have HZd : Hid (Rd wr.drew wr.drew.heap.size 3 zA zn (kcells zxs)) := Lib.hid (HZ.out.up hbd hbd.size)
      have hSd : R ≤ wr.drew.heap.size := HS.out
      have e0 : wr.drew.cell? ⟨B', off + k * 2, none⟩ = some (.string zp) := c0
      have e1 : wr.drew.cell? ⟨B', off + k * 2 + 1, none⟩ = some (.slice zA zn zc) := c1
      clear c0 c1 hbd HB HS HV HW HZ
      generalize hdw : wr.drew = wd at *
      obtain ⟨C, hCi⟩ : ∃ C : World → Prop, ∀ w', C w' ↔ (w'.cell? ⟨B', off + k * 2, none⟩ = some (.string zp) ∧ w'.cell? ⟨B', off + k * 2 + 1, none⟩ = some (.slice zA zn zc)) := ⟨_, fun _ => Iff.rfl⟩
      have hC : C wd := (hCi _).2 ⟨e0, e1⟩
      have HCg : Hid (∀ w', Below R w w' → C w') := Lib.hid fun w' hb => (hCi _).2
        ⟨(hb.cell hB).trans ((HBd.out.cell hB).symm.trans e0), (hb.cell hB).trans ((HBd.out.cell hB).symm.trans e1)⟩
      have g0 : ∀ p : WC C, p.w.cell? ⟨B', off + k * 2, none⟩ = some (.string zp) := fun p => ((hCi _).1 p.h).1
      have g1 : ∀ p : WC C, p.w.cell? ⟨B', off + k * 2 + 1, none⟩ = some (.slice zA zn zc) := fun p => ((hCi _).1 p.h).2
      have kn : Nonempty (WC C) := ⟨⟨_, hC⟩⟩
      clear hCi e0 e1
      refine wp_region_front' C [0, 1, 2, 3, 4, 5, 7, 8, 9, 10, 11] [6, 12, 13, 14, 15, 16] (fun j => decide (j < 16)) (by kernel_rfl) (fun _ _ d _ _ h => by cases d <;> exact h) (by kernel_rfl) (hdw ▸ hC) ?_
      simp only [List.map_cons, List.map_nil, List.getD_cons_zero, List.getD_cons_succ]
      repeat (go_big_quiet_step (fail))
      refine wpQuiet_nil ?_
      clear g0 g1 kn hC
      rw [hdw]
      clear hdw
      refine wpTail_cons ?_
      have hown0 : (wd.alloc (.cells #[] 68)).ownsRow wd.heap.size 68 3 (.slice (some ⟨wd.heap.size, 0, none⟩) 0 0) 0 [] := own_empty (Nat.le_refl _)
      have hba := (Below.refl wd.heap.size wd).alloc (Nat.le_refl _) (.cells #[] 68)
      have hbw := hba.size
      have HRd := Lib.hid (HZd.out.up hba hbw)
      have HC1 := Lib.hid (HCg.out _ (HBd.out.trans (hba.mono hSd)))
      go_wp2
      refine tailQ_normal (fun _ => HC1.out) ?_
      refine wpTail_cons ?_
      refine wpList_append_all rfl _ _ 36 rfl wd.heap.size 68 i0 _ 3 32 Tryd.underlying36 hi hz0 hz1 hz2 rfl (by decide) _ _ _ rfl hown0 zA zn zc (kcells zxs) rfl hzA HRd.out (cons_one zxs) (by unfold maxLen; omega) (by omega) hbw ?_
      intro v1 w1 hown1 hg1
      have hb1 := hba.grown hg1 hbw (fun k hk => (hown0.lt k hk).1)
      obtain ⟨A1, d1, rfl, hn1⟩ := own_slice hown1
      have HP1 := Lib.hid (own_le hown1 hSd)
      have HB1 := Lib.hid (HBd.out.trans (hb1.mono hSd))
      have HV1 := Lib.hid (own_below HVd.out hb1)
      have HW1 : Hid (∀ y ∈ acc, Fa.own w1 R y) := Lib.hid fun y hy => (HWd.out y hy).below hb1
      have hS1 : R ≤ w1.heap.size := Nat.le_trans hSd hb1.size
      have HC2 := Lib.hid (HCg.out _ HB1.out)
      clear hown1 hg1 hb1 hown0 hba hbw HRd HC1 HBd HVd HWd HZd hSd
      rw [Nat.zero_add] at HP1
      go_wp2
      refine tailQ_normal (fun _ => HC2.out) ?_
      refine wpTail_cons ?_
      go_wp2
      refine tailQ_normal (fun _ => HC2.out) ?_
      refine wpTail_cons ?_
      have hown := HV1.out
      have hba := (Below.refl w1.heap.size w1).alloc (Nat.le_refl _) (.cells (Fa.cells ⟨zp, A1, zn, d1, zxs⟩).toArray 45)
      have HC3 := Lib.hid (HCg.out _ (HB1.out.trans (hba.mono hS1)))
      have KY : Hid (Fa.own w1 R ⟨zp, A1, zn, d1, zxs⟩) := Lib.hid (by show w1.ownsRow R 68 3 (.slice A1 zn d1) zn (kcells zxs); simpa using HP1.out)
      go_wp2
      refine tailQ_normal (fun _ => HC3.out) ?_
      refine wpTail_cons ?_
      refine wpList_append_own _ rfl _ _ 41 rfl R 45 j0 _ 2 40 Tryd.underlying41 hj hy0 hy1 hy2 rfl (by decide) _ _ _ rfl (hown.alloc _) ⟨w1.heap.size, 0, none⟩ 1 1 (Fa.cells ⟨zp, A1, zn, d1, zxs⟩) rfl rfl (fun j u h => new_cells _ _ _ j u h) (Fa.one _) (by unfold maxLen; omega) (by omega) (by simp; omega) ?_
      intro v7 w7 hown7 hg7 _
      have BL := Lib.hid ((HB1.out.alloc hS1 (.cells (Fa.cells ⟨zp, A1, zn, d1, zxs⟩).toArray 45)).grown hg7 (by simp; omega) (fun q hq => (hown.lt q hq).1))
      have W7 : Hid (∀ q ∈ acc ++ [(⟨zp, A1, zn, d1, zxs⟩ : Fa)], Fa.own w7 R q) := Lib.hid (by
        intro q hq
        rcases List.mem_append.1 hq with hq | hq
        · exact ((HW1.out q hq).below hba).kept (hown.alloc _) hg7
        · rw [List.mem_singleton.1 hq]
          exact (KY.out.below hba).kept (hown.alloc _) hg7)
      have C7 : Hid ((acc ++ [(⟨zp, A1, zn, d1, zxs⟩ : Fa)]).map Fa.core = (l.take (k + 1)).map Fa.core) := Lib.hid (by
        rw [HTK.out, List.map_append, List.map_append, HC.out]
        rfl)
      have V7 : Hid (w7.ownsRow R 45 2 v7 (k + 1) (facells (acc ++ [(⟨zp, A1, zn, d1, zxs⟩ : Fa)]))) := Lib.hid (by rw [facells_append]; simpa [facells] using hown7)
      have S7 : Hid (R ≤ w7.heap.size) := Lib.hid (Nat.le_trans (by simp; omega) hg7.size)
      have HC7 := Lib.hid (HCg.out _ BL.out)
      clear hown7 hg7 hba hown HB1 HV1 HW1 HC2 HC3 KY HP1 HC HTK
      refine tailQ_normal (fun _ => HC7.out) ?_
      refine wpTail_cons ?_
      go_wp2
      refine tailQ_normal (fun h => by cases h) ?_
      refine wpTail_nil ?_
      go_wp2
      go_roundg (n - (k + 1))
      case measure => have := HG.out; omega
      case rel => exact ⟨k + 1, acc ++ [(⟨zp, A1, zn, d1, zxs⟩ : Fa)], by go_num, by omega, Lib.hid rfl, BL, S7, V7, C7, W7⟩
    · obtain rfl : n = k := by omega
      have hall : l.take n = l := List.take_of_length_le (by have := HN.out; omega)
      rw [hall] at HC
      go_wp2
      go_ret
      exact ⟨A4, d4, acc, rfl, HV.out, HC.out, HW.out, HB.out⟩
end Go.Proofs.YtjcgkplphiedjaaDoorT
