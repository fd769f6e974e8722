/- The law's copy of a program. -/
import Derived.Test.YtjcgkplphiedjaaL4
import Derived.Test.YtjcgkplphiedjaaR1
namespace Go.Proofs.Ytjcgkplphiedjaa
open Go.RowKit

theorem Cl.own.set {w : World} {R g : Nat} {t : TypeId} {cs : List Value} {x : Cl} (h : Cl.own w R x) (hg : Blk w g t cs) (h1 : t ≠ 33) (h2 : t ≠ 61) (i : Nat) (u : Value) : Cl.own (w.setCell ⟨g, i, none⟩ u) R x :=
  ⟨own_setCell_blk h.h hg h1 i u, own_setCell_blk h.b hg h2 i u, fun y hy => own_setCell_blk (h.l y hy) hg h1 i u⟩

set_option maxRecDepth 20000 in
set_option maxHeartbeats 4000000 in
theorem lawCopied_any (A : Option Addr) (n c : Nat) (cs : List Cl) (w : World) (hr : Rd w w.heap.size 4 A n (ccells cs)) (hok : ∀ x ∈ cs, Cl.ok w x) (hn : n * 72 ≤ 140737488351232) :
    Calls Try.prog 14 #[.agg #[.slice A n c]] w fun e w' => ∃ A' c' cs', e = .returned (.agg #[.slice A' n c']) ∧ w'.ownsRow w.heap.size 45 4 (.slice A' n c') n (ccells cs') ∧ cs'.map Cl.core = cs.map Cl.core ∧ (∀ x ∈ cs', Cl.own w' w.heap.size x) ∧ Below w.heap.size w w' := by
  obtain ⟨j0, hj, hy0, hy1, hy2⟩ := info_parts Try.info45
  have HL := Lib.hid hr
  have HK := Lib.hid hok
  have hmb := hr.2.1
  have hlen : cs.length = n := by have := hr.1; rw [ccells_length] at this; omega
  have HN := Lib.hid hlen
  clear hr hok hlen
  go_enter Try.func14, Try.ntmps14
  go_upto_region 2 with (fail)
  obtain ⟨hb3, h1, h2, h3, hs3⟩ := three_alloc w 37 37 37 [.slice A n c] [.slice none 0 0] [.slice none 0 0]
  generalize World.alloc (World.alloc (World.alloc _ _) _) _ = w3 at *
  generalize hR : w.heap.size = R at *
  have HRR := Lib.hid hR
  clear hR
  have HB3 := Lib.hid hb3
  have H1 := Lib.hid h1
  have H2 := Lib.hid h2
  have H3 := Lib.hid h3
  clear hb3 h1 h2 h3 hs3
  go_wp2
  go_loopg [4] n (fun gk u4 wr => ∃ (k : Nat) (acc : List Cl) (vb : Value), u4 = .int .i64 k ∧ k ≤ n ∧ gk = n - k ∧ Hid (Below R w wr) ∧ Hid (Blk wr R 37 [.slice A n c]) ∧ Hid (Blk wr (R + 1) 37 [.slice none 0 0]) ∧
    Hid (Blk wr (R + 1 + 1) 37 [vb]) ∧ Hid (wr.ownsRow R 45 4 vb k (ccells acc)) ∧ Hid (acc.map Cl.core = (cs.take k).map Cl.core) ∧ Hid (∀ y ∈ acc, Cl.own wr R y))
  case atStart => exact ⟨0, [], .slice none 0 0, rfl, Nat.zero_le _, by omega, HB3, H1, H2, H3, World.ownsRow_nil _ _ _ _, Lib.hid rfl, Lib.hid (by simp)⟩
  case round =>
    clear HB3 H1 H2 H3
    obtain ⟨k, acc, vb, rfl, hk, hgk, HB, H1, H2, H3, HV, HC, HW⟩ := hrel
    have HG := Lib.hid hgk
    clear hgk
    have f0 := H1.out.cell 0
    simp only [List.getElem?_cons_zero] at f0
    by_cases hlt : k < n
    · obtain ⟨B', off, hk1, rfl, hB, hc⟩ := (HL.out.below HB.out).at Cl.cells 4 (fun _ => rfl) (by omega) k hlt
      have c0 := hc 0 _ (by omega) rfl
      have c1 := hc 1 _ (by omega) rfl
      have c2 := hc 2 _ (by omega) rfl
      have c3 := hc 3 _ (by omega) rfl
      rw [Nat.add_zero] at c0
      clear hc
      have hlkk := HK.out cs[k] (List.getElem_mem hk1)
      have HTK := Lib.hid (take_snoc cs k hk1)
      generalize cs[k] = z at *
      have HZ : Hid (Cl.ok wr z) := Lib.hid (hlkk.up (HRR.out ▸ HB.out))
      clear hlkk
      go_upto_region 5 with (fail)
      clear f0
      have hs0 : R + 1 + 1 < wr.heap.size := H3.out.lt
      have hbd : Below wr.heap.size wr wr.drew := (Below.refl _ _).drew
      have HBd : Hid (Below R w wr.drew) := Lib.hid HB.out.drew
      have H1d := Lib.hid H1.out.drew
      have H2d := Lib.hid H2.out.drew
      have H3d := Lib.hid H3.out.drew
      have HVd : Hid (wr.drew.ownsRow R 45 4 vb k (ccells acc)) := Lib.hid HV.out.drew
      have HWd : Hid (∀ y ∈ acc, Cl.own wr.drew R y) := Lib.hid fun y hy => (HW.out y hy).below hbd
      have HZd : Hid (Cl.ok wr.drew z) := Lib.hid (HZ.out.up hbd)
      have e0 : wr.drew.cell? ⟨B', off + k * 4, none⟩ = some (.string z.h.p) := c0
      have e1 : wr.drew.cell? ⟨B', off + k * 4 + 1, none⟩ = some (.slice z.h.A z.h.n z.h.c) := c1
      have e2 : wr.drew.cell? ⟨B', off + k * 4 + 2, none⟩ = some (.int .i64 z.h.o) := c2
      have e3 : wr.drew.cell? ⟨B', off + k * 4 + 3, none⟩ = some (.slice z.A z.n z.c) := c3
      have hs1 : R + 1 + 1 < wr.drew.heap.size := hs0
      clear c0 c1 c2 c3 hbd HB H1 H2 H3 HV HW HZ hs0
      generalize hdw : wr.drew = wd at *
      obtain ⟨C, hCi⟩ : ∃ C : World → Prop, ∀ w', C w' ↔ (w'.cell? ⟨R + 1 + 1, 0, none⟩ = some vb ∧ w'.cell? ⟨R, 0, none⟩ = some (.slice (some ⟨B', off, none⟩) n c) ∧ w'.cell? ⟨B', off + k * 4, none⟩ = some (.string z.h.p) ∧
        w'.cell? ⟨B', off + k * 4 + 1, none⟩ = some (.slice z.h.A z.h.n z.h.c) ∧ w'.cell? ⟨B', off + k * 4 + 2, none⟩ = some (.int .i64 z.h.o) ∧ w'.cell? ⟨B', off + k * 4 + 3, none⟩ = some (.slice z.A z.n z.c)) := ⟨_, fun _ => Iff.rfl⟩
      have q3 := H3d.out.cell 0
      have q1 := H1d.out.cell 0
      simp only [List.getElem?_cons_zero] at q3 q1
      have hC : C wd := (hCi _).2 ⟨q3, q1, e0, e1, e2, e3⟩
      have HCb : Hid (∀ w', Below wd.heap.size wd w' → C w') := Lib.hid fun w' hb => (hCi _).2 ⟨cell_later hb q3, cell_later hb q1, cell_later hb e0, cell_later hb e1, cell_later hb e2, cell_later hb e3⟩
      have HCg : Hid (∀ w', Below R w w' → Blk w' R 37 [.slice (some ⟨B', off, none⟩) n c] → Blk w' (R + 1 + 1) 37 [vb] → C w') := Lib.hid fun w' hb b1 b3 => (hCi _).2
        ⟨b3.cell 0, b1.cell 0, (hb.cell hB).trans ((HBd.out.cell hB).symm.trans e0), (hb.cell hB).trans ((HBd.out.cell hB).symm.trans e1), (hb.cell hB).trans ((HBd.out.cell hB).symm.trans e2), (hb.cell hB).trans ((HBd.out.cell hB).symm.trans e3)⟩
      have k3 : ∀ p : WC C, p.w.cell? ⟨R + 1 + 1, 0, none⟩ = some vb := fun p => ((hCi _).1 p.h).1
      have k1 : ∀ p : WC C, p.w.cell? ⟨R, 0, none⟩ = some (.slice (some ⟨B', off, none⟩) n c) := fun p => ((hCi _).1 p.h).2.1
      have g0 : ∀ p : WC C, p.w.cell? ⟨B', off + k * 4, none⟩ = some (.string z.h.p) := fun p => ((hCi _).1 p.h).2.2.1
      have g1 : ∀ p : WC C, p.w.cell? ⟨B', off + k * 4 + 1, none⟩ = some (.slice z.h.A z.h.n z.h.c) := fun p => ((hCi _).1 p.h).2.2.2.1
      have g2 : ∀ p : WC C, p.w.cell? ⟨B', off + k * 4 + 2, none⟩ = some (.int .i64 z.h.o) := fun p => ((hCi _).1 p.h).2.2.2.2.1
      have g3 : ∀ p : WC C, p.w.cell? ⟨B', off + k * 4 + 3, none⟩ = some (.slice z.A z.n z.c) := fun p => ((hCi _).1 p.h).2.2.2.2.2
      have kn : Nonempty (WC C) := ⟨⟨_, hC⟩⟩
      clear hCi e0 e1 e2 e3 q3 q1
      refine wp_region_front' C [0, 1, 2, 3, 4, 5, 6] [7, 8, 9, 10, 11] (fun j => decide (j < 11)) (by kernel_rfl) (fun _ _ d _ _ h => by cases d <;> exact h) (by kernel_rfl) (hdw ▸ hC) ?_
      simp only [List.map_cons, List.map_nil, List.getD_cons_zero, List.getD_cons_succ]
      repeat (go_big_quiet_step (fail))
      refine wpQuiet_nil ?_
      clear k3 k1 g0 g1 g2 g3 kn hC
      rw [hdw]
      clear hdw
      refine wpTail_cons ?_
      go_wp2_with fail
      refine (refCopied_any z wd HZd.out).mono ?_
      rintro e w5 ⟨y, rfl, hcy, hoy, hb5⟩
      obtain ⟨⟨yp, yA, yn, yc, yo, yes⟩, yB, ym, yd, yls⟩ := y
      dsimp only [Cl.cells]
      have hs5 : R + 1 + 1 < w5.heap.size := by have := hb5.size; omega
      have K1 := Lib.hid (H1d.out.below hb5 (by omega))
      have K2 := Lib.hid (H2d.out.below hb5 (by omega))
      have K3 := Lib.hid (H3d.out.below hb5 (by omega))
      have KB := Lib.hid (HBd.out.trans (hb5.mono (by omega)))
      have hown := own_below HVd.out hb5
      have KW : Hid (∀ y ∈ acc, Cl.own w5 R y) := Lib.hid fun y hy => (HWd.out y hy).below hb5
      have KY := Lib.hid (Cl.own.le hoy (show R ≤ wd.heap.size by omega))
      have KC := Lib.hid hcy
      have hC5 := HCb.out _ hb5
      have hC6 := HCb.out _ (hb5.alloc hb5.size (.cells (Cl.cells ⟨⟨yp, yA, yn, yc, yo, yes⟩, yB, ym, yd, yls⟩).toArray 45))
      have HC5 := Lib.hid hC5
      have HC6 := Lib.hid hC6
      clear hC5 hC6 hb5 hoy hcy H1d H2d H3d HBd HVd HWd HZd HCb
      go_wp2
      refine tailQ_normal (fun _ => HC5.out) ?_
      refine wpTail_cons ?_
      go_wp2
      refine tailQ_normal (fun _ => HC6.out) ?_
      refine wpTail_cons ?_
      refine wpList_append_own _ rfl _ _ 35 rfl R 45 j0 _ 4 72 Try.underlying35 hj hy0 hy1 hy2 rfl (by decide) _ _ _ rfl (hown.alloc _) ⟨w5.heap.size, 0, none⟩ 1 1 (Cl.cells ⟨⟨yp, yA, yn, yc, yo, yes⟩, yB, ym, yd, yls⟩) rfl rfl (fun j u h => new_cells _ _ _ j u h) (Cl.one _) (by unfold maxLen; omega) (by omega) (by simp; omega) ?_
      intro v7 w7 hown7 hg7 _
      obtain ⟨A7, d7, rfl, hn7⟩ := own_slice hown7
      have a1 := (K1.out.alloc (.cells (Cl.cells ⟨⟨yp, yA, yn, yc, yo, yes⟩, yB, ym, yd, yls⟩).toArray 45)).grown hg7 (own_blk_ne hown K1.out (by decide))
      have a2 := (K2.out.alloc (.cells (Cl.cells ⟨⟨yp, yA, yn, yc, yo, yes⟩, yB, ym, yd, yls⟩).toArray 45)).grown hg7 (own_blk_ne hown K2.out (by decide))
      have a3 := (K3.out.alloc (.cells (Cl.cells ⟨⟨yp, yA, yn, yc, yo, yes⟩, yB, ym, yd, yls⟩).toArray 45)).grown hg7 (own_blk_ne hown K3.out (by decide))
      have hba := (Below.refl w5.heap.size w5).alloc (Nat.le_refl _) (.cells (Cl.cells ⟨⟨yp, yA, yn, yc, yo, yes⟩, yB, ym, yd, yls⟩).toArray 45)
      have BL := (KB.out.alloc (by omega) (.cells (Cl.cells ⟨⟨yp, yA, yn, yc, yo, yes⟩, yB, ym, yd, yls⟩).toArray 45)).grown hg7 (by simp; omega) (fun q hq => (hown.lt q hq).1)
      have W7 : ∀ q ∈ acc ++ [(⟨⟨yp, yA, yn, yc, yo, yes⟩, yB, ym, yd, yls⟩ : Cl)], Cl.own w7 R q := by
        intro q hq
        rcases List.mem_append.1 hq with hq | hq
        · exact ((KW.out q hq).below hba).kept (hown.alloc _) hg7
        · rw [List.mem_singleton.1 hq]
          exact (KY.out.below hba).kept (hown.alloc _) hg7
      have C7 : (acc ++ [(⟨⟨yp, yA, yn, yc, yo, yes⟩, yB, ym, yd, yls⟩ : Cl)]).map Cl.core = (cs.take (k + 1)).map Cl.core := by
        rw [HTK.out, List.map_append, List.map_append, HC.out]
        simp only [List.map_cons, List.map_nil, KC.out]
      have V7 : w7.ownsRow R 45 4 (.slice A7 (k + 1) d7) (k + 1) (ccells (acc ++ [(⟨⟨yp, yA, yn, yc, yo, yes⟩, yB, ym, yd, yls⟩ : Cl)])) := by
        rw [ccells_append]; simpa [ccells] using hown7
      have hC7 := Lib.hid (HCg.out w7 BL a1 a3)
      have z3 := a3.frozen 0
      have y3 := a3.cell 0
      simp only [List.getElem?_cons_zero] at y3
      have hl7 := a3.lt
      have HA1 := Lib.hid a1
      have HA2 := Lib.hid a2
      have HA3 := Lib.hid a3
      have HBL := Lib.hid BL
      have HW7 := Lib.hid W7
      have HC7 := Lib.hid C7
      have HV7 := Lib.hid V7
      clear a1 a2 a3 BL W7 C7 V7 hown7 hown hg7 hba K1 K2 K3 KW KB KY KC HC HTK HC5 HC6 HCg
      go_wp2
      refine tailQ_normal (fun _ => hC7.out) ?_
      refine wpTail_cons ?_
      go_wp2
      refine tailQ_normal (fun _ => hC7.out) ?_
      refine wpTail_cons ?_
      go_wp2
      refine tailQ_normal (fun h => by cases h) ?_
      refine wpTail_nil ?_
      have HG1 := Lib.hid (HA1.out.far (p := ⟨R + 1 + 1, 0, none⟩) (by simp; omega) (.slice A7 (k + 1) d7))
      have HG2 := Lib.hid (HA2.out.far (p := ⟨R + 1 + 1, 0, none⟩) (by simp) (.slice A7 (k + 1) d7))
      have HG3 := Lib.hid (HA3.out.set_ 0 (.slice A7 (k + 1) d7))
      have HVG := Lib.hid (own_setCell_blk HV7.out HA3.out (by decide) 0 (.slice A7 (k + 1) d7))
      have HBG := Lib.hid (HBL.out.setCell (p := ⟨R + 1 + 1, 0, none⟩) (by simp; omega) (.slice A7 (k + 1) d7))
      have HWG : Hid (∀ q ∈ acc ++ [(⟨⟨yp, yA, yn, yc, yo, yes⟩, yB, ym, yd, yls⟩ : Cl)], Cl.own (w7.setCell ⟨R + 1 + 1, 0, none⟩ (.slice A7 (k + 1) d7)) R q) := Lib.hid fun q hq => (HW7.out q hq).set HA3.out (by decide) (by decide) 0 _
      simp only [List.set_cons_zero] at HG3
      clear HA1 HA2 HA3 HBL HV7 HW7 z3 y3 hl7 hC7
      generalize World.setCell _ _ _ = w8 at *
      go_wp2
      go_roundg (n - (k + 1))
      case measure => have := HG.out; omega
      case rel => exact ⟨k + 1, _, _, by go_num, by omega, rfl, HBG, HG1, HG2, HG3, HVG, HC7, HWG⟩
    · obtain rfl : k = n := by omega
      have hall : cs.take k = cs := List.take_of_length_le (by have := HN.out; omega)
      rw [hall] at HC
      obtain ⟨Ab, cb, rfl, hnb2⟩ := own_slice HV.out
      have q0 := H3.out.cell 0
      have r0 := H2.out.cell 0
      have s0 := H2.out.frozen 0
      have hl2 := H2.out.lt
      simp only [List.getElem?_cons_zero] at q0 r0
      have D1 := H2.out.set_ 0 (.slice Ab k cb)
      have E2 := own_setCell_blk HV.out H2.out (by decide) 0 (.slice Ab k cb)
      have E3 : ∀ q ∈ acc, Cl.own (wr.setCell ⟨R + 1, 0, none⟩ (.slice Ab k cb)) R q := fun q hq => (HW.out q hq).set H2.out (by decide) (by decide) 0 _
      have E4 := HB.out.setCell (p := ⟨R + 1, 0, none⟩) (by simp) (.slice Ab k cb)
      have p0 := D1.cell 0
      simp at p0
      have HE2 := Lib.hid E2
      have HE3 := Lib.hid E3
      have HE4 := Lib.hid E4
      clear E2 E3 E4 D1 HB H1 H2 H3 HV HW
      go_wp2
      refine bodyPost_ret (v := .agg #[.slice Ab k cb]) ?_ rfl ⟨Ab, cb, acc, rfl, ?_, HC.out, ?_, ?_⟩
      · simp [results, Try.results14, go_sem, p0]
      · rw [HRR.out]; exact HE2.out
      · rw [HRR.out]; exact HE3.out
      · rw [HRR.out]; exact HE4.out
end Go.Proofs.Ytjcgkplphiedjaa
