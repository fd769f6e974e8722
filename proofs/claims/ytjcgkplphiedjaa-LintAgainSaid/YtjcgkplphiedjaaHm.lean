/- Names anew: a term, an atom. | Names anew: an atom. | Names anew: a clause. -/
import Derived.Test.YtjcgkplphiedjaaHj
import Derived.Test.YtjcgkplphiedjaaGa
import Derived.Test.YtjcgkplphiedjaaHf
namespace Go.Proofs.Ytjcgkplphiedjaa
open Go.RowKit Go.Sort

set_option maxRecDepth 20000 in
set_option maxHeartbeats 4000000 in
theorem renT_any (x : T) (off : Int) (w : World) (hs : x.k = 4 → x.t.size ≤ 64) :
    Calls Try.prog 38 #[.agg x.cells.toArray, .int .i64 off] w fun e w' => e = .returned (.agg (x.ren off).cells.toArray) ∧ Below w.heap.size w w' := by
  obtain ⟨k, i, t, o⟩ := x
  dsimp only at hs
  have HV : Hid ((T.ren off ⟨k, i, t, o⟩).cells = [.int .i64 k, .int .i64 i, .string (if k = 4 ∧ t ≠ uS then t ++ zS else t), .int .i64 off]) := Lib.hid rfl
  rw [HV.out]
  show Calls Try.prog 38 #[.agg #[.int .i64 k, .int .i64 i, .string t, .int .i64 o], .int .i64 off] w _
  clear HV
  have HT : Hid (∃ u, (if k = 4 ∧ t ≠ uS then t ++ zS else t) = u) := Lib.hid ⟨_, rfl⟩
  obtain ⟨u, hu⟩ := HT.out
  have HU := Lib.hid hu
  rw [hu]
  clear hu HT
  go_enter Try.func38, Try.ntmps38
  go_upto_region 1 with (fail)
  obtain ⟨hb1, h1, h2, hs1⟩ := two_alloc w 33 33 [.int .i64 k, .int .i64 i, .string t, .int .i64 o] [.int .i64 0, .int .i64 0, .string ⟨#[]⟩, .int .i64 0]
  generalize World.alloc (World.alloc _ _) _ = w1 at *
  generalize hR : w.heap.size = R at *
  have HRR := Lib.hid hR
  clear hR
  have HB1 := Lib.hid hb1
  have H1 := Lib.hid h1
  have H2 := Lib.hid h2
  clear h1 h2 hb1
  have z3 := H1.out.frozen 3
  have y3 := (H1.out.cell 3).trans rfl
  have hl1 := H1.out.lt
  go_upto_region 2 with (fail)
  have HG1 := Lib.hid (H1.out.set_ 3 (.int .i64 off))
  have HG2 := Lib.hid (H2.out.far (p := ⟨R, 3, none⟩) (by simp) (.int .i64 off))
  have HGB := Lib.hid (HB1.out.setCell (p := ⟨R, 3, none⟩) (Nat.le_refl _) (.int .i64 off))
  simp only [List.set_cons_succ, List.set_cons_zero] at HG1
  clear H1 H2 HB1 z3 y3 hl1 hs1
  generalize World.setCell _ _ _ = w2 at *
  have f0 := (HG1.out.cell 0).trans rfl
  have f1 := (HG1.out.cell 1).trans rfl
  have f2 := (HG1.out.cell 2).trans rfl
  have f3 := (HG1.out.cell 3).trans rfl
  have g2 := HG1.out.frozen 2
  have hl1 := HG1.out.lt
  by_cases hc : k = 4 ∧ t ≠ uS
  · have hue : u = t ++ zS := by rw [← HU.out, if_pos hc]
    obtain ⟨hk, htu⟩ := hc
    have t1 : (k == 4) = true := by simpa using hk
    have t2 : (t.toList == [95]) = false := by
      rw [us_beq]; simp [htu]
    have hz := hs hk
    have HUE := Lib.hid hue
    clear htu hue hs
    subst hk
    have hz2 : t.size + 1 ≤ 9223372036854775807 := by omega
    go_upto_region 4 with (fail)
    have KG1 := Lib.hid (HG1.out.set_ 2 (.string (t ++ zS)))
    have KG2 := Lib.hid (HG2.out.far (p := ⟨R, 2, none⟩) (by simp) (.string (t ++ zS)))
    have KGB := Lib.hid (HGB.out.setCell (p := ⟨R, 2, none⟩) (Nat.le_refl _) (.string (t ++ zS)))
    simp only [List.set_cons_succ, List.set_cons_zero] at KG1
    clear HG1 HG2 HGB f0 f1 f2 f3 g2 hl1 t1 t2 hz hz2
    rw [show (⟨#[90]⟩ : ByteArray) = zS from rfl]
    rw [← HUE.out] at KG1 KG2 KGB ⊢
    generalize World.setCell _ _ _ = w3 at *
    have HG1 := KG1
    have HG2 := KG2
    have HGB := KGB
    clear KG1 KG2 KGB
    have f0 := (HG1.out.cell 0).trans rfl
    have f1 := (HG1.out.cell 1).trans rfl
    have f2 := (HG1.out.cell 2).trans rfl
    have f3 := (HG1.out.cell 3).trans rfl
    have hl1 := HG1.out.lt
    have r0 := (HG2.out.cell 0).trans rfl
    have r1 := (HG2.out.cell 1).trans rfl
    have r2 := (HG2.out.cell 2).trans rfl
    have r3 := (HG2.out.cell 3).trans rfl
    have s0 := HG2.out.frozen 0
    have s1 := HG2.out.frozen 1
    have s2 := HG2.out.frozen 2
    have s3 := HG2.out.frozen 3
    have hl2 := HG2.out.lt
    have D4 := (((HG2.out.set_ 0 (.int .i64 4)).set_ 1 (.int .i64 i)).set_ 2 (.string u)).set_ 3 (.int .i64 off)
    have E4 := (((HGB.out.setCell (p := ⟨R + 1, 0, none⟩) (by simp) (.int .i64 4)).setCell (p := ⟨R + 1, 1, none⟩) (by simp) (.int .i64 i)).setCell (p := ⟨R + 1, 2, none⟩) (by simp) (.string u)).setCell (p := ⟨R + 1, 3, none⟩) (by simp) (.int .i64 off)
    have p0 := D4.cell 0
    have p1 := D4.cell 1
    have p2 := D4.cell 2
    have p3 := D4.cell 3
    simp at p0 p1 p2 p3
    have HE4 := Lib.hid E4
    clear D4 E4 HGB HG2 HG1
    go_wp2
    refine bodyPost_ret (v := .agg #[.int .i64 4, .int .i64 i, .string u, .int .i64 off]) ?_ rfl ⟨by rfl, ?_⟩
    · simp [results, Try.results38, go_sem, p0, p1, p2, p3]
    · rw [HRR.out]; exact HE4.out
  · have hue : u = t := by rw [← HU.out, if_neg hc]
    have HUE := Lib.hid hue
    clear hue
    by_cases hk : k = 4
    · have t1 : (k == 4) = true := by simpa using hk
      have htu : t = uS := Classical.byContradiction fun h => hc ⟨hk, h⟩
      have t2 : (t.toList == [95]) = true := by rw [us_beq]; simp [htu]
      clear hc htu hs
      subst hk
      go_upto_region 4 with (fail)
      have hut := HUE.out
      clear HUE HU
      subst hut
      clear f0 f1 f2 f3 g2 hl1
      have f0 := (HG1.out.cell 0).trans rfl
      have f1 := (HG1.out.cell 1).trans rfl
      have f2 := (HG1.out.cell 2).trans rfl
      have f3 := (HG1.out.cell 3).trans rfl
      have hl1 := HG1.out.lt
      have r0 := (HG2.out.cell 0).trans rfl
      have r1 := (HG2.out.cell 1).trans rfl
      have r2 := (HG2.out.cell 2).trans rfl
      have r3 := (HG2.out.cell 3).trans rfl
      have s0 := HG2.out.frozen 0
      have s1 := HG2.out.frozen 1
      have s2 := HG2.out.frozen 2
      have s3 := HG2.out.frozen 3
      have hl2 := HG2.out.lt
      have D4 := (((HG2.out.set_ 0 (.int .i64 4)).set_ 1 (.int .i64 i)).set_ 2 (.string u)).set_ 3 (.int .i64 off)
      have E4 := (((HGB.out.setCell (p := ⟨R + 1, 0, none⟩) (by simp) (.int .i64 4)).setCell (p := ⟨R + 1, 1, none⟩) (by simp) (.int .i64 i)).setCell (p := ⟨R + 1, 2, none⟩) (by simp) (.string u)).setCell (p := ⟨R + 1, 3, none⟩) (by simp) (.int .i64 off)
      have p0 := D4.cell 0
      have p1 := D4.cell 1
      have p2 := D4.cell 2
      have p3 := D4.cell 3
      simp at p0 p1 p2 p3
      have HE4 := Lib.hid E4
      clear D4 E4 HGB HG2 HG1
      go_wp2
      refine bodyPost_ret (v := .agg #[.int .i64 4, .int .i64 i, .string u, .int .i64 off]) ?_ rfl ⟨by rfl, ?_⟩
      · simp [results, Try.results38, go_sem, p0, p1, p2, p3]
      · rw [HRR.out]; exact HE4.out
    · have t1 : (k == 4) = false := by simpa using hk
      clear hc hs hk
      go_upto_region 4 with (fail)
      have hut := HUE.out
      clear HUE HU
      subst hut
      clear f0 f1 f2 f3 g2 hl1
      have f0 := (HG1.out.cell 0).trans rfl
      have f1 := (HG1.out.cell 1).trans rfl
      have f2 := (HG1.out.cell 2).trans rfl
      have f3 := (HG1.out.cell 3).trans rfl
      have hl1 := HG1.out.lt
      have r0 := (HG2.out.cell 0).trans rfl
      have r1 := (HG2.out.cell 1).trans rfl
      have r2 := (HG2.out.cell 2).trans rfl
      have r3 := (HG2.out.cell 3).trans rfl
      have s0 := HG2.out.frozen 0
      have s1 := HG2.out.frozen 1
      have s2 := HG2.out.frozen 2
      have s3 := HG2.out.frozen 3
      have hl2 := HG2.out.lt
      have D4 := (((HG2.out.set_ 0 (.int .i64 k)).set_ 1 (.int .i64 i)).set_ 2 (.string u)).set_ 3 (.int .i64 off)
      have E4 := (((HGB.out.setCell (p := ⟨R + 1, 0, none⟩) (by simp) (.int .i64 k)).setCell (p := ⟨R + 1, 1, none⟩) (by simp) (.int .i64 i)).setCell (p := ⟨R + 1, 2, none⟩) (by simp) (.string u)).setCell (p := ⟨R + 1, 3, none⟩) (by simp) (.int .i64 off)
      have p0 := D4.cell 0
      have p1 := D4.cell 1
      have p2 := D4.cell 2
      have p3 := D4.cell 3
      simp at p0 p1 p2 p3
      have HE4 := Lib.hid E4
      clear D4 E4 HGB HG2 HG1
      go_wp2
      refine bodyPost_ret (v := .agg #[.int .i64 k, .int .i64 i, .string u, .int .i64 off]) ?_ rfl ⟨by rfl, ?_⟩
      · simp [results, Try.results38, go_sem, p0, p1, p2, p3]
      · rw [HRR.out]; exact HE4.out
end Go.Proofs.Ytjcgkplphiedjaa

namespace Go.Proofs.Ytjcgkplphiedjaa
open Go.RowKit Go.Sort

set_option maxRecDepth 20000 in
set_option maxHeartbeats 8000000 in
theorem renA_any (x : At) (off' : Int) (w : World) (hok : At.ok w x) (hf : ∀ e ∈ x.es, e.k = 4 → e.t.size ≤ 64) :
    Calls Try.prog 37 #[.agg #[.string x.p, .slice x.A x.n x.c, .int .i64 x.o], .int .i64 off'] w fun e w' => ∃ y : At, e = .returned (.agg #[.string y.p, .slice y.A y.n y.c, .int .i64 y.o]) ∧ y.core = (x.ren off').core ∧ At.own w' w.heap.size y ∧ Below w.heap.size w w' := by
  obtain ⟨i0, hi, hz0, hz1, hz2⟩ := info_parts Try.info33
  obtain ⟨p, A, n, c, o, es⟩ := x
  obtain ⟨ht, hA, hn40⟩ := hok
  dsimp only at ht hA hn40 hf ⊢
  have hlen : es.length = n := by have := ht.1; rw [tcells_length] at this; omega
  have HN := Lib.hid hlen
  have HT := Lib.hid ht
  have HFE := Lib.hid hf
  have hnb := ht.2.1
  clear ht hA hf hlen
  go_enter Try.func37, Try.ntmps37
  go_upto_region 2 with (fail)
  obtain ⟨hb3, h1, h2, h4, hs3⟩ := three_alloc w 27 27 27 [.string p, .slice A n c, .int .i64 o] [.string ⟨#[]⟩, .slice none 0 0, .int .i64 0] [.string p, .slice none 0 0, .int .i64 off']
  generalize World.alloc (World.alloc (World.alloc _ _) _) _ = w0 at *
  generalize hR : w.heap.size = R at *
  have HRR := Lib.hid hR
  clear hR
  have KB0 := Lib.hid hb3
  have K10 := Lib.hid h1
  have K20 := Lib.hid h2
  have K40 := Lib.hid h4
  clear hb3 h1 h2 h4 hs3
  go_upto_region 3 with (fail)
  go_loopg [6] n (fun gk u6 wr => ∃ (k : Nat) (vb : Value), u6 = .int .i64 k ∧ k ≤ n ∧ Hid (gk = n - k) ∧ Hid (Below R w wr) ∧ Hid (Blk wr R 27 [.string p, .slice A n c, .int .i64 o]) ∧ Hid (Blk wr (R + 1) 27 [.string ⟨#[]⟩, .slice none 0 0, .int .i64 0]) ∧
    Hid (Blk wr (R + 1 + 1) 27 [.string p, vb, .int .i64 off']) ∧ Hid (wr.ownsRow R 33 4 vb k (tcells ((es.take k).map (T.ren off')))))
  case atStart => exact ⟨0, .slice none 0 0, rfl, Nat.zero_le _, Lib.hid (by omega), KB0, K10, K20, K40, Lib.hid (World.ownsRow_nil _ _ _ _)⟩
  case round =>
    clear KB0 K10 K20 K40
    obtain ⟨k, vb, rfl, hk, HG, HB, H1, H2, H4, HV⟩ := hrel
    have f1 := (H1.out.cell 1).trans rfl
    by_cases hlt : k < n
    · obtain ⟨B', off, hk1, rfl, hBB, c0, c1, c2, c3⟩ := (HT.out.below HB.out).term k hlt
      have HZF := Lib.hid (HFE.out es[k] (List.getElem_mem hk1))
      have HTK := Lib.hid (take_snoc es k hk1)
      generalize es[k] = z at *
      go_upto_region 5 with (fail)
      clear f1
      have hs0 : R + 1 + 1 < wr.heap.size := H4.out.lt
      have HBd : Hid (Below R w wr.drew) := Lib.hid HB.out.drew
      have H1d := Lib.hid H1.out.drew
      have H2d := Lib.hid H2.out.drew
      have H4d := Lib.hid H4.out.drew
      have HVd : Hid (wr.drew.ownsRow R 33 4 vb k (tcells ((es.take k).map (T.ren off')))) := Lib.hid HV.out.drew
      have e0 : wr.drew.cell? ⟨B', off + k * 4, none⟩ = some (.int .i64 z.k) := c0
      have e1 : wr.drew.cell? ⟨B', off + k * 4 + 1, none⟩ = some (.int .i64 z.i) := c1
      have e2 : wr.drew.cell? ⟨B', off + k * 4 + 2, none⟩ = some (.string z.t) := c2
      have e3 : wr.drew.cell? ⟨B', off + k * 4 + 3, none⟩ = some (.int .i64 z.o) := c3
      have hs1 : R + 1 + 1 < wr.drew.heap.size := hs0
      clear c0 c1 c2 c3 HB H1 H2 H4 HV hs0
      generalize hdw : wr.drew = wd at *
      obtain ⟨C, hCi⟩ : ∃ C : World → Prop, ∀ w', C w' ↔ (w'.cell? ⟨R + 1 + 1, 1, none⟩ = some vb ∧ w'.cell? ⟨R, 1, none⟩ = some (.slice (some ⟨B', off, none⟩) n c) ∧ w'.cell? ⟨B', off + k * 4, none⟩ = some (.int .i64 z.k) ∧
        w'.cell? ⟨B', off + k * 4 + 1, none⟩ = some (.int .i64 z.i) ∧ w'.cell? ⟨B', off + k * 4 + 2, none⟩ = some (.string z.t) ∧ w'.cell? ⟨B', off + k * 4 + 3, none⟩ = some (.int .i64 z.o)) := ⟨_, fun _ => Iff.rfl⟩
      have q3 := (H4d.out.cell 1).trans rfl
      have q1 := (H1d.out.cell 1).trans rfl
      have hC : C wd := (hCi _).2 ⟨q3, q1, e0, e1, e2, e3⟩
      have HCb : Hid (∀ w', Below wd.heap.size wd w' → C w') := Lib.hid fun w' hb => (hCi _).2 ⟨cell_later hb q3, cell_later hb q1, cell_later hb e0, cell_later hb e1, cell_later hb e2, cell_later hb e3⟩
      have HCg : Hid (∀ w', Below R w w' → Blk w' R 27 [.string p, .slice (some ⟨B', off, none⟩) n c, .int .i64 o] → Blk w' (R + 1 + 1) 27 [.string p, vb, .int .i64 off'] → C w') := Lib.hid fun w' hb b1 b3 => (hCi _).2
        ⟨b3.cell 1, b1.cell 1, (hb.cell hBB).trans ((HBd.out.cell hBB).symm.trans e0), (hb.cell hBB).trans ((HBd.out.cell hBB).symm.trans e1), (hb.cell hBB).trans ((HBd.out.cell hBB).symm.trans e2), (hb.cell hBB).trans ((HBd.out.cell hBB).symm.trans e3)⟩
      have k3 : ∀ p : WC C, p.w.cell? ⟨R + 1 + 1, 1, none⟩ = some vb := fun p => ((hCi _).1 p.h).1
      have k1 : ∀ p : WC C, p.w.cell? ⟨R, 1, none⟩ = some (.slice (some ⟨B', off, none⟩) n c) := fun p => ((hCi _).1 p.h).2.1
      have g0 : ∀ p : WC C, p.w.cell? ⟨B', off + k * 4, none⟩ = some (.int .i64 z.k) := fun p => ((hCi _).1 p.h).2.2.1
      have g1 : ∀ p : WC C, p.w.cell? ⟨B', off + k * 4 + 1, none⟩ = some (.int .i64 z.i) := fun p => ((hCi _).1 p.h).2.2.2.1
      have g2 : ∀ p : WC C, p.w.cell? ⟨B', off + k * 4 + 2, none⟩ = some (.string z.t) := fun p => ((hCi _).1 p.h).2.2.2.2.1
      have g3 : ∀ p : WC C, p.w.cell? ⟨B', off + k * 4 + 3, none⟩ = some (.int .i64 z.o) := fun p => ((hCi _).1 p.h).2.2.2.2.2
      have kn : Nonempty (WC C) := ⟨⟨_, hC⟩⟩
      clear hCi e0 e1 e2 e3 q3 q1
      refine wp_region_front' C [0, 1, 2, 3, 4, 5, 6, 7] [8, 9, 10, 11, 12] (fun j => decide (j < 12)) (by kernel_rfl) (fun _ _ d _ _ h => by cases d <;> exact h) (by kernel_rfl) (hdw ▸ hC) ?_
      simp only [List.map_cons, List.map_nil, List.getD_cons_zero, List.getD_cons_succ]
      repeat (go_big_quiet_step (fail))
      refine wpQuiet_nil ?_
      clear k3 k1 g0 g1 g2 g3 kn hC
      rw [hdw]
      clear hdw
      refine wpTail_cons ?_
      go_wp2_with fail
      refine (renT_any z off' wd HZF.out).mono ?_
      rintro e w5 ⟨rfl, hb5⟩
      obtain ⟨⟨yk, yi, yt, yo⟩, hye⟩ : ∃ y, z.ren off' = y := ⟨_, rfl⟩
      have HYE := Lib.hid hye
      rw [hye]
      clear hye
      simp only [T.cells]
      have hs5 : R + 1 + 1 < w5.heap.size := by have := hb5.size; omega
      have K1 := Lib.hid (H1d.out.below hb5 H1d.out.lt)
      have K2 := Lib.hid (H2d.out.below hb5 H2d.out.lt)
      have K4 := Lib.hid (H4d.out.below hb5 H4d.out.lt)
      have KB := Lib.hid (HBd.out.trans (hb5.mono (by omega)))
      have hown := own_below HVd.out hb5
      have HC5 := Lib.hid (HCb.out _ hb5)
      have HC6 := Lib.hid (HCb.out _ (hb5.alloc hb5.size (.cells (T.cells ⟨yk, yi, yt, yo⟩).toArray 33)))
      clear hb5 H1d H2d H4d HBd HVd HCb
      go_wp2
      refine tailQ_normal (fun _ => HC5.out) ?_
      refine wpTail_cons ?_
      go_wp2
      refine tailQ_normal (fun _ => HC6.out) ?_
      refine wpTail_cons ?_
      refine wpList_append_own _ rfl _ _ 25 rfl R 33 i0 _ 4 40 Try.underlying25 hi hz0 hz1 hz2 rfl (by decide) _ _ _ rfl (hown.alloc _) ⟨w5.heap.size, 0, none⟩ 1 1 (T.cells ⟨yk, yi, yt, yo⟩) rfl rfl (fun j u h => new_cells _ _ _ j u h) (term_one _) (by unfold maxLen; omega) (by omega) (by simp; omega) ?_
      intro v7 w7 hown7 hg7 _
      obtain ⟨A7, d7, rfl, hn7⟩ := own_slice hown7
      have a1 := (K1.out.alloc (.cells (T.cells ⟨yk, yi, yt, yo⟩).toArray 33)).grown hg7 (own_blk_ne hown K1.out (by decide))
      have a2 := (K2.out.alloc (.cells (T.cells ⟨yk, yi, yt, yo⟩).toArray 33)).grown hg7 (own_blk_ne hown K2.out (by decide))
      have a4 := (K4.out.alloc (.cells (T.cells ⟨yk, yi, yt, yo⟩).toArray 33)).grown hg7 (own_blk_ne hown K4.out (by decide))
      have BL := (KB.out.alloc (by omega) (.cells (T.cells ⟨yk, yi, yt, yo⟩).toArray 33)).grown hg7 (by simp; omega) (fun q hq => (hown.lt q hq).1)
      have V7 : w7.ownsRow R 33 4 (.slice A7 (k + 1) d7) (k + 1) (tcells ((es.take (k + 1)).map (T.ren off'))) := by
        rw [HTK.out, List.map_append, List.map_singleton, HYE.out, tcells_append]
        simpa [tcells] using hown7
      have hC7 := Lib.hid (HCg.out w7 BL a1 a4)
      have z3 := a4.frozen 1
      have y3 := (a4.cell 1).trans rfl
      have hl7 := a4.lt
      have HA1 := Lib.hid a1
      have HA2 := Lib.hid a2
      have HA4 := Lib.hid a4
      have HBL := Lib.hid BL
      have HV7 := Lib.hid V7
      clear a1 a2 a4 BL V7 hown7 hown hg7 K1 K2 K4 KB HYE HTK HC5 HC6 HCg
      go_wp2
      refine tailQ_normal (fun _ => hC7.out) ?_
      refine wpTail_cons ?_
      go_wp2
      refine tailQ_normal (fun _ => hC7.out) ?_
      refine wpTail_cons ?_
      go_wp2
      refine tailQ_normal (fun h => by cases h) ?_
      refine wpTail_nil ?_
      have HG1 := Lib.hid (HA1.out.far (p := ⟨R + 1 + 1, 1, none⟩) (by simp; omega) (.slice A7 (k + 1) d7))
      have HG2 := Lib.hid (HA2.out.far (p := ⟨R + 1 + 1, 1, none⟩) (by show R + 1 ≠ R + 1 + 1; omega) (.slice A7 (k + 1) d7))
      have HG4 := Lib.hid (HA4.out.set_ 1 (.slice A7 (k + 1) d7))
      have HVG := Lib.hid (own_setCell_blk HV7.out HA4.out (by decide) 1 (.slice A7 (k + 1) d7))
      have HBG := Lib.hid (HBL.out.setCell (p := ⟨R + 1 + 1, 1, none⟩) (by simp; omega) (.slice A7 (k + 1) d7))
      simp only [List.set_cons_succ, List.set_cons_zero] at HG4
      clear HA1 HA2 HA4 HBL HV7 z3 y3 hl7 hC7
      generalize World.setCell _ _ _ = w8 at *
      go_wp2
      go_roundg (n - (k + 1))
      case measure => have := HG.out; omega
      case rel => exact ⟨k + 1, (.slice A7 (k + 1) d7), by go_num, by omega, Lib.hid rfl, HBG, HG1, HG2, HG4, HVG⟩
    · obtain rfl : k = n := by omega
      have hall : es.take k = es := List.take_of_length_le (by have := HN.out; omega)
      rw [hall] at HV
      obtain ⟨Ab, cb, rfl, hnb2⟩ := own_slice HV.out
      have q0 := (H4.out.cell 0).trans rfl
      have q1 := (H4.out.cell 1).trans rfl
      have q2 := (H4.out.cell 2).trans rfl
      have r0 := (H2.out.cell 0).trans rfl
      have r1 := (H2.out.cell 1).trans rfl
      have r2 := (H2.out.cell 2).trans rfl
      have s0 := H2.out.frozen 0
      have s1 := H2.out.frozen 1
      have s2 := H2.out.frozen 2
      have hl2 := H2.out.lt
      have hl4 := H4.out.lt
      have D1 := H2.out.set_ 0 (.string p)
      have D2 := D1.set_ 1 (.slice Ab k cb)
      have D3 := D2.set_ 2 (.int .i64 off')
      have E1 := own_setCell_blk (own_setCell_blk (own_setCell_blk HV.out H2.out (by decide) 0 (.string p)) D1 (by decide) 1 (.slice Ab k cb)) D2 (by decide) 2 (.int .i64 off')
      have E4 := ((HB.out.setCell (p := ⟨R + 1, 0, none⟩) (by simp) (.string p)).setCell (p := ⟨R + 1, 1, none⟩) (by simp) (.slice Ab k cb)).setCell (p := ⟨R + 1, 2, none⟩) (by simp) (.int .i64 off')
      have p0 := D3.cell 0
      have p1 := D3.cell 1
      have p2 := D3.cell 2
      simp at p0 p1 p2
      have HE1 := Lib.hid E1
      have HE4 := Lib.hid E4
      clear E1 E4 D1 D2 D3 HB H1 H2 H4 HV
      go_wp2
      refine bodyPost_ret (v := .agg #[.string p, .slice Ab k cb, .int .i64 off']) ?_ rfl ⟨⟨p, Ab, k, cb, off', es.map (T.ren off')⟩, rfl, rfl, ?_, ?_⟩
      · simp [results, Try.results37, go_sem, p0, p1, p2]
      · rw [HRR.out]; exact HE1.out
      · rw [HRR.out]; exact HE4.out
end Go.Proofs.Ytjcgkplphiedjaa

namespace Go.Proofs.Ytjcgkplphiedjaa
open Go.RowKit Go.Sort

/-- No variable of the terms has a long name. -/
def shortT (l : List T) : Prop := ∀ e ∈ l, e.k = 4 → e.t.size ≤ 64
def shortC (x : Cl) : Prop := shortT x.h.es ∧ ∀ l ∈ x.ls, shortT l.a.es ∧ shortT [l.l, l.r]
theorem renT_eq {x : T} {off' k i o : Int} {t : ByteArray} (h : x.ren off' = ⟨k, i, t, o⟩) : T.ren off' x = ⟨k, i, t, o⟩ := h
theorem renL_core {x : Li} {off' : Int} {za : At} {l r : T} (h1 : za.core = (x.a.ren off').core) (h2 : x.l.ren off' = l) (h3 : x.r.ren off' = r) : (⟨x.k, za, x.op, l, r, off'⟩ : Li).core = (x.ren off').core := by
  show (x.k, za.core, x.op, l, r, off') = (x.k, (x.a.ren off').core, x.op, x.l.ren off', x.r.ren off', off')
  rw [h1, h2, h3]

set_option maxRecDepth 20000 in
set_option maxHeartbeats 16000000 in
theorem renC_any (x : Cl) (off' : Int) (w : World) (hok : Cl.ok w x) (hs : shortC x) :
    Calls Try.prog 20 #[.agg x.cells.toArray, .int .i64 off'] w fun e w' => ∃ y : Cl, e = .returned (.agg y.cells.toArray) ∧ y.core = (x.ren off').core ∧ Cl.own w' w.heap.size y ∧ Below w.heap.size w w' := by
  obtain ⟨j0, hj, hy0, hy1, hy2⟩ := info_parts Try.info61
  obtain ⟨⟨hp, hA, hn, hc, ho, hes⟩, B, m, d, ls⟩ := x
  obtain ⟨hhd, hl, hm152, hlk⟩ := hok
  obtain ⟨hsh, hsl⟩ := hs
  dsimp only at hhd hl hm152 hlk hsh hsl
  show Calls Try.prog 20 #[.agg #[.string hp, .slice hA hn hc, .int .i64 ho, .slice B m d], .int .i64 off'] w _
  have HHD := Lib.hid hhd
  have HL := Lib.hid hl
  have HLK := Lib.hid hlk
  have HSH := Lib.hid hsh
  have HSL := Lib.hid hsl
  have hlen : ls.length = m := by have := hl.1; rw [lcells_length] at this; omega
  have HN := Lib.hid hlen
  have hmb := hl.2.1
  have HVAL : Hid ((Cl.ren off' ⟨⟨hp, hA, hn, hc, ho, hes⟩, B, m, d, ls⟩).core = ((At.ren off' ⟨hp, hA, hn, hc, ho, hes⟩).core, (ls.map (Li.ren off')).map Li.core)) := Lib.hid rfl
  rw [HVAL.out]
  clear hhd hl hlk hsh hsl hlen HVAL
  generalize hcr : (At.ren off' ⟨hp, hA, hn, hc, ho, hes⟩).core = hcore at *
  have HCR := Lib.hid hcr
  clear hcr
  go_enter Try.func20, Try.ntmps20
  go_upto_region 1 with (fail)
  obtain ⟨hb3, h1, h2, hs3⟩ := two_alloc w 45 45 [.string hp, .slice hA hn hc, .int .i64 ho, .slice B m d] [.string ⟨#[]⟩, .slice none 0 0, .int .i64 0, .slice none 0 0]
  generalize World.alloc (World.alloc _ _) _ = w3 at *
  generalize hR : w.heap.size = R at *
  have HRR := Lib.hid hR
  clear hR
  have HB3 := Lib.hid hb3
  have H1 := Lib.hid h1
  have H2 := Lib.hid h2
  clear hb3 h1 h2
  have f0 := (H1.out.cell 0).trans rfl
  have f1 := (H1.out.cell 1).trans rfl
  have f2 := (H1.out.cell 2).trans rfl
  have kh := renA_any ⟨hp, hA, hn, hc, ho, hes⟩ off' w3 (HHD.out.up (HRR.out ▸ HB3.out)) HSH.out
  dsimp only at kh
  go_wp2_with fail
  refine kh.mono ?_
  rintro e w4 ⟨⟨yp, yA, yn, yc, yo, yes⟩, rfl, hgy, hoy, hb4⟩
  have HGH := Lib.hid (hgy.trans HCR.out)
  have HO4 := Lib.hid (hoy.le (show R ≤ w3.heap.size by omega))
  have HB4 := Lib.hid (HB3.out.trans (hb4.mono (by omega)))
  have H14 := Lib.hid (H1.out.below hb4 H1.out.lt)
  have H24 := Lib.hid (H2.out.below hb4 H2.out.lt)
  have hsz4 : R + 2 ≤ w4.heap.size := by have := hb4.size; omega
  clear hgy hoy hb4 kh f0 f1 f2 H1 H2 HB3 hs3
  dsimp only
  go_upto_region 2 with (fail)
  have H34 := Lib.hid (Blk.new w4 45 [.string yp, .slice yA yn yc, .int .i64 yo, .slice none 0 0])
  have HBG := Lib.hid (HB4.out.alloc (by omega) (.cells #[.string yp, .slice yA yn yc, .int .i64 yo, .slice none 0 0] 45))
  have HG1 := Lib.hid (H14.out.alloc (.cells #[.string yp, .slice yA yn yc, .int .i64 yo, .slice none 0 0] 45))
  have HG2 := Lib.hid (H24.out.alloc (.cells #[.string yp, .slice yA yn yc, .int .i64 yo, .slice none 0 0] 45))
  have HOG : Hid (At.own (w4.alloc (.cells #[.string yp, .slice yA yn yc, .int .i64 yo, .slice none 0 0] 45)) R ⟨yp, yA, yn, yc, yo, yes⟩) := Lib.hid (World.ownsRow.alloc HO4.out (.cells #[.string yp, .slice yA yn yc, .int .i64 yo, .slice none 0 0] 45))
  clear HB4 H14 H24 HO4
  generalize World.alloc _ _ = w5 at *
  generalize hZ : w4.heap.size = P at *
  clear hZ
  go_upto_region 3 with (fail)
  go_loopg [6] m (fun gk u6 wr => ∃ (k : Nat) (acc : List Li) (vb : Value), u6 = .int .i64 k ∧ k ≤ m ∧ Hid (gk = m - k) ∧ Hid (Below R w wr) ∧ Hid (Blk wr R 45 [.string hp, .slice hA hn hc, .int .i64 ho, .slice B m d]) ∧ Hid (Blk wr (R + 1) 45 [.string ⟨#[]⟩, .slice none 0 0, .int .i64 0, .slice none 0 0]) ∧
    Hid (Blk wr P 45 [.string yp, .slice yA yn yc, .int .i64 yo, vb]) ∧ Hid (At.own wr R ⟨yp, yA, yn, yc, yo, yes⟩) ∧ Hid (wr.ownsRow R 61 14 vb k (lcells acc)) ∧ Hid (acc.map Li.core = ((ls.take k).map (Li.ren off')).map Li.core) ∧ Hid (∀ l ∈ acc, At.own wr R l.a))
  case atStart => exact ⟨0, [], .slice none 0 0, rfl, Nat.zero_le _, Lib.hid (by omega), HBG, HG1, HG2, H34, HOG, Lib.hid (World.ownsRow_nil _ _ _ _), Lib.hid rfl, Lib.hid (by simp)⟩
  case round =>
    clear HBG HG1 HG2 H34 HOG
    obtain ⟨k, acc, vb, rfl, hkm, HG, HB, H1, H2, H3, HO, HV, HC, HW⟩ := hrel
    have f3 := (H1.out.cell 3).trans rfl
    have hsr : P < wr.heap.size := H3.out.lt
    have hRr : R ≤ wr.heap.size := by have := HB.out.size; rw [HRR.out] at this; exact this
    by_cases hlm : k < m
    · obtain ⟨B', off, hk1, rfl, hBB, hcc⟩ := (HL.out.below HB.out).at Li.cells 14 (fun _ => rfl) (by omega) k hlm
      have HXO := Lib.hid (HLK.out _ (List.getElem_mem hk1))
      have HXS := Lib.hid (HSL.out _ (List.getElem_mem hk1))
      have HTK : Hid ((((ls.take (k + 1)).map (Li.ren off')).map Li.core) = ((ls.take k).map (Li.ren off')).map Li.core ++ [(ls[k].ren off').core]) := Lib.hid (by rw [take_snoc ls k hk1, List.map_append, List.map_append]; rfl)
      generalize hTC : ((ls.take (k + 1)).map (Li.ren off')).map Li.core = TC at *
      have HTCE := Lib.hid hTC
      clear hTC
      generalize ls[k] = x at *
      have HLC := Lib.hid (fun (za : At) (l r : T) h1 h2 h3 => renL_core (x := x) (off' := off') (za := za) (l := l) (r := r) h1 h2 h3)
      have HLE : Hid (∃ c, (x.ren off').core = c) := Lib.hid ⟨_, rfl⟩
      obtain ⟨lc, hlc⟩ := HLE.out
      rw [hlc] at HTK HLC
      clear hlc HLE
      obtain ⟨xk, ⟨xp, xA, xn, xc, xo, xes⟩, xop, ⟨xlk, xli, xlt, xlo⟩, ⟨xrk, xri, xrt, xro⟩, xof⟩ := x
      have c0 := hcc 0 _ (by omega) rfl
      have c1 := hcc 1 _ (by omega) rfl
      have c2 := hcc 2 _ (by omega) rfl
      have c3 := hcc 3 _ (by omega) rfl
      have c4 := hcc 4 _ (by omega) rfl
      have c5 := hcc 5 _ (by omega) rfl
      have c6 := hcc 6 _ (by omega) rfl
      have c7 := hcc 7 _ (by omega) rfl
      have c8 := hcc 8 _ (by omega) rfl
      have c9 := hcc 9 _ (by omega) rfl
      have c10 := hcc 10 _ (by omega) rfl
      have c11 := hcc 11 _ (by omega) rfl
      have c12 := hcc 12 _ (by omega) rfl
      have c13 := hcc 13 _ (by omega) rfl
      clear hcc
      rw [Nat.add_zero] at c0
      dsimp only at c0 c1 c2 c3 c4 c5 c6 c7 c8 c9 c10 c11 c12 c13 HXO HXS HLC
      go_upto_region 6 with (fail)
      have QB := Lib.hid ((Below.refl wr.heap.size wr).alloc (Nat.le_refl _) (.cells #[.int .i64 xk, .string xp, .slice xA xn xc, .int .i64 xo, .int .i64 xop, .int .i64 xlk, .int .i64 xli, .string xlt, .int .i64 xlo, .int .i64 xrk, .int .i64 xri, .string xrt, .int .i64 xro, .int .i64 xof] 61))
      have NQ := Lib.hid (Blk.new wr 61 [.int .i64 xk, .string xp, .slice xA xn xc, .int .i64 xo, .int .i64 xop, .int .i64 xlk, .int .i64 xli, .string xlt, .int .i64 xlo, .int .i64 xrk, .int .i64 xri, .string xrt, .int .i64 xro, .int .i64 xof])
      clear f3 c0 c1 c2 c3 c4 c5 c6 c7 c8 c9 c10 c11 c12 c13
      generalize World.alloc _ _ = w4 at *
      generalize hQ : wr.heap.size = Q at *
      have HQQ := Lib.hid hQ
      clear hQ
      have g13 := (NQ.out.cell 13).trans rfl
      have s13 := NQ.out.frozen 13
      have hlq := NQ.out.lt
      go_upto_region 7 with (fail)
      have QB5 := Lib.hid (QB.out.setCell (p := ⟨Q, 13, none⟩) (Nat.le_refl _) (.int .i64 off'))
      have NQ5 := Lib.hid (NQ.out.set_ 13 (.int .i64 off'))
      simp only [List.set_cons_succ, List.set_cons_zero] at NQ5
      clear QB NQ g13 s13 hlq
      generalize World.setCell _ _ _ = w5 at *
      have hw5 : Q < w5.heap.size := NQ5.out.lt
      have g1 := (NQ5.out.cell 1).trans rfl
      have g2 := (NQ5.out.cell 2).trans rfl
      have g3 := (NQ5.out.cell 3).trans rfl
      have ka := renA_any ⟨xp, xA, xn, xc, xo, xes⟩ off' w5 (At.ok.up HXO.out (HRR.out ▸ (HB.out.trans (QB5.out.mono hRr)))) HXS.out.1
      dsimp only at ka
      go_wp2_with fail
      refine ka.mono ?_
      rintro e w6 ⟨⟨zp, zA, zn, zc, zo, zes⟩, rfl, hzc, hzo, hb⟩
      have HZC := Lib.hid hzc
      have ZO6 := Lib.hid (hzo.le (show R ≤ w5.heap.size by omega))
      have QB6 := Lib.hid (QB5.out.trans (hb.mono (by omega)))
      have NQ6 := Lib.hid (NQ5.out.below hb NQ5.out.lt)
      clear ka hzc hzo hb QB5 NQ5 g1 g2 g3 hw5
      dsimp only
      have hw6 : Q < w6.heap.size := NQ6.out.lt
      have g1 := (NQ6.out.cell 1).trans rfl
      have g2 := (NQ6.out.cell 2).trans rfl
      have g3 := (NQ6.out.cell 3).trans rfl
      have s1 := NQ6.out.frozen 1
      have s2 := NQ6.out.frozen 2
      have s3 := NQ6.out.frozen 3
      go_upto_region 8 with (fail)
      have D1 := NQ6.out.set_ 1 (.string zp)
      have D2 := D1.set_ 2 (.slice zA zn zc)
      have D3 := D2.set_ 3 (.int .i64 zo)
      have QB7 := Lib.hid (((QB6.out.setCell (p := ⟨Q, 1, none⟩) (Nat.le_refl _) (.string zp)).setCell (p := ⟨Q, 2, none⟩) (Nat.le_refl _) (.slice zA zn zc)).setCell (p := ⟨Q, 3, none⟩) (Nat.le_refl _) (.int .i64 zo))
      have ZO7 : Hid (At.own (((w6.setCell ⟨Q, 1, none⟩ (.string zp)).setCell ⟨Q, 2, none⟩ (.slice zA zn zc)).setCell ⟨Q, 3, none⟩ (.int .i64 zo)) R ⟨zp, zA, zn, zc, zo, zes⟩) := Lib.hid (own_setCell_blk (own_setCell_blk (own_setCell_blk ZO6.out NQ6.out (by decide) 1 (.string zp)) D1 (by decide) 2 (.slice zA zn zc)) D2 (by decide) 3 (.int .i64 zo))
      have NQ7 := Lib.hid D3
      simp only [List.set_cons_succ, List.set_cons_zero] at NQ7
      clear D1 D2 D3 QB6 NQ6 ZO6 g1 g2 g3 s1 s2 s3 hw6
      generalize World.setCell _ _ _ = w7 at *
      have hw7 : Q < w7.heap.size := NQ7.out.lt
      have g5 := (NQ7.out.cell 5).trans rfl
      have g6 := (NQ7.out.cell 6).trans rfl
      have g7 := (NQ7.out.cell 7).trans rfl
      have g8 := (NQ7.out.cell 8).trans rfl
      have kt := renT_any ⟨xlk, xli, xlt, xlo⟩ off' w7 (fun h => HXS.out.2 ⟨xlk, xli, xlt, xlo⟩ (by simp) h)
      obtain ⟨⟨lk, li, lt, lo⟩, hte⟩ : ∃ t, T.ren off' ⟨xlk, xli, xlt, xlo⟩ = t := ⟨_, rfl⟩
      have HTE7 := Lib.hid hte
      rw [hte] at kt
      clear hte
      simp only [T.cells] at kt
      go_wp2_with fail
      refine kt.mono ?_
      rintro e w8 ⟨rfl, hb⟩
      have QB8 := Lib.hid (QB7.out.trans (hb.mono (by omega)))
      have NQ8 := Lib.hid (NQ7.out.below hb NQ7.out.lt)
      have ZO8 := Lib.hid (ZO7.out.below hb)
      clear kt hb QB7 NQ7 ZO7 g5 g6 g7 g8 hw7
      have hw8 : Q < w8.heap.size := NQ8.out.lt
      have g5 := (NQ8.out.cell 5).trans rfl
      have g6 := (NQ8.out.cell 6).trans rfl
      have g7 := (NQ8.out.cell 7).trans rfl
      have g8 := (NQ8.out.cell 8).trans rfl
      have s5 := NQ8.out.frozen 5
      have s6 := NQ8.out.frozen 6
      have s7 := NQ8.out.frozen 7
      have s8 := NQ8.out.frozen 8
      go_upto_region 9 with (fail)
      have D1 := NQ8.out.set_ 5 (.int .i64 lk)
      have D2 := D1.set_ 6 (.int .i64 li)
      have D3 := D2.set_ 7 (.string lt)
      have D4 := D3.set_ 8 (.int .i64 lo)
      have QB9 := Lib.hid ((((QB8.out.setCell (p := ⟨Q, 5, none⟩) (Nat.le_refl _) (.int .i64 lk)).setCell (p := ⟨Q, 6, none⟩) (Nat.le_refl _) (.int .i64 li)).setCell (p := ⟨Q, 7, none⟩) (Nat.le_refl _) (.string lt)).setCell (p := ⟨Q, 8, none⟩) (Nat.le_refl _) (.int .i64 lo))
      have ZO9 : Hid (At.own ((((w8.setCell ⟨Q, 5, none⟩ (.int .i64 lk)).setCell ⟨Q, 6, none⟩ (.int .i64 li)).setCell ⟨Q, 7, none⟩ (.string lt)).setCell ⟨Q, 8, none⟩ (.int .i64 lo)) R ⟨zp, zA, zn, zc, zo, zes⟩) := Lib.hid (own_setCell_blk (own_setCell_blk (own_setCell_blk (own_setCell_blk ZO8.out NQ8.out (by decide) 5 (.int .i64 lk)) D1 (by decide) 6 (.int .i64 li)) D2 (by decide) 7 (.string lt)) D3 (by decide) 8 (.int .i64 lo))
      have NQ9 := Lib.hid D4
      simp only [List.set_cons_succ, List.set_cons_zero] at NQ9
      clear D1 D2 D3 D4 QB8 NQ8 ZO8 g5 g6 g7 g8 s5 s6 s7 s8 hw8
      generalize World.setCell _ _ _ = w9 at *
      have hw9 : Q < w9.heap.size := NQ9.out.lt
      have g9 := (NQ9.out.cell 9).trans rfl
      have g10 := (NQ9.out.cell 10).trans rfl
      have g11 := (NQ9.out.cell 11).trans rfl
      have g12 := (NQ9.out.cell 12).trans rfl
      have kt := renT_any ⟨xrk, xri, xrt, xro⟩ off' w9 (fun h => HXS.out.2 ⟨xrk, xri, xrt, xro⟩ (by simp) h)
      obtain ⟨⟨rk, ri, rt, ro⟩, hte⟩ : ∃ t, T.ren off' ⟨xrk, xri, xrt, xro⟩ = t := ⟨_, rfl⟩
      have HTE9 := Lib.hid hte
      rw [hte] at kt
      clear hte
      simp only [T.cells] at kt
      go_wp2_with fail
      refine kt.mono ?_
      rintro e w10 ⟨rfl, hb⟩
      have QB10 := Lib.hid (QB9.out.trans (hb.mono (by omega)))
      have NQ10 := Lib.hid (NQ9.out.below hb NQ9.out.lt)
      have ZO10 := Lib.hid (ZO9.out.below hb)
      clear kt hb QB9 NQ9 ZO9 g9 g10 g11 g12 hw9
      have hw10 : Q < w10.heap.size := NQ10.out.lt
      have g9 := (NQ10.out.cell 9).trans rfl
      have g10 := (NQ10.out.cell 10).trans rfl
      have g11 := (NQ10.out.cell 11).trans rfl
      have g12 := (NQ10.out.cell 12).trans rfl
      have s9 := NQ10.out.frozen 9
      have s10 := NQ10.out.frozen 10
      have s11 := NQ10.out.frozen 11
      have s12 := NQ10.out.frozen 12
      go_upto_region 10 with (fail)
      have D1 := NQ10.out.set_ 9 (.int .i64 rk)
      have D2 := D1.set_ 10 (.int .i64 ri)
      have D3 := D2.set_ 11 (.string rt)
      have D4 := D3.set_ 12 (.int .i64 ro)
      have QB11 := Lib.hid ((((QB10.out.setCell (p := ⟨Q, 9, none⟩) (Nat.le_refl _) (.int .i64 rk)).setCell (p := ⟨Q, 10, none⟩) (Nat.le_refl _) (.int .i64 ri)).setCell (p := ⟨Q, 11, none⟩) (Nat.le_refl _) (.string rt)).setCell (p := ⟨Q, 12, none⟩) (Nat.le_refl _) (.int .i64 ro))
      have ZO11 : Hid (At.own ((((w10.setCell ⟨Q, 9, none⟩ (.int .i64 rk)).setCell ⟨Q, 10, none⟩ (.int .i64 ri)).setCell ⟨Q, 11, none⟩ (.string rt)).setCell ⟨Q, 12, none⟩ (.int .i64 ro)) R ⟨zp, zA, zn, zc, zo, zes⟩) := Lib.hid (own_setCell_blk (own_setCell_blk (own_setCell_blk (own_setCell_blk ZO10.out NQ10.out (by decide) 9 (.int .i64 rk)) D1 (by decide) 10 (.int .i64 ri)) D2 (by decide) 11 (.string rt)) D3 (by decide) 12 (.int .i64 ro))
      have NQ11 := Lib.hid D4
      simp only [List.set_cons_succ, List.set_cons_zero] at NQ11
      clear D1 D2 D3 D4 QB10 NQ10 ZO10 g9 g10 g11 g12 s9 s10 s11 s12 hw10
      generalize World.setCell _ _ _ = w11 at *
      have hw11 : Q < w11.heap.size := NQ11.out.lt
      have hBZ : Below wr.heap.size wr w11 := HQQ.out ▸ QB11.out
      have HBz := Lib.hid (HB.out.trans (hBZ.mono (by have := HQQ.out; omega)))
      have H1z := Lib.hid (H1.out.below hBZ H1.out.lt)
      have H2z := Lib.hid (H2.out.below hBZ H2.out.lt)
      have H3z := Lib.hid (H3.out.below hBZ H3.out.lt)
      have HOz := Lib.hid (HO.out.below hBZ)
      have HVz := Lib.hid (own_below HV.out hBZ)
      have HWz : Hid (∀ l ∈ acc, At.own w11 R l.a) := Lib.hid fun l hl => (HW.out l hl).below hBZ
      have HNC : Hid (((⟨xk, ⟨zp, zA, zn, zc, zo, zes⟩, xop, ⟨lk, li, lt, lo⟩, ⟨rk, ri, rt, ro⟩, off'⟩) : Li).core = lc) := Lib.hid (HLC.out ⟨zp, zA, zn, zc, zo, zes⟩ ⟨lk, li, lt, lo⟩ ⟨rk, ri, rt, ro⟩ HZC.out HTE7.out HTE9.out)
      clear hBZ QB11 HB H1 H2 H3 HO HV HW HLC HZC HTE7 HTE9 HXO HXS
      have g0 := (NQ11.out.cell 0).trans rfl
      have g1 := (NQ11.out.cell 1).trans rfl
      have g2 := (NQ11.out.cell 2).trans rfl
      have g3 := (NQ11.out.cell 3).trans rfl
      have g4 := (NQ11.out.cell 4).trans rfl
      have g5 := (NQ11.out.cell 5).trans rfl
      have g6 := (NQ11.out.cell 6).trans rfl
      have g7 := (NQ11.out.cell 7).trans rfl
      have g8 := (NQ11.out.cell 8).trans rfl
      have g9 := (NQ11.out.cell 9).trans rfl
      have g10 := (NQ11.out.cell 10).trans rfl
      have g11 := (NQ11.out.cell 11).trans rfl
      have g12 := (NQ11.out.cell 12).trans rfl
      have g13 := (NQ11.out.cell 13).trans rfl
      have y3 := (H3z.out.cell 3).trans rfl
      have hl3 := H3z.out.lt
      have hown := HVz.out
      have hRw : R ≤ w11.heap.size := by have := HBz.out.size; rw [HRR.out] at this; exact this
      go_wp2_with (at_builtin; go_must (refine wpList_append_own _ rfl _ _ 43 rfl R 61 j0 _ 14 152 Try.underlying43 hj hy0 hy1 hy2 rfl (by decide) _ _ _ rfl (hown.alloc _) ⟨w11.heap.size, 0, none⟩ 1 1 (Li.cells ⟨xk, ⟨zp, zA, zn, zc, zo, zes⟩, xop, ⟨lk, li, lt, lo⟩, ⟨rk, ri, rt, ro⟩, off'⟩) rfl rfl (fun j u h => new_cells _ _ _ j u h) (Li.one _) (by unfold maxLen; omega) (by omega) (by simp; omega) ?_))
      intro v7 w7 hown7 hg7 _
      obtain ⟨A7, d7, rfl, hn7⟩ := own_slice hown7
      have hba := (Below.refl w11.heap.size w11).alloc (Nat.le_refl _) (.cells (Li.cells ⟨xk, ⟨zp, zA, zn, zc, zo, zes⟩, xop, ⟨lk, li, lt, lo⟩, ⟨rk, ri, rt, ro⟩, off'⟩).toArray 61)
      have a1 := (H1z.out.alloc (.cells (Li.cells ⟨xk, ⟨zp, zA, zn, zc, zo, zes⟩, xop, ⟨lk, li, lt, lo⟩, ⟨rk, ri, rt, ro⟩, off'⟩).toArray 61)).grown hg7 (own_blk_ne hown H1z.out (by decide))
      have a2 := (H2z.out.alloc (.cells (Li.cells ⟨xk, ⟨zp, zA, zn, zc, zo, zes⟩, xop, ⟨lk, li, lt, lo⟩, ⟨rk, ri, rt, ro⟩, off'⟩).toArray 61)).grown hg7 (own_blk_ne hown H2z.out (by decide))
      have a3 := (H3z.out.alloc (.cells (Li.cells ⟨xk, ⟨zp, zA, zn, zc, zo, zes⟩, xop, ⟨lk, li, lt, lo⟩, ⟨rk, ri, rt, ro⟩, off'⟩).toArray 61)).grown hg7 (own_blk_ne hown H3z.out (by decide))
      have BL := (HBz.out.alloc hRw (.cells (Li.cells ⟨xk, ⟨zp, zA, zn, zc, zo, zes⟩, xop, ⟨lk, li, lt, lo⟩, ⟨rk, ri, rt, ro⟩, off'⟩).toArray 61)).grown hg7 (by simp; omega) (fun q hq => (hown.lt q hq).1)
      have O7 := own_kept_types (HOz.out.below hba) (hown.alloc _) (by decide) hg7
      have V7 : w7.ownsRow R 61 14 (.slice A7 (k + 1) d7) (k + 1) (lcells (acc ++ [(⟨xk, ⟨zp, zA, zn, zc, zo, zes⟩, xop, ⟨lk, li, lt, lo⟩, ⟨rk, ri, rt, ro⟩, off'⟩ : Li)])) := by
        rw [lcells_append]; simpa [lcells] using hown7
      have W7 : ∀ l ∈ acc ++ [(⟨xk, ⟨zp, zA, zn, zc, zo, zes⟩, xop, ⟨lk, li, lt, lo⟩, ⟨rk, ri, rt, ro⟩, off'⟩ : Li)], At.own w7 R l.a := by
        intro l hl
        rcases List.mem_append.1 hl with hl | hl
        · exact own_kept_types ((HWz.out l hl).below hba) (hown.alloc _) (by decide) hg7
        · rw [List.mem_singleton.1 hl]
          exact own_kept_types (ZO11.out.below hba) (hown.alloc _) (by decide) hg7
      have C7 : (acc ++ [(⟨xk, ⟨zp, zA, zn, zc, zo, zes⟩, xop, ⟨lk, li, lt, lo⟩, ⟨rk, ri, rt, ro⟩, off'⟩ : Li)]).map Li.core = TC := by
        rw [HTK.out, List.map_append, HC.out, List.map_singleton, HNC.out]
      have z3 := a3.frozen 3
      have y3' := (a3.cell 3).trans rfl
      have hl7 := a3.lt
      have HA1 := Lib.hid a1
      have HA2 := Lib.hid a2
      have HA3 := Lib.hid a3
      have HBL := Lib.hid BL
      have HO7 : Hid (At.own w7 R ⟨yp, yA, yn, yc, yo, yes⟩) := Lib.hid O7
      have HV7 := Lib.hid V7
      have HW7 := Lib.hid W7
      have HC7 := Lib.hid C7
      clear a1 a2 a3 BL O7 V7 W7 C7 hown7 hown hg7 hba H1z H2z H3z HBz HOz HVz HWz ZO11 NQ11 HNC HTK HC y3 hl3 g0 g1 g2 g3 g4 g5 g6 g7 g8 g9 g10 g11 g12 g13
      go_upto_region 4 with (fail)
      have HG1 := Lib.hid (HA1.out.far (p := ⟨P, 3, none⟩) (by simp; omega) (.slice A7 (k + 1) d7))
      have HG2 := Lib.hid (HA2.out.far (p := ⟨P, 3, none⟩) (by simp; omega) (.slice A7 (k + 1) d7))
      have HG3 := Lib.hid (HA3.out.set_ 3 (.slice A7 (k + 1) d7))
      have HOG : Hid (At.own (w7.setCell ⟨P, 3, none⟩ (.slice A7 (k + 1) d7)) R ⟨yp, yA, yn, yc, yo, yes⟩) := Lib.hid (own_setCell_blk HO7.out HA3.out (by decide) 3 (.slice A7 (k + 1) d7))
      have HVG := Lib.hid (own_setCell_blk HV7.out HA3.out (by decide) 3 (.slice A7 (k + 1) d7))
      have HBG := Lib.hid (HBL.out.setCell (p := ⟨P, 3, none⟩) (by simp; omega) (.slice A7 (k + 1) d7))
      have HWG := Lib.hid (fun l hl => own_setCell_blk (HW7.out l hl) HA3.out (by decide) 3 (.slice A7 (k + 1) d7))
      simp only [List.set_cons_succ, List.set_cons_zero] at HG3
      clear HA1 HA2 HA3 HBL HO7 HV7 HW7 z3 y3' hl7
      generalize World.setCell _ _ _ = w8 at *
      go_wp2
      go_roundg (m - (k + 1))
      case measure => have := HG.out; omega
      case rel => exact ⟨k + 1, _, _, by go_num, by omega, Lib.hid rfl, HBG, HG1, HG2, HG3, HOG, HVG, by rw [HTCE.out]; exact HC7, HWG⟩
    · obtain rfl : k = m := by omega
      have hall : ls.take k = ls := List.take_of_length_le (by have := HN.out; omega)
      rw [hall] at HC
      obtain ⟨Ab, cb, rfl, hnb2⟩ := own_slice HV.out
      have w0 := (H3.out.cell 0).trans rfl
      have r0 := (H2.out.cell 0).trans rfl
      have s0 := H2.out.frozen 0
      have w1 := (H3.out.cell 1).trans rfl
      have r1 := (H2.out.cell 1).trans rfl
      have s1 := H2.out.frozen 1
      have w2 := (H3.out.cell 2).trans rfl
      have r2 := (H2.out.cell 2).trans rfl
      have s2 := H2.out.frozen 2
      have w3 := (H3.out.cell 3).trans rfl
      have r3 := (H2.out.cell 3).trans rfl
      have s3 := H2.out.frozen 3
      have hl2 := H2.out.lt
      have D1 := H2.out.set_ 0 (.string yp)
      have D2 := D1.set_ 1 (.slice yA yn yc)
      have D3 := D2.set_ 2 (.int .i64 yo)
      have D4 := D3.set_ 3 (.slice Ab k cb)
      have set4 : ∀ (e : TypeId) (size m : Nat) (v : Value) (xs : List Value), e ≠ 45 → wr.ownsRow R e size v m xs → ((((wr.setCell ⟨R + 1, 0, none⟩ (.string yp)).setCell ⟨R + 1, 1, none⟩ (.slice yA yn yc)).setCell ⟨R + 1, 2, none⟩ (.int .i64 yo)).setCell ⟨R + 1, 3, none⟩ (.slice Ab k cb)).ownsRow R e size v m xs :=
        fun e size m v xs hne h => own_setCell_blk (own_setCell_blk (own_setCell_blk (own_setCell_blk h H2.out (Ne.symm hne) 0 _) D1 (Ne.symm hne) 1 _) D2 (Ne.symm hne) 2 _) D3 (Ne.symm hne) 3 _
      have E1 : Cl.own ((((wr.setCell ⟨R + 1, 0, none⟩ (.string yp)).setCell ⟨R + 1, 1, none⟩ (.slice yA yn yc)).setCell ⟨R + 1, 2, none⟩ (.int .i64 yo)).setCell ⟨R + 1, 3, none⟩ (.slice Ab k cb)) R ⟨⟨yp, yA, yn, yc, yo, yes⟩, Ab, k, cb, acc⟩ :=
        ⟨set4 _ _ _ _ _ (by decide) HO.out, set4 _ _ _ _ _ (by decide) HV.out, fun l hl => set4 _ _ _ _ _ (by decide) (HW.out l hl)⟩
      have E4 := (((HB.out.setCell (p := ⟨R + 1, 0, none⟩) (by simp) (.string yp)).setCell (p := ⟨R + 1, 1, none⟩) (by simp) (.slice yA yn yc)).setCell (p := ⟨R + 1, 2, none⟩) (by simp) (.int .i64 yo)).setCell (p := ⟨R + 1, 3, none⟩) (by simp) (.slice Ab k cb)
      have p0 := D4.cell 0
      have p1 := D4.cell 1
      have p2 := D4.cell 2
      have p3 := D4.cell 3
      simp at p0 p1 p2 p3
      have HE1 := Lib.hid E1
      have HE4 := Lib.hid E4
      clear E1 E4 D1 D2 D3 D4 set4 HB H1 H2 H3 HO HV HW
      go_wp2
      refine bodyPost_ret (v := .agg #[.string yp, .slice yA yn yc, .int .i64 yo, .slice Ab k cb]) ?_ rfl ⟨⟨⟨yp, yA, yn, yc, yo, yes⟩, Ab, k, cb, acc⟩, rfl, ?_, ?_, ?_⟩
      · simp [results, Try.results20, go_sem, p0, p1, p2, p3]
      · show ((At.core ⟨yp, yA, yn, yc, yo, yes⟩), acc.map Li.core) = _
        rw [HGH.out, HC.out]
      · rw [HRR.out]; exact HE1.out
      · rw [HRR.out]; exact HE4.out
end Go.Proofs.Ytjcgkplphiedjaa
