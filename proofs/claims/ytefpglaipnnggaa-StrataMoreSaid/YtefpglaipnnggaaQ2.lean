/- The law of one edge more: plain, and its walk. -/
import Derived.Test.YtefpglaipnnggaaM2
import Derived.Test.YtefpglaipnnggaaL1
import Derived.Test.YtefpglaipnnggaaR2
namespace Go.Proofs.Ytefpglaipnnggaa
open Go.RowKit

section
variable {n : Nat} {es : List E} {e : E}
theorem Fits.left {x : Int} (h : Fits x (es ++ [e])) : Fits x es := ⟨h.1, h.2.1, fun y hy => h.2.2 y (List.mem_append_left _ hy)⟩
theorem Mp.left {M : Int → Int} (h : Mp n (es ++ [e]) M) : Mp n es M := ⟨h.1, fun y hy => h.2 y (List.mem_append_left _ hy)⟩
theorem RN.mono {A B : Int → Int → Prop} (h : ∀ u v, A u v → B u v) : ∀ {k : Nat} {u v : Int}, RN A k u v → RN B k u v
  | 0, _, _, k => k
  | _ + 1, _, _, ⟨x, h1, h2⟩ => ⟨x, h _ _ h1, RN.mono h h2⟩
theorem Reach.mono {A B : Int → Int → Prop} (h : ∀ u v, A u v → B u v) {u v : Int} (k : Reach A u v) : Reach B u v := by
  obtain ⟨k, hk⟩ := k
  exact ⟨k, hk.mono h⟩
theorem Eg.left {u v : Int} (h : Eg es u v) : Eg (es ++ [e]) u v := by
  obtain ⟨y, hy, h1, h2⟩ := h
  exact ⟨y, List.mem_append_left _ hy, h1, h2⟩
theorem NoBad.left (h : NoBad (es ++ [e])) : NoBad es := fun y hy hn hs =>
  h y (List.mem_append_left _ hy) hn ⟨hs.1.mono fun _ _ => Eg.left, hs.2.mono fun _ _ => Eg.left⟩
theorem Mp.holds {l : List Int} (hf : Fits n es) (hl : l.length = n) (h : Mp n es (lv l)) : HoldsP n es l := by
  refine ⟨hf, by rw [hl], fun x hx => ?_, fun e he => ?_⟩
  · obtain ⟨k, hk, rfl⟩ := List.mem_iff_getElem.1 hx
    rw [← lv_get hk]
    exact h.1 k ⟨by omega, by omega⟩
  · have h1 := h.2 e he
    unfold stp at h1
    unfold okL
    cases hn : e.neg
    · rw [hn] at h1; simp at h1; exact ⟨by omega, fun h => by cases h⟩
    · rw [hn] at h1; simp at h1; exact ⟨by omega, fun _ => by omega⟩
theorem LeastL.le {l l' : List Int} (h : LeastL n es l) (h' : LeastL n (es ++ [e]) l') (i : Nat) (hi : i < n) : lv l i ≤ lv l' i :=
  h.2.2 _ h'.2.1.left i ⟨by omega, by omega⟩
theorem Levs.split {l : List Int} {code : Int} (hf : Fits n es) (h : Levs n es l code) : (LeastL n es l ∧ code = 0) ∨ (¬ NoBad es ∧ l = [] ∧ code = 40) := by
  rcases h with ⟨n', h1, _, h3, h4⟩ | ⟨_, _, _, h3, h4, h5⟩ | ⟨h1, _, _⟩
  · have : n = n' := by omega
    subst this; exact .inl ⟨h3, h4⟩
  · exact .inr ⟨h3, h4, h5⟩
  · exact absurd hf h1
end

theorem addr_add (g j : Nat) : (⟨g, 0, none⟩ : Addr).add j = ⟨g, j, none⟩ := by unfold Addr.add; split <;> simp_all

set_option maxRecDepth 20000 in
set_option maxHeartbeats 4000000 in
theorem StrataMore_walk (x : Int) (A : Option Addr) (m c : Nat) (es : List E) (y : E) (w : World) (hr : Rd w w.heap.size 4 A m (ecells es)) (hreach : m * 32 ≤ 140737488351232) :
    Calls Try.prog 14 #[.int .i64 x, .slice A m c, .agg #[.int .i64 y.f, .int .i64 y.t, .bool y.neg, .int .i64 y.r]] w fun e w' => e = .returned (.bool true) ∧ Below w.heap.size w w' := by
  obtain ⟨i0, hi, hz0, hz1, hz2⟩ := info_parts Try.info43
  have HR := Lib.hid hr
  have HM : Hid (m * 32 ≤ 140737488355328) := Lib.hid (Nat.le_trans hreach (by decide))
  have HM1 : Hid ((m + 1) * 32 ≤ 140737488355328) := Lib.hid (by omega)
  have hlen : es.length = m := by have := hr.1; rw [ecells_length] at this; omega
  have HL := Lib.hid hlen
  have hmb := hr.2.1
  clear hr hlen
  go_enter Try.func14, Try.ntmps14
  go_upto_region 1 with (fail)
  have HB := Lib.hid (Below.refl w.heap.size w |>.alloc (Nat.le_refl _) (.cells y.cells.toArray 43))
  have HX := Lib.hid (Blk.new w 43 y.cells)
  have hsz0 : w.heap.size + 1 = (w.alloc (.cells y.cells.toArray 43)).heap.size := by simp
  simp only [E.cells] at HB HX hsz0
  have HR1 := Lib.hid (HR.out.below HB.out)
  generalize World.alloc _ _ = w1 at *
  go_cut [7] (fun v7 wx => wx.ownsRow w.heap.size 43 4 v7 (m + 1) (ecells (es ++ [y])) ∧ Below w.heap.size w wx)
  case first =>
    have HR2 : Hid (Rd w1.drew w1.drew.heap.size 4 A m (ecells es)) := Lib.hid ((HR1.out.up (Below.refl w.heap.size w1).drew (show w.heap.size ≤ w1.drew.heap.size by show w.heap.size ≤ w1.heap.size; omega)))
    have HB2 : Hid (Below w.heap.size w w1.drew) := Lib.hid HB.out.drew
    have HX2 := Lib.hid HX.out.drew
    have hsz2 : w.heap.size + 1 = w1.drew.heap.size := hsz0
    generalize hdw : w1.drew = w2 at *
    clear HX HB HR1
    obtain ⟨C, hCi⟩ : ∃ C : World → Prop, ∀ w', C w' ↔ Blk w' w.heap.size 43 [.int .i64 y.f, .int .i64 y.t, .bool y.neg, .int .i64 y.r] := ⟨_, fun _ => Iff.rfl⟩
    have hC : C w2 := (hCi _).2 HX2.out
    have k0 : ∀ p : WC C, p.w.cell? ⟨w.heap.size, 0, none⟩ = some (.int .i64 y.f) := fun p => ((hCi _).1 p.h).cell 0
    have k1 : ∀ p : WC C, p.w.cell? ⟨w.heap.size, 1, none⟩ = some (.int .i64 y.t) := fun p => ((hCi _).1 p.h).cell 1
    have k2 : ∀ p : WC C, p.w.cell? ⟨w.heap.size, 2, none⟩ = some (.bool y.neg) := fun p => ((hCi _).1 p.h).cell 2
    have k3 : ∀ p : WC C, p.w.cell? ⟨w.heap.size, 3, none⟩ = some (.int .i64 y.r) := fun p => ((hCi _).1 p.h).cell 3
    have kn : Nonempty (WC C) := ⟨⟨_, hC⟩⟩
    refine wp_region_frontN C [0, 2] 4 (fun j => decide (j < 5)) (by kernel_rfl) (fun _ _ d _ _ h => by cases d <;> exact h) (by kernel_rfl) (hdw ▸ hC) ?_
    simp only [List.map_cons, List.map_nil, List.getD_cons_zero, List.getD_cons_succ]
    repeat (go_big_quiet_step (fail))
    refine wpQuiet_nil ?_
    clear k0 k1 k2 k3 kn
    rw [hdw]
    clear hdw hsz0
    have HCi := Lib.hid hCi
    clear hCi hC
    refine wpN_two (i := 1) (j := 3) (by kernel_rfl) rfl rfl ?_ ?_
    · go_wp2_with fail
      refine (edges_any A m c es _ HR2.out HM.out).mono ?_
      rintro e w3 ⟨v3, rfl, hown3, hb3⟩
      have HX3 := Lib.hid (HX2.out.below hb3 (by omega))
      have HB3 := Lib.hid (HB2.out.trans (hb3.mono (by omega)))
      have HO3 := Lib.hid (own_le hown3 (show w.heap.size + 1 ≤ w2.heap.size by omega))
      have hsz3 : w.heap.size < w3.heap.size := by have := hb3.size; omega
      clear hown3 hb3 HX2 HB2 HR2
      go_wp2
      refine tailN_normal ((HCi.out _).2 HX3.out) ?_
      refine wpN_one (i := 3) (by kernel_rfl) rfl ?_
      go_wp2
      have HX4 := Lib.hid (HX3.out.alloc (.cells y.cells.toArray 43))
      refine tailN_normal ((HCi.out _).2 HX4.out) ?_
      refine wpN_one (i := 4) (by kernel_rfl) rfl ?_
      have hown := HO3.out
      have hm1 := HM1.out
      refine wpList_append_own _ rfl _ _ 23 rfl (w.heap.size + 1) 43 i0 _ 4 32 Try.underlying23 hi hz0 hz1 hz2 rfl (by decide) _ _ _ rfl (hown.alloc _) ⟨w3.heap.size, 0, none⟩ 1 1 y.cells rfl rfl (fun j u h => new_cells _ _ _ j u h) (E.one _) (by unfold maxLen; omega) (by omega) (by simp; omega) ?_
      intro v5 w5 hown5 hg5 _
      have HX5 := Lib.hid (HX4.out.grown hg5 (fun h => by have := (hown.lt _ h.symm).1; omega))
      have HB5 := Lib.hid ((HB3.out.alloc (by omega) (.cells y.cells.toArray 43)).grown hg5 (by simp; omega) (fun q hq => by have := (hown.lt q hq).1; omega))
      have HO5 := Lib.hid (own_le hown5 (show w.heap.size ≤ w.heap.size + 1 by omega))
      clear hown hown5 hg5
      go_wp2
      refine tailN_normal ((HCi.out _).2 HX5.out) ?_
      refine wpN_one (i := 5) (by kernel_rfl) rfl ?_
      go_wp2
      refine tailN_normal ((HCi.out _).2 HX5.out) ?_
      refine wpN_none (by kernel_rfl) ?_
      go_wp2
      go_meet
      exact ⟨by rw [ecells_append]; simpa [ecells] using HO5.out, HB5.out⟩
    · go_wp2
      have HX4 := Lib.hid (HX2.out.alloc (.cells y.cells.toArray 43))
      have HY4 := Lib.hid (Blk.new w2 43 y.cells)
      have HB4 := Lib.hid (HB2.out.alloc (by omega) (.cells y.cells.toArray 43))
      have hba := (Below.refl w2.heap.size w2).alloc (Nat.le_refl _) (.cells y.cells.toArray 43)
      have HR4 := Lib.hid (HR2.out.up hba hba.size)
      clear hba
      have hsz4 : w.heap.size + 2 = (w2.alloc (.cells y.cells.toArray 43)).heap.size := by simp; omega
      simp only [E.cells] at HX4 HY4 HB4 HR4 hsz4
      generalize World.alloc _ _ = w4 at *
      clear HX2 HB2 HR2
      refine tailN_normal ((HCi.out _).2 HX4.out) ?_
      refine wpN_one (i := 1) (by kernel_rfl) rfl ?_
      go_wp2_with fail
      refine (edges_any A m c es _ HR4.out HM.out).mono ?_
      rintro e w3 ⟨v3, rfl, hown3, hb3⟩
      have HX3 := Lib.hid (HX4.out.below hb3 (by omega))
      have HY3 := Lib.hid (HY4.out.below hb3 (by omega))
      have HB3 := Lib.hid (HB4.out.trans (hb3.mono (by omega)))
      have HO3 := Lib.hid (own_le hown3 (show w.heap.size + 1 ≤ w4.heap.size by omega))
      have hsz3 : w.heap.size < w3.heap.size := by have := hb3.size; omega
      have hsz33 : w2.heap.size < w3.heap.size := by have := hb3.size; omega
      clear hown3 hb3 HX4 HY4 HB4 HR4
      go_wp2
      refine tailN_normal ((HCi.out _).2 HX3.out) ?_
      refine wpN_one (i := 4) (by kernel_rfl) rfl ?_
      have hown := HO3.out
      have hm1 := HM1.out
      refine wpList_append_own _ rfl _ _ 23 rfl (w.heap.size + 1) 43 i0 _ 4 32 Try.underlying23 hi hz0 hz1 hz2 rfl (by decide) _ _ _ rfl hown ⟨w2.heap.size, 0, none⟩ 1 1 y.cells rfl rfl (fun j u h => (by rw [addr_add, HY3.out.cell]; exact h)) (E.one _) (by unfold maxLen; omega) (by omega) (by omega) ?_
      intro v5 w5 hown5 hg5 _
      have HX5 := Lib.hid (HX3.out.grown hg5 (fun h => by have := (hown.lt _ h.symm).1; omega))
      have HB5 := Lib.hid (HB3.out.grown hg5 (by omega) (fun q hq => by have := (hown.lt q hq).1; omega))
      have HO5 := Lib.hid (own_le hown5 (show w.heap.size ≤ w.heap.size + 1 by omega))
      clear hown hown5 hg5
      go_wp2
      refine tailN_normal ((HCi.out _).2 HX5.out) ?_
      refine wpN_one (i := 5) (by kernel_rfl) rfl ?_
      go_wp2
      refine tailN_normal ((HCi.out _).2 HX5.out) ?_
      refine wpN_none (by kernel_rfl) ?_
      go_wp2
      go_meet
      exact ⟨by rw [ecells_append]; simpa [ecells] using HO5.out, HB5.out⟩
  case rest =>
    obtain ⟨hownL, hbL⟩ := hcut
    obtain ⟨AM, cM, rfl, hrdM⟩ := own_slice hownL
    have HRM := Lib.hid hrdM
    have HB1 := Lib.hid hbL
    clear hownL hbL hrdM HX HB hsz0 HR1
    have hm1b : m + 1 ≤ 9223372036854775807 := by have := HM1.out; omega
    generalize hls : es ++ [y] = ls at *
    have HLS := Lib.hid hls
    clear hls
    generalize hm1 : m + 1 = m1 at *
    clear hm1
    go_wp2_with fail
    refine (lawFit_any x AM m1 cM ls _ HRM.out).mono ?_
    rintro e w2 ⟨rfl, rfl⟩
    by_cases hf : Fits x ls
    · obtain ⟨n, rfl⟩ : ∃ n : Nat, x = n := ⟨x.toNat, by have := hf.1; omega⟩
      have hfit := (fitB_iff n ls).2 hf
      rw [hfit]
      have HF := Lib.hid hf
      have HFE : Hid (Fits n es) := Lib.hid (by have := HLS.out; subst this; exact hf.left)
      have hn : n ≤ 128 := by have := hf.2.1; omega
      clear hf hfit
      go_wp2_with fail
      refine (edges_sl A m c es _ (HR.out.up HB1.out HB1.out.size) HM.out).mono ?_
      rintro e w3 ⟨A3, c3, rfl, _, hrd3, hb3⟩
      have HB3 := Lib.hid (HB1.out.trans (hb3.mono HB1.out.size))
      have HRM := Lib.hid (HRM.out.up hb3 hb3.size)
      have HR3 := Lib.hid hrd3
      clear hrd3 hb3 HB1
      go_wp2_with fail
      refine (progLevels_all A3 m c3 n es _ HR3.out HM.out).mono ?_
      rintro e w4 ⟨vU, l, codeU, rfl, hb4, hL4, hC4⟩
      have HCU := Lib.hid hC4
      obtain ⟨AU, cU, rfl, hRU⟩ := own_slice hL4
      have HRU := Lib.hid hRU
      have HB4 := Lib.hid (HB3.out.trans (hb4.mono HB3.out.size))
      have HRM := Lib.hid (HRM.out.up hb4 hb4.size)
      clear hb4 hL4 hC4 hRU HB3 HR3
      go_wp2_with fail
      refine (edges_sl AM m1 cM ls _ HRM.out HM1.out).mono ?_
      rintro e w5 ⟨A5, c5, rfl, _, hrd5, hb5⟩
      have HB5 := Lib.hid (HB4.out.trans (hb5.mono HB4.out.size))
      have HRM := Lib.hid (HRM.out.up hb5 hb5.size)
      have HRU := Lib.hid (HRU.out.up hb5 hb5.size)
      have HR5 := Lib.hid hrd5
      clear hrd5 hb5 HB4
      go_wp2_with fail
      refine (progLevels_all A5 m1 c5 n ls _ HR5.out HM1.out).mono ?_
      rintro e w6 ⟨vV, l', codeV, rfl, hb6, hL6, hC6⟩
      have HCV := Lib.hid hC6
      obtain ⟨AV, cV, rfl, hRV⟩ := own_slice hL6
      have HRV := Lib.hid hRV
      have HB6 := Lib.hid (HB5.out.trans (hb6.mono HB5.out.size))
      have HRM := Lib.hid (HRM.out.up hb6 hb6.size)
      have HRU := Lib.hid (HRU.out.up hb6 hb6.size)
      clear hb6 hL6 hC6 hRV HB5 HR5
      rcases HCU.out.split HFE.out with ⟨hl, hc0⟩ | ⟨hnb, hl0, hc0⟩
      · subst hc0
        have HLU := Lib.hid hl
        have hll := hl.1
        have HRU : Hid (Rd w6 w6.heap.size 1 AU n (icells l)) := Lib.hid (by have := HRU.out; rw [hll] at this; exact this)
        rw [hll]
        clear hll hl HCU
        have hnn : ((n : Int) != (n : Int)) = false := by simp
        rcases HCV.out.split HF.out with ⟨hl, hc0⟩ | ⟨hnb, hl0, hc0⟩
        · subst hc0
          have HLV := Lib.hid hl
          have hll := hl.1
          have HRV : Hid (Rd w6 w6.heap.size 1 AV n (icells l')) := Lib.hid (by have := HRV.out; rw [hll] at this; exact this)
          rw [hll]
          clear hll hl HCV
          go_wp2_with fail
          refine (edges_sl A m c es _ (HR.out.up HB6.out HB6.out.size) HM.out).mono ?_
          rintro e w7 ⟨A7, c7, rfl, _, hrd7, hb7⟩
          have HB7 := Lib.hid (HB6.out.trans (hb7.mono HB6.out.size))
          have HRU := Lib.hid (HRU.out.up hb7 hb7.size)
          have HRV := Lib.hid (HRV.out.up hb7 hb7.size)
          have HR7 := Lib.hid hrd7
          clear hrd7 hb7 HB6
          go_wp2_with fail
          refine (ints_any AV n cV l' _ HRV.out (by omega)).mono ?_
          rintro e wb ⟨vI, rfl, hownb, hbb⟩
          obtain ⟨AI, cI, rfl, hRI⟩ := own_slice hownb
          have HBb := Lib.hid (HB7.out.trans (hbb.mono HB7.out.size))
          have HRb := Lib.hid (HR7.out.up hbb hbb.size)
          have HRU := Lib.hid (HRU.out.up hbb hbb.size)
          have HRV := Lib.hid (HRV.out.up hbb hbb.size)
          have HRI := Lib.hid hRI
          clear hownb hbb hRI HB7 HR7
          have hH := (holdsB_iff n es l').2 (Mp.holds HFE.out HLV.out.1 (by have := HLV.out.2.1; have e := HLS.out; subst e; exact this.left))
          go_wp2_with fail
          refine (strataHolds_any n A7 AI m c7 n cI es l' _ HRb.out HRI.out).mono ?_
          rintro e wc ⟨rfl, hbc⟩
          rw [hH]
          have HBc := Lib.hid (HBb.out.trans (hbc.mono HBb.out.size))
          have HRU := Lib.hid (HRU.out.up hbc hbc.size)
          have HRV := Lib.hid (HRV.out.up hbc hbc.size)
          clear hbc hH HBb HRb HRI
          go_wp2
          clear hnn
          go_loopg [12] n (fun gk v wr => ∃ i : Nat, v = .int .i64 i ∧ i ≤ n ∧ gk = n - i ∧ Hid (Below w.heap.size w wr) ∧ Hid (Rd wr wr.heap.size 1 AU n (icells l)) ∧ Hid (Rd wr wr.heap.size 1 AV n (icells l')))
          case atStart => exact ⟨0, rfl, Nat.zero_le _, by omega, HBc, HRU, HRV⟩
          case round =>
            clear HBc HRU HRV
            obtain ⟨i, rfl, hin, hgi, HB, HRU, HRV⟩ := hrel
            have HG := Lib.hid hgi
            clear hgi
            by_cases hlt : i < n
            · have hle := LeastL.le (e := y) HLU.out (by have h := HLV.out; have e := HLS.out; subst e; exact h) i hlt
              obtain ⟨bu, ou, hju, hAu, hbu, t0⟩ := HRU.out.int i hlt
              obtain ⟨bv, ov, hjv, hAv, hbv, t1⟩ := HRV.out.int i hlt
              subst hAu hAv
              rw [← lv_get hju] at t0
              rw [← lv_get hjv] at t1
              generalize lv l i = a at *
              generalize lv l' i = b at *
              have hdf : decide (b < a) = false := by simp; omega
              go_upto_region 17 with (fail)
              go_quiet (fail)
              go_wp2
              go_roundg (n - (i + 1))
              case measure => have := HG.out; omega
              case rel => exact ⟨i + 1, by go_num, by omega, rfl, Lib.hid (below_drewN HB.out _), Lib.hid (HRU.out.up (below_drewN (Below.refl wr.heap.size wr) _) (below_drewN (Below.refl wr.heap.size wr) _).size), Lib.hid (HRV.out.up (below_drewN (Below.refl wr.heap.size wr) _) (below_drewN (Below.refl wr.heap.size wr) _).size)⟩
            · go_wp2
              go_ret
              exact ⟨rfl, HB.out⟩
        · subst hc0 hl0
          clear HCV HRV
          go_wp2_with fail
          refine (edges_sl AM m1 cM ls _ HRM.out HM1.out).mono ?_
          rintro e w7 ⟨A7, c7, rfl, _, hrd7, hb7⟩
          have HB7 := Lib.hid (HB6.out.trans (hb7.mono HB6.out.size))
          have HRM := Lib.hid (HRM.out.up hb7 hb7.size)
          have HR7 := Lib.hid hrd7
          clear hrd7 hb7 HB6
          go_wp2_with fail
          refine (firstCycle_any n AM m1 cM ls _ HRM.out HM1.out).mono ?_
          rintro e w8 ⟨vR, r, codeR, rfl, hb8, hL8, hC8⟩
          have hcy := hC8.cyc HF.out hnb
          obtain ⟨AR, cR, rfl, hRR⟩ := own_slice hL8
          have HRR := Lib.hid hRR
          have HB8 := Lib.hid (HB7.out.trans (hb8.mono HB7.out.size))
          have HR8 := Lib.hid (HR7.out.up hb8 hb8.size)
          clear hb8 hL8 hC8 hRR HB7 HR7
          go_wp2_with fail
          refine (strataCyclic_any n A7 AR m1 c7 r.length cR ls r _ HR8.out HRR.out).mono ?_
          rintro e wc ⟨rfl, hbc⟩
          rw [hcy]
          have HBc := Lib.hid (HB8.out.trans (hbc.mono HB8.out.size))
          clear hbc
          go_wp2
          go_ret
          exact ⟨rfl, HBc.out⟩
      · subst hc0 hl0
        have hV : codeV = 40 := by
          rcases HCV.out.split HF.out with ⟨hl, _⟩ | ⟨_, _, h⟩
          · have e := HLS.out
            subst e
            exact absurd hl.2.1.left.noBad hnb
          · exact h
        subst hV
        clear HCU HCV
        go_wp2_with fail
        refine (edges_sl A m c es _ (HR.out.up HB6.out HB6.out.size) HM.out).mono ?_
        rintro e w7 ⟨A7, c7, rfl, _, hrd7, hb7⟩
        have HB7 := Lib.hid (HB6.out.trans (hb7.mono HB6.out.size))
        have HR7 := Lib.hid hrd7
        clear hrd7 hb7 HB6
        go_wp2_with fail
        refine (firstCycle_any n A m c es _ (HR.out.up HB7.out HB7.out.size) HM.out).mono ?_
        rintro e w8 ⟨vR, r, codeR, rfl, hb8, hL8, hC8⟩
        have hcy := hC8.cyc HFE.out hnb
        obtain ⟨AR, cR, rfl, hRR⟩ := own_slice hL8
        have HRR := Lib.hid hRR
        have HB8 := Lib.hid (HB7.out.trans (hb8.mono HB7.out.size))
        have HR8 := Lib.hid (HR7.out.up hb8 hb8.size)
        clear hb8 hL8 hC8 hRR HB7 HR7
        go_wp2_with fail
        refine (strataCyclic_any n A7 AR m c7 r.length cR es r _ HR8.out HRR.out).mono ?_
        rintro e wc ⟨rfl, hbc⟩
        rw [hcy]
        have HBc := Lib.hid (HB8.out.trans (hbc.mono HB8.out.size))
        clear hbc
        go_wp2
        go_ret
        exact ⟨rfl, HBc.out⟩
    · have hfit := fitB_false hf
      rw [hfit]
      go_wp2
      go_ret
      exact ⟨rfl, HB1.out⟩
end Go.Proofs.Ytefpglaipnnggaa
