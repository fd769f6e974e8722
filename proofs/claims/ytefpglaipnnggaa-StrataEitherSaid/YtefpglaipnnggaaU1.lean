/- Levels or a circle, never both: the law's walk. (Printed by wip/genU1.py.) -/
import Derived.Test.YtefpglaipnnggaaM2
import Derived.Test.YtefpglaipnnggaaR2
namespace Go.Proofs.Ytefpglaipnnggaa
open Go.RowKit

theorem wpN_frontW {P : Program} {Q : Exit → Act → World → Prop} (C : World → Prop) {a : Act} {w : World} {l : List Oper} {nd : Nat → Bool} (F : List Nat) (k : Nat) (listed : Array Bool)
    (hQ : ∀ c a d v w, Q (.panic c) (Act.put a d v) w → Q (.panic c) a w)
    (hB : (Region.noSelect l.toArray && frontB .any l.toArray nd F listed && F.all (· < l.length)) = true)
    (hC : C w)
    (h : wpQuiet P l.toArray (fun w' => ∃ p : WC C, w' = p.w) (fun a' => wpN P .any l.toArray Q C nd k (listAll F listed) a' w) (F.map fun i => l.getD i default) a) : wpN P .any l.toArray Q C nd (F.length + k) listed a w := by
  have e : (fun w' => ∃ p : WC C, w' = p.w) = C := by
    funext w'
    exact propext ⟨fun ⟨p, hp⟩ => hp ▸ p.h, fun h => ⟨⟨w', h⟩, rfl⟩⟩
  rw [e] at h
  simp only [Bool.and_eq_true, List.all_eq_true, decide_eq_true_eq] at hB
  obtain ⟨⟨hs, hf⟩, hF⟩ := hB
  have pick : ∀ (L : List Nat), (∀ i ∈ L, i < l.length) → L.map (fun i => some (l.getD i default)) = L.map (fun i => l.toArray[i]?) := by
    intro L hL
    refine List.map_congr_left fun i hi => ?_
    have := hL i hi
    simp [List.getD, this]
  exact wpN_front (P := P) (Q := Q) (md := .any) (C := C) hs hQ k F (F.map fun i => l.getD i default) listed a w (by rw [List.map_map]; exact pick F hF) hf hC h

theorem HoldsP.map {n : Nat} {es : List E} {ls : List Int} (h : HoldsP n es ls) : Mp n es (lv ls) := by
  refine ⟨fun v hv => ?_, fun e he => ?_⟩
  · have h1 := hv.1
    have h2 := hv.2
    have h3 := h.2.1
    have h4 : v.toNat < ls.length := by omega
    have h5 : lv ls v = ls[v.toNat] := by simp [lv, h4]
    rw [h5]; exact h.2.2.1 _ (List.getElem_mem h4)
  · have h1 := h.2.2.2 e he
    unfold okL at h1
    unfold stp
    cases hn : e.neg with
    | false => simp; exact h1.1
    | true =>
      have := h1.2 hn
      have := h1.1
      simp; omega
theorem HoldsP.noBad {n : Nat} {es : List E} {ls : List Int} (h : HoldsP n es ls) : NoBad es := h.map.noBad

/-- The edge at a place of a walk, round and round. -/
def wEdge (es : List E) (wk : List Int) (k : Nat) : E := ev es (lv wk ((k % wk.length : Nat) : Int))
theorem wEdge_mem {n : Int} {es : List E} {wk : List Int} (h : CycP n es wk) (k : Nat) : wEdge es wk k ∈ es := by
  have h0 : 0 < wk.length := List.length_pos_iff.2 h.2.1
  have h1 : k % wk.length < wk.length := Nat.mod_lt _ h0
  unfold wEdge
  rw [lv_get h1]
  obtain ⟨h2, h3⟩ := h.2.2.1 _ (List.getElem_mem h1)
  generalize wk[k % wk.length] = i at *
  have h4 : i.toNat < es.length := by omega
  have h5 : ev es i = es[i.toNat] := by simp [ev, h4]
  rw [h5]; exact List.getElem_mem h4
theorem wEdge_step {n : Int} {es : List E} {wk : List Int} (h : CycP n es wk) (k : Nat) : (wEdge es wk k).t = (wEdge es wk (k + 1)).f := by
  have h0 : 0 < wk.length := List.length_pos_iff.2 h.2.1
  have h1 : k % wk.length < wk.length := Nat.mod_lt _ h0
  have h2 := h.2.2.2.1 _ h1
  unfold stepOk nextOf at h2
  unfold wEdge
  rw [h2, Nat.mod_add_mod]
theorem wEdge_reach {n : Int} {es : List E} {wk : List Int} (h : CycP n es wk) (k : Nat) : ∀ j : Nat, Reach (Eg es) (wEdge es wk k).t (wEdge es wk (k + 1 + j)).f
  | 0 => by rw [wEdge_step h]; exact Reach.refl _
  | j + 1 => by
    have h1 := wEdge_reach h k j
    have h2 : Eg es (wEdge es wk (k + 1 + j)).f (wEdge es wk (k + 1 + j)).t := ⟨_, wEdge_mem h _, rfl, rfl⟩
    rw [wEdge_step h] at h2
    exact h1.trans (Reach.step h2)
theorem CycP.bad {n : Int} {es : List E} {wk : List Int} (h : CycP n es wk) : ¬ NoBad es := by
  intro hnb
  have h0 : 0 < wk.length := List.length_pos_iff.2 h.2.1
  obtain ⟨i, hi, hneg⟩ := List.any_eq_true.1 h.2.2.2.2
  obtain ⟨k, hk, rfl⟩ := List.mem_iff_getElem.1 hi
  have e : wEdge es wk k = ev es wk[k] := by unfold wEdge; rw [Nat.mod_eq_of_lt hk, lv_get hk]
  have hm := wEdge_mem h k
  have hr := wEdge_reach h k (wk.length - 1)
  have hw : wEdge es wk (k + 1 + (wk.length - 1)) = wEdge es wk k := by
    unfold wEdge
    rw [show k + 1 + (wk.length - 1) = k + wk.length by omega, Nat.add_mod_right]
  rw [hw] at hr
  refine hnb _ hm (by rw [e]; exact hneg) ⟨Reach.step ⟨_, hm, rfl, rfl⟩, hr⟩
theorem cycB_noBad {n : Int} {es : List E} {wk : List Int} (h : NoBad es) : cycB n es wk = false := cycB_false fun hc => hc.bad h
theorem holdsB_bad {n : Nat} {es : List E} {ls : List Int} (h : ¬ NoBad es) : holdsB n es ls = false := holdsB_false fun hc => h hc.noBad

theorem Levs.or {n : Nat} {es : List E} {l r : List Int} {cl cr : Int} (hf : Fits n es) (h : Levs n es l cl) (hr : Ring n es r cr) (ls wk : List Int) :
    (holdsB n es l = true ∧ cycB n es r = false ∧ cycB n es wk = false) ∨ (holdsB n es l = false ∧ cycB n es r = true ∧ holdsB n es ls = false) := by
  by_cases hnb : NoBad es
  · refine .inl ⟨?_, cycB_noBad hnb, cycB_noBad hnb⟩
    rcases h with ⟨n', h1, _, h3, h4⟩ | ⟨_, _, _, h3, _⟩ | ⟨h1, _, _⟩
    · have : n = n' := by omega
      subst this
      exact (holdsB_iff n es l).2 (h3.holds hf)
    · exact absurd hnb h3
    · exact absurd hf h1
  · exact .inr ⟨holdsB_bad hnb, hr.cyc hf hnb, holdsB_bad hnb⟩

set_option maxRecDepth 20000 in
set_option maxHeartbeats 4000000 in
theorem StrataEither_walk (x : Int) (A AL AW : Option Addr) (m c kl cl kw cw : Nat) (es : List E) (ls wk : List Int) (w : World) (hr : Rd w w.heap.size 4 A m (ecells es)) (hrl : Rd w w.heap.size 1 AL kl (icells ls)) (hrw : Rd w w.heap.size 1 AW kw (icells wk))
    (hreach : m * 32 ≤ 140737488351232) (hl8 : kl * 8 ≤ 140737488351232) (hw8 : kw * 8 ≤ 140737488351232) :
    Calls Try.prog 13 #[.agg #[.int .i64 x, .slice A m c, .slice AL kl cl, .slice AW kw cw]] w fun e w' => e = .returned (.bool true) ∧ Below w.heap.size w w' := by
  have HR := Lib.hid hr
  have HRL := Lib.hid hrl
  have HRW := Lib.hid hrw
  have HM : Hid (m * 32 ≤ 140737488355328) := Lib.hid (Nat.le_trans hreach (by decide))
  have HM8 := Lib.hid hl8
  have HW8 := Lib.hid hw8
  have hmb := hr.2.1
  clear hr hrl hrw hl8 hw8 hreach
  go_enter Try.func13, Try.ntmps13
  go_upto_region 1 with (fail)
  have HBa := Lib.hid (Below.refl w.heap.size w |>.alloc (Nat.le_refl _) (.cells #[.int .i64 x, .slice A m c, .slice AL kl cl, .slice AW kw cw] 62))
  have HXa := Lib.hid (Blk.new w 62 [.int .i64 x, .slice A m c, .slice AL kl cl, .slice AW kw cw])
  have hsa : w.heap.size < (w.alloc (.cells #[.int .i64 x, .slice A m c, .slice AL kl cl, .slice AW kw cw] 62)).heap.size := by simp
  generalize World.alloc _ _ = a at *
  generalize hQ : w.heap.size = Q at *
  have f0 := HXa.out.cell 0
  have f1 := HXa.out.cell 1
  simp only [List.getElem?_cons_zero, List.getElem?_cons_succ] at f0 f1
  go_wp2_with fail
  refine (lawFit_any x A m c es _ (HR.out.up HBa.out (Nat.le_of_lt hsa))).mono ?_
  clear f0 f1
  rintro e b ⟨rfl, rfl⟩
  by_cases hf : Fits x es
  · obtain ⟨n, rfl⟩ : ∃ n : Nat, x = n := ⟨x.toNat, by have := hf.1; omega⟩
    have hfit := (fitB_iff n es).2 hf
    rw [hfit]
    have HF := Lib.hid hf
    clear hf hfit
    go_upto_region 3 with (fail)
    have HBb0 : Hid (Below Q w a.drew) := Lib.hid HBa.out.drew
    have HXb0 : Hid (Blk a.drew Q 62 [.int .i64 n, .slice A m c, .slice AL kl cl, .slice AW kw cw]) := Lib.hid HXa.out.drew
    have hsb0 : Q < a.drew.heap.size := hsa
    clear HBa HXa hsa
    generalize hdw : a.drew = b0 at *
    obtain ⟨C, hCi⟩ : ∃ C : World → Prop, ∀ w', C w' ↔ Blk w' Q 62 [.int .i64 n, .slice A m c, .slice AL kl cl, .slice AW kw cw] := ⟨_, fun _ => Iff.rfl⟩
    have hC : C b0 := (hCi _).2 HXb0.out
    have k0 : ∀ p : WC C, p.w.cell? ⟨Q, 0, none⟩ = some (.int .i64 n) := fun p => ((hCi _).1 p.h).cell 0
    have k1 : ∀ p : WC C, p.w.cell? ⟨Q, 1, none⟩ = some (.slice A m c) := fun p => ((hCi _).1 p.h).cell 1
    have kn : Nonempty (WC C) := ⟨⟨_, hC⟩⟩
    refine wp_region_frontN C [0, 1, 2, 3] 7 (fun _ => true) (by kernel_rfl) (fun _ _ d _ _ h => by cases d <;> exact h) (by kernel_rfl) (hdw ▸ hC) ?_
    simp only [List.map_cons, List.map_nil, List.getD_cons_zero, List.getD_cons_succ]
    repeat (go_big_quiet_step (fail))
    refine wpQuiet_nil ?_
    clear k0 k1 kn
    rw [hdw]
    clear hdw
    have HCi := Lib.hid hCi
    clear hCi hC
    refine wpN_one (i := 4) (by kernel_rfl) rfl ?_
    go_wp2_with fail
    refine (edges_sl A m c es _ (HR.out.up HBb0.out (Nat.le_of_lt hsb0)) HM.out).mono ?_
    rintro e b1 ⟨A1, c1, rfl, _, hrd, hb⟩
    have HXb1 := Lib.hid (HXb0.out.below hb hsb0)
    have HBb1 := Lib.hid (HBb0.out.trans (hb.mono (Nat.le_of_lt hsb0)))
    have hsb1 : Q < b1.heap.size := Nat.lt_of_lt_of_le hsb0 hb.size
    have HEb1 := Lib.hid hrd
    clear hb HXb0 HBb0 hsb0 hrd
    go_wp2
    refine tailN_normal ((HCi.out _).2 HXb1.out) ?_
    refine wpN_one (i := 5) (by kernel_rfl) rfl ?_
    go_wp2_with fail
    refine (progLevels_all A1 m c1 n es _ HEb1.out HM.out).mono ?_
    rintro e b2 ⟨vL, l, codeL, rfl, hb, hL, hC⟩
    have HXb2 := Lib.hid (HXb1.out.below hb hsb1)
    have HBb2 := Lib.hid (HBb1.out.trans (hb.mono (Nat.le_of_lt hsb1)))
    have hsb2 : Q < b2.heap.size := Nat.lt_of_lt_of_le hsb1 hb.size
    have HCL := Lib.hid hC
    obtain ⟨AU, cU, rfl, hRU⟩ := own_slice hL
    have HUb2 := Lib.hid hRU
    have hl128 := hC.small
    clear hb HXb1 HBb1 hsb1 hC hL hRU HEb1
    go_wp2
    refine tailN_normal ((HCi.out _).2 HXb2.out) ?_
    refine wpN_frontW C [6, 7, 8, 9, 10] 0 _ (fun _ _ d _ _ h => by cases d <;> exact h) (by kernel_rfl) ((HCi.out _).2 HXb2.out) ?_
    simp only [List.map_cons, List.map_nil, List.getD_cons_zero, List.getD_cons_succ]
    have kn : Nonempty (WC C) := ⟨⟨_, (HCi.out _).2 HXb2.out⟩⟩
    repeat (go_big_quiet_step (fail))
    refine wpQuiet_nil ?_
    clear kn
    refine wpN_none (by kernel_rfl) ?_
    clear HCi
    go_upto_region 4 with (fail)
    have HBb3 : Hid (Below Q w b2.drew) := Lib.hid HBb2.out.drew
    have HXb3 : Hid (Blk b2.drew Q 62 [.int .i64 n, .slice A m c, .slice AL kl cl, .slice AW kw cw]) := Lib.hid HXb2.out.drew
    have hsb3 : Q < b2.drew.heap.size := hsb2
    have HUb3 : Hid (Rd b2.drew b2.drew.heap.size 1 AU l.length (icells l)) := Lib.hid HUb2.out
    clear HBb2 HXb2 hsb2 HUb2
    generalize hdw : b2.drew = b3 at *
    obtain ⟨C, hCi⟩ : ∃ C : World → Prop, ∀ w', C w' ↔ Blk w' Q 62 [.int .i64 n, .slice A m c, .slice AL kl cl, .slice AW kw cw] := ⟨_, fun _ => Iff.rfl⟩
    have hC : C b3 := (hCi _).2 HXb3.out
    have k0 : ∀ p : WC C, p.w.cell? ⟨Q, 0, none⟩ = some (.int .i64 n) := fun p => ((hCi _).1 p.h).cell 0
    have k1 : ∀ p : WC C, p.w.cell? ⟨Q, 1, none⟩ = some (.slice A m c) := fun p => ((hCi _).1 p.h).cell 1
    have kn : Nonempty (WC C) := ⟨⟨_, hC⟩⟩
    refine wp_region_frontN C [0, 1, 2, 3] 7 (fun _ => true) (by kernel_rfl) (fun _ _ d _ _ h => by cases d <;> exact h) (by kernel_rfl) (hdw ▸ hC) ?_
    simp only [List.map_cons, List.map_nil, List.getD_cons_zero, List.getD_cons_succ]
    repeat (go_big_quiet_step (fail))
    refine wpQuiet_nil ?_
    clear k0 k1 kn
    rw [hdw]
    clear hdw
    have HCi := Lib.hid hCi
    clear hCi hC
    refine wpN_one (i := 4) (by kernel_rfl) rfl ?_
    go_wp2_with fail
    refine (edges_sl A m c es _ (HR.out.up HBb3.out (Nat.le_of_lt hsb3)) HM.out).mono ?_
    rintro e b4 ⟨A4, c4, rfl, _, hrd, hb⟩
    have HXb4 := Lib.hid (HXb3.out.below hb hsb3)
    have HBb4 := Lib.hid (HBb3.out.trans (hb.mono (Nat.le_of_lt hsb3)))
    have hsb4 : Q < b4.heap.size := Nat.lt_of_lt_of_le hsb3 hb.size
    have HUb4 := Lib.hid (HUb3.out.up hb hb.size)
    have HEb4 := Lib.hid hrd
    clear hb HXb3 HBb3 hsb3 hrd HUb3
    go_wp2
    refine tailN_normal ((HCi.out _).2 HXb4.out) ?_
    refine wpN_one (i := 5) (by kernel_rfl) rfl ?_
    go_wp2_with fail
    refine (progCycle_all A4 m c4 n es _ HEb4.out HM.out).mono ?_
    rintro e b5 ⟨vC, r, codeC, rfl, hb, hL, hC⟩
    have HXb5 := Lib.hid (HXb4.out.below hb hsb4)
    have HBb5 := Lib.hid (HBb4.out.trans (hb.mono (Nat.le_of_lt hsb4)))
    have hsb5 : Q < b5.heap.size := Nat.lt_of_lt_of_le hsb4 hb.size
    have HUb5 := Lib.hid (HUb4.out.up hb hb.size)
    have HCC := Lib.hid hC
    obtain ⟨AR, cR, rfl, hRR⟩ := own_slice hL
    have HCb5 := Lib.hid hRR
    have hr128 := hC.small
    clear hb HXb4 HBb4 hsb4 hC hL hRR HEb4 HUb4
    go_wp2
    refine tailN_normal ((HCi.out _).2 HXb5.out) ?_
    refine wpN_frontW C [6, 7, 8, 9, 10] 0 _ (fun _ _ d _ _ h => by cases d <;> exact h) (by kernel_rfl) ((HCi.out _).2 HXb5.out) ?_
    simp only [List.map_cons, List.map_nil, List.getD_cons_zero, List.getD_cons_succ]
    have kn : Nonempty (WC C) := ⟨⟨_, (HCi.out _).2 HXb5.out⟩⟩
    repeat (go_big_quiet_step (fail))
    refine wpQuiet_nil ?_
    clear kn
    refine wpN_none (by kernel_rfl) ?_
    clear HCi
    have HV := Lib.hid (Levs.or HF.out HCL.out HCC.out ls wk)
    have hl8 : l.length * 8 ≤ 140737488351232 := by omega
    have hr8 : r.length * 8 ≤ 140737488351232 := by omega
    clear HCL HCC hl128 hr128
    go_upto_region 5 with (fail)
    have HBb6 : Hid (Below Q w b5.drew) := Lib.hid HBb5.out.drew
    have HXb6 : Hid (Blk b5.drew Q 62 [.int .i64 n, .slice A m c, .slice AL kl cl, .slice AW kw cw]) := Lib.hid HXb5.out.drew
    have hsb6 : Q < b5.drew.heap.size := hsb5
    have HUb6 : Hid (Rd b5.drew b5.drew.heap.size 1 AU l.length (icells l)) := Lib.hid HUb5.out
    have HCb6 : Hid (Rd b5.drew b5.drew.heap.size 1 AR r.length (icells r)) := Lib.hid HCb5.out
    clear HBb5 HXb5 hsb5 HUb5 HCb5
    generalize hdw : b5.drew = b6 at *
    obtain ⟨C, hCi⟩ : ∃ C : World → Prop, ∀ w', C w' ↔ Blk w' Q 62 [.int .i64 n, .slice A m c, .slice AL kl cl, .slice AW kw cw] := ⟨_, fun _ => Iff.rfl⟩
    have hC : C b6 := (hCi _).2 HXb6.out
    have k0 : ∀ p : WC C, p.w.cell? ⟨Q, 0, none⟩ = some (.int .i64 n) := fun p => ((hCi _).1 p.h).cell 0
    have k1 : ∀ p : WC C, p.w.cell? ⟨Q, 1, none⟩ = some (.slice A m c) := fun p => ((hCi _).1 p.h).cell 1
    have kn : Nonempty (WC C) := ⟨⟨_, hC⟩⟩
    refine wp_region_frontN C [0, 1, 2, 3, 5] 4 (fun _ => true) (by kernel_rfl) (fun _ _ d _ _ h => by cases d <;> exact h) (by kernel_rfl) (hdw ▸ hC) ?_
    simp only [List.map_cons, List.map_nil, List.getD_cons_zero, List.getD_cons_succ]
    repeat (go_big_quiet_step (fail))
    refine wpQuiet_nil ?_
    clear k0 k1 kn
    rw [hdw]
    clear hdw
    have HCi := Lib.hid hCi
    clear hCi hC
    refine wpN_one (i := 4) (by kernel_rfl) rfl ?_
    go_wp2_with fail
    refine (edges_sl A m c es _ (HR.out.up HBb6.out (Nat.le_of_lt hsb6)) HM.out).mono ?_
    rintro e b7 ⟨Ab7, cb7, rfl, _, hrd, hb⟩
    have HXb7 := Lib.hid (HXb6.out.below hb hsb6)
    have HBb7 := Lib.hid (HBb6.out.trans (hb.mono (Nat.le_of_lt hsb6)))
    have hsb7 : Q < b7.heap.size := Nat.lt_of_lt_of_le hsb6 hb.size
    have HUb7 := Lib.hid (HUb6.out.up hb hb.size)
    have HCb7 := Lib.hid (HCb6.out.up hb hb.size)
    have HEb7 := Lib.hid hrd
    clear hb HXb6 HBb6 hsb6 hrd HUb6 HCb6
    go_wp2
    refine tailN_normal ((HCi.out _).2 HXb7.out) ?_
    refine wpN_one (i := 6) (by kernel_rfl) rfl ?_
    go_wp2_with fail
    refine (ints_any AU l.length cU l _ HUb7.out hl8).mono ?_
    rintro e b8 ⟨vI, rfl, hown, hb⟩
    have HXb8 := Lib.hid (HXb7.out.below hb hsb7)
    have HBb8 := Lib.hid (HBb7.out.trans (hb.mono (Nat.le_of_lt hsb7)))
    have hsb8 : Q < b8.heap.size := Nat.lt_of_lt_of_le hsb7 hb.size
    have HUb8 := Lib.hid (HUb7.out.up hb hb.size)
    have HCb8 := Lib.hid (HCb7.out.up hb hb.size)
    obtain ⟨AIb8, cIb8, rfl, hRI⟩ := own_slice hown
    have HIb8 := Lib.hid hRI
    have HEb8 := Lib.hid (HEb7.out.up hb hb.size)
    clear hb HXb7 HBb7 hsb7 hown hRI HEb7 HUb7 HCb7
    go_wp2
    refine tailN_normal ((HCi.out _).2 HXb8.out) ?_
    refine wpN_one (i := 7) (by kernel_rfl) rfl ?_
    go_wp2_with fail
    refine (strataHolds_any n Ab7 AIb8 m cb7 l.length cIb8 es l _ HEb8.out HIb8.out).mono ?_
    rintro e b9 ⟨rfl, hb⟩
    have HXb9 := Lib.hid (HXb8.out.below hb hsb8)
    have HBb9 := Lib.hid (HBb8.out.trans (hb.mono (Nat.le_of_lt hsb8)))
    have hsb9 : Q < b9.heap.size := Nat.lt_of_lt_of_le hsb8 hb.size
    have HCb9 := Lib.hid (HCb8.out.up hb hb.size)
    clear hb HXb8 HBb8 hsb8 HEb8 HIb8 HUb8 HCb8
    go_wp2
    refine tailN_normal ((HCi.out _).2 HXb9.out) ?_
    refine wpN_one (i := 8) (by kernel_rfl) rfl ?_
    go_wp2
    refine tailN_normal ((HCi.out _).2 HXb9.out) ?_
    refine wpN_none (by kernel_rfl) ?_
    clear HCi
    go_upto_region 6 with (fail)
    have HBd0 : Hid (Below Q w b9.drew) := Lib.hid HBb9.out.drew
    have HXd0 : Hid (Blk b9.drew Q 62 [.int .i64 n, .slice A m c, .slice AL kl cl, .slice AW kw cw]) := Lib.hid HXb9.out.drew
    have hsd0 : Q < b9.drew.heap.size := hsb9
    have HCd0 : Hid (Rd b9.drew b9.drew.heap.size 1 AR r.length (icells r)) := Lib.hid HCb9.out
    clear HBb9 HXb9 hsb9 HCb9
    generalize hdw : b9.drew = d0 at *
    obtain ⟨C, hCi⟩ : ∃ C : World → Prop, ∀ w', C w' ↔ Blk w' Q 62 [.int .i64 n, .slice A m c, .slice AL kl cl, .slice AW kw cw] := ⟨_, fun _ => Iff.rfl⟩
    have hC : C d0 := (hCi _).2 HXd0.out
    have k0 : ∀ p : WC C, p.w.cell? ⟨Q, 0, none⟩ = some (.int .i64 n) := fun p => ((hCi _).1 p.h).cell 0
    have k1 : ∀ p : WC C, p.w.cell? ⟨Q, 1, none⟩ = some (.slice A m c) := fun p => ((hCi _).1 p.h).cell 1
    have kn : Nonempty (WC C) := ⟨⟨_, hC⟩⟩
    refine wp_region_frontN C [0, 1, 2, 3, 5] 4 (fun _ => true) (by kernel_rfl) (fun _ _ d _ _ h => by cases d <;> exact h) (by kernel_rfl) (hdw ▸ hC) ?_
    simp only [List.map_cons, List.map_nil, List.getD_cons_zero, List.getD_cons_succ]
    repeat (go_big_quiet_step (fail))
    refine wpQuiet_nil ?_
    clear k0 k1 kn
    rw [hdw]
    clear hdw
    have HCi := Lib.hid hCi
    clear hCi hC
    refine wpN_one (i := 4) (by kernel_rfl) rfl ?_
    go_wp2_with fail
    refine (edges_sl A m c es _ (HR.out.up HBd0.out (Nat.le_of_lt hsd0)) HM.out).mono ?_
    rintro e d1 ⟨Ad1, cd1, rfl, _, hrd, hb⟩
    have HXd1 := Lib.hid (HXd0.out.below hb hsd0)
    have HBd1 := Lib.hid (HBd0.out.trans (hb.mono (Nat.le_of_lt hsd0)))
    have hsd1 : Q < d1.heap.size := Nat.lt_of_lt_of_le hsd0 hb.size
    have HCd1 := Lib.hid (HCd0.out.up hb hb.size)
    have HEd1 := Lib.hid hrd
    clear hb HXd0 HBd0 hsd0 hrd HCd0
    go_wp2
    refine tailN_normal ((HCi.out _).2 HXd1.out) ?_
    refine wpN_one (i := 6) (by kernel_rfl) rfl ?_
    go_wp2_with fail
    refine (ints_any AR r.length cR r _ HCd1.out hr8).mono ?_
    rintro e d2 ⟨vI, rfl, hown, hb⟩
    have HXd2 := Lib.hid (HXd1.out.below hb hsd1)
    have HBd2 := Lib.hid (HBd1.out.trans (hb.mono (Nat.le_of_lt hsd1)))
    have hsd2 : Q < d2.heap.size := Nat.lt_of_lt_of_le hsd1 hb.size
    have HCd2 := Lib.hid (HCd1.out.up hb hb.size)
    obtain ⟨AId2, cId2, rfl, hRI⟩ := own_slice hown
    have HId2 := Lib.hid hRI
    have HEd2 := Lib.hid (HEd1.out.up hb hb.size)
    clear hb HXd1 HBd1 hsd1 hown hRI HEd1 HCd1
    go_wp2
    refine tailN_normal ((HCi.out _).2 HXd2.out) ?_
    refine wpN_one (i := 7) (by kernel_rfl) rfl ?_
    go_wp2_with fail
    refine (strataCyclic_any n Ad1 AId2 m cd1 r.length cId2 es r _ HEd2.out HId2.out).mono ?_
    rintro e d3 ⟨rfl, hb⟩
    have HXd3 := Lib.hid (HXd2.out.below hb hsd2)
    have HBd3 := Lib.hid (HBd2.out.trans (hb.mono (Nat.le_of_lt hsd2)))
    have hsd3 : Q < d3.heap.size := Nat.lt_of_lt_of_le hsd2 hb.size
    clear hb HXd2 HBd2 hsd2 HEd2 HId2 HCd2
    go_wp2
    refine tailN_normal ((HCi.out _).2 HXd3.out) ?_
    refine wpN_one (i := 8) (by kernel_rfl) rfl ?_
    go_wp2
    refine tailN_normal ((HCi.out _).2 HXd3.out) ?_
    refine wpN_none (by kernel_rfl) ?_
    clear HCi
    rcases HV.out with ⟨h1, h2, h3⟩ | ⟨h1, h2, h3⟩
    · rw [h1, h2]
      clear HV h1 h2
      go_upto_region 10 with (fail)
      have HBg0 : Hid (Below Q w d3.drew) := Lib.hid HBd3.out.drew
      have HXg0 : Hid (Blk d3.drew Q 62 [.int .i64 n, .slice A m c, .slice AL kl cl, .slice AW kw cw]) := Lib.hid HXd3.out.drew
      have hsg0 : Q < d3.drew.heap.size := hsd3
      clear HBd3 HXd3 hsd3
      generalize hdw : d3.drew = g0 at *
      obtain ⟨C, hCi⟩ : ∃ C : World → Prop, ∀ w', C w' ↔ Blk w' Q 62 [.int .i64 n, .slice A m c, .slice AL kl cl, .slice AW kw cw] := ⟨_, fun _ => Iff.rfl⟩
      have hC : C g0 := (hCi _).2 HXg0.out
      have k0 : ∀ p : WC C, p.w.cell? ⟨Q, 0, none⟩ = some (.int .i64 n) := fun p => ((hCi _).1 p.h).cell 0
      have k1 : ∀ p : WC C, p.w.cell? ⟨Q, 1, none⟩ = some (.slice A m c) := fun p => ((hCi _).1 p.h).cell 1
      have k3 : ∀ p : WC C, p.w.cell? ⟨Q, 3, none⟩ = some (.slice AW kw cw) := fun p => ((hCi _).1 p.h).cell 3
      have kn : Nonempty (WC C) := ⟨⟨_, hC⟩⟩
      refine wp_region_frontN C [0, 1, 2, 3, 5, 6] 5 (fun _ => true) (by kernel_rfl) (fun _ _ d _ _ h => by cases d <;> exact h) (by kernel_rfl) (hdw ▸ hC) ?_
      simp only [List.map_cons, List.map_nil, List.getD_cons_zero, List.getD_cons_succ]
      repeat (go_big_quiet_step (fail))
      refine wpQuiet_nil ?_
      clear k0 k1 k3 kn
      rw [hdw]
      clear hdw
      have HCi := Lib.hid hCi
      clear hCi hC
      refine wpN_one (i := 4) (by kernel_rfl) rfl ?_
      go_wp2_with fail
      refine (edges_sl A m c es _ (HR.out.up HBg0.out (Nat.le_of_lt hsg0)) HM.out).mono ?_
      rintro e g1 ⟨Ag1, cg1, rfl, _, hrd, hb⟩
      have HXg1 := Lib.hid (HXg0.out.below hb hsg0)
      have HBg1 := Lib.hid (HBg0.out.trans (hb.mono (Nat.le_of_lt hsg0)))
      have hsg1 : Q < g1.heap.size := Nat.lt_of_lt_of_le hsg0 hb.size
      have HEg1 := Lib.hid hrd
      clear hb HXg0 HBg0 hsg0 hrd
      go_wp2
      refine tailN_normal ((HCi.out _).2 HXg1.out) ?_
      refine wpN_one (i := 7) (by kernel_rfl) rfl ?_
      go_wp2_with fail
      refine (ints_any AW kw cw wk _ (HRW.out.up HBg1.out (Nat.le_of_lt hsg1)) HW8.out).mono ?_
      rintro e g2 ⟨vI, rfl, hown, hb⟩
      have HXg2 := Lib.hid (HXg1.out.below hb hsg1)
      have HBg2 := Lib.hid (HBg1.out.trans (hb.mono (Nat.le_of_lt hsg1)))
      have hsg2 : Q < g2.heap.size := Nat.lt_of_lt_of_le hsg1 hb.size
      obtain ⟨AIg2, cIg2, rfl, hRI⟩ := own_slice hown
      have HIg2 := Lib.hid hRI
      have HEg2 := Lib.hid (HEg1.out.up hb hb.size)
      clear hb HXg1 HBg1 hsg1 hown hRI HEg1
      go_wp2
      refine tailN_normal ((HCi.out _).2 HXg2.out) ?_
      refine wpN_one (i := 8) (by kernel_rfl) rfl ?_
      go_wp2_with fail
      refine (strataCyclic_any n Ag1 AIg2 m cg1 kw cIg2 es wk _ HEg2.out HIg2.out).mono ?_
      rintro e g3 ⟨rfl, hb⟩
      have HXg3 := Lib.hid (HXg2.out.below hb hsg2)
      have HBg3 := Lib.hid (HBg2.out.trans (hb.mono (Nat.le_of_lt hsg2)))
      have hsg3 : Q < g3.heap.size := Nat.lt_of_lt_of_le hsg2 hb.size
      rw [h3]
      clear hb HXg2 HBg2 hsg2 HEg2 HIg2
      go_wp2
      refine tailN_normal ((HCi.out _).2 HXg3.out) ?_
      refine wpN_one (i := 9) (by kernel_rfl) rfl ?_
      go_wp2
      refine tailN_normal ((HCi.out _).2 HXg3.out) ?_
      refine wpN_one (i := 10) (by kernel_rfl) rfl ?_
      go_wp2
      refine tailN_normal ((HCi.out _).2 HXg3.out) ?_
      refine wpN_none (by kernel_rfl) ?_
      clear HCi
      go_wp2
      go_ret
      exact ⟨rfl, by rw [hQ]; exact HBg3.out⟩
    · rw [h1, h2]
      clear HV h1 h2
      go_upto_region 11 with (fail)
      have HBg0 : Hid (Below Q w d3.drew) := Lib.hid HBd3.out.drew
      have HXg0 : Hid (Blk d3.drew Q 62 [.int .i64 n, .slice A m c, .slice AL kl cl, .slice AW kw cw]) := Lib.hid HXd3.out.drew
      have hsg0 : Q < d3.drew.heap.size := hsd3
      clear HBd3 HXd3 hsd3
      generalize hdw : d3.drew = g0 at *
      obtain ⟨C, hCi⟩ : ∃ C : World → Prop, ∀ w', C w' ↔ Blk w' Q 62 [.int .i64 n, .slice A m c, .slice AL kl cl, .slice AW kw cw] := ⟨_, fun _ => Iff.rfl⟩
      have hC : C g0 := (hCi _).2 HXg0.out
      have k0 : ∀ p : WC C, p.w.cell? ⟨Q, 0, none⟩ = some (.int .i64 n) := fun p => ((hCi _).1 p.h).cell 0
      have k1 : ∀ p : WC C, p.w.cell? ⟨Q, 1, none⟩ = some (.slice A m c) := fun p => ((hCi _).1 p.h).cell 1
      have k2 : ∀ p : WC C, p.w.cell? ⟨Q, 2, none⟩ = some (.slice AL kl cl) := fun p => ((hCi _).1 p.h).cell 2
      have kn : Nonempty (WC C) := ⟨⟨_, hC⟩⟩
      refine wp_region_frontN C [0, 1, 2, 3, 5, 6] 5 (fun _ => true) (by kernel_rfl) (fun _ _ d _ _ h => by cases d <;> exact h) (by kernel_rfl) (hdw ▸ hC) ?_
      simp only [List.map_cons, List.map_nil, List.getD_cons_zero, List.getD_cons_succ]
      repeat (go_big_quiet_step (fail))
      refine wpQuiet_nil ?_
      clear k0 k1 k2 kn
      rw [hdw]
      clear hdw
      have HCi := Lib.hid hCi
      clear hCi hC
      refine wpN_one (i := 4) (by kernel_rfl) rfl ?_
      go_wp2_with fail
      refine (edges_sl A m c es _ (HR.out.up HBg0.out (Nat.le_of_lt hsg0)) HM.out).mono ?_
      rintro e g1 ⟨Ag1, cg1, rfl, _, hrd, hb⟩
      have HXg1 := Lib.hid (HXg0.out.below hb hsg0)
      have HBg1 := Lib.hid (HBg0.out.trans (hb.mono (Nat.le_of_lt hsg0)))
      have hsg1 : Q < g1.heap.size := Nat.lt_of_lt_of_le hsg0 hb.size
      have HEg1 := Lib.hid hrd
      clear hb HXg0 HBg0 hsg0 hrd
      go_wp2
      refine tailN_normal ((HCi.out _).2 HXg1.out) ?_
      refine wpN_one (i := 7) (by kernel_rfl) rfl ?_
      go_wp2_with fail
      refine (ints_any AL kl cl ls _ (HRL.out.up HBg1.out (Nat.le_of_lt hsg1)) HM8.out).mono ?_
      rintro e g2 ⟨vI, rfl, hown, hb⟩
      have HXg2 := Lib.hid (HXg1.out.below hb hsg1)
      have HBg2 := Lib.hid (HBg1.out.trans (hb.mono (Nat.le_of_lt hsg1)))
      have hsg2 : Q < g2.heap.size := Nat.lt_of_lt_of_le hsg1 hb.size
      obtain ⟨AIg2, cIg2, rfl, hRI⟩ := own_slice hown
      have HIg2 := Lib.hid hRI
      have HEg2 := Lib.hid (HEg1.out.up hb hb.size)
      clear hb HXg1 HBg1 hsg1 hown hRI HEg1
      go_wp2
      refine tailN_normal ((HCi.out _).2 HXg2.out) ?_
      refine wpN_one (i := 8) (by kernel_rfl) rfl ?_
      go_wp2_with fail
      refine (strataHolds_any n Ag1 AIg2 m cg1 kl cIg2 es ls _ HEg2.out HIg2.out).mono ?_
      rintro e g3 ⟨rfl, hb⟩
      have HXg3 := Lib.hid (HXg2.out.below hb hsg2)
      have HBg3 := Lib.hid (HBg2.out.trans (hb.mono (Nat.le_of_lt hsg2)))
      have hsg3 : Q < g3.heap.size := Nat.lt_of_lt_of_le hsg2 hb.size
      rw [h3]
      clear hb HXg2 HBg2 hsg2 HEg2 HIg2
      go_wp2
      refine tailN_normal ((HCi.out _).2 HXg3.out) ?_
      refine wpN_one (i := 9) (by kernel_rfl) rfl ?_
      go_wp2
      refine tailN_normal ((HCi.out _).2 HXg3.out) ?_
      refine wpN_one (i := 10) (by kernel_rfl) rfl ?_
      go_wp2
      refine tailN_normal ((HCi.out _).2 HXg3.out) ?_
      refine wpN_none (by kernel_rfl) ?_
      clear HCi
      go_wp2
      go_ret
      exact ⟨rfl, by rw [hQ]; exact HBg3.out⟩
  · have hfit := fitB_false hf
    rw [hfit]
    go_wp2
    go_ret
    exact ⟨rfl, by rw [hQ]; exact HBa.out⟩
end Go.Proofs.Ytefpglaipnnggaa
