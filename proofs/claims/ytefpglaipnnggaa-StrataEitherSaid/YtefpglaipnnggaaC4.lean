import Derived.Test.YtefpglaipnnggaaC3
import Derived.Test.YtefpglaipnnggaaR1
namespace Go.Proofs.Ytefpglaipnnggaa
open Go.RowKit

theorem rep_at {k n : Nat} (h : k < n) : (icells (List.replicate k (-1) ++ List.replicate (n - k) 0))[k]? = some (.int .i64 0) := by
  unfold icells
  rw [List.getElem?_map, List.getElem?_append_right (by simp)]
  simp only [List.length_replicate, Nat.sub_self, List.getElem?_replicate]
  rw [if_pos (by omega)]; rfl

theorem adjL_le (es : List E) (v : Int) : (adjL es v).length ≤ es.length := by
  unfold adjL
  rw [List.length_map]; exact List.length_filter_le _ _

set_option maxHeartbeats 4000000 in
theorem newSeeker_any (A : Option Addr) (m c n : Nat) (es : List E) (w : World) (hr : Rd w w.heap.size 4 A m (ecells es)) (hf : Fits n es) (hreach : m * 32 ≤ 140737488355328) :
    Calls Try.prog 56 #[.int .i64 n, .slice A m c] w fun e w' => ∃ s gt gl gc go rows, e = .returned (.pointer (some ⟨s, 0, none⟩)) ∧ Mk w w' s gt gl gc go n (List.replicate n (-1)) rows ∧ Rows2 w.heap.size w' gt gl gc n es rows := by
  obtain ⟨i0, hi, hz0, hz1, hz2⟩ := info_parts Try.info3
  obtain ⟨i1, hi', hz0', hz1', hz2'⟩ := info_parts Try.info37
  have hn : n ≤ 128 := by have := hf.2.1; omega
  have mk3 : ∀ W : World, (Instr.makeSlice 37 (.int .i64 (n : Int)) (.int .i64 (n : Int))).run Try.prog W = .ok (.slice (some ⟨W.heap.size, 0, none⟩) n n) (W.alloc (.cells (zints n) 3)) := fun W => by
    rw [run_make_rowN 37 3 i0 _ Try.underlying37 hi hz0 _ _ n n (Nat.le_refl _) (by rw [hz2]; omega) (by omega) W, hz1, made_one _ rfl]
    simp [zints, icells]
  have mk37 : ∀ W : World, (Instr.makeSlice 44 (.int .i64 (n : Int)) (.int .i64 (n : Int))).run Try.prog W = .ok (.slice (some ⟨W.heap.size, 0, none⟩) n n) (W.alloc (.cells (nils n) 37)) := fun W => by
    rw [run_make_rowN 44 37 i1 _ Try.underlying44 hi' hz0' _ _ n n (Nat.le_refl _) (by rw [hz2']; omega) (by omega) W, hz1', made_one _ rfl]
    rfl
  have hlen : es.length = m := by have := hr.1; rw [ecells_length] at this; omega
  have HL := Lib.hid hlen
  have HR := Lib.hid hr
  have HF := Lib.hid hf
  have hmb := hr.2.1
  clear hr hf hlen
  go_enter Try.func56, Try.ntmps56
  go_upto_region 1 with (fail)
  go_cut [5] (fun v5 wx => ∃ s gt gl gc go, v5 = .pointer (some ⟨s, 0, none⟩) ∧ Mk w wx s gt gl gc go n (List.replicate n 0) (List.replicate n (.slice none 0 0)))
  case first =>
    go_region
    all_goals
      go_wp2
      go_meet
      refine ⟨_, _, _, _, _, rfl, made_of (by exact (new5 _ _ _ _ _ _ _ rfl).2.2.2.2) ?_ ?_ ?_ ?_ ?_ ?_⟩
    all_goals first | omega | exact (new5 _ _ _ _ _ _ _ rfl).1 | exact (new5 _ _ _ _ _ _ _ rfl).2.1 | exact (new5 _ _ _ _ _ _ _ rfl).2.2.1 | exact (new5 _ _ _ _ _ _ _ rfl).2.2.2.1
  case rest =>
    obtain ⟨s, gt, gl, gc, go, rfl, hmk⟩ := hcut
    have HM := Lib.hid hmk
    clear hmk mk3 mk37
    go_wp2
    go_loopw [20] (fun i wr => ∃ k : Nat, k ≤ n ∧ i = .int .i64 k ∧ Mk w wr s gt gl gc go n (List.replicate k (-1) ++ List.replicate (n - k) 0) (List.replicate n (.slice none 0 0))) (fun i _ => n - (intOf i).toNat)
    case atStart => exact ⟨0, Nat.zero_le _, rfl, by simpa using HM.out⟩
    case round =>
      obtain ⟨k, hk, rfl, hm⟩ := hrel
      clear HM
      have HM := Lib.hid hm
      by_cases hlt : k < n
      · have f3 := hm.bs.cell 3
        simp only [sl, List.getElem?_cons_zero, List.getElem?_cons_succ] at f3
        have cc : wr.cell? ⟨gc, k, none⟩ = some (.int .i64 0) := by rw [hm.bc.cell]; exact rep_at hlt
        have zc := hm.bc.frozen k
        clear hm
        go_wp2
        go_roundw
        case rel => exact ⟨k + 1, by omega, by go_num, by
          have := HM.out.set_comp k (-1)
          have e : (List.replicate k (-1 : Int) ++ List.replicate (n - k) 0).set k (-1) = List.replicate (k + 1) (-1) ++ List.replicate (n - (k + 1)) 0 := by
            rw [List.set_append, if_neg (by simp)]
            obtain ⟨d, hd⟩ : ∃ d, n - k = d + 1 := ⟨n - k - 1, by omega⟩
            rw [hd, List.replicate_succ (n := d), show n - (k + 1) = d by omega, List.replicate_succ' (n := k)]
            simp
          rw [e] at this; exact this⟩
        case measure => simp [intOf]; omega
      · obtain rfl : n = k := by omega
        clear hm
        go_wp2
        go_loopw [32] (fun i wr => ∃ (k : Nat) (rows : List Value), k ≤ m ∧ i = .int .i64 k ∧ Mk w wr s gt gl gc go n (List.replicate n (-1)) rows ∧ Rows2 w.heap.size wr gt gl gc n (es.take k) rows) (fun i _ => m - (intOf i).toNat)
        case atStart => exact ⟨0, _, Nat.zero_le _, rfl, by simpa using HM.out, Rows2.nils _ _ _ _ _ _⟩
        case round =>
          clear HM
          obtain ⟨k, rows, hk, rfl, hm, hrw⟩ := hrel
          have HM := Lib.hid hm
          have HW := Lib.hid hrw
          clear hm hrw
          by_cases hlt : k < m
          · obtain ⟨b, o, hk1, rfl, hb, c0, c1, c2, c3⟩ := (HR.out.below HM.out.below).edge k hlt
            have hsz := HM.out.below.size
            obtain ⟨p1, p2, p3, p4⟩ := HF.out.2.2 _ (List.getElem_mem hk1)
            obtain ⟨f, hfx⟩ : ∃ f : Nat, es[k].f = (f : Int) := ⟨es[k].f.toNat, by omega⟩
            rw [hfx] at c0 p1 p2
            have HX := Lib.hid hfx
            clear hfx
            go_wp2
            have HM := Lib.hid (HM.out.alloc (.cells #[.int .i64 (f : Int), .int .i64 es[k].t, .bool es[k].neg, .int .i64 es[k].r] 43))
            have HW := Lib.hid (HW.out.alloc (.cells #[.int .i64 (f : Int), .int .i64 es[k].t, .bool es[k].neg, .int .i64 es[k].r] 43))
            have HE := Lib.hid (Blk.new wr 43 [.int .i64 (f : Int), .int .i64 es[k].t, .bool es[k].neg, .int .i64 es[k].r])
            clear c0 c1 c2 c3
            generalize World.alloc _ _ = w1 at *
            generalize wr.heap.size = R at *
            have hfr : f < rows.length := by have := HW.out.len; omega
            obtain ⟨hown, o1, o2, o3⟩ := HW.out.own _ hfr
            have ag := own_blk_ne hown HM.out.bs (by decide)
            have ao := own_blk_ne hown HM.out.bo (by decide)
            have ae := own_blk_ne hown HE.out (by decide)
            have f0 := HM.out.bs.cell 0
            have e0 := HE.out.cell 0
            have e1 := HE.out.cell 1
            simp only [sl, List.getElem?_cons_zero, List.getElem?_cons_succ] at f0 e0 e1
            have fo := HM.out.bo.cell f
            rw [List.getElem?_eq_getElem hfr] at fo
            have zo := HM.out.bo.frozen f
            have zo2 : (w1.alloc (.cells #[.int .i64 es[k].t] 3)).drew.frozen? ⟨go, f, none⟩ = false := (HM.out.bo.alloc _).drew.frozen _
            have q0 : (w1.alloc (.cells #[.int .i64 es[k].t] 3)).drew.cell? ⟨s, 0, none⟩ = some (.slice (some ⟨go, 0, none⟩) n n) := (HM.out.bs.alloc _).drew.cell 0
            have q1 : (w1.alloc (.cells #[.int .i64 es[k].t] 3)).drew.cell? ⟨R, 0, none⟩ = some (.int .i64 (f : Int)) := (HE.out.alloc _).drew.cell 0
            have q2 : (w1.alloc (.cells #[.int .i64 es[k].t] 3)).drew.cell? ⟨R, 1, none⟩ = some (.int .i64 es[k].t) := (HE.out.alloc _).drew.cell 1
            have q3 : (w1.alloc (.cells #[.int .i64 es[k].t] 3)).drew.cell? ⟨go, f, none⟩ = some rows[f] := ((HM.out.bo.alloc _).drew.cell _).trans (List.getElem?_eq_getElem hfr)
            have ls := HM.out.bs.lt
            have lo := HM.out.bo.lt
            have le := HE.out.lt
            have hal : (adjL (es.take k) (f : Int)).length + 1 ≤ m := by
              have := adjL_le (es.take k) (f : Int)
              rw [List.length_take] at this; omega
            have hsgo : s ≠ go := HM.out.ne.2.2.2.2.2.2.1
            have hRgo : R ≠ go := fun e => by
              have := HE.out; have h2 := HM.out.bo
              unfold Blk at this h2
              rw [e, h2] at this
              injection this with this; injection this with _ h3
              cases h3
            obtain ⟨C, hCi⟩ : ∃ C : World → Prop, ∀ w', C w' ↔ (w'.cell? ⟨s, 0, none⟩ = some (.slice (some ⟨go, 0, none⟩) n n) ∧ w'.cell? ⟨R, 0, none⟩ = some (.int .i64 (f : Int)) ∧ w'.cell? ⟨R, 1, none⟩ = some (.int .i64 es[k].t) ∧
                w'.cell? ⟨go, f, none⟩ = some rows[f]) := ⟨_, fun _ => Iff.rfl⟩
            have hC : C w1.drew := (hCi _).2 ⟨f0, e0, e1, fo⟩
            have k0 : ∀ p : WC C, p.w.cell? ⟨s, 0, none⟩ = some (.slice (some ⟨go, 0, none⟩) n n) := fun p => ((hCi _).1 p.h).1
            have k1 : ∀ p : WC C, p.w.cell? ⟨R, 0, none⟩ = some (.int .i64 (f : Int)) := fun p => ((hCi _).1 p.h).2.1
            have k2 : ∀ p : WC C, p.w.cell? ⟨R, 1, none⟩ = some (.int .i64 es[k].t) := fun p => ((hCi _).1 p.h).2.2.1
            have k3 : ∀ p : WC C, p.w.cell? ⟨go, f, none⟩ = some rows[f] := fun p => ((hCi _).1 p.h).2.2.2
            have kn : Nonempty (WC C) := ⟨⟨_, hC⟩⟩
            have HC := Lib.hid hCi
            clear hCi
            refine wp_region_front' C [0, 1, 2, 3, 4, 5, 6, 7, 8, 9, 10, 11, 12, 13, 14, 15] [16, 17, 18, 19] (fun j => decide (j < 18)) (by kernel_rfl) (fun _ _ d _ _ h => by cases d <;> exact h) (by kernel_rfl) hC ?_
            simp only [List.map_cons, List.map_nil, List.getD_cons_zero, List.getD_cons_succ]
            repeat (go_big_quiet_step (fail))
            refine wpQuiet_nil ?_
            clear k0 k1 k2 k3 kn
            refine wpTail_cons ?_
            go_wp2
            refine tailQ_normal (fun _ => (HC.out _).2 ⟨q0, q1, q2, q3⟩) ?_
            refine wpTail_cons ?_
            go_wp2_with (at_builtin; go_must (refine wpList_append_lies _ rfl _ _ 37 rfl w.heap.size 3 i0 _ 1 8 Try.underlying37 hi hz0 hz1 hz2 rfl (by omega) rows[f] _ _ rfl ((hown.alloc _).drew) ⟨w1.heap.size, 0, none⟩ 1 1 [.int .i64 es[k].t] rfl rfl (World.news_of_block (cs := #[.int .i64 es[k].t]) (t := 3) (fr := (0, 0)) (heap_alloc_new w1 _)) (int_one _) (by omega) (by unfold maxLen; omega) (by omega) (by simp; omega) (w1.heap.size + 1) (by simp) ?_))
            intro gg cap w2 hown1 hgrow hat hlt
            have r0 := (hgrow.cell_far ⟨s, 0, none⟩ (by simp; omega) ag).trans q0
            have r1 := (hgrow.cell_far ⟨R, 0, none⟩ (by simp; omega) ae).trans q1
            have r2 := (hgrow.cell_far ⟨R, 1, none⟩ (by simp; omega) ae).trans q2
            have r3 := (hgrow.cell_far ⟨go, f, none⟩ (by simp; omega) ao).trans q3
            have r4 := (hgrow.frozen_far ⟨go, f, none⟩ (by simp; omega) ao).trans zo2
            refine tailQ_normal (fun _ => (HC.out _).2 ⟨r0, r1, r2, r3⟩) ?_
            refine wpTail_cons ?_
            go_wp2
            refine tailQ_normal (fun h => by cases h) ?_
            refine wpTail_cons ?_
            go_wp2
            refine tailQ_normal (fun h => by cases h) ?_
            refine wpTail_nil ?_
            have HM2 := Lib.hid ((HM.out.alloc (.cells #[.int .i64 es[k].t] 3)).drew.row hgrow (fun q hq => by
              have h1 := (hown.lt q hq).1
              exact ⟨h1, fun e => ag (by rw [hq, e]), fun e => o1 (by rw [hq, e]), fun e => o2 (by rw [hq, e]), fun e => o3 (by rw [hq, e]), fun e => ao (by rw [hq, e])⟩) f (.slice (some ⟨gg, 0, none⟩) ((adjL (es.take k) (f : Int)).length + 1) cap))
            have HW2 := Lib.hid (((HW.out.alloc (.cells #[.int .i64 es[k].t] 3)).drew).push (x := es[k]) (f := f) (g := gg) (cap := cap) (go := go) (H := w1.heap.size + 1) HX.out hfr (by simp) hown1 hgrow hat (by have h1 := HM.out.bt.lt; have h2 := HM.out.bl.lt; have h3 := HM.out.bc.lt; simp; omega) ((HM.out.alloc (.cells #[.int .i64 es[k].t] 3)).drew.bo.grown hgrow (fun e => ao e)))
            clear hown1 hgrow hat
            go_wp2
            go_roundw
            case rel => exact ⟨k + 1, _, by omega, by go_num, HM2.out, by rw [take_snoc _ _ hk1]; exact HW2.out⟩
            case measure => simp [intOf]; omega
          · go_wp2
            go_ret
            exact ⟨s, gt, gl, gc, go, rows, rfl, HM.out, by have := HW.out; rw [List.take_of_length_le (by have := HL.out; omega)] at this; exact this⟩
end Go.Proofs.Ytefpglaipnnggaa
