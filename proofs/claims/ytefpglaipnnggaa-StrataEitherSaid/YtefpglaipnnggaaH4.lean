/- The document's Levels. -/
import Derived.Test.YtefpglaipnnggaaH3
namespace Go.Proofs.Ytefpglaipnnggaa
open Go.RowKit

/-- How much the levels can still rise. -/
def slack (n : Nat) (l : List Int) : Nat := (l.map (fun x => ((n : Int) - x).toNat)).sum
theorem slack_set (n : Nat) : ∀ (l : List Int) (i : Nat) (y : Int), (h : i < l.length) → l[i] < y → l[i] < n → slack n (l.set i y) < slack n l
  | [], i, _, h, _, _ => by simp at h
  | a :: l, 0, y, _, h1, h2 => by
    simp only [List.getElem_cons_zero] at h1 h2
    simp only [slack, List.set_cons_zero, List.map_cons, List.sum_cons]
    omega
  | a :: l, i + 1, y, h, h1, h2 => by
    have ih := slack_set n l i y (by simpa using h) (by simpa using h1) (by simpa using h2)
    unfold slack at ih ⊢
    simp only [List.set_cons_succ, List.map_cons, List.sum_cons]
    omega

/-- The levels while they rise. -/
structure RL (n : Nat) (es : List E) (l : List Int) : Prop where
  len : l.length = n
  rng : ∀ v, Vx n v → 0 ≤ lv l v ∧ lv l v < n
  least : ∀ M, Mp n es M → ∀ v, Vx n v → lv l v ≤ M v

set_option maxRecDepth 20000 in
set_option maxHeartbeats 4000000 in
theorem refLevels_any (A : Option Addr) (m c n : Nat) (es : List E) (w : World) (hr : Rd w w.heap.size 4 A m (ecells es)) (hf : Fits n es) :
    Calls Try.prog 39 #[.int .i64 n, .slice A m c] w fun e w' => ∃ v l code, e = .returned (.tuple #[v, .int .i64 code]) ∧ Below w.heap.size w w' ∧ w'.ownsRow w.heap.size 3 1 v l.length (icells l) ∧ Levs n es l code := by
  obtain ⟨i0, hi, hz0, hz1, hz2⟩ := info_parts Try.info3
  have hn : n ≤ 128 := by have := hf.2.1; omega
  have hlen : es.length = m := by have := hr.1; rw [ecells_length] at this; omega
  have HL := Lib.hid hlen
  have HR := Lib.hid hr
  have HF := Lib.hid hf
  have hfit := (fitB_iff n es).2 hf
  have hmb := hr.2.1
  clear hr hf hlen
  have mk3 : ∀ W : World, (Instr.makeSlice 37 (.int .i64 (n : Int)) (.int .i64 (n : Int))).run Try.prog W = .ok (.slice (some ⟨W.heap.size, 0, none⟩) n n) (W.alloc (.cells (icells (List.replicate n 0)).toArray 3)) := fun W => by
    rw [run_make_rowN 37 3 i0 _ Try.underlying37 hi hz0 _ _ n n (Nat.le_refl _) (by rw [hz2]; omega) (by omega) W, hz1, made_one _ rfl]
    simp [icells]
  go_enter Try.func39, Try.ntmps39
  go_wp2_with fail
  refine (refFit_any n A m c es _ HR.out).mono ?_
  rintro e w1 ⟨rfl, rfl⟩
  rw [hfit]
  clear hfit
  go_upto_region 4 with (fail)
  have HB2 : Hid (Below w.heap.size w (w.alloc (.cells (icells (List.replicate n 0)).toArray 3))) := Lib.hid ((Below.refl _ _).alloc (Nat.le_refl _) _)
  have HV2 := Lib.hid (Blk.new w 3 (icells (List.replicate n 0)))
  generalize World.alloc _ _ = w2 at *
  generalize hZ : w.heap.size = Z at *
  have HZ := Lib.hid hZ
  have HR0 : Hid (0 < n ∨ n = 0) := Lib.hid (by omega)
  have HRL2 : Hid (RL n es (List.replicate n 0)) := Lib.hid ⟨by simp, fun v hv => by rw [lv_rep0]; have := hv.1; have := hv.2; omega, fun M hM v hv => by rw [lv_rep0]; exact hM.1 v hv⟩
  clear hZ mk3
  go_wp2
  go_loopg [7] (slack n (List.replicate n 0) + 1) (fun gk v wr => ∃ (ag : Bool) (l : List Int), v = .bool ag ∧ Hid (gk = if ag then slack n l + 1 else 0) ∧ Hid (Below Z w wr) ∧ Hid (Blk wr Z 3 (icells l)) ∧ Hid (RL n es l) ∧ Hid (ag = false → ∀ e ∈ es, lv l e.f + stp e ≤ lv l e.t))
  case atStart => exact ⟨true, _, rfl, Lib.hid rfl, HB2, HV2, HRL2, Lib.hid (fun h => by cases h)⟩
  case round =>
    clear HB2 HV2 HRL2
    obtain ⟨ag, l, rfl, HG, HB, HV, HRL, HCL⟩ := hrel
    cases ag with
    | false =>
      have HLE : Hid (LeastL n es l) := Lib.hid ⟨HRL.out.len, ⟨fun v hv => (HRL.out.rng v hv).1, HCL.out rfl⟩, HRL.out.least⟩
      have hl := HRL.out.len
      have HOW : Hid (wr.ownsRow Z 3 1 (.slice (some ⟨Z, 0, none⟩) n n) l.length (icells l)) := Lib.hid (by
        have h := own_mk (size := 1) (n := n) (cap := n) (Nat.le_refl Z) HV.out (Nat.le_refl _) (by unfold maxLen; omega) (by rw [icells_length, hl]; omega) (xs := icells l) (by rw [List.take_of_length_le (by rw [icells_length, hl]; omega)]) (by rw [icells_length, hl]; omega)
        rw [hl]; exact h)
      clear hl HCL HG
      go_wp2
      go_ret2
      exact ⟨_, l, 0, rfl, by rw [HZ.out]; exact HB.out, by rw [HZ.out]; exact HOW.out, .inl ⟨n, rfl, HF.out, HLE.out, rfl⟩⟩
    | true =>
      obtain ⟨l0, hl0⟩ : ∃ x, x = l := ⟨l, rfl⟩
      subst hl0
      clear HCL
      go_wp2
      go_loopg [8, 7] m (fun gk v8 v7 wr => ∃ (i : Nat) (ag : Bool) (l : List Int), v8 = .int .i64 i ∧ v7 = .bool ag ∧ i ≤ m ∧ gk = m - i ∧ Hid (Below Z w wr) ∧ Hid (Blk wr Z 3 (icells l)) ∧ Hid (RL n es l) ∧
        Hid ((ag = false ∧ l = l0 ∧ ∀ e ∈ es.take i, lv l e.f + stp e ≤ lv l e.t) ∨ (ag = true ∧ slack n l < slack n l0)))
      case atStart => exact ⟨0, false, l0, rfl, rfl, Nat.zero_le _, by omega, HB, HV, HRL, Lib.hid (.inl ⟨rfl, rfl, fun e he => by simp at he⟩)⟩
      case round =>
        clear HB HV HRL
        obtain ⟨i, ag, l, rfl, rfl, hi9, hgi, HB, HV, HRL, HC⟩ := hrel
        have HG2 := Lib.hid hgi
        clear hgi
        by_cases hlt : i < m
        · obtain ⟨b, o, hj1, rfl, hbb, c0, c1, c2, _⟩ := (HR.out.below HB.out).edge i hlt
          have hem := List.getElem_mem hj1
          have HEM := Lib.hid hem
          have hok := HF.out.2.2 _ hem
          have HK := Lib.hid (take_snoc es i hj1)
          have hlf := HRL.out.rng es[i].f ⟨hok.1, hok.2.1⟩
          have hlt2 := HRL.out.rng es[i].t ⟨hok.2.2.1, hok.2.2.2⟩
          have hll := HRL.out.len
          clear hem
          generalize es[i] = e at *
          obtain ⟨ef, et, en, er⟩ := e
          obtain ⟨p1, p2, p3, p4⟩ := hok
          dsimp only at c0 c1 c2 p1 p2 p3 p4 hlf hlt2
          obtain ⟨f, rfl⟩ : ∃ f : Nat, ef = (f : Int) := ⟨ef.toNat, by omega⟩
          obtain ⟨t, rfl⟩ : ∃ t : Nat, et = (t : Int) := ⟨et.toNat, by omega⟩
          obtain ⟨zf, hzf⟩ : ∃ z : Nat, lv l f = (z : Int) := ⟨(lv l f).toNat, by omega⟩
          obtain ⟨zt, hzt⟩ : ∃ z : Nat, lv l t = (z : Int) := ⟨(lv l t).toNat, by omega⟩
          have hzfn : zf < n := by omega
          have hztn : zt < n := by omega
          have y0 : wr.cell? ⟨Z, f, none⟩ = some (.int .i64 (zf : Int)) := by
            have h := icells_lv (l := l) (i := (f : Int)) (by omega) (by omega)
            rw [Int.toNat_natCast, hzf] at h
            exact (HV.out.cell f).trans h
          have y1 : wr.cell? ⟨Z, t, none⟩ = some (.int .i64 (zt : Int)) := by
            have h := icells_lv (l := l) (i := (t : Int)) (by omega) (by omega)
            rw [Int.toNat_natCast, hzt] at h
            exact (HV.out.cell t).trans h
          have z1 := HV.out.frozen t
          have htl : t < l.length := by omega
          obtain ⟨s, hs, hs1⟩ : ∃ s : Nat, stp ⟨f, t, en, er⟩ = (s : Int) ∧ s ≤ 1 := ⟨(stp ⟨f, t, en, er⟩).toNat, by have := stp_nonneg ⟨f, t, en, er⟩; omega, by have := stp_nonneg ⟨f, t, en, er⟩; omega⟩
          have HSTP := Lib.hid hs
          have HZZ := Lib.hid (⟨hzf, hzt⟩ : _ ∧ _)
          have HLES : Hid (∀ M, Mp n es M → ((zf + s : Nat) : Int) ≤ M t) := Lib.hid fun M hM => by
            have h1 := hM.2 _ HEM.out
            have h2 := HRL.out.least M hM f ⟨by omega, by omega⟩
            rw [hs] at h1
            dsimp only at h1
            omega
          have HHI : Hid (n ≤ zf + s → ¬ NoBad es) := Lib.hid fun h hnb => by
            obtain ⟨M, hM, hMn⟩ := hnb.map HF.out
            have h1 := HLES.out M hM
            have h2 := hMn t ⟨by omega, by omega⟩
            omega
          clear hzf hzt hlf hlt2 hll hs
          cases en with
          | false =>
            obtain rfl : s = 0 := by
              have := HSTP.out
              simp only [stp, Bool.false_eq_true, if_false] at this
              omega
            by_cases hc : zt < zf
            · have hsl : slack n (l.set t (zf : Int)) < slack n l := slack_set n l t _ htl (by have := lv_get htl; have := HZZ.out.2; omega) (by have := lv_get htl; have := HZZ.out.2; omega)
              have HX : Hid (slack n (l.set t (zf : Int)) < slack n l0) := Lib.hid (by
                rcases HC.out with ⟨_, h2, _⟩ | ⟨_, h2⟩
                · rw [← h2]; exact hsl
                · omega)
              clear hsl
              by_cases hge : n ≤ zf
              · exfalso; omega
              · have HR5 : Hid (RL n es (l.set t (zf : Int))) := Lib.hid ⟨by simpa using HRL.out.len, fun v hv => by
                  rw [lv_set htl]
                  split
                  · omega
                  · exact HRL.out.rng v hv, fun M hM v hv => by
                  rw [lv_set htl]
                  split
                  · rename_i e
                    have : v = (t : Int) := by have := hv.1; omega
                    have h1 := HLES.out M hM
                    rw [this]; omega
                  · exact HRL.out.least M hM v hv⟩
                go_upto_region 16 with (fail)
                have HB5 := Lib.hid (HB.out.setCell (p := ⟨Z, t, none⟩) (Nat.le_refl _) (.int .i64 (zf : Int)))
                have HV5 := Lib.hid (HV.out.set_ t (.int .i64 (zf : Int)))
                rw [icells_set] at HV5
                clear HB HV y0 y1 z1 c0 c1 c2
                generalize World.setCell _ _ _ = w5 at *
                go_wp2
                go_roundg (m - (i + 1))
                case measure => have := HG2.out; omega
                case rel => exact ⟨i + 1, true, _, by go_num, rfl, by omega, rfl, HB5, HV5, HR5, Lib.hid (.inr ⟨rfl, HX.out⟩)⟩
            · have HX : Hid ((ag = false ∧ l = l0 ∧ ∀ e ∈ es.take (i + 1), lv l e.f + stp e ≤ lv l e.t) ∨ (ag = true ∧ slack n l < slack n l0)) := Lib.hid (by
                rcases HC.out with ⟨h1, h2, h3⟩ | h1
                · refine .inl ⟨h1, h2, fun e he => ?_⟩
                  rw [HK.out] at he
                  rcases List.mem_append.1 he with he | he
                  · exact h3 e he
                  · rw [List.mem_singleton.1 he, HSTP.out]
                    have := HZZ.out
                    dsimp only
                    omega
                · exact .inr h1)
              go_wp2
              go_roundg (m - (i + 1))
              case measure => have := HG2.out; omega
              case rel => exact ⟨i + 1, ag, l, by go_num, rfl, by omega, rfl, HB, HV, HRL, HX⟩
          | true =>
            obtain rfl : s = 1 := by
              have := HSTP.out
              simp only [stp, if_true] at this
              omega
            by_cases hc : zt < zf + 1
            · have hsl : slack n (l.set t ((zf : Int) + 1)) < slack n l := slack_set n l t _ htl (by have := lv_get htl; have := HZZ.out.2; omega) (by have := lv_get htl; have := HZZ.out.2; omega)
              have HX : Hid (slack n (l.set t ((zf : Int) + 1)) < slack n l0) := Lib.hid (by
                rcases HC.out with ⟨_, h2, _⟩ | ⟨_, h2⟩
                · rw [← h2]; exact hsl
                · omega)
              clear hsl
              by_cases hge : n ≤ zf + 1
              · have HNB := Lib.hid (HHI.out hge)
                go_upto_region 16 with (fail)
                have HB5 := Lib.hid (HB.out.setCell (p := ⟨Z, t, none⟩) (Nat.le_refl _) (.int .i64 ((zf : Int) + 1)))
                clear HB HV y0 y1 z1 c0 c1 c2
                generalize World.setCell _ _ _ = w5 at *
                go_wp2
                go_ret2
                exact ⟨_, [], 40, rfl, by rw [HZ.out]; exact HB5.out, World.ownsRow_nil _ _ _ _, .inr (.inl ⟨n, rfl, HF.out, HNB.out, rfl, rfl⟩)⟩
              · have HR5 : Hid (RL n es (l.set t ((zf : Int) + 1))) := Lib.hid ⟨by simpa using HRL.out.len, fun v hv => by
                  rw [lv_set htl]
                  split
                  · omega
                  · exact HRL.out.rng v hv, fun M hM v hv => by
                  rw [lv_set htl]
                  split
                  · rename_i e
                    have : v = (t : Int) := by have := hv.1; omega
                    have h1 := HLES.out M hM
                    rw [this]; omega
                  · exact HRL.out.least M hM v hv⟩
                go_upto_region 16 with (fail)
                have HB5 := Lib.hid (HB.out.setCell (p := ⟨Z, t, none⟩) (Nat.le_refl _) (.int .i64 ((zf : Int) + 1)))
                have HV5 := Lib.hid (HV.out.set_ t (.int .i64 ((zf : Int) + 1)))
                rw [icells_set] at HV5
                clear HB HV y0 y1 z1 c0 c1 c2
                generalize World.setCell _ _ _ = w5 at *
                go_wp2
                go_roundg (m - (i + 1))
                case measure => have := HG2.out; omega
                case rel => exact ⟨i + 1, true, _, by go_num, rfl, by omega, rfl, HB5, HV5, HR5, Lib.hid (.inr ⟨rfl, HX.out⟩)⟩
            · have HX : Hid ((ag = false ∧ l = l0 ∧ ∀ e ∈ es.take (i + 1), lv l e.f + stp e ≤ lv l e.t) ∨ (ag = true ∧ slack n l < slack n l0)) := Lib.hid (by
                rcases HC.out with ⟨h1, h2, h3⟩ | h1
                · refine .inl ⟨h1, h2, fun e he => ?_⟩
                  rw [HK.out] at he
                  rcases List.mem_append.1 he with he | he
                  · exact h3 e he
                  · rw [List.mem_singleton.1 he, HSTP.out]
                    have := HZZ.out
                    dsimp only
                    omega
                · exact .inr h1)
              go_wp2
              go_roundg (m - (i + 1))
              case measure => have := HG2.out; omega
              case rel => exact ⟨i + 1, ag, l, by go_num, rfl, by omega, rfl, HB, HV, HRL, HX⟩
        · obtain rfl : i = m := by omega
          have HCX : Hid (ag = false → ∀ e ∈ es, lv l e.f + stp e ≤ lv l e.t) := Lib.hid fun h e he => by
            rcases HC.out with ⟨_, _, h3⟩ | ⟨h1, _⟩
            · rw [List.take_of_length_le (by have := HL.out; omega)] at h3
              exact h3 e he
            · rw [h] at h1; cases h1
          have HM : Hid ((if ag then slack n l + 1 else 0) < slack n l0 + 1) := Lib.hid (by
            rcases HC.out with ⟨h1, _, _⟩ | ⟨h1, h2⟩
            · rw [h1]; simp
            · rw [h1]; simp; omega)
          go_wp2
          go_roundg (if ag then slack n l + 1 else 0)
          case measure => have := HG.out; have := HM.out; simp only [if_true] at *; omega
          case rel => exact ⟨ag, l, rfl, Lib.hid rfl, HB, HV, HRL, HCX⟩

set_option maxRecDepth 20000 in
theorem refLevels_no (A : Option Addr) (m c : Nat) (x : Int) (es : List E) (w : World) (hr : Rd w w.heap.size 4 A m (ecells es)) (hf : ¬ Fits x es) :
    Calls Try.prog 39 #[.int .i64 x, .slice A m c] w fun e w' => e = .returned (.tuple #[.slice none 0 0, .int .i64 2]) ∧ w' = w := by
  have HR := Lib.hid hr
  have hfit := fitB_false hf
  clear hr hf
  go_enter Try.func39, Try.ntmps39
  go_wp2_with fail
  refine (refFit_any x A m c es _ HR.out).mono ?_
  rintro e w1 ⟨rfl, rfl⟩
  rw [hfit]
  clear hfit
  go_wp2
  go_ret2
  exact ⟨rfl, rfl⟩
theorem refLevels_all (A : Option Addr) (m c : Nat) (x : Int) (es : List E) (w : World) (hr : Rd w w.heap.size 4 A m (ecells es)) :
    Calls Try.prog 39 #[.int .i64 x, .slice A m c] w fun e w' => ∃ v l code, e = .returned (.tuple #[v, .int .i64 code]) ∧ Below w.heap.size w w' ∧ w'.ownsRow w.heap.size 3 1 v l.length (icells l) ∧ Levs x es l code := by
  by_cases hf : Fits x es
  · obtain ⟨n, rfl⟩ : ∃ n : Nat, x = n := ⟨x.toNat, by have := hf.1; omega⟩
    exact refLevels_any A m c n es w hr hf
  · refine (refLevels_no A m c x es w hr hf).mono ?_
    rintro e w' ⟨rfl, rfl⟩
    exact ⟨_, [], 2, rfl, Below.refl _ _, World.ownsRow_nil _ _ _ _, .inr (.inr ⟨hf, rfl, rfl⟩)⟩
end Go.Proofs.Ytefpglaipnnggaa
