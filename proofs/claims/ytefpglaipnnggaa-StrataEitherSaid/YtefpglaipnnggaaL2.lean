/- The law's asked: each level has a reason that leads back to 0. -/
import Derived.Test.YtefpglaipnnggaaL1
import Derived.Test.YtefpglaipnnggaaG1
namespace Go.Proofs.Ytefpglaipnnggaa
open Go.RowKit

theorem tl1_put {l : List Bool} {i : Nat} (hi : i < l.length) (b : Bool) (x : Int) : tl1 (l.set i b) x = if x.toNat = i then b else tl1 l x := by
  unfold tl1
  rw [List.getD_eq_getElem?_getD, List.getD_eq_getElem?_getD, List.getElem?_set]
  by_cases e : i = x.toNat
  · rw [if_pos e, if_pos e.symm, if_pos hi]; rfl
  · rw [if_neg e, if_neg (fun h => e h.symm)]
theorem bcells_set (l : List Bool) (i : Nat) (b : Bool) : (bcells l).set i (.bool b) = bcells (l.set i b) := by simp [bcells, List.map_set]

/-- A known place, a step that is exact: the next is known. -/
def Shut (l : List Int) (kl : List Bool) (e : E) : Prop := tl1 kl e.f = true → lv l e.f + stp e = lv l e.t → tl1 kl e.t = true
theorem asked_all {n : Nat} {es : List E} {l : List Int} {kl : List Bool} (h : LeastL n es l) (hz : ∀ v, Vx n v → lv l v = 0 → tl1 kl v = true) (hc : ∀ e ∈ es, Shut l kl e) : ∀ v, Vx n v → tl1 kl v = true := by
  intro v hv
  by_cases hk : tl1 kl v = true
  · exact hk
  exfalso
  have hM : Mp n es (fun x => if tl1 kl x = true then lv l x else lv l x - 1) := by
    refine ⟨fun x hx => ?_, fun e he => ?_⟩
    · dsimp only
      have h1 := h.2.1.1 x hx
      split
      · exact h1
      · rename_i h2
        have : lv l x ≠ 0 := fun h3 => h2 (hz x hx h3)
        omega
    · dsimp only
      have h1 := h.2.1.2 e he
      have h2 := hc e he
      unfold Shut at h2
      by_cases hkf : tl1 kl e.f = true
      · by_cases hkt : tl1 kl e.t = true
        · rw [if_pos hkf, if_pos hkt]; exact h1
        · rw [if_pos hkf, if_neg hkt]
          have : lv l e.f + stp e ≠ lv l e.t := fun h3 => hkt (h2 hkf h3)
          omega
      · rw [if_neg hkf]
        split <;> omega
  have h1 := h.2.2 _ hM v hv
  simp only [if_neg hk] at h1
  omega

set_option maxRecDepth 20000 in
set_option maxHeartbeats 4000000 in
theorem asked_ok (n : Nat) (A A' : Option Addr) (m c c' : Nat) (es : List E) (ls : List Int) (w : World) (hr : Rd w w.heap.size 4 A m (ecells es)) (hr' : Rd w w.heap.size 1 A' n (icells ls)) (hf : Fits n es) (hh : LeastL n es ls) :
    Calls Try.prog 43 #[.int .i64 n, .slice A m c, .slice A' n c'] w fun e w' => e = .returned (.bool true) ∧ Below w.heap.size w w' := by
  obtain ⟨i0, hi, hz0, hz1, hz2⟩ := info_parts Try.info4'
  have hlen : es.length = m := by have := hr.1; rw [ecells_length] at this; omega
  have hn : n ≤ 128 := by have := hf.2.1; omega
  have HL := Lib.hid hlen
  have hm := hr.2.1
  have HR := Lib.hid hr
  have HR' := Lib.hid hr'
  have HF := Lib.hid hf
  have HH := Lib.hid hh
  clear hr hr' hf hh hlen
  have mk4 : ∀ W : World, (Instr.makeSlice 52 (.int .i64 (n : Int)) (.int .i64 (n : Int))).run Try.prog W = .ok (.slice (some ⟨W.heap.size, 0, none⟩) n n) (W.alloc (.cells (bcells (List.replicate n false)).toArray 4)) := fun W => by
    rw [run_make_rowN 52 4 i0 _ Try.underlying52 hi hz0 _ _ n n (Nat.le_refl _) (by rw [hz2]; omega) (by omega) W, hz1, made_one _ rfl]
    simp [bcells]
  go_enter Try.func43, Try.ntmps43
  go_upto_region 2 with (fail)
  have HB2 : Hid (Below w.heap.size w (w.alloc (.cells (bcells (List.replicate n false)).toArray 4))) := Lib.hid ((Below.refl _ _).alloc (Nat.le_refl _) _)
  have HV2 := Lib.hid (Blk.new w 4 (bcells (List.replicate n false)))
  generalize World.alloc _ _ = w2 at *
  generalize hZ : w.heap.size = Z at *
  have HZ := Lib.hid hZ
  clear hZ mk4
  go_wp2
  go_loopg [8] n (fun gk v wr => ∃ (i : Nat) (kl : List Bool), v = .int .i64 i ∧ i ≤ n ∧ gk = n - i ∧ kl.length = n ∧ Hid (Below Z w wr) ∧ Hid (Blk wr Z 4 (bcells kl)) ∧ Hid (∀ v : Int, Vx n v → v < i → lv ls v = 0 → tl1 kl v = true))
  case atStart => exact ⟨0, _, rfl, Nat.zero_le _, by omega, by simp, HB2, HV2, Lib.hid (fun v hv h => by have := hv.1; omega)⟩
  case round =>
    clear HB2 HV2
    obtain ⟨i, kl, rfl, hin, hgi, hkl, HB, HV, HK⟩ := hrel
    have HG := Lib.hid hgi
    clear hgi
    by_cases hlt : i < n
    · obtain ⟨b2, o2, hj2, rfl, hbb2, t0⟩ := (HR'.out.below HB.out).int i hlt
      rw [← lv_get hj2] at t0
      have y0 := HV.out.bool (i := i) (by omega)
      have z0 := HV.out.frozen i
      by_cases hz : lv ls i = 0
      · rw [hz] at t0
        have HK5 : Hid (∀ v : Int, Vx n v → v < ((i + 1 : Nat) : Int) → lv ls v = 0 → tl1 (kl.set i true) v = true) := Lib.hid fun v hv h1 h2 => by
          rw [tl1_put (by omega)]
          split
          · rfl
          · rename_i h3
            have := hv.1
            exact HK.out v hv (by omega) h2
        clear hz
        go_upto_region 4 with (fail)
        have HB5 := Lib.hid (HB.out.setCell (p := ⟨Z, i, none⟩) (Nat.le_refl _) (.bool true))
        have HV5 := Lib.hid (HV.out.set_ i (.bool true))
        rw [bcells_set] at HV5
        clear HB HV y0 z0 t0
        generalize World.setCell _ _ _ = w5 at *
        go_wp2
        go_roundg (n - (i + 1))
        case measure => have := HG.out; omega
        case rel => exact ⟨i + 1, _, by go_num, by omega, rfl, by simpa using hkl, HB5, HV5, HK5⟩
      · have HK5 : Hid (∀ v : Int, Vx n v → v < ((i + 1 : Nat) : Int) → lv ls v = 0 → tl1 (kl.set i false) v = true) := Lib.hid fun v hv h1 h2 => by
          rw [tl1_put (by omega)]
          have := hv.1
          split
          · rename_i h3
            have : v = (i : Int) := by omega
            rw [this] at h2; exact absurd h2 hz
          · exact HK.out v hv (by omega) h2
        have hzb : (lv ls i == 0) = false := by simpa using hz
        generalize lv ls i = y at *
        go_upto_region 4 with (fail)
        have HB5 := Lib.hid (HB.out.setCell (p := ⟨Z, i, none⟩) (Nat.le_refl _) (.bool false))
        have HV5 := Lib.hid (HV.out.set_ i (.bool false))
        rw [bcells_set] at HV5
        clear HB HV y0 z0 t0
        generalize World.setCell _ _ _ = w5 at *
        go_wp2
        go_roundg (n - (i + 1))
        case measure => have := HG.out; omega
        case rel => exact ⟨i + 1, _, by go_num, by omega, rfl, by simpa using hkl, HB5, HV5, HK5⟩
    · obtain rfl : i = n := by omega
      have HK : Hid (∀ v : Int, Vx i v → lv ls v = 0 → tl1 kl v = true) := Lib.hid fun v hv h => HK.out v hv hv.2 h
      have HSTART := Lib.hid (⟨hkl, HB.out, HV.out, HK.out⟩ : _ ∧ _ ∧ _ ∧ _)
      clear HB HV HK HG
      go_wp2
      go_loopg [9] (falses kl + 1) (fun gk v wr => ∃ (ag : Bool) (kl : List Bool), v = .bool ag ∧ Hid (gk = if ag then falses kl + 1 else 0) ∧ kl.length = i ∧ Hid (Below Z w wr) ∧ Hid (Blk wr Z 4 (bcells kl)) ∧ Hid (∀ v : Int, Vx i v → lv ls v = 0 → tl1 kl v = true) ∧ Hid (ag = false → ∀ e ∈ es, Shut ls kl e))
      case atStart => exact ⟨true, kl, rfl, Lib.hid rfl, hkl, Lib.hid HSTART.out.2.1, Lib.hid HSTART.out.2.2.1, Lib.hid HSTART.out.2.2.2, Lib.hid (fun h => by cases h)⟩
      case round =>
        clear HSTART hkl
        obtain ⟨ag, kl0, rfl, HG, hkl0, HB, HV, HK, HC⟩ := hrel
        cases ag with
        | false =>
          have HALL := Lib.hid (asked_all HH.out HK.out (HC.out rfl))
          clear HC HK
          go_wp2
          go_loopg [12] i (fun gk v wr => ∃ (q : Nat), v = .int .i64 q ∧ q ≤ i ∧ gk = i - q ∧ Hid (Below Z w wr) ∧ Hid (Blk wr Z 4 (bcells kl0)))
          case atStart => exact ⟨0, rfl, Nat.zero_le _, by omega, HB, HV⟩
          case round =>
            clear HB HV
            obtain ⟨q, rfl, hqi, hgq, HB, HV⟩ := hrel
            have HG2 := Lib.hid hgq
            clear hgq
            by_cases hlq : q < i
            · have y0 := HV.out.bool (i := q) (by omega)
              rw [HALL.out q ⟨by omega, by omega⟩] at y0
              go_wp2
              go_roundg (i - (q + 1))
              case measure => have := HG2.out; omega
              case rel => exact ⟨q + 1, by go_num, by omega, rfl, HB, HV⟩
            · obtain rfl : q = i := by omega
              go_wp2
              go_ret
              exact ⟨rfl, by rw [HZ.out]; exact HB.out⟩
        | true =>
          clear HC
          go_wp2
          go_loopg [9, 10] m (fun gk v9 v10 wr => ∃ (q : Nat) (ag : Bool) (kl : List Bool), v9 = .bool ag ∧ v10 = .int .i64 q ∧ q ≤ m ∧ gk = m - q ∧ kl.length = i ∧ Hid (Below Z w wr) ∧ Hid (Blk wr Z 4 (bcells kl)) ∧ Hid (∀ v : Int, Vx i v → lv ls v = 0 → tl1 kl v = true) ∧
            Hid ((ag = false ∧ kl = kl0 ∧ ∀ e ∈ es.take q, Shut ls kl e) ∨ (ag = true ∧ falses kl < falses kl0)))
          case atStart => exact ⟨0, false, kl0, rfl, rfl, Nat.zero_le _, by omega, hkl0, HB, HV, HK, Lib.hid (.inl ⟨rfl, rfl, by simp⟩)⟩
          case round =>
            clear HB HV HK
            obtain ⟨q, ag, kl, rfl, rfl, hqm, hgq, hkl, HB, HV, HK, HC⟩ := hrel
            have HG2 := Lib.hid hgq
            clear hgq
            by_cases hlq : q < m
            · obtain ⟨b, o, hj1, rfl, hbb, c0, c1, c2, _⟩ := (HR.out.below HB.out).edge q hlq
              have hem := List.getElem_mem hj1
              have hok := HF.out.2.2 _ hem
              have HTK := Lib.hid (take_snoc es q hj1)
              have HSTEP : Hid (Shut ls kl es[q] → (ag = false ∧ kl = kl0 ∧ ∀ e ∈ es.take q, Shut ls kl e) ∨ (ag = true ∧ falses kl < falses kl0) → (ag = false ∧ kl = kl0 ∧ ∀ e ∈ es.take (q + 1), Shut ls kl e) ∨ (ag = true ∧ falses kl < falses kl0)) := Lib.hid fun h h1 => by
                rcases h1 with ⟨h1, h2, h3⟩ | h1
                · refine .inl ⟨h1, h2, fun e he => ?_⟩
                  rw [HTK.out] at he
                  rcases List.mem_append.1 he with he | he
                  · exact h3 e he
                  · rw [List.mem_singleton.1 he]; exact h
                · exact .inr h1
              clear hem HTK
              generalize es[q] = e at *
              obtain ⟨ef, et, en, er⟩ := e
              obtain ⟨p1, p2, p3, p4⟩ := hok
              dsimp only at c0 c1 c2 p1 p2 p3 p4
              obtain ⟨f, rfl⟩ : ∃ f : Nat, ef = (f : Int) := ⟨ef.toNat, by omega⟩
              obtain ⟨t, rfl⟩ : ∃ t : Nat, et = (t : Int) := ⟨et.toNat, by omega⟩
              have hfk : f < i := by omega
              have htk : t < i := by omega
              obtain ⟨b2, o2, hj2, rfl, hbb2, x0⟩ := (HR'.out.below HB.out).int f hfk
              obtain ⟨b3, o3, hj3, hA3, hbb3, x1⟩ := (HR'.out.below HB.out).int t htk
              obtain ⟨rfl, rfl⟩ : b2 = b3 ∧ o2 = o3 := by
                injection hA3 with hA
                injection hA with h1 h2
                exact ⟨h1, h2⟩
              rw [← lv_get hj2] at x0
              rw [← lv_get hj3] at x1
              have y0 := HV.out.bool (i := f) (by omega)
              have y1 := HV.out.bool (i := t) (by omega)
              have z1 := HV.out.frozen t
              have htl : t < kl.length := by omega
              have HSET : Hid (tl1 kl t = false → falses (kl.set t true) < falses kl) := Lib.hid fun h => by
                have := falses_set kl t htl (by unfold tl1 at h; rwa [Int.toNat_natCast] at h)
                omega
              have HSH : Hid (Shut ls kl ⟨f, t, en, er⟩ ↔ (tl1 kl f = true → lv ls f + stp ⟨f, t, en, er⟩ = lv ls t → tl1 kl t = true)) := Lib.hid Iff.rfl
              clear hA3
              generalize hlf : lv ls f = lf at *
              generalize hlt : lv ls t = lt at *
              generalize hkf : tl1 kl f = kf at *
              generalize hkt : tl1 kl t = kt at *
              have HEQ := Lib.hid (⟨hlf, hlt, hkf, hkt⟩ : _ ∧ _ ∧ _ ∧ _)
              clear hlf hlt hkf hkt
              cases en with
              | false =>
                have hst : stp ⟨f, t, false, er⟩ = 0 := rfl
                rw [hst, Int.add_zero] at HSH
                by_cases hall : kf = true ∧ kt = false ∧ lf = lt
                · obtain ⟨rfl, rfl, rfl⟩ := hall
                  have HFX : Hid (falses (kl.set t true) < falses kl0) := Lib.hid (by
                    have h1 := HSET.out rfl
                    rcases HC.out with ⟨_, h2, _⟩ | ⟨_, h2⟩
                    · rw [← h2]; exact h1
                    · omega)
                  have HK5 : Hid (∀ v : Int, Vx i v → lv ls v = 0 → tl1 (kl.set t true) v = true) := Lib.hid fun v hv h => by
                    rw [tl1_put htl]
                    split
                    · rfl
                    · exact HK.out v hv h
                  go_upto_region 17 with (fail)
                  have HB5 := Lib.hid (HB.out.setCell (p := ⟨Z, t, none⟩) (Nat.le_refl _) (.bool true))
                  have HV5 := Lib.hid (HV.out.set_ t (.bool true))
                  rw [bcells_set] at HV5
                  clear HB HV y0 y1 z1 x0 x1 c0 c1 c2
                  generalize World.setCell _ _ _ = w5 at *
                  go_wp2
                  go_roundg (m - (q + 1))
                  case measure => have := HG2.out; omega
                  case rel => exact ⟨q + 1, true, _, rfl, by go_num, by omega, rfl, by simpa using hkl, HB5, HV5, HK5, Lib.hid (.inr ⟨rfl, HFX.out⟩)⟩
                · have HX := Lib.hid (HSTEP.out (HSH.out.2 (fun h1 h2 => (Bool.eq_false_or_eq_true kt).elim id (fun h3 => absurd ⟨h1, h3, h2⟩ hall))) HC.out)
                  cases kf with
                  | false =>
                    go_wp2
                    go_roundg (m - (q + 1))
                    case measure => have := HG2.out; omega
                    case rel => exact ⟨q + 1, ag, kl, rfl, by go_num, by omega, rfl, hkl, HB, HV, HK, HX⟩
                  | true =>
                    cases kt with
                    | true =>
                      go_wp2
                      go_roundg (m - (q + 1))
                      case measure => have := HG2.out; omega
                      case rel => exact ⟨q + 1, ag, kl, rfl, by go_num, by omega, rfl, hkl, HB, HV, HK, HX⟩
                    | false =>
                      have hne : ¬ lf = lt := fun h => hall ⟨rfl, rfl, h⟩
                      have hneb : (lf == lt) = false := by simpa using hne
                      clear hall
                      go_wp2
                      go_roundg (m - (q + 1))
                      case measure => have := HG2.out; omega
                      case rel => exact ⟨q + 1, ag, kl, rfl, by go_num, by omega, rfl, hkl, HB, HV, HK, HX⟩
              | true =>
                have hst : stp ⟨f, t, true, er⟩ = 1 := rfl
                rw [hst] at HSH
                have hrng : lf + 1 < 4611686018427387904 ∧ -4611686018427387904 < lf := by
                  obtain ⟨M, hM, hMn⟩ := (HH.out.2.1.noBad).map HF.out
                  have h1 := HH.out.2.2 M hM f ⟨by omega, by omega⟩
                  have h2 := hMn f ⟨by omega, by omega⟩
                  have h3 := HH.out.2.1.1 f ⟨by omega, by omega⟩
                  rw [HEQ.out.1] at h1 h3
                  omega
                by_cases hall : kf = true ∧ kt = false ∧ lf + 1 = lt
                · obtain ⟨rfl, rfl, rfl⟩ := hall
                  have HFX : Hid (falses (kl.set t true) < falses kl0) := Lib.hid (by
                    have h1 := HSET.out rfl
                    rcases HC.out with ⟨_, h2, _⟩ | ⟨_, h2⟩
                    · rw [← h2]; exact h1
                    · omega)
                  have HK5 : Hid (∀ v : Int, Vx i v → lv ls v = 0 → tl1 (kl.set t true) v = true) := Lib.hid fun v hv h => by
                    rw [tl1_put htl]
                    split
                    · rfl
                    · exact HK.out v hv h
                  go_upto_region 17 with (fail)
                  have HB5 := Lib.hid (HB.out.setCell (p := ⟨Z, t, none⟩) (Nat.le_refl _) (.bool true))
                  have HV5 := Lib.hid (HV.out.set_ t (.bool true))
                  rw [bcells_set] at HV5
                  clear HB HV y0 y1 z1 x0 x1 c0 c1 c2
                  generalize World.setCell _ _ _ = w5 at *
                  go_wp2
                  go_roundg (m - (q + 1))
                  case measure => have := HG2.out; omega
                  case rel => exact ⟨q + 1, true, _, rfl, by go_num, by omega, rfl, by simpa using hkl, HB5, HV5, HK5, Lib.hid (.inr ⟨rfl, HFX.out⟩)⟩
                · have HX := Lib.hid (HSTEP.out (HSH.out.2 (fun h1 h2 => (Bool.eq_false_or_eq_true kt).elim id (fun h3 => absurd ⟨h1, h3, h2⟩ hall))) HC.out)
                  cases kf with
                  | false =>
                    go_wp2
                    go_roundg (m - (q + 1))
                    case measure => have := HG2.out; omega
                    case rel => exact ⟨q + 1, ag, kl, rfl, by go_num, by omega, rfl, hkl, HB, HV, HK, HX⟩
                  | true =>
                    cases kt with
                    | true =>
                      go_wp2
                      go_roundg (m - (q + 1))
                      case measure => have := HG2.out; omega
                      case rel => exact ⟨q + 1, ag, kl, rfl, by go_num, by omega, rfl, hkl, HB, HV, HK, HX⟩
                    | false =>
                      have hne : ¬ lf + 1 = lt := fun h => hall ⟨rfl, rfl, h⟩
                      have hneb : (lf + 1 == lt) = false := by simpa using hne
                      clear hall
                      go_wp2
                      go_roundg (m - (q + 1))
                      case measure => have := HG2.out; omega
                      case rel => exact ⟨q + 1, ag, kl, rfl, by go_num, by omega, rfl, hkl, HB, HV, HK, HX⟩
            · obtain rfl : q = m := by omega
              have HCX : Hid (ag = false → ∀ e ∈ es, Shut ls kl e) := Lib.hid fun h e he => by
                rcases HC.out with ⟨_, _, h3⟩ | ⟨h1, _⟩
                · rw [List.take_of_length_le (by have := HL.out; omega)] at h3
                  exact h3 e he
                · rw [h] at h1; cases h1
              have HM : Hid ((if ag then falses kl + 1 else 0) < falses kl0 + 1) := Lib.hid (by
                rcases HC.out with ⟨h1, _, _⟩ | ⟨h1, h2⟩
                · rw [h1]; simp
                · rw [h1]; simp; omega)
              go_wp2
              go_roundg (if ag then falses kl + 1 else 0)
              case measure => have := HG.out; have := HM.out; simp only [if_true] at *; omega
              case rel => exact ⟨ag, kl, rfl, Lib.hid rfl, hkl, HB, HV, HK, HCX⟩
end Go.Proofs.Ytefpglaipnnggaa
