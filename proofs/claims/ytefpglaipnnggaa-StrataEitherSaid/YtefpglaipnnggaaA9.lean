import Derived.Test.YtefpglaipnnggaaA8
namespace Go.Proofs.Ytefpglaipnnggaa
open Go.RowKit

set_option maxHeartbeats 1000000 in
theorem strataCyclic_any (x : Int) (A A' : Option Addr) (n c m c' : Nat) (es : List E) (ls : List Int) (w : World) (hr : Rd w w.heap.size 4 A n (ecells es)) (hr' : Rd w w.heap.size 1 A' m (icells ls)) :
    Calls Try.prog 27 #[.int .i64 x, .slice A n c, .slice A' m c'] w fun e w' => e = .returned (.bool (cycB x es ls)) ∧ Below w.heap.size w w' := by
  have hlen : es.length = n := by have := hr.1; rw [ecells_length] at this; omega
  have hlen' : ls.length = m := by have := hr'.1; rw [icells_length] at this; omega
  have hn := hr.2.1
  have hm := hr'.2.1
  have HL := Lib.hid hlen
  have HL' := Lib.hid hlen'
  have HR := Lib.hid hr
  have HR' := Lib.hid hr'
  have HF := Lib.hid (may_any x A n c es w hr)
  clear hr hlen hr' hlen'
  by_cases hf : fitB x es = true
  case neg =>
    have hf : fitB x es = false := by simpa using hf
    have HD : Hid (cycB x es ls = false) := cycB_false fun h => by have := (fitB_iff x es).2 h.1; rw [hf] at this; cases this
    go_enter Try.func27, Try.ntmps27
    go_wp2_with (go_at_call 46; refine (HF.out).mono ?_; rintro e w1 ⟨rfl, hb1⟩)
    go_ret
    exact ⟨by rw [HD.out]; rfl, hb1⟩
  have HP := Lib.hid ((fitB_iff x es).1 hf)
  by_cases hx : m = 0
  case pos =>
    have HD : Hid (cycB x es ls = false) := cycB_false fun h => h.2.1 (List.length_eq_zero_iff.1 (HL'.out.trans hx))
    subst hx
    go_enter Try.func27, Try.ntmps27
    go_wp2_with (go_at_call 46; refine (HF.out).mono ?_; rintro e w1 ⟨rfl, hb1⟩)
    go_ret
    exact ⟨by rw [HD.out]; rfl, hb1⟩
  have hx0 : 0 < m := by omega
  have hxb : ((m : Int) == 0) = false := by simp; omega
  clear hx
  go_enter Try.func27, Try.ntmps27
  go_wp2_with (go_at_call 46; refine (HF.out).mono ?_; rintro e w1 ⟨rfl, hb1⟩)
  have HW := Lib.hid hb1
  have HR := Lib.hid (HR.out.below hb1)
  have HR' := Lib.hid (HR'.out.below hb1)
  clear hb1
  go_loop [7, 23] (fun g i => ∃ (k : Nat) (q : Bool), k ≤ m ∧ i = .int .i64 k ∧ g = .bool q ∧ (∀ e ∈ ls.take k, inR es.length e) ∧ q = (ls.take k).any (fun i => (ev es i).neg)) (fun _ i => m - (intOf i).toNat)
  case atStart => exact ⟨0, _, Nat.zero_le _, rfl, rfl, by simp, by simp⟩
  case round =>
    obtain ⟨k, q, hk, rfl, rfl, hall, hq⟩ := hrel
    have HA := Lib.hid hall
    have HQ := Lib.hid hq
    clear hall hq
    by_cases hlt : k < m
    · obtain ⟨b, o, hk1, rfl, hb, c0⟩ := HR'.out.int k hlt
      by_cases hbad : ls[k] < 0 ∨ (n : Int) ≤ ls[k]
      · have HD := Lib.hid (cyc_range (n := x) (es := es) hk1 (by rw [HL.out]; exact hbad))
        by_cases h1 : ls[k] < 0
        · clear hbad
          go_wp2
          go_ret
          exact ⟨by rw [HD.out]; rfl, HW.out⟩
        · have h2 : (n : Int) ≤ ls[k] := by omega
          clear hbad
          go_wp2
          go_ret
          exact ⟨by rw [HD.out]; rfl, HW.out⟩
      · have h1 : 0 ≤ ls[k] := by omega
        have h2 : ls[k] < n := by omega
        have HI : Hid (inR es.length ls[k]) := ⟨h1, by rw [HL.out]; exact h2⟩
        clear hbad
        obtain ⟨b', o', rfl, hb', hc'⟩ := HR.out.edges (by omega)
        obtain ⟨_, _, d2, _⟩ := hc' _ h1 h2
        clear hc'
        cases q
        · go_wp2
          go_round
          case rel => exact ⟨k + 1, _, by omega, by go_num, rfl, all_snoc hk1 HA.out HI.out, by rw [any_snoc _ hk1, ← HQ.out]; simp⟩
          case measure => simp [intOf]; omega
        · go_wp2
          go_round
          case rel => exact ⟨k + 1, _, by omega, by go_num, rfl, all_snoc hk1 HA.out HI.out, by rw [any_snoc _ hk1, ← HQ.out]; simp⟩
          case measure => simp [intOf]; omega
    · have HA := Lib.hid (all_of_take (by have := HL'.out; omega) HA.out)
      have HQ : Hid (q = ls.any (fun i => (ev es i).neg)) := by have := HQ.out; rw [List.take_of_length_le (by have := HL'.out; omega)] at this; exact this
      go_wp2
      go_loopw [46] (fun i wr => ∃ k : Nat, k ≤ m ∧ i = .int .i64 k ∧ (∀ j, j < k → stepOk es ls j) ∧ ∃ d, w1.drewN d = wr) (fun i _ => m - (intOf i).toNat)
      case atStart => exact ⟨0, Nat.zero_le _, rfl, by intro j hj; omega, 0, rfl⟩
      case round =>
        obtain ⟨k, hk, rfl, hall, d, rfl⟩ := hrel
        have HB := Lib.hid hall
        clear hall
        by_cases hlt : k < m
        · obtain ⟨b, o, hk1, rfl, hb, c0⟩ := HR'.out.int k hlt
          obtain ⟨_, _, hk2, he, _, c1⟩ := HR'.out.int ((k + 1) % m) (Nat.mod_lt _ hx0)
          simp only [Option.some.injEq, Addr.mk.injEq, and_true] at he
          obtain ⟨rfl, rfl⟩ := he
          have e1 : nextOf ls k = ls[(k + 1) % m] := nextOf_get HL'.out hk2
          have e0 : lv ls k = ls[k] := lv_get hk1
          have b1 : ((k : Int) + 1) % (m : Int) < m := Int.emod_lt_of_pos _ (by omega)
          have b0 : 0 ≤ ((k : Int) + 1) % (m : Int) := Int.emod_nonneg _ (by omega)
          obtain ⟨p1, p2⟩ := HA.out _ (List.getElem_mem hk1)
          obtain ⟨p3, p4⟩ := HA.out _ (List.getElem_mem hk2)
          rw [HL.out] at p2 p4
          have HS : Hid ((ev es ls[k]).t = (ev es ls[(k + 1) % m]).f → stepOk es ls k) := fun h => by unfold stepOk; rw [e0, e1]; exact h
          have HD : Hid ((ev es ls[k]).t ≠ (ev es ls[(k + 1) % m]).f → cycB x es ls = false) := fun h => cyc_step hk1 (by rw [e0, e1]; exact h)
          clear e0 e1
          generalize ls[k] = z0 at *
          generalize ls[(k + 1) % m] = z1 at *
          obtain ⟨b', o', rfl, hb', hc'⟩ := HR.out.edges (by omega)
          obtain ⟨_, d1, _, _⟩ := hc' z0 p1 p2
          obtain ⟨d0, _, _, _⟩ := hc' z1 p3 p4
          clear hc'
          by_cases hq : (ev es z0).t = (ev es z1).f
          · have HS := Lib.hid (HS.out hq)
            have hqb : ((ev es z0).t != (ev es z1).f) = false := by simp [hq]
            clear hq
            go_wp2
            go_quiet (fail)
            go_wp2
            go_roundw
            case rel => exact ⟨k + 1, by omega, by go_num, fun j hj => by
              by_cases h : j = k
              · subst h; exact HS.out
              · exact HB.out j (by omega), _, rfl⟩
            case measure => simp [intOf]; omega
          · have HD := Lib.hid (HD.out hq)
            have hqb : ((ev es z0).t != (ev es z1).f) = true := by simp [hq]
            clear hq
            go_wp2
            go_quiet (fail)
            go_wp2
            go_ret
            exact ⟨by rw [HD.out]; rfl, below_drewN (below_drewN HW.out _) _⟩
        · have HD : Hid (cycB x es ls = q) := (cycB_eq HP.out (fun h => by have := HL'.out; rw [h] at this; simp at this; omega) HA.out (fun j hj => HB.out j (by have := HL'.out; omega))).trans HQ.out.symm
          go_wp2
          go_ret
          exact ⟨by rw [HD.out]; rfl, below_drewN HW.out _⟩
set_option maxHeartbeats 1000000 in
theorem StrataCyclic_walk (x : Int) (A A' : Option Addr) (n c m c' : Nat) (es : List E) (ls : List Int) (w : World) (hr : Rd w w.heap.size 4 A n (ecells es)) (hr' : Rd w w.heap.size 1 A' m (icells ls))
    (h1 : n * 32 ≤ 140737488351232) (h2 : m * 8 ≤ 140737488351232) :
    Calls Try.prog 5 #[.int .i64 x, .slice A n c, .slice A' m c'] w fun e w' => e = .returned (.bool true) ∧ Below w.heap.size w w' := by
  have HR := Lib.hid hr
  have HR' := Lib.hid hr'
  clear hr hr'
  go_enter Try.func5, Try.ntmps5
  go_wp2_with fail
  refine (edges_sl A n c es _ HR.out (Nat.le_trans h1 (by decide))).mono ?_
  rintro e w1 ⟨A1, c1, rfl, hown1, hrd1, hb1⟩
  have hs1 := hb1.size
  have HB1 := Lib.hid hb1
  have HR1 := Lib.hid hrd1
  have HA := Lib.hid (HR.out.up hb1 hs1)
  have HA' := Lib.hid (HR'.out.up hb1 hs1)
  clear hown1 hrd1 hb1
  go_wp2_with fail
  refine (ints_sl A' m c' ls _ HA'.out h2).mono ?_
  rintro e w2 ⟨A2, c2, rfl, hown2, hrd2, hb2⟩
  have hs2 := hb2.size
  have HB2 := Lib.hid hb2
  have HR2 := Lib.hid hrd2
  have HR1 := Lib.hid (HR1.out.up hb2 hs2)
  have HA := Lib.hid (HA.out.up hb2 hs2)
  have HA' := Lib.hid (HA'.out.up hb2 hs2)
  clear hown2 hrd2 hb2
  go_wp2_with fail
  refine (refCyclic_any x A A' n c m c' es ls _ HA.out HA'.out).mono ?_
  rintro e w2' ⟨rfl, hb2⟩
  have hs2' := hb2.size
  have HB2' := Lib.hid hb2
  have HR1 := Lib.hid (HR1.out.up hb2 hs2')
  have HR2 := Lib.hid (HR2.out.up hb2 hs2')
  have HA := Lib.hid (HA.out.up hb2 hs2')
  have HA' := Lib.hid (HA'.out.up hb2 hs2')
  clear hb2
  go_wp2_with fail
  refine (strataCyclic_any x A1 A2 n c1 m c2 es ls _ HR1.out HR2.out).mono ?_
  rintro e w3 ⟨rfl, hb3⟩
  have hs3 := hb3.size
  have HB3 := Lib.hid hb3
  have HR1 := Lib.hid (HR1.out.up hb3 hs3)
  have HR2 := Lib.hid (HR2.out.up hb3 hs3)
  have HA := Lib.hid (HA.out.up hb3 hs3)
  have HA' := Lib.hid (HA'.out.up hb3 hs3)
  clear hb3
  have hq : (cycB x es ls == cycB x es ls) = true := by simp
  have hq2 : decide (es = es) = true := by simp
  have hq3 : decide (ls = ls) = true := by simp
  go_wp2_with fail
  refine (equalEdges_any A1 A n n c1 c es es _ HR1.out HA.out).mono ?_
  rintro e w4 ⟨rfl, q4, rfl⟩
  go_wp2_with fail
  refine (equalInts_any A2 A' m m c2 c' ls ls _ (HR2.out.up (below_drewN (Below.refl _ _) q4) (Nat.le_refl _)) (HA'.out.up (below_drewN (Below.refl _ _) q4) (Nat.le_refl _))).mono ?_
  rintro e w5 ⟨rfl, hq5⟩
  have hb5 := (drew_below hq5)
  have hs5 := hb5.size
  have HB5 : Hid (Below w.heap.size w w5) := ((((HB1.out.trans (HB2.out.mono hs1)).trans (HB2'.out.mono (Nat.le_trans hs1 hs2))).trans (HB3.out.mono (Nat.le_trans hs1 (Nat.le_trans hs2 hs2')))).trans ((below_drewN (Below.refl _ _) q4).mono (Nat.le_trans hs1 (Nat.le_trans hs2 (Nat.le_trans hs2' hs3))))).trans (hb5.mono (Nat.le_trans hs1 (Nat.le_trans hs2 (Nat.le_trans hs2' hs3))))
  have hs := HB5.out.size
  clear hb5 hq5
  have hone : cycB 1 [⟨0, 0, true, 0⟩] [0] = true := by decide
  have HT := Lib.hid hone
  clear hone
  go_wp2_with fail
  refine (strataCyclic_any 1 (some ⟨w5.heap.size, 0, none⟩) (some ⟨w5.heap.size + 1, 0, none⟩) 1 1 1 1 [⟨0, 0, true, 0⟩] [0] _ ?_ ?_).mono ?_
  · exact (Rd_new w5 _ _ 4 rfl).up ((Below.refl _ _).alloc (Nat.le_refl _) _) (by simp)
  · have := Rd_new (w5.alloc (.cells #[.int .i64 0, .int .i64 0, .bool true, .int .i64 0] 43)) #[.int .i64 0] 3 1 rfl
    show Rd _ _ 1 _ 1 [Value.int .i64 0]
    simpa using this
  rintro e w6 ⟨rfl, hb6⟩
  have HB6 := Lib.hid hb6
  clear hb6
  rw [HT.out]
  go_wp2
  go_ret
  exact ⟨rfl, ((HB5.out.alloc hs _).alloc (by simp; omega) _).trans (HB6.out.mono (by simp; omega))⟩
end Go.Proofs.Ytefpglaipnnggaa
