import Derived.Test.YtefpglaipnnggaaA5
namespace Go.Proofs.Ytefpglaipnnggaa
open Go.RowKit

set_option maxHeartbeats 1000000 in
theorem strataHolds_any (x : Int) (A A' : Option Addr) (n c m c' : Nat) (es : List E) (ls : List Int) (w : World) (hr : Rd w w.heap.size 4 A n (ecells es)) (hr' : Rd w w.heap.size 1 A' m (icells ls)) :
    Calls Try.prog 24 #[.int .i64 x, .slice A n c, .slice A' m c'] w fun e w' => e = .returned (.bool (holdsB x es ls)) ∧ Below w.heap.size w w' := by
  have hlen : es.length = n := by have := hr.1; rw [ecells_length] at this; omega
  have hlen' : ls.length = m := by have := hr'.1; rw [icells_length] at this; omega
  have hn := hr.2.1
  have hm := hr'.2.1
  have HL := Lib.hid hlen
  have HL' := Lib.hid hlen'
  have HR := Lib.hid hr
  have HR' := Lib.hid hr'
  have HF := Lib.hid (may_any x A n c es w hr)
  clear hr hlen hr' hlen'
  by_cases hf : fitB x es = true
  case neg =>
    have hf : fitB x es = false := by simpa using hf
    have HD : Hid (holdsB x es ls = false) := holdsB_false fun h => by have := (fitB_iff x es).2 h.1; rw [hf] at this; cases this
    go_enter Try.func24, Try.ntmps24
    go_wp2_with (go_at_call 46; refine (HF.out).mono ?_; rintro e w1 ⟨rfl, hb1⟩)
    go_ret
    exact ⟨by rw [HD.out]; rfl, hb1⟩
  have HP := Lib.hid ((fitB_iff x es).1 hf)
  by_cases hx : x = m
  case neg =>
    have hb : ((m : Int) != x) = true := by simp; omega
    have HD : Hid (holdsB x es ls = false) := holdsB_false fun h => by have := h.2.1; have := HL'.out; omega
    go_enter Try.func24, Try.ntmps24
    go_wp2_with (go_at_call 46; refine (HF.out).mono ?_; rintro e w1 ⟨rfl, hb1⟩)
    go_ret
    exact ⟨by rw [HD.out]; rfl, hb1⟩
  subst hx
  go_enter Try.func24, Try.ntmps24
  go_wp2_with (go_at_call 46; refine (HF.out).mono ?_; rintro e w1 ⟨rfl, hb1⟩)
  have HB1 := Lib.hid hb1
  clear hb1
  go_loop [8, 23] (fun _ i => ∃ k : Nat, k ≤ m ∧ i = .int .i64 k ∧ ∀ e ∈ ls.take k, 0 ≤ e) (fun _ i => m - (intOf i).toNat)
  case atStart => exact ⟨0, Nat.zero_le _, rfl, by simp⟩
  case round =>
    obtain ⟨k, hk, rfl, hall⟩ := hrel
    have HA := Lib.hid hall
    clear hall
    by_cases hlt : k < m
    · obtain ⟨b, o, hk1, rfl, hb, c0⟩ := (HR'.out.below HB1.out).int k hlt
      by_cases hneg : ls[k] < 0
      · have HD := Lib.hid (holds_neg (n := m) (es := es) hk1 hneg)
        go_wp2
        go_ret
        exact ⟨by rw [HD.out]; rfl, HB1.out⟩
      · go_wp2
        go_round
        case rel => exact ⟨k + 1, by omega, by go_num, all_snoc hk1 HA.out (by omega)⟩
        case measure => simp [intOf]; omega
    · have HA := Lib.hid (all_of_take (by have := HL'.out; omega) HA.out)
      go_wp2
      go_loopw [32] (fun i wr => ∃ k : Nat, k ≤ n ∧ i = .int .i64 k ∧ (∀ e ∈ es.take k, okL ls e) ∧ Below w.heap.size w wr) (fun i _ => n - (intOf i).toNat)
      case atStart => exact ⟨0, Nat.zero_le _, rfl, by simp, HB1.out⟩
      case round =>
        obtain ⟨k, hk, rfl, hall, hbel⟩ := hrel
        have HB := Lib.hid hall
        have HW := Lib.hid hbel
        have hsz := hbel.size
        clear hall hbel
        by_cases hlt : k < n
        · obtain ⟨b, o, hk1, rfl, hb, c0, c1, c2, c3⟩ := (HR.out.below HW.out).edge k hlt
          obtain ⟨p1, p2, p3, p4⟩ := HP.out.2.2 _ (List.getElem_mem hk1)
          obtain ⟨b', o', rfl, hb', hc'⟩ := (HR'.out.below HW.out).ints (by omega)
          have hb2 : b' < wr.heap.size := by omega
          have d1 := hc' _ p1 p2
          have d2 := hc' _ p3 p4
          clear hc'
          by_cases hbad : lv ls es[k].t < lv ls es[k].f ∨ (es[k].neg = true ∧ lv ls es[k].t = lv ls es[k].f)
          · have HD := Lib.hid (holds_bad (n := m) hk1 hbad)
            by_cases h1 : lv ls es[k].t < lv ls es[k].f
            · clear hbad
              go_wp2
              go_quiet (fail)
              go_wp2
              go_ret
              exact ⟨by rw [HD.out]; rfl, below_drewN (HW.out.alloc hsz _) _⟩
            · have h2 : es[k].neg = true := by rcases hbad with h | h; exact absurd h h1; exact h.1
              have h3 : (lv ls es[k].t == lv ls es[k].f) = true := by rcases hbad with h | h; exact absurd h h1; simpa using h.2
              have h1 : decide (lv ls es[k].t < lv ls es[k].f) = false := by simpa using h1
              clear hbad
              go_wp2
              go_quiet (fail)
              go_wp2
              go_ret
              exact ⟨by rw [HD.out]; rfl, below_drewN (HW.out.alloc hsz _) _⟩
          · have h1' : ¬ lv ls es[k].t < lv ls es[k].f := fun h => hbad (.inl h)
            have h1 : decide (lv ls es[k].t < lv ls es[k].f) = false := by simpa using h1'
            have HO : Hid (okL ls es[k]) := ⟨by omega, fun h h' => hbad (.inr ⟨h, h'⟩)⟩
            clear h1'
            by_cases h2 : es[k].neg = true
            · have h3 : (lv ls es[k].t == lv ls es[k].f) = false := by
                have := HO.out.2 h2; simpa using this
              clear hbad
              go_wp2
              go_quiet (fail)
              go_wp2
              go_roundw
              case rel => exact ⟨k + 1, by omega, by go_num, all_snoc hk1 HB.out HO.out, below_drewN (HW.out.alloc hsz _) _⟩
              case measure => simp [intOf]; omega
            · have h2 : es[k].neg = false := by simpa using h2
              clear hbad
              go_wp2
              go_quiet (fail)
              go_wp2
              go_roundw
              case rel => exact ⟨k + 1, by omega, by go_num, all_snoc hk1 HB.out HO.out, below_drewN (HW.out.alloc hsz _) _⟩
              case measure => simp [intOf]; omega
        · have HD : Hid (holdsB m es ls = true) := (holdsB_iff _ _ _).2 ⟨HP.out, by have := HL'.out; omega, HA.out, all_of_take (by have := HL.out; omega) HB.out⟩
          go_wp2
          go_ret
          exact ⟨by rw [HD.out]; rfl, HW.out⟩
end Go.Proofs.Ytefpglaipnnggaa
