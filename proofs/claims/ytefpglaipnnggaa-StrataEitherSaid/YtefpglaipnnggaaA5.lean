import Derived.Test.YtefpglaipnnggaaA3
import Derived.Test.YtefpglaipnnggaaA4
namespace Go.Proofs.Ytefpglaipnnggaa
open Go.RowKit

/-- The number at a place. -/
def lv (ls : List Int) (i : Int) : Int := ls.getD i.toNat 0

theorem Rd.ints {w : World} {B : Nat} {A : Option Addr} {n : Nat} {l : List Int} (h : Rd w B 1 A n (icells l)) (hn : 0 < n) :
    ∃ b o, A = some ⟨b, o, none⟩ ∧ b < B ∧ ∀ i : Int, 0 ≤ i → i < n → w.cell? ⟨b, o + i.toNat, none⟩ = some (.int .i64 (lv l i)) := by
  obtain ⟨h1, h2, h3⟩ := h
  obtain ⟨b, o, hA, hb, hc⟩ := h3 hn
  rw [icells_length] at h1
  refine ⟨b, o, hA, hb, fun i h0 hi => ?_⟩
  have hk' : i.toNat < l.length := by omega
  exact hc i.toNat _ (by simp [icells, hk', lv])

def okL (ls : List Int) (e : E) : Prop := lv ls e.f ≤ lv ls e.t ∧ (e.neg = true → lv ls e.t ≠ lv ls e.f)
def HoldsP (n : Int) (es : List E) (ls : List Int) : Prop := Fits n es ∧ (ls.length : Int) = n ∧ (∀ l ∈ ls, 0 ≤ l) ∧ ∀ e ∈ es, okL ls e
def holdsB (n : Int) (es : List E) (ls : List Int) : Bool :=
  fitB n es && decide ((ls.length : Int) = n) && ls.all (fun l => decide (0 ≤ l)) && es.all fun e => decide (lv ls e.f ≤ lv ls e.t) && (!e.neg || lv ls e.t != lv ls e.f)
theorem holdsB_iff (n : Int) (es : List E) (ls : List Int) : holdsB n es ls = true ↔ HoldsP n es ls := by
  simp only [holdsB, HoldsP, okL, Bool.and_eq_true, fitB_iff, decide_eq_true_eq, List.all_eq_true, Bool.or_eq_true, Bool.not_eq_true', bne_iff_ne, and_assoc]
  constructor
  · rintro ⟨h1, h2, h3, h4⟩
    refine ⟨h1, h2, h3, fun e he => ⟨(h4 e he).1, fun hn => ?_⟩⟩
    rcases (h4 e he).2 with h | h
    · rw [hn] at h; cases h
    · exact h
  · rintro ⟨h1, h2, h3, h4⟩
    refine ⟨h1, h2, h3, fun e he => ⟨(h4 e he).1, ?_⟩⟩
    cases hn : e.neg
    · exact .inl rfl
    · exact .inr ((h4 e he).2 hn)
theorem holdsB_false {n : Int} {es : List E} {ls : List Int} (h : ¬ HoldsP n es ls) : holdsB n es ls = false := by
  rw [← holdsB_iff] at h; simpa using h

theorem holds_neg {n : Int} {es : List E} {ls : List Int} {k : Nat} (hk : k < ls.length) (h : ls[k] < 0) : holdsB n es ls = false :=
  holdsB_false fun ⟨_, _, h3, _⟩ => by have := h3 ls[k] (List.getElem_mem _); omega
theorem holds_bad {n : Int} {es : List E} {ls : List Int} {k : Nat} (hk : k < es.length) (h : lv ls es[k].t < lv ls es[k].f ∨ (es[k].neg = true ∧ lv ls es[k].t = lv ls es[k].f)) : holdsB n es ls = false :=
  holdsB_false fun ⟨_, _, _, h4⟩ => by
    have := h4 es[k] (List.getElem_mem _)
    unfold okL at this
    rcases h with h | ⟨h, h'⟩
    · omega
    · exact this.2 h h'

theorem all_of_take {α : Type} {p : α → Prop} {l : List α} {k : Nat} (hk : l.length ≤ k) (h : ∀ e ∈ l.take k, p e) : ∀ e ∈ l, p e := by
  rw [List.take_of_length_le hk] at h; exact h

set_option maxHeartbeats 1000000 in
theorem refHolds_any (x : Int) (A A' : Option Addr) (n c m c' : Nat) (es : List E) (ls : List Int) (w : World) (hr : Rd w w.heap.size 4 A n (ecells es)) (hr' : Rd w w.heap.size 1 A' m (icells ls)) :
    Calls Try.prog 23 #[.int .i64 x, .slice A n c, .slice A' m c'] w fun e w' => e = .returned (.bool (holdsB x es ls)) ∧ w = w' := by
  have hlen : es.length = n := by have := hr.1; rw [ecells_length] at this; omega
  have hlen' : ls.length = m := by have := hr'.1; rw [icells_length] at this; omega
  have hn := hr.2.1
  have hm := hr'.2.1
  have HL := Lib.hid hlen
  have HL' := Lib.hid hlen'
  have HR := Lib.hid hr
  have HR' := Lib.hid hr'
  have HF := Lib.hid (refFit_any x A n c es w hr)
  clear hr hlen hr' hlen'
  by_cases hf : fitB x es = true
  case neg =>
    have hf : fitB x es = false := by simpa using hf
    have HD : Hid (holdsB x es ls = false) := holdsB_false fun h => by have := (fitB_iff x es).2 h.1; rw [hf] at this; cases this
    go_enter Try.func23, Try.ntmps23
    go_wp2_with (go_at_call 45; refine (HF.out).mono ?_; rintro e w' ⟨rfl, rfl⟩)
    go_ret
    exact ⟨by rw [HD.out]; rfl, rfl⟩
  have HP := Lib.hid ((fitB_iff x es).1 hf)
  by_cases hx : x = m
  case neg =>
    have hb : ((m : Int) != x) = true := by simp; omega
    have HD : Hid (holdsB x es ls = false) := holdsB_false fun h => by have := h.2.1; have := HL'.out; omega
    go_enter Try.func23, Try.ntmps23
    go_wp2_with (go_at_call 45; refine (HF.out).mono ?_; rintro e w' ⟨rfl, rfl⟩)
    go_ret
    exact ⟨by rw [HD.out]; rfl, rfl⟩
  subst hx
  go_enter Try.func23, Try.ntmps23
  go_wp2_with (go_at_call 45; refine (HF.out).mono ?_; rintro e w' ⟨rfl, rfl⟩)
  go_loop [7] (fun i => ∃ k : Nat, k ≤ m ∧ i = .int .i64 k ∧ ∀ e ∈ ls.take k, 0 ≤ e) (fun i => m - (intOf i).toNat)
  case atStart => exact ⟨0, Nat.zero_le _, rfl, by simp⟩
  case round =>
    obtain ⟨k, hk, rfl, hall⟩ := hrel
    have HA := Lib.hid hall
    clear hall
    by_cases hlt : k < m
    · obtain ⟨b, o, hk1, rfl, hb, c0⟩ := HR'.out.int k hlt
      by_cases hneg : ls[k] < 0
      · have HD := Lib.hid (holds_neg (n := m) (es := es) hk1 hneg)
        go_wp2
        go_ret
        exact ⟨by rw [HD.out]; rfl, rfl⟩
      · go_wp2
        go_round
        case rel => exact ⟨k + 1, by omega, by go_num, all_snoc hk1 HA.out (by omega)⟩
        case measure => simp [intOf]; omega
    · have HA := Lib.hid (all_of_take (by have := HL'.out; omega) HA.out)
      go_wp2
      go_loop [8] (fun i => ∃ k : Nat, k ≤ n ∧ i = .int .i64 k ∧ ∀ e ∈ es.take k, okL ls e) (fun i => n - (intOf i).toNat)
      case atStart => exact ⟨0, Nat.zero_le _, rfl, by simp⟩
      case round =>
        obtain ⟨k, hk, rfl, hall⟩ := hrel
        have HB := Lib.hid hall
        clear hall
        by_cases hlt : k < n
        · obtain ⟨b, o, hk1, rfl, hb, c0, c1, c2, c3⟩ := HR.out.edge k hlt
          obtain ⟨p1, p2, p3, p4⟩ := HP.out.2.2 _ (List.getElem_mem hk1)
          obtain ⟨b', o', rfl, hb', hc'⟩ := HR'.out.ints (by omega)
          have d1 := hc' _ p1 p2
          have d2 := hc' _ p3 p4
          clear hc'
          by_cases hbad : lv ls es[k].t < lv ls es[k].f ∨ (es[k].neg = true ∧ lv ls es[k].t = lv ls es[k].f)
          · have HD := Lib.hid (holds_bad (n := m) hk1 hbad)
            by_cases h1 : lv ls es[k].t < lv ls es[k].f
            · clear hbad
              go_wp2
              go_ret
              exact ⟨by rw [HD.out]; rfl, rfl⟩
            · have h2 : es[k].neg = true := by rcases hbad with h | h; exact absurd h h1; exact h.1
              have h3 : (lv ls es[k].t == lv ls es[k].f) = true := by rcases hbad with h | h; exact absurd h h1; simpa using h.2
              clear hbad
              go_wp2
              go_ret
              exact ⟨by rw [HD.out]; rfl, rfl⟩
          · have h1 : ¬ lv ls es[k].t < lv ls es[k].f := fun h => hbad (.inl h)
            have HO : Hid (okL ls es[k]) := ⟨by omega, fun h h' => hbad (.inr ⟨h, h'⟩)⟩
            by_cases h2 : es[k].neg = true
            · have h3 : (lv ls es[k].t == lv ls es[k].f) = false := by
                have := HO.out.2 h2; simpa using this
              clear hbad
              go_wp2
              go_round
              case rel => exact ⟨k + 1, by omega, by go_num, all_snoc hk1 HB.out HO.out⟩
              case measure => simp [intOf]; omega
            · have h2 : es[k].neg = false := by simpa using h2
              clear hbad
              go_wp2
              go_round
              case rel => exact ⟨k + 1, by omega, by go_num, all_snoc hk1 HB.out HO.out⟩
              case measure => simp [intOf]; omega
        · have HD : Hid (holdsB m es ls = true) := (holdsB_iff _ _ _).2 ⟨HP.out, by have := HL'.out; omega, HA.out, all_of_take (by have := HL.out; omega) HB.out⟩
          go_wp2
          go_ret
          exact ⟨by rw [HD.out]; rfl, rfl⟩
end Go.Proofs.Ytefpglaipnnggaa
