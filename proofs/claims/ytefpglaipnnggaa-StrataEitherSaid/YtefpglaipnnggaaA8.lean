import Derived.Test.YtefpglaipnnggaaA7
namespace Go.Proofs.Ytefpglaipnnggaa
open Go.RowKit

/-- The edge at a place. -/
def ev (es : List E) (i : Int) : E := es.getD i.toNat ⟨0, 0, false, 0⟩

theorem Rd.edges {w : World} {B : Nat} {A : Option Addr} {n : Nat} {es : List E} (h : Rd w B 4 A n (ecells es)) (hn : 0 < n) :
    ∃ b o, A = some ⟨b, o, none⟩ ∧ b < B ∧ ∀ i : Int, 0 ≤ i → i < n → w.cell? ⟨b, o + i.toNat * 4, none⟩ = some (.int .i64 (ev es i).f) ∧ w.cell? ⟨b, o + i.toNat * 4 + 1, none⟩ = some (.int .i64 (ev es i).t)
      ∧ w.cell? ⟨b, o + i.toNat * 4 + 2, none⟩ = some (.bool (ev es i).neg) ∧ w.cell? ⟨b, o + i.toNat * 4 + 3, none⟩ = some (.int .i64 (ev es i).r) := by
  obtain ⟨b, o, h2, hA, hb, _⟩ := h.edge 0 hn
  refine ⟨b, o, hA, hb, fun i h0 hi => ?_⟩
  obtain ⟨b', o', hk, hA', _, c0, c1, c2, c3⟩ := h.edge i.toNat (by omega)
  rw [hA] at hA'
  injection hA' with hA'
  injection hA' with h1 h2
  subst h1 h2
  have e : ev es i = es[i.toNat] := by simp [ev, hk]
  rw [e]
  exact ⟨c0, c1, c2, c3⟩

def inR (m : Nat) (i : Int) : Prop := 0 ≤ i ∧ i < m
def nextOf (wk : List Int) (k : Nat) : Int := lv wk (((k + 1) % wk.length : Nat) : Int)
def stepOk (es : List E) (wk : List Int) (k : Nat) : Prop := (ev es (lv wk k)).t = (ev es (nextOf wk k)).f
def CycP (n : Int) (es : List E) (wk : List Int) : Prop :=
  Fits n es ∧ wk ≠ [] ∧ (∀ i ∈ wk, inR es.length i) ∧ (∀ k, k < wk.length → stepOk es wk k) ∧ wk.any (fun i => (ev es i).neg) = true
def cycB (n : Int) (es : List E) (wk : List Int) : Bool :=
  fitB n es && !wk.isEmpty && wk.all (fun i => decide (0 ≤ i) && decide (i < es.length)) && (List.range wk.length).all (fun k => (ev es (lv wk k)).t == (ev es (nextOf wk k)).f) && wk.any (fun i => (ev es i).neg)
theorem cycB_iff (n : Int) (es : List E) (wk : List Int) : cycB n es wk = true ↔ CycP n es wk := by
  simp only [cycB, CycP, inR, stepOk, Bool.and_eq_true, fitB_iff, List.all_eq_true, decide_eq_true_eq, Bool.not_eq_true', List.isEmpty_eq_false_iff, beq_iff_eq, List.mem_range, and_assoc]
theorem cycB_false {n : Int} {es : List E} {wk : List Int} (h : ¬ CycP n es wk) : cycB n es wk = false := by
  rw [← cycB_iff] at h; simpa using h
theorem cycB_eq {n : Int} {es : List E} {wk : List Int} (h1 : Fits n es) (h2 : wk ≠ []) (h3 : ∀ i ∈ wk, inR es.length i) (h4 : ∀ k, k < wk.length → stepOk es wk k) : cycB n es wk = wk.any (fun i => (ev es i).neg) := by
  cases h : wk.any (fun i => (ev es i).neg)
  · exact cycB_false fun hc => by rw [hc.2.2.2.2] at h; cases h
  · exact (cycB_iff _ _ _).2 ⟨h1, h2, h3, h4, h⟩

theorem cyc_range {n : Int} {es : List E} {wk : List Int} {k : Nat} (hk : k < wk.length) (h : wk[k] < 0 ∨ (es.length : Int) ≤ wk[k]) : cycB n es wk = false :=
  cycB_false fun hc => by
    have := hc.2.2.1 wk[k] (List.getElem_mem _)
    unfold inR at this; omega
theorem cyc_step {n : Int} {es : List E} {wk : List Int} {k : Nat} (hk : k < wk.length) (h : (ev es (lv wk k)).t ≠ (ev es (nextOf wk k)).f) : cycB n es wk = false :=
  cycB_false fun hc => h (hc.2.2.2.1 k hk)
theorem lv_get {l : List Int} {k : Nat} (hk : k < l.length) : lv l k = l[k] := by simp [lv, hk]

theorem any_snoc {α : Type} (p : α → Bool) {l : List α} {k : Nat} (hk : k < l.length) : (l.take (k + 1)).any p = ((l.take k).any p || p l[k]) := by
  rw [take_snoc _ _ hk, List.any_append, List.any_cons, List.any_nil, Bool.or_false]

theorem nextOf_get {ls : List Int} {k m : Nat} (h : ls.length = m) (hk : (k + 1) % m < ls.length) : nextOf ls k = ls[(k + 1) % m] := by
  subst h; exact lv_get hk

set_option maxHeartbeats 1000000 in
theorem refCyclic_any (x : Int) (A A' : Option Addr) (n c m c' : Nat) (es : List E) (ls : List Int) (w : World) (hr : Rd w w.heap.size 4 A n (ecells es)) (hr' : Rd w w.heap.size 1 A' m (icells ls)) :
    Calls Try.prog 26 #[.int .i64 x, .slice A n c, .slice A' m c'] w fun e w' => e = .returned (.bool (cycB x es ls)) ∧ Below w.heap.size w w' := by
  have hlen : es.length = n := by have := hr.1; rw [ecells_length] at this; omega
  have hlen' : ls.length = m := by have := hr'.1; rw [icells_length] at this; omega
  have hn := hr.2.1
  have hm := hr'.2.1
  have HL := Lib.hid hlen
  have HL' := Lib.hid hlen'
  have HR := Lib.hid hr
  have HR' := Lib.hid hr'
  have HF := Lib.hid (refFit_any x A n c es w hr)
  clear hr hlen hr' hlen'
  by_cases hf : fitB x es = true
  case neg =>
    have hf : fitB x es = false := by simpa using hf
    have HD : Hid (cycB x es ls = false) := cycB_false fun h => by have := (fitB_iff x es).2 h.1; rw [hf] at this; cases this
    go_enter Try.func26, Try.ntmps26
    go_wp2_with (go_at_call 45; refine (HF.out).mono ?_; rintro e w' ⟨rfl, rfl⟩)
    go_ret
    exact ⟨by rw [HD.out]; rfl, Below.refl _ _⟩
  have HP := Lib.hid ((fitB_iff x es).1 hf)
  by_cases hx : m = 0
  case pos =>
    have HD : Hid (cycB x es ls = false) := cycB_false fun h => h.2.1 (List.length_eq_zero_iff.1 (HL'.out.trans hx))
    subst hx
    go_enter Try.func26, Try.ntmps26
    go_wp2_with (go_at_call 45; refine (HF.out).mono ?_; rintro e w' ⟨rfl, rfl⟩)
    go_ret
    exact ⟨by rw [HD.out]; rfl, Below.refl _ _⟩
  have hx0 : 0 < m := by omega
  have hxb : ((m : Int) == 0) = false := by simp; omega
  clear hx
  go_enter Try.func26, Try.ntmps26
  go_wp2_with (go_at_call 45; refine (HF.out).mono ?_; rintro e w' ⟨rfl, rfl⟩)
  go_loop [7, 8] (fun g i => ∃ (k : Nat) (q : Bool), k ≤ m ∧ i = .int .i64 k ∧ g = .bool q ∧ (∀ e ∈ ls.take k, inR es.length e) ∧ q = (ls.take k).any (fun i => (ev es i).neg)) (fun _ i => m - (intOf i).toNat)
  case atStart => exact ⟨0, _, Nat.zero_le _, rfl, rfl, by simp, by simp⟩
  case round =>
    obtain ⟨k, q, hk, rfl, rfl, hall, hq⟩ := hrel
    have HA := Lib.hid hall
    have HQ := Lib.hid hq
    clear hall hq
    by_cases hlt : k < m
    · obtain ⟨b, o, hk1, rfl, hb, c0⟩ := HR'.out.int k hlt
      by_cases hbad : ls[k] < 0 ∨ (n : Int) ≤ ls[k]
      · have HD := Lib.hid (cyc_range (n := x) (es := es) hk1 (by rw [HL.out]; exact hbad))
        by_cases h1 : ls[k] < 0
        · clear hbad
          go_wp2
          go_ret
          exact ⟨by rw [HD.out]; rfl, Below.refl _ _⟩
        · have h2 : (n : Int) ≤ ls[k] := by omega
          clear hbad
          go_wp2
          go_ret
          exact ⟨by rw [HD.out]; rfl, Below.refl _ _⟩
      · have h1 : 0 ≤ ls[k] := by omega
        have h2 : ls[k] < n := by omega
        have HI : Hid (inR es.length ls[k]) := ⟨h1, by rw [HL.out]; exact h2⟩
        clear hbad
        obtain ⟨b', o', rfl, hb', hc'⟩ := HR.out.edges (by omega)
        obtain ⟨_, _, d2, _⟩ := hc' _ h1 h2
        clear hc'
        cases q
        · go_wp2
          go_round
          case rel => exact ⟨k + 1, _, by omega, by go_num, rfl, all_snoc hk1 HA.out HI.out, by rw [any_snoc _ hk1, ← HQ.out]; simp⟩
          case measure => simp [intOf]; omega
        · go_wp2
          go_round
          case rel => exact ⟨k + 1, _, by omega, by go_num, rfl, all_snoc hk1 HA.out HI.out, by rw [any_snoc _ hk1, ← HQ.out]; simp⟩
          case measure => simp [intOf]; omega
    · have HA := Lib.hid (all_of_take (by have := HL'.out; omega) HA.out)
      have HQ : Hid (q = ls.any (fun i => (ev es i).neg)) := by have := HQ.out; rw [List.take_of_length_le (by have := HL'.out; omega)] at this; exact this
      go_wp2
      go_loopw [9] (fun i wr => ∃ k : Nat, k ≤ m ∧ i = .int .i64 k ∧ (∀ j, j < k → stepOk es ls j) ∧ ∃ d, w.drewN d = wr) (fun i _ => m - (intOf i).toNat)
      case atStart => exact ⟨0, Nat.zero_le _, rfl, by intro j hj; omega, 0, rfl⟩
      case round =>
        obtain ⟨k, hk, rfl, hall, d, rfl⟩ := hrel
        have HB := Lib.hid hall
        clear hall
        by_cases hlt : k < m
        · obtain ⟨b, o, hk1, rfl, hb, c0⟩ := HR'.out.int k hlt
          obtain ⟨_, _, hk2, he, _, c1⟩ := HR'.out.int ((k + 1) % m) (Nat.mod_lt _ hx0)
          simp only [Option.some.injEq, Addr.mk.injEq, and_true] at he
          obtain ⟨rfl, rfl⟩ := he
          have e1 : nextOf ls k = ls[(k + 1) % m] := nextOf_get HL'.out hk2
          have e0 : lv ls k = ls[k] := lv_get hk1
          have b1 : ((k : Int) + 1) % (m : Int) < m := Int.emod_lt_of_pos _ (by omega)
          have b0 : 0 ≤ ((k : Int) + 1) % (m : Int) := Int.emod_nonneg _ (by omega)
          obtain ⟨p1, p2⟩ := HA.out _ (List.getElem_mem hk1)
          obtain ⟨p3, p4⟩ := HA.out _ (List.getElem_mem hk2)
          rw [HL.out] at p2 p4
          have HS : Hid ((ev es ls[k]).t = (ev es ls[(k + 1) % m]).f → stepOk es ls k) := fun h => by unfold stepOk; rw [e0, e1]; exact h
          have HD : Hid ((ev es ls[k]).t ≠ (ev es ls[(k + 1) % m]).f → cycB x es ls = false) := fun h => cyc_step hk1 (by rw [e0, e1]; exact h)
          clear e0 e1
          generalize ls[k] = z0 at *
          generalize ls[(k + 1) % m] = z1 at *
          obtain ⟨b', o', rfl, hb', hc'⟩ := HR.out.edges (by omega)
          obtain ⟨_, d1, _, _⟩ := hc' z0 p1 p2
          obtain ⟨d0, _, _, _⟩ := hc' z1 p3 p4
          clear hc'
          by_cases hq : (ev es z0).t = (ev es z1).f
          · have HS := Lib.hid (HS.out hq)
            have hqb : ((ev es z0).t != (ev es z1).f) = false := by simp [hq]
            clear hq
            go_wp2_with fail
            go_quiet (fail)
            go_wp2
            go_roundw
            case rel => exact ⟨k + 1, by omega, by go_num, fun j hj => by
              by_cases h : j = k
              · subst h; exact HS.out
              · exact HB.out j (by omega), _, rfl⟩
            case measure => simp [intOf]; omega
          · have HD := Lib.hid (HD.out hq)
            have hqb : ((ev es z0).t != (ev es z1).f) = true := by simp [hq]
            clear hq
            go_wp2_with fail
            go_quiet (fail)
            go_wp2
            go_ret
            exact ⟨by rw [HD.out]; rfl, drew_below (drew_more ⟨_, rfl⟩ _)⟩
        · have HD : Hid (cycB x es ls = q) := (cycB_eq HP.out (fun h => by have := HL'.out; rw [h] at this; simp at this; omega) HA.out (fun j hj => HB.out j (by have := HL'.out; omega))).trans HQ.out.symm
          go_wp2
          go_ret
          exact ⟨by rw [HD.out]; rfl, drew_below ⟨_, rfl⟩⟩
end Go.Proofs.Ytefpglaipnnggaa
