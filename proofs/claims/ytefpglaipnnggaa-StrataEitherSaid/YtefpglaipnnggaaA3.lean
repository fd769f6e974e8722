import Derived.Test.YtefpglaipnnggaaA2
namespace Go.Proofs.Ytefpglaipnnggaa
open Go.RowKit

def okE (n : Int) (e : E) : Prop := 0 ≤ e.f ∧ e.f < n ∧ 0 ≤ e.t ∧ e.t < n
def Fits (n : Int) (es : List E) : Prop := 0 ≤ n ∧ n ≤ 128 ∧ ∀ e ∈ es, okE n e
def fitB (n : Int) (es : List E) : Bool := decide (0 ≤ n) && decide (n ≤ 128) && es.all fun e => decide (0 ≤ e.f) && decide (e.f < n) && decide (0 ≤ e.t) && decide (e.t < n)
theorem fitB_iff (n : Int) (es : List E) : fitB n es = true ↔ Fits n es := by
  simp [fitB, Fits, okE, and_assoc]
theorem fitB_false {n : Int} {es : List E} (h : ¬ Fits n es) : fitB n es = false := by
  rw [← fitB_iff] at h; simpa using h

theorem fit_num {n : Int} {es : List E} (h : n < 0 ∨ 128 < n) : fitB n es = false :=
  fitB_false fun ⟨h1, h2, _⟩ => by omega

theorem fit_bad {n : Int} {es : List E} {k : Nat} (hk : k < es.length) (h : es[k].f < 0 ∨ n ≤ es[k].f ∨ es[k].t < 0 ∨ n ≤ es[k].t) : fitB n es = false :=
  fitB_false fun ⟨h1, h2, h3⟩ => by
    have := h3 es[k] (List.getElem_mem _)
    unfold okE at this; omega

theorem all_snoc {α : Type} {p : α → Prop} {l : List α} {k : Nat} (hk : k < l.length) (h : ∀ e ∈ l.take k, p e) (he : p l[k]) : ∀ e ∈ l.take (k + 1), p e := by
  rw [take_snoc _ _ hk]
  intro e hm
  rcases List.mem_append.1 hm with hm | hm
  · exact h e hm
  · simp only [List.mem_singleton] at hm; subst hm; exact he

theorem fit_all {n : Int} {es : List E} {k : Nat} (hk : es.length ≤ k) (h0 : 0 ≤ n) (h1 : n ≤ 128) (h : ∀ e ∈ es.take k, okE n e) : fitB n es = true := by
  rw [List.take_of_length_le hk] at h
  exact (fitB_iff n es).2 ⟨h0, h1, h⟩

set_option maxHeartbeats 400000 in
theorem refFit_any (x : Int) (A : Option Addr) (n c : Nat) (es : List E) (w : World) (hr : Rd w w.heap.size 4 A n (ecells es)) :
    Calls Try.prog 45 #[.int .i64 x, .slice A n c] w fun e w' => e = .returned (.bool (fitB x es)) ∧ w = w' := by
  have hlen : es.length = n := by have := hr.1; rw [ecells_length] at this; omega
  have hn := hr.2.1
  have HL := Lib.hid hlen
  have HR := Lib.hid hr
  clear hr hlen
  by_cases hx : x < 0 ∨ 128 < x
  · have HD := Lib.hid (fit_num (es := es) hx)
    go_enter Try.func45, Try.ntmps45
    go_wp2
    all_goals first | (go_ret; exact ⟨by rw [HD.out]; rfl, rfl⟩) | skip
    all_goals (exfalso; omega)
  · have hx0 : 0 ≤ x := by omega
    have hx1 : x ≤ 128 := by omega
    clear hx
    go_enter Try.func45, Try.ntmps45
    go_wp2
    go_loop [5] (fun i => ∃ k : Nat, k ≤ n ∧ i = .int .i64 k ∧ ∀ e ∈ es.take k, okE x e) (fun i => n - (intOf i).toNat)
    case atStart => exact ⟨0, Nat.zero_le _, rfl, by simp⟩
    case round =>
      obtain ⟨k, hk, rfl, hall⟩ := hrel
      have HA := Lib.hid hall
      clear hall
      by_cases hlt : k < n
      · obtain ⟨b, o, hk1, rfl, hb, c0, c1, c2, c3⟩ := HR.out.edge k hlt
        go_wp2
        case roundEnd =>
          go_round
          case rel => exact ⟨k + 1, by omega, by go_num, all_snoc hk1 HA.out ⟨by omega, by omega, by omega, by omega⟩⟩
          case measure => simp [intOf]; omega
        all_goals
          have hbad := fit_bad (n := x) hk1 (by omega)
          go_ret
          exact ⟨by rw [hbad]; rfl, rfl⟩
      · have HD := Lib.hid (fit_all (by have := HL.out; omega) hx0 hx1 HA.out)
        go_wp2
        go_ret
        exact ⟨by rw [HD.out]; rfl, rfl⟩
set_option maxHeartbeats 400000 in
theorem lawFit_any (x : Int) (A : Option Addr) (n c : Nat) (es : List E) (w : World) (hr : Rd w w.heap.size 4 A n (ecells es)) :
    Calls Try.prog 33 #[.int .i64 x, .slice A n c] w fun e w' => e = .returned (.bool (fitB x es)) ∧ w = w' := by
  have hlen : es.length = n := by have := hr.1; rw [ecells_length] at this; omega
  have hn := hr.2.1
  have HL := Lib.hid hlen
  have HR := Lib.hid hr
  clear hr hlen
  by_cases hx : x < 0 ∨ 128 < x
  · have HD := Lib.hid (fit_num (es := es) hx)
    go_enter Try.func33, Try.ntmps33
    go_wp2
    all_goals first | (go_ret; exact ⟨by rw [HD.out]; rfl, rfl⟩) | skip
    all_goals (exfalso; omega)
  · have hx0 : 0 ≤ x := by omega
    have hx1 : x ≤ 128 := by omega
    clear hx
    go_enter Try.func33, Try.ntmps33
    go_wp2
    go_loop [5] (fun i => ∃ k : Nat, k ≤ n ∧ i = .int .i64 k ∧ ∀ e ∈ es.take k, okE x e) (fun i => n - (intOf i).toNat)
    case atStart => exact ⟨0, Nat.zero_le _, rfl, by simp⟩
    case round =>
      obtain ⟨k, hk, rfl, hall⟩ := hrel
      have HA := Lib.hid hall
      clear hall
      by_cases hlt : k < n
      · obtain ⟨b, o, hk1, rfl, hb, c0, c1, c2, c3⟩ := HR.out.edge k hlt
        go_wp2
        case roundEnd =>
          go_round
          case rel => exact ⟨k + 1, by omega, by go_num, all_snoc hk1 HA.out ⟨by omega, by omega, by omega, by omega⟩⟩
          case measure => simp [intOf]; omega
        all_goals
          have hbad := fit_bad (n := x) hk1 (by omega)
          go_ret
          exact ⟨by rw [hbad]; rfl, rfl⟩
      · have HD := Lib.hid (fit_all (by have := HL.out; omega) hx0 hx1 HA.out)
        go_wp2
        go_ret
        exact ⟨by rw [HD.out]; rfl, rfl⟩

set_option maxHeartbeats 400000 in
theorem may_any (x : Int) (A : Option Addr) (n c : Nat) (es : List E) (w : World) (hr : Rd w w.heap.size 4 A n (ecells es)) :
    Calls Try.prog 46 #[.int .i64 x, .slice A n c] w fun e w' => e = .returned (.bool (fitB x es)) ∧ Below w.heap.size w w' := by
  have hlen : es.length = n := by have := hr.1; rw [ecells_length] at this; omega
  have hn := hr.2.1
  have HL := Lib.hid hlen
  have HR := Lib.hid hr
  clear hr hlen
  by_cases hx : x < 0 ∨ 128 < x
  · have HD := Lib.hid (fit_num (es := es) hx)
    go_enter Try.func46, Try.ntmps46
    go_wp2
    all_goals first | (go_ret; exact ⟨by rw [HD.out]; rfl, Below.refl _ _⟩) | skip
    all_goals (exfalso; omega)
  · have hx0 : 0 ≤ x := by omega
    have hx1 : x ≤ 128 := by omega
    clear hx
    go_enter Try.func46, Try.ntmps46
    go_wp2
    go_loopw [15] (fun i wr => ∃ k : Nat, k ≤ n ∧ i = .int .i64 k ∧ (∀ e ∈ es.take k, okE x e) ∧ Below w.heap.size w wr) (fun i _ => n - (intOf i).toNat)
    case atStart => exact ⟨0, Nat.zero_le _, rfl, by simp, Below.refl _ _⟩
    case round =>
      obtain ⟨k, hk, rfl, hall, hbel⟩ := hrel
      have HA := Lib.hid hall
      have HB := Lib.hid hbel
      clear hall
      by_cases hlt : k < n
      · obtain ⟨b, o, hk1, rfl, hb, c0, c1, c2, c3⟩ := (HR.out.below hbel).edge k hlt
        have hsz := hbel.size
        clear hbel
        go_wp2
        case roundEnd =>
          go_roundw
          case rel => exact ⟨k + 1, by omega, by go_num, all_snoc hk1 HA.out ⟨by omega, by omega, by omega, by omega⟩, HB.out.alloc hsz _⟩
          case measure => simp [intOf]; omega
        all_goals
          have hbad := fit_bad (n := x) hk1 (by omega)
          go_ret
          exact ⟨by rw [hbad]; rfl, HB.out.alloc hsz _⟩
      · have HD := Lib.hid (fit_all (by have := HL.out; omega) hx0 hx1 HA.out)
        clear hbel
        go_wp2
        go_ret
        exact ⟨by rw [HD.out]; rfl, HB.out⟩
end Go.Proofs.Ytefpglaipnnggaa
