import Derived.Test.YtefpglaipnnggaaT1
namespace Go.Proofs.Ytefpglaipnnggaa
open Go.RowKit

theorem eNe_of (a b : E) : eNe ⟨a.f, a.t, a.neg, a.r⟩ ⟨b.f, b.t, b.neg, b.r⟩ = !decide (a = b) := rfl

theorem drew_more {w wr : World} (h : ∃ q, w.drewN q = wr) (n : Nat) : ∃ q, w.drewN q = wr.drewN n := by
  obtain ⟨q, rfl⟩ := h
  exact ⟨q + n, by rw [World.drewN_drewN]⟩

theorem take_ne {α : Type} [DecidableEq α] {l l' : List α} {k : Nat} (h : k < l.length) (h' : k < l'.length) (hne : l[k] ≠ l'[k]) : l ≠ l' := by
  rintro rfl; exact hne rfl

set_option maxHeartbeats 400000 in
theorem equalEdges_any (A A' : Option Addr) (n n' c c' : Nat) (es es' : List E) (w : World) (hr : Rd w w.heap.size 4 A n (ecells es)) (hr' : Rd w w.heap.size 4 A' n' (ecells es')) :
    Calls Try.prog 18 #[.slice A n c, .slice A' n' c'] w fun e w' => e = .returned (.bool (decide (es = es'))) ∧ ∃ q, w.drewN q = w' := by
  have hlen : es.length = n := by have := hr.1; rw [ecells_length] at this; omega
  have hlen' : es'.length = n' := by have := hr'.1; rw [ecells_length] at this; omega
  have hn := hr.2.1
  have hn' := hr'.2.1
  have HL := Lib.hid hlen
  have HL' := Lib.hid hlen'
  have HR := Lib.hid hr
  have HR' := Lib.hid hr'
  clear hr hlen hr' hlen'
  by_cases hne : n = n'
  · subst hne
    go_enter Try.func18, Try.ntmps18
    go_wp2
    go_loopw [5] (fun i wr => ∃ k : Nat, k ≤ n ∧ i = .int .i64 k ∧ es.take k = es'.take k ∧ ∃ q, w.drewN q = wr)
      (fun i _ => n - (intOf i).toNat)
    case atStart => exact ⟨0, Nat.zero_le _, rfl, rfl, 0, rfl⟩
    case round =>
      obtain ⟨k, hk, rfl, heq, q, rfl⟩ := hrel
      have HE := Lib.hid heq
      clear heq
      by_cases hlt : k < n
      · obtain ⟨b, o, hk1, rfl, hb, c0, c1, c2, c3⟩ := HR.out.edge k hlt
        obtain ⟨b', o', hk1', rfl, hb', c0', c1', c2', c3'⟩ := HR'.out.edge k hlt
        by_cases he : es[k] = es'[k]
        · have HQ := Lib.hid he
          have hq : eNe ⟨es[k].f, es[k].t, es[k].neg, es[k].r⟩ ⟨es'[k].f, es'[k].t, es'[k].neg, es'[k].r⟩ = false := by rw [eNe_of]; simp [he]
          clear he
          go_wp2_with fail
          go_quiet (fail)
          go_wp2
          go_roundw
          case rel => exact ⟨k + 1, by omega, by go_num, by rw [take_snoc _ _ hk1, take_snoc _ _ hk1', HE.out, HQ.out], _, rfl⟩
          case measure => simp [intOf]; omega
        · have hne := take_ne hk1 hk1' he
          have hdec : decide (es = es') = false := by simp [hne]
          have hq : eNe ⟨es[k].f, es[k].t, es[k].neg, es[k].r⟩ ⟨es'[k].f, es'[k].t, es'[k].neg, es'[k].r⟩ = true := by rw [eNe_of]; simp [he]
          have HD := Lib.hid hdec
          clear he hne hdec
          go_wp2_with fail
          go_quiet (fail)
          go_wp2
          go_ret
          exact ⟨by rw [HD.out]; rfl, drew_more ⟨_, rfl⟩ _⟩
      · have hdec : decide (es = es') = true := by
          have h1 := HE.out
          have h2 := HL.out
          have h3 := HL'.out
          rw [List.take_of_length_le (by omega), List.take_of_length_le (by omega)] at h1
          simpa using h1
        have HD := Lib.hid hdec
        clear hdec
        go_wp2
        go_ret
        exact ⟨by rw [HD.out]; rfl, _, rfl⟩
  · have hdec : decide (es = es') = false := by
      have h2 := HL.out
      have h3 := HL'.out
      simp; rintro rfl; omega
    have HD := Lib.hid hdec
    clear hdec
    have hb : ((n : Int) != n') = true := by simp; omega
    go_enter Try.func18, Try.ntmps18
    go_wp2
    go_ret
    exact ⟨by rw [HD.out]; rfl, 0, rfl⟩
end Go.Proofs.Ytefpglaipnnggaa
