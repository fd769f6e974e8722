import Derived.Test.YtefpglaipnnggaaA2
namespace Go.Proofs.Ytefpglaipnnggaa
open Go.RowKit

def icells (l : List Int) : List Value := l.map (Value.int .i64)

theorem icells_length (l : List Int) : (icells l).length = l.length := by simp [icells]

theorem icells_append (a b : List Int) : icells (a ++ b) = icells a ++ icells b := by simp [icells]

theorem Rd.int {w : World} {B : Nat} {A : Option Addr} {n : Nat} {l : List Int} (h : Rd w B 1 A n (icells l)) (k : Nat) (hk : k < n) :
    ∃ b o, ∃ h2 : k < l.length, A = some ⟨b, o, none⟩ ∧ b < B ∧ w.cell? ⟨b, o + k, none⟩ = some (.int .i64 l[k]) := by
  obtain ⟨h1, h2, h3⟩ := h
  obtain ⟨b, o, hA, hb, hc⟩ := h3 (by omega)
  rw [icells_length] at h1
  have hk' : k < l.length := by omega
  exact ⟨b, o, hk', hA, hb, hc k _ (by simp [icells, hk'])⟩

theorem int_one (x : Int) : ∀ u ∈ [Value.int .i64 x], u.oneCell' = true := by
  intro u hu
  simp only [List.mem_cons, List.not_mem_nil, or_false] at hu
  subst hu; rfl

set_option maxHeartbeats 400000 in
theorem ints_any (A : Option Addr) (n c : Nat) (l : List Int) (w : World) (hr : Rd w w.heap.size 1 A n (icells l)) (hreach : n * 8 ≤ 140737488351232) :
    Calls Try.prog 22 #[.slice A n c] w fun e w' => ∃ v, e = .returned v ∧ w'.ownsRow w.heap.size 3 1 v n (icells l) ∧ Below w.heap.size w w' := by
  obtain ⟨i0, hi, hz0, hz1, hz2⟩ := info_parts Try.info3
  have hlen : l.length = n := by have := hr.1; rw [icells_length] at this; omega
  have HL := Lib.hid hlen
  have HR := Lib.hid hr
  clear hr hlen
  go_enter Try.func22, Try.ntmps22
  go_wp2
  go_loopw [3, 4] (fun m i wr => ∃ k : Nat, k ≤ n ∧ i = .int .i64 k ∧ wr.ownsRow w.heap.size 3 1 m k (icells (l.take k)) ∧ Below w.heap.size w wr)
    (fun _ i _ => n - (intOf i).toNat)
  case atStart => exact ⟨0, Nat.zero_le _, rfl, World.ownsRow_nil _ _ _ _, Below.refl _ _⟩
  case round =>
    obtain ⟨k, hk, rfl, hown, hbel⟩ := hrel
    by_cases hlt : k < n
    · obtain ⟨b, o, hk', rfl, hb, c0⟩ := (HR.out.below hbel).int k hlt
      have hsz := hbel.size
      go_wp2_with (at_builtin; go_must (refine wpList_append_own _ rfl _ _ 37 rfl w.heap.size 3 i0 _ 1 8 Try.underlying37 hi hz0 hz1 hz2 rfl (by decide) _ _ _ rfl (hown.alloc _) ⟨wr.heap.size, 0, none⟩ 1 1 [.int .i64 l[k]] rfl rfl (fun j u h => new_cells _ _ _ j u h) (int_one _) (by unfold maxLen; omega) (by omega) (by simp; omega) ?_); intro v1 w1 hown1 hg1 _)
      have R : w1.ownsRow w.heap.size 3 1 v1 (k + 1) (icells (l.take (k + 1))) ∧ Below w.heap.size w w1 := by
        refine ⟨by rw [take_snoc _ _ hk', icells_append]; exact hown1, (hbel.alloc hsz _).grown hg1 (by simp; omega) (fun j hj => (hown.lt j hj).1)⟩
      clear hown1 hg1 hown hbel
      go_wp2
      go_roundw
      case rel => exact ⟨k + 1, by omega, by go_num, R.1, R.2⟩
      case measure => simp [intOf]; omega
    · go_wp2
      go_ret
      obtain rfl : k = n := by omega
      exact ⟨_, rfl, by have := HL.out; subst this; simpa using hown, hbel⟩

set_option maxHeartbeats 400000 in
theorem equalInts_any (A A' : Option Addr) (n n' c c' : Nat) (es es' : List Int) (w : World) (hr : Rd w w.heap.size 1 A n (icells es)) (hr' : Rd w w.heap.size 1 A' n' (icells es')) :
    Calls Try.prog 25 #[.slice A n c, .slice A' n' c'] w fun e w' => e = .returned (.bool (decide (es = es'))) ∧ ∃ q, w.drewN q = w' := by
  have hlen : es.length = n := by have := hr.1; rw [icells_length] at this; omega
  have hlen' : es'.length = n' := by have := hr'.1; rw [icells_length] at this; omega
  have hn := hr.2.1
  have hn' := hr'.2.1
  have HL := Lib.hid hlen
  have HL' := Lib.hid hlen'
  have HR := Lib.hid hr
  have HR' := Lib.hid hr'
  clear hr hlen hr' hlen'
  by_cases hne : n = n'
  · subst hne
    go_enter Try.func25, Try.ntmps25
    go_wp2
    go_loopw [5] (fun i wr => ∃ k : Nat, k ≤ n ∧ i = .int .i64 k ∧ es.take k = es'.take k ∧ ∃ q, w.drewN q = wr)
      (fun i _ => n - (intOf i).toNat)
    case atStart => exact ⟨0, Nat.zero_le _, rfl, rfl, 0, rfl⟩
    case round =>
      obtain ⟨k, hk, rfl, heq, q, rfl⟩ := hrel
      have HE := Lib.hid heq
      clear heq
      by_cases hlt : k < n
      · obtain ⟨b, o, hk1, rfl, hb, c0⟩ := HR.out.int k hlt
        obtain ⟨b', o', hk1', rfl, hb', c0'⟩ := HR'.out.int k hlt
        by_cases he : es[k] = es'[k]
        · have HQ := Lib.hid he
          have hq : (es[k] != es'[k]) = false := by simp [he]
          clear he
          go_wp2_with fail
          go_quiet (fail)
          go_wp2
          go_roundw
          case rel => exact ⟨k + 1, by omega, by go_num, by rw [take_snoc _ _ hk1, take_snoc _ _ hk1', HE.out, HQ.out], _, rfl⟩
          case measure => simp [intOf]; omega
        · have hne := take_ne hk1 hk1' he
          have hdec : decide (es = es') = false := by simp [hne]
          have hq : (es[k] != es'[k]) = true := by simp [he]
          have HD := Lib.hid hdec
          clear he hne hdec
          go_wp2_with fail
          go_quiet (fail)
          go_wp2
          go_ret
          exact ⟨by rw [HD.out]; rfl, drew_more ⟨_, rfl⟩ _⟩
      · have hdec : decide (es = es') = true := by
          have h1 := HE.out
          have h2 := HL.out
          have h3 := HL'.out
          rw [List.take_of_length_le (by omega), List.take_of_length_le (by omega)] at h1
          simpa using h1
        have HD := Lib.hid hdec
        clear hdec
        go_wp2
        go_ret
        exact ⟨by rw [HD.out]; rfl, _, rfl⟩
  · have hdec : decide (es = es') = false := by
      have h2 := HL.out
      have h3 := HL'.out
      simp; rintro rfl; omega
    have HD := Lib.hid hdec
    clear hdec
    have hb : ((n : Int) != n') = true := by simp; omega
    go_enter Try.func25, Try.ntmps25
    go_wp2
    go_ret
    exact ⟨by rw [HD.out]; rfl, 0, rfl⟩
end Go.Proofs.Ytefpglaipnnggaa
