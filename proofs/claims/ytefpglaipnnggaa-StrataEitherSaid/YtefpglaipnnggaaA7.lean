import Derived.Test.YtefpglaipnnggaaA6
namespace Go.Proofs.Ytefpglaipnnggaa
open Go.RowKit

theorem own_slice {w : World} {base e size n : Nat} {v : Value} {xs : List Value} (h : w.ownsRow base e size v n xs) :
    ∃ A c, v = .slice A n c ∧ Rd w w.heap.size size A n xs := by
  obtain ⟨h1, h2⟩ := h
  rcases h2 with ⟨rfl, rfl⟩ | ⟨g, cap, cur, rfl, hb, hg, hnc, hcm, hcs, ht⟩
  · exact ⟨none, 0, rfl, h1, by omega, fun h => absurd h (by omega)⟩
  · refine ⟨_, _, rfl, h1, by unfold maxLen at hcm; omega, fun _ => ⟨g, 0, rfl, (Array.getElem?_eq_some_iff.1 hg).1, fun j u hu => ?_⟩⟩
    rw [Nat.zero_add, cell_of_row w g j cur e (0, 0) hg]
    rw [← ht, List.getElem?_take] at hu
    split at hu
    · simpa using hu
    · cases hu

theorem Rd.up {w w' : World} {B B' size n : Nat} {A : Option Addr} {xs : List Value} (h : Rd w B size A n xs) (hb : Below B w w') (hB : B ≤ B') : Rd w' B' size A n xs := by
  have h := h.below hb
  exact ⟨h.1, h.2.1, fun hn => by obtain ⟨b, o, h1, h2, h3⟩ := h.2.2 hn; exact ⟨b, o, h1, by omega, h3⟩⟩

theorem Rd_nil (w : World) (B size : Nat) : Rd w B size none 0 [] := ⟨by simp, by omega, fun h => absurd h (by omega)⟩

theorem Rd_new (w : World) (cs : Array Value) (T : TypeId) (size : Nat) (h : cs.size = 1 * size) : Rd (w.alloc (.cells cs T)) (w.alloc (.cells cs T)).heap.size size (some ⟨w.heap.size, 0, none⟩) 1 cs.toList := by
  refine ⟨by simpa using h, by omega, fun _ => ⟨w.heap.size, 0, rfl, by simp, fun j u hu => ?_⟩⟩
  have h := new_cells w cs T j u hu
  have hadd : (⟨w.heap.size, 0, none⟩ : Addr).add j = ⟨w.heap.size, j, none⟩ := by unfold Addr.add; split <;> simp_all
  rw [hadd] at h
  rw [Nat.zero_add]; exact h

theorem drew_below {w w' : World} (h : ∃ q, w.drewN q = w') : Below w.heap.size w w' := by
  obtain ⟨q, rfl⟩ := h; exact below_drewN (Below.refl _ _) q
theorem drew_size {w w' : World} (h : ∃ q, w.drewN q = w') : w'.heap.size = w.heap.size := by
  obtain ⟨q, rfl⟩ := h; rfl

theorem edges_sl (A : Option Addr) (n c : Nat) (es : List E) (w : World) (hr : Rd w w.heap.size 4 A n (ecells es)) (hreach : n * 32 ≤ 140737488355328) :
    Calls Try.prog 21 #[.slice A n c] w fun e w' => ∃ A' c', e = .returned (.slice A' n c') ∧ w'.ownsRow w.heap.size 43 4 (.slice A' n c') n (ecells es) ∧ Rd w' w'.heap.size 4 A' n (ecells es) ∧ Below w.heap.size w w' := by
  refine (edges_any A n c es w hr hreach).mono ?_
  rintro e w' ⟨v, rfl, hown, hb⟩
  obtain ⟨A', c', rfl, hrd⟩ := own_slice hown
  exact ⟨A', c', rfl, hown, hrd, hb⟩

theorem ints_sl (A : Option Addr) (n c : Nat) (l : List Int) (w : World) (hr : Rd w w.heap.size 1 A n (icells l)) (hreach : n * 8 ≤ 140737488351232) :
    Calls Try.prog 22 #[.slice A n c] w fun e w' => ∃ A' c', e = .returned (.slice A' n c') ∧ w'.ownsRow w.heap.size 3 1 (.slice A' n c') n (icells l) ∧ Rd w' w'.heap.size 1 A' n (icells l) ∧ Below w.heap.size w w' := by
  refine (ints_any A n c l w hr hreach).mono ?_
  rintro e w' ⟨v, rfl, hown, hb⟩
  obtain ⟨A', c', rfl, hrd⟩ := own_slice hown
  exact ⟨A', c', rfl, hown, hrd, hb⟩

set_option maxHeartbeats 1000000 in
theorem StrataHolds_walk (x : Int) (A A' : Option Addr) (n c m c' : Nat) (es : List E) (ls : List Int) (w : World) (hr : Rd w w.heap.size 4 A n (ecells es)) (hr' : Rd w w.heap.size 1 A' m (icells ls))
    (h1 : n * 32 ≤ 140737488351232) (h2 : m * 8 ≤ 140737488351232) :
    Calls Try.prog 4 #[.int .i64 x, .slice A n c, .slice A' m c'] w fun e w' => e = .returned (.bool true) ∧ Below w.heap.size w w' := by
  have HR := Lib.hid hr
  have HR' := Lib.hid hr'
  clear hr hr'
  go_enter Try.func4, Try.ntmps4
  go_wp2_with fail
  refine (edges_sl A n c es _ HR.out (Nat.le_trans h1 (by decide))).mono ?_
  rintro e w1 ⟨A1, c1, rfl, hown1, hrd1, hb1⟩
  have hs1 := hb1.size
  have HB1 := Lib.hid hb1
  have HR1 := Lib.hid hrd1
  have HA := Lib.hid (HR.out.up hb1 hs1)
  have HA' := Lib.hid (HR'.out.up hb1 hs1)
  clear hown1 hrd1 hb1
  go_wp2_with fail
  refine (ints_sl A' m c' ls _ HA'.out h2).mono ?_
  rintro e w2 ⟨A2, c2, rfl, hown2, hrd2, hb2⟩
  have hs2 := hb2.size
  have HB2 := Lib.hid hb2
  have HR2 := Lib.hid hrd2
  have HR1 := Lib.hid (HR1.out.up hb2 hs2)
  have HA := Lib.hid (HA.out.up hb2 hs2)
  have HA' := Lib.hid (HA'.out.up hb2 hs2)
  clear hown2 hrd2 hb2
  go_wp2_with fail
  refine (refHolds_any x A A' n c m c' es ls _ HA.out HA'.out).mono ?_
  rintro e w3 ⟨rfl, rfl⟩
  go_wp2_with fail
  refine (strataHolds_any x A1 A2 n c1 m c2 es ls _ HR1.out HR2.out).mono ?_
  rintro e w3 ⟨rfl, hb3⟩
  have hs3 := hb3.size
  have HB3 := Lib.hid hb3
  have HR1 := Lib.hid (HR1.out.up hb3 hs3)
  have HR2 := Lib.hid (HR2.out.up hb3 hs3)
  have HA := Lib.hid (HA.out.up hb3 hs3)
  have HA' := Lib.hid (HA'.out.up hb3 hs3)
  clear hb3
  have hq : (holdsB x es ls == holdsB x es ls) = true := by simp
  have hq2 : decide (es = es) = true := by simp
  have hq3 : decide (ls = ls) = true := by simp
  go_wp2_with fail
  refine (equalEdges_any A1 A n n c1 c es es _ HR1.out HA.out).mono ?_
  rintro e w4 ⟨rfl, q4, rfl⟩
  go_wp2_with fail
  refine (equalInts_any A2 A' m m c2 c' ls ls _ (HR2.out.up (below_drewN (Below.refl _ _) q4) (Nat.le_refl _)) (HA'.out.up (below_drewN (Below.refl _ _) q4) (Nat.le_refl _))).mono ?_
  rintro e w5 ⟨rfl, hq5⟩
  have hb5 := (drew_below hq5)
  have hs5 := hb5.size
  have HB5 : Hid (Below w.heap.size w w5) := (((HB1.out.trans (HB2.out.mono hs1)).trans (HB3.out.mono (Nat.le_trans hs1 hs2))).trans ((below_drewN (Below.refl _ _) q4).mono (Nat.le_trans hs1 (Nat.le_trans hs2 hs3)))).trans (hb5.mono (Nat.le_trans hs1 (Nat.le_trans hs2 hs3)))
  have hs := HB5.out.size
  clear hb5 hq5
  have hone : holdsB 1 [] [0] = true := by decide
  have HT := Lib.hid hone
  go_wp2_with fail
  refine (strataHolds_any 1 none (some ⟨w5.heap.size, 0, none⟩) 0 0 1 1 [] [0] _ (Rd_nil _ _ _) (Rd_new w5 _ _ _ rfl)).mono ?_
  rintro e w6 ⟨rfl, hb6⟩
  have HB6 := Lib.hid hb6
  clear hb6
  go_wp2
  go_ret
  exact ⟨rfl, (HB5.out.alloc hs _).trans (HB6.out.mono (by simp; omega))⟩
end Go.Proofs.Ytefpglaipnnggaa
