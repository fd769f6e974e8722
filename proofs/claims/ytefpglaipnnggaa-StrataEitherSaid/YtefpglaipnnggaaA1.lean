/- Copies of edges and of numbers: the two functions hand back new memory that reads as the list that came in. -/
import Derived.Test.YtefpglaipnnggaaRows
import Derived.WalkKit
import Derived.WalkSpells
import Derived.WalkLawsBesides
import Derived.Lib.Hide
import Derived.Deep.QuietTactic
import Derived.BigQuiet
namespace Go.Proofs.Ytefpglaipnnggaa
open Go.RowKit

theorem Try.info3 : (Try.prog.info? 3).map (fun i => (i.zero, i.size, i.bytes)) = some (some (.int .i64 0), 1, 8) := by kernel_rfl
theorem Try.info43 : (Try.prog.info? 43).map (fun i => (i.zero, i.size, i.bytes)) = some (some (.agg #[.int .i64 0, .int .i64 0, .bool false, .int .i64 0]), 4, 32) := by kernel_rfl

/-- A slice value that reads as the cells xs (size cells each element), its memory below block B. -/
def Rd (w : World) (B size : Nat) (A : Option Addr) (n : Nat) (xs : List Value) : Prop :=
  xs.length = n * size ∧ n ≤ 9223372036854775807 ∧ (0 < n → ∃ b o, A = some ⟨b, o, none⟩ ∧ b < B ∧ ∀ j u, xs[j]? = some u → w.cell? ⟨b, o + j, none⟩ = some u)

structure E where
  f : Int
  t : Int
  neg : Bool
  r : Int
deriving DecidableEq, Inhabited

def E.cells (e : E) : List Value := [.int .i64 e.f, .int .i64 e.t, .bool e.neg, .int .i64 e.r]
def ecells (es : List E) : List Value := es.flatMap E.cells


theorem ecells_length (es : List E) : (ecells es).length = es.length * 4 := by
  induction es with
  | nil => rfl
  | cons e es ih => simp only [ecells, List.flatMap_cons, List.length_append, List.length_cons] at *; rw [ih]; simp only [E.cells, List.length_cons, List.length_nil]; omega

theorem ecells_append (a b : List E) : ecells (a ++ b) = ecells a ++ ecells b := by simp [ecells]

theorem take_snoc {α : Type} (l : List α) (k : Nat) (h : k < l.length) : l.take (k + 1) = l.take k ++ [l[k]] := by
  rw [List.take_add_one, List.getElem?_eq_getElem h]; rfl

theorem ecells_at (es : List E) (k j : Nat) (hk : k < es.length) (hj : j < 4) : (ecells es)[k * 4 + j]? = (es[k]).cells[j]? := by
  induction es generalizing k with
  | nil => simp at hk
  | cons e es ih =>
    cases k with
    | zero =>
      simp only [ecells, List.flatMap_cons, Nat.zero_mul, Nat.zero_add, List.getElem_cons_zero]
      rw [List.getElem?_append_left (by simp [E.cells]; omega)]
    | succ k =>
      simp only [ecells, List.flatMap_cons, List.getElem_cons_succ]
      rw [List.getElem?_append_right (by simp [E.cells]; omega)]
      have := ih k (by simpa using hk)
      simp only [ecells] at this
      rw [← this]; congr 1; simp [E.cells]; omega

theorem Rd.edge {w : World} {B : Nat} {A : Option Addr} {n : Nat} {es : List E} (h : Rd w B 4 A n (ecells es)) (k : Nat) (hk : k < n) :
    ∃ b o, ∃ h2 : k < es.length, A = some ⟨b, o, none⟩ ∧ b < B ∧ w.cell? ⟨b, o + k * 4, none⟩ = some (.int .i64 es[k].f) ∧ w.cell? ⟨b, o + k * 4 + 1, none⟩ = some (.int .i64 es[k].t)
      ∧ w.cell? ⟨b, o + k * 4 + 2, none⟩ = some (.bool es[k].neg) ∧ w.cell? ⟨b, o + k * 4 + 3, none⟩ = some (.int .i64 es[k].r) := by
  obtain ⟨h1, h2, h3⟩ := h
  obtain ⟨b, o, hA, hb, hc⟩ := h3 (by omega)
  rw [ecells_length] at h1
  have hk' : k < es.length := by omega
  refine ⟨b, o, hk', hA, hb, ?_, ?_, ?_, ?_⟩
  · exact hc (k * 4 + 0) _ (by rw [ecells_at es k 0 hk' (by omega)]; rfl)
  · exact hc (k * 4 + 1) _ (by rw [ecells_at es k 1 hk' (by omega)]; rfl)
  · exact hc (k * 4 + 2) _ (by rw [ecells_at es k 2 hk' (by omega)]; rfl)
  · exact hc (k * 4 + 3) _ (by rw [ecells_at es k 3 hk' (by omega)]; rfl)

theorem Rd.below {w w' : World} {B size : Nat} {A : Option Addr} {n : Nat} {xs : List Value} (h : Rd w B size A n xs) (hb : Below B w w') : Rd w' B size A n xs := by
  refine ⟨h.1, h.2.1, fun hn => ?_⟩
  obtain ⟨b, o, hA, hlt, hc⟩ := h.2.2 hn
  exact ⟨b, o, hA, hlt, fun j u hu => (hb.cell (p := ⟨b, o + j, none⟩) hlt).trans (hc j u hu)⟩

theorem new_cells (w : World) (cs : Array Value) (T : TypeId) (j : Nat) (u : Value) (h : cs.toList[j]? = some u) :
    (w.alloc (.cells cs T)).cell? ((⟨w.heap.size, 0, none⟩ : Addr).add j) = some u := by
  have hadd : (⟨w.heap.size, 0, none⟩ : Addr).add j = ⟨w.heap.size, j, none⟩ := by unfold Addr.add; split <;> simp_all
  rw [hadd, cell_of_row _ w.heap.size j cs T (0, 0) (heap_alloc_new w _)]
  simpa using h

theorem E.one (e : E) : ∀ u ∈ e.cells, u.oneCell' = true := by
  intro u hu
  simp only [E.cells, List.mem_cons, List.not_mem_nil, or_false] at hu
  rcases hu with rfl | rfl | rfl | rfl <;> rfl

set_option maxHeartbeats 400000 in
theorem edges_any (A : Option Addr) (n c : Nat) (es : List E) (w : World) (hr : Rd w w.heap.size 4 A n (ecells es)) (hreach : n * 32 ≤ 140737488355328) :
    Calls Try.prog 21 #[.slice A n c] w fun e w' => ∃ v, e = .returned v ∧ w'.ownsRow w.heap.size 43 4 v n (ecells es) ∧ Below w.heap.size w w' := by
  obtain ⟨i0, hi, hz0, hz1, hz2⟩ := info_parts Try.info43
  have hlen : es.length = n := by have := hr.1; rw [ecells_length] at this; omega
  have HL := Lib.hid hlen
  have HR := Lib.hid hr
  clear hr hlen
  go_enter Try.func21, Try.ntmps21
  go_wp2
  go_loopw [3, 4] (fun m i wr => ∃ k : Nat, k ≤ n ∧ i = .int .i64 k ∧ wr.ownsRow w.heap.size 43 4 m k (ecells (es.take k)) ∧ Below w.heap.size w wr)
    (fun _ i _ => n - (intOf i).toNat)
  case atStart => exact ⟨0, Nat.zero_le _, rfl, World.ownsRow_nil _ _ _ _, Below.refl _ _⟩
  case round =>
    obtain ⟨k, hk, rfl, hown, hbel⟩ := hrel
    by_cases hlt : k < n
    · obtain ⟨b, o, hk', rfl, hb, c0, c1, c2, c3⟩ := (HR.out.below hbel).edge k hlt
      have hsz := hbel.size
      go_wp2_with (at_builtin; go_must (refine wpList_append_own _ rfl _ _ 23 rfl w.heap.size 43 i0 _ 4 32 Try.underlying23 hi hz0 hz1 hz2 rfl (by decide) _ _ _ rfl (hown.alloc _) ⟨wr.heap.size, 0, none⟩ 1 1 (es[k]).cells rfl rfl (fun j u h => new_cells _ _ _ j u h) (E.one _) (by unfold maxLen; omega) (by omega) (by simp; omega) ?_); intro v1 w1 hown1 hg1 _)
      have R : w1.ownsRow w.heap.size 43 4 v1 (k + 1) (ecells (es.take (k + 1))) ∧ Below w.heap.size w w1 := by
        refine ⟨by rw [take_snoc _ _ hk', ecells_append]; simpa [ecells] using hown1, (hbel.alloc hsz _).grown hg1 (by simp; omega) (fun j hj => (hown.lt j hj).1)⟩
      clear hown1 hg1 hown hbel
      go_wp2
      go_roundw
      case rel => exact ⟨k + 1, by omega, by go_num, R.1, R.2⟩
      case measure => simp [intOf]; omega
    · go_wp2
      go_ret
      obtain rfl : k = n := by omega
      exact ⟨_, rfl, by have := HL.out; subst this; simpa using hown, hbel⟩
end Go.Proofs.Ytefpglaipnnggaa
