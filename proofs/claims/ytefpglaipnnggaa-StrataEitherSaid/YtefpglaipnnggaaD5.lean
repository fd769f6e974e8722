/- The law of the edges: lemmas, equalRules. -/
import Derived.Test.YtefpglaipnnggaaD4
import Derived.Test.YtefpglaipnnggaaA7
namespace Go.Proofs.Ytefpglaipnnggaa
open Go.RowKit

theorem Ru.ok.up {w w' : World} {r : Ru} (h : Ru.ok w r) (hb : Below w.heap.size w w') : Ru.ok w' r := ⟨h.1.up hb hb.size, h.2.up hb hb.size⟩
theorem Ru.ok.len {w : World} {r : Ru} (h : Ru.ok w r) : r.pos.length = r.s1.n ∧ r.neg.length = r.s2.n := by
  have h1 := h.1.1
  have h2 := h.2.1
  rw [pcells_length] at h1 h2
  omega
def Ru.size (r : Ru) : Nat := r.pos.length + r.neg.length
theorem edges_len : ∀ (i : Nat) (l : List Ru), (edgesFrom i l).length = (l.map Ru.size).sum
  | _, [] => rfl
  | i, r :: l => by simp [edgesFrom, ruleEdges, edges_len (i + 1) l, Ru.size]; omega
theorem size_le : ∀ (l : List Ru) (r : Ru), r ∈ l → r.size ≤ (l.map Ru.size).sum
  | a :: l, r, h => by
    rcases List.mem_cons.1 h with rfl | h
    · simp
    · have := size_le l r h
      simp; omega
theorem sm_of_sum {w : World} {l : List Ru} (hok : ∀ r ∈ l, Ru.ok w r) (h : (edgesFrom 0 l).length * 32 ≤ 140737488351232) : ∀ r ∈ l, r.s1.n * 32 ≤ 140737488351232 ∧ r.s2.n * 32 ≤ 140737488351232 := by
  intro r hr
  have h1 := size_le l r hr
  rw [← edges_len 0] at h1
  have h2 := (hok r hr).len
  unfold Ru.size at h1
  omega

def Ru.swap (r : Ru) : Ru := { r with s1 := r.s2, pos := r.neg, s2 := r.s1, neg := r.pos }
theorem Ru.ok.swap {w : World} {r : Ru} (h : Ru.ok w r) : Ru.ok w r.swap := ⟨h.2, h.1⟩
theorem swap_len (i : Nat) (l : List Ru) : (edgesFrom i (l.map Ru.swap)).length = (edgesFrom i l).length := by
  rw [edges_len, edges_len, List.map_map]
  congr 1
  apply List.map_congr_left
  intro r _
  simp only [Function.comp_def, Ru.size, Ru.swap]
  omega
theorem rcells_swap (l : List Ru) (k : Nat) (hk : k < l.length) : ((rcells l).set (k * 7 + 2) l[k].s2.v).set (k * 7 + 4) l[k].s1.v = rcells (l.set k l[k].swap) := by
  induction l generalizing k with
  | nil => simp at hk
  | cons e es ih =>
    cases k with
    | zero => rfl
    | succ k =>
      have e1 : (k + 1) * 7 = k * 7 + 7 := by omega
      simp only [rcells, List.flatMap_cons, Ru.cells, e1, List.cons_append, List.nil_append, List.set_cons_succ, List.getElem_cons_succ] at ih ⊢
      rw [ih k (by simpa using hk)]
theorem swap_next (l : List Ru) (k : Nat) (hk : k < l.length) : ((l.take k).map Ru.swap ++ l.drop k).set k l[k].swap = (l.take (k + 1)).map Ru.swap ++ l.drop (k + 1) := by
  have hlen : ((l.take k).map Ru.swap).length = k := by simp; omega
  rw [List.set_append_right _ _ (by omega), hlen, Nat.sub_self, List.drop_eq_getElem_cons hk, List.set_cons_zero, take_snoc _ _ hk, List.map_append, List.append_assoc]; rfl
theorem swap_at (l : List Ru) (k : Nat) (hk : k < l.length) (h2 : k < ((l.take k).map Ru.swap ++ l.drop k).length) : ((l.take k).map Ru.swap ++ l.drop k)[k] = l[k] := by
  have hlen : ((l.take k).map Ru.swap).length = k := by simp; omega
  rw [List.getElem_append_right (by omega)]
  simp only [hlen, Nat.sub_self, List.getElem_drop, Nat.add_zero]

theorem own_swap {w : World} {R g n c k : Nat} {l : List Ru} (h : w.ownsRow R 33 7 (.slice (some ⟨g, 0, none⟩) n c) n (rcells l)) (hk : k < l.length) :
    ((w.setCell ⟨g, k * 7 + 2, none⟩ l[k].s2.v).setCell ⟨g, k * 7 + 4, none⟩ l[k].s1.v).ownsRow R 33 7 (.slice (some ⟨g, 0, none⟩) n c) n (rcells (l.set k l[k].swap)) ∧
    w.grownBy ((w.setCell ⟨g, k * 7 + 2, none⟩ l[k].s2.v).setCell ⟨g, k * 7 + 4, none⟩ l[k].s1.v) (some g) := by
  have h1 := h.stored (k * 7 + 2) l[k].s2.v
  have h2 := h1.1.stored (k * 7 + 4) l[k].s1.v
  exact ⟨by rw [← rcells_swap l k hk]; exact h2.1, h1.2.trans h2.2⟩

theorem equalRules_any (A A' : Option Addr) (m c c' : Nat) (rs rs' : List Ru) (w : World) (hr : Rd w w.heap.size 7 A m (rcells rs)) (hok : ∀ r ∈ rs, Ru.ok w r) (hsum : (edgesFrom 0 rs).length * 32 ≤ 140737488351232)
    (hr' : Rd w w.heap.size 7 A' m (rcells rs')) (hok' : ∀ r ∈ rs', Ru.ok w r) (he : edgesFrom 0 rs' = edgesFrom 0 rs) :
    Calls Try.prog 19 #[.slice A m c, .slice A' m c'] w fun e w' => e = .returned (.bool true) ∧ Below w.heap.size w w' := by
  have HR := Lib.hid hr
  have HR' := Lib.hid hr'
  have HK := Lib.hid hok
  have HK' := Lib.hid hok'
  have HS := Lib.hid hsum
  have HE := Lib.hid he
  have hm := hr.2.1
  clear hr hr' hok hok' hsum he
  go_enter Try.func19, Try.ntmps19
  go_wp2_with fail
  refine (refEdges_any A m c rs _ HR.out HK.out HS.out).mono ?_
  rintro e w1 ⟨v1, rfl, hown1, hb1⟩
  obtain ⟨A1, c1, rfl, hrd1⟩ := own_slice hown1
  have HB1 := Lib.hid hb1
  have HRD1 := Lib.hid hrd1
  have HR' := Lib.hid (HR'.out.up hb1 hb1.size)
  have HK' : Hid (∀ r ∈ rs', Ru.ok w1 r) := Lib.hid fun r hr => (HK'.out r hr).up hb1
  clear hown1 hrd1 hb1
  go_wp2_with fail
  refine (refEdges_any A' m c' rs' _ HR'.out HK'.out (by rw [HE.out]; exact HS.out)).mono ?_
  rintro e w2 ⟨v2, rfl, hown2, hb2⟩
  rw [HE.out] at hown2
  obtain ⟨A2, c2, rfl, hrd2⟩ := own_slice hown2
  have HB2 := Lib.hid hb2
  have HRD2 := Lib.hid hrd2
  have HRD1 := Lib.hid (HRD1.out.up hb2 hb2.size)
  clear hown2 hrd2 hb2
  generalize hes : edgesFrom 0 rs = es at *
  clear hes
  have hq2 : decide (es = es) = true := by simp
  go_wp2_with fail
  refine (equalEdges_any A1 A2 es.length es.length c1 c2 es es _ HRD1.out HRD2.out).mono ?_
  rintro e w4 ⟨rfl, q4, rfl⟩
  go_wp2
  go_ret
  exact ⟨rfl, (HB1.out.trans (HB2.out.mono HB1.out.size)).trans ((below_drewN (Below.refl _ _) q4).mono (Nat.le_trans HB1.out.size HB2.out.size))⟩
end Go.Proofs.Ytefpglaipnnggaa
