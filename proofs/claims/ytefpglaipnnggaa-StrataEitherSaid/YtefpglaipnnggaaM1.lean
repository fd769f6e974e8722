/- Rules in range; the law's below. -/
import Derived.Test.YtefpglaipnnggaaD3
import Derived.Test.YtefpglaipnnggaaL2
namespace Go.Proofs.Ytefpglaipnnggaa
open Go.RowKit

def inRule (x : Int) (r : Ru) : Prop := Vx x r.h.p ∧ (∀ y ∈ r.pos, Vx x y.p) ∧ ∀ y ∈ r.neg, Vx x y.p
def ranged (x : Int) (rs : List Ru) : Prop := ∀ r ∈ rs, inRule x r
open Classical in
noncomputable def rangedB (x : Int) (rs : List Ru) : Bool := decide (ranged x rs)
theorem rangedB_true {x : Int} {rs : List Ru} (h : ranged x rs) : rangedB x rs = true := by simp [rangedB, h]
theorem rangedB_false {x : Int} {rs : List Ru} (h : ¬ ranged x rs) : rangedB x rs = false := by simp [rangedB, h]
theorem ranged_fits {x : Int} : ∀ {rs : List Ru} (i : Nat), ranged x rs → ∀ e ∈ edgesFrom i rs, okE x e
  | [], i, _, e, he => by simp [edgesFrom] at he
  | r :: rs, i, h, e, he => by
    simp only [edgesFrom, ruleEdges, List.mem_append, List.mem_map] at he
    obtain ⟨h1, h2, h3⟩ := h r (by simp)
    rcases he with (⟨y, hy, rfl⟩ | ⟨y, hy, rfl⟩) | he
    · exact ⟨(h2 y hy).1, (h2 y hy).2, h1.1, h1.2⟩
    · exact ⟨(h3 y hy).1, (h3 y hy).2, h1.1, h1.2⟩
    · exact ranged_fits (i + 1) (fun r hr => h r (by simp [hr])) e he
theorem edge_pos {r : Ru} {y : Pt} (hy : y ∈ r.pos) {rs : List Ru} : ∀ (i : Nat), r ∈ rs → ∃ e ∈ edgesFrom i rs, e.f = y.p ∧ e.t = r.h.p ∧ e.neg = false := by
  induction rs with
  | nil => intro i hr; simp at hr
  | cons r' rs ih =>
    intro i hr
    rcases List.mem_cons.1 hr with h | hr
    · subst h
      exact ⟨⟨y.p, r.h.p, false, i⟩, List.mem_append_left _ (List.mem_append_left _ (List.mem_map.2 ⟨y, hy, rfl⟩)), rfl, rfl, rfl⟩
    · obtain ⟨e, he, h⟩ := ih (i + 1) hr
      exact ⟨e, List.mem_append_right _ he, h⟩
theorem edge_neg {r : Ru} {y : Pt} (hy : y ∈ r.neg) {rs : List Ru} : ∀ (i : Nat), r ∈ rs → ∃ e ∈ edgesFrom i rs, e.f = y.p ∧ e.t = r.h.p ∧ e.neg = true := by
  induction rs with
  | nil => intro i hr; simp at hr
  | cons r' rs ih =>
    intro i hr
    rcases List.mem_cons.1 hr with h | hr
    · subst h
      exact ⟨⟨y.p, r.h.p, true, i⟩, List.mem_append_left _ (List.mem_append_right _ (List.mem_map.2 ⟨y, hy, rfl⟩)), rfl, rfl, rfl⟩
    · obtain ⟨e, he, h⟩ := ih (i + 1) hr
      exact ⟨e, List.mem_append_right _ he, h⟩

set_option maxRecDepth 20000 in
set_option maxHeartbeats 4000000 in
theorem below_any (x : Int) (A : Option Addr) (m c : Nat) (rs : List Ru) (w : World) (hr : Rd w w.heap.size 7 A m (rcells rs)) (hok : ∀ r ∈ rs, Ru.ok w r) :
    Calls Try.prog 41 #[.int .i64 x, .slice A m c] w fun e w' => e = .returned (.bool (rangedB x rs)) ∧ w' = w := by
  have HR := Lib.hid hr
  have HK := Lib.hid hok
  have hm := hr.2.1
  have hl : rs.length = m := by have := hr.1; rw [rcells_length] at this; omega
  have HL := Lib.hid hl
  clear hr hok hl
  go_enter Try.func41, Try.ntmps41
  go_wp2
  go_loopg [5] m (fun gk v wr => ∃ k : Nat, v = .int .i64 k ∧ k ≤ m ∧ gk = m - k ∧ wr = w ∧ Hid (∀ r ∈ rs.take k, inRule x r))
  case atStart => exact ⟨0, rfl, Nat.zero_le _, by omega, rfl, Lib.hid (by simp)⟩
  case round =>
    obtain ⟨k, rfl, hkm, hgk, rfl, HA⟩ := hrel
    have HG := Lib.hid hgk
    clear hgk
    by_cases hlt : k < m
    · obtain ⟨B, off, hk1, rfl, hB, hc⟩ := HR.out.at Ru.cells 7 (fun _ => rfl) (by omega) k hlt
      have c0 := hc 0 _ (by omega) rfl
      have c2 := hc 2 _ (by omega) rfl
      have c4 := hc 4 _ (by omega) rfl
      rw [Nat.add_zero] at c0
      have hokk := HK.out rs[k] (List.getElem_mem hk1)
      have HP := Lib.hid hokk.1
      have HN := Lib.hid hokk.2
      have HNO : Hid (¬ inRule x rs[k] → rangedB x rs = false) := Lib.hid fun h => rangedB_false fun h1 => h (h1 _ (List.getElem_mem hk1))
      have HYES : Hid (inRule x rs[k] → ∀ r ∈ rs.take (k + 1), inRule x r) := Lib.hid fun h r hr => by
        rw [take_snoc _ _ hk1] at hr
        rcases List.mem_append.1 hr with hr | hr
        · exact HA.out r hr
        · rw [List.mem_singleton.1 hr]; exact h
      have hb1 := hokk.1.2.1
      have hb2 := hokk.2.2.1
      have hn1 : rs[k].pos.length = rs[k].s1.n := by have := hokk.1.1; rw [pcells_length] at this; omega
      have hn2 : rs[k].neg.length = rs[k].s2.n := by have := hokk.2.1; rw [pcells_length] at this; omega
      have HL1 := Lib.hid hn1
      have HL2 := Lib.hid hn2
      clear hc hokk hn1 hn2
      generalize rs[k] = r at *
      obtain ⟨⟨hp, ha⟩, ⟨A1, n1, c1⟩, pos, ts, ⟨A2, n2, c2'⟩, neg, vs, cl⟩ := r
      dsimp only at HP HN HL1 HL2 hb1 hb2 c0 c2 c4
      by_cases h0 : 0 ≤ hp ∧ hp < x
      · have q1 : decide (hp < 0) = false := by simp; omega
        have q2 : decide (x ≤ hp) = false := by simp; omega
        have HV : Hid (Vx x hp) := Lib.hid h0
        clear h0
        go_wp2
        go_loopg [6] n1 (fun gk v wx => ∃ i : Nat, v = .int .i64 i ∧ i ≤ n1 ∧ gk = n1 - i ∧ wx = wr ∧ Hid (∀ y ∈ pos.take i, Vx x y.p))
        case atStart => exact ⟨0, rfl, Nat.zero_le _, by omega, rfl, Lib.hid (by simp)⟩
        case round =>
          obtain ⟨i, rfl, hi1, hgi, rfl, HAP⟩ := hrel
          have HG2 := Lib.hid hgi
          clear hgi
          by_cases hlt2 : i < n1
          · obtain ⟨B2, off2, hi2, rfl, hB2, hc⟩ := HP.out.at Pt.cells 2 (fun _ => rfl) (by omega) i hlt2
            have d0 := hc 0 _ (by omega) rfl
            rw [Nat.add_zero] at d0
            have HE := Lib.hid (show pos.take (i + 1) = pos.take i ++ [pos[i]] from take_snoc _ _ hi2)
            have HNP : Hid (¬ Vx x pos[i].p → rangedB x rs = false) := Lib.hid fun h => HNO.out fun h1 => h (h1.2.1 _ (List.getElem_mem hi2))
            clear hc
            generalize pos[i] = y at *
            obtain ⟨yp, ya⟩ := y
            dsimp only at d0 HE HNP
            by_cases h1 : 0 ≤ yp ∧ yp < x
            · have q3 : decide (yp < 0) = false := by simp; omega
              have q4 : decide (x ≤ yp) = false := by simp; omega
              have HX : Hid (∀ y ∈ pos.take (i + 1), Vx x y.p) := Lib.hid fun y hy => by
                rw [HE.out] at hy
                rcases List.mem_append.1 hy with hy | hy
                · exact HAP.out y hy
                · rw [List.mem_singleton.1 hy]; exact h1
              clear h1
              go_wp2
              go_roundg (n1 - (i + 1))
              case measure => have := HG2.out; omega
              case rel => exact ⟨i + 1, by go_num, by omega, rfl, rfl, HX⟩
            · have HX := Lib.hid (HNP.out h1)
              by_cases h2 : yp < 0
              · clear h1
                go_wp2
                go_ret
                exact ⟨by rw [HX.out]; rfl, rfl⟩
              · have h3 : x ≤ yp := by omega
                have q3 : decide (yp < 0) = false := by simp; omega
                clear h1 h2
                go_wp2
                go_ret
                exact ⟨by rw [HX.out]; rfl, rfl⟩
          · obtain rfl : i = n1 := by omega
            have HAP : Hid (∀ y ∈ pos, Vx x y.p) := Lib.hid (by have h := HAP.out; rwa [List.take_of_length_le (by have := HL1.out; omega)] at h)
            clear HG2
            go_wp2
            go_loopg [7] n2 (fun gk v wx => ∃ j : Nat, v = .int .i64 j ∧ j ≤ n2 ∧ gk = n2 - j ∧ wx = wr ∧ Hid (∀ y ∈ neg.take j, Vx x y.p))
            case atStart => exact ⟨0, rfl, Nat.zero_le _, by omega, rfl, Lib.hid (by simp)⟩
            case round =>
              obtain ⟨j, rfl, hj1, hgj, rfl, HAN⟩ := hrel
              have HG2 := Lib.hid hgj
              clear hgj
              by_cases hlt2 : j < n2
              · obtain ⟨B2, off2, hi2, rfl, hB2, hc⟩ := HN.out.at Pt.cells 2 (fun _ => rfl) (by omega) j hlt2
                have d0 := hc 0 _ (by omega) rfl
                rw [Nat.add_zero] at d0
                have HE := Lib.hid (show neg.take (j + 1) = neg.take j ++ [neg[j]] from take_snoc _ _ hi2)
                have HNP : Hid (¬ Vx x neg[j].p → rangedB x rs = false) := Lib.hid fun h => HNO.out fun h1 => h (h1.2.2 _ (List.getElem_mem hi2))
                clear hc
                generalize neg[j] = y at *
                obtain ⟨yp, ya⟩ := y
                dsimp only at d0 HE HNP
                by_cases h1 : 0 ≤ yp ∧ yp < x
                · have q3 : decide (yp < 0) = false := by simp; omega
                  have q4 : decide (x ≤ yp) = false := by simp; omega
                  have HX : Hid (∀ y ∈ neg.take (j + 1), Vx x y.p) := Lib.hid fun y hy => by
                    rw [HE.out] at hy
                    rcases List.mem_append.1 hy with hy | hy
                    · exact HAN.out y hy
                    · rw [List.mem_singleton.1 hy]; exact h1
                  clear h1
                  go_wp2
                  go_roundg (n2 - (j + 1))
                  case measure => have := HG2.out; omega
                  case rel => exact ⟨j + 1, by go_num, by omega, rfl, rfl, HX⟩
                · have HX := Lib.hid (HNP.out h1)
                  by_cases h2 : yp < 0
                  · clear h1
                    go_wp2
                    go_ret
                    exact ⟨by rw [HX.out]; rfl, rfl⟩
                  · have h3 : x ≤ yp := by omega
                    have q3 : decide (yp < 0) = false := by simp; omega
                    clear h1 h2
                    go_wp2
                    go_ret
                    exact ⟨by rw [HX.out]; rfl, rfl⟩
              · obtain rfl : j = n2 := by omega
                have HAN : Hid (∀ y ∈ neg, Vx x y.p) := Lib.hid (by have h := HAN.out; rwa [List.take_of_length_le (by have := HL2.out; omega)] at h)
                have HX := Lib.hid (HYES.out ⟨HV.out, HAP.out, HAN.out⟩)
                clear HG2
                go_wp2
                go_roundg (m - (k + 1))
                case measure => have := HG.out; omega
                case rel => exact ⟨k + 1, by go_num, by omega, rfl, rfl, HX⟩
      · have HX := Lib.hid (HNO.out fun h1 => h0 h1.1)
        by_cases h2 : hp < 0
        · clear h0
          go_wp2
          go_ret
          exact ⟨by rw [HX.out]; rfl, rfl⟩
        · have h3 : x ≤ hp := by omega
          have q3 : decide (hp < 0) = false := by simp; omega
          clear h0 h2
          go_wp2
          go_ret
          exact ⟨by rw [HX.out]; rfl, rfl⟩
    · obtain rfl : k = m := by omega
      have HX := Lib.hid (rangedB_true (x := x) (rs := rs) (by have h := HA.out; rwa [List.take_of_length_le (by have := HL.out; omega)] at h))
      go_wp2
      go_ret
      exact ⟨by rw [HX.out]; rfl, rfl⟩

end Go.Proofs.Ytefpglaipnnggaa
