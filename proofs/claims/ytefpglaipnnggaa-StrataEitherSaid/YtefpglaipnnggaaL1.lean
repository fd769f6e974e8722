/- Least levels are a mapping, a ring is a closed walk; the law's mapping. -/
import Derived.Test.YtefpglaipnnggaaI1
import Derived.Test.YtefpglaipnnggaaA9
namespace Go.Proofs.Ytefpglaipnnggaa
open Go.RowKit

theorem ev_get {es : List E} {k : Nat} (hk : k < es.length) : ev es k = es[k] := by simp [ev, hk]
theorem LeastL.holds {n : Nat} {es : List E} {l : List Int} (hf : Fits n es) (h : LeastL n es l) : HoldsP n es l := by
  refine ⟨hf, by rw [h.1], fun x hx => ?_, fun e he => ?_⟩
  · obtain ⟨k, hk, rfl⟩ := List.mem_iff_getElem.1 hx
    rw [← lv_get hk]
    exact h.2.1.1 k ⟨by omega, by have := h.1; omega⟩
  · have h1 := h.2.1.2 e he
    unfold stp at h1
    unfold okL
    cases hn : e.neg
    · rw [hn] at h1; simp at h1; exact ⟨by omega, fun h => by cases h⟩
    · rw [hn] at h1; simp at h1; exact ⟨by omega, fun _ => by omega⟩

theorem Wy.range {es : List E} {g : Int} : ∀ {l : List Int} {a : Int}, Wy es g a l → ∀ i ∈ l, inR es.length i
  | [], _, _, i, hi => by simp at hi
  | x :: l, a, h, i, hi => by
    obtain ⟨_, j, hj, rfl, _, _, h3⟩ := h
    rcases List.mem_cons.1 hi with rfl | hi
    · exact ⟨by omega, by omega⟩
    · exact Wy.range h3 i hi
theorem Wy.head {es : List E} {g a i : Int} {l : List Int} (h : Wy es g a (i :: l)) : (ev es i).f = a := by
  obtain ⟨_, j, hj, rfl, h1, _, _⟩ := h
  rw [ev_get hj]; exact h1.1
theorem lv_succ (x : Int) (l : List Int) (k : Nat) : lv (x :: l) ((k + 1 : Nat) : Int) = lv l k := by
  unfold lv
  rw [Int.toNat_natCast, Int.toNat_natCast]; rfl
theorem Wy.chain {es : List E} {g : Int} : ∀ {l : List Int} {a : Int}, Wy es g a l → ∀ k : Nat, k < l.length → (ev es (lv l k)).t = if k + 1 < l.length then (ev es (lv l ((k + 1 : Nat) : Int))).f else g
  | [], _, _, k, hk => by simp at hk
  | x :: l, a, h, k, hk => by
    have h0 := h
    obtain ⟨_, j, hj, rfl, _, _, h3⟩ := h
    cases k with
    | zero =>
      have e0 : lv ((j : Int) :: l) ((0 : Nat) : Int) = (j : Int) := rfl
      rw [e0, ev_get hj]
      cases l with
      | nil => rw [if_neg (by simp)]; exact h3
      | cons y l =>
        rw [if_pos (by simp), lv_succ]
        exact h3.head.symm
    | succ k =>
      have hk' : k < l.length := by simpa using hk
      rw [lv_succ, Wy.chain h3 k hk', lv_succ]
      simp only [List.length_cons, Nat.add_lt_add_iff_right]
theorem ring_cyc {n : Nat} {es : List E} {b : Nat} {rest : List Int} (hf : Fits n es) (hb : b < es.length) (hbad : badAt es = b) (h : Wy es es[b].f es[b].t rest) : CycP n es ((b : Int) :: rest) := by
  refine ⟨hf, by simp, fun i hi => ?_, fun k hk => ?_, ?_⟩
  · rcases List.mem_cons.1 hi with rfl | hi
    · exact ⟨by omega, by omega⟩
    · exact h.range i hi
  · unfold stepOk nextOf
    have e0 : lv ((b : Int) :: rest) ((0 : Nat) : Int) = (b : Int) := rfl
    cases k with
    | zero =>
      rw [e0, ev_get hb]
      cases rest with
      | nil =>
        have : (0 + 1) % ([(b : Int)].length) = 0 := by simp
        rw [this, e0, ev_get hb]; exact h
      | cons y l =>
        have : (0 + 1) % (((b : Int) :: y :: l).length) = 1 := Nat.mod_eq_of_lt (by simp)
        rw [this]
        have e1 : lv ((b : Int) :: y :: l) ((1 : Nat) : Int) = y := rfl
        rw [e1]; exact h.head.symm
    | succ k =>
      have hk' : k < rest.length := by simpa using hk
      rw [lv_succ, h.chain k hk']
      simp only [List.length_cons]
      by_cases h1 : k + 1 < rest.length
      · rw [if_pos h1, Nat.mod_eq_of_lt (by omega), lv_succ]
      · have : k + 1 + 1 = rest.length + 1 := by omega
        rw [if_neg h1, this, Nat.mod_self, e0, ev_get hb]
  · rw [List.any_cons, ev_get hb]
    have h0 := hbad
    unfold badAt firstAt at h0
    split at h0
    · rename_i h1
      have h2 := List.findIdx_getElem (w := h1)
      simp only [Bool.and_eq_true] at h2
      have : (es.findIdx (fun e => e.neg && @decide (Scc (Eg es) e.f e.t) (Classical.propDecidable _))) = b := by exact_mod_cast h0
      have h3 := h2.1
      simp only [this] at h3
      rw [h3]; rfl
    · omega

set_option maxRecDepth 20000 in
set_option maxHeartbeats 2000000 in
theorem mapping_ok (n : Nat) (A A' : Option Addr) (m c k c' : Nat) (es : List E) (ls : List Int) (w : World) (hr : Rd w w.heap.size 4 A m (ecells es)) (hr' : Rd w w.heap.size 1 A' k (icells ls)) (hh : HoldsP n es ls) :
    Calls Try.prog 44 #[.slice A m c, .slice A' k c'] w fun e w' => e = .returned (.bool true) ∧ Below w.heap.size w w' := by
  have hlen : es.length = m := by have := hr.1; rw [ecells_length] at this; omega
  have hlen' : ls.length = k := by have := hr'.1; rw [icells_length] at this; omega
  have HL := Lib.hid hlen
  have HL' := Lib.hid hlen'
  have hm := hr.2.1
  have hk := hr'.2.1
  have HR := Lib.hid hr
  have HR' := Lib.hid hr'
  have HH := Lib.hid hh
  clear hr hr' hh hlen hlen'
  go_enter Try.func44, Try.ntmps44
  go_wp2
  go_loopg [5] k (fun gk v wr => ∃ i : Nat, v = .int .i64 i ∧ i ≤ k ∧ gk = k - i ∧ Hid (Below w.heap.size w wr))
  case atStart => exact ⟨0, rfl, Nat.zero_le _, by omega, Lib.hid (Below.refl _ _)⟩
  case round =>
    obtain ⟨i, rfl, hik, hgi, HB⟩ := hrel
    have HG := Lib.hid hgi
    clear hgi
    by_cases hlt : i < k
    · obtain ⟨b2, o2, hj2, rfl, hbb2, t0⟩ := (HR'.out.below HB.out).int i hlt
      have hx := HH.out.2.2.1 _ (List.getElem_mem hj2)
      generalize ls[i] = y at *
      have hx2 : decide (y < 0) = false := by simp; omega
      go_wp2
      go_roundg (k - (i + 1))
      case measure => have := HG.out; omega
      case rel => exact ⟨i + 1, by go_num, by omega, rfl, HB⟩
    · obtain rfl : i = k := by omega
      clear HG
      go_wp2
      go_loopg [6] m (fun gk v wr => ∃ q : Nat, v = .int .i64 q ∧ q ≤ m ∧ gk = m - q ∧ Hid (Below w.heap.size w wr))
      case atStart => exact ⟨0, rfl, Nat.zero_le _, by omega, HB⟩
      case round =>
        clear HB
        obtain ⟨q, rfl, hqm, hgq, HB⟩ := hrel
        have HG := Lib.hid hgq
        clear hgq
        by_cases hlq : q < m
        · obtain ⟨b, o, hj1, rfl, hbb, c0, c1, c2, _⟩ := (HR.out.below HB.out).edge q hlq
          have hem := List.getElem_mem hj1
          have hok := HH.out.1.2.2 _ hem
          have hol := HH.out.2.2.2 _ hem
          have hnl := HH.out.2.1
          clear hem
          generalize es[q] = e at *
          obtain ⟨ef, et, en, er⟩ := e
          obtain ⟨p1, p2, p3, p4⟩ := hok
          obtain ⟨r1, r2⟩ := hol
          dsimp only at c0 c1 c2 p1 p2 p3 p4 r1 r2
          obtain ⟨f, rfl⟩ : ∃ f : Nat, ef = (f : Int) := ⟨ef.toNat, by omega⟩
          obtain ⟨t, rfl⟩ : ∃ t : Nat, et = (t : Int) := ⟨et.toNat, by omega⟩
          have hfk : f < i := by have := HL'.out; omega
          have htk : t < i := by have := HL'.out; omega
          obtain ⟨b2, o2, hj2, rfl, hbb2, x0⟩ := (HR'.out.below HB.out).int f hfk
          obtain ⟨b3, o3, hj3, hA3, hbb3, x1⟩ := (HR'.out.below HB.out).int t htk
          obtain ⟨rfl, rfl⟩ : b2 = b3 ∧ o2 = o3 := by
            injection hA3 with hA
            injection hA with h1 h2
            exact ⟨h1, h2⟩
          rw [← lv_get hj2] at x0
          rw [← lv_get hj3] at x1
          generalize lv ls f = lf at *
          generalize lv ls t = lt at *
          have hs1 : decide (lt < lf) = false := by simp; omega
          clear hA3 hnl
          cases en with
          | false =>
            clear r2
            go_upto_region 9 with (fail)
            go_quiet (fail)
            go_wp2
            go_roundg (m - (q + 1))
            case measure => have := HG.out; omega
            case rel => exact ⟨q + 1, by go_num, by omega, rfl, Lib.hid (below_drewN HB.out _)⟩
          | true =>
            have hs2 : ¬ lt = lf := r2 rfl
            have hs3 : (lt == lf) = false := by simpa using hs2
            clear r2
            go_upto_region 9 with (fail)
            go_quiet (fail)
            go_wp2
            go_roundg (m - (q + 1))
            case measure => have := HG.out; omega
            case rel => exact ⟨q + 1, by go_num, by omega, rfl, Lib.hid (below_drewN HB.out _)⟩
        · obtain rfl : q = m := by omega
          go_wp2
          go_ret
          exact ⟨rfl, HB.out⟩
end Go.Proofs.Ytefpglaipnnggaa
