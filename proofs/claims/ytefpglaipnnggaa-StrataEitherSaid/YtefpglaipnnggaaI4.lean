/- The document's Bad; a ring while it grows. -/
import Derived.Test.YtefpglaipnnggaaI2
import Derived.Test.YtefpglaipnnggaaE6
import Derived.Test.YtefpglaipnnggaaE7
namespace Go.Proofs.Ytefpglaipnnggaa
open Go.RowKit

open Classical in
noncomputable def bdE (es : List E) (e : E) : Bool := e.neg && decide (Scc (Eg es) e.f e.t)

set_option maxRecDepth 20000 in
set_option maxHeartbeats 2000000 in
theorem refBad_any (A : Option Addr) (m c n : Nat) (es : List E) (w : World) (hr : Rd w w.heap.size 4 A m (ecells es)) (hf : Fits n es) :
    Calls Try.prog 36 #[.int .i64 n, .slice A m c] w fun e w' => e = .returned (.tuple #[.int .i64 (badAt es), .int .i64 0]) ∧ Below w.heap.size w w' := by
  have hn : n ≤ 128 := by have := hf.2.1; omega
  have hlen : es.length = m := by have := hr.1; rw [ecells_length] at this; omega
  have HL := Lib.hid hlen
  have HR := Lib.hid hr
  have HF := Lib.hid hf
  have hfit := (fitB_iff n es).2 hf
  have hmb := hr.2.1
  clear hr hf hlen
  go_enter Try.func36, Try.ntmps36
  go_wp2_with fail
  refine (refFit_any n A m c es _ HR.out).mono ?_
  rintro e w1 ⟨rfl, rfl⟩
  rw [hfit]
  clear hfit
  go_wp2_with fail
  refine (refReach_any A m c n es _ HR.out HF.out).mono ?_
  rintro e wT ⟨v6, gs, tv, rfl, hT, htg⟩
  have HT := Lib.hid hT
  have HTG := Lib.hid htg
  clear hT htg
  go_wp2
  go_loopg [7] m (fun gk v wr => ∃ (k : Nat), v = .int .i64 k ∧ k ≤ m ∧ gk = m - k ∧ Hid (Tab w wr n n v6 gs tv) ∧ Hid (∀ e ∈ es.take k, bdE es e = false))
  case atStart => exact ⟨0, rfl, Nat.zero_le _, by omega, HT, Lib.hid (by simp)⟩
  case round =>
    clear HT
    obtain ⟨k, rfl, hk, hgk, HT, HA⟩ := hrel
    have HG := Lib.hid hgk
    clear hgk
    by_cases hlt : k < m
    · obtain ⟨b, o, hj1, rfl, hbb, c0, c1, c2, c3⟩ := (HR.out.below HT.out.below).edge k hlt
      have hok := HF.out.2.2 _ (List.getElem_mem hj1)
      have HK := Lib.hid (take_snoc es k hj1)
      have HFI : Hid (bdE es es[k] = true → badAt es = (k : Int)) := Lib.hid fun h => by
        have h1 : es.findIdx (bdE es) = k := by
          rw [List.findIdx_eq hj1]
          refine ⟨h, fun j hj => ?_⟩
          have := HA.out es[j] (by rw [List.mem_iff_getElem]; exact ⟨j, by rw [List.length_take]; omega, by simp⟩)
          simpa using this
        show firstAt (bdE es) es = k
        unfold firstAt
        rw [if_pos (by rw [h1]; exact hj1), h1]
      generalize es[k] = e at *
      obtain ⟨ef, et, en, er⟩ := e
      obtain ⟨p1, p2, p3, p4⟩ := hok
      dsimp only at c0 c1 c2 c3 p1 p2 p3 p4
      obtain ⟨f, rfl⟩ : ∃ f : Nat, ef = (f : Int) := ⟨ef.toNat, by omega⟩
      obtain ⟨t, rfl⟩ : ∃ t : Nat, et = (t : Int) := ⟨et.toNat, by omega⟩
      have HNO : Hid (bdE es ⟨f, t, en, er⟩ = false → ∀ e ∈ es.take (k + 1), bdE es e = false) := Lib.hid fun hneg e he => by
        rw [HK.out] at he
        rcases List.mem_append.1 he with he | he
        · exact HA.out e he
        · rw [List.mem_singleton.1 he]; exact hneg
      have HBE : Hid (bdE es ⟨f, t, en, er⟩ = (en && oneB tv f t)) := Lib.hid (by
        have h := oneB_iff HTG.out (a := (f : Int)) (b := (t : Int)) ⟨by omega, by omega⟩ ⟨by omega, by omega⟩
        unfold bdE
        dsimp only
        cases h1 : oneB tv f t with
        | true => simp [h.1 h1]
        | false =>
          have : ¬ Scc (Eg es) f t := fun hx => by rw [h.2 hx] at h1; cases h1
          simp [this])
      cases en with
      | false =>
        have HX := Lib.hid (HNO.out (by rw [HBE.out]; rfl))
        go_upto_region 7 with (fail)
        go_quiet (fail)
        go_wp2
        go_roundg (m - (k + 1))
        case measure => have := HG.out; omega
        case rel => exact ⟨k + 1, by go_num, by omega, rfl, Lib.hid (HT.out.drewN _), HX⟩
      | true =>
        have H1 : Hid (∀ q, Calls Try.prog 49 #[v6, .int .i64 f, .int .i64 t] (wr.drewN q) fun e w' => e = .returned (.bool (oneB tv f t)) ∧ w' = wr.drewN q) := Lib.hid fun q => one_any (HT.out.drewN q) f t (by omega) (by omega)
        have HBE : Hid (bdE es ⟨f, t, true, er⟩ = oneB tv f t) := Lib.hid (by rw [HBE.out]; rfl)
        generalize hob : oneB tv f t = ob at *
        clear hob
        go_upto_region 7 with (fail)
        go_quiet ((go_at_call 49; exact Calls.quiet_of_same (H1.out _)))
        cases ob with
        | false =>
          have HX := Lib.hid (HNO.out HBE.out)
          go_wp2
          go_roundg (m - (k + 1))
          case measure => have := HG.out; omega
          case rel => exact ⟨k + 1, by go_num, by omega, rfl, Lib.hid (HT.out.drewN _), HX⟩
        | true =>
          have HX := Lib.hid (HFI.out HBE.out)
          go_wp2
          go_ret2
          exact ⟨by rw [HX.out]; rfl, (HT.out.drewN _).below⟩
    · obtain rfl : k = m := by omega
      have HFX : Hid (badAt es = -1) := Lib.hid (by
        have h := HA.out
        rw [List.take_of_length_le (by have := HL.out; omega)] at h
        show firstAt (bdE es) es = -1
        unfold firstAt
        rw [if_neg]
        rw [List.findIdx_lt_length]
        rintro ⟨e, he, h1⟩
        rw [h e he] at h1; cases h1)
      go_wp2
      go_ret2
      exact ⟨by rw [HFX.out]; rfl, HT.out.below⟩

set_option maxRecDepth 20000 in
theorem refBad_no (A : Option Addr) (m c : Nat) (x : Int) (es : List E) (w : World) (hr : Rd w w.heap.size 4 A m (ecells es)) (hf : ¬ Fits x es) :
    Calls Try.prog 36 #[.int .i64 x, .slice A m c] w fun e w' => e = .returned (.tuple #[.int .i64 0, .int .i64 2]) ∧ w' = w := by
  have HR := Lib.hid hr
  have hfit := fitB_false hf
  clear hr hf
  go_enter Try.func36, Try.ntmps36
  go_wp2_with fail
  refine (refFit_any x A m c es _ HR.out).mono ?_
  rintro e w1 ⟨rfl, rfl⟩
  rw [hfit]
  clear hfit
  go_wp2
  go_ret2
  exact ⟨rfl, rfl⟩

/-- A ring while it grows, beside the distances. -/
structure RG (W wr : World) (G : Nat) (v : Value) (b : Nat) (p l : List Int) : Prop where
  bl : Below W.heap.size W wr
  far : Blk wr G 3 (icells l)
  row : wr.ownsRow W.heap.size 3 1 v (p.length + 1) (icells ((b : Int) :: p))
  ne : v.ownBlock ≠ some G
theorem RG.up {W wr w' : World} {G b : Nat} {v : Value} {p l : List Int} (h : RG W wr G v b p l) (hb : Below wr.heap.size wr w') : RG W w' G v b p l :=
  ⟨h.bl.trans (hb.mono h.bl.size), h.far.below hb h.far.lt, own_below h.row hb, h.ne⟩
theorem RG.grow {W w0 w' : World} {G b : Nat} {v v' : Value} {p l : List Int} {i : Nat} (h : RG W w0 G v b p l) (hg : w0.grownBy w' v.ownBlock)
    (hown : w'.ownsRow W.heap.size 3 1 v' (p.length + 1 + 1) (icells ((b : Int) :: p) ++ [.int .i64 i])) (hne : v'.ownBlock = v.ownBlock ∨ v'.ownBlock = some w0.heap.size) : RG W w' G v' b (p ++ [(i : Int)]) l :=
  ⟨h.bl.grown hg h.bl.size (fun q hq => (h.row.lt q hq).1), h.far.grown hg (fun e => h.ne e.symm), by
    have e1 : (p ++ [(i : Int)]).length + 1 = p.length + 1 + 1 := by simp
    have e2 : icells ((b : Int) :: (p ++ [(i : Int)])) = icells ((b : Int) :: p) ++ [.int .i64 i] := by simp [icells]
    rw [e1, e2]; exact hown, by
    rcases hne with h1 | h1
    · rw [h1]; exact h.ne
    · rw [h1]
      intro e
      have h2 := h.far.lt
      injection e with e
      omega⟩
theorem RG.cell {W wr : World} {G b : Nat} {v : Value} {p l : List Int} (h : RG W wr G v b p l) {a : Nat} (ha : a < l.length) : wr.cell? ⟨G, a, none⟩ = some (.int .i64 (lv l a)) := by
  have h1 := icells_lv (l := l) (i := (a : Int)) (by omega) (by omega)
  rw [Int.toNat_natCast] at h1
  exact (h.far.cell a).trans h1
/-- The way, one step on. -/
theorem Wy.snoc {es : List E} {g : Int} {a t0 : Int} {p : List Int} {i k : Nat} (hw : ∀ rest, Wy es g a rest → Wy es g t0 (p ++ rest)) (hi : i < es.length) (hd : Dd es g a (k + 1)) (hx : Nx es g a es[i]) (hn : ∀ q, (hq : q < es.length) → q < i → ¬ Nx es g a es[q]) :
    ∀ rest, Wy es g es[i].t rest → Wy es g t0 ((p ++ [(i : Int)]) ++ rest) := fun rest hr => by
  rw [List.append_assoc]
  refine hw _ ⟨fun e => ?_, i, hi, rfl, hx, fun q hq => hn q _ hq, hr⟩
  have := hd.zero_iff.2 e
  omega
theorem Nx.dd {es : List E} {g a : Int} {e : E} {k : Nat} (h : Nx es g a e) (hd : Dd es g a (k + 1)) : Dd es g e.t k := by
  obtain ⟨_, j, h1, h2⟩ := h
  have : j = k := by have := h1.unique hd; omega
  rw [← this]; exact h2
theorem Nx.some {es : List E} {g a : Int} {k : Nat} (hd : Dd es g a (k + 1)) (hn : ∀ q, (hq : q < es.length) → ¬ Nx es g a es[q]) : False := by
  obtain ⟨e, he, h1, h2⟩ := hd.next
  obtain ⟨q, hq, rfl⟩ := List.mem_iff_getElem.1 he
  exact hn q hq ⟨h1, k, hd, h2⟩
end Go.Proofs.Ytefpglaipnnggaa
