/- The program's Bad. -/
import Derived.Test.YtefpglaipnnggaaF1
namespace Go.Proofs.Ytefpglaipnnggaa
open Go.RowKit

/-- A negated edge inside a component. -/
def negIn (κ : Int → Int) (e : E) : Bool := e.neg && (κ e.f == κ e.t)

set_option maxRecDepth 20000 in
set_option maxHeartbeats 1000000 in
theorem bad1_any (gp gc n : Nat) (comp : List Int) (e : E) (w : World) (hp : Blk w gp 37 [.slice (some ⟨gc, 0, none⟩) n n]) (hc : Blk w gc 3 (icells comp)) (hl : comp.length = n) (he : okE n e) :
    Calls Try.prog 54 #[.agg #[.int .i64 e.f, .int .i64 e.t, .bool e.neg, .int .i64 e.r], .pointer (some ⟨gp, 0, none⟩)] w fun r w' => r = .returned (.bool (negIn (lv comp) e)) ∧ Below w.heap.size w w' := by
  obtain ⟨ef, et, en, er⟩ := e
  obtain ⟨p1, p2, p3, p4⟩ := he
  dsimp only at p1 p2 p3 p4
  obtain ⟨f, rfl⟩ : ∃ f : Nat, ef = (f : Int) := ⟨ef.toNat, by omega⟩
  obtain ⟨t, rfl⟩ : ∃ t : Nat, et = (t : Int) := ⟨et.toNat, by omega⟩
  have c0 := hp.cell 0
  have y0 : w.cell? ⟨gc, f, none⟩ = some (.int .i64 (lv comp f)) := by
    have h := icells_lv (l := comp) (i := (f : Int)) (by omega) (by omega)
    rw [Int.toNat_natCast] at h
    exact (hc.cell f).trans h
  have y1 : w.cell? ⟨gc, t, none⟩ = some (.int .i64 (lv comp t)) := by
    have h := icells_lv (l := comp) (i := (t : Int)) (by omega) (by omega)
    rw [Int.toNat_natCast] at h
    exact (hc.cell t).trans h
  simp only [List.getElem?_cons_zero] at c0
  have lp := hp.lt
  have lc := hc.lt
  unfold negIn
  dsimp only
  clear hp hc
  go_enter Try.func54, Try.ntmps54
  go_upto_region 1 with (fail)
  have hb := (Below.refl w.heap.size w).alloc (Nat.le_refl _) (.cells #[.int .i64 (f : Int), .int .i64 (t : Int), .bool en, .int .i64 er] 43)
  have hE := Blk.new w 43 [.int .i64 (f : Int), .int .i64 (t : Int), .bool en, .int .i64 er]
  have c0 := (hb.cell (p := ⟨gp, 0, none⟩) lp).trans c0
  have y0 := (hb.cell (p := ⟨gc, f, none⟩) lc).trans y0
  have y1 := (hb.cell (p := ⟨gc, t, none⟩) lc).trans y1
  have HB := Lib.hid hb
  have e0 := hE.cell 0
  have e1 := hE.cell 1
  have e2 := hE.cell 2
  simp only [List.getElem?_cons_zero, List.getElem?_cons_succ] at e0 e1 e2
  clear hb hE
  generalize World.alloc _ _ = w1 at *
  generalize hR : w.heap.size = R at *
  have HRE := Lib.hid hR
  clear hR
  generalize ha : lv comp f = a at *
  generalize hb : lv comp t = b at *
  have HAB := Lib.hid (⟨ha, hb⟩ : _ ∧ _)
  clear ha hb
  cases en with
  | false =>
    go_quiet (fail)
    go_wp2
    go_ret
    exact ⟨by simp, by rw [HRE.out]; exact below_drewN HB.out _⟩
  | true =>
    go_quiet (fail)
    go_wp2
    go_ret
    exact ⟨by simp [HAB.out.1, HAB.out.2], by rw [HRE.out]; exact below_drewN HB.out _⟩

/-- The first place at which it holds, or -1. -/
def firstAt (P : E → Bool) (l : List E) : Int := if l.findIdx P < l.length then (l.findIdx P : Int) else -1

set_option maxRecDepth 20000 in
set_option maxHeartbeats 1000000 in
theorem indexFunc_any (gp gc n : Nat) (comp : List Int) (A : Option Addr) (m c : Nat) (es : List E) (w : World) (hr : Rd w w.heap.size 4 A m (ecells es)) (hf : Fits n es) (hp : Blk w gp 37 [.slice (some ⟨gc, 0, none⟩) n n]) (hc : Blk w gc 3 (icells comp)) (hl : comp.length = n) :
    Calls Try.prog 53 #[.slice A m c, .func (.func 54) #[] #[.pointer (some ⟨gp, 0, none⟩)]] w fun r w' => r = .returned (.int .i64 (firstAt (negIn (lv comp)) es)) ∧ Below w.heap.size w w' := by
  have hn : n ≤ 128 := by have := hf.2.1; omega
  have hlen : es.length = m := by have := hr.1; rw [ecells_length] at this; omega
  have HL := Lib.hid hlen
  have HR := Lib.hid hr
  have HF := Lib.hid hf
  have HP := Lib.hid hp
  have HC := Lib.hid hc
  have hmb := hr.2.1
  clear hr hf hp hc hlen
  go_enter Try.func53, Try.ntmps53
  go_wp2
  go_loopg [8] m (fun gk v wr => ∃ (k : Nat), v = .int .i64 k ∧ k ≤ m ∧ gk = m - k ∧ Hid (Below w.heap.size w wr) ∧ Hid (∀ e ∈ es.take k, negIn (lv comp) e = false))
  case atStart => exact ⟨0, rfl, Nat.zero_le _, by omega, Lib.hid (Below.refl _ _), Lib.hid (by simp)⟩
  case round =>
    obtain ⟨k, rfl, hk, hgk, HB, HA⟩ := hrel
    have HG := Lib.hid hgk
    clear hgk
    by_cases hlt : k < m
    · obtain ⟨b, o, hj1, rfl, hbb, c0, c1, c2, c3⟩ := (HR.out.below HB.out).edge k hlt
      have hok := HF.out.2.2 _ (List.getElem_mem hj1)
      have HK := Lib.hid (take_snoc es k hj1)
      have HFI : Hid (negIn (lv comp) es[k] = true → firstAt (negIn (lv comp)) es = (k : Int)) := Lib.hid fun h => by
        have h1 : es.findIdx (negIn (lv comp)) = k := by
          rw [List.findIdx_eq hj1]
          refine ⟨h, fun j hj => ?_⟩
          have := HA.out es[j] (by rw [List.mem_iff_getElem]; exact ⟨j, by rw [List.length_take]; omega, by simp⟩)
          simpa using this
        unfold firstAt
        rw [if_pos (by rw [h1]; exact hj1), h1]
      have HOK := Lib.hid hok
      generalize es[k] = e at *
      clear hok
      obtain ⟨ef, et, en, er⟩ := e
      dsimp only at c0 c1 c2 c3
      go_wp2_with fail
      refine (bad1_any gp gc n comp ⟨ef, et, en, er⟩ wr (HP.out.below HB.out HP.out.lt) (HC.out.below HB.out HC.out.lt) hl HOK.out).mono ?_
      rintro r w1 ⟨rfl, hb1⟩
      have HB1 := Lib.hid (HB.out.trans (hb1.mono HB.out.size))
      clear hb1 c0 c1 c2 c3
      cases hneg : negIn (lv comp) ⟨ef, et, en, er⟩ with
      | true =>
        have HFX := Lib.hid (HFI.out hneg)
        clear hneg
        go_wp2
        go_ret
        exact ⟨by rw [HFX.out]; rfl, HB1.out⟩
      | false =>
        have HX : Hid (∀ e ∈ es.take (k + 1), negIn (lv comp) e = false) := Lib.hid fun e he => by
          rw [HK.out] at he
          rcases List.mem_append.1 he with he | he
          · exact HA.out e he
          · rw [List.mem_singleton.1 he]; exact hneg
        clear hneg
        go_wp2
        go_roundg (m - (k + 1))
        case measure => have := HG.out; omega
        case rel => exact ⟨k + 1, by go_num, by omega, rfl, HB1, HX⟩
    · obtain rfl : k = m := by omega
      have HFX : Hid (firstAt (negIn (lv comp)) es = -1) := Lib.hid (by
        have h := HA.out
        rw [List.take_of_length_le (by have := HL.out; omega)] at h
        unfold firstAt
        rw [if_neg]
        rw [List.findIdx_lt_length]
        rintro ⟨e, he, h1⟩
        rw [h e he] at h1; cases h1)
      go_wp2
      go_ret
      exact ⟨by rw [HFX.out]; rfl, HB.out⟩

open Classical in
/-- Which edge is bad, by the components alone. -/
noncomputable def badAt (es : List E) : Int := firstAt (fun e => e.neg && decide (Scc (Eg es) e.f e.t)) es
theorem firstAt_congr {P Q : E → Bool} {l : List E} (h : ∀ e ∈ l, P e = Q e) : firstAt P l = firstAt Q l := by
  have e : l.findIdx P = l.findIdx Q := by
    induction l with
    | nil => rfl
    | cons a l ih =>
      simp only [List.findIdx_cons, h a (by simp), ih (fun e he => h e (List.mem_cons_of_mem _ he))]
  unfold firstAt
  rw [e]
theorem badAt_part {n : Nat} {κ : Int → Int} {count : Int} {es : List E} (hf : Fits n es) (hp : Part n (Eg es) κ count) : firstAt (negIn κ) es = badAt es := by
  unfold badAt
  refine firstAt_congr fun e he => ?_
  have hok := hf.2.2 e he
  have h := hp.scc e.f e.t ⟨hok.1, hok.2.1⟩ ⟨hok.2.2.1, hok.2.2.2⟩
  unfold negIn
  by_cases e1 : κ e.f = κ e.t
  · have := h.1 e1
    simp [e1, this]
  · have : ¬ Scc (Eg es) e.f e.t := fun x => e1 (h.2 x)
    simp [e1, this]

set_option maxRecDepth 20000 in
theorem progBad_any (A : Option Addr) (m c n : Nat) (es : List E) (w : World) (hr : Rd w w.heap.size 4 A m (ecells es)) (hf : Fits n es) (hreach : m * 32 ≤ 140737488355328) :
    Calls Try.prog 38 #[.int .i64 n, .slice A m c] w fun e w' => e = .returned (.tuple #[.int .i64 (badAt es), .int .i64 0]) ∧ Below w.heap.size w w' := by
  have HR := Lib.hid hr
  have HF := Lib.hid hf
  have HM := Lib.hid hreach
  have hfit := (fitB_iff n es).2 hf
  clear hr hf hreach
  go_enter Try.func38, Try.ntmps38
  go_wp2_with fail
  refine (may_any n A m c es _ HR.out).mono ?_
  rintro e w1 ⟨rfl, hb1⟩
  rw [hfit]
  have HR1 := Lib.hid (HR.out.up hb1 hb1.size)
  have HB1 := Lib.hid hb1
  clear hb1 hfit
  go_wp2_with fail
  refine (components_any A m c n es _ HR1.out HF.out HM.out).mono ?_
  rintro e w2 ⟨gc, comp, count, rfl, hb2, hgc, hblk, hcl, hpart⟩
  have hmf : ∀ (fn : Fn) (first cap : Array Value) (w : World), (Instr.makeFunc fn first cap).run Try.prog w = .ok (.func fn first cap) w := fun _ _ _ _ => rfl
  have HR2 := Lib.hid (HR1.out.up hb2 hb2.size)
  have HB2 := Lib.hid (HB1.out.trans (hb2.mono HB1.out.size))
  have HCB := Lib.hid hblk
  have HP := Lib.hid hpart
  clear hpart hb2 hblk HR1 HB1 hgc
  go_wp2_with fail
  have hal := (Below.refl w2.heap.size w2).alloc (Nat.le_refl _) (.cells #[.slice (some ⟨gc, 0, none⟩) n n] 37)
  refine (indexFunc_any w2.heap.size gc n comp A m c es _ (HR2.out.up hal hal.size) HF.out (Blk.new w2 37 [.slice (some ⟨gc, 0, none⟩) n n]) (HCB.out.alloc _) hcl).mono ?_
  rintro r w3 ⟨rfl, hb3⟩
  have HB3 := Lib.hid (HB2.out.trans ((hal.trans (hb3.mono hal.size)).mono HB2.out.size))
  have hbad := badAt_part HF.out HP.out
  rw [hbad]
  clear hbad hal hb3
  go_wp2
  go_ret2
  exact ⟨rfl, HB3.out⟩

set_option maxRecDepth 20000 in
theorem progBad_no (A : Option Addr) (m c : Nat) (x : Int) (es : List E) (w : World) (hr : Rd w w.heap.size 4 A m (ecells es)) (hf : ¬ Fits x es) :
    Calls Try.prog 38 #[.int .i64 x, .slice A m c] w fun e w' => e = .returned (.tuple #[.int .i64 0, .int .i64 2]) ∧ Below w.heap.size w w' := by
  have HR := Lib.hid hr
  have hfit := fitB_false hf
  clear hr hf
  go_enter Try.func38, Try.ntmps38
  go_wp2_with fail
  refine (may_any x A m c es _ HR.out).mono ?_
  rintro e w1 ⟨rfl, hb1⟩
  rw [hfit]
  have HB1 := Lib.hid hb1
  clear hb1 hfit
  go_wp2
  go_ret2
  exact ⟨rfl, HB1.out⟩
end Go.Proofs.Ytefpglaipnnggaa
