/- The program's components in order. -/
import Derived.Test.YtefpglaipnnggaaE1
import Derived.Test.YtefpglaipnnggaaD4
namespace Go.Proofs.Ytefpglaipnnggaa
open Go.RowKit

theorem Try.info4 : (Try.prog.info? 4).map (fun i => (i.zero, i.size, i.bytes)) = some (some (.bool false), 1, 1) := by kernel_rfl

/-- The members as edges: from the component to the member. -/
def esM (κ : Int → Int) (k : Nat) : List E := (ps k).map (fun v => ⟨κ v, v, false, 0⟩)
theorem esM_succ (κ : Int → Int) (k : Nat) : esM κ (k + 1) = esM κ k ++ [⟨κ k, k, false, 0⟩] := by simp [esM, ps_succ]
theorem esM_adj (κ : Int → Int) (k : Nat) (c : Int) : adjL (esM κ k) c = mem k κ c := by
  induction k with
  | zero => rfl
  | succ k ih => rw [esM_succ, adjL_snoc, mem_snoc, ih]
theorem lv_at {l : List Int} {v : Int} (h0 : 0 ≤ v) (h1 : v < l.length) : ∃ h : v.toNat < l.length, l[v.toNat] = lv l v := ⟨by omega, by simp [lv, List.getD, List.getElem?_eq_getElem (show v.toNat < l.length by omega)]⟩

/-- The comp block and the members' block. -/
structure MB (w wx : World) (gc gm : Nat) (comp : List Int) (rows : List Value) : Prop where
  below : Below w.heap.size w wx
  bc : Blk wx gc 3 (icells comp)
  bm : Blk wx gm 37 rows
  ge : w.heap.size ≤ gc ∧ w.heap.size ≤ gm
theorem MB.alloc {w wx : World} {gc gm : Nat} {comp : List Int} {rows : List Value} (h : MB w wx gc gm comp rows) (o : Obj) : MB w (wx.alloc o) gc gm comp rows :=
  ⟨h.below.alloc h.below.size o, h.bc.alloc o, h.bm.alloc o, h.ge⟩
theorem MB.drew {w wx : World} {gc gm : Nat} {comp : List Int} {rows : List Value} (h : MB w wx gc gm comp rows) : MB w wx.drew gc gm comp rows := ⟨h.below.drew, h.bc, h.bm, h.ge⟩
theorem MB.row {w wx w1 : World} {gc gm : Nat} {comp : List Int} {rows : List Value} {row : Option Nat} (h : MB w wx gc gm comp rows) (hg : wx.grownBy w1 row)
    (hr : ∀ q, row = some q → w.heap.size ≤ q ∧ q ≠ gc ∧ q ≠ gm) (f : Nat) (v : Value) : MB w (w1.setCell ⟨gm, f, none⟩ v) gc gm comp (rows.set f v) :=
  have hne : gc ≠ gm := fun e => by
    have h1 := h.bc; have h2 := h.bm
    unfold Blk at h1 h2
    rw [e, h2] at h1
    injection h1 with h1; injection h1 with _ h3; cases h3
  ⟨(h.below.grown hg h.below.size (fun q hq => (hr q hq).1)).setCell (p := ⟨gm, f, none⟩) h.ge.2 v, (h.bc.grown hg (fun e => (hr gc e.symm).2.1 rfl)).far hne v, (h.bm.grown hg (fun e => (hr gm e.symm).2.2 rfl)).set_ f v, h.ge⟩

theorem lv_set {l : List Int} {i : Nat} (hi : i < l.length) (x c : Int) : lv (l.set i x) c = if c.toNat = i then x else lv l c := by
  unfold lv
  simp only [List.getD_eq_getElem?_getD, List.getElem?_set]
  by_cases e : i = c.toNat
  · rw [if_pos e, if_pos hi, if_pos e.symm]; rfl
  · rw [if_neg e, if_neg (fun h => e h.symm)]

/-- What stands once the members are laid: numbers, rows. -/
structure CF (w wM : World) (gc gm n cn : Nat) (comp : List Int) (rows : List Value) (es : List E) : Prop where
  mb : MB w wM gc gm comp rows
  rw : Rows2 w.heap.size wM gc gc gc cn (esM (lv comp) n) rows
  len : comp.length = n
  part : Part n (Eg es) (lv comp) cn
  fits : Fits n es
theorem CF.comp_cell {w wM wr : World} {gc gm n cn : Nat} {comp : List Int} {rows : List Value} {es : List E} (h : CF w wM gc gm n cn comp rows es) (b : Below wM.heap.size wM wr) {p : Int} (hp : Vx n p) : wr.cell? ⟨gc, p.toNat, none⟩ = some (.int .i64 (lv comp p)) :=
  ((h.mb.bc.below b h.mb.bc.lt).cell _).trans (icells_lv hp.1 (by rw [h.len]; exact hp.2))
theorem CF.row {w wM wr : World} {gc gm n cn : Nat} {comp : List Int} {rows : List Value} {es : List E} (h : CF w wM gc gm n cn comp rows es) (b : Below wM.heap.size wM wr) {c : Nat} (hc : c < cn) :
    ∃ g cap v rest, ∃ h2 : c < rows.length, rows[c] = .slice (some ⟨g, 0, none⟩) (rest.length + 1) cap ∧ mem n (lv comp) c = v :: rest ∧ wr.cell? ⟨gm, c, none⟩ = some (.slice (some ⟨g, 0, none⟩) (rest.length + 1) cap) ∧
      wr.cell? ⟨g, 0, none⟩ = some (.int .i64 v) ∧ rest.length + 1 ≤ 9223372036854775807 := by
  have h2 : c < rows.length := by have := h.rw.len; omega
  obtain ⟨hown, _⟩ := h.rw.own c h2
  rw [esM_adj] at hown
  obtain ⟨v, rest, hm, _⟩ := hd_mem h.part (c := c) (by omega) (by omega)
  rw [hm] at hown
  obtain ⟨g, cap, cur, hv, hb, hg, hnc, hcm, hcs, ht⟩ := own_blkd hown (by simp)
  refine ⟨g, cap, v, rest, h2, hv, hm, ?_, ?_, ?_⟩
  · refine ((h.mb.bm.below b h.mb.bm.lt).cell c).trans ?_
    rw [List.getElem?_eq_getElem h2, hv]; rfl
  · refine ((hg.below b hg.lt).cell 0).trans ?_
    have e : (cur.take ((v :: rest).length * 1))[0]? = (icells (v :: rest))[0]? := by rw [ht]
    rw [List.getElem?_take, if_pos (by simp)] at e
    rw [e]; rfl
  · unfold maxLen at hcm; simp only [List.length_cons] at hnc; omega

def bcells (l : List Bool) : List Value := l.map Value.bool
def rwv (rows : List Value) (c : Int) : Value := rows.getD c.toNat (.slice none 0 0)
/-- What stands while the components are told: which are, in the told block and in the row of answers. -/
structure CS (S T U cn : Nat) (wM wr : World) (rows : List Value) (ch : List Int) (tl : List Bool) (v : Value) : Prop where
  b : Below S wM wr
  bt : Blk wr T 4 (bcells tl)
  len : tl.length = cn
  told : ∀ c : Nat, c < cn → tl[c]? = some (decide ((c : Int) ∈ ch))
  own : wr.ownsRow U 37 1 v ch.length (ch.map (rwv rows))
  sz : S < T ∧ T < U ∧ U ≤ wr.heap.size
theorem CS.drewN {S T U cn : Nat} {wM wr : World} {rows : List Value} {ch : List Int} {tl : List Bool} {v : Value} (h : CS S T U cn wM wr rows ch tl v) (q : Nat) : CS S T U cn wM (wr.drewN q) rows ch tl v :=
  ⟨below_drewN h.b q, h.bt.drewN q, h.len, h.told, own_drewN h.own q, h.sz⟩
theorem CS.alloc {S T U cn : Nat} {wM wr : World} {rows : List Value} {ch : List Int} {tl : List Bool} {v : Value} (h : CS S T U cn wM wr rows ch tl v) (o : Obj) : CS S T U cn wM (wr.alloc o) rows ch tl v :=
  ⟨h.b.alloc (by have := h.sz; omega) o, h.bt.alloc o, h.len, h.told, h.own.alloc o, h.sz.1, h.sz.2.1, by have := h.sz.2.2; simp; omega⟩
theorem CS.told_at {S T U cn : Nat} {wM wr : World} {rows : List Value} {ch : List Int} {tl : List Bool} {v : Value} (h : CS S T U cn wM wr rows ch tl v) {c : Nat} (hc : c < cn) : wr.cell? ⟨T, c, none⟩ = some (.bool (decide ((c : Int) ∈ ch))) := by
  refine (h.bt.cell c).trans ?_
  unfold bcells
  rw [List.getElem?_map, h.told c hc]; rfl
theorem CS.waits {S T U cn : Nat} {wM wr : World} {rows : List Value} {ch : List Int} {tl : List Bool} {v : Value} (h : CS S T U cn wM wr rows ch tl v) (i : Nat) (u : Value) : CS S T U cn wM (wr.setCell ⟨S, i, none⟩ u) rows ch tl v :=
  ⟨h.b.setCell (p := ⟨S, i, none⟩) (Nat.le_refl _) u, h.bt.far (p := ⟨S, i, none⟩) (by have := h.sz; simp; omega) u, h.len, h.told, ownsRow_setCell_below h.own (by have := h.sz; simp; omega) u, h.sz.1, h.sz.2.1, by have := h.sz.2.2; simpa using this⟩

/-- The best component among the first j. -/
def BestI (n : Nat) (es : List E) (κ : Int → Int) (ch : List Int) (j : Nat) (b : Int) : Prop :=
  (b = -1 ∧ ∀ x : Int, 0 ≤ x → x < j → ¬ CR es κ ch x) ∨ (0 ≤ b ∧ b < j ∧ CR es κ ch b ∧ ∀ x : Int, 0 ≤ x → x < j → CR es κ ch x → ∀ u r v s, mem n κ x = u :: r → mem n κ b = v :: s → v ≤ u)
theorem BestI.skip {n : Nat} {es : List E} {κ : Int → Int} {ch : List Int} {j : Nat} {b : Int} (h : BestI n es κ ch j b) (hn : ¬ CR es κ ch j) : BestI n es κ ch (j + 1) b := by
  rcases h with ⟨h1, h2⟩ | ⟨h1, h2, h3, h4⟩
  · refine .inl ⟨h1, fun x h0 hx => ?_⟩
    by_cases e : x = j
    · rw [e]; exact hn
    · exact h2 x h0 (by omega)
  · refine .inr ⟨h1, by omega, h3, fun x h0 hx hc => ?_⟩
    by_cases e : x = j
    · rw [e] at hc; exact absurd hc hn
    · exact h4 x h0 (by omega) hc
theorem BestI.stay {n : Nat} {es : List E} {κ : Int → Int} {ch : List Int} {j : Nat} {b v u : Int} {r s : List Int} (h : BestI n es κ ch j b) (hb : 0 ≤ b) (hj : mem n κ j = u :: r) (hm : mem n κ b = v :: s) (hle : v ≤ u) : BestI n es κ ch (j + 1) b := by
  rcases h with ⟨h1, h2⟩ | ⟨h1, h2, h3, h4⟩
  · omega
  · refine .inr ⟨h1, by omega, h3, fun x h0 hx hc => ?_⟩
    by_cases e : x = j
    · intro u' r' v' s' h5 h6
      rw [e, hj] at h5
      rw [hm] at h6
      injection h5 with h5; injection h6 with h6
      omega
    · exact h4 x h0 (by omega) hc
theorem BestI.first {n : Nat} {es : List E} {κ : Int → Int} {ch : List Int} {j : Nat} (h : BestI n es κ ch j (-1)) (hc : CR es κ ch j) : BestI n es κ ch (j + 1) j := by
  rcases h with ⟨_, h2⟩ | ⟨h1, _⟩
  · refine .inr ⟨by omega, by omega, hc, fun x h0 hx hcx => ?_⟩
    by_cases e : x = j
    · subst e
      intro u r v s h5 h6
      rw [h5] at h6
      injection h6 with h6
      omega
    · exact absurd hcx (h2 x h0 (by omega))
  · omega
theorem BestI.less {n : Nat} {es : List E} {κ : Int → Int} {ch : List Int} {j : Nat} {b v u : Int} {r s : List Int} (h : BestI n es κ ch j b) (hb : 0 ≤ b) (hc : CR es κ ch j) (hj : mem n κ j = u :: r) (hm : mem n κ b = v :: s) (hlt : u < v) : BestI n es κ ch (j + 1) j := by
  rcases h with ⟨h1, h2⟩ | ⟨h1, h2, h3, h4⟩
  · omega
  · refine .inr ⟨by omega, by omega, hc, fun x h0 hx hcx => ?_⟩
    intro u' r' v' s' h5 h6
    rw [hj] at h6
    injection h6 with h6
    by_cases e : x = j
    · subst e
      rw [hj] at h5
      injection h5 with h5
      omega
    · have := h4 x h0 (by omega) hcx u' r' v s h5 hm
      omega

theorem CS.grown {S T U cn : Nat} {wM wr w' : World} {rows : List Value} {ch : List Int} {tl : List Bool} {v : Value} {row : Option Nat} (h : CS S T U cn wM wr rows ch tl v) (hg : wr.grownBy w' row) (hr : ∀ q, row = some q → U ≤ q) {b : Int} {tl' : List Bool} {v' : Value}
    (hl : tl'.length = cn) (ht : ∀ c : Nat, c < cn → tl'[c]? = some (decide ((c : Int) ∈ ch ++ [b]))) (hbt : Blk wr T 4 (bcells tl')) (ho : w'.ownsRow U 37 1 v' (ch.length + 1) (ch.map (rwv rows) ++ [rwv rows b])) : CS S T U cn wM w' rows (ch ++ [b]) tl' v' :=
  ⟨h.b.grown hg (by have := h.sz; omega) (fun q hq => by have := hr q hq; have := h.sz; omega), hbt.grown hg (fun e => by have := hr T e.symm; have := h.sz; omega), hl, ht, by rw [List.length_append, List.length_singleton, List.map_append]; exact ho,
    h.sz.1, h.sz.2.1, Nat.le_trans h.sz.2.2 hg.size⟩
theorem D_le (κ : Int → Int) (b : Int) (es : List E) (j : Nat) (c : Int) : D κ b (es.take j) c ≤ D κ b es c := by
  unfold D
  exact ((List.take_sublist j es).filter _).length_le
theorem BestI.at {n : Nat} {es : List E} {κ : Int → Int} {ch : List Int} {cn : Nat} {b : Int} (h : BestI n es κ ch cn b) (hf : Fits n es) (hp : Part n (Eg es) κ cn) (hl : ch.length < cn) :
    ∃ d : Nat, b = d ∧ d < cn ∧ CR es κ ch d ∧ ∀ c, 0 ≤ c → c < (cn : Int) → CR es κ ch c → ∀ u r v s, mem n κ c = u :: r → mem n κ d = v :: s → v ≤ u := by
  rcases h with ⟨_, h2⟩ | ⟨h1, h2, h3, h4⟩
  · obtain ⟨c, c0, c1, c2⟩ := cr_some hf hp (ch := ch) (by omega)
    exact absurd c2 (h2 c c0 c1)
  · obtain ⟨d, rfl⟩ : ∃ d : Nat, b = d := ⟨b.toNat, by omega⟩
    exact ⟨d, rfl, by omega, h3, h4⟩

/-- A list of lists, all of one's own, no two of which share a row. -/
structure LL (w : World) (B : Nat) (v : Value) (vs : List Value) (ls : List (List Int)) : Prop where
  row : w.ownsRow B 37 1 v ls.length vs
  own : ∀ i, (h : i < vs.length) → (h2 : i < ls.length) → w.ownsRow B 3 1 vs[i] ls[i].length (icells ls[i])
  apart : ∀ i j, (hi : i < vs.length) → (hj : j < vs.length) → i ≠ j → vs[i].ownBlock = vs[j].ownBlock → vs[i].ownBlock = none
theorem ll_of {w wM wr : World} {gc gm n cn S T U : Nat} {comp : List Int} {rows : List Value} {es : List E} {ch : List Int} {tl : List Bool} {v : Value} (h : CF w wM gc gm n cn comp rows es) (hs : wM.heap.size = S) (hc : CS S T U cn wM wr rows ch tl v)
    (hd : ch.Nodup) (hin : ∀ c ∈ ch, 0 ≤ c ∧ c < (cn : Int)) : LL wr w.heap.size v (ch.map (rwv rows)) (ch.map (mem n (lv comp))) := by
  subst hs
  have hrl := h.rw.len
  have key : ∀ i, (hi : i < ch.length) → ∃ hr : ch[i].toNat < rows.length, rwv rows ch[i] = rows[ch[i].toNat] ∧ ((ch[i].toNat : Nat) : Int) = ch[i] := fun i hi => by
    have := hin ch[i] (List.getElem_mem hi)
    refine ⟨by omega, ?_, by omega⟩
    unfold rwv
    rw [List.getD_eq_getElem?_getD, List.getElem?_eq_getElem (by omega)]; rfl
  refine ⟨?_, fun i hi h2 => ?_, fun i j hi hj hne he => ?_⟩
  · rw [List.length_map]
    exact own_le hc.own (by have := hc.sz; have := h.mb.below.size; omega)
  · simp only [List.length_map] at hi
    obtain ⟨hr, e1, e2⟩ := key i hi
    simp only [List.getElem_map, e1]
    obtain ⟨hown, _⟩ := h.rw.own _ hr
    rw [esM_adj, e2] at hown
    exact own_below hown hc.b
  · simp only [List.length_map] at hi hj
    obtain ⟨hr, e1, e2⟩ := key i hi
    obtain ⟨hr', e1', e2'⟩ := key j hj
    simp only [List.getElem_map, e1, e1'] at he ⊢
    refine h.rw.apart _ _ hr hr' (fun e => hne ?_) he
    have hij : ch[i] = ch[j] := by omega
    rcases Nat.lt_trichotomy i j with hlt | rfl | hlt
    · exact absurd hij (List.pairwise_iff_getElem.1 hd i j hi hj hlt)
    · rfl
    · exact absurd hij.symm (List.pairwise_iff_getElem.1 hd j i hj hi hlt)

set_option maxRecDepth 20000 in
set_option maxHeartbeats 4000000 in
theorem progComps_any (A : Option Addr) (m c n : Nat) (es : List E) (w : World) (hr : Rd w w.heap.size 4 A m (ecells es)) (hf : Fits n es) (hreach : m * 32 ≤ 140737488355328) :
    Calls Try.prog 29 #[.int .i64 n, .slice A m c] w fun e w' => ∃ v vs ls, e = .returned (.tuple #[v, .int .i64 0]) ∧ Below w.heap.size w w' ∧ LL w' w.heap.size v vs ls ∧ Done n es ls := by
  obtain ⟨i0, hi, hz0, hz1, hz2⟩ := info_parts Try.info3
  obtain ⟨i1, hi', hz0', hz1', hz2'⟩ := info_parts Try.info37
  obtain ⟨i2, hi2, hb0, hb1, hb2⟩ := info_parts Try.info4
  have hn : n ≤ 128 := by have := hf.2.1; omega
  have hlen : es.length = m := by have := hr.1; rw [ecells_length] at this; omega
  have HL := Lib.hid hlen
  have HR := Lib.hid hr
  have HF := Lib.hid hf
  have HM32 := Lib.hid hreach
  have hmb := hr.2.1
  have hfit := (fitB_iff n es).2 hf
  clear hr hf hlen hreach
  go_enter Try.func29, Try.ntmps29
  go_wp2_with fail
  refine (may_any n A m c es _ HR.out).mono ?_
  rintro e w1 ⟨rfl, hb1'⟩
  rw [hfit]
  have HR1 := Lib.hid (HR.out.up hb1' hb1'.size)
  have HB1 := Lib.hid hb1'
  clear hb1' hfit
  go_wp2_with fail
  refine (components_any A m c n es _ HR1.out HF.out HM32.out).mono ?_
  rintro e w2 ⟨gc, comp, count, rfl, hb2', hgc, hblk, hcl, hpart⟩
  obtain ⟨cn, rfl⟩ : ∃ k : Nat, count = k := ⟨count.toNat, by have := hpart.cnt; omega⟩
  have hcn : cn ≤ 128 := by have := hpart.cnt; omega
  have HP := Lib.hid hpart
  have HR2 := Lib.hid (HR1.out.up hb2' hb2'.size)
  have HB2 := Lib.hid (HB1.out.trans (hb2'.mono HB1.out.size))
  have HGC : Hid (w.heap.size ≤ gc) := Lib.hid (by have := HB1.out.size; omega)
  have HCB := Lib.hid hblk
  have HCL := Lib.hid hcl
  clear hpart hb2' hblk HR1 HB1 hgc hcl
  have mk37 : ∀ W : World, (Instr.makeSlice 44 (.int .i64 (cn : Int)) (.int .i64 (cn : Int))).run Try.prog W = .ok (.slice (some ⟨W.heap.size, 0, none⟩) cn cn) (W.alloc (.cells (nils cn) 37)) := fun W => by
    rw [run_make_rowN 44 37 i1 _ Try.underlying44 hi' hz0' _ _ cn cn (Nat.le_refl _) (by rw [hz2']; omega) (by omega) W, hz1', made_one _ rfl]
    rfl
  have mk3 : ∀ W : World, (Instr.makeSlice 37 (.int .i64 (cn : Int)) (.int .i64 (cn : Int))).run Try.prog W = .ok (.slice (some ⟨W.heap.size, 0, none⟩) cn cn) (W.alloc (.cells (zints cn) 3)) := fun W => by
    rw [run_make_rowN 37 3 i0 _ Try.underlying37 hi hz0 _ _ cn cn (Nat.le_refl _) (by rw [hz2]; omega) (by omega) W, hz1, made_one _ rfl]
    simp [zints, icells]
  have mk4 : ∀ W : World, (Instr.makeSlice 52 (.int .i64 (cn : Int)) (.int .i64 (cn : Int))).run Try.prog W = .ok (.slice (some ⟨W.heap.size, 0, none⟩) cn cn) (W.alloc (.cells (List.replicate cn (Value.bool false)).toArray 4)) := fun W => by
    rw [run_make_rowN 52 4 i2 _ Try.underlying52 hi2 hb0 _ _ cn cn (Nat.le_refl _) (by rw [hb2]; omega) (by omega) W, hb1, made_one _ rfl]
  go_upto_region 5 with (fail)
  have HM : Hid (MB w (w2.alloc (.cells (nils cn) 37)) gc w2.heap.size comp (List.replicate cn (.slice none 0 0))) :=
    Lib.hid ⟨HB2.out.alloc HB2.out.size _, HCB.out.alloc _, Blk.new w2 37 _, HGC.out, HB2.out.size⟩
  have hal := (Below.refl w2.heap.size w2).alloc (Nat.le_refl _) (.cells (nils cn) 37)
  have HR3 := Lib.hid (HR2.out.up hal hal.size)
  have hgs : Hid (w2.heap.size < (w2.alloc (.cells (nils cn) 37)).heap.size) := Lib.hid HM.out.bm.lt
  have hgcm : Hid (gc < w2.heap.size) := Lib.hid HCB.out.lt
  clear hal
  generalize hgm : w2.heap.size = gm at *
  generalize World.alloc _ _ = w3 at *
  clear hgm HR2 HB2 HCB
  go_wp2
  go_loopg [32] n (fun gk v wr => ∃ (k : Nat) (rows : List Value), v = .int .i64 k ∧ k ≤ n ∧ gk = n - k ∧ Hid (MB w wr gc gm comp rows) ∧ Hid (Rows2 w.heap.size wr gc gc gc cn (esM (lv comp) k) rows) ∧ Hid (gm < wr.heap.size))
  case atStart => exact ⟨0, _, rfl, Nat.zero_le _, by omega, HM, Lib.hid (Rows2.nils _ _ _ _ _ _), hgs⟩
  case round =>
    clear HM
    obtain ⟨k, rows, rfl, hk, hgk, HM, HW, HS⟩ := hrel
    have HG := Lib.hid hgk
    clear hgk
    by_cases hlt : k < n
    · have hk2 : (k : Int) < (n : Int) := by omega
      have hr := HP.out.rng k ⟨by omega, hk2⟩
      obtain ⟨f, hfx⟩ : ∃ f : Nat, lv comp k = (f : Int) := ⟨(lv comp k).toNat, by omega⟩
      rw [hfx] at hr
      have hfc : f < cn := by omega
      have cc : wr.cell? ⟨gc, k, none⟩ = some (.int .i64 (f : Int)) := by
        have := icells_lv (l := comp) (i := (k : Int)) (by omega) (by rw [HCL.out]; exact hk2)
        rw [Int.toNat_natCast, hfx] at this
        exact (HM.out.bc.cell k).trans this
      have HX := Lib.hid hfx
      clear hfx hr
      have hfr : f < rows.length := by have := HW.out.len; omega
      obtain ⟨hown, o1, _, _⟩ := HW.out.own _ hfr
      rw [esM_adj] at hown
      have ag := own_blk_ne hown HM.out.bm (by decide)
      have fo := HM.out.bm.cell f
      rw [List.getElem?_eq_getElem hfr] at fo
      have zo := HM.out.bm.frozen f
      go_upto_region 8 with (fail)
      generalize hwd : wr.drew = wd at *
      have hM1 : Hid (MB w wd gc gm comp rows) := by rw [← hwd]; exact Lib.hid HM.out.drew
      have hW1 : Hid (Rows2 w.heap.size wd gc gc gc cn (esM (lv comp) k) rows) := by rw [← hwd]; exact Lib.hid HW.out.drew
      have hS1 : Hid (gm < wd.heap.size) := by rw [← hwd]; exact HS
      have hown1 : Hid (wd.ownsRow w.heap.size 3 1 rows[f] (mem k (lv comp) f).length (icells (mem k (lv comp) f))) := by rw [← hwd]; exact Lib.hid hown
      have d0 : wd.cell? ⟨gc, k, none⟩ = some (.int .i64 (f : Int)) := by rw [← hwd]; exact cc
      have d1 : wd.cell? ⟨gm, f, none⟩ = some rows[f] := by rw [← hwd]; exact fo
      have z1 : wd.frozen? ⟨gm, f, none⟩ = false := by rw [← hwd]; exact zo
      have HM' := hM1
      clear hown cc fo zo HM HW HS
      obtain ⟨C, hCi⟩ : ∃ C : World → Prop, ∀ w', C w' ↔ (w'.cell? ⟨gc, k, none⟩ = some (.int .i64 (f : Int)) ∧ w'.cell? ⟨gm, f, none⟩ = some rows[f]) := ⟨_, fun _ => Iff.rfl⟩
      have hC : C wd := (hCi _).2 ⟨d0, d1⟩
      have hC2 : C (wd.alloc (.cells #[.int .i64 (k : Int)] 3)) := (hCi _).2 ⟨Lib.cell?_alloc_some _ d0, Lib.cell?_alloc_some _ d1⟩
      have k0 : ∀ p : WC C, p.w.cell? ⟨gc, k, none⟩ = some (.int .i64 (f : Int)) := fun p => ((hCi _).1 p.h).1
      have k1 : ∀ p : WC C, p.w.cell? ⟨gm, f, none⟩ = some rows[f] := fun p => ((hCi _).1 p.h).2
      have kn : Nonempty (WC C) := ⟨⟨_, hC⟩⟩
      have HC := Lib.hid hCi
      have HC1 := Lib.hid hC
      have HC2 := Lib.hid hC2
      have Hd := Lib.hid (⟨d0, d1, z1⟩ : _ ∧ _ ∧ _)
      clear hCi hC hC2 d0 d1 z1
      refine wp_region_front' C [0, 1, 2, 3, 4, 5, 6, 7, 8, 9, 10, 11, 12] [13, 14, 15, 16] (fun j => decide (j < 15)) (by kernel_rfl) (fun _ _ d _ _ h => by cases d <;> exact h) (by kernel_rfl) (by rw [hwd]; exact HC1.out) ?_
      simp only [List.map_cons, List.map_nil, List.getD_cons_zero, List.getD_cons_succ]
      repeat (go_big_quiet_step (fail))
      refine wpQuiet_nil ?_
      clear k0 k1 kn
      rw [hwd]
      refine wpTail_cons ?_
      go_wp2
      refine tailQ_normal (fun _ => HC2.out) ?_
      refine wpTail_cons ?_
      have hown := hown1.out
      have hlw : w.heap.size ≤ wd.heap.size := hM1.out.below.size
      have hml : (mem k (lv comp) f).length ≤ 128 := by
        have h1 : (mem k (lv comp) f).length ≤ (ps k).length := List.length_filter_le _ _
        rw [ps_length] at h1; omega
      go_wp2_with (at_builtin; go_must (refine wpList_append_lies _ rfl _ _ 37 rfl w.heap.size 3 i0 _ 1 8 Try.underlying37 hi hz0 hz1 hz2 rfl (by omega) rows[f] _ _ rfl (hown.alloc _) ⟨wd.heap.size, 0, none⟩ 1 1 [.int .i64 (k : Int)] rfl rfl (World.news_of_block (cs := #[.int .i64 (k : Int)]) (t := 3) (fr := (0, 0)) (heap_alloc_new wd _)) (int_one _) (by omega) (by unfold maxLen; omega) (by omega) (by simp; omega) (wd.heap.size + 1) (by simp) ?_))
      intro gg cap w5 hown5 hgrow hat hlt5
      obtain ⟨d0, d1, z1⟩ := Hd.out
      have r0 := (hgrow.cell_far ⟨gc, k, none⟩ (by have := HM'.out.bc.lt; simp; omega) (fun e => o1 e.symm)).trans ((Lib.cell?_alloc_some (.cells #[.int .i64 (k : Int)] 3) d0))
      have r1 := (hgrow.cell_far ⟨gm, f, none⟩ (by have := HM'.out.bm.lt; simp; omega) ag).trans (Lib.cell?_alloc_some (.cells #[.int .i64 (k : Int)] 3) d1)
      have r2 := (hgrow.frozen_far ⟨gm, f, none⟩ (by have := HM'.out.bm.lt; simp; omega) ag).trans ((HM'.out.bm.alloc (.cells #[.int .i64 (k : Int)] 3)).frozen f)
      refine tailQ_normal (fun _ => (HC.out _).2 ⟨r0, r1⟩) ?_
      refine wpTail_cons ?_
      go_wp2
      refine tailQ_normal (fun h => by cases h) ?_
      refine wpTail_cons ?_
      go_wp2
      refine tailQ_normal (fun h => by cases h) ?_
      refine wpTail_nil ?_
      have HM2 := Lib.hid ((hM1.out.alloc (.cells #[.int .i64 (k : Int)] 3)).row hgrow (fun q hq => by
        have h1 := (hown.lt q hq).1
        exact ⟨h1, fun e => o1 (by rw [hq, e]), fun e => ag (by rw [hq, e])⟩) f (.slice (some ⟨gg, 0, none⟩) ((mem k (lv comp) f).length + 1) cap))
      have HW2 : Hid (Rows2 w.heap.size (w5.setCell ⟨gm, f, none⟩ (.slice (some ⟨gg, 0, none⟩) ((mem k (lv comp) f).length + 1) cap)) gc gc gc cn (esM (lv comp) (k + 1)) (rows.set f (.slice (some ⟨gg, 0, none⟩) ((mem k (lv comp) f).length + 1) cap))) := by
        have h := (hW1.out.alloc (.cells #[.int .i64 (k : Int)] 3)).push (x := ⟨lv comp k, k, false, 0⟩) (f := f) (g := gg) (cap := cap) (go := gm) (H := wd.heap.size + 1) HX.out hfr (by simp) (by rw [esM_adj]; exact hown5) hgrow hat (by have := HM'.out.bc.lt; simp; omega) ((hM1.out.bm.alloc (.cells #[.int .i64 (k : Int)] 3)).grown hgrow ag)
        rw [esM_adj, ← esM_succ] at h
        exact Lib.hid h
      have HS2 : Hid (gm < (w5.setCell ⟨gm, f, none⟩ (.slice (some ⟨gg, 0, none⟩) ((mem k (lv comp) f).length + 1) cap)).heap.size) := Lib.hid HM2.out.bm.lt
      clear hown5 hgrow hat r0 r1 r2 d0 d1 z1 Hd
      generalize World.setCell _ _ _ = w6 at *
      go_wp2
      go_roundg (n - (k + 1))
      case measure => have := HG.out; omega
      case rel => exact ⟨k + 1, _, by go_num, by omega, rfl, HM2, HW2, HS2⟩
    · obtain rfl : k = n := by omega
      have HCF : Hid (CF w wr gc gm k cn comp rows es) := Lib.hid ⟨HM.out, HW.out, HCL.out, HP.out, HF.out⟩
      obtain ⟨wM, hwM⟩ : ∃ x, x = wr := ⟨wr, rfl⟩
      subst hwM
      clear HM HW HS HG hgs hgcm HGC HR3
      go_upto_region 11 with (fail)
      have hbM : Hid (Below wM.heap.size wM (wM.alloc (.cells (zints cn) 3))) := Lib.hid ((Below.refl _ _).alloc (Nat.le_refl _) _)
      have hwB : Hid (Blk (wM.alloc (.cells (zints cn) 3)) wM.heap.size 3 (icells (List.replicate cn 0))) := Lib.hid (Blk.new wM 3 _)
      generalize hS : wM.heap.size = S at *
      generalize World.alloc _ _ = w4 at *
      have HS := Lib.hid hS
      have HwM : Hid (w.heap.size ≤ S) := Lib.hid (by have := HCF.out.mb.below.size; omega)
      clear hS
      go_wp2
      go_loopg [56] m (fun gk v wr => ∃ (k' : Nat) (wl : List Int), v = .int .i64 k' ∧ k' ≤ m ∧ gk = m - k' ∧ Hid (Below S wM wr) ∧ Hid (Blk wr S 3 (icells wl)) ∧ Hid (wl.length = cn ∧ ∀ x : Int, 0 ≤ x → x < cn → lv wl x = (W (lv comp) [] (es.take k') x : Nat)))
      case atStart => exact ⟨0, _, rfl, Nat.zero_le _, by omega, hbM, hwB, Lib.hid ⟨by simp, fun x _ _ => by rw [lv_rep0]; rfl⟩⟩
      case round =>
        clear hbM hwB
        obtain ⟨j, wl, rfl, hj, hgj, hb, hw, hwl⟩ := hrel
        have HG2 := Lib.hid hgj
        clear hgj
        by_cases hlt2 : j < m
        · obtain ⟨b, o, hj1, rfl, hbb, c0, c1, c2, c3⟩ := (HR.out.below (HCF.out.mb.below.trans (hb.out.mono HwM.out))).edge j hlt2
          have hok := HF.out.2.2 _ (List.getElem_mem hj1)
          have HT := Lib.hid (take_snoc es j hj1)
          have hwlen : wl.length = cn := hwl.out.1
          have hj2 : j < es.length := hj1
          have hWle := fun x => W_le (κ := lv comp) [] (es.take j) x
          have hrf := HP.out.rng es[j].f ⟨hok.1, hok.2.1⟩
          have hrt := HP.out.rng es[j].t ⟨hok.2.2.1, hok.2.2.2⟩
          generalize es[j] = e at *
          obtain ⟨ef, et, en, er⟩ := e
          obtain ⟨p1, p2, p3, p4⟩ := hok
          dsimp only at c0 c1 c2 c3 hrf hrt p1 p2 p3 p4
          obtain ⟨f, rfl⟩ : ∃ f : Nat, ef = (f : Int) := ⟨ef.toNat, by omega⟩
          obtain ⟨t, rfl⟩ : ∃ t : Nat, et = (t : Int) := ⟨et.toNat, by omega⟩
          go_upto_region 14 with (fail)
          have hb := Lib.hid (hb.out.alloc (by have := hb.out.size; have := HS.out; omega) (.cells #[.int .i64 (f : Int), .int .i64 (t : Int), .bool en, .int .i64 er] 43))
          have hw := Lib.hid (hw.out.alloc (.cells #[.int .i64 (f : Int), .int .i64 (t : Int), .bool en, .int .i64 er] 43))
          have hE := Lib.hid (Blk.new wr 43 [.int .i64 (f : Int), .int .i64 (t : Int), .bool en, .int .i64 er])
          clear c0 c1 c2 c3
          generalize World.alloc _ _ = w5 at *
          generalize wr.heap.size = R at *
          have e0 := hE.out.cell 0
          have e1 := hE.out.cell 1
          simp only [List.getElem?_cons_zero, List.getElem?_cons_succ] at e0 e1
          have q0 := HCF.out.comp_cell (by rw [HS.out]; exact hb.out) (p := (f : Int)) ⟨p1, p2⟩
          have q1 := HCF.out.comp_cell (by rw [HS.out]; exact hb.out) (p := (t : Int)) ⟨p3, p4⟩
          rw [Int.toNat_natCast] at q0 q1
          obtain ⟨a, ha⟩ : ∃ a : Nat, lv comp f = (a : Int) := ⟨(lv comp f).toNat, by omega⟩
          obtain ⟨d, hd⟩ : ∃ d : Nat, lv comp t = (d : Int) := ⟨(lv comp t).toNat, by omega⟩
          rw [ha] at q0 hrf
          rw [hd] at q1 hrt
          have HAD := Lib.hid (⟨ha, hd⟩ : _ ∧ _)
          clear ha hd
          by_cases hne : a = d
          · subst hne
            go_quiet (fail)
            go_wp2
            go_roundg (m - (j + 1))
            case measure => have := HG2.out; omega
            case rel =>
              refine ⟨j + 1, wl, by go_num, by omega, rfl, Lib.hid (below_drewN hb.out _), Lib.hid (hw.out.drewN _), Lib.hid ⟨hwlen, fun x h0 h1 => ?_⟩⟩
              rw [hwl.out.2 x h0 h1, HT.out, W_snoc]
              simp only [HAD.out.1, HAD.out.2]
              by_cases e : (a : Int) = x <;> simp [e]
          · have hne2 : ((a : Int) == (d : Int)) = false := by simp; omega
            have hdw : d < wl.length := by omega
            have y0 : w5.cell? ⟨S, d, none⟩ = some (.int .i64 ((W (lv comp) [] (es.take j) d : Nat) : Int)) := by
              have h := icells_lv (l := wl) (i := (d : Int)) (by omega) (by omega)
              rw [Int.toNat_natCast, hwl.out.2 d (by omega) (by omega)] at h
              exact (hw.out.cell d).trans h
            have z0 := hw.out.frozen d
            have hWd := hWle d
            rw [List.length_take] at hWd
            generalize hWx : W (lv comp) [] (es.take j) d = wx at *
            have HWX := Lib.hid hWx
            clear hWle hWx
            go_quiet (fail)
            go_upto_region 16 with (fail)
            have hb6 := Lib.hid ((below_drewN hb.out nq).setCell (p := ⟨S, d, none⟩) (Nat.le_refl _) (.int .i64 ((wx : Int) + 1)))
            have hw6 := Lib.hid ((hw.out.drewN nq).set_ d (.int .i64 ((wx : Int) + 1)))
            clear hb hw y0 z0 hE e0 e1 q0 q1
            generalize World.setCell _ _ _ = w6 at *
            go_wp2
            go_roundg (m - (j + 1))
            case measure => have := HG2.out; omega
            case rel =>
              refine ⟨j + 1, wl.set d ((wx : Int) + 1), by go_num, by omega, rfl, hb6, by rw [icells_set] at hw6; exact hw6, Lib.hid ⟨by simpa using hwlen, fun x h0 h1 => ?_⟩⟩
              rw [lv_set hdw, HT.out, W_snoc]
              simp only [HAD.out.1, HAD.out.2]
              by_cases e : x.toNat = d
              · obtain rfl : x = (d : Int) := by omega
                rw [if_pos e, HWX.out]
                have : ((a : Int) != (d : Int)) = true := by simp [bne, hne2]
                simp [this]
              · rw [if_neg e, hwl.out.2 x h0 h1]
                have : ((d : Int) == x) = false := by simp; omega
                simp [this]
        · obtain rfl : j = m := by omega
          obtain ⟨jm, hjm⟩ : ∃ x, x = j := ⟨j, rfl⟩
          subst hjm
          have HWT : Hid (wl.length = cn ∧ ∀ x : Int, 0 ≤ x → x < cn → lv wl x = (W (lv comp) [] es x : Nat)) := by
            have h := hwl.out
            rw [List.take_of_length_le (by have := HL.out; omega)] at h
            exact Lib.hid h
          go_upto_region 18 with (fail)
          have hb7 := Lib.hid (hb.out.alloc (by have := hb.out.size; have := HS.out; omega) (.cells (List.replicate cn (Value.bool false)).toArray 4))
          have hw7 := Lib.hid (hw.out.alloc (.cells (List.replicate cn (Value.bool false)).toArray 4))
          have HC7 : Hid (CS S wr.heap.size (wr.alloc (.cells (List.replicate cn (Value.bool false)).toArray 4)).heap.size cn wM (wr.alloc (.cells (List.replicate cn (Value.bool false)).toArray 4)) rows [] (List.replicate cn false) (.slice none 0 0)) :=
            Lib.hid ⟨hb7.out, by have := Blk.new wr 4 (List.replicate cn (Value.bool false)); unfold bcells; rw [List.map_replicate]; exact this, by simp, fun c hc => by simp [hc], World.ownsRow_nil _ _ _ _, hw.out.lt, by simp, Nat.le_refl _⟩
          clear hb hw hwl HG2 hb7
          simp only [List.toArray_replicate] at hw7 HC7
          generalize hTe : wr.heap.size = T at *
          generalize hw8 : World.alloc _ _ = w8 at *
          generalize w8.heap.size = U at *
          clear hTe hw8
          go_wp2
          go_loopg [14] cn (fun gk v wr => ∃ (ch : List Int) (wl : List Int) (tl : List Bool), gk = cn - ch.length ∧ Hid (CS S T U cn wM wr rows ch tl v) ∧ Hid (Blk wr S 3 (icells wl)) ∧ Hid (wl.length = cn ∧ ∀ x : Int, 0 ≤ x → x < cn → lv wl x = (W (lv comp) ch es x : Nat)) ∧
            Hid (Steps k es (ch.map (mem k (lv comp))) ∧ ch.Nodup ∧ ∀ c ∈ ch, 0 ≤ c ∧ c < cn))
          case atStart => exact ⟨[], wl, _, rfl, HC7, hw7, HWT, Lib.hid ⟨.nil, List.nodup_nil, by simp⟩⟩
          case round =>
            clear HC7 hw7 HWT
            obtain ⟨ch, wl, tl, hgk, HC, HWB, HWL, HST⟩ := hrel
            have HG := Lib.hid hgk
            clear hgk
            obtain ⟨Ao, co, hvo, _⟩ := own_slice HC.out.own
            subst hvo
            by_cases hlt3 : ch.length < cn
            · obtain ⟨wq, hwq⟩ : ∃ x, x = wr := ⟨wr, rfl⟩
              subst hwq
              go_wp2
              go_loopg [89, 15] cn (fun gk v89 v15 wr => ∃ (j : Nat) (b : Int), v89 = .int .i64 j ∧ v15 = .int .i64 b ∧ j ≤ cn ∧ gk = cn - j ∧ Hid (BestI k es (lv comp) ch j b) ∧ Hid (CS S T U cn wM wr rows ch tl (.slice Ao ch.length co)) ∧ Hid (Blk wr S 3 (icells wl)))
              case atStart => exact ⟨0, -1, rfl, rfl, Nat.zero_le _, by omega, Lib.hid (.inl ⟨rfl, fun x h0 h1 => by omega⟩), HC, HWB⟩
              case round =>
                clear HC HWB
                obtain ⟨j, b, rfl, rfl, hj, hgj, HBI, HC, HWB⟩ := hrel
                have HG2 := Lib.hid hgj
                clear hgj
                by_cases hlt4 : j < cn
                · have t0 := HC.out.told_at hlt4
                  by_cases hin : (j : Int) ∈ ch
                  · have hdd : decide ((j : Int) ∈ ch) = true := by simpa using hin
                    rw [hdd] at t0
                    have HIN := Lib.hid hin
                    clear hin hdd
                    go_upto_region 24 with (fail)
                    go_quiet (fail)
                    go_wp2
                    go_roundg (cn - (j + 1))
                    case measure => have := HG2.out; omega
                    case rel => exact ⟨j + 1, b, by go_num, rfl, by omega, rfl, Lib.hid (HBI.out.skip (fun h => h.1 HIN.out)), Lib.hid (HC.out.drewN _), Lib.hid (HWB.out.drewN _)⟩
                  · have hdd : decide ((j : Int) ∈ ch) = false := by simpa using hin
                    rw [hdd] at t0
                    have HIN := Lib.hid hin
                    clear hin hdd
                    have y0 : wr.cell? ⟨S, j, none⟩ = some (.int .i64 ((W (lv comp) ch es j : Nat) : Int)) := by
                      have hwlen := HWL.out.1
                      have h := icells_lv (l := wl) (i := (j : Int)) (by omega) (by omega)
                      rw [Int.toNat_natCast, HWL.out.2 j (by omega) (by omega)] at h
                      exact (HWB.out.cell j).trans h
                    by_cases hW : W (lv comp) ch es j = 0
                    · have hCR : Hid (CR es (lv comp) ch j) := Lib.hid ⟨HIN.out, W_zero.1 hW⟩
                      rw [hW] at y0
                      obtain ⟨g, cap, u, rest, _, _, hmj, m0, m1, hrl⟩ := HCF.out.row (by rw [HS.out]; exact HC.out.b) hlt4
                      have HMJ := Lib.hid hmj
                      clear hW hmj
                      by_cases hb : b < 0
                      · obtain rfl : b = -1 := by
                          rcases HBI.out with ⟨h, _⟩ | ⟨h, _⟩
                          · exact h
                          · omega
                        clear hb
                        go_upto_region 24 with (fail)
                        go_quiet (fail)
                        go_wp2
                        go_roundg (cn - (j + 1))
                        case measure => have := HG2.out; omega
                        case rel => exact ⟨j + 1, j, by go_num, by go_num, by omega, rfl, Lib.hid (HBI.out.first hCR.out), Lib.hid (HC.out.drewN _), Lib.hid (HWB.out.drewN _)⟩
                      · obtain ⟨d, rfl⟩ : ∃ d : Nat, b = (d : Int) := ⟨b.toNat, by omega⟩
                        have hdj : d < j := by
                          rcases HBI.out with ⟨h, _⟩ | ⟨_, h, _⟩ <;> omega
                        obtain ⟨g', cap', v, rest', _, _, hmb, n0, n1, hrl'⟩ := HCF.out.row (by rw [HS.out]; exact HC.out.b) (show d < cn by omega)
                        have HMB := Lib.hid hmb
                        clear hmb hb
                        have hdn : decide ((d : Int) < 0) = false := by simp
                        by_cases huv : u < v
                        · have hdu : decide (u < v) = true := by simpa using huv
                          have HUV := Lib.hid huv
                          clear huv
                          go_upto_region 24 with (fail)
                          go_quiet (fail)
                          go_wp2
                          go_roundg (cn - (j + 1))
                          case measure => have := HG2.out; omega
                          case rel => exact ⟨j + 1, j, by go_num, by go_num, by omega, rfl, Lib.hid (HBI.out.less (by omega) hCR.out HMJ.out HMB.out HUV.out), Lib.hid (HC.out.drewN _), Lib.hid (HWB.out.drewN _)⟩
                        · have hdu : decide (u < v) = false := by simpa using huv
                          have HUV := Lib.hid huv
                          clear huv
                          go_upto_region 24 with (fail)
                          go_quiet (fail)
                          go_wp2
                          go_roundg (cn - (j + 1))
                          case measure => have := HG2.out; omega
                          case rel => exact ⟨j + 1, d, by go_num, rfl, by omega, rfl, Lib.hid (HBI.out.stay (by omega) HMJ.out HMB.out (by have := HUV.out; omega)), Lib.hid (HC.out.drewN _), Lib.hid (HWB.out.drewN _)⟩
                    · have hW0 : (((W (lv comp) ch es j : Nat) : Int) == 0) = false := by simp; omega
                      have hNC : Hid (¬ CR es (lv comp) ch j) := Lib.hid fun h => hW (W_zero.2 h.2)
                      clear hW
                      generalize W (lv comp) ch es j = wx at *
                      go_upto_region 24 with (fail)
                      go_quiet (fail)
                      go_wp2
                      go_roundg (cn - (j + 1))
                      case measure => have := HG2.out; omega
                      case rel => exact ⟨j + 1, b, by go_num, rfl, by omega, rfl, Lib.hid (HBI.out.skip hNC.out), Lib.hid (HC.out.drewN _), Lib.hid (HWB.out.drewN _)⟩
                · obtain rfl : j = cn := by omega
                  obtain ⟨d, rfl, hd, hcr, hmin⟩ := HBI.out.at HF.out HP.out hlt3
                  have HCR := Lib.hid hcr
                  have HMIN := Lib.hid hmin
                  clear hcr hmin HBI HG2
                  have t0 := HC.out.told_at hd
                  have zt := HC.out.bt.frozen d
                  go_upto_region 28 with (fail)
                  have hsz := HC.out.sz
                  have htl := HC.out.len
                  have hW3 := Lib.hid (HWB.out.far (p := ⟨T, d, none⟩) (by simp; omega) (.bool true))
                  have hT3 : Hid (Blk (wr.setCell ⟨T, d, none⟩ (.bool true)) T 4 (bcells (tl.set d true))) := by
                    have := HC.out.bt.set_ d (.bool true)
                    unfold bcells at this ⊢
                    rw [List.map_set]; exact Lib.hid this
                  have hC3 : Hid (Below S wM (wr.setCell ⟨T, d, none⟩ (.bool true)) ∧ (wr.setCell ⟨T, d, none⟩ (.bool true)).ownsRow U 37 1 (.slice Ao ch.length co) ch.length (ch.map (rwv rows)) ∧ U ≤ (wr.setCell ⟨T, d, none⟩ (.bool true)).heap.size) :=
                    Lib.hid ⟨HC.out.b.setCell (p := ⟨T, d, none⟩) (by show S ≤ T; omega) _, ownsRow_setCell_below HC.out.own (by show T < U; omega) _, by simpa using hsz.2.2⟩
                  have hTL : Hid ((tl.set d true).length = j ∧ ∀ c : Nat, c < j → (tl.set d true)[c]? = some (decide ((c : Int) ∈ ch ++ [(d : Int)]))) := Lib.hid ⟨by simpa using htl, fun c hc => by
                    rw [List.getElem?_set]
                    by_cases e : d = c
                    · subst e; rw [if_pos rfl, if_pos (by omega)]; simp
                    · rw [if_neg e, HC.out.told c hc]
                      have : ¬ (c : Int) = (d : Int) := by omega
                      simp [this]⟩
                  clear t0 zt HC HWB
                  generalize World.setCell _ _ _ = w9 at *
                  obtain ⟨g, cap, u, rest, hdr, hrd, hmd, m0, m1, hrl⟩ := HCF.out.row (by rw [HS.out]; exact hC3.out.1) hd
                  have HMD := Lib.hid hmd
                  have hrw : rwv rows (d : Int) = .slice (some ⟨g, 0, none⟩) (rest.length + 1) cap := by
                    unfold rwv
                    rw [Int.toNat_natCast, List.getD_eq_getElem?_getD, List.getElem?_eq_getElem hdr, hrd]; rfl
                  have HRW := Lib.hid hrw
                  clear hmd hrw m1
                  have hown := hC3.out.2.1
                  have hU9 := hC3.out.2.2
                  go_wp2_with (at_builtin; go_must (refine wpList_append_own _ rfl _ _ 44 rfl U 37 i1 _ 1 24 Try.underlying44 hi' hz0' hz1' hz2' rfl (by decide) _ _ _ rfl (hown.alloc _) ⟨w9.heap.size, 0, none⟩ 1 1 [.slice (some ⟨g, 0, none⟩) (rest.length + 1) cap] rfl rfl (fun j u h => new_cells _ _ _ j u h) (by intro u hu; rw [List.mem_singleton.1 hu]; rfl) (by unfold maxLen; omega) (by omega) (by simp; omega) ?_))
                  intro vo w10 hown10 hg10 _
                  have hal := hC3.out.1.alloc (by omega) (.cells #[.slice (some ⟨g, 0, none⟩) (rest.length + 1) cap] 37)
                  have hTne : some T ≠ (Value.slice Ao ch.length co).ownBlock := fun e => by have := (hown.lt T e.symm).1; omega
                  have hSne : some S ≠ (Value.slice Ao ch.length co).ownBlock := fun e => by have := (hown.lt S e.symm).1; omega
                  have HC10 : Hid (CS S T U j wM w10 rows (ch ++ [(d : Int)]) (tl.set d true) vo) :=
                    Lib.hid ⟨hal.grown hg10 (by simp; omega) (fun q hq => by have := (hown.lt q hq).1; omega), (hT3.out.alloc _).grown hg10 hTne, hTL.out.1, hTL.out.2,
                      by rw [List.length_append, List.length_singleton, List.map_append, List.map_singleton, HRW.out]; exact hown10, hsz.1, hsz.2.1, by have := hg10.size; simp at this; omega⟩
                  have HW10 := Lib.hid ((hW3.out.alloc (.cells #[.slice (some ⟨g, 0, none⟩) (rest.length + 1) cap] 37)).grown hg10 hSne)
                  have HST2 : Hid (Steps k es ((ch ++ [(d : Int)]).map (mem k (lv comp))) ∧ (ch ++ [(d : Int)]).Nodup ∧ ∀ c ∈ ch ++ [(d : Int)], 0 ≤ c ∧ c < (j : Int)) := by
                    obtain ⟨s1, s2, s3⟩ := HST.out
                    refine Lib.hid ⟨steps_next HF.out HP.out s1 HCR.out HMD.out (fun c h0 h1 hc u' r' h5 => HMIN.out c h0 h1 hc u' r' _ _ h5 HMD.out), ?_, fun c hc => ?_⟩
                    · rw [List.nodup_append]
                      exact ⟨s2, by simp, fun a ha b hb e => HCR.out.1 (by rw [List.mem_singleton.1 hb] at e; exact e ▸ ha)⟩
                    · rcases List.mem_append.1 hc with hc | hc
                      · exact s3 c hc
                      · rw [List.mem_singleton.1 hc]; omega
                  have hlen5 : Hid ((ch ++ [(d : Int)]).length = ch.length + 1) := Lib.hid (by simp)
                  have HCR' : Hid ((d : Int) ∉ ch) := Lib.hid HCR.out.1
                  clear hal hTne hSne hown10 hg10 hown hC3 hT3 hTL hW3 hU9 m0 HMD HMIN HST hrd hdr hsz htl
                  obtain ⟨A2, c2, hv2, _⟩ := own_slice HC10.out.own
                  subst hv2
                  go_wp2
                  go_loopg [137] jm (fun gk v wr => ∃ (i : Nat) (wx : List Int), v = .int .i64 i ∧ i ≤ jm ∧ gk = jm - i ∧ Hid (CS S T U j wM wr rows (ch ++ [(d : Int)]) (tl.set d true) (.slice A2 (ch ++ [(d : Int)]).length c2)) ∧ Hid (Blk wr S 3 (icells wx)) ∧
                    Hid (wx.length = j ∧ ∀ x : Int, 0 ≤ x → x < j → lv wx x + (D (lv comp) d (es.take i) x : Nat) = (W (lv comp) ch es x : Nat)))
                  case atStart => exact ⟨0, wl, rfl, Nat.zero_le _, by omega, HC10, HW10, Lib.hid ⟨HWL.out.1, fun x h0 h1 => by rw [HWL.out.2 x h0 h1]; simp [D]⟩⟩
                  case round =>
                    clear HC10 HW10 HWL
                    obtain ⟨i, wx, rfl, hi6, hgi, HC, HWB, HWL⟩ := hrel
                    have HG2 := Lib.hid hgi
                    clear hgi
                    by_cases hlt6 : i < jm
                    · obtain ⟨b, o, hj1, rfl, hbb, c0, c1, c2', c3⟩ := (HR.out.below (HCF.out.mb.below.trans (HC.out.b.mono HwM.out))).edge i hlt6
                      have hok := HF.out.2.2 _ (List.getElem_mem hj1)
                      have HT := Lib.hid (take_snoc es i hj1)
                      have hrf := HP.out.rng es[i].f ⟨hok.1, hok.2.1⟩
                      have hrt := HP.out.rng es[i].t ⟨hok.2.2.1, hok.2.2.2⟩
                      have HDL := Lib.hid (fun x => D_le (lv comp) d es (i + 1) x)
                      generalize es[i] = e at *
                      obtain ⟨ef, et, en, er⟩ := e
                      obtain ⟨p1, p2, p3, p4⟩ := hok
                      dsimp only at c0 c1 c2' c3 hrf hrt p1 p2 p3 p4
                      obtain ⟨f, rfl⟩ : ∃ f : Nat, ef = (f : Int) := ⟨ef.toNat, by omega⟩
                      obtain ⟨t, rfl⟩ : ∃ t : Nat, et = (t : Int) := ⟨et.toNat, by omega⟩
                      go_upto_region 32 with (fail)
                      have HC := Lib.hid (HC.out.alloc (.cells #[.int .i64 (f : Int), .int .i64 (t : Int), .bool en, .int .i64 er] 43))
                      have HWB := Lib.hid (HWB.out.alloc (.cells #[.int .i64 (f : Int), .int .i64 (t : Int), .bool en, .int .i64 er] 43))
                      have hE := Lib.hid (Blk.new wr 43 [.int .i64 (f : Int), .int .i64 (t : Int), .bool en, .int .i64 er])
                      clear c0 c1 c2' c3
                      generalize World.alloc _ _ = w11 at *
                      generalize wr.heap.size = R at *
                      have e0 := hE.out.cell 0
                      have e1 := hE.out.cell 1
                      simp only [List.getElem?_cons_zero, List.getElem?_cons_succ] at e0 e1
                      have q0 := HCF.out.comp_cell (by rw [HS.out]; exact HC.out.b) (p := (f : Int)) ⟨p1, p2⟩
                      have q1 := HCF.out.comp_cell (by rw [HS.out]; exact HC.out.b) (p := (t : Int)) ⟨p3, p4⟩
                      rw [Int.toNat_natCast] at q0 q1
                      obtain ⟨a, ha⟩ : ∃ a : Nat, lv comp f = (a : Int) := ⟨(lv comp f).toNat, by omega⟩
                      obtain ⟨y, hy⟩ : ∃ y : Nat, lv comp t = (y : Int) := ⟨(lv comp t).toNat, by omega⟩
                      rw [ha] at q0 hrf
                      rw [hy] at q1 hrt
                      have HAD := Lib.hid (⟨ha, hy⟩ : _ ∧ _)
                      clear ha hy
                      by_cases h1 : a = d
                      · obtain rfl : d = a := h1.symm
                        clear h1
                        by_cases h2 : y = d
                        · obtain rfl : d = y := h2.symm
                          clear h2
                          go_wp2
                          go_roundg (jm - (i + 1))
                          case measure => have := HG2.out; omega
                          case rel =>
                            refine ⟨i + 1, wx, by go_num, by omega, rfl, HC, HWB, Lib.hid ⟨HWL.out.1, fun x h0 h1 => ?_⟩⟩
                            rw [← HWL.out.2 x h0 h1, HT.out, D_snoc]
                            simp [HAD.out.1, HAD.out.2]
                        · have h2' : ((y : Int) == (d : Int)) = false := by simp; omega
                          have hyl : y < wx.length := by have := HWL.out.1; omega
                          have hval : ∃ z : Nat, lv wx y = ((z : Nat) : Int) ∧ 1 ≤ z ∧ z ≤ jm := by
                            have e1 := HWL.out.2 y (by omega) (by omega)
                            have e2 := HDL.out y
                            rw [HT.out, D_snoc] at e2
                            have e3 : ((d : Int) == (d : Int) && (((y : Int) != (d : Int)) && ((y : Int) == (y : Int)))) = true := by simp; omega
                            simp only [HAD.out.1, HAD.out.2] at e2
                            rw [if_pos e3] at e2
                            have e4 := W_D (κ := lv comp) (c := (y : Int)) HCR'.out es
                            have e5 := W_le (κ := lv comp) ch es y
                            have e6 := HL.out
                            exact ⟨(lv wx y).toNat, by omega, by omega, by omega⟩
                          obtain ⟨z, hz, hz1, hz2⟩ := hval
                          have y0 : w11.cell? ⟨S, y, none⟩ = some (.int .i64 (z : Int)) := by
                            have h := icells_lv (l := wx) (i := (y : Int)) (by omega) (by omega)
                            rw [Int.toNat_natCast, hz] at h
                            exact (HWB.out.cell y).trans h
                          have z0 := HWB.out.frozen y
                          have HZ := Lib.hid hz
                          clear h2 hz
                          go_upto_region 34 with (fail)
                          have HC6 := Lib.hid (HC.out.waits y (.int .i64 ((z : Int) - 1)))
                          have HW6 := Lib.hid (HWB.out.set_ y (.int .i64 ((z : Int) - 1)))
                          clear HC HWB y0 z0 hE e0 e1 q0 q1
                          generalize World.setCell _ _ _ = w12 at *
                          go_wp2
                          go_roundg (jm - (i + 1))
                          case measure => have := HG2.out; omega
                          case rel =>
                            refine ⟨i + 1, wx.set y ((z : Int) - 1), by go_num, by omega, rfl, HC6, by rw [icells_set] at HW6; exact HW6, Lib.hid ⟨by simpa using HWL.out.1, fun x h0 h1 => ?_⟩⟩
                            rw [lv_set hyl, HT.out, D_snoc, ← HWL.out.2 x h0 h1]
                            simp only [HAD.out.1, HAD.out.2]
                            by_cases e : x.toNat = y
                            · obtain rfl : x = (y : Int) := by omega
                              have e3 : ((d : Int) == (d : Int) && (((y : Int) != (d : Int)) && ((y : Int) == (y : Int)))) = true := by simp [bne, h2']
                              rw [if_pos e, if_pos e3, HZ.out]
                              omega
                            · have e3 : ((d : Int) == (d : Int) && (((y : Int) != (d : Int)) && ((y : Int) == x))) = false := by
                                have : ((y : Int) == x) = false := by simp; omega
                                simp [this]
                              rw [if_neg e, e3]; simp
                      · have h1' : ((a : Int) == (d : Int)) = false := by simp; omega
                        clear h1
                        go_wp2
                        go_roundg (jm - (i + 1))
                        case measure => have := HG2.out; omega
                        case rel =>
                          refine ⟨i + 1, wx, by go_num, by omega, rfl, HC, HWB, Lib.hid ⟨HWL.out.1, fun x h0 h1 => ?_⟩⟩
                          rw [← HWL.out.2 x h0 h1, HT.out, D_snoc]
                          simp only [HAD.out.1, HAD.out.2]
                          simp [h1']
                    · obtain rfl : i = jm := by omega
                      have HWF : Hid (wx.length = j ∧ ∀ x : Int, 0 ≤ x → x < j → lv wx x = (W (lv comp) (ch ++ [(d : Int)]) es x : Nat)) := Lib.hid ⟨HWL.out.1, fun x h0 h1 => by
                        have e1 := HWL.out.2 x h0 h1
                        rw [List.take_of_length_le (by have := HL.out; omega)] at e1
                        have e4 := W_D (κ := lv comp) (c := x) HCR'.out es
                        omega⟩
                      clear HWL HG2
                      go_wp2
                      go_roundg (j - (ch ++ [(d : Int)]).length)
                      case measure => have := HG.out; have := hlen5.out; omega
                      case rel => exact ⟨_, wx, _, rfl, HC, HWB, HWF, HST2⟩
            · have HLL := Lib.hid (ll_of HCF.out HS.out HC.out HST.out.2.1 HST.out.2.2)
              have HDN := Lib.hid (done_ch HST.out.1 HP.out HST.out.2.1 HST.out.2.2 (by omega))
              have HBE := Lib.hid (HCF.out.mb.below.trans (HC.out.b.mono HwM.out))
              clear HC HWB HWL HST HG
              go_wp2
              go_ret2
              exact ⟨_, _, _, rfl, HBE.out, HLL.out, HDN.out⟩

set_option maxRecDepth 20000 in
theorem progComps_no (A : Option Addr) (m c : Nat) (x : Int) (es : List E) (w : World) (hr : Rd w w.heap.size 4 A m (ecells es)) (hf : ¬ Fits x es) :
    Calls Try.prog 29 #[.int .i64 x, .slice A m c] w fun e w' => e = .returned (.tuple #[.slice none 0 0, .int .i64 2]) ∧ Below w.heap.size w w' := by
  have HR := Lib.hid hr
  have hfit := fitB_false hf
  clear hr hf
  go_enter Try.func29, Try.ntmps29
  go_wp2_with fail
  refine (may_any x A m c es _ HR.out).mono ?_
  rintro e w1 ⟨rfl, hb1'⟩
  rw [hfit]
  have HB1 := Lib.hid hb1'
  clear hb1' hfit
  go_wp2
  go_ret2
  exact ⟨rfl, HB1.out⟩
end Go.Proofs.Ytefpglaipnnggaa
