/- No two lists share memory (alone). -/
import Derived.Test.YtefpglaipnnggaaE7
namespace Go.Proofs.Ytefpglaipnnggaa
open Go.RowKit

theorem Fr.set3 {S : List Nat} {a b : World} {g j : Nat} {cur : List Value} {u : Value} (h : Fr S a b) (hg : Blk b g 3 cur) : Fr S a (b.setCell ⟨g, j, none⟩ u) :=
  ⟨by have := h.size; simpa using this, fun i t cs hs ht hb => by
    have hb' := h.keep i t cs hs ht hb
    refine hb'.far (p := ⟨g, j, none⟩) (fun e => ht ?_) u
    have e : i = g := e
    subst e
    unfold Blk at hb' hg
    rw [hg] at hb'
    injection hb' with hb'
    injection hb' with _ h3 _
    exact h3.symm⟩
theorem Fr.newer {S : List Nat} {a b c : World} {row : Option Nat} (h : Fr S a b) (hg : b.grownBy c row) (hr : ∀ q, row = some q → a.heap.size ≤ q) : Fr S a c :=
  ⟨Nat.le_trans h.size hg.size, fun i t cs hs ht hb => (h.keep i t cs hs ht hb).grown hg (fun e => by have := hr i e.symm; have := hb.lt; omega)⟩

theorem LL.elem {w : World} {U : Nat} {v : Value} {vs : List Value} {lx : List (List Int)} (h : LL w U v vs lx) {i : Nat} (hi : i < lx.length) :
    ∃ gv c Ai ci, ∃ hv : i < vs.length, v = .slice (some ⟨gv, 0, none⟩) lx.length c ∧ w.cell? ⟨gv, i, none⟩ = some (.slice Ai lx[i].length ci) ∧ vs[i] = .slice Ai lx[i].length ci := by
  have hl := h.len
  obtain ⟨gv, c, cur, hv, hb, hg, hnc, hcm, hcs, ht⟩ := own_blkd h.row (by omega)
  obtain ⟨Ai, ci, e, _⟩ := own_slice (h.own i (by omega) hi)
  refine ⟨gv, c, Ai, ci, by omega, hv, ?_, e⟩
  refine (hg.cell i).trans ?_
  have e2 : cur[i]? = vs[i]? := by rw [← ht, List.getElem?_take, if_pos (by omega)]
  rw [e2, List.getElem?_eq_getElem (by omega), e]
theorem LL.inner {w : World} {U : Nat} {v : Value} {vs : List Value} {lx : List (List Int)} (h : LL w U v vs lx) {i j : Nat} (hi : i < lx.length) (hj : j < lx[i].length) :
    ∃ g ci cur, ∃ hv : i < vs.length, vs[i] = .slice (some ⟨g, 0, none⟩) lx[i].length ci ∧ U ≤ g ∧ Blk w g 3 cur ∧ w.cell? ⟨g, j, none⟩ = some (.int .i64 lx[i][j]) ∧ w.frozen? ⟨g, j, none⟩ = false ∧
      ∀ x : Int, LL (w.setCell ⟨g, j, none⟩ (.int .i64 x)) U v vs (lx.set i (lx[i].set j x)) := by
  have hl := h.len
  have hvi : i < vs.length := by omega
  have ho := h.own i hvi hi
  obtain ⟨g, ci, cur, e, hb, hg, hnc, hcm, hcs, ht⟩ := own_blkd ho (by omega)
  rw [e] at ho
  refine ⟨g, ci, cur, hvi, e, hb, hg, ?_, ho.frozenAt j, fun x => ⟨?_, fun u hu hu2 => ?_, h.apart⟩⟩
  · rw [ho.cellAt j (by omega)]
    exact icells_get hj
  · rw [List.length_set]
    exact own_setCell_blk h.row hg (by decide) j _
  · rw [List.getElem_set]
    split
    · rename_i e3
      subst e3
      rw [List.length_set, e, ← icells_set]
      exact (ho.stored j _).1
    · rename_i e3
      have hu3 : u < lx.length := by simpa using hu2
      refine own_apart (h.own u hu hu3) (ho.stored j (.int .i64 x)).2 (fun e4 => ?_)
      have h5 : vs[u].ownBlock = vs[i].ownBlock := by rw [e4, e]; rfl
      have h6 := h.apart u i hu hvi (fun e5 => e3 e5.symm) h5
      rw [h6] at e4; cases e4

/-- All lists filled with their marks. -/
def marked (ls : List (List Int)) (i : Nat) (lx : List (List Int)) : Prop := lx.length = ls.length ∧ ∀ k, (h : k < ls.length) → (h2 : k < lx.length) → lx[k] = if k < i then List.replicate ls[k].length (-1 - (k : Int)) else ls[k]

/-- The lists that have been grown: in rows of their own, apart from those still to come. -/
structure Longer (w : World) (U Z n i : Nat) (vs : List Value) (lm : List (List Int)) (v5 : Value) (xs : List Value) : Prop where
  row : w.ownsRow Z 37 1 v5 i xs
  own : ∀ k, (h : k < xs.length) → (h2 : k < lm.length) → w.ownsRow U 3 1 xs[k] (lm[k].length + 2) (icells (List.replicate (lm[k].length + 2) (-1 - (k : Int))))
  apart : ∀ k u, (h : k < xs.length) → (hu : u < vs.length) → i ≤ u → ∀ q, xs[k].ownBlock = some q → vs[u].ownBlock ≠ some q

theorem LL.append5 {w4 w5 : World} {U : Nat} {v : Value} {vs : List Value} {lx : List (List Int)} (h : LL w4 U v vs lx) {i : Nat} (hi : i < vs.length) (h2 : i < lx.length) (hg : w4.grownBy w5 vs[i].ownBlock) (hk : w5.ownsRow U 3 1 vs[i] lx[i].length (icells lx[i])) : LL w5 U v vs lx :=
  ⟨own_kept_types h.row (h.own i hi h2) (by decide) hg, fun u hu hu2 => by
    by_cases e : u = i
    · subst e; exact hk
    · exact own_apart' (h.own u hu hu2) hg (fun q hq hq2 => by
        have h6 := h.apart u i hu hi e (hq.trans hq2.symm)
        rw [h6] at hq; cases hq), h.apart⟩
theorem LL.row5 {w6 w7 : World} {U Z n : Nat} {v v5 : Value} {vs xs : List Value} {lx : List (List Int)} (h : LL w6 U v vs lx) (h5 : w6.ownsRow Z 37 1 v5 n xs) (hg : w6.grownBy w7 v5.ownBlock) (hne : ∀ q, v.ownBlock = some q → q < Z) : LL w7 U v vs lx :=
  ⟨own_apart' h.row hg (fun q hq hq2 => by have := hne q hq; have := (h5.lt q hq2).1; omega), fun u hu hu2 => own_kept_types (h.own u hu hu2) h5 (by decide) hg, h.apart⟩
theorem LL.alloc {w : World} {U : Nat} {v : Value} {vs : List Value} {lx : List (List Int)} (h : LL w U v vs lx) (o : Obj) : LL (w.alloc o) U v vs lx := h.below ((Below.refl _ _).alloc (Nat.le_refl _) o)
theorem Longer.alloc {w : World} {U Z n i : Nat} {vs : List Value} {lm : List (List Int)} {v5 : Value} {xs : List Value} (h : Longer w U Z n i vs lm v5 xs) (o : Obj) : Longer (w.alloc o) U Z n i vs lm v5 xs :=
  ⟨h.row.alloc o, fun k hk h2 => (h.own k hk h2).alloc o, h.apart⟩
theorem Longer.append5 {w4 w5 : World} {U Z n p ll : Nat} {vs : List Value} {lm : List (List Int)} {v5 : Value} {xs ys : List Value} (h : Longer w4 U Z n p vs lm v5 xs) (hi : p < vs.length) (hown : w4.ownsRow U 3 1 vs[p] ll ys) (hg : w4.grownBy w5 vs[p].ownBlock) : Longer w5 U Z n p vs lm v5 xs :=
  ⟨own_kept_types h.row hown (by decide) hg, fun k hk h2 => own_apart' (h.own k hk h2) hg (fun q hq => h.apart k p hk hi (Nat.le_refl _) q hq), h.apart⟩
theorem Longer.push {w6 w7 : World} {U Z n p : Nat} {vs : List Value} {lm : List (List Int)} {v5 v7 vx : Value} {xs : List Value} (h : Longer w6 U Z n p vs lm v5 xs) (hl : xs.length = p) (hp : p < lm.length)
    (hx : w6.ownsRow U 3 1 vx (lm[p].length + 2) (icells (List.replicate (lm[p].length + 2) (-1 - (p : Int))))) (hxa : ∀ u, (hu : u < vs.length) → p + 1 ≤ u → ∀ q, vx.ownBlock = some q → vs[u].ownBlock ≠ some q)
    (hg : w6.grownBy w7 v5.ownBlock) (ho : w7.ownsRow Z 37 1 v7 (p + 1) (xs ++ [vx])) : Longer w7 U Z n (p + 1) vs lm v7 (xs ++ [vx]) := by
  have key : ∀ k, (hk : k < (xs ++ [vx]).length) → (∃ h : k < xs.length, (xs ++ [vx])[k] = xs[k]) ∨ (k = p ∧ (xs ++ [vx])[k] = vx) := fun k hk => by
    by_cases e : k < xs.length
    · exact .inl ⟨e, List.getElem_append_left e⟩
    · have : k = xs.length := by simp at hk; omega
      exact .inr ⟨by omega, by rw [List.getElem_append_right (by omega)]; simp⟩
  refine ⟨ho, fun k hk h2 => ?_, fun k u hk hu hle q hq => ?_⟩
  · rcases key k hk with ⟨h1, e1⟩ | ⟨h1, e1⟩
    · rw [e1]; exact own_kept_types (h.own k h1 h2) h.row (by decide) hg
    · subst h1; rw [e1]; exact own_kept_types hx h.row (by decide) hg
  · rcases key k hk with ⟨h1, e1⟩ | ⟨h1, e1⟩
    · rw [e1] at hq; exact h.apart k u h1 hu (by omega) q hq
    · rw [e1] at hq; exact hxa u hu hle q hq

set_option maxRecDepth 20000 in
set_option maxHeartbeats 4000000 in
theorem alone_any (U : Nat) (A : Option Addr) (n c : Nat) (vs : List Value) (ls : List (List Int)) (w : World) (h : LL w U (.slice A n c) vs ls) (hn : ls.length = n) (hn1 : n ≤ 100000) (hb : ∀ l ∈ ls, l.length ≤ 100000) (hU : U ≤ w.heap.size) :
    Calls Try.prog 31 #[.slice A n c] w fun e w' => e = .returned (.bool true) ∧ Below U w w' ∧ Fr [] w w' := by
  obtain ⟨i0, hi, hz0, hz1, hz2⟩ := info_parts Try.info3
  obtain ⟨i1, hi', hz0', hz1', hz2'⟩ := info_parts Try.info37
  have H := Lib.hid h
  have HN := Lib.hid hn
  have HB := Lib.hid hb
  have HU := Lib.hid hU
  clear h hn hb hU
  go_enter Try.func31, Try.ntmps31
  go_wp2
  go_loopg [3] n (fun gk v wr => ∃ (i : Nat) (lx : List (List Int)), v = .int .i64 i ∧ i ≤ n ∧ gk = n - i ∧ Hid (LL wr U (.slice A n c) vs lx) ∧ Hid (marked ls i lx) ∧ Hid (Below U w wr) ∧ Hid (Fr [] w wr))
  case atStart => exact ⟨0, ls, rfl, Nat.zero_le _, by omega, H, Lib.hid ⟨rfl, fun k h h2 => by simp⟩, Lib.hid (Below.refl _ _), Lib.hid (Fr.refl _ _)⟩
  case round =>
    obtain ⟨i, lx, rfl, hi9, hgi, HL, HMK, HBL, HFR⟩ := hrel
    have HG := Lib.hid hgi
    clear hgi
    by_cases hlt : i < n
    · have hlxn : lx.length = n := HMK.out.1.trans HN.out
      have hils : i < ls.length := by have := HN.out; omega
      obtain ⟨ll, hll⟩ : ∃ ll, ls[i].length = ll := ⟨_, rfl⟩
      have hlen : ll ≤ 100000 := by rw [← hll]; exact HB.out _ (List.getElem_mem hils)
      have HLEN := Lib.hid hll
      clear hll
      have hxi : Hid (∃ h : i < lx.length, lx[i] = ls[i]) := Lib.hid ⟨by omega, by rw [HMK.out.2 i hils (by omega), if_neg (by omega)]⟩
      go_wp2
      go_loopg [4] ll (fun gk v wr => ∃ (j : Nat) (ly : List (List Int)), v = .int .i64 j ∧ j ≤ ll ∧ gk = ll - j ∧ Hid (LL wr U (.slice A n c) vs ly) ∧ Hid (ly.length = n ∧ (∀ k, (h : k < ly.length) → (h2 : k < lx.length) → k ≠ i → ly[k] = lx[k]) ∧ ∀ h : i < ly.length, ly[i] = List.replicate j (-1 - (i : Int)) ++ ls[i].drop j) ∧ Hid (Below U w wr) ∧ Hid (Fr [] w wr))
      case atStart => exact ⟨0, lx, rfl, Nat.zero_le _, by omega, HL, Lib.hid ⟨hlxn, fun _ _ _ _ => rfl, fun h => by obtain ⟨_, e⟩ := hxi.out; rw [e]; simp⟩, HBL, HFR⟩
      case round =>
        clear HL HBL HFR
        obtain ⟨j, ly, rfl, hj, hgj, HL, HLY, HBL, HFR⟩ := hrel
        have HG2 := Lib.hid hgj
        clear hgj
        have hlyn : ly.length = n := HLY.out.1
        have pi : i < ly.length := by omega
        have hyi := HLY.out.2.2 pi
        have hyl : ly[i].length = ll := by have := HLEN.out; rw [hyi]; simp; omega
        obtain ⟨gv, cv, Ai, ci, hvi, hv, d0, e0⟩ := HL.out.elem (i := i) pi
        have hA : A = some ⟨gv, 0, none⟩ := by injection hv
        subst hA
        clear hv
        rw [hyl] at d0 e0
        by_cases hlt2 : j < ll
        · have pj : j < ly[i].length := by omega
          obtain ⟨g, ci', cur, _, e1, hUg, hgb, d1', z1, hset⟩ := HL.out.inner (i := i) (j := j) pi pj
          rw [hyl] at e1
          have e2 := e0.symm.trans e1
          injection e2 with e2 _ _
          subst e2
          have HS := Lib.hid (hset (-1 - (i : Int)))
          have HB3 := Lib.hid (HBL.out.setCell (p := ⟨g, j, none⟩) hUg (.int .i64 (-1 - (i : Int))))
          have HF3 := Lib.hid (HFR.out.set3 (j := j) (u := .int .i64 (-1 - (i : Int))) hgb)
          have HY3 : Hid ((ly.set i (ly[i].set j (-1 - (i : Int)))).length = n ∧ (∀ k, (h : k < (ly.set i (ly[i].set j (-1 - (i : Int)))).length) → (h2 : k < lx.length) → k ≠ i → (ly.set i (ly[i].set j (-1 - (i : Int))))[k] = lx[k]) ∧ ∀ h : i < (ly.set i (ly[i].set j (-1 - (i : Int)))).length, (ly.set i (ly[i].set j (-1 - (i : Int))))[i] = List.replicate (j + 1) (-1 - (i : Int)) ++ ls[i].drop (j + 1)) :=
            Lib.hid ⟨by simpa using hlyn, fun k h h2 hne => by rw [List.getElem_set_ne (fun e => hne e.symm)]; exact HLY.out.2.1 k (by simpa using h) h2 hne, fun h => by
              rw [List.getElem_set_self, hyi, fill_next _ _ _ (by have := HLEN.out; omega)]⟩
          obtain ⟨y0, d1⟩ : ∃ y0, wr.cell? ⟨g, j, none⟩ = some (.int .i64 y0) := ⟨_, d1'⟩
          clear d1' hset hgb e0 e1 hyi hyl hlyn
          go_upto_region 6 with (fail)
          clear HL HBL HFR d0 d1 z1
          generalize World.setCell _ _ _ = w5 at *
          go_wp2
          go_roundg (ll - (j + 1))
          case measure => have := HG2.out; omega
          case rel => exact ⟨j + 1, _, by go_num, by omega, rfl, HS, HY3, HB3, HF3⟩
        · obtain rfl : j = ll := by omega
          have HM2 : Hid (marked ls (i + 1) ly) := Lib.hid ⟨hlyn.trans HN.out.symm, fun k h h2 => by
            by_cases e : k = i
            · subst e
              rw [if_pos (by omega), hyi, List.drop_of_length_le (by have := HLEN.out; omega), List.append_nil, HLEN.out]
            · rw [HLY.out.2.1 k h2 (by omega) e, HMK.out.2 k h (by omega)]
              by_cases e2 : k < i
              · rw [if_pos e2, if_pos (by omega)]
              · rw [if_neg e2, if_neg (by omega)]⟩
          clear hyi hyl hlyn e0 HLY HMK hxi
          go_wp2
          go_roundg (n - (i + 1))
          case measure => have := HG.out; omega
          case rel => exact ⟨i + 1, ly, by go_num, by omega, rfl, HL, HM2, HBL, HFR⟩
    · obtain rfl : i = n := by omega
      have hlxn : lx.length = i := HMK.out.1.trans HN.out
      have HLX : Hid (lx.length = i ∧ ∀ k, (h : k < lx.length) → lx[k] = List.replicate lx[k].length (-1 - (k : Int)) ∧ lx[k].length ≤ 100000) := Lib.hid ⟨hlxn, fun k h => by
        have hk : k < ls.length := by have := HN.out; omega
        have e := HMK.out.2 k hk h
        rw [if_pos (by omega)] at e
        have e2 : lx[k].length = ls[k].length := by rw [e]; simp
        exact ⟨by rw [e2]; exact e, by rw [e2]; exact HB.out _ (List.getElem_mem hk)⟩⟩
      obtain ⟨w3, hw3⟩ : ∃ x, x = wr := ⟨wr, rfl⟩
      subst hw3
      have HVZ : Hid (∀ q, (Value.slice A i c).ownBlock = some q → q < w3.heap.size) := Lib.hid fun q hq => (HL.out.row.lt q hq).2
      have HWZ : Hid (w.heap.size ≤ w3.heap.size) := Lib.hid HBL.out.size
      have HUZ : Hid (U ≤ w3.heap.size) := Lib.hid (by have := HU.out; have := HWZ.out; omega)
      generalize hZ : w3.heap.size = Z at *
      have HZ := Lib.hid hZ
      clear hZ HMK HG H hlxn
      go_wp2
      go_loopg [6, 5] i (fun gk v6 v5 wr => ∃ (p : Nat) (xs : List Value), v6 = .int .i64 p ∧ p ≤ i ∧ gk = i - p ∧ Hid (LL wr U (.slice A i c) vs lx) ∧ Hid (Longer wr U Z i p vs lx v5 xs) ∧ Hid (Below U w wr) ∧ Hid (Fr [] w wr) ∧ Hid (Z ≤ wr.heap.size))
      case atStart => exact ⟨0, [], rfl, Nat.zero_le _, by omega, HL, Lib.hid ⟨World.ownsRow_nil _ _ _ _, fun k h => by simp at h, fun k u h => by simp at h⟩, HBL, HFR, Lib.hid (Nat.le_of_eq HZ.out.symm)⟩
      case round =>
        clear HL HBL HFR
        obtain ⟨p, xs, rfl, hp, hgp, HL, HLO, HBL, HFR, HSZ⟩ := hrel
        have HG := Lib.hid hgp
        clear hgp
        have hxl : Hid (xs.length = p) := Lib.hid (by have := HLO.out.row.1; omega)
        by_cases hlt : p < i
        · have pp : p < lx.length := by have := HLX.out.1; omega
          obtain ⟨gv, cv, Ai, ci, hvi, hv, d0, e0⟩ := HL.out.elem (i := p) pp
          have hA : A = some ⟨gv, 0, none⟩ := by injection hv
          subst hA
          clear hv
          have hown := HL.out.own p hvi pp
          rw [e0] at hown
          obtain ⟨hrep, hl100⟩ := HLX.out.2 p pp
          have HREP := Lib.hid hrep
          have HE0 := Lib.hid e0
          clear hrep e0
          obtain ⟨ll, hll⟩ : ∃ ll, lx[p].length = ll := ⟨_, rfl⟩
          rw [hll] at d0 hl100
          have HLL := Lib.hid hll
          rw [hll] at hown
          have hUr : U ≤ wr.heap.size := by have := HSZ.out; have := HUZ.out; omega
          clear hll
          go_wp2_with (at_builtin; go_must (refine wpList_append_kept _ rfl _ _ 37 rfl U 3 i0 _ 1 8 Try.underlying37 hi hz0 hz1 hz2 rfl (by decide) _ _ _ rfl (hown.alloc _) ⟨wr.heap.size, 0, none⟩ 2 2 [.int .i64 (-1 - (p : Int)), .int .i64 (-1 - (p : Int))] rfl rfl (fun j u h => new_cells _ _ _ j u h) (by intro u hu; simp only [List.mem_cons, List.mem_nil_iff, or_false] at hu; rcases hu with rfl | rfl <;> rfl) (by unfold maxLen; omega) (by omega) (by simp; omega) ?_))
          intro vx w5 hx5 hg5 hlie hkept
          obtain ⟨gx, cx, curx, rfl, hbx, _, _⟩ := own_blkd hx5 (by omega)
          have hrep2 : icells lx[p] ++ [.int .i64 (-1 - (p : Int)), .int .i64 (-1 - (p : Int))] = icells (List.replicate (lx[p].length + 2) (-1 - (p : Int))) := by
            have e1 : icells lx[p] = icells (List.replicate lx[p].length (-1 - (p : Int))) := congrArg icells HREP.out
            rw [e1, ← List.replicate_append_replicate (n := lx[p].length) (m := 2), icells_append]; rfl
          rw [hrep2] at hx5
          have hXA : Hid (∀ u, (hu : u < vs.length) → p + 1 ≤ u → ∀ q, (Value.slice (some ⟨gx, 0, none⟩) (ll + 2) cx).ownBlock = some q → vs[u].ownBlock ≠ some q) := Lib.hid fun u hu hle q hq hq2 => by
            rcases hlie with hlie | hlie
            · rw [hlie] at hq
              have h6 := HL.out.apart u p hu hvi (by omega) (by rw [hq2, HE0.out, HLL.out]; exact hq.symm)
              rw [h6] at hq2; cases hq2
            · rw [hlie] at hq
              have h7 := ((HL.out.own u hu (by have := HL.out.len; omega)).lt q hq2).2
              injection hq with hq
              omega
          have hvp : vs[p] = .slice Ai ll ci := by rw [HE0.out, HLL.out]
          have hL4 := HL.out.alloc (.cells #[.int .i64 (-1 - (p : Int)), .int .i64 (-1 - (p : Int))] 3)
          have hO4 := HLO.out.alloc (.cells #[.int .i64 (-1 - (p : Int)), .int .i64 (-1 - (p : Int))] 3)
          have HL5 := Lib.hid (hL4.append5 hvi pp (by rw [hvp]; exact hg5) (by rw [hvp, HLL.out]; exact hkept))
          have HO5 := Lib.hid (hO4.append5 hvi (by rw [hvp]; exact hown.alloc _) (by rw [hvp]; exact hg5))
          have HB5 := Lib.hid ((HBL.out.alloc hUr (.cells #[.int .i64 (-1 - (p : Int)), .int .i64 (-1 - (p : Int))] 3)).grown hg5 (by simp; omega) (fun q hq => (hown.lt q hq).1))
          have HF5 := Lib.hid ((HFR.out.alloc (.cells #[.int .i64 (-1 - (p : Int)), .int .i64 (-1 - (p : Int))] 3)).grown (hown.alloc _) hg5)
          have HS5 : Hid (Z ≤ w5.heap.size) := Lib.hid (Nat.le_trans (Nat.le_trans HSZ.out (by simp)) hg5.size)
          rw [← HLL.out] at hx5
          have HX5 := Lib.hid hx5
          have hs5 := HS5.out
          have hu5 := HUZ.out
          have hown5 := HO5.out.row
          clear hL4 hO4 hrep2 hx5 hg5 hkept hlie hvp hown HL HLO HBL HFR HSZ d0
          have hll2 : lx[p].length = ll := HLL.out
          go_wp2_with (at_builtin; go_must (refine wpList_append_own _ rfl _ _ 44 rfl Z 37 i1 _ 1 24 Try.underlying44 hi' hz0' hz1' hz2' rfl (by decide) _ _ _ rfl (hown5.alloc _) ⟨w5.heap.size, 0, none⟩ 1 1 [.slice (some ⟨gx, 0, none⟩) (ll + 2) cx] rfl rfl (fun j u h => new_cells _ _ _ j u h) (by intro u hu; rw [List.mem_singleton.1 hu]; rfl) (by unfold maxLen; omega) (by omega) (by simp; omega) ?_))
          intro v7 w7 hown7 hg7 _
          have HL7 := Lib.hid ((HL5.out.alloc (.cells #[.slice (some ⟨gx, 0, none⟩) (ll + 2) cx] 37)).row5 (hown5.alloc _) hg7 HVZ.out)
          have HO7 := Lib.hid ((HO5.out.alloc (.cells #[.slice (some ⟨gx, 0, none⟩) (ll + 2) cx] 37)).push hxl.out pp (by rw [hll2] at HX5 ⊢; exact HX5.out.alloc _) hXA.out hg7 hown7)
          have HB7 := Lib.hid ((HB5.out.alloc (by omega) (.cells #[.slice (some ⟨gx, 0, none⟩) (ll + 2) cx] 37)).grown hg7 (by simp; omega) (fun q hq => by have := (hown5.lt q hq).1; omega))
          have HF7 := Lib.hid ((HF5.out.alloc (.cells #[.slice (some ⟨gx, 0, none⟩) (ll + 2) cx] 37)).newer hg7 (fun q hq => by have := (hown5.lt q hq).1; have := HWZ.out; omega))
          have HS7 : Hid (Z ≤ w7.heap.size) := Lib.hid (Nat.le_trans (Nat.le_trans hs5 (by simp)) hg7.size)
          clear HL5 HO5 HB5 HF5 HS5 HX5 hown5 hown7 hg7 hXA hll2
          go_wp2
          go_roundg (i - (p + 1))
          case measure => have := HG.out; omega
          case rel => exact ⟨p + 1, _, by go_num, by omega, rfl, HL7, HO7, HB7, HF7, HS7⟩
        · obtain rfl : p = i := by omega
          obtain ⟨w8, hw8⟩ : ∃ x, x = wr := ⟨wr, rfl⟩
          subst hw8
          obtain ⟨A5, c5, hv5, hrd5⟩ := own_slice HLO.out.row
          subst hv5
          have HRD5 := Lib.hid hrd5
          clear hrd5 HVZ HSZ HZ HG
          go_wp2
          go_loopg [7] p (fun gk v wy => ∃ (a : Nat), v = .int .i64 a ∧ a ≤ p ∧ gk = p - a ∧ wy = w8)
          case atStart => exact ⟨0, rfl, Nat.zero_le _, by omega, rfl⟩
          case round =>
            obtain ⟨a, rfl, ha, hga, hwy⟩ := hrel
            have HG := Lib.hid hga
            clear hga
            obtain rfl : w8 = wr := hwy.symm
            by_cases hlt2 : a < p
            · have pa : a < lx.length := by have := HLX.out.1; omega
              have px : a < xs.length := by have := hxl.out; omega
              obtain ⟨gv, cv, Ai, ci, hvi, hv, d0, e0⟩ := HL.out.elem (i := a) pa
              have hA : A = some ⟨gv, 0, none⟩ := by injection hv
              subst hA
              obtain ⟨b5, o5, hA5, hb5, hc5⟩ := HRD5.out.2.2 (by omega)
              subst hA5
              have d5 := hc5 a _ (List.getElem?_eq_getElem px)
              have hx := HLO.out.own a px pa
              obtain ⟨gx, cx, curx, hxe, _, _, _⟩ := own_blkd hx (by omega)
              rw [hxe] at d5 hx
              obtain ⟨hrep, hl100⟩ := HLX.out.2 a pa
              have hl := HL.out.own a hvi pa
              rw [e0] at hl
              have hcl : ∀ j, j < lx[a].length → ∃ b o, Ai = some ⟨b, o, none⟩ ∧ ∀ j, j < lx[a].length → w8.cell? ⟨b, o + j, none⟩ = some (.int .i64 (-1 - (a : Int))) := fun j hj => by
                obtain ⟨b, o, h1, _, h3⟩ := (own_rd hl).2.2 (by omega)
                refine ⟨b, o, h1, fun j hj => h3 j _ ?_⟩
                rw [icells_get hj]
                have e1 : (lx[a])[j]? = (List.replicate lx[a].length (-1 - (a : Int)))[j]? := congrArg (·[j]?) hrep
                rw [List.getElem?_eq_getElem hj, List.getElem?_replicate, if_pos hj] at e1
                injection e1 with e1
                rw [e1]
              have hcx : ∀ j, j < lx[a].length + 2 → w8.cell? ⟨gx, j, none⟩ = some (.int .i64 (-1 - (a : Int))) := fun j hj => by
                rw [hx.cellAt j (by omega), icells_get (by simpa using hj), List.getElem_replicate]
              have HCL := Lib.hid hcl
              have HCX := Lib.hid hcx
              clear hv e0 hc5 hx hxe hrep hl hcl hcx
              generalize lx[a].length = ll at *
              go_wp2
              go_loopg [8] (ll + 2) (fun gk v wz => ∃ (j : Nat), v = .int .i64 j ∧ j ≤ ll + 2 ∧ gk = (ll + 2) - j ∧ wz = w8)
              case atStart => exact ⟨0, rfl, Nat.zero_le _, by omega, rfl⟩
              case round =>
                obtain ⟨j, rfl, hj, hgj, hwz⟩ := hrel
                have HG2 := Lib.hid hgj
                clear hgj
                obtain rfl : w8 = wr := hwz.symm
                by_cases hlt3 : j < ll + 2
                · have y0 := HCX.out j hlt3
                  by_cases hlt4 : j < ll
                  · obtain ⟨b, o, hAi, hcc⟩ := HCL.out j hlt4
                    have y1 := hcc j hlt4
                    subst hAi
                    clear hcc
                    go_wp2
                    go_roundg (ll + 2 - (j + 1))
                    case measure => have := HG2.out; omega
                    case rel => exact ⟨j + 1, by go_num, by omega, rfl, rfl⟩
                  · go_wp2
                    go_roundg (ll + 2 - (j + 1))
                    case measure => have := HG2.out; omega
                    case rel => exact ⟨j + 1, by go_num, by omega, rfl, rfl⟩
                · obtain rfl : j = ll + 2 := by omega
                  go_wp2
                  go_roundg (p - (a + 1))
                  case measure => have := HG.out; omega
                  case rel => exact ⟨a + 1, by go_num, by omega, rfl, rfl⟩
            · obtain rfl : a = p := by omega
              go_wp2
              go_ret
              exact ⟨rfl, HBL.out, HFR.out⟩
end Go.Proofs.Ytefpglaipnnggaa
