/- The depth of each line: plain. | The depth of each line: the document's walk. -/
import Derived.Test.YtjcgkplphiedjaaDoorTG5
namespace Go.Proofs.YtjcgkplphiedjaaDoorT
open Go.RowKit Go.Sort

/-- The deepest of the lines that are named; none where one does not lie ahead. -/
def deepN (l : List Int) (i : Nat) : List Int → Int → Option Int
  | [], d => some d
  | n :: r, d => if 0 ≤ n ∧ n < (i : Int) then deepN l i r (max d (l.getD n.toNat 0)) else none
theorem deepN_append (l : List Int) (i : Nat) : ∀ (a b : List Int) (d : Int), deepN l i (a ++ b) d = (deepN l i a d).bind (deepN l i b)
  | [], _, _ => rfl
  | n :: a, b, d => by
    rw [List.cons_append, deepN, deepN]
    by_cases h : 0 ≤ n ∧ n < (i : Int)
    · rw [if_pos h, if_pos h, deepN_append l i a b]
    · rw [if_neg h, if_neg h]; rfl
def stepD (l : List Int) (x : Ln) : Option Int := if x.r = -1 then some 0 else (deepN l l.length x.fs 0).map (· + 1)
def depthL : List Ln → List Int → Option (List Int)
  | [], l => some l
  | x :: r, l => (stepD l x).bind fun d => depthL r (l ++ [d])
theorem depthL_append : ∀ (a b : List Ln) (l : List Int), depthL (a ++ b) l = (depthL a l).bind (depthL b)
  | [], _, _ => rfl
  | x :: a, b, l => by
    rw [List.cons_append, depthL, depthL]
    cases stepD l x with
    | none => rfl
    | some d => exact depthL_append a b (l ++ [d])
theorem depthL_length : ∀ (a : List Ln) (l m : List Int), depthL a l = some m → m.length = l.length + a.length
  | [], l, m, h => by cases h; simp
  | x :: a, l, m, h => by
    rw [depthL] at h
    cases hd : stepD l x with
    | none => rw [hd] at h; cases h
    | some d =>
      rw [hd] at h
      have := depthL_length a (l ++ [d]) m h
      simp only [List.length_append, List.length_cons, List.length_nil] at this ⊢
      omega
/-- Each depth is below the number of lines. -/
def lowD (l : List Int) : Prop := ∀ d ∈ l, 0 ≤ d ∧ d ≤ (l.length : Int)
theorem getD_low {l : List Int} (h : lowD l) (k : Nat) : 0 ≤ l.getD k 0 ∧ l.getD k 0 ≤ (l.length : Int) := by
  rw [List.getD_eq_getElem?_getD]
  cases hk : l[k]? with
  | none => simp
  | some d => exact h d (List.mem_of_getElem? hk)
theorem deepN_low {l : List Int} (h : lowD l) (i : Nat) : ∀ (a : List Int) (d e : Int), 0 ≤ d → d ≤ (l.length : Int) → deepN l i a d = some e → 0 ≤ e ∧ e ≤ (l.length : Int)
  | [], d, e, h0, h1, he => by cases he; exact ⟨h0, h1⟩
  | n :: a, d, e, h0, h1, he => by
    rw [deepN] at he
    split at he
    · have := getD_low h n.toNat
      exact deepN_low h i a _ e (by omega) (by omega) he
    · cases he
theorem lowD_step {l : List Int} {x : Ln} {d : Int} (h : lowD l) (hd : stepD l x = some d) : lowD (l ++ [d]) := by
  intro e he
  rw [List.length_append, List.length_singleton]
  rcases List.mem_append.1 he with he | he
  · have := h e he; omega
  · rw [List.mem_singleton.1 he]
    unfold stepD at hd
    split at hd
    · cases hd; omega
    · cases hn : deepN l l.length x.fs 0 with
      | none => rw [hn] at hd; cases hd
      | some q =>
        rw [hn] at hd
        have := deepN_low h l.length x.fs 0 q (by omega) (by omega) hn
        simp only [Option.map_some, Option.some.injEq] at hd
        omega
theorem lowD_all : ∀ (a : List Ln) (l m : List Int), lowD l → depthL a l = some m → lowD m
  | [], l, m, h, hm => by cases hm; exact h
  | x :: a, l, m, h, hm => by
    rw [depthL] at hm
    cases hd : stepD l x with
    | none => rw [hd] at hm; cases hm
    | some d =>
      rw [hd] at hm
      exact lowD_all a (l ++ [d]) m (lowD_step h hd) hm
theorem depthL_snoc {ls : List Ln} {k : Nat} (hk : k < ls.length) {acc : List Int} (h : depthL (ls.take k) [] = some acc) : depthL (ls.take (k + 1)) [] = (stepD acc ls[k]).map fun d => acc ++ [d] := by
  rw [take_snoc ls k hk, depthL_append, h]
  show depthL [ls[k]] acc = _
  rw [depthL]
  cases stepD acc ls[k] <;> rfl
theorem depthL_none {ls : List Ln} {k : Nat} (hk : k < ls.length) {acc : List Int} (h : depthL (ls.take k) [] = some acc) (hs : stepD acc ls[k] = none) : depthL ls [] = none := by
  have e : ls = ls.take k ++ (ls[k] :: ls.drop (k + 1)) := by rw [List.getElem_cons_drop, List.take_append_drop]
  rw [e, depthL_append, h]
  show depthL (ls[k] :: ls.drop (k + 1)) acc = none
  rw [depthL, hs]; rfl
end Go.Proofs.YtjcgkplphiedjaaDoorT

namespace Go.Proofs.YtjcgkplphiedjaaDoorT
open Go.RowKit Go.Sort

/-- What Depth says: the depths and no fault, or a fault and none. -/
def DepthSaid (ls : List Ln) (R : Nat) (e : Ending) (w' : World) : Prop :=
  ∃ v er m, e = .returned (.tuple #[v, .int .i64 er]) ∧ w'.ownsRow R 3 1 v m.length (icells m) ∧ ((depthL ls [] = some m ∧ er = 0) ∨ (depthL ls [] = none ∧ m = [] ∧ er = 2))

set_option maxRecDepth 20000 in
set_option maxHeartbeats 8000000 in
theorem depth_ref (A : Option Addr) (n c : Nat) (ls : List Ln) (w : World) (hr : Rd w w.heap.size 5 A n (ncells ls)) (hok : ∀ x ∈ ls, Ln.ok w x) (hn : (n + 1) * 96 ≤ 140737488351232) :
    Calls Tryd.prog 10 #[.slice A n c] w fun e w' => DepthSaid ls w.heap.size e w' ∧ Below w.heap.size w w' := by
  obtain ⟨k0, hki, hk0, hk1', hk2⟩ := info_parts Tryd.info3
  have HL := Lib.hid hr
  have HK := Lib.hid hok
  have hmb := hr.2.1
  have hlen : ls.length = n := by have := hr.1; rw [ncells_length] at this; omega
  have HN := Lib.hid hlen
  clear hr hok hlen
  generalize hR : w.heap.size = R at *
  have HRR := Lib.hid hR
  clear hR
  go_enter Tryd.func10, Tryd.ntmps10
  go_upto_region 3 with (fail)
  go_loopg [4, 5] n (fun gk u4 u5 wr => ∃ (i : Nat) (acc : List Int), u5 = .int .i64 i ∧ i ≤ n ∧ Hid (gk = n - i) ∧ Hid (Below R w wr) ∧ Hid (R ≤ wr.heap.size) ∧ acc.length = i ∧ Hid (wr.ownsRow R 3 1 u4 i (icells acc)) ∧ Hid (depthL (ls.take i) [] = some acc))
  case atStart => exact ⟨0, [], rfl, Nat.zero_le _, Lib.hid (by omega), Lib.hid (Below.refl _ _), Lib.hid (by rw [HRR.out]; exact Nat.le_refl _), rfl, Lib.hid (World.ownsRow_nil _ _ _ _), Lib.hid rfl⟩
  case round =>
    obtain ⟨i, acc, rfl, hi, HG, HB, HS, hai, HV, HD⟩ := hrel
    have HLO := Lib.hid (lowD_all _ _ _ (by intro d hd; cases hd) HD.out)
    by_cases hlt : i < n
    · obtain ⟨b1, o1, hk1, rfl, hb1, hc⟩ := (HL.out.below HB.out).at Ln.cells 5 (fun _ => rfl) (by omega) i hlt
      have c2 := hc 2 _ (by omega) rfl
      have c4 := hc 4 _ (by omega) rfl
      clear hc
      have hx : Ln.ok wr ls[i] := (HK.out ls[i] (List.getElem_mem hk1)).up (HRR.out ▸ HB.out)
      have HSN := Lib.hid (depthL_snoc hk1 HD.out)
      have HDN : Hid (stepD acc ls[i] = none → depthL ls [] = none) := Lib.hid (depthL_none hk1 HD.out)
      generalize ls[i] = x at *
      have HF := Lib.hid hx.f
      have HSD : Hid (stepD acc x = if x.r = -1 then some 0 else (deepN acc i x.fs 0).map (· + 1)) := Lib.hid (by unfold stepD; rw [hai])
      clear hx HD
      obtain ⟨xp, xA, xn, xc, xr, xB, xm, xd, xF, xk, xe, xxs, xss, xfs⟩ := x
      dsimp only at c2 c4 HF HSD
      have hfl : xfs.length = xk := by have := HF.out.1; rw [icells_length] at this; omega
      have hxb := HF.out.2.1
      obtain ⟨A4, d4, rfl, hn4⟩ := own_slice HV.out
      by_cases hg : xr = -1
      · subst hg
        have hown := HV.out
        have hRx := HS.out
        go_wp2_with (at_builtin; go_must (refine wpList_append_own _ rfl _ _ 27 rfl R 3 k0 _ 1 8 Tryd.underlying27 hki hk0 hk1' hk2 rfl (by decide) _ _ _ rfl (hown.alloc _) ⟨wr.heap.size, 0, none⟩ 1 1 [.int .i64 0] rfl rfl (fun j u h => new_cells _ _ _ j u h) (ints_one [0]) (by unfold maxLen; omega) (by omega) (by simp; omega) ?_))
        intro v7 w7 hown7 hg7 _
        have BL := Lib.hid ((HB.out.alloc hRx (.cells #[.int .i64 0] 3)).grown hg7 (by simp; omega) (fun q hq => (hown.lt q hq).1))
        have V7 : Hid (w7.ownsRow R 3 1 v7 (i + 1) (icells (acc ++ [0]))) := Lib.hid (by rw [icells_append]; exact hown7)
        have S7 : Hid (R ≤ w7.heap.size) := Lib.hid (Nat.le_trans (by simp; omega) hg7.size)
        have D7 : Hid (depthL (ls.take (i + 1)) [] = some (acc ++ [0])) := Lib.hid (by rw [HSN.out, HSD.out]; rfl)
        clear hown7 hown hg7 HV HB HS c2 c4
        go_wp2
        go_roundg (n - (i + 1))
        case measure => have := HG.out; omega
        case rel => exact ⟨i + 1, acc ++ [0], by go_num, by omega, Lib.hid rfl, BL, S7, by simp [hai], V7, D7⟩
      · have hgd : (xr == -1) = false := by simpa using hg
        have HRA := Lib.hid (own_rd HV.out)
        go_upto_region 9 with (fail)
        go_loopg [6, 7] xk (fun gj u6 u7 wj => ∃ (j : Nat) (d : Int), u6 = .int .i64 d ∧ u7 = .int .i64 j ∧ j ≤ xk ∧ Hid (gj = xk - j) ∧ wj = wr ∧ 0 ≤ d ∧ d ≤ (i : Int) ∧ Hid (deepN acc i (xfs.take j) 0 = some d))
        case atStart => exact ⟨0, 0, rfl, rfl, Nat.zero_le _, Lib.hid (by omega), rfl, by omega, by omega, Lib.hid rfl⟩
        case round =>
          obtain ⟨j, d, rfl, rfl, hj, HJ, rfl, hd0, hd1, HDD⟩ := hrel
          by_cases hjl : j < xk
          · obtain ⟨b2, o2, hj2, rfl, hb2, f0⟩ := HF.out.ints j hjl
            have HTJ := Lib.hid (take_snoc xfs j hj2)
            have HTD : Hid (xfs = xfs.take j ++ (xfs[j] :: xfs.drop (j + 1))) := Lib.hid (by rw [List.getElem_cons_drop, List.take_append_drop])
            generalize xfs[j] = q at *
            by_cases hq0 : q < 0
            · have tq : decide (q < 0) = true := decide_eq_true hq0
              have hbad : deepN acc i xfs 0 = none := by
                rw [HTD.out, deepN_append, HDD.out]
                show deepN acc i (q :: xfs.drop (j + 1)) d = none
                rw [deepN, if_neg (by omega)]
              have hnone := HDN.out (by rw [HSD.out, if_neg hg, hbad]; rfl)
              have HNO := Lib.hid hnone
              clear hbad hnone
              go_wp2
              go_ret2
              exact ⟨⟨_, 2, [], rfl, World.ownsRow_nil _ _ _ _, .inr ⟨HNO.out, rfl, rfl⟩⟩, HB.out⟩
            · have tq : decide (q < 0) = false := decide_eq_false hq0
              by_cases hq1 : (i : Int) ≤ q
              · have tq1 : decide (q ≥ (i : Int)) = true := decide_eq_true hq1
                have hbad : deepN acc i xfs 0 = none := by
                  rw [HTD.out, deepN_append, HDD.out]
                  show deepN acc i (q :: xfs.drop (j + 1)) d = none
                  rw [deepN, if_neg (by omega)]
                have hnone := HDN.out (by rw [HSD.out, if_neg hg, hbad]; rfl)
                have HNO := Lib.hid hnone
                clear hbad hnone
                go_wp2
                go_ret2
                exact ⟨⟨_, 2, [], rfl, World.ownsRow_nil _ _ _ _, .inr ⟨HNO.out, rfl, rfl⟩⟩, HB.out⟩
              · have tq1 : decide (q ≥ (i : Int)) = false := decide_eq_false hq1
                obtain ⟨m, rfl⟩ : ∃ m : Nat, q = m := ⟨q.toNat, by omega⟩
                obtain ⟨b3, o3, hm3, rfl, hb3, f1⟩ := HRA.out.ints m (by omega)
                have hlow := HLO.out acc[m] (List.getElem_mem hm3)
                have HNX : Hid (deepN acc i (xfs.take (j + 1)) 0 = some (max d acc[m])) := Lib.hid (by
                  rw [HTJ.out, deepN_append, HDD.out]
                  show deepN acc i [(m : Int)] d = _
                  rw [deepN, if_pos (by omega), deepN, Int.toNat_natCast, List.getD_eq_getElem?_getD, List.getElem?_eq_getElem hm3, Option.getD_some])
                generalize acc[m] = e at *
                go_wp2
                · go_roundg (xk - (j + 1))
                  case measure => have := HJ.out; omega
                  case rel => exact ⟨j + 1, max d e, by congr 1; omega, by go_num, by omega, Lib.hid rfl, rfl, by omega, by omega, HNX⟩
                · go_roundg (xk - (j + 1))
                  case measure => have := HJ.out; omega
                  case rel => exact ⟨j + 1, max d e, by congr 1; omega, by go_num, by omega, Lib.hid rfl, rfl, by omega, by omega, HNX⟩
          · obtain rfl : j = xk := by omega
            have hall : xfs.take j = xfs := List.take_of_length_le (by omega)
            rw [hall] at HDD
            have hown := HV.out
            have hRx := HS.out
            have HST : Hid (stepD acc ⟨xp, xA, xn, xc, xr, xB, xm, xd, xF, j, xe, xxs, xss, xfs⟩ = some (d + 1)) := Lib.hid (by rw [HSD.out, if_neg hg, HDD.out]; rfl)
            go_wp2_with (at_builtin; go_must (refine wpList_append_own _ rfl _ _ 27 rfl R 3 k0 _ 1 8 Tryd.underlying27 hki hk0 hk1' hk2 rfl (by decide) _ _ _ rfl (hown.alloc _) ⟨wr.heap.size, 0, none⟩ 1 1 [.int .i64 (d + 1)] rfl rfl (fun j u h => new_cells _ _ _ j u h) (ints_one [d + 1]) (by unfold maxLen; omega) (by omega) (by simp; omega) ?_))
            intro v7 w7 hown7 hg7 _
            have BL := Lib.hid ((HB.out.alloc hRx (.cells #[.int .i64 (d + 1)] 3)).grown hg7 (by simp; omega) (fun q hq => (hown.lt q hq).1))
            have V7 : Hid (w7.ownsRow R 3 1 v7 (i + 1) (icells (acc ++ [d + 1]))) := Lib.hid (by rw [icells_append]; exact hown7)
            have S7 : Hid (R ≤ w7.heap.size) := Lib.hid (Nat.le_trans (by simp; omega) hg7.size)
            have D7 : Hid (depthL (ls.take (i + 1)) [] = some (acc ++ [d + 1])) := Lib.hid (by rw [HSN.out, HST.out]; rfl)
            clear hown7 hown hg7 HV HB HS c2 c4 HRA
            go_wp2
            go_roundg (n - (i + 1))
            case measure => have := HG.out; omega
            case rel => exact ⟨i + 1, acc ++ [d + 1], by go_num, by omega, Lib.hid rfl, BL, S7, by simp [hai], V7, D7⟩
    · obtain rfl : i = n := by omega
      have hall : ls.take i = ls := List.take_of_length_le (by have := HN.out; omega)
      rw [hall] at HD
      go_wp2
      go_ret2
      exact ⟨⟨_, 0, acc, rfl, by rw [hai]; exact HV.out, .inl ⟨HD.out, rfl⟩⟩, HB.out⟩
end Go.Proofs.YtjcgkplphiedjaaDoorT
