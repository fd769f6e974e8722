/- The depth of each line: the program's walk. | Facts that are well formed: the program's look at a constant. | Facts that are well formed: both looks. -/
import Derived.Test.YtjcgkplphiedjaaDoorTG6
import Derived.Test.YtjcgkplphiedjaaDoorTG2
namespace Go.Proofs.YtjcgkplphiedjaaDoorT
open Go.RowKit Go.Sort

theorem set_mid {α : Type} (a b : List α) (x y : α) : (a ++ x :: b).set a.length y = a ++ y :: b := by
  induction a with
  | nil => rfl
  | cons c a ih => simp [ih]
theorem icells_set (l : List Int) (k : Nat) (d : Int) : (icells l).set k (.int .i64 d) = icells (l.set k d) := by
  induction l generalizing k with
  | nil => rfl
  | cons a l ih =>
    cases k with
    | zero => rfl
    | succ k =>
      have := ih k
      simp only [icells, List.map_cons, List.set_cons_succ] at this ⊢
      rw [this]
theorem own_mk1 {w : World} {base e g n : Nat} {xs : List Value} (hb : base ≤ g) (hg : Blk w g e xs) (hl : xs.length = n) (hc : n ≤ maxLen) : w.ownsRow base e 1 (.slice (some ⟨g, 0, none⟩) n n) n xs :=
  ⟨by rw [hl, Nat.mul_one], .inr ⟨g, n, xs.toArray, rfl, hb, hg, Nat.le_refl _, hc, by simp [hl], by rw [Nat.mul_one, ← hl]; simp⟩⟩

set_option maxRecDepth 20000 in
set_option maxHeartbeats 8000000 in
theorem depth_why (A : Option Addr) (n c : Nat) (ls : List Ln) (w : World) (hr : Rd w w.heap.size 5 A n (ncells ls)) (hok : ∀ x ∈ ls, Ln.ok w x) (hn : (n + 1) * 96 ≤ 140737488351232) :
    Calls Tryd.prog 12 #[.slice A n c] w fun e w' => DepthSaid ls w.heap.size e w' ∧ Below w.heap.size w w' := by
  obtain ⟨k0, hki, hk0, hk1', hk2⟩ := info_parts Tryd.info3
  have HL := Lib.hid hr
  have HK := Lib.hid hok
  have hmb := hr.2.1
  have hlen : ls.length = n := by have := hr.1; rw [ncells_length] at this; omega
  have HN := Lib.hid hlen
  clear hr hok hlen
  have mk3 : ∀ W : World, (Instr.makeSlice 27 (.int .i64 (n : Int)) (.int .i64 (n : Int))).run Tryd.prog W = .ok (.slice (some ⟨W.heap.size, 0, none⟩) n n) (W.alloc (.cells (icells (List.replicate n 0)).toArray 3)) := fun W => by
    rw [run_make_rowN 27 3 k0 _ Tryd.underlying27 hki hk0 _ _ n n (Nat.le_refl _) (by rw [hk2]; omega) (by omega) W, hk1', made_one _ rfl]
    simp [icells]
  go_enter Tryd.func12, Tryd.ntmps12
  go_upto_region 2 with (fail)
  have HB2 : Hid (Below w.heap.size w (w.alloc (.cells (icells (List.replicate n 0)).toArray 3))) := Lib.hid ((Below.refl _ _).alloc (Nat.le_refl _) _)
  have HV2 := Lib.hid (Blk.new w 3 (icells (List.replicate n 0)))
  generalize World.alloc _ _ = w2 at *
  generalize hR : w.heap.size = R at *
  have HRR := Lib.hid hR
  clear hR mk3
  go_upto_region 3 with (fail)
  go_loopg [14] n (fun gk u14 wr => ∃ (i : Nat) (acc : List Int), u14 = .int .i64 i ∧ i ≤ n ∧ Hid (gk = n - i) ∧ Hid (Below R w wr) ∧ acc.length = i ∧ Hid (Blk wr R 3 (icells (acc ++ List.replicate (n - i) 0))) ∧ Hid (depthL (ls.take i) [] = some acc))
  case atStart => exact ⟨0, [], rfl, Nat.zero_le _, Lib.hid (by omega), HB2, rfl, HV2, Lib.hid rfl⟩
  case round =>
    clear HB2 HV2
    obtain ⟨i, acc, rfl, hi, HG, HB, hai, HV, HD⟩ := hrel
    have HLO := Lib.hid (lowD_all _ _ _ (by intro d hd; cases hd) HD.out)
    have hRl := HV.out.lt
    by_cases hlt : i < n
    · obtain ⟨b1, o1, hk1, rfl, hb1, hc⟩ := (HL.out.below HB.out).at Ln.cells 5 (fun _ => rfl) (by omega) i hlt
      have c0 := hc 0 _ (by omega) rfl
      have c1 := hc 1 _ (by omega) rfl
      have c2 := hc 2 _ (by omega) rfl
      have c3 := hc 3 _ (by omega) rfl
      have c4 := hc 4 _ (by omega) rfl
      rw [Nat.add_zero] at c0
      clear hc
      have hx := (HK.out ls[i] (List.getElem_mem hk1)).f
      rw [HRR.out] at hx
      have HSN := Lib.hid (depthL_snoc hk1 HD.out)
      have HDN : Hid (stepD acc ls[i] = none → depthL ls [] = none) := Lib.hid (depthL_none hk1 HD.out)
      generalize ls[i] = x at *
      have HF := Lib.hid hx
      have HSD : Hid (stepD acc x = if x.r = -1 then some 0 else (deepN acc i x.fs 0).map (· + 1)) := Lib.hid (by unfold stepD; rw [hai])
      clear hx HD
      obtain ⟨xp, xA, xn, xc, xr, xB, xm, xd, xF, xk, xe, xxs, xss, xfs⟩ := x
      dsimp only at c0 c1 c2 c3 c4 HF HSD
      have hfl : xfs.length = xk := by have := HF.out.1; rw [icells_length] at this; omega
      have hxb := HF.out.2.1
      go_upto_region 5 with (fail)
      have HBA := Lib.hid ((Below.refl wr.heap.size wr).alloc (Nat.le_refl _) (.cells #[.string xp, .slice xA xn xc, .int .i64 xr, .slice xB xm xd, .slice xF xk xe] 66))
      have HX := Lib.hid (Blk.new wr 66 [.string xp, .slice xA xn xc, .int .i64 xr, .slice xB xm xd, .slice xF xk xe])
      have HVa := Lib.hid (HV.out.below HBA.out hRl)
      have HBa := Lib.hid (HB.out.trans (HBA.out.mono (Nat.le_of_lt hRl)))
      have hrep : List.replicate (n - i) (0 : Int) = 0 :: List.replicate (n - (i + 1)) 0 := by rw [show n - i = (n - (i + 1)) + 1 by omega, List.replicate_succ]
      rw [hrep] at HVa
      clear hrep c0 c1 c2 c3 c4 HBA HV HB
      generalize World.alloc _ _ = wa at *
      generalize wr.heap.size = Z at *
      have x2 := (HX.out.cell 2).trans rfl
      have x4 := (HX.out.cell 4).trans rfl
      by_cases hg : xr = -1
      · subst hg
        have V7 : Hid (Blk wa R 3 (icells ((acc ++ [0]) ++ List.replicate (n - (i + 1)) 0))) := Lib.hid (by simpa using HVa.out)
        have D7 : Hid (depthL (ls.take (i + 1)) [] = some (acc ++ [0])) := Lib.hid (by rw [HSN.out, HSD.out]; rfl)
        clear HX HVa
        go_wp2
        go_roundg (n - (i + 1))
        case measure => have := HG.out; omega
        case rel => exact ⟨i + 1, acc ++ [0], by go_num, by omega, Lib.hid rfl, HBa, by simp [hai], V7, D7⟩
      · have hgd : (xr == -1) = false := by simpa using hg
        have q0 : wa.cell? ⟨R, i, none⟩ = some (.int .i64 0) := (HVa.out.cell i).trans (by
          rw [icells_append, List.getElem?_append_right (by rw [icells_length]; omega), icells_length, hai, Nat.mul_one, Nat.sub_self]; rfl)
        have q1 := HVa.out.frozen i
        have q2 := HVa.out.lt
        go_upto_region 7 with (fail)
        have HV1 : Hid (Blk (wa.setCell ⟨R, i, none⟩ (.int .i64 1)) R 3 (icells (acc ++ 1 :: List.replicate (n - (i + 1)) 0))) := Lib.hid (by
          have h := HVa.out.set_ i (.int .i64 1)
          rw [icells_set] at h
          have e := set_mid acc (List.replicate (n - (i + 1)) 0) (0 : Int) 1
          rw [hai] at e
          rw [e] at h
          exact h)
        have HX1 := Lib.hid (HX.out.far (p := ⟨R, i, none⟩) (by simp; omega) (.int .i64 1))
        have HB1 := Lib.hid (HBa.out.setCell (p := ⟨R, i, none⟩) (Nat.le_refl _) (.int .i64 1))
        clear HVa HX HBa x2 x4 q0 q1 q2
        generalize World.setCell _ _ _ = w1 at *
        have x4 := (HX1.out.cell 4).trans rfl
        go_upto_region 8 with (fail)
        clear x4
        go_loopg [28] xk (fun gj u28 wj => ∃ (j : Nat) (d : Int), u28 = .int .i64 j ∧ j ≤ xk ∧ Hid (gj = xk - j) ∧ Hid (Below R w wj) ∧ 0 ≤ d ∧ d ≤ (i : Int) ∧ Hid (Blk wj R 3 (icells (acc ++ (d + 1) :: List.replicate (n - (i + 1)) 0))) ∧ Hid (deepN acc i (xfs.take j) 0 = some d))
        case atStart => exact ⟨0, 0, rfl, Nat.zero_le _, Lib.hid (by omega), HB1, by omega, by omega, HV1, Lib.hid rfl⟩
        case round =>
          clear hRl HB1 HV1 HX1
          obtain ⟨j, d, rfl, hj, HJ, HBj, hd0, hd1, HVj, HDD⟩ := hrel
          by_cases hjl : j < xk
          · obtain ⟨b2, o2, hj2, rfl, hb2, f0⟩ := (HF.out.below HBj.out).ints j hjl
            have HTJ := Lib.hid (take_snoc xfs j hj2)
            have HTD : Hid (xfs = xfs.take j ++ (xfs[j] :: xfs.drop (j + 1))) := Lib.hid (by rw [List.getElem_cons_drop, List.take_append_drop])
            generalize xfs[j] = q at *
            by_cases hq0 : q < 0
            · have tq : decide (q < 0) = true := decide_eq_true hq0
              have hbad : deepN acc i xfs 0 = none := by
                rw [HTD.out, deepN_append, HDD.out]
                show deepN acc i (q :: xfs.drop (j + 1)) d = none
                rw [deepN, if_neg (by omega)]
              have hnone := HDN.out (by rw [HSD.out, if_neg hg, hbad]; rfl)
              have HNO := Lib.hid hnone
              clear hbad hnone
              go_wp2
              go_ret2
              exact ⟨⟨_, 2, [], rfl, World.ownsRow_nil _ _ _ _, .inr ⟨HNO.out, rfl, rfl⟩⟩, by rw [HRR.out]; exact HBj.out⟩
            · have tq : decide (q < 0) = false := decide_eq_false hq0
              by_cases hq1 : (i : Int) ≤ q
              · have tq1 : decide (q ≥ (i : Int)) = true := decide_eq_true hq1
                have hbad : deepN acc i xfs 0 = none := by
                  rw [HTD.out, deepN_append, HDD.out]
                  show deepN acc i (q :: xfs.drop (j + 1)) d = none
                  rw [deepN, if_neg (by omega)]
                have hnone := HDN.out (by rw [HSD.out, if_neg hg, hbad]; rfl)
                have HNO := Lib.hid hnone
                clear hbad hnone
                go_wp2
                go_ret2
                exact ⟨⟨_, 2, [], rfl, World.ownsRow_nil _ _ _ _, .inr ⟨HNO.out, rfl, rfl⟩⟩, by rw [HRR.out]; exact HBj.out⟩
              · have tq1 : decide (q ≥ (i : Int)) = false := decide_eq_false hq1
                obtain ⟨m, rfl⟩ : ∃ m : Nat, q = m := ⟨q.toNat, by omega⟩
                have hm3 : m < acc.length := by omega
                have hlow := HLO.out acc[m] (List.getElem_mem hm3)
                have HNX : Hid (deepN acc i (xfs.take (j + 1)) 0 = some (max d acc[m])) := Lib.hid (by
                  rw [HTJ.out, deepN_append, HDD.out]
                  show deepN acc i [(m : Int)] d = _
                  rw [deepN, if_pos (by omega), deepN, Int.toNat_natCast, List.getD_eq_getElem?_getD, List.getElem?_eq_getElem hm3, Option.getD_some])
                have p0 : wr.cell? ⟨R, i, none⟩ = some (.int .i64 (d + 1)) := (HVj.out.cell i).trans (by
                  rw [icells_append, List.getElem?_append_right (by rw [icells_length]; omega), icells_length, hai, Nat.mul_one, Nat.sub_self]; rfl)
                have p1 : wr.cell? ⟨R, m, none⟩ = some (.int .i64 acc[m]) := (HVj.out.cell m).trans (by
                  rw [icells_append, List.getElem?_append_left (by rw [icells_length]; omega)]; simp [icells, List.getElem?_eq_getElem hm3])
                have p2 := HVj.out.frozen i
                have p3 := HVj.out.lt
                generalize acc[m] = e at *
                have hmn : m < n := by omega
                go_upto_region 12 with (fail)
                go_region
                have hv : (if d < e then e + 1 else d + 1) = max d e + 1 := by split <;> omega
                rw [hv]
                have HVn : Hid (Blk (wr.setCell ⟨R, i, none⟩ (.int .i64 (max d e + 1))).drew R 3 (icells (acc ++ (max d e + 1) :: List.replicate (n - (i + 1)) 0))) := Lib.hid (by
                  have h := HVj.out.set_ i (.int .i64 (max d e + 1))
                  rw [icells_set] at h
                  have e1 := set_mid acc (List.replicate (n - (i + 1)) 0) (d + 1) (max d e + 1)
                  rw [hai] at e1
                  rw [e1] at h
                  exact h)
                have HBn : Hid (Below R w (wr.setCell ⟨R, i, none⟩ (.int .i64 (max d e + 1))).drew) := Lib.hid (HBj.out.setCell (p := ⟨R, i, none⟩) (Nat.le_refl _) (.int .i64 (max d e + 1))).drew
                clear HVj HBj p0 p1 p2 p3
                generalize World.drew _ = wn at *
                go_wp2
                go_roundg (xk - (j + 1))
                case measure => have := HJ.out; omega
                case rel => exact ⟨j + 1, max d e, by go_num, by omega, Lib.hid rfl, HBn, by omega, by omega, HVn, HNX⟩
          · obtain rfl : j = xk := by omega
            have hall : xfs.take j = xfs := List.take_of_length_le (by omega)
            rw [hall] at HDD
            have V7 : Hid (Blk wr R 3 (icells ((acc ++ [d + 1]) ++ List.replicate (n - (i + 1)) 0))) := Lib.hid (by simpa using HVj.out)
            have D7 : Hid (depthL (ls.take (i + 1)) [] = some (acc ++ [d + 1])) := Lib.hid (by rw [HSN.out, HSD.out, if_neg hg, HDD.out]; rfl)
            go_wp2
            go_roundg (n - (i + 1))
            case measure => have := HG.out; omega
            case rel => exact ⟨i + 1, acc ++ [d + 1], by go_num, by omega, Lib.hid rfl, HBj, by simp [hai], V7, D7⟩
    · obtain rfl : i = n := by omega
      have hall : ls.take i = ls := List.take_of_length_le (by have := HN.out; omega)
      rw [hall] at HD
      rw [Nat.sub_self, List.replicate_zero, List.append_nil] at HV
      have HOW := Lib.hid (own_mk1 (n := i) (Nat.le_refl R) HV.out (by rw [icells_length, Nat.mul_one]; exact hai) (by unfold maxLen; omega))
      go_wp2
      go_ret2
      exact ⟨⟨_, 0, acc, rfl, by rw [HRR.out, hai]; exact HOW.out, .inl ⟨HD.out, rfl⟩⟩, by rw [HRR.out]; exact HB.out⟩
end Go.Proofs.YtjcgkplphiedjaaDoorT

namespace Go.Proofs.YtjcgkplphiedjaaDoorT
open Go.RowKit Go.Sort

def validK (z : Cn) : Bool := validC z.k z.i z.t
/-- A fact that can be written: a name, at most eight constants. -/
def wellF (p : ByteArray) (xs : List Cn) : Bool := isNameS p && decide (xs.length ≤ 8) && xs.all validK
def fineK (z : Cn) : Prop := z.t.size ≤ 9223372036854775807

set_option maxHeartbeats 4000000 in
theorem wellConstK (z : Cn) (hb : fineK z) (w : World) :
    Calls Tryd.prog 83 #[.agg z.cells.toArray] w fun e w' => e = .returned (.int .i64 (if validK z = true then 0 else 5)) ∧ Below w.heap.size w w' := by
  obtain ⟨k, i, t⟩ := z
  show Calls Tryd.prog 83 #[.agg #[.int .i64 k, .int .i64 i, .string t]] w fun e w' => e = .returned (.int .i64 (if validC k i t = true then 0 else 5)) ∧ Below w.heap.size w w'
  cases hv : validC k i t with
  | true =>
    show Calls Tryd.prog 83 #[.agg #[.int .i64 k, .int .i64 i, .string t]] w fun e w' => e = .returned (.int .i64 0) ∧ Below w.heap.size w w'
    have hV := valid_sym k i t hb
    rw [hv] at hV
    have HV := Lib.hid hV
    clear hV hv hb
    go_enter Tryd.func83, Tryd.ntmps83
    go_upto_region 1 with (fail)
    have hb1 := (Below.refl w.heap.size w).alloc (Nat.le_refl _) (.cells #[.int .i64 k, .int .i64 i, .string t] 68)
    have h1 := Blk.new w 68 [.int .i64 k, .int .i64 i, .string t]
    generalize World.alloc _ _ = w1 at *
    generalize hR : w.heap.size = R at *
    have HRR := Lib.hid hR
    clear hR
    have f0 := (h1.cell 0).trans rfl
    have f1 := (h1.cell 1).trans rfl
    have f2 := (h1.cell 2).trans rfl
    have hs : R ≤ w1.heap.size := Nat.le_of_lt h1.lt
    have HB := Lib.hid hb1
    clear h1 hb1
    go_wp2_with fail
    refine (HV.out w1).mono ?_
    rintro e w2 ⟨rfl, hb2⟩
    have HB2 := Lib.hid (HB.out.trans (hb2.mono hs))
    clear hb2 HB HV f0 f1 f2
    go_wp2
    go_ret
    exact ⟨rfl, by rw [HRR.out]; exact HB2.out⟩
  | false =>
    show Calls Tryd.prog 83 #[.agg #[.int .i64 k, .int .i64 i, .string t]] w fun e w' => e = .returned (.int .i64 5) ∧ Below w.heap.size w w'
    have hV := valid_sym k i t hb
    rw [hv] at hV
    have HV := Lib.hid hV
    clear hV hv hb
    go_enter Tryd.func83, Tryd.ntmps83
    go_upto_region 1 with (fail)
    have hb1 := (Below.refl w.heap.size w).alloc (Nat.le_refl _) (.cells #[.int .i64 k, .int .i64 i, .string t] 68)
    have h1 := Blk.new w 68 [.int .i64 k, .int .i64 i, .string t]
    generalize World.alloc _ _ = w1 at *
    generalize hR : w.heap.size = R at *
    have HRR := Lib.hid hR
    clear hR
    have f0 := (h1.cell 0).trans rfl
    have f1 := (h1.cell 1).trans rfl
    have f2 := (h1.cell 2).trans rfl
    have hs : R ≤ w1.heap.size := Nat.le_of_lt h1.lt
    have HB := Lib.hid hb1
    clear h1 hb1
    go_wp2_with fail
    refine (HV.out w1).mono ?_
    rintro e w2 ⟨rfl, hb2⟩
    have HB2 := Lib.hid (HB.out.trans (hb2.mono hs))
    clear hb2 HB HV f0 f1 f2
    go_wp2
    go_ret
    exact ⟨rfl, by rw [HRR.out]; exact HB2.out⟩
end Go.Proofs.YtjcgkplphiedjaaDoorT

namespace Go.Proofs.YtjcgkplphiedjaaDoorT
open Go.RowKit Go.Sort

set_option maxHeartbeats 4000000 in
theorem firstK (A : Option Addr) (n c : Nat) (l : List Cn) (w : World) (hr : Rd w w.heap.size 3 A n (kcells l)) (hf : ∀ z ∈ l, fineK z) :
    Calls Tryd.prog 82 #[.slice A n c, .func (.func 83) #[] #[]] w fun e w' => e = .returned (.int .i64 (if l.all validK = true then 0 else 5)) ∧ Below w.heap.size w w' := by
  have hlen : l.length = n := by have := hr.1; rw [kcells_length] at this; omega
  obtain ⟨V, hV⟩ : ∃ V : Int, V = if l.all validK = true then 0 else 5 := ⟨_, rfl⟩
  rw [← hV]
  have HVV := Lib.hid hV
  have HR := Lib.hid hr
  have HF := Lib.hid hf
  have HN := Lib.hid hlen
  have hn := hr.2.1
  clear hr hf hlen hV
  generalize hR : w.heap.size = R at *
  have HRR := Lib.hid hR
  clear hR
  go_enter Tryd.func82, Tryd.ntmps82
  go_upto_region 2 with (fail)
  go_loopg [10] n (fun gk u10 wr => ∃ k : Nat, u10 = .int .i64 k ∧ k ≤ n ∧ Hid (gk = n - k) ∧ Hid (Below R w wr) ∧ Hid (R ≤ wr.heap.size) ∧ Hid ((l.take k).all validK = true))
  case atStart => exact ⟨0, rfl, Nat.zero_le _, Lib.hid (by omega), Lib.hid (Below.refl _ _), Lib.hid (by rw [HRR.out]; exact Nat.le_refl _), Lib.hid rfl⟩
  case round =>
    obtain ⟨k, rfl, hk, HG, HB, HS, HA⟩ := hrel
    by_cases hlt : k < n
    · obtain ⟨b1, o1, hk1, rfl, hb1, hc⟩ := (HR.out.below HB.out).at Cn.cells 3 (fun _ => rfl) (by omega) k hlt
      have c0 := hc 0 _ (by omega) rfl
      have c1 := hc 1 _ (by omega) rfl
      have c2 := hc 2 _ (by omega) rfl
      rw [Nat.add_zero] at c0
      clear hc
      have hz := HF.out l[k] (List.getElem_mem hk1)
      have HTK := Lib.hid (take_snoc l k hk1)
      have HM : Hid (validK l[k] = false → l.all validK = false) := Lib.hid fun h => by
        rw [List.all_eq_false]; exact ⟨l[k], List.getElem_mem hk1, by simp [h]⟩
      generalize l[k] = z at *
      have HW := Lib.hid (wellConstK z hz)
      obtain ⟨zk, zi, zt⟩ := z
      simp only [Cn.cells] at HW
      dsimp only at c0 c1 c2
      go_upto_region 4 with (fail)
      have HBA := Lib.hid ((Below.refl wr.heap.size wr).alloc (Nat.le_refl _) (.cells #[.int .i64 zk, .int .i64 zi, .string zt] 68))
      have HX := Lib.hid (Blk.new wr 68 [.int .i64 zk, .int .i64 zi, .string zt])
      clear c0 c1 c2
      generalize World.alloc _ _ = wa at *
      have HB1 := Lib.hid (HB.out.trans (HBA.out.mono HS.out))
      have hs1 : R ≤ wa.heap.size := Nat.le_trans HS.out HBA.out.size
      clear HBA HB HS
      generalize wr.heap.size = Z at *
      have x0 := (HX.out.cell 0).trans rfl
      have x1 := (HX.out.cell 1).trans rfl
      have x2 := (HX.out.cell 2).trans rfl
      go_wp2_with fail
      refine (HW.out wa).mono ?_
      rintro e w5 ⟨rfl, hb5⟩
      have HB5 := Lib.hid (HB1.out.trans (hb5.mono hs1))
      have HS5 := Lib.hid (Nat.le_trans hs1 hb5.size)
      clear hb5 hs1 HB1 HX x0 x1 x2 HW
      cases hv : validK ⟨zk, zi, zt⟩ with
      | true =>
        have A7 : Hid ((l.take (k + 1)).all validK = true) := Lib.hid (by rw [HTK.out, List.all_append, HA.out]; simp [hv])
        clear hv HM
        rw [if_pos rfl]
        go_wp2
        go_roundg (n - (k + 1))
        case measure => have := HG.out; omega
        case rel => exact ⟨k + 1, by go_num, by omega, Lib.hid rfl, HB5, HS5, A7⟩
      | false =>
        obtain rfl : V = 5 := by rw [HVV.out, HM.out hv]; rfl
        clear hv HM HVV
        rw [if_neg (by decide)]
        go_wp2
        go_ret
        exact ⟨rfl, HB5.out⟩
    · obtain rfl : k = n := by omega
      have hall : l.take k = l := List.take_of_length_le (by have := HN.out; omega)
      rw [hall] at HA
      obtain rfl : V = 0 := by rw [HVV.out, HA.out]; rfl
      go_wp2
      go_ret
      exact ⟨rfl, HB.out⟩
end Go.Proofs.YtjcgkplphiedjaaDoorT
