/- The document's components in order. -/
import Derived.Test.YtefpglaipnnggaaE5
namespace Go.Proofs.Ytefpglaipnnggaa
open Go.RowKit

theorem Tab.later {w wT wr : World} {n k : Nat} {v : Value} {gs : List Nat} {tv : List (List Bool)} (h : Tab w wT n k v gs tv) (hb : Below wT.heap.size wT wr) : Tab w wr n k v gs tv :=
  ⟨h.below.trans (hb.mono h.below.size), own_below h.own hb, h.lg, h.lt, h.ll, fun i hi h2 => (h.row i hi h2).below hb (h.row i hi h2).lt, h.nd, h.ge⟩
theorem own_only {w w' : World} {S : List Nat} {R size n : Nat} {e : TypeId} {v : Value} {xs : List Value} (h : w.ownsRow R e size v n xs) (ho : Only S w.heap.size w w') (hS : ∀ k ∈ S, k < R) : w'.ownsRow R e size v n xs := by
  refine ⟨h.1, ?_⟩
  rcases h.2 with h2 | ⟨g, cap, cur, hv, hg, hc, r⟩
  · exact .inl h2
  · exact .inr ⟨g, cap, cur, hv, hg, (ho.block g (Array.getElem?_eq_some_iff.1 hc).1 (fun hs => by have := hS g hs; omega)).trans hc, r⟩
theorem LL.only {w w' : World} {S : List Nat} {U : Nat} {v : Value} {vs : List Value} {ls : List (List Int)} (h : LL w U v vs ls) (ho : Only S w.heap.size w w') (hS : ∀ k ∈ S, k < U) : LL w' U v vs ls :=
  ⟨own_only h.row ho hS, fun i hi h2 => own_only (h.own i hi h2) ho hS, h.apart⟩
theorem LL.below {w w' : World} {U : Nat} {v : Value} {vs : List Value} {ls : List (List Int)} (h : LL w U v vs ls) (hb : Below w.heap.size w w') : LL w' U v vs ls :=
  h.only (S := []) (Only.of_below hb) (by simp)
theorem LL.le {w : World} {U B : Nat} {v : Value} {vs : List Value} {ls : List (List Int)} (h : LL w U v vs ls) (hb : B ≤ U) : LL w B v vs ls :=
  ⟨own_le h.row hb, fun i hi h2 => own_le (h.own i hi h2) hb, h.apart⟩
theorem LL.len {w : World} {U : Nat} {v : Value} {vs : List Value} {ls : List (List Int)} (h : LL w U v vs ls) : vs.length = ls.length := by have := h.row.1; omega
theorem LL.push {w1 w2 : World} {U : Nat} {v v' x : Value} {vs : List Value} {ls : List (List Int)} {l : List Int} (h : LL w1 U v vs ls) (hx : w1.ownsRow U 3 1 x l.length (icells l)) (hap : ∀ i, (hi : i < vs.length) → vs[i].ownBlock = x.ownBlock → x.ownBlock = none)
    (hg : w1.grownBy w2 v.ownBlock) (ho : w2.ownsRow U 37 1 v' (ls.length + 1) (vs ++ [x])) : LL w2 U v' (vs ++ [x]) (ls ++ [l]) := by
  have hl := h.len
  refine ⟨by rw [List.length_append]; exact ho, fun i hi h2 => ?_, fun i j hi hj hne he => ?_⟩
  · by_cases e : i < vs.length
    · simp only [List.getElem_append_left e, List.getElem_append_left (show i < ls.length by omega)]
      exact own_kept_types (h.own i e (by omega)) h.row (by decide) hg
    · have : i = vs.length := by simp at hi; omega
      subst this
      rw [List.getElem_append_right (by omega), List.getElem_append_right (by omega)]
      simp only [hl, Nat.sub_self, List.getElem_singleton]
      exact own_kept_types hx h.row (by decide) hg
  · have key : ∀ i, (hi : i < (vs ++ [x]).length) → (∃ h : i < vs.length, (vs ++ [x])[i] = vs[i]) ∨ (i = vs.length ∧ (vs ++ [x])[i] = x) := fun i hi => by
      by_cases e : i < vs.length
      · exact .inl ⟨e, List.getElem_append_left e⟩
      · have : i = vs.length := by simp at hi; omega
        exact .inr ⟨this, by rw [List.getElem_append_right (by omega)]; simp⟩
    rcases key i hi with ⟨h1, e1⟩ | ⟨h1, e1⟩ <;> rcases key j hj with ⟨h2, e2⟩ | ⟨h2, e2⟩
    · rw [e1, e2] at he
      rw [e1]; exact h.apart i j h1 h2 hne he
    · rw [e1, e2] at he
      rw [e1, he]; exact hap i h1 he
    · rw [e1, e2] at he
      rw [e1]; exact hap j h2 he.symm
    · omega

open Classical in
/-- How many are not told. -/
noncomputable def untold (n : Nat) (out : List (List Int)) : Nat := ((ps n).filter (fun v => decide (¬ Told out v))).length
theorem told_snoc {out : List (List Int)} {l : List Int} {v : Int} : Told (out ++ [l]) v ↔ Told out v ∨ v ∈ l := by
  simp only [Told, List.mem_append, List.mem_singleton]
  constructor
  · rintro ⟨a, h | rfl, h1⟩
    · exact .inl ⟨a, h, h1⟩
    · exact .inr h1
  · rintro (⟨a, h, h1⟩ | h1)
    · exact ⟨a, .inl h, h1⟩
    · exact ⟨l, .inr rfl, h1⟩
theorem untold_lt {n : Nat} {out : List (List Int)} {l : List Int} {a : Int} (ha : Vx n a) (h : ¬ Told out a) (hl : a ∈ l) : untold n (out ++ [l]) < untold n out := by
  unfold untold
  refine filter_lt _ _ _ (fun x _ hx => ?_) ⟨a, mem_ps.2 ha, by simpa using h, ?_⟩
  · simp only [decide_eq_true_eq, told_snoc] at hx ⊢
    exact fun ht => hx (.inl ht)
  · simp only [decide_eq_false_iff_not, Classical.not_not, told_snoc]
    exact .inr hl
open Classical in
theorem cls_succ {n : Nat} {E : Int → Int → Prop} {p : Int} : cls (n + 1) E p = if Scc E p n then cls n E p ++ [(n : Int)] else cls n E p := by
  unfold cls
  rw [ps_succ, List.filter_append]
  by_cases h : Scc E p n <;> simp [h]
theorem mem_cls {n : Nat} {E : Int → Int → Prop} {p q : Int} : q ∈ cls n E p ↔ Vx n q ∧ Scc E p q := by
  simp [cls, mem_ps]

set_option maxRecDepth 20000 in
set_option maxHeartbeats 4000000 in
theorem refComps_any (A : Option Addr) (m c n : Nat) (es : List E) (w : World) (hr : Rd w w.heap.size 4 A m (ecells es)) (hf : Fits n es) :
    Calls Try.prog 28 #[.int .i64 n, .slice A m c] w fun e w' => ∃ v vs ls, e = .returned (.tuple #[v, .int .i64 0]) ∧ Below w.heap.size w w' ∧ LL w' w.heap.size v vs ls ∧ Done n es ls := by
  obtain ⟨i0, hi, hz0, hz1, hz2⟩ := info_parts Try.info3
  obtain ⟨i1, hi', hz0', hz1', hz2'⟩ := info_parts Try.info37
  obtain ⟨i2, hi2, hb0, hb1, hb2⟩ := info_parts Try.info4
  have hn : n ≤ 128 := by have := hf.2.1; omega
  have HR := Lib.hid hr
  have HF := Lib.hid hf
  have hfit := (fitB_iff n es).2 hf
  clear hr hf
  go_enter Try.func28, Try.ntmps28
  go_wp2_with fail
  refine (refFit_any n A m c es _ HR.out).mono ?_
  rintro e w1 ⟨rfl, rfl⟩
  rw [hfit]
  clear hfit
  go_wp2_with fail
  refine (refReach_any A m c n es _ HR.out HF.out).mono ?_
  rintro e wT ⟨v6, gs, tv, rfl, hT, htg⟩
  have HT := Lib.hid hT
  have HTG := Lib.hid htg
  have HBT := Lib.hid hT.below
  clear hT htg
  have mk4 : ∀ W : World, (Instr.makeSlice 52 (.int .i64 (n : Int)) (.int .i64 (n : Int))).run Try.prog W = .ok (.slice (some ⟨W.heap.size, 0, none⟩) n n) (W.alloc (.cells (bcells (List.replicate n false)).toArray 4)) := fun W => by
    rw [run_make_rowN 52 4 i2 _ Try.underlying52 hi2 hb0 _ _ n n (Nat.le_refl _) (by rw [hb2]; omega) (by omega) W, hb1, made_one _ rfl]
    simp [bcells]
  go_upto_region 5 with (fail)
  have HB0 : Hid (Below wT.heap.size wT (wT.alloc (.cells (bcells (List.replicate n false)).toArray 4))) := Lib.hid ((Below.refl _ _).alloc (Nat.le_refl _) _)
  have HT0 := Lib.hid (Blk.new wT 4 (bcells (List.replicate n false)))
  generalize World.alloc _ _ = w2 at *
  generalize hZ0 : wT.heap.size = Z0 at *
  have HZ0 := Lib.hid hZ0
  have HwZ : Hid (w.heap.size ≤ Z0) := Lib.hid (by have := HBT.out.size; omega)
  clear hZ0
  go_wp2
  go_loopg [9, 8] (untold n [] * (n + 2) + n) (fun gk v9 v8 wr => ∃ (a : Nat) (out : List (List Int)) (vs : List Value) (tl : List Bool), v9 = .int .i64 a ∧ a ≤ n ∧ Hid (gk = untold n out * (n + 2) + (n - a)) ∧ Hid (Below Z0 wT wr) ∧ Hid (Blk wr Z0 4 (bcells tl)) ∧ Hid (tl.length = n ∧ ∀ x, Vx n x → (tl1 tl x = true ↔ Told out x)) ∧
    Hid (LL wr (Z0 + 1) v8 vs out) ∧ Hid (Steps n es out) ∧ Hid (out.length + untold n out ≤ n) ∧ Hid (∀ x : Int, 0 ≤ x → x < a → ¬ Ready n es (Told out) x))
  case atStart => exact ⟨0, [], [], _, rfl, Nat.zero_le _, Lib.hid (by omega), HB0, HT0, Lib.hid ⟨by simp, fun x hx => by simp [tl1, List.getD_eq_getElem?_getD, List.getElem?_replicate, Told]; split <;> simp⟩, Lib.hid ⟨World.ownsRow_nil _ _ _ _, fun i hi => by simp at hi, fun i j hi => by simp at hi⟩, Lib.hid .nil, Lib.hid (by have h : untold n [] ≤ (ps n).length := List.length_filter_le _ _; rw [ps_length] at h; simpa using h), Lib.hid (fun x h0 h1 => by omega)⟩
  case round =>
    clear HB0 HT0 mk4
    obtain ⟨a, out, vs, tl, rfl, ha, HG, HB, HTB, HTL, HLL, HST, HUL, HNR⟩ := hrel
    by_cases hlt : a < n
    · have hva : Vx (n : Int) (a : Int) := ⟨by omega, by omega⟩
      have t0 : wr.cell? ⟨Z0, a, none⟩ = some (.bool (tl1 tl a)) := by
        refine (HTB.out.cell a).trans ?_
        unfold bcells tl1
        rw [List.getElem?_map, Int.toNat_natCast, List.getD_eq_getElem?_getD, List.getElem?_eq_getElem (by have := HTL.out.1; omega)]; rfl
      have HNX : Hid (¬ Ready n es (Told out) a → ∀ x : Int, 0 ≤ x → x < ((a + 1 : Nat) : Int) → ¬ Ready n es (Told out) x) := Lib.hid fun hna x h0 h1 => by
        by_cases e : x = a
        · rw [e]; exact hna
        · exact HNR.out x h0 (by omega)
      cases htl : tl1 tl a with
      | true =>
        rw [htl] at t0
        have HX := Lib.hid (HNX.out (fun h => h.2.1 ((HTL.out.2 a hva).1 htl)))
        clear htl
        go_wp2
        go_roundg (untold n out * (n + 2) + (n - (a + 1)))
        case measure => have := HG.out; omega
        case rel => exact ⟨a + 1, out, vs, tl, by go_num, by omega, Lib.hid rfl, HB, HTB, HTL, HLL, HST, HUL, HX⟩
      | false =>
        rw [htl] at t0
        have HNT : Hid (¬ Told out a) := Lib.hid fun h => by rw [(HTL.out.2 a hva).2 h] at htl; cases htl
        clear htl
        go_wp2_with fail
        refine (ready_any (HT.out.later (by rw [HZ0.out]; exact HB.out)) A m c Z0 es (HR.out.up (HBT.out.trans (HB.out.mono HwZ.out)) (by have := HB.out.size; have := HZ0.out; have := HwZ.out; omega)) HF.out tl HTB.out HTL.out.1 a hlt).mono ?_
        rintro e w3 ⟨rfl, hw3⟩
        obtain rfl : wr = w3 := hw3.symm
        cases hbad : es.any (badE tv tl a) with
        | true =>
          have HX := Lib.hid (HNX.out (fun h => by rw [(ready_iff HF.out HTG.out HTL.out.2 hva HNT.out).2 h] at hbad; cases hbad))
          clear hbad
          go_wp2
          go_roundg (untold n out * (n + 2) + (n - (a + 1)))
          case measure => have := HG.out; omega
          case rel => exact ⟨a + 1, out, vs, tl, by go_num, by omega, Lib.hid rfl, HB, HTB, HTL, HLL, HST, HUL, HX⟩
        | false =>
          have HRD := Lib.hid ((ready_iff HF.out HTG.out HTL.out.2 hva HNT.out).1 hbad)
          clear hbad
          go_wp2
          obtain ⟨wI, hwI⟩ : ∃ x, x = wr := ⟨wr, rfl⟩
          subst hwI
          have HZ : Hid (Z0 < wI.heap.size) := Lib.hid HTB.out.lt
          generalize hZe : wI.heap.size = Z at *
          have HZe := Lib.hid hZe
          clear hZe t0
          go_loopg [11, 10] n (fun gk v11 v10 wr => ∃ (b : Nat) (l : List Int) (tl' : List Bool), v11 = .int .i64 b ∧ b ≤ n ∧ gk = n - b ∧ Hid (Only [Z0] Z wI wr) ∧ Hid (Blk wr Z0 4 (bcells tl')) ∧ Hid (tl'.length = n ∧ ∀ x, Vx n x → (tl1 tl' x = true ↔ Told out x ∨ (x < b ∧ Scc (Eg es) a x))) ∧
            Hid (wr.ownsRow Z 3 1 v10 l.length (icells l)) ∧ Hid (l = cls b (Eg es) a))
          case atStart => exact ⟨0, [], tl, rfl, Nat.zero_le _, by omega, Lib.hid (Only.refl _ _ _), HTB, Lib.hid ⟨HTL.out.1, fun x hx => by rw [HTL.out.2 x hx]; have := hx.1; constructor; exact .inl; rintro (h | ⟨h, _⟩); exact h; omega⟩, Lib.hid (World.ownsRow_nil _ _ _ _), Lib.hid rfl⟩
          case round =>
            obtain ⟨b, l, tl', rfl, hb, hgb, HO, HTB2, HTL2, HLO, HLE⟩ := hrel
            have HG2 := Lib.hid hgb
            clear hgb
            have HB2 : Hid (Below Z0 wT wr) := Lib.hid (HB.out.trans (HO.out.below (by have := HZ.out; omega) (by simp)))
            by_cases hlt2 : b < n
            · have hvb : Vx (n : Int) (b : Int) := ⟨by omega, by omega⟩
              go_wp2_with fail
              refine (one_any (HT.out.later (by rw [HZ0.out]; exact HB2.out)) a b hlt hlt2).mono ?_
              rintro e w4 ⟨rfl, hw4⟩
              obtain rfl : wr = w4 := hw4.symm
              cases hone : oneB tv a b with
              | false =>
                have hns : ¬ Scc (Eg es) a b := fun h => by rw [(oneB_iff HTG.out hva hvb).2 h] at hone; cases hone
                have HX : Hid (tl'.length = n ∧ ∀ x, Vx n x → (tl1 tl' x = true ↔ Told out x ∨ (x < ((b + 1 : Nat) : Int) ∧ Scc (Eg es) a x))) := Lib.hid ⟨HTL2.out.1, fun x hx => by
                  rw [HTL2.out.2 x hx]
                  by_cases e : x = b
                  · subst e; simp [hns]
                  · have : x < ((b + 1 : Nat) : Int) ↔ x < b := by omega
                    rw [this]⟩
                have HLX : Hid (l = cls (b + 1) (Eg es) a) := Lib.hid (by rw [HLE.out, cls_succ, if_neg hns])
                clear hone hns
                go_wp2
                go_roundg (n - (b + 1))
                case measure => have := HG2.out; omega
                case rel => exact ⟨b + 1, l, tl', by go_num, by omega, rfl, HO, HTB2, HX, HLO, HLX⟩
              | true =>
                have hs : Scc (Eg es) a b := (oneB_iff HTG.out hva hvb).1 hone
                have hbl : b < tl'.length := by have := HTL2.out.1; omega
                have HX : Hid ((tl'.set b true).length = n ∧ ∀ x, Vx n x → (tl1 (tl'.set b true) x = true ↔ Told out x ∨ (x < ((b + 1 : Nat) : Int) ∧ Scc (Eg es) a x))) := Lib.hid ⟨by simpa using HTL2.out.1, fun x hx => by
                  have e1 : tl1 (tl'.set b true) x = if x.toNat = b then true else tl1 tl' x := by
                    unfold tl1
                    simp only [List.getD_eq_getElem?_getD, List.getElem?_set]
                    by_cases e : b = x.toNat
                    · subst e; simp [hbl]
                    · rw [if_neg e, if_neg (fun h => e h.symm)]
                  rw [e1]
                  by_cases e : x = b
                  · subst e; simp [hs]; right; omega
                  · have hx0 := hx.1
                    rw [if_neg (by omega), HTL2.out.2 x hx]
                    have : x < ((b + 1 : Nat) : Int) ↔ x < b := by omega
                    rw [this]⟩
                have HLX : Hid (l ++ [(b : Int)] = cls (b + 1) (Eg es) a) := Lib.hid (by rw [HLE.out, cls_succ, if_pos hs])
                have hll : l.length ≤ 128 := by
                  have h1 : l.length ≤ (ps b).length := by rw [HLE.out]; exact List.length_filter_le _ _
                  rw [ps_length] at h1; omega
                have hown := HLO.out
                have hzs : Z ≤ wr.heap.size := by have := HO.out.size; have := HZe.out; omega
                clear hone hs
                go_wp2_with (at_builtin; go_must (refine wpList_append_own _ rfl _ _ 37 rfl Z 3 i0 _ 1 8 Try.underlying37 hi hz0 hz1 hz2 rfl (by decide) _ _ _ rfl (hown.alloc _) ⟨wr.heap.size, 0, none⟩ 1 1 [.int .i64 (b : Int)] rfl rfl (fun j u h => new_cells _ _ _ j u h) (int_one _) (by unfold maxLen; omega) (by omega) (by simp; omega) ?_))
                intro v5 w5 hown5 hg5 _
                have HO5 := Lib.hid ((HO.out.alloc hzs (.cells #[.int .i64 (b : Int)] 3)).grown hg5 (by simp; omega) (fun q hq => (hown.lt q hq).1))
                have HT5 := Lib.hid ((HTB2.out.alloc (.cells #[.int .i64 (b : Int)] 3)).grown hg5 (fun e => by have := (hown.lt Z0 e.symm).1; have := HZ.out; omega))
                have HL5 : Hid (w5.ownsRow Z 3 1 v5 (l ++ [(b : Int)]).length (icells (l ++ [(b : Int)]))) := by
                  rw [List.length_append, List.length_singleton, icells_append]; exact Lib.hid hown5
                clear hown hown5 hg5 HO HTB2 HLO hzs
                have z5 := HT5.out.frozen b
                have t5 : ∃ x, w5.cell? ⟨Z0, b, none⟩ = some (.bool x) := by
                  refine ⟨tl'[b], (HT5.out.cell b).trans ?_⟩
                  unfold bcells
                  rw [List.getElem?_map, List.getElem?_eq_getElem hbl]; rfl
                obtain ⟨x5, t5⟩ := t5
                go_upto_region 13 with (fail)
                have HO6 := Lib.hid (HO5.out.setCell (p := ⟨Z0, b, none⟩) (.inl (by simp)) (.bool true))
                have HT6 : Hid (Blk (w5.setCell ⟨Z0, b, none⟩ (.bool true)) Z0 4 (bcells (tl'.set b true))) := by
                  have := HT5.out.set_ b (.bool true)
                  unfold bcells at this ⊢
                  rw [List.map_set]; exact Lib.hid this
                have HL6 := Lib.hid (ownsRow_setCell_below HL5.out (a := ⟨Z0, b, none⟩) (by have := HZ.out; simp; omega) (.bool true))
                clear HO5 HT5 HL5 z5 t5
                generalize World.setCell _ _ _ = w6 at *
                go_wp2
                go_roundg (n - (b + 1))
                case measure => have := HG2.out; omega
                case rel => exact ⟨b + 1, _, _, by go_num, by omega, rfl, HO6, HT6, HX, HL6, HLX⟩
            · obtain rfl : b = n := by omega
              have HLL2 := Lib.hid (HLL.out.only (by rw [HZe.out]; exact HO.out) (by simp))
              have HHI : Hid (∀ i, (hi : i < vs.length) → ∀ q, vs[i].ownBlock = some q → q < Z) := Lib.hid fun i hi q hq => by
                have := ((HLL.out.own i hi (by have := HLL.out.len; omega)).lt q hq).2
                have := HZe.out; omega
              have hzs : Z ≤ wr.heap.size := by have := HO.out.size; have := HZe.out; omega
              have hzz := HZ.out
              have HLN : Hid (out.length ≤ 128) := Lib.hid (by have := HUL.out; omega)
              clear HTB HTL HLL HO HB
              obtain ⟨A10, c10, hv10, _⟩ := own_slice HLO.out
              subst hv10
              have hown := HLL2.out.row
              have hln := HLN.out
              go_wp2_with (at_builtin; go_must (refine wpList_append_own _ rfl _ _ 44 rfl (Z0 + 1) 37 i1 _ 1 24 Try.underlying44 hi' hz0' hz1' hz2' rfl (by decide) _ _ _ rfl (hown.alloc _) ⟨wr.heap.size, 0, none⟩ 1 1 [.slice A10 l.length c10] rfl rfl (fun j u h => new_cells _ _ _ j u h) (by intro u hu; rw [List.mem_singleton.1 hu]; rfl) (by unfold maxLen; omega) (by omega) (by simp; omega) ?_))
              intro v5 w5 hown5 hg5 _
              have hal : Below wr.heap.size wr (wr.alloc (.cells #[.slice A10 l.length c10] 37)) := (Below.refl _ _).alloc (Nat.le_refl _) _
              have HLL5 := Lib.hid ((HLL2.out.below hal).push (x := .slice A10 l.length c10) (l := l) (own_le (own_below HLO.out hal) (by omega)) (fun i hi e => by
                cases hx : (Value.slice A10 l.length c10).ownBlock with
                | none => rfl
                | some q =>
                  rw [hx] at e
                  have h1 := HHI.out i hi q e
                  have h2 := (HLO.out.lt q hx).1
                  omega) hg5 hown5)
              have HB5 := Lib.hid ((HB2.out.alloc (by omega) (.cells #[.slice A10 l.length c10] 37)).grown hg5 (by simp; omega) (fun q hq => by have := (hown.lt q hq).1; omega))
              have HT5 := Lib.hid ((HTB2.out.alloc (.cells #[.slice A10 l.length c10] 37)).grown hg5 (fun e => by have := (hown.lt Z0 e.symm).1; omega))
              have HST5 : Hid (Steps b es (out ++ [l])) := Lib.hid (by
                rw [HLE.out]
                refine .snoc HST.out HRD.out (fun q hq => ?_)
                by_cases e : (a : Int) ≤ q
                · exact e
                · exact absurd hq (HNR.out q hq.1.1 (by omega)))
              have HTL5 : Hid (tl'.length = b ∧ ∀ x, Vx b x → (tl1 tl' x = true ↔ Told (out ++ [l]) x)) := Lib.hid ⟨HTL2.out.1, fun x hx => by
                rw [HTL2.out.2 x hx, told_snoc, HLE.out, mem_cls]
                have := hx.2
                constructor
                · rintro (h | ⟨_, h⟩); exact .inl h; exact .inr ⟨hx, h⟩
                · rintro (h | ⟨_, h⟩); exact .inl h; exact .inr ⟨this, h⟩⟩
              have HUN := Lib.hid (untold_lt hva HNT.out (show (a : Int) ∈ l by rw [HLE.out, mem_cls]; exact ⟨hva, Scc.refl _⟩))
              clear hown hown5 hg5 hal HLL2 HHI HLO HTB2 HB2 HTL2 HNR HNX HRD HNT
              go_wp2
              go_roundg (untold b (out ++ [l]) * (b + 2) + b)
              case measure =>
                have h1 := HG.out
                have h2 := HUN.out
                have h3 : (untold b (out ++ [l]) + 1) * (b + 2) ≤ untold b out * (b + 2) := Nat.mul_le_mul_right _ h2
                rw [Nat.succ_mul] at h3
                omega
              case rel => exact ⟨0, _, _, _, by go_num, by omega, Lib.hid (by omega), HB5, HT5, HTL5, HLL5, HST5, Lib.hid (by have h1 := HUL.out; have h2 := HUN.out; rw [List.length_append, List.length_singleton]; omega), Lib.hid (fun x h0 h1 => by omega)⟩
    · obtain rfl : a = n := by omega
      have HDN : Hid (Done a es out) := Lib.hid ⟨HST.out, fun v hv => by
        by_cases ht : Told out v
        · exact ht
        · obtain ⟨q, hq⟩ := progress' HF.out hv ht
          exact absurd hq (HNR.out q hq.1.1 hq.1.2)⟩
      have HLF := Lib.hid (HLL.out.le (B := w.heap.size) (by have := HwZ.out; omega))
      have HBF := Lib.hid (HBT.out.trans (HB.out.mono HwZ.out))
      clear HLL HB HTB HTL HST HNR HG
      go_wp2
      go_ret2
      exact ⟨_, _, _, rfl, HBF.out, HLF.out, HDN.out⟩

set_option maxRecDepth 20000 in
theorem refComps_no (A : Option Addr) (m c : Nat) (x : Int) (es : List E) (w : World) (hr : Rd w w.heap.size 4 A m (ecells es)) (hf : ¬ Fits x es) :
    Calls Try.prog 28 #[.int .i64 x, .slice A m c] w fun e w' => e = .returned (.tuple #[.slice none 0 0, .int .i64 2]) ∧ w' = w := by
  have HR := Lib.hid hr
  have hfit := fitB_false hf
  clear hr hf
  go_enter Try.func28, Try.ntmps28
  go_wp2_with fail
  refine (refFit_any x A m c es _ HR.out).mono ?_
  rintro e w1 ⟨rfl, rfl⟩
  rw [hfit]
  clear hfit
  go_wp2
  go_ret2
  exact ⟨rfl, rfl⟩
end Go.Proofs.Ytefpglaipnnggaa
