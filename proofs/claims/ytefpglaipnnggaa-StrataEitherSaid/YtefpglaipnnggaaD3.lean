/- Lists of rules of the law's own (rulesOf). -/
import Derived.Test.YtefpglaipnnggaaD2
namespace Go.Proofs.Ytefpglaipnnggaa
open Go.RowKit

theorem Try.info28 : (Try.prog.info? 28).map (fun i => (i.zero, i.size, i.bytes)) = some (some (.agg #[.int .i64 0, .slice none 0 0]), 2, 32) := by kernel_rfl
theorem Try.info33 : (Try.prog.info? 33).map (fun i => (i.zero, i.size, i.bytes)) = some (some (.agg #[.int .i64 0, .slice none 0 0, .slice none 0 0, .slice none 0 0, .slice none 0 0, .slice none 0 0, .int .i64 0]), 7, 136) := by kernel_rfl

theorem pcells_append (a b : List Pt) : pcells (a ++ b) = pcells a ++ pcells b := by simp [pcells]
theorem rcells_append (a b : List Ru) : rcells (a ++ b) = rcells a ++ rcells b := by simp [rcells]
theorem pcells_length (l : List Pt) : (pcells l).length = l.length * 2 := flat_length Pt.cells 2 (fun _ => rfl) l
theorem rcells_length (l : List Ru) : (rcells l).length = l.length * 7 := flat_length Ru.cells 7 (fun _ => rfl) l
theorem Pt.one (x : Pt) : ∀ u ∈ x.cells, u.oneCell' = true := by
  intro u hu
  simp only [Pt.cells, List.mem_cons, List.mem_nil_iff, or_false] at hu
  rcases hu with rfl | rfl <;> rfl
theorem Ru.one (r : Ru) : ∀ u ∈ r.cells, u.oneCell' = true := by
  intro u hu
  simp only [Ru.cells, List.mem_cons, List.mem_nil_iff, or_false] at hu
  rcases hu with rfl | rfl | rfl | rfl | rfl | rfl | rfl <;> rfl

/-- What counts of a rule for its edges. -/
def Ru.core (r : Ru) : Int × List Pt × List Pt := (r.h.p, r.pos, r.neg)
theorem edges_core : ∀ (i : Nat) (l l' : List Ru), l.map Ru.core = l'.map Ru.core → edgesFrom i l = edgesFrom i l'
  | i, [], [], _ => rfl
  | i, [], _ :: _, h => by simp at h
  | i, _ :: _, [], h => by simp at h
  | i, a :: l, b :: l', h => by
    simp only [List.map_cons, List.cons.injEq] at h
    have h1 := h.1
    simp only [Ru.core, Prod.mk.injEq] at h1
    simp only [edgesFrom, ruleEdges, h1.1, h1.2.1, h1.2.2, edges_core (i + 1) l l' h.2]

theorem own_below {w w' : World} {R size n : Nat} {e : TypeId} {v : Value} {xs : List Value} (h : w.ownsRow R e size v n xs) (hb : Below w.heap.size w w') : w'.ownsRow R e size v n xs := by
  refine ⟨h.1, ?_⟩
  rcases h.2 with h2 | ⟨g, cap, cur, hv, hg, hc, r⟩
  · exact .inl h2
  · exact .inr ⟨g, cap, cur, hv, hg, (hb.block g (Array.getElem?_eq_some_iff.1 hc).1).trans hc, r⟩
theorem own_le {w : World} {R R' size n : Nat} {e : TypeId} {v : Value} {xs : List Value} (h : w.ownsRow R e size v n xs) (hb : R' ≤ R) : w.ownsRow R' e size v n xs := by
  refine ⟨h.1, ?_⟩
  rcases h.2 with h2 | ⟨g, cap, cur, hv, hg, r⟩
  · exact .inl h2
  · exact .inr ⟨g, cap, cur, hv, Nat.le_trans hb hg, r⟩

theorem own_blkd {w : World} {base e size n : Nat} {v : Value} {xs : List Value} (h : w.ownsRow base e size v n xs) (hn : 0 < n) :
    ∃ g cap cur, v = .slice (some ⟨g, 0, none⟩) n cap ∧ base ≤ g ∧ Blk w g e cur ∧ n ≤ cap ∧ cap ≤ maxLen ∧ cur.length = cap * size ∧ cur.take (n * size) = xs := by
  rcases h.2 with ⟨_, h0⟩ | ⟨g, cap, cur, hv, hb, hg, hnc, hcm, hcs, ht⟩
  · omega
  · exact ⟨g, cap, cur.toList, hv, hb, by unfold Blk; simpa using hg, hnc, hcm, by simpa using hcs, ht⟩

/-- The lists of a rule lie in rows of one's own. -/
def Ru.own (w : World) (R : Nat) (r : Ru) : Prop := w.ownsRow R 28 2 r.s1.v r.s1.n (pcells r.pos) ∧ w.ownsRow R 28 2 r.s2.v r.s2.n (pcells r.neg)
theorem Ru.own.below {w w' : World} {R : Nat} {r : Ru} (h : Ru.own w R r) (hb : Below w.heap.size w w') : Ru.own w' R r := ⟨own_below h.1 hb, own_below h.2 hb⟩
theorem own_kept_types {w w' : World} {base base' e e' size size' n n' : Nat} {v v' : Value} {xs xs' : List Value} (h : w.ownsRow base e size v n xs) (h' : w.ownsRow base' e' size' v' n' xs') (hne : e ≠ e') (hg : w.grownBy w' v'.ownBlock) : w'.ownsRow base e size v n xs := by
  refine h.kept hg ?_
  rcases h.2 with ⟨rfl, _⟩ | ⟨g, cap, cur, rfl, _, hgg, _⟩
  · exact .inl rfl
  · refine .inr ?_
    have := own_blk_ne h' (g := g) (t := e) (cs := cur.toList) (by unfold Blk; simpa using hgg) hne
    simpa [Value.ownBlock] using this
theorem Ru.own.kept {w w' : World} {R R' n : Nat} {r : Ru} {v : Value} {xs : List Value} (h : Ru.own w R r) (h' : w.ownsRow R' 33 7 v n xs) (hg : w.grownBy w' v.ownBlock) : Ru.own w' R r :=
  ⟨own_kept_types h.1 h' (by decide) hg, own_kept_types h.2 h' (by decide) hg⟩
theorem Ru.own.le {w : World} {R R' : Nat} {r : Ru} (h : Ru.own w R r) (hb : R' ≤ R) : Ru.own w R' r := ⟨own_le h.1 hb, own_le h.2 hb⟩
theorem Ru.own.ok {w : World} {R : Nat} {r : Ru} (h : Ru.own w R r) : Ru.ok w r := by
  obtain ⟨A, c, h1, h2⟩ := own_slice h.1
  obtain ⟨A', c', h1', h2'⟩ := own_slice h.2
  simp only [Sl.v, Value.slice.injEq] at h1 h1'
  exact ⟨by rw [h1.1]; exact h2, by rw [h1'.1]; exact h2'⟩

set_option maxRecDepth 20000 in
set_option maxHeartbeats 2000000 in
theorem rulesOf_any (A : Option Addr) (m c : Nat) (rs : List Ru) (w : World) (hr : Rd w w.heap.size 7 A m (rcells rs)) (hok : ∀ r ∈ rs, Ru.ok w r) (hm136 : m * 136 ≤ 140737488351232) (hsm : ∀ r ∈ rs, r.s1.n * 32 ≤ 140737488351232 ∧ r.s2.n * 32 ≤ 140737488351232) :
    Calls Try.prog 16 #[.slice A m c] w fun e w' => ∃ v rs', e = .returned v ∧ w'.ownsRow w.heap.size 33 7 v m (rcells rs') ∧ rs'.map Ru.core = rs.map Ru.core ∧ (∀ r ∈ rs', Ru.own w' w.heap.size r) ∧ Below w.heap.size w w' := by
  obtain ⟨i0, hi, hz0, hz1, hz2⟩ := info_parts Try.info28
  obtain ⟨j0, hj, hy0, hy1, hy2⟩ := info_parts Try.info33
  have HR := Lib.hid hr
  have HK := Lib.hid hok
  have hm := hr.2.1
  have hl : rs.length = m := by have := hr.1; rw [rcells_length] at this; omega
  have HL := Lib.hid hl
  have HS := Lib.hid hsm
  have HM := Lib.hid hm136
  clear hr hok hl hsm hm136
  go_enter Try.func16, Try.ntmps16
  go_wp2
  go_loopg [4, 3] m (fun gk v4 v3 wr => ∃ (k : Nat) (acc : List Ru), v4 = .int .i64 k ∧ k ≤ m ∧ gk = m - k ∧ Hid (Below w.heap.size w wr) ∧ Hid (wr.ownsRow w.heap.size 33 7 v3 k (rcells acc)) ∧ Hid (acc.map Ru.core = (rs.take k).map Ru.core) ∧ Hid (∀ r ∈ acc, Ru.own wr w.heap.size r))
  case atStart => exact ⟨0, [], rfl, Nat.zero_le _, by omega, Below.refl _ _, World.ownsRow_nil _ _ _ _, Lib.hid rfl, Lib.hid (by simp)⟩
  case round =>
    obtain ⟨k, acc, rfl, hk, hgk, hb, ho, hco, hac⟩ := hrel
    have HG := Lib.hid hgk
    clear hgk
    by_cases hlt : k < m
    · obtain ⟨B, off, hk1, rfl, hB, hc⟩ := (HR.out.below hb.out).at Ru.cells 7 (fun _ => rfl) (by omega) k hlt
      have c0 := hc 0 _ (by omega) rfl
      have c1 := hc 1 _ (by omega) rfl
      have c2 := hc 2 _ (by omega) rfl
      have c3 := hc 3 _ (by omega) rfl
      have c4 := hc 4 _ (by omega) rfl
      have c5 := hc 5 _ (by omega) rfl
      have c6 := hc 6 _ (by omega) rfl
      rw [Nat.add_zero] at c0
      clear hc
      have hokk := HK.out rs[k] (List.getElem_mem hk1)
      have hsmk := HS.out rs[k] (List.getElem_mem hk1)
      have HP := Lib.hid hokk.1
      have HN := Lib.hid hokk.2
      have hn1 : rs[k].pos.length = rs[k].s1.n := by have := hokk.1.1; rw [pcells_length] at this; omega
      have hn2 : rs[k].neg.length = rs[k].s2.n := by have := hokk.2.1; rw [pcells_length] at this; omega
      have hb1 := hokk.1.2.1
      have hb2 := hokk.2.2.1
      have HL1 := Lib.hid hn1
      have HL2 := Lib.hid hn2
      have HT : Hid ((rs.take (k + 1)).map Ru.core = (rs.take k).map Ru.core ++ [rs[k].core]) := Lib.hid (by rw [take_snoc _ _ hk1, List.map_append]; rfl)
      clear hokk hn1 hn2
      go_upto_region 6 with (fail)
      generalize hRw : w.heap.size = R at *
      have HRR := Lib.hid hRw
      clear hRw
      have hQ : Hid (R ≤ wr.heap.size) := by have := hb.out.size; have := HRR.out; exact Lib.hid (by omega)
      have HX := Lib.hid (Blk.new wr 33 rs[k].cells)
      have HB : Hid (Below wr.heap.size wr (wr.alloc (.cells rs[k].cells.toArray 33))) := Lib.hid ((Below.refl _ _).alloc (Nat.le_refl _) _)
      clear c0 c1 c2 c3 c4 c5 c6
      generalize rs[k] = r at *
      obtain ⟨⟨hp, ha⟩, ⟨A1, n1, c1⟩, pos, ts, ⟨A2, n2, c2⟩, neg, vs, cl⟩ := r
      simp only [Ru.cells] at HB HX
      dsimp only at HP HN HL1 HL2 hb1 hb2 hsmk
      generalize World.alloc _ _ = w1 at *
      have hQ1 : Hid (wr.heap.size < w1.heap.size) := Lib.hid HX.out.lt
      generalize hQe : wr.heap.size = Q at *
      have HQe := Lib.hid hQe
      clear hQe
      obtain ⟨wq, hwq⟩ : ∃ x, x = wr := ⟨wr, rfl⟩
      subst hwq
      have f2 := HX.out.cell 2
      simp only [List.getElem?_cons_zero, List.getElem?_cons_succ] at f2
      go_wp2
      generalize hZe : w1.heap.size = Z at *
      have HZe := Lib.hid hZe
      clear hZe
      go_loopg [8, 6] n1 (fun gk vi v6 wx => ∃ (i : Nat), vi = .int .i64 i ∧ i ≤ n1 ∧ gk = n1 - i ∧ Hid (Below Z w1 wx) ∧ Hid (wx.ownsRow Z 28 2 v6 i (pcells (pos.take i))))
      case atStart => exact ⟨0, rfl, Nat.zero_le _, by omega, Lib.hid (Below.refl _ _), Lib.hid (by simpa [pcells] using World.ownsRow_nil _ _ _ _)⟩
      case round =>
        obtain ⟨i, rfl, hi1, hgi, hb3, ho3⟩ := hrel
        have HG2 := Lib.hid hgi
        clear hgi
        have HX3 := Lib.hid (HX.out.below hb3.out (by have := hQ1.out; omega))
        have f2 := HX3.out.cell 2
        simp only [List.getElem?_cons_zero, List.getElem?_cons_succ] at f2
        have HQZ : Hid (Q ≤ Z) := Lib.hid (by have := hQ1.out; have := HZe.out; omega)
        have HBB := Lib.hid (HB.out.trans (hb3.out.mono HQZ.out))
        have HBR := Lib.hid (hb.out.trans (HBB.out.mono hQ.out))
        by_cases hlt2 : i < n1
        · obtain ⟨B2, off2, hi2, rfl, hB2, hc⟩ := (HP.out.below HBR.out).at Pt.cells 2 (fun _ => rfl) (by omega) i hlt2
          have p0 := hc 0 _ (by omega) rfl
          have p1 := hc 1 _ (by omega) rfl
          rw [Nat.add_zero] at p0
          clear hc
          have hsz : Z ≤ wr.heap.size := by have := hb3.out.size; have := HZe.out; omega
          have HE := Lib.hid (show pos.take (i + 1) = pos.take i ++ [pos[i]] from take_snoc _ _ hi2)
          generalize pos[i] = x at *
          obtain ⟨xp, xa⟩ := x
          dsimp only at p0 p1 HE
          have hown := ho3.out
          go_wp2_with (at_builtin; go_must (refine wpList_append_own _ rfl _ _ 29 rfl Z 28 i0 _ 2 32 Try.underlying29 hi hz0 hz1 hz2 rfl (by decide) _ _ _ rfl (hown.alloc _) ⟨wr.heap.size, 0, none⟩ 1 1 (Pt.cells ⟨xp, xa⟩) rfl rfl (fun j u h => new_cells _ _ _ j u h) (Pt.one _) (by unfold maxLen; omega) (by omega) (by simp; omega) ?_))
          intro v3 w3 hown3 hg3 _
          have hb4 := Lib.hid ((hb3.out.alloc (by have := HZe.out; omega) (.cells (Pt.cells ⟨xp, xa⟩).toArray 28)).grown hg3 (by have := HZe.out; simp; omega) (fun q hq => by have := HZe.out; have := (hown.lt q hq).1; omega))
          have ho4 : Hid (w3.ownsRow Z 28 2 v3 (i + 1) (pcells (pos.take (i + 1)))) := by
            rw [HE.out, pcells_append]
            have e : pcells [⟨xp, xa⟩] = Pt.cells ⟨xp, xa⟩ := by simp [pcells]
            rw [e]
            exact Lib.hid hown3
          clear hown hown3 hg3 p0 p1 f2 ho3 hb3 HBB HBR HX3
          go_wp2
          go_roundg (n1 - (i + 1))
          case measure => have := HG2.out; omega
          case rel => exact ⟨i + 1, by go_num, by omega, rfl, hb4, ho4⟩
        · obtain rfl : i = n1 := by omega
          have f4 := HX3.out.cell 4
          simp only [List.getElem?_cons_zero, List.getElem?_cons_succ] at f4
          have HO1 : Hid (wr.ownsRow Z 28 2 u6 i (pcells pos)) := by
            have := ho3.out
            have e : pos.take i = pos := List.take_of_length_le (by have := HL1.out; omega)
            rw [e] at this
            exact this
          have hZ2 : Hid (Z ≤ wr.heap.size) := Lib.hid (by have := hb3.out.size; have := HZe.out; omega)
          clear ho3 hb3 HB HX
          obtain ⟨Ap, cp, rfl, _⟩ := own_slice HO1.out
          go_wp2
          obtain ⟨wx, hwx⟩ : ∃ x, x = wr := ⟨wr, rfl⟩
          subst hwx
          generalize hYe : wx.heap.size = Y at *
          have HYe := Lib.hid hYe
          clear hYe
          go_loopg [9, 7] n2 (fun gk vi v7 wy => ∃ (j : Nat), vi = .int .i64 j ∧ j ≤ n2 ∧ gk = n2 - j ∧ Hid (Below Y wx wy) ∧ Hid (wy.ownsRow Y 28 2 v7 j (pcells (neg.take j))))
          case atStart => exact ⟨0, rfl, Nat.zero_le _, by omega, Lib.hid (Below.refl _ _), Lib.hid (by simpa [pcells] using World.ownsRow_nil _ _ _ _)⟩
          case round =>
            obtain ⟨j, rfl, hj1, hgj, hb4, ho4⟩ := hrel
            have HG3 := Lib.hid hgj
            clear hgj
            have HQY : Hid (Q ≤ Y) := Lib.hid (by have := HQZ.out; have := hZ2.out; have := HYe.out; omega)
            have HX4 := Lib.hid (HX3.out.below hb4.out (by have := hQ1.out; have := HZe.out; have := hZ2.out; have := HYe.out; omega))
            have f4 := HX4.out.cell 4
            simp only [List.getElem?_cons_zero, List.getElem?_cons_succ] at f4
            have HBB2 := Lib.hid (HBB.out.trans (hb4.out.mono HQY.out))
            have HBR2 := Lib.hid (hb.out.trans (HBB2.out.mono hQ.out))
            by_cases hlt3 : j < n2
            · obtain ⟨B2, off2, hi2, rfl, hB2, hc⟩ := (HN.out.below HBR2.out).at Pt.cells 2 (fun _ => rfl) (by omega) j hlt3
              have p0 := hc 0 _ (by omega) rfl
              have p1 := hc 1 _ (by omega) rfl
              rw [Nat.add_zero] at p0
              clear hc
              have hsz : Y ≤ wr.heap.size := by have := hb4.out.size; have := HYe.out; omega
              have HE := Lib.hid (show neg.take (j + 1) = neg.take j ++ [neg[j]] from take_snoc _ _ hi2)
              generalize neg[j] = x at *
              obtain ⟨xp, xa⟩ := x
              dsimp only at p0 p1 HE
              have hown := ho4.out
              go_wp2_with (at_builtin; go_must (refine wpList_append_own _ rfl _ _ 29 rfl Y 28 i0 _ 2 32 Try.underlying29 hi hz0 hz1 hz2 rfl (by decide) _ _ _ rfl (hown.alloc _) ⟨wr.heap.size, 0, none⟩ 1 1 (Pt.cells ⟨xp, xa⟩) rfl rfl (fun j u h => new_cells _ _ _ j u h) (Pt.one _) (by unfold maxLen; omega) (by omega) (by simp; omega) ?_))
              intro v3 w3 hown3 hg3 _
              have hb5 := Lib.hid ((hb4.out.alloc (by have := HYe.out; omega) (.cells (Pt.cells ⟨xp, xa⟩).toArray 28)).grown hg3 (by have := HYe.out; simp; omega) (fun q hq => by have := HYe.out; have := (hown.lt q hq).1; omega))
              have ho5 : Hid (w3.ownsRow Y 28 2 v3 (j + 1) (pcells (neg.take (j + 1)))) := by
                rw [HE.out, pcells_append]
                have e : pcells [⟨xp, xa⟩] = Pt.cells ⟨xp, xa⟩ := by simp [pcells]
                rw [e]
                exact Lib.hid hown3
              clear hown hown3 hg3 p0 p1 f4 ho4 hb4 HBB2 HBR2 HX4
              go_wp2
              go_roundg (n2 - (j + 1))
              case measure => have := HG3.out; omega
              case rel => exact ⟨j + 1, by go_num, by omega, rfl, hb5, ho5⟩
            · obtain rfl : j = n2 := by omega
              have HO2 : Hid (wr.ownsRow Y 28 2 u7 j (pcells neg)) := by
                have := ho4.out
                have e : neg.take j = neg := List.take_of_length_le (by have := HL2.out; omega)
                rw [e] at this
                exact this
              have HO1' := Lib.hid (own_below HO1.out (by rw [HYe.out]; exact hb4.out))
              have hY2 : Hid (Y ≤ wr.heap.size) := Lib.hid (by have := hb4.out.size; have := HYe.out; omega)
              have HOM := Lib.hid (own_below ho.out (by rw [HQe.out]; exact HBB2.out))
              clear ho4 hb4
              obtain ⟨An, cn, rfl, _⟩ := own_slice HO2.out
              have z2 := HX4.out.frozen 2
              have z4 := HX4.out.frozen 4
              clear f2 z4
              have y2 := HX4.out.cell 2
              simp only [List.getElem?_cons_zero, List.getElem?_cons_succ] at y2
              go_upto_region 17 with (fail)
              have HX5 := Lib.hid (HX4.out.set_ 2 (.slice Ap i cp))
              have HB5 := Lib.hid (HBB2.out.setCell (p := ⟨Q, 2, none⟩) (Nat.le_refl _) (.slice Ap i cp))
              have HO15 := Lib.hid (own_setCell_blk HO1'.out HX4.out (by decide) 2 (.slice Ap i cp))
              have HO25 := Lib.hid (own_setCell_blk HO2.out HX4.out (by decide) 2 (.slice Ap i cp))
              simp only [List.set_cons_succ, List.set_cons_zero] at HX5
              clear HX4 HBB2 HBR2 HOM z2 f4 y2
              generalize World.setCell _ _ _ = w5 at *
              have z4 := HX5.out.frozen 4
              have y4 := HX5.out.cell 4
              simp only [List.getElem?_cons_zero, List.getElem?_cons_succ] at y4
              go_upto_region 18 with (fail)
              have HX6 := Lib.hid (HX5.out.set_ 4 (.slice An j cn))
              have HB6 := Lib.hid (HB5.out.setCell (p := ⟨Q, 4, none⟩) (Nat.le_refl _) (.slice An j cn))
              have HO16 := Lib.hid (own_setCell_blk HO15.out HX5.out (by decide) 4 (.slice An j cn))
              have HO26 := Lib.hid (own_setCell_blk HO25.out HX5.out (by decide) 4 (.slice An j cn))
              simp only [List.set_cons_succ, List.set_cons_zero] at HX6
              clear HX5 HB5 HO15 HO25 z4 y4 HO1' HO2
              generalize World.setCell _ _ _ = w6 at *
              have hown := own_below ho.out (by rw [HQe.out]; exact HB6.out)
              have HAC : Hid (∀ r ∈ acc, Ru.own w6 R r) := Lib.hid fun r hr => (hac.out r hr).below (by rw [HQe.out]; exact HB6.out)
              have HN5 : Hid (Ru.own w6 R ⟨⟨hp, ha⟩, ⟨Ap, i, cp⟩, pos, ts, ⟨An, j, cn⟩, neg, vs, cl⟩) := Lib.hid ⟨own_le HO16.out (by have := hQ.out; have := HQZ.out; omega), own_le HO26.out (by have := hQ.out; have := HQY.out; omega)⟩
              have HBR6 := Lib.hid (hb.out.trans (HB6.out.mono hQ.out))
              have g0 := HX6.out.cell 0
              have g1 := HX6.out.cell 1
              have g2 := HX6.out.cell 2
              have g3 := HX6.out.cell 3
              have g4 := HX6.out.cell 4
              have g5 := HX6.out.cell 5
              have g6 := HX6.out.cell 6
              simp only [List.getElem?_cons_zero, List.getElem?_cons_succ] at g0 g1 g2 g3 g4 g5 g6
              have hsz : R ≤ w6.heap.size := by have := HX6.out.lt; have := hQ.out; omega
              have hm136 := HM.out
              go_wp2_with (at_builtin; go_must (refine wpList_append_own _ rfl _ _ 22 rfl R 33 j0 _ 7 136 Try.underlying22 hj hy0 hy1 hy2 rfl (by decide) _ _ _ rfl (hown.alloc _) ⟨w6.heap.size, 0, none⟩ 1 1 (Ru.cells ⟨⟨hp, ha⟩, ⟨Ap, i, cp⟩, pos, ts, ⟨An, j, cn⟩, neg, vs, cl⟩) rfl rfl (fun j u h => new_cells _ _ _ j u h) (Ru.one _) (by unfold maxLen; omega) (by omega) (by simp; omega) ?_))
              intro v3 w7 hown7 hg7 _
              have hb7 := Lib.hid ((HBR6.out.alloc (by omega) (.cells (Ru.cells ⟨⟨hp, ha⟩, ⟨Ap, i, cp⟩, pos, ts, ⟨An, j, cn⟩, neg, vs, cl⟩).toArray 33)).grown hg7 (by simp; omega) (fun q hq => (hown.lt q hq).1))
              have hac7 : Hid (∀ r ∈ acc ++ [⟨⟨hp, ha⟩, ⟨Ap, i, cp⟩, pos, ts, ⟨An, j, cn⟩, neg, vs, cl⟩], Ru.own w7 R r) := Lib.hid fun r hr => by
                have h1 : Ru.own w6 R r := by
                  rcases List.mem_append.1 hr with h | h
                  · exact HAC.out r h
                  · rw [List.mem_singleton.1 h]; exact HN5.out
                exact Ru.own.kept (h1.below ((Below.refl _ _).alloc (Nat.le_refl _) _)) (hown.alloc _) hg7
              have hown8 : Hid (w7.ownsRow R 33 7 v3 (k + 1) (rcells (acc ++ [⟨⟨hp, ha⟩, ⟨Ap, i, cp⟩, pos, ts, ⟨An, j, cn⟩, neg, vs, cl⟩]))) := by
                rw [rcells_append]
                have e : rcells [⟨⟨hp, ha⟩, ⟨Ap, i, cp⟩, pos, ts, ⟨An, j, cn⟩, neg, vs, cl⟩] = Ru.cells ⟨⟨hp, ha⟩, ⟨Ap, i, cp⟩, pos, ts, ⟨An, j, cn⟩, neg, vs, cl⟩ := by simp [rcells]
                rw [e]
                exact Lib.hid hown7
              have hco8 : Hid ((acc ++ [(⟨⟨hp, ha⟩, ⟨Ap, i, cp⟩, pos, ts, ⟨An, j, cn⟩, neg, vs, cl⟩ : Ru)]).map Ru.core = (rs.take (k + 1)).map Ru.core) := Lib.hid (by
                rw [HT.out, List.map_append, hco.out]; rfl)
              clear hown hown7 hg7 g0 g1 g2 g3 g4 g5 g6 HAC HN5
              go_wp2
              go_roundg (m - (k + 1))
              case measure => have := HG.out; omega
              case rel => exact ⟨k + 1, _, by go_num, by omega, rfl, hb7, hown8, hco8, hac7⟩
    · obtain rfl : m = k := by omega
      go_wp2
      go_ret
      have h := hco.out
      rw [List.take_of_length_le (by have := HL.out; omega)] at h
      exact ⟨_, _, rfl, ho.out, h, hac.out, hb.out⟩
end Go.Proofs.Ytefpglaipnnggaa
