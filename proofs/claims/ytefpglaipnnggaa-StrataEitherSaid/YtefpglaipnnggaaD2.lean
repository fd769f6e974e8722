/- The document's edges of rules. -/
import Derived.Test.YtefpglaipnnggaaD1
import Derived.Test.YtefpglaipnnggaaR1
namespace Go.Proofs.Ytefpglaipnnggaa
open Go.RowKit

set_option maxRecDepth 20000 in
set_option maxHeartbeats 2000000 in
theorem refEdges_any (A : Option Addr) (m c : Nat) (rs : List Ru) (w : World) (hr : Rd w w.heap.size 7 A m (rcells rs)) (hok : ∀ r ∈ rs, Ru.ok w r) (hsum : (edgesFrom 0 rs).length * 32 ≤ 140737488351232) :
    Calls Try.prog 15 #[.slice A m c] w fun e w' => ∃ v, e = .returned v ∧ w'.ownsRow w.heap.size 43 4 v (edgesFrom 0 rs).length (ecells (edgesFrom 0 rs)) ∧ Below w.heap.size w w' := by
  obtain ⟨i0, hi, hz0, hz1, hz2⟩ := info_parts Try.info43
  have HR := Lib.hid hr
  have HK := Lib.hid hok
  have hm := hr.2.1
  have hl : rs.length = m := by have := hr.1; rw [rcells, flat_length Ru.cells 7 (fun _ => rfl)] at this; omega
  have HL := Lib.hid hl
  have HS := Lib.hid hsum
  clear hr hok hl hsum
  go_enter Try.func15, Try.ntmps15
  go_wp2
  go_loopg [4, 3] m (fun gk v12 v3 wr => ∃ (k : Nat), v12 = .int .i64 k ∧ k ≤ m ∧ gk = m - k ∧ Hid (Below w.heap.size w wr) ∧ Hid (wr.ownsRow w.heap.size 43 4 v3 (edgesFrom 0 (rs.take k)).length (ecells (edgesFrom 0 (rs.take k)))))
  case atStart => exact ⟨0, rfl, Nat.zero_le _, by omega, Below.refl _ _, World.ownsRow_nil _ _ _ _⟩
  case round =>
    obtain ⟨k, rfl, hk, hgk, hb, ho⟩ := hrel
    have HG := Lib.hid hgk
    clear hgk
    by_cases hlt : k < m
    · obtain ⟨B, off, hk1, rfl, hB, hc⟩ := (HR.out.below hb.out).at Ru.cells 7 (fun _ => rfl) (by omega) k hlt
      have c0 := hc 0 _ (by omega) rfl
      have c1 := hc 1 _ (by omega) rfl
      have c2 := hc 2 _ (by omega) rfl
      have c3 := hc 3 _ (by omega) rfl
      have c4 := hc 4 _ (by omega) rfl
      have c5 := hc 5 _ (by omega) rfl
      have c6 := hc 6 _ (by omega) rfl
      rw [Nat.add_zero] at c0
      clear hc
      have hokk := HK.out rs[k] (List.getElem_mem hk1)
      have HP := Lib.hid hokk.1
      have HN := Lib.hid hokk.2
      have hbound : Hid ((edgesFrom 0 (rs.take k)).length + (rs[k].pos.length + rs[k].neg.length) ≤ (edgesFrom 0 rs).length) := by
        have h1 := edges_le rs (k + 1)
        rw [edges_snoc rs k hk1, List.length_append] at h1
        simp only [ruleEdges, List.length_append, List.length_map] at h1
        exact Lib.hid (by omega)
      have hn1 : rs[k].pos.length = rs[k].s1.n := by have := hokk.1.1; rw [pcells, flat_length Pt.cells 2 (fun _ => rfl)] at this; omega
      have hn2 : rs[k].neg.length = rs[k].s2.n := by have := hokk.2.1; rw [pcells, flat_length Pt.cells 2 (fun _ => rfl)] at this; omega
      have hb1 := hokk.1.2.1
      have hb2 := hokk.2.2.1
      have HL1 := Lib.hid hn1
      have HL2 := Lib.hid hn2
      have HEQ := Lib.hid (edges_snoc rs k hk1)
      clear hokk hn1 hn2
      go_upto_region 6 with (fail)

      generalize hR : w.heap.size = R at *
      have HRR := Lib.hid hR
      clear hR
      have hQ : Hid (R ≤ wr.heap.size) := by have := hb.out.size; have := HRR.out; exact Lib.hid (by omega)
      have HB := Lib.hid (hb.out.alloc hQ.out (.cells rs[k].cells.toArray 33))
      have HO := Lib.hid (ho.out.alloc (.cells rs[k].cells.toArray 33))
      have HX := Lib.hid (Blk.new wr 33 rs[k].cells)
      clear c0 c1 c2 c3 c4 c5 c6
      generalize rs[k] = r at *
      obtain ⟨⟨hp, ha⟩, ⟨A1, n1, c1⟩, pos, ts, ⟨A2, n2, c2⟩, neg, vs, cl⟩ := r
      simp only [Ru.cells] at HB HO HX
      dsimp only at HP HN hbound HL1 HL2 hb1 hb2
      generalize World.alloc _ _ = w1 at *
      generalize wr.heap.size = Q at *
      clear hb ho
      have f2 := HX.out.cell 2
      simp only [List.getElem?_cons_zero, List.getElem?_cons_succ] at f2
      go_wp2
      go_loopg [6, 3] n1 (fun gk vi v3 wx => ∃ (i : Nat), vi = .int .i64 i ∧ i ≤ n1 ∧ gk = n1 - i ∧ Hid (Below R w wx) ∧ Hid (wx.ownsRow R 43 4 v3 ((edgesFrom 0 (rs.take k)).length + i) (ecells (edgesFrom 0 (rs.take k) ++ (pos.take i).map fun x => ⟨x.p, hp, false, k⟩))) ∧
        Hid (Blk wx Q 33 [.int .i64 hp, .slice ha.A ha.n ha.c, .slice A1 n1 c1, .slice ts.A ts.n ts.c, .slice A2 n2 c2, .slice vs.A vs.n vs.c, .int .i64 cl]))
      case atStart => exact ⟨0, rfl, Nat.zero_le _, by omega, HB, by simpa using HO, HX⟩
      case round =>
        clear HB HO HX
        obtain ⟨i, rfl, hi1, hgi, hb, ho, hx⟩ := hrel
        have HG2 := Lib.hid hgi
        clear hgi
        have f2 := hx.out.cell 2
        have f0 := hx.out.cell 0
        simp only [List.getElem?_cons_zero, List.getElem?_cons_succ] at f2 f0
        by_cases hlt2 : i < n1
        · obtain ⟨B2, off2, hi2, rfl, hB2, hc⟩ := (HP.out.below hb.out).at Pt.cells 2 (fun _ => rfl) (by omega) i hlt2
          have p0 := hc 0 _ (by omega) rfl
          rw [Nat.add_zero] at p0
          clear hc
          have hsz : Q < wr.heap.size := hx.out.lt
          have hRQ := hQ.out
          have HE := Lib.hid (show pos.take (i + 1) = pos.take i ++ [pos[i]] from take_snoc _ _ hi2)
          have hbd : (edgesFrom 0 (rs.take k)).length + i + 1 ≤ (edgesFrom 0 rs).length := by have := hbound.out; have := HL1.out; have := HL2.out; omega
          have hbd2 : (edgesFrom 0 rs).length * 32 ≤ 140737488351232 := HS.out
          generalize pos[i] = x at *
          obtain ⟨xp, xa⟩ := x
          dsimp only at p0 HE
          have hown := Lib.hid ho.out.drew
          have hb := Lib.hid hb.out.drew
          have hx := Lib.hid hx.out.drew
          clear ho
          go_upto_region 9 with (fail)
          have g0 := hx.out.cell 0
          have g2 := hx.out.cell 2
          have gp : wr.drew.cell? ⟨B2, off2 + i * 2, none⟩ = some (.int .i64 xp) := p0
          simp only [List.getElem?_cons_zero, List.getElem?_cons_succ] at g0 g2
          generalize hdw : wr.drew = w2 at *
          have hsz2 := hx.out.lt
          obtain ⟨C, hCi⟩ : ∃ C : World → Prop, ∀ w', C w' ↔ (w'.cell? ⟨Q, 0, none⟩ = some (.int .i64 hp) ∧ w'.cell? ⟨Q, 2, none⟩ = some (.slice (some ⟨B2, off2, none⟩) n1 c1) ∧ w'.cell? ⟨B2, off2 + i * 2, none⟩ = some (.int .i64 xp)) := ⟨_, fun _ => Iff.rfl⟩
          have hC : C w2 := (hCi _).2 ⟨g0, g2, gp⟩
          have hC2 : C (w2.alloc (.cells (E.cells ⟨xp, hp, false, k⟩).toArray 43)) := (hCi _).2 ⟨Lib.cell?_alloc_some _ g0, Lib.cell?_alloc_some _ g2, Lib.cell?_alloc_some _ gp⟩
          have k0 : ∀ p : WC C, p.w.cell? ⟨Q, 0, none⟩ = some (.int .i64 hp) := fun p => ((hCi _).1 p.h).1
          have k1 : ∀ p : WC C, p.w.cell? ⟨Q, 2, none⟩ = some (.slice (some ⟨B2, off2, none⟩) n1 c1) := fun p => ((hCi _).1 p.h).2.1
          have k2 : ∀ p : WC C, p.w.cell? ⟨B2, off2 + i * 2, none⟩ = some (.int .i64 xp) := fun p => ((hCi _).1 p.h).2.2
          have kn : Nonempty (WC C) := ⟨⟨_, hC⟩⟩
          have HC2 := Lib.hid hC2
          have HCi := Lib.hid hCi
          clear hCi hC2 f0 f2 p0 g0 g2
          refine wp_region_front' C [0, 1, 2, 3, 4, 5, 6, 7, 8, 9, 10] [11, 12, 13, 14] (fun j => decide (j < 14)) (by kernel_rfl) (fun _ _ d _ _ h => by cases d <;> exact h) (by kernel_rfl) (hdw ▸ hC) ?_
          simp only [List.map_cons, List.map_nil, List.getD_cons_zero, List.getD_cons_succ]
          have Hgp := Lib.hid gp
          clear gp
          repeat (go_big_quiet_step (fail))
          refine wpQuiet_nil ?_
          clear k0 k1 k2 kn
          rw [hdw]
          refine wpTail_cons ?_
          go_wp2
          refine tailQ_normal (fun _ => hC) ?_
          refine wpTail_cons ?_
          go_wp2
          refine tailQ_normal (fun _ => HC2.out) ?_
          clear hC HC2
          refine wpTail_cons ?_
          have hown := hown.out
          go_wp2_with (at_builtin; go_must (refine wpList_append_own _ rfl _ _ 23 rfl R 43 i0 _ 4 32 Try.underlying23 hi hz0 hz1 hz2 rfl (by decide) _ _ _ rfl (hown.alloc _) ⟨w2.heap.size, 0, none⟩ 1 1 (E.cells ⟨xp, hp, false, k⟩) rfl rfl (fun j u h => new_cells _ _ _ j u h) (E.one _) (by unfold maxLen; omega) (by omega) (by simp; omega) ?_))
          intro v3 w3 hown3 hg3 _
          have hb3 := Lib.hid ((hb.out.alloc (by omega) (.cells (E.cells ⟨xp, hp, false, k⟩).toArray 43)).grown hg3 (by simp; omega) (fun q hq => (hown.lt q hq).1))
          have hx3 := Lib.hid ((hx.out.alloc (.cells (E.cells ⟨xp, hp, false, k⟩).toArray 43)).grown hg3 (own_blk_ne hown hx.out (by decide)))
          have ho3 : Hid (w3.ownsRow R 43 4 v3 ((edgesFrom 0 (rs.take k)).length + (i + 1)) (ecells (edgesFrom 0 (rs.take k) ++ (pos.take (i + 1)).map fun x => ⟨x.p, hp, false, k⟩))) := by
            rw [HE.out, List.map_append, ← List.append_assoc, ecells_append]
            have e : ecells ([(⟨xp, xa⟩ : Pt)].map fun x => (⟨x.p, hp, false, k⟩ : E)) = E.cells ⟨xp, hp, false, k⟩ := by simp [ecells]
            rw [e]
            first | exact Lib.hid hown3 | (rw [List.map_take]; exact Lib.hid hown3) | (rw [List.map_take, List.append_assoc (edgesFrom 0 (rs.take k))]; exact Lib.hid hown3)
          clear hown hown3 hg3
          have r0 := hx3.out.cell 0
          have r2 := hx3.out.cell 2
          simp only [List.getElem?_cons_zero, List.getElem?_cons_succ] at r0 r2
          have r4 := (hb3.out.cell (p := ⟨B2, off2 + i * 2, none⟩) hB2).trans ((hb.out.cell (p := ⟨B2, off2 + i * 2, none⟩) hB2).symm.trans Hgp.out)
          refine tailQ_normal (fun _ => (HCi.out _).2 ⟨r0, r2, r4⟩) ?_
          clear r0 r2 r4
          refine wpTail_cons ?_
          go_wp2
          refine tailQ_normal (fun h => by cases h) ?_
          refine wpTail_nil ?_
          go_wp2
          go_roundg (n1 - (i + 1))
          case measure => have := HG2.out; omega
          case rel => exact ⟨i + 1, by go_num, by omega, rfl, hb3, ho3, hx3⟩
        · obtain rfl : n1 = i := by omega
          have f4 := hx.out.cell 4
          simp only [List.getElem?_cons_zero, List.getElem?_cons_succ] at f4
          have HB := hb
          have HX := hx
          have HO : Hid (wr.ownsRow R 43 4 u3 ((edgesFrom 0 (rs.take k)).length + n1) (ecells (edgesFrom 0 (rs.take k) ++ pos.map fun x => ⟨x.p, hp, false, k⟩))) := by
            have := ho.out
            have e : pos.take n1 = pos := List.take_of_length_le (by have := HL1.out; omega)
            rw [e] at this
            exact this
          clear hb ho hx HG2
          go_wp2
          go_loopg [7, 3] n2 (fun gk vi v3 wx => ∃ (i : Nat), vi = .int .i64 i ∧ i ≤ n2 ∧ gk = n2 - i ∧ Hid (Below R w wx) ∧ Hid (wx.ownsRow R 43 4 v3 (((edgesFrom 0 (rs.take k)).length + n1) + i) (ecells ((edgesFrom 0 (rs.take k) ++ pos.map fun x => ⟨x.p, hp, false, k⟩) ++ (neg.take i).map fun x => ⟨x.p, hp, true, k⟩))) ∧
            Hid (Blk wx Q 33 [.int .i64 hp, .slice ha.A ha.n ha.c, .slice A1 n1 c1, .slice ts.A ts.n ts.c, .slice A2 n2 c2, .slice vs.A vs.n vs.c, .int .i64 cl]))
          case atStart => exact ⟨0, rfl, Nat.zero_le _, by omega, HB, by simpa using HO, HX⟩
          case round =>
            clear HB HO HX
            obtain ⟨i, rfl, hi1, hgi, hb, ho, hx⟩ := hrel
            have HG3 := Lib.hid hgi
            clear hgi
            have f4 := hx.out.cell 4
            have f0 := hx.out.cell 0
            simp only [List.getElem?_cons_zero, List.getElem?_cons_succ] at f4 f0
            by_cases hlt3 : i < n2
            · obtain ⟨B2, off2, hi2, rfl, hB2, hc⟩ := (HN.out.below hb.out).at Pt.cells 2 (fun _ => rfl) (by omega) i hlt3
              have p0 := hc 0 _ (by omega) rfl
              rw [Nat.add_zero] at p0
              clear hc
              have hsz : Q < wr.heap.size := hx.out.lt
              have hRQ := hQ.out
              have HE := Lib.hid (show neg.take (i + 1) = neg.take i ++ [neg[i]] from take_snoc _ _ hi2)
              have hbd : ((edgesFrom 0 (rs.take k)).length + n1) + i + 1 ≤ (edgesFrom 0 rs).length := by have := hbound.out; have := HL1.out; have := HL2.out; omega
              have hbd2 : (edgesFrom 0 rs).length * 32 ≤ 140737488351232 := HS.out
              generalize neg[i] = x at *
              obtain ⟨xp, xa⟩ := x
              dsimp only at p0 HE
              have hown := Lib.hid ho.out.drew
              have hb := Lib.hid hb.out.drew
              have hx := Lib.hid hx.out.drew
              clear ho
              go_upto_region 13 with (fail)
              have g0 := hx.out.cell 0
              have g2 := hx.out.cell 4
              have gp : wr.drew.cell? ⟨B2, off2 + i * 2, none⟩ = some (.int .i64 xp) := p0
              simp only [List.getElem?_cons_zero, List.getElem?_cons_succ] at g0 g2
              generalize hdw : wr.drew = w2 at *
              have hsz2 := hx.out.lt
              obtain ⟨C, hCi⟩ : ∃ C : World → Prop, ∀ w', C w' ↔ (w'.cell? ⟨Q, 0, none⟩ = some (.int .i64 hp) ∧ w'.cell? ⟨Q, 4, none⟩ = some (.slice (some ⟨B2, off2, none⟩) n2 c2) ∧ w'.cell? ⟨B2, off2 + i * 2, none⟩ = some (.int .i64 xp)) := ⟨_, fun _ => Iff.rfl⟩
              have hC : C w2 := (hCi _).2 ⟨g0, g2, gp⟩
              have hC2 : C (w2.alloc (.cells (E.cells ⟨xp, hp, true, k⟩).toArray 43)) := (hCi _).2 ⟨Lib.cell?_alloc_some _ g0, Lib.cell?_alloc_some _ g2, Lib.cell?_alloc_some _ gp⟩
              have k0 : ∀ p : WC C, p.w.cell? ⟨Q, 0, none⟩ = some (.int .i64 hp) := fun p => ((hCi _).1 p.h).1
              have k1 : ∀ p : WC C, p.w.cell? ⟨Q, 4, none⟩ = some (.slice (some ⟨B2, off2, none⟩) n2 c2) := fun p => ((hCi _).1 p.h).2.1
              have k2 : ∀ p : WC C, p.w.cell? ⟨B2, off2 + i * 2, none⟩ = some (.int .i64 xp) := fun p => ((hCi _).1 p.h).2.2
              have kn : Nonempty (WC C) := ⟨⟨_, hC⟩⟩
              have HC2 := Lib.hid hC2
              have HCi := Lib.hid hCi
              clear hCi hC2 f0 f4 p0 g0 g2
              refine wp_region_front' C [0, 1, 2, 3, 4, 5, 6, 7, 8, 9, 10] [11, 12, 13, 14] (fun j => decide (j < 14)) (by kernel_rfl) (fun _ _ d _ _ h => by cases d <;> exact h) (by kernel_rfl) (hdw ▸ hC) ?_
              simp only [List.map_cons, List.map_nil, List.getD_cons_zero, List.getD_cons_succ]
              have Hgp := Lib.hid gp
              clear gp
              repeat (go_big_quiet_step (fail))
              refine wpQuiet_nil ?_
              clear k0 k1 k2 kn
              rw [hdw]
              refine wpTail_cons ?_
              go_wp2
              refine tailQ_normal (fun _ => hC) ?_
              refine wpTail_cons ?_
              go_wp2
              refine tailQ_normal (fun _ => HC2.out) ?_
              clear hC HC2
              refine wpTail_cons ?_
              have hown := hown.out
              go_wp2_with (at_builtin; go_must (refine wpList_append_own _ rfl _ _ 23 rfl R 43 i0 _ 4 32 Try.underlying23 hi hz0 hz1 hz2 rfl (by decide) _ _ _ rfl (hown.alloc _) ⟨w2.heap.size, 0, none⟩ 1 1 (E.cells ⟨xp, hp, true, k⟩) rfl rfl (fun j u h => new_cells _ _ _ j u h) (E.one _) (by unfold maxLen; omega) (by omega) (by simp; omega) ?_))
              intro v3 w3 hown3 hg3 _
              have hb3 := Lib.hid ((hb.out.alloc (by omega) (.cells (E.cells ⟨xp, hp, true, k⟩).toArray 43)).grown hg3 (by simp; omega) (fun q hq => (hown.lt q hq).1))
              have hx3 := Lib.hid ((hx.out.alloc (.cells (E.cells ⟨xp, hp, true, k⟩).toArray 43)).grown hg3 (own_blk_ne hown hx.out (by decide)))
              have ho3 : Hid (w3.ownsRow R 43 4 v3 (((edgesFrom 0 (rs.take k)).length + n1) + (i + 1)) (ecells ((edgesFrom 0 (rs.take k) ++ pos.map fun x => ⟨x.p, hp, false, k⟩) ++ (neg.take (i + 1)).map fun x => ⟨x.p, hp, true, k⟩))) := by
                rw [HE.out, List.map_append, ← List.append_assoc, ecells_append]
                have e : ecells ([(⟨xp, xa⟩ : Pt)].map fun x => (⟨x.p, hp, true, k⟩ : E)) = E.cells ⟨xp, hp, true, k⟩ := by simp [ecells]
                rw [e]
                first | exact Lib.hid hown3 | (rw [List.map_take]; exact Lib.hid hown3) | (rw [List.map_take, List.append_assoc (edgesFrom 0 (rs.take k))]; exact Lib.hid hown3)
              clear hown hown3 hg3
              have r0 := hx3.out.cell 0
              have r2 := hx3.out.cell 4
              simp only [List.getElem?_cons_zero, List.getElem?_cons_succ] at r0 r2
              have r4 := (hb3.out.cell (p := ⟨B2, off2 + i * 2, none⟩) hB2).trans ((hb.out.cell (p := ⟨B2, off2 + i * 2, none⟩) hB2).symm.trans Hgp.out)
              refine tailQ_normal (fun _ => (HCi.out _).2 ⟨r0, r2, r4⟩) ?_
              clear r0 r2 r4
              refine wpTail_cons ?_
              go_wp2
              refine tailQ_normal (fun h => by cases h) ?_
              refine wpTail_nil ?_
              go_wp2
              go_roundg (n2 - (i + 1))
              case measure => have := HG3.out; omega
              case rel => exact ⟨i + 1, by go_num, by omega, rfl, hb3, ho3, hx3⟩
            · obtain rfl : i = n2 := by omega
              have f4 := hx.out.cell 4
              simp only [List.getElem?_cons_zero, List.getElem?_cons_succ] at f4
              have HO : Hid (wr.ownsRow R 43 4 u3 (edgesFrom 0 (rs.take (k + 1))).length (ecells (edgesFrom 0 (rs.take (k + 1))))) := by
                have h := ho.out
                have e : neg.take i = neg := List.take_of_length_le (by have := HL2.out; omega)
                rw [e] at h
                rw [HEQ.out]
                simp only [ruleEdges, List.length_append, List.length_map]
                rw [HL1.out, HL2.out, ← List.append_assoc, ← Nat.add_assoc]
                exact Lib.hid h
              clear f4 ho hx
              go_wp2
              go_roundg (m - (k + 1))
              case measure => have := HG.out; omega
              case rel => exact ⟨k + 1, by go_num, by omega, rfl, hb, HO⟩
    · obtain rfl : m = k := by omega
      go_wp2
      go_ret
      have h := ho.out
      rw [List.take_of_length_le (by have := HL.out; omega)] at h
      exact ⟨_, rfl, h, hb.out⟩
end Go.Proofs.Ytefpglaipnnggaa
