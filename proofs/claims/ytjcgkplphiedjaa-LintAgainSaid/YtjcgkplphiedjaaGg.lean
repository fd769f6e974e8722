/- Things and parts in memory; the document's same and part. | The document's part. | The document's flat: a clause's head and literals as parts. -/
import Derived.Test.YtjcgkplphiedjaaGf
import Derived.Test.YtjcgkplphiedjaaGc
namespace Go.Proofs.Ytjcgkplphiedjaa
open Go.RowKit Go.Sort

def Th.cells (a : Th) : List Value := [.int .i64 a.k, .int .i64 a.i, .string a.t, .int .i64 (a.own : Int)]
def thcells (l : List Th) : List Value := l.flatMap Th.cells
theorem thcells_length (l : List Th) : (thcells l).length = l.length * 4 := flat_length Th.cells 4 (fun _ => rfl) l
theorem thcells_append (a b : List Th) : thcells (a ++ b) = thcells a ++ thcells b := by simp [thcells]
theorem Th.one (x : Th) : ∀ u ∈ x.cells, u.oneCell' = true := by
  intro u hu
  simp only [Th.cells, List.mem_cons, List.not_mem_nil, or_false] at hu
  rcases hu with rfl | rfl | rfl | rfl <;> rfl
theorem ths_one (es : List Th) : ∀ u ∈ thcells es, u.oneCell' = true := by
  intro u hu
  obtain ⟨e, he, hu⟩ := List.mem_flatMap.1 hu
  exact e.one u hu

set_option maxRecDepth 20000 in
set_option maxHeartbeats 2000000 in
theorem same_ref (a b : Th) (w : World) :
    Calls Try.prog 81 #[.agg a.cells.toArray, .agg b.cells.toArray] w fun e w' => e = .returned (.bool (decide (a = b))) ∧ Below w.heap.size w w' := by
  obtain ⟨k, i, t, p⟩ := a
  obtain ⟨k', i', t', p'⟩ := b
  have HV : Hid (decide ((⟨k, i, t, p⟩ : Th) = ⟨k', i', t', p'⟩) = decide (k = k' ∧ i = i' ∧ t = t' ∧ p = p')) := Lib.hid (by simp only [Th.mk.injEq])
  show Calls Try.prog 81 #[.agg #[.int .i64 k, .int .i64 i, .string t, .int .i64 (p : Int)], .agg #[.int .i64 k', .int .i64 i', .string t', .int .i64 (p' : Int)]] w _
  generalize decide ((⟨k, i, t, p⟩ : Th) = ⟨k', i', t', p'⟩) = v at *
  go_enter Try.func81, Try.ntmps81
  go_upto_region 1 with (fail)
  obtain ⟨hb3, h1, h2, hs3⟩ := two_alloc w 130 130 [.int .i64 k, .int .i64 i, .string t, .int .i64 (p : Int)] [.int .i64 k', .int .i64 i', .string t', .int .i64 (p' : Int)]
  generalize World.alloc (World.alloc _ _) _ = w1 at *
  generalize hR : w.heap.size = R at *
  have HRR := Lib.hid hR
  clear hR
  have HB1 := Lib.hid hb3
  have f0 := h1.cell 0
  have f1 := h1.cell 1
  have f2 := h1.cell 2
  have f3 := h1.cell 3
  have g0 := h2.cell 0
  have g1 := h2.cell 1
  have g2 := h2.cell 2
  have g3 := h2.cell 3
  simp only [List.getElem?_cons_zero, List.getElem?_cons_succ] at f0 f1 f2 f3 g0 g1 g2 g3
  clear h1 h2 hb3 hs3
  by_cases e1 : k = k'
  · subst e1
    by_cases e2 : i = i'
    · subst e2
      by_cases e3 : t = t'
      · subst e3
        by_cases e4 : p = p'
        · subst e4
          have hz : v = true := by rw [HV.out]; simp
          subst hz
          clear HV
          go_wp2
          go_ret
          exact ⟨by rfl, by rw [HRR.out]; exact HB1.out⟩
        · have hz : v = false := by rw [HV.out]; simp [e4]
          subst hz
          clear HV
          have t1 : ((p : Int) == (p' : Int)) = false := by simpa using (fun h => e4 (by omega))
          clear e4
          go_wp2
          go_ret
          exact ⟨by rfl, by rw [HRR.out]; exact HB1.out⟩
      · have hz : v = false := by rw [HV.out]; simp [e3]
        subst hz
        clear HV
        have t1 : (t.toList == t'.toList) = false := by simp only [beq_eq_false_iff_ne]; exact fun h => e3 (toList_inj h)
        clear e3
        go_wp2
        go_ret
        exact ⟨by rfl, by rw [HRR.out]; exact HB1.out⟩
    · have hz : v = false := by rw [HV.out]; simp [e2]
      subst hz
      clear HV
      have t1 : (i == i') = false := by simpa using e2
      clear e2
      go_wp2
      go_ret
      exact ⟨by rfl, by rw [HRR.out]; exact HB1.out⟩
  · have hz : v = false := by rw [HV.out]; simp [e1]
    subst hz
    clear HV
    have t1 : (k == k') = false := by simpa using e1
    clear e1
    go_wp2
    go_ret
    exact ⟨by rfl, by rw [HRR.out]; exact HB1.out⟩
end Go.Proofs.Ytjcgkplphiedjaa

namespace Go.Proofs.Ytjcgkplphiedjaa
open Go.RowKit Go.Sort

theorem cnt_append : ∀ (xs ys : List T), cnt (xs ++ ys) = cnt xs + cnt ys
  | [], ys => by simp [cnt]
  | x :: xs, ys => by rw [List.cons_append, cnt, cnt, cnt_append xs ys]; omega
theorem cnt_le : ∀ (xs : List T), cnt xs ≤ xs.length
  | [] => by simp [cnt]
  | x :: xs => by
    rw [cnt, List.length_cons]
    have := cnt_le xs
    split <;> omega
theorem num_snoc (m : Nat) (ts : List T) (k : Nat) (h : k < ts.length) : num m (ts.take (k + 1)) = num m (ts.take k) ++ [ts[k].th (if ts[k].nn = true then m + cnt (ts.take k) + 1 else 0)] := by
  rw [take_snoc _ _ h, num_append, num, num, num]
  by_cases e : ts[k].nn = true
  · rw [if_pos e, if_pos e]
  · rw [if_neg e, if_neg e]
theorem cnt_snoc (ts : List T) (k : Nat) (h : k < ts.length) : cnt (ts.take (k + 1)) = cnt (ts.take k) + (if ts[k].nn = true then 1 else 0) := by
  rw [take_snoc _ _ h, cnt_append, cnt, cnt, Nat.add_zero]

theorem Try.info130 : (Try.prog.info? 130).map (fun i => (i.zero, i.size, i.bytes)) = some (some (.agg #[.int .i64 0, .int .i64 0, .string ⟨#[]⟩, .int .i64 0]), 4, 40) := by kernel_rfl
theorem Try.info90 : (Try.prog.info? 90).map (fun i => (i.zero, i.size, i.bytes)) = some (some (.agg #[.int .i64 0, .string ⟨#[]⟩, .int .i64 0, .slice none 0 0]), 4, 56) := by kernel_rfl

set_option maxRecDepth 20000 in
set_option maxHeartbeats 4000000 in
theorem part_ref (kd op : Int) (pr : ByteArray) (A : Option Addr) (n c m : Nat) (ts : List T) (w : World) (hr : Rd w w.heap.size 4 A n (tcells ts)) (h40 : n * 40 ≤ 140737488351232) (hm : m + n ≤ 9223372036854775807) :
    Calls Try.prog 80 #[.int .i64 kd, .string pr, .int .i64 op, .slice A n c, .int .i64 (m : Int)] w fun e w' => ∃ A' c', e = .returned (.tuple #[.agg #[.int .i64 kd, .string pr, .int .i64 op, .slice A' n c'], .int .i64 ((m + cnt ts : Nat) : Int)]) ∧
      w'.ownsRow w.heap.size 130 4 (.slice A' n c') n (thcells (num m ts)) ∧ Below w.heap.size w w' := by
  obtain ⟨i0, hi, hz0, hz1, hz2⟩ := info_parts Try.info130
  have hl : ts.length = n := by have := hr.1; rw [tcells_length] at this; omega
  have hnb := hr.2.1
  have HR := Lib.hid hr
  have HL := Lib.hid hl
  clear hr hl
  go_enter Try.func80, Try.ntmps80
  go_upto_region 2 with (fail)
  obtain ⟨hb3, h1, h2, hs3⟩ := two_alloc w 90 90 [.int .i64 0, .string ⟨#[]⟩, .int .i64 0, .slice none 0 0] [.int .i64 kd, .string pr, .int .i64 op, .slice none 0 0]
  generalize World.alloc (World.alloc _ _) _ = w1 at *
  generalize hR : w.heap.size = R at *
  have HRR := Lib.hid hR
  clear hR
  have HB1 := Lib.hid hb3
  have H1 := Lib.hid h1
  have H2 := Lib.hid h2
  clear h1 h2 hb3 hs3
  go_wp2
  go_loopg [4, 13] n (fun gk u4 u13 wr => ∃ (k : Nat) (vb : Value), u13 = .int .i64 k ∧ u4 = .int .i64 ((m + cnt (ts.take k) : Nat) : Int) ∧ k ≤ n ∧ Hid (gk = n - k) ∧ Hid (Below R w wr) ∧ Hid (Blk wr R 90 [.int .i64 0, .string ⟨#[]⟩, .int .i64 0, .slice none 0 0]) ∧
    Hid (Blk wr (R + 1) 90 [.int .i64 kd, .string pr, .int .i64 op, vb]) ∧ Hid (wr.ownsRow R 130 4 vb k (thcells (num m (ts.take k)))))
  case atStart => exact ⟨0, .slice none 0 0, rfl, rfl, Nat.zero_le _, Lib.hid (by omega), HB1, H1, H2, Lib.hid (World.ownsRow_nil _ _ _ _)⟩
  case round =>
    clear HB1 H1 H2
    obtain ⟨k, vb, rfl, rfl, hk, HG, HB, H1, H2, HV⟩ := hrel
    by_cases hlt : k < n
    · obtain ⟨b, o, hk1, rfl, hB, c0, c1, c2, c3⟩ := (HR.out.below HB.out).term k hlt
      have HN := Lib.hid (num_snoc m ts k hk1)
      have HC := Lib.hid (cnt_snoc ts k hk1)
      have hcl : cnt (ts.take k) ≤ k := Nat.le_trans (cnt_le _) (by rw [List.length_take]; exact Nat.min_le_left _ _)
      generalize cnt (ts.take k) = q at *
      generalize hE : ts[k] = x at *
      clear hE
      obtain ⟨xk, xi, xt, xo⟩ := x
      dsimp only at c0 c1 c2 c3
      go_upto_region 7 with (fail)
      obtain ⟨hb3, h3, h4, hs3⟩ := two_alloc wr 33 130 [.int .i64 xk, .int .i64 xi, .string xt, .int .i64 xo] [.int .i64 xk, .int .i64 xi, .string xt, .int .i64 0]
      generalize World.alloc (World.alloc _ _) _ = w2 at *
      have hbz := HB.out.trans (hb3.mono (HRR.out ▸ HB.out.size))
      have hl2 := H2.out.lt
      have K1 := Lib.hid (H1.out.below hb3 H1.out.lt)
      have K2 := Lib.hid (H2.out.below hb3 hl2)
      have KV := Lib.hid (own_below HV.out hb3)
      have KL : Hid (∀ q, vb.ownBlock = some q → q < wr.heap.size) := Lib.hid fun q hq => (HV.out.lt q hq).2
      have KB := Lib.hid hbz
      have f0 := h3.cell 0
      have f2 := h3.cell 2
      simp only [List.getElem?_cons_zero, List.getElem?_cons_succ] at f0 f2
      clear HB H1 H2 HV hb3 hbz c0 c1 c2 c3
      generalize hZ : wr.heap.size = Z at *
      have HZ := Lib.hid hZ
      clear hZ
      have HC1 : Hid ((m : Int) + (q : Int) + 1 = ((m + q + 1 : Nat) : Int)) := Lib.hid (by omega)
      have hlt3 := h4.lt
      have HX := Lib.hid h4
      clear h3 h4 hs3
      by_cases k4 : xk = 4
      · subst k4
        cases ht : (xt.toList == [95]) with
        | true =>
          have hnn : (⟨4, xi, xt, xo⟩ : T).nn = true := by show ((4 : Int) == 4 && (xt.toList == [95])) = true; rw [ht]; rfl
          rw [hnn, if_pos rfl] at HN HC
          have z3 := HX.out.frozen 3
          have g3 := HX.out.cell 3
          simp only [List.getElem?_cons_zero, List.getElem?_cons_succ] at g3
          go_upto_region 10 with (fail)
          have H4 := Lib.hid (HX.out.set_ 3 (.int .i64 ((m : Int) + (q : Int) + 1)))
          have J1 := Lib.hid (K1.out.far (p := ⟨Z + 1, 3, none⟩) (by show R ≠ Z + 1; omega) (.int .i64 ((m : Int) + (q : Int) + 1)))
          have J2 := Lib.hid (K2.out.far (p := ⟨Z + 1, 3, none⟩) (by show R + 1 ≠ Z + 1; omega) (.int .i64 ((m : Int) + (q : Int) + 1)))
          have JV := Lib.hid (ownsRow_setCell_other KV.out (a := ⟨Z + 1, 3, none⟩) (fun e => by have h1 := KL.out _ e; have h2 := HZ.out; simp only at h1; omega) (.int .i64 ((m : Int) + (q : Int) + 1)))
          have JB := Lib.hid (KB.out.setCell (p := ⟨Z + 1, 3, none⟩) (by show R ≤ Z + 1; omega) (.int .i64 ((m : Int) + (q : Int) + 1)))
          simp only [List.set_cons_succ, List.set_cons_zero] at H4
          clear HX K1 K2 KV KB KL z3 g3
          have K1 := J1
          have K2 := J2
          have KV := JV
          have KB := JB
          clear J1 J2 JV JB
          generalize World.setCell _ _ _ = w2 at *
          rw [HC1.out] at H4
          clear f0 f2
          simp only [T.th] at HN
          rw [HC1.out]
          have x0 := H4.out.cell 0
          have x1 := H4.out.cell 1
          have x2 := H4.out.cell 2
          have x3 := H4.out.cell 3
          have y3 := K2.out.cell 3
          simp only [List.getElem?_cons_zero, List.getElem?_cons_succ] at x0 x1 x2 x3 y3
          have hl6 := K2.out.lt
          have hownb := KV.out
          go_wp2_with (at_builtin; go_must (refine wpList_append_own _ rfl _ _ 88 rfl R 130 i0 _ 4 40 Try.underlying88 hi hz0 hz1 hz2 rfl (by decide) _ _ _ rfl (hownb.alloc _) ⟨w2.heap.size, 0, none⟩ 1 1 (Th.cells ⟨4, xi, xt, m + q + 1⟩) rfl rfl (fun j u h => new_cells _ _ _ j u h) (Th.one _) (by unfold maxLen; omega) (by omega) (by simp; omega) ?_))
          intro v7 w7 hown7 hg7 _
          obtain ⟨A7, d7, rfl, hn7⟩ := own_slice hown7
          have a1 := (K1.out.alloc (.cells (Th.cells ⟨4, xi, xt, m + q + 1⟩).toArray 130)).grown hg7 (own_blk_ne hownb K1.out (by decide))
          have a2 := (K2.out.alloc (.cells (Th.cells ⟨4, xi, xt, m + q + 1⟩).toArray 130)).grown hg7 (own_blk_ne hownb K2.out (by decide))
          have BL := (KB.out.alloc (by omega) (.cells (Th.cells ⟨4, xi, xt, m + q + 1⟩).toArray 130)).grown hg7 (by simp; omega) (fun q hq => (hownb.lt q hq).1)
          have V7 : w7.ownsRow R 130 4 (.slice A7 (k + 1) d7) (k + 1) (thcells (num m (ts.take (k + 1)))) := by
            rw [HN.out, thcells_append]; simpa [thcells] using hown7
          have z3 := a2.frozen 3
          have y3' := a2.cell 3
          simp only [List.getElem?_cons_zero, List.getElem?_cons_succ] at y3'
          have hl7 := a2.lt
          have HA1 := Lib.hid a1
          have HA2 := Lib.hid a2
          have HBL := Lib.hid BL
          have HV7 := Lib.hid V7
          clear a1 a2 BL V7 hown7 hownb hg7 K1 K2 KV KB H4 x0 x1 x2 x3 y3 hl6 HN
          go_upto_region 4 with (fail)
          have HG1 := Lib.hid (HA1.out.far (p := ⟨R + 1, 3, none⟩) (by simp) (.slice A7 (k + 1) d7))
          have HG2 := Lib.hid (HA2.out.set_ 3 (.slice A7 (k + 1) d7))
          have HVG := Lib.hid (own_setCell_blk HV7.out HA2.out (by decide) 3 (.slice A7 (k + 1) d7))
          have HBG := Lib.hid (HBL.out.setCell (p := ⟨R + 1, 3, none⟩) (by simp) (.slice A7 (k + 1) d7))
          simp only [List.set_cons_succ, List.set_cons_zero] at HG2
          clear HA1 HA2 HBL HV7 z3 y3' hl7
          generalize World.setCell _ _ _ = w8 at *
          go_wp2
          go_roundg (n - (k + 1))
          case measure => have := HG.out; omega
          case rel => exact ⟨k + 1, (.slice A7 (k + 1) d7), by go_num, by rw [HC.out]; exact congrArg (Value.int .i64) (by omega), by omega, Lib.hid rfl, HBG, HG1, HG2, HVG⟩
        | false =>
          have hnn : (⟨4, xi, xt, xo⟩ : T).nn = false := by show ((4 : Int) == 4 && (xt.toList == [95])) = false; rw [ht]; rfl
          rw [hnn, if_neg (by simp)] at HN HC
          have H4 := HX
          clear HX
          simp only [T.th] at HN
          clear KL
          have x0 := H4.out.cell 0
          have x1 := H4.out.cell 1
          have x2 := H4.out.cell 2
          have x3 := H4.out.cell 3
          have y3 := K2.out.cell 3
          simp only [List.getElem?_cons_zero, List.getElem?_cons_succ] at x0 x1 x2 x3 y3
          have hl6 := K2.out.lt
          have hownb := KV.out
          go_wp2_with (at_builtin; go_must (refine wpList_append_own _ rfl _ _ 88 rfl R 130 i0 _ 4 40 Try.underlying88 hi hz0 hz1 hz2 rfl (by decide) _ _ _ rfl (hownb.alloc _) ⟨w2.heap.size, 0, none⟩ 1 1 (Th.cells ⟨4, xi, xt, 0⟩) rfl rfl (fun j u h => new_cells _ _ _ j u h) (Th.one _) (by unfold maxLen; omega) (by omega) (by simp; omega) ?_))
          intro v7 w7 hown7 hg7 _
          obtain ⟨A7, d7, rfl, hn7⟩ := own_slice hown7
          have a1 := (K1.out.alloc (.cells (Th.cells ⟨4, xi, xt, 0⟩).toArray 130)).grown hg7 (own_blk_ne hownb K1.out (by decide))
          have a2 := (K2.out.alloc (.cells (Th.cells ⟨4, xi, xt, 0⟩).toArray 130)).grown hg7 (own_blk_ne hownb K2.out (by decide))
          have BL := (KB.out.alloc (by omega) (.cells (Th.cells ⟨4, xi, xt, 0⟩).toArray 130)).grown hg7 (by simp; omega) (fun q hq => (hownb.lt q hq).1)
          have V7 : w7.ownsRow R 130 4 (.slice A7 (k + 1) d7) (k + 1) (thcells (num m (ts.take (k + 1)))) := by
            rw [HN.out, thcells_append]; simpa [thcells] using hown7
          have z3 := a2.frozen 3
          have y3' := a2.cell 3
          simp only [List.getElem?_cons_zero, List.getElem?_cons_succ] at y3'
          have hl7 := a2.lt
          have HA1 := Lib.hid a1
          have HA2 := Lib.hid a2
          have HBL := Lib.hid BL
          have HV7 := Lib.hid V7
          clear a1 a2 BL V7 hown7 hownb hg7 K1 K2 KV KB H4 x0 x1 x2 x3 y3 hl6 HN
          go_upto_region 4 with (fail)
          have HG1 := Lib.hid (HA1.out.far (p := ⟨R + 1, 3, none⟩) (by simp) (.slice A7 (k + 1) d7))
          have HG2 := Lib.hid (HA2.out.set_ 3 (.slice A7 (k + 1) d7))
          have HVG := Lib.hid (own_setCell_blk HV7.out HA2.out (by decide) 3 (.slice A7 (k + 1) d7))
          have HBG := Lib.hid (HBL.out.setCell (p := ⟨R + 1, 3, none⟩) (by simp) (.slice A7 (k + 1) d7))
          simp only [List.set_cons_succ, List.set_cons_zero] at HG2
          clear HA1 HA2 HBL HV7 z3 y3' hl7
          generalize World.setCell _ _ _ = w8 at *
          go_wp2
          go_roundg (n - (k + 1))
          case measure => have := HG.out; omega
          case rel => exact ⟨k + 1, (.slice A7 (k + 1) d7), by go_num, by rw [HC.out]; exact congrArg (Value.int .i64) (by omega), by omega, Lib.hid rfl, HBG, HG1, HG2, HVG⟩
      · have hnn : (⟨xk, xi, xt, xo⟩ : T).nn = false := by show (xk == 4 && (xt.toList == [95])) = false; rw [beq_eq_false_iff_ne.2 k4]; rfl
        have t1 : (xk == 4) = false := by simpa using k4
        rw [hnn, if_neg (by simp)] at HN HC
        have H4 := HX
        clear HX k4
        simp only [T.th] at HN
        clear KL
        have x0 := H4.out.cell 0
        have x1 := H4.out.cell 1
        have x2 := H4.out.cell 2
        have x3 := H4.out.cell 3
        have y3 := K2.out.cell 3
        simp only [List.getElem?_cons_zero, List.getElem?_cons_succ] at x0 x1 x2 x3 y3
        have hl6 := K2.out.lt
        have hownb := KV.out
        go_wp2_with (at_builtin; go_must (refine wpList_append_own _ rfl _ _ 88 rfl R 130 i0 _ 4 40 Try.underlying88 hi hz0 hz1 hz2 rfl (by decide) _ _ _ rfl (hownb.alloc _) ⟨w2.heap.size, 0, none⟩ 1 1 (Th.cells ⟨xk, xi, xt, 0⟩) rfl rfl (fun j u h => new_cells _ _ _ j u h) (Th.one _) (by unfold maxLen; omega) (by omega) (by simp; omega) ?_))
        intro v7 w7 hown7 hg7 _
        obtain ⟨A7, d7, rfl, hn7⟩ := own_slice hown7
        have a1 := (K1.out.alloc (.cells (Th.cells ⟨xk, xi, xt, 0⟩).toArray 130)).grown hg7 (own_blk_ne hownb K1.out (by decide))
        have a2 := (K2.out.alloc (.cells (Th.cells ⟨xk, xi, xt, 0⟩).toArray 130)).grown hg7 (own_blk_ne hownb K2.out (by decide))
        have BL := (KB.out.alloc (by omega) (.cells (Th.cells ⟨xk, xi, xt, 0⟩).toArray 130)).grown hg7 (by simp; omega) (fun q hq => (hownb.lt q hq).1)
        have V7 : w7.ownsRow R 130 4 (.slice A7 (k + 1) d7) (k + 1) (thcells (num m (ts.take (k + 1)))) := by
          rw [HN.out, thcells_append]; simpa [thcells] using hown7
        have z3 := a2.frozen 3
        have y3' := a2.cell 3
        simp only [List.getElem?_cons_zero, List.getElem?_cons_succ] at y3'
        have hl7 := a2.lt
        have HA1 := Lib.hid a1
        have HA2 := Lib.hid a2
        have HBL := Lib.hid BL
        have HV7 := Lib.hid V7
        clear a1 a2 BL V7 hown7 hownb hg7 K1 K2 KV KB H4 x0 x1 x2 x3 y3 hl6 HN
        go_upto_region 4 with (fail)
        have HG1 := Lib.hid (HA1.out.far (p := ⟨R + 1, 3, none⟩) (by simp) (.slice A7 (k + 1) d7))
        have HG2 := Lib.hid (HA2.out.set_ 3 (.slice A7 (k + 1) d7))
        have HVG := Lib.hid (own_setCell_blk HV7.out HA2.out (by decide) 3 (.slice A7 (k + 1) d7))
        have HBG := Lib.hid (HBL.out.setCell (p := ⟨R + 1, 3, none⟩) (by simp) (.slice A7 (k + 1) d7))
        simp only [List.set_cons_succ, List.set_cons_zero] at HG2
        clear HA1 HA2 HBL HV7 z3 y3' hl7
        generalize World.setCell _ _ _ = w8 at *
        go_wp2
        go_roundg (n - (k + 1))
        case measure => have := HG.out; omega
        case rel => exact ⟨k + 1, (.slice A7 (k + 1) d7), by go_num, by rw [HC.out]; exact congrArg (Value.int .i64) (by omega), by omega, Lib.hid rfl, HBG, HG1, HG2, HVG⟩
    · obtain rfl : k = n := by omega
      have hall : ts.take k = ts := List.take_of_length_le (by have := HL.out; omega)
      rw [hall] at HV
      rw [hall]
      obtain ⟨Ab, cb, rfl, hnb2⟩ := own_slice HV.out
      have q0 := H2.out.cell 0
      have q1 := H2.out.cell 1
      have q2 := H2.out.cell 2
      have q3 := H2.out.cell 3
      have r0 := H1.out.cell 0
      have r1 := H1.out.cell 1
      have r2 := H1.out.cell 2
      have r3 := H1.out.cell 3
      have s0 := H1.out.frozen 0
      have s1 := H1.out.frozen 1
      have s2 := H1.out.frozen 2
      have s3 := H1.out.frozen 3
      have hl1 := H1.out.lt
      simp only [List.getElem?_cons_zero, List.getElem?_cons_succ] at q0 q1 q2 q3 r0 r1 r2 r3
      have D1 := H1.out.set_ 0 (.int .i64 kd)
      have D2 := D1.set_ 1 (.string pr)
      have D3 := D2.set_ 2 (.int .i64 op)
      have D4 := D3.set_ 3 (.slice Ab k cb)
      have E1 := own_setCell_blk (own_setCell_blk (own_setCell_blk (own_setCell_blk HV.out H1.out (by decide) 0 (.int .i64 kd)) D1 (by decide) 1 (.string pr)) D2 (by decide) 2 (.int .i64 op)) D3 (by decide) 3 (.slice Ab k cb)
      have E4 := (((HB.out.setCell (p := ⟨R, 0, none⟩) (by simp) (.int .i64 kd)).setCell (p := ⟨R, 1, none⟩) (by simp) (.string pr)).setCell (p := ⟨R, 2, none⟩) (by simp) (.int .i64 op)).setCell (p := ⟨R, 3, none⟩) (by simp) (.slice Ab k cb)
      have p0 := D4.cell 0
      have p1 := D4.cell 1
      have p2 := D4.cell 2
      have p3 := D4.cell 3
      simp at p0 p1 p2 p3
      have HE1 := Lib.hid E1
      have HE4 := Lib.hid E4
      clear E1 E4 D1 D2 D3 D4 HB H1 H2 HV
      go_wp2
      refine bodyPost_ret (v := .tuple #[.agg #[.int .i64 kd, .string pr, .int .i64 op, .slice Ab k cb], .int .i64 ((m + cnt ts : Nat) : Int)]) ?_ rfl ⟨Ab, cb, rfl, ?_, ?_⟩
      · simp [results, Try.results80, go_sem, p0, p1, p2, p3]
      · rw [HRR.out]; exact HE1.out
      · rw [HRR.out]; exact HE4.out
end Go.Proofs.Ytjcgkplphiedjaa

namespace Go.Proofs.Ytjcgkplphiedjaa
open Go.RowKit Go.Sort

/-- A part, and where its things lie. -/
structure Pm where
  kind : Int
  pred : ByteArray
  op : Int
  A : Option Addr
  n : Nat
  c : Nat
  ths : List Th
def Pm.cells (x : Pm) : List Value := [.int .i64 x.kind, .string x.pred, .int .i64 x.op, .slice x.A x.n x.c]
def pmcells (l : List Pm) : List Value := l.flatMap Pm.cells
def Pm.pt (x : Pm) : Pt := ⟨x.kind, x.pred, x.op, x.ths⟩
def Pm.own (w : World) (R : Nat) (x : Pm) : Prop := w.ownsRow R 130 4 (.slice x.A x.n x.c) x.n (thcells x.ths)
def Pm.ok (w : World) (x : Pm) : Prop := Rd w w.heap.size 4 x.A x.n (thcells x.ths)
theorem Pm.ok.up {w w' : World} {x : Pm} (h : Pm.ok w x) (hb : Below w.heap.size w w') : Pm.ok w' x := Rd.up h hb hb.size
theorem Pm.one (x : Pm) : ∀ u ∈ x.cells, u.oneCell' = true := by
  intro u hu
  simp only [Pm.cells, List.mem_cons, List.not_mem_nil, or_false] at hu
  rcases hu with rfl | rfl | rfl | rfl <;> rfl
theorem pmcells_length (l : List Pm) : (pmcells l).length = l.length * 4 := flat_length Pm.cells 4 (fun _ => rfl) l
theorem pmcells_append (a b : List Pm) : pmcells (a ++ b) = pmcells a ++ pmcells b := by simp [pmcells]
theorem own_low {w : World} {base e size n : Nat} {v : Value} {xs : List Value} (h : w.ownsRow base e size v n xs) {p : Nat} (hp : p < base) : some p ≠ v.ownBlock := fun e => by
  have := (h.lt p e.symm).1
  omega

theorem pairL_length : ∀ (n : Nat) (ls : List Li), (pairL n ls).length = ls.length
  | _, [] => rfl
  | n, l :: ls => by rw [pairL, List.length_cons, List.length_cons, pairL_length]
theorem pairL_get : ∀ (n : Nat) (ls : List Li) (k : Nat) (h : k < ls.length), (pairL n ls)[k]? = some (ls[k], num (n + cnt ((ls.take k).flatMap Li.terms)) ls[k].terms)
  | _, [], _, h => by simp at h
  | n, l :: ls, 0, _ => by simp [pairL, cnt]
  | n, l :: ls, k + 1, h => by
    rw [pairL, List.getElem?_cons_succ, pairL_get (n + cnt l.terms) ls k (by simpa using h), List.take_succ_cons, List.flatMap_cons, cnt_append, Nat.add_assoc, List.getElem_cons_succ]
theorem parts_snoc (n : Nat) (ls : List Li) (k : Nat) (h : k < ls.length) : ((pairL n ls).map mkPt).take (k + 1) = ((pairL n ls).map mkPt).take k ++ [mkPt (ls[k], num (n + cnt ((ls.take k).flatMap Li.terms)) ls[k].terms)] := by
  rw [List.take_add_one, List.getElem?_map, pairL_get n ls k h]; rfl
theorem terms_snoc (ls : List Li) (k : Nat) (h : k < ls.length) : cnt ((ls.take (k + 1)).flatMap Li.terms) = cnt ((ls.take k).flatMap Li.terms) + cnt ls[k].terms := by
  rw [take_snoc _ _ h, List.flatMap_append, cnt_append]; simp

/-- The count ahead of a literal, and its own terms. -/
theorem terms_bound (es : List T) (ls : List Li) (k : Nat) (h : k < ls.length) : cnt es + cnt ((ls.take k).flatMap Li.terms) + ls[k].terms.length ≤ (es ++ ls.flatMap Li.terms).length := by
  have h1 := cnt_le es
  have h2 := cnt_le ((ls.take k).flatMap Li.terms)
  have h3 : ls.flatMap Li.terms = (ls.take k).flatMap Li.terms ++ ls[k].terms ++ (ls.drop (k + 1)).flatMap Li.terms := by
    rw [List.append_assoc, ← List.flatMap_cons, ← List.drop_eq_getElem_cons h, ← List.flatMap_append, List.take_append_drop]
  rw [List.length_append, h3, List.length_append, List.length_append]
  omega

set_option maxRecDepth 20000 in
set_option maxHeartbeats 8000000 in
theorem flat_ref (x : Cl) (w : World) (hok : Cl.ok w x) (h1 : x.tot.length ≤ 1000000) (h2 : x.ls.length ≤ 1000000) :
    Calls Try.prog 49 #[.agg x.cells.toArray] w fun e w' => ∃ A n c l, e = .returned (.slice A n c) ∧ Rd w' w'.heap.size 4 A n (pmcells l) ∧ (∀ y ∈ l, Pm.ok w' y) ∧ l.map Pm.pt = headPt x :: bodyPts x ∧ Below w.heap.size w w' ∧ n ≤ c ∧ c ≤ 9223372036854775807 := by
  obtain ⟨i0, hi, hz0, hz1, hz2⟩ := info_parts Try.info90
  have HHD : Hid (headPt x = ⟨0, x.h.p, 0, num 0 x.h.es⟩) := Lib.hid rfl
  have HBD : Hid (bodyPts x = (pairL (cnt x.h.es) x.ls).map mkPt) := Lib.hid rfl
  obtain ⟨⟨hp, hA, hn, hc, ho, hes⟩, A, n, c, ls⟩ := x
  obtain ⟨hoh, hrl, hn152, hol⟩ := hok
  dsimp only at hoh hrl hn152 hol h1 h2 HHD HBD
  have hl : ls.length = n := by have := hrl.1; rw [lcells_length] at this; omega
  have hnb := hrl.2.1
  have hhl : hes.length = hn := by have := hoh.1.1; rw [tcells_length] at this; dsimp only at this; omega
  have hhn : hn ≤ 1000000 := by simp only [Cl.tot, List.length_append] at h1; omega
  have HTB : Hid (∀ k, (h : k < ls.length) → cnt hes + cnt ((ls.take k).flatMap Li.terms) + ls[k].terms.length ≤ 1000000) := Lib.hid (fun k h => Nat.le_trans (terms_bound hes ls k h) h1)
  have HHL := Lib.hid hhl
  have HL := Lib.hid hl
  have HH := Lib.hid hoh
  have HRL := Lib.hid hrl
  have HOL := Lib.hid hol
  rw [hl] at h2
  clear hoh hrl hol hl hhl h1
  show Calls Try.prog 49 #[.agg #[.string hp, .slice hA hn hc, .int .i64 ho, .slice A n c]] w _
  go_enter Try.func49, Try.ntmps49
  go_upto_region 1 with (fail)
  have hb1 := (Below.refl w.heap.size w).alloc (Nat.le_refl _) (.cells #[.string hp, .slice hA hn hc, .int .i64 ho, .slice A n c] 45)
  have h1 := Blk.new w 45 [.string hp, .slice hA hn hc, .int .i64 ho, .slice A n c]
  generalize World.alloc _ _ = w1 at *
  generalize hR : w.heap.size = R at *
  have HRR := Lib.hid hR
  clear hR
  have HB1 := Lib.hid hb1
  have H1 := Lib.hid h1
  have f0 := h1.cell 0
  have f1 := h1.cell 1
  simp only [List.getElem?_cons_zero, List.getElem?_cons_succ] at f0 f1
  clear h1 hb1
  have ka := part_ref 0 0 hp hA hn hc 0 hes w1 (HH.out.1.up (HRR.out ▸ HB1.out) HB1.out.size) HH.out.2.2 (by omega)
  rw [Nat.zero_add] at ka
  go_wp2_with fail
  refine ka.mono ?_
  rintro e w2 ⟨A2, c2, rfl, hown2, hb2⟩
  have HB2 := Lib.hid (HB1.out.trans (hb2.mono (HRR.out ▸ HB1.out.size)))
  have HR1 := Lib.hid (HRR.out ▸ HB1.out.size : R ≤ w1.heap.size)
  have H2 := Lib.hid (H1.out.below hb2 H1.out.lt)
  have HO2 := Lib.hid (own_le hown2 HR1.out)
  clear hown2 hb2 H1 HB1 ka f0 f1 HR1
  go_upto_region 3 with (fail)
  have HB3 := Lib.hid (HB2.out.alloc (by have := H2.out.lt; omega) (.cells (Pm.cells ⟨0, hp, 0, A2, hn, c2, num 0 hes⟩).toArray 90))
  have H3 := Lib.hid (H2.out.alloc (.cells (Pm.cells ⟨0, hp, 0, A2, hn, c2, num 0 hes⟩).toArray 90))
  have HP := Lib.hid (Blk.new w2 90 (Pm.cells ⟨0, hp, 0, A2, hn, c2, num 0 hes⟩))
  have HO3 := Lib.hid (HO2.out.alloc (.cells (Pm.cells ⟨0, hp, 0, A2, hn, c2, num 0 hes⟩).toArray 90))
  have hRP : R < w2.heap.size := H2.out.lt
  simp only [Pm.cells] at HB3 H3 HP HO3
  generalize World.alloc _ _ = w3 at *
  generalize w2.heap.size = P at *
  clear HB2 H2 HO2
  have p0 := HP.out.cell 0
  have p1 := HP.out.cell 1
  have p2 := HP.out.cell 2
  have p3 := HP.out.cell 3
  have hl3 := HP.out.lt
  simp only [List.getElem?_cons_zero, List.getElem?_cons_succ] at p0 p1 p2 p3
  go_wp2_with (at_builtin; go_must (refine wpList_append_own _ rfl _ _ 82 rfl (P + 1) 90 i0 _ 4 56 Try.underlying82 hi hz0 hz1 hz2 rfl (by decide) _ _ _ rfl (World.ownsRow_nil _ _ _ _) ⟨w3.heap.size, 0, none⟩ 1 1 (Pm.cells ⟨0, hp, 0, A2, hn, c2, num 0 hes⟩) rfl rfl (fun j u h => new_cells _ _ _ j u h) (Pm.one _) (by unfold maxLen; omega) (by omega) (by simp; omega) ?_))
  intro v4 w4 hown4 hg4 _
  have a1 := (H3.out.alloc (.cells (Pm.cells ⟨0, hp, 0, A2, hn, c2, num 0 hes⟩).toArray 90)).grown hg4 (by simp [Value.ownBlock])
  have a2 := (HP.out.alloc (.cells (Pm.cells ⟨0, hp, 0, A2, hn, c2, num 0 hes⟩).toArray 90)).grown hg4 (by simp [Value.ownBlock])
  have a3 := own_kept_types (HO3.out.alloc (.cells (Pm.cells ⟨0, hp, 0, A2, hn, c2, num 0 hes⟩).toArray 90)) (World.ownsRow_nil _ (P + 1) 90 4) (by decide) hg4
  have BL := (HB3.out.alloc (by omega) (.cells (Pm.cells ⟨0, hp, 0, A2, hn, c2, num 0 hes⟩).toArray 90)).grown hg4 (by simp; omega) (fun q hq => by simp [Value.ownBlock] at hq)
  have HA1 := Lib.hid a1
  have HA2 := Lib.hid a2
  have HA3 : Hid (Pm.own w4 R ⟨0, hp, 0, A2, hn, c2, num 0 hes⟩) := Lib.hid a3
  have HBL := Lib.hid BL
  have HV4 := Lib.hid hown4
  clear a1 a2 a3 BL hown4 hg4 p0 p1 p2 p3 H3 HP HO3 HB3 hl3
  go_upto_region 5 with (fail)
  go_loopg [3, 5, 6] n (fun gk u3 u5 u6 wr => ∃ (k : Nat) (acc : List Pm) (pq : Pm), u6 = .int .i64 k ∧ u5 = .int .i64 ((cnt hes + cnt ((ls.take k).flatMap Li.terms) : Nat) : Int) ∧ k ≤ n ∧ Hid (gk = n - k) ∧ Hid (Below R w wr) ∧ Hid (Blk wr R 45 [.string hp, .slice hA hn hc, .int .i64 ho, .slice A n c]) ∧
    Hid (Blk wr P 90 pq.cells) ∧ Hid (wr.ownsRow (P + 1) 90 4 u3 (k + 1) (pmcells acc)) ∧ Hid (acc.map Pm.pt = ⟨0, hp, 0, num 0 hes⟩ :: ((pairL (cnt hes) ls).map mkPt).take k) ∧ Hid (∀ y ∈ acc, Pm.own wr R y))
  case atStart => exact ⟨0, [⟨0, hp, 0, A2, hn, c2, num 0 hes⟩], ⟨0, hp, 0, A2, hn, c2, num 0 hes⟩, rfl, rfl, Nat.zero_le _, Lib.hid (by omega), HBL, HA1, HA2, Lib.hid (by simpa [pmcells] using HV4.out), Lib.hid rfl, Lib.hid (by simpa using HA3.out)⟩
  case round =>
    clear HBL HA1 HA2 HV4 HA3
    obtain ⟨k, acc, pq, rfl, rfl, hk, HG, HB, H1, HP, HV, HC, HW⟩ := hrel
    have f3 := H1.out.cell 3
    simp only [List.getElem?_cons_zero, List.getElem?_cons_succ] at f3
    by_cases hlt : k < n
    · obtain ⟨b, off, hk1, rfl, hB, hcc⟩ := (HRL.out.below HB.out).at Li.cells 14 (fun _ => rfl) (by omega) k hlt
      have c0 := hcc 0 _ (by omega) rfl
      have c1 := hcc 1 _ (by omega) rfl
      have c2 := hcc 2 _ (by omega) rfl
      have c3 := hcc 3 _ (by omega) rfl
      have c4 := hcc 4 _ (by omega) rfl
      have c5 := hcc 5 _ (by omega) rfl
      have c6 := hcc 6 _ (by omega) rfl
      have c7 := hcc 7 _ (by omega) rfl
      have c8 := hcc 8 _ (by omega) rfl
      have c9 := hcc 9 _ (by omega) rfl
      have c10 := hcc 10 _ (by omega) rfl
      have c11 := hcc 11 _ (by omega) rfl
      have c12 := hcc 12 _ (by omega) rfl
      have c13 := hcc 13 _ (by omega) rfl
      rw [Nat.add_zero] at c0
      clear hcc
      have hz : Li.ok wr ls[k] := At.ok.up (HOL.out ls[k] (List.getElem_mem hk1)) (HRR.out ▸ HB.out)
      have HS := Lib.hid (parts_snoc (cnt hes) ls k hk1)
      have HT := Lib.hid (terms_snoc ls k hk1)
      have htb := HTB.out k hk1
      generalize cnt ((ls.take k).flatMap Li.terms) = q at *
      generalize hE : ls[k] = x at *
      clear hE
      have HZ := Lib.hid hz
      clear hz
      obtain ⟨zk, ⟨zp, zA, zn, zc, zo, zes⟩, zop, ⟨lk, li, lt, lo⟩, ⟨rk, ri, rt, ro⟩, zof⟩ := x
      dsimp only at c0 c1 c2 c3 c4 c5 c6 c7 c8 c9 c10 c11 c12 c13
      go_upto_region 8 with (fail)
      have HBA := Lib.hid ((Below.refl wr.heap.size wr).alloc (Nat.le_refl _) (.cells (Li.cells ⟨zk, ⟨zp, zA, zn, zc, zo, zes⟩, zop, ⟨lk, li, lt, lo⟩, ⟨rk, ri, rt, ro⟩, zof⟩).toArray 61))
      have HX := Lib.hid (Blk.new wr 61 (Li.cells ⟨zk, ⟨zp, zA, zn, zc, zo, zes⟩, zop, ⟨lk, li, lt, lo⟩, ⟨rk, ri, rt, ro⟩, zof⟩))
      have hPZ : P < wr.heap.size := HP.out.lt
      simp only [Li.cells] at HBA HX
      clear c0 c1 c2 c3 c4 c5 c6 c7 c8 c9 c10 c11 c12 c13 f3
      generalize World.alloc _ _ = wa at *
      have HZA := Lib.hid (At.ok.up HZ.out HBA.out)
      have hwa := HBA.out.size
      have hsa := HX.out.lt
      clear HZ
      have x0 := HX.out.cell 0
      have x1 := HX.out.cell 1
      have x2 := HX.out.cell 2
      have x4 := HX.out.cell 4
      have x5 := HX.out.cell 5
      have x6 := HX.out.cell 6
      have x7 := HX.out.cell 7
      have x8 := HX.out.cell 8
      have x9 := HX.out.cell 9
      have x10 := HX.out.cell 10
      have x11 := HX.out.cell 11
      have x12 := HX.out.cell 12
      simp only [List.getElem?_cons_zero, List.getElem?_cons_succ] at x0 x1 x2 x4 x5 x6 x7 x8 x9 x10 x11 x12
      generalize hZ : wr.heap.size = Z at *
      have HZZ := Lib.hid hZ
      clear hZ
      clear HX
      by_cases k3 : zk = 3
      · subst k3
        have hte : (⟨3, ⟨zp, zA, zn, zc, zo, zes⟩, zop, ⟨lk, li, lt, lo⟩, ⟨rk, ri, rt, ro⟩, zof⟩ : Li).terms = [⟨lk, li, lt, lo⟩, ⟨rk, ri, rt, ro⟩] := rfl
        rw [hte] at HS HT htb
        have hba2 := (Below.refl wa.heap.size wa).alloc (Nat.le_refl _) (.cells #[.int .i64 lk, .int .i64 li, .string lt, .int .i64 lo, .int .i64 rk, .int .i64 ri, .string rt, .int .i64 ro] 33)
        have hrd : Rd (wa.alloc (.cells #[.int .i64 lk, .int .i64 li, .string lt, .int .i64 lo, .int .i64 rk, .int .i64 ri, .string rt, .int .i64 ro] 33)) _ 4 (some ⟨wa.heap.size, 0, none⟩) 2 (tcells [⟨lk, li, lt, lo⟩, ⟨rk, ri, rt, ro⟩]) := Rd_new wa #[.int .i64 lk, .int .i64 li, .string lt, .int .i64 lo, .int .i64 rk, .int .i64 ri, .string rt, .int .i64 ro] 33 4 2 rfl (by omega)
        have kp := part_ref 3 zop ⟨#[]⟩ (some ⟨wa.heap.size, 0, none⟩) 2 2 (cnt hes + q) [⟨lk, li, lt, lo⟩, ⟨rk, ri, rt, ro⟩] (wa.alloc (.cells #[.int .i64 lk, .int .i64 li, .string lt, .int .i64 lo, .int .i64 rk, .int .i64 ri, .string rt, .int .i64 ro] 33)) hrd (by omega) (by omega)
        have hsz2 : wa.heap.size ≤ (wa.alloc (.cells #[.int .i64 lk, .int .i64 li, .string lt, .int .i64 lo, .int .i64 rk, .int .i64 ri, .string rt, .int .i64 ro] 33)).heap.size := hba2.size
        clear hrd
        go_wp2_with fail
        refine kp.mono ?_
        rintro e w2 ⟨A5, d5, rfl, hown5, hb5⟩
        have hb5' := HBA.out.trans ((hba2.trans (hb5.mono hsz2)).mono hwa)
        have hown5' := own_le hown5 (Nat.le_trans hwa hsz2)
        clear hba2 hsz2 kp hown5 hb5 x0 x1 x2 x4 x5 x6 x7 x8 x9 x10 x11 x12 HZA HBA
        have hb5 := HZZ.out.symm ▸ hb5'
        have K1 := Lib.hid (H1.out.below hb5' (by omega))
        have KP := Lib.hid (HP.out.below hb5' (by omega))
        have KV := Lib.hid (own_below HV.out hb5)
        have KB := Lib.hid (HB.out.trans (hb5'.mono (by omega)))
        have KO := Lib.hid (own_le hown5' (by omega : R ≤ Z))
        have KW : Hid (∀ y ∈ acc, Pm.own w2 R y) := Lib.hid fun y hy => own_below (HW.out y hy) hb5
        have hsz5 := hb5'.size
        clear hb5 hb5' hown5' H1 HP HV HB HW
        obtain ⟨qk, qp, qo, qA, qn, qc, qt⟩ := pq
        have g0 := KP.out.cell 0
        have g1 := KP.out.cell 1
        have g2 := KP.out.cell 2
        have g3 := KP.out.cell 3
        have s0 := KP.out.frozen 0
        have s1 := KP.out.frozen 1
        have s2 := KP.out.frozen 2
        have s3 := KP.out.frozen 3
        have hlp := KP.out.lt
        simp only [Pm.cells, List.getElem?_cons_zero, List.getElem?_cons_succ] at g0 g1 g2 g3
        have D1 := KP.out.set_ 0 (.int .i64 3)
        have D2 := D1.set_ 1 (.string ⟨#[]⟩)
        have D3 := D2.set_ 2 (.int .i64 zop)
        have D4 := D3.set_ 3 (.slice A5 2 d5)
        have E1 := ((((K1.out.far (p := ⟨P, 0, none⟩) (by show R ≠ P; omega) (.int .i64 3)).far (p := ⟨P, 1, none⟩) (by show R ≠ P; omega) (.string ⟨#[]⟩)).far (p := ⟨P, 2, none⟩) (by show R ≠ P; omega) (.int .i64 zop)).far (p := ⟨P, 3, none⟩) (by show R ≠ P; omega) (.slice A5 2 d5))
        have nv : u3.ownBlock ≠ some P := (own_low KV.out (by omega)).symm
        have EV := ownsRow_setCell_other (ownsRow_setCell_other (ownsRow_setCell_other (ownsRow_setCell_other KV.out (a := ⟨P, 0, none⟩) nv (.int .i64 3)) (a := ⟨P, 1, none⟩) nv (.string ⟨#[]⟩)) (a := ⟨P, 2, none⟩) nv (.int .i64 zop)) (a := ⟨P, 3, none⟩) nv (.slice A5 2 d5)
        have set4 : ∀ (m : Nat) (v : Value) (xs : List Value), w2.ownsRow R 130 4 v m xs → ((((w2.setCell ⟨P, 0, none⟩ (.int .i64 3)).setCell ⟨P, 1, none⟩ (.string ⟨#[]⟩)).setCell ⟨P, 2, none⟩ (.int .i64 zop)).setCell ⟨P, 3, none⟩ (.slice A5 2 d5)).ownsRow R 130 4 v m xs :=
          fun m v xs h => own_setCell_blk (own_setCell_blk (own_setCell_blk (own_setCell_blk h KP.out (by decide) 0 _) D1 (by decide) 1 _) D2 (by decide) 2 _) D3 (by decide) 3 _
        have EO := set4 _ _ _ KO.out
        have EW : ∀ y ∈ acc, Pm.own ((((w2.setCell ⟨P, 0, none⟩ (.int .i64 3)).setCell ⟨P, 1, none⟩ (.string ⟨#[]⟩)).setCell ⟨P, 2, none⟩ (.int .i64 zop)).setCell ⟨P, 3, none⟩ (.slice A5 2 d5)) R y := fun y hy => set4 _ _ _ (KW.out y hy)
        have EB := (((KB.out.setCell (p := ⟨P, 0, none⟩) (by show R ≤ P; omega) (.int .i64 3)).setCell (p := ⟨P, 1, none⟩) (by show R ≤ P; omega) (.string ⟨#[]⟩)).setCell (p := ⟨P, 2, none⟩) (by show R ≤ P; omega) (.int .i64 zop)).setCell (p := ⟨P, 3, none⟩) (by show R ≤ P; omega) (.slice A5 2 d5)
        simp only [Pm.cells, List.set_cons_succ, List.set_cons_zero] at D4
        have LP := Lib.hid D4
        have L1 := Lib.hid E1
        have LV := Lib.hid EV
        have LO := Lib.hid EO
        have LW := Lib.hid EW
        have LB := Lib.hid EB
        clear D1 D2 D3 D4 E1 EV EO EW EB set4 K1 KP KV KB KO KW
        go_upto_region 11 with (fail)
        clear g0 g1 g2 g3 s0 s1 s2 s3 hlp
        generalize World.setCell (World.setCell (World.setCell (World.setCell _ _ _) _ _) _ _) _ _ = w6 at *
        have y0 := LP.out.cell 0
        have y1 := LP.out.cell 1
        have y2 := LP.out.cell 2
        have y3 := LP.out.cell 3
        simp only [List.getElem?_cons_zero, List.getElem?_cons_succ] at y0 y1 y2 y3
        have hl6 := LP.out.lt
        have hownb := LV.out
        go_wp2_with (at_builtin; go_must (refine wpList_append_own _ rfl _ _ 82 rfl (P + 1) 90 i0 _ 4 56 Try.underlying82 hi hz0 hz1 hz2 rfl (by decide) _ _ _ rfl (hownb.alloc _) ⟨w6.heap.size, 0, none⟩ 1 1 (Pm.cells ⟨3, ⟨#[]⟩, zop, A5, 2, d5, num (cnt hes + q) [⟨lk, li, lt, lo⟩, ⟨rk, ri, rt, ro⟩]⟩) rfl rfl (fun j u h => new_cells _ _ _ j u h) (Pm.one _) (by unfold maxLen; omega) (by omega) (by simp; omega) ?_))
        intro v7 w7 hown7 hg7 _
        have a1 := (L1.out.alloc (.cells (Pm.cells ⟨3, ⟨#[]⟩, zop, A5, 2, d5, num (cnt hes + q) [⟨lk, li, lt, lo⟩, ⟨rk, ri, rt, ro⟩]⟩).toArray 90)).grown hg7 (own_low hownb (by omega))
        have a2 := (LP.out.alloc (.cells (Pm.cells ⟨3, ⟨#[]⟩, zop, A5, 2, d5, num (cnt hes + q) [⟨lk, li, lt, lo⟩, ⟨rk, ri, rt, ro⟩]⟩).toArray 90)).grown hg7 (own_low hownb (by omega))
        have BL := (LB.out.alloc (by omega) (.cells (Pm.cells ⟨3, ⟨#[]⟩, zop, A5, 2, d5, num (cnt hes + q) [⟨lk, li, lt, lo⟩, ⟨rk, ri, rt, ro⟩]⟩).toArray 90)).grown hg7 (by simp; omega) (fun q hq => Nat.le_trans (by omega : R ≤ P + 1) (hownb.lt q hq).1)
        have W7 : ∀ y ∈ acc ++ [(⟨3, ⟨#[]⟩, zop, A5, 2, d5, num (cnt hes + q) [⟨lk, li, lt, lo⟩, ⟨rk, ri, rt, ro⟩]⟩ : Pm)], Pm.own w7 R y := by
          intro y hy
          rcases List.mem_append.1 hy with hy | hy
          · exact own_kept_types (World.ownsRow.alloc (LW.out y hy) (.cells (Pm.cells ⟨3, ⟨#[]⟩, zop, A5, 2, d5, num (cnt hes + q) [⟨lk, li, lt, lo⟩, ⟨rk, ri, rt, ro⟩]⟩).toArray 90)) (hownb.alloc _) (by decide) hg7
          · rw [List.mem_singleton.1 hy]
            exact own_kept_types (World.ownsRow.alloc LO.out (.cells (Pm.cells ⟨3, ⟨#[]⟩, zop, A5, 2, d5, num (cnt hes + q) [⟨lk, li, lt, lo⟩, ⟨rk, ri, rt, ro⟩]⟩).toArray 90)) (hownb.alloc _) (by decide) hg7
        have V7 : w7.ownsRow (P + 1) 90 4 v7 (k + 1 + 1) (pmcells (acc ++ [(⟨3, ⟨#[]⟩, zop, A5, 2, d5, num (cnt hes + q) [⟨lk, li, lt, lo⟩, ⟨rk, ri, rt, ro⟩]⟩ : Pm)])) := by
          rw [pmcells_append]; simpa [pmcells] using hown7
        have C7 : (acc ++ [(⟨3, ⟨#[]⟩, zop, A5, 2, d5, num (cnt hes + q) [⟨lk, li, lt, lo⟩, ⟨rk, ri, rt, ro⟩]⟩ : Pm)]).map Pm.pt = ⟨0, hp, 0, num 0 hes⟩ :: ((pairL (cnt hes) ls).map mkPt).take (k + 1) := by
          rw [List.map_append, HC.out, HS.out]; rfl
        have HA1 := Lib.hid a1
        have HA2 := Lib.hid a2
        have HBL := Lib.hid BL
        have HW7 := Lib.hid W7
        have HV7 := Lib.hid V7
        have HC7 := Lib.hid C7
        clear a1 a2 BL W7 V7 C7 hown7 hownb hg7 L1 LP LV LO LW LB y0 y1 y2 y3 hl6 HS HC
        go_wp2
        go_roundg (n - (k + 1))
        case measure => have := HG.out; omega
        case rel => exact ⟨k + 1, _, _, by go_num, by rw [HT.out]; exact congrArg (Value.int .i64) (by omega), by omega, Lib.hid rfl, HBL, HA1, (by exact HA2 : Hid (Blk w7 P 90 (Pm.cells ⟨3, ⟨#[]⟩, zop, A5, 2, d5, num (cnt hes + q) [⟨lk, li, lt, lo⟩, ⟨rk, ri, rt, ro⟩]⟩))), HV7, HC7, HW7⟩
      · have hte : (⟨zk, ⟨zp, zA, zn, zc, zo, zes⟩, zop, ⟨lk, li, lt, lo⟩, ⟨rk, ri, rt, ro⟩, zof⟩ : Li).terms = zes := if_neg k3
        have hmk : ∀ ths, mkPt ((⟨zk, ⟨zp, zA, zn, zc, zo, zes⟩, zop, ⟨lk, li, lt, lo⟩, ⟨rk, ri, rt, ro⟩, zof⟩ : Li), ths) = ⟨zk, zp, 0, ths⟩ := fun ths => if_neg k3
        rw [hte] at HS HT htb
        rw [hmk] at HS
        clear hmk
        have t1 : (zk == 3) = false := by simpa using k3
        have hze : zes.length = zn := by have := HZA.out.1.1; rw [tcells_length] at this; dsimp only at this; omega
        have kp := part_ref zk 0 zp zA zn zc (cnt hes + q) zes wa HZA.out.1 HZA.out.2.2 (by omega)
        clear k3
        go_wp2_with fail
        refine kp.mono ?_
        rintro e w2 ⟨A5, d5, rfl, hown5, hb5⟩
        have hb5' := HBA.out.trans (hb5.mono hwa)
        have hown5' := own_le hown5 hwa
        clear kp hown5 hb5 x0 x1 x2 x4 x5 x6 x7 x8 x9 x10 x11 x12 HZA HBA
        have hb5 := HZZ.out.symm ▸ hb5'
        have K1 := Lib.hid (H1.out.below hb5' (by omega))
        have KP := Lib.hid (HP.out.below hb5' (by omega))
        have KV := Lib.hid (own_below HV.out hb5)
        have KB := Lib.hid (HB.out.trans (hb5'.mono (by omega)))
        have KO := Lib.hid (own_le hown5' (by omega : R ≤ Z))
        have KW : Hid (∀ y ∈ acc, Pm.own w2 R y) := Lib.hid fun y hy => own_below (HW.out y hy) hb5
        have hsz5 := hb5'.size
        clear hb5 hb5' hown5' H1 HP HV HB HW
        obtain ⟨qk, qp, qo, qA, qn, qc, qt⟩ := pq
        have g0 := KP.out.cell 0
        have g1 := KP.out.cell 1
        have g2 := KP.out.cell 2
        have g3 := KP.out.cell 3
        have s0 := KP.out.frozen 0
        have s1 := KP.out.frozen 1
        have s2 := KP.out.frozen 2
        have s3 := KP.out.frozen 3
        have hlp := KP.out.lt
        simp only [Pm.cells, List.getElem?_cons_zero, List.getElem?_cons_succ] at g0 g1 g2 g3
        have D1 := KP.out.set_ 0 (.int .i64 zk)
        have D2 := D1.set_ 1 (.string zp)
        have D3 := D2.set_ 2 (.int .i64 0)
        have D4 := D3.set_ 3 (.slice A5 zn d5)
        have E1 := ((((K1.out.far (p := ⟨P, 0, none⟩) (by show R ≠ P; omega) (.int .i64 zk)).far (p := ⟨P, 1, none⟩) (by show R ≠ P; omega) (.string zp)).far (p := ⟨P, 2, none⟩) (by show R ≠ P; omega) (.int .i64 0)).far (p := ⟨P, 3, none⟩) (by show R ≠ P; omega) (.slice A5 zn d5))
        have nv : u3.ownBlock ≠ some P := (own_low KV.out (by omega)).symm
        have EV := ownsRow_setCell_other (ownsRow_setCell_other (ownsRow_setCell_other (ownsRow_setCell_other KV.out (a := ⟨P, 0, none⟩) nv (.int .i64 zk)) (a := ⟨P, 1, none⟩) nv (.string zp)) (a := ⟨P, 2, none⟩) nv (.int .i64 0)) (a := ⟨P, 3, none⟩) nv (.slice A5 zn d5)
        have set4 : ∀ (m : Nat) (v : Value) (xs : List Value), w2.ownsRow R 130 4 v m xs → ((((w2.setCell ⟨P, 0, none⟩ (.int .i64 zk)).setCell ⟨P, 1, none⟩ (.string zp)).setCell ⟨P, 2, none⟩ (.int .i64 0)).setCell ⟨P, 3, none⟩ (.slice A5 zn d5)).ownsRow R 130 4 v m xs :=
          fun m v xs h => own_setCell_blk (own_setCell_blk (own_setCell_blk (own_setCell_blk h KP.out (by decide) 0 _) D1 (by decide) 1 _) D2 (by decide) 2 _) D3 (by decide) 3 _
        have EO := set4 _ _ _ KO.out
        have EW : ∀ y ∈ acc, Pm.own ((((w2.setCell ⟨P, 0, none⟩ (.int .i64 zk)).setCell ⟨P, 1, none⟩ (.string zp)).setCell ⟨P, 2, none⟩ (.int .i64 0)).setCell ⟨P, 3, none⟩ (.slice A5 zn d5)) R y := fun y hy => set4 _ _ _ (KW.out y hy)
        have EB := (((KB.out.setCell (p := ⟨P, 0, none⟩) (by show R ≤ P; omega) (.int .i64 zk)).setCell (p := ⟨P, 1, none⟩) (by show R ≤ P; omega) (.string zp)).setCell (p := ⟨P, 2, none⟩) (by show R ≤ P; omega) (.int .i64 0)).setCell (p := ⟨P, 3, none⟩) (by show R ≤ P; omega) (.slice A5 zn d5)
        simp only [Pm.cells, List.set_cons_succ, List.set_cons_zero] at D4
        have LP := Lib.hid D4
        have L1 := Lib.hid E1
        have LV := Lib.hid EV
        have LO := Lib.hid EO
        have LW := Lib.hid EW
        have LB := Lib.hid EB
        clear D1 D2 D3 D4 E1 EV EO EW EB set4 K1 KP KV KB KO KW
        go_upto_region 11 with (fail)
        clear g0 g1 g2 g3 s0 s1 s2 s3 hlp
        generalize World.setCell (World.setCell (World.setCell (World.setCell _ _ _) _ _) _ _) _ _ = w6 at *
        have y0 := LP.out.cell 0
        have y1 := LP.out.cell 1
        have y2 := LP.out.cell 2
        have y3 := LP.out.cell 3
        simp only [List.getElem?_cons_zero, List.getElem?_cons_succ] at y0 y1 y2 y3
        have hl6 := LP.out.lt
        have hownb := LV.out
        go_wp2_with (at_builtin; go_must (refine wpList_append_own _ rfl _ _ 82 rfl (P + 1) 90 i0 _ 4 56 Try.underlying82 hi hz0 hz1 hz2 rfl (by decide) _ _ _ rfl (hownb.alloc _) ⟨w6.heap.size, 0, none⟩ 1 1 (Pm.cells ⟨zk, zp, 0, A5, zn, d5, num (cnt hes + q) zes⟩) rfl rfl (fun j u h => new_cells _ _ _ j u h) (Pm.one _) (by unfold maxLen; omega) (by omega) (by simp; omega) ?_))
        intro v7 w7 hown7 hg7 _
        have a1 := (L1.out.alloc (.cells (Pm.cells ⟨zk, zp, 0, A5, zn, d5, num (cnt hes + q) zes⟩).toArray 90)).grown hg7 (own_low hownb (by omega))
        have a2 := (LP.out.alloc (.cells (Pm.cells ⟨zk, zp, 0, A5, zn, d5, num (cnt hes + q) zes⟩).toArray 90)).grown hg7 (own_low hownb (by omega))
        have BL := (LB.out.alloc (by omega) (.cells (Pm.cells ⟨zk, zp, 0, A5, zn, d5, num (cnt hes + q) zes⟩).toArray 90)).grown hg7 (by simp; omega) (fun q hq => Nat.le_trans (by omega : R ≤ P + 1) (hownb.lt q hq).1)
        have W7 : ∀ y ∈ acc ++ [(⟨zk, zp, 0, A5, zn, d5, num (cnt hes + q) zes⟩ : Pm)], Pm.own w7 R y := by
          intro y hy
          rcases List.mem_append.1 hy with hy | hy
          · exact own_kept_types (World.ownsRow.alloc (LW.out y hy) (.cells (Pm.cells ⟨zk, zp, 0, A5, zn, d5, num (cnt hes + q) zes⟩).toArray 90)) (hownb.alloc _) (by decide) hg7
          · rw [List.mem_singleton.1 hy]
            exact own_kept_types (World.ownsRow.alloc LO.out (.cells (Pm.cells ⟨zk, zp, 0, A5, zn, d5, num (cnt hes + q) zes⟩).toArray 90)) (hownb.alloc _) (by decide) hg7
        have V7 : w7.ownsRow (P + 1) 90 4 v7 (k + 1 + 1) (pmcells (acc ++ [(⟨zk, zp, 0, A5, zn, d5, num (cnt hes + q) zes⟩ : Pm)])) := by
          rw [pmcells_append]; simpa [pmcells] using hown7
        have C7 : (acc ++ [(⟨zk, zp, 0, A5, zn, d5, num (cnt hes + q) zes⟩ : Pm)]).map Pm.pt = ⟨0, hp, 0, num 0 hes⟩ :: ((pairL (cnt hes) ls).map mkPt).take (k + 1) := by
          rw [List.map_append, HC.out, HS.out]; rfl
        have HA1 := Lib.hid a1
        have HA2 := Lib.hid a2
        have HBL := Lib.hid BL
        have HW7 := Lib.hid W7
        have HV7 := Lib.hid V7
        have HC7 := Lib.hid C7
        clear a1 a2 BL W7 V7 C7 hown7 hownb hg7 L1 LP LV LO LW LB y0 y1 y2 y3 hl6 HS HC
        go_wp2
        go_roundg (n - (k + 1))
        case measure => have := HG.out; omega
        case rel => exact ⟨k + 1, _, _, by go_num, by rw [HT.out]; exact congrArg (Value.int .i64) (by omega), by omega, Lib.hid rfl, HBL, HA1, (by exact HA2 : Hid (Blk w7 P 90 (Pm.cells ⟨zk, zp, 0, A5, zn, d5, num (cnt hes + q) zes⟩))), HV7, HC7, HW7⟩
    · obtain rfl : k = n := by omega
      have hall : ((pairL (cnt hes) ls).map mkPt).take k = (pairL (cnt hes) ls).map mkPt := List.take_of_length_le (by rw [List.length_map, pairL_length]; have := HL.out; omega)
      rw [hall] at HC
      obtain ⟨Ab, cb, rfl, hnb2⟩ := own_slice HV.out
      go_wp2
      go_ret
      obtain ⟨g5, cap5, cur5, hv5, _, _, hnc5, hcm5, _, _⟩ := own_blk HV.out (by omega)
      injection hv5 with _ _ hc5
      subst hc5
      refine ⟨Ab, k + 1, cb, acc, rfl, own_rd HV.out, fun y hy => own_rd (HW.out y hy), ?_, ?_, hnc5, by unfold maxLen at hcm5; omega⟩
      · rw [HC.out, HHD.out, HBD.out]
      · rw [HRR.out]; exact HB.out
end Go.Proofs.Ytjcgkplphiedjaa
