/- Rules, and their edges. -/
import Derived.Test.YtefpglaipnnggaaC2
import Derived.Deep.DeepCutAuto
namespace Go.Proofs.Ytefpglaipnnggaa
open Go.RowKit

/-- A slice of which only the value is known. -/
structure Sl where
  A : Option Addr
  n : Nat
  c : Nat
abbrev Sl.v (s : Sl) : Value := .slice s.A s.n s.c
/-- A pattern: its predicate, and what its second cell holds. -/
structure Pt where
  p : Int
  a : Sl
def Pt.cells (e : Pt) : List Value := [.int .i64 e.p, .slice e.a.A e.a.n e.a.c]
def pcells (l : List Pt) : List Value := l.flatMap Pt.cells

/-- A rule: its seven cells; the lists of its patterns. -/
structure Ru where
  h : Pt
  s1 : Sl
  pos : List Pt
  ts : Sl
  s2 : Sl
  neg : List Pt
  vs : Sl
  cl : Int
def Ru.cells (r : Ru) : List Value := [.int .i64 r.h.p, .slice r.h.a.A r.h.a.n r.h.a.c, .slice r.s1.A r.s1.n r.s1.c, .slice r.ts.A r.ts.n r.ts.c, .slice r.s2.A r.s2.n r.s2.c, .slice r.vs.A r.vs.n r.vs.c, .int .i64 r.cl]
def rcells (l : List Ru) : List Value := l.flatMap Ru.cells
/-- What its lists read as. -/
def Ru.ok (w : World) (r : Ru) : Prop := Rd w w.heap.size 2 r.s1.A r.s1.n (pcells r.pos) ∧ Rd w w.heap.size 2 r.s2.A r.s2.n (pcells r.neg)

theorem flat_at {α : Type} (f : α → List Value) (s : Nat) (hf : ∀ x, (f x).length = s) (l : List α) (k j : Nat) (hk : k < l.length) (hj : j < s) : (l.flatMap f)[k * s + j]? = (f l[k])[j]? := by
  induction l generalizing k with
  | nil => simp at hk
  | cons e es ih =>
    cases k with
    | zero =>
      simp only [List.flatMap_cons, Nat.zero_mul, Nat.zero_add, List.getElem_cons_zero]
      rw [List.getElem?_append_left (by rw [hf]; exact hj)]
    | succ k =>
      simp only [List.flatMap_cons, List.getElem_cons_succ]
      have e1 : (k + 1) * s + j = s + (k * s + j) := by rw [Nat.succ_mul]; omega
      rw [List.getElem?_append_right (by rw [hf]; omega), hf, e1, Nat.add_sub_cancel_left]
      exact ih k (by simpa using hk)
theorem flat_length {α : Type} (f : α → List Value) (s : Nat) (hf : ∀ x, (f x).length = s) (l : List α) : (l.flatMap f).length = l.length * s := by
  induction l with
  | nil => simp
  | cons e es ih => rw [List.flatMap_cons, List.length_append, hf, ih, List.length_cons, Nat.succ_mul]; omega

theorem Rd.at {α : Type} (f : α → List Value) (s : Nat) (hf : ∀ x, (f x).length = s) {w : World} {B : Nat} {A : Option Addr} {n : Nat} {l : List α} (h : Rd w B s A n (l.flatMap f)) (hs : 0 < s) (k : Nat) (hk : k < n) :
    ∃ b o, ∃ h2 : k < l.length, A = some ⟨b, o, none⟩ ∧ b < B ∧ ∀ j u, j < s → (f l[k])[j]? = some u → w.cell? ⟨b, o + k * s + j, none⟩ = some u := by
  obtain ⟨h1, h2, h3⟩ := h
  obtain ⟨b, o, hA, hb, hc⟩ := h3 (by omega)
  rw [flat_length f s hf] at h1
  have hl : l.length = n := Nat.eq_of_mul_eq_mul_right hs h1
  refine ⟨b, o, by omega, hA, hb, fun j u hj hu => ?_⟩
  rw [Nat.add_assoc]
  exact hc _ _ (by rw [flat_at f s hf l k j (by omega) hj]; exact hu)

/-- The edges that a rule gives. -/
def ruleEdges (i : Nat) (r : Ru) : List E := r.pos.map (fun x => ⟨x.p, r.h.p, false, i⟩) ++ r.neg.map (fun x => ⟨x.p, r.h.p, true, i⟩)
def edgesFrom : Nat → List Ru → List E
  | _, [] => []
  | i, r :: rs => ruleEdges i r ++ edgesFrom (i + 1) rs
theorem edgesFrom_append : ∀ (i : Nat) (a b : List Ru), edgesFrom i (a ++ b) = edgesFrom i a ++ edgesFrom (i + a.length) b
  | i, [], b => by simp [edgesFrom]
  | i, r :: a, b => by
    simp only [List.cons_append, edgesFrom, List.append_assoc, edgesFrom_append (i + 1) a b, List.length_cons]
    rw [show i + 1 + a.length = i + (a.length + 1) by omega]
theorem edges_snoc (rs : List Ru) (k : Nat) (h : k < rs.length) : edgesFrom 0 (rs.take (k + 1)) = edgesFrom 0 (rs.take k) ++ ruleEdges k rs[k] := by
  rw [take_snoc _ _ h, edgesFrom_append]
  simp [edgesFrom, Nat.min_eq_left (Nat.le_of_lt h)]

theorem edges_le (rs : List Ru) (k : Nat) : (edgesFrom 0 (rs.take k)).length ≤ (edgesFrom 0 rs).length := by
  have h := edgesFrom_append 0 (rs.take k) (rs.drop k)
  rw [List.take_append_drop] at h
  rw [h, List.length_append]; omega

set_option maxRecDepth 20000 in
set_option maxHeartbeats 2000000 in
theorem progEdges_any (A : Option Addr) (m c : Nat) (rs : List Ru) (w : World) (hr : Rd w w.heap.size 7 A m (rcells rs)) (hok : ∀ r ∈ rs, Ru.ok w r) (hsum : (edgesFrom 0 rs).length * 32 ≤ 140737488351232) :
    Calls Try.prog 17 #[.slice A m c] w fun e w' => ∃ v, e = .returned v ∧ w'.ownsRow w.heap.size 43 4 v (edgesFrom 0 rs).length (ecells (edgesFrom 0 rs)) ∧ Below w.heap.size w w' := by
  obtain ⟨i0, hi, hz0, hz1, hz2⟩ := info_parts Try.info43
  have HR := Lib.hid hr
  have HK := Lib.hid hok
  have hm := hr.2.1
  have hl : rs.length = m := by have := hr.1; rw [rcells, flat_length Ru.cells 7 (fun _ => rfl)] at this; omega
  have HL := Lib.hid hl
  have HS := Lib.hid hsum
  clear hr hok hl hsum
  go_enter Try.func17, Try.ntmps17
  go_wp2
  go_loopg [12, 3] m (fun gk v12 v3 wr => ∃ (k : Nat), v12 = .int .i64 k ∧ k ≤ m ∧ gk = m - k ∧ Hid (Below w.heap.size w wr) ∧ Hid (wr.ownsRow w.heap.size 43 4 v3 (edgesFrom 0 (rs.take k)).length (ecells (edgesFrom 0 (rs.take k)))))
  case atStart => exact ⟨0, rfl, Nat.zero_le _, by omega, Below.refl _ _, World.ownsRow_nil _ _ _ _⟩
  case round =>
    obtain ⟨k, rfl, hk, hgk, hb, ho⟩ := hrel
    have HG := Lib.hid hgk
    clear hgk
    by_cases hlt : k < m
    · obtain ⟨B, off, hk1, rfl, hB, hc⟩ := (HR.out.below hb.out).at Ru.cells 7 (fun _ => rfl) (by omega) k hlt
      have c0 := hc 0 _ (by omega) rfl
      have c1 := hc 1 _ (by omega) rfl
      have c2 := hc 2 _ (by omega) rfl
      have c3 := hc 3 _ (by omega) rfl
      have c4 := hc 4 _ (by omega) rfl
      have c5 := hc 5 _ (by omega) rfl
      have c6 := hc 6 _ (by omega) rfl
      rw [Nat.add_zero] at c0
      clear hc
      have hokk := HK.out rs[k] (List.getElem_mem hk1)
      have HP := Lib.hid hokk.1
      have HN := Lib.hid hokk.2
      have hbound : Hid ((edgesFrom 0 (rs.take k)).length + (rs[k].pos.length + rs[k].neg.length) ≤ (edgesFrom 0 rs).length) := by
        have h1 := edges_le rs (k + 1)
        rw [edges_snoc rs k hk1, List.length_append] at h1
        simp only [ruleEdges, List.length_append, List.length_map] at h1
        exact Lib.hid (by omega)
      have hn1 : rs[k].pos.length = rs[k].s1.n := by have := hokk.1.1; rw [pcells, flat_length Pt.cells 2 (fun _ => rfl)] at this; omega
      have hn2 : rs[k].neg.length = rs[k].s2.n := by have := hokk.2.1; rw [pcells, flat_length Pt.cells 2 (fun _ => rfl)] at this; omega
      have hb1 := hokk.1.2.1
      have hb2 := hokk.2.2.1
      have HL1 := Lib.hid hn1
      have HL2 := Lib.hid hn2
      have HEQ := Lib.hid (edges_snoc rs k hk1)
      clear hokk hn1 hn2
      go_upto_region 5 with (fail)
      generalize hR : w.heap.size = R at *
      have HRR := Lib.hid hR
      clear hR
      have hQ : Hid (R ≤ wr.heap.size) := by have := hb.out.size; have := HRR.out; exact Lib.hid (by omega)
      have HB := Lib.hid (hb.out.alloc hQ.out (.cells rs[k].cells.toArray 33))
      have HO := Lib.hid (ho.out.alloc (.cells rs[k].cells.toArray 33))
      have HX := Lib.hid (Blk.new wr 33 rs[k].cells)
      clear c0 c1 c2 c3 c4 c5 c6
      generalize rs[k] = r at *
      obtain ⟨⟨hp, ha⟩, ⟨A1, n1, c1⟩, pos, ts, ⟨A2, n2, c2⟩, neg, vs, cl⟩ := r
      simp only [Ru.cells] at HB HO HX
      dsimp only at HP HN hbound HL1 HL2 hb1 hb2
      generalize World.alloc _ _ = w1 at *
      generalize wr.heap.size = Q at *
      clear hb ho
      have f2 := HX.out.cell 2
      simp only [List.getElem?_cons_zero, List.getElem?_cons_succ] at f2
      go_wp2
      go_loopg [20, 3] n1 (fun gk vi v3 wx => ∃ (i : Nat), vi = .int .i64 i ∧ i ≤ n1 ∧ gk = n1 - i ∧ Hid (Below R w wx) ∧ Hid (wx.ownsRow R 43 4 v3 ((edgesFrom 0 (rs.take k)).length + i) (ecells (edgesFrom 0 (rs.take k) ++ (pos.take i).map fun x => ⟨x.p, hp, false, k⟩))) ∧
        Hid (Blk wx Q 33 [.int .i64 hp, .slice ha.A ha.n ha.c, .slice A1 n1 c1, .slice ts.A ts.n ts.c, .slice A2 n2 c2, .slice vs.A vs.n vs.c, .int .i64 cl]))
      case atStart => exact ⟨0, rfl, Nat.zero_le _, by omega, HB, by simpa using HO, HX⟩
      case round =>
        clear HB HO HX
        obtain ⟨i, rfl, hi1, hgi, hb, ho, hx⟩ := hrel
        have HG2 := Lib.hid hgi
        clear hgi
        by_cases hlt2 : i < n1
        · obtain ⟨B2, off2, hi2, rfl, hB2, hc⟩ := (HP.out.below hb.out).at Pt.cells 2 (fun _ => rfl) (by omega) i hlt2
          have c0 := hc 0 _ (by omega) rfl
          have c1' := hc 1 _ (by omega) rfl
          rw [Nat.add_zero] at c0
          clear hc
          have hsz : Q < wr.heap.size := hx.out.lt
          have hRQ := hQ.out
          have HE := Lib.hid (show pos.take (i + 1) = pos.take i ++ [pos[i]] from take_snoc _ _ hi2)
          have hbd : (edgesFrom 0 (rs.take k)).length + i + 1 ≤ (edgesFrom 0 rs).length := by have := hbound.out; have := HL1.out; omega
          have hbd2 : (edgesFrom 0 rs).length * 32 ≤ 140737488351232 := HS.out
          generalize pos[i] = x at *
          obtain ⟨xp, xa⟩ := x
          dsimp only at c0 c1' HE
          go_upto_region 8 with (fail)
          have hb := Lib.hid (hb.out.alloc (by omega) (.cells #[.int .i64 xp, .slice xa.A xa.n xa.c] 28))
          have ho := Lib.hid (ho.out.alloc (.cells #[.int .i64 xp, .slice xa.A xa.n xa.c] 28))
          have hx := Lib.hid (hx.out.alloc (.cells #[.int .i64 xp, .slice xa.A xa.n xa.c] 28))
          have hp2 := Lib.hid (Blk.new wr 28 [.int .i64 xp, .slice xa.A xa.n xa.c])
          clear c0 c1' hsz
          generalize World.alloc _ _ = w2 at *
          generalize wr.heap.size = Z at *
          have f0 := hx.out.cell 0
          have p0 := hp2.out.cell 0
          simp only [List.getElem?_cons_zero] at f0 p0
          have hsz := hx.out.lt
          have hown := ho.out
          go_wp2_with (at_builtin; go_must (refine wpList_append_own _ rfl _ _ 23 rfl R 43 i0 _ 4 32 Try.underlying23 hi hz0 hz1 hz2 rfl (by decide) _ _ _ rfl (hown.alloc _) ⟨w2.heap.size, 0, none⟩ 1 1 (E.cells ⟨xp, hp, false, k⟩) rfl rfl (fun j u h => new_cells _ _ _ j u h) (E.one _) (by unfold maxLen; omega) (by omega) (by simp; omega) ?_))
          intro v3 w3 hown3 hg3 _
          have hb3 := Lib.hid ((hb.out.alloc (by omega) (.cells (E.cells ⟨xp, hp, false, k⟩).toArray 43)).grown hg3 (by simp; omega) (fun q hq => (hown.lt q hq).1))
          have hx3 := Lib.hid ((hx.out.alloc (.cells (E.cells ⟨xp, hp, false, k⟩).toArray 43)).grown hg3 (own_blk_ne hown hx.out (by decide)))
          have ho3 : Hid (w3.ownsRow R 43 4 v3 ((edgesFrom 0 (rs.take k)).length + (i + 1)) (ecells (edgesFrom 0 (rs.take k) ++ (pos.take (i + 1)).map fun x => ⟨x.p, hp, false, k⟩))) := by
            rw [HE.out, List.map_append, ← List.append_assoc, ecells_append]
            have e : ecells ([(⟨xp, xa⟩ : Pt)].map fun x => (⟨x.p, hp, false, k⟩ : E)) = E.cells ⟨xp, hp, false, k⟩ := by simp [ecells]
            rw [e]
            first | exact Lib.hid hown3 | (rw [List.map_take]; exact Lib.hid hown3)
          clear hown hown3 hg3 f0 p0
          go_wp2
          go_roundg (n1 - (i + 1))
          case measure => have := HG2.out; omega
          case rel => exact ⟨i + 1, by go_num, by omega, rfl, hb3, ho3, hx3⟩
        · obtain rfl : n1 = i := by omega
          have f4 := hx.out.cell 4
          simp only [List.getElem?_cons_zero, List.getElem?_cons_succ] at f4
          have HB := hb
          have HX := hx
          have HO : Hid (wr.ownsRow R 43 4 u3 ((edgesFrom 0 (rs.take k)).length + n1) (ecells (edgesFrom 0 (rs.take k) ++ pos.map fun x => ⟨x.p, hp, false, k⟩))) := by
            have := ho.out
            have e : pos.take n1 = pos := List.take_of_length_le (by have := HL1.out; omega)
            rw [e] at this
            exact this
          clear hb ho hx HG2
          go_wp2
          go_loopg [38, 3] n2 (fun gk vi v3 wx => ∃ (i : Nat), vi = .int .i64 i ∧ i ≤ n2 ∧ gk = n2 - i ∧ Hid (Below R w wx) ∧ Hid (wx.ownsRow R 43 4 v3 (((edgesFrom 0 (rs.take k)).length + n1) + i) (ecells ((edgesFrom 0 (rs.take k) ++ pos.map fun x => ⟨x.p, hp, false, k⟩) ++ (neg.take i).map fun x => ⟨x.p, hp, true, k⟩))) ∧
            Hid (Blk wx Q 33 [.int .i64 hp, .slice ha.A ha.n ha.c, .slice A1 n1 c1, .slice ts.A ts.n ts.c, .slice A2 n2 c2, .slice vs.A vs.n vs.c, .int .i64 cl]))
          case atStart => exact ⟨0, rfl, Nat.zero_le _, by omega, HB, by simpa using HO, HX⟩
          case round =>
            clear HB HO HX
            obtain ⟨i, rfl, hi1, hgi, hb, ho, hx⟩ := hrel
            have HG3 := Lib.hid hgi
            clear hgi
            by_cases hlt3 : i < n2
            · obtain ⟨B2, off2, hi2, rfl, hB2, hc⟩ := (HN.out.below hb.out).at Pt.cells 2 (fun _ => rfl) (by omega) i hlt3
              have c0 := hc 0 _ (by omega) rfl
              have c1' := hc 1 _ (by omega) rfl
              rw [Nat.add_zero] at c0
              clear hc
              have hsz : Q < wr.heap.size := hx.out.lt
              have hRQ := hQ.out
              have HE := Lib.hid (show neg.take (i + 1) = neg.take i ++ [neg[i]] from take_snoc _ _ hi2)
              have hbd : ((edgesFrom 0 (rs.take k)).length + n1) + i + 1 ≤ (edgesFrom 0 rs).length := by have := hbound.out; have := HL1.out; have := HL2.out; omega
              have hbd2 : (edgesFrom 0 rs).length * 32 ≤ 140737488351232 := HS.out
              generalize neg[i] = x at *
              obtain ⟨xp, xa⟩ := x
              dsimp only at c0 c1' HE
              go_upto_region 13 with (fail)
              have hb := Lib.hid (hb.out.alloc (by omega) (.cells #[.int .i64 xp, .slice xa.A xa.n xa.c] 28))
              have ho := Lib.hid (ho.out.alloc (.cells #[.int .i64 xp, .slice xa.A xa.n xa.c] 28))
              have hx := Lib.hid (hx.out.alloc (.cells #[.int .i64 xp, .slice xa.A xa.n xa.c] 28))
              have hp2 := Lib.hid (Blk.new wr 28 [.int .i64 xp, .slice xa.A xa.n xa.c])
              clear c0 c1' hsz
              generalize World.alloc _ _ = w2 at *
              generalize wr.heap.size = Z at *
              have f0 := hx.out.cell 0
              have p0 := hp2.out.cell 0
              simp only [List.getElem?_cons_zero] at f0 p0
              have hsz := hx.out.lt
              have hown := ho.out
              go_wp2_with (at_builtin; go_must (refine wpList_append_own _ rfl _ _ 23 rfl R 43 i0 _ 4 32 Try.underlying23 hi hz0 hz1 hz2 rfl (by decide) _ _ _ rfl (hown.alloc _) ⟨w2.heap.size, 0, none⟩ 1 1 (E.cells ⟨xp, hp, true, k⟩) rfl rfl (fun j u h => new_cells _ _ _ j u h) (E.one _) (by unfold maxLen; omega) (by omega) (by simp; omega) ?_))
              intro v3 w3 hown3 hg3 _
              have hb3 := Lib.hid ((hb.out.alloc (by omega) (.cells (E.cells ⟨xp, hp, true, k⟩).toArray 43)).grown hg3 (by simp; omega) (fun q hq => (hown.lt q hq).1))
              have hx3 := Lib.hid ((hx.out.alloc (.cells (E.cells ⟨xp, hp, true, k⟩).toArray 43)).grown hg3 (own_blk_ne hown hx.out (by decide)))
              have ho3 : Hid (w3.ownsRow R 43 4 v3 (((edgesFrom 0 (rs.take k)).length + n1) + (i + 1)) (ecells ((edgesFrom 0 (rs.take k) ++ pos.map fun x => ⟨x.p, hp, false, k⟩) ++ (neg.take (i + 1)).map fun x => ⟨x.p, hp, true, k⟩))) := by
                rw [HE.out, List.map_append, ← List.append_assoc, ecells_append]
                have e : ecells ([(⟨xp, xa⟩ : Pt)].map fun x => (⟨x.p, hp, true, k⟩ : E)) = E.cells ⟨xp, hp, true, k⟩ := by simp [ecells]
                rw [e]
                first | exact Lib.hid hown3 | (rw [List.map_take]; exact Lib.hid hown3) | (rw [List.map_take, List.append_assoc (edgesFrom 0 (rs.take k))]; exact Lib.hid hown3)
              clear hown hown3 hg3 f0 p0
              go_wp2
              go_roundg (n2 - (i + 1))
              case measure => have := HG3.out; omega
              case rel => exact ⟨i + 1, by go_num, by omega, rfl, hb3, ho3, hx3⟩
            · obtain rfl : i = n2 := by omega
              have f4 := hx.out.cell 4
              simp only [List.getElem?_cons_zero, List.getElem?_cons_succ] at f4
              have HO : Hid (wr.ownsRow R 43 4 u3 (edgesFrom 0 (rs.take (k + 1))).length (ecells (edgesFrom 0 (rs.take (k + 1))))) := by
                have h := ho.out
                have e : neg.take i = neg := List.take_of_length_le (by have := HL2.out; omega)
                rw [e] at h
                rw [HEQ.out]
                simp only [ruleEdges, List.length_append, List.length_map]
                rw [HL1.out, HL2.out, ← List.append_assoc, ← Nat.add_assoc]
                exact Lib.hid h
              clear f4 ho hx
              go_wp2
              go_roundg (m - (k + 1))
              case measure => have := HG.out; omega
              case rel => exact ⟨k + 1, by go_num, by omega, rfl, hb, HO⟩
    · obtain rfl : m = k := by omega
      go_wp2
      go_ret
      have h := ho.out
      rw [List.take_of_length_le (by have := HL.out; omega)] at h
      exact ⟨_, rfl, h, hb.out⟩
end Go.Proofs.Ytefpglaipnnggaa
