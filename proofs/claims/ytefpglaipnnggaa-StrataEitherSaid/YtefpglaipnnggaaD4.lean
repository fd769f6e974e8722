/- Two lists of edges share nothing (aloneEdges). -/
import Derived.Test.YtefpglaipnnggaaD3
namespace Go.Proofs.Ytefpglaipnnggaa
open Go.RowKit

/-- append onto a row of one's own: the elder slice reads as before. -/
theorem run_append_kept {P : Program} (w : World) (base : Nat) (t ty e : TypeId) (i : TypeInfo) (z : Value) (size bytes : Nat) (ht : P.underlying t = some (.slice e)) (hi : P.info? e = some i) (hz : i.zero = some z)
    (hsize : i.size = size) (hby : i.bytes = bytes) (hzs : z.cells.size = size) (hsz : 0 < size)
    (v : Value) (n : Nat) (xs : List Value) (hown : w.ownsRow base e size v n xs)
    (a : Addr) (m c : Nat) (news : List Value) (hl : news.length = m * size) (hnews : ∀ j u, news[j]? = some u → w.cell? (a.add j) = some u) (h1 : ∀ u ∈ news, u.oneCell' = true)
    (h63 : n + m ≤ maxLen) (hbytes : (n + m) * bytes ≤ 140737488355328) (hbase : base ≤ w.heap.size) :
    ∃ v' w', (Builtin.append_ #[t, t] ty #[v, .slice (some a) m c]).run P w = .ok v' w' ∧ w'.ownsRow base e size v' (n + m) (xs ++ news) ∧ w.grownBy w' v.ownBlock ∧
      (v'.ownBlock = v.ownBlock ∨ v'.ownBlock = some w.heap.size) ∧ w'.ownsRow base e size v n xs := by
  obtain ⟨v', w', hr, h2, h3, _, h5⟩ := run_append_own_at (P := P) w base t ty e i z size bytes ht hi hz hsize hby hzs hsz v n xs hown a m c news hl hnews h1 h63 hbytes hbase
  refine ⟨v', w', hr, h2, h3, h5, ?_⟩
  rcases hown.2 with ⟨rfl, rfl⟩ | ⟨g, cap, cur, rfl, hbg, hg, hnc, hcm, hcs, htake⟩
  · exact ⟨hown.1, .inl ⟨rfl, rfl⟩⟩
  · subst hsize hby
    by_cases hroom : n + m ≤ cap
    · have hfit : n * i.size + news.length ≤ cur.size := by rw [hl, hcs, ← Nat.add_mul]; exact Nat.mul_le_mul_right _ hroom
      have hr' := run_append_room (P := P) w t ty e i ht hi g n cap cur hg a m c news hl hnews h1 hroom hfit
      rw [hr] at hr'
      injection hr' with hv hw
      subst hv
      rcases h2.2 with ⟨h, _⟩ | ⟨g', cap', cur', hv', hb', hg', hnc', hcm', hcs', ht'⟩
      · cases h
      · injection hv' with hv1 _ hv3
        injection hv1 with hv1
        injection hv1 with hv1
        subst hv1 hv3
        refine ⟨hown.1, .inr ⟨g, cap, cur', rfl, hbg, hg', hnc, hcm, hcs', ?_⟩⟩
        have h := congrArg (List.take (n * i.size)) ht'
        rw [List.take_take, Nat.min_eq_left (Nat.mul_le_mul_right _ (Nat.le_add_right _ _)), ← hown.1, List.take_left] at h
        rw [← hown.1]; exact h
    · have hr' := run_append_grow (P := P) w t ty e i z ht hi hz ⟨g, 0, none⟩ n cap xs hown.1 (hown.cells rfl) a m c news hl hnews (by omega) (by unfold maxLen at h63; omega) (growslice_fits (by omega) hbytes)
      rw [hr] at hr'
      injection hr' with hv hw
      rw [hw]
      exact hown.drew.alloc _

theorem wpList_append_kept {P : Program} (w : World) {ops : Array Oper} {rest : List Oper} {o : Oper} {a : Act} {Q : Exit → Act → World → Prop} (hgd : o.guard = none) (s x : Operand) (t : TypeId)
    (ho : o.op = .call { callee := .builtin .append, args := #[s, x], argTypes := #[t, t] })
    (base : Nat) (e : TypeId) (i : TypeInfo) (z : Value) (size bytes : Nat) (ht : P.underlying t = some (.slice e)) (hi : P.info? e = some i) (hz : i.zero = some z)
    (hsize : i.size = size) (hby : i.bytes = bytes) (hzs : z.cells.size = size) (hsz : 0 < size)
    (v : Value) (n : Nat) (xs : List Value) (hs : a.eval s = v) (hown : w.ownsRow base e size v n xs)
    (ad : Addr) (m c : Nat) (news : List Value) (hx : a.eval x = .slice (some ad) m c) (hl : news.length = m * size) (hnews : ∀ j u, news[j]? = some u → w.cell? (ad.add j) = some u) (h1 : ∀ u ∈ news, u.oneCell' = true)
    (h63 : n + m ≤ maxLen) (hbytes : (n + m) * bytes ≤ 140737488355328) (hbase : base ≤ w.heap.size)
    (h : ∀ v' w', w'.ownsRow base e size v' (n + m) (xs ++ news) → w.grownBy w' v.ownBlock → (v'.ownBlock = v.ownBlock ∨ v'.ownBlock = some w.heap.size) → w'.ownsRow base e size v n xs → wpList P ops Q rest (a.put o.dst v') w') : wpList P ops Q (o :: rest) a w := by
  refine wpList_plain hgd fun _ hK => ?_
  obtain ⟨v', w', hr, h2, h3, h4, h5⟩ := run_append_kept (P := P) w base t o.type e i z size bytes ht hi hz hsize hby hzs hsz v n xs hown ad m c news hl hnews h1 h63 hbytes hbase
  unfold Oper.wp execOp
  simp only [ho, resolve, invoke, builtin, Sem.run_bind, Sem.run_pure, Result.andThen_ok, List.map_toArray, List.map_cons, List.map_nil, hs, hx, hr]
  exact hK _ _ (h v' w' h2 h3 h4 h5)

theorem ecells_set (es : List E) (k : Nat) (hk : k < es.length) (x : E) : ((((ecells es).set (k * 4) (.int .i64 x.f)).set (k * 4 + 1) (.int .i64 x.t)).set (k * 4 + 2) (.bool x.neg)).set (k * 4 + 3) (.int .i64 x.r) = ecells (es.set k x) := by
  induction es generalizing k with
  | nil => simp at hk
  | cons e es ih =>
    cases k with
    | zero => rfl
    | succ k =>
      have e1 : (k + 1) * 4 = k * 4 + 4 := by omega
      simp only [ecells, List.flatMap_cons, E.cells, e1, List.cons_append, List.nil_append, List.set_cons_succ] at ih ⊢
      have e2 : k * 4 + 4 + 1 = (k * 4 + 1) + 4 := by omega
      have e3 : k * 4 + 4 + 2 = (k * 4 + 2) + 4 := by omega
      have e4 : k * 4 + 4 + 3 = (k * 4 + 3) + 4 := by omega
      rw [ih k (by simpa using hk)]
theorem fill_next {α : Type} (x : α) (es : List α) (k : Nat) (hk : k < es.length) : (List.replicate k x ++ es.drop k).set k x = List.replicate (k + 1) x ++ es.drop (k + 1) := by
  rw [List.set_append_right _ _ (by simp), List.length_replicate, Nat.sub_self]
  rw [List.drop_eq_getElem_cons hk, List.set_cons_zero, List.replicate_succ', List.append_assoc]; rfl

theorem own_edge_set {w : World} {R g n c k : Nat} {l : List E} (h : w.ownsRow R 43 4 (.slice (some ⟨g, 0, none⟩) n c) n (ecells l)) (hk : k < l.length) (x : E) :
    ((((w.setCell ⟨g, k * 4, none⟩ (.int .i64 x.f)).setCell ⟨g, k * 4 + 1, none⟩ (.int .i64 x.t)).setCell ⟨g, k * 4 + 2, none⟩ (.bool x.neg)).setCell ⟨g, k * 4 + 3, none⟩ (.int .i64 x.r)).ownsRow R 43 4 (.slice (some ⟨g, 0, none⟩) n c) n (ecells (l.set k x)) ∧
    w.grownBy ((((w.setCell ⟨g, k * 4, none⟩ (.int .i64 x.f)).setCell ⟨g, k * 4 + 1, none⟩ (.int .i64 x.t)).setCell ⟨g, k * 4 + 2, none⟩ (.bool x.neg)).setCell ⟨g, k * 4 + 3, none⟩ (.int .i64 x.r)) (some g) := by
  have h1 := h.stored (k * 4) (.int .i64 x.f)
  have h2 := h1.1.stored (k * 4 + 1) (.int .i64 x.t)
  have h3 := h2.1.stored (k * 4 + 2) (.bool x.neg)
  have h4 := h3.1.stored (k * 4 + 3) (.int .i64 x.r)
  refine ⟨by rw [← ecells_set l k hk x]; exact h4.1, ((h1.2.trans h2.2).trans h3.2).trans h4.2⟩

theorem own_apart {w w' : World} {R g size n : Nat} {e : TypeId} {v : Value} {xs : List Value} (h : w.ownsRow R e size v n xs) (hg : w.grownBy w' (some g)) (hne : v.ownBlock ≠ some g) : w'.ownsRow R e size v n xs :=
  h.kept hg (.inr hne)
theorem own_apart' {w w' : World} {R size n : Nat} {e : TypeId} {v v' : Value} {xs : List Value} (h : w.ownsRow R e size v n xs) (hg : w.grownBy w' v'.ownBlock) (hne : ∀ q, v.ownBlock = some q → v'.ownBlock ≠ some q) : w'.ownsRow R e size v n xs := by
  refine h.kept hg ?_
  cases hv : v.ownBlock with
  | none => exact .inl rfl
  | some q => exact .inr (fun e => hne q hv e.symm)
theorem own_rd {w : World} {base e size n c : Nat} {A : Option Addr} {xs : List Value} (h : w.ownsRow base e size (.slice A n c) n xs) : Rd w w.heap.size size A n xs := by
  obtain ⟨A', c', h1, h2⟩ := own_slice h
  injection h1 with h1
  rw [h1]; exact h2
theorem ecells_one (es : List E) : ∀ u ∈ ecells es, u.oneCell' = true := by
  intro u hu
  simp only [ecells, List.mem_flatMap] at hu
  obtain ⟨e, _, h⟩ := hu
  exact e.one u h
theorem fill_end {α : Type} (x : α) (es : List α) (n : Nat) (h : es.length = n) : List.replicate n x ++ es.drop n = List.replicate n x := by
  rw [List.drop_of_length_le (by omega), List.append_nil]

set_option maxRecDepth 20000 in
set_option maxHeartbeats 2000000 in
theorem aloneEdges_any (R : Nat) (A A' : Option Addr) (n c n' c' : Nat) (es es' : List E) (w : World) (h1 : w.ownsRow R 43 4 (.slice A n c) n (ecells es)) (h2 : w.ownsRow R 43 4 (.slice A' n' c') n' (ecells es'))
    (hne : ∀ q, (Value.slice A n c).ownBlock = some q → (Value.slice A' n' c').ownBlock ≠ some q) (hb1 : n * 32 ≤ 140737488351232) (hb2 : n' * 32 ≤ 140737488351232) (hR : R ≤ w.heap.size) :
    Calls Try.prog 20 #[.slice A n c, .slice A' n' c'] w fun e w' => e = .returned (.bool true) ∧ Below R w w' := by
  obtain ⟨i0, hi, hz0, hz1, hz2⟩ := info_parts Try.info43
  have H1 := Lib.hid h1
  have H2 := Lib.hid h2
  have HNE := Lib.hid hne
  have HB1 := Lib.hid hb1
  have HB2 := Lib.hid hb2
  have hl1 : Hid (es.length = n) := Lib.hid (by have := h1.1; rw [ecells_length] at this; omega)
  have hl2 : Hid (es'.length = n') := Lib.hid (by have := h2.1; rw [ecells_length] at this; omega)
  have hn1 : n ≤ 9223372036854775807 := by omega
  have hn2 : n' ≤ 9223372036854775807 := by omega
  have HRS := Lib.hid hR
  clear h1 h2 hne hb1 hb2 hR
  go_enter Try.func20, Try.ntmps20
  go_wp2
  go_loopg [5] n (fun gk v wr => ∃ (k : Nat), v = .int .i64 k ∧ k ≤ n ∧ gk = n - k ∧ Hid (Below R w wr) ∧ Hid (wr.ownsRow R 43 4 (.slice A n c) n (ecells (List.replicate k ⟨-1, 0, false, 0⟩ ++ es.drop k))) ∧ Hid (wr.ownsRow R 43 4 (.slice A' n' c') n' (ecells es')))
  case atStart => exact ⟨0, rfl, Nat.zero_le _, by omega, Lib.hid (Below.refl _ _), by simpa using H1, H2⟩
  case round =>
    obtain ⟨k, rfl, hk, hgk, hb, ho, ho'⟩ := hrel
    have HG := Lib.hid hgk
    clear hgk
    by_cases hlt : k < n
    · obtain ⟨g, cap, cur, hv, hbg, hg, _⟩ := own_blkd ho.out (by omega)
      injection hv with hv1 _ hv2
      subst hv1 hv2
      have hrd := own_rd ho.out
      obtain ⟨b, o, hk1, hA1, hbb, q0, q1, q2, q3⟩ := hrd.edge k hlt
      injection hA1 with hA1
      injection hA1 with hA1 hA2
      subst hA1 hA2
      rw [Nat.zero_add] at q0 q1 q2 q3
      have z0 := ho.out.frozenAt (k * 4)
      have z1 := ho.out.frozenAt (k * 4 + 1)
      have z2 := ho.out.frozenAt (k * 4 + 2)
      have z3 := ho.out.frozenAt (k * 4 + 3)
      clear hrd
      go_upto_region 3 with (fail)
      have hset := own_edge_set ho.out hk1 ⟨-1, 0, false, 0⟩
      rw [fill_next _ _ _ (by have := hl1.out; omega)] at hset
      have hb3 : Hid (Below R w _) := Lib.hid (hb.out.grown hset.2 (by have := hb.out.size; have := HRS.out; omega) (fun q hq => by injection hq with hq; omega))
      have ho3 := Lib.hid (own_apart ho'.out hset.2 (HNE.out g rfl))
      have ho4 := Lib.hid hset.1
      dsimp only at ho4 ho3 hb3
      clear q0 q1 q2 q3 z0 z1 z2 z3 hset ho ho' hg hk1
      generalize World.setCell _ _ _ = w2 at *
      go_wp2
      go_roundg (n - (k + 1))
      case measure => have := HG.out; omega
      case rel => exact ⟨k + 1, by go_num, by omega, rfl, hb3, ho4, ho3⟩
    · obtain rfl : k = n := by omega
      have HO1 : Hid (wr.ownsRow R 43 4 (.slice A k c) k (ecells (List.replicate k ⟨-1, 0, false, 0⟩))) := by
        have := ho.out
        rw [fill_end _ _ _ hl1.out] at this
        exact Lib.hid this
      obtain ⟨wq, hwq⟩ : ∃ x, x = wr := ⟨wr, rfl⟩
      subst hwq
      clear ho
      go_wp2
      go_loopg [6] n' (fun gk v wr => ∃ (j : Nat), v = .int .i64 j ∧ j ≤ n' ∧ gk = n' - j ∧ Hid (Below R w wr) ∧ Hid (wr.ownsRow R 43 4 (.slice A k c) k (ecells (List.replicate k ⟨-1, 0, false, 0⟩))) ∧ Hid (wr.ownsRow R 43 4 (.slice A' n' c') n' (ecells (List.replicate j ⟨-2, 0, false, 0⟩ ++ es'.drop j))))
      case atStart => exact ⟨0, rfl, Nat.zero_le _, by omega, hb, HO1, by simpa using ho'⟩
      case round =>
        clear HO1 hb ho'
        obtain ⟨j, rfl, hj, hgj, hb, ho, ho'⟩ := hrel
        have HG2 := Lib.hid hgj
        clear hgj
        by_cases hlt2 : j < n'
        · obtain ⟨g, cap, cur, hv, hbg, hg, _⟩ := own_blkd ho'.out (by omega)
          injection hv with hv1 _ hv2
          subst hv1 hv2
          have hrd := own_rd ho'.out
          obtain ⟨b, o, hk1, hA1, hbb, q0, q1, q2, q3⟩ := hrd.edge j hlt2
          injection hA1 with hA1
          injection hA1 with hA1 hA2
          subst hA1 hA2
          rw [Nat.zero_add] at q0 q1 q2 q3
          have z0 := ho'.out.frozenAt (j * 4)
          have z1 := ho'.out.frozenAt (j * 4 + 1)
          have z2 := ho'.out.frozenAt (j * 4 + 2)
          have z3 := ho'.out.frozenAt (j * 4 + 3)
          clear hrd
          go_upto_region 7 with (fail)
          have hset := own_edge_set ho'.out hk1 ⟨-2, 0, false, 0⟩
          rw [fill_next _ _ _ (by have := hl2.out; omega)] at hset
          have hb3 : Hid (Below R w _) := Lib.hid (hb.out.grown hset.2 (by have := hb.out.size; have := HRS.out; omega) (fun q hq => by injection hq with hq; omega))
          have ho3 := Lib.hid (own_apart ho.out hset.2 (fun e => HNE.out g e rfl))
          have ho4 := Lib.hid hset.1
          dsimp only at ho4 ho3 hb3
          clear q0 q1 q2 q3 z0 z1 z2 z3 hset ho ho' hg hk1
          generalize World.setCell _ _ _ = w2 at *
          go_wp2
          go_roundg (n' - (j + 1))
          case measure => have := HG2.out; omega
          case rel => exact ⟨j + 1, by go_num, by omega, rfl, hb3, ho3, ho4⟩
        · obtain rfl : j = n' := by omega
          have HO2 : Hid (wr.ownsRow R 43 4 (.slice A' j c') j (ecells (List.replicate j ⟨-2, 0, false, 0⟩))) := by
            have := ho'.out
            rw [fill_end _ _ _ hl2.out] at this
            exact Lib.hid this
          clear ho'
          have hRS : R ≤ wr.heap.size := by have := hb.out.size; have := HRS.out; omega
          have hown := ho.out
          have hb1 := HB1.out
          have hb2 := HB2.out
          go_wp2_with (at_builtin; go_must (refine wpList_append_kept _ rfl _ _ 23 rfl R 43 i0 _ 4 32 Try.underlying23 hi hz0 hz1 hz2 rfl (by decide) _ _ _ rfl (hown.alloc _) ⟨wr.heap.size, 0, none⟩ 2 2 (ecells [⟨-1, 0, false, 0⟩, ⟨-1, 0, false, 0⟩]) rfl rfl (fun j u h => new_cells _ _ _ j u h) (ecells_one _) (by unfold maxLen; omega) (by omega) (by simp; omega) ?_))
          intro vx w3 hx3 hg3 hlie hkept
          obtain ⟨gx, cx, curx, rfl, hbx, _, _⟩ := own_blkd hx3 (by omega)
          have hs3 : R ≤ w3.heap.size := by have := hg3.size; simp at this; omega
          have hb3 := Lib.hid ((hb.out.alloc (by omega) (.cells (ecells [⟨-1, 0, false, 0⟩, ⟨-1, 0, false, 0⟩]).toArray 43)).grown hg3 (by simp; omega) (fun q hq => (hown.lt q hq).1))
          have HX3 : Hid (w3.ownsRow R 43 4 (.slice (some ⟨gx, 0, none⟩) (k + 2) cx) (k + 2) (ecells (List.replicate (k + 2) ⟨-1, 0, false, 0⟩))) := by
            rw [show List.replicate (k + 2) (⟨-1, 0, false, 0⟩ : E) = List.replicate k ⟨-1, 0, false, 0⟩ ++ [⟨-1, 0, false, 0⟩, ⟨-1, 0, false, 0⟩] from (List.replicate_append_replicate (n := k) (m := 2)).symm, ecells_append]
            exact Lib.hid hx3
          have HY3 := Lib.hid (own_apart' (HO2.out.alloc (.cells (ecells [⟨-1, 0, false, 0⟩, ⟨-1, 0, false, 0⟩]).toArray 43)) hg3 (fun q hq e => HNE.out q e hq))
          have HK3 := Lib.hid hkept
          have HXY : Hid (∀ q, (Value.slice A' j c').ownBlock = some q → q ≠ gx) := Lib.hid fun q hq e => by
            subst e
            rcases hlie with h | h
            · exact HNE.out q h.symm hq
            · have := (HO2.out.lt q hq).2
              simp only [Value.ownBlock, Option.some.injEq] at h
              omega
          clear hx3 hg3 hlie hkept hown HO2 ho hb hRS
          have hown := HY3.out
          go_wp2_with (at_builtin; go_must (refine wpList_append_kept _ rfl _ _ 23 rfl R 43 i0 _ 4 32 Try.underlying23 hi hz0 hz1 hz2 rfl (by decide) _ _ _ rfl (hown.alloc _) ⟨w3.heap.size, 0, none⟩ 2 2 (ecells [⟨-2, 0, false, 0⟩, ⟨-2, 0, false, 0⟩]) rfl rfl (fun j u h => new_cells _ _ _ j u h) (ecells_one _) (by unfold maxLen; omega) (by omega) (by simp; omega) ?_))
          intro vy w5 hy5 hg5 _ hkept5
          obtain ⟨gy, cy, cury, rfl, hby, _, _⟩ := own_blkd hy5 (by omega)
          have HB5 := Lib.hid ((hb3.out.alloc hs3 (.cells (ecells [⟨-2, 0, false, 0⟩, ⟨-2, 0, false, 0⟩]).toArray 43)).grown hg5 (by simp; omega) (fun q hq => (hown.lt q hq).1))
          have HY5 : Hid (w5.ownsRow R 43 4 (.slice (some ⟨gy, 0, none⟩) (j + 2) cy) (j + 2) (ecells (List.replicate (j + 2) ⟨-2, 0, false, 0⟩))) := by
            rw [show List.replicate (j + 2) (⟨-2, 0, false, 0⟩ : E) = List.replicate j ⟨-2, 0, false, 0⟩ ++ [⟨-2, 0, false, 0⟩, ⟨-2, 0, false, 0⟩] from (List.replicate_append_replicate (n := j) (m := 2)).symm, ecells_append]
            exact Lib.hid hy5
          have HK5 := Lib.hid hkept5
          have HX5 := Lib.hid (own_apart' (HX3.out.alloc (.cells (ecells [⟨-2, 0, false, 0⟩, ⟨-2, 0, false, 0⟩]).toArray 43)) hg5 (fun q hq e => HXY.out q e (by simpa [Value.ownBlock] using hq.symm)))
          have HL5 := Lib.hid (own_apart' (HK3.out.alloc (.cells (ecells [⟨-2, 0, false, 0⟩, ⟨-2, 0, false, 0⟩]).toArray 43)) hg5 (HNE.out))
          clear hy5 hg5 hkept5 hown HX3 HY3 HK3 hb3 hs3
          go_wp2
          go_loopg [9] (k + 2) (fun gk v wr => ∃ (i : Nat), v = .int .i64 i ∧ i ≤ k + 2 ∧ gk = (k + 2) - i ∧ wr = w5)
          case atStart => exact ⟨0, rfl, Nat.zero_le _, by omega, rfl⟩
          case round =>
            obtain ⟨i, rfl, hi1, hgi, rfl⟩ := hrel
            have HG3 := Lib.hid hgi
            clear hgi
            by_cases hlt3 : i < k + 2
            · obtain ⟨b, o, hk1, hA1, hbb, q0, _, _, _⟩ := (own_rd HX5.out).edge i hlt3
              injection hA1 with hA1
              injection hA1 with hA1 hA2
              subst hA1 hA2
              rw [Nat.zero_add, List.getElem_replicate] at q0
              by_cases hlt4 : i < k
              · obtain ⟨b2, o2, hk2, hA2, hbb2, p0, _, _, _⟩ := (own_rd HL5.out).edge i hlt4
                rw [List.getElem_replicate] at p0
                subst hA2
                go_wp2
                go_roundg (k + 2 - (i + 1))
                case measure => have := HG3.out; omega
                case rel => exact ⟨i + 1, by go_num, by omega, rfl, rfl⟩
              · go_wp2
                go_roundg (k + 2 - (i + 1))
                case measure => have := HG3.out; omega
                case rel => exact ⟨i + 1, by go_num, by omega, rfl, rfl⟩
            · obtain rfl : i = k + 2 := by omega
              go_wp2
              go_loopg [10] (j + 2) (fun gk v wy => ∃ (i : Nat), v = .int .i64 i ∧ i ≤ j + 2 ∧ gk = (j + 2) - i ∧ wy = wr)
              case atStart => exact ⟨0, rfl, Nat.zero_le _, by omega, rfl⟩
              case round =>
                obtain ⟨i, rfl, hi1, hgi, rfl⟩ := hrel
                have HG4 := Lib.hid hgi
                clear hgi
                by_cases hlt3 : i < j + 2
                · obtain ⟨b, o, hk1, hA1, hbb, q0, _, _, _⟩ := (own_rd HY5.out).edge i hlt3
                  injection hA1 with hA1
                  injection hA1 with hA1 hA2
                  subst hA1 hA2
                  rw [Nat.zero_add, List.getElem_replicate] at q0
                  by_cases hlt4 : i < j
                  · obtain ⟨b2, o2, hk2, hA2, hbb2, p0, _, _, _⟩ := (own_rd HK5.out).edge i hlt4
                    rw [List.getElem_replicate] at p0
                    subst hA2
                    go_wp2
                    go_roundg (j + 2 - (i + 1))
                    case measure => have := HG4.out; omega
                    case rel => exact ⟨i + 1, by go_num, by omega, rfl, rfl⟩
                  · go_wp2
                    go_roundg (j + 2 - (i + 1))
                    case measure => have := HG4.out; omega
                    case rel => exact ⟨i + 1, by go_num, by omega, rfl, rfl⟩
                · obtain rfl : i = j + 2 := by omega
                  go_wp2
                  go_ret
                  exact ⟨rfl, HB5.out⟩
end Go.Proofs.Ytefpglaipnnggaa
