/- The law of the edges: its walk. -/
import Derived.Test.YtefpglaipnnggaaD5
namespace Go.Proofs.Ytefpglaipnnggaa
open Go.RowKit

/-- What stands all along: the argument, what the document answers, the law's own rules. -/
structure SE (W w : World) (A : Option Addr) (m : Nat) (rs : List Ru) (A1 : Option Addr) (es : List E) (A2 : Option Addr) (c2 : Nat) (rs' : List Ru) : Prop where
  b : Below W.heap.size W w
  args : Rd w w.heap.size 7 A m (rcells rs)
  aok : ∀ r ∈ rs, Ru.ok w r
  want : Rd w w.heap.size 4 A1 es.length (ecells es)
  giv : w.ownsRow W.heap.size 33 7 (.slice A2 m c2) m (rcells rs')
  row : ∀ r ∈ rs', Ru.own w W.heap.size r
theorem SE.up {W w w' : World} {A : Option Addr} {m : Nat} {rs : List Ru} {A1 : Option Addr} {es : List E} {A2 : Option Addr} {c2 : Nat} {rs' : List Ru} (h : SE W w A m rs A1 es A2 c2 rs') (hb : Below w.heap.size w w') : SE W w' A m rs A1 es A2 c2 rs' :=
  ⟨h.b.trans (hb.mono h.b.size), h.args.up hb hb.size, fun r hr => (h.aok r hr).up hb, h.want.up hb hb.size, own_below h.giv hb, fun r hr => (h.row r hr).below hb⟩

set_option maxRecDepth 20000 in
set_option maxHeartbeats 2000000 in
theorem StrataEdges_walk (A : Option Addr) (m c : Nat) (rs : List Ru) (w : World) (hr : Rd w w.heap.size 7 A m (rcells rs)) (hok : ∀ r ∈ rs, Ru.ok w r) (hm136 : m * 136 ≤ 140737488351232) (hsum : (edgesFrom 0 rs).length * 32 ≤ 140737488351232) :
    Calls Try.prog 3 #[.slice A m c] w fun e w' => e = .returned (.bool true) ∧ Below w.heap.size w w' := by
  have HR := Lib.hid hr
  have HK := Lib.hid hok
  have HS := Lib.hid hsum
  have HM := Lib.hid hm136
  have hm := hr.2.1
  clear hr hok hsum hm136
  go_enter Try.func3, Try.ntmps3
  go_wp2_with fail
  refine (refEdges_any A m c rs _ HR.out HK.out HS.out).mono ?_
  rintro e w1 ⟨v1, rfl, hown1, hb1⟩
  obtain ⟨A1, c1, rfl, hrd1⟩ := own_slice hown1
  have HB := Lib.hid hb1
  have HW := Lib.hid hrd1
  have HR1 := Lib.hid (HR.out.up hb1 hb1.size)
  have HK1 : Hid (∀ r ∈ rs, Ru.ok w1 r) := Lib.hid fun r hr => (HK.out r hr).up hb1
  clear hown1 hrd1 hb1
  go_wp2_with fail
  refine (rulesOf_any A m c rs _ HR1.out HK1.out HM.out (sm_of_sum HK1.out HS.out)).mono ?_
  rintro e w2 ⟨v2, rs', rfl, hown2, hcore, hrow, hb2⟩
  have HE : Hid (edgesFrom 0 rs' = edgesFrom 0 rs) := Lib.hid (edges_core 0 rs' rs hcore)
  have HL' : Hid (rs'.length = m) := Lib.hid (by have := hown2.1; rw [rcells_length] at this; omega)
  obtain ⟨A2, c2, rfl, hrd2⟩ := own_slice hown2
  have H2 : Hid (SE w w2 A m rs A1 (edgesFrom 0 rs) A2 c2 rs') := Lib.hid ⟨HB.out.trans (hb2.mono HB.out.size), HR1.out.up hb2 hb2.size, fun r hr => (HK1.out r hr).up hb2, HW.out.up hb2 hb2.size, own_le hown2 HB.out.size, fun r hr => (hrow r hr).le HB.out.size⟩
  have HS' : Hid ((edgesFrom 0 rs').length * 32 ≤ 140737488351232) := by rw [HE.out]; exact HS
  clear HB HW HR1 HK1 hown2 hcore hrow hb2 hrd2
  generalize hes : edgesFrom 0 rs = es at *
  have HES := Lib.hid hes
  clear hes
  go_wp2_with fail
  refine (progEdges_any A2 m c2 rs' _ (own_rd H2.out.giv) (fun r hr => (H2.out.row r hr).ok) HS'.out).mono ?_
  rintro e w3 ⟨v3, rfl, hown3, hb3⟩
  rw [HE.out] at hown3
  obtain ⟨A3, c3, rfl, hrd3⟩ := own_slice hown3
  have H3 := Lib.hid (H2.out.up hb3)
  have HF := Lib.hid hown3
  have G3 := Lib.hid hb3
  clear hown3 hb3 hrd3
  go_wp2_with fail
  have Hlit1 : Hid (Rd w3 w3.heap.size 2 none 0 (pcells [])) := Lib.hid (Rd_nil _ _ _)
  generalize hWl : World.alloc _ _ = w4 at *
  have hb4 : Below w3.heap.size w3 w4 := by
    rw [← hWl]
    exact (((Below.refl _ _).alloc (Nat.le_refl _) _).alloc (by simp) _).alloc (by simp; omega) _
  have hr4 : Rd w4 w4.heap.size 7 (some ⟨w3.heap.size + 1 + 1, 0, none⟩) 1 (rcells [⟨⟨0, ⟨none, 0, 0⟩⟩, ⟨some ⟨w3.heap.size, 0, none⟩, 1, 1⟩, [⟨1, ⟨none, 0, 0⟩⟩], ⟨none, 0, 0⟩, ⟨some ⟨w3.heap.size + 1, 0, none⟩, 1, 1⟩, [⟨2, ⟨none, 0, 0⟩⟩], ⟨none, 0, 0⟩, 3⟩]) := by
    rw [← hWl]
    have h := Rd_new ((w3.alloc (.cells #[.int .i64 1, .slice none 0 0] 28)).alloc (.cells #[.int .i64 2, .slice none 0 0] 28)) #[.int .i64 0, .slice none 0 0, .slice (some ⟨w3.heap.size, 0, none⟩) 1 1, .slice none 0 0, .slice (some ⟨w3.heap.size + 1, 0, none⟩) 1 1, .slice none 0 0, .int .i64 3] 33 7 rfl
    simpa [rcells, Ru.cells] using h
  have hp4 : Rd w4 w4.heap.size 2 (some ⟨w3.heap.size, 0, none⟩) 1 (pcells [⟨1, ⟨none, 0, 0⟩⟩]) := by
    rw [← hWl]
    have h := Rd_new w3 #[.int .i64 1, .slice none 0 0] 28 2 rfl
    have hb : Below (w3.alloc (.cells #[.int .i64 1, .slice none 0 0] 28)).heap.size (w3.alloc (.cells #[.int .i64 1, .slice none 0 0] 28)) (((w3.alloc (.cells #[.int .i64 1, .slice none 0 0] 28)).alloc (.cells #[.int .i64 2, .slice none 0 0] 28)).alloc (.cells #[.int .i64 0, .slice none 0 0, .slice (some ⟨w3.heap.size, 0, none⟩) 1 1, .slice none 0 0, .slice (some ⟨w3.heap.size + 1, 0, none⟩) 1 1, .slice none 0 0, .int .i64 3] 33)) := ((Below.refl _ _).alloc (Nat.le_refl _) _).alloc (by simp) _
    exact h.up hb hb.size
  have hq4 : Rd w4 w4.heap.size 2 (some ⟨w3.heap.size + 1, 0, none⟩) 1 (pcells [⟨2, ⟨none, 0, 0⟩⟩]) := by
    rw [← hWl]
    have h := Rd_new (w3.alloc (.cells #[.int .i64 1, .slice none 0 0] 28)) #[.int .i64 2, .slice none 0 0] 28 2 rfl
    have hb := (Below.refl ((w3.alloc (.cells #[.int .i64 1, .slice none 0 0] 28)).alloc (.cells #[.int .i64 2, .slice none 0 0] 28)).heap.size ((w3.alloc (.cells #[.int .i64 1, .slice none 0 0] 28)).alloc (.cells #[.int .i64 2, .slice none 0 0] 28))).alloc (Nat.le_refl _) (.cells #[.int .i64 0, .slice none 0 0, .slice (some ⟨w3.heap.size, 0, none⟩) 1 1, .slice none 0 0, .slice (some ⟨w3.heap.size + 1, 0, none⟩) 1 1, .slice none 0 0, .int .i64 3] 33)
    have h2 := h.up hb hb.size
    simpa [pcells, Pt.cells] using h2
  have H4 := Lib.hid (H3.out.up hb4)
  have HF4 := Lib.hid (own_below HF.out hb4)
  have G4 := Lib.hid (G3.out.trans (hb4.mono G3.out.size))
  clear hWl H3 HF hb4
  refine (progEdges_any _ 1 1 _ w4 hr4 (fun r hr => by rw [List.mem_singleton.1 hr]; exact ⟨hp4, hq4⟩) (by simp [edgesFrom, ruleEdges])).mono ?_
  clear hr4 hp4 hq4 Hlit1
  rintro e w5 ⟨v5, rfl, hown5, hb5⟩
  obtain ⟨A5, c5, rfl, _⟩ := own_slice hown5
  have H5 := Lib.hid (H4.out.up hb5)
  have HF5 := Lib.hid (own_below HF4.out hb5)
  have G5 := Lib.hid (G4.out.trans (hb5.mono G4.out.size))
  clear H4 HF4 hb5 hown5
  simp only [edgesFrom, ruleEdges, List.map_cons, List.map_nil, List.append_nil, List.cons_append, List.nil_append, List.length_cons, List.length_nil]
  go_wp2_with fail
  refine (progEdges_any A2 m c2 rs' _ (own_rd H5.out.giv) (fun r hr => (H5.out.row r hr).ok) HS'.out).mono ?_
  rintro e w6 ⟨v6, rfl, hown6, hb6⟩
  rw [HE.out] at hown6
  obtain ⟨A6, c6, rfl, hrd6⟩ := own_slice hown6
  have HNE : Hid (∀ q, (Value.slice A3 es.length c3).ownBlock = some q → (Value.slice A6 es.length c6).ownBlock ≠ some q) := Lib.hid fun q hq hq' => by
    have h1 := (HF5.out.lt q hq).2
    have h2 := (hown6.lt q hq').1
    omega
  have H6 := Lib.hid (H5.out.up hb6)
  have HF6 := Lib.hid (own_below HF5.out hb6)
  have HA6 := Lib.hid (own_le hown6 G5.out.size)
  have G6 := Lib.hid (G5.out.trans (hb6.mono G5.out.size))
  clear H5 HF5 hb6 hown6 hrd6
  have hq2 : decide (es = es) = true := by simp
  go_wp2_with fail
  refine (equalEdges_any A3 A1 es.length es.length c3 c1 es es _ (own_rd HF6.out) H6.out.want).mono ?_
  rintro e w7 ⟨rfl, q7, rfl⟩
  go_wp2_with fail
  refine (equalEdges_any A6 A1 es.length es.length c6 c1 es es _ (own_rd (own_drewN HA6.out q7)) (H6.out.up (below_drewN (Below.refl _ _) q7)).want).mono ?_
  rintro e w8 ⟨rfl, q8, hw8⟩
  have hb8 : Below w6.heap.size w6 w8 := by rw [← hw8]; exact below_drewN (below_drewN (Below.refl _ _) q7) q8
  have H8 := Lib.hid (H6.out.up hb8)
  have HF8 := Lib.hid (own_below HF6.out hb8)
  have G8 := Lib.hid (G6.out.trans (hb8.mono G6.out.size))
  have HA8 := Lib.hid (own_below HA6.out hb8)
  clear hw8 hb8 H6 HF6 HA6
  go_wp2_with fail
  refine (equalRules_any A2 A m c2 c rs' rs _ (own_rd H8.out.giv) (fun r hr => (H8.out.row r hr).ok) HS'.out H8.out.args H8.out.aok (by rw [HE.out, HES.out])).mono ?_
  rintro e w9 ⟨rfl, hb9⟩
  have H9 := Lib.hid (H8.out.up hb9)
  have HF9 := Lib.hid (own_below HF8.out hb9)
  have G9 := Lib.hid (G8.out.trans (hb9.mono G8.out.size))
  clear G3 G4 G5 G6 G8
  have HA9 := Lib.hid (own_below HA8.out hb9)
  clear hb9 H8 HF8 HA8
  go_wp2_with fail
  refine (aloneEdges_any w2.heap.size A3 A6 es.length c3 es.length c6 es es _ HF9.out HA9.out HNE.out HS.out HS.out G9.out.size).mono ?_
  rintro e w10 ⟨rfl, hb10⟩
  have H10 := Lib.hid (H2.out.up (G9.out.trans hb10))
  clear H9 HF9 HA9 HNE G9 hb10 H2 hq2
  have hlen : rs'.length = m := HL'.out
  go_wp2
  go_loopg [8] m (fun gk v wr => ∃ (k : Nat), v = .int .i64 k ∧ k ≤ m ∧ gk = m - k ∧ Hid (Below w.heap.size w wr) ∧ Hid (wr.ownsRow w.heap.size 33 7 (.slice A2 m c2) m (rcells ((rs'.take k).map Ru.swap ++ rs'.drop k))) ∧ Hid (∀ r ∈ rs', Ru.own wr w.heap.size r))
  case atStart => exact ⟨0, rfl, Nat.zero_le _, by omega, Lib.hid H10.out.b, Lib.hid (by simpa using H10.out.giv), Lib.hid H10.out.row⟩
  case round =>
    obtain ⟨k, rfl, hk, hgk, hb, ho, hrw⟩ := hrel
    have HG := Lib.hid hgk
    clear hgk
    by_cases hlt : k < m
    · obtain ⟨g, cap, cur, hv, hbg, hg, _⟩ := own_blkd ho.out (by omega)
      injection hv with hv1 _ hv2
      subst hv1 hv2
      have hk1 : k < rs'.length := by omega
      obtain ⟨b, o, hk2, hA1, hbb, hc⟩ := (own_rd ho.out).at Ru.cells 7 (fun _ => rfl) (by omega) k hlt
      injection hA1 with hA1
      injection hA1 with hA1 hA2
      subst hA1 hA2
      rw [swap_at rs' k hk1] at hc
      have q2 := hc 2 _ (by omega) rfl
      have q4 := hc 4 _ (by omega) rfl
      rw [Nat.zero_add] at q2 q4
      clear hc hbb
      have z2 := ho.out.frozenAt (k * 7 + 2)
      have hset := own_swap ho.out hk2
      rw [swap_at rs' k hk1, swap_next rs' k hk1] at hset
      have HSET := Lib.hid hset
      have hrw1 : Hid (∀ r ∈ rs', Ru.own ((wr.setCell ⟨g, k * 7 + 2, none⟩ rs'[k].s2.v).setCell ⟨g, k * 7 + 4, none⟩ rs'[k].s1.v) w.heap.size r) := Lib.hid fun r hr =>
        (Ru.own.kept (v := .slice (some ⟨g, 0, none⟩) m c2) (hrw.out r hr) ho.out hset.2)
      have hb1 : Hid (Below w.heap.size w ((wr.setCell ⟨g, k * 7 + 2, none⟩ rs'[k].s2.v).setCell ⟨g, k * 7 + 4, none⟩ rs'[k].s1.v)) := Lib.hid ((hb.out.setCell (p := ⟨g, k * 7 + 2, none⟩) hbg _).setCell (p := ⟨g, k * 7 + 4, none⟩) hbg _)
      have hst := (ho.out.stored (k * 7 + 2) rs'[k].s2.v).1
      have z4 := hst.frozenAt (k * 7 + 4)
      have y4 : (wr.setCell ⟨g, k * 7 + 2, none⟩ rs'[k].s2.v).cell? ⟨g, k * 7 + 4, none⟩ = some (.slice rs'[k].s2.A rs'[k].s2.n rs'[k].s2.c) := by
        rw [(hg.set_ _ _).cell, List.getElem?_set_ne (by omega), ← hg.cell]
        exact q4
      have HX := Lib.hid (⟨z4, y4⟩ : _ ∧ _)
      clear hset hst z4 y4 hk2
      generalize rs'[k] = r at *
      obtain ⟨⟨hp, ha⟩, ⟨Ap, n1, cp⟩, pos, ts, ⟨An, n2, cn⟩, neg, vs, cl⟩ := r
      dsimp only [Sl.v] at *
      go_upto_region 13 with (fail)
      obtain ⟨z4, y4⟩ := HX.out
      clear z2 q2 q4 HX
      generalize World.setCell wr _ _ = w11 at *
      go_upto_region 10 with (fail)
      have hb11 := hb1
      have hrw11 := hrw1
      have ho11 := Lib.hid HSET.out.1
      clear hb1 hrw1 HSET z4 y4 ho hrw hb hg
      generalize World.setCell _ _ _ = w12 at *
      go_wp2
      go_roundg (m - (k + 1))
      case measure => have := HG.out; omega
      case rel => exact ⟨k + 1, by go_num, by omega, rfl, hb11, ho11, hrw11⟩
    · obtain rfl : k = m := by omega
      have HO : Hid (wr.ownsRow w.heap.size 33 7 (.slice A2 k c2) k (rcells (rs'.map Ru.swap))) := by
        have h := ho.out
        rw [List.take_of_length_le (by omega), List.drop_of_length_le (by omega), List.append_nil] at h
        exact Lib.hid h
      have HOK : Hid (∀ r ∈ rs'.map Ru.swap, Ru.ok wr r) := Lib.hid fun r hr => by
        obtain ⟨r0, h0, rfl⟩ := List.mem_map.1 hr
        exact (hrw.out r0 h0).ok.swap
      have HS2 : Hid ((edgesFrom 0 (rs'.map Ru.swap)).length * 32 ≤ 140737488351232) := Lib.hid (by rw [swap_len]; exact HS'.out)
      clear ho hrw
      generalize rs'.map Ru.swap = rt at *
      go_wp2_with fail
      refine (progEdges_any A2 k c2 rt _ (own_rd HO.out) HOK.out HS2.out).mono ?_
      rintro e w13 ⟨v13, rfl, hown13, hb13⟩
      obtain ⟨A13, c13, rfl, hrd13⟩ := own_slice hown13
      have HR13 := Lib.hid hrd13
      have HO13 := Lib.hid (own_below HO.out hb13)
      have HOK13 : Hid (∀ r ∈ rt, Ru.ok w13 r) := Lib.hid fun r hr => (HOK.out r hr).up hb13
      have HB13 := Lib.hid (hb.out.trans (hb13.mono hb.out.size))
      clear hown13 hrd13 hb13 HO HOK
      go_wp2_with fail
      refine (rulesOf_any A2 k c2 rt _ (own_rd HO13.out) HOK13.out HM.out (sm_of_sum HOK13.out HS2.out)).mono ?_
      rintro e w14 ⟨v14, ru, rfl, hown14, hcore14, hrow14, hb14⟩
      obtain ⟨A14, c14, rfl, hrd14⟩ := own_slice hown14
      have HE14 : Hid (edgesFrom 0 ru = edgesFrom 0 rt) := Lib.hid (edges_core 0 ru rt hcore14)
      have HR14 := Lib.hid hrd14
      have HK14 : Hid (∀ r ∈ ru, Ru.ok w14 r) := Lib.hid fun r hr => (hrow14 r hr).ok
      have HR13 := Lib.hid (HR13.out.up hb14 hb14.size)
      have HB14 := Lib.hid (HB13.out.trans (hb14.mono HB13.out.size))
      clear hown14 hcore14 hrow14 hrd14 hb14 HO13 HOK13 HB13
      go_wp2_with fail
      refine (refEdges_any A14 k c14 ru _ HR14.out HK14.out (by rw [HE14.out]; exact HS2.out)).mono ?_
      rintro e w15 ⟨v15, rfl, hown15, hb15⟩
      rw [HE14.out] at hown15
      obtain ⟨A15, c15, rfl, hrd15⟩ := own_slice hown15
      have HR15 := Lib.hid hrd15
      have HR13 := Lib.hid (HR13.out.up hb15 hb15.size)
      have HB15 := Lib.hid (HB14.out.trans (hb15.mono HB14.out.size))
      clear hown15 hrd15 hb15 HR14 HK14 HB14 HE14 HS2
      generalize edgesFrom 0 rt = et at *
      have hq2 : decide (et = et) = true := by simp
      go_wp2_with fail
      refine (equalEdges_any A13 A15 et.length et.length c13 c15 et et _ HR13.out HR15.out).mono ?_
      rintro e w16 ⟨rfl, q16, rfl⟩
      go_wp2
      go_ret
      exact ⟨rfl, HB15.out.trans ((below_drewN (Below.refl _ _) q16).mono HB15.out.size)⟩
end Go.Proofs.Ytefpglaipnnggaa
