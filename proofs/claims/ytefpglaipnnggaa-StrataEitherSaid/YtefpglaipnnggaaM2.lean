/- The law of the rules: its walk. -/
import Derived.Test.YtefpglaipnnggaaM1
import Derived.Test.YtefpglaipnnggaaI6
import Derived.Test.YtefpglaipnnggaaD6
namespace Go.Proofs.Ytefpglaipnnggaa
open Go.RowKit

theorem firstCycle_any (x : Int) (A : Option Addr) (m c : Nat) (es : List E) (w : World) (hr : Rd w w.heap.size 4 A m (ecells es)) (hreach : m * 32 ≤ 140737488355328) :
    Calls Try.prog 42 #[.int .i64 x, .slice A m c] w fun e w' => ∃ v l code, e = .returned v ∧ Below w.heap.size w w' ∧ w'.ownsRow w.heap.size 3 1 v l.length (icells l) ∧ Ring x es l code := by
  have HR := Lib.hid hr
  have HM := Lib.hid hreach
  have hmb := hr.2.1
  clear hr hreach
  go_enter Try.func42, Try.ntmps42
  go_wp2_with fail
  refine (edges_sl A m c es _ HR.out HM.out).mono ?_
  rintro e w2 ⟨A2, c2, rfl, _, hrd2, hb2⟩
  have HB2 := Lib.hid hb2
  have HR2 := Lib.hid hrd2
  clear hrd2 hb2
  go_wp2_with fail
  refine (progCycle_all A2 m c2 x es _ HR2.out HM.out).mono ?_
  rintro e w7 ⟨vC, r, codeC, rfl, hb7, hL7, hC7⟩
  have HCC := Lib.hid hC7
  have HO := Lib.hid (own_le hL7 HB2.out.size)
  have HB7 := Lib.hid (HB2.out.trans (hb7.mono HB2.out.size))
  clear hb7 hL7 hC7 HB2 HR2
  go_wp2
  go_ret
  exact ⟨vC, r, codeC, rfl, HB7.out, HO.out, HCC.out⟩

theorem Ring.cyc {n : Nat} {es : List E} {r : List Int} {code : Int} (hf : Fits n es) (hnb : ¬ NoBad es) (h : Ring n es r code) : cycB n es r = true := by
  rcases h with ⟨_, _, _, h3, _⟩ | ⟨n', b, hb, h1, _, h2, ⟨rest, h3, h4⟩, h5⟩ | ⟨h1, _, _⟩
  · exact absurd h3 hnb
  · rw [cycB_iff, h3]; exact ring_cyc hf hb h2 h4
  · exact absurd hf h1

set_option maxRecDepth 20000 in
set_option maxHeartbeats 4000000 in
theorem StrataRules_walk (x : Int) (A : Option Addr) (m c : Nat) (rs : List Ru) (w : World) (hr : Rd w w.heap.size 7 A m (rcells rs)) (hok : ∀ r ∈ rs, Ru.ok w r) (hm136 : m * 136 ≤ 140737488351232) (hsum : (edgesFrom 0 rs).length * 32 ≤ 140737488351232) :
    Calls Try.prog 11 #[.int .i64 x, .slice A m c] w fun e w' => e = .returned (.bool true) ∧ Below w.heap.size w w' := by
  have HR := Lib.hid hr
  have HK := Lib.hid hok
  have HS := Lib.hid hsum
  have HSL : Hid ((edgesFrom 0 rs).length * 32 ≤ 140737488355328) := Lib.hid (Nat.le_trans hsum (by decide))
  have HM := Lib.hid hm136
  have hm := hr.2.1
  have hl : rs.length = m := by have := hr.1; rw [rcells_length] at this; omega
  have HL := Lib.hid hl
  clear hr hok hsum hm136 hl
  go_enter Try.func11, Try.ntmps11
  by_cases h0 : x < 0
  · go_wp2
    go_ret
    exact ⟨rfl, Below.refl _ _⟩
  by_cases h1 : 128 < x
  · have h0b : decide (x < 0) = false := by simp; omega
    go_wp2
    go_ret
    exact ⟨rfl, Below.refl _ _⟩
  obtain ⟨n, rfl⟩ : ∃ n : Nat, x = n := ⟨x.toNat, by omega⟩
  have hn : n ≤ 128 := by omega
  have h0b : decide ((n : Int) < 0) = false := by simp
  have h1b : decide ((128 : Int) < (n : Int)) = false := by simp; omega
  clear h0 h1
  go_wp2_with fail
  refine (below_any n A m c rs _ HR.out HK.out).mono ?_
  rintro e w1 ⟨rfl, rfl⟩
  by_cases hrg : ranged n rs
  · rw [rangedB_true hrg]
    have HRG := Lib.hid hrg
    have HF : Hid (Fits n (edgesFrom 0 rs)) := Lib.hid ⟨by omega, by omega, ranged_fits 0 hrg⟩
    clear hrg
    go_wp2
    go_loopg [5, 6] m (fun gk v5 v6 wr => ∃ k : Nat, v6 = .int .i64 k ∧ v5 = .int .i64 ((edgesFrom 0 (rs.take k)).length : Nat) ∧ k ≤ m ∧ gk = m - k ∧ Hid (Below w1.heap.size w1 wr))
    case atStart => exact ⟨0, rfl, rfl, Nat.zero_le _, by omega, Lib.hid (Below.refl _ _)⟩
    case round =>
      obtain ⟨k, rfl, rfl, hkm, hgk, HB⟩ := hrel
      have HG := Lib.hid hgk
      clear hgk
      by_cases hlt : k < m
      · obtain ⟨B, off, hk1, rfl, hB, hc⟩ := (HR.out.below HB.out).at Ru.cells 7 (fun _ => rfl) (by omega) k hlt
        have c2 := hc 2 _ (by omega) rfl
        have c4 := hc 4 _ (by omega) rfl
        have hokk := HK.out rs[k] (List.getElem_mem hk1)
        have hb1 := hokk.1.2.1
        have hb2 := hokk.2.2.1
        have hn1 : rs[k].pos.length = rs[k].s1.n := by have := hokk.1.1; rw [pcells_length] at this; omega
        have hn2 : rs[k].neg.length = rs[k].s2.n := by have := hokk.2.1; rw [pcells_length] at this; omega
        have hes := edges_le rs (k + 1)
        rw [edges_snoc rs k hk1, List.length_append] at hes
        have HES : Hid ((edgesFrom 0 (rs.take (k + 1))).length = (edgesFrom 0 (rs.take k)).length + rs[k].s1.n + rs[k].s2.n) := Lib.hid (by
          rw [edges_snoc rs k hk1, List.length_append]
          simp only [ruleEdges, List.length_append, List.length_map]
          omega)
        have hsz := HS.out
        simp only [ruleEdges, List.length_append, List.length_map] at hes
        clear hc hokk
        generalize (edgesFrom 0 (rs.take k)).length = ct at *
        generalize rs[k] = r at *
        obtain ⟨hd, ⟨A1, n1, c1⟩, pos, ts, ⟨A2, n2, c2'⟩, neg, vs, cl⟩ := r
        dsimp only at hb1 hb2 c2 c4 HES hn1 hn2 hes
        go_upto_region 7 with (fail)
        go_quiet (fail)
        go_wp2
        go_roundg (m - (k + 1))
        case measure => have := HG.out; omega
        case rel => exact ⟨k + 1, by go_num, by rw [HES.out]; go_num, by omega, rfl, Lib.hid (below_drewN HB.out _)⟩
      · obtain rfl : k = m := by omega
        have htk : rs.take k = rs := List.take_of_length_le (by have := HL.out; omega)
        rw [htk]
        clear htk HG
        go_wp2_with fail
        refine (rulesOf_any A k c rs _ (HR.out.up HB.out HB.out.size) (fun r hr => (HK.out r hr).up HB.out) HM.out (sm_of_sum HK.out HS.out)).mono ?_
        rintro e w2 ⟨v2, rs', rfl, hown2, hcore, hrow, hb2⟩
        have HE : Hid (edgesFrom 0 rs' = edgesFrom 0 rs) := Lib.hid (edges_core 0 rs' rs hcore)
        obtain ⟨A2, c2, rfl, hrd2⟩ := own_slice hown2
        have HR2 := Lib.hid hrd2
        have HRO : Hid (∀ r ∈ rs', Ru.ok w2 r) := Lib.hid fun r hr => (hrow r hr).ok
        have HB2 := Lib.hid (HB.out.trans (hb2.mono HB.out.size))
        have HS' : Hid ((edgesFrom 0 rs').length * 32 ≤ 140737488351232) := by rw [HE.out]; exact HS
        clear hown2 hcore hrow hb2 hrd2 HB
        go_wp2_with fail
        refine (progEdges_any A2 k c2 rs' _ HR2.out HRO.out HS'.out).mono ?_
        rintro e w3 ⟨v3, rfl, hown3, hb3⟩
        rw [HE.out] at hown3
        obtain ⟨AE, cE, rfl, hrd3⟩ := own_slice hown3
        have HRE := Lib.hid hrd3
        have HB3 := Lib.hid (HB2.out.trans (hb3.mono HB2.out.size))
        have HPE : Hid (∀ r ∈ rs, ∀ y ∈ r.pos, ∃ e ∈ edgesFrom 0 rs, e.f = y.p ∧ e.t = r.h.p ∧ e.neg = false) := Lib.hid fun r hr y hy => edge_pos hy 0 hr
        have HNE : Hid (∀ r ∈ rs, ∀ y ∈ r.neg, ∃ e ∈ edgesFrom 0 rs, e.f = y.p ∧ e.t = r.h.p ∧ e.neg = true) := Lib.hid fun r hr y hy => edge_neg hy 0 hr
        clear hown3 hb3 hrd3 HB2 HR2 HRO HS' HE
        have hlen : (edgesFrom 0 rs).length ≤ 9223372036854775807 := by have := HS.out; omega
        generalize hes : edgesFrom 0 rs = es at *
        clear hes
        generalize hel : es.length = el at *
        have HEL := Lib.hid hel
        clear hel
        have hfit := (fitB_iff n es).2 HF.out
        go_wp2_with fail
        refine (lawFit_any n AE el cE es _ HRE.out).mono ?_
        rintro e w4 ⟨rfl, rfl⟩
        rw [hfit]
        clear hfit
        go_wp2_with fail
        refine (edges_sl AE el cE es _ HRE.out HSL.out).mono ?_
        rintro e w5 ⟨A5, c5, rfl, _, hrd5, hb5⟩
        have HB5 := Lib.hid (HB3.out.trans (hb5.mono HB3.out.size))
        have HRE := Lib.hid (HRE.out.up hb5 hb5.size)
        have HR5 := Lib.hid hrd5
        clear hrd5 hb5 HB3
        go_wp2_with fail
        refine (progLevels_all A5 el c5 n es _ HR5.out HSL.out).mono ?_
        rintro e w6 ⟨vL, l, codeL, rfl, hb6, hL6, hC6⟩
        have HCL := Lib.hid hC6
        obtain ⟨AL, cL, rfl, hRL⟩ := own_slice hL6
        have HRL := Lib.hid hRL
        have HB6 := Lib.hid (HB5.out.trans (hb6.mono HB5.out.size))
        have HRE := Lib.hid (HRE.out.up hb6 hb6.size)
        clear hb6 hL6 hC6 hRL HB5 HR5
        by_cases hnb : NoBad es
        · obtain ⟨hl, hc0⟩ : LeastL n es l ∧ codeL = 0 := by
            rcases HCL.out with ⟨n', h1, _, h3, h4⟩ | ⟨_, _, _, h3, _⟩ | ⟨h1, _, _⟩
            · have : n = n' := by omega
              subst this; exact ⟨h3, h4⟩
            · exact absurd hnb h3
            · exact absurd HF.out h1
          subst hc0
          have HLE := Lib.hid hl
          have hll := hl.1
          have HRL : Hid (Rd w6 w6.heap.size 1 AL n (icells l)) := Lib.hid (by have := HRL.out; rw [hll] at this; exact this)
          rw [hll]
          have HPL : Hid (∀ r ∈ rs, ∀ y ∈ r.pos, lv l y.p ≤ lv l r.h.p) := Lib.hid fun r hr y hy => by
            obtain ⟨e, he, h1, h2, h3⟩ := HPE.out r hr y hy
            have h4 := HLE.out.2.1.2 e he
            have h5 := (stp_nonneg e).1
            rw [h1, h2] at h4
            omega
          have HNL : Hid (∀ r ∈ rs, ∀ y ∈ r.neg, lv l y.p < lv l r.h.p) := Lib.hid fun r hr y hy => by
            obtain ⟨e, he, h1, h2, h3⟩ := HNE.out r hr y hy
            have h4 := HLE.out.2.1.2 e he
            rw [h1, h2] at h4
            simp only [stp, h3, if_true] at h4
            omega
          clear hl hnb HCL HPE HNE
          have HR6 := Lib.hid (HR.out.up HB6.out HB6.out.size)
          have HK6 : Hid (∀ r ∈ rs, Ru.ok w6 r) := Lib.hid fun r hr => (HK.out r hr).up HB6.out
          have hnn : ((n : Int) != (n : Int)) = false := by simp
          go_wp2
          clear hnn
          go_loopg [10] k (fun gk v wr => ∃ q : Nat, v = .int .i64 q ∧ q ≤ k ∧ gk = k - q ∧ Hid (Below w6.heap.size w6 wr))
          case atStart => exact ⟨0, rfl, Nat.zero_le _, by omega, Lib.hid (Below.refl _ _)⟩
          case round =>
            obtain ⟨q, rfl, hqk, hgq, HB⟩ := hrel
            have HG := Lib.hid hgq
            clear hgq
            by_cases hlt : q < k
            · obtain ⟨B, off, hk1, rfl, hB, hc⟩ := (HR6.out.below HB.out).at Ru.cells 7 (fun _ => rfl) (by omega) q hlt
              have c0 := hc 0 _ (by omega) rfl
              have c1 := hc 1 _ (by omega) rfl
              have c2 := hc 2 _ (by omega) rfl
              have c3 := hc 3 _ (by omega) rfl
              have c4 := hc 4 _ (by omega) rfl
              have c5 := hc 5 _ (by omega) rfl
              have c6 := hc 6 _ (by omega) rfl
              rw [Nat.add_zero] at c0
              clear hc
              have hmem := List.getElem_mem hk1
              have hokk := HK6.out rs[q] hmem
              have HP := Lib.hid hokk.1
              have HN := Lib.hid hokk.2
              have hb1 := hokk.1.2.1
              have hb2 := hokk.2.2.1
              have HPL2 := Lib.hid (HPL.out _ hmem)
              have HNL2 := Lib.hid (HNL.out _ hmem)
              have HIN := Lib.hid (HRG.out _ hmem)
              clear hokk hmem
              go_upto_region 20 with (fail)
              have HB := Lib.hid (HB.out.alloc HB.out.size (.cells rs[q].cells.toArray 33))
              have HX := Lib.hid (Blk.new wr 33 rs[q].cells)
              clear c0 c1 c2 c3 c4 c5 c6
              generalize rs[q] = r at *
              obtain ⟨⟨hp, ha⟩, ⟨A1, n1, c1⟩, pos, ts, ⟨A2', n2, c2'⟩, neg, vs, cl⟩ := r
              simp only [Ru.cells] at HB HX
              dsimp only at HP HN HPL2 HNL2 HIN hb1 hb2
              obtain ⟨hh, rfl⟩ : ∃ z : Nat, hp = (z : Int) := ⟨hp.toNat, by have := HIN.out.1.1; dsimp only at this; omega⟩
              have hhn : hh < n := by have := HIN.out.1.2; dsimp only at this; omega
              generalize World.alloc _ _ = wa at *
              generalize wr.heap.size = Q at *
              have f2 := HX.out.cell 2
              simp only [List.getElem?_cons_zero, List.getElem?_cons_succ] at f2
              go_wp2
              clear f2
              go_loopg [12] n1 (fun gk v wx => ∃ i : Nat, v = .int .i64 i ∧ i ≤ n1 ∧ gk = n1 - i ∧ Hid (Below w6.heap.size w6 wx) ∧ Hid (Blk wx Q 33 [.int .i64 hh, .slice ha.A ha.n ha.c, .slice A1 n1 c1, .slice ts.A ts.n ts.c, .slice A2' n2 c2', .slice vs.A vs.n vs.c, .int .i64 cl]))
              case atStart => exact ⟨0, rfl, Nat.zero_le _, by omega, HB, HX⟩
              case round =>
                clear HB HX
                obtain ⟨i, rfl, hi1, hgi, HB, HX⟩ := hrel
                have HG2 := Lib.hid hgi
                clear hgi
                by_cases hlt2 : i < n1
                · obtain ⟨B2, off2, hi2, rfl, hB2, hc⟩ := (HP.out.below HB.out).at Pt.cells 2 (fun _ => rfl) (by omega) i hlt2
                  have d0 := hc 0 _ (by omega) rfl
                  rw [Nat.add_zero] at d0
                  clear hc
                  have hy := HIN.out.2.1 _ (List.getElem_mem hi2)
                  have hle := HPL2.out _ (List.getElem_mem hi2)
                  generalize pos[i] = y at *
                  obtain ⟨yp, ya⟩ := y
                  dsimp only at d0 hy hle
                  obtain ⟨yy, rfl⟩ : ∃ z : Nat, yp = (z : Int) := ⟨yp.toNat, by have := hy.1; omega⟩
                  have hyn : yy < n := by have := hy.2; omega
                  obtain ⟨b2, o2, hj2, rfl, hbb2, x0⟩ := (HRL.out.below HB.out).int hh hhn
                  obtain ⟨b3, o3, hj3, hA3, hbb3, x1⟩ := (HRL.out.below HB.out).int yy hyn
                  simp only [Option.some.injEq, Addr.mk.injEq, and_true] at hA3
                  obtain ⟨rfl, rfl⟩ := hA3
                  rw [← lv_get hj2] at x0
                  rw [← lv_get hj3] at x1
                  generalize lv l hh = lh at *
                  generalize lv l yy = ly at *
                  have hdf : decide (lh < ly) = false := by simp; omega
                  have f0 := HX.out.cell 0
                  have f2 := HX.out.cell 2
                  simp only [List.getElem?_cons_zero, List.getElem?_cons_succ] at f0 f2
                  go_upto_region 23 with (fail)
                  go_quiet (fail)
                  go_wp2
                  go_roundg (n1 - (i + 1))
                  case measure => have := HG2.out; omega
                  case rel => exact ⟨i + 1, by go_num, by omega, rfl, Lib.hid (below_drewN HB.out _), Lib.hid (HX.out.drewN _)⟩
                · obtain rfl : n1 = i := by omega
                  have f2 := HX.out.cell 2
                  simp only [List.getElem?_cons_zero, List.getElem?_cons_succ] at f2
                  have f4 := HX.out.cell 4
                  simp only [List.getElem?_cons_zero, List.getElem?_cons_succ] at f4
                  clear HG2
                  go_wp2
                  clear f2 f4
                  go_loopg [13] n2 (fun gk v wx => ∃ i : Nat, v = .int .i64 i ∧ i ≤ n2 ∧ gk = n2 - i ∧ Hid (Below w6.heap.size w6 wx) ∧ Hid (Blk wx Q 33 [.int .i64 hh, .slice ha.A ha.n ha.c, .slice A1 n1 c1, .slice ts.A ts.n ts.c, .slice A2' n2 c2', .slice vs.A vs.n vs.c, .int .i64 cl]))
                  case atStart => exact ⟨0, rfl, Nat.zero_le _, by omega, HB, HX⟩
                  case round =>
                    clear HB HX
                    obtain ⟨i, rfl, hi1, hgi, HB, HX⟩ := hrel
                    have HG2 := Lib.hid hgi
                    clear hgi
                    by_cases hlt2 : i < n2
                    · obtain ⟨B2, off2, hi2, rfl, hB2, hc⟩ := (HN.out.below HB.out).at Pt.cells 2 (fun _ => rfl) (by omega) i hlt2
                      have d0 := hc 0 _ (by omega) rfl
                      rw [Nat.add_zero] at d0
                      clear hc
                      have hy := HIN.out.2.2 _ (List.getElem_mem hi2)
                      have hle := HNL2.out _ (List.getElem_mem hi2)
                      generalize neg[i] = y at *
                      obtain ⟨yp, ya⟩ := y
                      dsimp only at d0 hy hle
                      obtain ⟨yy, rfl⟩ : ∃ z : Nat, yp = (z : Int) := ⟨yp.toNat, by have := hy.1; omega⟩
                      have hyn : yy < n := by have := hy.2; omega
                      obtain ⟨b2, o2, hj2, rfl, hbb2, x0⟩ := (HRL.out.below HB.out).int hh hhn
                      obtain ⟨b3, o3, hj3, hA3, hbb3, x1⟩ := (HRL.out.below HB.out).int yy hyn
                      simp only [Option.some.injEq, Addr.mk.injEq, and_true] at hA3
                      obtain ⟨rfl, rfl⟩ := hA3
                      rw [← lv_get hj2] at x0
                      rw [← lv_get hj3] at x1
                      generalize lv l hh = lh at *
                      generalize lv l yy = ly at *
                      have hdf : decide (lh ≤ ly) = false := by simp; omega
                      have f0 := HX.out.cell 0
                      have f2 := HX.out.cell 4
                      simp only [List.getElem?_cons_zero, List.getElem?_cons_succ] at f0 f2
                      go_upto_region 28 with (fail)
                      go_quiet (fail)
                      go_wp2
                      go_roundg (n2 - (i + 1))
                      case measure => have := HG2.out; omega
                      case rel => exact ⟨i + 1, by go_num, by omega, rfl, Lib.hid (below_drewN HB.out _), Lib.hid (HX.out.drewN _)⟩
                    · obtain rfl : n2 = i := by omega
                      have f2 := HX.out.cell 4
                      simp only [List.getElem?_cons_zero, List.getElem?_cons_succ] at f2
                      clear HG2
                      go_wp2
                      go_roundg (k - (q + 1))
                      case measure => have := HG.out; omega
                      case rel => exact ⟨q + 1, by go_num, by omega, rfl, HB⟩
            · obtain rfl : q = k := by omega
              have HB7 := Lib.hid (HB6.out.trans (HB.out.mono HB6.out.size))
              have HRE := Lib.hid (HRE.out.up HB.out HB.out.size)
              have HRL := Lib.hid (HRL.out.up HB.out HB.out.size)
              clear HG
              go_wp2_with fail
              refine (asked_ok n AE AL el cE cL es l _ HRE.out HRL.out HF.out HLE.out).mono ?_
              rintro e w9 ⟨rfl, hb9⟩
              have HB9 := Lib.hid (HB7.out.trans (hb9.mono HB7.out.size))
              clear hb9
              go_wp2
              go_ret
              exact ⟨rfl, HB9.out⟩
        · obtain ⟨hl, hc0⟩ : l = [] ∧ codeL = 40 := by
            rcases HCL.out with ⟨n', h1, _, h3, h4⟩ | ⟨_, _, _, _, h4, h5⟩ | ⟨h1, _, _⟩
            · exact absurd h3.2.1.noBad hnb
            · exact ⟨h4, h5⟩
            · exact absurd HF.out h1
          subst hl hc0
          have HNB := Lib.hid hnb
          clear hnb HCL HPE HNE HRL
          go_wp2_with fail
          refine (edges_sl AE el cE es _ HRE.out HSL.out).mono ?_
          rintro e w7 ⟨A7, c7, rfl, _, hrd7, hb7⟩
          have HB7 := Lib.hid (HB6.out.trans (hb7.mono HB6.out.size))
          have HRE := Lib.hid (HRE.out.up hb7 hb7.size)
          have HR7 := Lib.hid hrd7
          clear hrd7 hb7 HB6
          go_wp2_with fail
          refine (firstCycle_any n AE el cE es _ HRE.out HSL.out).mono ?_
          rintro e w8 ⟨vC, r, codeC, rfl, hb8, hL8, hC8⟩
          have hH := hC8.cyc HF.out HNB.out
          obtain ⟨AR, cR, rfl, hRR⟩ := own_slice hL8
          have HRR := Lib.hid hRR
          have HB8 := Lib.hid (HB7.out.trans (hb8.mono HB7.out.size))
          have HR8 := Lib.hid (HR7.out.up hb8 hb8.size)
          clear hb8 hL8 hC8 hRR HB7 HR7
          go_wp2_with fail
          refine (strataCyclic_any n A7 AR el c7 r.length cR es r _ HR8.out HRR.out).mono ?_
          rintro e w9 ⟨rfl, hb9⟩
          rw [hH]
          have HB9 := Lib.hid (HB8.out.trans (hb9.mono HB8.out.size))
          clear hb9 hH
          go_wp2
          go_ret
          exact ⟨rfl, HB9.out⟩
  · rw [rangedB_false hrg]
    go_wp2
    go_ret
    exact ⟨rfl, Below.refl _ _⟩
end Go.Proofs.Ytefpglaipnnggaa
