/- The law of the least levels: its walk. -/
import Derived.Test.YtefpglaipnnggaaL2
import Derived.Test.YtefpglaipnnggaaI7
namespace Go.Proofs.Ytefpglaipnnggaa
open Go.RowKit

set_option maxRecDepth 20000 in
set_option maxHeartbeats 4000000 in
theorem StrataLeast_walk (x : Int) (A : Option Addr) (m c : Nat) (es : List E) (w : World) (hr : Rd w w.heap.size 4 A m (ecells es)) (hreach : m * 32 ≤ 140737488351232) :
    Calls Try.prog 12 #[.int .i64 x, .slice A m c] w fun e w' => e = .returned (.bool true) ∧ Below w.heap.size w w' := by
  have HR := Lib.hid hr
  have HM := Lib.hid hreach
  have hlen : es.length = m := by have := hr.1; rw [ecells_length] at this; omega
  have HL := Lib.hid hlen
  have hmb := hr.2.1
  clear hr hreach hlen
  go_enter Try.func12, Try.ntmps12
  go_wp2_with fail
  refine (lawFit_any x A m c es _ HR.out).mono ?_
  rintro e w1 ⟨rfl, rfl⟩
  by_cases hf : Fits x es
  · obtain ⟨n, rfl⟩ : ∃ n : Nat, x = n := ⟨x.toNat, by have := hf.1; omega⟩
    have hfit := (fitB_iff n es).2 hf
    rw [hfit]
    have HF := Lib.hid hf
    have hn : n ≤ 128 := by have := hf.2.1; omega
    clear hf hfit
    go_wp2_with fail
    refine (edges_sl A m c es _ HR.out HM.out).mono ?_
    rintro e w2 ⟨A2, c2, rfl, _, hrd2, hb2⟩
    have HB2 := Lib.hid hb2
    have HR2 := Lib.hid hrd2
    clear hrd2 hb2
    go_wp2_with fail
    refine (progLevels_all A2 m c2 n es _ HR2.out HM.out).mono ?_
    rintro e w3 ⟨vL, l, codeL, rfl, hb3, hL3, hC3⟩
    have HCL := Lib.hid hC3
    obtain ⟨AL, cL, rfl, hRL⟩ := own_slice hL3
    have HRL := Lib.hid hRL
    have HB3 := Lib.hid (HB2.out.trans (hb3.mono HB2.out.size))
    clear hb3 hL3 hC3 hRL HB2 HR2
    go_wp2_with fail
    refine (edges_sl A m c es _ (HR.out.up HB3.out HB3.out.size) HM.out).mono ?_
    rintro e w4 ⟨A4, c4, rfl, _, hrd4, hb4⟩
    have HB4 := Lib.hid (HB3.out.trans (hb4.mono HB3.out.size))
    have HRL := Lib.hid (HRL.out.up hb4 hb4.size)
    have HR4 := Lib.hid hrd4
    clear hrd4 hb4 HB3
    go_wp2_with fail
    refine (progBad_any A4 m c4 n es _ HR4.out HF.out HM.out).mono ?_
    rintro e w5 ⟨rfl, hb5⟩
    have HB5 := Lib.hid (HB4.out.trans (hb5.mono HB4.out.size))
    have HRL := Lib.hid (HRL.out.up hb5 hb5.size)
    clear hb5 HB4 HR4
    go_wp2_with fail
    refine (edges_sl A m c es _ (HR.out.up HB5.out HB5.out.size) HM.out).mono ?_
    rintro e w6 ⟨A6, c6, rfl, _, hrd6, hb6⟩
    have HB6 := Lib.hid (HB5.out.trans (hb6.mono HB5.out.size))
    have HRL := Lib.hid (HRL.out.up hb6 hb6.size)
    have HR6 := Lib.hid hrd6
    clear hrd6 hb6 HB5
    go_wp2_with fail
    refine (progCycle_all A6 m c6 n es _ HR6.out HM.out).mono ?_
    rintro e w7 ⟨vC, r, codeC, rfl, hb7, hL7, hC7⟩
    have HCC := Lib.hid hC7
    obtain ⟨AR, cR, rfl, hRR⟩ := own_slice hL7
    have HRR := Lib.hid hRR
    have HB7 := Lib.hid (HB6.out.trans (hb7.mono HB6.out.size))
    have HRL := Lib.hid (HRL.out.up hb7 hb7.size)
    clear hb7 hL7 hC7 hRR HB6 HR6
    by_cases hnb : NoBad es
    · have hbad := badAt_m1 hnb
      rw [hbad]
      obtain ⟨hl, hc0⟩ : LeastL n es l ∧ codeL = 0 := by
        rcases HCL.out with ⟨n', h1, _, h3, h4⟩ | ⟨_, _, _, h3, _⟩ | ⟨h1, _, _⟩
        · have : n = n' := by omega
          subst this; exact ⟨h3, h4⟩
        · exact absurd hnb h3
        · exact absurd HF.out h1
      obtain ⟨hr0, hc1⟩ : r = [] ∧ codeC = 0 := HCC.out.unique (.inl ⟨n, rfl, HF.out, hnb, rfl, rfl⟩)
      subst hc0 hc1 hr0
      have HLE := Lib.hid hl
      have hll := hl.1
      have HRL : Hid (Rd w7 w7.heap.size 1 AL n (icells l)) := Lib.hid (by have := HRL.out; rw [hll] at this; exact this)
      rw [hll]
      clear hl hll hbad hnb HCL HCC HRR
      go_wp2_with fail
      refine (mapping_ok n A AL m c n cL es l _ (HR.out.up HB7.out HB7.out.size) HRL.out (HLE.out.holds HF.out)).mono ?_
      rintro e w8 ⟨rfl, hb8⟩
      have HB8 := Lib.hid (HB7.out.trans (hb8.mono HB7.out.size))
      have HRL := Lib.hid (HRL.out.up hb8 hb8.size)
      clear hb8 HB7
      go_wp2_with fail
      refine (asked_ok n A AL m c cL es l _ (HR.out.up HB8.out HB8.out.size) HRL.out HF.out HLE.out).mono ?_
      rintro e w9 ⟨rfl, hb9⟩
      have HB9 := Lib.hid (HB8.out.trans (hb9.mono HB8.out.size))
      have HRL := Lib.hid (HRL.out.up hb9 hb9.size)
      clear hb9 HB8
      go_wp2_with fail
      refine (edges_sl A m c es _ (HR.out.up HB9.out HB9.out.size) HM.out).mono ?_
      rintro e wa ⟨Aa, ca, rfl, _, hrda, hba⟩
      have HBa := Lib.hid (HB9.out.trans (hba.mono HB9.out.size))
      have HRL := Lib.hid (HRL.out.up hba hba.size)
      have HRa := Lib.hid hrda
      clear hrda hba HB9
      go_wp2_with fail
      refine (ints_any AL n cL l _ HRL.out (by omega)).mono ?_
      rintro e wb ⟨vI, rfl, hownb, hbb⟩
      obtain ⟨AI, cI, rfl, hRI⟩ := own_slice hownb
      have HBb := Lib.hid (HBa.out.trans (hbb.mono HBa.out.size))
      have HRb := Lib.hid (HRa.out.up hbb hbb.size)
      have HRI := Lib.hid hRI
      clear hownb hbb hRI HBa HRa
      have hH := (holdsB_iff n es l).2 (HLE.out.holds HF.out)
      go_wp2_with fail
      refine (strataHolds_any n Aa AI m ca n cI es l _ HRb.out HRI.out).mono ?_
      rintro e wc ⟨rfl, hbc⟩
      rw [hH]
      have HBc := Lib.hid (HBb.out.trans (hbc.mono HBb.out.size))
      clear hbc hH
      go_wp2
      go_ret
      exact ⟨rfl, HBc.out⟩
    · obtain ⟨hl, hc0⟩ : l = [] ∧ codeL = 40 := by
        rcases HCL.out with ⟨n', h1, _, h3, h4⟩ | ⟨_, _, _, _, h4, h5⟩ | ⟨h1, _, _⟩
        · exact absurd h3.2.1.noBad hnb
        · exact ⟨h4, h5⟩
        · exact absurd HF.out h1
      obtain ⟨b, hb, hbad, rest, hr0, hwy, hc1⟩ : ∃ b : Nat, ∃ hb : b < es.length, badAt es = b ∧ ∃ rest, r = (b : Int) :: rest ∧ Wy es es[b].f es[b].t rest ∧ codeC = 0 := by
        rcases HCC.out with ⟨_, _, _, h3, _⟩ | ⟨n', b, hb, _, _, h2, ⟨rest, h3, h4⟩, h5⟩ | ⟨h1, _, _⟩
        · exact absurd h3 hnb
        · exact ⟨b, hb, h2, rest, h3, h4, h5⟩
        · exact absurd HF.out h1
      have hcy := ring_cyc HF.out hb hbad hwy
      rw [← hr0] at hcy
      have HCY := Lib.hid hcy
      have hsm := HCC.out.small
      have hr00 : 0 < r.length ∧ lv r ((0 : Nat) : Int) = (b : Int) := by subst hr0; exact ⟨by simp, rfl⟩
      have hneg : es[b].neg = true := by
        obtain ⟨b', hb', hbad', _⟩ := bad_edge hnb
        have h5 := hcy.2.2.2.2
        have h0 := hbad
        unfold badAt firstAt at h0
        split at h0
        · rename_i h1
          have h2 := List.findIdx_getElem (w := h1)
          simp only [Bool.and_eq_true] at h2
          have h6 : (es.findIdx (fun e => e.neg && @decide (Scc (Eg es) e.f e.t) (Classical.propDecidable _))) = b := by exact_mod_cast h0
          have h3 := h2.1
          simp only [h6] at h3
          exact h3
        · omega
      subst hl hc0 hc1
      rw [hbad]
      obtain ⟨hrp, hr0v⟩ := hr00
      have hbm : b < m := by have := HL.out; omega
      obtain ⟨eb, eo, hj1, rfl, hbb, d0, d1, d2, d3⟩ := HR.out.edge b hbm
      rw [hneg] at d2
      have HD2 := Lib.hid (⟨hbb, d2⟩ : _ ∧ _)
      have hneg1 : ((b : Int) == -1) = false := by simp
      clear hbad hr0 hwy hcy hneg d0 d1 d2 d3 HCL HCC HRL hnb
      generalize hk : r.length = k at *
      have HK := Lib.hid hk
      clear hk
      have hkb := HRR.out.2.1
      obtain ⟨rb, ro, hj2, rfl, hbb2, r0⟩ := HRR.out.int 0 hrp
      rw [← lv_get hj2, hr0v, Nat.add_zero] at r0
      have HRV := Lib.hid hr0v
      clear hr0v
      have hk0 : ((k : Int) == 0) = false := by simp; omega
      go_upto_region 12 with (fail)
      clear r0 hk0
      go_wp2
      go_loopg [11] k (fun gk v wr => ∃ i : Nat, v = .int .i64 i ∧ i ≤ k ∧ gk = k - i ∧ Hid (Below w.heap.size w wr) ∧ Hid (Rd wr wr.heap.size 1 (some ⟨rb, ro, none⟩) k (icells r)))
      case atStart => exact ⟨0, rfl, Nat.zero_le _, by omega, HB7, HRR⟩
      case round =>
        clear HB7 HRR
        obtain ⟨i, rfl, hik, hgi, HB, HRR⟩ := hrel
        have HG := Lib.hid hgi
        clear hgi
        by_cases hlt : i < k
        · obtain ⟨_, _, hj3, hA3, hbb3, t0⟩ := HRR.out.int i hlt
          simp only [Option.some.injEq, Addr.mk.injEq, and_true] at hA3
          obtain ⟨rfl, rfl⟩ := hA3
          obtain ⟨p1, p2⟩ := HCY.out.2.2.1 _ (List.getElem_mem hj3)
          rw [HL.out] at p2
          generalize r[i] = y at *
          obtain ⟨z, rfl⟩ : ∃ z : Nat, y = (z : Int) := ⟨y.toNat, by omega⟩
          have q1 : decide ((z : Int) < 0) = false := by simp
          have q2 : decide ((m : Int) ≤ (z : Int)) = false := by simp; omega
          go_wp2
          go_roundg (k - (i + 1))
          case measure => have := HG.out; omega
          case rel => exact ⟨i + 1, by go_num, by omega, rfl, HB, HRR⟩
        · obtain rfl : i = k := by omega
          clear HG
          go_wp2
          go_loopg [12] i (fun gk v wr => ∃ q : Nat, v = .int .i64 q ∧ q ≤ i ∧ gk = i - q ∧ Hid (Below w.heap.size w wr) ∧ Hid (Rd wr wr.heap.size 1 (some ⟨rb, ro, none⟩) i (icells r)))
          case atStart => exact ⟨0, rfl, Nat.zero_le _, by omega, HB, HRR⟩
          case round =>
            clear HB HRR
            obtain ⟨q, rfl, hqi, hgq, HB, HRR⟩ := hrel
            have HG := Lib.hid hgq
            clear hgq
            by_cases hlq : q < i
            · obtain ⟨_, _, hj3, hA3, hbb3, t0⟩ := HRR.out.int q hlq
              obtain ⟨_, _, hj4, hA4, hbb4, t1⟩ := HRR.out.int ((q + 1) % i) (Nat.mod_lt _ hrp)
              simp only [Option.some.injEq, Addr.mk.injEq, and_true] at hA3 hA4
              obtain ⟨rfl, rfl⟩ := hA3
              obtain ⟨rfl, rfl⟩ := hA4
              have e1 : nextOf r q = r[(q + 1) % i] := nextOf_get HK.out hj4
              have e0 : lv r q = r[q] := lv_get hj3
              have b1 : ((q : Int) + 1) % (i : Int) < i := Int.emod_lt_of_pos _ (by omega)
              have b0 : 0 ≤ ((q : Int) + 1) % (i : Int) := Int.emod_nonneg _ (by omega)
              obtain ⟨p1, p2⟩ := HCY.out.2.2.1 _ (List.getElem_mem hj3)
              obtain ⟨p3, p4⟩ := HCY.out.2.2.1 _ (List.getElem_mem hj4)
              rw [HL.out] at p2 p4
              have hst := HCY.out.2.2.2.1 q (by have := HK.out; omega)
              unfold stepOk at hst
              rw [e0, e1] at hst
              clear e0 e1
              generalize r[q] = z0 at *
              generalize r[(q + 1) % i] = z1 at *
              obtain ⟨b', o', hA5, hb', hc'⟩ := (HR.out.below HB.out).edges (by omega)
              simp only [Option.some.injEq, Addr.mk.injEq, and_true] at hA5
              obtain ⟨rfl, rfl⟩ := hA5
              obtain ⟨_, x1, _, _⟩ := hc' z0 p1 p2
              obtain ⟨x0, _, _, _⟩ := hc' z1 p3 p4
              rw [hst] at x1
              clear hc' hst
              go_upto_region 20 with (fail)
              go_quiet (fail)
              go_wp2
              go_roundg (i - (q + 1))
              case measure => have := HG.out; omega
              case rel => exact ⟨q + 1, by go_num, by omega, rfl, Lib.hid (below_drewN HB.out _), Lib.hid (HRR.out.up (below_drewN (Below.refl wr.heap.size wr) _) (below_drewN (Below.refl wr.heap.size wr) _).size)⟩
            · obtain rfl : q = i := by omega
              have d2 := (HB.out.cell (p := ⟨eb, eo + b * 4 + 2, none⟩) HD2.out.1).trans HD2.out.2
              clear HG
              go_wp2_with fail
              refine (edges_sl _ m c es _ (HR.out.up HB.out HB.out.size) HM.out).mono ?_
              rintro e wa ⟨Aa, ca, rfl, _, hrda, hba⟩
              have HBa := Lib.hid (HB.out.trans (hba.mono HB.out.size))
              have HRR := Lib.hid (HRR.out.up hba hba.size)
              have HRa := Lib.hid hrda
              clear hrda hba HB
              have hq128 : q ≤ 128 := hsm
              go_wp2_with fail
              refine (ints_any _ q cR r _ HRR.out (by omega)).mono ?_
              rintro e wb ⟨vI, rfl, hownb, hbb9⟩
              obtain ⟨AI, cI, rfl, hRI⟩ := own_slice hownb
              have HBb := Lib.hid (HBa.out.trans (hbb9.mono HBa.out.size))
              have HRb := Lib.hid (HRa.out.up hbb9 hbb9.size)
              have HRI := Lib.hid hRI
              clear hownb hbb9 hRI HBa HRa
              have hH := (cycB_iff n es r).2 HCY.out
              go_wp2_with fail
              refine (strataCyclic_any n Aa AI m ca q cI es r _ HRb.out HRI.out).mono ?_
              rintro e wc ⟨rfl, hbc⟩
              rw [hH]
              have HBc := Lib.hid (HBb.out.trans (hbc.mono HBb.out.size))
              clear hbc hH
              go_wp2
              go_ret
              exact ⟨rfl, HBc.out⟩
  · have hfit := fitB_false hf
    rw [hfit]
    go_wp2
    go_ret
    exact ⟨rfl, Below.refl _ _⟩
end Go.Proofs.Ytefpglaipnnggaa
