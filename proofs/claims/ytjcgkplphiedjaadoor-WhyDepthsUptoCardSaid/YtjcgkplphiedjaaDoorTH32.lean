/- The law of depths and texts: its walk. -/
import Derived.Test.YtjcgkplphiedjaaDoorTH31
namespace Go.Proofs.YtjcgkplphiedjaaDoorT
open Go.RowKit Go.Sort

set_option maxRecDepth 20000 in
set_option maxHeartbeats 16000000 in
theorem WhyDepths_walk (A : Option Addr) (n c : Nat) (ls : List Ln) (w : World) (hr : Rd w w.heap.size 5 A n (ncells ls)) (hok : ∀ x ∈ ls, (Ln.ok w x ∧ x.nice) ∧ x.n ≤ 1048576) (hn : n ≤ 1048576) (hw : wts ls ≤ 1048576) (hp : Pow w) :
    Calls Tryd.prog 4 #[.slice A n c] w fun e w' => e = .returned (.bool true) ∧ Below w.heap.size w w' := by
  obtain ⟨k0, hki, hk0, hk1', hk2⟩ := info_parts Tryd.info3
  have HL := Lib.hid hr
  have HK := Lib.hid hok
  have HW := Lib.hid hw
  have HP := Lib.hid (PowB.of hp rfl)
  clear hr hok hw hp
  go_enter Tryd.func4, Tryd.ntmps4
  go_wp2_with fail
  refine (copied_any A n c ls w HL.out (fun x hx => (HK.out x hx).1.1) (by omega)).mono ?_
  rintro e w1 ⟨A1, c1, ls1, rfl, ho1, hc1, hx1, hb1⟩
  have HO1 := Lib.hid ho1
  have HC1 := Lib.hid hc1
  have HX1 := Lib.hid hx1
  have HB1 := Lib.hid hb1
  clear ho1 hc1 hx1 hb1
  generalize hR : w.heap.size = R at *
  have HRR := Lib.hid hR
  clear hR
  have hs1 : R ≤ w1.heap.size := HRR.out ▸ HB1.out.size
  go_wp2_with fail
  refine (roomy_any A n c ls w1 (HL.out.up HB1.out hs1) (fun x hx => (HK.out x hx).1.1.up (by rw [HRR.out]; exact HB1.out)) (by omega) (fun x hx => by have := (HK.out x hx).2; omega)
    (fun x hx => by have h1 := wts_mem hx; have h2 := HW.out; have h3 := (HK.out x hx).1.1.s.1; rw [kcells_length] at h3; unfold Ln.wt at h1; omega)
    (fun x hx => by have h1 := wts_mem hx; have h2 := HW.out; have h3 := (HK.out x hx).1.1.f.1; rw [icells_length] at h3; unfold Ln.wt at h1; omega)).mono ?_
  rintro e w2 ⟨A2, D, ls2, z, rfl, ho2, hz, hc2, hm2, hb2⟩
  have hlen2 : ls2.length = n := by have := ho2.1; rw [ncells_length, List.length_append, List.length_singleton] at this; omega
  obtain ⟨g, rfl, _, _, _, _⟩ := room_pre (ncells_append ls2 [z] ▸ ho2) (by rw [ncells_length, hlen2])
  have hlen1 : ls1.length = n := by have := HO1.out.1; rw [ncells_length] at this; omega
  have HB2 := Lib.hid (HB1.out.trans (hb2.mono hs1))
  have HH : Hid (Held w2 R w1.heap.size g n D A1 ls1 ls2 z) := Lib.hid (by
    refine ⟨ho2, hm2, fun x hx => ?_, (own_rd HO1.out).up hb2 hb2.size, fun x hx => ?_, HP.out.below HB2.out, Nat.le_trans hs1 hb2.size⟩
    · obtain ⟨y, hy, he⟩ := core_back hc2 hx
      obtain ⟨⟨hy1, hy2⟩, hy3⟩ := HK.out y hy
      obtain ⟨e1, e2, e3⟩ := core_lens he
      obtain ⟨l1, l2, l3⟩ := (hm2 x hx).lens
      have h1 := hy1.a.1
      rw [kcells_length] at h1
      have hwx := wts_mem hy
      have := HW.out
      unfold Ln.wt at hwx
      exact ⟨((hm2 x hx).own l1 l2 l3).ok (by omega) (by omega) (by omega), nice_core he hy2⟩
    · obtain ⟨y, hy, he⟩ := core_back HC1.out hx
      obtain ⟨⟨hy1, hy2⟩, hy3⟩ := HK.out y hy
      obtain ⟨e1, e2, e3⟩ := core_lens he
      have hx1 := HX1.out x hx
      have l1 := hx1.a.1
      have l2 := hx1.s.1
      have l3 := hx1.f.1
      rw [kcells_length] at l1 l2
      rw [icells_length] at l3
      have h1 := hy1.a.1
      rw [kcells_length] at h1
      have hwx := wts_mem hy
      have := HW.out
      unfold Ln.wt at hwx
      exact ((hx1.ok (by omega) (by omega) (by omega))).up hb2)
  have HC : Hid (ls2.map Ln.core = ls1.map Ln.core) := Lib.hid (hc2.trans HC1.out.symm)
  have HW2 : Hid (wts ls2 ≤ 1048576) := Lib.hid (by rw [wts_core hc2]; exact HW.out)
  have HZ := Lib.hid hz
  have HN2 := Lib.hid hlen2
  clear hz ho2 hc2 hm2 hb2 hlen2 hlen1 HO1 HC1 HX1 HB1 HL HK HW HP
  generalize w1.heap.size = Q at *
  go_wp2_with fail
  refine (depth_ref (some ⟨g, 0, none⟩) n D ls2 w2 HH.out.rd (fun x hx => (HH.out.ok x hx).1) (by omega)).mono ?_
  rintro e w3 ⟨⟨v3, er, m, rfl, hv3, hcase⟩, hb3⟩
  have HH3 := Lib.hid (HH.out.up hb3)
  have HB3 := Lib.hid (HB2.out.trans (hb3.mono HH.out.size))
  have HV3 := Lib.hid hv3
  have HCA := Lib.hid hcase
  clear hv3 hcase hb3 HH HB2
  generalize w2.heap.size = R3 at *
  obtain ⟨A3, d3, rfl, hn3⟩ := own_slice HV3.out
  go_wp2_with fail
  refine (text_ref (some ⟨g, 0, none⟩) n D ls2 w3 HH3.out.rd HH3.out.ok HW2.out).mono ?_
  rintro e w4 ⟨rfl, hb4⟩
  have HH4 := Lib.hid (HH3.out.up hb4)
  have HB4 := Lib.hid (HB3.out.trans (hb4.mono HH3.out.size))
  have HV4 := Lib.hid (own_below HV3.out hb4)
  clear hb4 HH3 HB3 HV3
  obtain ⟨S, hS⟩ : ∃ S, proofS ls2 = S := ⟨_, rfl⟩
  rw [hS]
  have HS := Lib.hid hS
  clear hS
  go_wp2_with fail
  refine (depth_why (some ⟨g, 0, none⟩) n D ls2 w4 HH4.out.rd (fun x hx => (HH4.out.ok x hx).1) (by omega)).mono ?_
  rintro e w5 ⟨⟨v5, er5, m5, rfl, hv5, hcase5⟩, hb5⟩
  have hsame : er5 = er ∧ m5 = m := by
    rcases HCA.out with ⟨h1, h2⟩ | ⟨h1, h2, h3⟩
    · rcases hcase5 with ⟨k1, k2⟩ | ⟨k1, _⟩
      · rw [h1] at k1; cases k1; exact ⟨k2.trans h2.symm, rfl⟩
      · rw [h1] at k1; cases k1
    · rcases hcase5 with ⟨k1, _⟩ | ⟨k1, k2, k3⟩
      · rw [h1] at k1; cases k1
      · exact ⟨k3.trans h3.symm, k2.trans h2.symm⟩
  obtain ⟨rfl, rfl⟩ := hsame
  have hmn : m5.length ≤ n := by
    rcases HCA.out with ⟨h1, _⟩ | ⟨_, h2, _⟩
    · have := depthL_length _ _ _ h1
      rw [HN2.out] at this
      simpa using Nat.le_of_eq this
    · rw [h2]; simp
  obtain ⟨A5, d5, rfl, hn5⟩ := own_slice hv5
  have HB5 := Lib.hid hb5
  have HV5 := Lib.hid hv5
  have HM5 := Lib.hid (own_below HV4.out hb5)
  have hs5 := hb5.size
  clear hv5 hb5 hcase5
  generalize hR5 : w4.heap.size = R5 at *
  have HR5 := Lib.hid hR5
  clear hR5
  have te : (er5 != er5) = false := by simp
  have te2 : (er5 == er5) = true := by simp
  go_wp2_with fail
  refine (ints_same A5 A3 m5.length d5 d3 m5 w5 (own_rd HV5.out) (own_rd HM5.out)).mono ?_
  rintro e w6 ⟨rfl, hb6⟩
  have HB6 := Lib.hid (HB5.out.trans (hb6.mono hs5))
  have HV6 := Lib.hid (own_below HV5.out hb6)
  have HS6 := Lib.hid (Nat.le_trans hs5 hb6.size)
  clear hb6 HB5 HV5 HM5 hs5 te te2
  go_upto_region 9 with (fail)
  generalize hL : m5.length = L at *
  have HML := Lib.hid hL
  clear hL
  go_loopg [9] L (fun gk u9 wr => ∃ (i : Nat), u9 = .int .i64 i ∧ i ≤ L ∧ Hid (gk = L - i) ∧ Hid (wr.ownsRow R5 3 1 (.slice A5 L d5) L (icells (List.replicate i (-7) ++ m5.drop i))) ∧ Hid (Below R5 w4 wr) ∧ Hid (R5 ≤ wr.heap.size))
  case atStart => exact ⟨0, rfl, Nat.zero_le _, Lib.hid (by omega), Lib.hid (by simpa using HV6.out), HB6, HS6⟩
  case round =>
    clear HV6 HB6 HS6
    obtain ⟨i, rfl, hi, HG, HO, HB, HSZ⟩ := hrel
    by_cases hlt : i < L
    · obtain ⟨b', o', hk', rfl, hb', c0⟩ := (own_rd HO.out).ints i hlt
      obtain ⟨g', cap', cur', hv', _⟩ := own_blk HO.out (by omega)
      simp only [Value.slice.injEq, Option.some.injEq, Addr.mk.injEq, and_true, true_and] at hv'
      obtain ⟨⟨rfl, rfl⟩, rfl⟩ := hv'
      obtain ⟨hbase, hfr, _, hset⟩ := own_set1 (u := .int .i64 (-7)) HO.out hlt
      rw [neg_set m5 i (by rw [HML.out]; exact hlt)] at hset
      have HO2 := Lib.hid hset
      have HB2 := Lib.hid (HB.out.setCell (p := ⟨b', i, none⟩) hbase (.int .i64 (-7)))
      have HS2 : Hid (R5 ≤ (wr.setCell ⟨b', i, none⟩ (.int .i64 (-7))).heap.size) := Lib.hid (by simpa [World.setCell] using HSZ.out)
      rw [Nat.zero_add] at c0
      generalize (List.replicate i (-7 : Int) ++ m5.drop i)[i] = old at *
      clear hset hbase HO HB HSZ
      go_wp2
      go_roundg (L - (i + 1))
      case measure => have := HG.out; omega
      case rel => exact ⟨i + 1, by go_num, by omega, Lib.hid rfl, HO2, HB2, HS2⟩
    · obtain rfl : i = L := by omega
      have hown := HO.out
      rw [List.drop_eq_nil_of_le (by rw [HML.out]; exact Nat.le_refl _), List.append_nil] at hown
      have hsz := HSZ.out
      clear HO HSZ hlt
      go_wp2_with (at_builtin; go_must (refine wpList_append_own _ rfl _ _ 27 rfl R5 3 k0 _ 1 8 Tryd.underlying27 hki hk0 hk1' hk2 rfl (by decide) _ _ _ rfl (hown.alloc _) ⟨wr.heap.size, 0, none⟩ 1 1 [.int .i64 (-7)] rfl rfl (fun j u h => new_cells _ _ _ j u h) (ints_one [-7]) (by unfold maxLen; omega) (by omega) (by simp; omega) ?_))
      intro v7 w7 hown7 hg7 _
      have HB7 := Lib.hid ((HB.out.alloc hsz (.cells #[.int .i64 (-7)] 3)).grown hg7 (by simp; omega) (fun q hq => (hown.lt q hq).1))
      have HV7 : Hid (w7.ownsRow R5 3 1 v7 (i + 1) (icells (List.replicate (i + 1) (-7)))) := Lib.hid (by rw [List.replicate_succ', icells_append]; exact hown7)
      have HS7 : Hid (R5 ≤ w7.heap.size) := Lib.hid (Nat.le_trans (by simp; omega) hg7.size)
      clear hown7 hown hg7 hsz HB
      obtain ⟨A7, d7, rfl, hn7⟩ := own_slice HV7.out
      have HH7 := Lib.hid (HH4.out.up (by rw [HR5.out]; exact HB7.out))
      have HM7 := Lib.hid (own_below HV4.out (by rw [HR5.out]; exact HB7.out))
      go_wp2_with fail
      refine (depth_why (some ⟨g, 0, none⟩) n D ls2 w7 HH7.out.rd (fun x hx => (HH7.out.ok x hx).1) (by omega)).mono ?_
      rintro e w8 ⟨⟨v8, er8, m8, rfl, hv8, hcase8⟩, hb8⟩
      have hsame : er8 = er5 ∧ m8 = m5 := by
        rcases HCA.out with ⟨h1, h2⟩ | ⟨h1, h2, h3⟩
        · rcases hcase8 with ⟨k1, k2⟩ | ⟨k1, _⟩
          · rw [h1] at k1; cases k1; exact ⟨k2.trans h2.symm, rfl⟩
          · rw [h1] at k1; cases k1
        · rcases hcase8 with ⟨k1, _⟩ | ⟨k1, k2, k3⟩
          · rw [h1] at k1; cases k1
          · exact ⟨k3.trans h3.symm, k2.trans h2.symm⟩
      obtain ⟨rfl, rfl⟩ := hsame
      rw [HML.out] at hv8
      obtain ⟨A8, d8, rfl, hn8⟩ := own_slice hv8
      have HV8 := Lib.hid (own_below HV7.out hb8)
      have HN8 := Lib.hid hv8
      have HM8 := Lib.hid (own_below HM7.out hb8)
      have HH8 := Lib.hid (HH7.out.up hb8)
      have HB8 := Lib.hid ((HB4.out.trans (HB7.out.mono (HR5.out ▸ HH4.out.size))).trans (hb8.mono HH7.out.size))
      clear hv8 hb8 hcase8 HV7 HH7 HM7 HB7 HS7
      generalize hR8 : w7.heap.size = R8 at *
      clear hR8
      go_upto_region 15 with (fail)
      go_loopg [12] (i + 1) (fun gk u12 wr => ∃ (j : Nat), u12 = .int .i64 j ∧ j ≤ i + 1 ∧ Hid (gk = i + 1 - j) ∧ wr = w8)
      case atStart => exact ⟨0, rfl, Nat.zero_le _, Lib.hid (by omega), rfl⟩
      case round =>
        obtain ⟨j, rfl, hj, HG2, rfl⟩ := hrel
        by_cases hlt2 : j < i + 1
        · obtain ⟨b', o', hk', rfl, hb', c0⟩ := (own_rd HV8.out).ints j hlt2
          rw [List.getElem_replicate] at c0
          go_wp2
          go_roundg (i + 1 - (j + 1))
          case measure => have := HG2.out; omega
          case rel => exact ⟨j + 1, by go_num, by omega, Lib.hid rfl, rfl⟩
        · obtain rfl : j = i + 1 := by omega
          go_wp2_with fail
          refine (ints_same A8 A3 i d8 d3 m8 wr (own_rd HN8.out) (own_rd HM8.out)).mono ?_
          rintro e w9 ⟨rfl, hb9⟩
          have HH9 := Lib.hid (HH8.out.up hb9)
          have HB9 := Lib.hid (HB8.out.trans (hb9.mono HH8.out.size))
          clear hb9 HH8 HB8 HN8 HM8 HV8
          go_wp2_with fail
          refine (text_why (some ⟨g, 0, none⟩) n D ls2 w9 HH9.out.rd HH9.out.ok HW2.out HH9.out.pow.pow).mono ?_
          rintro e w10 ⟨rfl, hb10⟩
          rw [HS.out]
          have HH10 := Lib.hid (HH9.out.up hb10)
          have HB10 := Lib.hid (HB9.out.trans (hb10.mono HH9.out.size))
          clear hb10 HH9 HB9
          have ts : (S.toList == S.toList) = true := by simp
          go_wp2_with fail
          refine (lines_same (some ⟨g, 0, none⟩) A1 n D c1 ls2 ls1 w10 HH10.out.rd HH10.out.kept (fun x hx => (HH10.out.ok x hx).1) HH10.out.ok1 HC.out).mono ?_
          rintro e w11 ⟨rfl, hb11⟩
          have HH11 := Lib.hid (HH10.out.up hb11)
          have HB11 := Lib.hid (HB10.out.trans (hb11.mono HH10.out.size))
          clear hb11 HH10 HB10
          go_wp2_with fail
          refine (marked_true g n D Q ls2 z w11 HZ.out HH11.out.own HH11.out.room).mono ?_
          rintro e w12 ⟨rfl, hb12⟩
          have HB12 := Lib.hid (HB11.out.trans (hb12.mono HH11.out.size))
          clear hb12 HH11 HB11
          go_wp2
          go_ret
          exact ⟨by rfl, by rw [HRR.out]; exact HB12.out⟩
end Go.Proofs.YtjcgkplphiedjaaDoorT
