/- A clause's terms in reading order, the document's. | The variables that stand once in a clause: the document's singles. -/
import Derived.Test.YtjcgkplphiedjaaGreatGw
namespace Go.Proofs.YtjcgkplphiedjaaGreat
open Go.RowKit Go.Sort

set_option maxRecDepth 20000 in
set_option maxHeartbeats 8000000 in
theorem terms_ref (x : Cl) (w : World) (hok : Cl.ok w x) (hx : x.tot.length ≤ 1000) :
    Calls Tryz.prog 34 #[.agg x.cells.toArray] w fun e w' => ∃ A c, e = .returned (.slice A x.tot.length c) ∧ w'.ownsRow w.heap.size 44 4 (.slice A x.tot.length c) x.tot.length (tcells x.tot) ∧ Below w.heap.size w w' := by
  obtain ⟨i0, hi, hz0, hz1, hz2⟩ := info_parts Tryz.info44
  have HT : Hid (x.tot = x.h.es ++ x.ls.flatMap Li.terms) := Lib.hid rfl
  have hl : x.ls.length = x.n := by have := hok.2.1.1; rw [lcells_length] at this; omega
  have hhl : x.h.es.length = x.h.n := by have := hok.1.1.1; rw [tcells_length] at this; omega
  have HTB : Hid (∀ k, (h : k < x.ls.length) → (x.h.es ++ (x.ls.take k).flatMap Li.terms).length + x.ls[k].terms.length ≤ 1000) := Lib.hid (fun k h => by
    have h3 : x.ls.flatMap Li.terms = (x.ls.take k).flatMap Li.terms ++ x.ls[k].terms ++ (x.ls.drop (k + 1)).flatMap Li.terms := by
      rw [List.append_assoc, ← List.flatMap_cons, ← List.drop_eq_getElem_cons h, ← List.flatMap_append, List.take_append_drop]
    have h4 := hx
    rw [HT.out, h3] at h4
    simp only [List.length_append] at h4 ⊢
    omega)
  have HL := Lib.hid hl
  have HHL := Lib.hid hhl
  have HH := Lib.hid hok.1
  have HRL := Lib.hid hok.2.1
  have HOL := Lib.hid hok.2.2.2
  have hnb := hok.2.1.2.1
  clear hok hl hhl hx
  obtain ⟨⟨hp, hA, hn, hc, ho, hes⟩, A, n, c, ls⟩ := x
  dsimp only at HT HTB HL HHL HH HRL HOL hnb
  generalize Cl.tot _ = tot at *
  show Calls Tryz.prog 34 #[.agg #[.string hp, .slice hA hn hc, .int .i64 ho, .slice A n c]] w _
  go_enter Tryz.func34, Tryz.ntmps34
  go_upto_region 1 with (fail)
  have hb1 := (Below.refl w.heap.size w).alloc (Nat.le_refl _) (.cells #[.string hp, .slice hA hn hc, .int .i64 ho, .slice A n c] 37)
  have h1 := Blk.new w 37 [.string hp, .slice hA hn hc, .int .i64 ho, .slice A n c]
  generalize World.alloc _ _ = w1 at *
  generalize hR : w.heap.size = R at *
  have HRR := Lib.hid hR
  clear hR
  have HB1 := Lib.hid hb1
  have H1 := Lib.hid h1
  have f1 := h1.cell 1
  simp only [List.getElem?_cons_zero, List.getElem?_cons_succ] at f1
  have hs1 : R ≤ w1.heap.size := by have := h1.lt; omega
  clear h1 hb1
  have hh1 := HH.out.up (HRR.out ▸ HB1.out)
  have hown0 : (w1.alloc (.cells #[] 44)).ownsRow R 44 4 (.slice (some ⟨w1.heap.size, 0, none⟩) 0 0) 0 [] := own_empty hs1
  have hba := (Below.refl w1.heap.size w1).alloc (Nat.le_refl _) (.cells #[] 44)
  have hbw : R ≤ (w1.alloc (.cells #[] 44)).heap.size := Nat.le_trans hs1 hba.size
  have f1 := (hba.cell (p := ⟨R, 1, none⟩) H1.out.lt).trans f1
  have HRd := Lib.hid (hh1.1.up hba hba.size)
  have HHA := Lib.hid hh1.2.1
  have h40 : hn * 40 ≤ 140737488351232 := hh1.2.2
  have K0 := Lib.hid (H1.out.below hba H1.out.lt)
  have KB0 := Lib.hid (HB1.out.trans (hba.mono hs1))
  clear hh1 hba H1 HB1
  go_wp2_with (at_builtin; go_must (refine wpList_append_all rfl _ _ 32 rfl R 44 i0 _ 4 40 Tryz.underlying32 hi hz0 hz1 hz2 rfl (by decide) _ _ _ rfl hown0 hA hn hc (tcells hes) rfl HHA.out HRd.out (terms_one _) (by have := HHL.out; unfold maxLen; omega) (by omega) hbw ?_))
  intro v2 w2 hown2 hg2
  have K1 := Lib.hid (K0.out.grown hg2 (own_blk_ne hown0 K0.out (by decide)))
  have KB := Lib.hid (KB0.out.grown hg2 hbw (fun q hq => (hown0.lt q hq).1))
  obtain ⟨A2, c2, rfl, hn2⟩ := own_slice hown2
  have KO : Hid (w2.ownsRow R 44 4 (.slice A2 hn c2) hn (tcells (hes ++ (ls.take 0).flatMap Li.terms))) := Lib.hid (by
    rw [List.take_zero, List.flatMap_nil, List.append_nil]; exact hown2)
  clear hown2 hg2 hown0 hbw HRd HHA K0 KB0 f1
  go_upto_region 3 with (fail)
  go_loopg [3, 4] n (fun gk u3 u4 wr => ∃ (j m c3 : Nat) (A3 : Option Addr), u4 = .int .i64 j ∧ u3 = .slice A3 m c3 ∧ j ≤ n ∧ Hid (gk = n - j) ∧ Hid (Below R w wr) ∧ Hid (Blk wr R 37 [.string hp, .slice hA hn hc, .int .i64 ho, .slice A n c]) ∧ Hid (wr.ownsRow R 44 4 (.slice A3 m c3) m (tcells (hes ++ (ls.take j).flatMap Li.terms))))
  case atStart => exact ⟨0, hn, c2, A2, rfl, rfl, Nat.zero_le _, Lib.hid (by omega), KB, K1, KO⟩
  case round =>
    clear KB KO K1
    obtain ⟨j, m, c3, A3, rfl, rfl, hj, HG, HB2, HK, HO⟩ := hrel
    have hsr : R ≤ wr.heap.size := by have := HB2.out.size; rw [HRR.out] at this; exact this
    have hm : (hes ++ (ls.take j).flatMap Li.terms).length = m := by have := HO.out.1; rw [tcells_length] at this; omega
    have f3 := (HK.out.cell 3).trans rfl
    by_cases hlt : j < n
    · obtain ⟨bb, ob, hk1, hbe, hbB, hbc⟩ := (HRL.out.below HB2.out).at Li.cells 14 (fun _ => rfl) (by omega) j hlt
      have hxo : Li.ok wr ls[j] := At.ok.up (HOL.out _ (List.getElem_mem hk1)) (HRR.out ▸ HB2.out)
      have HS : Hid (hes ++ (ls.take (j + 1)).flatMap Li.terms = (hes ++ (ls.take j).flatMap Li.terms) ++ ls[j].terms) := Lib.hid (by rw [take_snoc _ _ hk1, List.flatMap_append]; simp)
      have htb := HTB.out j hk1
      rw [hm] at htb
      generalize ls[j] = x at *
      generalize hpre : hes ++ (ls.take j).flatMap Li.terms = pre at *
      obtain ⟨xk, ⟨xp, xA, xn, xc, xo, xes⟩, xop, ⟨xlk, xli, xlt, xlo⟩, ⟨xrk, xri, xrt, xro⟩, xof⟩ := x
      have d0 := hbc 0 _ (by omega) rfl
      have d1 := hbc 1 _ (by omega) rfl
      have d2 := hbc 2 _ (by omega) rfl
      have d3 := hbc 3 _ (by omega) rfl
      have d4 := hbc 4 _ (by omega) rfl
      have d5 := hbc 5 _ (by omega) rfl
      have d6 := hbc 6 _ (by omega) rfl
      have d7 := hbc 7 _ (by omega) rfl
      have d8 := hbc 8 _ (by omega) rfl
      have d9 := hbc 9 _ (by omega) rfl
      have d10 := hbc 10 _ (by omega) rfl
      have d11 := hbc 11 _ (by omega) rfl
      have d12 := hbc 12 _ (by omega) rfl
      have d13 := hbc 13 _ (by omega) rfl
      dsimp only at d0 d1 d2 d3 d4 d5 d6 d7 d8 d9 d10 d11 d12 d13
      rw [Nat.add_zero] at d0
      subst hbe
      have HXO := Lib.hid hxo
      have HPRE := Lib.hid hpre
      clear hbc hxo hpre
      go_upto_region 6 with (fail)
      have hba := (Below.refl wr.heap.size wr).alloc (Nat.le_refl _) (.cells #[.int .i64 xk, .string xp, .slice xA xn xc, .int .i64 xo, .int .i64 xop, .int .i64 xlk, .int .i64 xli, .string xlt, .int .i64 xlo, .int .i64 xrk, .int .i64 xri, .string xrt, .int .i64 xro, .int .i64 xof] 46)
      have L := Lib.hid (Blk.new wr 46 [.int .i64 xk, .string xp, .slice xA xn xc, .int .i64 xo, .int .i64 xop, .int .i64 xlk, .int .i64 xli, .string xlt, .int .i64 xlo, .int .i64 xrk, .int .i64 xri, .string xrt, .int .i64 xro, .int .i64 xof])
      have KB := Lib.hid (HB2.out.trans (hba.mono hsr))
      have KO := Lib.hid (own_below HO.out hba)
      have KK := Lib.hid (HK.out.below hba HK.out.lt)
      have KX := Lib.hid (At.ok.up HXO.out hba)
      clear hba HB2 HO HXO HK f3 d0 d1 d2 d3 d4 d5 d6 d7 d8 d9 d10 d11 d12 d13 hbB
      generalize World.alloc _ _ = w3 at *
      generalize wr.heap.size = Z at *
      have g0 := (L.out.cell 0).trans rfl
      have g2 := (L.out.cell 2).trans rfl
      have g5 := (L.out.cell 5).trans rfl
      have g6 := (L.out.cell 6).trans rfl
      have g7 := (L.out.cell 7).trans rfl
      have g8 := (L.out.cell 8).trans rfl
      have g9 := (L.out.cell 9).trans rfl
      have g10 := (L.out.cell 10).trans rfl
      have g11 := (L.out.cell 11).trans rfl
      have g12 := (L.out.cell 12).trans rfl
      have hZ3 : Z < w3.heap.size := L.out.lt
      have hs3 : R ≤ w3.heap.size := by omega
      by_cases hk : xk = 3
      · subst hk
        have ht : (⟨3, ⟨xp, xA, xn, xc, xo, xes⟩, xop, ⟨xlk, xli, xlt, xlo⟩, ⟨xrk, xri, xrt, xro⟩, xof⟩ : Li).terms = [⟨xlk, xli, xlt, xlo⟩, ⟨xrk, xri, xrt, xro⟩] := rfl
        rw [ht] at htb HS
        simp only [List.length_cons, List.length_nil] at htb
        have hba := (Below.refl w3.heap.size w3).alloc (Nat.le_refl _) (.cells #[.int .i64 xlk, .int .i64 xli, .string xlt, .int .i64 xlo, .int .i64 xrk, .int .i64 xri, .string xrt, .int .i64 xro] 44)
        have hown := own_below KO.out hba
        have HRd := Lib.hid (Rd_new w3 #[.int .i64 xlk, .int .i64 xli, .string xlt, .int .i64 xlo, .int .i64 xrk, .int .i64 xri, .string xrt, .int .i64 xro] 44 4 2 rfl (by omega))
        have hbw : R ≤ (w3.alloc (.cells #[.int .i64 xlk, .int .i64 xli, .string xlt, .int .i64 xlo, .int .i64 xrk, .int .i64 xri, .string xrt, .int .i64 xro] 44)).heap.size := Nat.le_trans hs3 hba.size
        have MK := Lib.hid (KK.out.below hba KK.out.lt)
        have MB := Lib.hid (KB.out.trans (hba.mono hs3))
        clear hba KK KB KO KX
        go_wp2_with (at_builtin; go_must (refine wpList_append_all rfl _ _ 32 rfl R 44 i0 _ 4 40 Tryz.underlying32 hi hz0 hz1 hz2 rfl (by decide) _ _ _ rfl hown (some ⟨w3.heap.size, 0, none⟩) 2 2 (tcells [⟨xlk, xli, xlt, xlo⟩, ⟨xrk, xri, xrt, xro⟩]) rfl (fun h => nomatch h) HRd.out (terms_one _) (by unfold maxLen; omega) (by omega) hbw ?_))
        intro v5 w5 hown5 hg5
        obtain ⟨A5, c5, rfl, hn5⟩ := own_slice hown5
        have NK := Lib.hid (MK.out.grown hg5 (own_blk_ne hown MK.out (by decide)))
        have NB := Lib.hid (MB.out.grown hg5 hbw (fun q hq => (hown.lt q hq).1))
        have NO : Hid (w5.ownsRow R 44 4 (.slice A5 (m + 2) c5) (m + 2) (tcells (hes ++ (ls.take (j + 1)).flatMap Li.terms))) := Lib.hid (by
          rw [HS.out, tcells_append]; exact hown5)
        clear hown5 hg5 hown MB MK HRd hbw L g0 g2 g5 g6 g7 g8 g9 g10 g11 g12
        go_wp2
        go_roundg (n - (j + 1))
        case measure => have := HG.out; omega
        case rel => exact ⟨j + 1, m + 2, c5, A5, by go_num, rfl, by omega, Lib.hid rfl, NB, NK, NO⟩
      · have t1 : (xk == 3) = false := by simpa using hk
        have ht : (⟨xk, ⟨xp, xA, xn, xc, xo, xes⟩, xop, ⟨xlk, xli, xlt, xlo⟩, ⟨xrk, xri, xrt, xro⟩, xof⟩ : Li).terms = xes := if_neg hk
        rw [ht] at htb HS
        have hxl : xes.length = xn := by have := KX.out.1.1; rw [tcells_length] at this; dsimp only at this; omega
        have hown := KO.out
        have HRd := Lib.hid KX.out.1
        have HXA := Lib.hid KX.out.2.1
        clear KO KX hk
        go_wp2_with (at_builtin; go_must (refine wpList_append_all rfl _ _ 32 rfl R 44 i0 _ 4 40 Tryz.underlying32 hi hz0 hz1 hz2 rfl (by decide) _ _ _ rfl hown xA xn xc (tcells xes) rfl HXA.out HRd.out (terms_one _) (by unfold maxLen; omega) (by omega) hs3 ?_))
        intro v5 w5 hown5 hg5
        obtain ⟨A5, c5, rfl, hn5⟩ := own_slice hown5
        have NK := Lib.hid (KK.out.grown hg5 (own_blk_ne hown KK.out (by decide)))
        have NB := Lib.hid (KB.out.grown hg5 hs3 (fun q hq => (hown.lt q hq).1))
        have NO : Hid (w5.ownsRow R 44 4 (.slice A5 (m + xn) c5) (m + xn) (tcells (hes ++ (ls.take (j + 1)).flatMap Li.terms))) := Lib.hid (by
          rw [HS.out, tcells_append]; exact hown5)
        clear hown5 hg5 hown KB KK HRd HXA L g0 g2 g5 g6 g7 g8 g9 g10 g11 g12
        go_wp2
        go_roundg (n - (j + 1))
        case measure => have := HG.out; omega
        case rel => exact ⟨j + 1, m + xn, c5, A5, by go_num, rfl, by omega, Lib.hid rfl, NB, NK, NO⟩
    · obtain rfl : j = n := by omega
      have hall : ls.take j = ls := List.take_of_length_le (by have := HL.out; omega)
      rw [hall, ← HT.out] at hm HO
      subst hm
      go_wp2
      go_ret
      exact ⟨A3, c3, rfl, by rw [HRR.out]; exact HO.out, by rw [HRR.out]; exact HB2.out⟩
end Go.Proofs.YtjcgkplphiedjaaGreat

namespace Go.Proofs.YtjcgkplphiedjaaGreat
open Go.RowKit Go.Sort

theorem Tryz.info29 : (Tryz.prog.info? 29).map (fun i => (i.zero, i.size, i.bytes)) = some (some (.agg #[.int .i64 0, .int .i64 0, .int .i64 0, .int .i64 0, .string ⟨#[]⟩]), 5, 48) := by kernel_rfl
theorem timesT_succ (L : List T) (s : ByteArray) (k : Nat) (h : k < L.length) : timesT (L.take (k + 1)) s = timesT (L.take k) s + if ((L[k].k == 4) && (L[k].t.toList == s.toList)) = true then 1 else 0 := by
  unfold timesT
  rw [take_snoc L k h, List.countP_append, List.countP_singleton]
theorem below_drewN (w : World) (n : Nat) : Below w.heap.size w (w.drewN n) := ⟨rfl, rfl, rfl, Nat.le_refl _, fun _ _ => rfl⟩
theorem below_drew (w : World) : Below w.heap.size w w.drew := ⟨rfl, rfl, rfl, Nat.le_refl _, fun _ _ => rfl⟩
theorem tot_succ {O : List Fd} {m : Nat} {v : Value} {w : World} {R : Nat} (h : w.ownsRow R 29 5 v m (fcells O)) : O.length = m := by
  have := h.1
  rw [fcells_length] at this
  omega

set_option maxRecDepth 200000 in
set_option maxHeartbeats 16000000 in
theorem singles_ref (x : Cl) (i : Nat) (w : World) (hok : Cl.ok w x) (hx : x.tot.length ≤ 1000) (hne : ∀ t ∈ x.tot, t.k = 4 → 0 < t.t.size) :
    Calls Tryz.prog 16 #[.agg x.cells.toArray, .int .i64 i] w fun e w' => ∃ A c, e = .returned (.slice A (singlesF i x).length c) ∧ w'.ownsRow w.heap.size 29 5 (.slice A (singlesF i x).length c) (singlesF i x).length (fcells (singlesF i x)) ∧ Below w.heap.size w w' := by
  obtain ⟨i0, hi, hz0, hz1, hz2⟩ := info_parts Tryz.info29
  have HKT := Lib.hid (fun W h => terms_ref x W h hx)
  have HOK := Lib.hid hok
  have HNE := Lib.hid hne
  have HF : Hid (singlesF i x = singlesL x.tot i (x.tot.take x.tot.length)) := Lib.hid (by rw [List.take_length]; rfl)
  clear hok hne
  generalize singlesF i x = F at *
  generalize x.tot = L at *
  obtain ⟨N, hN⟩ : ∃ N, L.length = N := ⟨_, rfl⟩
  have HN0 := Lib.hid hN
  rw [hN] at hx HF HKT
  clear hN
  obtain ⟨⟨hp, hA, hn, hc, ho, hes⟩, A, n, c, ls⟩ := x
  dsimp only [Cl.cells] at HKT
  show Calls Tryz.prog 16 #[.agg #[.string hp, .slice hA hn hc, .int .i64 ho, .slice A n c], .int .i64 i] w _
  go_enter Tryz.func16, Tryz.ntmps16
  go_upto_region 1 with (fail)
  have hb1 := (Below.refl w.heap.size w).alloc (Nat.le_refl _) (.cells #[.string hp, .slice hA hn hc, .int .i64 ho, .slice A n c] 37)
  have H1 := Lib.hid (Blk.new w 37 [.string hp, .slice hA hn hc, .int .i64 ho, .slice A n c])
  have HO1 := Lib.hid (HOK.out.up hb1)
  generalize World.alloc _ _ = w1 at *
  generalize hR : w.heap.size = R at *
  have HRR := Lib.hid hR
  clear hR
  have HB1 := Lib.hid hb1
  have hs1 : R < w1.heap.size := H1.out.lt
  clear hb1 HOK
  have f0 := (H1.out.cell 0).trans rfl
  have f1 := (H1.out.cell 1).trans rfl
  have f2 := (H1.out.cell 2).trans rfl
  have f3 := (H1.out.cell 3).trans rfl
  have kt := HKT.out w1 HO1.out
  go_wp2_with fail
  refine kt.mono ?_
  rintro e w2 ⟨A6, c6, rfl, hown2, hb2⟩
  have HB2 := Lib.hid (HB1.out.trans (hb2.mono (Nat.le_of_lt hs1)))
  have HO := Lib.hid (own_le hown2 (Nat.le_of_lt hs1))
  clear kt hb2 hown2 H1 HB1 HO1 HKT f0 f1 f2 f3
  go_upto_region 4 with (fail)
  have HU : Hid (w2.ownsRow R 29 5 (.slice none 0 0) 0 (fcells (singlesL L i (L.take 0)))) := Lib.hid (World.ownsRow_nil _ _ _ _)
  go_loopg [5, 7] N (fun gk u5 u7 wr => ∃ (j m c5 : Nat) (A5 : Option Addr), u7 = .int .i64 j ∧ u5 = .slice A5 m c5 ∧ j ≤ N ∧ Hid (gk = N - j) ∧ Hid (Below R w wr) ∧ Hid (wr.ownsRow R 44 4 (.slice A6 N c6) N (tcells L)) ∧ Hid (wr.ownsRow R 29 5 (.slice A5 m c5) m (fcells (singlesL L i (L.take j)))))
  case atStart => exact ⟨0, 0, 0, none, rfl, rfl, Nat.zero_le _, Lib.hid (by omega), HB2, HO, HU⟩
  case round =>
    clear HB2 HO HU
    obtain ⟨j, m, c5, A5, rfl, rfl, hj, HG, HB, HO, HU⟩ := hrel
    have hsr : R ≤ wr.heap.size := by have := HB.out.size; rw [HRR.out] at this; exact this
    have hmj : m ≤ j := by
      have h1 := tot_succ HU.out
      have h2 := singlesL_len L i (L.take j)
      rw [List.length_take] at h2
      omega
    by_cases hlt : j < N
    · obtain ⟨b, o, hk1, hAe, hB, c0, c1, c2, c3⟩ := (own_rd HO.out).term j hlt
      have HS := Lib.hid (singlesL_succ L i j L hk1)
      have HT : Hid (singleB L L[j] = ((L[j].k == 4) && (!(headS L[j].t == 95) && decide (timesT L L[j].t = 1)))) := Lib.hid rfl
      have hsz : L[j].k = 4 → 0 < L[j].t.size := HNE.out _ (List.getElem_mem hk1)
      have HTJ : Hid (L[j]? = some L[j]) := Lib.hid (List.getElem?_eq_getElem hk1)
      subst hAe
      generalize hse : singleB L L[j] = sb at *
      clear hse
      generalize L[j] = t at *
      obtain ⟨tk, ti, tt, to_⟩ := t
      dsimp only at c0 c1 c2 c3 HT hsz
      by_cases hk : tk = 4
      rotate_left
      · have t1 : (tk != 4) = true := by simpa using hk
        have hsb : sb = false := by rw [HT.out]; simp [hk]
        have HN : Hid (wr.ownsRow R 29 5 (.slice A5 m c5) m (fcells (singlesL L i (L.take (j + 1))))) := Lib.hid (by rw [HS.out, hsb]; simpa using HU.out)
        clear HS HT HU hk hsz hsb
        go_wp2
        go_roundg (N - (j + 1))
        case measure => have := HG.out; omega
        case rel => exact ⟨j + 1, m, c5, A5, by go_num, rfl, by omega, Lib.hid rfl, HB, HO, HN⟩
      subst hk
      have hz := hsz rfl
      clear hsz
      have hh : headS tt = ((tt[0]).toNat : Int) := by unfold headS; rw [head_at _ hz]
      by_cases he : ((tt[0]).toNat : Int) = 95
      · have t2 : (((tt[0]).toNat : Int) == 95) = true := by simpa using he
        have hsb : sb = false := by rw [HT.out, hh, t2]; simp
        have HN : Hid (wr.ownsRow R 29 5 (.slice A5 m c5) m (fcells (singlesL L i (L.take (j + 1))))) := Lib.hid (by rw [HS.out, hsb]; simpa using HU.out)
        clear HS HT HU hsb hh he
        go_wp2
        go_roundg (N - (j + 1))
        case measure => have := HG.out; omega
        case rel => exact ⟨j + 1, m, c5, A5, by go_num, rfl, by omega, Lib.hid rfl, HB, HO, HN⟩
      have t2 : (((tt[0]).toNat : Int) == 95) = false := by simpa using he
      replace HT : Hid (sb = decide (timesT L tt = 1)) := Lib.hid (by rw [HT.out, hh, t2]; simp)
      clear he hh
      go_upto_region 9 with (fail)
      clear c0 c1 c2 c3 t2
      generalize hwo : wr = wo at *
      clear hwo
      have HZ : Hid (0 = timesT (L.take 0) tt) := Lib.hid rfl
      go_loopg [8, 9] N (fun gq u8 u9 wr => ∃ q tm : Nat, u9 = .int .i64 q ∧ u8 = .int .i64 tm ∧ q ≤ N ∧ tm ≤ q ∧ Hid (gq = N - q) ∧ Hid (Below R w wr) ∧ Hid (wr.ownsRow R 44 4 (.slice (some ⟨b, o, none⟩) N c6) N (tcells L)) ∧ Hid (wr.ownsRow R 29 5 (.slice A5 m c5) m (fcells (singlesL L i (L.take j)))) ∧ Hid (tm = timesT (L.take q) tt))
      case atStart => exact ⟨0, 0, rfl, rfl, Nat.zero_le _, Nat.le_refl _, Lib.hid (by omega), HB, HO, HU, HZ⟩
      case round =>
        clear HB HO HU HZ
        obtain ⟨q, tm, rfl, rfl, hq, htm, HGQ, HB, HO, HU, HZ⟩ := hrel
        have hsr2 : R ≤ wr.heap.size := by have := HB.out.size; rw [HRR.out] at this; exact this
        obtain ⟨b2, o2, hk3, hAe2, hB2, e0, e1, e2, e3⟩ := (own_rd HO.out).term j hlt
        injection hAe2 with hAe2
        injection hAe2 with hb2 ho2
        subst hb2
        subst ho2
        have htt : L[j] = ⟨4, ti, tt, to_⟩ := by have := HTJ.out; rw [List.getElem?_eq_getElem hk3] at this; injection this
        rw [htt] at e0 e1 e2 e3
        dsimp only at e0 e1 e2 e3
        clear htt
        by_cases hlq : q < N
        · obtain ⟨b3, o3, hk4, hAe3, hB3, d0, d1, d2, d3⟩ := (own_rd HO.out).term q hlq
          injection hAe3 with hAe3
          injection hAe3 with hb3 ho3
          subst hb3
          subst ho3
          have HTS := Lib.hid (timesT_succ L tt q hk4)
          generalize L[q] = y at *
          obtain ⟨yk, yi, yt, yo⟩ := y
          dsimp only at d0 d1 d2 d3 HTS
          clear d1 d3 e0 e1 e3
          go_upto_region 11 with (fail)
          by_cases hk2 : yk = 4
          · cases hqe : (yt.toList == tt.toList) with
            | true =>
              have HN : Hid (tm + 1 = timesT (L.take (q + 1)) tt) := Lib.hid (by rw [HTS.out, ← HZ.out, hk2, hqe]; rfl)
              subst hk2
              go_quiet (fail)
              clear d0 d2 e2 HTS HZ
              have KB := Lib.hid (HB.out.trans ((below_drewN wr nq).mono hsr2))
              have KO := Lib.hid (own_below HO.out (below_drewN wr nq))
              have KU := Lib.hid (own_below HU.out (below_drewN wr nq))
              clear HB HO HU
              generalize World.drewN _ _ = w7 at *
              go_wp2
              go_roundg (N - (q + 1))
              case measure => have := HGQ.out; omega
              case rel => exact ⟨q + 1, tm + 1, by go_num, by go_num, by omega, by omega, Lib.hid rfl, KB, KO, KU, HN⟩
            | false =>
              have HN : Hid (tm = timesT (L.take (q + 1)) tt) := Lib.hid (by rw [HTS.out, ← HZ.out, hqe]; simp)
              subst hk2
              go_quiet (fail)
              clear d0 d2 e2 HTS HZ
              have KB := Lib.hid (HB.out.trans ((below_drewN wr nq).mono hsr2))
              have KO := Lib.hid (own_below HO.out (below_drewN wr nq))
              have KU := Lib.hid (own_below HU.out (below_drewN wr nq))
              clear HB HO HU
              generalize World.drewN _ _ = w7 at *
              go_wp2
              go_roundg (N - (q + 1))
              case measure => have := HGQ.out; omega
              case rel => exact ⟨q + 1, tm, by go_num, rfl, by omega, by omega, Lib.hid rfl, KB, KO, KU, HN⟩
          · have t3 : (yk == 4) = false := by simpa using hk2
            have HN : Hid (tm = timesT (L.take (q + 1)) tt) := Lib.hid (by rw [HTS.out, ← HZ.out, t3]; simp)
            go_quiet (fail)
            clear d0 d2 e2 HTS HZ hk2
            have KB := Lib.hid (HB.out.trans ((below_drewN wr nq).mono hsr2))
            have KO := Lib.hid (own_below HO.out (below_drewN wr nq))
            have KU := Lib.hid (own_below HU.out (below_drewN wr nq))
            clear HB HO HU
            generalize World.drewN _ _ = w7 at *
            go_wp2
            go_roundg (N - (q + 1))
            case measure => have := HGQ.out; omega
            case rel => exact ⟨q + 1, tm, by go_num, rfl, by omega, by omega, Lib.hid rfl, KB, KO, KU, HN⟩
        · obtain rfl : q = N := by omega
          have htq : tm = timesT L tt := by rw [HZ.out, List.take_of_length_le (by have := HN0.out; omega)]
          by_cases h1 : tm = 1
          rotate_left
          · have hsb : sb = false := by rw [HT.out, ← htq]; simp [h1]
            have t3 : ((tm : Int) == 1) = false := by simp; omega
            have HN : Hid (wr.ownsRow R 29 5 (.slice A5 m c5) m (fcells (singlesL L i (L.take (j + 1))))) := Lib.hid (by rw [HS.out, hsb]; simpa using HU.out)
            clear HS HT HU hsb HZ htq h1
            go_wp2
            go_roundg (q - (j + 1))
            case measure => have := HG.out; omega
            case rel => exact ⟨j + 1, m, c5, A5, by go_num, rfl, by omega, Lib.hid rfl, HB, HO, HN⟩
          have hsb : sb = true := by rw [HT.out, ← htq]; simp [h1]
          have HS2 : Hid (singlesL L i (L.take (j + 1)) = singlesL L i (L.take j) ++ [⟨4, i, -1, to_, tt⟩]) := Lib.hid (by rw [HS.out, hsb]; rfl)
          subst h1
          clear HS HT hsb HZ htq
          go_upto_region 14 with (fail)
          obtain ⟨C, hCi⟩ : ∃ C : World → Prop, ∀ w', C w' ↔ (w'.cell? ⟨b, o + j * 4 + 2, none⟩ = some (.string tt) ∧ w'.cell? ⟨b, o + j * 4 + 3, none⟩ = some (.int .i64 to_)) := ⟨_, fun _ => Iff.rfl⟩
          have hC : C wr.drew := (hCi _).2 ⟨e2, e3⟩
          have k2 : ∀ p : WC C, p.w.cell? ⟨b, o + j * 4 + 2, none⟩ = _ := fun p => ((hCi _).1 p.h).1
          have k3 : ∀ p : WC C, p.w.cell? ⟨b, o + j * 4 + 3, none⟩ = _ := fun p => ((hCi _).1 p.h).2
          have kn : Nonempty (WC C) := ⟨⟨_, hC⟩⟩
          refine wp_region_frontN C [0, 1, 2, 3, 4, 5, 6, 7, 8, 9, 10, 11] 4 (fun j => decide (j < 16)) (by kernel_rfl) (fun _ _ d _ _ h => by cases d <;> exact h) (by kernel_rfl) hC ?_
          simp only [List.map_cons, List.map_nil, List.getD_cons_zero, List.getD_cons_succ]
          repeat (go_big_quiet_step (fail))
          refine wpQuiet_nil ?_
          have HCi := Lib.hid hCi
          have KB := Lib.hid (HB.out.trans ((below_drew wr).mono hsr2))
          have KO := Lib.hid (own_below HO.out (below_drew wr))
          have KU := Lib.hid (own_below HU.out (below_drew wr))
          have hs7 : R ≤ wr.drew.heap.size := hsr2
          clear k2 k3 kn hC hCi HB HO HU e0 e1 e2 e3
          generalize wr.drew = wd at *
          have hCw : ∀ W : World, W.ownsRow R 44 4 (.slice (some ⟨b, o, none⟩) q c6) q (tcells L) → (W.cell? ⟨b, o + j * 4 + 2, none⟩ = some (.string tt) ∧ W.cell? ⟨b, o + j * 4 + 3, none⟩ = some (.int .i64 to_)) := fun W h => by
            obtain ⟨b4, o4, hk5, hAe4, hB4, a0, a1, a2, a3⟩ := (own_rd h).term j hlt
            injection hAe4 with hAe4
            injection hAe4 with hb4 ho4
            subst hb4
            subst ho4
            have htt : L[j] = ⟨4, ti, tt, to_⟩ := by have := HTJ.out; rw [List.getElem?_eq_getElem hk5] at this; injection this
            rw [htt] at a2 a3
            exact ⟨a2, a3⟩
          refine wpN_one (i := 12) (by kernel_rfl) rfl ?_
          go_wp2
          refine tailN_normal ((HCi.out _).2 (hCw _ KO.out)) ?_
          refine wpN_one (i := 13) (by kernel_rfl) rfl ?_
          have hba := (Below.refl wd.heap.size wd).alloc (Nat.le_refl _) (.cells #[.int .i64 4, .int .i64 i, .int .i64 (-1), .int .i64 to_, .string tt] 29)
          have LB := Lib.hid (KB.out.trans (hba.mono hs7))
          have LO := Lib.hid (own_below KO.out hba)
          have LU := Lib.hid (own_below KU.out hba)
          have HNC := Lib.hid (fun j u h => new_cells wd #[.int .i64 4, .int .i64 i, .int .i64 (-1), .int .i64 to_, .string tt] 29 j u h)
          have hs8 : R ≤ (wd.alloc (.cells #[.int .i64 4, .int .i64 i, .int .i64 (-1), .int .i64 to_, .string tt] 29)).heap.size := Nat.le_trans hs7 hba.size
          clear hba KB KO KU
          go_wp2
          generalize World.alloc _ _ = wa at *
          generalize wd.heap.size = Z at *
          refine tailN_normal ((HCi.out _).2 (hCw _ LO.out)) ?_
          refine wpN_one (i := 14) (by kernel_rfl) rfl ?_
          have hownb := LU.out
          refine wpList_append_own _ rfl _ _ 26 rfl R 29 i0 _ 5 48 Tryz.underlying26 hi hz0 hz1 hz2 rfl (by decide) _ _ _ rfl hownb ⟨Z, 0, none⟩ 1 1 (Fd.cells ⟨4, i, -1, to_, tt⟩) rfl rfl HNC.out (Fd.one _) (by unfold maxLen; omega) (by omega) hs8 ?_
          intro v5 w5 hown5 hg5 _
          obtain ⟨A7, c7, rfl, hn7⟩ := own_slice hown5
          have NB := Lib.hid (LB.out.grown hg5 hs8 (fun q hq => (hownb.lt q hq).1))
          have NO := Lib.hid (own_kept_types LO.out hownb (by decide) hg5)
          have NU : Hid (w5.ownsRow R 29 5 (.slice A7 (m + 1) c7) (m + 1) (fcells (singlesL L i (L.take (j + 1))))) := Lib.hid (by
            rw [HS2.out, fcells_append]; exact hown5)
          clear hown5 hg5 hownb LB LO LU HNC HS2
          go_wp2
          refine tailN_normal ((HCi.out _).2 (hCw _ NO.out)) ?_
          refine wpN_one (i := 15) (by kernel_rfl) rfl ?_
          go_wp2
          refine tailN_normal ((HCi.out _).2 (hCw _ NO.out)) ?_
          refine wpN_none (by kernel_rfl) ?_
          go_wp2
          go_roundg (q - (j + 1))
          case measure => have := HG.out; omega
          case rel => exact ⟨j + 1, m + 1, c7, A7, by go_num, rfl, by omega, Lib.hid rfl, NB, NO, NU⟩
    · obtain rfl : j = N := by omega
      have hF : F = singlesL L i (L.take j) := HF.out
      have hFm := tot_succ HU.out
      rw [← hF] at hFm
      rw [← hF] at HU
      subst hFm
      go_wp2
      go_ret
      exact ⟨A5, c5, rfl, by rw [HRR.out]; exact HU.out, by rw [HRR.out]; exact HB.out⟩
end Go.Proofs.YtjcgkplphiedjaaGreat
