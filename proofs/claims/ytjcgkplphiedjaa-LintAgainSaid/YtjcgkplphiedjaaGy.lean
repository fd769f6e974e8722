/- The variables that stand once in a clause: the program's singles. | Predicates that no body asks for: the document's named and unused. -/
import Derived.Test.YtjcgkplphiedjaaGs
import Derived.Test.YtjcgkplphiedjaaGw
import Derived.Test.YtjcgkplphiedjaaGx
namespace Go.Proofs.Ytjcgkplphiedjaa
open Go.RowKit Go.Sort

set_option maxRecDepth 200000 in
set_option maxHeartbeats 16000000 in
theorem singles_any (x : Cl) (i : Nat) (w : World) (hok : Cl.ok w x) (hx : x.tot.length ≤ 1000) (hne : ∀ t ∈ x.tot, t.k = 4 → 0 < t.t.size) (hfs : ∀ t ∈ x.tot, t.t.size ≤ maxLen) :
    Calls Try.prog 42 #[.agg x.cells.toArray, .int .i64 i] w fun e w' => ∃ A c, e = .returned (.slice A (singlesF i x).length c) ∧ w'.ownsRow w.heap.size 51 5 (.slice A (singlesF i x).length c) (singlesF i x).length (fcells (singlesF i x)) ∧ Below w.heap.size w w' := by
  obtain ⟨i0, hi, hz0, hz1, hz2⟩ := info_parts Try.info51
  have HKT := Lib.hid (fun W h => all_any x W h hx)
  have HOK := Lib.hid hok
  have HNE := Lib.hid hne
  have HFS := Lib.hid hfs
  have HF : Hid (singlesF i x = singlesL x.tot i (x.tot.take x.tot.length)) := Lib.hid (by rw [List.take_length]; rfl)
  clear hok hne hfs
  generalize singlesF i x = F at *
  generalize x.tot = L at *
  obtain ⟨N, hN⟩ : ∃ N, L.length = N := ⟨_, rfl⟩
  have HN0 := Lib.hid hN
  rw [hN] at hx HF HKT
  clear hN
  obtain ⟨⟨hp, hA, hn, hc, ho, hes⟩, A, n, c, ls⟩ := x
  dsimp only [Cl.cells] at HKT
  show Calls Try.prog 42 #[.agg #[.string hp, .slice hA hn hc, .int .i64 ho, .slice A n c], .int .i64 i] w _
  have hmm := @run_makeMap Try.prog
  go_enter Try.func42, Try.ntmps42
  go_upto_region 1 with (fail)
  have hb1 := (Below.refl w.heap.size w).alloc (Nat.le_refl _) (.cells #[.string hp, .slice hA hn hc, .int .i64 ho, .slice A n c] 45)
  have H1 := Lib.hid (Blk.new w 45 [.string hp, .slice hA hn hc, .int .i64 ho, .slice A n c])
  generalize World.alloc _ _ = w1 at *
  generalize hR : w.heap.size = R at *
  have HRR := Lib.hid hR
  clear hR
  have HB1 := Lib.hid hb1
  have hs1 : R < w1.heap.size := H1.out.lt
  clear hb1
  go_upto_region 2 with (fail)
  have hba := (Below.refl w1.heap.size w1).alloc (Nat.le_refl _) (.map #[] 0)
  have HM1 : Hid (Mp (w1.alloc (.map #[] 0)) w1.heap.size 0 (intF [])) := Lib.hid ((Mp.made w1).congr (fun s => rfl))
  have H2 := Lib.hid (H1.out.below hba H1.out.lt)
  have HB2 := Lib.hid (HB1.out.trans (hba.mono (Nat.le_of_lt hs1)))
  clear hba H1 HB1 hmm
  generalize World.alloc _ _ = w2 at *
  generalize w1.heap.size = mb at *
  have hs2 : mb < w2.heap.size := HM1.out.lt
  have f0 := (H2.out.cell 0).trans rfl
  have f1 := (H2.out.cell 1).trans rfl
  have f2 := (H2.out.cell 2).trans rfl
  have f3 := (H2.out.cell 3).trans rfl
  have kt := HKT.out w2 (HOK.out.up (HRR.out ▸ HB2.out))
  go_wp2_with fail
  refine kt.mono ?_
  rintro e w3 ⟨A6, c6, rfl, hown3, hb3⟩
  have HB3 := Lib.hid (HB2.out.trans (hb3.mono (by omega)))
  have HR3 := Lib.hid (own_rd hown3)
  have H3 := Lib.hid (H2.out.below hb3 H2.out.lt)
  have HM3 := Lib.hid (HM1.out.below hb3 HM1.out.lt)
  clear kt hb3 hown3 H2 HB2 HM1 hs2 f0 f1 f2 f3
  go_upto_region 3 with (fail)
  have HT0 : Hid (TCnt [] (L.take 0)) := Lib.hid TCnt.nil
  go_loopg [15] N (fun gk u15 wr => ∃ (j : Nat) (m : List (ByteArray × Int)), u15 = .int .i64 j ∧ j ≤ N ∧ Hid (gk = N - j) ∧ Hid (Below R w wr) ∧ Hid (Blk wr R 45 [.string hp, .slice hA hn hc, .int .i64 ho, .slice A n c]) ∧ Hid (Mp wr mb j (intF m)) ∧ Hid (TCnt m (L.take j)) ∧ Hid (Rd wr wr.heap.size 4 A6 N (tcells L)))
  case atStart => exact ⟨0, [], rfl, Nat.zero_le _, Lib.hid (by omega), HB3, H3, HM3, HT0, HR3⟩
  case round =>
    clear HB3 H3 HM3 HT0 HR3
    obtain ⟨j, m, rfl, hj, HG, HB, HC, HM, HT, HR⟩ := hrel
    have hsr : R ≤ wr.heap.size := by have := HB.out.size; rw [HRR.out] at this; exact this
    have hmr : mb < wr.heap.size := HM.out.lt
    by_cases hlt : j < N
    · obtain ⟨b, o, hk1, rfl, hB, c0, c1, c2, c3⟩ := HR.out.term j hlt
      have HFJ := Lib.hid (HFS.out L[j] (List.getElem_mem hk1))
      have HTS : Hid (L.take (j + 1) = L.take j ++ [L[j]]) := Lib.hid (take_snoc L j hk1)
      generalize L[j] = t at *
      obtain ⟨tk, ti, tt, to_⟩ := t
      dsimp only at c0 c1 c2 c3 HFJ
      go_upto_region 5 with (fail)
      have hba := (Below.refl wr.heap.size wr).alloc (Nat.le_refl _) (.cells #[.int .i64 tk, .int .i64 ti, .string tt, .int .i64 to_] 33)
      have L1 := Lib.hid (Blk.new wr 33 [.int .i64 tk, .int .i64 ti, .string tt, .int .i64 to_])
      have KB := Lib.hid (HB.out.trans (hba.mono hsr))
      have KC := Lib.hid (HC.out.below hba HC.out.lt)
      have KM := Lib.hid (HM.out.below hba HM.out.lt)
      have KR := Lib.hid (HR.out.up hba hba.size)
      clear hba HB HC HM HR c0 c1 c2 c3 hB
      generalize World.alloc _ _ = w4 at *
      generalize wr.heap.size = Z at *
      have hZ : Z < w4.heap.size := L1.out.lt
      have f0 := (L1.out.cell 0).trans rfl
      have f1 := (L1.out.cell 1).trans rfl
      have f2 := (L1.out.cell 2).trans rfl
      have f3 := (L1.out.cell 3).trans rfl
      have kv := variable_any tk ti to_ tt w4
      go_wp2_with fail
      refine kv.mono ?_
      rintro e w5 ⟨rfl, hb5⟩
      have MB := Lib.hid (KB.out.trans (hb5.mono (by omega)))
      have MC := Lib.hid (KC.out.below hb5 KC.out.lt)
      have MM := Lib.hid (KM.out.below hb5 KM.out.lt)
      have MR := Lib.hid (KR.out.up hb5 hb5.size)
      have ML := Lib.hid (L1.out.below hb5 L1.out.lt)
      have hs5 : R ≤ w5.heap.size := by have := hb5.size; omega
      clear kv hb5 KB KC KM KR L1 f0 f1 f2 f3
      cases hk : (tk == 4) with
      | false =>
        have HN : Hid (TCnt m (L.take (j + 1))) := Lib.hid (by rw [HTS.out]; exact TCnt.skip (t := ⟨tk, ti, tt, to_⟩) HT.out hk)
        have HMN := Lib.hid (MM.out.mono (Nat.le_succ j))
        clear HT HTS MM
        go_wp2
        go_roundg (N - (j + 1))
        case measure => have := HG.out; omega
        case rel => exact ⟨j + 1, m, by go_num, by omega, Lib.hid rfl, MB, MC, HMN, HN, MR⟩
      | true =>
        have HN : Hid (TCnt ((tt, getI m tt + 1) :: m) (L.take (j + 1))) := Lib.hid (by rw [HTS.out]; exact TCnt.add (t := ⟨tk, ti, tt, to_⟩) HT.out hk)
        obtain ⟨hg0, hg1⟩ := HT.out.le tt
        rw [List.length_take] at hg1
        have hg2 : getI m tt ≤ j := by omega
        have kl : (Instr.lookup 66 (.map (some mb)) (.string tt) false).run Try.prog w5 = .ok (.int .i64 (getI m tt)) w5 := by
          have h := mp_lookup MM.out mapN (zeroI _) tt HFJ.out
          rw [intF_get] at h; exact h
        clear HT HTS hg1
        have HNP : Hid (∀ u, (if u = tt then some (Value.int .i64 (getI m tt + 1)) else intF m u) = intF ((tt, getI m tt + 1) :: m) u) := Lib.hid (intF_put m tt _)
        generalize getI m tt = g at *
        have f2 := (ML.out.cell 2).trans rfl
        go_wp2_with (at_mapUpdate; go_must (refine wpList_update_mp rfl _ _ _ 66 3 rfl mapN mb j _ rfl MM.out (by unfold maxLen; omega) tt rfl HFJ.out _ rfl ?_))
        intro w8 hm8 hg8
        have NM : Hid (Mp w8 mb (j + 1) (intF ((tt, g + 1) :: m))) := Lib.hid (Mp.congr hm8 (fun u => HNP.out u))
        have NB := Lib.hid (below_map MB.out hs5 hg8 (by omega))
        have NC := Lib.hid (MC.out.map MM.out hg8)
        have NR := Lib.hid (MR.out.mapUp MM.out hg8)
        clear hm8 hg8 MB MC MM MR ML kl HNP f2
        go_wp2
        go_roundg (N - (j + 1))
        case measure => have := HG.out; omega
        case rel => exact ⟨j + 1, _, by go_num, by omega, Lib.hid rfl, NB, NC, NM, HN, NR⟩
    · obtain rfl : j = N := by omega
      have HTL : Hid (TCnt m L) := Lib.hid (by have := HT.out; rwa [List.take_of_length_le (by have := HN0.out; omega)] at this)
      clear HT HR HG
      have kt := HKT.out wr (HOK.out.up (HRR.out ▸ HB.out))
      have f0 := (HC.out.cell 0).trans rfl
      have f1 := (HC.out.cell 1).trans rfl
      have f2 := (HC.out.cell 2).trans rfl
      have f3 := (HC.out.cell 3).trans rfl
      go_upto_region 9 with (fail)
      go_wp2_with fail
      refine kt.mono ?_
      rintro e w4 ⟨A7, c7, rfl, hown4, hb4⟩
      have KB := Lib.hid (HB.out.trans (hb4.mono hsr))
      have KL := Lib.hid (own_le hown4 hsr)
      have KM := Lib.hid (HM.out.below hb4 HM.out.lt)
      clear kt hb4 hown4 HB HC HM f0 f1 f2 f3 hsr hmr
      go_upto_region 10 with (fail)
      have HU : Hid (w4.ownsRow R 51 5 (.slice none 0 0) 0 (fcells (singlesL L i (L.take 0)))) := Lib.hid (World.ownsRow_nil _ _ _ _)
      clear hlt hj
      generalize hwo : wr = wo at *
      clear hwo
      go_loopg [8, 30] j (fun gq u8 u30 wr => ∃ (q mo c5 : Nat) (A5 : Option Addr), u30 = .int .i64 q ∧ u8 = .slice A5 mo c5 ∧ q ≤ j ∧ Hid (gq = j - q) ∧ Hid (Below R w wr) ∧ Hid (Mp wr mb j (intF m)) ∧ Hid (wr.ownsRow R 33 4 (.slice A7 j c7) j (tcells L)) ∧ Hid (wr.ownsRow R 51 5 (.slice A5 mo c5) mo (fcells (singlesL L i (L.take q)))))
      case atStart => exact ⟨0, 0, 0, none, rfl, rfl, Nat.zero_le _, Lib.hid (by omega), KB, KM, KL, HU⟩
      case round =>
        clear KB KM KL HU
        obtain ⟨q, mo, c5, A5, rfl, rfl, hq, HG, HB, HM, HL, HU⟩ := hrel
        have hsr : R ≤ wr.heap.size := by have := HB.out.size; rw [HRR.out] at this; exact this
        have hmq : mo ≤ q := by
          have h1 := tot_succ HU.out
          have h2 := singlesL_len L i (L.take q)
          rw [List.length_take] at h2
          omega
        by_cases hlt : q < j
        · obtain ⟨b, o, hk1, hAe, hB, c0, c1, c2, c3⟩ := (own_rd HL.out).term q hlt
          have HFJ := Lib.hid (HFS.out L[q] (List.getElem_mem hk1))
          have HS := Lib.hid (singlesL_succ L i q L hk1)
          have HT : Hid (singleB L L[q] = ((L[q].k == 4) && (!(headS L[q].t == 95) && decide (timesT L L[q].t = 1)))) := Lib.hid rfl
          have hsz : L[q].k = 4 → 0 < L[q].t.size := HNE.out _ (List.getElem_mem hk1)
          subst hAe
          generalize hse : singleB L L[q] = sb at *
          clear hse
          generalize L[q] = t at *
          obtain ⟨tk, ti, tt, to_⟩ := t
          dsimp only at c0 c1 c2 c3 HT hsz HFJ
          go_upto_region 12 with (fail)
          have hba := (Below.refl wr.heap.size wr).alloc (Nat.le_refl _) (.cells #[.int .i64 tk, .int .i64 ti, .string tt, .int .i64 to_] 33)
          have L1 := Lib.hid (Blk.new wr 33 [.int .i64 tk, .int .i64 ti, .string tt, .int .i64 to_])
          have KB := Lib.hid (HB.out.trans (hba.mono hsr))
          have KM := Lib.hid (HM.out.below hba HM.out.lt)
          have KL := Lib.hid (own_below HL.out hba)
          have KU := Lib.hid (own_below HU.out hba)
          clear hba HB HL HM HU c0 c1 c2 c3 hB
          generalize World.alloc _ _ = w5 at *
          generalize wr.heap.size = Z at *
          have hZ : Z < w5.heap.size := L1.out.lt
          have f0 := (L1.out.cell 0).trans rfl
          have f1 := (L1.out.cell 1).trans rfl
          have f2 := (L1.out.cell 2).trans rfl
          have f3 := (L1.out.cell 3).trans rfl
          have kv := variable_any tk ti to_ tt w5
          go_wp2_with fail
          refine kv.mono ?_
          rintro e w6 ⟨rfl, hb6⟩
          have MB := Lib.hid (KB.out.trans (hb6.mono (by omega)))
          have MM := Lib.hid (KM.out.below hb6 KM.out.lt)
          have ML := Lib.hid (own_below KL.out hb6)
          have MU := Lib.hid (own_below KU.out hb6)
          have L2 := Lib.hid (L1.out.below hb6 L1.out.lt)
          have hs6 : R ≤ w6.heap.size := by have := hb6.size; omega
          clear kv hb6 KB KM KL KU L1 f0 f1 f2 f3
          have f2 := (L2.out.cell 2).trans rfl
          have f3 := (L2.out.cell 3).trans rfl
          by_cases hk : tk = 4
          rotate_left
          · have t1 : (tk == 4) = false := by simpa using hk
            have hsb : sb = false := by rw [HT.out, t1]; rfl
            have HN : Hid (w6.ownsRow R 51 5 (.slice A5 mo c5) mo (fcells (singlesL L i (L.take (q + 1))))) := Lib.hid (by rw [HS.out, hsb]; simpa using MU.out)
            clear HS HT MU hk hsz hsb f2 f3
            go_wp2
            go_roundg (j - (q + 1))
            case measure => have := HG.out; omega
            case rel => exact ⟨q + 1, mo, c5, A5, by go_num, rfl, by omega, Lib.hid rfl, MB, MM, ML, HN⟩
          subst hk
          have hz := hsz rfl
          clear hsz
          have hh : headS tt = ((tt[0]).toNat : Int) := by unfold headS; rw [head_at _ hz]
          by_cases he : ((tt[0]).toNat : Int) = 95
          · have t2 : (((tt[0]).toNat : Int) == 95) = true := by simpa using he
            have t3 : (((tt[0]).toNat : Int) != 95) = false := by simp only [bne, t2]; rfl
            have hsb : sb = false := by rw [HT.out, hh, t2]; simp
            have HN : Hid (w6.ownsRow R 51 5 (.slice A5 mo c5) mo (fcells (singlesL L i (L.take (q + 1))))) := Lib.hid (by rw [HS.out, hsb]; simpa using MU.out)
            clear HS HT MU hsb hh he
            go_wp2
            go_roundg (j - (q + 1))
            case measure => have := HG.out; omega
            case rel => exact ⟨q + 1, mo, c5, A5, by go_num, rfl, by omega, Lib.hid rfl, MB, MM, ML, HN⟩
          have t2 : (((tt[0]).toNat : Int) == 95) = false := by simpa using he
          have t3 : (((tt[0]).toNat : Int) != 95) = true := by simp only [bne, t2]; rfl
          have hgt : getI m tt = ((timesT L tt : Nat) : Int) := HTL.out tt
          replace HT : Hid (sb = decide (timesT L tt = 1)) := Lib.hid (by rw [HT.out, hh, t2]; simp)
          have kl : (Instr.lookup 66 (.map (some mb)) (.string tt) false).run Try.prog w6 = .ok (.int .i64 ((timesT L tt : Nat) : Int)) w6 := by
            have h := mp_lookup MM.out mapN (zeroI _) tt HFJ.out
            rw [intF_get, hgt] at h; exact h
          clear he hh hgt
          generalize timesT L tt = tm at *
          by_cases h1 : tm = 1
          rotate_left
          · have hsb : sb = false := by rw [HT.out]; simp [h1]
            have t4 : ((tm : Int) == 1) = false := by simp; omega
            have HN : Hid (w6.ownsRow R 51 5 (.slice A5 mo c5) mo (fcells (singlesL L i (L.take (q + 1))))) := Lib.hid (by rw [HS.out, hsb]; simpa using MU.out)
            clear HS HT MU hsb h1
            go_wp2
            go_roundg (j - (q + 1))
            case measure => have := HG.out; omega
            case rel => exact ⟨q + 1, mo, c5, A5, by go_num, rfl, by omega, Lib.hid rfl, MB, MM, ML, HN⟩
          have hsb : sb = true := by rw [HT.out]; simp [h1]
          have HS2 : Hid (singlesL L i (L.take (q + 1)) = singlesL L i (L.take q) ++ [⟨4, i, -1, to_, tt⟩]) := Lib.hid (by rw [HS.out, hsb]; rfl)
          subst h1
          clear HS HT hsb
          go_upto_region 13 with (fail)
          clear kl
          have hownb := MU.out
          go_wp2_with (at_builtin; go_must (refine wpList_append_own _ rfl _ _ 48 rfl R 51 i0 _ 5 48 Try.underlying48 hi hz0 hz1 hz2 rfl (by decide) _ _ _ rfl (hownb.alloc _) ⟨w6.heap.size, 0, none⟩ 1 1 (Fd.cells ⟨4, i, -1, to_, tt⟩) rfl rfl (fun j u h => new_cells _ _ _ j u h) (Fd.one _) (by unfold maxLen; omega) (by omega) (by simp; omega) ?_))
          intro v7 w7 hown7 hg7 _
          obtain ⟨A8, c8, rfl, hn8⟩ := own_slice hown7
          have hba := (Below.refl w6.heap.size w6).alloc (Nat.le_refl _) (.cells (Fd.cells ⟨4, i, -1, to_, tt⟩).toArray 51)
          have NB := Lib.hid ((MB.out.trans (hba.mono hs6)).grown hg7 (Nat.le_trans hs6 hba.size) (fun q hq => (hownb.lt q hq).1))
          have NM := Lib.hid ((MM.out.alloc (.cells (Fd.cells ⟨4, i, -1, to_, tt⟩).toArray 51)).grown hg7 (MM.out.ne hownb))
          have NL := Lib.hid (own_kept_types (own_below ML.out hba) (hownb.alloc (.cells (Fd.cells ⟨4, i, -1, to_, tt⟩).toArray 51)) (by decide) hg7)
          have NU : Hid (w7.ownsRow R 51 5 (.slice A8 (mo + 1) c8) (mo + 1) (fcells (singlesL L i (L.take (q + 1))))) := Lib.hid (by
            rw [HS2.out, fcells_append]; exact hown7)
          clear hown7 hg7 hownb hba MB MM ML MU HS2 f2 f3 L2
          go_wp2
          go_roundg (j - (q + 1))
          case measure => have := HG.out; omega
          case rel => exact ⟨q + 1, mo + 1, c8, A8, by go_num, rfl, by omega, Lib.hid rfl, NB, NM, NL, NU⟩
        · obtain rfl : q = j := by omega
          have hF : F = singlesL L i (L.take q) := HF.out
          have hFm := tot_succ HU.out
          rw [← hF] at hFm
          rw [← hF] at HU
          subst hFm
          go_wp2
          go_ret
          exact ⟨A5, c5, rfl, by rw [HRR.out]; exact HU.out, by rw [HRR.out]; exact HB.out⟩
end Go.Proofs.Ytjcgkplphiedjaa

namespace Go.Proofs.Ytjcgkplphiedjaa
open Go.RowKit Go.Sort

end Go.Proofs.Ytjcgkplphiedjaa
