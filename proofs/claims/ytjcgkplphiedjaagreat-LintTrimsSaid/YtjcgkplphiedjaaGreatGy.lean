/- The variables that stand once in a clause: the program's singles. | Predicates that no body asks for: the document's named and unused. -/
import Derived.Test.YtjcgkplphiedjaaGreatGs
import Derived.Test.YtjcgkplphiedjaaGreatGx
import Derived.Test.YtjcgkplphiedjaaGreatGv
namespace Go.Proofs.YtjcgkplphiedjaaGreat
open Go.RowKit Go.Sort

set_option maxRecDepth 200000 in
set_option maxHeartbeats 16000000 in
theorem singles_any (x : Cl) (i : Nat) (w : World) (hok : Cl.ok w x) (hx : x.tot.length ≤ 1000) (hne : ∀ t ∈ x.tot, t.k = 4 → 0 < t.t.size) (hfs : ∀ t ∈ x.tot, t.t.size ≤ maxLen) :
    Calls Tryz.prog 22 #[.agg x.cells.toArray, .int .i64 i] w fun e w' => ∃ A c, e = .returned (.slice A (singlesF i x).length c) ∧ w'.ownsRow w.heap.size 29 5 (.slice A (singlesF i x).length c) (singlesF i x).length (fcells (singlesF i x)) ∧ Below w.heap.size w w' := by
  obtain ⟨i0, hi, hz0, hz1, hz2⟩ := info_parts Tryz.info29
  have HKT := Lib.hid (fun W h => all_any x W h hx)
  have HOK := Lib.hid hok
  have HNE := Lib.hid hne
  have HFS := Lib.hid hfs
  have HF : Hid (singlesF i x = singlesL x.tot i (x.tot.take x.tot.length)) := Lib.hid (by rw [List.take_length]; rfl)
  clear hok hne hfs
  generalize singlesF i x = F at *
  generalize x.tot = L at *
  obtain ⟨N, hN⟩ : ∃ N, L.length = N := ⟨_, rfl⟩
  have HN0 := Lib.hid hN
  rw [hN] at hx HF HKT
  clear hN
  obtain ⟨⟨hp, hA, hn, hc, ho, hes⟩, A, n, c, ls⟩ := x
  dsimp only [Cl.cells] at HKT
  show Calls Tryz.prog 22 #[.agg #[.string hp, .slice hA hn hc, .int .i64 ho, .slice A n c], .int .i64 i] w _
  have hmm := @run_makeMap Tryz.prog
  go_enter Tryz.func22, Tryz.ntmps22
  go_upto_region 1 with (fail)
  have hb1 := (Below.refl w.heap.size w).alloc (Nat.le_refl _) (.cells #[.string hp, .slice hA hn hc, .int .i64 ho, .slice A n c] 37)
  have H1 := Lib.hid (Blk.new w 37 [.string hp, .slice hA hn hc, .int .i64 ho, .slice A n c])
  generalize World.alloc _ _ = w1 at *
  generalize hR : w.heap.size = R at *
  have HRR := Lib.hid hR
  clear hR
  have HB1 := Lib.hid hb1
  have hs1 : R < w1.heap.size := H1.out.lt
  clear hb1
  go_upto_region 2 with (fail)
  have hba := (Below.refl w1.heap.size w1).alloc (Nat.le_refl _) (.map #[] 0)
  have HM1 : Hid (Mp (w1.alloc (.map #[] 0)) w1.heap.size 0 (intF [])) := Lib.hid ((Mp.made w1).congr (fun s => rfl))
  have H2 := Lib.hid (H1.out.below hba H1.out.lt)
  have HB2 := Lib.hid (HB1.out.trans (hba.mono (Nat.le_of_lt hs1)))
  clear hba H1 HB1 hmm
  generalize World.alloc _ _ = w2 at *
  generalize w1.heap.size = mb at *
  have hs2 : mb < w2.heap.size := HM1.out.lt
  have f0 := (H2.out.cell 0).trans rfl
  have f1 := (H2.out.cell 1).trans rfl
  have f2 := (H2.out.cell 2).trans rfl
  have f3 := (H2.out.cell 3).trans rfl
  have kt := HKT.out w2 (HOK.out.up (HRR.out ▸ HB2.out))
  go_wp2_with fail
  refine kt.mono ?_
  rintro e w3 ⟨A6, c6, rfl, hown3, hb3⟩
  have HB3 := Lib.hid (HB2.out.trans (hb3.mono (by omega)))
  have HR3 := Lib.hid (own_rd hown3)
  have H3 := Lib.hid (H2.out.below hb3 H2.out.lt)
  have HM3 := Lib.hid (HM1.out.below hb3 HM1.out.lt)
  clear kt hb3 hown3 H2 HB2 HM1 hs2 f0 f1 f2 f3
  go_upto_region 3 with (fail)
  have HT0 : Hid (TCnt [] (L.take 0)) := Lib.hid TCnt.nil
  go_loopg [15] N (fun gk u15 wr => ∃ (j : Nat) (m : List (ByteArray × Int)), u15 = .int .i64 j ∧ j ≤ N ∧ Hid (gk = N - j) ∧ Hid (Below R w wr) ∧ Hid (Blk wr R 37 [.string hp, .slice hA hn hc, .int .i64 ho, .slice A n c]) ∧ Hid (Mp wr mb j (intF m)) ∧ Hid (TCnt m (L.take j)) ∧ Hid (Rd wr wr.heap.size 4 A6 N (tcells L)))
  case atStart => exact ⟨0, [], rfl, Nat.zero_le _, Lib.hid (by omega), HB3, H3, HM3, HT0, HR3⟩
  case round =>
    clear HB3 H3 HM3 HT0 HR3
    obtain ⟨j, m, rfl, hj, HG, HB, HC, HM, HT, HR⟩ := hrel
    have hsr : R ≤ wr.heap.size := by have := HB.out.size; rw [HRR.out] at this; exact this
    have hmr : mb < wr.heap.size := HM.out.lt
    by_cases hlt : j < N
    · obtain ⟨b, o, hk1, rfl, hB, c0, c1, c2, c3⟩ := HR.out.term j hlt
      have HFJ := Lib.hid (HFS.out L[j] (List.getElem_mem hk1))
      have HTS : Hid (L.take (j + 1) = L.take j ++ [L[j]]) := Lib.hid (take_snoc L j hk1)
      generalize L[j] = t at *
      obtain ⟨tk, ti, tt, to_⟩ := t
      dsimp only at c0 c1 c2 c3 HFJ
      go_upto_region 5 with (fail)
      have hba := (Below.refl wr.heap.size wr).alloc (Nat.le_refl _) (.cells #[.int .i64 tk, .int .i64 ti, .string tt, .int .i64 to_] 44)
      have L1 := Lib.hid (Blk.new wr 44 [.int .i64 tk, .int .i64 ti, .string tt, .int .i64 to_])
      have KB := Lib.hid (HB.out.trans (hba.mono hsr))
      have KC := Lib.hid (HC.out.below hba HC.out.lt)
      have KM := Lib.hid (HM.out.below hba HM.out.lt)
      have KR := Lib.hid (HR.out.up hba hba.size)
      clear hba HB HC HM HR c0 c1 c2 c3 hB
      generalize World.alloc _ _ = w4 at *
      generalize wr.heap.size = Z at *
      have hZ : Z < w4.heap.size := L1.out.lt
      have f0 := (L1.out.cell 0).trans rfl
      have f1 := (L1.out.cell 1).trans rfl
      have f2 := (L1.out.cell 2).trans rfl
      have f3 := (L1.out.cell 3).trans rfl
      have kv := variable_any tk ti to_ tt w4
      go_wp2_with fail
      refine kv.mono ?_
      rintro e w5 ⟨rfl, hb5⟩
      have MB := Lib.hid (KB.out.trans (hb5.mono (by omega)))
      have MC := Lib.hid (KC.out.below hb5 KC.out.lt)
      have MM := Lib.hid (KM.out.below hb5 KM.out.lt)
      have MR := Lib.hid (KR.out.up hb5 hb5.size)
      have ML := Lib.hid (L1.out.below hb5 L1.out.lt)
      have hs5 : R ≤ w5.heap.size := by have := hb5.size; omega
      clear kv hb5 KB KC KM KR L1 f0 f1 f2 f3
      cases hk : (tk == 4) with
      | false =>
        have HN : Hid (TCnt m (L.take (j + 1))) := Lib.hid (by rw [HTS.out]; exact TCnt.skip (t := ⟨tk, ti, tt, to_⟩) HT.out hk)
        have HMN := Lib.hid (MM.out.mono (Nat.le_succ j))
        clear HT HTS MM
        go_wp2
        go_roundg (N - (j + 1))
        case measure => have := HG.out; omega
        case rel => exact ⟨j + 1, m, by go_num, by omega, Lib.hid rfl, MB, MC, HMN, HN, MR⟩
      | true =>
        have HN : Hid (TCnt ((tt, getI m tt + 1) :: m) (L.take (j + 1))) := Lib.hid (by rw [HTS.out]; exact TCnt.add (t := ⟨tk, ti, tt, to_⟩) HT.out hk)
        obtain ⟨hg0, hg1⟩ := HT.out.le tt
        rw [List.length_take] at hg1
        have hg2 : getI m tt ≤ j := by omega
        have kl : (Instr.lookup 50 (.map (some mb)) (.string tt) false).run Tryz.prog w5 = .ok (.int .i64 (getI m tt)) w5 := by
          have h := mp_lookup MM.out mapN (zeroI _) tt HFJ.out
          rw [intF_get] at h; exact h
        clear HT HTS hg1
        have HNP : Hid (∀ u, (if u = tt then some (Value.int .i64 (getI m tt + 1)) else intF m u) = intF ((tt, getI m tt + 1) :: m) u) := Lib.hid (intF_put m tt _)
        generalize getI m tt = g at *
        have f2 := (ML.out.cell 2).trans rfl
        go_wp2_with (at_mapUpdate; go_must (refine wpList_update_mp rfl _ _ _ 50 3 rfl mapN mb j _ rfl MM.out (by unfold maxLen; omega) tt rfl HFJ.out _ rfl ?_))
        intro w8 hm8 hg8
        have NM : Hid (Mp w8 mb (j + 1) (intF ((tt, g + 1) :: m))) := Lib.hid (Mp.congr hm8 (fun u => HNP.out u))
        have NB := Lib.hid (below_map MB.out hs5 hg8 (by omega))
        have NC := Lib.hid (MC.out.map MM.out hg8)
        have NR := Lib.hid (MR.out.mapUp MM.out hg8)
        clear hm8 hg8 MB MC MM MR ML kl HNP f2
        go_wp2
        go_roundg (N - (j + 1))
        case measure => have := HG.out; omega
        case rel => exact ⟨j + 1, _, by go_num, by omega, Lib.hid rfl, NB, NC, NM, HN, NR⟩
    · obtain rfl : j = N := by omega
      have HTL : Hid (TCnt m L) := Lib.hid (by have := HT.out; rwa [List.take_of_length_le (by have := HN0.out; omega)] at this)
      clear HT HR HG
      have kt := HKT.out wr (HOK.out.up (HRR.out ▸ HB.out))
      have f0 := (HC.out.cell 0).trans rfl
      have f1 := (HC.out.cell 1).trans rfl
      have f2 := (HC.out.cell 2).trans rfl
      have f3 := (HC.out.cell 3).trans rfl
      go_upto_region 9 with (fail)
      go_wp2_with fail
      refine kt.mono ?_
      rintro e w4 ⟨A7, c7, rfl, hown4, hb4⟩
      have KB := Lib.hid (HB.out.trans (hb4.mono hsr))
      have KL := Lib.hid (own_le hown4 hsr)
      have KM := Lib.hid (HM.out.below hb4 HM.out.lt)
      clear kt hb4 hown4 HB HC HM f0 f1 f2 f3 hsr hmr
      go_upto_region 10 with (fail)
      have HU : Hid (w4.ownsRow R 29 5 (.slice none 0 0) 0 (fcells (singlesL L i (L.take 0)))) := Lib.hid (World.ownsRow_nil _ _ _ _)
      clear hlt hj
      generalize hwo : wr = wo at *
      clear hwo
      go_loopg [8, 30] j (fun gq u8 u30 wr => ∃ (q mo c5 : Nat) (A5 : Option Addr), u30 = .int .i64 q ∧ u8 = .slice A5 mo c5 ∧ q ≤ j ∧ Hid (gq = j - q) ∧ Hid (Below R w wr) ∧ Hid (Mp wr mb j (intF m)) ∧ Hid (wr.ownsRow R 44 4 (.slice A7 j c7) j (tcells L)) ∧ Hid (wr.ownsRow R 29 5 (.slice A5 mo c5) mo (fcells (singlesL L i (L.take q)))))
      case atStart => exact ⟨0, 0, 0, none, rfl, rfl, Nat.zero_le _, Lib.hid (by omega), KB, KM, KL, HU⟩
      case round =>
        clear KB KM KL HU
        obtain ⟨q, mo, c5, A5, rfl, rfl, hq, HG, HB, HM, HL, HU⟩ := hrel
        have hsr : R ≤ wr.heap.size := by have := HB.out.size; rw [HRR.out] at this; exact this
        have hmq : mo ≤ q := by
          have h1 := tot_succ HU.out
          have h2 := singlesL_len L i (L.take q)
          rw [List.length_take] at h2
          omega
        by_cases hlt : q < j
        · obtain ⟨b, o, hk1, hAe, hB, c0, c1, c2, c3⟩ := (own_rd HL.out).term q hlt
          have HFJ := Lib.hid (HFS.out L[q] (List.getElem_mem hk1))
          have HS := Lib.hid (singlesL_succ L i q L hk1)
          have HT : Hid (singleB L L[q] = ((L[q].k == 4) && (!(headS L[q].t == 95) && decide (timesT L L[q].t = 1)))) := Lib.hid rfl
          have hsz : L[q].k = 4 → 0 < L[q].t.size := HNE.out _ (List.getElem_mem hk1)
          subst hAe
          generalize hse : singleB L L[q] = sb at *
          clear hse
          generalize L[q] = t at *
          obtain ⟨tk, ti, tt, to_⟩ := t
          dsimp only at c0 c1 c2 c3 HT hsz HFJ
          go_upto_region 12 with (fail)
          have hba := (Below.refl wr.heap.size wr).alloc (Nat.le_refl _) (.cells #[.int .i64 tk, .int .i64 ti, .string tt, .int .i64 to_] 44)
          have L1 := Lib.hid (Blk.new wr 44 [.int .i64 tk, .int .i64 ti, .string tt, .int .i64 to_])
          have KB := Lib.hid (HB.out.trans (hba.mono hsr))
          have KM := Lib.hid (HM.out.below hba HM.out.lt)
          have KL := Lib.hid (own_below HL.out hba)
          have KU := Lib.hid (own_below HU.out hba)
          clear hba HB HL HM HU c0 c1 c2 c3 hB
          generalize World.alloc _ _ = w5 at *
          generalize wr.heap.size = Z at *
          have hZ : Z < w5.heap.size := L1.out.lt
          have f0 := (L1.out.cell 0).trans rfl
          have f1 := (L1.out.cell 1).trans rfl
          have f2 := (L1.out.cell 2).trans rfl
          have f3 := (L1.out.cell 3).trans rfl
          have kv := variable_any tk ti to_ tt w5
          go_wp2_with fail
          refine kv.mono ?_
          rintro e w6 ⟨rfl, hb6⟩
          have MB := Lib.hid (KB.out.trans (hb6.mono (by omega)))
          have MM := Lib.hid (KM.out.below hb6 KM.out.lt)
          have ML := Lib.hid (own_below KL.out hb6)
          have MU := Lib.hid (own_below KU.out hb6)
          have L2 := Lib.hid (L1.out.below hb6 L1.out.lt)
          have hs6 : R ≤ w6.heap.size := by have := hb6.size; omega
          clear kv hb6 KB KM KL KU L1 f0 f1 f2 f3
          have f2 := (L2.out.cell 2).trans rfl
          have f3 := (L2.out.cell 3).trans rfl
          by_cases hk : tk = 4
          rotate_left
          · have t1 : (tk == 4) = false := by simpa using hk
            have hsb : sb = false := by rw [HT.out, t1]; rfl
            have HN : Hid (w6.ownsRow R 29 5 (.slice A5 mo c5) mo (fcells (singlesL L i (L.take (q + 1))))) := Lib.hid (by rw [HS.out, hsb]; simpa using MU.out)
            clear HS HT MU hk hsz hsb f2 f3
            go_wp2
            go_roundg (j - (q + 1))
            case measure => have := HG.out; omega
            case rel => exact ⟨q + 1, mo, c5, A5, by go_num, rfl, by omega, Lib.hid rfl, MB, MM, ML, HN⟩
          subst hk
          have hz := hsz rfl
          clear hsz
          have hh : headS tt = ((tt[0]).toNat : Int) := by unfold headS; rw [head_at _ hz]
          by_cases he : ((tt[0]).toNat : Int) = 95
          · have t2 : (((tt[0]).toNat : Int) == 95) = true := by simpa using he
            have t3 : (((tt[0]).toNat : Int) != 95) = false := by simp only [bne, t2]; rfl
            have hsb : sb = false := by rw [HT.out, hh, t2]; simp
            have HN : Hid (w6.ownsRow R 29 5 (.slice A5 mo c5) mo (fcells (singlesL L i (L.take (q + 1))))) := Lib.hid (by rw [HS.out, hsb]; simpa using MU.out)
            clear HS HT MU hsb hh he
            go_wp2
            go_roundg (j - (q + 1))
            case measure => have := HG.out; omega
            case rel => exact ⟨q + 1, mo, c5, A5, by go_num, rfl, by omega, Lib.hid rfl, MB, MM, ML, HN⟩
          have t2 : (((tt[0]).toNat : Int) == 95) = false := by simpa using he
          have t3 : (((tt[0]).toNat : Int) != 95) = true := by simp only [bne, t2]; rfl
          have hgt : getI m tt = ((timesT L tt : Nat) : Int) := HTL.out tt
          replace HT : Hid (sb = decide (timesT L tt = 1)) := Lib.hid (by rw [HT.out, hh, t2]; simp)
          have kl : (Instr.lookup 50 (.map (some mb)) (.string tt) false).run Tryz.prog w6 = .ok (.int .i64 ((timesT L tt : Nat) : Int)) w6 := by
            have h := mp_lookup MM.out mapN (zeroI _) tt HFJ.out
            rw [intF_get, hgt] at h; exact h
          clear he hh hgt
          generalize timesT L tt = tm at *
          by_cases h1 : tm = 1
          rotate_left
          · have hsb : sb = false := by rw [HT.out]; simp [h1]
            have t4 : ((tm : Int) == 1) = false := by simp; omega
            have HN : Hid (w6.ownsRow R 29 5 (.slice A5 mo c5) mo (fcells (singlesL L i (L.take (q + 1))))) := Lib.hid (by rw [HS.out, hsb]; simpa using MU.out)
            clear HS HT MU hsb h1
            go_wp2
            go_roundg (j - (q + 1))
            case measure => have := HG.out; omega
            case rel => exact ⟨q + 1, mo, c5, A5, by go_num, rfl, by omega, Lib.hid rfl, MB, MM, ML, HN⟩
          have hsb : sb = true := by rw [HT.out]; simp [h1]
          have HS2 : Hid (singlesL L i (L.take (q + 1)) = singlesL L i (L.take q) ++ [⟨4, i, -1, to_, tt⟩]) := Lib.hid (by rw [HS.out, hsb]; rfl)
          subst h1
          clear HS HT hsb
          go_upto_region 13 with (fail)
          clear kl
          have hownb := MU.out
          go_wp2_with (at_builtin; go_must (refine wpList_append_own _ rfl _ _ 26 rfl R 29 i0 _ 5 48 Tryz.underlying26 hi hz0 hz1 hz2 rfl (by decide) _ _ _ rfl (hownb.alloc _) ⟨w6.heap.size, 0, none⟩ 1 1 (Fd.cells ⟨4, i, -1, to_, tt⟩) rfl rfl (fun j u h => new_cells _ _ _ j u h) (Fd.one _) (by unfold maxLen; omega) (by omega) (by simp; omega) ?_))
          intro v7 w7 hown7 hg7 _
          obtain ⟨A8, c8, rfl, hn8⟩ := own_slice hown7
          have hba := (Below.refl w6.heap.size w6).alloc (Nat.le_refl _) (.cells (Fd.cells ⟨4, i, -1, to_, tt⟩).toArray 29)
          have NB := Lib.hid ((MB.out.trans (hba.mono hs6)).grown hg7 (Nat.le_trans hs6 hba.size) (fun q hq => (hownb.lt q hq).1))
          have NM := Lib.hid ((MM.out.alloc (.cells (Fd.cells ⟨4, i, -1, to_, tt⟩).toArray 29)).grown hg7 (MM.out.ne hownb))
          have NL := Lib.hid (own_kept_types (own_below ML.out hba) (hownb.alloc (.cells (Fd.cells ⟨4, i, -1, to_, tt⟩).toArray 29)) (by decide) hg7)
          have NU : Hid (w7.ownsRow R 29 5 (.slice A8 (mo + 1) c8) (mo + 1) (fcells (singlesL L i (L.take (q + 1))))) := Lib.hid (by
            rw [HS2.out, fcells_append]; exact hown7)
          clear hown7 hg7 hownb hba MB MM ML MU HS2 f2 f3 L2
          go_wp2
          go_roundg (j - (q + 1))
          case measure => have := HG.out; omega
          case rel => exact ⟨q + 1, mo + 1, c8, A8, by go_num, rfl, by omega, Lib.hid rfl, NB, NM, NL, NU⟩
        · obtain rfl : q = j := by omega
          have hF : F = singlesL L i (L.take q) := HF.out
          have hFm := tot_succ HU.out
          rw [← hF] at hFm
          rw [← hF] at HU
          subst hFm
          go_wp2
          go_ret
          exact ⟨A5, c5, rfl, by rw [HRR.out]; exact HU.out, by rw [HRR.out]; exact HB.out⟩
end Go.Proofs.YtjcgkplphiedjaaGreat

namespace Go.Proofs.YtjcgkplphiedjaaGreat
open Go.RowKit Go.Sort

set_option maxRecDepth 200000 in
set_option maxHeartbeats 16000000 in
theorem named_ref (A : Option Addr) (n c : Nat) (cs : List Cl) (s : ByteArray) (w : World) (hr : Rd w w.heap.size 4 A n (ccells cs)) (hok : ∀ x ∈ cs, Cl.ok w x) :
    Calls Tryz.prog 37 #[.agg #[.slice A n c], .string s] w fun e w' => e = .returned (.bool (namedB' cs s)) ∧ Below w.heap.size w w' := by
  have hl : cs.length = n := by have := hr.1; rw [ccells_length] at this; omega
  have hnb := hr.2.1
  have HL := Lib.hid hl
  have HR := Lib.hid hr
  have HOK := Lib.hid hok
  have HV : Hid ((cs.drop 0).any (fun y => y.ls.any (askB s)) = namedB' cs s) := Lib.hid rfl
  have HAS : Hid (∀ l, askB s l = (!(l.k == 3) && (l.a.p.toList == s.toList))) := Lib.hid (fun _ => rfl)
  clear hl hr hok
  generalize namedB' cs s = v at *
  generalize askB s = ask at *
  go_enter Tryz.func37, Tryz.ntmps37
  go_upto_region 1 with (fail)
  have hb1 := (Below.refl w.heap.size w).alloc (Nat.le_refl _) (.cells #[.slice A n c] 24)
  have H1 := Lib.hid (Blk.new w 24 [.slice A n c])
  generalize World.alloc _ _ = w1 at *
  generalize hR : w.heap.size = R at *
  have HRR := Lib.hid hR
  clear hR
  have HB1 := Lib.hid hb1
  clear hb1
  go_upto_region 2 with (fail)
  go_loopg [5] n (fun gk u5 wr => ∃ i : Nat, u5 = .int .i64 i ∧ i ≤ n ∧ Hid (gk = n - i) ∧ Hid (Below R w wr) ∧ Hid (Blk wr R 24 [.slice A n c]) ∧ Hid ((cs.drop i).any (fun y => y.ls.any ask) = v))
  case atStart => exact ⟨0, rfl, Nat.zero_le _, Lib.hid (by omega), HB1, H1, HV⟩
  case round =>
    clear HB1 H1 HV
    obtain ⟨i, rfl, hi, HG, HB, H1, HV⟩ := hrel
    have f0 := (H1.out.cell 0).trans rfl
    by_cases hlt : i < n
    · obtain ⟨b, o, hk1, hAe, hB, hcc⟩ := (HR.out.below HB.out).at Cl.cells 4 (fun _ => rfl) (by omega) i hlt
      have HC3 : Hid (∀ W, Below R w W → W.cell? ⟨b, o + i * 4 + 3, none⟩ = some (.slice cs[i].A cs[i].n cs[i].c)) := Lib.hid (fun W hb => by
        obtain ⟨b', o', hk1', hAe', hB', hcc'⟩ := (HR.out.below hb).at Cl.cells 4 (fun _ => rfl) (by omega) i hlt
        rw [hAe] at hAe'
        injection hAe' with hAe'
        injection hAe' with h1 h2
        subst h1
        subst h2
        exact hcc' 3 _ (by omega) rfl)
      clear hcc
      have HX := Lib.hid (HOK.out cs[i] (List.getElem_mem hk1)).2.1
      have HV2 : Hid (((cs[i].ls.drop 0).any ask || (cs.drop (i + 1)).any (fun y => y.ls.any ask)) = v) := Lib.hid (by rw [← HV.out]; exact (any_drop (fun y : Cl => y.ls.any ask) cs i hk1).symm)
      subst hAe
      generalize cs[i] = x at *
      obtain ⟨⟨hp, hA, hn, hc, ho, hes⟩, B, m, d, ls⟩ := x
      dsimp only at HC3 HX HV2
      have hxl : ls.length = m := by have := HX.out.1; rw [lcells_length] at this; omega
      have hxnb := HX.out.2.1
      have HXL := Lib.hid hxl
      clear hxl HV
      go_upto_region 5 with (fail)
      clear f0
      generalize hwo : wr = wo at *
      clear hwo
      go_loopg [6] m (fun gj u6 wr => ∃ j : Nat, u6 = .int .i64 j ∧ j ≤ m ∧ Hid (gj = m - j) ∧ Hid (Below R w wr) ∧ Hid (Blk wr R 24 [.slice (some ⟨b, o, none⟩) n c]) ∧ Hid (((ls.drop j).any ask || (cs.drop (i + 1)).any (fun y => y.ls.any ask)) = v))
      case atStart => exact ⟨0, rfl, Nat.zero_le _, Lib.hid (by omega), HB, H1, HV2⟩
      case round =>
        clear HB H1 HV2
        obtain ⟨j, rfl, hj, HGJ, HB, H1, HV⟩ := hrel
        have hsr : R ≤ wr.heap.size := by have := HB.out.size; rw [HRR.out] at this; exact this
        have f0 := (H1.out.cell 0).trans rfl
        have c3 := HC3.out wr HB.out
        by_cases hlj : j < m
        · obtain ⟨b2, o2, hj1, rfl, hB2, hcc⟩ := ((HRR.out ▸ HX.out : Rd w R 14 B m (lcells ls)).below HB.out).at Li.cells 14 (fun _ => rfl) (by omega) j hlj
          have HS : Hid (v = ((ask ls[j] || (ls.drop (j + 1)).any ask) || (cs.drop (i + 1)).any (fun y => y.ls.any ask))) := Lib.hid (by rw [← HV.out, any_drop ask ls j hj1])
          have HQ := Lib.hid (HAS.out ls[j])
          clear HV
          generalize ls[j] = y at *
          generalize ask y = q at *
          obtain ⟨xk, ⟨xp, xA, xn, xc, xo, xes⟩, xop, ⟨xlk, xli, xlt, xlo⟩, ⟨xrk, xri, xrt, xro⟩, xof⟩ := y
          have d0 := hcc 0 _ (by omega) rfl
          have d1 := hcc 1 _ (by omega) rfl
          have d2 := hcc 2 _ (by omega) rfl
          have d3 := hcc 3 _ (by omega) rfl
          have d4 := hcc 4 _ (by omega) rfl
          have d5 := hcc 5 _ (by omega) rfl
          have d6 := hcc 6 _ (by omega) rfl
          have d7 := hcc 7 _ (by omega) rfl
          have d8 := hcc 8 _ (by omega) rfl
          have d9 := hcc 9 _ (by omega) rfl
          have d10 := hcc 10 _ (by omega) rfl
          have d11 := hcc 11 _ (by omega) rfl
          have d12 := hcc 12 _ (by omega) rfl
          have d13 := hcc 13 _ (by omega) rfl
          clear hcc
          rw [Nat.add_zero] at d0
          dsimp only at HQ d0 d1 d2 d3 d4 d5 d6 d7 d8 d9 d10 d11 d12 d13
          go_upto_region 8 with (fail)
          have hba := (Below.refl wr.heap.size wr).alloc (Nat.le_refl _) (.cells #[.int .i64 xk, .string xp, .slice xA xn xc, .int .i64 xo, .int .i64 xop, .int .i64 xlk, .int .i64 xli, .string xlt, .int .i64 xlo, .int .i64 xrk, .int .i64 xri, .string xrt, .int .i64 xro, .int .i64 xof] 46)
          have L1 := Lib.hid (Blk.new wr 46 [.int .i64 xk, .string xp, .slice xA xn xc, .int .i64 xo, .int .i64 xop, .int .i64 xlk, .int .i64 xli, .string xlt, .int .i64 xlo, .int .i64 xrk, .int .i64 xri, .string xrt, .int .i64 xro, .int .i64 xof])
          have KB := Lib.hid (HB.out.trans (hba.mono hsr))
          have K1 := Lib.hid (H1.out.below hba H1.out.lt)
          clear hba HB H1 f0 c3 d0 d1 d2 d3 d4 d5 d6 d7 d8 d9 d10 d11 d12 d13
          generalize World.alloc _ _ = w2 at *
          generalize wr.heap.size = Z at *
          have g0 := (L1.out.cell 0).trans rfl
          have g1 := (L1.out.cell 1).trans rfl
          by_cases hk : xk = 3
          · have t1 : (xk != 3) = false := by simp [hk]
            have hq : q = false := by rw [HQ.out]; simp [hk]
            have HN : Hid (((ls.drop (j + 1)).any ask || (cs.drop (i + 1)).any (fun y => y.ls.any ask)) = v) := Lib.hid (by rw [HS.out, hq, Bool.false_or])
            clear HS HQ hq hk
            go_wp2
            go_roundg (m - (j + 1))
            case measure => have := HGJ.out; omega
            case rel => exact ⟨j + 1, by go_num, by omega, Lib.hid rfl, KB, K1, HN⟩
          have t1 : (xk != 3) = true := by simpa using hk
          cases hpp : (xp.toList == s.toList) with
          | false =>
            have hq : q = false := by rw [HQ.out, hpp]; simp
            have HN : Hid (((ls.drop (j + 1)).any ask || (cs.drop (i + 1)).any (fun y => y.ls.any ask)) = v) := Lib.hid (by rw [HS.out, hq, Bool.false_or])
            clear HS HQ hq hk
            go_wp2
            go_roundg (m - (j + 1))
            case measure => have := HGJ.out; omega
            case rel => exact ⟨j + 1, by go_num, by omega, Lib.hid rfl, KB, K1, HN⟩
          | true =>
            have hq : q = true := by rw [HQ.out, hpp]; simp [hk]
            have hv : v = true := by rw [HS.out, hq]; rfl
            subst hv
            clear HS HQ hq hk
            go_wp2
            go_ret
            exact ⟨by rfl, by rw [HRR.out]; exact KB.out⟩
        · have HN : Hid ((cs.drop (i + 1)).any (fun y => y.ls.any ask) = v) := Lib.hid (by rw [← HV.out, any_end ask ls j (by have := HXL.out; omega), Bool.false_or])
          clear HV
          go_wp2
          go_roundg (n - (i + 1))
          case measure => have := HG.out; omega
          case rel => exact ⟨i + 1, by go_num, by omega, Lib.hid rfl, HB, H1, HN⟩
    · have hv : v = false := by rw [← HV.out]; exact any_end _ cs i (by have := HL.out; omega)
      subst hv
      clear HV
      go_wp2
      go_ret
      exact ⟨by rfl, by rw [HRR.out]; exact HB.out⟩

set_option maxRecDepth 200000 in
set_option maxHeartbeats 16000000 in
theorem unused_ref (A : Option Addr) (n c : Nat) (cs : List Cl) (i : Nat) (x : Cl) (hi : i < n) (hx : cs[i]? = some x) (w : World) (hr : Rd w w.heap.size 4 A n (ccells cs)) (hok : ∀ x ∈ cs, Cl.ok w x) :
    Calls Tryz.prog 18 #[.agg #[.slice A n c], .int .i64 i] w fun e w' => e = .returned (.bool (unusedB cs i x)) ∧ Below w.heap.size w w' := by
  have hl : cs.length = n := by have := hr.1; rw [ccells_length] at this; omega
  have hnb := hr.2.1
  have HL := Lib.hid hl
  have HR := Lib.hid hr
  have HOK := Lib.hid hok
  have HX := Lib.hid hx
  have HTL : Hid ((cs.take i).length = i) := Lib.hid (by rw [List.length_take]; omega)
  have HKN := Lib.hid (fun W h1 h2 => named_ref A n c cs x.h.p W h1 h2)
  have hxl : x.ls.length = x.n := by
    have hm : x ∈ cs := List.mem_of_getElem? hx
    have := (hok x hm).2.1.1
    rw [lcells_length] at this; omega
  have HV : Hid (unusedB cs i x = (decide (0 < x.n) && (!namedB' cs x.h.p && !((cs.take i).drop 0).any (tellB x.h.p)))) := Lib.hid (by rw [← hxl]; rfl)
  have HTB : Hid (∀ y ∈ cs, tellB x.h.p y = (decide (0 < y.n) && (y.h.p.toList == x.h.p.toList))) := Lib.hid (fun y hy => by
    have hyl : y.ls.length = y.n := by have := (hok y hy).2.1.1; rw [lcells_length] at this; omega
    rw [← hyl]; rfl)
  clear hl hr hok hx hxl
  generalize unusedB cs i x = v at *
  generalize namedB' cs x.h.p = nm at *
  generalize tellB x.h.p = tell at *
  go_enter Tryz.func18, Tryz.ntmps18
  go_upto_region 1 with (fail)
  have hb1 := (Below.refl w.heap.size w).alloc (Nat.le_refl _) (.cells #[.slice A n c] 24)
  have H1 := Lib.hid (Blk.new w 24 [.slice A n c])
  generalize World.alloc _ _ = w1 at *
  generalize hR : w.heap.size = R at *
  have HRR := Lib.hid hR
  clear hR
  have HB1 := Lib.hid hb1
  have hs1 : R < w1.heap.size := H1.out.lt
  clear hb1
  have f0 := (H1.out.cell 0).trans rfl
  obtain ⟨b, o, hk1, hAe, hB, hcc⟩ := (HR.out.below HB1.out).at Cl.cells 4 (fun _ => rfl) (by omega) i hi
  have hxi : cs[i] = x := by
    have := HX.out
    rw [List.getElem?_eq_getElem hk1] at this
    injection this
  rw [hxi] at hcc
  subst hAe
  obtain ⟨⟨hp, hA, hn, hc, ho, hes⟩, B, m, d, ls⟩ := x
  dsimp only at HV HTB HKN
  have c0 := hcc 0 _ (by omega) rfl
  have c1 := hcc 1 _ (by omega) rfl
  have c2 := hcc 2 _ (by omega) rfl
  have c3 := hcc 3 _ (by omega) rfl
  rw [Nat.add_zero] at c0
  dsimp only at c0 c1 c2 c3
  clear hcc
  go_upto_region 2 with (fail)
  have hba := (Below.refl w1.heap.size w1).alloc (Nat.le_refl _) (.cells #[.string hp, .slice hA hn hc, .int .i64 ho, .slice B m d] 37)
  have G1 := Lib.hid (Blk.new w1 37 [.string hp, .slice hA hn hc, .int .i64 ho, .slice B m d])
  have H2 := Lib.hid (H1.out.below hba hs1)
  have HB2 := Lib.hid (HB1.out.trans (hba.mono (Nat.le_of_lt hs1)))
  clear hba HB1 H1 f0 c0 c1 c2 c3
  generalize World.alloc _ _ = w2 at *
  generalize w1.heap.size = Z at *
  have hZ : Z < w2.heap.size := G1.out.lt
  have f0 := (H2.out.cell 0).trans rfl
  have g0 := (G1.out.cell 0).trans rfl
  have g3 := (G1.out.cell 3).trans rfl
  by_cases hm : m = 0
  · have t1 : ((m : Int) == 0) = true := by simp; omega
    have hv : v = false := by rw [HV.out, hm]; rfl
    subst hv
    clear HV hm
    go_wp2
    go_ret
    exact ⟨by rfl, by rw [HRR.out]; exact HB2.out⟩
  have t1 : ((m : Int) == 0) = false := by simp; omega
  have hdm : decide (0 < m) = true := decide_eq_true (by omega)
  have kn := HKN.out w2 ((HRR.out ▸ HR.out : Rd w w.heap.size 4 (some ⟨b, o, none⟩) n (ccells cs)).up (HRR.out ▸ HB2.out) (HRR.out ▸ HB2.out).size) (fun z hz => (HOK.out z hz).up (HRR.out ▸ HB2.out))
  go_wp2_with fail
  refine kn.mono ?_
  rintro e w3 ⟨rfl, hb3⟩
  have HB3 := Lib.hid (HB2.out.trans (hb3.mono (by omega)))
  have H3 := Lib.hid (H2.out.below hb3 H2.out.lt)
  have G3 := Lib.hid (G1.out.below hb3 G1.out.lt)
  clear kn hb3 H2 HB2 G1 f0 g0 g3
  cases nm with
  | true =>
    have hv : v = false := by rw [HV.out, hdm]; rfl
    subst hv
    clear HV
    go_wp2
    go_ret
    exact ⟨by rfl, by rw [HRR.out]; exact HB3.out⟩
  | false =>
  have HV2 : Hid (v = !((cs.take i).drop 0).any tell) := Lib.hid (by rw [HV.out, hdm]; rfl)
  clear HV
  go_upto_region 5 with (fail)
  go_loopg [6] i (fun gk u6 wr => ∃ j : Nat, u6 = .int .i64 j ∧ j ≤ i ∧ Hid (gk = i - j) ∧ Hid (Below R w wr) ∧ Hid (Blk wr R 24 [.slice (some ⟨b, o, none⟩) n c]) ∧ Hid (Blk wr Z 37 [.string hp, .slice hA hn hc, .int .i64 ho, .slice B m d]) ∧ Hid (v = !((cs.take i).drop j).any tell))
  case atStart => exact ⟨0, rfl, Nat.zero_le _, Lib.hid (by omega), HB3, H3, G3, HV2⟩
  case round =>
    clear HB3 H3 G3 HV2
    obtain ⟨j, rfl, hj, HG, HB, H1, G1, HV⟩ := hrel
    have hsr : R ≤ wr.heap.size := by have := HB.out.size; rw [HRR.out] at this; exact this
    by_cases hlt : j < i
    · have hjn : j < n := by omega
      obtain ⟨b2, o2, hk2, hAe2, hB2, hcc⟩ := (HR.out.below HB.out).at Cl.cells 4 (fun _ => rfl) (by omega) j hjn
      injection hAe2 with hAe2
      injection hAe2 with e1 e2
      subst e1
      subst e2
      have HS : Hid (v = !(tell cs[j] || ((cs.take i).drop (j + 1)).any tell)) := Lib.hid (by
        rw [HV.out, any_drop tell (cs.take i) j (by rw [HTL.out]; exact hlt)]
        simp only [List.getElem_take])
      have HQ := Lib.hid (HTB.out cs[j] (List.getElem_mem hk2))
      generalize cs[j] = y at *
      generalize tell y = q at *
      obtain ⟨⟨yp, yA, yn, yc, yo, yes⟩, yB, ym, yd, yls⟩ := y
      have c0 := hcc 0 _ (by omega) rfl
      have c3 := hcc 3 _ (by omega) rfl
      rw [Nat.add_zero] at c0
      dsimp only at c0 c3 HQ
      clear hcc HV
      have f0 := (H1.out.cell 0).trans rfl
      have g0 := (G1.out.cell 0).trans rfl
      go_upto_region 7 with (fail)
      by_cases hym : 0 < ym
      rotate_left
      · have t2 : decide (0 < (ym : Int)) = false := decide_eq_false (by omega)
        have hq : q = false := by rw [HQ.out, decide_eq_false hym]; rfl
        have HN : Hid (v = !((cs.take i).drop (j + 1)).any tell) := Lib.hid (by rw [HS.out, hq, Bool.false_or])
        go_quiet (fail)
        clear c0 c3 f0 g0 HS HQ hq hym
        have KB := Lib.hid (HB.out.trans ((below_drewN wr nq).mono hsr))
        have K1 := Lib.hid (H1.out.drewN nq)
        have K2 := Lib.hid (G1.out.drewN nq)
        clear HB H1 G1
        generalize World.drewN _ _ = w7 at *
        go_wp2
        go_roundg (i - (j + 1))
        case measure => have := HG.out; omega
        case rel => exact ⟨j + 1, by go_num, by omega, Lib.hid rfl, KB, K1, K2, HN⟩
      have t2 : decide (0 < (ym : Int)) = true := decide_eq_true (by omega)
      cases hpp : (yp.toList == hp.toList) with
      | false =>
        have hq : q = false := by rw [HQ.out, hpp]; simp
        have HN : Hid (v = !((cs.take i).drop (j + 1)).any tell) := Lib.hid (by rw [HS.out, hq, Bool.false_or])
        go_quiet (fail)
        clear c0 c3 f0 g0 HS HQ hq hym
        have KB := Lib.hid (HB.out.trans ((below_drewN wr nq).mono hsr))
        have K1 := Lib.hid (H1.out.drewN nq)
        have K2 := Lib.hid (G1.out.drewN nq)
        clear HB H1 G1
        generalize World.drewN _ _ = w7 at *
        go_wp2
        go_roundg (i - (j + 1))
        case measure => have := HG.out; omega
        case rel => exact ⟨j + 1, by go_num, by omega, Lib.hid rfl, KB, K1, K2, HN⟩
      | true =>
        have hq : q = true := by rw [HQ.out, hpp]; simp [hym]
        have hv : v = false := by rw [HS.out, hq]; rfl
        subst hv
        go_quiet (fail)
        clear c0 c3 f0 g0 HS HQ hq hym
        have KB := Lib.hid (HB.out.trans ((below_drewN wr nq).mono hsr))
        clear HB H1 G1
        generalize World.drewN _ _ = w7 at *
        go_wp2
        go_ret
        exact ⟨by rfl, by rw [HRR.out]; exact KB.out⟩
    · have hv : v = true := by rw [HV.out, any_end tell (cs.take i) j (by have := HTL.out; omega)]; rfl
      subst hv
      clear HV
      go_wp2
      go_ret
      exact ⟨by rfl, by rw [HRR.out]; exact HB.out⟩
end Go.Proofs.YtjcgkplphiedjaaGreat
