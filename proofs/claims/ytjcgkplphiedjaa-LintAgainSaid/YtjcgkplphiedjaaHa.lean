/- All findings in a program: the program's Look. -/
import Derived.Test.YtjcgkplphiedjaaGu
import Derived.Test.YtjcgkplphiedjaaGw
import Derived.Test.YtjcgkplphiedjaaGy
import Derived.Test.YtjcgkplphiedjaaGz
namespace Go.Proofs.Ytjcgkplphiedjaa
open Go.RowKit Go.Sort Go.Maps Go.WideMaps

/-- .. with the map of the predicates that are used. -/
structure LkM (w wq : World) (R Z mb K : Nat) (f : ByteArray → Option Value) (pr cl : List Value) (v : Value) (O : List Fd) : Prop where
  s : LkS w wq R Z pr cl v O
  m : Mp wq mb K f
section
variable {w wq wq' : World} {R Z mb K : Nat} {f : ByteArray → Option Value} {pr cl : List Value} {v v' : Value} {O N : List Fd}
theorem LkM.up (h : LkM w wq R Z mb K f pr cl v O) (hb : Below wq.heap.size wq wq') : LkM w wq' R Z mb K f pr cl v O := ⟨h.s.up hb, h.m.below hb h.m.lt⟩
theorem LkM.one (h : LkM w wq R Z mb K f pr cl v O) (x : Fd) (ho : wq'.ownsRow R 51 5 v' (O.length + 1) (fcells O ++ x.cells)) (hg : (wq.alloc (.cells x.cells.toArray 51)).grownBy wq' v.ownBlock) : LkM w wq' R Z mb K f pr cl v' (O ++ [x]) :=
  ⟨h.s.one x ho hg, (h.m.alloc _).grown hg (h.m.ne h.s.o)⟩
theorem LkM.more (h : LkM w wq R Z mb K f pr cl v O) (ho : wq'.ownsRow R 51 5 v' (O.length + N.length) (fcells O ++ fcells N)) (hg : wq.grownBy wq' v.ownBlock) : LkM w wq' R Z mb K f pr cl v' (O ++ N) :=
  ⟨h.s.more ho hg, h.m.grown hg (h.m.ne h.s.o)⟩
theorem LkM.put (h : LkM w wq R Z mb K f pr cl v O) (hR : R ≤ mb) {K' : Nat} {f' : ByteArray → Option Value} (hm : Mp wq' mb K' f') (hg : wq.grownBy wq' (some mb)) : LkM w wq' R Z mb K' f' pr cl v O :=
  ⟨⟨below_map h.s.b h.s.hr hg hR, h.s.p.map h.m hg, h.s.z.map h.m hg, h.s.o.kept hg (own_not_map h.s.o h.m), Nat.le_trans h.s.hr hg.size⟩, hm⟩
end

set_option maxRecDepth 200000 in
set_option maxHeartbeats 32000000 in
theorem look_any (A : Option Addr) (n c : Nat) (cs : List Cl) (w : World) (hr : Rd w w.heap.size 4 A n (ccells cs)) (hok : ∀ x ∈ cs, Cl.ok w x) (hf : ∀ x ∈ cs, x.fines) (hin : ∀ x ∈ cs, x.ints) :
    Calls Try.prog 21 #[.agg #[.slice A n c]] w fun e w' => ∃ A' c', e = .returned (.slice A' (lookF cs).length c') ∧ w'.ownsRow w.heap.size 51 5 (.slice A' (lookF cs).length c') (lookF cs).length (fcells (lookF cs)) ∧ Below w.heap.size w w' := by
  obtain ⟨i0, hi, hz0, hz1, hz2⟩ := info_parts Try.info51
  have hl : cs.length = n := by have := hr.1; rw [ccells_length] at this; omega
  have hnb := hr.2.1
  have HL := Lib.hid hl
  have HR := Lib.hid hr
  have HOK := Lib.hid hok
  have HFI := Lib.hid hf
  have HIN := Lib.hid hin
  have HKW := Lib.hid (fun W h1 h2 => wellP_any A n c cs W h1 h2 hf)
  have HV : Hid (lookF cs = if wellE cs = 0 then lookN cs n else []) := Lib.hid (by rw [← hl]; rfl)
  have HWP : Hid (wellE cs = 0 → n ≤ 512 ∧ ∀ x ∈ cs, clauseE x = 0) := Lib.hid (fun h => by obtain ⟨h1, h2⟩ := wellE_parts h; exact ⟨by omega, h2⟩)
  clear hl hr hok hf hin
  generalize lookF cs = F at *
  generalize wellE cs = we at *
  go_enter Try.func21, Try.ntmps21
  go_upto_region 1 with (fail)
  have hb1 := (Below.refl w.heap.size w).alloc (Nat.le_refl _) (.cells #[.slice A n c] 37)
  have H1 := Lib.hid (Blk.new w 37 [.slice A n c])
  generalize World.alloc _ _ = w1 at *
  generalize hR : w.heap.size = R at *
  have HRR := Lib.hid hR
  clear hR
  have HB1 := Lib.hid hb1
  have hs1 : R < w1.heap.size := H1.out.lt
  clear hb1
  have HRW : Hid (∀ W, Below R w W → Rd W W.heap.size 4 A n (ccells cs)) := Lib.hid (fun W hb => HR.out.up hb (HRR.out ▸ hb.size))
  have HOW : Hid (∀ W, Below R w W → ∀ x ∈ cs, Cl.ok W x) := Lib.hid (fun W hb x hx => (HOK.out x hx).up (HRR.out ▸ hb))
  have f0 := (H1.out.cell 0).trans rfl
  have kw := HKW.out w1 (HRW.out _ HB1.out) (HOW.out _ HB1.out)
  go_wp2_with fail
  refine kw.mono ?_
  rintro e w2 ⟨rfl, hb2⟩
  have HB2 := Lib.hid (HB1.out.trans (hb2.mono (Nat.le_of_lt hs1)))
  have H2 := Lib.hid (H1.out.below hb2 hs1)
  have hs2 : R < w2.heap.size := H2.out.lt
  clear kw hb2 H1 HB1 f0 HKW hs1
  by_cases hwe : we = 0
  rotate_left
  · have t1 : (we != 0) = true := by simpa using hwe
    have hF : F = [] := by rw [HV.out, if_neg hwe]
    subst hF
    clear HV HWP hwe
    go_wp2
    go_ret
    exact ⟨none, 0, by rfl, World.ownsRow_nil _ _ _ _, by rw [HRR.out]; exact HB2.out⟩
  subst hwe
  obtain ⟨hn512, hce⟩ := HWP.out rfl
  have HCE := Lib.hid hce
  have HFW : Hid (∀ W, Below R w W → Fit' W cs) := Lib.hid (fun W hb x hx => ⟨HOW.out W hb x hx, HFI.out x hx, HIN.out x hx, hce x hx⟩)
  have HV2 : Hid (F = lookN cs n) := Lib.hid (by rw [HV.out, if_pos rfl])
  have HFL : Hid (∀ k, k ≤ n → ((cs.take k).flatMap Cl.ls).length ≤ 16 * k) := Lib.hid (fun k hk => by
    have h1 := flat_le Cl.ls 16 (cs.take k) (fun x hx => (clause_small (hce x (List.mem_of_mem_take hx))).2)
    rw [List.length_take] at h1
    have : min k cs.length ≤ k := Nat.min_le_left _ _
    have h2 := Nat.mul_le_mul_right 16 this
    omega)
  clear HV HWP hce
  have hmm := @run_makeMap Try.prog
  go_upto_region 5 with (fail)
  have hba := (Below.refl w2.heap.size w2).alloc (Nat.le_refl _) (.map #[] 0)
  have HM1 : Hid (Mp (w2.alloc (.map #[] 0)) w2.heap.size 0 (intF [])) := Lib.hid ((Mp.made w2).congr (fun s => rfl))
  have H3 := Lib.hid (H2.out.below hba H2.out.lt)
  have HB3 := Lib.hid (HB2.out.trans (hba.mono (Nat.le_of_lt hs2)))
  clear hba H2 HB2 hmm
  generalize World.alloc _ _ = w3 at *
  generalize w2.heap.size = mb at *
  have f0 := (H3.out.cell 0).trans rfl
  go_upto_region 6 with (fail)
  clear f0
  have HC0 : Hid (LCnt [] ((cs.take 0).flatMap Cl.ls)) := Lib.hid LCnt.nil
  go_loopg [23] n (fun gk u23 wr => ∃ (i K : Nat) (mm : List (ByteArray × Int)), u23 = .int .i64 i ∧ i ≤ n ∧ K ≤ 16 * i ∧ Hid (gk = n - i) ∧ Hid (Below R w wr) ∧ Hid (Blk wr R 37 [.slice A n c]) ∧ Hid (Mp wr mb K (intF mm)) ∧ Hid (LCnt mm ((cs.take i).flatMap Cl.ls)))
  case atStart => exact ⟨0, 0, [], rfl, Nat.zero_le _, Nat.zero_le _, Lib.hid (by omega), HB3, H3, HM1, HC0⟩
  case round =>
    clear HB3 H3 HM1 HC0
    obtain ⟨i, K, mm, rfl, hin, hK, HG, HB, HP, HM, HC⟩ := hrel
    have hsr : R ≤ wr.heap.size := by have := HB.out.size; rw [HRR.out] at this; exact this
    by_cases hlt : i < n
    · obtain ⟨b, o, hk1, rfl, hB, hcc⟩ := (HR.out.below HB.out).at Cl.cells 4 (fun _ => rfl) (by omega) i hlt
      have hm : cs[i] ∈ cs := List.getElem_mem hk1
      have HXO := Lib.hid (HOK.out _ hm).2.1
      have HXF := Lib.hid (HFI.out _ hm).2
      have HTS : Hid ((cs.take (i + 1)).flatMap Cl.ls = (cs.take i).flatMap Cl.ls ++ cs[i].ls) := Lib.hid (by rw [take_snoc cs i hk1, List.flatMap_append]; simp)
      have h16 := HFL.out (i + 1) (by omega)
      rw [HTS.out, List.length_append] at h16
      have h16b := (clause_small (HCE.out _ hm)).2
      clear hm
      generalize cs[i] = x at *
      generalize hL1 : (cs.take (i + 1)).flatMap Cl.ls = L1 at *
      have HL1 := Lib.hid hL1
      clear hL1
      generalize (cs.take i).flatMap Cl.ls = L0 at *
      obtain ⟨⟨hp, hA, hn, hc, ho, hes⟩, B, m, d, ls⟩ := x
      dsimp only at HXO HXF HTS h16 h16b
      have hlm : ls.length = m := by have := HXO.out.1; rw [lcells_length] at this; omega
      have HLM := Lib.hid hlm
      have hm16 : m ≤ 16 := by omega
      have h0m : L0.length + m ≤ 16 * (i + 1) := by omega
      have d0 := hcc 0 _ (by omega) rfl
      have d1 := hcc 1 _ (by omega) rfl
      have d2 := hcc 2 _ (by omega) rfl
      have d3 := hcc 3 _ (by omega) rfl
      rw [Nat.add_zero] at d0
      dsimp only at d0 d1 d2 d3
      clear hcc hlm h16 h16b
      go_upto_region 8 with (fail)
      have hba := (Below.refl wr.heap.size wr).alloc (Nat.le_refl _) (.cells #[.string hp, .slice hA hn hc, .int .i64 ho, .slice B m d] 45)
      have Z1 := Lib.hid (Blk.new wr 45 [.string hp, .slice hA hn hc, .int .i64 ho, .slice B m d])
      have KB := Lib.hid (HB.out.trans (hba.mono hsr))
      have KP := Lib.hid (HP.out.below hba HP.out.lt)
      have KM := Lib.hid (HM.out.below hba HM.out.lt)
      clear hba HB HP HM d0 d1 d2 d3
      generalize World.alloc _ _ = w4 at *
      generalize wr.heap.size = Z at *
      have g3 := (Z1.out.cell 3).trans rfl
      go_upto_region 9 with (fail)
      clear g3 Z1
      have KC : Hid (LCnt mm (L0 ++ ls.take 0)) := Lib.hid (by rw [List.take_zero, List.append_nil]; exact HC.out)
      clear HC
      generalize hwo : wr = wo at *
      clear hwo
      go_loopg [30] m (fun gq u30 wr => ∃ (j K : Nat) (mm : List (ByteArray × Int)), u30 = .int .i64 j ∧ j ≤ m ∧ K ≤ 16 * i + j ∧ Hid (gq = m - j) ∧ Hid (Below R w wr) ∧ Hid (Blk wr R 37 [.slice (some ⟨b, o, none⟩) n c]) ∧ Hid (Mp wr mb K (intF mm)) ∧ Hid (LCnt mm (L0 ++ ls.take j)))
      case atStart => exact ⟨0, K, mm, rfl, Nat.zero_le _, by omega, Lib.hid (by omega), KB, KP, KM, KC⟩
      case round =>
        clear KB KP KM KC hK
        obtain ⟨j, K, mm, rfl, hj, hK, HGJ, HB, HP, HM, HC⟩ := hrel
        have hsr2 : R ≤ wr.heap.size := by have := HB.out.size; rw [HRR.out] at this; exact this
        by_cases hlj : j < m
        · obtain ⟨b2, o2, hk2, rfl, hB2, hcc⟩ := (HXO.out.below (HRR.out ▸ HB.out)).at Li.cells 14 (fun _ => rfl) (by omega) j hlj
          have HTJ : Hid (L0 ++ ls.take (j + 1) = (L0 ++ ls.take j) ++ [ls[j]]) := Lib.hid (by rw [take_snoc ls j hk2, List.append_assoc])
          have HPF := Lib.hid (HXF.out _ (List.getElem_mem hk2)).1.1
          have hlen : (L0 ++ ls.take j).length ≤ 16 * (i + 1) := by rw [List.length_append, List.length_take]; omega
          generalize hLN : L0 ++ ls.take (j + 1) = LN at *
          have HLN := Lib.hid hLN
          clear hLN
          generalize L0 ++ ls.take j = LO at *
          generalize ls[j] = y at *
          obtain ⟨xk, ⟨xp, xA, xn, xc, xo, xes⟩, xop, ⟨xlk, xli, xlt, xlo⟩, ⟨xrk, xri, xrt, xro⟩, xof⟩ := y
          have c0 := hcc 0 _ (by omega) rfl
          have c1 := hcc 1 _ (by omega) rfl
          have c2 := hcc 2 _ (by omega) rfl
          have c3 := hcc 3 _ (by omega) rfl
          have c4 := hcc 4 _ (by omega) rfl
          have c5 := hcc 5 _ (by omega) rfl
          have c6 := hcc 6 _ (by omega) rfl
          have c7 := hcc 7 _ (by omega) rfl
          have c8 := hcc 8 _ (by omega) rfl
          have c9 := hcc 9 _ (by omega) rfl
          have c10 := hcc 10 _ (by omega) rfl
          have c11 := hcc 11 _ (by omega) rfl
          have c12 := hcc 12 _ (by omega) rfl
          have c13 := hcc 13 _ (by omega) rfl
          clear hcc
          rw [Nat.add_zero] at c0
          dsimp only at HPF c0 c1 c2 c3 c4 c5 c6 c7 c8 c9 c10 c11 c12 c13
          go_upto_region 11 with (fail)
          have hba := (Below.refl wr.heap.size wr).alloc (Nat.le_refl _) (.cells #[.int .i64 xk, .string xp, .slice xA xn xc, .int .i64 xo, .int .i64 xop, .int .i64 xlk, .int .i64 xli, .string xlt, .int .i64 xlo, .int .i64 xrk, .int .i64 xri, .string xrt, .int .i64 xro, .int .i64 xof] 61)
          have Y1 := Lib.hid (Blk.new wr 61 [.int .i64 xk, .string xp, .slice xA xn xc, .int .i64 xo, .int .i64 xop, .int .i64 xlk, .int .i64 xli, .string xlt, .int .i64 xlo, .int .i64 xrk, .int .i64 xri, .string xrt, .int .i64 xro, .int .i64 xof])
          have KB := Lib.hid (HB.out.trans (hba.mono hsr2))
          have KP := Lib.hid (HP.out.below hba HP.out.lt)
          have KM := Lib.hid (HM.out.below hba HM.out.lt)
          clear hba HB HP HM c0 c1 c2 c3 c4 c5 c6 c7 c8 c9 c10 c11 c12 c13
          generalize World.alloc _ _ = w5 at *
          generalize wr.heap.size = V at *
          have f0 := (Y1.out.cell 0).trans rfl
          have f1 := (Y1.out.cell 1).trans rfl
          cases hk : (xk == 3) with
          | true =>
            have t1 : (xk != 3) = false := by simp only [bne, hk]; rfl
            have HN : Hid (LCnt mm LN) := Lib.hid (by rw [HTJ.out]; exact LCnt.skip (l := ⟨xk, ⟨xp, xA, xn, xc, xo, xes⟩, xop, ⟨xlk, xli, xlt, xlo⟩, ⟨xrk, xri, xrt, xro⟩, xof⟩) HC.out hk)
            clear HC HTJ
            go_wp2
            go_roundg (m - (j + 1))
            case measure => have := HGJ.out; omega
            case rel => exact ⟨j + 1, K, mm, by go_num, by omega, by omega, Lib.hid rfl, KB, KP, KM, Lib.hid (by rw [HLN.out]; exact HN.out)⟩
          | false =>
            have t1 : (xk != 3) = true := by simp only [bne, hk]; rfl
            have HN : Hid (LCnt ((xp, getI mm xp + 1) :: mm) LN) := Lib.hid (by rw [HTJ.out]; exact LCnt.add (l := ⟨xk, ⟨xp, xA, xn, xc, xo, xes⟩, xop, ⟨xlk, xli, xlt, xlo⟩, ⟨xrk, xri, xrt, xro⟩, xof⟩) HC.out hk)
            obtain ⟨hg0, hg1⟩ := HC.out.le xp
            have hg2 : getI mm xp ≤ 16 * 513 := by omega
            have kl : (Instr.lookup 66 (.map (some mb)) (.string xp) false).run Try.prog w5 = .ok (.int .i64 (getI mm xp)) w5 := by
              have h := mp_lookup KM.out mapN (zeroI _) xp HPF.out
              rw [intF_get] at h; exact h
            have HNP : Hid (∀ u, (if u = xp then some (Value.int .i64 (getI mm xp + 1)) else intF mm u) = intF ((xp, getI mm xp + 1) :: mm) u) := Lib.hid (intF_put mm xp _)
            clear HC HTJ hg1
            generalize getI mm xp = g at *
            go_wp2_with (at_mapUpdate; go_must (refine wpList_update_mp rfl _ _ _ 66 3 rfl mapN mb K _ rfl KM.out (by unfold maxLen; omega) xp rfl HPF.out _ rfl ?_))
            intro w8 hm8 hg8
            have hs5 : R ≤ w5.heap.size := by have := KB.out.size; rw [HRR.out] at this; exact this
            have NM : Hid (Mp w8 mb (K + 1) (intF ((xp, g + 1) :: mm))) := Lib.hid (Mp.congr hm8 (fun u => HNP.out u))
            have NB := Lib.hid (below_map KB.out hs5 hg8 (by omega))
            have NP := Lib.hid (KP.out.map KM.out hg8)
            clear hm8 hg8 KB KP KM kl HNP f0 f1 Y1
            go_wp2
            go_roundg (m - (j + 1))
            case measure => have := HGJ.out; omega
            case rel => exact ⟨j + 1, K + 1, _, by go_num, by omega, by omega, Lib.hid rfl, NB, NP, NM, Lib.hid (by rw [HLN.out]; exact HN.out)⟩
        · have HN : Hid (LCnt mm L1) := Lib.hid (by rw [HTS.out]; have := HC.out; rwa [List.take_of_length_le (by have := HLM.out; omega)] at this)
          clear HC
          go_wp2
          go_roundg (n - (i + 1))
          case measure => have := HG.out; omega
          case rel => exact ⟨i + 1, K, mm, by go_num, by omega, by omega, Lib.hid rfl, HB, HP, HM, Lib.hid (by rw [HL1.out]; exact HN.out)⟩
    · obtain rfl : i = n := by omega
      have HTO : Hid (Told mm cs 0) := Lib.hid (Told.start (by have := HC.out; rwa [List.take_of_length_le (by have := HL.out; omega)] at this))
      have f0 := (HP.out.cell 0).trans rfl
      clear HC HFL HG
      go_upto_region 16 with (fail)
      have HU : Hid (wr.ownsRow R 51 5 (.slice none 0 0) (lookN cs 0).length (fcells (lookN cs 0))) := Lib.hid (World.ownsRow_nil _ _ _ _)
      clear f0 hlt hin
      have hmbR : R ≤ mb := by omega
      have hK0 : K ≤ 16 * 512 + 0 := by omega
      generalize hni : i = n at *
      clear hni
      generalize hwo : wr = wo at *
      clear hwo hsr
      go_loopg [3, 48] n (fun gk u3 u48 wr => ∃ (i K : Nat) (mm : List (ByteArray × Int)), u48 = .int .i64 i ∧ i ≤ n ∧ K ≤ 16 * 512 + i ∧ Hid (gk = n - i) ∧ Hid (Below R w wr) ∧ Hid (Blk wr R 37 [.slice A n c]) ∧ Hid (Mp wr mb K (intF mm)) ∧ Hid (Told mm cs i) ∧ Hid (wr.ownsRow R 51 5 u3 (lookN cs i).length (fcells (lookN cs i))))
      case atStart => exact ⟨0, K, mm, rfl, Nat.zero_le _, hK0, Lib.hid (by omega), HB, HP, HM, HTO, HU⟩
      case round =>
        clear HB HP HM HTO HU hK0 hK
        obtain ⟨i, K, mm, rfl, hin, hK, HG, HB, HP, HM, HTO, HU⟩ := hrel
        have hsr : R ≤ wr.heap.size := by have := HB.out.size; rw [HRR.out] at this; exact this
        have f0 := (HP.out.cell 0).trans rfl
        by_cases hlt : i < n
        · obtain ⟨b, o, hk1, rfl, hB, hcc⟩ := (HR.out.below HB.out).at Cl.cells 4 (fun _ => rfl) (by omega) i hlt
          have HXI : Hid (cs[i]? = some cs[i]) := Lib.hid (List.getElem?_eq_getElem hk1)
          have HNX : Hid (lookN cs (i + 1) = lookN cs i ++ findF cs i cs[i]) := Lib.hid (lookN_succ cs i hk1)
          have hm : cs[i] ∈ cs := List.getElem_mem hk1
          have HXE := Lib.hid (HCE.out _ hm)
          have HXM := Lib.hid hm
          have hO0 : (lookN cs i).length ≤ 79360 := by have := lookN_len HCE.out i; omega
          have HTA : Hid (0 < cs[i].ls.length → Told ((cs[i].h.p, -1) :: mm) cs (i + 1)) := Lib.hid (fun h => HTO.out.put hk1 h)
          have HTB : Hid ((0 < cs[i].ls.length → getI mm cs[i].h.p ≠ 0) → Told mm cs (i + 1)) := Lib.hid (fun h => HTO.out.same hk1 h)
          have HUB : Hid (unusedB cs i cs[i] = (decide (0 < cs[i].ls.length) && (getI mm cs[i].h.p == 0))) := Lib.hid (HTO.out.unused cs[i])
          clear hm HTO
          generalize cs[i] = x at *
          have HFD : Hid (findF cs i x = othersF cs i x ++ (neverF i x ++ (singlesF i x ++ (idlesL i x.ls ++ unusedF cs i x)))) := Lib.hid rfl
          have HA1 : Hid (∀ k, atO x = some k → neverF i x = [⟨3, i, -1, offAt x k, noS⟩] ∧ k < x.ls.length) := Lib.hid (fun k h => ⟨by unfold neverF; rw [h], by have := firstI_some _ _ _ h; omega⟩)
          have HA2 : Hid (atO x = none → neverF i x = []) := Lib.hid (fun h => by unfold neverF; rw [h])
          have HU1 : Hid (unusedB cs i x = true → unusedF cs i x = [⟨6, i, -1, x.h.o, x.h.p⟩]) := Lib.hid (fun h => by unfold unusedF; rw [if_pos h])
          have HU2 : Hid (unusedB cs i x = false → unusedF cs i x = []) := Lib.hid (fun h => by unfold unusedF; rw [if_neg (by rw [h]; simp)])
          have hl1 := othersF_len cs i x
          have hl2 := neverF_len i x
          have hl3a := singlesL_len x.tot i x.tot
          obtain ⟨hs136, hs16⟩ := clause_small HXE.out
          have hl3 : (singlesF i x).length ≤ 136 := Nat.le_trans hl3a hs136
          have HKT := Lib.hid (fun W (hb : Below R w W) => others_any (some ⟨b, o, none⟩) n c cs i x hlt HXI.out W (HRW.out W hb) (HFW.out W hb))
          have HKA := Lib.hid (fun W (hb : Below R w W) => fault_any x W (HOW.out W hb x HXM.out) (HFI.out x HXM.out) (clause_sides HXE.out))
          have HKS := Lib.hid (fun W (hb : Below R w W) => singles_any x i W (HOW.out W hb x HXM.out) (by omega) (var_size HXE.out) (tot_fine (HFI.out x HXM.out)))
          have HKV := Lib.hid (fun y (hy : y ∈ x.ls) W => compared_any y W ((HFI.out x HXM.out).2 y hy) (clause_sides HXE.out y hy))
          have HXO := Lib.hid (HOK.out x HXM.out).2.1
          have HPF := Lib.hid (HFI.out x HXM.out).1.1
          have HOA : Hid (∀ k, (h : k < x.ls.length) → offAt x k = x.ls[k].o) := Lib.hid (fun k h => by unfold offAt; rw [List.getElem?_eq_getElem h]; rfl)
          clear HXE HXM HXI
          generalize hON : lookN cs (i + 1) = ON at *
          have HON := Lib.hid hON
          clear hON
          generalize lookN cs i = O0 at *
          generalize findF cs i x = FF at *
          generalize othersF cs i x = F1 at *
          generalize neverF i x = F2 at *
          generalize singlesF i x = F3 at *
          generalize unusedF cs i x = F5 at *
          generalize atO x = ao at *
          generalize unusedB cs i x = ub at *
          generalize hofs : offAt x = ofs at *
          clear hofs hl3a
          obtain ⟨⟨hp, hA, hn, hc, ho, hes⟩, B, m, d, ls⟩ := x
          dsimp only [Cl.cells] at HFD HA1 HU1 HKT HKA HKS HKV HXO HOA hs16 HTA HTB HUB HPF
          have hlm : ls.length = m := by have := HXO.out.1; rw [lcells_length] at this; omega
          have HLM := Lib.hid hlm
          have hm16 : m ≤ 16 := by omega
          rw [hlm] at HTA HTB HUB
          have d0 := hcc 0 _ (by omega) rfl
          have d1 := hcc 1 _ (by omega) rfl
          have d2 := hcc 2 _ (by omega) rfl
          have d3 := hcc 3 _ (by omega) rfl
          rw [Nat.add_zero] at d0
          dsimp only at d0 d1 d2 d3
          clear hcc hlm hs16
          go_upto_region 18 with (fail)
          have hba := (Below.refl wr.heap.size wr).alloc (Nat.le_refl _) (.cells #[.string hp, .slice hA hn hc, .int .i64 ho, .slice B m d] 45)
          have S0 : Hid (LkM w (wr.alloc (.cells #[.string hp, .slice hA hn hc, .int .i64 ho, .slice B m d] 45)) R wr.heap.size mb K (intF mm) [.slice (some ⟨b, o, none⟩) n c] [.string hp, .slice hA hn hc, .int .i64 ho, .slice B m d] u3 O0) := Lib.hid ⟨⟨HB.out.trans (hba.mono hsr), HP.out.below hba HP.out.lt, Blk.new wr 45 [.string hp, .slice hA hn hc, .int .i64 ho, .slice B m d], own_below HU.out hba, Nat.le_trans hsr hba.size⟩, HM.out.below hba HM.out.lt⟩
          clear hba HB HP HU HM f0 d0 d1 d2 d3 hsr hB
          generalize World.alloc _ _ = w3 at *
          generalize wr.heap.size = Z at *
          have f0 := (S0.out.s.p.cell 0).trans rfl
          have kt := HKT.out w3 S0.out.s.b
          go_wp2_with fail
          refine kt.mono ?_
          rintro e w4 ⟨As, cs7, rfl, hrs, hAs, hb4⟩
          have S1 := Lib.hid (S0.out.up hb4)
          have HRs := Lib.hid hrs
          have HAs := Lib.hid hAs
          clear kt hb4 S0 f0 HKT hrs hAs
          have hownb := S1.out.s.o
          have hrb := S1.out.s.hr
          go_wp2_with (at_builtin; go_must (refine wpList_append_all rfl _ _ 48 rfl R 51 i0 _ 5 48 Try.underlying48 hi hz0 hz1 hz2 rfl (by decide) _ _ _ rfl hownb As F1.length cs7 (fcells F1) rfl HAs.out HRs.out (fds_one _) (by unfold maxLen; omega) (by omega) hrb ?_))
          intro v9 w9 hown9 hg9
          have S2 := Lib.hid (S1.out.more hown9 hg9)
          clear hown9 hg9 hownb hrb
          have hO1 : (O0 ++ F1).length ≤ 79361 := by rw [List.length_append]; omega
          generalize hq1 : O0 ++ F1 = O1 at *
          have HQ1 := Lib.hid hq1
          clear hq1 hO0 S1 HRs HAs
          have g0 := (S2.out.s.z.cell 0).trans rfl
          have g1 := (S2.out.s.z.cell 1).trans rfl
          have g2 := (S2.out.s.z.cell 2).trans rfl
          have g3 := (S2.out.s.z.cell 3).trans rfl
          have ka := HKA.out w9 S2.out.s.b
          go_wp2_with fail
          refine ka.mono ?_
          rintro e w5 ⟨rfl, hb5⟩
          have S3 := Lib.hid (S2.out.up hb5)
          clear ka hb5 S2 g0 g1 g2 g3 HKA
          go_upto_if 62 with (fail)
          go_cut [3] (fun v3 wx => LkM w wx R Z mb K (intF mm) [.slice (some ⟨b, o, none⟩) n c] [.string hp, .slice hA hn hc, .int .i64 ho, .slice B m d] v3 (O1 ++ F2))
          case first =>
            cases ao with
            | some k =>
              rw [optI_some]
              obtain ⟨hF2, hkl⟩ := HA1.out k rfl
              have hof := HOA.out k hkl
              have hkm : k < m := by have := HLM.out; omega
              obtain ⟨b2, o2, hk2, rfl, hB2, hcc⟩ := (HXO.out.below (HRR.out ▸ S3.out.s.b)).at Li.cells 14 (fun _ => rfl) (by omega) k hkm
              have c13 := hcc 13 _ (by omega) rfl
              rw [← hof] at c13
              have t1 : decide ((0 : Int) ≤ (k : Int)) = true := decide_eq_true (by omega)
              have g3 := (S3.out.s.z.cell 3).trans rfl
              clear hcc hof
              have hownb := S3.out.s.o
              have hrb := S3.out.s.hr
              go_wp2_with (at_builtin; go_must (refine wpList_append_own _ rfl _ _ 48 rfl R 51 i0 _ 5 48 Try.underlying48 hi hz0 hz1 hz2 rfl (by decide) _ _ _ rfl (hownb.alloc _) ⟨w5.heap.size, 0, none⟩ 1 1 (Fd.cells ⟨3, i, -1, ofs k, noS⟩) rfl rfl (fun j u h => new_cells _ _ _ j u h) (Fd.one _) (by unfold maxLen; omega) (by omega) (by simp; omega) ?_))
              intro v9 w9 hown9 hg9 _
              have S4 := Lib.hid (S3.out.one ⟨3, i, -1, ofs k, noS⟩ hown9 hg9)
              clear hown9 hg9 hownb hrb
              rw [← hF2] at S4
              go_wp2
              go_meet
              exact S4.out
            | none =>
              rw [optI_none]
              have t1 : decide ((0 : Int) ≤ -1) = false := by decide
              have hF2 := HA2.out rfl
              subst hF2
              go_wp2
              go_meet
              rw [List.append_nil]
              exact S3.out
          case rest =>
            clear HA1 HA2 S3 HOA
            have S4 := Lib.hid hcut
            clear hcut
            have hO2 : (O1 ++ F2).length ≤ 79362 := by rw [List.length_append]; omega
            generalize hq2 : O1 ++ F2 = O2 at *
            have HQ2 := Lib.hid hq2
            clear hq2 hO1
            generalize hwc : wc = w6 at *
            clear hwc
            have g0 := (S4.out.s.z.cell 0).trans rfl
            have g1 := (S4.out.s.z.cell 1).trans rfl
            have g2 := (S4.out.s.z.cell 2).trans rfl
            have g3 := (S4.out.s.z.cell 3).trans rfl
            have ks := HKS.out w6 S4.out.s.b
            go_wp2_with fail
            refine ks.mono ?_
            rintro e w7 ⟨As, cs7, rfl, howns, hb7⟩
            have S5 := Lib.hid (S4.out.up hb7)
            have HRs := Lib.hid (own_rd howns)
            have HAs : Hid (As = none → cs7 = 0) := Lib.hid (fun h => by subst h; exact own_none howns)
            clear ks hb7 S4 g0 g1 g2 g3 HKS howns
            have hownb := S5.out.s.o
            have hrb := S5.out.s.hr
            go_wp2_with (at_builtin; go_must (refine wpList_append_all rfl _ _ 48 rfl R 51 i0 _ 5 48 Try.underlying48 hi hz0 hz1 hz2 rfl (by decide) _ _ _ rfl hownb As F3.length cs7 (fcells F3) rfl HAs.out HRs.out (fds_one _) (by unfold maxLen; omega) (by omega) hrb ?_))
            intro v9 w9 hown9 hg9
            have S6 := Lib.hid (S5.out.more hown9 hg9)
            clear hown9 hg9 hownb hrb
            clear S5 HRs HAs
            have hO3 : (O2 ++ F3).length ≤ 79498 := by rw [List.length_append]; omega
            generalize hq3 : O2 ++ F3 = O3 at *
            have HQ3 := Lib.hid hq3
            clear hq3 hO2
            have S7 : Hid (LkM w w9 R Z mb K (intF mm) [.slice (some ⟨b, o, none⟩) n c] [.string hp, .slice hA hn hc, .int .i64 ho, .slice B m d] v9 (O3 ++ idlesL i (ls.take 0))) := Lib.hid (by
              have e : idlesL i (ls.take 0) = [] := rfl
              rw [e, List.append_nil]; exact S6.out)
            clear S6
            have g3 := (S7.out.s.z.cell 3).trans rfl
            go_upto_region 24 with (fail)
            clear g3
            go_loopg [3, 82] m (fun gq u3 u82 wr => ∃ k : Nat, u82 = .int .i64 k ∧ k ≤ m ∧ Hid (gq = m - k) ∧ Hid (LkM w wr R Z mb K (intF mm) [.slice (some ⟨b, o, none⟩) n c] [.string hp, .slice hA hn hc, .int .i64 ho, .slice B m d] u3 (O3 ++ idlesL i (ls.take k))))
            case atStart => exact ⟨0, rfl, Nat.zero_le _, Lib.hid (by omega), S7⟩
            case round =>
              clear S7
              obtain ⟨k, rfl, hk, HGK, S1⟩ := hrel
              have hO4 : (O3 ++ idlesL i (ls.take k)).length ≤ 79520 := by
                have := idlesL_len i (ls.take k)
                rw [List.length_take] at this
                rw [List.length_append]; omega
              by_cases hlk : k < m
              · obtain ⟨b2, o2, hk2, rfl, hB2, hcc⟩ := (HXO.out.below (HRR.out ▸ S1.out.s.b)).at Li.cells 14 (fun _ => rfl) (by omega) k hlk
                have HKV1 := Lib.hid (fun W => HKV.out ls[k] (List.getElem_mem hk2) W)
                have HIS := Lib.hid (idlesL_succ i k ls hk2)
                generalize hO : O3 ++ idlesL i (ls.take k) = O4 at *
                have HQ4 := Lib.hid hO
                clear hO
                generalize ls[k] = y at *
                generalize idleB y = ib at *
                generalize voidB y = vb at *
                obtain ⟨xk, ⟨xp, xA, xn, xc, xo, xes⟩, xop, ⟨xlk, xli, xlt, xlo⟩, ⟨xrk, xri, xrt, xro⟩, xof⟩ := y
                have c0 := hcc 0 _ (by omega) rfl
                have c1 := hcc 1 _ (by omega) rfl
                have c2 := hcc 2 _ (by omega) rfl
                have c3 := hcc 3 _ (by omega) rfl
                have c4 := hcc 4 _ (by omega) rfl
                have c5 := hcc 5 _ (by omega) rfl
                have c6 := hcc 6 _ (by omega) rfl
                have c7 := hcc 7 _ (by omega) rfl
                have c8 := hcc 8 _ (by omega) rfl
                have c9 := hcc 9 _ (by omega) rfl
                have c10 := hcc 10 _ (by omega) rfl
                have c11 := hcc 11 _ (by omega) rfl
                have c12 := hcc 12 _ (by omega) rfl
                have c13 := hcc 13 _ (by omega) rfl
                clear hcc
                rw [Nat.add_zero] at c0
                dsimp only at HIS c0 c1 c2 c3 c4 c5 c6 c7 c8 c9 c10 c11 c12 c13
                dsimp only [Li.cells] at HKV1
                go_upto_region 26 with (fail)
                have hba := (Below.refl wr.heap.size wr).alloc (Nat.le_refl _) (.cells #[.int .i64 xk, .string xp, .slice xA xn xc, .int .i64 xo, .int .i64 xop, .int .i64 xlk, .int .i64 xli, .string xlt, .int .i64 xlo, .int .i64 xrk, .int .i64 xri, .string xrt, .int .i64 xro, .int .i64 xof] 61)
                have Y1 := Lib.hid (Blk.new wr 61 [.int .i64 xk, .string xp, .slice xA xn xc, .int .i64 xo, .int .i64 xop, .int .i64 xlk, .int .i64 xli, .string xlt, .int .i64 xlo, .int .i64 xrk, .int .i64 xri, .string xrt, .int .i64 xro, .int .i64 xof])
                have S2 := Lib.hid (S1.out.up hba)
                clear hba S1 hB2 c0 c1 c2 c3 c4 c5 c6 c7 c8 c9 c10 c11 c12 c13
                generalize World.alloc _ _ = w3 at *
                generalize wr.heap.size = V at *
                have f0 := (Y1.out.cell 0).trans rfl
                have f1 := (Y1.out.cell 1).trans rfl
                have f2 := (Y1.out.cell 2).trans rfl
                have f3 := (Y1.out.cell 3).trans rfl
                have f4 := (Y1.out.cell 4).trans rfl
                have f5 := (Y1.out.cell 5).trans rfl
                have f6 := (Y1.out.cell 6).trans rfl
                have f7 := (Y1.out.cell 7).trans rfl
                have f8 := (Y1.out.cell 8).trans rfl
                have f9 := (Y1.out.cell 9).trans rfl
                have f10 := (Y1.out.cell 10).trans rfl
                have f11 := (Y1.out.cell 11).trans rfl
                have f12 := (Y1.out.cell 12).trans rfl
                have f13 := (Y1.out.cell 13).trans rfl
                go_wp2_with fail
                refine (HKV1.out _).mono ?_
                rintro e w4 ⟨rfl, hb4⟩
                have S3 := Lib.hid (S2.out.up hb4)
                have Y2 := Lib.hid (Y1.out.below hb4 Y1.out.lt)
                clear hb4 S2 Y1 HKV1 f0 f1 f2 f3 f4 f5 f6 f7 f8 f9 f10 f11 f12 f13
                have f13 := (Y2.out.cell 13).trans rfl
                cases ib with
                | true =>
                  have HO5 : Hid (O3 ++ idlesL i (ls.take (k + 1)) = O4 ++ [⟨5, i, -1, xof, noS⟩]) := Lib.hid (by
                    rw [HIS.out, if_pos rfl, ← List.append_assoc, HQ4.out]; rfl)
                  clear HIS HQ4
                  have hownb := S3.out.s.o
                  have hrb := S3.out.s.hr
                  go_wp2_with (at_builtin; go_must (refine wpList_append_own _ rfl _ _ 48 rfl R 51 i0 _ 5 48 Try.underlying48 hi hz0 hz1 hz2 rfl (by decide) _ _ _ rfl (hownb.alloc _) ⟨w4.heap.size, 0, none⟩ 1 1 (Fd.cells ⟨5, i, -1, xof, noS⟩) rfl rfl (fun j u h => new_cells _ _ _ j u h) (Fd.one _) (by unfold maxLen; omega) (by omega) (by simp; omega) ?_))
                  intro v9 w9 hown9 hg9 _
                  have S4 := Lib.hid (S3.out.one ⟨5, i, -1, xof, noS⟩ hown9 hg9)
                  clear hown9 hg9 hownb hrb
                  rw [← HO5.out] at S4
                  clear HO5 S3 f13 Y2
                  go_wp2
                  go_roundg (m - (k + 1))
                  case measure => have := HGK.out; omega
                  case rel => exact ⟨k + 1, by go_num, by omega, Lib.hid rfl, S4⟩
                | false =>
                  have HO5 : Hid (O3 ++ idlesL i (ls.take (k + 1)) = O4) := Lib.hid (by
                    rw [HIS.out, if_neg (by simp), List.append_nil, HQ4.out])
                  rw [← HO5.out] at S3
                  clear HIS HQ4 HO5 f13 Y2
                  go_wp2
                  go_roundg (m - (k + 1))
                  case measure => have := HGK.out; omega
                  case rel => exact ⟨k + 1, by go_num, by omega, Lib.hid rfl, S3⟩
              · have hkm : ls.take k = ls := List.take_of_length_le (by have := HLM.out; omega)
                rw [hkm] at S1 hO4
                generalize hq4 : O3 ++ idlesL i ls = O4 at *
                have HQ4 := Lib.hid hq4
                clear hq4 hkm
                have HONN : Hid (ON = O4 ++ F5) := Lib.hid (by
                  rw [HNX.out, HFD.out, ← HQ4.out, ← HQ3.out, ← HQ2.out, ← HQ1.out]
                  simp only [List.append_assoc])
                clear HNX HFD HQ4 HQ3 HQ2 HQ1 HKV
                have g0 := (S1.out.s.z.cell 0).trans rfl
                have g2 := (S1.out.s.z.cell 2).trans rfl
                have g3 := (S1.out.s.z.cell 3).trans rfl
                have kl : (Instr.lookup 66 (.map (some mb)) (.string hp) false).run Try.prog wr = .ok (.int .i64 (getI mm hp)) wr := by
                  have h := mp_lookup S1.out.m mapN (zeroI _) hp HPF.out
                  rw [intF_get] at h; exact h
                have HNP : Hid (∀ u, (if u = hp then some (Value.int .i64 (-1)) else intF mm u) = intF ((hp, -1) :: mm) u) := Lib.hid (intF_put mm hp _)
                generalize getI mm hp = g at *
                by_cases hm0 : 0 < m
                rotate_left
                · have t1 : decide (0 < (m : Int)) = false := decide_eq_false (by omega)
                  have t1b : decide (0 < m) = false := decide_eq_false hm0
                  have hm00 : m = 0 := by omega
                  have hub : ub = false := by rw [HUB.out, decide_eq_false hm0]; rfl
                  have hF5 := HU2.out hub
                  have HO6 : Hid (O4 = ON) := Lib.hid (by rw [HONN.out, hF5, List.append_nil])
                  have HTN := Lib.hid (HTB.out (fun h => absurd h hm0))
                  rw [HO6.out] at S1
                  clear HTA HTB HUB HU1 HU2 kl HNP hub
                  go_wp2
                  go_roundg (n - (i + 1))
                  case measure => have := HG.out; omega
                  case rel => exact ⟨i + 1, K, mm, by go_num, by omega, by omega, Lib.hid rfl, Lib.hid S1.out.s.b, Lib.hid S1.out.s.p, Lib.hid S1.out.m, HTN, Lib.hid (by rw [HON.out]; exact S1.out.s.o)⟩
                have t1 : decide (0 < (m : Int)) = true := decide_eq_true (by omega)
                have t1b : decide (0 < m) = true := decide_eq_true hm0
                by_cases hg0 : g = 0
                rotate_left
                · have t2 : (g == 0) = false := by simpa using hg0
                  have hub : ub = false := by rw [HUB.out, t2, Bool.and_false]
                  have hF5 := HU2.out hub
                  have HO6 : Hid (O4 = ON) := Lib.hid (by rw [HONN.out, hF5, List.append_nil])
                  have HTN := Lib.hid (HTB.out (fun _ => hg0))
                  rw [HO6.out] at S1
                  clear HTA HTB HUB HU1 HU2 HNP hub hg0
                  go_wp2
                  go_roundg (n - (i + 1))
                  case measure => have := HG.out; omega
                  case rel => exact ⟨i + 1, K, mm, by go_num, by omega, by omega, Lib.hid rfl, Lib.hid S1.out.s.b, Lib.hid S1.out.s.p, Lib.hid S1.out.m, HTN, Lib.hid (by rw [HON.out]; exact S1.out.s.o)⟩
                have hub : ub = true := by rw [HUB.out, decide_eq_true hm0, hg0]; rfl
                have hF5 := HU1.out hub
                have HTN := Lib.hid (HTA.out hm0)
                subst hg0
                clear HTA HTB HUB HU1 HU2 hub
                go_wp2_with (at_mapUpdate; go_must (refine wpList_update_mp rfl _ _ _ 66 3 rfl mapN mb K _ rfl S1.out.m (by unfold maxLen; omega) hp rfl HPF.out _ rfl ?_))
                intro w8 hm8 hg8
                have S2 := Lib.hid (S1.out.put hmbR (Mp.congr hm8 (fun u => HNP.out u)) hg8)
                clear hm8 hg8 S1 kl HNP g0 g2 g3
                have g0 := (S2.out.s.z.cell 0).trans rfl
                have g2 := (S2.out.s.z.cell 2).trans rfl
                have hownb := S2.out.s.o
                have hrb := S2.out.s.hr
                go_wp2_with (at_builtin; go_must (refine wpList_append_own _ rfl _ _ 48 rfl R 51 i0 _ 5 48 Try.underlying48 hi hz0 hz1 hz2 rfl (by decide) _ _ _ rfl (hownb.alloc _) ⟨w8.heap.size, 0, none⟩ 1 1 (Fd.cells ⟨6, i, -1, ho, hp⟩) rfl rfl (fun j u h => new_cells _ _ _ j u h) (Fd.one _) (by unfold maxLen; omega) (by omega) (by simp; omega) ?_))
                intro v9 w9 hown9 hg9 _
                have S3 := Lib.hid (S2.out.one ⟨6, i, -1, ho, hp⟩ hown9 hg9)
                clear hown9 hg9 hownb hrb
                rw [← hF5, ← HONN.out] at S3
                clear g0 g2 S2 hF5
                go_wp2
                go_roundg (n - (i + 1))
                case measure => have := HG.out; omega
                case rel => exact ⟨i + 1, K + 1, _, by go_num, by omega, by omega, Lib.hid rfl, Lib.hid S3.out.s.b, Lib.hid S3.out.s.p, Lib.hid S3.out.m, HTN, Lib.hid (by rw [HON.out]; exact S3.out.s.o)⟩
        · obtain rfl : i = n := by omega
          have hF : F = lookN cs i := HV2.out
          rw [← hF] at HU
          obtain ⟨A5, c5, rfl, hn5⟩ := own_slice HU.out
          clear HV2
          go_wp2
          go_ret
          exact ⟨A5, c5, rfl, by rw [HRR.out]; exact HU.out, by rw [HRR.out]; exact HB.out⟩
end Go.Proofs.Ytjcgkplphiedjaa
