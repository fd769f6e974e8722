/- All findings in a program: the document's Look. -/
import Derived.Test.YtjcgkplphiedjaaGreatGv
import Derived.Test.YtjcgkplphiedjaaGreatGw
import Derived.Test.YtjcgkplphiedjaaGreatGy
namespace Go.Proofs.YtjcgkplphiedjaaGreat
open Go.RowKit Go.Sort

/-- What Look has in memory while it looks at a clause. -/
structure LkS (w wq : World) (R Z : Nat) (pr cl : List Value) (v : Value) (O : List Fd) : Prop where
  b : Below R w wq
  p : Blk wq R 24 pr
  z : Blk wq Z 37 cl
  o : wq.ownsRow R 29 5 v O.length (fcells O)
  hr : R ≤ wq.heap.size
theorem LkS.up {w wq wq' : World} {R Z : Nat} {pr cl : List Value} {v : Value} {O : List Fd} (h : LkS w wq R Z pr cl v O) (hb : Below wq.heap.size wq wq') : LkS w wq' R Z pr cl v O :=
  ⟨h.b.trans (hb.mono h.hr), h.p.below hb h.p.lt, h.z.below hb h.z.lt, own_below h.o hb, Nat.le_trans h.hr hb.size⟩
theorem LkS.one {w wq wq' : World} {R Z : Nat} {pr cl : List Value} {v v' : Value} {O : List Fd} (h : LkS w wq R Z pr cl v O) (f : Fd) (ho : wq'.ownsRow R 29 5 v' (O.length + 1) (fcells O ++ f.cells)) (hg : (wq.alloc (.cells f.cells.toArray 29)).grownBy wq' v.ownBlock) : LkS w wq' R Z pr cl v' (O ++ [f]) := by
  have hba := (Below.refl wq.heap.size wq).alloc (Nat.le_refl _) (.cells f.cells.toArray 29)
  have h2 := h.up hba
  refine ⟨h2.b.grown hg h2.hr (fun q hq => (h.o.lt q hq).1), h2.p.grown hg (own_blk_ne h2.o h2.p (by decide)), h2.z.grown hg (own_blk_ne h2.o h2.z (by decide)), ?_, Nat.le_trans h2.hr hg.size⟩
  rw [fcells_append, List.length_append]
  simpa [fcells] using ho
theorem LkS.more {w wq wq' : World} {R Z : Nat} {pr cl : List Value} {v v' : Value} {O N : List Fd} (h : LkS w wq R Z pr cl v O) (ho : wq'.ownsRow R 29 5 v' (O.length + N.length) (fcells O ++ fcells N)) (hg : wq.grownBy wq' v.ownBlock) : LkS w wq' R Z pr cl v' (O ++ N) := by
  refine ⟨h.b.grown hg h.hr (fun q hq => (h.o.lt q hq).1), h.p.grown hg (own_blk_ne h.o h.p (by decide)), h.z.grown hg (own_blk_ne h.o h.z (by decide)), ?_, Nat.le_trans h.hr hg.size⟩
  rw [fcells_append, List.length_append]
  exact ho

theorem findF_len {cs : List Cl} {i : Nat} {x : Cl} (h : clauseE x = 0) : (findF cs i x).length ≤ 155 := by
  have h1 := othersF_len cs i x
  have h2 := neverF_len i x
  have h3 := singlesL_len x.tot i x.tot
  have h4 := idlesL_len i x.ls
  have h5 := unusedF_len cs i x
  obtain ⟨h6, h7⟩ := clause_small h
  unfold findF singlesF idlesF
  simp only [List.length_append]
  omega
theorem lookN_len {cs : List Cl} (h : ∀ x ∈ cs, clauseE x = 0) : ∀ i, (lookN cs i).length ≤ 155 * i
  | 0 => by simp [lookN]
  | i + 1 => by
    rw [lookN, List.length_append]
    have h1 := lookN_len h i
    have h2 : ((cs[i]?.map (findF cs i)).getD []).length ≤ 155 := by
      cases hx : cs[i]? with
      | none => simp
      | some x => exact findF_len (h x (List.mem_of_getElem? hx))
    omega
theorem optI_none : optI none = -1 := rfl
theorem optI_some (k : Nat) : optI (some k) = (k : Int) := rfl
theorem var_size {x : Cl} (h : clauseE x = 0) : ∀ t ∈ x.tot, t.k = 4 → 0 < t.t.size := by
  intro t ht hk
  have h2 := (termE_var (clauseE_err h t ht) hk).2
  unfold isVarS at h2
  simp only [Bool.and_eq_true, decide_eq_true_eq] at h2
  omega

set_option maxRecDepth 200000 in
set_option maxHeartbeats 32000000 in
theorem look_ref (A : Option Addr) (n c : Nat) (cs : List Cl) (w : World) (hr : Rd w w.heap.size 4 A n (ccells cs)) (hok : ∀ x ∈ cs, Cl.ok w x) (hf : ∀ x ∈ cs, x.fines) (hin : ∀ x ∈ cs, x.ints) :
    Calls Tryz.prog 6 #[.agg #[.slice A n c]] w fun e w' => ∃ A' c', e = .returned (.slice A' (lookF cs).length c') ∧ w'.ownsRow w.heap.size 29 5 (.slice A' (lookF cs).length c') (lookF cs).length (fcells (lookF cs)) ∧ Below w.heap.size w w' := by
  obtain ⟨i0, hi, hz0, hz1, hz2⟩ := info_parts Tryz.info29
  have hl : cs.length = n := by have := hr.1; rw [ccells_length] at this; omega
  have hnb := hr.2.1
  have HL := Lib.hid hl
  have HR := Lib.hid hr
  have HOK := Lib.hid hok
  have HFI := Lib.hid hf
  have HIN := Lib.hid hin
  have HKW := Lib.hid (fun W h1 h2 => wellE_ref A n c cs W h1 h2 hf)
  have HV : Hid (lookF cs = if wellE cs = 0 then lookN cs n else []) := Lib.hid (by rw [← hl]; rfl)
  have HWP : Hid (wellE cs = 0 → n ≤ 512 ∧ ∀ x ∈ cs, clauseE x = 0) := Lib.hid (fun h => by obtain ⟨h1, h2⟩ := wellE_parts h; exact ⟨by omega, h2⟩)
  clear hl hr hok hf hin
  generalize lookF cs = F at *
  generalize wellE cs = we at *
  go_enter Tryz.func6, Tryz.ntmps6
  go_upto_region 1 with (fail)
  have hb1 := (Below.refl w.heap.size w).alloc (Nat.le_refl _) (.cells #[.slice A n c] 24)
  have H1 := Lib.hid (Blk.new w 24 [.slice A n c])
  generalize World.alloc _ _ = w1 at *
  generalize hR : w.heap.size = R at *
  have HRR := Lib.hid hR
  clear hR
  have HB1 := Lib.hid hb1
  have hs1 : R < w1.heap.size := H1.out.lt
  clear hb1
  have HRW : Hid (∀ W, Below R w W → Rd W W.heap.size 4 A n (ccells cs)) := Lib.hid (fun W hb => HR.out.up hb (HRR.out ▸ hb.size))
  have HOW : Hid (∀ W, Below R w W → ∀ x ∈ cs, Cl.ok W x) := Lib.hid (fun W hb x hx => (HOK.out x hx).up (HRR.out ▸ hb))
  have f0 := (H1.out.cell 0).trans rfl
  have kw := HKW.out w1 (HRW.out _ HB1.out) (HOW.out _ HB1.out)
  go_wp2_with fail
  refine kw.mono ?_
  rintro e w2 ⟨rfl, hb2⟩
  have HB2 := Lib.hid (HB1.out.trans (hb2.mono (Nat.le_of_lt hs1)))
  have H2 := Lib.hid (H1.out.below hb2 hs1)
  have hs2 : R < w2.heap.size := H2.out.lt
  clear kw hb2 H1 HB1 f0 HKW hs1
  by_cases hwe : we = 0
  rotate_left
  · have t1 : (we != 0) = true := by simpa using hwe
    have hF : F = [] := by rw [HV.out, if_neg hwe]
    subst hF
    clear HV HWP hwe
    go_wp2
    go_ret
    exact ⟨none, 0, by rfl, World.ownsRow_nil _ _ _ _, by rw [HRR.out]; exact HB2.out⟩
  subst hwe
  obtain ⟨hn512, hce⟩ := HWP.out rfl
  have HCE := Lib.hid hce
  have HFW : Hid (∀ W, Below R w W → Fit' W cs) := Lib.hid (fun W hb x hx => ⟨HOW.out W hb x hx, HFI.out x hx, HIN.out x hx, hce x hx⟩)
  have HV2 : Hid (F = lookN cs n) := Lib.hid (by rw [HV.out, if_pos rfl])
  clear HV HWP hce
  go_upto_region 5 with (fail)
  have HU : Hid (w2.ownsRow R 29 5 (.slice none 0 0) (lookN cs 0).length (fcells (lookN cs 0))) := Lib.hid (World.ownsRow_nil _ _ _ _)
  go_loopg [3, 4] n (fun gk u3 u4 wr => ∃ i : Nat, u4 = .int .i64 i ∧ i ≤ n ∧ Hid (gk = n - i) ∧ Hid (Below R w wr) ∧ Hid (Blk wr R 24 [.slice A n c]) ∧ Hid (wr.ownsRow R 29 5 u3 (lookN cs i).length (fcells (lookN cs i))))
  case atStart => exact ⟨0, rfl, Nat.zero_le _, Lib.hid (by omega), HB2, H2, HU⟩
  case round =>
    clear HB2 H2 HU hs2
    obtain ⟨i, rfl, hin, HG, HB, HP, HU⟩ := hrel
    have hsr : R ≤ wr.heap.size := by have := HB.out.size; rw [HRR.out] at this; exact this
    have f0 := (HP.out.cell 0).trans rfl
    by_cases hlt : i < n
    · obtain ⟨b, o, hk1, rfl, hB, hcc⟩ := (HR.out.below HB.out).at Cl.cells 4 (fun _ => rfl) (by omega) i hlt
      have HXI : Hid (cs[i]? = some cs[i]) := Lib.hid (List.getElem?_eq_getElem hk1)
      have HNX : Hid (lookN cs (i + 1) = lookN cs i ++ findF cs i cs[i]) := Lib.hid (lookN_succ cs i hk1)
      have hm : cs[i] ∈ cs := List.getElem_mem hk1
      have HXE := Lib.hid (HCE.out _ hm)
      have HXM := Lib.hid hm
      have hO0 : (lookN cs i).length ≤ 79360 := by have := lookN_len HCE.out i; omega
      clear hm
      generalize cs[i] = x at *
      have HFD : Hid (findF cs i x = othersF cs i x ++ (neverF i x ++ (singlesF i x ++ (idlesL i x.ls ++ unusedF cs i x)))) := Lib.hid rfl
      have HT1 : Hid (∀ j, twiceO cs i x = some j → othersF cs i x = [⟨1, i, j, x.h.o, noS⟩]) := Lib.hid (fun j h => by unfold othersF; rw [h])
      have HT2 : Hid (twiceO cs i x = none → ∀ j, coveredO cs i x = some j → othersF cs i x = [⟨2, i, j, x.h.o, noS⟩]) := Lib.hid (fun h j h2 => by unfold othersF; rw [h, h2])
      have HT3 : Hid (twiceO cs i x = none → coveredO cs i x = none → othersF cs i x = []) := Lib.hid (fun h h2 => by unfold othersF; rw [h, h2])
      have HA1 : Hid (∀ k, atO x = some k → neverF i x = [⟨3, i, -1, offAt x k, noS⟩] ∧ k < x.ls.length) := Lib.hid (fun k h => ⟨by unfold neverF; rw [h], by have := firstI_some _ _ _ h; omega⟩)
      have HA2 : Hid (atO x = none → neverF i x = []) := Lib.hid (fun h => by unfold neverF; rw [h])
      have HU1 : Hid (unusedB cs i x = true → unusedF cs i x = [⟨6, i, -1, x.h.o, x.h.p⟩]) := Lib.hid (fun h => by unfold unusedF; rw [if_pos h])
      have HU2 : Hid (unusedB cs i x = false → unusedF cs i x = []) := Lib.hid (fun h => by unfold unusedF; rw [if_neg (by rw [h]; simp)])
      have hl1 := othersF_len cs i x
      have hl2 := neverF_len i x
      have hl3a := singlesL_len x.tot i x.tot
      obtain ⟨hs136, hs16⟩ := clause_small HXE.out
      have hl3 : (singlesF i x).length ≤ 136 := Nat.le_trans hl3a hs136
      have HKT := Lib.hid (fun W (hb : Below R w W) => twice_ref (some ⟨b, o, none⟩) n c cs i x hlt HXI.out W (HRW.out W hb) (HFW.out W hb))
      have HKC := Lib.hid (fun W (hb : Below R w W) => covered_ref (some ⟨b, o, none⟩) n c cs i x hlt HXI.out W (HRW.out W hb) (HFW.out W hb))
      have HKA := Lib.hid (fun W (hb : Below R w W) => at_ref x W (HOW.out W hb x HXM.out) (HFI.out x HXM.out))
      have HKS := Lib.hid (fun W (hb : Below R w W) => singles_ref x i W (HOW.out W hb x HXM.out) (by omega) (var_size HXE.out))
      have HKU := Lib.hid (fun W (hb : Below R w W) => unused_ref (some ⟨b, o, none⟩) n c cs i x hlt HXI.out W (HRW.out W hb) (HOW.out W hb))
      have HKV := Lib.hid (fun y (hy : y ∈ x.ls) W => verdict_ref y W ((HFI.out x HXM.out).2 y hy))
      have HXO := Lib.hid (HOK.out x HXM.out).2.1
      have HOA : Hid (∀ k, (h : k < x.ls.length) → offAt x k = x.ls[k].o) := Lib.hid (fun k h => by unfold offAt; rw [List.getElem?_eq_getElem h]; rfl)
      clear HXE HXM HXI
      generalize hON : lookN cs (i + 1) = ON at *
      have HON := Lib.hid hON
      clear hON
      generalize lookN cs i = O0 at *
      generalize findF cs i x = FF at *
      generalize othersF cs i x = F1 at *
      generalize neverF i x = F2 at *
      generalize singlesF i x = F3 at *
      generalize unusedF cs i x = F5 at *
      generalize twiceO cs i x = tw at *
      generalize coveredO cs i x = cv at *
      generalize atO x = ao at *
      generalize unusedB cs i x = ub at *
      generalize hofs : offAt x = ofs at *
      clear hofs hl3a
      obtain ⟨⟨hp, hA, hn, hc, ho, hes⟩, B, m, d, ls⟩ := x
      dsimp only [Cl.cells] at HFD HT1 HT2 HA1 HU1 HKT HKC HKA HKS HKU HKV HXO HOA hs16
      have hlm : ls.length = m := by have := HXO.out.1; rw [lcells_length] at this; omega
      have HLM := Lib.hid hlm
      have hm16 : m ≤ 16 := by omega
      have d0 := hcc 0 _ (by omega) rfl
      have d1 := hcc 1 _ (by omega) rfl
      have d2 := hcc 2 _ (by omega) rfl
      have d3 := hcc 3 _ (by omega) rfl
      rw [Nat.add_zero] at d0
      dsimp only at d0 d1 d2 d3
      clear hcc hlm hs16
      go_upto_region 8 with (fail)
      have hba := (Below.refl wr.heap.size wr).alloc (Nat.le_refl _) (.cells #[.string hp, .slice hA hn hc, .int .i64 ho, .slice B m d] 37)
      have S0 : Hid (LkS w (wr.alloc (.cells #[.string hp, .slice hA hn hc, .int .i64 ho, .slice B m d] 37)) R wr.heap.size [.slice (some ⟨b, o, none⟩) n c] [.string hp, .slice hA hn hc, .int .i64 ho, .slice B m d] u3 O0) := Lib.hid ⟨HB.out.trans (hba.mono hsr), HP.out.below hba HP.out.lt, Blk.new wr 37 [.string hp, .slice hA hn hc, .int .i64 ho, .slice B m d], own_below HU.out hba, Nat.le_trans hsr hba.size⟩
      clear hba HB HP HU f0 d0 d1 d2 d3 hsr hB
      generalize World.alloc _ _ = w3 at *
      generalize wr.heap.size = Z at *
      have f0 := (S0.out.p.cell 0).trans rfl
      have kt := HKT.out w3 S0.out.b
      go_wp2_with fail
      refine kt.mono ?_
      rintro e w4 ⟨rfl, hb4⟩
      have S1 := Lib.hid (S0.out.up hb4)
      clear kt hb4 S0 f0 HKT
      go_upto_if 29 with (fail)
      go_cut [3, 6] (fun v3 v6 wx => LkS w wx R Z [.slice (some ⟨b, o, none⟩) n c] [.string hp, .slice hA hn hc, .int .i64 ho, .slice B m d] v3 (O0 ++ F1))
      case first =>
        cases tw with
        | some j =>
          rw [optI_some]
          have t1 : decide ((0 : Int) ≤ (j : Int)) = true := decide_eq_true (by omega)
          have g2 := (S1.out.z.cell 2).trans rfl
          have hownb := S1.out.o
          have hrb := S1.out.hr
          go_wp2_with (at_builtin; go_must (refine wpList_append_own _ rfl _ _ 26 rfl R 29 i0 _ 5 48 Tryz.underlying26 hi hz0 hz1 hz2 rfl (by decide) _ _ _ rfl (hownb.alloc _) ⟨w4.heap.size, 0, none⟩ 1 1 (Fd.cells ⟨1, i, j, ho, noS⟩) rfl rfl (fun j u h => new_cells _ _ _ j u h) (Fd.one _) (by unfold maxLen; omega) (by omega) (by simp; omega) ?_))
          intro v9 w9 hown9 hg9 _
          have S2 := Lib.hid (S1.out.one ⟨1, i, j, ho, noS⟩ hown9 hg9)
          clear hown9 hg9 hownb hrb
          rw [← HT1.out j rfl] at S2
          go_wp2
          go_meet
          exact S2.out
        | none =>
          rw [optI_none]
          replace HT2 := Lib.hid (HT2.out rfl)
          replace HT3 := Lib.hid (HT3.out rfl)
          have t1 : decide ((0 : Int) ≤ -1) = false := by decide
          have f0 := (S1.out.p.cell 0).trans rfl
          have kc := HKC.out w4 S1.out.b
          go_wp2_with fail
          refine kc.mono ?_
          rintro e w5 ⟨rfl, hb5⟩
          have S2 := Lib.hid (S1.out.up hb5)
          clear kc hb5 S1 f0
          cases cv with
          | some j =>
            rw [optI_some]
            have t2 : decide ((0 : Int) ≤ (j : Int)) = true := decide_eq_true (by omega)
            have g2 := (S2.out.z.cell 2).trans rfl
            have hownb := S2.out.o
            have hrb := S2.out.hr
            go_wp2_with (at_builtin; go_must (refine wpList_append_own _ rfl _ _ 26 rfl R 29 i0 _ 5 48 Tryz.underlying26 hi hz0 hz1 hz2 rfl (by decide) _ _ _ rfl (hownb.alloc _) ⟨w5.heap.size, 0, none⟩ 1 1 (Fd.cells ⟨2, i, j, ho, noS⟩) rfl rfl (fun j u h => new_cells _ _ _ j u h) (Fd.one _) (by unfold maxLen; omega) (by omega) (by simp; omega) ?_))
            intro v9 w9 hown9 hg9 _
            have S3 := Lib.hid (S2.out.one ⟨2, i, j, ho, noS⟩ hown9 hg9)
            clear hown9 hg9 hownb hrb
            rw [← HT2.out j rfl] at S3
            go_wp2
            go_meet
            exact S3.out
          | none =>
            rw [optI_none]
            have hF1 := HT3.out rfl
            subst hF1
            go_wp2
            go_meet
            rw [List.append_nil]
            exact S2.out
      case rest =>
        clear HKC HT1 HT2 HT3 S1
        have S2 := Lib.hid hcut
        clear hcut
        have hO1 : (O0 ++ F1).length ≤ 79361 := by rw [List.length_append]; omega
        generalize hq1 : O0 ++ F1 = O1 at *
        have HQ1 := Lib.hid hq1
        clear hq1 hO0
        have g0 := (S2.out.z.cell 0).trans rfl
        have g1 := (S2.out.z.cell 1).trans rfl
        have g2 := (S2.out.z.cell 2).trans rfl
        have g3 := (S2.out.z.cell 3).trans rfl
        have ka := HKA.out wc S2.out.b
        go_wp2_with fail
        refine ka.mono ?_
        rintro e w5 ⟨rfl, hb5⟩
        have S3 := Lib.hid (S2.out.up hb5)
        clear ka hb5 S2 g0 g1 g2 g3 HKA
        go_upto_if 57 with (fail)
        go_cut [3] (fun v3 wx => LkS w wx R Z [.slice (some ⟨b, o, none⟩) n c] [.string hp, .slice hA hn hc, .int .i64 ho, .slice B m d] v3 (O1 ++ F2))
        case first =>
          cases ao with
          | some k =>
            rw [optI_some]
            obtain ⟨hF2, hkl⟩ := HA1.out k rfl
            have hof := HOA.out k hkl
            have hkm : k < m := by have := HLM.out; omega
            obtain ⟨b2, o2, hk2, rfl, hB2, hcc⟩ := (HXO.out.below (HRR.out ▸ S3.out.b)).at Li.cells 14 (fun _ => rfl) (by omega) k hkm
            have c13 := hcc 13 _ (by omega) rfl
            rw [← hof] at c13
            have t1 : decide ((0 : Int) ≤ (k : Int)) = true := decide_eq_true (by omega)
            have g3 := (S3.out.z.cell 3).trans rfl
            clear hcc hof
            have hownb := S3.out.o
            have hrb := S3.out.hr
            go_wp2_with (at_builtin; go_must (refine wpList_append_own _ rfl _ _ 26 rfl R 29 i0 _ 5 48 Tryz.underlying26 hi hz0 hz1 hz2 rfl (by decide) _ _ _ rfl (hownb.alloc _) ⟨w5.heap.size, 0, none⟩ 1 1 (Fd.cells ⟨3, i, -1, ofs k, noS⟩) rfl rfl (fun j u h => new_cells _ _ _ j u h) (Fd.one _) (by unfold maxLen; omega) (by omega) (by simp; omega) ?_))
            intro v9 w9 hown9 hg9 _
            have S4 := Lib.hid (S3.out.one ⟨3, i, -1, ofs k, noS⟩ hown9 hg9)
            clear hown9 hg9 hownb hrb
            rw [← hF2] at S4
            go_wp2
            go_meet
            exact S4.out
          | none =>
            rw [optI_none]
            have t1 : decide ((0 : Int) ≤ -1) = false := by decide
            have hF2 := HA2.out rfl
            subst hF2
            go_wp2
            go_meet
            rw [List.append_nil]
            exact S3.out
        case rest =>
          clear HA1 HA2 S3 HOA
          have S4 := Lib.hid hcut
          clear hcut
          have hO2 : (O1 ++ F2).length ≤ 79362 := by rw [List.length_append]; omega
          generalize hq2 : O1 ++ F2 = O2 at *
          have HQ2 := Lib.hid hq2
          clear hq2 hO1
          generalize hwc : wc = w6 at *
          clear hwc
          have g0 := (S4.out.z.cell 0).trans rfl
          have g1 := (S4.out.z.cell 1).trans rfl
          have g2 := (S4.out.z.cell 2).trans rfl
          have g3 := (S4.out.z.cell 3).trans rfl
          have ks := HKS.out w6 S4.out.b
          go_wp2_with fail
          refine ks.mono ?_
          rintro e w7 ⟨As, cs7, rfl, howns, hb7⟩
          have S5 := Lib.hid (S4.out.up hb7)
          have HRs := Lib.hid (own_rd howns)
          have HAs : Hid (As = none → cs7 = 0) := Lib.hid (fun h => by subst h; exact own_none howns)
          clear ks hb7 S4 g0 g1 g2 g3 HKS howns
          have hownb := S5.out.o
          have hrb := S5.out.hr
          go_wp2_with (at_builtin; go_must (refine wpList_append_all rfl _ _ 26 rfl R 29 i0 _ 5 48 Tryz.underlying26 hi hz0 hz1 hz2 rfl (by decide) _ _ _ rfl hownb As F3.length cs7 (fcells F3) rfl HAs.out HRs.out (fds_one _) (by unfold maxLen; omega) (by omega) hrb ?_))
          intro v9 w9 hown9 hg9
          have S6 := Lib.hid (S5.out.more hown9 hg9)
          clear hown9 hg9 hownb hrb S5 HRs HAs
          have hO3 : (O2 ++ F3).length ≤ 79498 := by rw [List.length_append]; omega
          generalize hq3 : O2 ++ F3 = O3 at *
          have HQ3 := Lib.hid hq3
          clear hq3 hO2
          have S7 : Hid (LkS w w9 R Z [.slice (some ⟨b, o, none⟩) n c] [.string hp, .slice hA hn hc, .int .i64 ho, .slice B m d] v9 (O3 ++ idlesL i (ls.take 0))) := Lib.hid (by
            have e : idlesL i (ls.take 0) = [] := rfl
            rw [e, List.append_nil]; exact S6.out)
          clear S6
          go_upto_region 20 with (fail)
          go_loopg [3, 7] m (fun gq u3 u7 wr => ∃ k : Nat, u7 = .int .i64 k ∧ k ≤ m ∧ Hid (gq = m - k) ∧ Hid (LkS w wr R Z [.slice (some ⟨b, o, none⟩) n c] [.string hp, .slice hA hn hc, .int .i64 ho, .slice B m d] u3 (O3 ++ idlesL i (ls.take k))))
          case atStart => exact ⟨0, rfl, Nat.zero_le _, Lib.hid (by omega), S7⟩
          case round =>
            clear S7
            obtain ⟨k, rfl, hk, HGK, S1⟩ := hrel
            have g3 := (S1.out.z.cell 3).trans rfl
            have hO4 : (O3 ++ idlesL i (ls.take k)).length ≤ 79520 := by
              have := idlesL_len i (ls.take k)
              rw [List.length_take] at this
              rw [List.length_append]; omega
            by_cases hlk : k < m
            · obtain ⟨b2, o2, hk2, rfl, hB2, hcc⟩ := (HXO.out.below (HRR.out ▸ S1.out.b)).at Li.cells 14 (fun _ => rfl) (by omega) k hlk
              have HKV1 := Lib.hid (fun W => HKV.out ls[k] (List.getElem_mem hk2) W)
              have HIS := Lib.hid (idlesL_succ i k ls hk2)
              have HVP := Lib.hid (verdI_pos ls[k])
              generalize hO : O3 ++ idlesL i (ls.take k) = O4 at *
              have HQ4 := Lib.hid hO
              clear hO
              generalize ls[k] = y at *
              generalize verdI y = vd at *
              generalize idleB y = ib at *
              obtain ⟨xk, ⟨xp, xA, xn, xc, xo, xes⟩, xop, ⟨xlk, xli, xlt, xlo⟩, ⟨xrk, xri, xrt, xro⟩, xof⟩ := y
              have c0 := hcc 0 _ (by omega) rfl
              have c1 := hcc 1 _ (by omega) rfl
              have c2 := hcc 2 _ (by omega) rfl
              have c3 := hcc 3 _ (by omega) rfl
              have c4 := hcc 4 _ (by omega) rfl
              have c5 := hcc 5 _ (by omega) rfl
              have c6 := hcc 6 _ (by omega) rfl
              have c7 := hcc 7 _ (by omega) rfl
              have c8 := hcc 8 _ (by omega) rfl
              have c9 := hcc 9 _ (by omega) rfl
              have c10 := hcc 10 _ (by omega) rfl
              have c11 := hcc 11 _ (by omega) rfl
              have c12 := hcc 12 _ (by omega) rfl
              have c13 := hcc 13 _ (by omega) rfl
              clear hcc
              rw [Nat.add_zero] at c0
              dsimp only at c0 c1 c2 c3 c4 c5 c6 c7 c8 c9 c10 c11 c12 c13 HIS
              dsimp only [Li.cells] at HKV1
              go_wp2_with fail
              refine (HKV1.out _).mono ?_
              rintro e w4 ⟨rfl, hb4⟩
              have hB2r : b2 < wr.heap.size := by have := S1.out.hr; rw [HRR.out] at hB2; omega
              have c13 := (hb4.cell (p := ⟨b2, o2 + k * 14 + 13, none⟩) hB2r).trans c13
              have S2 := Lib.hid (S1.out.up hb4)
              clear hb4 S1 HKV1 g3 c0 c1 c2 c3 c4 c5 c6 c7 c8 c9 c10 c11 c12
              have g3 := (S2.out.z.cell 3).trans rfl
              cases ib with
              | true =>
                have t1 : decide ((0 : Int) < vd) = true := decide_eq_true (HVP.out.2 rfl)
                have HO5 : Hid (O3 ++ idlesL i (ls.take (k + 1)) = O4 ++ [⟨5, i, -1, xof, noS⟩]) := Lib.hid (by
                  rw [HIS.out, if_pos rfl, ← List.append_assoc, HQ4.out]; rfl)
                clear HVP HIS HQ4
                have hownb := S2.out.o
                have hrb := S2.out.hr
                go_wp2_with (at_builtin; go_must (refine wpList_append_own _ rfl _ _ 26 rfl R 29 i0 _ 5 48 Tryz.underlying26 hi hz0 hz1 hz2 rfl (by decide) _ _ _ rfl (hownb.alloc _) ⟨w4.heap.size, 0, none⟩ 1 1 (Fd.cells ⟨5, i, -1, xof, noS⟩) rfl rfl (fun j u h => new_cells _ _ _ j u h) (Fd.one _) (by unfold maxLen; omega) (by omega) (by simp; omega) ?_))
                intro v9 w9 hown9 hg9 _
                have S3 := Lib.hid (S2.out.one ⟨5, i, -1, xof, noS⟩ hown9 hg9)
                clear hown9 hg9 hownb hrb
                rw [← HO5.out] at S3
                clear HO5 S2 g3 c13
                go_wp2
                go_roundg (m - (k + 1))
                case measure => have := HGK.out; omega
                case rel => exact ⟨k + 1, by go_num, by omega, Lib.hid rfl, S3⟩
              | false =>
                have t1 : decide ((0 : Int) < vd) = false := decide_eq_false (fun h => by have := HVP.out.1 h; cases this)
                have HO5 : Hid (O3 ++ idlesL i (ls.take (k + 1)) = O4) := Lib.hid (by
                  rw [HIS.out, if_neg (by simp), List.append_nil, HQ4.out])
                rw [← HO5.out] at S2
                clear HVP HIS HQ4 HO5 g3 c13
                go_wp2
                go_roundg (m - (k + 1))
                case measure => have := HGK.out; omega
                case rel => exact ⟨k + 1, by go_num, by omega, Lib.hid rfl, S2⟩
            · have hkm : ls.take k = ls := List.take_of_length_le (by have := HLM.out; omega)
              rw [hkm] at S1 hO4
              generalize hq4 : O3 ++ idlesL i ls = O4 at *
              have HQ4 := Lib.hid hq4
              clear hq4 hkm
              have HONN : Hid (ON = O4 ++ F5) := Lib.hid (by
                rw [HNX.out, HFD.out, ← HQ4.out, ← HQ3.out, ← HQ2.out, ← HQ1.out]
                simp only [List.append_assoc])
              clear HNX HFD HQ4 HQ3 HQ2 HQ1
              have f0 := (S1.out.p.cell 0).trans rfl
              have ku := HKU.out wr S1.out.b
              go_wp2_with fail
              refine ku.mono ?_
              rintro e w4 ⟨rfl, hb4⟩
              have S2 := Lib.hid (S1.out.up hb4)
              clear ku hb4 S1 HKU g3 f0
              cases ub with
              | true =>
                have hF5 := HU1.out rfl
                have g0 := (S2.out.z.cell 0).trans rfl
                have g2 := (S2.out.z.cell 2).trans rfl
                have hownb := S2.out.o
                have hrb := S2.out.hr
                go_wp2_with (at_builtin; go_must (refine wpList_append_own _ rfl _ _ 26 rfl R 29 i0 _ 5 48 Tryz.underlying26 hi hz0 hz1 hz2 rfl (by decide) _ _ _ rfl (hownb.alloc _) ⟨w4.heap.size, 0, none⟩ 1 1 (Fd.cells ⟨6, i, -1, ho, hp⟩) rfl rfl (fun j u h => new_cells _ _ _ j u h) (Fd.one _) (by unfold maxLen; omega) (by omega) (by simp; omega) ?_))
                intro v9 w9 hown9 hg9 _
                have S3 := Lib.hid (S2.out.one ⟨6, i, -1, ho, hp⟩ hown9 hg9)
                clear hown9 hg9 hownb hrb
                rw [← hF5, ← HONN.out] at S3
                clear g0 g2 S2 hF5
                go_wp2
                go_roundg (n - (i + 1))
                case measure => have := HG.out; omega
                case rel => exact ⟨i + 1, by go_num, by omega, Lib.hid rfl, Lib.hid S3.out.b, Lib.hid S3.out.p, Lib.hid (by rw [HON.out]; exact S3.out.o)⟩
              | false =>
                have hF5 := HU2.out rfl
                have HO6 : Hid (O4 = ON) := Lib.hid (by rw [HONN.out, hF5, List.append_nil])
                rw [HO6.out] at S2
                go_wp2
                go_roundg (n - (i + 1))
                case measure => have := HG.out; omega
                case rel => exact ⟨i + 1, by go_num, by omega, Lib.hid rfl, Lib.hid S2.out.b, Lib.hid S2.out.p, Lib.hid (by rw [HON.out]; exact S2.out.o)⟩
    · obtain rfl : i = n := by omega
      have hF : F = lookN cs i := HV2.out
      rw [← hF] at HU
      obtain ⟨A5, c5, rfl, hn5⟩ := own_slice HU.out
      clear HV2
      go_wp2
      go_ret
      exact ⟨A5, c5, rfl, by rw [HRR.out]; exact HU.out, by rw [HRR.out]; exact HB.out⟩
end Go.Proofs.YtjcgkplphiedjaaGreat
