/- A line by a rule: the document's. -/
import Derived.Test.YtjcgkplphiedjaaDoorTG30
namespace Go.Proofs.YtjcgkplphiedjaaDoorT
open Go.RowKit Go.Sort

set_option maxRecDepth 40000 in
set_option maxHeartbeats 16000000 in
theorem derived_ref (x : Co) (M : Option Addr) (m mc : Nat) (ms : List Fa) (LA : Option Addr) (ln lc : Nat) (ls : List Ln) (k : Nat) (hk : k < ls.length) (w : World) (hx : x.ok w) (hf : x.fine)
    (hm : Rd w w.heap.size 2 M m (facells ms)) (hms : ∀ y ∈ ms, y.ok w) (hl : Rd w w.heap.size 5 LA ln (ncells ls)) (hls : ∀ y ∈ ls, Ln.ok w y) (hlf : ∀ y ∈ ls, ∀ z ∈ y.ss, keyK z) :
    Calls Tryd.prog 40 #[.agg x.cells.toArray, .slice M m mc, .slice LA ln lc, .int .i64 k] w fun e w' => e = .returned (.bool (derivedB x ms (ls.take k) ls[k])) ∧ Below w.heap.size w w' := by
  have hll : ls.length = ln := by have h := hl.1; rw [ncells_length] at h; omega
  have hlr : x.rs.length = x.rn := by have h := hx.r.1; rw [rlcells, flat_length Rl.cells 7 (fun _ => rfl)] at h; omega
  have hlb := hl.2.1
  have hkl : k < ln := by omega
  have hmb := hm.2.1
  have hrb := hx.r.2.1
  obtain ⟨V, hV⟩ : ∃ V, V = derivedB x ms (ls.take k) ls[k] := ⟨_, rfl⟩
  rw [← hV]
  unfold derivedB at hV
  have HXO := Lib.hid hx
  have HXF := Lib.hid hf
  have HRS := Lib.hid hx.r
  have HM := Lib.hid hm
  have HMS := Lib.hid hms
  have HL := Lib.hid hl
  have HLS := Lib.hid hls
  have HLF := Lib.hid hlf
  have HLL := Lib.hid hll
  have HLR := Lib.hid hlr
  have HKN := Lib.hid (fun A n c ss W h1 h2 => known_ref x A n c ss W h1 h2)
  have HTE := Lib.hid (fun t A n c ss W h1 h2 h3 h4 => holds_ref x t A n c ss W h1 h2 h3 h4)
  have HUN := Lib.hid (fun p A n c ss W h1 h2 h3 h4 => under_ref x p A n c ss W h1 h2 h3 h4)
  have HPL := Lib.hid (fun p A n c l W h1 h2 h3 => placeF_ref M m mc ms p A n c l W h1 h2 h3)
  have HV := Lib.hid hV
  clear hx hf hm hms hl hls hlf hll hlr hV
  obtain ⟨DA, dn, dc, ds, CA, cn, cc, cs, RA, rn, rc, rs, FA, fn, fc, fs⟩ := x
  dsimp only at HRS HLR HV hrb
  simp only [Co.cells] at HKN HTE HUN
  show Calls Tryd.prog 40 #[.agg #[.slice DA dn dc, .slice CA cn cc, .slice RA rn rc, .slice FA fn fc], .slice M m mc, .slice LA ln lc, .int .i64 k] w _
  go_enter Tryd.func40, Tryd.ntmps40
  go_upto_region 1 with (fail)
  have hb1 := (Below.refl w.heap.size w).alloc (Nat.le_refl _) (.cells #[.slice DA dn dc, .slice CA cn cc, .slice RA rn rc, .slice FA fn fc] 40)
  have h1 := Blk.new w 40 [.slice DA dn dc, .slice CA cn cc, .slice RA rn rc, .slice FA fn fc]
  have hs1 : (w.alloc (.cells #[.slice DA dn dc, .slice CA cn cc, .slice RA rn rc, .slice FA fn fc] 40)).heap.size = w.heap.size + 1 := by simp
  generalize World.alloc _ _ = w1 at *
  have HX1 := Lib.hid (HXO.out.up hb1)
  have HRS1 := Lib.hid (HRS.out.below hb1)
  have HM1 := Lib.hid (HM.out.below hb1)
  have HMS1 := Lib.hid (fun y hy => Fa.ok.up (HMS.out y hy) hb1)
  have HL1 := Lib.hid (HL.out.below hb1)
  have HLS1 := Lib.hid (fun y hy => Ln.ok.up (HLS.out y hy) hb1)
  generalize hRe : w.heap.size = R at *
  have HRR := Lib.hid hRe
  have HB := Lib.hid hb1
  have H1 := Lib.hid h1
  clear hRe HXO HRS HM HMS HL HLS hb1 h1
  obtain ⟨lb, lo, hk0, rfl, hlb0, hc⟩ := HL1.out.at Ln.cells 5 (fun _ => rfl) (by omega) k hkl
  have c0 := hc 0 _ (by omega) rfl
  have c1 := hc 1 _ (by omega) rfl
  have c2 := hc 2 _ (by omega) rfl
  have c3 := hc 3 _ (by omega) rfl
  have c4 := hc 4 _ (by omega) rfl
  rw [Nat.add_zero] at c0
  clear hc
  have hYO := HLS1.out ls[k] (List.getElem_mem hk0)
  have HYF := Lib.hid (HLF.out ls[k] (List.getElem_mem hk0))
  generalize ls[k] = y at *
  obtain ⟨yp, yA, yn, yc, yr, yB, ym, yd, yF, yk, ye, yxs, yss, yfs⟩ := y
  have hylf : yfs.length = yk := by have h : (icells yfs).length = yk * 1 := hYO.f.1; rw [icells_length] at h; omega
  have HYL := Lib.hid hylf
  have hymb := hYO.s.2.1
  have hykb := hYO.f.2.1
  have HYO := Lib.hid hYO
  dsimp only at c0 c1 c2 c3 c4 HV HYF hymb hykb
  clear hYO hylf
  go_upto_region 2 with (fail)
  have hba := (Below.refl w1.heap.size w1).alloc (Nat.le_refl _) (.cells #[.string yp, .slice yA yn yc, .int .i64 yr, .slice yB ym yd, .slice yF yk ye] 66)
  have h2 := Blk.new w1 66 [.string yp, .slice yA yn yc, .int .i64 yr, .slice yB ym yd, .slice yF yk ye]
  have hs2 : (w1.alloc (.cells #[.string yp, .slice yA yn yc, .int .i64 yr, .slice yB ym yd, .slice yF yk ye] 66)).heap.size = R + 1 + 1 := by simp [hs1]
  rw [hs1] at hba h2
  generalize World.alloc _ _ = w2 at *
  have HX2 := Lib.hid (HX1.out.up (hs1 ▸ hba))
  have HRS2 := Lib.hid (HRS1.out.below (hba.mono (by omega)))
  have HM2 := Lib.hid (HM1.out.below (hba.mono (by omega)))
  have HMS2 := Lib.hid (fun y hy => Fa.ok.up (HMS1.out y hy) (hs1 ▸ hba))
  have HL2 := Lib.hid (HL1.out.below (hba.mono (by omega)))
  have HLS2 := Lib.hid (fun y hy => Ln.ok.up (HLS1.out y hy) (hs1 ▸ hba))
  have HYO2 := Lib.hid (Ln.ok.up HYO.out (hs1 ▸ hba))
  have HB2 := Lib.hid (HB.out.trans (hba.mono (by omega)))
  have H12 := Lib.hid (H1.out.below hba (by omega))
  have H22 := Lib.hid h2
  clear HX1 HRS1 HM1 HMS1 HL1 HLS1 HYO HB H1 h2 hba c0 c1 c2 c3 c4 hs1
  have f2 := (H12.out.cell 2).trans rfl
  have g2 := (H22.out.cell 2).trans rfl
  rcases Int.lt_or_le yr 0 with hr0 | hr0
  · have t0 : decide (yr < 0) = true := decide_eq_true hr0
    obtain rfl : V = false := by rw [HV.out, if_pos hr0]
    clear HV
    go_wp2
    go_ret
    exact ⟨by rfl, by rw [HRR.out]; exact HB2.out⟩
  obtain ⟨N, rfl⟩ : ∃ N : Nat, yr = (N : Int) := ⟨yr.toNat, by omega⟩
  have t0 : decide ((N : Int) < 0) = false := decide_eq_false (by omega)
  rcases Nat.lt_or_ge N rn with hN | hN
  case inr =>
    have t1 : decide ((rn : Int) ≤ (N : Int)) = true := decide_eq_true (by omega)
    obtain rfl : V = false := by rw [HV.out, if_neg (by omega), List.getElem?_eq_none (by have := HLR.out; simp; omega)]
    clear HV
    go_wp2
    go_ret
    exact ⟨by rfl, by rw [HRR.out]; exact HB2.out⟩
  have t1 : decide ((rn : Int) ≤ (N : Int)) = false := decide_eq_false (by omega)
  obtain ⟨rb, ro, hkr, rfl, hrb0, hc⟩ := HRS2.out.at Rl.cells 7 (fun _ => rfl) (by omega) N hN
  have c0 := hc 0 _ (by omega) rfl
  have c1 := hc 1 _ (by omega) rfl
  have c2 := hc 2 _ (by omega) rfl
  have c3 := hc 3 _ (by omega) rfl
  have c4 := hc 4 _ (by omega) rfl
  have c5 := hc 5 _ (by omega) rfl
  have c6 := hc 6 _ (by omega) rfl
  rw [Nat.add_zero] at c0
  clear hc
  have hV2 : V = ruleB ⟨DA, dn, dc, ds, CA, cn, cc, cs, some ⟨rb, ro, none⟩, rn, rc, rs, FA, fn, fc, fs⟩ ms (ls.take k) ⟨yp, yA, yn, yc, (N : Int), yB, ym, yd, yF, yk, ye, yxs, yss, yfs⟩ rs[N] := by
    rw [HV.out, if_neg (by omega), show ((N : Int)).toNat = N from rfl, List.getElem?_eq_getElem hkr]
  have hRO := HX2.out.rs rs[N] (List.getElem_mem hkr)
  have hRF := HXF.out.r rs[N] (List.getElem_mem hkr)
  clear HV
  generalize rs[N] = r at *
  obtain ⟨⟨hp, hA, hn, hcc, hxs⟩, PA, pn, pc, ps, TA, tn, tc, ts, NA, nn, nc, ns, VA, vn, vc, vs, cl⟩ := r
  dsimp only at c0 c1 c2 c3 c4 c5 c6
  unfold ruleB at hV2
  dsimp only at hV2
  have HV := Lib.hid hV2
  have HRO := Lib.hid hRO
  have HRF := Lib.hid hRF
  clear hV2 hRO hRF
  go_upto_region 4 with (fail)
  go_upto_region 5 with (fail)
  have hba := (Below.refl w2.heap.size w2).alloc (Nat.le_refl _) (.cells #[.int .i64 hp, .slice hA hn hcc, .slice PA pn pc, .slice TA tn tc, .slice NA nn nc, .slice VA vn vc, .int .i64 cl] 81)
  have h3 := Blk.new w2 81 [.int .i64 hp, .slice hA hn hcc, .slice PA pn pc, .slice TA tn tc, .slice NA nn nc, .slice VA vn vc, .int .i64 cl]
  have hs3 : (w2.alloc (.cells #[.int .i64 hp, .slice hA hn hcc, .slice PA pn pc, .slice TA tn tc, .slice NA nn nc, .slice VA vn vc, .int .i64 cl] 81)).heap.size = R + 1 + 1 + 1 := by simp [hs2]
  rw [hs2] at hba h3
  generalize World.alloc _ _ = w5 at *
  have HX := Lib.hid (HX2.out.up (hs2 ▸ hba))
  have HM5 := Lib.hid (HM2.out.below (hba.mono (by omega)))
  have HMS := Lib.hid (fun y hy => Fa.ok.up (HMS2.out y hy) (hs2 ▸ hba))
  have HL5 := Lib.hid (HL2.out.below (hba.mono (by omega)))
  have HLS := Lib.hid (fun y hy => Ln.ok.up (HLS2.out y hy) (hs2 ▸ hba))
  have HYO := Lib.hid (Ln.ok.up HYO2.out (hs2 ▸ hba))
  have HR5 := Lib.hid (HRO.out.up (hs2 ▸ hba))
  have HB := Lib.hid (HB2.out.trans (hba.mono (by omega)))
  have H1 := Lib.hid (H12.out.below hba (by omega))
  have H2 := Lib.hid (H22.out.below hba (by omega))
  have H3 := Lib.hid h3
  clear HX2 HRS2 HM2 HMS2 HL2 HLS2 HYO2 HB2 H12 H22 h3 hba c0 c1 c2 c3 c4 c5 c6 hs2 HRO t0 t1 f2 g2
  have f0 := (H1.out.cell 0).trans rfl
  have f1 := (H1.out.cell 1).trans rfl
  have f2 := (H1.out.cell 2).trans rfl
  have f3 := (H1.out.cell 3).trans rfl
  have g3 := (H2.out.cell 3).trans rfl
  have g4 := (H2.out.cell 4).trans rfl
  have h2 := (H3.out.cell 2).trans rfl
  have h5 := (H3.out.cell 5).trans rfl
  by_cases hmv : ym = vn
  case neg =>
    have t0 : ((ym : Int) != (vn : Int)) = true := by simpa using (by omega : ¬ (ym : Int) = vn)
    obtain rfl : V = false := by rw [HV.out, if_neg hmv]
    clear HV
    go_wp2
    go_ret
    exact ⟨by rfl, by rw [HRR.out]; exact HB.out⟩
  subst hmv
  have t0 : ((ym : Int) != (ym : Int)) = false := by simp
  have HV2 := Lib.hid (HV.out.trans (if_pos rfl))
  clear HV
  go_wp2_with fail
  refine (HKN.out yB ym yd yss w5 HX.out.c HYO.out.s).mono ?_
  rintro e w6 ⟨rfl, hb6⟩
  have hs6 : R + 1 + 1 + 1 ≤ w6.heap.size := hs3 ▸ hb6.size
  have GB := Lib.hid (HB.out.trans (hb6.mono (by omega)))
  clear f0 f1 f2 f3 g3 g4 h2 h5
  have G2 := Lib.hid (H2.out.below hb6 (by omega))
  have G3 := Lib.hid (H3.out.below hb6 (by omega))
  have g4 := (G2.out.cell 4).trans rfl
  have h2 := (G3.out.cell 2).trans rfl
  cases hkn : knownB cs yss with
  | false =>
    obtain rfl : V = false := by rw [HV2.out, hkn]; rfl
    clear HV2
    go_wp2
    go_ret
    exact ⟨by rfl, by rw [HRR.out]; exact GB.out⟩
  | true =>
  have HV3 := Lib.hid (HV2.out.trans (if_pos hkn))
  clear HV2
  by_cases hkp : yk = pn
  case neg =>
    have t1 : ((yk : Int) != (pn : Int)) = true := by simpa using (by omega : ¬ (yk : Int) = pn)
    obtain rfl : V = false := by rw [HV3.out, if_neg hkp]
    clear HV3
    go_wp2
    go_ret
    exact ⟨by rfl, by rw [HRR.out]; exact GB.out⟩
  subst hkp
  have t1 : ((yk : Int) != (yk : Int)) = false := by simp
  have HV4 := Lib.hid (HV3.out.trans (if_pos rfl))
  have HB6 := Lib.hid (show Below w5.heap.size w5 w6 from hb6)
  clear HV3 hb6
  have hlp : ps.length = yk := by have h : (pncells ps).length = yk * 2 := HR5.out.p.1; rw [pncells, flat_length Pn.cells 2 (fun _ => rfl)] at h; omega
  have hlt' : ts.length = tn := by have h : (tscells ts).length = tn * 5 := HR5.out.t.1; rw [tscells, flat_length Ts.cells 5 (fun _ => rfl)] at h; omega
  have hln' : ns.length = nn := by have h : (pncells ns).length = nn * 2 := HR5.out.n.1; rw [pncells, flat_length Pn.cells 2 (fun _ => rfl)] at h; omega
  have HLP := Lib.hid hlp
  have HLT := Lib.hid hlt'
  have HLN := Lib.hid hln'
  have htb : tn ≤ 9223372036854775807 := HR5.out.t.2.1
  have hnb : nn ≤ 9223372036854775807 := HR5.out.n.2.1
  obtain ⟨P, hP⟩ : ∃ P : Pn × Int → Bool, P = fun q => premB ⟨DA, dn, dc, ds, CA, cn, cc, cs, some ⟨rb, ro, none⟩, rn, rc, rs, FA, fn, fc, fs⟩ (ls.take k) yss q.1 q.2 := ⟨_, rfl⟩
  obtain ⟨Q, hQ⟩ : ∃ Q : Ts → Bool, Q = testB cs yss := ⟨_, rfl⟩
  obtain ⟨E, hE⟩ : ∃ E : Pn → Bool, E = absB ⟨DA, dn, dc, ds, CA, cn, cc, cs, some ⟨rb, ro, none⟩, rn, rc, rs, FA, fn, fc, fs⟩ ms yss := ⟨_, rfl⟩
  obtain ⟨G, hG⟩ : ∃ G : Bool, G = headB ⟨DA, dn, dc, ds, CA, cn, cc, cs, some ⟨rb, ro, none⟩, rn, rc, rs, FA, fn, fc, fs⟩ ⟨yp, yA, yn, yc, (N : Int), yB, ym, yd, yF, yk, ye, yxs, yss, yfs⟩ ⟨hp, hA, hn, hcc, hxs⟩ := ⟨_, rfl⟩
  have HV5 : Hid (V = if (ps.zip yfs).all P = true then (if ts.all Q = true then (if ns.all E = true then G else false) else false) else false) := Lib.hid (by rw [hP, hQ, hE, hG]; exact HV4.out)
  have HP : Hid (∀ p id, P (p, id) = match underS ds cs yss p.p p.xs with | none => false | some (q, l) => if id < 0 then false else match (ls.take k)[id.toNat]? with | none => false | some y => sameB y.p y.xs q l) := Lib.hid (fun p id => by rw [hP]; rfl)
  have HE : Hid (∀ p, E p = match underS ds cs yss p.p p.xs with | none => false | some (q, l) => !memB ms q l) := Lib.hid (fun p => by rw [hE]; rfl)
  have HGG : Hid (G = match underS ds cs yss hp hxs with | none => false | some (q, l) => sameB q l yp yxs) := Lib.hid (by rw [hG]; rfl)
  have HQ := Lib.hid hQ
  clear hP hQ hE hG HV4 hlp hlt' hln'
  go_upto_region 8 with (fail)
  clear t0 t1 g4 h2 G2 G3 hkn GB HKN
  go_loopg [11] yk (fun gk u11 wr => ∃ i : Nat, u11 = .int .i64 i ∧ i ≤ yk ∧ Hid (gk = yk - i) ∧ Hid (Below w5.heap.size w5 wr) ∧ Hid (((ps.zip yfs).take i).all P = true))
  case atStart => exact ⟨0, rfl, Nat.zero_le _, Lib.hid (by omega), HB6, Lib.hid rfl⟩
  case round =>
    clear hs6 HB6
    obtain ⟨i, rfl, hi, HG, GW, HN⟩ := hrel
    have hsr : w5.heap.size ≤ wr.heap.size := GW.out.size
    have G1 := Lib.hid (H1.out.below GW.out (by omega))
    have G2 := Lib.hid (H2.out.below GW.out (by omega))
    have G3 := Lib.hid (H3.out.below GW.out (by omega))
    by_cases hlt : i < yk
    · obtain ⟨b2, o2, hk2, rfl, hb2, hc⟩ := (HR5.out.p.below GW.out).at Pn.cells 2 (fun _ => rfl) (by omega) i hlt
      have c0 := hc 0 _ (by omega) rfl
      have c1 := hc 1 _ (by omega) rfl
      rw [Nat.add_zero] at c0
      clear hc
      obtain ⟨b3, o3, hk3, rfl, hb3, e0⟩ := HYO.out.f.ints i hlt
      have HE0 := Lib.hid e0
      clear e0
      have f0 := (G3.out.cell 2).trans rfl
      have HXr := Lib.hid (HX.out.up GW.out)
      have HPo := Lib.hid ((HR5.out.ps ps[i] (List.getElem_mem hk2)).up GW.out)
      have HSr : Hid (Rd wr wr.heap.size 3 yB ym (kcells yss)) := Lib.hid (HYO.out.s.up GW.out hsr)
      have hpn := HRF.out.2.1 ps[i] (List.getElem_mem hk2)
      have hz : i < (ps.zip yfs).length := by rw [List.length_zip]; have := HLP.out; have := HYL.out; omega
      have hzi : (ps.zip yfs)[i] = (ps[i], yfs[i]) := List.getElem_zip
      have HYES : Hid (P (ps[i], yfs[i]) = true → ((ps.zip yfs).take (i + 1)).all P = true) := Lib.hid fun h => by rw [take_snoc _ i hz, List.all_append, HN.out, List.all_cons, hzi, h]; rfl
      have HNO : Hid (P (ps[i], yfs[i]) = false → V = false) := Lib.hid fun h => by
        rw [HV5.out, if_neg]
        intro ha
        have := List.all_eq_true.1 ha _ (List.getElem_mem hz)
        rw [hzi, h] at this
        cases this
      have HD := Lib.hid (HP.out ps[i] yfs[i])
      clear hzi hz
      generalize ps[i] = p at *
      generalize yfs[i] = id at *
      generalize P (p, id) = D at *
      have HKR := Lib.hid (fun W h1 h2 h3 => HUN.out p yB ym yd yss W h1 h2 h3 hpn)
      obtain ⟨pp, pA, pn', pc', pxs⟩ := p
      dsimp only at c0 c1 HD HKR
      simp only [Pn.cells] at HKR
      generalize underS ds cs yss pp pxs = o at *
      obtain ⟨ob, hob⟩ : ∃ ob, o.isSome = ob := ⟨_, rfl⟩
      unfold UnderSaid at HKR
      rw [hob] at HKR
      have HOB := Lib.hid hob
      clear hob hpn
      go_upto_region 10 with (fail)
      go_cut [12, 13] from 72 to 109 (fun u12 u13 wx => ∃ K q A n c l, u12 = .pointer (some ⟨K, 0, none⟩) ∧ u13 = .bool ob ∧ Hid (Blk wx K 45 [.string q, .slice A n c]) ∧ Hid (Rd wx wx.heap.size 3 A n (kcells l)) ∧ Hid (o = some (q, l) ∨ (o = none ∧ q = ⟨#[]⟩ ∧ l = [])) ∧ Hid (Below wr.heap.size wr wx))
      case first =>
        obtain ⟨C, hCi⟩ : ∃ C : World → Prop, ∀ w', C w' ↔ (Blk w' R 40 [.slice DA dn dc, .slice CA cn cc, .slice (some ⟨rb, ro, none⟩) rn rc, .slice FA fn fc] ∧ Blk w' (R + 1) 66 [.string yp, .slice yA yn yc, .int .i64 (N : Int), .slice yB ym yd, .slice (some ⟨b3, o3, none⟩) yk ye] ∧ Blk w' (R + 1 + 1) 81 [.int .i64 hp, .slice hA hn hcc, .slice (some ⟨b2, o2, none⟩) yk pc, .slice TA tn tc, .slice NA nn nc, .slice VA ym vc, .int .i64 cl] ∧ w'.cell? ⟨b2, o2 + i * 2, none⟩ = some (.int .i64 pp) ∧ w'.cell? ⟨b2, o2 + i * 2 + 1, none⟩ = some (.slice pA pn' pc')) := ⟨_, fun _ => Iff.rfl⟩
        have HCb : Hid (∀ v v', C v → Below (R + 1 + 1 + 1) v v' → C v') := Lib.hid fun v v' h hb => by
          obtain ⟨a0, a1, a2, a3, a4⟩ := (hCi v).1 h
          exact (hCi v').2 ⟨a0.below hb (by omega), a1.below hb (by omega), a2.below hb (by omega), (hb.cell (p := ⟨b2, o2 + i * 2, none⟩) (by show b2 < _; omega)).trans a3, (hb.cell (p := ⟨b2, o2 + i * 2 + 1, none⟩) (by show b2 < _; omega)).trans a4⟩
        have q0 : ∀ q : WC C, q.w.cell? ⟨R, 0, none⟩ = some (.slice DA dn dc) := fun q => ((hCi _).1 q.h).1.cell 0
        have q1 : ∀ q : WC C, q.w.cell? ⟨R, 1, none⟩ = some (.slice CA cn cc) := fun q => ((hCi _).1 q.h).1.cell 1
        have q2 : ∀ q : WC C, q.w.cell? ⟨R, 2, none⟩ = some (.slice (some ⟨rb, ro, none⟩) rn rc) := fun q => ((hCi _).1 q.h).1.cell 2
        have q3 : ∀ q : WC C, q.w.cell? ⟨R, 3, none⟩ = some (.slice FA fn fc) := fun q => ((hCi _).1 q.h).1.cell 3
        have q4 : ∀ q : WC C, q.w.cell? ⟨R + 1, 3, none⟩ = some (.slice yB ym yd) := fun q => ((hCi _).1 q.h).2.1.cell 3
        have q5 : ∀ q : WC C, q.w.cell? ⟨R + 1 + 1, 2, none⟩ = some (.slice (some ⟨b2, o2, none⟩) yk pc) := fun q => ((hCi _).1 q.h).2.2.1.cell 2
        have q6 : ∀ q : WC C, q.w.cell? ⟨b2, o2 + i * 2, none⟩ = some (.int .i64 pp) := fun q => ((hCi _).1 q.h).2.2.2.1
        have q7 : ∀ q : WC C, q.w.cell? ⟨b2, o2 + i * 2 + 1, none⟩ = some (.slice pA pn' pc') := fun q => ((hCi _).1 q.h).2.2.2.2
        have hC0 : C wr := (hCi _).2 ⟨G1.out, G2.out, G3.out, c0, c1⟩
        have hbd : Below wr.heap.size wr wr.drew := (Below.refl _ _).drew
        have hC1 : C wr.drew := HCb.out _ _ hC0 (hbd.mono (by omega))
        have kn : Nonempty (WC C) := ⟨⟨_, hC1⟩⟩
        refine wp_region_frontN C [0, 1, 2, 3, 4, 5, 6, 7] 7 (fun j => decide (j < 15)) (by kernel_rfl) (fun _ _ d _ _ h => by cases d <;> exact h) (by kernel_rfl) hC1 ?_
        simp only [List.map_cons, List.map_nil, List.getD_cons_zero, List.getD_cons_succ]
        repeat (go_big_quiet_step (fail))
        refine wpQuiet_nil ?_
        clear q0 q1 q2 q3 q4 q5 q6 q7 kn hCi
        have HBD := Lib.hid hbd
        have HC1 := Lib.hid hC1
        have HXr2 := Lib.hid (HXr.out.up hbd)
        have HPo2 := Lib.hid (HPo.out.up hbd)
        have HSr2 := Lib.hid (HSr.out.up hbd hbd.size)
        have hsd : R + 1 + 1 + 1 ≤ wr.drew.heap.size := Nat.le_trans (by omega) hbd.size
        have hwz : wr.heap.size ≤ wr.drew.heap.size := hbd.size
        clear hbd hC0 hC1 c0 c1 f0
        generalize wr.drew = v0 at *
        generalize hZ : wr.heap.size = Z at *
        clear hZ
        refine wpN_two (i := 8) (j := 12) (by kernel_rfl) rfl rfl ?_ ?_
        · go_wp2_with fail
          refine (HKR.out v0 HXr2.out HPo2.out HSr2.out).mono ?_
          rintro e v1 ⟨⟨q, A, n, c, l, rfl, hol, ho⟩, hb⟩
          have HOL := Lib.hid (own_rd hol)
          have HOO := Lib.hid ho
          have HC2 := Lib.hid (HCb.out _ _ HC1.out (hb.mono (by omega)))
          have HB2 := Lib.hid (HBD.out.trans (hb.mono hwz))
          have hs1 : v0.heap.size ≤ v1.heap.size := hb.size
          clear hb hol ho
          go_wp2
          refine tailN_normal HC2.out ?_
          have kn : Nonempty (WC C) := ⟨⟨_, HC2.out⟩⟩
          refine wpN_frontW C [9, 10, 11] 3 _ (fun _ _ d _ _ h => by cases d <;> exact h) (by kernel_rfl) HC2.out ?_
          simp only [List.map_cons, List.map_nil, List.getD_cons_zero, List.getD_cons_succ]
          repeat (go_big_quiet_step (fail))
          refine wpQuiet_nil ?_
          clear kn
          have HK := Lib.hid (Blk.new v1 45 [.string ⟨#[]⟩, .slice none 0 0])
          have hba := (Below.refl v1.heap.size v1).alloc (Nat.le_refl _) (.cells #[.string ⟨#[]⟩, .slice none 0 0] 45)
          have HC4 := Lib.hid (HCb.out _ _ HC2.out (hba.mono (by omega)))
          have HB4 := Lib.hid (HB2.out.trans (hba.mono (by omega)))
          have HOL2 := Lib.hid (HOL.out.below hba)
          have hKZ : Z ≤ v1.heap.size := by omega
          have hKR : R + 1 + 1 + 1 ≤ v1.heap.size := by omega
          clear hba HC2 HB2 HOL
          refine wpN_one (i := 12) (by kernel_rfl) rfl ?_
          go_wp2
          refine tailN_normal HC4.out ?_
          have hvs : v1.heap.size < (v1.alloc (.cells #[.string ⟨#[]⟩, .slice none 0 0] 45)).heap.size := by simp
          generalize World.alloc _ _ = v3 at *
          generalize v1.heap.size = K at *
          have HOL3 : Hid (Rd v3 K 3 A n (kcells l)) := HOL2
          refine wpN_one (i := 13) (by kernel_rfl) rfl ?_
          have s0 := HK.out.frozen 0
          have s1 := HK.out.frozen 1
          have r0 := (HK.out.cell 0).trans rfl
          have r1 := (HK.out.cell 1).trans rfl
          have hk := Lib.hid ((HK.out.set_ 0 (.string q)).set_ 1 (.slice A n c))
          have hb4 := Lib.hid ((HB4.out.setCell (p := ⟨K, 0, none⟩) hKZ (.string q)).setCell (p := ⟨K, 1, none⟩) hKZ (.slice A n c))
          have hc5 := Lib.hid (HCb.out _ _ HC4.out (((Below.refl (R + 1 + 1 + 1) v3).setCell (p := ⟨K, 0, none⟩) hKR (.string q)).setCell (p := ⟨K, 1, none⟩) hKR (.slice A n c)))
          have hsz9 : ((v3.setCell ⟨K, 0, none⟩ (.string q)).setCell ⟨K, 1, none⟩ (.slice A n c)).heap.size = v3.heap.size := by simp [World.setCell]
          have hrd : Hid (Rd ((v3.setCell ⟨K, 0, none⟩ (.string q)).setCell ⟨K, 1, none⟩ (.slice A n c)) ((v3.setCell ⟨K, 0, none⟩ (.string q)).setCell ⟨K, 1, none⟩ (.slice A n c)).heap.size 3 A n (kcells l)) := Lib.hid (HOL3.out.up (((Below.refl K v3).setCell (p := ⟨K, 0, none⟩) (Nat.le_refl _) (.string q)).setCell (p := ⟨K, 1, none⟩) (Nat.le_refl _) (.slice A n c)) (by rw [hsz9]; omega))
          clear hsz9
          go_wp2
          generalize World.setCell (World.setCell _ _ _) _ _ = v4 at *
          refine tailN_normal hc5.out ?_
          refine wpN_one (i := 14) (by kernel_rfl) rfl ?_
          clear s0 s1 r0 r1
          go_wp2
          refine tailN_normal hc5.out ?_
          refine wpN_none (by kernel_rfl) ?_
          go_wp2
          go_meet
          exact ⟨K, q, A, n, c, l, rfl, rfl, hk, hrd, HOO, hb4⟩
        · have HK := Lib.hid (Blk.new v0 45 [.string ⟨#[]⟩, .slice none 0 0])
          have hba := (Below.refl v0.heap.size v0).alloc (Nat.le_refl _) (.cells #[.string ⟨#[]⟩, .slice none 0 0] 45)
          have HC2 := Lib.hid (HCb.out _ _ HC1.out (hba.mono (by omega)))
          have HB2 := Lib.hid (HBD.out.trans (hba.mono (by omega)))
          have HXr3 := Lib.hid (HXr2.out.up hba)
          have HPo3 := Lib.hid (HPo2.out.up hba)
          have HSr3 := Lib.hid (HSr2.out.up hba hba.size)
          clear hba
          go_wp2
          refine tailN_normal HC2.out ?_
          have hv2 : v0.heap.size < (v0.alloc (.cells #[.string ⟨#[]⟩, .slice none 0 0] 45)).heap.size := by simp
          generalize World.alloc _ _ = v2 at *
          generalize hKe : v0.heap.size = K at *
          clear hKe
          refine wpN_one (i := 8) (by kernel_rfl) rfl ?_
          go_wp2_with fail
          refine (HKR.out v2 HXr3.out HPo3.out HSr3.out).mono ?_
          rintro e v3 ⟨⟨q, A, n, c, l, rfl, hol, ho⟩, hb⟩
          have HC4 := Lib.hid (HCb.out _ _ HC2.out (hb.mono (by omega)))
          have HB4 := Lib.hid (HB2.out.trans (hb.mono (by omega)))
          have HK := Lib.hid (HK.out.below hb hv2)
          have HOW := Lib.hid hol
          have HOO := Lib.hid ho
          have hvs : K < v3.heap.size := Nat.lt_of_lt_of_le hv2 hb.size
          clear hb hol ho
          go_wp2
          refine tailN_normal HC4.out ?_
          have kn : Nonempty (WC C) := ⟨⟨_, HC4.out⟩⟩
          refine wpN_frontW C [9, 10, 11] 2 _ (fun _ _ d _ _ h => by cases d <;> exact h) (by kernel_rfl) HC4.out ?_
          simp only [List.map_cons, List.map_nil, List.getD_cons_zero, List.getD_cons_succ]
          repeat (go_big_quiet_step (fail))
          refine wpQuiet_nil ?_
          clear kn
          have hKZ : Z ≤ K := by omega
          have hKR : R + 1 + 1 + 1 ≤ K := by omega
          refine wpN_one (i := 13) (by kernel_rfl) rfl ?_
          have s0 := HK.out.frozen 0
          have s1 := HK.out.frozen 1
          have r0 := (HK.out.cell 0).trans rfl
          have r1 := (HK.out.cell 1).trans rfl
          have hk := Lib.hid ((HK.out.set_ 0 (.string q)).set_ 1 (.slice A n c))
          have hb4 := Lib.hid ((HB4.out.setCell (p := ⟨K, 0, none⟩) hKZ (.string q)).setCell (p := ⟨K, 1, none⟩) hKZ (.slice A n c))
          have hc5 := Lib.hid (HCb.out _ _ HC4.out (((Below.refl (R + 1 + 1 + 1) v3).setCell (p := ⟨K, 0, none⟩) hKR (.string q)).setCell (p := ⟨K, 1, none⟩) hKR (.slice A n c)))
          have ho5 := own_setCell_blk HOW.out HK.out (by decide) 0 (.string q)
          have hrd := Lib.hid (own_rd (own_setCell_blk ho5 (HK.out.set_ 0 (.string q)) (by decide) 1 (.slice A n c)))
          clear ho5
          go_wp2
          generalize World.setCell (World.setCell _ _ _) _ _ = v4 at *
          refine tailN_normal hc5.out ?_
          refine wpN_one (i := 14) (by kernel_rfl) rfl ?_
          clear s0 s1 r0 r1
          go_wp2
          refine tailN_normal hc5.out ?_
          refine wpN_none (by kernel_rfl) ?_
          go_wp2
          go_meet
          exact ⟨K, q, A, n, c, l, rfl, rfl, hk, hrd, HOO, hb4⟩
      case rest =>
        clear HKR HPo HXr HSr f0 c0 c1
        obtain ⟨K, q, A, n, c, l, rfl, rfl, HKX, HRX, HO, HBX⟩ := hcut
        have hsc : wr.heap.size ≤ wc.heap.size := HBX.out.size
        have HW := Lib.hid (GW.out.trans (HBX.out.mono hsr))
        have X2 := Lib.hid (G2.out.below HBX.out (by omega))
        have e4 := (X2.out.cell 4).trans rfl
        have e0 := (HW.out.cell (p := ⟨b3, o3 + i, none⟩) (by show b3 < _; omega)).trans HE0.out
        have HXB := Lib.hid (HB.out.trans (HW.out.mono (by omega)))
        clear G1 G2 G3 HBX X2
        go_upto_region 12 with (fail)
        clear e4 e0
        have k0 := cell_regrown ((HKX.out.cell 0).trans rfl)
        have k1 := cell_regrown ((HKX.out.cell 1).trans rfl)
        have hwc : w5.heap.size ≤ wc.heap.size := HW.out.size
        rcases HO.out with ho | ⟨ho, rfl, rfl⟩
        · subst ho
          obtain rfl : ob = true := HOB.out.symm
          have HD2 : Hid (D = if id < 0 then false else match (ls.take k)[id.toNat]? with | none => false | some y => sameB y.p y.xs q l) := Lib.hid HD.out
          clear HD HO HOB
          rcases Int.lt_or_le id 0 with hid | hid
          · have t2 : decide (id < 0) = true := decide_eq_true hid
            obtain rfl : V = false := HNO.out (by rw [HD2.out, if_pos hid])
            clear HD2 HNO HYES
            refine wp_region_quiet_below (by kernel_rfl) (by kernel_rfl) ?_
            repeat (go_big_quiet_step (fail))
            refine wpQuiet_nil ?_
            intro w7 hw7
            obtain ⟨⟨dq, osq⟩, rfl⟩ := hw7
            have HB7 := Lib.hid (HXB.out.trans ((below_regrown wc dq osq).mono (by omega)))
            clear k0 k1
            go_wp2
            go_ret
            exact ⟨by rfl, by rw [HRR.out]; exact HB7.out⟩
          obtain ⟨J, rfl⟩ : ∃ J : Nat, id = (J : Int) := ⟨id.toNat, by omega⟩
          have t2 : decide ((J : Int) < 0) = false := decide_eq_false (by omega)
          rcases Nat.lt_or_ge J k with hJ | hJ
          case inr =>
            have t3 : decide ((k : Int) ≤ (J : Int)) = true := decide_eq_true (by omega)
            obtain rfl : V = false := HNO.out (by rw [HD2.out, if_neg (by omega), show ((J : Int)).toNat = J from rfl, List.getElem?_eq_none (by rw [List.length_take]; omega)])
            clear HD2 HNO HYES
            refine wp_region_quiet_below (by kernel_rfl) (by kernel_rfl) ?_
            repeat (go_big_quiet_step (fail))
            refine wpQuiet_nil ?_
            intro w7 hw7
            obtain ⟨⟨dq, osq⟩, rfl⟩ := hw7
            have HB7 := Lib.hid (HXB.out.trans ((below_regrown wc dq osq).mono (by omega)))
            clear k0 k1
            go_wp2
            go_ret
            exact ⟨by rfl, by rw [HRR.out]; exact HB7.out⟩
          have t3 : decide ((k : Int) ≤ (J : Int)) = false := decide_eq_false (by omega)
          have t4 : ¬ k ≤ J := by omega
          have hJn : J < ln := by omega
          obtain ⟨lb2, lo2, hkJ, hle, hlb2, hc⟩ := HL5.out.at Ln.cells 5 (fun _ => rfl) (by omega) J hJn
          cases hle
          have d0 := (HW.out.cell (p := ⟨lb, lo + J * 5, none⟩) (by show lb < _; omega)).trans (hc 0 _ (by omega) rfl)
          have d1 := ((HW.out.cell (p := ⟨lb, lo + J * 5 + 1, none⟩) (by show lb < _; omega)).trans (hc 1 _ (by omega) rfl))
          have hyJ := (HLS.out ls[J] (List.getElem_mem hkJ)).a
          have hget : (ls.take k)[((J : Nat) : Int).toNat]? = some ls[J] := by rw [show ((J : Nat) : Int).toNat = J from rfl, List.getElem?_take_of_lt hJ, List.getElem?_eq_getElem hkJ]
          have HD3 : Hid (D = sameB ls[J].p ls[J].xs q l) := Lib.hid (by rw [HD2.out, if_neg (by omega), hget])
          clear HD2 hc hget
          generalize ls[J] = yj at *
          obtain ⟨jp, jA, jn, jc, jr, jB, jm, jd, jF, jk, je, jxs, jss, jfs⟩ := yj
          dsimp only at d0 d1 hyJ HD3
          have HYJ := Lib.hid (hyJ.up HW.out hwc)
          have HSF := Lib.hid (fun W (hb : Below wc.heap.size wc W) => sameF jp q jA A jn jc n c jxs l W (HYJ.out.up hb hb.size) (HRX.out.up hb hb.size))
          rw [← HD3.out] at HSF
          clear HD3 hyJ
          have kd0 := cell_regrown d0
          have kd1 := cell_regrown d1
          have cA : ∀ d os, Calls Tryd.prog 36 #[.agg #[.string jp, .slice jA jn jc], .agg #[.string q, .slice A n c]] (grow (redrawn wc d) os) fun e w'' => e = .returned (.bool D) ∧ ∃ p : Regrown, w'' = grow (redrawn wc p.d) p.os :=
            fun d os => Calls.regrown_of (HSF.out _ (below_regrown wc d os))
          clear d0 d1
          refine wp_region_quiet_below (by kernel_rfl) (by kernel_rfl) ?_
          repeat (go_big_quiet_step (exact cA _ _))
          refine wpQuiet_nil ?_
          intro w7 hw7
          obtain ⟨⟨dq, osq⟩, rfl⟩ := hw7
          have HB7 := Lib.hid (HXB.out.trans ((below_regrown wc dq osq).mono (by omega)))
          have HW7 := Lib.hid (HW.out.trans ((below_regrown wc dq osq).mono hwc))
          clear k0 k1 kd0 kd1 cA
          cases D with
          | true =>
            have HY := Lib.hid (HYES.out rfl)
            clear HYES HNO HSF
            go_wp2
            go_roundg (yk - (i + 1))
            case measure => have := HG.out; omega
            case rel => exact ⟨i + 1, by go_num, by omega, Lib.hid rfl, HW7, HY⟩
          | false =>
            obtain rfl : V = false := HNO.out rfl
            clear HYES HNO HSF
            go_wp2
            go_ret
            exact ⟨by rfl, by rw [HRR.out]; exact HB7.out⟩
        · subst ho
          obtain rfl : ob = false := HOB.out.symm
          obtain rfl : V = false := HNO.out HD.out
          clear HD HNO HYES HO HOB
          refine wp_region_quiet_below (by kernel_rfl) (by kernel_rfl) ?_
          repeat (go_big_quiet_step (fail))
          refine wpQuiet_nil ?_
          intro w7 hw7
          obtain ⟨⟨dq, osq⟩, rfl⟩ := hw7
          have HB7 := Lib.hid (HXB.out.trans ((below_regrown wc dq osq).mono (by omega)))
          clear k0 k1
          go_wp2
          go_ret
          exact ⟨by rfl, by rw [HRR.out]; exact HB7.out⟩
    · obtain rfl : yk = i := by omega
      have hall : (ps.zip yfs).take yk = ps.zip yfs := List.take_of_length_le (by rw [List.length_zip]; have := HLP.out; omega)
      rw [hall] at HN
      have HV6 := Lib.hid (HV5.out.trans (if_pos HN.out))
      clear HN hall HV5 HP HG hi hlt
      have f0 := (G3.out.cell 2).trans rfl
      go_upto_region 15 with (fail)
      clear f0
      go_loopg [15] tn (fun gk u15 wr => ∃ j : Nat, u15 = .int .i64 j ∧ j ≤ tn ∧ Hid (gk = tn - j) ∧ Hid (Below w5.heap.size w5 wr) ∧ Hid ((ts.take j).all Q = true))
      case atStart => exact ⟨0, rfl, Nat.zero_le _, Lib.hid (by omega), GW, Lib.hid rfl⟩
      case round =>
        clear GW G1 G2 G3 hsr
        obtain ⟨j, rfl, hj, HG, GW, HN⟩ := hrel
        have hsr : w5.heap.size ≤ wr.heap.size := GW.out.size
        have G1 := Lib.hid (H1.out.below GW.out (by omega))
        have G2 := Lib.hid (H2.out.below GW.out (by omega))
        have G3 := Lib.hid (H3.out.below GW.out (by omega))
        have h3 := (G3.out.cell 3).trans rfl
        by_cases hlt : j < tn
        · obtain ⟨b2, o2, hk2, rfl, hb2, hc⟩ := (HR5.out.t.below GW.out).at Ts.cells 5 (fun _ => rfl) (by omega) j hlt
          have c0 := cell_regrown (hc 0 _ (by omega) rfl)
          have c1 := cell_regrown (hc 1 _ (by omega) rfl)
          have c2 := cell_regrown (hc 2 _ (by omega) rfl)
          have c3 := cell_regrown (hc 3 _ (by omega) rfl)
          have c4 := cell_regrown (hc 4 _ (by omega) rfl)
          rw [Nat.add_zero] at c0
          clear hc
          have HYES : Hid (Q ts[j] = true → (ts.take (j + 1)).all Q = true) := Lib.hid fun h => by rw [take_snoc ts j hk2, List.all_append, HN.out, List.all_cons, h]; rfl
          have HNO : Hid (Q ts[j] = false → V = false) := Lib.hid fun h => by
            rw [HV6.out, if_neg]
            intro ha
            have := List.all_eq_true.1 ha _ (List.getElem_mem hk2)
            rw [h] at this
            cases this
          have HTT := Lib.hid (fun W (hb : Below wr.heap.size wr W) => HTE.out ts[j] yB ym yd yss W ((HX.out.up GW.out).up hb).c ((HYO.out.s.up GW.out hsr).up hb hb.size) HXF.out.c HYF.out)
          have HQ1 : Hid (testB cs yss ts[j] = Q ts[j]) := Lib.hid (by rw [HQ.out])
          generalize ts[j] = t at *
          rw [HQ1.out] at HTT
          clear HQ1
          generalize Q t = D at *
          obtain ⟨op, ⟨tl1, tl2⟩, ⟨tr1, tr2⟩⟩ := t
          dsimp only at c0 c1 c2 c3 c4
          simp only [Ts.cells] at HTT
          have cA : ∀ d os, Calls Tryd.prog 65 #[.agg #[.slice DA dn dc, .slice CA cn cc, .slice (some ⟨rb, ro, none⟩) rn rc, .slice FA fn fc], .agg #[.int .i64 op, .bool tl1, .int .i64 tl2, .bool tr1, .int .i64 tr2], .slice yB ym yd] (grow (redrawn wr d) os) fun e w'' => e = .returned (.bool D) ∧ ∃ p : Regrown, w'' = grow (redrawn wr p.d) p.os :=
            fun d os => Calls.regrown_of (HTT.out _ (below_regrown wr d os))
          go_upto_region 17 with (fail)
          have f0 := cell_regrown ((G1.out.cell 0).trans rfl)
          have f1 := cell_regrown ((G1.out.cell 1).trans rfl)
          have f2 := cell_regrown ((G1.out.cell 2).trans rfl)
          have f3 := cell_regrown ((G1.out.cell 3).trans rfl)
          have g3 := cell_regrown ((G2.out.cell 3).trans rfl)
          have k3 := cell_regrown h3
          clear h3
          refine wp_region_quiet_below (by kernel_rfl) (by kernel_rfl) ?_
          repeat (go_big_quiet_step (exact cA _ _))
          refine wpQuiet_nil ?_
          intro w7 hw7
          obtain ⟨⟨dq, osq⟩, rfl⟩ := hw7
          have HW7 := Lib.hid (GW.out.trans ((below_regrown wr dq osq).mono hsr))
          have HB7 := Lib.hid (HB.out.trans (HW7.out.mono (by omega)))
          clear f0 f1 f2 f3 g3 k3 c0 c1 c2 c3 c4 cA
          cases D with
          | true =>
            have HY := Lib.hid (HYES.out rfl)
            clear HYES HNO HTT
            go_wp2
            go_roundg (tn - (j + 1))
            case measure => have := HG.out; omega
            case rel => exact ⟨j + 1, by go_num, by omega, Lib.hid rfl, HW7, HY⟩
          | false =>
            obtain rfl : V = false := HNO.out rfl
            clear HYES HNO HTT
            go_wp2
            go_ret
            exact ⟨by rfl, by rw [HRR.out]; exact HB7.out⟩
        · obtain rfl : tn = j := by omega
          have hall : ts.take tn = ts := List.take_of_length_le (by have := HLT.out; omega)
          rw [hall] at HN
          have HV7 := Lib.hid (HV6.out.trans (if_pos HN.out))
          clear HN hall HV6 HQ HTE HG hlt hj
          go_upto_region 20 with (fail)
          go_loopg [16] nn (fun gk u16 wr => ∃ i : Nat, u16 = .int .i64 i ∧ i ≤ nn ∧ Hid (gk = nn - i) ∧ Hid (Below w5.heap.size w5 wr) ∧ Hid ((ns.take i).all E = true))
          case atStart => exact ⟨0, rfl, Nat.zero_le _, Lib.hid (by omega), GW, Lib.hid rfl⟩
          case round =>
            clear GW G1 G2 G3 hsr h3
            obtain ⟨i, rfl, hi, HG, GW, HN⟩ := hrel
            have hsr : w5.heap.size ≤ wr.heap.size := GW.out.size
            have G1 := Lib.hid (H1.out.below GW.out (by omega))
            have G2 := Lib.hid (H2.out.below GW.out (by omega))
            have G3 := Lib.hid (H3.out.below GW.out (by omega))
            have f0 := (G3.out.cell 4).trans rfl
            by_cases hlt : i < nn
            · obtain ⟨b2, o2, hk2, rfl, hb2, hc⟩ := (HR5.out.n.below GW.out).at Pn.cells 2 (fun _ => rfl) (by omega) i hlt
              have c0 := hc 0 _ (by omega) rfl
              have c1 := hc 1 _ (by omega) rfl
              rw [Nat.add_zero] at c0
              clear hc
              have HXr := Lib.hid (HX.out.up GW.out)
              have HPo := Lib.hid ((HR5.out.ns ns[i] (List.getElem_mem hk2)).up GW.out)
              have HSr : Hid (Rd wr wr.heap.size 3 yB ym (kcells yss)) := Lib.hid (HYO.out.s.up GW.out hsr)
              have hpn := HRF.out.2.2 ns[i] (List.getElem_mem hk2)
              have HYES : Hid (E ns[i] = true → (ns.take (i + 1)).all E = true) := Lib.hid fun h => by rw [take_snoc ns i hk2, List.all_append, HN.out, List.all_cons, h]; rfl
              have HNO : Hid (E ns[i] = false → V = false) := Lib.hid fun h => by
                rw [HV7.out, if_neg]
                intro ha
                have := List.all_eq_true.1 ha _ (List.getElem_mem hk2)
                rw [h] at this
                cases this
              have HD := Lib.hid (HE.out ns[i])
              generalize ns[i] = p at *
              generalize E p = D at *
              have HKR := Lib.hid (fun W h1 h2 h3 => HUN.out p yB ym yd yss W h1 h2 h3 hpn)
              obtain ⟨pp, pA, pn', pc', pxs⟩ := p
              dsimp only at c0 c1 HD HKR
              simp only [Pn.cells] at HKR
              generalize underS ds cs yss pp pxs = o at *
              obtain ⟨ob, hob⟩ : ∃ ob, o.isSome = ob := ⟨_, rfl⟩
              unfold UnderSaid at HKR
              rw [hob] at HKR
              have HOB := Lib.hid hob
              clear hob hpn
              go_upto_region 22 with (fail)
              go_cut [17, 18] from 134 to 153 (fun u17 u18 wx => ∃ K q A n c l, u17 = .pointer (some ⟨K, 0, none⟩) ∧ u18 = .bool ob ∧ Hid (Blk wx K 45 [.string q, .slice A n c]) ∧ Hid (Rd wx wx.heap.size 3 A n (kcells l)) ∧ Hid (o = some (q, l) ∨ (o = none ∧ q = ⟨#[]⟩ ∧ l = [])) ∧ Hid (Below wr.heap.size wr wx))
              case first =>
                obtain ⟨C, hCi⟩ : ∃ C : World → Prop, ∀ w', C w' ↔ (Blk w' R 40 [.slice DA dn dc, .slice CA cn cc, .slice (some ⟨rb, ro, none⟩) rn rc, .slice FA fn fc] ∧ Blk w' (R + 1) 66 [.string yp, .slice yA yn yc, .int .i64 (N : Int), .slice yB ym yd, .slice yF yk ye] ∧ Blk w' (R + 1 + 1) 81 [.int .i64 hp, .slice hA hn hcc, .slice PA yk pc, .slice TA tn tc, .slice (some ⟨b2, o2, none⟩) nn nc, .slice VA ym vc, .int .i64 cl] ∧ w'.cell? ⟨b2, o2 + i * 2, none⟩ = some (.int .i64 pp) ∧ w'.cell? ⟨b2, o2 + i * 2 + 1, none⟩ = some (.slice pA pn' pc')) := ⟨_, fun _ => Iff.rfl⟩
                have HCb : Hid (∀ v v', C v → Below (R + 1 + 1 + 1) v v' → C v') := Lib.hid fun v v' h hb => by
                  obtain ⟨a0, a1, a2, a3, a4⟩ := (hCi v).1 h
                  exact (hCi v').2 ⟨a0.below hb (by omega), a1.below hb (by omega), a2.below hb (by omega), (hb.cell (p := ⟨b2, o2 + i * 2, none⟩) (by show b2 < _; omega)).trans a3, (hb.cell (p := ⟨b2, o2 + i * 2 + 1, none⟩) (by show b2 < _; omega)).trans a4⟩
                have q0 : ∀ q : WC C, q.w.cell? ⟨R, 0, none⟩ = some (.slice DA dn dc) := fun q => ((hCi _).1 q.h).1.cell 0
                have q1 : ∀ q : WC C, q.w.cell? ⟨R, 1, none⟩ = some (.slice CA cn cc) := fun q => ((hCi _).1 q.h).1.cell 1
                have q2 : ∀ q : WC C, q.w.cell? ⟨R, 2, none⟩ = some (.slice (some ⟨rb, ro, none⟩) rn rc) := fun q => ((hCi _).1 q.h).1.cell 2
                have q3 : ∀ q : WC C, q.w.cell? ⟨R, 3, none⟩ = some (.slice FA fn fc) := fun q => ((hCi _).1 q.h).1.cell 3
                have q4 : ∀ q : WC C, q.w.cell? ⟨R + 1, 3, none⟩ = some (.slice yB ym yd) := fun q => ((hCi _).1 q.h).2.1.cell 3
                have q5 : ∀ q : WC C, q.w.cell? ⟨R + 1 + 1, 4, none⟩ = some (.slice (some ⟨b2, o2, none⟩) nn nc) := fun q => ((hCi _).1 q.h).2.2.1.cell 4
                have q6 : ∀ q : WC C, q.w.cell? ⟨b2, o2 + i * 2, none⟩ = some (.int .i64 pp) := fun q => ((hCi _).1 q.h).2.2.2.1
                have q7 : ∀ q : WC C, q.w.cell? ⟨b2, o2 + i * 2 + 1, none⟩ = some (.slice pA pn' pc') := fun q => ((hCi _).1 q.h).2.2.2.2
                have hC0 : C wr := (hCi _).2 ⟨G1.out, G2.out, G3.out, c0, c1⟩
                have hbd : Below wr.heap.size wr wr.drew := (Below.refl _ _).drew
                have hC1 : C wr.drew := HCb.out _ _ hC0 (hbd.mono (by omega))
                have kn : Nonempty (WC C) := ⟨⟨_, hC1⟩⟩
                refine wp_region_frontN C [0, 1, 2, 3, 4, 5, 6, 7] 7 (fun j => decide (j < 15)) (by kernel_rfl) (fun _ _ d _ _ h => by cases d <;> exact h) (by kernel_rfl) hC1 ?_
                simp only [List.map_cons, List.map_nil, List.getD_cons_zero, List.getD_cons_succ]
                repeat (go_big_quiet_step (fail))
                refine wpQuiet_nil ?_
                clear q0 q1 q2 q3 q4 q5 q6 q7 kn hCi
                have HBD := Lib.hid hbd
                have HC1 := Lib.hid hC1
                have HXr2 := Lib.hid (HXr.out.up hbd)
                have HPo2 := Lib.hid (HPo.out.up hbd)
                have HSr2 := Lib.hid (HSr.out.up hbd hbd.size)
                have hsd : R + 1 + 1 + 1 ≤ wr.drew.heap.size := Nat.le_trans (by omega) hbd.size
                have hwz : wr.heap.size ≤ wr.drew.heap.size := hbd.size
                clear hbd hC0 hC1 c0 c1 f0
                generalize wr.drew = v0 at *
                generalize hZ : wr.heap.size = Z at *
                clear hZ
                refine wpN_two (i := 8) (j := 12) (by kernel_rfl) rfl rfl ?_ ?_
                · go_wp2_with fail
                  refine (HKR.out v0 HXr2.out HPo2.out HSr2.out).mono ?_
                  rintro e v1 ⟨⟨q, A, n, c, l, rfl, hol, ho⟩, hb⟩
                  have HOL := Lib.hid (own_rd hol)
                  have HOO := Lib.hid ho
                  have HC2 := Lib.hid (HCb.out _ _ HC1.out (hb.mono (by omega)))
                  have HB2 := Lib.hid (HBD.out.trans (hb.mono hwz))
                  have hs1 : v0.heap.size ≤ v1.heap.size := hb.size
                  clear hb hol ho
                  go_wp2
                  refine tailN_normal HC2.out ?_
                  have kn : Nonempty (WC C) := ⟨⟨_, HC2.out⟩⟩
                  refine wpN_frontW C [9, 10, 11] 3 _ (fun _ _ d _ _ h => by cases d <;> exact h) (by kernel_rfl) HC2.out ?_
                  simp only [List.map_cons, List.map_nil, List.getD_cons_zero, List.getD_cons_succ]
                  repeat (go_big_quiet_step (fail))
                  refine wpQuiet_nil ?_
                  clear kn
                  have HK := Lib.hid (Blk.new v1 45 [.string ⟨#[]⟩, .slice none 0 0])
                  have hba := (Below.refl v1.heap.size v1).alloc (Nat.le_refl _) (.cells #[.string ⟨#[]⟩, .slice none 0 0] 45)
                  have HC4 := Lib.hid (HCb.out _ _ HC2.out (hba.mono (by omega)))
                  have HB4 := Lib.hid (HB2.out.trans (hba.mono (by omega)))
                  have HOL2 := Lib.hid (HOL.out.below hba)
                  have hKZ : Z ≤ v1.heap.size := by omega
                  have hKR : R + 1 + 1 + 1 ≤ v1.heap.size := by omega
                  clear hba HC2 HB2 HOL
                  refine wpN_one (i := 12) (by kernel_rfl) rfl ?_
                  go_wp2
                  refine tailN_normal HC4.out ?_
                  have hvs : v1.heap.size < (v1.alloc (.cells #[.string ⟨#[]⟩, .slice none 0 0] 45)).heap.size := by simp
                  generalize World.alloc _ _ = v3 at *
                  generalize v1.heap.size = K at *
                  have HOL3 : Hid (Rd v3 K 3 A n (kcells l)) := HOL2
                  refine wpN_one (i := 13) (by kernel_rfl) rfl ?_
                  have s0 := HK.out.frozen 0
                  have s1 := HK.out.frozen 1
                  have r0 := (HK.out.cell 0).trans rfl
                  have r1 := (HK.out.cell 1).trans rfl
                  have hk := Lib.hid ((HK.out.set_ 0 (.string q)).set_ 1 (.slice A n c))
                  have hb4 := Lib.hid ((HB4.out.setCell (p := ⟨K, 0, none⟩) hKZ (.string q)).setCell (p := ⟨K, 1, none⟩) hKZ (.slice A n c))
                  have hc5 := Lib.hid (HCb.out _ _ HC4.out (((Below.refl (R + 1 + 1 + 1) v3).setCell (p := ⟨K, 0, none⟩) hKR (.string q)).setCell (p := ⟨K, 1, none⟩) hKR (.slice A n c)))
                  have hsz9 : ((v3.setCell ⟨K, 0, none⟩ (.string q)).setCell ⟨K, 1, none⟩ (.slice A n c)).heap.size = v3.heap.size := by simp [World.setCell]
                  have hrd : Hid (Rd ((v3.setCell ⟨K, 0, none⟩ (.string q)).setCell ⟨K, 1, none⟩ (.slice A n c)) ((v3.setCell ⟨K, 0, none⟩ (.string q)).setCell ⟨K, 1, none⟩ (.slice A n c)).heap.size 3 A n (kcells l)) := Lib.hid (HOL3.out.up (((Below.refl K v3).setCell (p := ⟨K, 0, none⟩) (Nat.le_refl _) (.string q)).setCell (p := ⟨K, 1, none⟩) (Nat.le_refl _) (.slice A n c)) (by rw [hsz9]; omega))
                  clear hsz9
                  go_wp2
                  generalize World.setCell (World.setCell _ _ _) _ _ = v4 at *
                  refine tailN_normal hc5.out ?_
                  refine wpN_one (i := 14) (by kernel_rfl) rfl ?_
                  clear s0 s1 r0 r1
                  go_wp2
                  refine tailN_normal hc5.out ?_
                  refine wpN_none (by kernel_rfl) ?_
                  go_wp2
                  go_meet
                  exact ⟨K, q, A, n, c, l, rfl, rfl, hk, hrd, HOO, hb4⟩
                · have HK := Lib.hid (Blk.new v0 45 [.string ⟨#[]⟩, .slice none 0 0])
                  have hba := (Below.refl v0.heap.size v0).alloc (Nat.le_refl _) (.cells #[.string ⟨#[]⟩, .slice none 0 0] 45)
                  have HC2 := Lib.hid (HCb.out _ _ HC1.out (hba.mono (by omega)))
                  have HB2 := Lib.hid (HBD.out.trans (hba.mono (by omega)))
                  have HXr3 := Lib.hid (HXr2.out.up hba)
                  have HPo3 := Lib.hid (HPo2.out.up hba)
                  have HSr3 := Lib.hid (HSr2.out.up hba hba.size)
                  clear hba
                  go_wp2
                  refine tailN_normal HC2.out ?_
                  have hv2 : v0.heap.size < (v0.alloc (.cells #[.string ⟨#[]⟩, .slice none 0 0] 45)).heap.size := by simp
                  generalize World.alloc _ _ = v2 at *
                  generalize hKe : v0.heap.size = K at *
                  clear hKe
                  refine wpN_one (i := 8) (by kernel_rfl) rfl ?_
                  go_wp2_with fail
                  refine (HKR.out v2 HXr3.out HPo3.out HSr3.out).mono ?_
                  rintro e v3 ⟨⟨q, A, n, c, l, rfl, hol, ho⟩, hb⟩
                  have HC4 := Lib.hid (HCb.out _ _ HC2.out (hb.mono (by omega)))
                  have HB4 := Lib.hid (HB2.out.trans (hb.mono (by omega)))
                  have HK := Lib.hid (HK.out.below hb hv2)
                  have HOW := Lib.hid hol
                  have HOO := Lib.hid ho
                  have hvs : K < v3.heap.size := Nat.lt_of_lt_of_le hv2 hb.size
                  clear hb hol ho
                  go_wp2
                  refine tailN_normal HC4.out ?_
                  have kn : Nonempty (WC C) := ⟨⟨_, HC4.out⟩⟩
                  refine wpN_frontW C [9, 10, 11] 2 _ (fun _ _ d _ _ h => by cases d <;> exact h) (by kernel_rfl) HC4.out ?_
                  simp only [List.map_cons, List.map_nil, List.getD_cons_zero, List.getD_cons_succ]
                  repeat (go_big_quiet_step (fail))
                  refine wpQuiet_nil ?_
                  clear kn
                  have hKZ : Z ≤ K := by omega
                  have hKR : R + 1 + 1 + 1 ≤ K := by omega
                  refine wpN_one (i := 13) (by kernel_rfl) rfl ?_
                  have s0 := HK.out.frozen 0
                  have s1 := HK.out.frozen 1
                  have r0 := (HK.out.cell 0).trans rfl
                  have r1 := (HK.out.cell 1).trans rfl
                  have hk := Lib.hid ((HK.out.set_ 0 (.string q)).set_ 1 (.slice A n c))
                  have hb4 := Lib.hid ((HB4.out.setCell (p := ⟨K, 0, none⟩) hKZ (.string q)).setCell (p := ⟨K, 1, none⟩) hKZ (.slice A n c))
                  have hc5 := Lib.hid (HCb.out _ _ HC4.out (((Below.refl (R + 1 + 1 + 1) v3).setCell (p := ⟨K, 0, none⟩) hKR (.string q)).setCell (p := ⟨K, 1, none⟩) hKR (.slice A n c)))
                  have ho5 := own_setCell_blk HOW.out HK.out (by decide) 0 (.string q)
                  have hrd := Lib.hid (own_rd (own_setCell_blk ho5 (HK.out.set_ 0 (.string q)) (by decide) 1 (.slice A n c)))
                  clear ho5
                  go_wp2
                  generalize World.setCell (World.setCell _ _ _) _ _ = v4 at *
                  refine tailN_normal hc5.out ?_
                  refine wpN_one (i := 14) (by kernel_rfl) rfl ?_
                  clear s0 s1 r0 r1
                  go_wp2
                  refine tailN_normal hc5.out ?_
                  refine wpN_none (by kernel_rfl) ?_
                  go_wp2
                  go_meet
                  exact ⟨K, q, A, n, c, l, rfl, rfl, hk, hrd, HOO, hb4⟩
              case rest =>
                clear HKR HPo HXr HSr f0 c0 c1
                obtain ⟨K, q, A, n, c, l, rfl, rfl, HKX, HRX, HO, HBX⟩ := hcut
                have hsc : wr.heap.size ≤ wc.heap.size := HBX.out.size
                have HW := Lib.hid (GW.out.trans (HBX.out.mono hsr))
                have HXB := Lib.hid (HB.out.trans (HW.out.mono (by omega)))
                clear G1 G2 G3 HBX
                have k0 := (HKX.out.cell 0).trans rfl
                have k1 := (HKX.out.cell 1).trans rfl
                have hwc : w5.heap.size ≤ wc.heap.size := HW.out.size
                rcases HO.out with ho | ⟨ho, rfl, rfl⟩
                · subst ho
                  obtain rfl : ob = true := HOB.out.symm
                  have HD2 : Hid (D = !memB ms q l) := Lib.hid HD.out
                  clear HD HO HOB
                  have HPC := Lib.hid (HPL.out q A n c l wc (HM5.out.up (HW.out.mono (by omega)) (by omega)) (fun y hy => Fa.ok.up (HMS.out y hy) HW.out) HRX.out)
                  generalize memB ms q l = X at *
                  go_wp2_with fail
                  refine HPC.out.mono ?_
                  rintro e w7 ⟨⟨r, rfl, hr⟩, hb7⟩
                  have HW7 := Lib.hid (HW.out.trans (hb7.mono hwc))
                  have HB7 := Lib.hid (HXB.out.trans (hb7.mono (by omega)))
                  clear k0 k1 hb7 HPC
                  cases X with
                  | false =>
                    have HY := Lib.hid (HYES.out HD2.out)
                    clear HYES HNO HD2
                    go_wp2
                    go_roundg (nn - (i + 1))
                    case measure => have := HG.out; omega
                    case rel => exact ⟨i + 1, by go_num, by omega, Lib.hid rfl, HW7, HY⟩
                  | true =>
                    obtain rfl : V = false := HNO.out HD2.out
                    clear HYES HNO HD2
                    go_wp2
                    go_ret
                    exact ⟨by rfl, by rw [HRR.out]; exact HB7.out⟩
                · subst ho
                  obtain rfl : ob = false := HOB.out.symm
                  obtain rfl : V = false := HNO.out HD.out
                  clear HD HNO HYES HO HOB k0 k1
                  go_wp2
                  go_ret
                  exact ⟨by rfl, by rw [HRR.out]; exact HXB.out⟩
            · obtain rfl : nn = i := by omega
              have hall : ns.take nn = ns := List.take_of_length_le (by have := HLN.out; omega)
              rw [hall] at HN
              have HV8 := Lib.hid (HV7.out.trans (if_pos HN.out))
              clear HN hall HV7 HE HG hlt hi HPL
              go_upto_region 25 with (fail)
              clear f0
              have HKR := Lib.hid (HUN.out ⟨hp, hA, hn, hcc, hxs⟩ yB ym yd yss wr (HX.out.up GW.out) (HR5.out.h.up GW.out) (HYO.out.s.up GW.out hsr) HRF.out.1)
              simp only [Pn.cells] at HKR
              have HGH := HGG
              generalize underS ds cs yss hp hxs = o at *
              obtain ⟨ob, hob⟩ : ∃ ob, o.isSome = ob := ⟨_, rfl⟩
              unfold UnderSaid at HKR
              rw [hob] at HKR
              have HOB := Lib.hid hob
              clear hob HUN
              have f0 := (G1.out.cell 0).trans rfl
              have f1 := (G1.out.cell 1).trans rfl
              have f2 := (G1.out.cell 2).trans rfl
              have f3 := (G1.out.cell 3).trans rfl
              have g3 := (G2.out.cell 3).trans rfl
              have h0 := (G3.out.cell 0).trans rfl
              have h1 := (G3.out.cell 1).trans rfl
              go_wp2_with fail
              refine HKR.out.mono ?_
              rintro e w7 ⟨⟨q, A, n, c, l, rfl, hol, ho⟩, hb7⟩
              have HOL := Lib.hid (own_rd hol)
              have HOO := Lib.hid ho
              have hs7 : wr.heap.size ≤ w7.heap.size := hb7.size
              have HW7 := Lib.hid (GW.out.trans (hb7.mono hsr))
              have X2 := Lib.hid (G2.out.below hb7 (by omega))
              clear f0 f1 f2 f3 g3 h0 h1 G1 G2 G3 hb7 hol ho HKR GW
              go_upto_region 26 with (fail)
              have hba := (Below.refl w7.heap.size w7).alloc (Nat.le_refl _) (.cells #[.string q, .slice A n c] 45)
              have HK := Lib.hid (Blk.new w7 45 [.string q, .slice A n c])
              have HW8 := Lib.hid (HW7.out.trans (hba.mono (by omega)))
              have HOL8 := Lib.hid (HOL.out.up hba hba.size)
              have X8 := Lib.hid (X2.out.below hba (by omega))
              have HB8 := Lib.hid (HB.out.trans (HW8.out.mono (by omega)))
              clear hba HW7 HOL X2
              generalize World.alloc _ _ = w8 at *
              rcases HOO.out with ho | ⟨ho, rfl, rfl⟩
              · subst ho
                obtain rfl : ob = true := HOB.out.symm
                have HG2 : Hid (V = sameB q l yp yxs) := Lib.hid (HV8.out.trans HGH.out)
                have k0 := (HK.out.cell 0).trans rfl
                have k1 := (HK.out.cell 1).trans rfl
                have m0 := (X8.out.cell 0).trans rfl
                have m1 := (X8.out.cell 1).trans rfl
                have HSF := Lib.hid (sameF q yp A yA n c yn yc l yxs w8 HOL8.out (HYO.out.a.up HW8.out HW8.out.size))
                rw [← HG2.out] at HSF
                clear HG2 HGH HGG HV8 HOO HOB
                go_wp2_with fail
                refine HSF.out.mono ?_
                rintro e w9 ⟨rfl, hb9⟩
                have HB9 := Lib.hid (HB8.out.trans (hb9.mono (by have := HW8.out.size; omega)))
                clear k0 k1 m0 m1 hb9 HSF
                go_wp2
                go_ret
                exact ⟨by rfl, by rw [HRR.out]; exact HB9.out⟩
              · subst ho
                obtain rfl : ob = false := HOB.out.symm
                obtain rfl : V = false := HV8.out.trans HGH.out
                clear HGH HGG HV8 HOO HOB
                go_wp2
                go_ret
                exact ⟨by rfl, by rw [HRR.out]; exact HB8.out⟩
end Go.Proofs.YtjcgkplphiedjaaDoorT
