/- A line by a rule: the program's. -/
import Derived.Test.YtjcgkplphiedjaaDoorTG29
import Derived.Test.YtjcgkplphiedjaaDoorTG30
namespace Go.Proofs.YtjcgkplphiedjaaDoorT
open Go.RowKit Go.Sort
open YtjcgkplphiedjaaDoor (Pow)

def eqKB (z y : Cn) : Bool := decide (z = y)
theorem eqInK2 (k i k' i' : Int) (t t' : ByteArray) (w : World) :
    (Op.equalIn 10000 68 (.agg #[.int .i64 k, .int .i64 i, .string t]) (.agg #[.int .i64 k', .int .i64 i', .string t'])).run Tryd.prog w = .ok (k == k' && i == i' && t.toList == t'.toList) w := by
  rw [run_equalIn_struct (P := Tryd.prog) w 9999 68 _ _ (by kernel_rfl) (by kernel_rfl)]
  have h1 : ∃ a b c : Field, (Tryd.prog.fieldsOf 68).toList = [a, b, c] ∧ a.name ≠ "_" ∧ b.name ≠ "_" ∧ c.name ≠ "_" ∧ a.type = 3 ∧ b.type = 2 ∧ c.type = 9 ∧ a.offset = 0 ∧ b.offset = 1 ∧ c.offset = 2 := by
    simp only [Program.fieldsOf, Tryd.underlying68]
    exact ⟨_, _, _, rfl, by decide, by decide, by decide, rfl, rfl, rfl, rfl, rfl, rfl⟩
  obtain ⟨a, b, c, hl, n1, n2, n3, t1, t2, t3, o1, o2, o3⟩ := h1
  rw [hl]
  simp only [Op.eqFields, t1, t2, t3, o1, o2, o3]
  go_simp
  repeat' split
  all_goals simp_all
@[simp] theorem run_eqlKL (k i k' i' : Int) (t t' : ByteArray) (w : World) :
    (binOp .eql 68 (.agg #[.int .i64 k, .int .i64 i, .string t]) (.agg #[.int .i64 k', .int .i64 i', .string t'])).run Tryd.prog w = .ok (.bool (eqKB ⟨k, i, t⟩ ⟨k', i', t'⟩)) w := by
  rw [run_eql_struct, eqInK2]
  have : (k == k' && i == i' && t.toList == t'.toList) = eqKB ⟨k, i, t⟩ ⟨k', i', t'⟩ := by
    unfold eqKB
    rw [Bool.eq_iff_iff]
    simp only [Bool.and_eq_true, beq_iff_eq, decide_eq_true_eq, Cn.mk.injEq]
    constructor
    · rintro ⟨⟨h1, h2⟩, h3⟩
      exact ⟨h1, h2, toList_inj h3⟩
    · rintro ⟨h1, h2, h3⟩
      exact ⟨⟨h1, h2⟩, by rw [h3]⟩
  rw [this]
  rfl

set_option maxRecDepth 40000 in
set_option maxHeartbeats 16000000 in
theorem right_why (T : Lib.PrintTabs) (x : Co) (b kb : Nat) (ms : List Fa) (LA : Option Addr) (k lc : Nat) (L : List Ln) (y : Ln) (w : World) (hx : x.ok w) (hf : x.fine) (hs : Sm w b kb (keysM T ms).reverse)
    (hl : Rd w w.heap.size 5 LA k (ncells L)) (hls : ∀ z ∈ L, Ln.ok w z ∧ z.small) (hy : Ln.ok w y) (hyk : y.small) (ht : Tabs T w) (hp : Pow w) :
    Calls Tryd.prog 44 #[.agg x.cells.toArray, .map (some b), .slice LA k lc, .agg y.cells.toArray] w fun e w' => e = .returned (.bool (derivedB x ms L y)) ∧ Below w.heap.size w w' := by
  have hll : L.length = k := by have h := hl.1; rw [ncells_length] at h; omega
  have hlr : x.rs.length = x.rn := by have h := hx.r.1; rw [rlcells, flat_length Rl.cells 7 (fun _ => rfl)] at h; omega
  have hlc : x.cs.length = x.cn := by have h := hx.c.1; rw [kcells_length] at h; omega
  have hlb := hl.2.1
  have hrb := hx.r.2.1
  have hcb := hx.c.2.1
  obtain ⟨V, hV⟩ : ∃ V, V = derivedB x ms L y := ⟨_, rfl⟩
  rw [← hV]
  unfold derivedB at hV
  have HXO := Lib.hid hx
  have HXF := Lib.hid hf
  have HRS := Lib.hid hx.r
  have HS := Lib.hid hs
  have HL := Lib.hid hl
  have HLS := Lib.hid hls
  have HYO := Lib.hid hy
  have HYK := Lib.hid hyk
  have HLL := Lib.hid hll
  have HLR := Lib.hid hlr
  have HLC := Lib.hid hlc
  have HLB := Lib.hid (LB.of ht hp rfl)
  have HTE := Lib.hid (fun t A n c ss W h1 h2 h3 h4 => holds_why x t A n c ss W h1 h2 h3 h4)
  have HUN := Lib.hid (fun p A n c ss W h1 h2 h3 h4 => under_why x p A n c ss W h1 h2 h3 h4)
  have HHS : Hid (∀ p A n c xs W, Sm W b kb (keysM T ms).reverse → Rd W W.heap.size 3 A n (kcells xs) → (∀ z ∈ xs, keyK z) → p.size ≤ 1048576 → n ≤ 1048576 → Tabs T W ∧ Pow W → Calls Tryd.prog 43 #[.map (some b), .agg #[.string p, .slice A n c]] W fun e w' => e = .returned (.bool (memB ms p xs)) ∧ Below W.heap.size W w') :=
    Lib.hid fun p A n c xs W h1 h2 h3 h4 h5 h6 => by rw [← keysM_has T]; exact has_any T b kb _ p A n c xs W h1 h2 h3 h4 h5 h6.1 h6.2
  have HV := Lib.hid hV
  clear hx hf hs hl hls hy hyk hll hlr hlc hV ht hp
  obtain ⟨DA, dn, dc, ds, CA, cn, cc, cs, RA, rn, rc, rs, FA, fn, fc, fs⟩ := x
  obtain ⟨yp, yA, yn, yc, yr, yB, ym, yd, yF, yk, ye, yxs, yss, yfs⟩ := y
  dsimp only at HRS HLR HLC HV hrb hcb
  simp only [Co.cells] at HTE HUN
  have hylf : yfs.length = yk := by have h : (icells yfs).length = yk * 1 := HYO.out.f.1; rw [icells_length] at h; omega
  have hyls : yss.length = ym := by have h : (kcells yss).length = ym * 3 := HYO.out.s.1; rw [kcells_length] at h; omega
  have HYL := Lib.hid hylf
  have HYM := Lib.hid hyls
  have hymb : ym ≤ 1048576 := HYK.out.m
  have hykb : yk ≤ 1048576 := HYK.out.k
  clear hylf hyls
  show Calls Tryd.prog 44 #[.agg #[.slice DA dn dc, .slice CA cn cc, .slice RA rn rc, .slice FA fn fc], .map (some b), .slice LA k lc, .agg #[.string yp, .slice yA yn yc, .int .i64 yr, .slice yB ym yd, .slice yF yk ye]] w _
  go_enter Tryd.func44, Tryd.ntmps44
  go_upto_region 1 with (fail)
  obtain ⟨hb, h1, h2, hsz⟩ := two_alloc w 40 66 [.slice DA dn dc, .slice CA cn cc, .slice RA rn rc, .slice FA fn fc] [.string yp, .slice yA yn yc, .int .i64 yr, .slice yB ym yd, .slice yF yk ye]
  generalize World.alloc (World.alloc _ _) _ = w2 at *
  have HX2 := Lib.hid (HXO.out.up hb)
  have HRS2 := Lib.hid (HRS.out.up hb hb.size)
  have HS2 := Lib.hid (HS.out.up hb)
  have HL2 := Lib.hid (HL.out.up hb hb.size)
  have HLS2 : Hid (∀ z ∈ L, Ln.ok w2 z ∧ z.small) := Lib.hid fun z hz => ⟨(HLS.out z hz).1.up hb, (HLS.out z hz).2⟩
  have HYO2 := Lib.hid (Ln.ok.up HYO.out hb)
  generalize hRe : w.heap.size = R at *
  have HRR := Lib.hid hRe
  have HB2 := Lib.hid hb
  have H12 := Lib.hid h1
  have H22 := Lib.hid h2
  clear hRe HXO HRS HS HL HLS HYO hb h1 h2
  have f2 := (H12.out.cell 2).trans rfl
  have g2 := (H22.out.cell 2).trans rfl
  rcases Int.lt_or_le yr 0 with hr0 | hr0
  · have t0 : decide (yr < 0) = true := decide_eq_true hr0
    obtain rfl : V = false := by rw [HV.out, if_pos hr0]
    clear HV
    go_wp2
    go_ret
    exact ⟨by rfl, by rw [HRR.out]; exact HB2.out⟩
  obtain ⟨N, rfl⟩ : ∃ N : Nat, yr = (N : Int) := ⟨yr.toNat, by omega⟩
  have t0 : decide ((N : Int) < 0) = false := decide_eq_false (by omega)
  rcases Nat.lt_or_ge N rn with hN | hN
  case inr =>
    have t1 : decide ((rn : Int) ≤ (N : Int)) = true := decide_eq_true (by omega)
    obtain rfl : V = false := by rw [HV.out, if_neg (by omega), List.getElem?_eq_none (by have := HLR.out; simp; omega)]
    clear HV
    go_wp2
    go_ret
    exact ⟨by rfl, by rw [HRR.out]; exact HB2.out⟩
  have t1 : decide ((rn : Int) ≤ (N : Int)) = false := decide_eq_false (by omega)
  obtain ⟨rb, ro, hkr, rfl, hrb0, hc⟩ := HRS2.out.at Rl.cells 7 (fun _ => rfl) (by omega) N hN
  have c0 := hc 0 _ (by omega) rfl
  have c1 := hc 1 _ (by omega) rfl
  have c2 := hc 2 _ (by omega) rfl
  have c3 := hc 3 _ (by omega) rfl
  have c4 := hc 4 _ (by omega) rfl
  have c5 := hc 5 _ (by omega) rfl
  have c6 := hc 6 _ (by omega) rfl
  rw [Nat.add_zero] at c0
  clear hc
  have hV2 : V = ruleB ⟨DA, dn, dc, ds, CA, cn, cc, cs, some ⟨rb, ro, none⟩, rn, rc, rs, FA, fn, fc, fs⟩ ms L ⟨yp, yA, yn, yc, (N : Int), yB, ym, yd, yF, yk, ye, yxs, yss, yfs⟩ rs[N] := by
    rw [HV.out, if_neg (by omega), show ((N : Int)).toNat = N from rfl, List.getElem?_eq_getElem hkr]
  have hRO := HX2.out.rs rs[N] (List.getElem_mem hkr)
  have hRF := HXF.out.r rs[N] (List.getElem_mem hkr)
  clear HV
  generalize rs[N] = r at *
  obtain ⟨⟨hp, hA, hn, hcc, hxs⟩, PA, pn, pc, ps, TA, tn, tc, ts, NA, nn, nc, ns, VA, vn, vc, vs, cl⟩ := r
  dsimp only at c0 c1 c2 c3 c4 c5 c6
  unfold ruleB at hV2
  dsimp only at hV2
  have HV := Lib.hid hV2
  have HRO := Lib.hid hRO
  have HRF := Lib.hid hRF
  clear hV2 hRO hRF
  go_upto_region 3 with (fail)
  go_upto_region 4 with (fail)
  have hba := (Below.refl w2.heap.size w2).alloc (Nat.le_refl _) (.cells #[.int .i64 hp, .slice hA hn hcc, .slice PA pn pc, .slice TA tn tc, .slice NA nn nc, .slice VA vn vc, .int .i64 cl] 81)
  have h3 := Blk.new w2 81 [.int .i64 hp, .slice hA hn hcc, .slice PA pn pc, .slice TA tn tc, .slice NA nn nc, .slice VA vn vc, .int .i64 cl]
  rw [hsz] at h3
  have HX := Lib.hid (HX2.out.up hba)
  have HS5 := Lib.hid (HS2.out.up hba)
  have HL5 := Lib.hid (HL2.out.up hba hba.size)
  have HLS : Hid (∀ z ∈ L, Ln.ok (w2.alloc (.cells #[.int .i64 hp, .slice hA hn hcc, .slice PA pn pc, .slice TA tn tc, .slice NA nn nc, .slice VA vn vc, .int .i64 cl] 81)) z ∧ z.small) := Lib.hid fun z hz => ⟨(HLS2.out z hz).1.up hba, (HLS2.out z hz).2⟩
  have HYO := Lib.hid (Ln.ok.up HYO2.out hba)
  have HR5 := Lib.hid (HRO.out.up hba)
  have HB := Lib.hid (HB2.out.trans (hba.mono (by omega)))
  have H1 := Lib.hid (H12.out.below hba (by omega))
  have H2 := Lib.hid (H22.out.below hba (by omega))
  have H3 := Lib.hid h3
  have hs3 : (w2.alloc (.cells #[.int .i64 hp, .slice hA hn hcc, .slice PA pn pc, .slice TA tn tc, .slice NA nn nc, .slice VA vn vc, .int .i64 cl] 81)).heap.size = R + 1 + 1 + 1 := by simp [hsz]
  generalize World.alloc _ _ = w5 at *
  clear HX2 HRS2 HS2 HL2 HLS2 HYO2 HB2 H12 H22 h3 hba c0 c1 c2 c3 c4 c5 c6 hsz HRO t0 t1 f2 g2
  have g3 := (H2.out.cell 3).trans rfl
  have g4 := (H2.out.cell 4).trans rfl
  have h2 := (H3.out.cell 2).trans rfl
  have h5 := (H3.out.cell 5).trans rfl
  by_cases hmv : ym = vn
  case neg =>
    have t0 : ((ym : Int) != (vn : Int)) = true := by simpa using (by omega : ¬ (ym : Int) = vn)
    obtain rfl : V = false := by rw [HV.out, if_neg hmv]
    clear HV
    go_wp2
    go_ret
    exact ⟨by rfl, by rw [HRR.out]; exact HB.out⟩
  subst hmv
  have t0 : ((ym : Int) != (ym : Int)) = false := by simp
  have HV2 := Lib.hid (HV.out.trans (if_pos rfl))
  clear HV
  by_cases hkp : yk = pn
  case neg =>
    have t1 : ((yk : Int) != (pn : Int)) = true := by simpa using (by omega : ¬ (yk : Int) = pn)
    obtain rfl : V = false := by rw [HV2.out, if_neg hkp]; simp
    clear HV2
    go_wp2
    go_ret
    exact ⟨by rfl, by rw [HRR.out]; exact HB.out⟩
  subst hkp
  have t1 : ((yk : Int) != (yk : Int)) = false := by simp
  obtain ⟨P, hP⟩ : ∃ P : Pn × Int → Bool, P = fun q => premB ⟨DA, dn, dc, ds, CA, cn, cc, cs, some ⟨rb, ro, none⟩, rn, rc, rs, FA, fn, fc, fs⟩ L yss q.1 q.2 := ⟨_, rfl⟩
  obtain ⟨Q, hQ⟩ : ∃ Q : Ts → Bool, Q = testB cs yss := ⟨_, rfl⟩
  obtain ⟨E, hE⟩ : ∃ E : Pn → Bool, E = absB ⟨DA, dn, dc, ds, CA, cn, cc, cs, some ⟨rb, ro, none⟩, rn, rc, rs, FA, fn, fc, fs⟩ ms yss := ⟨_, rfl⟩
  obtain ⟨G, hG⟩ : ∃ G : Bool, G = headB ⟨DA, dn, dc, ds, CA, cn, cc, cs, some ⟨rb, ro, none⟩, rn, rc, rs, FA, fn, fc, fs⟩ ⟨yp, yA, yn, yc, (N : Int), yB, ym, yd, yF, yk, ye, yxs, yss, yfs⟩ ⟨hp, hA, hn, hcc, hxs⟩ := ⟨_, rfl⟩
  have HV5 : Hid (V = if yss.all (isK cs) = true then (if (ps.zip yfs).all P = true then (if ts.all Q = true then (if ns.all E = true then G else false) else false) else false) else false) := Lib.hid (by
    rw [hP, hQ, hE, hG, HV2.out, if_pos (rfl : yk = yk)]
    rfl)
  have HP : Hid (∀ p id, P (p, id) = match underS ds cs yss p.p p.xs with | none => false | some (q, l) => if id < 0 then false else match L[id.toNat]? with | none => false | some y => sameB y.p y.xs q l) := Lib.hid (fun p id => by rw [hP]; rfl)
  have HE : Hid (∀ p, E p = match underS ds cs yss p.p p.xs with | none => false | some (q, l) => !memB ms q l) := Lib.hid (fun p => by rw [hE]; rfl)
  have HGG : Hid (G = match underS ds cs yss hp hxs with | none => false | some (q, l) => sameB q l yp yxs) := Lib.hid (by rw [hG]; rfl)
  have HQ := Lib.hid hQ
  have HUS : Hid (∀ p xs q l, underS ds cs yss p xs = some (q, l) → q.size ≤ 1048576 ∧ (∀ z ∈ l, keyK z) ∧ l.length = xs.length) := Lib.hid fun p xs q l h => underS_small h HXF.out.d HXF.out.c HYK.out.ss
  have hlp : ps.length = yk := by have h : (pncells ps).length = yk * 2 := HR5.out.p.1; rw [pncells, flat_length Pn.cells 2 (fun _ => rfl)] at h; omega
  have hlt' : ts.length = tn := by have h : (tscells ts).length = tn * 5 := HR5.out.t.1; rw [tscells, flat_length Ts.cells 5 (fun _ => rfl)] at h; omega
  have hln' : ns.length = nn := by have h : (pncells ns).length = nn * 2 := HR5.out.n.1; rw [pncells, flat_length Pn.cells 2 (fun _ => rfl)] at h; omega
  have HLP := Lib.hid hlp
  have HLT := Lib.hid hlt'
  have HLN := Lib.hid hln'
  have htb : tn ≤ 9223372036854775807 := HR5.out.t.2.1
  have hnb : nn ≤ 9223372036854775807 := HR5.out.n.2.1
  clear hP hQ hE hG HV2 hlp hlt' hln'
  go_upto_region 7 with (fail)
  clear t0 t1 g3 g4 h2 h5
  go_loopg [63] ym (fun gk u63 wr => ∃ i : Nat, u63 = .int .i64 i ∧ i ≤ ym ∧ Hid (gk = ym - i) ∧ Hid (Below w5.heap.size w5 wr) ∧ Hid ((yss.take i).all (isK cs) = true))
  case atStart => exact ⟨0, rfl, Nat.zero_le _, Lib.hid (by omega), Lib.hid (Below.refl _ _), Lib.hid rfl⟩
  case round =>
    obtain ⟨i, rfl, hi, HG, GW, HN⟩ := hrel
    have hsr : w5.heap.size ≤ wr.heap.size := GW.out.size
    by_cases hlt : i < ym
    · have HYs : Hid (Rd wr wr.heap.size 3 yB ym (kcells yss)) := Lib.hid (HYO.out.s.up GW.out hsr)
      obtain ⟨b1, o1, hk1, rfl, hlb1, hc⟩ := HYs.out.at Cn.cells 3 (fun _ => rfl) (by omega) i hlt
      have c0 := hc 0 _ (by omega) rfl
      have c1 := hc 1 _ (by omega) rfl
      have c2 := hc 2 _ (by omega) rfl
      rw [Nat.add_zero] at c0
      clear hc HYs
      have HYES : Hid (isK cs yss[i] = true → (yss.take (i + 1)).all (isK cs) = true) := Lib.hid fun h => by rw [take_snoc yss i hk1, List.all_append, HN.out, List.all_cons, h]; rfl
      have HNO : Hid (isK cs yss[i] = false → V = false) := Lib.hid fun h => by
        rw [HV5.out, if_neg]
        intro ha
        have := List.all_eq_true.1 ha _ (List.getElem_mem hk1)
        rw [h] at this
        cases this
      have HIK : Hid (isK cs yss[i] = cs.any fun y => decide (yss[i] = y)) := Lib.hid rfl
      generalize isK cs yss[i] = D at *
      generalize yss[i] = z at *
      obtain ⟨zk, zi, zt⟩ := z
      dsimp only at c0 c1 c2
      go_upto_region 9 with (fail)
      have hba := (Below.refl wr.heap.size wr).alloc (Nat.le_refl _) (.cells #[.int .i64 zk, .int .i64 zi, .string zt] 68)
      have HZ := Lib.hid (Blk.new wr 68 [.int .i64 zk, .int .i64 zi, .string zt])
      have GW1 := Lib.hid (GW.out.trans (hba.mono hsr))
      clear hba GW c0 c1 c2
      have hsz1 : wr.heap.size < (wr.alloc (.cells #[.int .i64 zk, .int .i64 zi, .string zt] 68)).heap.size := by simp
      generalize World.alloc _ _ = w6 at *
      have G1 := Lib.hid (H1.out.below GW1.out (by omega))
      have f1 := (G1.out.cell 1).trans rfl
      go_upto_region 11 with (fail)
      clear f1
      generalize hZe : wr.heap.size = Z at *
      clear hZe
      go_loopg [12, 70] cn (fun gj u12 u70 wq => ∃ (f : Bool) (j : Nat), u12 = .bool f ∧ u70 = .int .i64 j ∧ j ≤ cn ∧ Hid (gj = cn - j) ∧ Hid (Below w6.heap.size w6 wq) ∧ Hid ((cs.take j).any (fun y => decide ((⟨zk, zi, zt⟩ : Cn) = y)) = f))
      case atStart => exact ⟨false, 0, rfl, rfl, Nat.zero_le _, Lib.hid (by omega), Lib.hid (Below.refl _ _), Lib.hid rfl⟩
      case round =>
        obtain ⟨f, j, rfl, rfl, hj, HGJ, GQ, HF⟩ := hrel
        have hsq : w6.heap.size ≤ wr.heap.size := GQ.out.size
        by_cases hlj : j < cn
        · have HCw : Hid (Rd wr wr.heap.size 3 CA cn (kcells cs)) := Lib.hid ((HX.out.c.up GW1.out (by omega)).up GQ.out hsq)
          obtain ⟨b2, o2, hk2, rfl, hb2, hd⟩ := HCw.out.at Cn.cells 3 (fun _ => rfl) (by omega) j hlj
          have d0 := hd 0 _ (by omega) rfl
          have d1 := hd 1 _ (by omega) rfl
          have d2 := hd 2 _ (by omega) rfl
          rw [Nat.add_zero] at d0
          clear hd HCw
          have HFN : Hid ((cs.take (j + 1)).any (fun y => decide ((⟨zk, zi, zt⟩ : Cn) = y)) = (f || eqKB cs[j] ⟨zk, zi, zt⟩)) := Lib.hid (by
            rw [take_snoc cs j hk2, List.any_append, HF.out, List.any_cons, List.any_nil, Bool.or_false]
            congr 1
            unfold eqKB
            exact decide_eq_decide.2 ⟨fun h => h.symm, fun h => h.symm⟩)
          generalize cs[j] = y at *
          obtain ⟨yk', yi', yt'⟩ := y
          dsimp only at d0 d1 d2
          go_upto_region 13 with (fail)
          have hba := (Below.refl wr.heap.size wr).alloc (Nat.le_refl _) (.cells #[.int .i64 yk', .int .i64 yi', .string yt'] 68)
          have HK := Lib.hid (Blk.new wr 68 [.int .i64 yk', .int .i64 yi', .string yt'])
          have GQ1 := Lib.hid (GQ.out.trans (hba.mono hsq))
          clear hba d0 d1 d2 GQ
          generalize World.alloc _ _ = w7 at *
          have Z7 := Lib.hid (HZ.out.below GQ1.out (by omega))
          have z0 := (Z7.out.cell 0).trans rfl
          have z1 := (Z7.out.cell 1).trans rfl
          have z2 := (Z7.out.cell 2).trans rfl
          have k0 := (HK.out.cell 0).trans rfl
          have k1 := (HK.out.cell 1).trans rfl
          have k2 := (HK.out.cell 2).trans rfl
          obtain ⟨X, hX⟩ : ∃ X, eqKB ⟨yk', yi', yt'⟩ ⟨zk, zi, zt⟩ = X := ⟨_, rfl⟩
          rw [hX] at HFN
          cases f with
          | true =>
            clear hX
            go_wp2
            go_roundg (cn - (j + 1))
            case measure => have := HGJ.out; omega
            case rel => exact ⟨true, j + 1, rfl, by go_num, by omega, Lib.hid rfl, GQ1, Lib.hid (by rw [HFN.out]; rfl)⟩
          | false =>
            go_wp2
            go_roundg (cn - (j + 1))
            case measure => have := HGJ.out; omega
            case rel => exact ⟨X, j + 1, by first | rfl | rw [hX], by go_num, by omega, Lib.hid rfl, GQ1, Lib.hid (by rw [HFN.out]; rfl)⟩
        · obtain rfl : cn = j := by omega
          have hall : cs.take cn = cs := List.take_of_length_le (by have := HLC.out; omega)
          rw [hall] at HF
          have hD : D = f := by rw [HIK.out, HF.out]
          have GW2 := Lib.hid (GW1.out.trans (GQ.out.mono (by omega)))
          clear HIK HF hall
          cases f with
          | true =>
            have HY := Lib.hid (HYES.out hD)
            clear HYES HNO hD
            go_wp2
            go_roundg (ym - (i + 1))
            case measure => have := HG.out; omega
            case rel => exact ⟨i + 1, by go_num, by omega, Lib.hid rfl, GW2, HY⟩
          | false =>
            obtain rfl : V = false := HNO.out hD
            have HB7 := Lib.hid (HB.out.trans (GW2.out.mono (by omega)))
            clear HYES HNO hD
            go_wp2
            go_ret
            exact ⟨by rfl, by rw [HRR.out]; exact HB7.out⟩
    · obtain rfl : ym = i := by omega
      have hall : yss.take ym = yss := List.take_of_length_le (by have := HYM.out; omega)
      rw [hall] at HN
      have HV6 := Lib.hid (HV5.out.trans (if_pos HN.out))
      clear HN hall HV5 HG hi hlt HLC
      have G3 := Lib.hid (H3.out.below GW.out (by omega))
      have h2 := (G3.out.cell 2).trans rfl
      go_upto_region 19 with (fail)
      clear h2 G3
      go_loopg [87] yk (fun gk u87 wr => ∃ i : Nat, u87 = .int .i64 i ∧ i ≤ yk ∧ Hid (gk = yk - i) ∧ Hid (Below w5.heap.size w5 wr) ∧ Hid (((ps.zip yfs).take i).all P = true))
      case atStart => exact ⟨0, rfl, Nat.zero_le _, Lib.hid (by omega), GW, Lib.hid rfl⟩
      case round =>
        clear hsr GW
        obtain ⟨i, rfl, hi, HG, GW, HN⟩ := hrel
        have hsr : w5.heap.size ≤ wr.heap.size := GW.out.size
        by_cases hlt : i < yk
        · obtain ⟨b2, o2, hk2, rfl, hb2, hc⟩ := (HR5.out.p.up GW.out hsr).at Pn.cells 2 (fun _ => rfl) (by omega) i hlt
          have c0 := hc 0 _ (by omega) rfl
          have c1 := hc 1 _ (by omega) rfl
          rw [Nat.add_zero] at c0
          clear hc
          obtain ⟨b3, o3, hk3, rfl, hb3, e0⟩ := HYO.out.f.ints i hlt
          have HE0 := Lib.hid e0
          clear e0
          have HPo := Lib.hid ((HR5.out.ps ps[i] (List.getElem_mem hk2)).up GW.out)
          have hpn := HRF.out.2.1 ps[i] (List.getElem_mem hk2)
          have hz : i < (ps.zip yfs).length := by rw [List.length_zip]; have := HLP.out; have := HYL.out; omega
          have hzi : (ps.zip yfs)[i] = (ps[i], yfs[i]) := List.getElem_zip
          have HYES : Hid (P (ps[i], yfs[i]) = true → ((ps.zip yfs).take (i + 1)).all P = true) := Lib.hid fun h => by rw [take_snoc _ i hz, List.all_append, HN.out, List.all_cons, hzi, h]; rfl
          have HNO : Hid (P (ps[i], yfs[i]) = false → V = false) := Lib.hid fun h => by
            rw [HV6.out, if_neg]
            intro ha
            have := List.all_eq_true.1 ha _ (List.getElem_mem hz)
            rw [hzi, h] at this
            cases this
          have HD := Lib.hid (HP.out ps[i] yfs[i])
          clear hzi hz
          generalize ps[i] = p at *
          generalize yfs[i] = id at *
          generalize P (p, id) = D at *
          have hpl : p.xs.length = p.n := by have h := HPo.out.1; rw [slcells, flat_length Sl.cells 2 (fun _ => rfl)] at h; omega
          obtain ⟨pp, pA, pn', pc', pxs⟩ := p
          dsimp only at c0 c1 HD hpn hpl
          go_upto_region 21 with (fail)
          have hba := (Below.refl wr.heap.size wr).alloc (Nat.le_refl _) (.cells #[.int .i64 pp, .slice pA pn' pc'] 77)
          have HK6 := Lib.hid (Blk.new wr 77 [.int .i64 pp, .slice pA pn' pc'])
          have GW6 := Lib.hid (GW.out.trans (hba.mono hsr))
          have HPo6 := Lib.hid (HPo.out.up hba)
          clear hba c0 c1 HPo
          generalize World.alloc _ _ = w6 at *
          have hs6 : w5.heap.size ≤ w6.heap.size := GW6.out.size
          have G1 := Lib.hid (H1.out.below GW6.out (by omega))
          have G2 := Lib.hid (H2.out.below GW6.out (by omega))
          have f0 := (G1.out.cell 0).trans rfl
          have f1 := (G1.out.cell 1).trans rfl
          have f2 := (G1.out.cell 2).trans rfl
          have f3 := (G1.out.cell 3).trans rfl
          have g3 := (G2.out.cell 3).trans rfl
          have k0 := (HK6.out.cell 0).trans rfl
          have k1 := (HK6.out.cell 1).trans rfl
          have HKR := Lib.hid (HUN.out ⟨pp, pA, pn', pc', pxs⟩ yB ym yd yss w6 (HX.out.up GW6.out) HPo6.out (HYO.out.s.up GW6.out hs6) hpn)
          simp only [Pn.cells] at HKR
          have HSM : Hid (∀ q l, underS ds cs yss pp pxs = some (q, l) → q.size ≤ 1048576 ∧ (∀ z ∈ l, keyK z) ∧ l.length ≤ 1048576) := Lib.hid fun q l h => by
            obtain ⟨h1, h2, h3⟩ := HUS.out pp pxs q l h
            exact ⟨h1, h2, by omega⟩
          generalize underS ds cs yss pp pxs = o at *
          obtain ⟨ob, hob⟩ : ∃ ob, o.isSome = ob := ⟨_, rfl⟩
          unfold UnderSaid at HKR
          rw [hob] at HKR
          have HOB := Lib.hid hob
          clear hob hpn hpl
          go_wp2_with fail
          refine HKR.out.mono ?_
          rintro e w7 ⟨⟨q, A, n, c, l, rfl, hol, ho⟩, hb7⟩
          have GW7 := Lib.hid (GW6.out.trans (hb7.mono hs6))
          have HOL7 := Lib.hid (own_rd hol)
          have HOO := Lib.hid ho
          have hs7 : w6.heap.size ≤ w7.heap.size := hb7.size
          clear f0 f1 f2 f3 g3 k0 k1 HK6 HPo6 GW6 G1 G2 hol ho hb7 HKR
          go_upto_region 22 with (fail)
          have hba := (Below.refl w7.heap.size w7).alloc (Nat.le_refl _) (.cells #[.string q, .slice A n c] 45)
          have HK := Lib.hid (Blk.new w7 45 [.string q, .slice A n c])
          have GW8 := Lib.hid (GW7.out.trans (hba.mono (by omega)))
          have HOL := Lib.hid (HOL7.out.up hba hba.size)
          have HB8 := Lib.hid (HB.out.trans (GW8.out.mono (by omega)))
          clear hba HOL7 GW7
          generalize World.alloc _ _ = w8 at *
          have hs8 : w5.heap.size ≤ w8.heap.size := GW8.out.size
          have X2 := Lib.hid (H2.out.below GW8.out (by omega))
          rcases HOO.out with ho | ⟨ho, rfl, rfl⟩
          · subst ho
            obtain rfl : ob = true := HOB.out.symm
            have HD2 : Hid (D = if id < 0 then false else match L[id.toNat]? with | none => false | some y => sameB y.p y.xs q l) := Lib.hid HD.out
            obtain ⟨s1, s2, s3⟩ := HSM.out q l rfl
            have hll2 : l.length = n := by have := HOL.out.1; rw [kcells_length] at this; omega
            have HLK := Lib.hid s2
            clear HD HOO HOB HSM s2
            have g4 := cell_regrown ((X2.out.cell 4).trans rfl)
            have e0 := cell_regrown ((GW8.out.cell (p := ⟨b3, o3 + i, none⟩) (by show b3 < _; omega)).trans HE0.out)
            have k0 := cell_regrown ((HK.out.cell 0).trans rfl)
            have k1 := cell_regrown ((HK.out.cell 1).trans rfl)
            rcases Int.lt_or_le id 0 with hid | hid
            · have t2 : decide (id < 0) = true := decide_eq_true hid
              obtain rfl : V = false := HNO.out (by rw [HD2.out, if_pos hid])
              clear HD2 HNO HYES
              go_upto_region 22 with (fail)
              refine wp_region_quiet_below (by kernel_rfl) (by kernel_rfl) ?_
              repeat (go_big_quiet_step (fail))
              refine wpQuiet_nil ?_
              intro w9 hw9
              obtain ⟨⟨dq, osq⟩, rfl⟩ := hw9
              have HB9 := Lib.hid (HB8.out.trans ((below_regrown w8 dq osq).mono (by omega)))
              go_wp2
              go_ret
              exact ⟨by rfl, by rw [HRR.out]; exact HB9.out⟩
            obtain ⟨J, rfl⟩ : ∃ J : Nat, id = (J : Int) := ⟨id.toNat, by omega⟩
            have t2 : decide ((J : Int) < 0) = false := decide_eq_false (by omega)
            rcases Nat.lt_or_ge J k with hJ | hJ
            case inr =>
              have t3 : decide ((k : Int) ≤ (J : Int)) = true := decide_eq_true (by omega)
              obtain rfl : V = false := HNO.out (by rw [HD2.out, if_neg (by omega), show ((J : Int)).toNat = J from rfl, List.getElem?_eq_none (by have := HLL.out; omega)])
              clear HD2 HNO HYES
              go_upto_region 22 with (fail)
              refine wp_region_quiet_below (by kernel_rfl) (by kernel_rfl) ?_
              repeat (go_big_quiet_step (fail))
              refine wpQuiet_nil ?_
              intro w9 hw9
              obtain ⟨⟨dq, osq⟩, rfl⟩ := hw9
              have HB9 := Lib.hid (HB8.out.trans ((below_regrown w8 dq osq).mono (by omega)))
              go_wp2
              go_ret
              exact ⟨by rfl, by rw [HRR.out]; exact HB9.out⟩
            have t3 : decide ((k : Int) ≤ (J : Int)) = false := decide_eq_false (by omega)
            have t4 : ¬ k ≤ J := by omega
            obtain ⟨lb2, lo2, hkJ, rfl, hlb2, hc⟩ := (HL5.out.up GW8.out (by omega)).at Ln.cells 5 (fun _ => rfl) (by omega) J hJ
            have d0 := cell_regrown (hc 0 _ (by omega) rfl)
            have d1 := cell_regrown (hc 1 _ (by omega) rfl)
            rw [Nat.add_zero] at d0
            have hyJ := HLS.out L[J] (List.getElem_mem hkJ)
            have HD3 : Hid (sameB L[J].p L[J].xs q l = D) := Lib.hid (by rw [HD2.out, if_neg (by omega), show ((J : Int)).toNat = J from rfl, List.getElem?_eq_getElem hkJ])
            clear HD2 hc
            generalize L[J] = yj at *
            obtain ⟨jp, jA, jn, jc, jr, jB, jm, jd, jF, jk, je, jxs, jss, jfs⟩ := yj
            dsimp only at d0 d1 HD3
            have HYJ := Lib.hid ((hyJ.1.up GW8.out).a)
            have HJK := Lib.hid hyJ.2
            clear hyJ
            have HSF := Lib.hid (fun W (hb : Below w8.heap.size w8 W) => same_why T jp q jA A jn jc n c jxs l W (HYJ.out.up hb hb.size) (HOL.out.up hb hb.size) HJK.out.xs HLK.out HJK.out.p s1 HJK.out.n (by omega)
              (HLB.out W (HB8.out.trans (hb.mono (by omega)))).1 (HLB.out W (HB8.out.trans (hb.mono (by omega)))).2)
            rw [HD3.out] at HSF
            have cA : ∀ d os, Calls Tryd.prog 70 #[.agg #[.string jp, .slice jA jn jc], .agg #[.string q, .slice A n c]] (grow (redrawn w8 d) os) fun e w'' => e = .returned (.bool D) ∧ ∃ p : Regrown, w'' = grow (redrawn w8 p.d) p.os :=
              fun d os => Calls.regrown_of (HSF.out _ (below_regrown w8 d os))
            clear HD3
            go_upto_region 22 with (fail)
            refine wp_region_quiet_below (by kernel_rfl) (by kernel_rfl) ?_
            repeat (go_big_quiet_step (exact cA _ _))
            refine wpQuiet_nil ?_
            intro w9 hw9
            obtain ⟨⟨dq, osq⟩, rfl⟩ := hw9
            have HB9 := Lib.hid (HB8.out.trans ((below_regrown w8 dq osq).mono (by omega)))
            have GW9 := Lib.hid (GW8.out.trans ((below_regrown w8 dq osq).mono (by omega)))
            clear k0 k1 d0 d1 e0 g4 cA HSF
            cases D with
            | true =>
              have HY := Lib.hid (HYES.out rfl)
              clear HYES HNO
              go_wp2
              go_roundg (yk - (i + 1))
              case measure => have := HG.out; omega
              case rel => exact ⟨i + 1, by go_num, by omega, Lib.hid rfl, GW9, HY⟩
            | false =>
              obtain rfl : V = false := HNO.out rfl
              clear HYES HNO
              go_wp2
              go_ret
              exact ⟨by rfl, by rw [HRR.out]; exact HB9.out⟩
          · subst ho
            obtain rfl : ob = false := HOB.out.symm
            obtain rfl : V = false := HNO.out HD.out
            clear HD HNO HYES HOO HOB HSM
            go_upto_region 22 with (fail)
            refine wp_region_quiet_below (by kernel_rfl) (by kernel_rfl) ?_
            repeat (go_big_quiet_step (fail))
            refine wpQuiet_nil ?_
            intro w9 hw9
            obtain ⟨⟨dq, osq⟩, rfl⟩ := hw9
            have HB9 := Lib.hid (HB8.out.trans ((below_regrown w8 dq osq).mono (by omega)))
            go_wp2
            go_ret
            exact ⟨by rfl, by rw [HRR.out]; exact HB9.out⟩
        · obtain rfl : yk = i := by omega
          have hall : (ps.zip yfs).take yk = ps.zip yfs := List.take_of_length_le (by rw [List.length_zip]; have := HLP.out; omega)
          rw [hall] at HN
          have HV7 := Lib.hid (HV6.out.trans (if_pos HN.out))
          clear HN hall HV6 HP HG hi hlt
          have G3 := Lib.hid (H3.out.below GW.out (by omega))
          have h3 := (G3.out.cell 3).trans rfl
          go_upto_region 26 with (fail)
          clear h3 G3
          go_loopg [138] tn (fun gk u138 wr => ∃ j : Nat, u138 = .int .i64 j ∧ j ≤ tn ∧ Hid (gk = tn - j) ∧ Hid (Below w5.heap.size w5 wr) ∧ Hid ((ts.take j).all Q = true))
          case atStart => exact ⟨0, rfl, Nat.zero_le _, Lib.hid (by omega), GW, Lib.hid rfl⟩
          case round =>
            clear GW hsr
            obtain ⟨j, rfl, hj, HG, GW, HN⟩ := hrel
            have hsr : w5.heap.size ≤ wr.heap.size := GW.out.size
            by_cases hlt : j < tn
            · obtain ⟨b2, o2, hk2, rfl, hb2, hc⟩ := (HR5.out.t.up GW.out hsr).at Ts.cells 5 (fun _ => rfl) (by omega) j hlt
              have c0 := hc 0 _ (by omega) rfl
              have c1 := hc 1 _ (by omega) rfl
              have c2 := hc 2 _ (by omega) rfl
              have c3 := hc 3 _ (by omega) rfl
              have c4 := hc 4 _ (by omega) rfl
              rw [Nat.add_zero] at c0
              clear hc
              have HYES : Hid (Q ts[j] = true → (ts.take (j + 1)).all Q = true) := Lib.hid fun h => by rw [take_snoc ts j hk2, List.all_append, HN.out, List.all_cons, h]; rfl
              have HNO : Hid (Q ts[j] = false → V = false) := Lib.hid fun h => by
                rw [HV7.out, if_neg]
                intro ha
                have := List.all_eq_true.1 ha _ (List.getElem_mem hk2)
                rw [h] at this
                cases this
              have HTT := Lib.hid (fun W (h1 : Rd W W.heap.size 3 CA cn (kcells cs)) (h2 : Rd W W.heap.size 3 yB ym (kcells yss)) => HTE.out ts[j] yB ym yd yss W h1 h2 HXF.out.c HYK.out.ss)
              have HQ1 : Hid (testB cs yss ts[j] = Q ts[j]) := Lib.hid (by rw [HQ.out])
              generalize ts[j] = t at *
              rw [HQ1.out] at HTT
              clear HQ1
              generalize Q t = D at *
              obtain ⟨op, ⟨tl1, tl2⟩, ⟨tr1, tr2⟩⟩ := t
              dsimp only at c0 c1 c2 c3 c4
              simp only [Ts.cells] at HTT
              go_upto_region 28 with (fail)
              have hba := (Below.refl wr.heap.size wr).alloc (Nat.le_refl _) (.cells #[.int .i64 op, .bool tl1, .int .i64 tl2, .bool tr1, .int .i64 tr2] 119)
              have HK6 := Lib.hid (Blk.new wr 119 [.int .i64 op, .bool tl1, .int .i64 tl2, .bool tr1, .int .i64 tr2])
              have GW6 := Lib.hid (GW.out.trans (hba.mono hsr))
              clear hba c0 c1 c2 c3 c4 GW
              generalize World.alloc _ _ = w6 at *
              have hs6 : w5.heap.size ≤ w6.heap.size := GW6.out.size
              have G1 := Lib.hid (H1.out.below GW6.out (by omega))
              have G2 := Lib.hid (H2.out.below GW6.out (by omega))
              have f0 := (G1.out.cell 0).trans rfl
              have f1 := (G1.out.cell 1).trans rfl
              have f2 := (G1.out.cell 2).trans rfl
              have f3 := (G1.out.cell 3).trans rfl
              have g3 := (G2.out.cell 3).trans rfl
              have k0 := (HK6.out.cell 0).trans rfl
              have k1 := (HK6.out.cell 1).trans rfl
              have k2 := (HK6.out.cell 2).trans rfl
              have k3 := (HK6.out.cell 3).trans rfl
              have k4 := (HK6.out.cell 4).trans rfl
              have HKR := Lib.hid (HTT.out w6 (HX.out.up GW6.out).c (HYO.out.s.up GW6.out hs6))
              clear HTT
              go_wp2_with fail
              refine HKR.out.mono ?_
              rintro e w7 ⟨rfl, hb7⟩
              have GW7 := Lib.hid (GW6.out.trans (hb7.mono hs6))
              have HB7 := Lib.hid (HB.out.trans (GW7.out.mono (by omega)))
              clear f0 f1 f2 f3 g3 k0 k1 k2 k3 k4 HK6 G1 G2 GW6 hb7 HKR
              cases D with
              | true =>
                have HY := Lib.hid (HYES.out rfl)
                clear HYES HNO
                go_wp2
                go_roundg (tn - (j + 1))
                case measure => have := HG.out; omega
                case rel => exact ⟨j + 1, by go_num, by omega, Lib.hid rfl, GW7, HY⟩
              | false =>
                obtain rfl : V = false := HNO.out rfl
                clear HYES HNO
                go_wp2
                go_ret
                exact ⟨by rfl, by rw [HRR.out]; exact HB7.out⟩
            · obtain rfl : tn = j := by omega
              have hall : ts.take tn = ts := List.take_of_length_le (by have := HLT.out; omega)
              rw [hall] at HN
              have HV8 := Lib.hid (HV7.out.trans (if_pos HN.out))
              clear HN hall HV7 HQ HTE HG hlt hj
              have G3 := Lib.hid (H3.out.below GW.out (by omega))
              have h4 := (G3.out.cell 4).trans rfl
              go_upto_region 32 with (fail)
              clear h4 G3
              go_loopg [152] nn (fun gk u152 wr => ∃ i : Nat, u152 = .int .i64 i ∧ i ≤ nn ∧ Hid (gk = nn - i) ∧ Hid (Below w5.heap.size w5 wr) ∧ Hid ((ns.take i).all E = true))
              case atStart => exact ⟨0, rfl, Nat.zero_le _, Lib.hid (by omega), GW, Lib.hid rfl⟩
              case round =>
                clear GW hsr
                obtain ⟨i, rfl, hi, HG, GW, HN⟩ := hrel
                have hsr : w5.heap.size ≤ wr.heap.size := GW.out.size
                by_cases hlt : i < nn
                · obtain ⟨b2, o2, hk2, rfl, hb2, hc⟩ := (HR5.out.n.up GW.out hsr).at Pn.cells 2 (fun _ => rfl) (by omega) i hlt
                  have c0 := hc 0 _ (by omega) rfl
                  have c1 := hc 1 _ (by omega) rfl
                  rw [Nat.add_zero] at c0
                  clear hc
                  have HPo := Lib.hid ((HR5.out.ns ns[i] (List.getElem_mem hk2)).up GW.out)
                  have hpn := HRF.out.2.2 ns[i] (List.getElem_mem hk2)
                  have HYES : Hid (E ns[i] = true → (ns.take (i + 1)).all E = true) := Lib.hid fun h => by rw [take_snoc ns i hk2, List.all_append, HN.out, List.all_cons, h]; rfl
                  have HNO : Hid (E ns[i] = false → V = false) := Lib.hid fun h => by
                    rw [HV8.out, if_neg]
                    intro ha
                    have := List.all_eq_true.1 ha _ (List.getElem_mem hk2)
                    rw [h] at this
                    cases this
                  have HD := Lib.hid (HE.out ns[i])
                  generalize ns[i] = p at *
                  generalize E p = D at *
                  have hpl : p.xs.length = p.n := by have h := HPo.out.1; rw [slcells, flat_length Sl.cells 2 (fun _ => rfl)] at h; omega
                  obtain ⟨pp, pA, pn', pc', pxs⟩ := p
                  dsimp only at c0 c1 HD hpn hpl
                  go_upto_region 34 with (fail)
                  have hba := (Below.refl wr.heap.size wr).alloc (Nat.le_refl _) (.cells #[.int .i64 pp, .slice pA pn' pc'] 77)
                  have HK6 := Lib.hid (Blk.new wr 77 [.int .i64 pp, .slice pA pn' pc'])
                  have GW6 := Lib.hid (GW.out.trans (hba.mono hsr))
                  have HPo6 := Lib.hid (HPo.out.up hba)
                  clear hba c0 c1 HPo
                  generalize World.alloc _ _ = w6 at *
                  have hs6 : w5.heap.size ≤ w6.heap.size := GW6.out.size
                  have G1 := Lib.hid (H1.out.below GW6.out (by omega))
                  have G2 := Lib.hid (H2.out.below GW6.out (by omega))
                  have f0 := (G1.out.cell 0).trans rfl
                  have f1 := (G1.out.cell 1).trans rfl
                  have f2 := (G1.out.cell 2).trans rfl
                  have f3 := (G1.out.cell 3).trans rfl
                  have g3 := (G2.out.cell 3).trans rfl
                  have k0 := (HK6.out.cell 0).trans rfl
                  have k1 := (HK6.out.cell 1).trans rfl
                  have HKR := Lib.hid (HUN.out ⟨pp, pA, pn', pc', pxs⟩ yB ym yd yss w6 (HX.out.up GW6.out) HPo6.out (HYO.out.s.up GW6.out hs6) hpn)
                  simp only [Pn.cells] at HKR
                  have HSM : Hid (∀ q l, underS ds cs yss pp pxs = some (q, l) → q.size ≤ 1048576 ∧ (∀ z ∈ l, keyK z) ∧ l.length ≤ 1048576) := Lib.hid fun q l h => by
                    obtain ⟨h1, h2, h3⟩ := HUS.out pp pxs q l h
                    exact ⟨h1, h2, by omega⟩
                  generalize underS ds cs yss pp pxs = o at *
                  obtain ⟨ob, hob⟩ : ∃ ob, o.isSome = ob := ⟨_, rfl⟩
                  unfold UnderSaid at HKR
                  rw [hob] at HKR
                  have HOB := Lib.hid hob
                  clear hob hpn hpl
                  go_wp2_with fail
                  refine HKR.out.mono ?_
                  rintro e w7 ⟨⟨q, A, n, c, l, rfl, hol, ho⟩, hb7⟩
                  have GW7 := Lib.hid (GW6.out.trans (hb7.mono hs6))
                  have HOL7 := Lib.hid (own_rd hol)
                  have HOO := Lib.hid ho
                  have hs7 : w6.heap.size ≤ w7.heap.size := hb7.size
                  clear f0 f1 f2 f3 g3 k0 k1 HK6 HPo6 GW6 G1 G2 hol ho hb7 HKR
                  go_upto_region 35 with (fail)
                  have hba := (Below.refl w7.heap.size w7).alloc (Nat.le_refl _) (.cells #[.string q, .slice A n c] 45)
                  have HK := Lib.hid (Blk.new w7 45 [.string q, .slice A n c])
                  have GW8 := Lib.hid (GW7.out.trans (hba.mono (by omega)))
                  have HOL := Lib.hid (HOL7.out.up hba hba.size)
                  have HB8 := Lib.hid (HB.out.trans (GW8.out.mono (by omega)))
                  clear hba HOL7 GW7
                  generalize World.alloc _ _ = w8 at *
                  have hs8 : w5.heap.size ≤ w8.heap.size := GW8.out.size
                  have X2 := Lib.hid (H2.out.below GW8.out (by omega))
                  rcases HOO.out with ho | ⟨ho, rfl, rfl⟩
                  · subst ho
                    obtain rfl : ob = true := HOB.out.symm
                    have HD2 : Hid (D = !memB ms q l) := Lib.hid HD.out
                    obtain ⟨s1, s2, s3⟩ := HSM.out q l rfl
                    have hll2 : l.length = n := by have := HOL.out.1; rw [kcells_length] at this; omega
                    have HPC := Lib.hid (HHS.out q A n c l w8 (HS5.out.up GW8.out) HOL.out s2 s1 (by omega) (HLB.out w8 HB8.out))
                    clear HD HOO HOB HSM s1 s2 s3
                    generalize memB ms q l = X at *
                    have k0 := (HK.out.cell 0).trans rfl
                    have k1 := (HK.out.cell 1).trans rfl
                    go_wp2_with fail
                    refine HPC.out.mono ?_
                    rintro e w9 ⟨rfl, hb9⟩
                    have GW9 := Lib.hid (GW8.out.trans (hb9.mono hs8))
                    have HB9 := Lib.hid (HB8.out.trans (hb9.mono (by omega)))
                    clear k0 k1 hb9 HPC
                    cases X with
                    | false =>
                      have HY := Lib.hid (HYES.out HD2.out)
                      clear HYES HNO HD2
                      go_wp2
                      go_roundg (nn - (i + 1))
                      case measure => have := HG.out; omega
                      case rel => exact ⟨i + 1, by go_num, by omega, Lib.hid rfl, GW9, HY⟩
                    | true =>
                      obtain rfl : V = false := HNO.out HD2.out
                      clear HYES HNO HD2
                      go_wp2
                      go_ret
                      exact ⟨by rfl, by rw [HRR.out]; exact HB9.out⟩
                  · subst ho
                    obtain rfl : ob = false := HOB.out.symm
                    obtain rfl : V = false := HNO.out HD.out
                    clear HD HNO HYES HOO HOB HSM
                    go_wp2
                    go_ret
                    exact ⟨by rfl, by rw [HRR.out]; exact HB8.out⟩
                · obtain rfl : nn = i := by omega
                  have hall : ns.take nn = ns := List.take_of_length_le (by have := HLN.out; omega)
                  rw [hall] at HN
                  have HV9 := Lib.hid (HV8.out.trans (if_pos HN.out))
                  clear HN hall HV8 HE HG hlt hi HHS
                  have HKR := Lib.hid (HUN.out ⟨hp, hA, hn, hcc, hxs⟩ yB ym yd yss wr (HX.out.up GW.out) (HR5.out.h.up GW.out) (HYO.out.s.up GW.out hsr) HRF.out.1)
                  simp only [Pn.cells] at HKR
                  have hpl : hxs.length = hn := by have h : (slcells hxs).length = hn * 2 := HR5.out.h.1; rw [slcells, flat_length Sl.cells 2 (fun _ => rfl)] at h; omega
                  have hhn : hn ≤ 1048576 := HRF.out.1
                  have HSM : Hid (∀ q l, underS ds cs yss hp hxs = some (q, l) → q.size ≤ 1048576 ∧ (∀ z ∈ l, keyK z) ∧ l.length ≤ 1048576) := Lib.hid fun q l h => by
                    obtain ⟨h1, h2, h3⟩ := HUS.out hp hxs q l h
                    exact ⟨h1, h2, by omega⟩
                  have HGH := HGG
                  generalize underS ds cs yss hp hxs = o at *
                  obtain ⟨ob, hob⟩ : ∃ ob, o.isSome = ob := ⟨_, rfl⟩
                  unfold UnderSaid at HKR
                  rw [hob] at HKR
                  have HOB := Lib.hid hob
                  clear hob HUN hpl hhn HUS
                  have G1 := Lib.hid (H1.out.below GW.out (by omega))
                  have G2 := Lib.hid (H2.out.below GW.out (by omega))
                  have G3 := Lib.hid (H3.out.below GW.out (by omega))
                  have f0 := (G1.out.cell 0).trans rfl
                  have f1 := (G1.out.cell 1).trans rfl
                  have f2 := (G1.out.cell 2).trans rfl
                  have f3 := (G1.out.cell 3).trans rfl
                  have g3 := (G2.out.cell 3).trans rfl
                  have h0 := (G3.out.cell 0).trans rfl
                  have h1 := (G3.out.cell 1).trans rfl
                  go_wp2_with fail
                  refine HKR.out.mono ?_
                  rintro e w7 ⟨⟨q, A, n, c, l, rfl, hol, ho⟩, hb7⟩
                  have HOL7 := Lib.hid (own_rd hol)
                  have HOO := Lib.hid ho
                  have hs7 : wr.heap.size ≤ w7.heap.size := hb7.size
                  have GW7 := Lib.hid (GW.out.trans (hb7.mono hsr))
                  clear f0 f1 f2 f3 g3 h0 h1 G1 G2 G3 hb7 hol ho HKR GW
                  go_upto_region 39 with (fail)
                  have hba := (Below.refl w7.heap.size w7).alloc (Nat.le_refl _) (.cells #[.string q, .slice A n c] 45)
                  have HK := Lib.hid (Blk.new w7 45 [.string q, .slice A n c])
                  have GW8 := Lib.hid (GW7.out.trans (hba.mono (by omega)))
                  have HOL := Lib.hid (HOL7.out.up hba hba.size)
                  have HB8 := Lib.hid (HB.out.trans (GW8.out.mono (by omega)))
                  clear hba HOL7 GW7
                  generalize World.alloc _ _ = w8 at *
                  have hs8 : w5.heap.size ≤ w8.heap.size := GW8.out.size
                  have X2 := Lib.hid (H2.out.below GW8.out (by omega))
                  rcases HOO.out with ho | ⟨ho, rfl, rfl⟩
                  · subst ho
                    obtain rfl : ob = true := HOB.out.symm
                    have HG2 : Hid (sameB q l yp yxs = V) := Lib.hid (HV9.out.trans HGH.out).symm
                    obtain ⟨s1, s2, s3⟩ := HSM.out q l rfl
                    have hll2 : l.length = n := by have := HOL.out.1; rw [kcells_length] at this; omega
                    have k0 := (HK.out.cell 0).trans rfl
                    have k1 := (HK.out.cell 1).trans rfl
                    have m0 := (X2.out.cell 0).trans rfl
                    have m1 := (X2.out.cell 1).trans rfl
                    have HSF := Lib.hid (same_why T q yp A yA n c yn yc l yxs w8 HOL.out (HYO.out.a.up GW8.out hs8) s2 HYK.out.xs s1 HYK.out.p (by omega) HYK.out.n (HLB.out w8 HB8.out).1 (HLB.out w8 HB8.out).2)
                    rw [HG2.out] at HSF
                    clear HG2 HGH HGG HV9 HOO HOB HSM s1 s2 s3
                    go_wp2_with fail
                    refine HSF.out.mono ?_
                    rintro e w9 ⟨rfl, hb9⟩
                    have HB9 := Lib.hid (HB8.out.trans (hb9.mono (by omega)))
                    clear k0 k1 m0 m1 hb9 HSF
                    go_wp2
                    go_ret
                    exact ⟨by rfl, by rw [HRR.out]; exact HB9.out⟩
                  · subst ho
                    obtain rfl : ob = false := HOB.out.symm
                    obtain rfl : V = false := HV9.out.trans HGH.out
                    clear HGH HGG HV9 HOO HOB HSM
                    go_wp2
                    go_ret
                    exact ⟨by rfl, by rw [HRR.out]; exact HB8.out⟩
end Go.Proofs.YtjcgkplphiedjaaDoorT
