/- A row in names, the program's. -/
import Derived.Test.YtjcgkplphiedjaaDoorTG21
namespace Go.Proofs.YtjcgkplphiedjaaDoorT
open Go.RowKit Go.Sort

def idSl (i : Int) : Sl := ⟨false, i⟩
/-- A row in names. -/
def factS (ds : List Pd) (cs : List Cn) (p : Int) (ids : List Int) : Option (ByteArray × List Cn) := underS ds cs [] p (ids.map idSl)
/-- What Fact says. -/
def FactSaid (o : Option (ByteArray × List Cn)) (R : Nat) (e : Ending) (w' : World) : Prop :=
  ∃ q A n c l, e = .returned (.tuple #[.agg #[.string q, .slice A n c], .int .i64 (if o.isSome then 0 else 2)]) ∧ w'.ownsRow R 68 3 (.slice A n c) n (kcells l) ∧ (o = some (q, l) ∨ (o = none ∧ q = ⟨#[]⟩ ∧ l = []))
theorem bindId {cs : List Cn} {id : Int} : (id < 0 → bindS cs [] (idSl id) = none) ∧ (∀ N : Nat, id = (N : Int) → cs.length ≤ N → bindS cs [] (idSl id) = none) ∧ (∀ (N : Nat) (h : N < cs.length), id = (N : Int) → bindS cs [] (idSl id) = some cs[N]) := by
  refine ⟨fun h => if_pos h, fun N h h1 => ?_, fun N h h1 => ?_⟩
  · subst h; exact bindS_high (l := cs) rfl (by omega) (by simpa using h1)
  · subst h1; exact bindS_some (l := cs) rfl (by omega) (by simpa using h)

set_option maxRecDepth 20000 in
set_option maxHeartbeats 8000000 in
theorem fact_core (x : Co) (p : Rw) (w : World) (hx : x.ok w) (hp : p.ok w) (hpn : p.n ≤ 1048576) :
    Calls Tryd.prog 68 #[.agg x.cells.toArray, .agg p.cells.toArray] w fun e w' => FactSaid (factS x.ds x.cs p.p p.xs) w.heap.size e w' ∧ Below w.heap.size w w' := by
  obtain ⟨i0, hi0, hz0, hz1, hz2⟩ := info_parts Tryd.info68
  have hlp0 : p.xs.length = p.n := by have h := hp.1; rw [icells_length] at h; omega
  have hld : x.ds.length = x.dn := by have h := hx.d.1; rw [pdcells, flat_length Pd.cells 2 (fun _ => rfl)] at h; omega
  have hlc : x.cs.length = x.cn := by have h := hx.c.1; rw [kcells_length] at h; omega
  obtain ⟨V, hV⟩ : ∃ V, V = factS x.ds x.cs p.p p.xs := ⟨_, rfl⟩
  rw [← hV]
  unfold factS at hV
  have HD := Lib.hid hx.d
  have HC := Lib.hid hx.c
  obtain ⟨DA, dn, dc, ds, CA, cn, cc, cs, RA, rn, rc, rs, FA, fn, fc, fs⟩ := x
  obtain ⟨pp, pA, pn, pc, ids⟩ := p
  dsimp only at HD HC hlp0 hld hlc hpn hV
  show Calls Tryd.prog 68 #[.agg #[.slice DA dn dc, .slice CA cn cc, .slice RA rn rc, .slice FA fn fc], .agg #[.int .i64 pp, .slice pA pn pc]] w _
  have HP : Hid (Rd w w.heap.size 1 pA pn (icells ids)) := Lib.hid hp
  have HI := Lib.hid hlp0
  have hlp : (ids.map idSl).length = pn := by rw [List.length_map]; exact hlp0
  have HGet : Hid (∀ k (h : k < ids.length) (h2 : k < (ids.map idSl).length), (ids.map idSl)[k] = idSl ids[k]) := Lib.hid fun k h h2 => by simp
  generalize hpx : ids.map idSl = pxs at *
  clear hpx hlp0
  have HV := Lib.hid hV
  have HLP := Lib.hid hlp
  have hdb := HD.out.2.1
  have hcb := HC.out.2.1
  clear hx hp hV hlp
  go_enter Tryd.func68, Tryd.ntmps68
  go_upto_region 1 with (fail)
  obtain ⟨hb, h1, h2, h3, hsz⟩ := three_alloc w 40 84 45 [.slice DA dn dc, .slice CA cn cc, .slice RA rn rc, .slice FA fn fc] [.int .i64 pp, .slice pA pn pc] [.string ⟨#[]⟩, .slice none 0 0]
  generalize World.alloc (World.alloc (World.alloc _ _) _) _ = w3 at *
  generalize hR : w.heap.size = R at *
  have HRR := Lib.hid hR
  clear hR
  have HB := Lib.hid hb
  have H1 := Lib.hid h1
  have H2 := Lib.hid h2
  have H3 := Lib.hid h3
  have f0 := (h1.cell 0).trans rfl
  have g0 := (h2.cell 0).trans rfl
  have g1 := (h2.cell 1).trans rfl
  clear h1 h2 h3 hb
  rcases Int.lt_or_le pp 0 with hs0 | hs0
  · have t0 : decide (pp < 0) = true := decide_eq_true hs0
    obtain rfl : V = none := by rw [HV.out]; exact if_pos hs0
    clear HV
    go_quiet (fail)
    clear t0 f0 g0 g1
    have hbq : Below R w3 (w3.drewN nq) := ⟨rfl, rfl, rfl, Nat.le_refl _, fun _ _ => rfl⟩
    have hd := H3.out.drewN nq
    generalize World.drewN w3 nq = w4 at *
    have HB4 := Lib.hid (HB.out.trans hbq)
    have q0 := hd.frozen 0
    have q1 := hd.frozen 1
    have r0 := (hd.cell 0).trans rfl
    have r1 := (hd.cell 1).trans rfl
    have hk := (hd.set_ 0 (.string ⟨#[]⟩)).set_ 1 (.slice none 0 0)
    have hb5 := Lib.hid ((HB4.out.setCell (p := ⟨R + 1 + 1, 0, none⟩) (by show R ≤ R + 1 + 1; omega) (.string ⟨#[]⟩)).setCell (p := ⟨R + 1 + 1, 1, none⟩) (by show R ≤ R + 1 + 1; omega) (.slice none 0 0))
    clear hbq hd HB HB4
    go_wp2
    generalize World.setCell (World.setCell _ _ _) _ _ = w5 at *
    have k0 := (hk.cell 0).trans rfl
    have k1 := (hk.cell 1).trans rfl
    refine bodyPost_ret (v := .tuple #[.agg #[.string ⟨#[]⟩, .slice none 0 0], .int .i64 2]) (by simp [results, Tryd.results68, go_sem, k0, k1]) rfl ?_
    exact ⟨⟨⟨#[]⟩, none, 0, 0, [], rfl, World.ownsRow_nil _ _ _ _, .inr ⟨rfl, rfl, rfl⟩⟩, by rw [HRR.out]; exact hb5.out⟩
  obtain ⟨N, rfl⟩ : ∃ N : Nat, pp = (N : Int) := ⟨pp.toNat, by omega⟩
  have t0 : decide ((N : Int) < 0) = false := decide_eq_false (by omega)
  have HV2 : Hid (V = match ds[N]? with | none => none | some d => if (pxs.length : Int) = d.a then (bindAll cs [] pxs).map fun l => (d.s, l) else none) := Lib.hid (by rw [HV.out]; unfold underS; rw [if_neg (by omega)]; rfl)
  clear HV
  by_cases hN : dn ≤ N
  · have t1 : decide ((dn : Int) ≤ (N : Int)) = true := decide_eq_true (by omega)
    obtain rfl : V = none := by rw [HV2.out, List.getElem?_eq_none (by omega)]
    clear HV2
    go_quiet (fail)
    clear t0 t1 f0 g0 g1
    have hbq : Below R w3 (w3.drewN nq) := ⟨rfl, rfl, rfl, Nat.le_refl _, fun _ _ => rfl⟩
    have hd := H3.out.drewN nq
    generalize World.drewN w3 nq = w4 at *
    have HB4 := Lib.hid (HB.out.trans hbq)
    have q0 := hd.frozen 0
    have q1 := hd.frozen 1
    have r0 := (hd.cell 0).trans rfl
    have r1 := (hd.cell 1).trans rfl
    have hk := (hd.set_ 0 (.string ⟨#[]⟩)).set_ 1 (.slice none 0 0)
    have hb5 := Lib.hid ((HB4.out.setCell (p := ⟨R + 1 + 1, 0, none⟩) (by show R ≤ R + 1 + 1; omega) (.string ⟨#[]⟩)).setCell (p := ⟨R + 1 + 1, 1, none⟩) (by show R ≤ R + 1 + 1; omega) (.slice none 0 0))
    clear hbq hd HB HB4
    go_wp2
    generalize World.setCell (World.setCell _ _ _) _ _ = w5 at *
    have k0 := (hk.cell 0).trans rfl
    have k1 := (hk.cell 1).trans rfl
    refine bodyPost_ret (v := .tuple #[.agg #[.string ⟨#[]⟩, .slice none 0 0], .int .i64 2]) (by simp [results, Tryd.results68, go_sem, k0, k1]) rfl ?_
    exact ⟨⟨⟨#[]⟩, none, 0, 0, [], rfl, World.ownsRow_nil _ _ _ _, .inr ⟨rfl, rfl, rfl⟩⟩, by rw [HRR.out]; exact hb5.out⟩
  have t1 : decide ((dn : Int) ≤ (N : Int)) = false := decide_eq_false (by omega)
  obtain ⟨b1, o1, hk1, rfl, hb1, hc⟩ := (HD.out.below HB.out).at Pd.cells 2 (fun _ => rfl) (by omega) N (by omega)
  have c0 := hc 0 _ (by omega) rfl
  have c1 := hc 1 _ (by omega) rfl
  rw [Nat.add_zero] at c0
  clear hc
  have HV3 : Hid (V = if (pxs.length : Int) = ds[N].a then (bindAll cs [] pxs).map fun l => (ds[N].s, l) else none) := Lib.hid (by rw [HV2.out, List.getElem?_eq_getElem hk1])
  clear HV2
  generalize ds[N] = d at *
  obtain ⟨dS, dA⟩ := d
  dsimp only at c0 c1 HV3
  rw [HLP.out] at HV3
  by_cases hA : (pn : Int) = dA
  · have t2 : ((pn : Int) != dA) = false := by simpa using hA
    have HV4 : Hid (V = (bindAll cs [] pxs).map fun l => (dS, l)) := Lib.hid (by rw [HV3.out, if_pos hA])
    clear HV3 hA
    go_quiet (fail)
    clear t0 t1 t2
    have hbq : Below R w3 (w3.drewN nq) := ⟨rfl, rfl, rfl, Nat.le_refl _, fun _ _ => rfl⟩
    have hd1 := H1.out.drewN nq
    have hd2 := H2.out.drewN nq
    have hd3 := H3.out.drewN nq
    have d0 := (hbq.cell (p := ⟨b1, o1 + N * 2, none⟩) hb1).trans c0
    have d1 := (hbq.cell (p := ⟨b1, o1 + N * 2 + 1, none⟩) hb1).trans c1
    have hsz4 : (w3.drewN nq).heap.size = R + 1 + 1 + 1 := hsz
    clear c0 c1 f0 g0 g1 H1 H2 H3 hsz
    generalize World.drewN w3 nq = w4 at *
    have HB4 := Lib.hid (HB.out.trans hbq)
    have f0 := (hd1.cell 0).trans rfl
    have g0 := (hd2.cell 0).trans rfl
    have g1 := (hd2.cell 1).trans rfl
    go_upto_region 5 with (fail)
    have hba := (Below.refl w4.heap.size w4).alloc (Nat.le_refl _) (.cells #[.string dS, .slice none 0 0] 45)
    have HF := Lib.hid (Blk.new w4 45 [.string dS, .slice none 0 0])
    have hs5 : (w4.alloc (.cells #[.string dS, .slice none 0 0] 45)).heap.size = R + 1 + 1 + 1 + 1 := by simp [hsz4]
    generalize World.alloc _ _ = w5 at *
    rw [hsz4] at hba HF
    have G1 := Lib.hid (hd1.below hba (by omega))
    have G2 := Lib.hid (hd2.below hba (by omega))
    have G3 := Lib.hid (hd3.below hba (by omega))
    have GB := Lib.hid (HB4.out.trans (hba.mono (by omega)))
    clear hbq hd1 hd2 hd3 d0 d1 f0 g0 g1 hba HB HB4
    clear hsz4
    have hsF : R + 1 + 1 + 1 < w5.heap.size := by omega
    go_loopg [45] pn (fun gk u45 wr => ∃ (i : Nat) (acc : List Cn) (A8 : Option Addr) (c8 : Nat), u45 = .int .i64 i ∧ i ≤ pn ∧ Hid (gk = pn - i) ∧ Hid (bindAll cs [] (pxs.take i) = some acc) ∧ Hid (Below R w wr) ∧ Hid (Blk wr R 40 [.slice (some ⟨b1, o1, none⟩) dn dc, .slice CA cn cc, .slice RA rn rc, .slice FA fn fc]) ∧ Hid (Blk wr (R + 1) 84 [.int .i64 (N : Int), .slice pA pn pc]) ∧ Hid (Blk wr (R + 1 + 1) 45 [.string ⟨#[]⟩, .slice none 0 0]) ∧ Hid (Blk wr (R + 1 + 1 + 1) 45 [.string dS, .slice A8 i c8]) ∧ Hid (wr.ownsRow R 68 3 (.slice A8 i c8) i (kcells acc)))
    case atStart => exact ⟨0, [], none, 0, rfl, Nat.zero_le _, Lib.hid (by omega), Lib.hid rfl, GB, G1, G2, G3, HF, Lib.hid (World.ownsRow_nil _ _ _ _)⟩
    case round =>
      clear GB G1 G2 G3 HF hs5 hsF
      obtain ⟨i, acc, A8, c8, rfl, hi, HG, HA, GB, G1, G2, G3, HF, HO⟩ := hrel
      have hsF := HF.out.lt
      by_cases hlt : i < pn
      · obtain ⟨b2, o2, hk2, rfl, hb2, c0⟩ := (HP.out.below GB.out).ints i hlt
        have f1 := (G1.out.cell 1).trans rfl
        have g1 := (G2.out.cell 1).trans rfl
        have HST := Lib.hid (bindAll_step (show i < pxs.length by rw [HLP.out]; exact hlt) HA.out)
        rw [HGet.out i hk2 (by rw [HLP.out]; exact hlt)] at HST
        have HBI : Hid ((ids[i] < 0 → bindS cs [] (idSl ids[i]) = none) ∧ (∀ N : Nat, ids[i] = (N : Int) → cs.length ≤ N → bindS cs [] (idSl ids[i]) = none) ∧ (∀ (N : Nat) (h : N < cs.length), ids[i] = (N : Int) → bindS cs [] (idSl ids[i]) = some cs[N])) := Lib.hid bindId
        generalize bindS cs [] (idSl ids[i]) = o at *
        generalize ids[i] = id at *
        rcases Int.lt_or_le id 0 with hid | hid
        · have t1 : decide (id < 0) = true := decide_eq_true hid
          obtain rfl : V = none := by rw [HV4.out, HST.out.2 (HBI.out.1 hid)]; rfl
          have X1 := G1
          have X2 := G2
          have X3 := G3
          have XF := HF
          have XO := HO
          have XB := GB
          clear G1 G2 G3 HF HO GB
          clear HST HBI
          have q0 := X3.out.frozen 0
          have q1 := X3.out.frozen 1
          have r0 := (X3.out.cell 0).trans rfl
          have r1 := (X3.out.cell 1).trans rfl
          have hk := (X3.out.set_ 0 (.string ⟨#[]⟩)).set_ 1 (.slice none 0 0)
          have hb5 := Lib.hid ((XB.out.setCell (p := ⟨R + 1 + 1, 0, none⟩) (by show R ≤ R + 1 + 1; omega) (.string ⟨#[]⟩)).setCell (p := ⟨R + 1 + 1, 1, none⟩) (by show R ≤ R + 1 + 1; omega) (.slice none 0 0))
          go_wp2
          generalize World.setCell (World.setCell _ _ _) _ _ = w9 at *
          have k0 := (hk.cell 0).trans rfl
          have k1 := (hk.cell 1).trans rfl
          refine bodyPost_ret (v := .tuple #[.agg #[.string ⟨#[]⟩, .slice none 0 0], .int .i64 2]) (by simp [results, Tryd.results68, go_sem, k0, k1]) rfl ?_
          exact ⟨⟨⟨#[]⟩, none, 0, 0, [], rfl, World.ownsRow_nil _ _ _ _, .inr ⟨rfl, rfl, rfl⟩⟩, by rw [HRR.out]; exact hb5.out⟩
        · obtain ⟨M, rfl⟩ : ∃ M : Nat, id = (M : Int) := ⟨id.toNat, by omega⟩
          have t1 : decide ((M : Int) < 0) = false := decide_eq_false (by omega)
          by_cases hM : cn ≤ M
          · have t2 : decide ((cn : Int) ≤ (M : Int)) = true := decide_eq_true (by omega)
            obtain rfl : V = none := by rw [HV4.out, HST.out.2 (HBI.out.2.1 M rfl (by omega))]; rfl
            have X1 := G1
            have X2 := G2
            have X3 := G3
            have XF := HF
            have XO := HO
            have XB := GB
            clear G1 G2 G3 HF HO GB
            clear HST HBI
            have q0 := X3.out.frozen 0
            have q1 := X3.out.frozen 1
            have r0 := (X3.out.cell 0).trans rfl
            have r1 := (X3.out.cell 1).trans rfl
            have hk := (X3.out.set_ 0 (.string ⟨#[]⟩)).set_ 1 (.slice none 0 0)
            have hb5 := Lib.hid ((XB.out.setCell (p := ⟨R + 1 + 1, 0, none⟩) (by show R ≤ R + 1 + 1; omega) (.string ⟨#[]⟩)).setCell (p := ⟨R + 1 + 1, 1, none⟩) (by show R ≤ R + 1 + 1; omega) (.slice none 0 0))
            go_wp2
            generalize World.setCell (World.setCell _ _ _) _ _ = w9 at *
            have k0 := (hk.cell 0).trans rfl
            have k1 := (hk.cell 1).trans rfl
            refine bodyPost_ret (v := .tuple #[.agg #[.string ⟨#[]⟩, .slice none 0 0], .int .i64 2]) (by simp [results, Tryd.results68, go_sem, k0, k1]) rfl ?_
            exact ⟨⟨⟨#[]⟩, none, 0, 0, [], rfl, World.ownsRow_nil _ _ _ _, .inr ⟨rfl, rfl, rfl⟩⟩, by rw [HRR.out]; exact hb5.out⟩
          · have t2 : decide ((cn : Int) ≤ (M : Int)) = false := decide_eq_false (by omega)
            obtain ⟨b3, o3, hk3, rfl, hb3, hc⟩ := (HC.out.below GB.out).at Cn.cells 3 (fun _ => rfl) (by omega) M (by omega)
            have d0 := hc 0 _ (by omega) rfl
            have d1 := hc 1 _ (by omega) rfl
            have d2 := hc 2 _ (by omega) rfl
            rw [Nat.add_zero] at d0
            clear hc
            have HA2 := Lib.hid (HST.out.1 _ (HBI.out.2.2 M hk3 rfl))
            clear HST HBI
            generalize cs[M] = z at *
            obtain ⟨zk, zi, zt⟩ := z
            dsimp only at d0 d1 d2
            go_upto_region 9 with (fail)
            have hbd : Below wr.heap.size wr wr.drew := (Below.refl _ _).drew
            have K1 := Lib.hid G1.out.drew
            have K2 := Lib.hid G2.out.drew
            have K3 := Lib.hid G3.out.drew
            have KF := Lib.hid HF.out.drew
            have KB : Hid (Below R w wr.drew) := Lib.hid GB.out.drew
            have KO := Lib.hid (own_below HO.out hbd)
            have e0 : wr.drew.cell? ⟨b3, o3 + M * 3, none⟩ = some (.int .i64 zk) := d0
            have e1 : wr.drew.cell? ⟨b3, o3 + M * 3 + 1, none⟩ = some (.int .i64 zi) := d1
            have e2 : wr.drew.cell? ⟨b3, o3 + M * 3 + 2, none⟩ = some (.string zt) := d2
            have e3 : wr.drew.cell? ⟨b2, o2 + i, none⟩ = some (.int .i64 (M : Int)) := c0
            have hs1 : R + 1 + 1 + 1 < wr.drew.heap.size := hsF
            clear d0 d1 d2 c0 f1 g1 hbd G1 G2 G3 HF GB HO hsF
            generalize hdw : wr.drew = wd at *
            obtain ⟨C, hCi⟩ : ∃ C : World → Prop, ∀ w', C w' ↔ (Blk w' R 40 [.slice (some ⟨b1, o1, none⟩) dn dc, .slice (some ⟨b3, o3, none⟩) cn cc, .slice RA rn rc, .slice FA fn fc] ∧ Blk w' (R + 1) 84 [.int .i64 (N : Int), .slice (some ⟨b2, o2, none⟩) pn pc] ∧ Blk w' (R + 1 + 1 + 1) 45 [.string dS, .slice A8 i c8] ∧ w'.cell? ⟨b3, o3 + M * 3, none⟩ = some (.int .i64 zk) ∧ w'.cell? ⟨b3, o3 + M * 3 + 1, none⟩ = some (.int .i64 zi) ∧ w'.cell? ⟨b3, o3 + M * 3 + 2, none⟩ = some (.string zt) ∧ w'.cell? ⟨b2, o2 + i, none⟩ = some (.int .i64 (M : Int))) := ⟨_, fun _ => Iff.rfl⟩
            have HCx : Hid (∀ w', Below R wd w' → Blk w' R 40 [.slice (some ⟨b1, o1, none⟩) dn dc, .slice (some ⟨b3, o3, none⟩) cn cc, .slice RA rn rc, .slice FA fn fc] → Blk w' (R + 1) 84 [.int .i64 (N : Int), .slice (some ⟨b2, o2, none⟩) pn pc] → Blk w' (R + 1 + 1 + 1) 45 [.string dS, .slice A8 i c8] → C w') := Lib.hid fun w' hb a1 a2 a3 => (hCi _).2 ⟨a1, a2, a3, (hb.cell (p := ⟨b3, o3 + M * 3, none⟩) hb3).trans e0, (hb.cell (p := ⟨b3, o3 + M * 3 + 1, none⟩) hb3).trans e1, (hb.cell (p := ⟨b3, o3 + M * 3 + 2, none⟩) hb3).trans e2, (hb.cell (p := ⟨b2, o2 + i, none⟩) hb2).trans e3⟩
            have q1 : ∀ q : WC C, q.w.cell? ⟨R, 1, none⟩ = some (.slice (some ⟨b3, o3, none⟩) cn cc) := fun q => ((hCi _).1 q.h).1.cell 1
            have q2 : ∀ q : WC C, q.w.cell? ⟨R + 1, 1, none⟩ = some (.slice (some ⟨b2, o2, none⟩) pn pc) := fun q => ((hCi _).1 q.h).2.1.cell 1
            have q3 : ∀ q : WC C, q.w.cell? ⟨R + 1 + 1 + 1, 1, none⟩ = some (.slice A8 i c8) := fun q => ((hCi _).1 q.h).2.2.1.cell 1
            have q4 : ∀ q : WC C, q.w.cell? ⟨b3, o3 + M * 3, none⟩ = some (.int .i64 zk) := fun q => ((hCi _).1 q.h).2.2.2.1
            have q5 : ∀ q : WC C, q.w.cell? ⟨b3, o3 + M * 3 + 1, none⟩ = some (.int .i64 zi) := fun q => ((hCi _).1 q.h).2.2.2.2.1
            have q6 : ∀ q : WC C, q.w.cell? ⟨b3, o3 + M * 3 + 2, none⟩ = some (.string zt) := fun q => ((hCi _).1 q.h).2.2.2.2.2.1
            have q7 : ∀ q : WC C, q.w.cell? ⟨b2, o2 + i, none⟩ = some (.int .i64 (M : Int)) := fun q => ((hCi _).1 q.h).2.2.2.2.2.2
            have hC : C wd := HCx.out wd (Below.refl _ _) K1.out K2.out KF.out
            have kn : Nonempty (WC C) := ⟨⟨_, hC⟩⟩
            clear hCi e0 e1 e2 e3
            refine wp_region_front' C [0, 1, 2, 3, 4, 5, 6] [7, 8, 9, 10] (fun j => decide (j < 10)) (by kernel_rfl) (fun _ _ d _ _ h => by cases d <;> exact h) (by kernel_rfl) (hdw ▸ hC) ?_
            simp only [List.map_cons, List.map_nil, List.getD_cons_zero, List.getD_cons_succ]
            repeat (go_big_quiet_step (fail))
            refine wpQuiet_nil ?_
            clear q1 q2 q3 q4 q5 q6 q7 kn hC
            rw [hdw]
            clear hdw
            have hown := KO.out
            have hba := (Below.refl wd.heap.size wd).alloc (Nat.le_refl _) (.cells #[.int .i64 zk, .int .i64 zi, .string zt] 68)
            have HC6 := Lib.hid (HCx.out _ (hba.mono (by omega)) (K1.out.below hba K1.out.lt) (K2.out.below hba K2.out.lt) (KF.out.below hba KF.out.lt))
            clear hba
            refine wpTail_cons ?_
            go_wp2
            refine tailQ_normal (fun _ => HC6.out) ?_
            refine wpTail_cons ?_
            refine wpList_append_own _ rfl _ _ 36 rfl R 68 i0 _ 3 32 Tryd.underlying36 hi0 hz0 hz1 hz2 rfl (by decide) _ _ _ rfl (hown.alloc _) ⟨wd.heap.size, 0, none⟩ 1 1 [.int .i64 zk, .int .i64 zi, .string zt] rfl rfl (fun j u h => new_cells _ _ _ j u h) (by intro u hu; exact cons_one [⟨zk, zi, zt⟩] u (by simpa [kcells, Cn.cells] using hu)) (by unfold maxLen; omega) (by omega) (by simp; omega) ?_
            intro v7 w7 hown7 hg7 _
            obtain ⟨A9, c9, rfl, _⟩ := own_slice hown7
            have Y1 := (K1.out.alloc (.cells #[.int .i64 zk, .int .i64 zi, .string zt] 68)).grown hg7 (own_blk_ne hown K1.out (by decide))
            have Y2 := (K2.out.alloc (.cells #[.int .i64 zk, .int .i64 zi, .string zt] 68)).grown hg7 (own_blk_ne hown K2.out (by decide))
            have Y3 := (K3.out.alloc (.cells #[.int .i64 zk, .int .i64 zi, .string zt] 68)).grown hg7 (own_blk_ne hown K3.out (by decide))
            have YF := (KF.out.alloc (.cells #[.int .i64 zk, .int .i64 zi, .string zt] 68)).grown hg7 (own_blk_ne hown KF.out (by decide))
            have YBd := ((Below.refl R wd).alloc (by omega) (.cells #[.int .i64 zk, .int .i64 zi, .string zt] 68)).grown hg7 (by simp; omega) (fun q hq => (hown.lt q hq).1)
            have YB := KB.out.trans YBd
            have YO : w7.ownsRow R 68 3 (.slice A9 (i + 1) c9) (i + 1) (kcells (acc ++ [⟨zk, zi, zt⟩])) := by rw [kcells_append]; simpa [kcells, Cn.cells] using hown7
            have hC7 := Lib.hid (HCx.out w7 YBd Y1 Y2 YF)
            have l1 := YF.frozen 1
            have l0 := (YF.cell 0).trans rfl
            have l2 := (YF.cell 1).trans rfl
            have E1 := Lib.hid (Y1.far (p := ⟨R + 1 + 1 + 1, 1, none⟩) (by show R ≠ R + 1 + 1 + 1; omega) (.slice A9 (i + 1) c9))
            have E2 := Lib.hid (Y2.far (p := ⟨R + 1 + 1 + 1, 1, none⟩) (by show R + 1 ≠ R + 1 + 1 + 1; omega) (.slice A9 (i + 1) c9))
            have E3 := Lib.hid (Y3.far (p := ⟨R + 1 + 1 + 1, 1, none⟩) (by show R + 1 + 1 ≠ R + 1 + 1 + 1; omega) (.slice A9 (i + 1) c9))
            have EF := Lib.hid (YF.set_ 1 (.slice A9 (i + 1) c9))
            have EB := Lib.hid (YB.setCell (p := ⟨R + 1 + 1 + 1, 1, none⟩) (by show R ≤ R + 1 + 1 + 1; omega) (.slice A9 (i + 1) c9))
            have EO := Lib.hid (own_setCell_blk YO YF (by decide) 1 (.slice A9 (i + 1) c9))
            clear hown7 hown hg7 K1 K2 K3 KF KB KO Y1 Y2 Y3 YF YBd YB YO HCx HC6
            go_wp2
            refine tailQ_normal (fun _ => hC7.out) ?_
            refine wpTail_cons ?_
            go_wp2
            refine tailQ_normal (fun _ => hC7.out) ?_
            refine wpTail_cons ?_
            go_wp2
            refine tailQ_normal (fun h => by cases h) ?_
            refine wpTail_nil ?_
            clear l0 l1 l2 hC7
            generalize World.setCell _ _ _ = w8 at *
            go_wp2
            go_roundg (pn - (i + 1))
            case measure => have := HG.out; omega
            case rel => exact ⟨i + 1, acc ++ [⟨zk, zi, zt⟩], A9, c9, by go_num, by omega, Lib.hid rfl, HA2, EB, E1, E2, E3, EF, EO⟩
      · obtain rfl : i = pn := by omega
        have hall : pxs.take i = pxs := List.take_of_length_le (by have := HLP.out; omega)
        rw [hall] at HA
        obtain rfl : V = some (dS, acc) := by rw [HV4.out, HA.out]; rfl
        have q0 := G3.out.frozen 0
        have q1 := G3.out.frozen 1
        have r0 := (G3.out.cell 0).trans rfl
        have r1 := (G3.out.cell 1).trans rfl
        have n0 := (HF.out.cell 0).trans rfl
        have n1 := (HF.out.cell 1).trans rfl
        have hk := (G3.out.set_ 0 (.string dS)).set_ 1 (.slice A8 i c8)
        have hb5 := Lib.hid ((GB.out.setCell (p := ⟨R + 1 + 1, 0, none⟩) (by show R ≤ R + 1 + 1; omega) (.string dS)).setCell (p := ⟨R + 1 + 1, 1, none⟩) (by show R ≤ R + 1 + 1; omega) (.slice A8 i c8))
        have ho2 := own_setCell_blk HO.out G3.out (by decide) 0 (.string dS)
        have ho3 := Lib.hid (own_setCell_blk ho2 (G3.out.set_ 0 (.string dS)) (by decide) 1 (.slice A8 i c8))
        clear ho2
        go_wp2
        generalize World.setCell (World.setCell _ _ _) _ _ = w9 at *
        have k0 := (hk.cell 0).trans rfl
        have k1 := (hk.cell 1).trans rfl
        refine bodyPost_ret (v := .tuple #[.agg #[.string dS, .slice A8 i c8], .int .i64 0]) (by simp [results, Tryd.results68, go_sem, k0, k1]) rfl ?_
        exact ⟨⟨dS, A8, i, c8, acc, rfl, by rw [HRR.out]; exact ho3.out, .inl rfl⟩, by rw [HRR.out]; exact hb5.out⟩
  · have t2 : ((pn : Int) != dA) = true := by simpa using hA
    obtain rfl : V = none := by rw [HV3.out, if_neg hA]
    clear HV3 hA
    go_quiet (fail)
    clear t0 t1 t2 f0 g0 g1 c0 c1
    have hbq : Below R w3 (w3.drewN nq) := ⟨rfl, rfl, rfl, Nat.le_refl _, fun _ _ => rfl⟩
    have hd := H3.out.drewN nq
    generalize World.drewN w3 nq = w4 at *
    have HB4 := Lib.hid (HB.out.trans hbq)
    have q0 := hd.frozen 0
    have q1 := hd.frozen 1
    have r0 := (hd.cell 0).trans rfl
    have r1 := (hd.cell 1).trans rfl
    have hk := (hd.set_ 0 (.string ⟨#[]⟩)).set_ 1 (.slice none 0 0)
    have hb5 := Lib.hid ((HB4.out.setCell (p := ⟨R + 1 + 1, 0, none⟩) (by show R ≤ R + 1 + 1; omega) (.string ⟨#[]⟩)).setCell (p := ⟨R + 1 + 1, 1, none⟩) (by show R ≤ R + 1 + 1; omega) (.slice none 0 0))
    clear hbq hd HB HB4
    go_wp2
    generalize World.setCell (World.setCell _ _ _) _ _ = w5 at *
    have k0 := (hk.cell 0).trans rfl
    have k1 := (hk.cell 1).trans rfl
    refine bodyPost_ret (v := .tuple #[.agg #[.string ⟨#[]⟩, .slice none 0 0], .int .i64 2]) (by simp [results, Tryd.results68, go_sem, k0, k1]) rfl ?_
    exact ⟨⟨⟨#[]⟩, none, 0, 0, [], rfl, World.ownsRow_nil _ _ _ _, .inr ⟨rfl, rfl, rfl⟩⟩, by rw [HRR.out]; exact hb5.out⟩
end Go.Proofs.YtjcgkplphiedjaaDoorT
