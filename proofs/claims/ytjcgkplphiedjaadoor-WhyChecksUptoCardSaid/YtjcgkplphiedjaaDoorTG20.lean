/- A pattern under a substitution, the document's. -/
import Derived.Test.YtjcgkplphiedjaaDoorTG19
import Derived.Deep.RegionHeld3
namespace Go.Proofs.YtjcgkplphiedjaaDoorT
open Go.RowKit Go.Sort

def bindAll (cs sub : List Cn) : List Sl → Option (List Cn)
  | [] => some []
  | s :: l => (bindS cs sub s).bind fun z => (bindAll cs sub l).map (z :: ·)
theorem bindAll_append (cs sub : List Cn) : ∀ a b : List Sl, bindAll cs sub (a ++ b) = (bindAll cs sub a).bind fun x => (bindAll cs sub b).map (x ++ ·)
  | [], b => by
    rw [List.nil_append, bindAll]
    cases bindAll cs sub b <;> rfl
  | s :: a, b => by
    rw [List.cons_append, bindAll, bindAll, bindAll_append cs sub a b]
    cases bindS cs sub s with
    | none => rfl
    | some z =>
      cases bindAll cs sub a with
      | none => rfl
      | some x => cases bindAll cs sub b <;> rfl
theorem bindAll_step {cs sub acc : List Cn} {l : List Sl} {k : Nat} (hk : k < l.length) (h : bindAll cs sub (l.take k) = some acc) :
    (∀ z, bindS cs sub l[k] = some z → bindAll cs sub (l.take (k + 1)) = some (acc ++ [z])) ∧ (bindS cs sub l[k] = none → bindAll cs sub l = none) := by
  constructor
  · intro z hz
    rw [take_snoc l k hk, bindAll_append, h]
    show ((bindAll cs sub [l[k]]).map (acc ++ ·)) = _
    rw [bindAll, hz]
    rfl
  · intro hz
    have e : l = l.take k ++ (l[k] :: l.drop (k + 1)) := by rw [List.getElem_cons_drop, List.take_append_drop]
    rw [e, bindAll_append, h]
    show ((bindAll cs sub (l[k] :: l.drop (k + 1))).map (acc ++ ·)) = none
    rw [bindAll, hz]
    rfl
/-- A pattern in names. -/
def underS (ds : List Pd) (cs sub : List Cn) (p : Int) (xs : List Sl) : Option (ByteArray × List Cn) :=
  if p < 0 then none else match ds[p.toNat]? with
    | none => none
    | some d => if (xs.length : Int) = d.a then (bindAll cs sub xs).map fun l => (d.s, l) else none
/-- What under says. -/
def UnderSaid (o : Option (ByteArray × List Cn)) (R : Nat) (e : Ending) (w' : World) : Prop :=
  ∃ q A n c l, e = .returned (.tuple #[.agg #[.string q, .slice A n c], .bool o.isSome]) ∧ w'.ownsRow R 68 3 (.slice A n c) n (kcells l) ∧ (o = some (q, l) ∨ (o = none ∧ q = ⟨#[]⟩ ∧ l = []))

set_option maxRecDepth 20000 in
set_option maxHeartbeats 8000000 in
theorem under_ref (x : Co) (p : Pn) (A : Option Addr) (n c : Nat) (sub : List Cn) (w : World) (hx : x.ok w) (hp : p.ok w) (hr : Rd w w.heap.size 3 A n (kcells sub)) (hpn : p.n ≤ 1048576) :
    Calls Tryd.prog 64 #[.agg x.cells.toArray, .agg p.cells.toArray, .slice A n c] w fun e w' => UnderSaid (underS x.ds x.cs sub p.p p.xs) w.heap.size e w' ∧ Below w.heap.size w w' := by
  obtain ⟨i0, hi0, hz0, hz1, hz2⟩ := info_parts Tryd.info68
  have hlp : p.xs.length = p.n := by have h := hp.1; rw [slcells, flat_length Sl.cells 2 (fun _ => rfl)] at h; omega
  have hld : x.ds.length = x.dn := by have h := hx.d.1; rw [pdcells, flat_length Pd.cells 2 (fun _ => rfl)] at h; omega
  obtain ⟨V, hV⟩ : ∃ V, V = underS x.ds x.cs sub p.p p.xs := ⟨_, rfl⟩
  rw [← hV]
  have HD := Lib.hid hx.d
  have HC := Lib.hid hx.c
  have HXB := Lib.hid (fun (s : Sl) W h1 h2 => bind_ref x s A n c sub W h1 h2)
  obtain ⟨DA, dn, dc, ds, CA, cn, cc, cs, RA, rn, rc, rs, FA, fn, fc, fs⟩ := x
  obtain ⟨pp, pA, pn, pc, pxs⟩ := p
  dsimp only at HD HC hlp hld hpn hV HXB
  simp only [Co.cells] at HXB
  show Calls Tryd.prog 64 #[.agg #[.slice DA dn dc, .slice CA cn cc, .slice RA rn rc, .slice FA fn fc], .agg #[.int .i64 pp, .slice pA pn pc], .slice A n c] w _
  have HP : Hid (Rd w w.heap.size 2 pA pn (slcells pxs)) := Lib.hid hp
  have HR := Lib.hid hr
  have HV := Lib.hid hV
  have HLP := Lib.hid hlp
  have hdb := HD.out.2.1
  clear hx hp hr hV hlp
  go_enter Tryd.func64, Tryd.ntmps64
  go_upto_region 1 with (fail)
  obtain ⟨hb, h1, h2, h3, hsz⟩ := three_alloc w 40 77 45 [.slice DA dn dc, .slice CA cn cc, .slice RA rn rc, .slice FA fn fc] [.int .i64 pp, .slice pA pn pc] [.string ⟨#[]⟩, .slice none 0 0]
  generalize World.alloc (World.alloc (World.alloc _ _) _) _ = w3 at *
  generalize hR : w.heap.size = R at *
  have HRR := Lib.hid hR
  clear hR
  have HB := Lib.hid hb
  have H1 := Lib.hid h1
  have H2 := Lib.hid h2
  have H3 := Lib.hid h3
  have f0 := (h1.cell 0).trans rfl
  have g0 := (h2.cell 0).trans rfl
  have g1 := (h2.cell 1).trans rfl
  clear h1 h2 h3 hb
  rcases Int.lt_or_le pp 0 with hs0 | hs0
  · have t0 : decide (pp < 0) = true := decide_eq_true hs0
    obtain rfl : V = none := by rw [HV.out]; exact if_pos hs0
    clear HV HXB
    go_quiet (fail)
    clear t0 f0 g0 g1
    have hbq : Below R w3 (w3.drewN nq) := ⟨rfl, rfl, rfl, Nat.le_refl _, fun _ _ => rfl⟩
    have hd := H3.out.drewN nq
    generalize World.drewN w3 nq = w4 at *
    have HB4 := Lib.hid (HB.out.trans hbq)
    have q0 := hd.frozen 0
    have q1 := hd.frozen 1
    have r0 := (hd.cell 0).trans rfl
    have r1 := (hd.cell 1).trans rfl
    have hk := (hd.set_ 0 (.string ⟨#[]⟩)).set_ 1 (.slice none 0 0)
    have hb5 := Lib.hid ((HB4.out.setCell (p := ⟨R + 1 + 1, 0, none⟩) (by show R ≤ R + 1 + 1; omega) (.string ⟨#[]⟩)).setCell (p := ⟨R + 1 + 1, 1, none⟩) (by show R ≤ R + 1 + 1; omega) (.slice none 0 0))
    clear hbq hd HB HB4
    go_wp2
    generalize World.setCell (World.setCell _ _ _) _ _ = w5 at *
    have k0 := (hk.cell 0).trans rfl
    have k1 := (hk.cell 1).trans rfl
    refine bodyPost_ret (v := .tuple #[.agg #[.string ⟨#[]⟩, .slice none 0 0], .bool false]) (by simp [results, Tryd.results64, go_sem, k0, k1]) rfl ?_
    exact ⟨⟨⟨#[]⟩, none, 0, 0, [], rfl, World.ownsRow_nil _ _ _ _, .inr ⟨rfl, rfl, rfl⟩⟩, by rw [HRR.out]; exact hb5.out⟩
  obtain ⟨N, rfl⟩ : ∃ N : Nat, pp = (N : Int) := ⟨pp.toNat, by omega⟩
  have t0 : decide ((N : Int) < 0) = false := decide_eq_false (by omega)
  have HV2 : Hid (V = match ds[N]? with | none => none | some d => if (pxs.length : Int) = d.a then (bindAll cs sub pxs).map fun l => (d.s, l) else none) := Lib.hid (by rw [HV.out]; unfold underS; rw [if_neg (by omega)]; rfl)
  clear HV
  by_cases hN : dn ≤ N
  · have t1 : decide ((dn : Int) ≤ (N : Int)) = true := decide_eq_true (by omega)
    obtain rfl : V = none := by rw [HV2.out, List.getElem?_eq_none (by omega)]
    clear HV2 HXB
    go_quiet (fail)
    clear t0 t1 f0 g0 g1
    have hbq : Below R w3 (w3.drewN nq) := ⟨rfl, rfl, rfl, Nat.le_refl _, fun _ _ => rfl⟩
    have hd := H3.out.drewN nq
    generalize World.drewN w3 nq = w4 at *
    have HB4 := Lib.hid (HB.out.trans hbq)
    have q0 := hd.frozen 0
    have q1 := hd.frozen 1
    have r0 := (hd.cell 0).trans rfl
    have r1 := (hd.cell 1).trans rfl
    have hk := (hd.set_ 0 (.string ⟨#[]⟩)).set_ 1 (.slice none 0 0)
    have hb5 := Lib.hid ((HB4.out.setCell (p := ⟨R + 1 + 1, 0, none⟩) (by show R ≤ R + 1 + 1; omega) (.string ⟨#[]⟩)).setCell (p := ⟨R + 1 + 1, 1, none⟩) (by show R ≤ R + 1 + 1; omega) (.slice none 0 0))
    clear hbq hd HB HB4
    go_wp2
    generalize World.setCell (World.setCell _ _ _) _ _ = w5 at *
    have k0 := (hk.cell 0).trans rfl
    have k1 := (hk.cell 1).trans rfl
    refine bodyPost_ret (v := .tuple #[.agg #[.string ⟨#[]⟩, .slice none 0 0], .bool false]) (by simp [results, Tryd.results64, go_sem, k0, k1]) rfl ?_
    exact ⟨⟨⟨#[]⟩, none, 0, 0, [], rfl, World.ownsRow_nil _ _ _ _, .inr ⟨rfl, rfl, rfl⟩⟩, by rw [HRR.out]; exact hb5.out⟩
  have t1 : decide ((dn : Int) ≤ (N : Int)) = false := decide_eq_false (by omega)
  obtain ⟨b1, o1, hk1, rfl, hb1, hc⟩ := (HD.out.below HB.out).at Pd.cells 2 (fun _ => rfl) (by omega) N (by omega)
  have c0 := hc 0 _ (by omega) rfl
  have c1 := hc 1 _ (by omega) rfl
  rw [Nat.add_zero] at c0
  clear hc
  have HV3 : Hid (V = if (pxs.length : Int) = ds[N].a then (bindAll cs sub pxs).map fun l => (ds[N].s, l) else none) := Lib.hid (by rw [HV2.out, List.getElem?_eq_getElem hk1])
  clear HV2
  generalize ds[N] = d at *
  obtain ⟨dS, dA⟩ := d
  dsimp only at c0 c1 HV3
  rw [HLP.out] at HV3
  by_cases hA : (pn : Int) = dA
  · have t2 : ((pn : Int) != dA) = false := by simpa using hA
    have HV4 : Hid (V = (bindAll cs sub pxs).map fun l => (dS, l)) := Lib.hid (by rw [HV3.out, if_pos hA])
    clear HV3 hA
    go_quiet (fail)
    clear t0 t1 t2
    have hbq : Below R w3 (w3.drewN nq) := ⟨rfl, rfl, rfl, Nat.le_refl _, fun _ _ => rfl⟩
    have hd1 := H1.out.drewN nq
    have hd2 := H2.out.drewN nq
    have hd3 := H3.out.drewN nq
    have d0 := (hbq.cell (p := ⟨b1, o1 + N * 2, none⟩) hb1).trans c0
    have d1 := (hbq.cell (p := ⟨b1, o1 + N * 2 + 1, none⟩) hb1).trans c1
    have hsz4 : (w3.drewN nq).heap.size = R + 1 + 1 + 1 := hsz
    clear c0 c1 f0 g0 g1 H1 H2 H3 hsz
    generalize World.drewN w3 nq = w4 at *
    have HB4 := Lib.hid (HB.out.trans hbq)
    have f0 := (hd1.cell 0).trans rfl
    have g0 := (hd2.cell 0).trans rfl
    have g1 := (hd2.cell 1).trans rfl
    go_upto_region 5 with (fail)
    have hba := (Below.refl w4.heap.size w4).alloc (Nat.le_refl _) (.cells #[.string dS, .slice none 0 0] 45)
    have HF := Lib.hid (Blk.new w4 45 [.string dS, .slice none 0 0])
    have hs5 : (w4.alloc (.cells #[.string dS, .slice none 0 0] 45)).heap.size = R + 1 + 1 + 1 + 1 := by simp [hsz4]
    generalize World.alloc _ _ = w5 at *
    rw [hsz4] at hba HF
    have G1 := Lib.hid (hd1.below hba (by omega))
    have G2 := Lib.hid (hd2.below hba (by omega))
    have G3 := Lib.hid (hd3.below hba (by omega))
    have GB := Lib.hid (HB4.out.trans (hba.mono (by omega)))
    clear hbq hd1 hd2 hd3 d0 d1 f0 g0 g1 hba HB HB4
    clear hsz4
    have hsF : R + 1 + 1 + 1 < w5.heap.size := by omega
    go_loopg [9] pn (fun gk u9 wr => ∃ (i : Nat) (acc : List Cn) (A8 : Option Addr) (c8 : Nat), u9 = .int .i64 i ∧ i ≤ pn ∧ Hid (gk = pn - i) ∧ Hid (bindAll cs sub (pxs.take i) = some acc) ∧ Hid (Below R w wr) ∧ Hid (Blk wr R 40 [.slice (some ⟨b1, o1, none⟩) dn dc, .slice CA cn cc, .slice RA rn rc, .slice FA fn fc]) ∧ Hid (Blk wr (R + 1) 77 [.int .i64 (N : Int), .slice pA pn pc]) ∧ Hid (Blk wr (R + 1 + 1) 45 [.string ⟨#[]⟩, .slice none 0 0]) ∧ Hid (Blk wr (R + 1 + 1 + 1) 45 [.string dS, .slice A8 i c8]) ∧ Hid (wr.ownsRow R 68 3 (.slice A8 i c8) i (kcells acc)))
    case atStart => exact ⟨0, [], none, 0, rfl, Nat.zero_le _, Lib.hid (by omega), Lib.hid rfl, GB, G1, G2, G3, HF, Lib.hid (World.ownsRow_nil _ _ _ _)⟩
    case round =>
      clear GB G1 G2 G3 HF hs5 hsF
      obtain ⟨i, acc, A8, c8, rfl, hi, HG, HA, GB, G1, G2, G3, HF, HO⟩ := hrel
      have hsF := HF.out.lt
      have g1 := (G2.out.cell 1).trans rfl
      by_cases hlt : i < pn
      · obtain ⟨b2, o2, hk2, rfl, hb2, hc⟩ := (HP.out.below GB.out).at Sl.cells 2 (fun _ => rfl) (by omega) i hlt
        have c0 := hc 0 _ (by omega) rfl
        have c1 := hc 1 _ (by omega) rfl
        rw [Nat.add_zero] at c0
        clear hc
        have HST := Lib.hid (bindAll_step hk2 HA.out)
        generalize pxs[i] = s at *
        have HB8 := Lib.hid (HXB.out s)
        obtain ⟨sv, sn⟩ := s
        simp only [Sl.cells] at HB8
        dsimp only at c0 c1
        obtain ⟨o, ho⟩ : ∃ o, bindS cs sub ⟨sv, sn⟩ = o := ⟨_, rfl⟩
        rw [ho] at HB8
        rw [ho] at HST
        obtain ⟨z, hz⟩ : ∃ z, o.getD noK = z := ⟨_, rfl⟩
        have HZ := Lib.hid hz
        unfold optK at HB8
        rw [hz] at HB8
        clear ho hz
        obtain ⟨zk, zi, zt⟩ := z
        simp only [Cn.cells] at HB8
        obtain ⟨ob, hob⟩ : ∃ ob, o.isSome = ob := ⟨_, rfl⟩
        rw [hob] at HB8
        have HOB := Lib.hid hob
        clear hob
        go_upto_region 7 with (fail)
        go_cut [10, 11] from 45 to 71 (fun u10 u11 wx => ∃ K, u10 = .pointer (some ⟨K, 0, none⟩) ∧ u11 = .bool ob ∧ Hid (Blk wx K 68 [.int .i64 zk, .int .i64 zi, .string zt]) ∧ Hid (Below wr.heap.size wr wx))
        case first =>
          obtain ⟨C, hCi⟩ : ∃ C : World → Prop, ∀ w', C w' ↔ (Blk w' R 40 [.slice (some ⟨b1, o1, none⟩) dn dc, .slice CA cn cc, .slice RA rn rc, .slice FA fn fc] ∧ Blk w' (R + 1) 77 [.int .i64 (N : Int), .slice (some ⟨b2, o2, none⟩) pn pc] ∧ w'.cell? ⟨b2, o2 + i * 2, none⟩ = some (.bool sv) ∧ w'.cell? ⟨b2, o2 + i * 2 + 1, none⟩ = some (.int .i64 sn)) := ⟨_, fun _ => Iff.rfl⟩
          have HCb : Hid (∀ v v', C v → Below (R + 1 + 1) v v' → C v') := Lib.hid fun v v' h hb => by
            obtain ⟨a1, a2, a3, a4⟩ := (hCi v).1 h
            exact (hCi v').2 ⟨a1.below hb (by omega), a2.below hb (by omega), (hb.cell (p := ⟨b2, o2 + i * 2, none⟩) (by show b2 < _; omega)).trans a3, (hb.cell (p := ⟨b2, o2 + i * 2 + 1, none⟩) (by show b2 < _; omega)).trans a4⟩
          have q0 : ∀ q : WC C, q.w.cell? ⟨R, 0, none⟩ = some (.slice (some ⟨b1, o1, none⟩) dn dc) := fun q => ((hCi _).1 q.h).1.cell 0
          have q1 : ∀ q : WC C, q.w.cell? ⟨R, 1, none⟩ = some (.slice CA cn cc) := fun q => ((hCi _).1 q.h).1.cell 1
          have q2 : ∀ q : WC C, q.w.cell? ⟨R, 2, none⟩ = some (.slice RA rn rc) := fun q => ((hCi _).1 q.h).1.cell 2
          have q3 : ∀ q : WC C, q.w.cell? ⟨R, 3, none⟩ = some (.slice FA fn fc) := fun q => ((hCi _).1 q.h).1.cell 3
          have q4 : ∀ q : WC C, q.w.cell? ⟨R + 1, 1, none⟩ = some (.slice (some ⟨b2, o2, none⟩) pn pc) := fun q => ((hCi _).1 q.h).2.1.cell 1
          have q5 : ∀ q : WC C, q.w.cell? ⟨b2, o2 + i * 2, none⟩ = some (.bool sv) := fun q => ((hCi _).1 q.h).2.2.1
          have q6 : ∀ q : WC C, q.w.cell? ⟨b2, o2 + i * 2 + 1, none⟩ = some (.int .i64 sn) := fun q => ((hCi _).1 q.h).2.2.2
          have hC0 : C wr := (hCi _).2 ⟨G1.out, G2.out, c0, c1⟩
          have hbd : Below wr.heap.size wr wr.drew := (Below.refl _ _).drew
          have hC1 : C wr.drew := HCb.out _ _ hC0 (hbd.mono (by omega))
          have kn : Nonempty (WC C) := ⟨⟨_, hC1⟩⟩
          refine wp_region_frontN C [0, 1, 2, 3, 4, 5, 6] 7 (fun j => decide (j < 14)) (by kernel_rfl) (fun _ _ d _ _ h => by cases d <;> exact h) (by kernel_rfl) hC1 ?_
          simp only [List.map_cons, List.map_nil, List.getD_cons_zero, List.getD_cons_succ]
          repeat (go_big_quiet_step (fail))
          refine wpQuiet_nil ?_
          clear q0 q1 q2 q3 q4 q5 q6 kn hCi
          have HBD := Lib.hid hbd
          have HC1 := Lib.hid hC1
          have HCR := Lib.hid ((HC.out.below GB.out).up (hbd.mono (by omega)) (Nat.le_refl _))
          have HRR2 := Lib.hid ((HR.out.below GB.out).up (hbd.mono (by omega)) (Nat.le_refl _))
          have hsd : R + 1 + 1 < wr.drew.heap.size := Nat.lt_of_lt_of_le (by omega) hbd.size
          have hwz : wr.heap.size ≤ wr.drew.heap.size := hbd.size
          clear hbd hC0 hC1 c0 c1 g1
          generalize wr.drew = v0 at *
          generalize hZ : wr.heap.size = Z at *
          clear hZ
          refine wpN_two (i := 7) (j := 11) (by kernel_rfl) rfl rfl ?_ ?_
          · go_wp2_with fail
            refine (HB8.out v0 (HCR.out.up (Below.refl _ _) (by omega)) (HRR2.out.up (Below.refl _ _) (by omega))).mono ?_
            rintro e v1 ⟨rfl, hb⟩
            have HC2 := Lib.hid (HCb.out _ _ HC1.out (hb.mono (by omega)))
            have HB2 := Lib.hid (HBD.out.trans (hb.mono hwz))
            have hs1 : v0.heap.size ≤ v1.heap.size := hb.size
            clear hb
            go_wp2
            refine tailN_normal HC2.out ?_
            have kn : Nonempty (WC C) := ⟨⟨_, HC2.out⟩⟩
            refine wpN_frontW C [8, 9, 10] 3 _ (fun _ _ d _ _ h => by cases d <;> exact h) (by kernel_rfl) HC2.out ?_
            simp only [List.map_cons, List.map_nil, List.getD_cons_zero, List.getD_cons_succ]
            repeat (go_big_quiet_step (fail))
            refine wpQuiet_nil ?_
            clear kn
            have HK := Lib.hid (Blk.new v1 68 [.int .i64 0, .int .i64 0, .string ⟨#[]⟩])
            have hba := (Below.refl v1.heap.size v1).alloc (Nat.le_refl _) (.cells #[.int .i64 0, .int .i64 0, .string ⟨#[]⟩] 68)
            have HC4 := Lib.hid (HCb.out _ _ HC2.out (hba.mono (by omega)))
            have HB4 := Lib.hid (HB2.out.trans (hba.mono (by omega)))
            have hKK : v0.heap.size ≤ v1.heap.size := hs1
            clear hba HC2 HB2
            refine wpN_one (i := 11) (by kernel_rfl) rfl ?_
            go_wp2
            refine tailN_normal HC4.out ?_
            generalize World.alloc _ _ = v3 at *
            generalize v1.heap.size = K at *
            refine wpN_one (i := 12) (by kernel_rfl) rfl ?_
            have s0 := HK.out.frozen 0
            have s1 := HK.out.frozen 1
            have s2 := HK.out.frozen 2
            have r0 := (HK.out.cell 0).trans rfl
            have r1 := (HK.out.cell 1).trans rfl
            have r2 := (HK.out.cell 2).trans rfl
            have hk := ((HK.out.set_ 0 (.int .i64 zk)).set_ 1 (.int .i64 zi)).set_ 2 (.string zt)
            have hKz : Z ≤ K := by omega
            have hb4 := ((HB4.out.setCell (p := ⟨K, 0, none⟩) hKz (.int .i64 zk)).setCell (p := ⟨K, 1, none⟩) hKz (.int .i64 zi)).setCell (p := ⟨K, 2, none⟩) hKz (.string zt)
            have hKr : R + 1 + 1 ≤ K := by omega
            have hc5 := HCb.out _ _ HC4.out ((((Below.refl (R + 1 + 1) v3).setCell (p := ⟨K, 0, none⟩) hKr (.int .i64 zk)).setCell (p := ⟨K, 1, none⟩) hKr (.int .i64 zi)).setCell (p := ⟨K, 2, none⟩) hKr (.string zt))
            go_wp2
            generalize World.setCell (World.setCell (World.setCell _ _ _) _ _) _ _ = v4 at *
            refine tailN_normal hc5 ?_
            refine wpN_one (i := 13) (by kernel_rfl) rfl ?_
            clear s0 s1 s2 r0 r1 r2
            go_wp2
            refine tailN_normal hc5 ?_
            refine wpN_none (by kernel_rfl) ?_
            go_wp2
            go_meet
            exact ⟨K, rfl, rfl, Lib.hid hk, Lib.hid hb4⟩
          · have HK := Lib.hid (Blk.new v0 68 [.int .i64 0, .int .i64 0, .string ⟨#[]⟩])
            have hba := (Below.refl v0.heap.size v0).alloc (Nat.le_refl _) (.cells #[.int .i64 0, .int .i64 0, .string ⟨#[]⟩] 68)
            have HC2 := Lib.hid (HCb.out _ _ HC1.out (hba.mono (by omega)))
            have HB2 := Lib.hid (HBD.out.trans (hba.mono (by omega)))
            have HCR2 := Lib.hid (HCR.out.up (hba.mono (by omega)) (Nat.le_refl _))
            have HRR3 := Lib.hid (HRR2.out.up (hba.mono (by omega)) (Nat.le_refl _))
            clear hba
            go_wp2
            refine tailN_normal HC2.out ?_
            have hv2 : v0.heap.size < (v0.alloc (.cells #[.int .i64 0, .int .i64 0, .string ⟨#[]⟩] 68)).heap.size := by simp
            generalize World.alloc _ _ = v2 at *
            generalize hKe : v0.heap.size = K at *
            clear hKe
            refine wpN_one (i := 7) (by kernel_rfl) rfl ?_
            go_wp2_with fail
            refine (HB8.out v2 (HCR2.out.up (Below.refl _ _) (by omega)) (HRR3.out.up (Below.refl _ _) (by omega))).mono ?_
            rintro e v3 ⟨rfl, hb⟩
            have HC4 := Lib.hid (HCb.out _ _ HC2.out (hb.mono (by omega)))
            have HB4 := Lib.hid (HB2.out.trans (hb.mono (by omega)))
            have HK := Lib.hid (HK.out.below hb hv2)
            clear hb
            go_wp2
            refine tailN_normal HC4.out ?_
            have kn : Nonempty (WC C) := ⟨⟨_, HC4.out⟩⟩
            refine wpN_frontW C [8, 9, 10] 2 _ (fun _ _ d _ _ h => by cases d <;> exact h) (by kernel_rfl) HC4.out ?_
            simp only [List.map_cons, List.map_nil, List.getD_cons_zero, List.getD_cons_succ]
            repeat (go_big_quiet_step (fail))
            refine wpQuiet_nil ?_
            clear kn
            refine wpN_one (i := 12) (by kernel_rfl) rfl ?_
            have s0 := HK.out.frozen 0
            have s1 := HK.out.frozen 1
            have s2 := HK.out.frozen 2
            have r0 := (HK.out.cell 0).trans rfl
            have r1 := (HK.out.cell 1).trans rfl
            have r2 := (HK.out.cell 2).trans rfl
            have hk := ((HK.out.set_ 0 (.int .i64 zk)).set_ 1 (.int .i64 zi)).set_ 2 (.string zt)
            have hKz : Z ≤ K := by omega
            have hb4 := ((HB4.out.setCell (p := ⟨K, 0, none⟩) hKz (.int .i64 zk)).setCell (p := ⟨K, 1, none⟩) hKz (.int .i64 zi)).setCell (p := ⟨K, 2, none⟩) hKz (.string zt)
            have hKr : R + 1 + 1 ≤ K := by omega
            have hc5 := HCb.out _ _ HC4.out ((((Below.refl (R + 1 + 1) v3).setCell (p := ⟨K, 0, none⟩) hKr (.int .i64 zk)).setCell (p := ⟨K, 1, none⟩) hKr (.int .i64 zi)).setCell (p := ⟨K, 2, none⟩) hKr (.string zt))
            go_wp2
            generalize World.setCell (World.setCell (World.setCell _ _ _) _ _) _ _ = v4 at *
            refine tailN_normal hc5 ?_
            refine wpN_one (i := 13) (by kernel_rfl) rfl ?_
            clear s0 s1 s2 r0 r1 r2
            go_wp2
            refine tailN_normal hc5 ?_
            refine wpN_none (by kernel_rfl) ?_
            go_wp2
            go_meet
            exact ⟨K, rfl, rfl, Lib.hid hk, Lib.hid hb4⟩
        case rest =>
          obtain ⟨K, rfl, rfl, HKX, HBX⟩ := hcut
          have X1 := Lib.hid (G1.out.below HBX.out G1.out.lt)
          have X2 := Lib.hid (G2.out.below HBX.out G2.out.lt)
          have X3 := Lib.hid (G3.out.below HBX.out G3.out.lt)
          have XF := Lib.hid (HF.out.below HBX.out HF.out.lt)
          have XO := Lib.hid (own_below HO.out HBX.out)
          have XB := Lib.hid (GB.out.trans (HBX.out.mono (by omega)))
          have hsx : R + 1 + 1 + 1 < wc.heap.size := XF.out.lt
          clear G1 G2 G3 HF HO GB HBX c0 c1 g1 HB8 hsF
          cases ob with
          | false =>
            have hn : o = none := by cases o with | none => rfl | some z => have := HOB.out; cases this
            obtain rfl : V = none := by rw [HV4.out, HST.out.2 hn]; rfl
            have q0 := X3.out.frozen 0
            have q1 := X3.out.frozen 1
            have r0 := (X3.out.cell 0).trans rfl
            have r1 := (X3.out.cell 1).trans rfl
            have hk := (X3.out.set_ 0 (.string ⟨#[]⟩)).set_ 1 (.slice none 0 0)
            have hb5 := Lib.hid ((XB.out.setCell (p := ⟨R + 1 + 1, 0, none⟩) (by show R ≤ R + 1 + 1; omega) (.string ⟨#[]⟩)).setCell (p := ⟨R + 1 + 1, 1, none⟩) (by show R ≤ R + 1 + 1; omega) (.slice none 0 0))
            clear HST HZ HOB
            go_wp2
            generalize World.setCell (World.setCell _ _ _) _ _ = w9 at *
            have k0 := (hk.cell 0).trans rfl
            have k1 := (hk.cell 1).trans rfl
            refine bodyPost_ret (v := .tuple #[.agg #[.string ⟨#[]⟩, .slice none 0 0], .bool false]) (by simp [results, Tryd.results64, go_sem, k0, k1]) rfl ?_
            exact ⟨⟨⟨#[]⟩, none, 0, 0, [], rfl, World.ownsRow_nil _ _ _ _, .inr ⟨rfl, rfl, rfl⟩⟩, by rw [HRR.out]; exact hb5.out⟩
          | true =>
            have hz9 : o = some ⟨zk, zi, zt⟩ := by
              cases o with
              | none => have := HOB.out; cases this
              | some y => have := HZ.out; exact congrArg some this
            have HA2 := Lib.hid (HST.out.1 _ hz9)
            clear HST HZ HOB hz9
            have hown := XO.out
            have m0 := (HKX.out.cell 0).trans rfl
            have m1 := (HKX.out.cell 1).trans rfl
            have m2 := (HKX.out.cell 2).trans rfl
            have n0 := (XF.out.cell 0).trans rfl
            have n1 := (XF.out.cell 1).trans rfl
            go_wp2_with (at_builtin; go_must (refine wpList_append_own _ rfl _ _ 36 rfl R 68 i0 _ 3 32 Tryd.underlying36 hi0 hz0 hz1 hz2 rfl (by decide) _ _ _ rfl (hown.alloc _) ⟨wc.heap.size, 0, none⟩ 1 1 [.int .i64 zk, .int .i64 zi, .string zt] rfl rfl (fun j u h => new_cells _ _ _ j u h) (by intro u hu; exact cons_one [⟨zk, zi, zt⟩] u (by simpa [kcells, Cn.cells] using hu)) (by unfold maxLen; omega) (by omega) (by simp; omega) ?_))
            intro v7 w7 hown7 hg7 _
            obtain ⟨A9, c9, rfl, _⟩ := own_slice hown7
            have Y1 := (X1.out.alloc (.cells #[.int .i64 zk, .int .i64 zi, .string zt] 68)).grown hg7 (own_blk_ne hown X1.out (by decide))
            have Y2 := (X2.out.alloc (.cells #[.int .i64 zk, .int .i64 zi, .string zt] 68)).grown hg7 (own_blk_ne hown X2.out (by decide))
            have Y3 := (X3.out.alloc (.cells #[.int .i64 zk, .int .i64 zi, .string zt] 68)).grown hg7 (own_blk_ne hown X3.out (by decide))
            have YF := (XF.out.alloc (.cells #[.int .i64 zk, .int .i64 zi, .string zt] 68)).grown hg7 (own_blk_ne hown XF.out (by decide))
            have YB := (XB.out.alloc (by omega) (.cells #[.int .i64 zk, .int .i64 zi, .string zt] 68)).grown hg7 (by simp; omega) (fun q hq => (hown.lt q hq).1)
            have YO : w7.ownsRow R 68 3 (.slice A9 (i + 1) c9) (i + 1) (kcells (acc ++ [⟨zk, zi, zt⟩])) := by rw [kcells_append]; simpa [kcells, Cn.cells] using hown7
            have l1 := YF.frozen 1
            have l0 := (YF.cell 0).trans rfl
            have l2 := (YF.cell 1).trans rfl
            have E1 := Lib.hid (Y1.far (p := ⟨R + 1 + 1 + 1, 1, none⟩) (by show R ≠ R + 1 + 1 + 1; omega) (.slice A9 (i + 1) c9))
            have E2 := Lib.hid (Y2.far (p := ⟨R + 1 + 1 + 1, 1, none⟩) (by show R + 1 ≠ R + 1 + 1 + 1; omega) (.slice A9 (i + 1) c9))
            have E3 := Lib.hid (Y3.far (p := ⟨R + 1 + 1 + 1, 1, none⟩) (by show R + 1 + 1 ≠ R + 1 + 1 + 1; omega) (.slice A9 (i + 1) c9))
            have EF := Lib.hid (YF.set_ 1 (.slice A9 (i + 1) c9))
            have EB := Lib.hid (YB.setCell (p := ⟨R + 1 + 1 + 1, 1, none⟩) (by show R ≤ R + 1 + 1 + 1; omega) (.slice A9 (i + 1) c9))
            have EO := Lib.hid (own_setCell_blk YO YF (by decide) 1 (.slice A9 (i + 1) c9))
            clear hown7 hown hg7 XB X1 X2 X3 XF XO Y1 Y2 Y3 YF YB YO m0 m1 m2 n0 n1 HKX
            go_wp2
            go_roundg (pn - (i + 1))
            case measure => have := HG.out; omega
            case rel => exact ⟨i + 1, acc ++ [⟨zk, zi, zt⟩], A9, c9, by go_num, by omega, Lib.hid rfl, HA2, EB, E1, E2, E3, EF, EO⟩
      · obtain rfl : i = pn := by omega
        have hall : pxs.take i = pxs := List.take_of_length_le (by have := HLP.out; omega)
        rw [hall] at HA
        obtain rfl : V = some (dS, acc) := by rw [HV4.out, HA.out]; rfl
        have q0 := G3.out.frozen 0
        have q1 := G3.out.frozen 1
        have r0 := (G3.out.cell 0).trans rfl
        have r1 := (G3.out.cell 1).trans rfl
        have n0 := (HF.out.cell 0).trans rfl
        have n1 := (HF.out.cell 1).trans rfl
        have hk := (G3.out.set_ 0 (.string dS)).set_ 1 (.slice A8 i c8)
        have hb5 := Lib.hid ((GB.out.setCell (p := ⟨R + 1 + 1, 0, none⟩) (by show R ≤ R + 1 + 1; omega) (.string dS)).setCell (p := ⟨R + 1 + 1, 1, none⟩) (by show R ≤ R + 1 + 1; omega) (.slice A8 i c8))
        have ho2 := own_setCell_blk HO.out G3.out (by decide) 0 (.string dS)
        have ho3 := Lib.hid (own_setCell_blk ho2 (G3.out.set_ 0 (.string dS)) (by decide) 1 (.slice A8 i c8))
        clear ho2
        go_wp2
        generalize World.setCell (World.setCell _ _ _) _ _ = w9 at *
        have k0 := (hk.cell 0).trans rfl
        have k1 := (hk.cell 1).trans rfl
        refine bodyPost_ret (v := .tuple #[.agg #[.string dS, .slice A8 i c8], .bool true]) (by simp [results, Tryd.results64, go_sem, k0, k1]) rfl ?_
        exact ⟨⟨dS, A8, i, c8, acc, rfl, by rw [HRR.out]; exact ho3.out, .inl rfl⟩, by rw [HRR.out]; exact hb5.out⟩
  · have t2 : ((pn : Int) != dA) = true := by simpa using hA
    obtain rfl : V = none := by rw [HV3.out, if_neg hA]
    clear HV3 HXB hA
    go_quiet (fail)
    clear t0 t1 t2 f0 g0 g1 c0 c1
    have hbq : Below R w3 (w3.drewN nq) := ⟨rfl, rfl, rfl, Nat.le_refl _, fun _ _ => rfl⟩
    have hd := H3.out.drewN nq
    generalize World.drewN w3 nq = w4 at *
    have HB4 := Lib.hid (HB.out.trans hbq)
    have q0 := hd.frozen 0
    have q1 := hd.frozen 1
    have r0 := (hd.cell 0).trans rfl
    have r1 := (hd.cell 1).trans rfl
    have hk := (hd.set_ 0 (.string ⟨#[]⟩)).set_ 1 (.slice none 0 0)
    have hb5 := Lib.hid ((HB4.out.setCell (p := ⟨R + 1 + 1, 0, none⟩) (by show R ≤ R + 1 + 1; omega) (.string ⟨#[]⟩)).setCell (p := ⟨R + 1 + 1, 1, none⟩) (by show R ≤ R + 1 + 1; omega) (.slice none 0 0))
    clear hbq hd HB HB4
    go_wp2
    generalize World.setCell (World.setCell _ _ _) _ _ = w5 at *
    have k0 := (hk.cell 0).trans rfl
    have k1 := (hk.cell 1).trans rfl
    refine bodyPost_ret (v := .tuple #[.agg #[.string ⟨#[]⟩, .slice none 0 0], .bool false]) (by simp [results, Tryd.results64, go_sem, k0, k1]) rfl ?_
    exact ⟨⟨⟨#[]⟩, none, 0, 0, [], rfl, World.ownsRow_nil _ _ _ _, .inr ⟨rfl, rfl, rfl⟩⟩, by rw [HRR.out]; exact hb5.out⟩
end Go.Proofs.YtjcgkplphiedjaaDoorT
