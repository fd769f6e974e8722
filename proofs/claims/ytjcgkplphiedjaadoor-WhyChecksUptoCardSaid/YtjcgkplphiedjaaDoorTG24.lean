/- A given line, the document's. -/
import Derived.Test.YtjcgkplphiedjaaDoorTG23
namespace Go.Proofs.YtjcgkplphiedjaaDoorT
open Go.RowKit Go.Sort

/-- What lies within the bounds. -/
structure Co.fine (x : Co) : Prop where
  d : ∀ y ∈ x.ds, y.s.size ≤ 1048576
  c : ∀ z ∈ x.cs, keyK z
  f : ∀ y ∈ x.fs, y.n ≤ 1048576
  r : ∀ y ∈ x.rs, y.h.n ≤ 1048576 ∧ (∀ q ∈ y.ps, q.n ≤ 1048576) ∧ (∀ q ∈ y.ns, q.n ≤ 1048576)
/-- Is a row this fact? -/
def isRow (ds : List Pd) (cs : List Cn) (p : ByteArray) (xs : List Cn) (r : Rw) : Bool :=
  match factS ds cs r.p r.xs with
  | some (q, l) => sameB q l p xs
  | none => false
/-- Is a given line right? -/
def givenB (x : Co) (l : Ln) : Bool := if l.ss.length = 0 ∧ l.fs.length = 0 then x.fs.any (isRow x.ds x.cs l.p l.xs) else false

set_option maxRecDepth 20000 in
set_option maxHeartbeats 8000000 in
theorem given_ref (x : Co) (y : Ln) (w : World) (hx : x.ok w) (hf : x.fine) (hy : Ln.ok w y) :
    Calls Tryd.prog 39 #[.agg x.cells.toArray, .agg y.cells.toArray] w fun e w' => e = .returned (.bool (givenB x y)) ∧ Below w.heap.size w w' := by
  have hlf : x.fs.length = x.fn := by have h := hx.f.1; rw [rwcells, flat_length Rw.cells 2 (fun _ => rfl)] at h; omega
  have hls : y.ss.length = y.m := by have h := hy.s.1; rw [kcells_length] at h; omega
  have hlg : y.fs.length = y.k := by have h := hy.f.1; rw [icells_length] at h; omega
  obtain ⟨V, hV⟩ : ∃ V, V = givenB x y := ⟨_, rfl⟩
  rw [← hV]
  unfold givenB at hV
  rw [hls, hlg] at hV
  have HXO := Lib.hid hx
  have HXF := Lib.hid hf
  have HF := Lib.hid hx.f
  have HA := Lib.hid hy.a
  have hmb := hy.s.2.1
  have hkb := hy.f.2.1
  have hfb := hx.f.2.1
  obtain ⟨yp, yA, yn, yc, yr, yB, ym, yd, yF, yk, ye, yxs, yss, yfs⟩ := y
  dsimp only at HA hV hmb hkb
  have HKF := Lib.hid (fun (r : Rw) W h1 h2 h3 => fact_ref07 x r W h1 h2 h3)
  have HIS := Lib.hid (show ∀ r : Rw, isRow x.ds x.cs yp yxs r = match factS x.ds x.cs r.p r.xs with | some (q, l) => sameB q l yp yxs | none => false from fun _ => rfl)
  obtain ⟨DA, dn, dc, ds, CA, cn, cc, cs, RA, rn, rc, rs, FA, fn, fc, fs⟩ := x
  dsimp only at HF hlf hV hfb HIS HKF
  simp only [Co.cells] at HKF
  show Calls Tryd.prog 39 #[.agg #[.slice DA dn dc, .slice CA cn cc, .slice RA rn rc, .slice FA fn fc], .agg #[.string yp, .slice yA yn yc, .int .i64 yr, .slice yB ym yd, .slice yF yk ye]] w _
  have HV := Lib.hid hV
  have HLF := Lib.hid hlf
  clear hx hf hy hV hls hlg hlf
  go_enter Tryd.func39, Tryd.ntmps39
  go_upto_region 1 with (fail)
  obtain ⟨hb, h1, h2, hsz⟩ := two_alloc w 40 66 [.slice DA dn dc, .slice CA cn cc, .slice RA rn rc, .slice FA fn fc] [.string yp, .slice yA yn yc, .int .i64 yr, .slice yB ym yd, .slice yF yk ye]
  generalize World.alloc (World.alloc _ _) _ = w3 at *
  have HX3 := Lib.hid (HXO.out.up hb)
  have HA3 := Lib.hid (HA.out.up hb hb.size)
  have HF3 := Lib.hid (HF.out.below hb)
  generalize hR : w.heap.size = R at *
  have HRR := Lib.hid hR
  clear hR HXO HA HF
  have HB := Lib.hid hb
  have H1 := Lib.hid h1
  have H2 := Lib.hid h2
  have g3 := (h2.cell 3).trans rfl
  have g4 := (h2.cell 4).trans rfl
  clear h1 h2 hb
  by_cases hm0 : ym = 0
  · have t1 : ((ym : Int) != 0) = false := by simp [hm0]
    by_cases hk0 : yk = 0
    · have t2 : ((yk : Int) != 0) = false := by simp [hk0]
      have HV2 : Hid (V = fs.any (isRow ds cs yp yxs)) := Lib.hid (by rw [HV.out, if_pos ⟨hm0, hk0⟩])
      clear HV
      go_upto_region 4 with (fail)
      clear g3 g4 t1 t2 hm0 hk0
      have hsz3 : R + 2 ≤ w3.heap.size := by omega
      clear hsz
      go_loopg [5] fn (fun gk u5 wr => ∃ i : Nat, u5 = .int .i64 i ∧ i ≤ fn ∧ Hid (gk = fn - i) ∧ Hid (Below R w wr) ∧ Hid (Below w3.heap.size w3 wr) ∧ Hid ((fs.take i).any (isRow ds cs yp yxs) = false))
      case atStart => exact ⟨0, rfl, Nat.zero_le _, Lib.hid (by omega), HB, Lib.hid (Below.refl _ _), Lib.hid rfl⟩
      case round =>
        obtain ⟨i, rfl, hi, HG, GB, GW, HN⟩ := hrel
        have G1 := Lib.hid (H1.out.below GW.out (by omega))
        have G2 := Lib.hid (H2.out.below GW.out (by omega))
        have hsr : w3.heap.size ≤ wr.heap.size := GW.out.size
        have f0 := (G1.out.cell 0).trans rfl
        have f1 := (G1.out.cell 1).trans rfl
        have f2 := (G1.out.cell 2).trans rfl
        have f3 := (G1.out.cell 3).trans rfl
        by_cases hlt : i < fn
        · obtain ⟨b2, o2, hk2, rfl, hb2, hc⟩ := (HF3.out.below (GW.out.mono (by omega))).at Rw.cells 2 (fun _ => rfl) (by omega) i hlt
          have c0 := hc 0 _ (by omega) rfl
          have c1 := hc 1 _ (by omega) rfl
          rw [Nat.add_zero] at c0
          clear hc
          have HXr := Lib.hid (HX3.out.up GW.out)
          have HRo := Lib.hid ((HX3.out.fs fs[i] (List.getElem_mem hk2)).up GW.out)
          have hrn := HXF.out.f fs[i] (List.getElem_mem hk2)
          have HNX : Hid (isRow ds cs yp yxs fs[i] = false → (fs.take (i + 1)).any (isRow ds cs yp yxs) = false) := Lib.hid fun h => by rw [take_snoc fs i hk2, List.any_append, HN.out, List.any_cons, h]; rfl
          have HYES : Hid (isRow ds cs yp yxs fs[i] = true → V = true) := Lib.hid fun h => by rw [HV2.out, List.any_eq_true]; exact ⟨fs[i], List.getElem_mem hk2, h⟩
          have HIR := Lib.hid (HIS.out fs[i])
          have HKR := HKF
          generalize fs[i] = r at *
          have HKR := Lib.hid (fun W (h1 : Co.ok W _) (h2 : Rw.ok W _) => HKR.out r W h1 h2 hrn)
          obtain ⟨rp, rA, rn', rc', rxs⟩ := r
          dsimp only at c0 c1 HIR
          simp only [Rw.cells] at HKR
          generalize factS ds cs rp rxs = o at *
          generalize isRow ds cs yp yxs ⟨rp, rA, rn', rc', rxs⟩ = D at *
          clear hrn
          unfold FactSaid at HKR
          obtain ⟨ev, hev⟩ : ∃ ev : Int, (if o.isSome = true then (0 : Int) else 2) = ev := ⟨_, rfl⟩
          rw [hev] at HKR
          have HEV := Lib.hid hev
          clear hev
          go_upto_region 6 with (fail)
          go_cut [6, 7] from 18 to 42 (fun u6 u7 wx => ∃ K q A n c l, u6 = .pointer (some ⟨K, 0, none⟩) ∧ u7 = .int .i64 ev ∧ Hid (Blk wx K 45 [.string q, .slice A n c]) ∧ Hid (Rd wx wx.heap.size 3 A n (kcells l)) ∧ Hid (o = some (q, l) ∨ (o = none ∧ q = ⟨#[]⟩ ∧ l = [])) ∧ Hid (Below wr.heap.size wr wx))
          case first =>
            obtain ⟨C, hCi⟩ : ∃ C : World → Prop, ∀ w', C w' ↔ (Blk w' R 40 [.slice DA dn dc, .slice CA cn cc, .slice RA rn rc, .slice (some ⟨b2, o2, none⟩) fn fc] ∧ w'.cell? ⟨b2, o2 + i * 2, none⟩ = some (.int .i64 rp) ∧ w'.cell? ⟨b2, o2 + i * 2 + 1, none⟩ = some (.slice rA rn' rc')) := ⟨_, fun _ => Iff.rfl⟩
            have HCb : Hid (∀ v v', C v → Below (R + 1) v v' → C v') := Lib.hid fun v v' h hb => by
              obtain ⟨a1, a2, a3⟩ := (hCi v).1 h
              exact (hCi v').2 ⟨a1.below hb (by omega), (hb.cell (p := ⟨b2, o2 + i * 2, none⟩) (by show b2 < _; omega)).trans a2, (hb.cell (p := ⟨b2, o2 + i * 2 + 1, none⟩) (by show b2 < _; omega)).trans a3⟩
            have q0 : ∀ q : WC C, q.w.cell? ⟨R, 0, none⟩ = some (.slice DA dn dc) := fun q => ((hCi _).1 q.h).1.cell 0
            have q1 : ∀ q : WC C, q.w.cell? ⟨R, 1, none⟩ = some (.slice CA cn cc) := fun q => ((hCi _).1 q.h).1.cell 1
            have q2 : ∀ q : WC C, q.w.cell? ⟨R, 2, none⟩ = some (.slice RA rn rc) := fun q => ((hCi _).1 q.h).1.cell 2
            have q3 : ∀ q : WC C, q.w.cell? ⟨R, 3, none⟩ = some (.slice (some ⟨b2, o2, none⟩) fn fc) := fun q => ((hCi _).1 q.h).1.cell 3
            have q5 : ∀ q : WC C, q.w.cell? ⟨b2, o2 + i * 2, none⟩ = some (.int .i64 rp) := fun q => ((hCi _).1 q.h).2.1
            have q6 : ∀ q : WC C, q.w.cell? ⟨b2, o2 + i * 2 + 1, none⟩ = some (.slice rA rn' rc') := fun q => ((hCi _).1 q.h).2.2
            have hC0 : C wr := (hCi _).2 ⟨G1.out, c0, c1⟩
            have hbd : Below wr.heap.size wr wr.drew := (Below.refl _ _).drew
            have hC1 : C wr.drew := HCb.out _ _ hC0 (hbd.mono (by omega))
            have kn : Nonempty (WC C) := ⟨⟨_, hC1⟩⟩
            refine wp_region_frontN C [0, 1, 2, 3, 4, 5] 7 (fun j => decide (j < 13)) (by kernel_rfl) (fun _ _ d _ _ h => by cases d <;> exact h) (by kernel_rfl) hC1 ?_
            simp only [List.map_cons, List.map_nil, List.getD_cons_zero, List.getD_cons_succ]
            repeat (go_big_quiet_step (fail))
            refine wpQuiet_nil ?_
            clear q0 q1 q2 q3 q5 q6 kn hCi
            have HBD := Lib.hid hbd
            have HC1 := Lib.hid hC1
            have HXr2 := Lib.hid (HXr.out.up hbd)
            have HRo2 := Lib.hid (HRo.out.up hbd)
            have hsd : R + 1 ≤ wr.drew.heap.size := Nat.le_trans (by omega) hbd.size
            have hwz : wr.heap.size ≤ wr.drew.heap.size := hbd.size
            clear hbd hC0 hC1 c0 c1 f0 f1 f2 f3
            generalize wr.drew = v0 at *
            generalize hZ : wr.heap.size = Z at *
            clear hZ
            refine wpN_two (i := 6) (j := 10) (by kernel_rfl) rfl rfl ?_ ?_
            · go_wp2_with fail
              refine (HKR.out v0 HXr2.out HRo2.out).mono ?_
              rintro e v1 ⟨⟨q, A, n, c, l, rfl, hol, ho⟩, hb⟩
              have HOL := Lib.hid (own_rd hol)
              have HOO := Lib.hid ho
              have HC2 := Lib.hid (HCb.out _ _ HC1.out (hb.mono (by omega)))
              have HB2 := Lib.hid (HBD.out.trans (hb.mono hwz))
              have hs1 : v0.heap.size ≤ v1.heap.size := hb.size
              clear hb hol ho
              go_wp2
              refine tailN_normal HC2.out ?_
              have kn : Nonempty (WC C) := ⟨⟨_, HC2.out⟩⟩
              refine wpN_frontW C [7, 8, 9] 3 _ (fun _ _ d _ _ h => by cases d <;> exact h) (by kernel_rfl) HC2.out ?_
              simp only [List.map_cons, List.map_nil, List.getD_cons_zero, List.getD_cons_succ]
              repeat (go_big_quiet_step (fail))
              refine wpQuiet_nil ?_
              clear kn
              have HK := Lib.hid (Blk.new v1 45 [.string ⟨#[]⟩, .slice none 0 0])
              have hba := (Below.refl v1.heap.size v1).alloc (Nat.le_refl _) (.cells #[.string ⟨#[]⟩, .slice none 0 0] 45)
              have HC4 := Lib.hid (HCb.out _ _ HC2.out (hba.mono (by omega)))
              have HB4 := Lib.hid (HB2.out.trans (hba.mono (by omega)))
              have HOL2 := Lib.hid (HOL.out.below hba)
              have hKZ : Z ≤ v1.heap.size := by omega
              have hKR : R + 1 ≤ v1.heap.size := by omega
              clear hba HC2 HB2 HOL
              refine wpN_one (i := 10) (by kernel_rfl) rfl ?_
              go_wp2
              refine tailN_normal HC4.out ?_
              have hvs : v1.heap.size < (v1.alloc (.cells #[.string ⟨#[]⟩, .slice none 0 0] 45)).heap.size := by simp
              generalize World.alloc _ _ = v3 at *
              generalize v1.heap.size = K at *
              have HOL3 : Hid (Rd v3 K 3 A n (kcells l)) := HOL2
              refine wpN_one (i := 11) (by kernel_rfl) rfl ?_
              have s0 := HK.out.frozen 0
              have s1 := HK.out.frozen 1
              have r0 := (HK.out.cell 0).trans rfl
              have r1 := (HK.out.cell 1).trans rfl
              have hk := Lib.hid ((HK.out.set_ 0 (.string q)).set_ 1 (.slice A n c))
              have hb4 := Lib.hid ((HB4.out.setCell (p := ⟨K, 0, none⟩) hKZ (.string q)).setCell (p := ⟨K, 1, none⟩) hKZ (.slice A n c))
              have hc5 := Lib.hid (HCb.out _ _ HC4.out (((Below.refl (R + 1) v3).setCell (p := ⟨K, 0, none⟩) hKR (.string q)).setCell (p := ⟨K, 1, none⟩) hKR (.slice A n c)))
              have hsz9 : ((v3.setCell ⟨K, 0, none⟩ (.string q)).setCell ⟨K, 1, none⟩ (.slice A n c)).heap.size = v3.heap.size := by simp [World.setCell]
              have hrd : Hid (Rd ((v3.setCell ⟨K, 0, none⟩ (.string q)).setCell ⟨K, 1, none⟩ (.slice A n c)) ((v3.setCell ⟨K, 0, none⟩ (.string q)).setCell ⟨K, 1, none⟩ (.slice A n c)).heap.size 3 A n (kcells l)) := Lib.hid (HOL3.out.up (((Below.refl K v3).setCell (p := ⟨K, 0, none⟩) (Nat.le_refl _) (.string q)).setCell (p := ⟨K, 1, none⟩) (Nat.le_refl _) (.slice A n c)) (by rw [hsz9]; omega))
              clear hsz9
              go_wp2
              generalize World.setCell (World.setCell _ _ _) _ _ = v4 at *
              refine tailN_normal hc5.out ?_
              refine wpN_one (i := 12) (by kernel_rfl) rfl ?_
              clear s0 s1 r0 r1
              go_wp2
              refine tailN_normal hc5.out ?_
              refine wpN_none (by kernel_rfl) ?_
              go_wp2
              go_meet
              exact ⟨K, q, A, n, c, l, rfl, rfl, hk, hrd, HOO, hb4⟩
            · have HK := Lib.hid (Blk.new v0 45 [.string ⟨#[]⟩, .slice none 0 0])
              have hba := (Below.refl v0.heap.size v0).alloc (Nat.le_refl _) (.cells #[.string ⟨#[]⟩, .slice none 0 0] 45)
              have HC2 := Lib.hid (HCb.out _ _ HC1.out (hba.mono (by omega)))
              have HB2 := Lib.hid (HBD.out.trans (hba.mono (by omega)))
              have HXr3 := Lib.hid (HXr2.out.up hba)
              have HRo3 := Lib.hid (HRo2.out.up hba)
              clear hba
              go_wp2
              refine tailN_normal HC2.out ?_
              have hv2 : v0.heap.size < (v0.alloc (.cells #[.string ⟨#[]⟩, .slice none 0 0] 45)).heap.size := by simp
              generalize World.alloc _ _ = v2 at *
              generalize hKe : v0.heap.size = K at *
              clear hKe
              refine wpN_one (i := 6) (by kernel_rfl) rfl ?_
              go_wp2_with fail
              refine (HKR.out v2 HXr3.out HRo3.out).mono ?_
              rintro e v3 ⟨⟨q, A, n, c, l, rfl, hol, ho⟩, hb⟩
              have HC4 := Lib.hid (HCb.out _ _ HC2.out (hb.mono (by omega)))
              have HB4 := Lib.hid (HB2.out.trans (hb.mono (by omega)))
              have HK := Lib.hid (HK.out.below hb hv2)
              have HOW := Lib.hid hol
              have HOO := Lib.hid ho
              have hvs : K < v3.heap.size := Nat.lt_of_lt_of_le hv2 hb.size
              clear hb hol ho
              go_wp2
              refine tailN_normal HC4.out ?_
              have kn : Nonempty (WC C) := ⟨⟨_, HC4.out⟩⟩
              refine wpN_frontW C [7, 8, 9] 2 _ (fun _ _ d _ _ h => by cases d <;> exact h) (by kernel_rfl) HC4.out ?_
              simp only [List.map_cons, List.map_nil, List.getD_cons_zero, List.getD_cons_succ]
              repeat (go_big_quiet_step (fail))
              refine wpQuiet_nil ?_
              clear kn
              have hKZ : Z ≤ K := by omega
              have hKR : R + 1 ≤ K := by omega
              refine wpN_one (i := 11) (by kernel_rfl) rfl ?_
              have s0 := HK.out.frozen 0
              have s1 := HK.out.frozen 1
              have r0 := (HK.out.cell 0).trans rfl
              have r1 := (HK.out.cell 1).trans rfl
              have hk := Lib.hid ((HK.out.set_ 0 (.string q)).set_ 1 (.slice A n c))
              have hb4 := Lib.hid ((HB4.out.setCell (p := ⟨K, 0, none⟩) hKZ (.string q)).setCell (p := ⟨K, 1, none⟩) hKZ (.slice A n c))
              have hc5 := Lib.hid (HCb.out _ _ HC4.out (((Below.refl (R + 1) v3).setCell (p := ⟨K, 0, none⟩) hKR (.string q)).setCell (p := ⟨K, 1, none⟩) hKR (.slice A n c)))
              have ho5 := own_setCell_blk HOW.out HK.out (by decide) 0 (.string q)
              have hrd := Lib.hid (own_rd (own_setCell_blk ho5 (HK.out.set_ 0 (.string q)) (by decide) 1 (.slice A n c)))
              clear ho5
              go_wp2
              generalize World.setCell (World.setCell _ _ _) _ _ = v4 at *
              refine tailN_normal hc5.out ?_
              refine wpN_one (i := 12) (by kernel_rfl) rfl ?_
              clear s0 s1 r0 r1
              go_wp2
              refine tailN_normal hc5.out ?_
              refine wpN_none (by kernel_rfl) ?_
              go_wp2
              go_meet
              exact ⟨K, q, A, n, c, l, rfl, rfl, hk, hrd, HOO, hb4⟩
          case rest =>
            clear HKR HRo HXr f0 f1 f2 f3 c0 c1
            obtain ⟨K, q, A, n, c, l, rfl, rfl, HKX, HRX, HO, HBX⟩ := hcut
            have hsc : wr.heap.size ≤ wc.heap.size := HBX.out.size
            have HXG1 := Lib.hid (G1.out.below HBX.out (by omega))
            have HXG2 := Lib.hid (G2.out.below HBX.out (by omega))
            have HXB := Lib.hid (GB.out.trans (HBX.out.mono (by have := GB.out.size; omega)))
            have HXW := Lib.hid (GW.out.trans (HBX.out.mono hsr))
            have HSF := Lib.hid (sameF q yp A yA n c yn yc l yxs wc HRX.out (HA3.out.up HXW.out HXW.out.size))
            have k0 := (HKX.out.cell 0).trans rfl
            have k1 := (HKX.out.cell 1).trans rfl
            have g0 := (HXG2.out.cell 0).trans rfl
            have g1 := (HXG2.out.cell 1).trans rfl
            have HEX := Lib.hid (show o.isSome = true → ev = 0 from fun h => by rw [← HEV.out, if_pos h])
            have HEN := Lib.hid (show o.isSome = false → ev = 2 from fun h => by rw [← HEV.out, if_neg (by rw [h]; decide)])
            clear HEV HKX HRX HBX
            rcases HO.out with ho | ⟨ho, rfl, rfl⟩
            · subst ho
              obtain rfl : ev = 0 := HEX.out rfl
              clear HEX HEN HO
              have HD2 : Hid (D = sameB q l yp yxs) := Lib.hid HIR.out
              rw [← HD2.out] at HSF
              clear HIR HD2
              go_wp2_with fail
              refine (HSF.out).mono ?_
              rintro e w7 ⟨rfl, hb⟩
              have HB7 := Lib.hid (HXB.out.trans (hb.mono (by have := HXB.out.size; omega)))
              have HW7 := Lib.hid (HXW.out.trans (hb.mono (by have := HXW.out.size; omega)))
              clear hb k0 k1 g0 g1
              cases D with
              | true =>
                obtain rfl : V = true := HYES.out rfl
                go_wp2
                go_ret
                exact ⟨by rfl, by rw [HRR.out]; exact HB7.out⟩
              | false =>
                have HNN : Hid ((fs.take (i + 1)).any (isRow ds cs yp yxs) = false) := Lib.hid (HNX.out rfl)
                go_wp2
                go_roundg (fn - (i + 1))
                case measure => have := HG.out; omega
                case rel => exact ⟨i + 1, by go_num, by omega, Lib.hid rfl, HB7, HW7, HNN⟩
            · subst ho
              obtain rfl : ev = 2 := HEN.out rfl
              have hD2 : D = false := HIR.out
              have HNN := Lib.hid (HNX.out hD2)
              clear HEX HEN HO HIR HSF HYES hD2
              go_wp2
              go_roundg (fn - (i + 1))
              case measure => have := HG.out; omega
              case rel => exact ⟨i + 1, by go_num, by omega, Lib.hid rfl, HXB, HXW, HNN⟩
        · obtain rfl : i = fn := by omega
          have hall : fs.take i = fs := List.take_of_length_le (by have := HLF.out; omega)
          rw [hall] at HN
          obtain rfl : V = false := by rw [HV2.out, HN.out]
          go_wp2
          go_ret
          exact ⟨by rfl, by rw [HRR.out]; exact GB.out⟩
    · obtain rfl : V = false := by rw [HV.out, if_neg (fun h => hk0 h.2)]
      have t2 : ((yk : Int) != 0) = true := by simpa using hk0
      go_wp2
      go_ret
      exact ⟨by rfl, by rw [HRR.out]; exact HB.out⟩
  · obtain rfl : V = false := by rw [HV.out, if_neg (fun h => hm0 h.1)]
    have t1 : ((ym : Int) != 0) = true := by simpa using hm0
    go_wp2
    go_ret
    exact ⟨by rfl, by rw [HRR.out]; exact HB.out⟩
end Go.Proofs.YtjcgkplphiedjaaDoorT
