/- Check, the program's. -/
import Derived.Test.YtjcgkplphiedjaaDoorTG31
import Derived.Test.YtjcgkplphiedjaaDoorTG30
namespace Go.Proofs.YtjcgkplphiedjaaDoorT
open Go.RowKit Go.Sort
open YtjcgkplphiedjaaDoor (Pow)

theorem Rd_pre {w : World} {B s : Nat} {A : Option Addr} {n i : Nat} {l l' : List Value} (h : Rd w B s A n (l ++ l')) (hl : l.length = i * s) (hi : i ≤ n) : Rd w B s A i l := by
  obtain ⟨h1, h2, h3⟩ := h
  refine ⟨hl, by omega, fun hp => ?_⟩
  obtain ⟨b, o, hA, hb, hc⟩ := h3 (by omega)
  refine ⟨b, o, hA, hb, fun j u hu => hc j u ?_⟩
  rw [List.getElem?_append_left (List.getElem?_eq_some_iff.1 hu).1]
  exact hu
theorem Rd_lines {w : World} {B : Nat} {A : Option Addr} {n i : Nat} {ls : List Ln} (h : Rd w B 5 A n (ncells ls)) (hi : i ≤ n) (hl : ls.length = n) : Rd w B 5 A i (ncells (ls.take i)) := by
  have e : ncells ls = ncells (ls.take i) ++ ncells (ls.drop i) := by rw [← ncells_append, List.take_append_drop]
  rw [e] at h
  exact Rd_pre h (by rw [ncells_length, List.length_take]; congr 1; omega) hi

set_option maxRecDepth 20000 in
set_option maxHeartbeats 16000000 in
theorem check_why (T : Lib.PrintTabs) (x : Co) (M : Option Addr) (m mc : Nat) (ms : List Fa) (LA : Option Addr) (ln lc : Nat) (ls : List Ln) (w : World) (hx : x.ok w) (hf : x.fine) (hfn : x.fn ≤ 1048576)
    (hm : Rd w w.heap.size 2 M m (facells ms)) (hms : ∀ y ∈ ms, y.ok w) (hmk : ∀ y ∈ ms, y.small) (hl : Rd w w.heap.size 5 LA ln (ncells ls)) (hls : ∀ y ∈ ls, Ln.ok w y) (hlk : ∀ y ∈ ls, y.small) (hlc : ln ≤ lc) (ht : Tabs T w) (hp : Pow w) :
    Calls Tryd.prog 20 #[.agg x.cells.toArray, .slice M m mc, .slice LA ln lc] w fun e w' => (∃ V : Int, e = .returned (.int .i64 V) ∧ FirstBad (rightAt x ms ls) ls.length V) ∧ Below w.heap.size w w' := by
  have hll : ls.length = ln := by have h := hl.1; rw [ncells_length] at h; omega
  have hlb := hl.2.1
  obtain ⟨F, hF⟩ : ∃ F, F = rightAt x ms ls := ⟨_, rfl⟩
  rw [← hF]
  obtain ⟨G, hG⟩ : ∃ G, G = givenB x := ⟨_, rfl⟩
  obtain ⟨E, hE⟩ : ∃ E : Nat → Bool, E = fun i => match ls[i]? with | none => true | some y => derivedB x ms (ls.take i) y := ⟨_, rfl⟩
  have HFE : Hid (∀ i (hk : i < ls.length), F i = if ls[i].r = -1 then G ls[i] else E i) := Lib.hid fun i hk => by
    rw [hF, hG, hE]
    unfold rightAt rightB
    simp only [List.getElem?_eq_getElem hk]
  have HGE : Hid (∀ y : Ln, G y = if y.ss.length = 0 ∧ y.fs.length = 0 then x.fs.any (isRow x.ds x.cs y.p y.xs) else false) := Lib.hid fun y => by rw [hG]; rfl
  have HXO := Lib.hid hx
  have HM := Lib.hid hm
  have HMS := Lib.hid hms
  have HMK := Lib.hid hmk
  have HL := Lib.hid hl
  have HLS := Lib.hid hls
  have HLK := Lib.hid hlk
  have HLL := Lib.hid hll
  have HLB := Lib.hid (LB.of ht hp rfl)
  have HGV : Hid (∀ W, x.ok W → Calls Tryd.prog 42 #[.agg x.cells.toArray] W fun e w' => ∃ A' c' gs, e = .returned (.slice A' gs.length c') ∧ w'.ownsRow W.heap.size 45 2 (.slice A' gs.length c') gs.length (facells gs) ∧ (∀ y ∈ gs, y.own w' W.heap.size ∧ y.small) ∧ (∀ p xs, memB gs p xs = x.fs.any (isRow x.ds x.cs p xs)) ∧ Below W.heap.size W w') :=
    Lib.hid fun W h1 => given_why x W h1 hf hfn
  have HDV : Hid (∀ b kb A i (hi : i < ls.length) W, x.ok W → Sm W b kb (keysM T ms).reverse → Rd W W.heap.size 5 A i (ncells (ls.take i)) → (∀ y ∈ ls, Ln.ok W y) → Tabs T W ∧ Pow W → Calls Tryd.prog 44 #[.agg x.cells.toArray, .map (some b), .slice A i lc, .agg ls[i].cells.toArray] W fun e w' => e = .returned (.bool (E i)) ∧ Below W.heap.size W w') :=
    Lib.hid fun b kb A i hi W h1 h2 h3 h4 h5 => by
      rw [hE]
      simp only [List.getElem?_eq_getElem hi]
      exact right_why T x b kb ms A i lc (ls.take i) ls[i] W h1 hf h2 h3 (fun z hz => ⟨h4 z (List.mem_of_mem_take hz), hlk z (List.mem_of_mem_take hz)⟩) (h4 _ (List.getElem_mem hi)) (hlk _ (List.getElem_mem hi)) h5.1 h5.2
  clear hx hf hm hms hmk hl hls hlk hll hF hG hE ht hp
  obtain ⟨DA, dn, dc, ds, CA, cn, cc, cs, RA, rn, rc, rs, FA, fn, fc, fs⟩ := x
  simp only [Co.cells] at HGV HDV
  dsimp only at HGE HGV
  show Calls Tryd.prog 20 #[.agg #[.slice DA dn dc, .slice CA cn cc, .slice RA rn rc, .slice FA fn fc], .slice M m mc, .slice LA ln lc] w _
  go_enter Tryd.func20, Tryd.ntmps20
  go_upto_region 1 with (fail)
  have hb1 := (Below.refl w.heap.size w).alloc (Nat.le_refl _) (.cells #[.slice DA dn dc, .slice CA cn cc, .slice RA rn rc, .slice FA fn fc] 40)
  have h1 := Blk.new w 40 [.slice DA dn dc, .slice CA cn cc, .slice RA rn rc, .slice FA fn fc]
  generalize World.alloc _ _ = w1 at *
  generalize hRe : w.heap.size = R at *
  have HRR := Lib.hid hRe
  have HB1 := Lib.hid hb1
  have H1 := Lib.hid h1
  clear hRe hb1 h1
  have hs1 := H1.out.lt
  have f0 := (H1.out.cell 0).trans rfl
  have f1 := (H1.out.cell 1).trans rfl
  have f2 := (H1.out.cell 2).trans rfl
  have f3 := (H1.out.cell 3).trans rfl
  go_wp2_with fail
  refine (HGV.out w1 (HXO.out.up (HRR.out ▸ HB1.out))).mono ?_
  rintro e w2 ⟨A1, c1, gs, rfl, ho, hgs, hmg, hb2⟩
  have HB2 := Lib.hid (HB1.out.trans (hb2.mono (by omega)))
  have HGO := Lib.hid (own_rd ho)
  have HGS := Lib.hid hgs
  have HMG := Lib.hid hmg
  have hs2 := hb2.size
  have K2 := Lib.hid hb2
  clear f0 f1 f2 f3 ho hgs hmg hb2 HB1 HGV
  go_wp2_with fail
  refine (setOf_any T A1 gs.length c1 gs w2 HGO.out (fun y hy => (HGS.out y hy).1.ok) (fun y hy => (HGS.out y hy).2) (HLB.out w2 HB2.out).1 (HLB.out w2 HB2.out).2).mono ?_
  rintro e w3 ⟨b1, rfl, hS1, hb3⟩
  have HB3 := Lib.hid (HB2.out.trans (hb3.mono (by omega)))
  have HS1 := Lib.hid hS1
  have hs3 := hb3.size
  have K3 := Lib.hid (K2.out.trans (hb3.mono hs2))
  clear hS1 hb3 HGO HGS HB2
  go_wp2_with fail
  refine (setOf_any T M m mc ms w3 (HM.out.up HB3.out (by omega)) (fun y hy => (HMS.out y hy).up (HRR.out ▸ HB3.out)) HMK.out (HLB.out w3 HB3.out).1 (HLB.out w3 HB3.out).2).mono ?_
  rintro e w4 ⟨b2, rfl, hS2, hb4⟩
  have HB4 := Lib.hid (HB3.out.trans (hb4.mono (by omega)))
  have K4 := Lib.hid (K3.out.trans (hb4.mono (by omega)))
  have H14 := Lib.hid (H1.out.below K4.out H1.out.lt)
  have HS14 := Lib.hid (HS1.out.up hb4)
  have HS24 := Lib.hid hS2
  have HX4 := Lib.hid (HXO.out.up (HRR.out ▸ HB4.out))
  have HL4 := Lib.hid (HL.out.up HB4.out (show R ≤ w4.heap.size by have := hb4.size; omega))
  have HLS4 := Lib.hid (fun y hy => Ln.ok.up (HLS.out y hy) (HRR.out ▸ HB4.out))
  have hs4 := hb4.size
  clear hS2 hb4 HS1 HB3 HM HMS HMK H1 HXO HL HLS
  go_upto_region 3 with (fail)
  go_loopg [18] ln (fun gk u18 wr => ∃ i : Nat, u18 = .int .i64 i ∧ i ≤ ln ∧ Hid (gk = ln - i) ∧ Hid (Below w4.heap.size w4 wr) ∧ Hid (∀ j < i, F j = true))
  case atStart => exact ⟨0, rfl, Nat.zero_le _, Lib.hid (by omega), Lib.hid (Below.refl _ _), Lib.hid (by intro j hj; omega)⟩
  case round =>
    obtain ⟨i, rfl, hi, HG, GW, HN⟩ := hrel
    have hsr : w4.heap.size ≤ wr.heap.size := GW.out.size
    by_cases hlt : i < ln
    · have HLw := Lib.hid (HL4.out.up GW.out hsr)
      obtain ⟨lb, lo, hk0, rfl, hlb0, hc⟩ := HLw.out.at Ln.cells 5 (fun _ => rfl) (by omega) i hlt
      have c0 := hc 0 _ (by omega) rfl
      have c1 := hc 1 _ (by omega) rfl
      have c2 := hc 2 _ (by omega) rfl
      have c3 := hc 3 _ (by omega) rfl
      have c4 := hc 4 _ (by omega) rfl
      rw [Nat.add_zero] at c0
      clear hc HLw
      have HNO : Hid (F i = false → FirstBad F ls.length (i : Int)) := Lib.hid fun h => .inr ⟨i, hk0, rfl, h, HN.out⟩
      have HYES : Hid (F i = true → ∀ j < i + 1, F j = true) := Lib.hid fun h j hj => by
        rcases Nat.lt_or_ge j i with h' | h'
        · exact HN.out j h'
        · obtain rfl : j = i := by omega
          exact h
      have HFI := Lib.hid (HFE.out i hk0)
      have HGI := Lib.hid (HGE.out ls[i])
      have hyo := HLS4.out ls[i] (List.getElem_mem hk0)
      have hyk := HLK.out ls[i] (List.getElem_mem hk0)
      have HDI := Lib.hid (fun W (hb : Below w4.heap.size w4 W) => HDV.out b2 m (some ⟨lb, lo, none⟩) i hk0 W (HX4.out.up hb) (HS24.out.up hb) (Rd_lines (HL4.out.up hb hb.size) hi HLL.out) (fun y hy => Ln.ok.up (HLS4.out y hy) hb) (HLB.out W (HB4.out.trans (hb.mono (by omega)))))
      clear HFE
      generalize F i = D at *
      generalize E i = Ei at *
      generalize ls[i] = y at *
      generalize G y = Gy at *
      clear hk0
      obtain ⟨yp, yA, yn, yc, yr, yB, ym, yd, yF, yk, ye, yxs, yss, yfs⟩ := y
      simp only [Ln.cells] at HDI
      dsimp only at c0 c1 c2 c3 c4 HFI HGI
      have HYO := Lib.hid hyo
      have HYK := Lib.hid hyk
      clear hyo hyk
      go_upto_region 5 with (fail)
      have hba := (Below.refl wr.heap.size wr).alloc (Nat.le_refl _) (.cells #[.string yp, .slice yA yn yc, .int .i64 yr, .slice yB ym yd, .slice yF yk ye] 66)
      have HK := Lib.hid (Blk.new wr 66 [.string yp, .slice yA yn yc, .int .i64 yr, .slice yB ym yd, .slice yF yk ye])
      have GW6 := Lib.hid (GW.out.trans (hba.mono hsr))
      clear hba c0 c1 c2 c3 c4 GW
      generalize World.alloc _ _ = w6 at *
      have hs6 : w4.heap.size ≤ w6.heap.size := GW6.out.size
      have HB6 := Lib.hid (HB4.out.trans (GW6.out.mono (by omega)))
      by_cases hg : yr = -1
      · subst hg
        obtain rfl : D = Gy := HFI.out
        clear HDI HFI
        have g2 := (HK.out.cell 2).trans rfl
        have g3 := (HK.out.cell 3).trans rfl
        have g4 := (HK.out.cell 4).trans rfl
        have hls2 : yss.length = ym := by have h : (kcells yss).length = ym * 3 := HYO.out.s.1; rw [kcells_length] at h; omega
        have hlf2 : yfs.length = yk := by have h : (icells yfs).length = yk * 1 := HYO.out.f.1; rw [icells_length] at h; omega
        rw [hls2, hlf2] at HGI
        clear hls2 hlf2
        by_cases hm0 : ym = 0
        case neg =>
          have t1 : ((ym : Int) != 0) = true := by simpa using (by omega : ¬ (ym : Int) = 0)
          obtain rfl : D = false := by rw [HGI.out, if_neg (by omega)]
          have HF := Lib.hid (HNO.out rfl)
          clear HYES HNO HGI
          go_wp2
          go_ret
          exact ⟨⟨_, rfl, HF.out⟩, by rw [HRR.out]; exact HB6.out⟩
        have t1 : ((ym : Int) != 0) = false := by simp [hm0]
        by_cases hk0 : yk = 0
        case neg =>
          have t2 : ((yk : Int) != 0) = true := by simpa using (by omega : ¬ (yk : Int) = 0)
          obtain rfl : D = false := by rw [HGI.out, if_neg (by omega)]
          have HF := Lib.hid (HNO.out rfl)
          clear HYES HNO HGI hm0
          go_wp2
          go_ret
          exact ⟨⟨_, rfl, HF.out⟩, by rw [HRR.out]; exact HB6.out⟩
        have t2 : ((yk : Int) != 0) = false := by simp [hk0]
        have HD : Hid (inS (keysM T gs).reverse (keyB T yp yxs) = D) := Lib.hid (by rw [HGI.out, if_pos ⟨hm0, hk0⟩, keysM_has, HMG.out])
        have HHS := Lib.hid (has_any T b1 gs.length _ yp yA yn yc yxs w6 (HS14.out.up GW6.out) (HYO.out.a.up GW6.out hs6) HYK.out.xs HYK.out.p HYK.out.n (HLB.out w6 HB6.out).1 (HLB.out w6 HB6.out).2)
        rw [HD.out] at HHS
        have g0 := (HK.out.cell 0).trans rfl
        have g1 := (HK.out.cell 1).trans rfl
        clear HGI hm0 hk0 HD
        go_wp2_with fail
        refine HHS.out.mono ?_
        rintro e w7 ⟨rfl, hb7⟩
        have GW7 := Lib.hid (GW6.out.trans (hb7.mono hs6))
        have HB7 := Lib.hid (HB6.out.trans (hb7.mono (by omega)))
        clear g0 g1 g2 g3 g4 hb7 HHS
        cases D with
        | true =>
          have HY := Lib.hid (HYES.out rfl)
          clear HYES HNO
          go_wp2
          go_roundg (ln - (i + 1))
          case measure => have := HG.out; omega
          case rel => exact ⟨i + 1, by go_num, by omega, Lib.hid rfl, GW7, HY⟩
        | false =>
          have HF := Lib.hid (HNO.out rfl)
          clear HYES HNO
          go_wp2
          go_ret
          exact ⟨⟨_, rfl, HF.out⟩, by rw [HRR.out]; exact HB7.out⟩
      · have hgd : (yr == -1) = false := by simpa using hg
        obtain rfl : D = Ei := by rw [HFI.out, if_neg hg]
        clear HGI HFI
        have hilc : i ≤ lc := by omega
        have G1 := Lib.hid (H14.out.below GW6.out (by omega))
        have g2 := (HK.out.cell 2).trans rfl
        go_upto_region 8 with (fail)
        clear g2
        have kf0 := cell_regrown ((G1.out.cell 0).trans rfl)
        have kf1 := cell_regrown ((G1.out.cell 1).trans rfl)
        have kf2 := cell_regrown ((G1.out.cell 2).trans rfl)
        have kf3 := cell_regrown ((G1.out.cell 3).trans rfl)
        have kc0 := cell_regrown ((HK.out.cell 0).trans rfl)
        have kc1 := cell_regrown ((HK.out.cell 1).trans rfl)
        have kc2 := cell_regrown ((HK.out.cell 2).trans rfl)
        have kc3 := cell_regrown ((HK.out.cell 3).trans rfl)
        have kc4 := cell_regrown ((HK.out.cell 4).trans rfl)
        have cA : ∀ d os, Calls Tryd.prog 44 #[.agg #[.slice DA dn dc, .slice CA cn cc, .slice RA rn rc, .slice FA fn fc], .map (some b2), .slice (some ⟨lb, lo, none⟩) i lc, .agg #[.string yp, .slice yA yn yc, .int .i64 yr, .slice yB ym yd, .slice yF yk ye]] (grow (redrawn w6 d) os) fun e w'' => e = .returned (.bool D) ∧ ∃ p : Regrown, w'' = grow (redrawn w6 p.d) p.os :=
          fun d os => Calls.regrown_of (HDI.out _ (GW6.out.trans ((below_regrown w6 d os).mono hs6)))
        refine wp_region_quiet_below (by kernel_rfl) (by kernel_rfl) ?_
        repeat (go_big_quiet_step (exact cA _ _))
        refine wpQuiet_nil ?_
        intro w7 hw7
        obtain ⟨⟨dq, osq⟩, rfl⟩ := hw7
        have GW7 := Lib.hid (GW6.out.trans ((below_regrown w6 dq osq).mono hs6))
        have HB7 := Lib.hid (HB4.out.trans (GW7.out.mono (by omega)))
        clear kf0 kf1 kf2 kf3 kc0 kc1 kc2 kc3 kc4 cA HDI
        cases D with
        | true =>
          have HY := Lib.hid (HYES.out rfl)
          clear HYES HNO
          go_wp2
          go_roundg (ln - (i + 1))
          case measure => have := HG.out; omega
          case rel => exact ⟨i + 1, by go_num, by omega, Lib.hid rfl, GW7, HY⟩
        | false =>
          have HF := Lib.hid (HNO.out rfl)
          clear HYES HNO
          go_wp2
          go_ret
          exact ⟨⟨_, rfl, HF.out⟩, by rw [HRR.out]; exact HB7.out⟩
    · obtain rfl : ln = i := by omega
      have HF : Hid (FirstBad F ls.length (-1)) := Lib.hid (.inl ⟨rfl, fun j hj => HN.out j (by have := HLL.out; omega)⟩)
      have HB7 := Lib.hid (HB4.out.trans (GW.out.mono (by omega)))
      go_wp2
      go_ret
      exact ⟨⟨_, rfl, HF.out⟩, by rw [HRR.out]; exact HB7.out⟩
end Go.Proofs.YtjcgkplphiedjaaDoorT
