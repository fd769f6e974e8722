/- Check, the document's. -/
import Derived.Test.YtjcgkplphiedjaaDoorTG30
import Derived.Test.YtjcgkplphiedjaaDoorTG33
namespace Go.Proofs.YtjcgkplphiedjaaDoorT
open Go.RowKit Go.Sort

set_option maxRecDepth 20000 in
set_option maxHeartbeats 8000000 in
theorem check_ref (x : Co) (M : Option Addr) (m mc : Nat) (ms : List Fa) (LA : Option Addr) (ln lc : Nat) (ls : List Ln) (w : World) (hx : x.ok w) (hf : x.fine)
    (hm : Rd w w.heap.size 2 M m (facells ms)) (hms : ∀ y ∈ ms, y.ok w) (hl : Rd w w.heap.size 5 LA ln (ncells ls)) (hls : ∀ y ∈ ls, Ln.ok w y) (hlf : ∀ y ∈ ls, ∀ z ∈ y.ss, keyK z) :
    Calls Tryd.prog 19 #[.agg x.cells.toArray, .slice M m mc, .slice LA ln lc] w fun e w' => (∃ V : Int, e = .returned (.int .i64 V) ∧ FirstBad (rightAt x ms ls) ls.length V) ∧ Below w.heap.size w w' := by
  have hll : ls.length = ln := by have h := hl.1; rw [ncells_length] at h; omega
  have hlb := hl.2.1
  obtain ⟨F, hF⟩ : ∃ F, F = rightAt x ms ls := ⟨_, rfl⟩
  rw [← hF]
  obtain ⟨G, hG⟩ : ∃ G, G = givenB x := ⟨_, rfl⟩
  obtain ⟨E, hE⟩ : ∃ E : Nat → Bool, E = fun i => match ls[i]? with | none => true | some y => derivedB x ms (ls.take i) y := ⟨_, rfl⟩
  have HFE : Hid (∀ i (hk : i < ls.length), F i = if ls[i].r = -1 then G ls[i] else E i) := Lib.hid fun i hk => by
    rw [hF, hG, hE]
    unfold rightAt rightB
    simp only [List.getElem?_eq_getElem hk]
  have HXO := Lib.hid hx
  have HM := Lib.hid hm
  have HMS := Lib.hid hms
  have HL := Lib.hid hl
  have HLS := Lib.hid hls
  have HLL := Lib.hid hll
  have HGV : Hid (∀ y W, x.ok W → Ln.ok W y → Calls Tryd.prog 39 #[.agg x.cells.toArray, .agg y.cells.toArray] W fun e w' => e = .returned (.bool (G y)) ∧ Below W.heap.size W w') :=
    Lib.hid fun y W h1 h2 => by rw [hG]; exact given_ref x y W h1 hf h2
  have HDV : Hid (∀ i (_ : i < ls.length) W, x.ok W → Rd W W.heap.size 2 M m (facells ms) → (∀ y ∈ ms, y.ok W) → Rd W W.heap.size 5 LA ln (ncells ls) → (∀ y ∈ ls, Ln.ok W y) → Calls Tryd.prog 40 #[.agg x.cells.toArray, .slice M m mc, .slice LA ln lc, .int .i64 i] W fun e w' => e = .returned (.bool (E i)) ∧ Below W.heap.size W w') :=
    Lib.hid fun i hi W h1 h2 h3 h4 h5 => by
      rw [hE]
      simp only [List.getElem?_eq_getElem hi]
      exact derived_ref x M m mc ms LA ln lc ls i hi W h1 hf h2 h3 h4 h5 hlf
  clear hx hf hm hms hl hls hlf hll hF hG hE
  obtain ⟨DA, dn, dc, ds, CA, cn, cc, cs, RA, rn, rc, rs, FA, fn, fc, fs⟩ := x
  simp only [Co.cells] at HGV HDV
  show Calls Tryd.prog 19 #[.agg #[.slice DA dn dc, .slice CA cn cc, .slice RA rn rc, .slice FA fn fc], .slice M m mc, .slice LA ln lc] w _
  go_enter Tryd.func19, Tryd.ntmps19
  go_upto_region 1 with (fail)
  have hb1 := (Below.refl w.heap.size w).alloc (Nat.le_refl _) (.cells #[.slice DA dn dc, .slice CA cn cc, .slice RA rn rc, .slice FA fn fc] 40)
  have h1 := Blk.new w 40 [.slice DA dn dc, .slice CA cn cc, .slice RA rn rc, .slice FA fn fc]
  have hs1 : (w.alloc (.cells #[.slice DA dn dc, .slice CA cn cc, .slice RA rn rc, .slice FA fn fc] 40)).heap.size = w.heap.size + 1 := by simp
  generalize World.alloc _ _ = w1 at *
  have HX1 := Lib.hid (HXO.out.up hb1)
  have HM1 := Lib.hid (HM.out.up hb1 hb1.size)
  have HMS1 := Lib.hid (fun y hy => Fa.ok.up (HMS.out y hy) hb1)
  have HL1 := Lib.hid (HL.out.up hb1 hb1.size)
  have HLS1 := Lib.hid (fun y hy => Ln.ok.up (HLS.out y hy) hb1)
  generalize hRe : w.heap.size = R at *
  have HRR := Lib.hid hRe
  have HB := Lib.hid hb1
  have H1 := Lib.hid h1
  clear hRe HXO HM HMS HL HLS hb1 h1
  go_upto_region 2 with (fail)
  go_loopg [7] ln (fun gk u7 wr => ∃ i : Nat, u7 = .int .i64 i ∧ i ≤ ln ∧ Hid (gk = ln - i) ∧ Hid (Below w1.heap.size w1 wr) ∧ Hid (∀ j < i, F j = true))
  case atStart => exact ⟨0, rfl, Nat.zero_le _, Lib.hid (by omega), Lib.hid (Below.refl _ _), Lib.hid (by intro j hj; omega)⟩
  case round =>
    obtain ⟨i, rfl, hi, HG, GW, HN⟩ := hrel
    have hsr : w1.heap.size ≤ wr.heap.size := GW.out.size
    have G1 := Lib.hid (H1.out.below GW.out (by omega))
    have GB := Lib.hid (HB.out.trans (GW.out.mono (by omega)))
    by_cases hlt : i < ln
    · have HLw := Lib.hid (HL1.out.up GW.out hsr)
      obtain ⟨lb, lo, hk0, rfl, hlb0, hc⟩ := HLw.out.at Ln.cells 5 (fun _ => rfl) (by omega) i hlt
      have c0 := hc 0 _ (by omega) rfl
      have c1 := hc 1 _ (by omega) rfl
      have c2 := hc 2 _ (by omega) rfl
      have c3 := hc 3 _ (by omega) rfl
      have c4 := hc 4 _ (by omega) rfl
      rw [Nat.add_zero] at c0
      clear hc
      have HNO : Hid (F i = false → FirstBad F ls.length (i : Int)) := Lib.hid fun h => .inr ⟨i, hk0, rfl, h, HN.out⟩
      have HYES : Hid (F i = true → ∀ j < i + 1, F j = true) := Lib.hid fun h j hj => by
        rcases Nat.lt_or_ge j i with h' | h'
        · exact HN.out j h'
        · obtain rfl : j = i := by omega
          exact h
      have HFI := Lib.hid (HFE.out i hk0)
      have HXw := Lib.hid (HX1.out.up GW.out)
      have HLSw := Lib.hid (fun y hy => Ln.ok.up (HLS1.out y hy) GW.out)
      have HGI := Lib.hid (fun W (hb : Below wr.heap.size wr W) => HGV.out ls[i] W (HXw.out.up hb) ((HLSw.out ls[i] (List.getElem_mem hk0)).up hb))
      have HDI := Lib.hid (HDV.out i hk0 wr HXw.out (HM1.out.up GW.out hsr) (fun y hy => Fa.ok.up (HMS1.out y hy) GW.out) HLw.out HLSw.out)
      have f0 := (G1.out.cell 0).trans rfl
      have f1 := (G1.out.cell 1).trans rfl
      have f2 := (G1.out.cell 2).trans rfl
      have f3 := (G1.out.cell 3).trans rfl
      clear HLw HLSw HXw HFE
      generalize F i = D at *
      generalize E i = Ei at *
      generalize ls[i] = y at *
      generalize G y = Gy at *
      clear hk0
      obtain ⟨yp, yA, yn, yc, yr, yB, ym, yd, yF, yk, ye, yxs, yss, yfs⟩ := y
      simp only [Ln.cells] at HGI
      dsimp only at c0 c1 c2 c3 c4 HFI
      by_cases hg : yr = -1
      · subst hg
        obtain rfl : D = Gy := HFI.out
        clear HDI HFI
        have cA : ∀ d os, Calls Tryd.prog 39 #[.agg #[.slice DA dn dc, .slice CA cn cc, .slice RA rn rc, .slice FA fn fc], .agg #[.string yp, .slice yA yn yc, .int .i64 (-1), .slice yB ym yd, .slice yF yk ye]] (grow (redrawn wr d) os) fun e w'' => e = .returned (.bool D) ∧ ∃ p : Regrown, w'' = grow (redrawn wr p.d) p.os :=
          fun d os => Calls.regrown_of (HGI.out _ (below_regrown wr d os))
        go_upto_region 6 with (fail)
        have kf0 := cell_regrown f0
        have kf1 := cell_regrown f1
        have kf2 := cell_regrown f2
        have kf3 := cell_regrown f3
        have kc0 := cell_regrown c0
        have kc1 := cell_regrown c1
        have kc2 := cell_regrown c2
        have kc3 := cell_regrown c3
        have kc4 := cell_regrown c4
        clear f0 f1 f2 f3 c0 c1 c2 c3 c4
        refine wp_region_quiet_below (by kernel_rfl) (by kernel_rfl) ?_
        repeat (go_big_quiet_step (exact cA _ _))
        refine wpQuiet_nil ?_
        intro w7 hw7
        obtain ⟨⟨dq, osq⟩, rfl⟩ := hw7
        have HW7 := Lib.hid (GW.out.trans ((below_regrown wr dq osq).mono hsr))
        have HB7 := Lib.hid (HB.out.trans (HW7.out.mono (by omega)))
        clear kf0 kf1 kf2 kf3 kc0 kc1 kc2 kc3 kc4 cA HGI
        cases D with
        | true =>
          have HY := Lib.hid (HYES.out rfl)
          clear HYES HNO
          go_wp2
          go_roundg (ln - (i + 1))
          case measure => have := HG.out; omega
          case rel => exact ⟨i + 1, by go_num, by omega, Lib.hid rfl, HW7, HY⟩
        | false =>
          have HF := Lib.hid (HNO.out rfl)
          clear HYES HNO
          go_wp2
          go_ret
          exact ⟨⟨_, rfl, HF.out⟩, by rw [HRR.out]; exact HB7.out⟩
      · have hgd : (yr == -1) = false := by simpa using hg
        obtain rfl : D = Ei := by rw [HFI.out, if_neg hg]
        clear HGI HFI
        go_wp2_with fail
        refine HDI.out.mono ?_
        rintro e w7 ⟨rfl, hb7⟩
        have HW7 := Lib.hid (GW.out.trans (hb7.mono hsr))
        have HB7 := Lib.hid (HB.out.trans (HW7.out.mono (by omega)))
        clear f0 f1 f2 f3 c0 c1 c2 c3 c4 hb7 HDI
        cases D with
        | true =>
          have HY := Lib.hid (HYES.out rfl)
          clear HYES HNO
          go_wp2
          go_roundg (ln - (i + 1))
          case measure => have := HG.out; omega
          case rel => exact ⟨i + 1, by go_num, by omega, Lib.hid rfl, HW7, HY⟩
        | false =>
          have HF := Lib.hid (HNO.out rfl)
          clear HYES HNO
          go_wp2
          go_ret
          exact ⟨⟨_, rfl, HF.out⟩, by rw [HRR.out]; exact HB7.out⟩
    · obtain rfl : i = ln := by omega
      have HF : Hid (FirstBad F ls.length (-1)) := Lib.hid (.inl ⟨rfl, fun j hj => HN.out j (by have := HLL.out; omega)⟩)
      go_wp2
      go_ret
      exact ⟨⟨_, rfl, HF.out⟩, by rw [HRR.out]; exact GB.out⟩
end Go.Proofs.YtjcgkplphiedjaaDoorT
