/- The law of slices: comparison of programs, and the law's walk. -/
import Derived.Test.YtjcgkplphiedjaaL10
import Derived.Test.YtjcgkplphiedjaaL11
namespace Go.Proofs.Ytjcgkplphiedjaa
open Go.RowKit Go.Sort

set_option maxRecDepth 20000 in
set_option maxHeartbeats 4000000 in
theorem programs18_any (A A' : Option Addr) (n c c' : Nat) (cs cs' : List Cl) (w : World) (hr : Rd w w.heap.size 4 A n (ccells cs)) (hr' : Rd w w.heap.size 4 A' n (ccells cs')) (hok : ∀ x ∈ cs, Cl.ok w x) (hok' : ∀ x ∈ cs', Cl.ok w x) (hc : cs.map Cl.core = cs'.map Cl.core) :
    Calls Try.prog 17 #[.agg #[.slice A n c], .agg #[.slice A' n c']] w fun e w' => e = .returned (.bool true) ∧ Below w.heap.size w w' := by
  have HR := Lib.hid hr
  have HR' := Lib.hid hr'
  have HK := Lib.hid hok
  have HK' := Lib.hid hok'
  have HC := Lib.hid hc
  have hn := hr.2.1
  clear hr hr' hok hok' hc
  go_enter Try.func17, Try.ntmps17
  have hnn : ((n : Int) != (n : Int)) = false := by simp
  go_upto_region 1 with (fail)
  obtain ⟨hb3, h1, h2, hs3⟩ := two_alloc w 37 37 [.slice A n c] [.slice A' n c']
  generalize World.alloc (World.alloc _ _) _ = w3 at *
  generalize hR : w.heap.size = R at *
  have HRR := Lib.hid hR
  clear hR
  have HB3 := Lib.hid hb3
  have H1 := Lib.hid h1
  have H2 := Lib.hid h2
  clear hb3 h1 h2 hs3
  have f0 := H1.out.cell 0
  have f1 := H2.out.cell 0
  simp only [List.getElem?_cons_zero] at f0 f1
  go_wp2
  clear hnn f0 f1
  go_loopg [5] n (fun gk u5 wr => ∃ k : Nat, u5 = .int .i64 k ∧ k ≤ n ∧ Hid (gk = n - k) ∧ Hid (Below R w wr) ∧ Hid (Blk wr R 37 [.slice A n c]) ∧ Hid (Blk wr (R + 1) 37 [.slice A' n c']))
  case atStart => exact ⟨0, rfl, Nat.zero_le _, Lib.hid (by omega), HB3, H1, H2⟩
  case round =>
    clear HB3 H1 H2
    obtain ⟨k, rfl, hk, HG, HB, H1, H2⟩ := hrel
    have f0 := H1.out.cell 0
    have f1 := H2.out.cell 0
    simp only [List.getElem?_cons_zero] at f0 f1
    by_cases hlt : k < n
    · obtain ⟨B, off, hk1, rfl, hB, hc⟩ := (HR.out.below HB.out).at Cl.cells 4 (fun _ => rfl) (by omega) k hlt
      obtain ⟨B', off', hk1', rfl, hB', hc'⟩ := (HR'.out.below HB.out).at Cl.cells 4 (fun _ => rfl) (by omega) k hlt
      have c0 := hc 0 _ (by omega) rfl
      have c1 := hc 1 _ (by omega) rfl
      have c2 := hc 2 _ (by omega) rfl
      have c3 := hc 3 _ (by omega) rfl
      have d0 := hc' 0 _ (by omega) rfl
      have d1 := hc' 1 _ (by omega) rfl
      have d2 := hc' 2 _ (by omega) rfl
      have d3 := hc' 3 _ (by omega) rfl
      rw [Nat.add_zero] at c0 d0
      clear hc hc'
      have hz : Cl.ok wr cs[k] := (HK.out cs[k] (List.getElem_mem hk1)).up (HRR.out ▸ HB.out)
      have hz' : Cl.ok wr cs'[k] := (HK'.out cs'[k] (List.getElem_mem hk1')).up (HRR.out ▸ HB.out)
      have hcore : cs[k].core = cs'[k].core := by
        have := congrArg (fun l => l[k]?) HC.out
        simpa [hk1, hk1'] using this
      generalize cs[k] = z at *
      generalize cs'[k] = z' at *
      obtain ⟨⟨zp, zA, zn, zc, zo, zes⟩, zB, zm, zd, zls⟩ := z
      obtain ⟨⟨yp, yA, yn, yc, yo, yes⟩, yB, ym, yd, yls⟩ := z'
      simp only [Cl.core, At.core, Prod.mk.injEq] at hcore
      obtain ⟨⟨rfl, rfl, rfl⟩, hlc⟩ := hcore
      have hzn : zn = yn := by
        have h1 := hz.1.1.1
        have h2 := hz'.1.1.1
        dsimp only at h1 h2
        omega
      subst hzn
      have hzm : zm = ym := by
        have h1 := hz.2.1.1
        have h2 := hz'.2.1.1
        have h3 := congrArg List.length hlc
        rw [lcells_length] at h1 h2
        simp only [List.length_map] at h3
        dsimp only at h1 h2
        omega
      subst hzm
      have HZ := Lib.hid hz
      have HZ' := Lib.hid hz'
      have HLC := Lib.hid hlc
      clear hz hz' hlc
      go_upto_region 6 with (fail)
      have kf0 := cell_regrown f0
      have kf1 := cell_regrown f1
      have kc0 := cell_regrown c0
      have kc1 := cell_regrown c1
      have kc2 := cell_regrown c2
      have kc3 := cell_regrown c3
      have kd0 := cell_regrown d0
      have kd1 := cell_regrown d1
      have kd2 := cell_regrown d2
      have kd3 := cell_regrown d3
      have cA : ∀ d os, Calls Try.prog 33 #[.agg #[.string zp, .slice zA zn zc, .int .i64 zo], .agg #[.string zp, .slice yA zn yc, .int .i64 zo]] (grow (redrawn wr d) os) fun e w'' => e = .returned (.bool true) ∧ ∃ p : Regrown, w'' = grow (redrawn wr p.d) p.os :=
        fun d os => Calls.regrown_of (atoms18_any zp zA yA zn zc yc zo zes _ (HZ.out.1.1.up (below_regrown wr d os) (below_regrown wr d os).size) (HZ'.out.1.1.up (below_regrown wr d os) (below_regrown wr d os).size))
      have cB : ∀ d os, Calls Try.prog 34 #[.slice zB zm zd, .slice yB zm yd] (grow (redrawn wr d) os) fun e w'' => e = .returned (.bool true) ∧ ∃ p : Regrown, w'' = grow (redrawn wr p.d) p.os :=
        fun d os => Calls.regrown_of (bodies18_any zB yB zm zd yd zls yls _ (HZ.out.2.1.up (below_regrown wr d os) (below_regrown wr d os).size) (HZ'.out.2.1.up (below_regrown wr d os) (below_regrown wr d os).size)
          (fun x hx => At.ok.up (HZ.out.2.2.2 x hx) (below_regrown wr d os)) (fun x hx => At.ok.up (HZ'.out.2.2.2 x hx) (below_regrown wr d os)) HLC.out)
      clear f0 f1 c0 c1 c2 c3 d0 d1 d2 d3
      refine wp_region_quiet_below (by kernel_rfl) (by kernel_rfl) ?_
      repeat (go_big_quiet_step (first | exact cA _ _ | exact cB _ _))
      refine wpQuiet_nil ?_
      intro w6 hw6
      obtain ⟨⟨dq, osq⟩, rfl⟩ := hw6
      have hl1 := H2.out.lt
      have HB6 := Lib.hid (HB.out.trans ((below_regrown wr dq osq).mono (by omega)))
      have H16 := Lib.hid (H1.out.below (below_regrown wr dq osq) (by omega))
      have H26 := Lib.hid (H2.out.below (below_regrown wr dq osq) hl1)
      clear kf0 kf1 kc0 kc1 kc2 kc3 kd0 kd1 kd2 kd3 cA cB hl1
      go_wp2
      go_roundg (n - (k + 1))
      case measure => have := HG.out; omega
      case rel => exact ⟨k + 1, by go_num, by omega, Lib.hid rfl, HB6, H16, H26⟩
    · go_wp2
      go_ret
      exact ⟨rfl, by rw [HRR.out]; exact HB.out⟩
end Go.Proofs.Ytjcgkplphiedjaa
