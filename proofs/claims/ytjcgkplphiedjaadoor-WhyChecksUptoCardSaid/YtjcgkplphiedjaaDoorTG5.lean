/- Facts, lines that are the same are found to be the same. | The marks behind the lists stand where they were put. -/
import Derived.Test.YtjcgkplphiedjaaDoorTG4
import Derived.Lib.QuietBelow
namespace Go.Proofs.YtjcgkplphiedjaaDoorT
open Go.RowKit Go.Sort

set_option maxHeartbeats 4000000 in
theorem sameK_true (z : Cn) (w : World) :
    Calls Tryd.prog 61 #[.agg z.cells.toArray, .agg z.cells.toArray] w fun e w' => e = .returned (.bool true) ∧ Below w.heap.size w w' := by
  obtain ⟨k, i, t⟩ := z
  show Calls Tryd.prog 61 #[.agg #[.int .i64 k, .int .i64 i, .string t], .agg #[.int .i64 k, .int .i64 i, .string t]] w _
  go_enter Tryd.func61, Tryd.ntmps61
  go_upto_region 1 with (fail)
  obtain ⟨hb3, h1, h2, hs3⟩ := two_alloc w 68 68 [.int .i64 k, .int .i64 i, .string t] [.int .i64 k, .int .i64 i, .string t]
  generalize World.alloc (World.alloc _ _) _ = w3 at *
  generalize hR : w.heap.size = R at *
  have HRR := Lib.hid hR
  clear hR
  have f0 := (h1.cell 0).trans rfl
  have f1 := (h1.cell 1).trans rfl
  have f2 := (h1.cell 2).trans rfl
  have g0 := (h2.cell 0).trans rfl
  have g1 := (h2.cell 1).trans rfl
  have g2 := (h2.cell 2).trans rfl
  have HB := Lib.hid hb3
  clear h1 h2 hs3 hb3
  go_wp2
  go_ret
  exact ⟨rfl, by rw [HRR.out]; exact HB.out⟩

set_option maxHeartbeats 4000000 in
theorem sameF_true (p : ByteArray) (A A' : Option Addr) (n c c' : Nat) (l : List Cn) (w : World) (hr : Rd w w.heap.size 3 A n (kcells l)) (hr' : Rd w w.heap.size 3 A' n (kcells l)) :
    Calls Tryd.prog 36 #[.agg #[.string p, .slice A n c], .agg #[.string p, .slice A' n c']] w fun e w' => e = .returned (.bool true) ∧ Below w.heap.size w w' := by
  have HR := Lib.hid hr
  have HR' := Lib.hid hr'
  have hn := hr.2.1
  clear hr hr'
  go_enter Tryd.func36, Tryd.ntmps36
  go_upto_region 1 with (fail)
  obtain ⟨hb3, h1, h2, hs3⟩ := two_alloc w 45 45 [.string p, .slice A n c] [.string p, .slice A' n c']
  generalize World.alloc (World.alloc _ _) _ = w3 at *
  generalize hR : w.heap.size = R at *
  have HRR := Lib.hid hR
  clear hR
  have HB3 := Lib.hid hb3
  have H1 := Lib.hid h1
  have H2 := Lib.hid h2
  clear hb3 h1 h2 hs3
  have f0 := (H1.out.cell 0).trans rfl
  have f1 := (H1.out.cell 1).trans rfl
  have g0 := (H2.out.cell 0).trans rfl
  have g1 := (H2.out.cell 1).trans rfl
  go_upto_region 4 with (fail)
  clear f0 f1 g0 g1
  go_loopg [5] n (fun gk u5 wr => ∃ k : Nat, u5 = .int .i64 k ∧ k ≤ n ∧ Hid (gk = n - k) ∧ Hid (Below R w wr) ∧ Hid (Blk wr R 45 [.string p, .slice A n c]) ∧ Hid (Blk wr (R + 1) 45 [.string p, .slice A' n c']))
  case atStart => exact ⟨0, rfl, Nat.zero_le _, Lib.hid (by omega), HB3, H1, H2⟩
  case round =>
    clear HB3 H1 H2
    obtain ⟨k, rfl, hk, HG, HB, H1, H2⟩ := hrel
    have f1 := (H1.out.cell 1).trans rfl
    have g1 := (H2.out.cell 1).trans rfl
    by_cases hlt : k < n
    · obtain ⟨b1, o1, hk1, rfl, hb1, hc⟩ := (HR.out.below HB.out).at Cn.cells 3 (fun _ => rfl) (by omega) k hlt
      obtain ⟨b2, o2, hk2, rfl, hb2, hd⟩ := (HR'.out.below HB.out).at Cn.cells 3 (fun _ => rfl) (by omega) k hlt
      have c0 := hc 0 _ (by omega) rfl
      have c1 := hc 1 _ (by omega) rfl
      have c2 := hc 2 _ (by omega) rfl
      have d0 := hd 0 _ (by omega) rfl
      have d1 := hd 1 _ (by omega) rfl
      have d2 := hd 2 _ (by omega) rfl
      rw [Nat.add_zero] at c0 d0
      clear hc hd
      generalize l[k] = z at *
      have HS := Lib.hid (sameK_true z)
      obtain ⟨zk, zi, zt⟩ := z
      simp only [Cn.cells] at HS
      dsimp only at c0 c1 c2 d0 d1 d2
      go_upto_region 6 with (fail)
      have kf1 := cell_regrown f1
      have kg1 := cell_regrown g1
      have kc0 := cell_regrown c0
      have kc1 := cell_regrown c1
      have kc2 := cell_regrown c2
      have kd0 := cell_regrown d0
      have kd1 := cell_regrown d1
      have kd2 := cell_regrown d2
      have cA : ∀ d os, Calls Tryd.prog 61 #[.agg #[.int .i64 zk, .int .i64 zi, .string zt], .agg #[.int .i64 zk, .int .i64 zi, .string zt]] (grow (redrawn wr d) os) fun e w'' => e = .returned (.bool true) ∧ ∃ p : Regrown, w'' = grow (redrawn wr p.d) p.os :=
        fun d os => Calls.regrown_of (HS.out _)
      clear f1 g1 c0 c1 c2 d0 d1 d2
      refine wp_region_quiet_below (by kernel_rfl) (by kernel_rfl) ?_
      repeat (go_big_quiet_step (first | exact cA _ _))
      refine wpQuiet_nil ?_
      intro w6 hw6
      obtain ⟨⟨dq, osq⟩, rfl⟩ := hw6
      have hl1 := H2.out.lt
      have HB6 := Lib.hid (HB.out.trans ((below_regrown wr dq osq).mono (by omega)))
      have H16 := Lib.hid (H1.out.below (below_regrown wr dq osq) (by omega))
      have H26 := Lib.hid (H2.out.below (below_regrown wr dq osq) hl1)
      clear kf1 kg1 kc0 kc1 kc2 kd0 kd1 kd2 cA hl1
      go_wp2
      go_roundg (n - (k + 1))
      case measure => have := HG.out; omega
      case rel => exact ⟨k + 1, by go_num, by omega, Lib.hid rfl, HB6, H16, H26⟩
    · obtain rfl : k = n := by omega
      go_wp2
      go_ret
      exact ⟨rfl, by rw [HRR.out]; exact HB.out⟩

set_option maxHeartbeats 8000000 in
theorem lines_same (A A' : Option Addr) (n c c' : Nat) (ls ls' : List Ln) (w : World) (hr : Rd w w.heap.size 5 A n (ncells ls)) (hr' : Rd w w.heap.size 5 A' n (ncells ls')) (hok : ∀ x ∈ ls, Ln.ok w x) (hok' : ∀ x ∈ ls', Ln.ok w x) (hc : ls.map Ln.core = ls'.map Ln.core) :
    Calls Tryd.prog 15 #[.slice A n c, .slice A' n c'] w fun e w' => e = .returned (.bool true) ∧ Below w.heap.size w w' := by
  have HR := Lib.hid hr
  have HR' := Lib.hid hr'
  have HK := Lib.hid hok
  have HK' := Lib.hid hok'
  have HC := Lib.hid hc
  have hn := hr.2.1
  clear hr hr' hok hok' hc
  generalize hR : w.heap.size = R at *
  have HRR := Lib.hid hR
  clear hR
  go_enter Tryd.func15, Tryd.ntmps15
  go_upto_region 4 with (fail)
  go_loopg [5] n (fun gk u5 wr => ∃ k : Nat, u5 = .int .i64 k ∧ k ≤ n ∧ Hid (gk = n - k) ∧ Hid (Below R w wr) ∧ Hid (R ≤ wr.heap.size))
  case atStart => exact ⟨0, rfl, Nat.zero_le _, Lib.hid (by omega), Lib.hid (Below.refl _ _), Lib.hid (by rw [HRR.out]; exact Nat.le_refl _)⟩
  case round =>
    obtain ⟨k, rfl, hk, HG, HB, HS⟩ := hrel
    by_cases hlt : k < n
    · obtain ⟨b1, o1, hk1, rfl, hb1, hc⟩ := (HR.out.below HB.out).at Ln.cells 5 (fun _ => rfl) (by omega) k hlt
      obtain ⟨b2, o2, hk2, rfl, hb2, hd⟩ := (HR'.out.below HB.out).at Ln.cells 5 (fun _ => rfl) (by omega) k hlt
      have c0 := hc 0 _ (by omega) rfl
      have c1 := hc 1 _ (by omega) rfl
      have c2 := hc 2 _ (by omega) rfl
      have c3 := hc 3 _ (by omega) rfl
      have c4 := hc 4 _ (by omega) rfl
      have d0 := hd 0 _ (by omega) rfl
      have d1 := hd 1 _ (by omega) rfl
      have d2 := hd 2 _ (by omega) rfl
      have d3 := hd 3 _ (by omega) rfl
      have d4 := hd 4 _ (by omega) rfl
      rw [Nat.add_zero] at c0 d0
      clear hc hd
      have hz : Ln.ok wr ls[k] := (HK.out ls[k] (List.getElem_mem hk1)).up (HRR.out ▸ HB.out)
      have hz' : Ln.ok wr ls'[k] := (HK'.out ls'[k] (List.getElem_mem hk2)).up (HRR.out ▸ HB.out)
      have hcore : ls[k].core = ls'[k].core := by
        have := congrArg (fun l => l[k]?) HC.out
        simpa [hk1, hk2] using this
      generalize ls[k] = z at *
      generalize ls'[k] = z' at *
      obtain ⟨zp, zA, zn, zc, zr, zB, zm, zd, zF, zk, ze, zxs, zss, zfs⟩ := z
      obtain ⟨yp, yA, yn, yc, yr, yB, ym, yd, yF, yk, ye, yxs, yss, yfs⟩ := z'
      simp only [Ln.core, Prod.mk.injEq] at hcore
      obtain ⟨rfl, rfl, rfl, rfl, rfl⟩ := hcore
      obtain rfl : zn = yn := by
        have h1 := hz.a.1
        have h2 := hz'.a.1
        dsimp only at h1 h2
        omega
      obtain rfl : zm = ym := by
        have h1 := hz.s.1
        have h2 := hz'.s.1
        dsimp only at h1 h2
        omega
      obtain rfl : zk = yk := by
        have h1 := hz.f.1
        have h2 := hz'.f.1
        dsimp only at h1 h2
        omega
      have HZ := Lib.hid hz
      have HZ' := Lib.hid hz'
      clear hz hz'
      dsimp only at c0 c1 c2 c3 c4 d0 d1 d2 d3 d4
      go_upto_region 6 with (fail)
      have kc0 := cell_regrown c0
      have kc1 := cell_regrown c1
      have kc2 := cell_regrown c2
      have kc3 := cell_regrown c3
      have kc4 := cell_regrown c4
      have kd0 := cell_regrown d0
      have kd1 := cell_regrown d1
      have kd2 := cell_regrown d2
      have kd3 := cell_regrown d3
      have kd4 := cell_regrown d4
      have cA : ∀ d os, Calls Tryd.prog 36 #[.agg #[.string zp, .slice zA zn zc], .agg #[.string zp, .slice yA zn yc]] (grow (redrawn wr d) os) fun e w'' => e = .returned (.bool true) ∧ ∃ p : Regrown, w'' = grow (redrawn wr p.d) p.os :=
        fun d os => Calls.regrown_of (sameF_true zp zA yA zn zc yc zxs _ (HZ.out.a.up (below_regrown wr d os) (below_regrown wr d os).size) (HZ'.out.a.up (below_regrown wr d os) (below_regrown wr d os).size))
      have cB : ∀ d os, Calls Tryd.prog 37 #[.slice zB zm zd, .slice yB zm yd] (grow (redrawn wr d) os) fun e w'' => e = .returned (.bool true) ∧ ∃ p : Regrown, w'' = grow (redrawn wr p.d) p.os :=
        fun d os => Calls.regrown_of (consts_same zB yB zm zd yd zss _ (HZ.out.s.up (below_regrown wr d os) (below_regrown wr d os).size) (HZ'.out.s.up (below_regrown wr d os) (below_regrown wr d os).size))
      have cC : ∀ d os, Calls Tryd.prog 13 #[.slice zF zk ze, .slice yF zk ye] (grow (redrawn wr d) os) fun e w'' => e = .returned (.bool true) ∧ ∃ p : Regrown, w'' = grow (redrawn wr p.d) p.os :=
        fun d os => Calls.regrown_of (ints_same zF yF zk ze ye zfs _ (HZ.out.f.up (below_regrown wr d os) (below_regrown wr d os).size) (HZ'.out.f.up (below_regrown wr d os) (below_regrown wr d os).size))
      clear c0 c1 c2 c3 c4 d0 d1 d2 d3 d4
      refine wp_region_quiet_below (by kernel_rfl) (by kernel_rfl) ?_
      repeat (go_big_quiet_step (first | exact cA _ _ | exact cB _ _ | exact cC _ _))
      refine wpQuiet_nil ?_
      intro w6 hw6
      obtain ⟨⟨dq, osq⟩, rfl⟩ := hw6
      have HB6 := Lib.hid (HB.out.trans ((below_regrown wr dq osq).mono HS.out))
      have HS6 := Lib.hid (Nat.le_trans HS.out (below_regrown wr dq osq).size)
      clear kc0 kc1 kc2 kc3 kc4 kd0 kd1 kd2 kd3 kd4 cA cB cC
      go_wp2
      go_roundg (n - (k + 1))
      case measure => have := HG.out; omega
      case rel => exact ⟨k + 1, by go_num, by omega, Lib.hid rfl, HB6, HS6⟩
    · obtain rfl : k = n := by omega
      go_wp2
      go_ret
      exact ⟨rfl, HB.out⟩
end Go.Proofs.YtjcgkplphiedjaaDoorT

namespace Go.Proofs.YtjcgkplphiedjaaDoorT
open Go.RowKit Go.Sort

theorem room_pre {w : World} {R e size n c : Nat} {A : Option Addr} {xs ys : List Value} (h : w.ownsRow R e size (.slice A (n + 1) c) (n + 1) (xs ++ ys)) (hl : xs.length = n * size) :
    ∃ g, A = some ⟨g, 0, none⟩ ∧ n + 1 ≤ c ∧ c ≤ 9223372036854775807 ∧ (∀ j u, ys[j]? = some u → w.cell? ⟨g, n * size + j, none⟩ = some u) ∧ g < w.heap.size := by
  obtain ⟨g, cap, cur, hv, _⟩ := own_blk h (by omega)
  simp only [Value.slice.injEq] at hv
  obtain ⟨rfl, _, rfl⟩ := hv
  obtain ⟨_, h2, h3, h4, h5, _⟩ := own_pre h hl
  exact ⟨g, rfl, h3, h4, h2, h5⟩
theorem Ln.room.lens {w : World} {R : Nat} {x : Ln} (h : Ln.room w R x) : x.xs.length = x.n ∧ x.ss.length = x.m ∧ x.fs.length = x.k := by
  have h1 := h.a.1
  have h2 := h.s.1
  have h3 := h.f.1
  rw [kcells_length, List.length_append] at h1 h2
  rw [icells_length, List.length_append] at h3
  simp only [List.length_singleton] at h1 h2 h3
  omega

set_option maxRecDepth 20000 in
set_option maxHeartbeats 8000000 in
theorem marked_true (g n D R : Nat) (ls : List Ln) (z : Ln) (w : World) (hz : z.r = -77) (h : w.ownsRow R 66 5 (.slice (some ⟨g, 0, none⟩) (n + 1) D) (n + 1) (ncells (ls ++ [z]))) (hm : ∀ x ∈ ls, Ln.room w R x) :
    Calls Tryd.prog 16 #[.slice (some ⟨g, 0, none⟩) n D] w fun e w' => e = .returned (.bool true) ∧ Below w.heap.size w w' := by
  have hlen : ls.length = n := by have := h.1; rw [ncells_length, List.length_append, List.length_singleton] at this; omega
  rw [ncells_append] at h
  obtain ⟨hr, hzc, hnc, hcm, hgs, _⟩ := own_pre h (by rw [ncells_length]; omega)
  have m1 := hzc 2 _ (show (ncells [z])[2]? = some (.int .i64 z.r) by simp [ncells, Ln.cells])
  rw [hz] at m1
  have HM1 := Lib.hid m1
  have HL := Lib.hid hr
  have HK := Lib.hid hm
  have HN := Lib.hid hlen
  clear h hm hr hzc hz hlen
  generalize hR : w.heap.size = S at *
  have HRR := Lib.hid hR
  clear hR
  have hcp : (n : Int) + 1 ≤ (D : Int) := by omega
  go_enter Tryd.func16, Tryd.ntmps16
  go_upto_region 6 with (fail)
  clear m1
  go_loopg [5] n (fun gk u5 wr => ∃ k : Nat, u5 = .int .i64 k ∧ k ≤ n ∧ Hid (gk = n - k) ∧ Hid (Below S w wr))
  case atStart => exact ⟨0, rfl, Nat.zero_le _, Lib.hid (by omega), Lib.hid (Below.refl _ _)⟩
  case round =>
    obtain ⟨k, rfl, hk, HG, HB⟩ := hrel
    by_cases hlt : k < n
    · obtain ⟨b1, o1, hk1, hAe, hb1, hc⟩ := (HL.out.below HB.out).at Ln.cells 5 (fun _ => rfl) (by omega) k hlt
      injection hAe with hAe
      injection hAe with e1 e2
      subst e1 e2
      have c1 := hc 1 _ (by omega) rfl
      have c3 := hc 3 _ (by omega) rfl
      have c4 := hc 4 _ (by omega) rfl
      rw [Nat.zero_add] at c1 c3 c4
      clear hc
      have hx := HK.out ls[k] (List.getElem_mem hk1)
      generalize ls[k] = x at *
      obtain ⟨l1, l2, l3⟩ := hx.lens
      obtain ⟨xp, xA, xn, xc, xr, xB, xm, xd, xF, xk, xe, xxs, xss, xfs⟩ := x
      dsimp only at c1 c3 c4 l1 l2 l3
      have ha := hx.a
      have hs := hx.s
      have hf := hx.f
      dsimp only at ha hs hf
      rw [kcells_append] at ha hs
      rw [icells_append] at hf
      obtain ⟨ga, rfl, ha1, ha2, ha3, ha4⟩ := room_pre ha (by rw [kcells_length]; omega)
      obtain ⟨gs, rfl, hs1, hs2, hs3, hs4⟩ := room_pre hs (by rw [kcells_length]; omega)
      obtain ⟨gf, rfl, hf1, hf2, hf3, hf4⟩ := room_pre hf (by rw [icells_length]; omega)
      have a0 := (HB.out.cell (by rw [← HRR.out]; exact ha4)).trans (ha3 0 (.int .i64 77) rfl)
      have s0 := (HB.out.cell (by rw [← HRR.out]; exact hs4)).trans (hs3 0 (.int .i64 77) rfl)
      have t0 := (HB.out.cell (by rw [← HRR.out]; exact hf4)).trans (hf3 0 (.int .i64 77) rfl)
      rw [Nat.add_zero] at a0 s0 t0
      rw [Nat.mul_one] at t0
      clear hx ha hs hf ha3 ha4 hs3 hs4 hf3 hf4 l1 l2 l3
      have h1 : (xn : Int) + 1 ≤ (xc : Int) := by omega
      have h2 : (xm : Int) + 1 ≤ (xd : Int) := by omega
      have h3 : (xk : Int) + 1 ≤ (xe : Int) := by omega
      go_wp2
      go_roundg (n - (k + 1))
      case measure => have := HG.out; omega
      case rel => exact ⟨k + 1, by go_num, by omega, Lib.hid rfl, HB⟩
    · obtain rfl : k = n := by omega
      go_wp2
      go_ret
      exact ⟨rfl, HB.out⟩
end Go.Proofs.YtjcgkplphiedjaaDoorT
