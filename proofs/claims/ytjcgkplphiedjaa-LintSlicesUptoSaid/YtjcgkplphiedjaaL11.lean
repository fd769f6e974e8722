/- The law's comparison of programs: where the cores are the same it says so. -/
import Derived.Test.YtjcgkplphiedjaaL2
import Derived.Lib.QuietBelow
namespace Go.Proofs.Ytjcgkplphiedjaa
open Go.RowKit Go.Sort

set_option maxHeartbeats 1000000 in
theorem atoms18_any (p : ByteArray) (A A' : Option Addr) (n c c' : Nat) (o : Int) (es : List T) (w : World) (hr : Rd w w.heap.size 4 A n (tcells es)) (hr' : Rd w w.heap.size 4 A' n (tcells es)) :
    Calls Try.prog 33 #[av p A n c o, av p A' n c' o] w fun e w' => e = .returned (.bool true) ∧ Below w.heap.size w w' := by
  have HR := Lib.hid hr
  have HR' := Lib.hid hr'
  have hn := hr.2.1
  clear hr hr'
  unfold av
  go_enter Try.func33, Try.ntmps33
  go_wp2
  have hb0 := Lib.hid (((Below.refl w.heap.size w).alloc (Nat.le_refl _) (.cells #[.string p, .slice A n c, .int .i64 o] 27)).alloc (by simp) (.cells #[.string p, .slice A' n c', .int .i64 o] 27))
  have h1 := Lib.hid ((Blk.new w 27 [.string p, .slice A n c, .int .i64 o]).alloc (.cells #[.string p, .slice A' n c', .int .i64 o] 27))
  have h2 := Blk.new (w.alloc (.cells #[.string p, .slice A n c, .int .i64 o] 27)) 27 [.string p, .slice A' n c', .int .i64 o]
  rw [show (w.alloc (.cells #[.string p, .slice A n c, .int .i64 o] 27)).heap.size = w.heap.size + 1 by simp] at h2
  have h2 := Lib.hid h2
  have f1 : ((w.alloc (.cells #[.string p, .slice A n c, .int .i64 o] 27)).alloc (.cells #[.string p, .slice A' n c', .int .i64 o] 27)).cell? ⟨w.heap.size, 1, none⟩ = some (.slice A n c) := h1.out.cell 1
  have f2 : ((w.alloc (.cells #[.string p, .slice A n c, .int .i64 o] 27)).alloc (.cells #[.string p, .slice A' n c', .int .i64 o] 27)).cell? ⟨w.heap.size + 1, 1, none⟩ = some (.slice A' n c') := h2.out.cell 1
  clear h1 h2
  generalize World.alloc _ _ = w1 at *
  generalize hR : w.heap.size = R at *
  have HRR := Lib.hid hR
  clear hR
  go_loopw [5] (fun i wr => ∃ k : Nat, i = .int .i64 k ∧ k ≤ n ∧ Hid (Below R w wr) ∧ wr.cell? ⟨R, 1, none⟩ = some (.slice A n c) ∧ wr.cell? ⟨R + 1, 1, none⟩ = some (.slice A' n c')) (fun i _ => n - (intOf i).toNat)
  case atStart => exact ⟨0, rfl, Nat.zero_le _, hb0, f1, f2⟩
  case round =>
    clear hb0 f1 f2
    obtain ⟨k, rfl, hk, hb, f1, f2⟩ := hrel
    by_cases hlt : k < n
    · obtain ⟨B, off, hk1, rfl, hB, c0, c1, c2, c3⟩ := (HR.out.below hb.out).term k hlt
      obtain ⟨B', off', _, rfl, hB', d0, d1, d2, d3⟩ := (HR'.out.below hb.out).term k hlt
      go_wp2
      go_quiet (fail)
      go_wp2
      go_roundw
      case rel => exact ⟨k + 1, by go_num, by omega, below_drewN hb.out _, f1, f2⟩
      case measure => simp [intOf]; omega
    · go_wp2
      go_ret
      exact ⟨rfl, by have := HRR.out; rw [this]; exact hb.out⟩


set_option maxRecDepth 20000 in
set_option maxHeartbeats 4000000 in
theorem bodies18_any (A A' : Option Addr) (n c c' : Nat) (ls ls' : List Li) (w : World) (hr : Rd w w.heap.size 14 A n (lcells ls)) (hr' : Rd w w.heap.size 14 A' n (lcells ls')) (hok : ∀ x ∈ ls, Li.ok w x) (hok' : ∀ x ∈ ls', Li.ok w x) (hc : ls.map Li.core = ls'.map Li.core) :
    Calls Try.prog 34 #[.slice A n c, .slice A' n c'] w fun e w' => e = .returned (.bool true) ∧ Below w.heap.size w w' := by
  have HR := Lib.hid hr
  have HR' := Lib.hid hr'
  have HK := Lib.hid hok
  have HK' := Lib.hid hok'
  have HC := Lib.hid hc
  have hn := hr.2.1
  clear hr hr' hok hok' hc
  go_enter Try.func34, Try.ntmps34
  have hnn : ((n : Int) != (n : Int)) = false := by simp
  go_wp2
  clear hnn
  go_loopg [5] n (fun gk u5 wr => ∃ k : Nat, u5 = .int .i64 k ∧ k ≤ n ∧ Hid (gk = n - k) ∧ Hid (Below w.heap.size w wr))
  case atStart => exact ⟨0, rfl, Nat.zero_le _, Lib.hid (by omega), Lib.hid (Below.refl _ _)⟩
  case round =>
    obtain ⟨k, rfl, hk, HG, HB⟩ := hrel
    by_cases hlt : k < n
    · obtain ⟨B, off, hk1, rfl, hB, hc⟩ := (HR.out.below HB.out).at Li.cells 14 (fun _ => rfl) (by omega) k hlt
      obtain ⟨B', off', hk1', rfl, hB', hc'⟩ := (HR'.out.below HB.out).at Li.cells 14 (fun _ => rfl) (by omega) k hlt
      have c0 := hc 0 _ (by omega) rfl
      have c1 := hc 1 _ (by omega) rfl
      have c2 := hc 2 _ (by omega) rfl
      have c3 := hc 3 _ (by omega) rfl
      have c4 := hc 4 _ (by omega) rfl
      have c5 := hc 5 _ (by omega) rfl
      have c6 := hc 6 _ (by omega) rfl
      have c7 := hc 7 _ (by omega) rfl
      have c8 := hc 8 _ (by omega) rfl
      have c9 := hc 9 _ (by omega) rfl
      have c10 := hc 10 _ (by omega) rfl
      have c11 := hc 11 _ (by omega) rfl
      have c12 := hc 12 _ (by omega) rfl
      have c13 := hc 13 _ (by omega) rfl
      have d0 := hc' 0 _ (by omega) rfl
      have d1 := hc' 1 _ (by omega) rfl
      have d2 := hc' 2 _ (by omega) rfl
      have d3 := hc' 3 _ (by omega) rfl
      have d4 := hc' 4 _ (by omega) rfl
      have d5 := hc' 5 _ (by omega) rfl
      have d6 := hc' 6 _ (by omega) rfl
      have d7 := hc' 7 _ (by omega) rfl
      have d8 := hc' 8 _ (by omega) rfl
      have d9 := hc' 9 _ (by omega) rfl
      have d10 := hc' 10 _ (by omega) rfl
      have d11 := hc' 11 _ (by omega) rfl
      have d12 := hc' 12 _ (by omega) rfl
      have d13 := hc' 13 _ (by omega) rfl
      rw [Nat.add_zero] at c0 d0
      clear hc hc'
      have hz := HK.out ls[k] (List.getElem_mem hk1)
      have hz' := HK'.out ls'[k] (List.getElem_mem hk1')
      have hcore : ls[k].core = ls'[k].core := by
        have := congrArg (fun l => l[k]?) HC.out
        simpa [hk1, hk1'] using this
      have hsz := HB.out.size
      generalize ls[k] = z at *
      generalize ls'[k] = z' at *
      obtain ⟨zk, ⟨zp, zA, zn, zc, zo, zes⟩, zop, zl, zr, zof⟩ := z
      obtain ⟨yk, ⟨yp, yA, yn, yc, yo, yes⟩, yop, yl, yr, yof⟩ := z'
      simp only [Li.core, At.core, Prod.mk.injEq] at hcore
      obtain ⟨rfl, ⟨rfl, rfl, rfl⟩, rfl, rfl, rfl, rfl⟩ := hcore
      have hzn : zn = yn := by
        have h1 := hz.1.1
        have h2 := hz'.1.1
        dsimp only at h1 h2
        omega
      subst hzn
      have HZ := Lib.hid hz.1
      have HZ' := Lib.hid hz'.1
      clear hz hz'
      have hBw : B' < wr.heap.size := by omega
      go_upto_region 8 with (fail)
      have hba := ((Below.refl wr.heap.size wr).alloc (Nat.le_refl _) (.cells (Li.cells ⟨zk, ⟨zp, zA, zn, zc, zo, zes⟩, zop, zl, zr, zof⟩).toArray 61)).alloc (by simp) (.cells (Li.cells ⟨zk, ⟨zp, yA, zn, yc, zo, zes⟩, zop, zl, zr, zof⟩).toArray 61)
      have hp1 := (Blk.new wr 61 (Li.cells ⟨zk, ⟨zp, zA, zn, zc, zo, zes⟩, zop, zl, zr, zof⟩)).alloc (.cells (Li.cells ⟨zk, ⟨zp, yA, zn, yc, zo, zes⟩, zop, zl, zr, zof⟩).toArray 61)
      have hp2 := Blk.new (wr.alloc (.cells (Li.cells ⟨zk, ⟨zp, zA, zn, zc, zo, zes⟩, zop, zl, zr, zof⟩).toArray 61)) 61 (Li.cells ⟨zk, ⟨zp, yA, zn, yc, zo, zes⟩, zop, zl, zr, zof⟩)
      rw [show (wr.alloc (.cells (Li.cells ⟨zk, ⟨zp, zA, zn, zc, zo, zes⟩, zop, zl, zr, zof⟩).toArray 61)).heap.size = wr.heap.size + 1 by simp] at hp2
      have HB2 := Lib.hid (HB.out.trans (hba.mono hsz))
      have HP1 := Lib.hid hp1
      have HP2 := Lib.hid hp2
      simp only [Li.cells] at HB2 HP1 HP2
      clear hba hp1 hp2 hsz HB c0 d0 c1 d1 c2 d2 c3 d3 c4 d4 c5 d5 c6 d6 c7 d7 c8 d8 c9 d9 c10 d10 c11 d11 c12 d12 c13 d13
      generalize World.alloc (World.alloc _ _) _ = wa at *
      generalize wr.heap.size = P at *
      have x0 := HP1.out.cell 0
      have x1 := HP1.out.cell 1
      have x2 := HP1.out.cell 2
      have x3 := HP1.out.cell 3
      have x4 := HP1.out.cell 4
      have x5 := HP1.out.cell 5
      have x6 := HP1.out.cell 6
      have x7 := HP1.out.cell 7
      have x8 := HP1.out.cell 8
      have x9 := HP1.out.cell 9
      have x10 := HP1.out.cell 10
      have x11 := HP1.out.cell 11
      have x12 := HP1.out.cell 12
      have x13 := HP1.out.cell 13
      have y0 := HP2.out.cell 0
      have y1 := HP2.out.cell 1
      have y2 := HP2.out.cell 2
      have y3 := HP2.out.cell 3
      have y4 := HP2.out.cell 4
      have y5 := HP2.out.cell 5
      have y6 := HP2.out.cell 6
      have y7 := HP2.out.cell 7
      have y8 := HP2.out.cell 8
      have y9 := HP2.out.cell 9
      have y10 := HP2.out.cell 10
      have y11 := HP2.out.cell 11
      have y12 := HP2.out.cell 12
      have y13 := HP2.out.cell 13
      simp only [List.getElem?_cons_zero, List.getElem?_cons_succ] at x0 y0 x1 y1 x2 y2 x3 y3 x4 y4 x5 y5 x6 y6 x7 y7 x8 y8 x9 y9 x10 y10 x11 y11 x12 y12 x13 y13
      go_wp2_with fail
      refine (atoms18_any zp zA yA zn zc yc zo zes wa (HZ.out.up HB2.out HB2.out.size) (HZ'.out.up HB2.out HB2.out.size)).mono ?_
      rintro e w5 ⟨rfl, hb5⟩
      have HB5 := Lib.hid (HB2.out.trans (hb5.mono HB2.out.size))
      clear hb5 HP1 HP2 HB2 x0 y0 x1 y1 x2 y2 x3 y3 x4 y4 x5 y5 x6 y6 x7 y7 x8 y8 x9 y9 x10 y10 x11 y11 x12 y12 x13 y13
      go_wp2
      go_roundg (n - (k + 1))
      case measure => have := HG.out; omega
      case rel => exact ⟨k + 1, by go_num, by omega, Lib.hid rfl, HB5⟩
    · go_wp2
      go_ret
      exact ⟨rfl, HB.out⟩
end Go.Proofs.Ytjcgkplphiedjaa
