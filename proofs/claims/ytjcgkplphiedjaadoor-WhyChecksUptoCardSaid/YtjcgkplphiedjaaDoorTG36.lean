/- Cores, facts that are the same are found to be the same. | Rules, cores that are the same are found to be the same. -/
import Derived.Test.YtjcgkplphiedjaaDoorTG35
import Derived.Test.YtjcgkplphiedjaaDoorTG5
namespace Go.Proofs.YtjcgkplphiedjaaDoorT
open Go.RowKit Go.Sort

theorem eqInS (v : Bool) (n : Int) (w : World) :
    (Op.equalIn 10000 117 (.agg #[.bool v, .int .i64 n]) (.agg #[.bool v, .int .i64 n])).run Tryd.prog w = .ok true w := by
  rw [run_equalIn_struct (P := Tryd.prog) w 9999 117 _ _ (by kernel_rfl) (by kernel_rfl)]
  have h1 : ∃ a b : Field, (Tryd.prog.fieldsOf 117).toList = [a, b] ∧ a.name ≠ "_" ∧ b.name ≠ "_" ∧ a.type = 4 ∧ b.type = 3 ∧ a.offset = 0 ∧ b.offset = 1 := by
    simp only [Program.fieldsOf, Tryd.underlying117]
    exact ⟨_, _, rfl, by decide, by decide, rfl, rfl, rfl, rfl⟩
  obtain ⟨a, b, hl, n1, n2, t1, t2, o1, o2⟩ := h1
  rw [hl]
  simp only [Op.eqFields, t1, t2, o1, o2]
  go_simp
  repeat' split
  all_goals simp_all
@[simp] theorem run_neqS (v : Bool) (n : Int) (w : World) :
    (binOp .neq 117 (.agg #[.bool v, .int .i64 n]) (.agg #[.bool v, .int .i64 n])).run Tryd.prog w = .ok (.bool false) w := by
  rw [run_neq_struct, eqInS]; rfl
theorem eqInP (s : ByteArray) (n : Int) (w : World) :
    (Op.equalIn 10000 94 (.agg #[.string s, .int .i64 n]) (.agg #[.string s, .int .i64 n])).run Tryd.prog w = .ok true w := by
  rw [run_equalIn_struct (P := Tryd.prog) w 9999 94 _ _ (by kernel_rfl) (by kernel_rfl)]
  have h1 : ∃ a b : Field, (Tryd.prog.fieldsOf 94).toList = [a, b] ∧ a.name ≠ "_" ∧ b.name ≠ "_" ∧ a.type = 9 ∧ b.type = 3 ∧ a.offset = 0 ∧ b.offset = 1 := by
    simp only [Program.fieldsOf, Tryd.underlying94]
    exact ⟨_, _, rfl, by decide, by decide, rfl, rfl, rfl, rfl⟩
  obtain ⟨a, b, hl, n1, n2, t1, t2, o1, o2⟩ := h1
  rw [hl]
  simp only [Op.eqFields, t1, t2, o1, o2]
  go_simp
  repeat' split
  all_goals simp_all
@[simp] theorem run_neqP (s : ByteArray) (n : Int) (w : World) :
    (binOp .neq 94 (.agg #[.string s, .int .i64 n]) (.agg #[.string s, .int .i64 n])).run Tryd.prog w = .ok (.bool false) w := by
  rw [run_neq_struct, eqInP]; rfl
theorem eqInS8 (v : Bool) (n : Int) (w : World) :
    (Op.equalIn 9999 117 (.agg #[.bool v, .int .i64 n]) (.agg #[.bool v, .int .i64 n])).run Tryd.prog w = .ok true w := by
  rw [run_equalIn_struct (P := Tryd.prog) w 9998 117 _ _ (by kernel_rfl) (by kernel_rfl)]
  have h1 : ∃ a b : Field, (Tryd.prog.fieldsOf 117).toList = [a, b] ∧ a.name ≠ "_" ∧ b.name ≠ "_" ∧ a.type = 4 ∧ b.type = 3 ∧ a.offset = 0 ∧ b.offset = 1 := by
    simp only [Program.fieldsOf, Tryd.underlying117]
    exact ⟨_, _, rfl, by decide, by decide, rfl, rfl, rfl, rfl⟩
  obtain ⟨a, b, hl, n1, n2, t1, t2, o1, o2⟩ := h1
  rw [hl]
  simp only [Op.eqFields, t1, t2, o1, o2]
  go_simp
  repeat' split
  all_goals simp_all
theorem eqInT (o : Int) (v v' : Bool) (n n' : Int) (w : World) :
    (Op.equalIn 10000 119 (.agg #[.int .i64 o, .bool v, .int .i64 n, .bool v', .int .i64 n']) (.agg #[.int .i64 o, .bool v, .int .i64 n, .bool v', .int .i64 n'])).run Tryd.prog w = .ok true w := by
  rw [run_equalIn_struct (P := Tryd.prog) w 9999 119 _ _ (by kernel_rfl) (by kernel_rfl)]
  have h1 : ∃ a b c : Field, (Tryd.prog.fieldsOf 119).toList = [a, b, c] ∧ a.name ≠ "_" ∧ b.name ≠ "_" ∧ c.name ≠ "_" ∧ a.type = 3 ∧ b.type = 117 ∧ c.type = 117 ∧ a.offset = 0 ∧ b.offset = 1 ∧ c.offset = 3 := by
    simp only [Program.fieldsOf, Tryd.underlying119]
    exact ⟨_, _, _, rfl, by decide, by decide, by decide, rfl, rfl, rfl, rfl, rfl, rfl⟩
  obtain ⟨a, b, c, hl, n1, n2, n3, t1, t2, t3, o1, o2, o3⟩ := h1
  rw [hl]
  have hC : Tryd.prog.cellsOf 117 = 2 := by kernel_rfl
  have e1 := eqInS8 v n
  have e2 := eqInS8 v' n'
  simp only [Op.eqFields, t1, t2, t3, o1, o2, o3]
  go_simp
  repeat' split
  all_goals simp_all
@[simp] theorem run_neqT (o : Int) (v v' : Bool) (n n' : Int) (w : World) :
    (binOp .neq 119 (.agg #[.int .i64 o, .bool v, .int .i64 n, .bool v', .int .i64 n']) (.agg #[.int .i64 o, .bool v, .int .i64 n, .bool v', .int .i64 n'])).run Tryd.prog w = .ok (.bool false) w := by
  rw [run_neq_struct, eqInT]; rfl

set_option maxRecDepth 20000 in
set_option maxHeartbeats 4000000 in
theorem patterns_same (A A' : Option Addr) (n c c' : Nat) (l l' : List Pn) (w : World) (hr : Rd w w.heap.size 2 A n (pncells l)) (hr' : Rd w w.heap.size 2 A' n (pncells l')) (hok : ∀ x ∈ l, x.ok w) (hok' : ∀ x ∈ l', x.ok w) (hc : l.map Pn.core = l'.map Pn.core) :
    Calls Tryd.prog 72 #[.slice A n c, .slice A' n c'] w fun e w' => e = .returned (.bool true) ∧ Below w.heap.size w w' := by
  have HR := Lib.hid hr
  have HR' := Lib.hid hr'
  have HK := Lib.hid hok
  have HK' := Lib.hid hok'
  have HC := Lib.hid hc
  have hn := hr.2.1
  clear hr hr' hok hok' hc
  generalize hR : w.heap.size = R at *
  have HRR := Lib.hid hR
  clear hR
  go_enter Tryd.func72, Tryd.ntmps72
  go_upto_region 4 with (fail)
  go_loopg [5] n (fun gk u5 wr => ∃ k : Nat, u5 = .int .i64 k ∧ k ≤ n ∧ Hid (gk = n - k) ∧ Hid (Below R w wr) ∧ Hid (R ≤ wr.heap.size))
  case atStart => exact ⟨0, rfl, Nat.zero_le _, Lib.hid (by omega), Lib.hid (Below.refl _ _), Lib.hid (by rw [HRR.out]; exact Nat.le_refl _)⟩
  case round =>
    obtain ⟨k, rfl, hk, HG, HB, HS⟩ := hrel
    by_cases hlt : k < n
    · obtain ⟨b1, o1, hk1, rfl, hb1, hc⟩ := HR.out.at Pn.cells 2 (fun _ => rfl) (by omega) k hlt
      obtain ⟨b2, o2, hk2, rfl, hb2, hd⟩ := HR'.out.at Pn.cells 2 (fun _ => rfl) (by omega) k hlt
      have c0 := Lib.hid (hc 0 _ (by omega) rfl)
      have c1 := Lib.hid (hc 1 _ (by omega) rfl)
      have d0 := Lib.hid (hd 0 _ (by omega) rfl)
      have d1 := Lib.hid (hd 1 _ (by omega) rfl)
      rw [Nat.add_zero] at c0 d0
      clear hc hd
      have hz : Rd w w.heap.size 2 l[k].A l[k].n (slcells l[k].xs) := HK.out l[k] (List.getElem_mem hk1)
      have hz' : Rd w w.heap.size 2 l'[k].A l'[k].n (slcells l'[k].xs) := HK'.out l'[k] (List.getElem_mem hk2)
      have hcore : l[k].core = l'[k].core := by
        have := congrArg (fun l => l[k]?) HC.out
        simpa [hk1, hk2] using this
      generalize l[k] = z at *
      generalize l'[k] = z' at *
      obtain ⟨zp, zA, zn, zc, zxs⟩ := z
      obtain ⟨yp, yA, yn, yc, yxs⟩ := z'
      simp only [Pn.core, Prod.mk.injEq] at hcore
      obtain ⟨rfl, rfl⟩ := hcore
      dsimp only at c0 c1 d0 d1 hz hz'
      obtain rfl : zn = yn := by
        have h1 := hz.1
        have h2 := hz'.1
        omega
      rw [HRR.out] at hz hz'
      have hzb := hz.2.1
      have HZ := Lib.hid hz
      have HZ' := Lib.hid hz'
      clear hz hz'
      go_upto_region 6 with (fail)
      have kc0 := cell_regrown ((HB.out.cell (p := ⟨b1, o1 + k * 2, none⟩) (by show b1 < _; omega)).trans c0.out)
      have kc1 := cell_regrown ((HB.out.cell (p := ⟨b1, o1 + k * 2 + 1, none⟩) (by show b1 < _; omega)).trans c1.out)
      have kd0 := cell_regrown ((HB.out.cell (p := ⟨b2, o2 + k * 2, none⟩) (by show b2 < _; omega)).trans d0.out)
      have kd1 := cell_regrown ((HB.out.cell (p := ⟨b2, o2 + k * 2 + 1, none⟩) (by show b2 < _; omega)).trans d1.out)
      refine wp_region_quiet_below (by kernel_rfl) (by kernel_rfl) ?_
      repeat (go_big_quiet_step (fail))
      refine wpQuiet_nil ?_
      intro w6 hw6
      obtain ⟨⟨dq, osq⟩, rfl⟩ := hw6
      have HB6 := Lib.hid (HB.out.trans ((below_regrown wr dq osq).mono HS.out))
      have HS6 := Lib.hid (Nat.le_trans HS.out (below_regrown wr dq osq).size)
      clear kc0 kc1 kd0 kd1 HB HS
      generalize grow _ _ = w6 at *
      go_upto_region 9 with (fail)
      go_loopg [6] zn (fun gj u6 wr => ∃ j : Nat, u6 = .int .i64 j ∧ j ≤ zn ∧ Hid (gj = zn - j) ∧ Hid (Below R w wr) ∧ Hid (R ≤ wr.heap.size))
      case atStart => exact ⟨0, rfl, Nat.zero_le _, Lib.hid (by omega), HB6, HS6⟩
      case round =>
        clear HB6 HS6
        obtain ⟨j, rfl, hj, HGJ, HB, HS⟩ := hrel
        have q1 := (HB.out.cell (p := ⟨b1, o1 + k * 2 + 1, none⟩) (by show b1 < _; omega)).trans c1.out
        have r1 := (HB.out.cell (p := ⟨b2, o2 + k * 2 + 1, none⟩) (by show b2 < _; omega)).trans d1.out
        by_cases hjl : j < zn
        · obtain ⟨b3, o3, hj1, rfl, hb3, he⟩ := HZ.out.at Sl.cells 2 (fun _ => rfl) (by omega) j hjl
          obtain ⟨b4, o4, hj2, rfl, hb4, hf⟩ := HZ'.out.at Sl.cells 2 (fun _ => rfl) (by omega) j hjl
          have e0 := he 0 _ (by omega) rfl
          have e1 := he 1 _ (by omega) rfl
          have f0 := hf 0 _ (by omega) rfl
          have f1 := hf 1 _ (by omega) rfl
          rw [Nat.add_zero] at e0 f0
          clear he hf
          generalize zxs[j] = s at *
          obtain ⟨sv, sn⟩ := s
          dsimp only at e0 e1 f0 f1
          go_upto_region 11 with (fail)
          have ke0 := cell_regrown ((HB.out.cell (p := ⟨b3, o3 + j * 2, none⟩) (by show b3 < _; omega)).trans e0)
          have ke1 := cell_regrown ((HB.out.cell (p := ⟨b3, o3 + j * 2 + 1, none⟩) (by show b3 < _; omega)).trans e1)
          have kf0 := cell_regrown ((HB.out.cell (p := ⟨b4, o4 + j * 2, none⟩) (by show b4 < _; omega)).trans f0)
          have kf1 := cell_regrown ((HB.out.cell (p := ⟨b4, o4 + j * 2 + 1, none⟩) (by show b4 < _; omega)).trans f1)
          have kq1 := cell_regrown q1
          have kr1 := cell_regrown r1
          clear q1 r1
          refine wp_region_quiet_below (by kernel_rfl) (by kernel_rfl) ?_
          repeat (go_big_quiet_step (fail))
          refine wpQuiet_nil ?_
          intro w7 hw7
          obtain ⟨⟨dq, osq⟩, rfl⟩ := hw7
          have HB7 := Lib.hid (HB.out.trans ((below_regrown wr dq osq).mono HS.out))
          have HS7 := Lib.hid (Nat.le_trans HS.out (below_regrown wr dq osq).size)
          clear ke0 ke1 kf0 kf1 kq1 kr1 e0 e1 f0 f1
          go_wp2
          go_roundg (zn - (j + 1))
          case measure => have := HGJ.out; omega
          case rel => exact ⟨j + 1, by go_num, by omega, Lib.hid rfl, HB7, HS7⟩
        · obtain rfl : zn = j := by omega
          go_wp2
          go_roundg (n - (k + 1))
          case measure => have := HG.out; omega
          case rel => exact ⟨k + 1, by go_num, by omega, Lib.hid rfl, HB, HS⟩
    · obtain rfl : n = k := by omega
      go_wp2
      go_ret
      exact ⟨rfl, HB.out⟩

set_option maxRecDepth 20000 in
set_option maxHeartbeats 4000000 in
theorem facts_same (A A' : Option Addr) (n c c' : Nat) (l l' : List Fa) (w : World) (hr : Rd w w.heap.size 2 A n (facells l)) (hr' : Rd w w.heap.size 2 A' n (facells l')) (hok : ∀ x ∈ l, x.ok w) (hok' : ∀ x ∈ l', x.ok w) (hc : l.map Fa.core = l'.map Fa.core) :
    Calls Tryd.prog 22 #[.slice A n c, .slice A' n c'] w fun e w' => e = .returned (.bool true) ∧ Below w.heap.size w w' := by
  have HR := Lib.hid hr
  have HR' := Lib.hid hr'
  have HK := Lib.hid hok
  have HK' := Lib.hid hok'
  have HC := Lib.hid hc
  have hn := hr.2.1
  clear hr hr' hok hok' hc
  generalize hR : w.heap.size = R at *
  have HRR := Lib.hid hR
  clear hR
  go_enter Tryd.func22, Tryd.ntmps22
  go_upto_region 4 with (fail)
  go_loopg [5] n (fun gk u5 wr => ∃ k : Nat, u5 = .int .i64 k ∧ k ≤ n ∧ Hid (gk = n - k) ∧ Hid (Below R w wr) ∧ Hid (R ≤ wr.heap.size))
  case atStart => exact ⟨0, rfl, Nat.zero_le _, Lib.hid (by omega), Lib.hid (Below.refl _ _), Lib.hid (by rw [HRR.out]; exact Nat.le_refl _)⟩
  case round =>
    obtain ⟨k, rfl, hk, HG, HB, HS⟩ := hrel
    by_cases hlt : k < n
    · obtain ⟨b1, o1, hk1, rfl, hb1, hc⟩ := (HR.out.below HB.out).at Fa.cells 2 (fun _ => rfl) (by omega) k hlt
      obtain ⟨b2, o2, hk2, rfl, hb2, hd⟩ := (HR'.out.below HB.out).at Fa.cells 2 (fun _ => rfl) (by omega) k hlt
      have c0 := hc 0 _ (by omega) rfl
      have c1 := hc 1 _ (by omega) rfl
      have d0 := hd 0 _ (by omega) rfl
      have d1 := hd 1 _ (by omega) rfl
      rw [Nat.add_zero] at c0 d0
      clear hc hd
      have hz : Rd w w.heap.size 3 l[k].A l[k].n (kcells l[k].xs) := HK.out l[k] (List.getElem_mem hk1)
      have hz' : Rd w w.heap.size 3 l'[k].A l'[k].n (kcells l'[k].xs) := HK'.out l'[k] (List.getElem_mem hk2)
      have hcore : l[k].core = l'[k].core := by
        have := congrArg (fun l => l[k]?) HC.out
        simpa [hk1, hk2] using this
      generalize l[k] = z at *
      generalize l'[k] = z' at *
      obtain ⟨zp, zA, zn, zc, zxs⟩ := z
      obtain ⟨yp, yA, yn, yc, yxs⟩ := z'
      simp only [Fa.core, Prod.mk.injEq] at hcore
      obtain ⟨rfl, rfl⟩ := hcore
      dsimp only at c0 c1 d0 d1 hz hz'
      obtain rfl : zn = yn := by
        have h1 := hz.1
        have h2 := hz'.1
        omega
      rw [HRR.out] at hz hz'
      have HZ : Hid (Rd wr wr.heap.size 3 zA zn (kcells zxs)) := Lib.hid (hz.up HB.out HS.out)
      have HZ' : Hid (Rd wr wr.heap.size 3 yA zn (kcells zxs)) := Lib.hid (hz'.up HB.out HS.out)
      clear hz hz'
      go_upto_region 6 with (fail)
      have kc0 := cell_regrown c0
      have kc1 := cell_regrown c1
      have kd0 := cell_regrown d0
      have kd1 := cell_regrown d1
      have cA : ∀ d os, Calls Tryd.prog 36 #[.agg #[.string zp, .slice zA zn zc], .agg #[.string zp, .slice yA zn yc]] (grow (redrawn wr d) os) fun e w'' => e = .returned (.bool true) ∧ ∃ p : Regrown, w'' = grow (redrawn wr p.d) p.os :=
        fun d os => Calls.regrown_of (sameF_true zp zA yA zn zc yc zxs _ (HZ.out.up (below_regrown wr d os) (below_regrown wr d os).size) (HZ'.out.up (below_regrown wr d os) (below_regrown wr d os).size))
      clear c0 c1 d0 d1
      refine wp_region_quiet_below (by kernel_rfl) (by kernel_rfl) ?_
      repeat (go_big_quiet_step (exact cA _ _))
      refine wpQuiet_nil ?_
      intro w6 hw6
      obtain ⟨⟨dq, osq⟩, rfl⟩ := hw6
      have HB6 := Lib.hid (HB.out.trans ((below_regrown wr dq osq).mono HS.out))
      have HS6 := Lib.hid (Nat.le_trans HS.out (below_regrown wr dq osq).size)
      clear kc0 kc1 kd0 kd1 cA
      go_wp2
      go_roundg (n - (k + 1))
      case measure => have := HG.out; omega
      case rel => exact ⟨k + 1, by go_num, by omega, Lib.hid rfl, HB6, HS6⟩
    · obtain rfl : n = k := by omega
      go_wp2
      go_ret
      exact ⟨rfl, HB.out⟩
end Go.Proofs.YtjcgkplphiedjaaDoorT

namespace Go.Proofs.YtjcgkplphiedjaaDoorT
open Go.RowKit Go.Sort

theorem Blk.rd {w : World} {g : Nat} {t : TypeId} {cs : List Value} (h : Blk w g t cs) {s n : Nat} (hl : cs.length = n * s) (hn : n ≤ 9223372036854775807) : Rd w w.heap.size s (some ⟨g, 0, none⟩) n cs := by
  refine ⟨hl, hn, fun _ => ⟨g, 0, rfl, h.lt, fun j u hu => ?_⟩⟩
  rw [Nat.zero_add, h.cell]
  exact hu

theorem Rd.strs1 {w : World} {B : Nat} {A : Option Addr} {n : Nat} {l : List ByteArray} (h : Rd w B 1 A n (scells l)) (k : Nat) (hk : k < n) :
    ∃ b o, ∃ h2 : k < l.length, A = some ⟨b, o, none⟩ ∧ b < B ∧ w.cell? ⟨b, o + k, none⟩ = some (.string l[k]) := by
  obtain ⟨h1, h2, h3⟩ := h
  obtain ⟨b, o, hA, hb, hc⟩ := h3 (by omega)
  have hl : (scells l).length = l.length := by simp [scells]
  rw [hl] at h1
  have hk' : k < l.length := by omega
  exact ⟨b, o, hk', hA, hb, hc k _ (by simp [scells, List.getElem?_eq_getElem hk'])⟩

set_option maxRecDepth 20000 in
set_option maxHeartbeats 8000000 in
theorem rule_same (r r' : Rl) (w : World) (hr : r.ok w) (hr' : r'.ok w) (hc : r.core = r'.core) :
    Calls Tryd.prog 45 #[.agg r.cells.toArray, .agg r'.cells.toArray] w fun e w' => e = .returned (.bool true) ∧ Below w.heap.size w w' := by
  obtain ⟨⟨hp, hA, hn, hcc, hxs⟩, PA, pn, pc, ps, TA, tn, tc, ts, NA, nn, nc, ns, VA, vn, vc, vs, cl⟩ := r
  obtain ⟨⟨hp', hA', hn', hcc', hxs'⟩, PA', pn', pc', ps', TA', tn', tc', ts', NA', nn', nc', ns', VA', vn', vc', vs', cl'⟩ := r'
  simp only [Rl.core, Pn.core, Prod.mk.injEq] at hc
  obtain ⟨⟨rfl, rfl⟩, hps, rfl, hns, rfl, rfl⟩ := hc
  obtain rfl : hn = hn' := by
    have h1 : (slcells hxs).length = hn * 2 := hr.h.1
    have h2 : (slcells hxs).length = hn' * 2 := hr'.h.1
    omega
  have hpl : ps.length = ps'.length := by simpa using congrArg List.length hps
  have hnl : ns.length = ns'.length := by simpa using congrArg List.length hns
  obtain rfl : pn = pn' := by
    have h1 : (pncells ps).length = pn * 2 := hr.p.1
    have h2 : (pncells ps').length = pn' * 2 := hr'.p.1
    rw [pncells_length] at h1 h2
    omega
  obtain rfl : nn = nn' := by
    have h1 : (pncells ns).length = nn * 2 := hr.n.1
    have h2 : (pncells ns').length = nn' * 2 := hr'.n.1
    rw [pncells_length] at h1 h2
    omega
  obtain rfl : tn = tn' := by
    have h1 : (tscells ts).length = tn * 5 := hr.t.1
    have h2 : (tscells ts).length = tn' * 5 := hr'.t.1
    omega
  obtain rfl : vn = vn' := by
    have h1 : (scells vs).length = vn * 1 := hr.v.1
    have h2 : (scells vs).length = vn' * 1 := hr'.v.1
    omega
  clear hpl hnl
  have HO := Lib.hid hr
  have HO' := Lib.hid hr'
  have HPS := Lib.hid hps
  have HNS := Lib.hid hns
  have htb : tn ≤ 9223372036854775807 := hr.t.2.1
  have hvb : vn ≤ 9223372036854775807 := hr.v.2.1
  clear hr hr' hps hns
  show Calls Tryd.prog 45 #[.agg #[.int .i64 hp, .slice hA hn hcc, .slice PA pn pc, .slice TA tn tc, .slice NA nn nc, .slice VA vn vc, .int .i64 cl], .agg #[.int .i64 hp, .slice hA' hn hcc', .slice PA' pn pc', .slice TA' tn tc', .slice NA' nn nc', .slice VA' vn vc', .int .i64 cl]] w _
  go_enter Tryd.func45, Tryd.ntmps45
  go_upto_region 1 with (fail)
  obtain ⟨hb3, h1, h2, hs3⟩ := two_alloc w 81 81 [.int .i64 hp, .slice hA hn hcc, .slice PA pn pc, .slice TA tn tc, .slice NA nn nc, .slice VA vn vc, .int .i64 cl] [.int .i64 hp, .slice hA' hn hcc', .slice PA' pn pc', .slice TA' tn tc', .slice NA' nn nc', .slice VA' vn vc', .int .i64 cl]
  generalize World.alloc (World.alloc _ _) _ = w3 at *
  have HX := Lib.hid (HO.out.up hb3)
  have HX' := Lib.hid (HO'.out.up hb3)
  generalize hR : w.heap.size = R at *
  have HRR := Lib.hid hR
  clear hR HO HO'
  have HB := Lib.hid hb3
  have H1 := Lib.hid h1
  have H2 := Lib.hid h2
  have f3 := (h1.cell 3).trans rfl
  have f5 := (h1.cell 5).trans rfl
  have f6 := (h1.cell 6).trans rfl
  have g3 := (h2.cell 3).trans rfl
  have g5 := (h2.cell 5).trans rfl
  have g6 := (h2.cell 6).trans rfl
  clear hb3 h1 h2
  go_upto_region 4 with (fail)
  clear f3 f5 f6 g3 g5 g6
  go_loopg [5] tn (fun gk u5 wr => ∃ k : Nat, u5 = .int .i64 k ∧ k ≤ tn ∧ Hid (gk = tn - k) ∧ Hid (Below w3.heap.size w3 wr))
  case atStart => exact ⟨0, rfl, Nat.zero_le _, Lib.hid (by omega), Lib.hid (Below.refl _ _)⟩
  case round =>
    obtain ⟨k, rfl, hk, HG, GW⟩ := hrel
    have hsr : w3.heap.size ≤ wr.heap.size := GW.out.size
    have G1 := Lib.hid (H1.out.below GW.out (by omega))
    have G2 := Lib.hid (H2.out.below GW.out (by omega))
    have f3 := (G1.out.cell 3).trans rfl
    by_cases hlt : k < tn
    · obtain ⟨b1, o1, hk1, rfl, hb1, hc⟩ := (HX.out.t.up GW.out hsr).at Ts.cells 5 (fun _ => rfl) (by omega) k hlt
      obtain ⟨b2, o2, hk2, rfl, hb2, hd⟩ := (HX'.out.t.up GW.out hsr).at Ts.cells 5 (fun _ => rfl) (by omega) k hlt
      have c0 := cell_regrown (hc 0 _ (by omega) rfl)
      have d0 := cell_regrown (hd 0 _ (by omega) rfl)
      have c1 := cell_regrown (hc 1 _ (by omega) rfl)
      have d1 := cell_regrown (hd 1 _ (by omega) rfl)
      have c2 := cell_regrown (hc 2 _ (by omega) rfl)
      have d2 := cell_regrown (hd 2 _ (by omega) rfl)
      have c3 := cell_regrown (hc 3 _ (by omega) rfl)
      have d3 := cell_regrown (hd 3 _ (by omega) rfl)
      have c4 := cell_regrown (hc 4 _ (by omega) rfl)
      have d4 := cell_regrown (hd 4 _ (by omega) rfl)
      rw [Nat.add_zero] at c0 d0
      clear hc hd
      generalize ts[k] = t at *
      obtain ⟨op, ⟨v1, n1⟩, ⟨v2, n2⟩⟩ := t
      dsimp only at c0 c1 c2 c3 c4 d0 d1 d2 d3 d4
      go_upto_region 6 with (fail)
      have kf := cell_regrown f3
      have kg := cell_regrown ((G2.out.cell 3).trans rfl)
      clear f3
      refine wp_region_quiet_below (by kernel_rfl) (by kernel_rfl) ?_
      repeat (go_big_quiet_step (fail))
      refine wpQuiet_nil ?_
      intro w6 hw6
      obtain ⟨⟨dq, osq⟩, rfl⟩ := hw6
      have GW6 := Lib.hid (GW.out.trans ((below_regrown wr dq osq).mono hsr))
      clear c0 c1 c2 c3 c4 d0 d1 d2 d3 d4 kf kg
      go_wp2
      go_roundg (tn - (k + 1))
      case measure => have := HG.out; omega
      case rel => exact ⟨k + 1, by go_num, by omega, Lib.hid rfl, GW6⟩
    · obtain rfl : tn = k := by omega
      clear HG hk hlt
      go_upto_region 9 with (fail)
      clear f3
      go_loopg [6] vn (fun gk u6 wr => ∃ k : Nat, u6 = .int .i64 k ∧ k ≤ vn ∧ Hid (gk = vn - k) ∧ Hid (Below w3.heap.size w3 wr))
      case atStart => exact ⟨0, rfl, Nat.zero_le _, Lib.hid (by omega), GW⟩
      case round =>
        clear GW G1 G2 hsr
        obtain ⟨k, rfl, hk, HG, GW⟩ := hrel
        have hsr : w3.heap.size ≤ wr.heap.size := GW.out.size
        have G1 := Lib.hid (H1.out.below GW.out (by omega))
        have G2 := Lib.hid (H2.out.below GW.out (by omega))
        have f5 := (G1.out.cell 5).trans rfl
        by_cases hlt : k < vn
        · obtain ⟨b1, o1, hk1, rfl, hb1, c0⟩ := Rd.strs1 (HX.out.v.up GW.out hsr) k hlt
          obtain ⟨b2, o2, hk2, rfl, hb2, d0⟩ := Rd.strs1 (HX'.out.v.up GW.out hsr) k hlt
          generalize vs[k] = s at *
          go_upto_region 11 with (fail)
          have kc := cell_regrown c0
          have kd := cell_regrown d0
          have kf := cell_regrown f5
          have kg := cell_regrown ((G2.out.cell 5).trans rfl)
          clear f5 c0 d0
          refine wp_region_quiet_below (by kernel_rfl) (by kernel_rfl) ?_
          repeat (go_big_quiet_step (fail))
          refine wpQuiet_nil ?_
          intro w6 hw6
          obtain ⟨⟨dq, osq⟩, rfl⟩ := hw6
          have GW6 := Lib.hid (GW.out.trans ((below_regrown wr dq osq).mono hsr))
          clear kc kd kf kg
          go_wp2
          go_roundg (vn - (k + 1))
          case measure => have := HG.out; omega
          case rel => exact ⟨k + 1, by go_num, by omega, Lib.hid rfl, GW6⟩
        · obtain rfl : vn = k := by omega
          clear HG hk hlt
          have f0 := (G1.out.cell 0).trans rfl
          have f1 := (G1.out.cell 1).trans rfl
          have g0 := ((G2.out.alloc (.cells #[.int .i64 hp, .slice hA hn hcc] 77)).cell 0).trans rfl
          have g1 := ((G2.out.alloc (.cells #[.int .i64 hp, .slice hA hn hcc] 77)).cell 1).trans rfl
          go_wp2_with fail
          obtain ⟨hb8, k1, k2, hs8⟩ := two_alloc wr 77 77 [.int .i64 hp, .slice hA hn hcc] [.int .i64 hp, .slice hA' hn hcc']
          generalize World.alloc (World.alloc _ _) _ = w8 at *
          have GW8 := Lib.hid (GW.out.trans (hb8.mono hsr))
          have hs9 : w3.heap.size ≤ w8.heap.size := GW8.out.size
          refine (patterns_same _ _ 1 1 1 [⟨hp, hA, hn, hcc, hxs⟩] [⟨hp, hA', hn, hcc', hxs⟩] w8 (k1.rd rfl (by omega)) (k2.rd rfl (by omega))
            (fun x hx => by rw [List.mem_singleton.1 hx]; exact HX.out.h.up GW8.out) (fun x hx => by rw [List.mem_singleton.1 hx]; exact HX'.out.h.up GW8.out) rfl).mono ?_
          rintro e w9 ⟨rfl, hb9⟩
          have GW9 := Lib.hid (GW8.out.trans (hb9.mono hs9))
          clear f0 f1 g0 g1 f5 G1 G2 hb8 k1 k2 hs8 GW8 GW hb9 hsr
          generalize w8.heap.size = z8 at *
          generalize wr.heap.size = zr at *
          have hs10 : w3.heap.size ≤ w9.heap.size := GW9.out.size
          have G1 := Lib.hid (H1.out.below GW9.out (by omega))
          have G2 := Lib.hid (H2.out.below GW9.out (by omega))
          have f2 := (G1.out.cell 2).trans rfl
          have g2 := (G2.out.cell 2).trans rfl
          go_wp2_with fail
          refine (patterns_same PA PA' pn pc pc' ps ps' w9 (HX.out.p.up GW9.out hs10) (HX'.out.p.up GW9.out hs10) (fun x hx => (HX.out.ps x hx).up GW9.out) (fun x hx => (HX'.out.ps x hx).up GW9.out) HPS.out).mono ?_
          rintro e w10 ⟨rfl, hb10⟩
          have GW10 := Lib.hid (GW9.out.trans (hb10.mono hs10))
          clear f2 g2 G1 G2 GW9 hb10
          have hs11 : w3.heap.size ≤ w10.heap.size := GW10.out.size
          have G1 := Lib.hid (H1.out.below GW10.out (by omega))
          have G2 := Lib.hid (H2.out.below GW10.out (by omega))
          have f4 := (G1.out.cell 4).trans rfl
          have g4 := (G2.out.cell 4).trans rfl
          go_wp2_with fail
          refine (patterns_same NA NA' nn nc nc' ns ns' w10 (HX.out.n.up GW10.out hs11) (HX'.out.n.up GW10.out hs11) (fun x hx => (HX.out.ns x hx).up GW10.out) (fun x hx => (HX'.out.ns x hx).up GW10.out) HNS.out).mono ?_
          rintro e w11 ⟨rfl, hb11⟩
          have HB11 := Lib.hid (HB.out.trans ((GW10.out.trans (hb11.mono hs11)).mono (by omega)))
          clear f4 g4 G1 G2 GW10 hb11
          go_wp2
          go_ret
          exact ⟨by rfl, by rw [HRR.out]; exact HB11.out⟩

set_option maxRecDepth 20000 in
set_option maxHeartbeats 8000000 in
theorem core_same (x x' : Co) (w : World) (hx : x.ok w) (hx' : x'.ok w) (hc : x.core = x'.core) :
    Calls Tryd.prog 21 #[.agg x.cells.toArray, .agg x'.cells.toArray] w fun e w' => e = .returned (.bool true) ∧ Below w.heap.size w w' := by
  obtain ⟨DA, dn, dc, ds, CA, cn, cc, cs, RA, rn, rc, rs, FA, fn, fc, fs⟩ := x
  obtain ⟨DA', dn', dc', ds', CA', cn', cc', cs', RA', rn', rc', rs', FA', fn', fc', fs'⟩ := x'
  simp only [Co.core, Prod.mk.injEq] at hc
  obtain ⟨rfl, rfl, hrs, hfs⟩ := hc
  have hrl : rs.length = rs'.length := by simpa using congrArg List.length hrs
  have hfl : fs.length = fs'.length := by simpa using congrArg List.length hfs
  obtain rfl : dn = dn' := by
    have h1 : (pdcells ds).length = dn * 2 := hx.d.1
    have h2 : (pdcells ds).length = dn' * 2 := hx'.d.1
    omega
  obtain rfl : cn = cn' := by
    have h1 : (kcells cs).length = cn * 3 := hx.c.1
    have h2 : (kcells cs).length = cn' * 3 := hx'.c.1
    omega
  obtain rfl : rn = rn' := by
    have h1 : (rlcells rs).length = rn * 7 := hx.r.1
    have h2 : (rlcells rs').length = rn' * 7 := hx'.r.1
    rw [rlcells, flat_length Rl.cells 7 (fun _ => rfl)] at h1 h2
    omega
  obtain rfl : fn = fn' := by
    have h1 : (rwcells fs).length = fn * 2 := hx.f.1
    have h2 : (rwcells fs').length = fn' * 2 := hx'.f.1
    rw [rwcells, flat_length Rw.cells 2 (fun _ => rfl)] at h1 h2
    omega
  clear hrl hfl
  have HO := Lib.hid hx
  have HO' := Lib.hid hx'
  have HRS := Lib.hid hrs
  have HFS := Lib.hid hfs
  have hdb : dn ≤ 9223372036854775807 := hx.d.2.1
  have hrb : rn ≤ 9223372036854775807 := hx.r.2.1
  have hfb : fn ≤ 9223372036854775807 := hx.f.2.1
  clear hx hx' hrs hfs
  show Calls Tryd.prog 21 #[.agg #[.slice DA dn dc, .slice CA cn cc, .slice RA rn rc, .slice FA fn fc], .agg #[.slice DA' dn dc', .slice CA' cn cc', .slice RA' rn rc', .slice FA' fn fc']] w _
  go_enter Tryd.func21, Tryd.ntmps21
  go_upto_region 1 with (fail)
  obtain ⟨hb3, h1, h2, hs3⟩ := two_alloc w 40 40 [.slice DA dn dc, .slice CA cn cc, .slice RA rn rc, .slice FA fn fc] [.slice DA' dn dc', .slice CA' cn cc', .slice RA' rn rc', .slice FA' fn fc']
  generalize World.alloc (World.alloc _ _) _ = w3 at *
  have HX := Lib.hid (HO.out.up hb3)
  have HX' := Lib.hid (HO'.out.up hb3)
  generalize hR : w.heap.size = R at *
  have HRR := Lib.hid hR
  clear hR HO HO'
  have HB := Lib.hid hb3
  have H1 := Lib.hid h1
  have H2 := Lib.hid h2
  have f0 := (h1.cell 0).trans rfl
  have f1 := (h1.cell 1).trans rfl
  have f2 := (h1.cell 2).trans rfl
  have f3 := (h1.cell 3).trans rfl
  have g0 := (h2.cell 0).trans rfl
  have g1 := (h2.cell 1).trans rfl
  have g2 := (h2.cell 2).trans rfl
  have g3 := (h2.cell 3).trans rfl
  clear hb3 h1 h2
  go_wp2_with fail
  refine (consts_same CA CA' cn cc cc' cs w3 HX.out.c HX'.out.c).mono ?_
  rintro e w4 ⟨rfl, hb4⟩
  clear f0 f1 f2 f3 g0 g1 g2 g3
  have GW4 := Lib.hid hb4
  have hs4 : w3.heap.size ≤ w4.heap.size := GW4.out.size
  have G1 := Lib.hid (H1.out.below GW4.out (by omega))
  have G2 := Lib.hid (H2.out.below GW4.out (by omega))
  have f2 := (G1.out.cell 2).trans rfl
  have f3 := (G1.out.cell 3).trans rfl
  have g2 := (G2.out.cell 2).trans rfl
  have g3 := (G2.out.cell 3).trans rfl
  clear hb4
  go_upto_region 4 with (fail)
  clear f2 f3 g2 g3 G1 G2 hs4
  go_loopg [5] dn (fun gk u5 wr => ∃ k : Nat, u5 = .int .i64 k ∧ k ≤ dn ∧ Hid (gk = dn - k) ∧ Hid (Below w3.heap.size w3 wr))
  case atStart => exact ⟨0, rfl, Nat.zero_le _, Lib.hid (by omega), GW4⟩
  case round =>
    clear GW4
    obtain ⟨k, rfl, hk, HG, GW⟩ := hrel
    have hsr : w3.heap.size ≤ wr.heap.size := GW.out.size
    have G1 := Lib.hid (H1.out.below GW.out (by omega))
    have G2 := Lib.hid (H2.out.below GW.out (by omega))
    have f0 := (G1.out.cell 0).trans rfl
    by_cases hlt : k < dn
    · obtain ⟨b1, o1, hk1, rfl, hb1, hc⟩ := (HX.out.d.up GW.out hsr).at Pd.cells 2 (fun _ => rfl) (by omega) k hlt
      obtain ⟨b2, o2, hk2, rfl, hb2, hd⟩ := (HX'.out.d.up GW.out hsr).at Pd.cells 2 (fun _ => rfl) (by omega) k hlt
      have c0 := cell_regrown (hc 0 _ (by omega) rfl)
      have c1 := cell_regrown (hc 1 _ (by omega) rfl)
      have d0 := cell_regrown (hd 0 _ (by omega) rfl)
      have d1 := cell_regrown (hd 1 _ (by omega) rfl)
      rw [Nat.add_zero] at c0 d0
      clear hc hd
      generalize ds[k] = t at *
      obtain ⟨ps, pa⟩ := t
      dsimp only at c0 c1 d0 d1
      go_upto_region 6 with (fail)
      have kf := cell_regrown f0
      have kg := cell_regrown ((G2.out.cell 0).trans rfl)
      clear f0
      refine wp_region_quiet_below (by kernel_rfl) (by kernel_rfl) ?_
      repeat (go_big_quiet_step (fail))
      refine wpQuiet_nil ?_
      intro w6 hw6
      obtain ⟨⟨dq, osq⟩, rfl⟩ := hw6
      have GW6 := Lib.hid (GW.out.trans ((below_regrown wr dq osq).mono hsr))
      clear c0 c1 d0 d1 kf kg
      go_wp2
      go_roundg (dn - (k + 1))
      case measure => have := HG.out; omega
      case rel => exact ⟨k + 1, by go_num, by omega, Lib.hid rfl, GW6⟩
    · obtain rfl : dn = k := by omega
      clear HG hk hlt
      go_upto_region 9 with (fail)
      clear f0
      go_loopg [6] rn (fun gk u6 wr => ∃ k : Nat, u6 = .int .i64 k ∧ k ≤ rn ∧ Hid (gk = rn - k) ∧ Hid (Below w3.heap.size w3 wr))
      case atStart => exact ⟨0, rfl, Nat.zero_le _, Lib.hid (by omega), GW⟩
      case round =>
        clear GW G1 G2 hsr
        obtain ⟨k, rfl, hk, HG, GW⟩ := hrel
        have hsr : w3.heap.size ≤ wr.heap.size := GW.out.size
        have G1 := Lib.hid (H1.out.below GW.out (by omega))
        have G2 := Lib.hid (H2.out.below GW.out (by omega))
        have f2 := (G1.out.cell 2).trans rfl
        by_cases hlt : k < rn
        · obtain ⟨b1, o1, hk1, rfl, hb1, hc⟩ := (HX.out.r.up GW.out hsr).at Rl.cells 7 (fun _ => rfl) (by omega) k hlt
          obtain ⟨b2, o2, hk2, rfl, hb2, hd⟩ := (HX'.out.r.up GW.out hsr).at Rl.cells 7 (fun _ => rfl) (by omega) k hlt
          have c0 := cell_regrown (hc 0 _ (by omega) rfl)
          have d0 := cell_regrown (hd 0 _ (by omega) rfl)
          have c1 := cell_regrown (hc 1 _ (by omega) rfl)
          have d1 := cell_regrown (hd 1 _ (by omega) rfl)
          have c2 := cell_regrown (hc 2 _ (by omega) rfl)
          have d2 := cell_regrown (hd 2 _ (by omega) rfl)
          have c3 := cell_regrown (hc 3 _ (by omega) rfl)
          have d3 := cell_regrown (hd 3 _ (by omega) rfl)
          have c4 := cell_regrown (hc 4 _ (by omega) rfl)
          have d4 := cell_regrown (hd 4 _ (by omega) rfl)
          have c5 := cell_regrown (hc 5 _ (by omega) rfl)
          have d5 := cell_regrown (hd 5 _ (by omega) rfl)
          have c6 := cell_regrown (hc 6 _ (by omega) rfl)
          have d6 := cell_regrown (hd 6 _ (by omega) rfl)
          rw [Nat.add_zero] at c0 d0
          clear hc hd
          have hcore : rs[k].core = rs'[k].core := by
            have := congrArg (fun l => l[k]?) HRS.out
            simpa [hk1, hk2] using this
          have HSR := Lib.hid (fun W (hb : Below wr.heap.size wr W) => rule_same rs[k] rs'[k] W (((HX.out.rs rs[k] (List.getElem_mem hk1)).up GW.out).up hb) (((HX'.out.rs rs'[k] (List.getElem_mem hk2)).up GW.out).up hb) hcore)
          clear hcore
          generalize rs[k] = r at *
          generalize rs'[k] = r' at *
          obtain ⟨⟨hp, hA, hn, hcc, hxs⟩, PA, pn, pc, ps, TA, tn, tc, ts, NA, nn, nc, ns, VA, vn, vc, vs, cl⟩ := r
          obtain ⟨⟨hp', hA', hn', hcc', hxs'⟩, PA', pn', pc', ps', TA', tn', tc', ts', NA', nn', nc', ns', VA', vn', vc', vs', cl'⟩ := r'
          simp only [Rl.cells] at HSR
          dsimp only at c0 c1 c2 c3 c4 c5 c6 d0 d1 d2 d3 d4 d5 d6
          go_upto_region 11 with (fail)
          have kf := cell_regrown f2
          have kg := cell_regrown ((G2.out.cell 2).trans rfl)
          clear f2
          have cA : ∀ d os, Calls Tryd.prog 45 #[.agg #[.int .i64 hp, .slice hA hn hcc, .slice PA pn pc, .slice TA tn tc, .slice NA nn nc, .slice VA vn vc, .int .i64 cl], .agg #[.int .i64 hp', .slice hA' hn' hcc', .slice PA' pn' pc', .slice TA' tn' tc', .slice NA' nn' nc', .slice VA' vn' vc', .int .i64 cl']] (grow (redrawn wr d) os) fun e w'' => e = .returned (.bool true) ∧ ∃ p : Regrown, w'' = grow (redrawn wr p.d) p.os :=
            fun d os => Calls.regrown_of (HSR.out _ (below_regrown wr d os))
          refine wp_region_quiet_below (by kernel_rfl) (by kernel_rfl) ?_
          repeat (go_big_quiet_step (exact cA _ _))
          refine wpQuiet_nil ?_
          intro w6 hw6
          obtain ⟨⟨dq, osq⟩, rfl⟩ := hw6
          have GW6 := Lib.hid (GW.out.trans ((below_regrown wr dq osq).mono hsr))
          clear c0 c1 c2 c3 c4 c5 c6 d0 d1 d2 d3 d4 d5 d6 kf kg cA HSR
          go_wp2
          go_roundg (rn - (k + 1))
          case measure => have := HG.out; omega
          case rel => exact ⟨k + 1, by go_num, by omega, Lib.hid rfl, GW6⟩
        · obtain rfl : rn = k := by omega
          clear HG hk hlt
          go_upto_region 14 with (fail)
          clear f2
          go_loopg [7] fn (fun gk u7 wr => ∃ k : Nat, u7 = .int .i64 k ∧ k ≤ fn ∧ Hid (gk = fn - k) ∧ Hid (Below w3.heap.size w3 wr))
          case atStart => exact ⟨0, rfl, Nat.zero_le _, Lib.hid (by omega), GW⟩
          case round =>
            clear GW G1 G2 hsr
            obtain ⟨k, rfl, hk, HG, GW⟩ := hrel
            have hsr : w3.heap.size ≤ wr.heap.size := GW.out.size
            have G1 := Lib.hid (H1.out.below GW.out (by omega))
            have G2 := Lib.hid (H2.out.below GW.out (by omega))
            have f3 := (G1.out.cell 3).trans rfl
            by_cases hlt : k < fn
            · obtain ⟨b1, o1, hk1, rfl, hb1, hc⟩ := (HX.out.f.up GW.out hsr).at Rw.cells 2 (fun _ => rfl) (by omega) k hlt
              obtain ⟨b2, o2, hk2, rfl, hb2, hd⟩ := (HX'.out.f.up GW.out hsr).at Rw.cells 2 (fun _ => rfl) (by omega) k hlt
              have c0 := cell_regrown (hc 0 _ (by omega) rfl)
              have c1 := cell_regrown (hc 1 _ (by omega) rfl)
              have d0 := cell_regrown (hd 0 _ (by omega) rfl)
              have d1 := cell_regrown (hd 1 _ (by omega) rfl)
              rw [Nat.add_zero] at c0 d0
              clear hc hd
              have hcore : fs[k].core = fs'[k].core := by
                have := congrArg (fun l => l[k]?) HFS.out
                simpa [hk1, hk2] using this
              have hz : Rd wr wr.heap.size 1 fs[k].A fs[k].n (icells fs[k].xs) := Rd.up (HX.out.fs fs[k] (List.getElem_mem hk1)) GW.out hsr
              have hz' : Rd wr wr.heap.size 1 fs'[k].A fs'[k].n (icells fs'[k].xs) := Rd.up (HX'.out.fs fs'[k] (List.getElem_mem hk2)) GW.out hsr
              generalize fs[k] = z at *
              generalize fs'[k] = z' at *
              obtain ⟨zp, zA, zn, zc, zxs⟩ := z
              obtain ⟨yp, yA, yn, yc, yxs⟩ := z'
              simp only [Rw.core, Prod.mk.injEq] at hcore
              obtain ⟨rfl, rfl⟩ := hcore
              dsimp only at c0 c1 d0 d1 hz hz'
              obtain rfl : zn = yn := by
                have h1 := hz.1
                have h2 := hz'.1
                omega
              have HZ := Lib.hid hz
              have HZ' := Lib.hid hz'
              clear hz hz'
              go_upto_region 16 with (fail)
              have kf := cell_regrown f3
              have kg := cell_regrown ((G2.out.cell 3).trans rfl)
              clear f3
              have cA : ∀ d os, Calls Tryd.prog 13 #[.slice zA zn zc, .slice yA zn yc] (grow (redrawn wr d) os) fun e w'' => e = .returned (.bool true) ∧ ∃ p : Regrown, w'' = grow (redrawn wr p.d) p.os :=
                fun d os => Calls.regrown_of (ints_same zA yA zn zc yc zxs _ (HZ.out.up (below_regrown wr d os) (below_regrown wr d os).size) (HZ'.out.up (below_regrown wr d os) (below_regrown wr d os).size))
              refine wp_region_quiet_below (by kernel_rfl) (by kernel_rfl) ?_
              repeat (go_big_quiet_step (exact cA _ _))
              refine wpQuiet_nil ?_
              intro w6 hw6
              obtain ⟨⟨dq, osq⟩, rfl⟩ := hw6
              have GW6 := Lib.hid (GW.out.trans ((below_regrown wr dq osq).mono hsr))
              clear c0 c1 d0 d1 kf kg cA
              go_wp2
              go_roundg (fn - (k + 1))
              case measure => have := HG.out; omega
              case rel => exact ⟨k + 1, by go_num, by omega, Lib.hid rfl, GW6⟩
            · obtain rfl : fn = k := by omega
              have HB7 := Lib.hid (HB.out.trans (GW.out.mono (by omega)))
              go_wp2
              go_ret
              exact ⟨by rfl, by rw [HRR.out]; exact HB7.out⟩
end Go.Proofs.YtjcgkplphiedjaaDoorT
