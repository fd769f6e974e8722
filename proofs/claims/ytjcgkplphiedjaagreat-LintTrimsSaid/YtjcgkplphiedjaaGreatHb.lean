/- The law of the findings: its walk. | The law of the findings: its walk. -/
import Derived.Test.YtjcgkplphiedjaaGreatGz
import Derived.Test.YtjcgkplphiedjaaGreatHa
import Derived.Test.YtjcgkplphiedjaaGreatGs
import Derived.Test.YtjcgkplphiedjaaGreatGa
namespace Go.Proofs.YtjcgkplphiedjaaGreat
open Go.RowKit Go.Sort

theorem eqInFd (k c o f : Int) (n : ByteArray) (w : World) :
    (Op.equalIn 10000 29 (.agg #[.int .i64 k, .int .i64 c, .int .i64 o, .int .i64 f, .string n]) (.agg #[.int .i64 k, .int .i64 c, .int .i64 o, .int .i64 f, .string n])).run Tryz.prog w = .ok true w := by
  rw [run_equalIn_struct (P := Tryz.prog) w 9999 29 _ _ (by kernel_rfl) (by kernel_rfl)]
  have h1 : ∃ a b c d e : Field, (Tryz.prog.fieldsOf 29).toList = [a, b, c, d, e] ∧ a.name ≠ "_" ∧ b.name ≠ "_" ∧ c.name ≠ "_" ∧ d.name ≠ "_" ∧ e.name ≠ "_" ∧ a.type = 3 ∧ b.type = 3 ∧ c.type = 3 ∧ d.type = 3 ∧ e.type = 9 ∧ a.offset = 0 ∧ b.offset = 1 ∧ c.offset = 2 ∧ d.offset = 3 ∧ e.offset = 4 := by
    simp only [Program.fieldsOf, Tryz.underlying29]
    exact ⟨_, _, _, _, _, rfl, by decide, by decide, by decide, by decide, by decide, rfl, rfl, rfl, rfl, rfl, rfl, rfl, rfl, rfl, rfl⟩
  obtain ⟨a, b, c, d, e, hl, n1, n2, n3, n4, n5, t1, t2, t3, t4, t5, o1, o2, o3, o4, o5⟩ := h1
  rw [hl]
  simp only [Op.eqFields, t1, t2, t3, t4, t5, o1, o2, o3, o4, o5]
  go_simp
  repeat' split
  all_goals simp_all

@[go_sem] theorem Tryz.eqGuardFd : Tryz.prog.eqGuardType Tryz.prog.depth 29 = false := by kernel_rfl

@[simp] theorem run_neqFd (k c o f : Int) (n : ByteArray) (w : World) :
    (binOp .neq 29 (.agg #[.int .i64 k, .int .i64 c, .int .i64 o, .int .i64 f, .string n]) (.agg #[.int .i64 k, .int .i64 c, .int .i64 o, .int .i64 f, .string n])).run Tryz.prog w = .ok (.bool false) w := by
  rw [run_neq_struct, eqInFd]; rfl

theorem core_mem {cs cs' : List Cl} (h : cs.map Cl.core = cs'.map Cl.core) {x : Cl} (hx : x ∈ cs) : ∃ y ∈ cs', y.core = x.core := by
  have h1 : x.core ∈ cs'.map Cl.core := h ▸ List.mem_map_of_mem hx
  obtain ⟨y, hy, e⟩ := List.mem_map.1 h1
  exact ⟨y, hy, e⟩
theorem core_oks {w w0 : World} {R : Nat} {cs cs' : List Cl} (h : cs'.map Cl.core = cs.map Cl.core) (ho : ∀ x ∈ cs', Cl.own w R x) (hk : ∀ x ∈ cs, Cl.ok w0 x) : ∀ x ∈ cs', Cl.ok w x := fun x hx => by
  obtain ⟨y, hy, e⟩ := core_mem h hx
  exact (ho x hx).ok e.symm (hk y hy)
theorem At.core_fine {x y : At} (h : x.core = y.core) (hf : x.fine) : y.fine := by
  have h1 : x.p = y.p := congrArg (fun p => p.1) h
  have h2 : x.es = y.es := congrArg (fun p => p.2.2) h
  unfold At.fine at hf ⊢
  rw [← h1, ← h2]; exact hf
theorem At.core_ints {x y : At} (h : x.core = y.core) (hf : x.ints) : y.ints := by
  have h2 : x.es = y.es := congrArg (fun p => p.2.2) h
  unfold At.ints at hf ⊢
  rw [← h2]; exact hf
theorem Li.core_fine {x y : Li} (h : x.core = y.core) (hf : x.fine) : y.fine := by
  have h1 : x.a.core = y.a.core := congrArg (fun p => p.2.1) h
  have h2 : x.l = y.l := congrArg (fun p => p.2.2.2.1) h
  have h3 : x.r = y.r := congrArg (fun p => p.2.2.2.2.1) h
  exact ⟨At.core_fine h1 hf.1, h2 ▸ hf.2.1, h3 ▸ hf.2.2⟩
theorem Li.core_ints {x y : Li} (h : x.core = y.core) (hf : x.ints) : y.ints := by
  have h1 : x.a.core = y.a.core := congrArg (fun p => p.2.1) h
  have h2 : x.l = y.l := congrArg (fun p => p.2.2.2.1) h
  have h3 : x.r = y.r := congrArg (fun p => p.2.2.2.2.1) h
  exact ⟨At.core_ints h1 hf.1, h2 ▸ hf.2.1, h3 ▸ hf.2.2⟩
theorem lis_core_mem {l l' : List Li} (h : l.map Li.core = l'.map Li.core) {x : Li} (hx : x ∈ l) : ∃ y ∈ l', y.core = x.core := by
  have h1 : x.core ∈ l'.map Li.core := h ▸ List.mem_map_of_mem hx
  obtain ⟨y, hy, e⟩ := List.mem_map.1 h1
  exact ⟨y, hy, e⟩
theorem Cl.core_fines {x y : Cl} (h : x.core = y.core) (hf : x.fines) : y.fines :=
  ⟨At.core_fine (congrArg (fun p => p.1) h) hf.1, fun z hz => by
    obtain ⟨u, hu, e⟩ := lis_core_mem (congrArg (fun p => p.2) h).symm hz
    exact Li.core_fine e (hf.2 u hu)⟩
theorem Cl.core_ints {x y : Cl} (h : x.core = y.core) (hf : x.ints) : y.ints :=
  ⟨At.core_ints (congrArg (fun p => p.1) h) hf.1, fun z hz => by
    obtain ⟨u, hu, e⟩ := lis_core_mem (congrArg (fun p => p.2) h).symm hz
    exact Li.core_ints e (hf.2 u hu)⟩
theorem core_fines {cs cs' : List Cl} (h : cs'.map Cl.core = cs.map Cl.core) (hf : ∀ x ∈ cs, x.fines) : ∀ x ∈ cs', x.fines := fun x hx => by
  obtain ⟨y, hy, e⟩ := core_mem h hx
  exact Cl.core_fines e (hf y hy)
theorem core_ints {cs cs' : List Cl} (h : cs'.map Cl.core = cs.map Cl.core) (hf : ∀ x ∈ cs, x.ints) : ∀ x ∈ cs', x.ints := fun x hx => by
  obtain ⟨y, hy, e⟩ := core_mem h hx
  exact Cl.core_ints e (hf y hy)
end Go.Proofs.YtjcgkplphiedjaaGreat

namespace Go.Proofs.YtjcgkplphiedjaaGreat
open Go.RowKit Go.Sort

set_option maxRecDepth 20000 in
set_option maxHeartbeats 4000000 in
theorem LintLooks_walk (A : Option Addr) (n c : Nat) (cs : List Cl) (w : World) (hr : Rd w w.heap.size 4 A n (ccells cs)) (hok : ∀ x ∈ cs, Cl.ok w x) (hf : ∀ x ∈ cs, x.fines) (hin : ∀ x ∈ cs, x.ints) (hn : n * 72 ≤ 140737488351232) :
    Calls Tryz.prog 3 #[.agg #[.slice A n c]] w fun e w' => e = .returned (.bool true) ∧ Below w.heap.size w w' := by
  have HL := Lib.hid hr
  have HK := Lib.hid hok
  have HF := Lib.hid hf
  have HI := Lib.hid hin
  clear hr hok hf hin
  go_enter Tryz.func3, Tryz.ntmps3
  go_upto_region 1 with (fail)
  have hb1 := (Below.refl w.heap.size w).alloc (Nat.le_refl _) (.cells #[.slice A n c] 24)
  have h1 := Blk.new w 24 [.slice A n c]
  generalize World.alloc _ _ = w1 at *
  have hs1 := h1.lt
  have hR0 : w.heap.size ≤ w1.heap.size := hb1.size
  generalize hR : w.heap.size = R at *
  have HRR := Lib.hid hR
  clear hR
  have HB1 := Lib.hid hb1
  have H1 := Lib.hid h1
  clear hb1 h1
  have f0 := H1.out.cell 0
  simp only [List.getElem?_cons_zero] at f0
  go_wp2_with fail
  refine (lawCopied_any A n c cs w1 (HL.out.up HB1.out hR0) (fun x hx => (HK.out x hx).up (by rw [HRR.out]; exact HB1.out)) hn).mono ?_
  rintro e w2 ⟨A2, c2, cs2, rfl, hown2, hcore2, ho2, hb2⟩
  have h2 := H1.out.below hb2 hs1
  have hb2' := HB1.out.trans (hb2.mono hR0)
  have x0 := h2.cell 0
  have z0 := h2.frozen 0
  simp only [List.getElem?_cons_zero] at x0
  have hl2 := h2.lt
  have HX2 := Lib.hid h2
  have HBB2 := Lib.hid hb2'
  have HV2 := Lib.hid hown2
  have HC2 := Lib.hid hcore2
  have HO2 := Lib.hid ho2
  clear h2 hb2' hown2 hcore2 ho2 hb2 f0 H1 HB1
  go_upto_region 2 with (fail)
  have H3 := Lib.hid (HX2.out.set_ 0 (.slice A2 n c2))
  have HB3 := Lib.hid (HBB2.out.setCell (p := ⟨R, 0, none⟩) (Nat.le_refl _) (.slice A2 n c2))
  have HV3 := own_setCell_blk HV2.out HX2.out (by decide) 0 (.slice A2 n c2)
  have HO3 : ∀ x ∈ cs2, Cl.own (w2.setCell ⟨R, 0, none⟩ (.slice A2 n c2)) w1.heap.size x := fun x hx => (HO2.out x hx).set HX2.out (by decide) (by decide) 0 _
  have HOK2 := Lib.hid (core_oks HC2.out HO3 HK.out)
  have HR2 := Lib.hid (own_rd HV3)
  have HF2 := Lib.hid (core_fines HC2.out HF.out)
  have HI2 := Lib.hid (core_ints HC2.out HI.out)
  simp only [List.set_cons_zero] at H3
  clear HX2 HBB2 HV2 HO2 HV3 HO3 x0 z0 hl2
  generalize World.setCell _ _ _ = w3 at *
  have f0 := H3.out.cell 0
  simp only [List.getElem?_cons_zero] at f0
  have hl3 := H3.out.lt
  go_wp2_with fail
  refine (lawCopied_any A2 n c2 cs2 w3 HR2.out HOK2.out hn).mono ?_
  rintro e w4 ⟨A3, c3, cs3, rfl, hown3, hcore3, ho3, hb4⟩
  have hs34 := hb4.size
  have H4 := Lib.hid (H3.out.below hb4 hl3)
  have HB4 := Lib.hid (HB3.out.trans (hb4.mono (by omega)))
  have HR4 := Lib.hid (HR2.out.up hb4 hb4.size)
  have HOK4 : Hid (∀ x ∈ cs2, Cl.ok w4 x) := Lib.hid fun x hx => (HOK2.out x hx).up hb4
  have HR34 := Lib.hid (own_rd hown3)
  have HOK34 := Lib.hid (core_oks hcore3 ho3 HOK2.out)
  have HF3 := Lib.hid (core_fines hcore3 HF2.out)
  have HI3 := Lib.hid (core_ints hcore3 HI2.out)
  have HKEY : Hid (lookF cs3 = lookF cs2) := Lib.hid (lookF_core hcore3)
  have hR4 : R ≤ w4.heap.size := by omega
  clear hown3 hcore3 ho3 hb4 H3 HB3 HR2 HOK2 hl3 hs34 f0
  go_wp2_with fail
  refine (look_ref A3 n c3 cs3 w4 HR34.out HOK34.out HF3.out HI3.out).mono ?_
  rintro e w5 ⟨A5, c5, rfl, hown5, hb5⟩
  rw [HKEY.out] at hown5 ⊢
  have H5 := Lib.hid (H4.out.below hb5 H4.out.lt)
  have HB5 := Lib.hid (HB4.out.trans (hb5.mono hR4))
  have HR5 := Lib.hid (HR4.out.up hb5 hb5.size)
  have HOK5 : Hid (∀ x ∈ cs2, Cl.ok w5 x) := Lib.hid fun x hx => (HOK4.out x hx).up hb5
  have HM5 := Lib.hid (own_rd hown5)
  have hR5 : R ≤ w5.heap.size := Nat.le_trans hR4 hb5.size
  clear hown5 hb5 H4 HB4 HR4 HOK4 HR34 HOK34 hR4 HF3 HI3 HKEY
  have f0 := H5.out.cell 0
  simp only [List.getElem?_cons_zero] at f0
  go_wp2_with fail
  refine (look_any A2 n c2 cs2 w5 HR5.out HOK5.out HF2.out HI2.out).mono ?_
  rintro e w6 ⟨A6, c6, rfl, hown6, hb6⟩
  have H6 := Lib.hid (H5.out.below hb6 H5.out.lt)
  have HB6 := Lib.hid (HB5.out.trans (hb6.mono hR5))
  have HM6 := Lib.hid (HM5.out.up hb6 hb6.size)
  have HN6 := Lib.hid (own_rd hown6)
  have hR6 : R ≤ w6.heap.size := Nat.le_trans hR5 hb6.size
  clear hown6 hb6 H5 HB5 HR5 HOK5 HM5 hR5 f0 H6 HF2 HI2
  have hfn := HM6.out.2.1
  generalize lookF cs2 = F at *
  generalize hm : F.length = m at *
  have HM := Lib.hid hm
  clear hm
  have t1 : ((m : Int) != (m : Int)) = false := by simp
  go_upto_region 7 with (fail)
  clear t1
  go_loopg [5] m (fun gk u5 wr => ∃ k : Nat, u5 = .int .i64 k ∧ k ≤ m ∧ Hid (gk = m - k) ∧ Hid (Below R w wr) ∧ Hid (Rd wr wr.heap.size 5 A5 m (fcells F)) ∧ Hid (Rd wr wr.heap.size 5 A6 m (fcells F)) ∧ Hid (R ≤ wr.heap.size))
  case atStart => exact ⟨0, rfl, Nat.zero_le _, Lib.hid (by omega), HB6, HM6, HN6, Lib.hid hR6⟩
  case round =>
    clear HB6 HM6 HN6 hR6
    obtain ⟨k, rfl, hk, HG, HB, HM6, HN6, HS⟩ := hrel
    by_cases hlt : k < m
    · obtain ⟨B, off, hk1, rfl, hB, hc⟩ := HM6.out.at Fd.cells 5 (fun _ => rfl) (by omega) k hlt
      obtain ⟨B', off', _, rfl, hB', hc'⟩ := HN6.out.at Fd.cells 5 (fun _ => rfl) (by omega) k hlt
      have c0 := hc 0 _ (by omega) rfl
      have c1 := hc 1 _ (by omega) rfl
      have c2 := hc 2 _ (by omega) rfl
      have c3 := hc 3 _ (by omega) rfl
      have c4 := hc 4 _ (by omega) rfl
      have d0 := hc' 0 _ (by omega) rfl
      have d1 := hc' 1 _ (by omega) rfl
      have d2 := hc' 2 _ (by omega) rfl
      have d3 := hc' 3 _ (by omega) rfl
      have d4 := hc' 4 _ (by omega) rfl
      rw [Nat.add_zero] at c0 d0
      clear hc hc'
      generalize F[k] = z at *
      obtain ⟨zk, zc, zo, zf, zn⟩ := z
      dsimp only at c0 c1 c2 c3 c4 d0 d1 d2 d3 d4
      go_upto_region 9 with (fail)
      go_quiet (fail)
      clear c0 c1 c2 c3 c4 d0 d1 d2 d3 d4
      have HB2 := Lib.hid (HB.out.trans ((below_drewN wr nq).mono HS.out))
      have HM2 := Lib.hid (HM6.out.up (below_drewN wr nq) (Nat.le_refl _))
      have HN2 := Lib.hid (HN6.out.up (below_drewN wr nq) (Nat.le_refl _))
      have HS2 : Hid (R ≤ (wr.drewN nq).heap.size) := Lib.hid HS.out
      go_wp2
      go_roundg (m - (k + 1))
      case measure => have := HG.out; omega
      case rel => exact ⟨k + 1, by go_num, by omega, Lib.hid rfl, HB2, HM2, HN2, HS2⟩
    · go_wp2
      go_ret
      exact ⟨rfl, by rw [HRR.out]; exact HB.out⟩
end Go.Proofs.YtjcgkplphiedjaaGreat
