/- The law of what Trim leaves: its walk. -/
import Derived.Test.YtjcgkplphiedjaaGreatHf
import Derived.Test.YtjcgkplphiedjaaGreatHd
import Derived.Test.YtjcgkplphiedjaaGreatHb
import Derived.Test.YtjcgkplphiedjaaGreatGa
namespace Go.Proofs.YtjcgkplphiedjaaGreat
open Go.RowKit Go.Sort

theorem idleLs_sub {ls : List Li} {z : Li} (h : z ∈ idleLs ls) : z ∈ ls := (List.mem_filter.1 h).1
theorem keptOne_sub {l : List Cl} {i : Nat} {x : Cl} (h : x ∈ keptOne l i) : x ∈ l := by
  unfold keptOne at h
  split at h
  · rename_i y hy
    split at h
    · rw [List.mem_singleton.1 h]; exact List.mem_of_getElem? hy
    · cases h
  · cases h
theorem trimN_sub {l : List Cl} : ∀ {i : Nat} {x : Cl}, x ∈ trimN l i → x ∈ l
  | 0, _, h => by cases h
  | i + 1, x, h => by
    rw [trimN] at h
    rcases List.mem_append.1 h with h | h
    · exact trimN_sub h
    · exact keptOne_sub h
/-- Each clause that is left has the head of one that was there, and some of its literals. -/
theorem trimF_sub {cs : List Cl} {x : Cl} (h : x ∈ trimF cs) : ∃ y ∈ cs, x.h = y.h ∧ ((x.ls = y.ls ∧ x.n = y.n) ∨ (x.ls = idleLs y.ls)) := by
  unfold trimF at h
  split at h
  · have h1 := trimN_sub h
    unfold trimL at h1
    obtain ⟨y, hy, rfl⟩ := List.mem_map.1 (List.mem_filter.1 h1).1
    exact ⟨y, hy, rfl, .inr rfl⟩
  · exact ⟨x, h, rfl, .inl ⟨rfl, rfl⟩⟩
theorem trim_oks {w w0 : World} {R : Nat} {cs cs' : List Cl} (h : cs'.map Cl.core = (trimF cs).map Cl.core) (ho : ∀ x ∈ cs', Cl.own w R x) (hk : ∀ x ∈ cs, Cl.ok w0 x) : ∀ x ∈ cs', Cl.ok w x := fun x hx => by
  obtain ⟨y, hy, e⟩ := core_mem h hx
  obtain ⟨z, hz, hh, hl⟩ := trimF_sub hy
  have hzo := hk z hz
  have e1 : x.h.core = z.h.core := (congrArg (fun p => p.1) e.symm).trans (congrArg At.core hh)
  have e2 : x.ls.map Li.core = y.ls.map Li.core := congrArg (fun p => p.2) e.symm
  have hsub : ∀ u ∈ y.ls, u ∈ z.ls := fun u hu => by
    rcases hl with ⟨hl, _⟩ | hl
    · rw [hl] at hu; exact hu
    · rw [hl] at hu; exact idleLs_sub hu
  have hlen : y.ls.length ≤ z.ls.length := by
    rcases hl with ⟨hl, _⟩ | hl
    · rw [hl]; exact Nat.le_refl _
    · rw [hl]; exact List.length_filter_le _ _
  have h1 : x.ls.length = y.ls.length := by have := congrArg List.length e2; simpa using this
  have h2 : x.ls.length = x.n := by have := (own_rd (ho x hx).b).1; rw [lcells_length] at this; omega
  have h3 : z.ls.length = z.n := by have := hzo.2.1.1; rw [lcells_length] at this; omega
  have h4 := hzo.2.2.1
  refine ⟨(ho x hx).h.ok (core_sizes e1 hzo.1), own_rd (ho x hx).b, by omega, fun u hu => ?_⟩
  obtain ⟨v, hv, e3⟩ := lis_core_mem e2 hu
  exact ((ho x hx).l u hu).ok (core_sizes (congrArg (fun p => p.2.1) e3.symm) (hzo.2.2.2 v (hsub v hv)))

set_option maxRecDepth 20000 in
set_option maxHeartbeats 4000000 in
theorem LintTrims_walk (A : Option Addr) (n c : Nat) (cs : List Cl) (w : World) (hr : Rd w w.heap.size 4 A n (ccells cs)) (hok : ∀ x ∈ cs, Cl.ok w x) (hf : ∀ x ∈ cs, x.fines) (hin : ∀ x ∈ cs, x.ints) (hn : n * 72 ≤ 140737488351232) :
    Calls Tryz.prog 4 #[.agg #[.slice A n c]] w fun e w' => e = .returned (.bool true) ∧ Below w.heap.size w w' := by
  have HL := Lib.hid hr
  have HK := Lib.hid hok
  have HF := Lib.hid hf
  have HI := Lib.hid hin
  clear hr hok hf hin
  go_enter Tryz.func4, Tryz.ntmps4
  go_upto_region 1 with (fail)
  have hb1 := (Below.refl w.heap.size w).alloc (Nat.le_refl _) (.cells #[.slice A n c] 24)
  have h1 := Blk.new w 24 [.slice A n c]
  generalize World.alloc _ _ = w1 at *
  have hs1 := h1.lt
  have hR0 : w.heap.size ≤ w1.heap.size := hb1.size
  generalize hR : w.heap.size = R at *
  have HRR := Lib.hid hR
  clear hR
  have HB1 := Lib.hid hb1
  have H1 := Lib.hid h1
  clear hb1 h1
  have f0 := H1.out.cell 0
  simp only [List.getElem?_cons_zero] at f0
  go_wp2_with fail
  refine (lawCopied_any A n c cs w1 (HL.out.up HB1.out hR0) (fun x hx => (HK.out x hx).up (by rw [HRR.out]; exact HB1.out)) hn).mono ?_
  rintro e w2 ⟨A2, c2, cs2, rfl, hown2, hcore2, ho2, hb2⟩
  have h2 := H1.out.below hb2 hs1
  have hb2' := HB1.out.trans (hb2.mono hR0)
  have x0 := h2.cell 0
  have z0 := h2.frozen 0
  simp only [List.getElem?_cons_zero] at x0
  have hl2 := h2.lt
  have HX2 := Lib.hid h2
  have HBB2 := Lib.hid hb2'
  have HV2 := Lib.hid hown2
  have HC2 := Lib.hid hcore2
  have HO2 := Lib.hid ho2
  clear h2 hb2' hown2 hcore2 ho2 hb2 f0 H1 HB1
  go_upto_region 2 with (fail)
  have H3 := Lib.hid (HX2.out.set_ 0 (.slice A2 n c2))
  have HB3 := Lib.hid (HBB2.out.setCell (p := ⟨R, 0, none⟩) (Nat.le_refl _) (.slice A2 n c2))
  have HV3 := own_setCell_blk HV2.out HX2.out (by decide) 0 (.slice A2 n c2)
  have HO3 : ∀ x ∈ cs2, Cl.own (w2.setCell ⟨R, 0, none⟩ (.slice A2 n c2)) w1.heap.size x := fun x hx => (HO2.out x hx).set HX2.out (by decide) (by decide) 0 _
  have HOK2 := Lib.hid (core_oks HC2.out HO3 HK.out)
  have HR2 := Lib.hid (own_rd HV3)
  have HF2 := Lib.hid (core_fines HC2.out HF.out)
  have HI2 := Lib.hid (core_ints HC2.out HI.out)
  simp only [List.set_cons_zero] at H3
  clear HX2 HBB2 HV2 HO2 HV3 HO3 x0 z0 hl2
  generalize World.setCell _ _ _ = w3 at *
  have f0 := H3.out.cell 0
  simp only [List.getElem?_cons_zero] at f0
  have hl3 := H3.out.lt
  go_wp2_with fail
  refine (lawCopied_any A2 n c2 cs2 w3 HR2.out HOK2.out hn).mono ?_
  rintro e w4 ⟨A3, c3, cs3, rfl, hown3, hcore3, ho3, hb4⟩
  have hs34 := hb4.size
  have H4 := Lib.hid (H3.out.below hb4 hl3)
  have HB4 := Lib.hid (HB3.out.trans (hb4.mono (by omega)))
  have HR4 := Lib.hid (HR2.out.up hb4 hb4.size)
  have HOK4 : Hid (∀ x ∈ cs2, Cl.ok w4 x) := Lib.hid fun x hx => (HOK2.out x hx).up hb4
  have HR34 := Lib.hid (own_rd hown3)
  have HOK34 := Lib.hid (core_oks hcore3 ho3 HOK2.out)
  have HF3 := Lib.hid (core_fines hcore3 HF2.out)
  have HI3 := Lib.hid (core_ints hcore3 HI2.out)
  have HKEY : Hid ((trimF cs3).map Cl.core = (trimF cs2).map Cl.core) := Lib.hid (trimF_core hcore3)
  have hR4 : R ≤ w4.heap.size := by omega
  clear hown3 hcore3 ho3 hb4 H3 HB3 HR2 HOK2 hl3 hs34 f0
  go_wp2_with fail
  refine (trim_ref A3 n c3 cs3 w4 HR34.out HOK34.out HF3.out HI3.out hn).mono ?_
  rintro e w5 ⟨A5, c5, cs5, rfl, hown5, hcore5, ho5, hb5⟩
  have H5 := Lib.hid (H4.out.below hb5 H4.out.lt)
  have HB5 := Lib.hid (HB4.out.trans (hb5.mono hR4))
  have HR5 := Lib.hid (HR4.out.up hb5 hb5.size)
  have HOK5 : Hid (∀ x ∈ cs2, Cl.ok w5 x) := Lib.hid fun x hx => (HOK4.out x hx).up hb5
  have HM5 := Lib.hid (own_rd hown5)
  have HMK5 : Hid (∀ x ∈ cs5, Cl.ok w5 x) := Lib.hid (trim_oks hcore5 ho5 HOK34.out)
  have HC5 := Lib.hid (hcore5.trans HKEY.out)
  have hR5 : R ≤ w5.heap.size := Nat.le_trans hR4 hb5.size
  clear hown5 hcore5 ho5 hb5 H4 HB4 HR4 HOK4 HR34 HOK34 hR4 HF3 HI3 HKEY
  generalize cs5.length = m at *
  have hnb5 := HM5.out.2.1
  go_upto_region 3 with (fail)
  have hb6 := (Below.refl w5.heap.size w5).alloc (Nat.le_refl _) (.cells #[.slice A5 m c5] 24)
  have G5 := Lib.hid (Blk.new w5 24 [.slice A5 m c5])
  have H6 := Lib.hid (H5.out.below hb6 H5.out.lt)
  have HB6 := Lib.hid (HB5.out.trans (hb6.mono hR5))
  have HR6 := Lib.hid (HR5.out.up hb6 hb6.size)
  have HOK6 : Hid (∀ x ∈ cs2, Cl.ok (w5.alloc (.cells #[.slice A5 m c5] 24)) x) := Lib.hid fun x hx => (HOK5.out x hx).up hb6
  have HM6 := Lib.hid (HM5.out.up hb6 hb6.size)
  have HMK6 : Hid (∀ x ∈ cs5, Cl.ok (w5.alloc (.cells #[.slice A5 m c5] 24)) x) := Lib.hid fun x hx => (HMK5.out x hx).up hb6
  have hR6 : R ≤ (w5.alloc (.cells #[.slice A5 m c5] 24)).heap.size := Nat.le_trans hR5 hb6.size
  clear hb6 H5 HB5 HR5 HOK5 HM5 HMK5
  generalize World.alloc _ _ = w6 at *
  generalize w5.heap.size = P5 at *
  have f0 := H6.out.cell 0
  simp only [List.getElem?_cons_zero] at f0
  go_wp2_with fail
  refine (trim_any A2 n c2 cs2 w6 HR6.out HOK6.out HF2.out HI2.out hn).mono ?_
  rintro e w7 ⟨A7, c7, cs7, rfl, hown7, hcore7, ho7, hb7⟩
  have hkey : cs7.map Cl.core = cs5.map Cl.core := hcore7.trans HC5.out.symm
  have HKEY := Lib.hid hkey
  have HB7 := Lib.hid (HB6.out.trans (hb7.mono hR6))
  have G7 := Lib.hid (G5.out.below hb7 G5.out.lt)
  have HM7 := Lib.hid (HM6.out.up hb7 hb7.size)
  have HMK7 : Hid (∀ x ∈ cs5, Cl.ok w7 x) := Lib.hid fun x hx => (HMK6.out x hx).up hb7
  have HN7 := Lib.hid (own_rd hown7)
  have HNK7 : Hid (∀ x ∈ cs7, Cl.ok w7 x) := Lib.hid (trim_oks hcore7 ho7 HOK6.out)
  have hlen : cs7.length = m := by
    have h1 := congrArg List.length hkey
    have h2 := HM7.out.1
    rw [ccells_length] at h2
    rw [List.length_map, List.length_map] at h1
    omega
  rw [hlen] at HN7 ⊢
  have hR7 : R ≤ w7.heap.size := Nat.le_trans hR6 hb7.size
  clear hown7 hcore7 ho7 hb7 H6 HB6 HR6 HOK6 HM6 HMK6 hR6 f0 HF2 HI2 hkey hlen G5
  go_upto_region 4 with (fail)
  have hb8 := (Below.refl w7.heap.size w7).alloc (Nat.le_refl _) (.cells #[.slice A7 m c7] 24)
  have G8 := Lib.hid (G7.out.below hb8 G7.out.lt)
  have Q8 := Lib.hid (Blk.new w7 24 [.slice A7 m c7])
  have HB8 := Lib.hid (HB7.out.trans (hb8.mono hR7))
  have HM8 := Lib.hid (HM7.out.up hb8 hb8.size)
  have HN8 := Lib.hid (HN7.out.up hb8 hb8.size)
  have HMK8 : Hid (∀ x ∈ cs5, Cl.ok (w7.alloc (.cells #[.slice A7 m c7] 24)) x) := Lib.hid fun x hx => (HMK7.out x hx).up hb8
  have HNK8 : Hid (∀ x ∈ cs7, Cl.ok (w7.alloc (.cells #[.slice A7 m c7] 24)) x) := Lib.hid fun x hx => (HNK7.out x hx).up hb8
  have hR8 : R ≤ (w7.alloc (.cells #[.slice A7 m c7] 24)).heap.size := Nat.le_trans hR7 hb8.size
  clear hb8 G7 HB7 HM7 HN7 HMK7 HNK7
  generalize World.alloc _ _ = w8 at *
  generalize w7.heap.size = P7 at *
  have g0 := (G8.out.cell 0).trans rfl
  have g1 := (Q8.out.cell 0).trans rfl
  go_wp2_with fail
  refine (programs18_any A7 A5 m c7 c5 cs7 cs5 w8 HN8.out HM8.out HNK8.out HMK8.out HKEY.out).mono ?_
  rintro e w9 ⟨rfl, hb9⟩
  have HB9 := Lib.hid (HB8.out.trans (hb9.mono hR8))
  clear hb9 g0 g1
  go_wp2
  go_ret
  exact ⟨rfl, by rw [HRR.out]; exact HB9.out⟩
end Go.Proofs.YtjcgkplphiedjaaGreat
