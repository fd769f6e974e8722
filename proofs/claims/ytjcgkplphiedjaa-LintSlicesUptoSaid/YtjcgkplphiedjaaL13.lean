/- The law of slices: its walk. -/
import Derived.Test.YtjcgkplphiedjaaL12
namespace Go.Proofs.Ytjcgkplphiedjaa
open Go.RowKit

theorem asks_core : ∀ {l l' : List Li}, l.map Li.core = l'.map Li.core → asksL l = asksL l'
  | [], [], _ => rfl
  | [], _ :: _, h => by simp at h
  | _ :: _, [], h => by simp at h
  | a :: l, b :: l', h => by
    simp only [List.map_cons, List.cons.injEq] at h
    have ih := asks_core h.2
    have hk : a.k = b.k := congrArg (fun p => p.1) h.1
    have hp : a.a.p = b.a.p := congrArg (fun p => p.2.1.1) h.1
    unfold asksL at ih ⊢
    simp only [List.filter_cons, hk]
    cases (b.k == 1 || b.k == 2)
    · simpa using ih
    · simp only [if_true, List.map_cons, hp, ih]
theorem cl_core {x y : Cl} (h : x.core = y.core) : x.h.p = y.h.p ∧ x.asks = y.asks :=
  ⟨congrArg (fun p => p.1.1) h, asks_core (congrArg (fun p => p.2) h)⟩
theorem core_mem {cs cs' : List Cl} (h : cs.map Cl.core = cs'.map Cl.core) {x : Cl} (hx : x ∈ cs) : ∃ y ∈ cs', y.core = x.core := by
  have h1 : x.core ∈ cs'.map Cl.core := h ▸ List.mem_map_of_mem hx
  obtain ⟨y, hy, e⟩ := List.mem_map.1 h1
  exact ⟨y, hy, e⟩
theorem Need.core {cs cs' : List Cl} {goals : List ByteArray} (h : cs.map Cl.core = cs'.map Cl.core) {s : ByteArray} (hs : Need cs goals s) : Need cs' goals s := by
  induction hs with
  | goal h => exact .goal h
  | step hc _ hs ih =>
    obtain ⟨y, hy, e⟩ := core_mem h hc
    obtain ⟨e1, e2⟩ := cl_core e
    exact .step hy (e1 ▸ ih) (e2 ▸ hs)
theorem allAsks_core : ∀ {cs cs' : List Cl}, cs.map Cl.core = cs'.map Cl.core → allAsks cs = allAsks cs'
  | [], [], _ => rfl
  | [], _ :: _, h => by simp at h
  | _ :: _, [], h => by simp at h
  | a :: l, b :: l', h => by
    simp only [List.map_cons, List.cons.injEq] at h
    have ih := allAsks_core h.2
    have e := (cl_core h.1).2
    unfold allAsks at ih ⊢
    simp only [List.flatMap_cons, List.length_append, e, ih]
theorem filter_core {p p' : Cl → Bool} : ∀ {l l' : List Cl}, l.map Cl.core = l'.map Cl.core → (∀ x ∈ l, ∀ y ∈ l', x.core = y.core → p x = p' y) → (l.filter p).map Cl.core = (l'.filter p').map Cl.core
  | [], [], _, _ => rfl
  | [], _ :: _, h, _ => by simp at h
  | _ :: _, [], h, _ => by simp at h
  | a :: l, b :: l', h, hp => by
    simp only [List.map_cons, List.cons.injEq] at h
    have ih := filter_core h.2 fun x hx y hy => hp x (List.mem_cons_of_mem _ hx) y (List.mem_cons_of_mem _ hy)
    have e := hp a (by simp) b (by simp) h.1
    simp only [List.filter_cons, e]
    cases p' b
    · simpa using ih
    · simp only [if_true, List.map_cons, h.1, ih]
theorem keep_core {cs cs' : List Cl} {goals : List ByteArray} (h : cs.map Cl.core = cs'.map Cl.core) : (cs.filter (keepB cs goals)).map Cl.core = (cs'.filter (keepB cs' goals)).map Cl.core :=
  filter_core h fun x _ y _ e => by
    have e1 := (cl_core e).1
    cases h1 : keepB cs goals x <;> cases h2 : keepB cs' goals y
    · rfl
    · have := Need.core h.symm (keepB_iff.1 h2)
      rw [← e1] at this
      rw [keepB_iff.2 this] at h1; cases h1
    · have := Need.core h (keepB_iff.1 h1)
      rw [e1] at this
      rw [keepB_iff.2 this] at h2; cases h2
    · rfl
theorem core_oks {w w0 : World} {R : Nat} {cs cs' : List Cl} (h : cs'.map Cl.core = cs.map Cl.core) (ho : ∀ x ∈ cs', Cl.own w R x) (hk : ∀ x ∈ cs, Cl.ok w0 x) : ∀ x ∈ cs', Cl.ok w x := fun x hx => by
  obtain ⟨y, hy, e⟩ := core_mem h hx
  exact (ho x hx).ok e.symm (hk y hy)

set_option maxRecDepth 20000 in
set_option maxHeartbeats 4000000 in
theorem LintSlices_walk (A A' : Option Addr) (n c m c' : Nat) (cs : List Cl) (goals : List ByteArray) (w : World) (hr : Rd w w.heap.size 4 A n (ccells cs)) (hok : ∀ x ∈ cs, Cl.ok w x) (hg : Rd w w.heap.size 1 A' m (scells goals)) (hA' : A' = none → c' = 0)
    (hbd : (m + allAsks cs) * 16 ≤ 140737488351232) (hn : n * 72 ≤ 140737488351232) (hfn : ∀ s, Need cs goals s → s.size ≤ maxLen) (hfh : ∀ x ∈ cs, x.h.p.size ≤ maxLen) :
    Calls Try.prog 4 #[.agg #[.slice A n c], .slice A' m c'] w fun e w' => e = .returned (.bool true) ∧ Below w.heap.size w w' := by
  obtain ⟨i0, hi, hz0, hz1, hz2⟩ := info_parts Try.info9
  have HL := Lib.hid hr
  have HK := Lib.hid hok
  have HGL := Lib.hid hg
  have HA' := Lib.hid hA'
  have HFN := Lib.hid hfn
  have HFH := Lib.hid hfh
  have HBD := Lib.hid hbd
  have hgb := hg.2.1
  clear hr hok hg hA' hfn hfh
  go_enter Try.func4, Try.ntmps4
  go_upto_region 1 with (fail)
  have hb1 := (Below.refl w.heap.size w).alloc (Nat.le_refl _) (.cells #[.slice A n c] 37)
  have h1 := Blk.new w 37 [.slice A n c]
  generalize World.alloc _ _ = w1 at *
  have hs1 := h1.lt
  have hR0 : w.heap.size ≤ w1.heap.size := hb1.size
  generalize hR : w.heap.size = R at *
  have HRR := Lib.hid hR
  clear hR
  have HB1 := Lib.hid hb1
  have H1 := Lib.hid h1
  clear hb1 h1
  have f0 := H1.out.cell 0
  simp only [List.getElem?_cons_zero] at f0
  go_wp2_with fail
  refine (lawCopied_any A n c cs w1 (HL.out.up HB1.out hR0) (fun x hx => (HK.out x hx).up (by rw [HRR.out]; exact HB1.out)) hn).mono ?_
  rintro e w2 ⟨A2, c2, cs2, rfl, hown2, hcore2, ho2, hb2⟩
  have h2 := H1.out.below hb2 hs1
  have hb2' := HB1.out.trans (hb2.mono hR0)
  have x0 := h2.cell 0
  have z0 := h2.frozen 0
  simp only [List.getElem?_cons_zero] at x0
  have hl2 := h2.lt
  have HX2 := Lib.hid h2
  have HBB2 := Lib.hid hb2'
  have HV2 := Lib.hid hown2
  have HC2 := Lib.hid hcore2
  have HO2 := Lib.hid ho2
  clear h2 hb2' hown2 hcore2 ho2 hb2 f0 H1 HB1
  go_upto_region 2 with (fail)
  have H3 := Lib.hid (HX2.out.set_ 0 (.slice A2 n c2))
  have HB3 := Lib.hid (HBB2.out.setCell (p := ⟨R, 0, none⟩) (Nat.le_refl _) (.slice A2 n c2))
  have HV3 := own_setCell_blk HV2.out HX2.out (by decide) 0 (.slice A2 n c2)
  have HO3 : ∀ x ∈ cs2, Cl.own (w2.setCell ⟨R, 0, none⟩ (.slice A2 n c2)) w1.heap.size x := fun x hx => (HO2.out x hx).set HX2.out (by decide) (by decide) 0 _
  have HOK2 := Lib.hid (core_oks HC2.out HO3 HK.out)
  have HR2 := Lib.hid (own_rd HV3)
  simp only [List.set_cons_zero] at H3
  clear HX2 HBB2 HV2 HO2 HV3 HO3 x0 z0 hl2
  generalize World.setCell _ _ _ = w3 at *
  have f0 := H3.out.cell 0
  simp only [List.getElem?_cons_zero] at f0
  have hl3 := H3.out.lt
  go_wp2_with fail
  refine (lawCopied_any A2 n c2 cs2 w3 HR2.out HOK2.out hn).mono ?_
  rintro e w4 ⟨A3, c3, cs3, rfl, hown3, hcore3, ho3, hb4⟩
  have hs34 := hb4.size
  have H4 := Lib.hid (H3.out.below hb4 hl3)
  have HB4 := Lib.hid (HB3.out.trans (hb4.mono (by omega)))
  have HR4 := Lib.hid (HR2.out.up hb4 hb4.size)
  have HOK4 : Hid (∀ x ∈ cs2, Cl.ok w4 x) := Lib.hid fun x hx => (HOK2.out x hx).up hb4
  have HC3 := Lib.hid hcore3
  have HR34 := Lib.hid (own_rd hown3)
  have HOK34 := Lib.hid (core_oks hcore3 ho3 HOK2.out)
  have hR4 : R ≤ w4.heap.size := by omega
  clear hown3 hcore3 ho3 hb4 H3 HB3 HR2 HOK2 hl3 hs34 f0
  have hown0 : (w4.alloc (.cells #[] 9)).ownsRow w4.heap.size 9 1 (.slice (some ⟨w4.heap.size, 0, none⟩) 0 0) 0 [] := own_empty (Nat.le_refl _)
  have hba := (Below.refl w4.heap.size w4).alloc (Nat.le_refl _) (.cells #[] 9)
  have hbw : w4.heap.size ≤ (w4.alloc (.cells #[] 9)).heap.size := hba.size
  have HRd := Lib.hid ((HGL.out.up HB4.out hR4).up hba hbw)
  have hbd2 := HBD.out
  go_wp2_with (at_builtin; go_must (refine wpList_append_all rfl _ _ 23 rfl w4.heap.size 9 i0 _ 1 16 Try.underlying23 hi hz0 hz1 hz2 rfl (by decide) _ _ _ rfl hown0 A' m c' (scells goals) rfl HA'.out HRd.out (strs_one goals) (by unfold maxLen; omega) (by omega) hbw ?_))
  intro v5 w5 hown5 hg5
  obtain ⟨A5, c5, rfl, hn5⟩ := own_slice hown5
  have hb5 := (hba.grown hg5 hbw (fun k hk => (hown0.lt k hk).1))
  have H5 := Lib.hid (H4.out.below hb5 H4.out.lt)
  have HB5 := Lib.hid (HB4.out.trans (hb5.mono hR4))
  have HR5 := Lib.hid (HR4.out.up hb5 hb5.size)
  have HOK5 : Hid (∀ x ∈ cs2, Cl.ok w5 x) := Lib.hid fun x hx => (HOK4.out x hx).up hb5
  have HR35 := Lib.hid (HR34.out.up hb5 hb5.size)
  have HOK35 : Hid (∀ x ∈ cs3, Cl.ok w5 x) := Lib.hid fun x hx => (HOK34.out x hx).up hb5
  have HN5 : Hid (Rd w5 w5.heap.size 1 A5 m (scells goals)) := Lib.hid (by simpa using own_rd hown5)
  have HNA : Hid (A5 = none → c5 = 0) := Lib.hid fun h => by subst h; exact own_none hown5
  have hR5 : R ≤ w5.heap.size := Nat.le_trans hR4 hb5.size
  clear hown0 hown5 hg5 hba hbw HRd hb5 H4 HB4 HR4 HOK4 HR34 HOK34 hR4
  have hbd3 : (m + allAsks cs3) * 16 ≤ 140737488351232 := by rw [allAsks_core (HC3.out.trans HC2.out)]; exact HBD.out
  go_wp2_with fail
  refine (refSlice_any A3 A5 n c3 m c5 cs3 goals w5 HR35.out HOK35.out HN5.out HNA.out hbd3 hn).mono ?_
  rintro e w6 ⟨A6, c6, cs6, rfl, hown6, hcore6, ho6, hb6⟩
  have H6 := Lib.hid (H5.out.below hb6 H5.out.lt)
  have HB6 := Lib.hid (HB5.out.trans (hb6.mono hR5))
  have HR6 := Lib.hid (HR5.out.up hb6 hb6.size)
  have HOK6 : Hid (∀ x ∈ cs2, Cl.ok w6 x) := Lib.hid fun x hx => (HOK5.out x hx).up hb6
  have HC6 := Lib.hid hcore6
  have HR66 := Lib.hid (own_rd hown6)
  have HOK66 : Hid (∀ x ∈ cs6, Cl.ok w6 x) := Lib.hid (core_oks hcore6 ho6 (fun x hx => HOK35.out x (List.mem_filter.1 hx).1))
  have hR6 : R ≤ w6.heap.size := Nat.le_trans hR5 hb6.size
  clear hown6 hcore6 ho6 hb6 H5 HB5 HR5 HOK5 HR35 HOK35 HN5 HNA hR5 hbd3
  have hnb6 := HR66.out.2.1
  have HK6 : Hid (cs6.length = cs6.length) := Lib.hid rfl
  go_upto_region 3 with (fail)
  have hb7 := (Below.refl w6.heap.size w6).alloc (Nat.le_refl _) (.cells #[.slice A6 cs6.length c6] 37)
  have H7 := Lib.hid (H6.out.below hb7 H6.out.lt)
  have HS7 := Lib.hid (Blk.new w6 37 [.slice A6 cs6.length c6])
  have HB7 := Lib.hid (HB6.out.trans (hb7.mono hR6))
  have HR7 := Lib.hid (HR6.out.up hb7 hb7.size)
  have HOK7 : Hid (∀ x ∈ cs2, Cl.ok (w6.alloc (.cells #[.slice A6 cs6.length c6] 37)) x) := Lib.hid fun x hx => (HOK6.out x hx).up hb7
  have HR67 := Lib.hid (HR66.out.up hb7 hb7.size)
  have HOK67 : Hid (∀ x ∈ cs6, Cl.ok (w6.alloc (.cells #[.slice A6 cs6.length c6] 37)) x) := Lib.hid fun x hx => (HOK66.out x hx).up hb7
  have hR7 : R ≤ (w6.alloc (.cells #[.slice A6 cs6.length c6] 37)).heap.size := Nat.le_trans hR6 hb7.size
  clear hb7 H6 HB6 HR6 HOK6 HR66 HOK66 hR6
  generalize World.alloc _ _ = w7 at *
  generalize w6.heap.size = P6 at *
  have f0 := H7.out.cell 0
  simp only [List.getElem?_cons_zero] at f0
  have hbd4 : (m + allAsks cs2) * 16 ≤ 140737488351232 := by rw [allAsks_core HC2.out]; exact HBD.out
  go_wp2_with fail
  refine (lintSlice_any A2 A' n c2 m c' cs2 goals w7 HR7.out HOK7.out (HGL.out.up HB7.out hR7) HA'.out hbd4 hn (fun s hs => HFN.out s (hs.core HC2.out)) (fun x hx => by
    obtain ⟨y, hy, e⟩ := core_mem HC2.out hx
    rw [← (cl_core e).1]; exact HFH.out y hy)).mono ?_
  rintro e w8 ⟨A8, c8, cs8, rfl, hown8, hcore8, ho8, hb8⟩
  have hkey : cs8.map Cl.core = cs6.map Cl.core := (hcore8.trans (keep_core HC3.out).symm).trans HC6.out.symm
  have hlen : cs8.length = cs6.length := by have := congrArg List.length hkey; simpa using this
  have HKEY := Lib.hid hkey
  have HS8 := Lib.hid (HS7.out.below hb8 HS7.out.lt)
  have HB8 := Lib.hid (HB7.out.trans (hb8.mono hR7))
  have HR68 := Lib.hid (HR67.out.up hb8 hb8.size)
  have HOK68 : Hid (∀ x ∈ cs6, Cl.ok w8 x) := Lib.hid fun x hx => (HOK67.out x hx).up hb8
  have HR88 := Lib.hid (own_rd hown8)
  have HOK88 : Hid (∀ x ∈ cs8, Cl.ok w8 x) := Lib.hid (core_oks hcore8 ho8 (fun x hx => HOK7.out x (List.mem_filter.1 hx).1))
  have hR8 : R ≤ w8.heap.size := Nat.le_trans hR7 hb8.size
  rw [hlen] at HR88 ⊢
  clear hown8 hcore8 ho8 hb8 H7 HS7 HB7 HR7 HOK7 HR67 HOK67 hR7 hkey hlen f0 hbd4
  go_upto_region 4 with (fail)
  have hb9 := (Below.refl w8.heap.size w8).alloc (Nat.le_refl _) (.cells #[.slice A8 cs6.length c8] 37)
  have HS9 := Lib.hid (HS8.out.below hb9 HS8.out.lt)
  have HT9 := Lib.hid (Blk.new w8 37 [.slice A8 cs6.length c8])
  have HB9 := Lib.hid (HB8.out.trans (hb9.mono hR8))
  have HR69 := Lib.hid (HR68.out.up hb9 hb9.size)
  have HOK69 : Hid (∀ x ∈ cs6, Cl.ok (w8.alloc (.cells #[.slice A8 cs6.length c8] 37)) x) := Lib.hid fun x hx => (HOK68.out x hx).up hb9
  have HR89 := Lib.hid (HR88.out.up hb9 hb9.size)
  have HOK89 : Hid (∀ x ∈ cs8, Cl.ok (w8.alloc (.cells #[.slice A8 cs6.length c8] 37)) x) := Lib.hid fun x hx => (HOK88.out x hx).up hb9
  have hR9 : R ≤ (w8.alloc (.cells #[.slice A8 cs6.length c8] 37)).heap.size := Nat.le_trans hR8 hb9.size
  clear hb9 HS8 HB8 HR68 HOK68 HR88 HOK88 hR8
  generalize World.alloc _ _ = w9 at *
  generalize w8.heap.size = P8 at *
  have g5 := HS9.out.cell 0
  have g6 := HT9.out.cell 0
  simp only [List.getElem?_cons_zero] at g5 g6
  go_wp2_with fail
  refine (programs18_any A8 A6 cs6.length c8 c6 cs8 cs6 w9 HR89.out HR69.out HOK89.out HOK69.out HKEY.out).mono ?_
  rintro e wz ⟨rfl, hbz⟩
  have HBZ := Lib.hid (HB9.out.trans (hbz.mono hR9))
  clear hbz g5 g6
  go_wp2
  go_ret
  exact ⟨rfl, by rw [HRR.out]; exact HBZ.out⟩
end Go.Proofs.Ytjcgkplphiedjaa
