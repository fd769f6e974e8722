/- A test under a substitution: the document's. | A test under a substitution: the program's. -/
import Derived.Test.YtjcgkplphiedjaaDoorTG26
namespace Go.Proofs.YtjcgkplphiedjaaDoorT
open Go.RowKit Go.Sort

/-- A test under a substitution. -/
def testB (cs sub : List Cn) (t : Ts) : Bool :=
  match bindS cs sub t.l, bindS cs sub t.r with
  | some a, some b => cmpR t.op a.k a.i a.t b.k b.i b.t
  | _, _ => false
theorem bindS_keyK {cs sub : List Cn} {s : Sl} (hc : ∀ z ∈ cs, keyK z) (hs : ∀ z ∈ sub, keyK z) (z : Cn) (h : bindS cs sub s = some z) : keyK z := by
  unfold bindS at h
  by_cases h0 : s.n < 0
  · rw [if_pos h0] at h; cases h
  · rw [if_neg h0] at h
    cases hv : s.v with
    | true => rw [hv] at h; exact hs z (List.mem_of_getElem? h)
    | false => rw [hv] at h; exact hc z (List.mem_of_getElem? h)
theorem cmpR_err (op k i : Int) (s : ByteArray) (l j : Int) (t : ByteArray) (h : cmpR op k i s l j t = true) : cmpErr op k i s l j t = 0 := by
  unfold cmpR at h
  unfold cmpErr
  by_cases h1 : op < 1 ∨ 6 < op
  · rw [if_pos h1] at h; cases h
  · rw [if_neg h1] at h ⊢
    cases h2 : validC k i s with
    | false => rw [h2, if_neg (by decide)] at h; cases h
    | true =>
      rw [h2] at h
      rw [if_pos rfl] at h ⊢
      cases h3 : validC l j t with
      | false => rw [h3, if_neg (by decide)] at h; cases h
      | true => rfl

set_option maxRecDepth 20000 in
set_option maxHeartbeats 8000000 in
theorem holds_ref (x : Co) (t : Ts) (A : Option Addr) (n c : Nat) (sub : List Cn) (w : World) (hx : Rd w w.heap.size 3 x.CA x.cn (kcells x.cs)) (hr : Rd w w.heap.size 3 A n (kcells sub)) (hc : ∀ z ∈ x.cs, keyK z) (hs : ∀ z ∈ sub, keyK z) :
    Calls Tryd.prog 65 #[.agg x.cells.toArray, .agg t.cells.toArray, .slice A n c] w fun e w' => e = .returned (.bool (testB x.cs sub t)) ∧ Below w.heap.size w w' := by
  obtain ⟨V, hV⟩ : ∃ V, V = testB x.cs sub t := ⟨_, rfl⟩
  rw [← hV]
  unfold testB at hV
  have HK1 := Lib.hid (fun s => bind_ref x s A n c sub)
  have HY := Lib.hid (fun s => bindS_keyK (s := s) hc hs)
  obtain ⟨DA, dn, dc, ds, CA, cn, cc, cs, RA, rn, rc, rs, FA, fn, fc, fs⟩ := x
  obtain ⟨op, ⟨lv, ln⟩, ⟨rv, rn'⟩⟩ := t
  dsimp only at hV hx HK1 HY
  simp only [Co.cells] at HK1
  have HA1 := Lib.hid (HK1.out ⟨lv, ln⟩)
  have HA2 := Lib.hid (HK1.out ⟨rv, rn'⟩)
  simp only [Sl.cells] at HA1 HA2
  have hy1 := HY.out ⟨lv, ln⟩
  have hy2 := HY.out ⟨rv, rn'⟩
  obtain ⟨o1, ho1⟩ : ∃ o1, bindS cs sub ⟨lv, ln⟩ = o1 := ⟨_, rfl⟩
  obtain ⟨o2, ho2⟩ : ∃ o2, bindS cs sub ⟨rv, rn'⟩ = o2 := ⟨_, rfl⟩
  rw [ho1] at HA1 hV hy1
  rw [ho2] at HA2 hV hy2
  clear ho1 ho2 HK1 HY hc hs
  have HY1 := Lib.hid hy1
  have HY2 := Lib.hid hy2
  have HV := Lib.hid hV
  have HC := Lib.hid hx
  have HR := Lib.hid hr
  clear hy1 hy2 hV hx hr
  unfold optK at HA1 HA2
  obtain ⟨z1, hz1⟩ : ∃ z, o1.getD noK = z := ⟨_, rfl⟩
  obtain ⟨z2, hz2⟩ : ∃ z, o2.getD noK = z := ⟨_, rfl⟩
  obtain ⟨b1, hb1⟩ : ∃ b, o1.isSome = b := ⟨_, rfl⟩
  obtain ⟨b2, hb2⟩ : ∃ b, o2.isSome = b := ⟨_, rfl⟩
  rw [hz1, hb1] at HA1
  rw [hz2, hb2] at HA2
  have HZ1 := Lib.hid hz1
  have HZ2 := Lib.hid hz2
  have HB1 := Lib.hid hb1
  have HB2 := Lib.hid hb2
  clear hz1 hz2 hb1 hb2
  obtain ⟨zk, zi, zt⟩ := z1
  obtain ⟨yk, yi, yt⟩ := z2
  simp only [Cn.cells] at HA1 HA2
  show Calls Tryd.prog 65 #[.agg #[.slice DA dn dc, .slice CA cn cc, .slice RA rn rc, .slice FA fn fc], .agg #[.int .i64 op, .bool lv, .int .i64 ln, .bool rv, .int .i64 rn'], .slice A n c] w _
  go_enter Tryd.func65, Tryd.ntmps65
  go_upto_region 1 with (fail)
  obtain ⟨hb, h1, h2, hsz⟩ := two_alloc w 40 119 [.slice DA dn dc, .slice CA cn cc, .slice RA rn rc, .slice FA fn fc] [.int .i64 op, .bool lv, .int .i64 ln, .bool rv, .int .i64 rn']
  generalize World.alloc (World.alloc _ _) _ = w3 at *
  have HC3 := Lib.hid (HC.out.below hb)
  have HR3 := Lib.hid (HR.out.below hb)
  generalize hRe : w.heap.size = R at *
  have HRR := Lib.hid hRe
  clear hRe HC HR
  have HB := Lib.hid hb
  have hs3 : R + 1 + 1 ≤ w3.heap.size := by omega
  have f0 := (h1.cell 0).trans rfl
  have f1 := (h1.cell 1).trans rfl
  have f2 := (h1.cell 2).trans rfl
  have f3 := (h1.cell 3).trans rfl
  have g1 := (h2.cell 1).trans rfl
  have g2 := (h2.cell 2).trans rfl
  have H1 := Lib.hid h1
  have H2 := Lib.hid h2
  clear hb hsz h1 h2
  go_wp2_with fail
  refine (HA1.out w3 (HC3.out.up (Below.refl _ _) (by omega)) (HR3.out.up (Below.refl _ _) (by omega))).mono ?_
  rintro e v1 ⟨rfl, hb⟩
  clear HA1 f0 f1 f2 f3 g1 g2
  go_upto_region 2 with (fail)
  have hbk := (Below.refl v1.heap.size v1).alloc (Nat.le_refl _) (.cells #[.int .i64 zk, .int .i64 zi, .string zt] 68)
  have hbx := hb.trans (hbk.mono hb.size)
  have HK := Lib.hid (Blk.new v1 68 [.int .i64 zk, .int .i64 zi, .string zt])
  have hlk := HK.out.lt
  have hv1 : w3.heap.size ≤ v1.heap.size := hb.size
  generalize World.alloc _ _ = w4 at *
  generalize hKe : v1.heap.size = K at *
  have H1 := Lib.hid (H1.out.below hbx (by omega))
  have H2 := Lib.hid (H2.out.below hbx (by omega))
  have HB := Lib.hid (HB.out.trans (hbx.mono (by omega)))
  have HC4 := Lib.hid (HC3.out.below (hbx.mono (by omega)))
  have HR4 := Lib.hid (HR3.out.below (hbx.mono (by omega)))
  clear hb hbk hbx HC3 HR3 hKe
  have f0 := (H1.out.cell 0).trans rfl
  have f1 := (H1.out.cell 1).trans rfl
  have f2 := (H1.out.cell 2).trans rfl
  have f3 := (H1.out.cell 3).trans rfl
  have g3 := (H2.out.cell 3).trans rfl
  have g4 := (H2.out.cell 4).trans rfl
  go_wp2_with fail
  refine (HA2.out w4 (HC4.out.up (Below.refl _ _) (by omega)) (HR4.out.up (Below.refl _ _) (by omega))).mono ?_
  rintro e v2 ⟨rfl, hb⟩
  clear HA2 f0 f1 f2 f3 g3 g4
  go_upto_region 3 with (fail)
  have hbk := (Below.refl v2.heap.size v2).alloc (Nat.le_refl _) (.cells #[.int .i64 yk, .int .i64 yi, .string yt] 68)
  have hbx := hb.trans (hbk.mono hb.size)
  have HL := Lib.hid (Blk.new v2 68 [.int .i64 yk, .int .i64 yi, .string yt])
  have hv2 : w4.heap.size ≤ v2.heap.size := hb.size
  generalize World.alloc _ _ = w5 at *
  generalize hLe : v2.heap.size = L at *
  have H2 := Lib.hid (H2.out.below hbx (by omega))
  have HK := Lib.hid (HK.out.below hbx hlk)
  have HB := Lib.hid (HB.out.trans (hbx.mono (by omega)))
  clear hb hbk hbx HC4 HR4 hLe H1
  have e0 := (HK.out.cell 0).trans rfl
  have e1 := (HK.out.cell 1).trans rfl
  have e2 := (HK.out.cell 2).trans rfl
  have l0 := (HL.out.cell 0).trans rfl
  have l1 := (HL.out.cell 1).trans rfl
  have l2 := (HL.out.cell 2).trans rfl
  have g0 := (H2.out.cell 0).trans rfl
  cases b1 with
  | false =>
    have hn : o1 = none := by cases o1 with | none => rfl | some z => have := HB1.out; cases this
    obtain rfl : V = false := by rw [HV.out, hn]
    clear hn HV HZ1 HZ2 HB1 HB2 HY1 HY2
    go_wp2
    go_ret
    exact ⟨by rfl, by rw [HRR.out]; exact HB.out⟩
  | true =>
    cases b2 with
    | false =>
      have hn : o2 = none := by cases o2 with | none => rfl | some z => have := HB2.out; cases this
      obtain rfl : V = false := by rw [HV.out, hn]; cases o1 <;> rfl
      clear hn HV HZ1 HZ2 HB1 HB2 HY1 HY2
      go_wp2
      go_ret
      exact ⟨by rfl, by rw [HRR.out]; exact HB.out⟩
    | true =>
      have hn1 : o1 = some ⟨zk, zi, zt⟩ := by
        cases o1 with
        | none => have := HB1.out; cases this
        | some y => have := HZ1.out; exact congrArg some this
      have hn2 : o2 = some ⟨yk, yi, yt⟩ := by
        cases o2 with
        | none => have := HB2.out; cases this
        | some y => have := HZ2.out; exact congrArg some this
      have hf1 := HY1.out _ hn1
      have hf2 := HY2.out _ hn2
      have HV2 : Hid (V = cmpR op zk zi zt yk yi yt) := Lib.hid (by rw [HV.out, hn1, hn2])
      have HQ := Lib.hid (cmp_ref op zk zi zt yk yi yt (Nat.le_trans hf1.2.2 (by decide)) (Nat.le_trans hf2.2.2 (by decide)) w5)
      have HE := Lib.hid (cmpR_err op zk zi zt yk yi yt)
      rw [← HV2.out] at HQ HE
      clear hn1 hn2 hf1 hf2 HV HV2 HZ1 HZ2 HB1 HB2 HY1 HY2
      generalize cmpErr op zk zi zt yk yi yt = er at *
      go_wp2_with fail
      refine (HQ.out).mono ?_
      rintro e v3 ⟨rfl, hb⟩
      have HB := Lib.hid (HB.out.trans (hb.mono (by have := HL.out.lt; omega)))
      clear hb e0 e1 e2 l0 l1 l2 g0
      cases V with
      | true =>
        obtain rfl : er = 0 := HE.out rfl
        go_wp2
        go_ret
        exact ⟨by rfl, by rw [HRR.out]; exact HB.out⟩
      | false =>
        go_wp2
        go_ret
        exact ⟨by rfl, by rw [HRR.out]; exact HB.out⟩
end Go.Proofs.YtjcgkplphiedjaaDoorT

namespace Go.Proofs.YtjcgkplphiedjaaDoorT
open Go.RowKit Go.Sort

set_option maxRecDepth 20000 in
set_option maxHeartbeats 8000000 in
theorem holds_why (x : Co) (t : Ts) (A : Option Addr) (n c : Nat) (sub : List Cn) (w : World) (hx : Rd w w.heap.size 3 x.CA x.cn (kcells x.cs)) (hr : Rd w w.heap.size 3 A n (kcells sub)) (hc : ∀ z ∈ x.cs, keyK z) (hs : ∀ z ∈ sub, keyK z) :
    Calls Tryd.prog 71 #[.agg x.cells.toArray, .agg t.cells.toArray, .slice A n c] w fun e w' => e = .returned (.bool (testB x.cs sub t)) ∧ Below w.heap.size w w' := by
  obtain ⟨V, hV⟩ : ∃ V, V = testB x.cs sub t := ⟨_, rfl⟩
  rw [← hV]
  unfold testB at hV
  have HK1 := Lib.hid (fun s => term_why x s A n c sub)
  have HY := Lib.hid (fun s => bindS_keyK (s := s) hc hs)
  obtain ⟨DA, dn, dc, ds, CA, cn, cc, cs, RA, rn, rc, rs, FA, fn, fc, fs⟩ := x
  obtain ⟨op, ⟨lv, ln⟩, ⟨rv, rn'⟩⟩ := t
  dsimp only at hV hx HK1 HY
  simp only [Co.cells] at HK1
  have HA1 := Lib.hid (HK1.out ⟨lv, ln⟩)
  have HA2 := Lib.hid (HK1.out ⟨rv, rn'⟩)
  simp only [Sl.cells] at HA1 HA2
  have hy1 := HY.out ⟨lv, ln⟩
  have hy2 := HY.out ⟨rv, rn'⟩
  obtain ⟨o1, ho1⟩ : ∃ o1, bindS cs sub ⟨lv, ln⟩ = o1 := ⟨_, rfl⟩
  obtain ⟨o2, ho2⟩ : ∃ o2, bindS cs sub ⟨rv, rn'⟩ = o2 := ⟨_, rfl⟩
  rw [ho1] at HA1 hV hy1
  rw [ho2] at HA2 hV hy2
  clear ho1 ho2 HK1 HY hc hs
  have HY1 := Lib.hid hy1
  have HY2 := Lib.hid hy2
  have HV := Lib.hid hV
  have HC := Lib.hid hx
  have HR := Lib.hid hr
  clear hy1 hy2 hV hx hr
  unfold optK at HA1 HA2
  obtain ⟨z1, hz1⟩ : ∃ z, o1.getD noK = z := ⟨_, rfl⟩
  obtain ⟨z2, hz2⟩ : ∃ z, o2.getD noK = z := ⟨_, rfl⟩
  obtain ⟨b1, hb1⟩ : ∃ b, o1.isSome = b := ⟨_, rfl⟩
  obtain ⟨b2, hb2⟩ : ∃ b, o2.isSome = b := ⟨_, rfl⟩
  rw [hz1, hb1] at HA1
  rw [hz2, hb2] at HA2
  have HZ1 := Lib.hid hz1
  have HZ2 := Lib.hid hz2
  have HB1 := Lib.hid hb1
  have HB2 := Lib.hid hb2
  clear hz1 hz2 hb1 hb2
  obtain ⟨zk, zi, zt⟩ := z1
  obtain ⟨yk, yi, yt⟩ := z2
  simp only [Cn.cells] at HA1 HA2
  show Calls Tryd.prog 71 #[.agg #[.slice DA dn dc, .slice CA cn cc, .slice RA rn rc, .slice FA fn fc], .agg #[.int .i64 op, .bool lv, .int .i64 ln, .bool rv, .int .i64 rn'], .slice A n c] w _
  go_enter Tryd.func71, Tryd.ntmps71
  go_upto_region 1 with (fail)
  obtain ⟨hb, h1, h2, hsz⟩ := two_alloc w 40 119 [.slice DA dn dc, .slice CA cn cc, .slice RA rn rc, .slice FA fn fc] [.int .i64 op, .bool lv, .int .i64 ln, .bool rv, .int .i64 rn']
  generalize World.alloc (World.alloc _ _) _ = w3 at *
  have HC3 := Lib.hid (HC.out.below hb)
  have HR3 := Lib.hid (HR.out.below hb)
  generalize hRe : w.heap.size = R at *
  have HRR := Lib.hid hRe
  clear hRe HC HR
  have HB := Lib.hid hb
  have hs3 : R + 1 + 1 ≤ w3.heap.size := by omega
  have f0 := (h1.cell 0).trans rfl
  have f1 := (h1.cell 1).trans rfl
  have f2 := (h1.cell 2).trans rfl
  have f3 := (h1.cell 3).trans rfl
  have g1 := (h2.cell 1).trans rfl
  have g2 := (h2.cell 2).trans rfl
  have H1 := Lib.hid h1
  have H2 := Lib.hid h2
  clear hb hsz h1 h2
  go_wp2_with fail
  refine (HA1.out w3 (HC3.out.up (Below.refl _ _) (by omega)) (HR3.out.up (Below.refl _ _) (by omega))).mono ?_
  rintro e v1 ⟨rfl, hb⟩
  clear HA1 f0 f1 f2 f3 g1 g2
  go_upto_region 2 with (fail)
  have hbk := (Below.refl v1.heap.size v1).alloc (Nat.le_refl _) (.cells #[.int .i64 zk, .int .i64 zi, .string zt] 68)
  have hbx := hb.trans (hbk.mono hb.size)
  have HK := Lib.hid (Blk.new v1 68 [.int .i64 zk, .int .i64 zi, .string zt])
  have hlk := HK.out.lt
  have hv1 : w3.heap.size ≤ v1.heap.size := hb.size
  generalize World.alloc _ _ = w4 at *
  generalize hKe : v1.heap.size = K at *
  have H1 := Lib.hid (H1.out.below hbx (by omega))
  have H2 := Lib.hid (H2.out.below hbx (by omega))
  have HB := Lib.hid (HB.out.trans (hbx.mono (by omega)))
  have HC4 := Lib.hid (HC3.out.below (hbx.mono (by omega)))
  have HR4 := Lib.hid (HR3.out.below (hbx.mono (by omega)))
  clear hb hbk hbx HC3 HR3 hKe
  have f0 := (H1.out.cell 0).trans rfl
  have f1 := (H1.out.cell 1).trans rfl
  have f2 := (H1.out.cell 2).trans rfl
  have f3 := (H1.out.cell 3).trans rfl
  have g3 := (H2.out.cell 3).trans rfl
  have g4 := (H2.out.cell 4).trans rfl
  go_wp2_with fail
  refine (HA2.out w4 (HC4.out.up (Below.refl _ _) (by omega)) (HR4.out.up (Below.refl _ _) (by omega))).mono ?_
  rintro e v2 ⟨rfl, hb⟩
  clear HA2 f0 f1 f2 f3 g3 g4
  go_upto_region 3 with (fail)
  have hbk := (Below.refl v2.heap.size v2).alloc (Nat.le_refl _) (.cells #[.int .i64 yk, .int .i64 yi, .string yt] 68)
  have hbx := hb.trans (hbk.mono hb.size)
  have HL := Lib.hid (Blk.new v2 68 [.int .i64 yk, .int .i64 yi, .string yt])
  have hv2 : w4.heap.size ≤ v2.heap.size := hb.size
  generalize World.alloc _ _ = w5 at *
  generalize hLe : v2.heap.size = L at *
  have H2 := Lib.hid (H2.out.below hbx (by omega))
  have HK := Lib.hid (HK.out.below hbx hlk)
  have HB := Lib.hid (HB.out.trans (hbx.mono (by omega)))
  clear hb hbk hbx HC4 HR4 hLe H1
  have e0 := (HK.out.cell 0).trans rfl
  have e1 := (HK.out.cell 1).trans rfl
  have e2 := (HK.out.cell 2).trans rfl
  have l0 := (HL.out.cell 0).trans rfl
  have l1 := (HL.out.cell 1).trans rfl
  have l2 := (HL.out.cell 2).trans rfl
  have g0 := (H2.out.cell 0).trans rfl
  cases b1 with
  | false =>
    have hn : o1 = none := by cases o1 with | none => rfl | some z => have := HB1.out; cases this
    obtain rfl : V = false := by rw [HV.out, hn]
    clear hn HV HZ1 HZ2 HB1 HB2 HY1 HY2
    go_wp2
    go_ret
    exact ⟨by rfl, by rw [HRR.out]; exact HB.out⟩
  | true =>
    cases b2 with
    | false =>
      have hn : o2 = none := by cases o2 with | none => rfl | some z => have := HB2.out; cases this
      obtain rfl : V = false := by rw [HV.out, hn]; cases o1 <;> rfl
      clear hn HV HZ1 HZ2 HB1 HB2 HY1 HY2
      go_wp2
      go_ret
      exact ⟨by rfl, by rw [HRR.out]; exact HB.out⟩
    | true =>
      have hn1 : o1 = some ⟨zk, zi, zt⟩ := by
        cases o1 with
        | none => have := HB1.out; cases this
        | some y => have := HZ1.out; exact congrArg some this
      have hn2 : o2 = some ⟨yk, yi, yt⟩ := by
        cases o2 with
        | none => have := HB2.out; cases this
        | some y => have := HZ2.out; exact congrArg some this
      have hf1 := HY1.out _ hn1
      have hf2 := HY2.out _ hn2
      have HV2 : Hid (V = cmpR op zk zi zt yk yi yt) := Lib.hid (by rw [HV.out, hn1, hn2])
      have HQ := Lib.hid (cmp_any op zk zi zt yk yi yt (Nat.le_trans hf1.2.2 (by decide)) (Nat.le_trans hf2.2.2 (by decide)) w5)
      have HE := Lib.hid (cmpR_err op zk zi zt yk yi yt)
      rw [← HV2.out] at HQ HE
      clear hn1 hn2 hf1 hf2 HV HV2 HZ1 HZ2 HB1 HB2 HY1 HY2
      generalize cmpErr op zk zi zt yk yi yt = er at *
      go_wp2_with fail
      refine (HQ.out).mono ?_
      rintro e v3 ⟨rfl, hb⟩
      have HB := Lib.hid (HB.out.trans (hb.mono (by have := HL.out.lt; omega)))
      clear hb e0 e1 e2 l0 l1 l2 g0
      cases V with
      | true =>
        obtain rfl : er = 0 := HE.out rfl
        go_wp2
        go_ret
        exact ⟨by rfl, by rw [HRR.out]; exact HB.out⟩
      | false =>
        go_wp2
        go_ret
        exact ⟨by rfl, by rw [HRR.out]; exact HB.out⟩
end Go.Proofs.YtjcgkplphiedjaaDoorT
