/- The law of checks: its walk. -/
import Derived.Test.YtjcgkplphiedjaaDoorTG40
namespace Go.Proofs.YtjcgkplphiedjaaDoorT
open Go.RowKit Go.Sort
open YtjcgkplphiedjaaDoor (Pow)

theorem room_ok {w w0 : World} {R : Nat} {x y : Ln} (hm : Ln.room w R y) (h : y.core = x.core) (hx : Ln.ok w0 x) (hs : x.small) : Ln.ok w y := by
  obtain ⟨e1, e2, e3⟩ := core_lens h
  obtain ⟨l1, l2, l3⟩ := hm.lens
  have a1 := hx.a.1
  have a2 := hx.s.1
  have a3 := hx.f.1
  rw [kcells_length] at a1 a2
  rw [icells_length] at a3
  have := hs.n
  have := hs.m
  have := hs.k
  exact (hm.own l1 l2 l3).ok (by omega) (by omega) (by omega)
theorem own_ok {w w0 : World} {R : Nat} {x y : Ln} (hm : Ln.own w R y) (h : y.core = x.core) (hx : Ln.ok w0 x) (hs : x.small) : Ln.ok w y := by
  obtain ⟨e1, e2, e3⟩ := core_lens h
  have l1 := hm.a.1
  have l2 := hm.s.1
  have l3 := hm.f.1
  have a1 := hx.a.1
  have a2 := hx.s.1
  have a3 := hx.f.1
  rw [kcells_length] at a1 a2 l1 l2
  rw [icells_length] at a3 l3
  have := hs.n
  have := hs.m
  have := hs.k
  exact hm.ok (by omega) (by omega) (by omega)

set_option maxRecDepth 20000 in
set_option maxHeartbeats 16000000 in
theorem WhyChecks_walk (T : Lib.PrintTabs) (x : Co) (M : Option Addr) (m mc : Nat) (ms : List Fa) (A : Option Addr) (n c : Nat) (ls : List Ln) (w : World) (hx : x.ok w) (hxf : x.fine) (hxn : x.nil) (hxs : x.small)
    (hm : Rd w w.heap.size 2 M m (facells ms)) (hms : ∀ y ∈ ms, ((y.ok w ∧ (y.A = none → y.c = 0)) ∧ y.n ≤ 1048576) ∧ y.small) (hmb : m ≤ 1048576)
    (hr : Rd w w.heap.size 5 A n (ncells ls)) (hok : ∀ y ∈ ls, Ln.ok w y ∧ y.small) (hn : n ≤ 1048576) (ht : Tabs T w) (hp : Pow w) :
    Calls Tryd.prog 5 #[.agg x.cells.toArray, .slice M m mc, .slice A n c] w fun e w' => e = .returned (.bool true) ∧ Below w.heap.size w w' := by
  obtain ⟨j0, hj, hy0, hy1, hy2⟩ := info_parts Tryd.info66
  obtain ⟨fi, hfi, hf0, hf1, hf2⟩ := info_parts Tryd.info45
  have HX := Lib.hid hx
  have HXF := Lib.hid hxf
  have HXN := Lib.hid hxn
  have HXS := Lib.hid hxs
  have HM := Lib.hid hm
  have HMS := Lib.hid hms
  have HL := Lib.hid hr
  have HK := Lib.hid hok
  have HLB := Lib.hid (LB.of ht hp rfl)
  clear hx hxf hxn hxs hm hms hr hok ht hp
  show Calls Tryd.prog 5 #[.agg #[.slice x.DA x.dn x.dc, .slice x.CA x.cn x.cc, .slice x.RA x.rn x.rc, .slice x.FA x.fn x.fc], .slice M m mc, .slice A n c] w _
  go_enter Tryd.func5, Tryd.ntmps5
  go_upto_region 1 with (fail)
  have hb1 := (Below.refl w.heap.size w).alloc (Nat.le_refl _) (.cells #[.slice x.DA x.dn x.dc, .slice x.CA x.cn x.cc, .slice x.RA x.rn x.rc, .slice x.FA x.fn x.fc] 40)
  have h1 : Blk (w.alloc (.cells #[.slice x.DA x.dn x.dc, .slice x.CA x.cn x.cc, .slice x.RA x.rn x.rc, .slice x.FA x.fn x.fc] 40)) w.heap.size 40 [.slice x.DA x.dn x.dc, .slice x.CA x.cn x.cc, .slice x.RA x.rn x.rc, .slice x.FA x.fn x.fc] := Blk.new w _ _
  generalize World.alloc _ _ = w1 at *
  have HX1 := Lib.hid (HX.out.up hb1)
  have HM1 := Lib.hid (HM.out.up hb1 hb1.size)
  have HMS1 := Lib.hid (fun y hy => Fa.ok.up (HMS.out y hy).1.1.1 hb1)
  have HL1 := Lib.hid (HL.out.up hb1 hb1.size)
  have HK1 := Lib.hid (fun y hy => Ln.ok.up (HK.out y hy).1 hb1)
  generalize hR : w.heap.size = R at *
  have HRR := Lib.hid hR
  clear hR HX HM HL
  have HB1 := Lib.hid hb1
  have H1 := Lib.hid h1
  have hs1 := h1.lt
  clear hb1 h1
  go_wp2_with fail
  refine (copied_any A n c ls w1 HL1.out (fun y hy => HK1.out y hy) (by omega)).mono ?_
  rintro e w2 ⟨A1, c1, ls1, rfl, ho1, hc1, hx1, hb2⟩
  have HO1 := Lib.hid ho1
  have HC1 := Lib.hid hc1
  have HX2 := Lib.hid hx1
  have HB2 := Lib.hid hb2
  have hs2 : w1.heap.size ≤ w2.heap.size := hb2.size
  clear ho1 hc1 hx1 hb2
  go_wp2_with fail
  refine (roomy_any A n c ls w2 (HL1.out.up HB2.out hs2) (fun y hy => Ln.ok.up (HK1.out y hy) HB2.out) (by omega) (fun y hy => by have := (HK.out y hy).2.n; omega) (fun y hy => by have := (HK.out y hy).2.m; omega) (fun y hy => by have := (HK.out y hy).2.k; omega)).mono ?_
  rintro e w3 ⟨A2, D, ls2, z, rfl, ho2, hz, hc2, hm2, hb3⟩
  have hlen2 : ls2.length = n := by have := ho2.1; rw [ncells_length, List.length_append, List.length_singleton] at this; omega
  obtain ⟨g, rfl, _, _, _, _⟩ := room_pre (ncells_append ls2 [z] ▸ ho2) (by rw [ncells_length, hlen2])
  have HO2 := Lib.hid ho2
  have HZ := Lib.hid hz
  have HC2 := Lib.hid hc2
  have HM2 := Lib.hid hm2
  have HN2 := Lib.hid hlen2
  have HB3 := Lib.hid (HB2.out.trans (hb3.mono hs2))
  have K3 := Lib.hid hb3
  have hs3 : w1.heap.size ≤ w3.heap.size := HB3.out.size
  clear ho2 hz hc2 hm2 hlen2 hb3
  have H13 := Lib.hid (H1.out.below HB3.out hs1)
  have f0 : w3.cell? ⟨R, 0, none⟩ = some (.slice x.DA x.dn x.dc) := H13.out.cell 0
  have f1 : w3.cell? ⟨R, 1, none⟩ = some (.slice x.CA x.cn x.cc) := H13.out.cell 1
  have f2 : w3.cell? ⟨R, 2, none⟩ = some (.slice x.RA x.rn x.rc) := H13.out.cell 2
  have f3 : w3.cell? ⟨R, 3, none⟩ = some (.slice x.FA x.fn x.fc) := H13.out.cell 3
  go_wp2_with fail
  refine (twin_any x w3 (HX1.out.up HB3.out) HXF.out HXN.out HXS.out).mono ?_
  rintro e w4 ⟨x', he, hcx, hokx, hfx, hb4⟩
  have he2 : e = .returned (.agg #[.slice x'.DA x'.dn x'.dc, .slice x'.CA x'.cn x'.cc, .slice x'.RA x'.rn x'.rc, .slice x'.FA x'.fn x'.fc]) := he
  clear he
  subst he2
  have HCX := Lib.hid hcx
  have HXY := Lib.hid hokx
  have HB4 := Lib.hid (HB3.out.trans (hb4.mono hs3))
  have K4 := Lib.hid hb4
  have hs4 : w1.heap.size ≤ w4.heap.size := HB4.out.size
  have hs34 : w3.heap.size ≤ w4.heap.size := hb4.size
  have HFN : Hid (x'.fn ≤ 1048576) := Lib.hid (by rw [hfx]; exact HXS.out.f)
  clear f0 f1 f2 f3 H13 hcx hokx hfx hb4
  go_upto_region 4 with (fail)
  have hba := (Below.refl w4.heap.size w4).alloc (Nat.le_refl _) (.cells #[.slice x'.DA x'.dn x'.dc, .slice x'.CA x'.cn x'.cc, .slice x'.RA x'.rn x'.rc, .slice x'.FA x'.fn x'.fc] 40)
  have h5 : Blk (w4.alloc (.cells #[.slice x'.DA x'.dn x'.dc, .slice x'.CA x'.cn x'.cc, .slice x'.RA x'.rn x'.rc, .slice x'.FA x'.fn x'.fc] 40)) w4.heap.size 40 [.slice x'.DA x'.dn x'.dc, .slice x'.CA x'.cn x'.cc, .slice x'.RA x'.rn x'.rc, .slice x'.FA x'.fn x'.fc] := Blk.new w4 _ _
  have HXY5 := Lib.hid (HXY.out.up hba)
  have HB5 := Lib.hid (HB4.out.trans (hba.mono hs4))
  have K5 := Lib.hid (K4.out.trans (hba.mono hs34))
  clear hba HXY
  generalize World.alloc _ _ = w5 at *
  generalize hK : w4.heap.size = K at *
  clear hK
  have H5 := Lib.hid h5
  have hs5 : w1.heap.size ≤ w5.heap.size := HB5.out.size
  have hs35 : w3.heap.size ≤ w5.heap.size := K5.out.size
  have hs23 : w2.heap.size ≤ w3.heap.size := K3.out.size
  have K25 := Lib.hid (K3.out.trans (K5.out.mono hs23))
  clear h5
  go_wp2_with fail
  refine (factsOf_any M m mc ms w5 (HM1.out.up HB5.out hs5) (fun y hy => ⟨⟨Fa.ok.up (HMS1.out y hy) HB5.out, (HMS.out y hy).1.1.2⟩, (HMS.out y hy).1.2⟩) hmb).mono ?_
  rintro e w6 ⟨A3, c3, ms2, rfl, ho3, hc3, hx3, hb6⟩
  obtain ⟨Qf, hQ⟩ : ∃ Qf, w5.heap.size = Qf := ⟨_, rfl⟩
  have hs56 : w5.heap.size ≤ w6.heap.size := hb6.size
  rw [hQ] at ho3 hx3
  have hown := ho3
  have hml : ms2.length = m := by have := ho3.1; rw [facells_length] at this; omega
  go_wp2_with (at_builtin; go_must (refine wpList_append_own _ rfl _ _ 41 rfl Qf 45 fi _ 2 40 Tryd.underlying41 hfi hf0 hf1 hf2 rfl (by decide) _ _ _ rfl (hown.alloc _) ⟨w6.heap.size, 0, none⟩ 1 1 (Fa.cells ⟨⟨#[98, 101, 104, 105, 110, 100]⟩, none, 0, 0, []⟩) rfl rfl (fun j u h => new_cells _ _ _ j u h) (Fa.one _) (by unfold maxLen; omega) (by omega) (by simp; omega) ?_))
  intro v7 w7 hown7 hg7 _
  obtain ⟨gf, Df, cur, rfl, hgb, hgk, hgn, hgm, _⟩ := own_blk hown7 (by omega)
  have hba := (Below.refl w6.heap.size w6).alloc (Nat.le_refl _) (.cells (Fa.cells ⟨⟨#[98, 101, 104, 105, 110, 100]⟩, none, 0, 0, []⟩).toArray 45)
  have hb57 : Below w5.heap.size w5 w7 := (hb6.trans (hba.mono hs56)).grown hg7 (by simp; omega) (fun q hq => by have := (hown.lt q hq).1; omega)
  have HH : Hid (Law T w7 R K w2.heap.size Qf g n D gf m Df A1 M x x' ms ms2 ls1 ls2 z ⟨⟨#[98, 101, 104, 105, 110, 100]⟩, none, 0, 0, []⟩) := Lib.hid
    ⟨own_below (own_below HO2.out K5.out) hb57, fun y hy => ((HM2.out y hy).below K5.out).below hb57,
     fun y hy => by
       obtain ⟨v, hv, he⟩ := core_back HC2.out hy
       exact ((room_ok (HM2.out y hy) he.symm (HK.out v hv).1 (HK.out v hv).2).up K5.out).up hb57,
     ((own_rd HO1.out).up K25.out K25.out.size).up hb57 hb57.size,
     fun y hy => by
       obtain ⟨v, hv, he⟩ := core_back HC1.out hy
       exact ((own_ok (HX2.out y hy) he.symm (HK.out v hv).1 (HK.out v hv).2).up K25.out).up hb57,
     (HX1.out.up HB5.out).up hb57, HXY5.out.up hb57, (HM1.out.up HB5.out hs5).up hb57 hb57.size, fun y hy => (Fa.ok.up (HMS1.out y hy) HB5.out).up hb57,
     by rw [facells_append]; simpa [facells] using hown7,
     fun y hy => Fa.own.ok (((hx3 y hy).below hba).kept (hown.alloc _) hg7),
     (H1.out.below HB5.out hs1).below hb57 (by omega), H5.out.below hb57 H5.out.lt, HLB.out.below ((HB1.out.trans (HB5.out.mono (by omega))).trans (hb57.mono (by omega)))⟩
  have HB7 : Hid (Below R w w7) := Lib.hid ((HB1.out.trans (HB5.out.mono (by omega))).trans (hb57.mono (by omega)))
  have HCF := Lib.hid hc3
  have hmD : m ≤ Df := by omega
  have hDm : Df ≤ 9223372036854775807 := by unfold maxLen at hgm; omega
  have HSL : Hid (∀ y ∈ ls2, y.small) := Lib.hid fun y hy => by
    obtain ⟨v, hv, he⟩ := core_back HC2.out hy
    exact small_core he.symm (HK.out v hv).1 (HH.out.ok y hy) (HK.out v hv).2
  have HSF : Hid (∀ y ∈ ms2, y.small) := Lib.hid fun y hy => by
    have : y.core ∈ ms.map Fa.core := hc3 ▸ List.mem_map.2 ⟨y, hy, rfl⟩
    obtain ⟨v, hv, he⟩ := List.mem_map.1 this
    exact fa_small_core he.symm (HMS.out v hv).1.1.1 (HH.out.fos y hy) (HMS.out v hv).2
  have HFY : Hid x'.fine := Lib.hid (Co.fine_core HCX.out HX1.out HXY5.out HXF.out)
  have HCO : Hid (rightAt x' ms2 = rightAt x ms) := Lib.hid (by
    funext l
    exact rightAt_core HCX.out (Co.tidy_ok HX1.out) (Co.tidy_ok HXY5.out) hc3 l)
  have HCC : Hid (ls2.map Ln.core = ls1.map Ln.core) := Lib.hid (HC2.out.trans HC1.out.symm)
  clear hown7 hown ho3 hx3 hc3 hg7 hba hb57 hb6 hgb hgk hgn hgm HO1 HC1 HX2 HO2 HC2 HM2 HB2 HB3 HB4 HB5 K3 K4 K5 K25 HXY5 H1 H5 HX1 HM1 HMS1 HL1 HK1 HB1 HLB hs1 hs2 hs3 hs4 hs34 hs5 hs35 hs23 hs56 hml hQ
  obtain ⟨hcapn, hcapm⟩ := HH.out.caps
  obtain ⟨hcapf, _, hbh⟩ := HH.out.capf
  have HBH := Lib.hid hbh
  clear hbh
  have f0 : w7.cell? ⟨R, 0, none⟩ = some (.slice x.DA x.dn x.dc) := HH.out.b.cell 0
  have f1 : w7.cell? ⟨R, 1, none⟩ = some (.slice x.CA x.cn x.cc) := HH.out.b.cell 1
  have f2 : w7.cell? ⟨R, 2, none⟩ = some (.slice x.RA x.rn x.rc) := HH.out.b.cell 2
  have f3 : w7.cell? ⟨R, 3, none⟩ = some (.slice x.FA x.fn x.fc) := HH.out.b.cell 3
  go_wp2_with fail
  refine (check_ref x M m mc ms (some ⟨g, 0, none⟩) n D ls2 w7 HH.out.cx HXF.out HH.out.fm HH.out.fms HH.out.rd HH.out.ok (fun y hy => (HSL.out y hy).ss)).mono ?_
  rintro e w8 ⟨⟨V, rfl, hV⟩, hb8⟩
  have hR7 : R ≤ w7.heap.size := Nat.le_of_lt HH.out.b.lt
  have HH8 := Lib.hid (HH.out.up hb8)
  have HB8 := Lib.hid (HB7.out.trans (hb8.mono hR7))
  have HV := Lib.hid hV
  clear f0 f1 f2 f3 hV hb8 HB7 hR7
  have f0 : w8.cell? ⟨K, 0, none⟩ = some (.slice x'.DA x'.dn x'.dc) := HH8.out.b'.cell 0
  have f1 : w8.cell? ⟨K, 1, none⟩ = some (.slice x'.CA x'.cn x'.cc) := HH8.out.b'.cell 1
  have f2 : w8.cell? ⟨K, 2, none⟩ = some (.slice x'.RA x'.rn x'.rc) := HH8.out.b'.cell 2
  have f3 : w8.cell? ⟨K, 3, none⟩ = some (.slice x'.FA x'.fn x'.fc) := HH8.out.b'.cell 3
  go_wp2_with fail
  refine (check_why T x' (some ⟨gf, 0, none⟩) m Df ms2 (some ⟨g, 0, none⟩) n D ls2 w8 HH8.out.cy HFY.out HFN.out HH8.out.rdf HH8.out.fos HSF.out HH8.out.rd HH8.out.ok HSL.out (by omega) HH8.out.tabs.tabs.1 HH8.out.tabs.tabs.2).mono ?_
  rintro e w9 ⟨⟨V', rfl, hV'⟩, hb9⟩
  obtain rfl : V' = V := by
    rw [HCO.out] at hV'
    exact hV'.unique HV.out
  have hR8 : R ≤ w8.heap.size := Nat.le_of_lt HH8.out.b.lt
  have HH9 := Lib.hid (HH8.out.up hb9)
  have HB9 := Lib.hid (HB8.out.trans (hb9.mono hR8))
  have tv : (V' != V') = false := by simp
  clear f0 f1 f2 f3 hV' hb9 HB8 hR8 HH8 HV HH
  go_upto_region 11 with (fail)
  clear tv
  go_loopg [12] n (fun gk u12 wr => ∃ i : Nat, u12 = .int .i64 i ∧ i ≤ n ∧ Hid (gk = n - i) ∧ Hid (Below R w wr) ∧ Hid (Law T wr R K w2.heap.size Qf g n D gf m Df A1 M x x' ms ms2 ls1 ls2 z ⟨⟨#[98, 101, 104, 105, 110, 100]⟩, none, 0, 0, []⟩))
  case atStart => exact ⟨0, rfl, Nat.zero_le _, Lib.hid (by omega), HB9, HH9⟩
  case round =>
    clear HB9 HH9
    obtain ⟨i, rfl, hi, HG, HB, HH⟩ := hrel
    have hRr : R ≤ wr.heap.size := Nat.le_of_lt HH.out.b.lt
    by_cases hlt : i < n
    · have hiD : i ≤ D := by omega
      have HR1 := Lib.hid (Rd_lines HH.out.rd hi HN2.out)
      go_wp2_with (at_builtin; go_must (refine wpList_append_all rfl _ _ 25 rfl wr.heap.size 66 j0 _ 5 96 Tryd.underlying25 hj hy0 hy1 hy2 rfl (by decide) _ 0 [] rfl (World.ownsRow_nil _ _ _ _) (some ⟨g, 0, none⟩) i D (ncells (ls2.take i)) rfl (fun h => by cases h) HR1.out (lns_one _) (by unfold maxLen; omega) (by omega) (Nat.le_refl _) ?_))
      intro v4 w4 hown4 hg4
      have hb4 : Below wr.heap.size wr w4 := (Below.refl _ _).grown hg4 (Nat.le_refl _) (fun q hq => by cases hq)
      have HH4 := Lib.hid (HH.out.up hb4)
      have hs4 : wr.heap.size ≤ w4.heap.size := hb4.size
      have HB4 := Lib.hid (HB.out.trans (hb4.mono hRr))
      obtain ⟨A4, d4, rfl, _⟩ := own_slice hown4
      have hown := hown4
      have HR2 := Lib.hid (Rd_drop HH4.out.rd (i := i + 1) (by omega) HN2.out)
      have hsl := slice_lines g n D (i + 1) (by omega) (by omega)
      have hbase := hs4
      clear hown4 hg4 HR1
      go_wp2_with (first | (refine wpList_slice_by rfl 25 _ _ rfl _ _ (.slice (some ⟨g, (i + 1) * 5, none⟩) (n - (i + 1)) (D - (i + 1))) rfl rfl (hsl _) ?_) | (at_builtin; go_must (refine wpList_append_all rfl _ _ 25 rfl wr.heap.size 66 j0 _ 5 96 Tryd.underlying25 hj hy0 hy1 hy2 rfl (by decide) _ _ _ rfl hown (some ⟨g, (i + 1) * 5, none⟩) (n - (i + 1)) (D - (i + 1)) (ncells (ls2.drop (i + 1))) rfl (fun h => by cases h) HR2.out (lns_one _) (by unfold maxLen; omega) (by omega) hbase ?_)))
      intro v5 w5 hown5 hg5
      have hb5 : Below wr.heap.size w4 w5 := (Below.refl _ _).grown hg5 hs4 (fun q hq => (hown.lt q hq).1)
      have HH5 := Lib.hid (HH.out.up (hb4.trans hb5))
      have HB5 := Lib.hid (HB.out.trans ((hb4.trans hb5).mono hRr))
      rw [← ncells_append] at hown5
      generalize hN' : i + (n - (i + 1)) = N' at hown5
      obtain ⟨L', hL'⟩ : ∃ L', L' = ls2.take i ++ ls2.drop (i + 1) := ⟨_, rfl⟩
      rw [← hL'] at hown5
      have HML : Hid (∀ y ∈ L', y ∈ ls2) := Lib.hid fun y hy => by
        rw [hL'] at hy
        rcases List.mem_append.1 hy with hy | hy
        · exact List.mem_of_mem_take hy
        · exact List.mem_of_mem_drop hy
      obtain ⟨A5, d5, rfl, _⟩ := own_slice hown5
      have hcap5 := own_cap hown5
      have HL5 := Lib.hid (own_rd hown5)
      have hR5 : R ≤ w5.heap.size := Nat.le_of_lt HH5.out.b.lt
      clear hN' hL' hown5 hg5 hb5 hb4 hown HR2 hsl HH4 HB4 HH HB hbase hs4
      have f0 : w5.cell? ⟨R, 0, none⟩ = some (.slice x.DA x.dn x.dc) := HH5.out.b.cell 0
      have f1 : w5.cell? ⟨R, 1, none⟩ = some (.slice x.CA x.cn x.cc) := HH5.out.b.cell 1
      have f2 : w5.cell? ⟨R, 2, none⟩ = some (.slice x.RA x.rn x.rc) := HH5.out.b.cell 2
      have f3 : w5.cell? ⟨R, 3, none⟩ = some (.slice x.FA x.fn x.fc) := HH5.out.b.cell 3
      go_wp2_with fail
      refine (check_ref x M m mc ms A5 N' d5 L' w5 HH5.out.cx HXF.out HH5.out.fm HH5.out.fms HL5.out (fun y hy => HH5.out.ok y (HML.out y hy)) (fun y hy => (HSL.out y (HML.out y hy)).ss)).mono ?_
      rintro e w6 ⟨⟨V, rfl, hV⟩, hb6⟩
      have HH6 := Lib.hid (HH5.out.up hb6)
      have HB6 := Lib.hid (HB5.out.trans (hb6.mono hR5))
      have HL6 := Lib.hid (HL5.out.up hb6 hb6.size)
      have HV := Lib.hid hV
      have hR6 : R ≤ w6.heap.size := Nat.le_of_lt HH6.out.b.lt
      clear f0 f1 f2 f3 hV hb6 HH5 HB5 HL5 hR5
      have f0 : w6.cell? ⟨K, 0, none⟩ = some (.slice x'.DA x'.dn x'.dc) := HH6.out.b'.cell 0
      have f1 : w6.cell? ⟨K, 1, none⟩ = some (.slice x'.CA x'.cn x'.cc) := HH6.out.b'.cell 1
      have f2 : w6.cell? ⟨K, 2, none⟩ = some (.slice x'.RA x'.rn x'.rc) := HH6.out.b'.cell 2
      have f3 : w6.cell? ⟨K, 3, none⟩ = some (.slice x'.FA x'.fn x'.fc) := HH6.out.b'.cell 3
      go_wp2_with fail
      refine (check_why T x' (some ⟨gf, 0, none⟩) m Df ms2 A5 N' d5 L' w6 HH6.out.cy HFY.out HFN.out HH6.out.rdf HH6.out.fos HSF.out HL6.out (fun y hy => HH6.out.ok y (HML.out y hy)) (fun y hy => HSL.out y (HML.out y hy)) hcap5 HH6.out.tabs.tabs.1 HH6.out.tabs.tabs.2).mono ?_
      rintro e w7 ⟨⟨V2, rfl, hV'⟩, hb7⟩
      obtain rfl : V2 = V := by
        rw [HCO.out] at hV'
        exact hV'.unique HV.out
      have HH7 := Lib.hid (HH6.out.up hb7)
      have HB7 := Lib.hid (HB6.out.trans (hb7.mono hR6))
      have tv : (V2 != V2) = false := by simp
      clear f0 f1 f2 f3 hV' hb7 HH6 HB6 HL6 HV hR6
      go_wp2
      go_roundg (n - (i + 1))
      case measure => have := HG.out; omega
      case rel => exact ⟨i + 1, by go_num, by omega, Lib.hid rfl, HB7, HH7⟩
    · obtain rfl : n = i := by omega
      have hm1 : m + 1 ≤ Df := hcapf
      go_wp2_with fail
      refine (lines_same (some ⟨g, 0, none⟩) A1 n D c1 ls2 ls1 wr HH.out.rd HH.out.kept HH.out.ok HH.out.ok1 HCC.out).mono ?_
      rintro e w11 ⟨rfl, hb11⟩
      have HH11 := Lib.hid (HH.out.up hb11)
      have HB11 := Lib.hid (HB.out.trans (hb11.mono hRr))
      clear hb11 HH HB hRr
      go_wp2_with fail
      refine (marked_true g n D w2.heap.size ls2 z w11 HZ.out HH11.out.own HH11.out.room).mono ?_
      rintro e w12 ⟨rfl, hb12⟩
      have HH12 := Lib.hid (HH11.out.up hb12)
      have HB12 := Lib.hid (HB11.out.trans (hb12.mono (Nat.le_of_lt HH11.out.b.lt)))
      clear hb12 HH11 HB11
      have f0 : w12.cell? ⟨R, 0, none⟩ = some (.slice x.DA x.dn x.dc) := HH12.out.b.cell 0
      have f1 : w12.cell? ⟨R, 1, none⟩ = some (.slice x.CA x.cn x.cc) := HH12.out.b.cell 1
      have f2 : w12.cell? ⟨R, 2, none⟩ = some (.slice x.RA x.rn x.rc) := HH12.out.b.cell 2
      have f3 : w12.cell? ⟨R, 3, none⟩ = some (.slice x.FA x.fn x.fc) := HH12.out.b.cell 3
      have k0 : w12.cell? ⟨K, 0, none⟩ = some (.slice x'.DA x'.dn x'.dc) := HH12.out.b'.cell 0
      have k1 : w12.cell? ⟨K, 1, none⟩ = some (.slice x'.CA x'.cn x'.cc) := HH12.out.b'.cell 1
      have k2 : w12.cell? ⟨K, 2, none⟩ = some (.slice x'.RA x'.rn x'.rc) := HH12.out.b'.cell 2
      have k3 : w12.cell? ⟨K, 3, none⟩ = some (.slice x'.FA x'.fn x'.fc) := HH12.out.b'.cell 3
      go_wp2_with fail
      refine (core_same x' x w12 HH12.out.cy HH12.out.cx HCX.out).mono ?_
      rintro e w13 ⟨rfl, hb13⟩
      have HH13 := Lib.hid (HH12.out.up hb13)
      have HB13 := Lib.hid (HB12.out.trans (hb13.mono (Nat.le_of_lt HH12.out.b.lt)))
      clear hb13 HH12 HB12 f0 f1 f2 f3 k0 k1 k2 k3
      go_wp2_with fail
      refine (facts_same (some ⟨gf, 0, none⟩) M m Df mc ms2 ms w13 HH13.out.rdf HH13.out.fm HH13.out.fos HH13.out.fms HCF.out).mono ?_
      rintro e w14 ⟨rfl, hb14⟩
      have HH14 := Lib.hid (HH13.out.up hb14)
      have HB14 := Lib.hid (HB13.out.trans (hb14.mono (Nat.le_of_lt HH13.out.b.lt)))
      have hbe : w14.cell? ⟨gf, m * 2, none⟩ = some (.string ⟨#[98, 101, 104, 105, 110, 100]⟩) := HH14.out.capf.2.2
      clear hb14 HH13 HB13
      go_wp2
      go_ret
      exact ⟨by rfl, by rw [HRR.out]; exact HB14.out⟩
end Go.Proofs.YtjcgkplphiedjaaDoorT
