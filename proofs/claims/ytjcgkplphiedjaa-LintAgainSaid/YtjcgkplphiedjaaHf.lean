/- What Trim leaves: the document's. | What Trim leaves: the program's. -/
import Derived.Test.YtjcgkplphiedjaaGa
import Derived.Test.YtjcgkplphiedjaaHd
import Derived.Test.YtjcgkplphiedjaaHa
import Derived.Test.YtjcgkplphiedjaaHb
import Derived.Test.YtjcgkplphiedjaaHe
namespace Go.Proofs.Ytjcgkplphiedjaa
open Go.RowKit Go.Sort

/-- A clause whose head and body lie in rows of one's own, its literals' lists where they lay before. -/
structure Cl.mix (w0 w : World) (R : Nat) (x : Cl) : Prop where
  h : At.own w R x.h
  b : w.ownsRow R 61 14 (.slice x.A x.n x.c) x.n (lcells x.ls)
  l : ∀ y ∈ x.ls, Li.ok w0 y
  s : x.h.es.length * 40 ≤ 140737488351232
  n : x.n * 152 ≤ 140737488351232
section
variable {w0 w w' : World} {R : Nat} {x : Cl}
theorem Cl.mix.below (h : Cl.mix w0 w R x) (hb : Below w.heap.size w w') : Cl.mix w0 w' R x := ⟨h.h.below hb, own_below h.b hb, h.l, h.s, h.n⟩
theorem Cl.mix.kept {R' n : Nat} {v : Value} {xs : List Value} (h : Cl.mix w0 w R x) (h' : w.ownsRow R' 45 4 v n xs) (hg : w.grownBy w' v.ownBlock) : Cl.mix w0 w' R x :=
  ⟨own_kept_types h.h h' (by decide) hg, own_kept_types h.b h' (by decide) hg, h.l, h.s, h.n⟩
theorem Cl.mix.set {g : Nat} {t : TypeId} {cs : List Value} (h : Cl.mix w0 w R x) (hg : Blk w g t cs) (h1 : t ≠ 33) (h2 : t ≠ 61) (i : Nat) (u : Value) : Cl.mix w0 (w.setCell ⟨g, i, none⟩ u) R x :=
  ⟨own_setCell_blk h.h hg h1 i u, own_setCell_blk h.b hg h2 i u, h.l, h.s, h.n⟩
theorem Cl.mix.ok (h : Cl.mix w0 w R x) (hb : Below w0.heap.size w0 w) : Cl.ok w x := ⟨h.h.ok h.s, own_rd h.b, h.n, fun y hy => At.ok.up (h.l y hy) hb⟩
end
/-- What the walk knows of a clause that it has made. -/
structure Made (w0 w : World) (R : Nat) (x : Cl) : Prop where
  m : Cl.mix w0 w R x
  f : x.fines
  i : x.ints
  e : clauseE x = 0
theorem made_fit {w0 w : World} {R : Nat} {l : List Cl} (h : ∀ x ∈ l, Made w0 w R x) (hb : Below w0.heap.size w0 w) : Fit' w l := fun x hx => ⟨(h x hx).m.ok hb, (h x hx).f, (h x hx).i, (h x hx).e⟩
theorem clauseE_core {x y : Cl} (h : x.core = y.core) : clauseE x = clauseE y := by rw [← clauseE_strip x, core_strip h, clauseE_strip]
theorem trimN_succ (l : List Cl) (i : Nat) (h : i < l.length) : trimN l (i + 1) = trimN l i ++ (if keptB l i l[i] = true then [l[i]] else []) := by
  rw [trimN]
  unfold keptOne
  rw [List.getElem?_eq_getElem h]
theorem own_at {w : World} {R n c : Nat} {A : Option Addr} {l : List Cl} (h : w.ownsRow R 45 4 (.slice A n c) n (ccells l)) (k : Nat) (hk : k < n) :
    ∃ g, ∃ hk1 : k < l.length, A = some ⟨g, 0, none⟩ ∧ g < w.heap.size ∧ ∀ j u, j < 4 → l[k].cells[j]? = some u → w.cell? ⟨g, k * 4 + j, none⟩ = some u := by
  obtain ⟨g, cap, cur, hv, _, hg, _, _, _, _⟩ := own_blk h (by omega)
  injection hv with hv1
  subst hv1
  obtain ⟨b, o, hk1, hA, hB, hc⟩ := (own_rd h).at Cl.cells 4 (fun _ => rfl) (by omega) k hk
  injection hA with hA
  injection hA with h1 h2
  subst h1 h2
  exact ⟨g, hk1, rfl, hB, fun j u hj hu => by have := hc j u hj hu; rwa [Nat.zero_add] at this⟩

end Go.Proofs.Ytjcgkplphiedjaa

namespace Go.Proofs.Ytjcgkplphiedjaa
open Go.RowKit Go.Sort

/-- A clause whose lists are all the walk's own, and what is known of it. -/
structure MadeO (w : World) (R : Nat) (x : Cl) : Prop where
  o : Cl.own w R x
  s : x.h.es.length * 40 ≤ 140737488351232
  t : ∀ y ∈ x.ls, y.a.es.length * 40 ≤ 140737488351232
  n : x.n * 152 ≤ 140737488351232
  f : x.fines
  i : x.ints
  e : clauseE x = 0
section
variable {w w' : World} {R : Nat} {x : Cl}
theorem MadeO.turn (h : MadeO w R x) (h' : Cl.own w' R x) : MadeO w' R x := ⟨h', h.s, h.t, h.n, h.f, h.i, h.e⟩
theorem MadeO.below (h : MadeO w R x) (hb : Below w.heap.size w w') : MadeO w' R x := h.turn (h.o.below hb)
theorem MadeO.kept {R' n : Nat} {v : Value} {xs : List Value} (h : MadeO w R x) (h' : w.ownsRow R' 45 4 v n xs) (hg : w.grownBy w' v.ownBlock) : MadeO w' R x := h.turn (h.o.kept h' hg)
theorem MadeO.set {g : Nat} {t : TypeId} {cs : List Value} (h : MadeO w R x) (hg : Blk w g t cs) (h1 : t ≠ 33) (h2 : t ≠ 61) (i : Nat) (u : Value) : MadeO (w.setCell ⟨g, i, none⟩ u) R x := h.turn (h.o.set hg h1 h2 i u)
theorem MadeO.le {R' : Nat} (h : MadeO w R x) (hb : R' ≤ R) : MadeO w R' x := ⟨h.o.le hb, h.s, h.t, h.n, h.f, h.i, h.e⟩
theorem MadeO.ok (h : MadeO w R x) : Cl.ok w x := ⟨h.o.h.ok h.s, own_rd h.o.b, h.n, fun y hy => (h.o.l y hy).ok (h.t y hy)⟩
end
theorem madeO_fit {w : World} {R : Nat} {l : List Cl} (h : ∀ x ∈ l, MadeO w R x) : Fit' w l := fun x hx => ⟨(h x hx).ok, (h x hx).f, (h x hx).i, (h x hx).e⟩
theorem others_kept (cs : List Cl) (i : Nat) (x : Cl) : (((othersF cs i x).length : Int) == 0) = keptB cs i x := by
  unfold othersF keptB
  cases twiceO cs i x with
  | some j => rfl
  | none =>
    cases coveredO cs i x with
    | some j => rfl
    | none => rfl

set_option maxRecDepth 200000 in
set_option maxHeartbeats 16000000 in
theorem trim_any (A : Option Addr) (n c : Nat) (cs : List Cl) (w : World) (hr : Rd w w.heap.size 4 A n (ccells cs)) (hok : ∀ x ∈ cs, Cl.ok w x) (hf : ∀ x ∈ cs, x.fines) (hin : ∀ x ∈ cs, x.ints) (hn : n * 72 ≤ 140737488351232) :
    Calls Try.prog 22 #[.agg #[.slice A n c]] w fun e w' => ∃ A' c' cs', e = .returned (.agg #[.slice A' cs'.length c']) ∧ w'.ownsRow w.heap.size 45 4 (.slice A' cs'.length c') cs'.length (ccells cs') ∧ cs'.map Cl.core = (trimF cs).map Cl.core ∧
      (∀ x ∈ cs', Cl.own w' w.heap.size x) ∧ Below w.heap.size w w' := by
  obtain ⟨j0, hj, hy0, hy1, hy2⟩ := info_parts Try.info45
  have HL := Lib.hid hr
  have HK := Lib.hid hok
  have hmb := hr.2.1
  have hlen : cs.length = n := by have := hr.1; rw [ccells_length] at this; omega
  have HN := Lib.hid hlen
  have HFI := Lib.hid hf
  have HIN := Lib.hid hin
  have HKW := Lib.hid (fun W h1 h2 => wellP_any A n c cs W h1 h2 hf)
  have HV1 : Hid (wellE cs ≠ 0 → trimF cs = cs) := Lib.hid (fun h => by unfold trimF; rw [if_neg h])
  have HV2 : Hid (wellE cs = 0 → trimF cs = trimN (trimL cs) (trimL cs).length) := Lib.hid (fun h => by unfold trimF; rw [if_pos h])
  have HWP : Hid (wellE cs = 0 → n ≤ 512 ∧ ∀ x ∈ cs, clauseE x = 0) := Lib.hid (fun h => by obtain ⟨h1, h2⟩ := wellE_parts h; exact ⟨by omega, h2⟩)
  clear hr hok hlen hf hin
  generalize trimF cs = F at *
  generalize wellE cs = we at *
  go_enter Try.func22, Try.ntmps22
  go_upto_region 2 with (fail)
  obtain ⟨hb3, h1, h2, hs3⟩ := two_alloc w 37 37 [.slice A n c] [.slice none 0 0]
  generalize World.alloc (World.alloc _ _) _ = w3 at *
  generalize hR : w.heap.size = R at *
  have HRR := Lib.hid hR
  clear hR
  have hR3 : R ≤ w3.heap.size := by omega
  have HB3 := Lib.hid hb3
  have H1 := Lib.hid h1
  have H2 := Lib.hid h2
  clear hb3 h1 h2 hs3
  have f0 := (H1.out.cell 0).trans rfl
  have kw := HKW.out w3 (HL.out.up HB3.out hR3) (fun x hx => (HK.out x hx).up (HRR.out ▸ HB3.out))
  go_wp2_with fail
  refine kw.mono ?_
  rintro e w4 ⟨rfl, hb4⟩
  have HB4 := Lib.hid (HB3.out.trans (hb4.mono hR3))
  have H14 := Lib.hid (H1.out.below hb4 H1.out.lt)
  have H24 := Lib.hid (H2.out.below hb4 H2.out.lt)
  clear kw hb4 f0 H1 H2 HB3 HKW hR3
  have f0 := (H14.out.cell 0).trans rfl
  by_cases hwe : we = 0
  rotate_left
  · have t1 : (we == 0) = false := by simpa using hwe
    obtain rfl : F = cs := HV1.out hwe
    clear HV1 HV2 HWP hwe HFI HIN
    go_upto_region 4 with (fail)
    clear f0
    go_loopg [3, 16] n (fun gk u3 u16 wr => ∃ (i : Nat) (acc : List Cl), u16 = .int .i64 i ∧ i ≤ n ∧ Hid (gk = n - i) ∧ Hid (acc.length = i) ∧ Hid (Below R w wr) ∧ Hid (Blk wr (R + 1) 37 [.slice none 0 0]) ∧
      Hid (wr.ownsRow R 45 4 u3 i (ccells acc)) ∧ Hid (acc.map Cl.core = (F.take i).map Cl.core) ∧ Hid (∀ y ∈ acc, Cl.own wr R y))
    case atStart => exact ⟨0, [], rfl, Nat.zero_le _, Lib.hid (by omega), Lib.hid rfl, HB4, H24, Lib.hid (World.ownsRow_nil _ _ _ _), Lib.hid rfl, Lib.hid (by simp)⟩
    case round =>
      clear HB4 H14 H24
      obtain ⟨i, acc, rfl, hin, HG, HQ, HB, H2, HU, HC, HW⟩ := hrel
      have hsr : R + 1 < wr.heap.size := H2.out.lt
      by_cases hlt : i < n
      · obtain ⟨B', off, hk1, rfl, hB, hc⟩ := (HL.out.below HB.out).at Cl.cells 4 (fun _ => rfl) (by omega) i hlt
        have c0 := hc 0 _ (by omega) rfl
        have c1 := hc 1 _ (by omega) rfl
        have c2 := hc 2 _ (by omega) rfl
        have c3 := hc 3 _ (by omega) rfl
        rw [Nat.add_zero] at c0
        clear hc
        have hm := List.getElem_mem hk1
        have HTS := Lib.hid (take_snoc F i hk1)
        have HXO := Lib.hid (HK.out _ hm)
        clear hm
        generalize F[i] = x at *
        have HKX := Lib.hid (fun W h => lintCopied_any x W h)
        obtain ⟨⟨xp, xA, xn, xc, xo, xes⟩, xB, xm, xd, xls⟩ := x
        dsimp only at c0 c1 c2 c3
        go_upto_region 6 with (fail)
        have hba := (Below.refl wr.heap.size wr).alloc (Nat.le_refl _) (.cells #[.string xp, .slice xA xn xc, .int .i64 xo, .slice xB xm xd] 45)
        have Z1 := Lib.hid (Blk.new wr 45 [.string xp, .slice xA xn xc, .int .i64 xo, .slice xB xm xd])
        have hXO1 : Cl.ok (wr.alloc (.cells #[.string xp, .slice xA xn xc, .int .i64 xo, .slice xB xm xd] 45)) ⟨⟨xp, xA, xn, xc, xo, xes⟩, xB, xm, xd, xls⟩ := (HXO.out.up (HRR.out ▸ HB.out)).up hba
        have KX := HKX.out _ hXO1
        have ZB := Lib.hid hba
        have hzs : (wr.alloc (.cells #[.string xp, .slice xA xn xc, .int .i64 xo, .slice xB xm xd] 45)).heap.size = wr.heap.size + 1 := by simp
        clear hba hXO1 HKX c0 c1 c2 c3
        generalize World.alloc _ _ = w4 at *
        generalize hZ : wr.heap.size = Z at *
        have HZZ := Lib.hid hZ
        clear hZ
        have d0 := (Z1.out.cell 0).trans rfl
        have d1 := (Z1.out.cell 1).trans rfl
        have d2 := (Z1.out.cell 2).trans rfl
        have d3 := (Z1.out.cell 3).trans rfl
        simp only [Cl.cells] at KX
        go_wp2_with fail
        refine KX.mono ?_
        rintro e w5 ⟨y, rfl, hcy, hoy, hb5⟩
        obtain ⟨⟨yp, yA, yn, yc, yo, yes⟩, yB, ym, yd, yls⟩ := y
        have YC := Lib.hid hcy
        have YO := Lib.hid hoy
        have Y5 := Lib.hid (Z1.out.below hb5 Z1.out.lt)
        have YB := Lib.hid (ZB.out.trans (hb5.mono (by omega)))
        have hs5 : Z + 1 ≤ w5.heap.size := by have := hb5.size; omega
        clear KX hcy hoy hb5 Z1 ZB d0 d1 d2 d3
        have d0 := (Y5.out.cell 0).trans rfl
        have d1 := (Y5.out.cell 1).trans rfl
        have d2 := (Y5.out.cell 2).trans rfl
        have d3 := (Y5.out.cell 3).trans rfl
        have e0 := Y5.out.frozen 0
        have e1 := Y5.out.frozen 1
        have e2 := Y5.out.frozen 2
        have e3 := Y5.out.frozen 3
        go_upto_region 7 with (fail)
        have D1 := Y5.out.set_ 0 (.string yp)
        have D2 := D1.set_ 1 (.slice yA yn yc)
        have D3 := D2.set_ 2 (.int .i64 yo)
        have D4 := Lib.hid (D3.set_ 3 (.slice yB ym yd))
        have set4 : ∀ (b : Nat) (e : TypeId) (size m : Nat) (v : Value) (xs : List Value), e ≠ 45 → w5.ownsRow b e size v m xs → ((((w5.setCell ⟨Z, 0, none⟩ (.string yp)).setCell ⟨Z, 1, none⟩ (.slice yA yn yc)).setCell ⟨Z, 2, none⟩ (.int .i64 yo)).setCell ⟨Z, 3, none⟩ (.slice yB ym yd)).ownsRow b e size v m xs :=
          fun b e size m v xs hne h => own_setCell_blk (own_setCell_blk (own_setCell_blk (own_setCell_blk h Y5.out (Ne.symm hne) 0 _) D1 (Ne.symm hne) 1 _) D2 (Ne.symm hne) 2 _) D3 (Ne.symm hne) 3 _
        have YO6 : Hid (Cl.own ((((w5.setCell ⟨Z, 0, none⟩ (.string yp)).setCell ⟨Z, 1, none⟩ (.slice yA yn yc)).setCell ⟨Z, 2, none⟩ (.int .i64 yo)).setCell ⟨Z, 3, none⟩ (.slice yB ym yd)) w4.heap.size ⟨⟨yp, yA, yn, yc, yo, yes⟩, yB, ym, yd, yls⟩) := Lib.hid ⟨set4 _ _ _ _ _ _ (by decide) YO.out.h, set4 _ _ _ _ _ _ (by decide) YO.out.b, fun z hz => set4 _ _ _ _ _ _ (by decide) (YO.out.l z hz)⟩
        have YB6 := Lib.hid ((((YB.out.setCell (p := ⟨Z, 0, none⟩) (Nat.le_refl _) (.string yp)).setCell (p := ⟨Z, 1, none⟩) (Nat.le_refl _) (.slice yA yn yc)).setCell (p := ⟨Z, 2, none⟩) (Nat.le_refl _) (.int .i64 yo)).setCell (p := ⟨Z, 3, none⟩) (Nat.le_refl _) (.slice yB ym yd))
        have hs6 : Z + 1 ≤ ((((w5.setCell ⟨Z, 0, none⟩ (.string yp)).setCell ⟨Z, 1, none⟩ (.slice yA yn yc)).setCell ⟨Z, 2, none⟩ (.int .i64 yo)).setCell ⟨Z, 3, none⟩ (.slice yB ym yd)).heap.size := by simpa [World.setCell] using hs5
        simp only [List.set_cons_succ, List.set_cons_zero] at D4
        clear D1 D2 D3 set4 YO YB hs5 d0 d1 d2 d3 e0 e1 e2 e3 Y5
        generalize World.setCell _ _ _ = w6 at *
        have hBZ : Below wr.heap.size wr w6 := HZZ.out ▸ YB6.out
        have NB := Lib.hid (HB.out.trans (hBZ.mono (by have := HZZ.out; omega)))
        have N2 := Lib.hid (H2.out.below hBZ H2.out.lt)
        have NU := Lib.hid (own_below HU.out hBZ)
        have NW : Hid (∀ y ∈ acc, Cl.own w6 R y) := Lib.hid fun y hy => (HW.out y hy).below hBZ
        have NY := Lib.hid (YO6.out.le (show R ≤ w4.heap.size by omega))
        clear hBZ YB6 YO6 HB H2 HU HW
        have d0 := (D4.out.cell 0).trans rfl
        have d1 := (D4.out.cell 1).trans rfl
        have d2 := (D4.out.cell 2).trans rfl
        have d3 := (D4.out.cell 3).trans rfl
        have hown := NU.out
        go_wp2_with (at_builtin; go_must (refine wpList_append_own _ rfl _ _ 35 rfl R 45 j0 _ 4 72 Try.underlying35 hj hy0 hy1 hy2 rfl (by decide) _ _ _ rfl (hown.alloc _) ⟨w6.heap.size, 0, none⟩ 1 1 (Cl.cells ⟨⟨yp, yA, yn, yc, yo, yes⟩, yB, ym, yd, yls⟩) rfl rfl (fun j u h => new_cells _ _ _ j u h) (Cl.one _) (by unfold maxLen; omega) (by omega) (by simp; omega) ?_))
        intro v9 w9 hown9 hg9 _
        have KA : Below w6.heap.size w6 (w6.alloc (.cells (Cl.cells ⟨⟨yp, yA, yn, yc, yo, yes⟩, yB, ym, yd, yls⟩).toArray 45)) := (Below.refl w6.heap.size w6).alloc (Nat.le_refl _) _
        have KB := Lib.hid ((NB.out.alloc (by omega) (.cells (Cl.cells ⟨⟨yp, yA, yn, yc, yo, yes⟩, yB, ym, yd, yls⟩).toArray 45)).grown hg9 (by simp; omega) (fun q hq => (hown.lt q hq).1))
        have K2 := Lib.hid ((N2.out.alloc (.cells (Cl.cells ⟨⟨yp, yA, yn, yc, yo, yes⟩, yB, ym, yd, yls⟩).toArray 45)).grown hg9 (own_blk_ne hown N2.out (by decide)))
        have KW : Hid (∀ z ∈ acc ++ [(⟨⟨yp, yA, yn, yc, yo, yes⟩, yB, ym, yd, yls⟩ : Cl)], Cl.own w9 R z) := Lib.hid (fun z hz => by
          rcases List.mem_append.1 hz with hz | hz
          · exact ((NW.out z hz).below KA).kept (hown.alloc _) hg9
          · rw [List.mem_singleton.1 hz]
            exact (NY.out.below KA).kept (hown.alloc _) hg9)
        have KU : Hid (w9.ownsRow R 45 4 v9 (i + 1) (ccells (acc ++ [(⟨⟨yp, yA, yn, yc, yo, yes⟩, yB, ym, yd, yls⟩ : Cl)]))) := Lib.hid (by rw [ccells_append]; simpa [ccells] using hown9)
        have KQ : Hid ((acc ++ [(⟨⟨yp, yA, yn, yc, yo, yes⟩, yB, ym, yd, yls⟩ : Cl)]).length = i + 1) := Lib.hid (by rw [List.length_append, HQ.out]; rfl)
        have KC : Hid ((acc ++ [(⟨⟨yp, yA, yn, yc, yo, yes⟩, yB, ym, yd, yls⟩ : Cl)]).map Cl.core = (F.take (i + 1)).map Cl.core) := Lib.hid (by
          rw [HTS.out, List.map_append, List.map_append, HC.out]
          simp only [List.map_cons, List.map_nil, YC.out])
        clear hown hown9 hg9 KA NB N2 NU NW NY D4 YC HTS HC HXO d0 d1 d2 d3
        go_wp2
        go_roundg (n - (i + 1))
        case measure => have := HG.out; omega
        case rel => exact ⟨i + 1, _, by go_num, by omega, Lib.hid rfl, KQ, KB, K2, KU, KC, KW⟩
      · obtain rfl : i = n := by omega
        have hall : F.take i = F := List.take_of_length_le (by have := HN.out; omega)
        rw [hall] at HC
        obtain ⟨Ab, cb, rfl, hnb2⟩ := own_slice HU.out
        have r0 := (H2.out.cell 0).trans rfl
        have s0 := H2.out.frozen 0
        have hl2 := H2.out.lt
        have D1 := H2.out.set_ 0 (.slice Ab i cb)
        have E2 := own_setCell_blk HU.out H2.out (by decide) 0 (.slice Ab i cb)
        have E3 : ∀ x ∈ acc, Cl.own (wr.setCell ⟨R + 1, 0, none⟩ (.slice Ab i cb)) R x := fun x hx => (HW.out x hx).set H2.out (by decide) (by decide) 0 _
        have E4 := HB.out.setCell (p := ⟨R + 1, 0, none⟩) (by simp) (.slice Ab i cb)
        have p0 := D1.cell 0
        simp at p0
        have HE2 := Lib.hid E2
        have HE3 := Lib.hid E3
        have HE4 := Lib.hid E4
        clear E2 E3 E4 D1 HB H2 HU HW
        go_wp2
        refine bodyPost_ret (v := .agg #[.slice Ab i cb]) ?_ rfl ⟨Ab, cb, acc, by rw [HQ.out], ?_, HC.out, ?_, ?_⟩
        · simp [results, Try.results22, go_sem, p0]
        · rw [HRR.out, HQ.out]; exact HE2.out
        · rw [HRR.out]; exact HE3.out
        · rw [HRR.out]; exact HE4.out
  subst hwe
  obtain ⟨hn512, hce⟩ := HWP.out rfl
  have HCE := Lib.hid hce
  have HV0 := Lib.hid (HV2.out rfl)
  have t1 : ((0 : Int) == 0) = true := rfl
  clear HV1 HV2 HWP hce
  go_upto_region 4 with (fail)
  clear f0 t1
  go_loopg [3, 16] n (fun gk u3 u16 wr => ∃ (i q : Nat) (acc : List Cl), u16 = .int .i64 i ∧ i ≤ n ∧ q ≤ i ∧ Hid (gk = n - i) ∧ Hid (acc.length = q) ∧ Hid (Below R w wr) ∧ Hid (Blk wr (R + 1) 37 [.slice none 0 0]) ∧
    Hid (wr.ownsRow R 45 4 u3 q (ccells acc)) ∧ Hid (acc.map Cl.core = (trimL (cs.take i)).map Cl.core) ∧ Hid (∀ y ∈ acc, MadeO wr R y))
  case atStart => exact ⟨0, 0, [], rfl, Nat.zero_le _, Nat.le_refl _, Lib.hid (by omega), Lib.hid rfl, HB4, H24, Lib.hid (World.ownsRow_nil _ _ _ _), Lib.hid rfl, Lib.hid (by simp)⟩
  case round =>
    clear HB4 H14 H24
    obtain ⟨i, q, acc, rfl, hin, hqi, HG, HQ, HB, H2, HU, HC, HM⟩ := hrel
    have hsr : R + 1 < wr.heap.size := H2.out.lt
    by_cases hlt : i < n
    · obtain ⟨B', off, hk1, rfl, hB, hc⟩ := (HL.out.below HB.out).at Cl.cells 4 (fun _ => rfl) (by omega) i hlt
      have c0 := hc 0 _ (by omega) rfl
      have c1 := hc 1 _ (by omega) rfl
      have c2 := hc 2 _ (by omega) rfl
      have c3 := hc 3 _ (by omega) rfl
      rw [Nat.add_zero] at c0
      clear hc
      have hm := List.getElem_mem hk1
      have HTS := Lib.hid (trimL_succ cs i hk1)
      have HXF := Lib.hid (HFI.out _ hm)
      have HXI := Lib.hid (HIN.out _ hm)
      have HXE := Lib.hid (HCE.out _ hm)
      have HXO := Lib.hid (HK.out _ hm)
      clear hm
      generalize cs[i] = x at *
      have HKX := Lib.hid (fun W h => lintCopied_any x W h)
      obtain ⟨⟨xp, xA, xn, xc, xo, xes⟩, xB, xm, xd, xls⟩ := x
      dsimp only at c0 c1 c2 c3
      go_upto_region 6 with (fail)
      have hba := (Below.refl wr.heap.size wr).alloc (Nat.le_refl _) (.cells #[.string xp, .slice xA xn xc, .int .i64 xo, .slice xB xm xd] 45)
      have Z1 := Lib.hid (Blk.new wr 45 [.string xp, .slice xA xn xc, .int .i64 xo, .slice xB xm xd])
      have hXO1 : Cl.ok (wr.alloc (.cells #[.string xp, .slice xA xn xc, .int .i64 xo, .slice xB xm xd] 45)) ⟨⟨xp, xA, xn, xc, xo, xes⟩, xB, xm, xd, xls⟩ := (HXO.out.up (HRR.out ▸ HB.out)).up hba
      have KX := HKX.out _ hXO1
      have ZB := Lib.hid hba
      have hzs : (wr.alloc (.cells #[.string xp, .slice xA xn xc, .int .i64 xo, .slice xB xm xd] 45)).heap.size = wr.heap.size + 1 := by simp
      clear hba hXO1 HKX c0 c1 c2 c3
      generalize World.alloc _ _ = w4 at *
      generalize hZ : wr.heap.size = Z at *
      have HZZ := Lib.hid hZ
      clear hZ
      have d0 := (Z1.out.cell 0).trans rfl
      have d1 := (Z1.out.cell 1).trans rfl
      have d2 := (Z1.out.cell 2).trans rfl
      have d3 := (Z1.out.cell 3).trans rfl
      simp only [Cl.cells] at KX
      go_wp2_with fail
      refine KX.mono ?_
      rintro e w5 ⟨y, rfl, hcy, hoy, hb5⟩
      obtain ⟨⟨yp, yA, yn, yc, yo, yes⟩, yB, ym, yd, yls⟩ := y
      have YC := Lib.hid hcy
      have YO := Lib.hid hoy
      have Y5 := Lib.hid (Z1.out.below hb5 Z1.out.lt)
      have YB := Lib.hid (ZB.out.trans (hb5.mono (by omega)))
      have hs5 : Z + 1 ≤ w5.heap.size := by have := hb5.size; omega
      clear KX hcy hoy hb5 Z1 ZB d0 d1 d2 d3
      have d0 := (Y5.out.cell 0).trans rfl
      have d1 := (Y5.out.cell 1).trans rfl
      have d2 := (Y5.out.cell 2).trans rfl
      have d3 := (Y5.out.cell 3).trans rfl
      have e0 := Y5.out.frozen 0
      have e1 := Y5.out.frozen 1
      have e2 := Y5.out.frozen 2
      have e3 := Y5.out.frozen 3
      go_upto_region 7 with (fail)
      have D1 := Y5.out.set_ 0 (.string yp)
      have D2 := D1.set_ 1 (.slice yA yn yc)
      have D3 := D2.set_ 2 (.int .i64 yo)
      have D4 := Lib.hid (D3.set_ 3 (.slice yB ym yd))
      have set4 : ∀ (b : Nat) (e : TypeId) (size m : Nat) (v : Value) (xs : List Value), e ≠ 45 → w5.ownsRow b e size v m xs → ((((w5.setCell ⟨Z, 0, none⟩ (.string yp)).setCell ⟨Z, 1, none⟩ (.slice yA yn yc)).setCell ⟨Z, 2, none⟩ (.int .i64 yo)).setCell ⟨Z, 3, none⟩ (.slice yB ym yd)).ownsRow b e size v m xs :=
        fun b e size m v xs hne h => own_setCell_blk (own_setCell_blk (own_setCell_blk (own_setCell_blk h Y5.out (Ne.symm hne) 0 _) D1 (Ne.symm hne) 1 _) D2 (Ne.symm hne) 2 _) D3 (Ne.symm hne) 3 _
      have YO6 : Hid (Cl.own ((((w5.setCell ⟨Z, 0, none⟩ (.string yp)).setCell ⟨Z, 1, none⟩ (.slice yA yn yc)).setCell ⟨Z, 2, none⟩ (.int .i64 yo)).setCell ⟨Z, 3, none⟩ (.slice yB ym yd)) w4.heap.size ⟨⟨yp, yA, yn, yc, yo, yes⟩, yB, ym, yd, yls⟩) := Lib.hid ⟨set4 _ _ _ _ _ _ (by decide) YO.out.h, set4 _ _ _ _ _ _ (by decide) YO.out.b, fun z hz => set4 _ _ _ _ _ _ (by decide) (YO.out.l z hz)⟩
      have YB6 := Lib.hid ((((YB.out.setCell (p := ⟨Z, 0, none⟩) (Nat.le_refl _) (.string yp)).setCell (p := ⟨Z, 1, none⟩) (Nat.le_refl _) (.slice yA yn yc)).setCell (p := ⟨Z, 2, none⟩) (Nat.le_refl _) (.int .i64 yo)).setCell (p := ⟨Z, 3, none⟩) (Nat.le_refl _) (.slice yB ym yd))
      have hs6 : Z + 1 ≤ ((((w5.setCell ⟨Z, 0, none⟩ (.string yp)).setCell ⟨Z, 1, none⟩ (.slice yA yn yc)).setCell ⟨Z, 2, none⟩ (.int .i64 yo)).setCell ⟨Z, 3, none⟩ (.slice yB ym yd)).heap.size := by simpa [World.setCell] using hs5
      simp only [List.set_cons_succ, List.set_cons_zero] at D4
      clear D1 D2 D3 set4 YO YB hs5 d0 d1 d2 d3 e0 e1 e2 e3 Y5
      generalize World.setCell _ _ _ = w6 at *
      have hyE : clauseE ⟨⟨yp, yA, yn, yc, yo, yes⟩, yB, ym, yd, yls⟩ = 0 := (clauseE_core YC.out).trans HXE.out
      have YE := Lib.hid hyE
      have YF := Lib.hid (core_fines (cs' := [⟨⟨yp, yA, yn, yc, yo, yes⟩, yB, ym, yd, yls⟩]) (cs := [⟨⟨xp, xA, xn, xc, xo, xes⟩, xB, xm, xd, xls⟩]) (by simp [YC.out]) (by simpa using HXF.out) ⟨⟨yp, yA, yn, yc, yo, yes⟩, yB, ym, yd, yls⟩ (by simp))
      have YI := Lib.hid (core_ints (cs' := [⟨⟨yp, yA, yn, yc, yo, yes⟩, yB, ym, yd, yls⟩]) (cs := [⟨⟨xp, xA, xn, xc, xo, xes⟩, xB, xm, xd, xls⟩]) (by simp [YC.out]) (by simpa using HXI.out) ⟨⟨yp, yA, yn, yc, yo, yes⟩, yB, ym, yd, yls⟩ (by simp))
      have YK := Lib.hid (YO6.out.ok YC.out HXO.out)
      clear hyE HXF HXI HXE HXO
      have kd := deleteFunc_any yB ym yd w4.heap.size yls w6 YO6.out.b (fun z hz W => idleC_any z W (YF.out.2 z hz) (clause_sides YE.out z hz))
      have YSZ : Hid (∀ z ∈ yls, z.a.es.length * 40 ≤ 140737488351232) := Lib.hid fun z hz => At.ok.size (YK.out.2.2.2 z hz)
      have YS0 : Hid (yes.length * 40 ≤ 140737488351232) := Lib.hid YK.out.1.size
      have hkl : ∀ z ∈ idleLs yls, z ∈ yls := fun z hz => (List.mem_filter.1 hz).1
      have KLS := Lib.hid hkl
      have HCL : Hid ((⟨⟨yp, yA, yn, yc, yo, yes⟩, yB, (idleLs yls).length, yd, idleLs yls⟩ : Cl).core = (cleanC ⟨⟨xp, xA, xn, xc, xo, xes⟩, xB, xm, xd, xls⟩).core) := Lib.hid (by
        rw [← cleanC_core YC.out]; rfl)
      have HKE : Hid (clauseE (⟨⟨yp, yA, yn, yc, yo, yes⟩, yB, (idleLs yls).length, yd, idleLs yls⟩ : Cl) = 0) := Lib.hid ((clauseE_core (show _ = (cleanC ⟨⟨yp, yA, yn, yc, yo, yes⟩, yB, ym, yd, yls⟩).core from rfl)).trans (cleanC_well YE.out))
      clear hkl
      generalize idleLs yls = kls at *
      generalize hkm : kls.length = km at *
      have HKM := Lib.hid hkm
      clear hkm YE YK YC
      have g3 := (D4.out.cell 3).trans rfl
      go_wp2_with fail
      refine kd.mono ?_
      rintro e w7 ⟨rfl, hbod, hg7⟩
      have Y7 := Lib.hid (D4.out.grown hg7 (own_blk_ne YO6.out.b D4.out (by decide)))
      have YH7 := Lib.hid (own_kept_types YO6.out.h YO6.out.b (by decide) hg7)
      have YL7 : Hid (∀ z ∈ yls, At.own w7 w4.heap.size z.a) := Lib.hid fun z hz => own_kept_types (YO6.out.l z hz) YO6.out.b (by decide) hg7
      have YB7 := Lib.hid (YB6.out.grown hg7 (by omega) (fun q hq => by have := (YO6.out.b.lt q hq).1; omega))
      have YD7 := Lib.hid hbod
      have hs7 : Z + 1 ≤ w7.heap.size := by have := hg7.size; omega
      clear kd hbod hg7 D4 YO6 YB6 g3 hs6
      have g3 := (Y7.out.cell 3).trans rfl
      have z3 := Y7.out.frozen 3
      have hl7 := Y7.out.lt
      go_upto_region 9 with (fail)
      have Y8 := Lib.hid (Y7.out.set_ 3 (.slice yB km yd))
      have YM8 : Hid (MadeO (w7.setCell ⟨Z, 3, none⟩ (.slice yB km yd)) w4.heap.size ⟨⟨yp, yA, yn, yc, yo, yes⟩, yB, km, yd, kls⟩) := Lib.hid (by
        have hl16 := (clause_small HKE.out).2
        dsimp only at hl16
        have h16 : km ≤ 16 := HKM.out ▸ hl16
        refine ⟨⟨own_setCell_blk YH7.out Y7.out (by decide) 3 _, own_setCell_blk YD7.out Y7.out (by decide) 3 _, fun z hz => own_setCell_blk (YL7.out z (KLS.out z hz)) Y7.out (by decide) 3 _⟩, YS0.out, fun z hz => YSZ.out z (KLS.out z hz), ?_, ⟨YF.out.1, fun z hz => YF.out.2 z (KLS.out z hz)⟩, ⟨YI.out.1, fun z hz => YI.out.2 z (KLS.out z hz)⟩, HKE.out⟩
        show km * 152 ≤ _
        omega)
      have YB8 := Lib.hid (YB7.out.setCell (p := ⟨Z, 3, none⟩) (Nat.le_refl _) (.slice yB km yd))
      have hs8 : Z + 1 ≤ (w7.setCell ⟨Z, 3, none⟩ (.slice yB km yd)).heap.size := by simpa [World.setCell] using hs7
      simp only [List.set_cons_succ, List.set_cons_zero] at Y8
      clear Y7 YH7 YL7 YB7 YD7 YSZ YS0 KLS HKE YF YI g3 z3 hl7 hs7
      generalize World.setCell _ _ _ = w8 at *
      have ka := fault_any ⟨⟨yp, yA, yn, yc, yo, yes⟩, yB, km, yd, kls⟩ w8 YM8.out.ok YM8.out.f (clause_sides YM8.out.e)
      have HFR : Hid (freeB ⟨⟨yp, yA, yn, yc, yo, yes⟩, yB, km, yd, kls⟩ = freeB (cleanC ⟨⟨xp, xA, xn, xc, xo, xes⟩, xB, xm, xd, xls⟩)) := Lib.hid (freeB_core HCL.out)
      have HAO : Hid (freeB ⟨⟨yp, yA, yn, yc, yo, yes⟩, yB, km, yd, kls⟩ = (atO ⟨⟨yp, yA, yn, yc, yo, yes⟩, yB, km, yd, kls⟩).isNone) := Lib.hid rfl
      generalize atO _ = ao at *
      generalize freeB ⟨⟨yp, yA, yn, yc, yo, yes⟩, yB, km, yd, kls⟩ = fb at *
      generalize freeB (cleanC _) = fc at *
      simp only [Cl.cells] at ka
      have d0 := (Y8.out.cell 0).trans rfl
      have d1 := (Y8.out.cell 1).trans rfl
      have d2 := (Y8.out.cell 2).trans rfl
      have d3 := (Y8.out.cell 3).trans rfl
      go_wp2_with fail
      refine ka.mono ?_
      rintro e wf ⟨rfl, hbf⟩
      have hBZ : Below wr.heap.size wr wf := HZZ.out ▸ (YB8.out.trans (hbf.mono (by omega)))
      have NB := Lib.hid (HB.out.trans (hBZ.mono (by have := HZZ.out; omega)))
      have N2 := Lib.hid (H2.out.below hBZ H2.out.lt)
      have NU := Lib.hid (own_below HU.out hBZ)
      have NM : Hid (∀ z ∈ acc, MadeO wf R z) := Lib.hid fun z hz => (HM.out z hz).below hBZ
      have NY := Lib.hid ((YM8.out.below hbf).le (show R ≤ w4.heap.size by omega))
      have NZ := Lib.hid (Y8.out.below hbf Y8.out.lt)
      have hsf : R + 1 < wf.heap.size := by have := hbf.size; omega
      clear ka hbf hBZ YB8 YM8 Y8 HB H2 HU HM d0 d1 d2 d3 hs8
      cases ao with
      | some k =>
        rw [optI_some]
        have t1 : decide ((0 : Int) ≤ (k : Int)) = true := decide_eq_true (by omega)
        have NC : Hid (acc.map Cl.core = (trimL (cs.take (i + 1))).map Cl.core) := Lib.hid (by
          have e1 : fc = false := by rw [← HFR.out, HAO.out]; rfl
          rw [HTS.out, e1, if_neg (by simp), List.append_nil]; exact HC.out)
        clear HTS HFR HAO HC HCL NY NZ
        go_wp2
        go_roundg (n - (i + 1))
        case measure => have := HG.out; omega
        case rel => exact ⟨i + 1, q, acc, by go_num, by omega, by omega, Lib.hid rfl, HQ, NB, N2, NU, NC, NM⟩
      | none =>
        rw [optI_none]
        have t1 : decide ((0 : Int) ≤ -1) = false := rfl
        have NC : Hid ((acc ++ [(⟨⟨yp, yA, yn, yc, yo, yes⟩, yB, km, yd, kls⟩ : Cl)]).map Cl.core = (trimL (cs.take (i + 1))).map Cl.core) := Lib.hid (by
          have e1 : fc = true := by rw [← HFR.out, HAO.out]; rfl
          rw [HTS.out, e1, if_pos rfl, List.map_append, List.map_append, HC.out, List.map_singleton, List.map_singleton, HCL.out])
        clear HTS HFR HAO HC HCL
        have d0 := (NZ.out.cell 0).trans rfl
        have d1 := (NZ.out.cell 1).trans rfl
        have d2 := (NZ.out.cell 2).trans rfl
        have d3 := (NZ.out.cell 3).trans rfl
        have hown := NU.out
        go_wp2_with (at_builtin; go_must (refine wpList_append_own _ rfl _ _ 35 rfl R 45 j0 _ 4 72 Try.underlying35 hj hy0 hy1 hy2 rfl (by decide) _ _ _ rfl (hown.alloc _) ⟨wf.heap.size, 0, none⟩ 1 1 (Cl.cells ⟨⟨yp, yA, yn, yc, yo, yes⟩, yB, km, yd, kls⟩) rfl rfl (fun j u h => new_cells _ _ _ j u h) (Cl.one _) (by unfold maxLen; omega) (by omega) (by simp; omega) ?_))
        intro v9 w9 hown9 hg9 _
        have KA : Below wf.heap.size wf (wf.alloc (.cells (Cl.cells ⟨⟨yp, yA, yn, yc, yo, yes⟩, yB, km, yd, kls⟩).toArray 45)) := (Below.refl wf.heap.size wf).alloc (Nat.le_refl _) _
        have KB := Lib.hid ((NB.out.alloc (by omega) (.cells (Cl.cells ⟨⟨yp, yA, yn, yc, yo, yes⟩, yB, km, yd, kls⟩).toArray 45)).grown hg9 (by simp; omega) (fun q hq => (hown.lt q hq).1))
        have K2 := Lib.hid ((N2.out.alloc (.cells (Cl.cells ⟨⟨yp, yA, yn, yc, yo, yes⟩, yB, km, yd, kls⟩).toArray 45)).grown hg9 (own_blk_ne hown N2.out (by decide)))
        have KM : Hid (∀ z ∈ acc ++ [(⟨⟨yp, yA, yn, yc, yo, yes⟩, yB, km, yd, kls⟩ : Cl)], MadeO w9 R z) := Lib.hid (fun z hz => by
          rcases List.mem_append.1 hz with hz | hz
          · exact ((NM.out z hz).below KA).kept (hown.alloc _) hg9
          · rw [List.mem_singleton.1 hz]
            exact (NY.out.below KA).kept (hown.alloc _) hg9)
        have KU : Hid (w9.ownsRow R 45 4 v9 (q + 1) (ccells (acc ++ [(⟨⟨yp, yA, yn, yc, yo, yes⟩, yB, km, yd, kls⟩ : Cl)]))) := Lib.hid (by rw [ccells_append]; simpa [ccells] using hown9)
        have KQ : Hid ((acc ++ [(⟨⟨yp, yA, yn, yc, yo, yes⟩, yB, km, yd, kls⟩ : Cl)]).length = q + 1) := Lib.hid (by rw [List.length_append, HQ.out]; rfl)
        clear hown hown9 hg9 KA NB N2 NU NM NY NZ d0 d1 d2 d3
        go_wp2
        go_roundg (n - (i + 1))
        case measure => have := HG.out; omega
        case rel => exact ⟨i + 1, q + 1, _, by go_num, by omega, by omega, Lib.hid rfl, KQ, KB, K2, KU, NC, KM⟩
    · obtain rfl : i = n := by omega
      have hall : cs.take i = cs := List.take_of_length_le (by have := HN.out; omega)
      rw [hall] at HC
      have HTN : Hid (∀ j, (trimN acc j).map Cl.core = (trimN (trimL cs) j).map Cl.core) := Lib.hid (trimN_core HC.out)
      have HTL : Hid (q = (trimL cs).length) := Lib.hid (by
        have := congrArg List.length HC.out
        rw [List.length_map, List.length_map, HQ.out] at this; exact this)
      obtain ⟨A5, c5, rfl, hn5⟩ := own_slice HU.out
      have HG5 : Hid (∀ k, (Value.slice A5 q c5).ownBlock = some k → k < wr.heap.size) := Lib.hid (fun k hk => (HU.out.lt k hk).2)
      have hq512 : q ≤ 512 := by omega
      clear hall HC HFI HIN HCE HK HL HN HQ
      have t1 : (!true) = false := rfl
      go_upto_region 16 with (fail)
      clear t1
      have hba := (Below.refl wr.heap.size wr).alloc (Nat.le_refl _) (.cells #[.slice none 0 0] 37)
      have J7 := Lib.hid (Blk.new wr 37 [.slice none 0 0])
      have JB := Lib.hid (HB.out.trans (hba.mono (by omega)))
      have J2 := Lib.hid (H2.out.below hba H2.out.lt)
      have JU := Lib.hid (own_below HU.out hba)
      have JM : Hid (∀ y ∈ acc, MadeO (wr.alloc (.cells #[.slice none 0 0] 37)) R y) := Lib.hid fun y hy => (HM.out y hy).below hba
      have hz1 : (wr.alloc (.cells #[.slice none 0 0] 37)).heap.size = wr.heap.size + 1 := by simp
      clear hba HB H2 HU HM
      generalize World.alloc _ _ = w4 at *
      generalize wr.heap.size = Z at *
      generalize hR3 : w4.heap.size = R3 at *
      have HR30 : Hid (R3 ≤ w4.heap.size) := Lib.hid (by rw [hR3]; exact Nat.le_refl _)
      have HRL : Hid (R ≤ R3) := Lib.hid (by omega)
      replace HG5 : Hid (∀ k, (Value.slice A5 q c5).ownBlock = some k → k < R3) := Lib.hid (fun k hk => by have := HG5.out k hk; omega)
      clear hR3 hz1
      go_loopg [41] q (fun gk u41 wr => ∃ (i p : Nat) (ac : List Cl) (vb : Value), u41 = .int .i64 i ∧ i ≤ q ∧ p ≤ i ∧ Hid (gk = q - i) ∧ Hid (ac.length = p) ∧ Hid (Below R w wr) ∧ Hid (R3 ≤ wr.heap.size) ∧ Hid (Blk wr (R + 1) 37 [.slice none 0 0]) ∧
        Hid (Blk wr Z 37 [vb]) ∧ Hid (wr.ownsRow R 45 4 (.slice A5 q c5) q (ccells acc)) ∧ Hid (∀ y ∈ acc, MadeO wr R y) ∧ Hid (wr.ownsRow R3 45 4 vb p (ccells ac)) ∧ Hid (ac.map Cl.core = (trimN acc i).map Cl.core) ∧ Hid (∀ y ∈ ac, Cl.own wr R y))
      case atStart => exact ⟨0, 0, [], .slice none 0 0, rfl, Nat.zero_le _, Nat.le_refl _, Lib.hid (by omega), Lib.hid rfl, JB, HR30, J2, J7, JU, JM, Lib.hid (World.ownsRow_nil _ _ _ _), Lib.hid rfl, Lib.hid (by simp)⟩
      case round =>
        clear JB HR30 J2 J7 JU JM
        obtain ⟨i, p, ac, vb, rfl, hiq, hpi, HG, HQ, HB, HR3, H2, H3, HU, HM, HV, HC, HW⟩ := hrel
        have hsz : Z < wr.heap.size := H3.out.lt
        by_cases hlt : i < q
        · obtain ⟨g5, hk1, rfl, hgl, hcc⟩ := own_at HU.out i hlt
          have HX : Hid (acc[i]? = some acc[i]) := Lib.hid (List.getElem?_eq_getElem hk1)
          have HTS := Lib.hid (trimN_succ acc i hk1)
          have HZ := Lib.hid (HM.out acc[i] (List.getElem_mem hk1))
          have HKO := Lib.hid (others_kept acc i acc[i])
          have HKT := Lib.hid (fun (W : World) (h1 : W.ownsRow R 45 4 (.slice (some ⟨g5, 0, none⟩) q c5) q (ccells acc)) (h2 : ∀ y ∈ acc, MadeO W R y) => others_any (some ⟨g5, 0, none⟩) q c5 acc i acc[i] hlt HX.out W (own_rd h1) (madeO_fit h2))
          have c0 := hcc 0 _ (by omega) rfl
          have c1 := hcc 1 _ (by omega) rfl
          have c2 := hcc 2 _ (by omega) rfl
          have c3 := hcc 3 _ (by omega) rfl
          rw [Nat.add_zero] at c0
          clear HX hcc hgl
          generalize acc[i] = z at *
          generalize keptB acc i z = kb at *
          generalize othersF acc i z = oF at *
          generalize hTN : trimN acc (i + 1) = TN at *
          have HTE := Lib.hid hTN
          clear hTN
          obtain ⟨⟨zp, zA, zn, zc, zo, zes⟩, zB, zm, zd, zls⟩ := z
          dsimp only at c0 c1 c2 c3
          go_upto_region 18 with (fail)
          have hba := (Below.refl wr.heap.size wr).alloc (Nat.le_refl _) (.cells #[.string zp, .slice zA zn zc, .int .i64 zo, .slice zB zm zd] 45)
          have J1 := Lib.hid (Blk.new wr 45 [.string zp, .slice zA zn zc, .int .i64 zo, .slice zB zm zd])
          have NB := Lib.hid (HB.out.trans (hba.mono (by omega)))
          have NR3 : Hid (R3 ≤ (wr.alloc (.cells #[.string zp, .slice zA zn zc, .int .i64 zo, .slice zB zm zd] 45)).heap.size) := Lib.hid (Nat.le_trans HR3.out hba.size)
          have N2 := Lib.hid (H2.out.below hba H2.out.lt)
          have N3 := Lib.hid (H3.out.below hba H3.out.lt)
          have NU := Lib.hid (own_below HU.out hba)
          have NM : Hid (∀ z ∈ acc, MadeO (wr.alloc (.cells #[.string zp, .slice zA zn zc, .int .i64 zo, .slice zB zm zd] 45)) R z) := Lib.hid fun z hz => (HM.out z hz).below hba
          have NV := Lib.hid (own_below HV.out hba)
          have NW : Hid (∀ y ∈ ac, Cl.own (wr.alloc (.cells #[.string zp, .slice zA zn zc, .int .i64 zo, .slice zB zm zd] 45)) R y) := Lib.hid fun y hy => (HW.out y hy).below hba
          have NZ := Lib.hid (HZ.out.below hba)
          have hs4 : Z < (wr.alloc (.cells #[.string zp, .slice zA zn zc, .int .i64 zo, .slice zB zm zd] 45)).heap.size := by have := hba.size; omega
          clear hba HB HR3 H2 H3 HU HM HV HW HZ hsz c0 c1 c2 c3
          generalize World.alloc _ _ = w4 at *
          generalize wr.heap.size = Z9 at *
          have kt := HKT.out w4 NU.out NM.out
          clear HKT
          go_wp2_with fail
          refine kt.mono ?_
          rintro e w5 ⟨Ao, co, rfl, _, _, hb5⟩
          have MB := Lib.hid (NB.out.trans (hb5.mono (by omega)))
          have MR3 : Hid (R3 ≤ w5.heap.size) := Lib.hid (Nat.le_trans NR3.out hb5.size)
          have M2 := Lib.hid (N2.out.below hb5 N2.out.lt)
          have M3 := Lib.hid (N3.out.below hb5 N3.out.lt)
          have M9 := Lib.hid (J1.out.below hb5 J1.out.lt)
          have MU := Lib.hid (own_below NU.out hb5)
          have MM : Hid (∀ z ∈ acc, MadeO w5 R z) := Lib.hid fun z hz => (NM.out z hz).below hb5
          have MV := Lib.hid (own_below NV.out hb5)
          have MW : Hid (∀ y ∈ ac, Cl.own w5 R y) := Lib.hid fun y hy => (NW.out y hy).below hb5
          have MZ := Lib.hid (NZ.out.below hb5)
          have hs5 : Z < w5.heap.size := by have := hb5.size; omega
          clear kt hb5 NB NR3 N2 N3 J1 NU NM NV NW NZ hs4
          have hko := HKO.out
          generalize oF.length = ol at *
          clear HKO
          cases kb with
          | false =>
            have NC : Hid (ac.map Cl.core = TN.map Cl.core) := Lib.hid (by rw [HTS.out, if_neg (by simp), List.append_nil]; exact HC.out)
            clear HTS HC MZ M9
            go_wp2
            go_roundg (q - (i + 1))
            case measure => have := HG.out; omega
            case rel => exact ⟨i + 1, p, ac, vb, by go_num, by omega, by omega, Lib.hid rfl, HQ, MB, MR3, M2, M3, MU, MM, MV, by rw [HTE.out]; exact NC, MW⟩
          | true =>
            have HTK : Hid ((ac ++ [(⟨⟨zp, zA, zn, zc, zo, zes⟩, zB, zm, zd, zls⟩ : Cl)]).map Cl.core = TN.map Cl.core) := Lib.hid (by rw [HTS.out, if_pos rfl, List.map_append, List.map_append, HC.out])
            clear HTS HC
            have d0 := (M9.out.cell 0).trans rfl
            have d1 := (M9.out.cell 1).trans rfl
            have d2 := (M9.out.cell 2).trans rfl
            have d3 := (M9.out.cell 3).trans rfl
            have q3 := (M3.out.cell 0).trans rfl
            have hown := MV.out
            have hr3 := MR3.out
            go_wp2_with (at_builtin; go_must (refine wpList_append_own _ rfl _ _ 35 rfl R3 45 j0 _ 4 72 Try.underlying35 hj hy0 hy1 hy2 rfl (by decide) _ _ _ rfl (hown.alloc _) ⟨w5.heap.size, 0, none⟩ 1 1 (Cl.cells ⟨⟨zp, zA, zn, zc, zo, zes⟩, zB, zm, zd, zls⟩) rfl rfl (fun j u h => new_cells _ _ _ j u h) (Cl.one _) (by unfold maxLen; omega) (by omega) (by simp; omega) ?_))
            intro v9 w9 hown9 hg9 _
            obtain ⟨A7, d7, rfl, hn7⟩ := own_slice hown9
            have hba := (Below.refl w5.heap.size w5).alloc (Nat.le_refl _) (.cells (Cl.cells ⟨⟨zp, zA, zn, zc, zo, zes⟩, zB, zm, zd, zls⟩).toArray 45)
            have a2 := (M2.out.alloc (.cells (Cl.cells ⟨⟨zp, zA, zn, zc, zo, zes⟩, zB, zm, zd, zls⟩).toArray 45)).grown hg9 (own_blk_ne hown M2.out (by decide))
            have a3 := (M3.out.alloc (.cells (Cl.cells ⟨⟨zp, zA, zn, zc, zo, zes⟩, zB, zm, zd, zls⟩).toArray 45)).grown hg9 (own_blk_ne hown M3.out (by decide))
            have BL := (MB.out.alloc (by omega) (.cells (Cl.cells ⟨⟨zp, zA, zn, zc, zo, zes⟩, zB, zm, zd, zls⟩).toArray 45)).grown hg9 (by simp; omega) (fun q hq => Nat.le_trans HRL.out (hown.lt q hq).1)
            have U7 : w9.ownsRow R 45 4 (.slice (some ⟨g5, 0, none⟩) q c5) q (ccells acc) := (MU.out.alloc (.cells (Cl.cells ⟨⟨zp, zA, zn, zc, zo, zes⟩, zB, zm, zd, zls⟩).toArray 45)).kept hg9 (.inr (fun e => by
              have h1 := HG5.out g5 rfl
              have h2 := (hown.lt g5 e.symm).1
              omega))
            have M7 : ∀ z ∈ acc, MadeO w9 R z := fun z hz => ((MM.out z hz).below hba).kept (hown.alloc _) hg9
            have W7 : ∀ q ∈ ac ++ [(⟨⟨zp, zA, zn, zc, zo, zes⟩, zB, zm, zd, zls⟩ : Cl)], Cl.own w9 R q := by
              intro q hq
              rcases List.mem_append.1 hq with hq | hq
              · exact ((MW.out q hq).below hba).kept (hown.alloc _) hg9
              · rw [List.mem_singleton.1 hq]
                exact ((MZ.out.below hba).kept (hown.alloc _) hg9).o
            have V7 : w9.ownsRow R3 45 4 (.slice A7 (p + 1) d7) (p + 1) (ccells (ac ++ [(⟨⟨zp, zA, zn, zc, zo, zes⟩, zB, zm, zd, zls⟩ : Cl)])) := by
              rw [ccells_append]; simpa [ccells] using hown9
            have R7 : R3 ≤ w9.heap.size := Nat.le_trans MR3.out (Nat.le_trans hba.size hg9.size)
            have z3 := a3.frozen 0
            have y3 := (a3.cell 0).trans rfl
            have hl7 := a3.lt
            have HA2 := Lib.hid a2
            have HA3 := Lib.hid a3
            have HBL := Lib.hid BL
            have HU7 := Lib.hid U7
            have HM7 := Lib.hid M7
            have HW7 := Lib.hid W7
            have HV7 := Lib.hid V7
            have HR7 := Lib.hid R7
            have hRZ : R + 1 < Z := by omega
            clear a2 a3 BL U7 M7 W7 V7 R7 hown9 hown hg9 hba M2 M3 M9 MU MM MW MB MZ MV MR3 d0 d1 d2 d3 q3 hr3
            go_upto_region 20 with (fail)
            have HG2 := Lib.hid (HA2.out.far (p := ⟨Z, 0, none⟩) (by simp; omega) (.slice A7 (p + 1) d7))
            have HG3 := Lib.hid (HA3.out.set_ 0 (.slice A7 (p + 1) d7))
            have HVG := Lib.hid (own_setCell_blk HV7.out HA3.out (by decide) 0 (.slice A7 (p + 1) d7))
            have HUG := Lib.hid (own_setCell_blk HU7.out HA3.out (by decide) 0 (.slice A7 (p + 1) d7))
            have HBG := Lib.hid (HBL.out.setCell (p := ⟨Z, 0, none⟩) (by simp; omega) (.slice A7 (p + 1) d7))
            have HMG : Hid (∀ z ∈ acc, MadeO (w9.setCell ⟨Z, 0, none⟩ (.slice A7 (p + 1) d7)) R z) := Lib.hid fun z hz => (HM7.out z hz).set HA3.out (by decide) (by decide) 0 _
            have HWG : Hid (∀ q ∈ ac ++ [(⟨⟨zp, zA, zn, zc, zo, zes⟩, zB, zm, zd, zls⟩ : Cl)], Cl.own (w9.setCell ⟨Z, 0, none⟩ (.slice A7 (p + 1) d7)) R q) := Lib.hid fun q hq => (HW7.out q hq).set HA3.out (by decide) (by decide) 0 _
            have HQG : Hid ((ac ++ [(⟨⟨zp, zA, zn, zc, zo, zes⟩, zB, zm, zd, zls⟩ : Cl)]).length = p + 1) := Lib.hid (by rw [List.length_append, HQ.out]; rfl)
            have HRG : Hid (R3 ≤ (w9.setCell ⟨Z, 0, none⟩ (.slice A7 (p + 1) d7)).heap.size) := Lib.hid (by simpa [World.setCell] using HR7.out)
            simp only [List.set_cons_zero] at HG3
            clear HA2 HA3 HBL HV7 HU7 HM7 HW7 HR7 z3 y3 hl7
            generalize World.setCell _ _ _ = w8 at *
            go_wp2
            go_roundg (q - (i + 1))
            case measure => have := HG.out; omega
            case rel => exact ⟨i + 1, p + 1, _, _, by go_num, by omega, by omega, Lib.hid rfl, HQG, HBG, HRG, HG2, HG3, HUG, HMG, HVG, by rw [HTE.out]; exact HTK, HWG⟩
        · obtain rfl : i = q := by omega
          have HCF : Hid (ac.map Cl.core = F.map Cl.core) := Lib.hid (by rw [HV0.out, ← HTL.out, ← HTN.out]; exact HC.out)
          obtain ⟨Ab, cb, rfl, hnb2⟩ := own_slice HV.out
          have q0 := (H3.out.cell 0).trans rfl
          have r0 := (H2.out.cell 0).trans rfl
          have s0 := H2.out.frozen 0
          have hl2 := H2.out.lt
          have D1 := H2.out.set_ 0 (.slice Ab p cb)
          have E2 := own_le (own_setCell_blk HV.out H2.out (by decide) 0 (.slice Ab p cb)) HRL.out
          have E3 : ∀ x ∈ ac, Cl.own (wr.setCell ⟨R + 1, 0, none⟩ (.slice Ab p cb)) R x := fun x hx => (HW.out x hx).set H2.out (by decide) (by decide) 0 _
          have E4 := HB.out.setCell (p := ⟨R + 1, 0, none⟩) (by simp) (.slice Ab p cb)
          have p0 := D1.cell 0
          simp at p0
          have HE2 := Lib.hid E2
          have HE3 := Lib.hid E3
          have HE4 := Lib.hid E4
          clear E2 E3 E4 D1 HB H2 H3 HV HW HU HM HR3
          go_wp2
          refine bodyPost_ret (v := .agg #[.slice Ab p cb]) ?_ rfl ⟨Ab, cb, ac, by rw [HQ.out], ?_, HCF.out, ?_, ?_⟩
          · simp [results, Try.results22, go_sem, p0]
          · rw [HRR.out, HQ.out]; exact HE2.out
          · rw [HRR.out]; exact HE3.out
          · rw [HRR.out]; exact HE4.out
end Go.Proofs.Ytjcgkplphiedjaa
