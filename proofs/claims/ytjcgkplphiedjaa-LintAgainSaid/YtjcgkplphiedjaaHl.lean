/- Well formed clauses made of any. -/
import Derived.Test.YtjcgkplphiedjaaHk
import Derived.Test.YtjcgkplphiedjaaHf
import Derived.Test.YtjcgkplphiedjaaHb
namespace Go.Proofs.Ytjcgkplphiedjaa
open Go.RowKit Go.Sort

def zT : T := ⟨0, 0, ⟨#[]⟩, 0⟩
def goodL (l : Li) : Prop := ((l.k = 1 ∨ l.k = 2) ∧ l.op = 0 ∧ l.l = zT ∧ l.r = zT ∧ goodA l.a) ∨ (l.k = 3 ∧ (1 ≤ l.op ∧ l.op ≤ 6) ∧ l.a.p = ⟨#[]⟩ ∧ l.a.es = [] ∧ goodT l.l ∧ goodT l.r)
def goodC (y : Cl) : Prop := goodA y.h ∧ y.ls.length ≤ 16 ∧ ∀ l ∈ y.ls, goodL l
theorem ren_err (off : Int) (e : T) : (e.ren off).err = (e.ren 0).err := rfl
theorem goodA_err {y : At} (h : goodA y) : atomE y.p y.es = 0 := by
  unfold atomE
  rw [if_neg (by rw [h.1]; simp), if_neg (by have := h.2.1; omega)]
  exact firstE_zero_of fun e he => (h.2.2.1 e he).1
theorem goodA_ren {y : At} (h : goodA y) (off : Int) : atomE (y.ren off).p (y.ren off).es = 0 := by
  unfold atomE At.ren
  dsimp only
  rw [if_neg (by rw [h.1]; simp), if_neg (by have := h.2.1; rw [List.length_map]; omega)]
  refine firstE_zero_of fun e he => ?_
  obtain ⟨t, ht, rfl⟩ := List.mem_map.1 he
  rw [ren_err]
  exact (h.2.2.1 t ht).2.1
theorem zT_zero : zT.zero = true := by
  unfold T.zero zeroT zT
  have e : (⟨#[]⟩ : ByteArray).toList = [] := bytes_list []
  simp [e]
theorem zT_ren (off : Int) : (zT.ren off).zero = true := zT_zero
theorem goodL_err {l : Li} (h : goodL l) : litE l = 0 := by
  have e : (⟨#[]⟩ : ByteArray).toList = [] := bytes_list []
  rcases h with ⟨hk, h1, h2, h3, h4⟩ | ⟨hk, h1, h2, h3, h4, h5⟩
  · unfold litE
    rw [if_pos hk, if_neg (by rw [h1, h2, h3, zT_zero]; simp)]
    exact goodA_err h4
  · unfold litE
    rw [if_neg (by omega), if_pos hk, if_neg (by rw [h2, h3, e]; simp; omega)]
    exact firstE_zero_of fun t ht => by
      rcases List.mem_cons.1 ht with rfl | ht
      · exact h4.1
      · rw [List.mem_singleton.1 ht]; exact h5.1
theorem goodL_ren {l : Li} (h : goodL l) (off : Int) : litE (l.ren off) = 0 := by
  have e : (⟨#[]⟩ : ByteArray).toList = [] := bytes_list []
  rcases h with ⟨hk, h1, h2, h3, h4⟩ | ⟨hk, h1, h2, h3, h4, h5⟩
  · unfold litE Li.ren
    dsimp only
    rw [if_pos hk, if_neg (by rw [h1, h2, h3, zT_ren]; simp)]
    exact goodA_ren h4 off
  · unfold litE Li.ren
    dsimp only
    rw [if_neg (by omega), if_pos hk, if_neg (by unfold At.ren; dsimp only; rw [h2, h3, e]; simp; omega)]
    exact firstE_zero_of fun t ht => by
      rcases List.mem_cons.1 ht with rfl | ht
      · rw [ren_err]; exact h4.2.1
      · rw [List.mem_singleton.1 ht, ren_err]; exact h5.2.1
theorem goodC_err {y : Cl} (h : goodC y) : clauseE y = 0 := by
  unfold clauseE
  rw [if_pos (goodA_err h.1), if_neg (by have := h.2.1; omega)]
  exact firstE_zero_of fun l hl => goodL_err (h.2.2 l hl)
theorem goodC_ren {y : Cl} (h : goodC y) (off : Int) : clauseE (y.ren off) = 0 := by
  unfold clauseE
  have e1 : atomE (y.ren off).h.p (y.ren off).h.es = 0 := goodA_ren h.1 off
  rw [if_pos e1, if_neg (by rw [len_ren]; have := h.2.1; omega)]
  refine firstE_zero_of fun l hl => ?_
  obtain ⟨x, hx, rfl⟩ := List.mem_map.1 hl
  exact goodL_ren (h.2.2 x hx) off
theorem goodA_fine {y : At} (h : goodA y) : y.fine := ⟨by have := h.2.2.2; omega, fun e he => (h.2.2.1 e he).2.2.1⟩
theorem goodA_ints {y : At} (h : goodA y) : y.ints := fun e he => (h.2.2.1 e he).2.2.2
theorem zT_fine : zT.fine := by unfold T.fine zT; decide
theorem zT_int : inI zT.i := ⟨by decide, by decide⟩
theorem goodL_fine {l : Li} (h : goodL l) : l.fine ∧ l.ints := by
  rcases h with ⟨hk, h1, h2, h3, h4⟩ | ⟨hk, h1, h2, h3, h4, h5⟩
  · exact ⟨⟨goodA_fine h4, by rw [h2]; exact zT_fine, by rw [h3]; exact zT_fine⟩, ⟨goodA_ints h4, by rw [h2]; exact zT_int, by rw [h3]; exact zT_int⟩⟩
  · refine ⟨⟨⟨by rw [h2]; decide, by rw [h3]; simp⟩, h4.2.2.1, h5.2.2.1⟩, ⟨?_, h4.2.2.2, h5.2.2.2⟩⟩
    intro e he
    rw [h3] at he; cases he
theorem goodC_fine {y : Cl} (h : goodC y) : y.fines ∧ y.ints := ⟨⟨goodA_fine h.1, fun l hl => (goodL_fine (h.2.2 l hl)).1⟩, ⟨goodA_ints h.1, fun l hl => (goodL_fine (h.2.2 l hl)).2⟩⟩
theorem goodC_made {w : World} {R : Nat} {y : Cl} (h : goodC y) (ho : Cl.own w R y) : MadeO w R y := by
  have hyn : y.ls.length = y.n := by have := (own_rd ho.b).1; rw [lcells_length] at this; omega
  refine ⟨ho, by have := h.1.2.1; omega, fun l hl => ?_, by have := h.2.1; omega, (goodC_fine h).1, (goodC_fine h).2, goodC_err h⟩
  rcases h.2.2 l hl with ⟨_, _, _, _, h4⟩ | ⟨_, _, _, h3, _⟩
  · have := h4.2.1; omega
  · rw [h3]; simp

set_option maxRecDepth 20000 in
set_option maxHeartbeats 16000000 in
theorem clause_any (x : Cl) (w : World) (hok : Cl.ok w x) (hf : x.fines) :
    Calls Try.prog 18 #[.agg x.cells.toArray, .int .i64 16] w fun e w' => ∃ y : Cl, e = .returned (.agg y.cells.toArray) ∧ goodC y ∧ Cl.own w' w.heap.size y ∧ Below w.heap.size w w' := by
  obtain ⟨j0, hj, hy0, hy1, hy2⟩ := info_parts Try.info61
  obtain ⟨⟨hp, hA, hn, hc, ho, hes⟩, B, m, d, ls⟩ := x
  obtain ⟨hhd, hl, hm152, hlk⟩ := hok
  obtain ⟨hfh, hfl⟩ := hf
  dsimp only at hhd hl hm152 hlk hfh hfl
  show Calls Try.prog 18 #[.agg #[.string hp, .slice hA hn hc, .int .i64 ho, .slice B m d], .int .i64 16] w _
  have HHD := Lib.hid hhd
  have HL := Lib.hid hl
  have HLK := Lib.hid hlk
  have HFH := Lib.hid hfh
  have HFL := Lib.hid hfl
  have hmb := hl.2.1
  clear hhd hl hlk hfh hfl
  go_enter Try.func18, Try.ntmps18
  go_upto_region 1 with (fail)
  obtain ⟨hb3, h1, h2, hs3⟩ := two_alloc w 45 45 [.string hp, .slice hA hn hc, .int .i64 ho, .slice B m d] [.string ⟨#[]⟩, .slice none 0 0, .int .i64 0, .slice none 0 0]
  generalize World.alloc (World.alloc _ _) _ = w3 at *
  generalize hR : w.heap.size = R at *
  have HRR := Lib.hid hR
  clear hR
  have HB3 := Lib.hid hb3
  have H1 := Lib.hid h1
  have H2 := Lib.hid h2
  clear hb3 h1 h2
  have f0 := (H1.out.cell 0).trans rfl
  have f1 := (H1.out.cell 1).trans rfl
  have f2 := (H1.out.cell 2).trans rfl
  have kh := atom_any ⟨hp, hA, hn, hc, ho, hes⟩ w3 (HHD.out.up (HRR.out ▸ HB3.out)) HFH.out
  dsimp only at kh
  go_wp2_with fail
  refine kh.mono ?_
  rintro e w4 ⟨⟨yp, yA, yn, yc, yo, yes⟩, rfl, hgy, hoy, hb4⟩
  have HGH := Lib.hid hgy
  have HO4 := Lib.hid (hoy.le (show R ≤ w3.heap.size by omega))
  have HB4 := Lib.hid (HB3.out.trans (hb4.mono (by omega)))
  have H14 := Lib.hid (H1.out.below hb4 H1.out.lt)
  have H24 := Lib.hid (H2.out.below hb4 H2.out.lt)
  have hsz4 : R + 2 ≤ w4.heap.size := by have := hb4.size; omega
  clear hgy hoy hb4 kh f0 f1 f2 H1 H2 HB3 hs3
  dsimp only
  go_upto_region 2 with (fail)
  have H34 := Lib.hid (Blk.new w4 45 [.string yp, .slice yA yn yc, .int .i64 yo, .slice none 0 0])
  have HBG := Lib.hid (HB4.out.alloc (by omega) (.cells #[.string yp, .slice yA yn yc, .int .i64 yo, .slice none 0 0] 45))
  have HG1 := Lib.hid (H14.out.alloc (.cells #[.string yp, .slice yA yn yc, .int .i64 yo, .slice none 0 0] 45))
  have HG2 := Lib.hid (H24.out.alloc (.cells #[.string yp, .slice yA yn yc, .int .i64 yo, .slice none 0 0] 45))
  have HOG : Hid (At.own (w4.alloc (.cells #[.string yp, .slice yA yn yc, .int .i64 yo, .slice none 0 0] 45)) R ⟨yp, yA, yn, yc, yo, yes⟩) := Lib.hid (World.ownsRow.alloc HO4.out (.cells #[.string yp, .slice yA yn yc, .int .i64 yo, .slice none 0 0] 45))
  clear HB4 H14 H24 HO4
  generalize World.alloc _ _ = w5 at *
  generalize hZ : w4.heap.size = P at *
  clear hZ
  go_upto_region 3 with (fail)
  go_loopg [6] (min m 16) (fun gk u6 wr => ∃ (k : Nat) (acc : List Li) (vb : Value), u6 = .int .i64 k ∧ k ≤ m ∧ k ≤ 16 ∧ Hid (gk = min m 16 - k) ∧ Hid (Below R w wr) ∧ Hid (Blk wr R 45 [.string hp, .slice hA hn hc, .int .i64 ho, .slice B m d]) ∧ Hid (Blk wr (R + 1) 45 [.string ⟨#[]⟩, .slice none 0 0, .int .i64 0, .slice none 0 0]) ∧
    Hid (Blk wr P 45 [.string yp, .slice yA yn yc, .int .i64 yo, vb]) ∧ Hid (At.own wr R ⟨yp, yA, yn, yc, yo, yes⟩) ∧ Hid (wr.ownsRow R 61 14 vb k (lcells acc)) ∧ Hid (∀ l ∈ acc, goodL l ∧ At.own wr R l.a))
  case atStart => exact ⟨0, [], .slice none 0 0, rfl, Nat.zero_le _, Nat.zero_le _, Lib.hid (by omega), HBG, HG1, HG2, H34, HOG, Lib.hid (World.ownsRow_nil _ _ _ _), Lib.hid (by simp)⟩
  case round =>
    clear HBG HG1 HG2 H34 HOG
    obtain ⟨k, acc, vb, rfl, hkm, hk16, HG, HB, H1, H2, H3, HO, HV, HW⟩ := hrel
    have f3 := (H1.out.cell 3).trans rfl
    have hsr : P < wr.heap.size := H3.out.lt
    by_cases hlt : k < m ∧ k < 16
    · obtain ⟨hlm, hl16⟩ := hlt
      have q1 : decide ((k : Int) < (m : Int)) = true := decide_eq_true (by omega)
      have q2 : decide ((k : Int) < 16) = true := decide_eq_true (by omega)
      obtain ⟨B', off, hk1, rfl, hBB, hcc⟩ := (HL.out.below HB.out).at Li.cells 14 (fun _ => rfl) (by omega) k hlm
      have HXO := Lib.hid (HLK.out _ (List.getElem_mem hk1))
      have HXF := Lib.hid (HFL.out _ (List.getElem_mem hk1))
      generalize ls[k] = x at *
      obtain ⟨xk, ⟨xp, xA, xn, xc, xo, xes⟩, xop, ⟨xlk, xli, xlt, xlo⟩, ⟨xrk, xri, xrt, xro⟩, xof⟩ := x
      have c0 := hcc 0 _ (by omega) rfl
      have c1 := hcc 1 _ (by omega) rfl
      have c2 := hcc 2 _ (by omega) rfl
      have c3 := hcc 3 _ (by omega) rfl
      have c4 := hcc 4 _ (by omega) rfl
      have c5 := hcc 5 _ (by omega) rfl
      have c6 := hcc 6 _ (by omega) rfl
      have c7 := hcc 7 _ (by omega) rfl
      have c8 := hcc 8 _ (by omega) rfl
      have c9 := hcc 9 _ (by omega) rfl
      have c10 := hcc 10 _ (by omega) rfl
      have c11 := hcc 11 _ (by omega) rfl
      have c12 := hcc 12 _ (by omega) rfl
      have c13 := hcc 13 _ (by omega) rfl
      clear hcc
      rw [Nat.add_zero] at c0
      dsimp only at c0 c1 c2 c3 c4 c5 c6 c7 c8 c9 c10 c11 c12 c13 HXO HXF
      go_upto_region 6 with (fail)
      have hba := (Below.refl wr.heap.size wr).alloc (Nat.le_refl _) (.cells #[.int .i64 xk, .string xp, .slice xA xn xc, .int .i64 xo, .int .i64 xop, .int .i64 xlk, .int .i64 xli, .string xlt, .int .i64 xlo, .int .i64 xrk, .int .i64 xri, .string xrt, .int .i64 xro, .int .i64 xof] 61)
      have NB := Lib.hid (HB.out.alloc (by have := HB.out.size; rw [HRR.out] at this; exact this) (.cells #[.int .i64 xk, .string xp, .slice xA xn xc, .int .i64 xo, .int .i64 xop, .int .i64 xlk, .int .i64 xli, .string xlt, .int .i64 xlo, .int .i64 xrk, .int .i64 xri, .string xrt, .int .i64 xro, .int .i64 xof] 61))
      have N1 := Lib.hid (H1.out.alloc (.cells #[.int .i64 xk, .string xp, .slice xA xn xc, .int .i64 xo, .int .i64 xop, .int .i64 xlk, .int .i64 xli, .string xlt, .int .i64 xlo, .int .i64 xrk, .int .i64 xri, .string xrt, .int .i64 xro, .int .i64 xof] 61))
      have N2 := Lib.hid (H2.out.alloc (.cells #[.int .i64 xk, .string xp, .slice xA xn xc, .int .i64 xo, .int .i64 xop, .int .i64 xlk, .int .i64 xli, .string xlt, .int .i64 xlo, .int .i64 xrk, .int .i64 xri, .string xrt, .int .i64 xro, .int .i64 xof] 61))
      have N3 := Lib.hid (H3.out.alloc (.cells #[.int .i64 xk, .string xp, .slice xA xn xc, .int .i64 xo, .int .i64 xop, .int .i64 xlk, .int .i64 xli, .string xlt, .int .i64 xlo, .int .i64 xrk, .int .i64 xri, .string xrt, .int .i64 xro, .int .i64 xof] 61))
      have NQ := Lib.hid (Blk.new wr 61 [.int .i64 xk, .string xp, .slice xA xn xc, .int .i64 xo, .int .i64 xop, .int .i64 xlk, .int .i64 xli, .string xlt, .int .i64 xlo, .int .i64 xrk, .int .i64 xri, .string xrt, .int .i64 xro, .int .i64 xof])
      have NO : Hid (At.own (wr.alloc (.cells #[.int .i64 xk, .string xp, .slice xA xn xc, .int .i64 xo, .int .i64 xop, .int .i64 xlk, .int .i64 xli, .string xlt, .int .i64 xlo, .int .i64 xrk, .int .i64 xri, .string xrt, .int .i64 xro, .int .i64 xof] 61)) R ⟨yp, yA, yn, yc, yo, yes⟩) := Lib.hid (HO.out.below hba)
      have NV := Lib.hid (own_below HV.out hba)
      have NW : Hid (∀ l ∈ acc, goodL l ∧ At.own (wr.alloc (.cells #[.int .i64 xk, .string xp, .slice xA xn xc, .int .i64 xo, .int .i64 xop, .int .i64 xlk, .int .i64 xli, .string xlt, .int .i64 xlo, .int .i64 xrk, .int .i64 xri, .string xrt, .int .i64 xro, .int .i64 xof] 61)) R l.a) := Lib.hid fun l hl => ⟨(HW.out l hl).1, (HW.out l hl).2.below hba⟩
      have hs4 : P < (wr.alloc (.cells #[.int .i64 xk, .string xp, .slice xA xn xc, .int .i64 xo, .int .i64 xop, .int .i64 xlk, .int .i64 xli, .string xlt, .int .i64 xlo, .int .i64 xrk, .int .i64 xri, .string xrt, .int .i64 xro, .int .i64 xof] 61)).heap.size := by have := hba.size; omega
      have hRP : R ≤ wr.heap.size := by have := HB.out.size; rw [HRR.out] at this; exact this
      have HVQ : Hid (∀ g, vb.ownBlock = some g → g < wr.heap.size) := Lib.hid (fun g hg => (HV.out.lt g hg).2)
      clear hba HB H1 H2 H3 HO HV HW f3 q1 q2 c0 c1 c2 c3 c4 c5 c6 c7 c8 c9 c10 c11 c12 c13
      generalize World.alloc _ _ = w4 at *
      generalize wr.heap.size = Q at *
      have g0 := (NQ.out.cell 0).trans rfl
      have km := mod_any xk 4 w4 (by omega) (by omega)
      go_wp2_with fail
      refine km.mono ?_
      rintro e w6 ⟨r, rfl, hr0, hr4, hb6⟩
      have MB := Lib.hid (NB.out.trans (hb6.mono (by have := NB.out.size; rw [HRR.out] at this; exact this)))
      have M1 := Lib.hid (N1.out.below hb6 N1.out.lt)
      have M2 := Lib.hid (N2.out.below hb6 N2.out.lt)
      have M3 := Lib.hid (N3.out.below hb6 N3.out.lt)
      have MQ := Lib.hid (NQ.out.below hb6 NQ.out.lt)
      have MO := Lib.hid (NO.out.below hb6)
      have MV := Lib.hid (own_below NV.out hb6)
      have MW : Hid (∀ l ∈ acc, goodL l ∧ At.own w6 R l.a) := Lib.hid fun l hl => ⟨(NW.out l hl).1, (NW.out l hl).2.below hb6⟩
      have hs6 : P < w6.heap.size := M3.out.lt
      have hR6 : R ≤ w6.heap.size := by have := MB.out.size; rw [HRR.out] at this; exact this
      clear km hb6 g0 NB N1 N2 N3 NQ NO NV NW hs4 hRP
      by_cases h2 : r = 2
      · subst h2
        go_upto_region 9 with (fail)
        have HBd : Hid (Below R w w6.drew) := Lib.hid MB.out.drew
        have H1d := Lib.hid M1.out.drew
        have H2d := Lib.hid M2.out.drew
        have H3d := Lib.hid M3.out.drew
        have HQd := Lib.hid MQ.out.drew
        have HOd : Hid (At.own w6.drew R ⟨yp, yA, yn, yc, yo, yes⟩) := Lib.hid MO.out.drew
        have HVd : Hid (w6.drew.ownsRow R 61 14 vb k (lcells acc)) := Lib.hid MV.out.drew
        have HWd : Hid (∀ l ∈ acc, goodL l ∧ At.own w6.drew R l.a) := Lib.hid fun l hl => ⟨(MW.out l hl).1, (MW.out l hl).2.drew⟩
        have hsd : P < w6.drew.heap.size := hs6
        have hRd : R ≤ w6.drew.heap.size := hR6
        clear MB M1 M2 M3 MQ MO MV MW hs6 hR6
        generalize hdw : w6.drew = b0 at *
        obtain ⟨C, hCi⟩ : ∃ C : World → Prop, ∀ w', C w' ↔ (Blk w' P 45 [.string yp, .slice yA yn yc, .int .i64 yo, vb] ∧ Blk w' Q 61 [.int .i64 xk, .string xp, .slice xA xn xc, .int .i64 xo, .int .i64 xop, .int .i64 xlk, .int .i64 xli, .string xlt, .int .i64 xlo, .int .i64 xrk, .int .i64 xri, .string xrt, .int .i64 xro, .int .i64 xof]) := ⟨_, fun _ => Iff.rfl⟩
        have kn : Nonempty (WC C) := ⟨⟨_, (hCi _).2 ⟨H3d.out, HQd.out⟩⟩⟩
        have k3 : ∀ q : WC C, q.w.cell? ⟨P, 3, none⟩ = some vb := fun q => ((hCi _).1 q.h).1.cell 3
        have kq1 : ∀ q : WC C, q.w.cell? ⟨Q, 1, none⟩ = some (.string xp) := fun q => ((hCi _).1 q.h).2.cell 1
        have kq2 : ∀ q : WC C, q.w.cell? ⟨Q, 2, none⟩ = some (.slice xA xn xc) := fun q => ((hCi _).1 q.h).2.cell 2
        have kq3 : ∀ q : WC C, q.w.cell? ⟨Q, 3, none⟩ = some (.int .i64 xo) := fun q => ((hCi _).1 q.h).2.cell 3
        have kq13 : ∀ q : WC C, q.w.cell? ⟨Q, 13, none⟩ = some (.int .i64 xof) := fun q => ((hCi _).1 q.h).2.cell 13
        refine wp_region_frontN C [0, 1, 2, 3, 5, 6] 6 (fun j => decide (j < 11)) (by kernel_rfl) (fun _ _ d _ _ h => by cases d <;> exact h) (by kernel_rfl) (hdw ▸ (hCi _).2 ⟨H3d.out, HQd.out⟩) ?_
        simp only [List.map_cons, List.map_nil, List.getD_cons_zero, List.getD_cons_succ]
        repeat (go_big_quiet_step (fail))
        refine wpQuiet_nil ?_
        clear k3 kn kq1 kq2 kq3 kq13
        rw [hdw]
        clear hdw
        have HCi := Lib.hid hCi
        clear hCi
        have HB := HBd
        have H1 := H1d
        have H2 := H2d
        have H3 := H3d
        have HQ := HQd
        have HO := HOd
        have HV := HVd
        have HW := HWd
        have hR0 := hRd
        clear HBd H1d H2d H3d HQd HOd HVd HWd hRd
        refine wpN_one (i := 4) (by kernel_rfl) rfl ?_
        have ka := atom_any ⟨xp, xA, xn, xc, xo, xes⟩ b0 (At.ok.up HXO.out (HRR.out ▸ HB.out)) HXF.out.1
        dsimp only at ka
        go_wp2_with fail
        refine ka.mono ?_
        rintro e b1 ⟨⟨zp, zA, zn, zc, zo, zes⟩, rfl, hgz, hoz, hb⟩
        have HGZ := Lib.hid hgz
        have HOZ := Lib.hid (hoz.le hR0)
        have HB := Lib.hid (HB.out.trans (hb.mono hR0))
        have H1 := Lib.hid (H1.out.below hb H1.out.lt)
        have H2 := Lib.hid (H2.out.below hb H2.out.lt)
        have H3 := Lib.hid (H3.out.below hb H3.out.lt)
        have HQ := Lib.hid (HQ.out.below hb HQ.out.lt)
        have HO := Lib.hid (HO.out.below hb)
        have HV := Lib.hid (own_below HV.out hb)
        have HW : Hid (∀ l ∈ acc, goodL l ∧ At.own b1 R l.a) := Lib.hid fun l hl => ⟨(HW.out l hl).1, (HW.out l hl).2.below hb⟩
        have hR0 : R ≤ b1.heap.size := Nat.le_trans hR0 hb.size
        have hs1 : P < b1.heap.size := H3.out.lt
        clear hb hgz hoz ka
        dsimp only
        go_wp2
        refine tailN_normal ((HCi.out _).2 ⟨H3.out, HQ.out⟩) ?_
        have HNL := Lib.hid (show goodL ⟨2, ⟨zp, zA, zn, zc, zo, zes⟩, 0, ⟨0, 0, ⟨#[]⟩, 0⟩, ⟨0, 0, ⟨#[]⟩, 0⟩, xof⟩ from .inl ⟨by simp, rfl, rfl, rfl, HGZ.out⟩)
        have HNO := Lib.hid (show At.own b1 R (⟨zp, zA, zn, zc, zo, zes⟩ : At) from HOZ.out)
        refine wpN_one (i := 7) (by kernel_rfl) rfl ?_
        go_wp2
        refine tailN_normal ((HCi.out _).2 ⟨H3.out, HQ.out⟩) ?_
        refine wpN_one (i := 8) (by kernel_rfl) rfl ?_
        go_wp2
        have KB := Lib.hid (HB.out.alloc hR0 (.cells (Li.cells ⟨2, ⟨zp, zA, zn, zc, zo, zes⟩, 0, ⟨0, 0, ⟨#[]⟩, 0⟩, ⟨0, 0, ⟨#[]⟩, 0⟩, xof⟩).toArray 61))
        have K1 := Lib.hid (H1.out.alloc (.cells (Li.cells ⟨2, ⟨zp, zA, zn, zc, zo, zes⟩, 0, ⟨0, 0, ⟨#[]⟩, 0⟩, ⟨0, 0, ⟨#[]⟩, 0⟩, xof⟩).toArray 61))
        have K2 := Lib.hid (H2.out.alloc (.cells (Li.cells ⟨2, ⟨zp, zA, zn, zc, zo, zes⟩, 0, ⟨0, 0, ⟨#[]⟩, 0⟩, ⟨0, 0, ⟨#[]⟩, 0⟩, xof⟩).toArray 61))
        have K3 := Lib.hid (H3.out.alloc (.cells (Li.cells ⟨2, ⟨zp, zA, zn, zc, zo, zes⟩, 0, ⟨0, 0, ⟨#[]⟩, 0⟩, ⟨0, 0, ⟨#[]⟩, 0⟩, xof⟩).toArray 61))
        have KQ := Lib.hid (HQ.out.alloc (.cells (Li.cells ⟨2, ⟨zp, zA, zn, zc, zo, zes⟩, 0, ⟨0, 0, ⟨#[]⟩, 0⟩, ⟨0, 0, ⟨#[]⟩, 0⟩, xof⟩).toArray 61))
        refine tailN_normal ((HCi.out _).2 ⟨K3.out, KQ.out⟩) ?_
        have hba := (Below.refl b1.heap.size b1).alloc (Nat.le_refl _) (.cells (Li.cells ⟨2, ⟨zp, zA, zn, zc, zo, zes⟩, 0, ⟨0, 0, ⟨#[]⟩, 0⟩, ⟨0, 0, ⟨#[]⟩, 0⟩, xof⟩).toArray 61)
        have hown := HV.out
        refine wpN_one (i := 9) (by kernel_rfl) rfl ?_
        refine wpList_append_own _ rfl _ _ 43 rfl R 61 j0 _ 14 152 Try.underlying43 hj hy0 hy1 hy2 rfl (by decide) _ _ _ rfl (hown.alloc _) ⟨b1.heap.size, 0, none⟩ 1 1 (Li.cells ⟨2, ⟨zp, zA, zn, zc, zo, zes⟩, 0, ⟨0, 0, ⟨#[]⟩, 0⟩, ⟨0, 0, ⟨#[]⟩, 0⟩, xof⟩) rfl rfl (fun j u h => new_cells _ _ _ j u h) (Li.one _) (by unfold maxLen; omega) (by omega) (by simp; omega) ?_
        intro v7 w7 hown7 hg7 _
        obtain ⟨A7, d7, rfl, hn7⟩ := own_slice hown7
        have BL := KB.out.grown hg7 (by simp; omega) (fun q hq => (hown.lt q hq).1)
        have a1 := K1.out.grown hg7 (own_blk_ne hown H1.out (by decide))
        have a2 := K2.out.grown hg7 (own_blk_ne hown H2.out (by decide))
        have a3 := K3.out.grown hg7 (own_blk_ne hown H3.out (by decide))
        have O7 := own_kept_types (HO.out.below hba) (hown.alloc _) (by decide) hg7
        have V7 : w7.ownsRow R 61 14 (.slice A7 (k + 1) d7) (k + 1) (lcells (acc ++ [(⟨2, ⟨zp, zA, zn, zc, zo, zes⟩, 0, ⟨0, 0, ⟨#[]⟩, 0⟩, ⟨0, 0, ⟨#[]⟩, 0⟩, xof⟩ : Li)])) := by
          rw [lcells_append]; simpa [lcells] using hown7
        have W7 : ∀ l ∈ acc ++ [(⟨2, ⟨zp, zA, zn, zc, zo, zes⟩, 0, ⟨0, 0, ⟨#[]⟩, 0⟩, ⟨0, 0, ⟨#[]⟩, 0⟩, xof⟩ : Li)], goodL l ∧ At.own w7 R l.a := by
          intro l hl
          rcases List.mem_append.1 hl with hl | hl
          · exact ⟨(HW.out l hl).1, own_kept_types ((HW.out l hl).2.below hba) (hown.alloc _) (by decide) hg7⟩
          · rw [List.mem_singleton.1 hl]
            exact ⟨HNL.out, own_kept_types (At.own.below HNO.out hba) (hown.alloc _) (by decide) hg7⟩
        have hC7 := Lib.hid (show C w7 from (HCi.out _).2 ⟨a3, KQ.out.grown hg7 (fun e => by have := HVQ.out Q e.symm; omega)⟩)
        have z3 := a3.frozen 3
        have y3 := (a3.cell 3).trans rfl
        have hl7 := a3.lt
        have HA1 := Lib.hid a1
        have HA2 := Lib.hid a2
        have HA3 := Lib.hid a3
        have HBL := Lib.hid BL
        have HO7 : Hid (At.own w7 R ⟨yp, yA, yn, yc, yo, yes⟩) := Lib.hid O7
        have HV7 := Lib.hid V7
        have HW7 := Lib.hid W7
        clear a1 a2 a3 BL O7 V7 W7 hown hown7 hg7 hba KB K1 K2 K3 KQ HB H1 H2 H3 HQ HO HV HW HNL HNO
        refine tailN_normal hC7.out ?_
        refine wpN_one (i := 10) (by kernel_rfl) rfl ?_
        go_wp2
        refine tailN_normal hC7.out ?_
        refine wpN_one (i := 11) (by kernel_rfl) rfl ?_
        go_wp2
        refine ⟨fun h => absurd h (by decide), ?_⟩
        refine wpN_none (by kernel_rfl) ?_
        have HG1 := Lib.hid (HA1.out.far (p := ⟨P, 3, none⟩) (by simp; omega) (.slice A7 (k + 1) d7))
        have HG2 := Lib.hid (HA2.out.far (p := ⟨P, 3, none⟩) (by simp; omega) (.slice A7 (k + 1) d7))
        have HG3 := Lib.hid (HA3.out.set_ 3 (.slice A7 (k + 1) d7))
        have HOG : Hid (At.own (w7.setCell ⟨P, 3, none⟩ (.slice A7 (k + 1) d7)) R ⟨yp, yA, yn, yc, yo, yes⟩) := Lib.hid (own_setCell_blk HO7.out HA3.out (by decide) 3 (.slice A7 (k + 1) d7))
        have HVG := Lib.hid (own_setCell_blk HV7.out HA3.out (by decide) 3 (.slice A7 (k + 1) d7))
        have HBG := Lib.hid (HBL.out.setCell (p := ⟨P, 3, none⟩) (by simp; omega) (.slice A7 (k + 1) d7))
        have HWG := Lib.hid (fun l hl => And.intro (HW7.out l hl).1 (own_setCell_blk (HW7.out l hl).2 HA3.out (by decide) 3 (.slice A7 (k + 1) d7)))
        simp only [List.set_cons_succ, List.set_cons_zero] at HG3
        clear HA1 HA2 HA3 HBL HO7 HV7 HW7 z3 y3 hl7 hC7
        generalize World.setCell _ _ _ = w8 at *
        go_wp2
        go_roundg (min m 16 - (k + 1))
        case measure => have := HG.out; omega
        case rel => exact ⟨k + 1, _, _, by go_num, by omega, by omega, Lib.hid rfl, HBG, HG1, HG2, HG3, HOG, HVG, HWG⟩
      · have t2 : (r == 2) = false := by simpa using h2
        by_cases h3 : r = 3
        · subst h3
          go_upto_region 11 with (fail)
          have HBd : Hid (Below R w w6.drew) := Lib.hid MB.out.drew
          have H1d := Lib.hid M1.out.drew
          have H2d := Lib.hid M2.out.drew
          have H3d := Lib.hid M3.out.drew
          have HQd := Lib.hid MQ.out.drew
          have HOd : Hid (At.own w6.drew R ⟨yp, yA, yn, yc, yo, yes⟩) := Lib.hid MO.out.drew
          have HVd : Hid (w6.drew.ownsRow R 61 14 vb k (lcells acc)) := Lib.hid MV.out.drew
          have HWd : Hid (∀ l ∈ acc, goodL l ∧ At.own w6.drew R l.a) := Lib.hid fun l hl => ⟨(MW.out l hl).1, (MW.out l hl).2.drew⟩
          have hsd : P < w6.drew.heap.size := hs6
          have hRd : R ≤ w6.drew.heap.size := hR6
          clear MB M1 M2 M3 MQ MO MV MW hs6 hR6
          generalize hdw : w6.drew = b0 at *
          obtain ⟨C, hCi⟩ : ∃ C : World → Prop, ∀ w', C w' ↔ (Blk w' P 45 [.string yp, .slice yA yn yc, .int .i64 yo, vb] ∧ Blk w' Q 61 [.int .i64 xk, .string xp, .slice xA xn xc, .int .i64 xo, .int .i64 xop, .int .i64 xlk, .int .i64 xli, .string xlt, .int .i64 xlo, .int .i64 xrk, .int .i64 xri, .string xrt, .int .i64 xro, .int .i64 xof]) := ⟨_, fun _ => Iff.rfl⟩
          have kn : Nonempty (WC C) := ⟨⟨_, (hCi _).2 ⟨H3d.out, HQd.out⟩⟩⟩
          have k3 : ∀ q : WC C, q.w.cell? ⟨P, 3, none⟩ = some vb := fun q => ((hCi _).1 q.h).1.cell 3
          have kq4 : ∀ q : WC C, q.w.cell? ⟨Q, 4, none⟩ = some (.int .i64 xop) := fun q => ((hCi _).1 q.h).2.cell 4
          have kq5 : ∀ q : WC C, q.w.cell? ⟨Q, 5, none⟩ = some (.int .i64 xlk) := fun q => ((hCi _).1 q.h).2.cell 5
          have kq6 : ∀ q : WC C, q.w.cell? ⟨Q, 6, none⟩ = some (.int .i64 xli) := fun q => ((hCi _).1 q.h).2.cell 6
          have kq7 : ∀ q : WC C, q.w.cell? ⟨Q, 7, none⟩ = some (.string xlt) := fun q => ((hCi _).1 q.h).2.cell 7
          have kq8 : ∀ q : WC C, q.w.cell? ⟨Q, 8, none⟩ = some (.int .i64 xlo) := fun q => ((hCi _).1 q.h).2.cell 8
          have kq9 : ∀ q : WC C, q.w.cell? ⟨Q, 9, none⟩ = some (.int .i64 xrk) := fun q => ((hCi _).1 q.h).2.cell 9
          have kq10 : ∀ q : WC C, q.w.cell? ⟨Q, 10, none⟩ = some (.int .i64 xri) := fun q => ((hCi _).1 q.h).2.cell 10
          have kq11 : ∀ q : WC C, q.w.cell? ⟨Q, 11, none⟩ = some (.string xrt) := fun q => ((hCi _).1 q.h).2.cell 11
          have kq12 : ∀ q : WC C, q.w.cell? ⟨Q, 12, none⟩ = some (.int .i64 xro) := fun q => ((hCi _).1 q.h).2.cell 12
          have kq13 : ∀ q : WC C, q.w.cell? ⟨Q, 13, none⟩ = some (.int .i64 xof) := fun q => ((hCi _).1 q.h).2.cell 13
          refine wp_region_frontN C [0, 1, 2, 3, 6, 7, 9, 10, 12, 13] 9 (fun j => decide (j < 18)) (by kernel_rfl) (fun _ _ d _ _ h => by cases d <;> exact h) (by kernel_rfl) (hdw ▸ (hCi _).2 ⟨H3d.out, HQd.out⟩) ?_
          simp only [List.map_cons, List.map_nil, List.getD_cons_zero, List.getD_cons_succ]
          repeat (go_big_quiet_step (fail))
          refine wpQuiet_nil ?_
          clear k3 kn kq4 kq5 kq6 kq7 kq8 kq9 kq10 kq11 kq12 kq13
          rw [hdw]
          clear hdw
          have HCi := Lib.hid hCi
          clear hCi
          have HB := HBd
          have H1 := H1d
          have H2 := H2d
          have H3 := H3d
          have HQ := HQd
          have HO := HOd
          have HV := HVd
          have HW := HWd
          have hR0 := hRd
          clear HBd H1d H2d H3d HQd HOd HVd HWd hRd
          refine wpN_one (i := 4) (by kernel_rfl) rfl ?_
          have ka := mod_any xop 6 b0 (by omega) (by omega)
          go_wp2_with fail
          refine ka.mono ?_
          rintro e b1 ⟨op6, rfl, hop0, hop6, hb⟩
          have HB := Lib.hid (HB.out.trans (hb.mono hR0))
          have H1 := Lib.hid (H1.out.below hb H1.out.lt)
          have H2 := Lib.hid (H2.out.below hb H2.out.lt)
          have H3 := Lib.hid (H3.out.below hb H3.out.lt)
          have HQ := Lib.hid (HQ.out.below hb HQ.out.lt)
          have HO := Lib.hid (HO.out.below hb)
          have HV := Lib.hid (own_below HV.out hb)
          have HW : Hid (∀ l ∈ acc, goodL l ∧ At.own b1 R l.a) := Lib.hid fun l hl => ⟨(HW.out l hl).1, (HW.out l hl).2.below hb⟩
          have hR0 : R ≤ b1.heap.size := Nat.le_trans hR0 hb.size
          clear hb ka
          go_wp2
          refine tailN_normal ((HCi.out _).2 ⟨H3.out, HQ.out⟩) ?_
          have kn : Nonempty (WC C) := ⟨⟨_, (HCi.out _).2 ⟨H3.out, HQ.out⟩⟩⟩
          refine wpN_frontW C [5] 7 _ (fun _ _ d _ _ h => by cases d <;> exact h) (by kernel_rfl) ((HCi.out _).2 ⟨H3.out, HQ.out⟩) ?_
          simp only [List.map_cons, List.map_nil, List.getD_cons_zero, List.getD_cons_succ]
          repeat (go_big_quiet_step (fail))
          refine wpQuiet_nil ?_
          clear kn
          refine wpN_one (i := 8) (by kernel_rfl) rfl ?_
          have ka := term_any ⟨xlk, xli, xlt, xlo⟩ b1 HXF.out.2.1
          simp only [T.cells] at ka
          go_wp2_with fail
          refine ka.mono ?_
          rintro e b2 ⟨⟨lk, li, lt, lo⟩, rfl, hgl, hb⟩
          dsimp only
          have HGL := Lib.hid hgl
          have HB := Lib.hid (HB.out.trans (hb.mono hR0))
          have H1 := Lib.hid (H1.out.below hb H1.out.lt)
          have H2 := Lib.hid (H2.out.below hb H2.out.lt)
          have H3 := Lib.hid (H3.out.below hb H3.out.lt)
          have HQ := Lib.hid (HQ.out.below hb HQ.out.lt)
          have HO := Lib.hid (HO.out.below hb)
          have HV := Lib.hid (own_below HV.out hb)
          have HW : Hid (∀ l ∈ acc, goodL l ∧ At.own b2 R l.a) := Lib.hid fun l hl => ⟨(HW.out l hl).1, (HW.out l hl).2.below hb⟩
          have hR0 : R ≤ b2.heap.size := Nat.le_trans hR0 hb.size
          clear hb ka hgl
          go_wp2
          refine tailN_normal ((HCi.out _).2 ⟨H3.out, HQ.out⟩) ?_
          refine wpN_one (i := 11) (by kernel_rfl) rfl ?_
          have ka := term_any ⟨xrk, xri, xrt, xro⟩ b2 HXF.out.2.2
          simp only [T.cells] at ka
          go_wp2_with fail
          refine ka.mono ?_
          rintro e b3 ⟨⟨rk, ri, rt, ro⟩, rfl, hgr, hb⟩
          dsimp only
          have HGR := Lib.hid hgr
          have HB := Lib.hid (HB.out.trans (hb.mono hR0))
          have H1 := Lib.hid (H1.out.below hb H1.out.lt)
          have H2 := Lib.hid (H2.out.below hb H2.out.lt)
          have H3 := Lib.hid (H3.out.below hb H3.out.lt)
          have HQ := Lib.hid (HQ.out.below hb HQ.out.lt)
          have HO := Lib.hid (HO.out.below hb)
          have HV := Lib.hid (own_below HV.out hb)
          have HW : Hid (∀ l ∈ acc, goodL l ∧ At.own b3 R l.a) := Lib.hid fun l hl => ⟨(HW.out l hl).1, (HW.out l hl).2.below hb⟩
          have hR0 : R ≤ b3.heap.size := Nat.le_trans hR0 hb.size
          have hs1 : P < b3.heap.size := H3.out.lt
          clear hb ka hgr
          go_wp2
          refine tailN_normal ((HCi.out _).2 ⟨H3.out, HQ.out⟩) ?_
          have HNL := Lib.hid (show goodL ⟨3, ⟨⟨#[]⟩, none, 0, 0, 0, []⟩, 1 + op6, ⟨lk, li, lt, lo⟩, ⟨rk, ri, rt, ro⟩, xof⟩ from .inr ⟨rfl, ⟨by show (1 : Int) ≤ 1 + op6; omega, by show 1 + op6 ≤ (6 : Int); omega⟩, rfl, rfl, HGL.out, HGR.out⟩)
          have HNO := Lib.hid (show At.own b3 R (⟨⟨#[]⟩, none, 0, 0, 0, []⟩ : At) from World.ownsRow_nil _ _ _ _)
          refine wpN_one (i := 14) (by kernel_rfl) rfl ?_
          go_wp2
          refine tailN_normal ((HCi.out _).2 ⟨H3.out, HQ.out⟩) ?_
          refine wpN_one (i := 15) (by kernel_rfl) rfl ?_
          go_wp2
          have KB := Lib.hid (HB.out.alloc hR0 (.cells (Li.cells ⟨3, ⟨⟨#[]⟩, none, 0, 0, 0, []⟩, 1 + op6, ⟨lk, li, lt, lo⟩, ⟨rk, ri, rt, ro⟩, xof⟩).toArray 61))
          have K1 := Lib.hid (H1.out.alloc (.cells (Li.cells ⟨3, ⟨⟨#[]⟩, none, 0, 0, 0, []⟩, 1 + op6, ⟨lk, li, lt, lo⟩, ⟨rk, ri, rt, ro⟩, xof⟩).toArray 61))
          have K2 := Lib.hid (H2.out.alloc (.cells (Li.cells ⟨3, ⟨⟨#[]⟩, none, 0, 0, 0, []⟩, 1 + op6, ⟨lk, li, lt, lo⟩, ⟨rk, ri, rt, ro⟩, xof⟩).toArray 61))
          have K3 := Lib.hid (H3.out.alloc (.cells (Li.cells ⟨3, ⟨⟨#[]⟩, none, 0, 0, 0, []⟩, 1 + op6, ⟨lk, li, lt, lo⟩, ⟨rk, ri, rt, ro⟩, xof⟩).toArray 61))
          have KQ := Lib.hid (HQ.out.alloc (.cells (Li.cells ⟨3, ⟨⟨#[]⟩, none, 0, 0, 0, []⟩, 1 + op6, ⟨lk, li, lt, lo⟩, ⟨rk, ri, rt, ro⟩, xof⟩).toArray 61))
          refine tailN_normal ((HCi.out _).2 ⟨K3.out, KQ.out⟩) ?_
          have hba := (Below.refl b3.heap.size b3).alloc (Nat.le_refl _) (.cells (Li.cells ⟨3, ⟨⟨#[]⟩, none, 0, 0, 0, []⟩, 1 + op6, ⟨lk, li, lt, lo⟩, ⟨rk, ri, rt, ro⟩, xof⟩).toArray 61)
          have hown := HV.out
          refine wpN_one (i := 16) (by kernel_rfl) rfl ?_
          refine wpList_append_own _ rfl _ _ 43 rfl R 61 j0 _ 14 152 Try.underlying43 hj hy0 hy1 hy2 rfl (by decide) _ _ _ rfl (hown.alloc _) ⟨b3.heap.size, 0, none⟩ 1 1 (Li.cells ⟨3, ⟨⟨#[]⟩, none, 0, 0, 0, []⟩, 1 + op6, ⟨lk, li, lt, lo⟩, ⟨rk, ri, rt, ro⟩, xof⟩) rfl rfl (fun j u h => new_cells _ _ _ j u h) (Li.one _) (by unfold maxLen; omega) (by omega) (by simp; omega) ?_
          intro v7 w7 hown7 hg7 _
          obtain ⟨A7, d7, rfl, hn7⟩ := own_slice hown7
          have BL := KB.out.grown hg7 (by simp; omega) (fun q hq => (hown.lt q hq).1)
          have a1 := K1.out.grown hg7 (own_blk_ne hown H1.out (by decide))
          have a2 := K2.out.grown hg7 (own_blk_ne hown H2.out (by decide))
          have a3 := K3.out.grown hg7 (own_blk_ne hown H3.out (by decide))
          have O7 := own_kept_types (HO.out.below hba) (hown.alloc _) (by decide) hg7
          have V7 : w7.ownsRow R 61 14 (.slice A7 (k + 1) d7) (k + 1) (lcells (acc ++ [(⟨3, ⟨⟨#[]⟩, none, 0, 0, 0, []⟩, 1 + op6, ⟨lk, li, lt, lo⟩, ⟨rk, ri, rt, ro⟩, xof⟩ : Li)])) := by
            rw [lcells_append]; simpa [lcells] using hown7
          have W7 : ∀ l ∈ acc ++ [(⟨3, ⟨⟨#[]⟩, none, 0, 0, 0, []⟩, 1 + op6, ⟨lk, li, lt, lo⟩, ⟨rk, ri, rt, ro⟩, xof⟩ : Li)], goodL l ∧ At.own w7 R l.a := by
            intro l hl
            rcases List.mem_append.1 hl with hl | hl
            · exact ⟨(HW.out l hl).1, own_kept_types ((HW.out l hl).2.below hba) (hown.alloc _) (by decide) hg7⟩
            · rw [List.mem_singleton.1 hl]
              exact ⟨HNL.out, own_kept_types (At.own.below HNO.out hba) (hown.alloc _) (by decide) hg7⟩
          have hC7 := Lib.hid (show C w7 from (HCi.out _).2 ⟨a3, KQ.out.grown hg7 (fun e => by have := HVQ.out Q e.symm; omega)⟩)
          have z3 := a3.frozen 3
          have y3 := (a3.cell 3).trans rfl
          have hl7 := a3.lt
          have HA1 := Lib.hid a1
          have HA2 := Lib.hid a2
          have HA3 := Lib.hid a3
          have HBL := Lib.hid BL
          have HO7 : Hid (At.own w7 R ⟨yp, yA, yn, yc, yo, yes⟩) := Lib.hid O7
          have HV7 := Lib.hid V7
          have HW7 := Lib.hid W7
          clear a1 a2 a3 BL O7 V7 W7 hown hown7 hg7 hba KB K1 K2 K3 KQ HB H1 H2 H3 HQ HO HV HW HNL HNO
          refine tailN_normal hC7.out ?_
          refine wpN_one (i := 17) (by kernel_rfl) rfl ?_
          go_wp2
          refine tailN_normal hC7.out ?_
          refine wpN_one (i := 18) (by kernel_rfl) rfl ?_
          go_wp2
          refine ⟨fun h => absurd h (by decide), ?_⟩
          refine wpN_none (by kernel_rfl) ?_
          have HG1 := Lib.hid (HA1.out.far (p := ⟨P, 3, none⟩) (by simp; omega) (.slice A7 (k + 1) d7))
          have HG2 := Lib.hid (HA2.out.far (p := ⟨P, 3, none⟩) (by simp; omega) (.slice A7 (k + 1) d7))
          have HG3 := Lib.hid (HA3.out.set_ 3 (.slice A7 (k + 1) d7))
          have HOG : Hid (At.own (w7.setCell ⟨P, 3, none⟩ (.slice A7 (k + 1) d7)) R ⟨yp, yA, yn, yc, yo, yes⟩) := Lib.hid (own_setCell_blk HO7.out HA3.out (by decide) 3 (.slice A7 (k + 1) d7))
          have HVG := Lib.hid (own_setCell_blk HV7.out HA3.out (by decide) 3 (.slice A7 (k + 1) d7))
          have HBG := Lib.hid (HBL.out.setCell (p := ⟨P, 3, none⟩) (by simp; omega) (.slice A7 (k + 1) d7))
          have HWG := Lib.hid (fun l hl => And.intro (HW7.out l hl).1 (own_setCell_blk (HW7.out l hl).2 HA3.out (by decide) 3 (.slice A7 (k + 1) d7)))
          simp only [List.set_cons_succ, List.set_cons_zero] at HG3
          clear HA1 HA2 HA3 HBL HO7 HV7 HW7 z3 y3 hl7 hC7
          generalize World.setCell _ _ _ = w8 at *
          go_wp2
          go_roundg (min m 16 - (k + 1))
          case measure => have := HG.out; omega
          case rel => exact ⟨k + 1, _, _, by go_num, by omega, by omega, Lib.hid rfl, HBG, HG1, HG2, HG3, HOG, HVG, HWG⟩
        · have t3 : (r == 3) = false := by simpa using h3
          go_upto_region 7 with (fail)
          have HBd : Hid (Below R w w6.drew) := Lib.hid MB.out.drew
          have H1d := Lib.hid M1.out.drew
          have H2d := Lib.hid M2.out.drew
          have H3d := Lib.hid M3.out.drew
          have HQd := Lib.hid MQ.out.drew
          have HOd : Hid (At.own w6.drew R ⟨yp, yA, yn, yc, yo, yes⟩) := Lib.hid MO.out.drew
          have HVd : Hid (w6.drew.ownsRow R 61 14 vb k (lcells acc)) := Lib.hid MV.out.drew
          have HWd : Hid (∀ l ∈ acc, goodL l ∧ At.own w6.drew R l.a) := Lib.hid fun l hl => ⟨(MW.out l hl).1, (MW.out l hl).2.drew⟩
          have hsd : P < w6.drew.heap.size := hs6
          have hRd : R ≤ w6.drew.heap.size := hR6
          clear MB M1 M2 M3 MQ MO MV MW hs6 hR6
          generalize hdw : w6.drew = b0 at *
          obtain ⟨C, hCi⟩ : ∃ C : World → Prop, ∀ w', C w' ↔ (Blk w' P 45 [.string yp, .slice yA yn yc, .int .i64 yo, vb] ∧ Blk w' Q 61 [.int .i64 xk, .string xp, .slice xA xn xc, .int .i64 xo, .int .i64 xop, .int .i64 xlk, .int .i64 xli, .string xlt, .int .i64 xlo, .int .i64 xrk, .int .i64 xri, .string xrt, .int .i64 xro, .int .i64 xof]) := ⟨_, fun _ => Iff.rfl⟩
          have kn : Nonempty (WC C) := ⟨⟨_, (hCi _).2 ⟨H3d.out, HQd.out⟩⟩⟩
          have k3 : ∀ q : WC C, q.w.cell? ⟨P, 3, none⟩ = some vb := fun q => ((hCi _).1 q.h).1.cell 3
          have kq1 : ∀ q : WC C, q.w.cell? ⟨Q, 1, none⟩ = some (.string xp) := fun q => ((hCi _).1 q.h).2.cell 1
          have kq2 : ∀ q : WC C, q.w.cell? ⟨Q, 2, none⟩ = some (.slice xA xn xc) := fun q => ((hCi _).1 q.h).2.cell 2
          have kq3 : ∀ q : WC C, q.w.cell? ⟨Q, 3, none⟩ = some (.int .i64 xo) := fun q => ((hCi _).1 q.h).2.cell 3
          have kq13 : ∀ q : WC C, q.w.cell? ⟨Q, 13, none⟩ = some (.int .i64 xof) := fun q => ((hCi _).1 q.h).2.cell 13
          refine wp_region_frontN C [0, 1, 2, 3, 5, 6] 6 (fun j => decide (j < 11)) (by kernel_rfl) (fun _ _ d _ _ h => by cases d <;> exact h) (by kernel_rfl) (hdw ▸ (hCi _).2 ⟨H3d.out, HQd.out⟩) ?_
          simp only [List.map_cons, List.map_nil, List.getD_cons_zero, List.getD_cons_succ]
          repeat (go_big_quiet_step (fail))
          refine wpQuiet_nil ?_
          clear k3 kn kq1 kq2 kq3 kq13
          rw [hdw]
          clear hdw
          have HCi := Lib.hid hCi
          clear hCi
          have HB := HBd
          have H1 := H1d
          have H2 := H2d
          have H3 := H3d
          have HQ := HQd
          have HO := HOd
          have HV := HVd
          have HW := HWd
          have hR0 := hRd
          clear HBd H1d H2d H3d HQd HOd HVd HWd hRd
          refine wpN_one (i := 4) (by kernel_rfl) rfl ?_
          have ka := atom_any ⟨xp, xA, xn, xc, xo, xes⟩ b0 (At.ok.up HXO.out (HRR.out ▸ HB.out)) HXF.out.1
          dsimp only at ka
          go_wp2_with fail
          refine ka.mono ?_
          rintro e b1 ⟨⟨zp, zA, zn, zc, zo, zes⟩, rfl, hgz, hoz, hb⟩
          have HGZ := Lib.hid hgz
          have HOZ := Lib.hid (hoz.le hR0)
          have HB := Lib.hid (HB.out.trans (hb.mono hR0))
          have H1 := Lib.hid (H1.out.below hb H1.out.lt)
          have H2 := Lib.hid (H2.out.below hb H2.out.lt)
          have H3 := Lib.hid (H3.out.below hb H3.out.lt)
          have HQ := Lib.hid (HQ.out.below hb HQ.out.lt)
          have HO := Lib.hid (HO.out.below hb)
          have HV := Lib.hid (own_below HV.out hb)
          have HW : Hid (∀ l ∈ acc, goodL l ∧ At.own b1 R l.a) := Lib.hid fun l hl => ⟨(HW.out l hl).1, (HW.out l hl).2.below hb⟩
          have hR0 : R ≤ b1.heap.size := Nat.le_trans hR0 hb.size
          have hs1 : P < b1.heap.size := H3.out.lt
          clear hb hgz hoz ka
          dsimp only
          go_wp2
          refine tailN_normal ((HCi.out _).2 ⟨H3.out, HQ.out⟩) ?_
          have HNL := Lib.hid (show goodL ⟨1, ⟨zp, zA, zn, zc, zo, zes⟩, 0, ⟨0, 0, ⟨#[]⟩, 0⟩, ⟨0, 0, ⟨#[]⟩, 0⟩, xof⟩ from .inl ⟨by simp, rfl, rfl, rfl, HGZ.out⟩)
          have HNO := Lib.hid (show At.own b1 R (⟨zp, zA, zn, zc, zo, zes⟩ : At) from HOZ.out)
          refine wpN_one (i := 7) (by kernel_rfl) rfl ?_
          go_wp2
          refine tailN_normal ((HCi.out _).2 ⟨H3.out, HQ.out⟩) ?_
          refine wpN_one (i := 8) (by kernel_rfl) rfl ?_
          go_wp2
          have KB := Lib.hid (HB.out.alloc hR0 (.cells (Li.cells ⟨1, ⟨zp, zA, zn, zc, zo, zes⟩, 0, ⟨0, 0, ⟨#[]⟩, 0⟩, ⟨0, 0, ⟨#[]⟩, 0⟩, xof⟩).toArray 61))
          have K1 := Lib.hid (H1.out.alloc (.cells (Li.cells ⟨1, ⟨zp, zA, zn, zc, zo, zes⟩, 0, ⟨0, 0, ⟨#[]⟩, 0⟩, ⟨0, 0, ⟨#[]⟩, 0⟩, xof⟩).toArray 61))
          have K2 := Lib.hid (H2.out.alloc (.cells (Li.cells ⟨1, ⟨zp, zA, zn, zc, zo, zes⟩, 0, ⟨0, 0, ⟨#[]⟩, 0⟩, ⟨0, 0, ⟨#[]⟩, 0⟩, xof⟩).toArray 61))
          have K3 := Lib.hid (H3.out.alloc (.cells (Li.cells ⟨1, ⟨zp, zA, zn, zc, zo, zes⟩, 0, ⟨0, 0, ⟨#[]⟩, 0⟩, ⟨0, 0, ⟨#[]⟩, 0⟩, xof⟩).toArray 61))
          have KQ := Lib.hid (HQ.out.alloc (.cells (Li.cells ⟨1, ⟨zp, zA, zn, zc, zo, zes⟩, 0, ⟨0, 0, ⟨#[]⟩, 0⟩, ⟨0, 0, ⟨#[]⟩, 0⟩, xof⟩).toArray 61))
          refine tailN_normal ((HCi.out _).2 ⟨K3.out, KQ.out⟩) ?_
          have hba := (Below.refl b1.heap.size b1).alloc (Nat.le_refl _) (.cells (Li.cells ⟨1, ⟨zp, zA, zn, zc, zo, zes⟩, 0, ⟨0, 0, ⟨#[]⟩, 0⟩, ⟨0, 0, ⟨#[]⟩, 0⟩, xof⟩).toArray 61)
          have hown := HV.out
          refine wpN_one (i := 9) (by kernel_rfl) rfl ?_
          refine wpList_append_own _ rfl _ _ 43 rfl R 61 j0 _ 14 152 Try.underlying43 hj hy0 hy1 hy2 rfl (by decide) _ _ _ rfl (hown.alloc _) ⟨b1.heap.size, 0, none⟩ 1 1 (Li.cells ⟨1, ⟨zp, zA, zn, zc, zo, zes⟩, 0, ⟨0, 0, ⟨#[]⟩, 0⟩, ⟨0, 0, ⟨#[]⟩, 0⟩, xof⟩) rfl rfl (fun j u h => new_cells _ _ _ j u h) (Li.one _) (by unfold maxLen; omega) (by omega) (by simp; omega) ?_
          intro v7 w7 hown7 hg7 _
          obtain ⟨A7, d7, rfl, hn7⟩ := own_slice hown7
          have BL := KB.out.grown hg7 (by simp; omega) (fun q hq => (hown.lt q hq).1)
          have a1 := K1.out.grown hg7 (own_blk_ne hown H1.out (by decide))
          have a2 := K2.out.grown hg7 (own_blk_ne hown H2.out (by decide))
          have a3 := K3.out.grown hg7 (own_blk_ne hown H3.out (by decide))
          have O7 := own_kept_types (HO.out.below hba) (hown.alloc _) (by decide) hg7
          have V7 : w7.ownsRow R 61 14 (.slice A7 (k + 1) d7) (k + 1) (lcells (acc ++ [(⟨1, ⟨zp, zA, zn, zc, zo, zes⟩, 0, ⟨0, 0, ⟨#[]⟩, 0⟩, ⟨0, 0, ⟨#[]⟩, 0⟩, xof⟩ : Li)])) := by
            rw [lcells_append]; simpa [lcells] using hown7
          have W7 : ∀ l ∈ acc ++ [(⟨1, ⟨zp, zA, zn, zc, zo, zes⟩, 0, ⟨0, 0, ⟨#[]⟩, 0⟩, ⟨0, 0, ⟨#[]⟩, 0⟩, xof⟩ : Li)], goodL l ∧ At.own w7 R l.a := by
            intro l hl
            rcases List.mem_append.1 hl with hl | hl
            · exact ⟨(HW.out l hl).1, own_kept_types ((HW.out l hl).2.below hba) (hown.alloc _) (by decide) hg7⟩
            · rw [List.mem_singleton.1 hl]
              exact ⟨HNL.out, own_kept_types (At.own.below HNO.out hba) (hown.alloc _) (by decide) hg7⟩
          have hC7 := Lib.hid (show C w7 from (HCi.out _).2 ⟨a3, KQ.out.grown hg7 (fun e => by have := HVQ.out Q e.symm; omega)⟩)
          have z3 := a3.frozen 3
          have y3 := (a3.cell 3).trans rfl
          have hl7 := a3.lt
          have HA1 := Lib.hid a1
          have HA2 := Lib.hid a2
          have HA3 := Lib.hid a3
          have HBL := Lib.hid BL
          have HO7 : Hid (At.own w7 R ⟨yp, yA, yn, yc, yo, yes⟩) := Lib.hid O7
          have HV7 := Lib.hid V7
          have HW7 := Lib.hid W7
          clear a1 a2 a3 BL O7 V7 W7 hown hown7 hg7 hba KB K1 K2 K3 KQ HB H1 H2 H3 HQ HO HV HW HNL HNO
          refine tailN_normal hC7.out ?_
          refine wpN_one (i := 10) (by kernel_rfl) rfl ?_
          go_wp2
          refine tailN_normal hC7.out ?_
          refine wpN_one (i := 11) (by kernel_rfl) rfl ?_
          go_wp2
          refine ⟨fun h => absurd h (by decide), ?_⟩
          refine wpN_none (by kernel_rfl) ?_
          have HG1 := Lib.hid (HA1.out.far (p := ⟨P, 3, none⟩) (by simp; omega) (.slice A7 (k + 1) d7))
          have HG2 := Lib.hid (HA2.out.far (p := ⟨P, 3, none⟩) (by simp; omega) (.slice A7 (k + 1) d7))
          have HG3 := Lib.hid (HA3.out.set_ 3 (.slice A7 (k + 1) d7))
          have HOG : Hid (At.own (w7.setCell ⟨P, 3, none⟩ (.slice A7 (k + 1) d7)) R ⟨yp, yA, yn, yc, yo, yes⟩) := Lib.hid (own_setCell_blk HO7.out HA3.out (by decide) 3 (.slice A7 (k + 1) d7))
          have HVG := Lib.hid (own_setCell_blk HV7.out HA3.out (by decide) 3 (.slice A7 (k + 1) d7))
          have HBG := Lib.hid (HBL.out.setCell (p := ⟨P, 3, none⟩) (by simp; omega) (.slice A7 (k + 1) d7))
          have HWG := Lib.hid (fun l hl => And.intro (HW7.out l hl).1 (own_setCell_blk (HW7.out l hl).2 HA3.out (by decide) 3 (.slice A7 (k + 1) d7)))
          simp only [List.set_cons_succ, List.set_cons_zero] at HG3
          clear HA1 HA2 HA3 HBL HO7 HV7 HW7 z3 y3 hl7 hC7
          generalize World.setCell _ _ _ = w8 at *
          go_wp2
          go_roundg (min m 16 - (k + 1))
          case measure => have := HG.out; omega
          case rel => exact ⟨k + 1, _, _, by go_num, by omega, by omega, Lib.hid rfl, HBG, HG1, HG2, HG3, HOG, HVG, HWG⟩
    · have HEND : Hid (k ≤ 16) := Lib.hid hk16
      obtain ⟨Ab, cb, rfl, hnb2⟩ := own_slice HV.out
      have hlen : acc.length = k := by have := HV.out.1; rw [lcells_length] at this; omega
      have w0 := (H3.out.cell 0).trans rfl
      have w1 := (H3.out.cell 1).trans rfl
      have w2 := (H3.out.cell 2).trans rfl
      have w3 := (H3.out.cell 3).trans rfl
      have r0 := (H2.out.cell 0).trans rfl
      have r1 := (H2.out.cell 1).trans rfl
      have r2 := (H2.out.cell 2).trans rfl
      have r3 := (H2.out.cell 3).trans rfl
      have s0 := H2.out.frozen 0
      have s1 := H2.out.frozen 1
      have s2 := H2.out.frozen 2
      have s3 := H2.out.frozen 3
      have hl2 := H2.out.lt
      have D1 := H2.out.set_ 0 (.string yp)
      have D2 := D1.set_ 1 (.slice yA yn yc)
      have D3 := D2.set_ 2 (.int .i64 yo)
      have D4 := D3.set_ 3 (.slice Ab k cb)
      have set4 : ∀ (e : TypeId) (size m : Nat) (v : Value) (xs : List Value), e ≠ 45 → wr.ownsRow R e size v m xs → ((((wr.setCell ⟨R + 1, 0, none⟩ (.string yp)).setCell ⟨R + 1, 1, none⟩ (.slice yA yn yc)).setCell ⟨R + 1, 2, none⟩ (.int .i64 yo)).setCell ⟨R + 1, 3, none⟩ (.slice Ab k cb)).ownsRow R e size v m xs :=
        fun e size m v xs hne h => own_setCell_blk (own_setCell_blk (own_setCell_blk (own_setCell_blk h H2.out (Ne.symm hne) 0 _) D1 (Ne.symm hne) 1 _) D2 (Ne.symm hne) 2 _) D3 (Ne.symm hne) 3 _
      have E1 : Cl.own ((((wr.setCell ⟨R + 1, 0, none⟩ (.string yp)).setCell ⟨R + 1, 1, none⟩ (.slice yA yn yc)).setCell ⟨R + 1, 2, none⟩ (.int .i64 yo)).setCell ⟨R + 1, 3, none⟩ (.slice Ab k cb)) R ⟨⟨yp, yA, yn, yc, yo, yes⟩, Ab, k, cb, acc⟩ :=
        ⟨set4 _ _ _ _ _ (by decide) HO.out, set4 _ _ _ _ _ (by decide) HV.out, fun l hl => set4 _ _ _ _ _ (by decide) (HW.out l hl).2⟩
      have E4 := (((HB.out.setCell (p := ⟨R + 1, 0, none⟩) (by simp) (.string yp)).setCell (p := ⟨R + 1, 1, none⟩) (by simp) (.slice yA yn yc)).setCell (p := ⟨R + 1, 2, none⟩) (by simp) (.int .i64 yo)).setCell (p := ⟨R + 1, 3, none⟩) (by simp) (.slice Ab k cb)
      have p0 := D4.cell 0
      have p1 := D4.cell 1
      have p2 := D4.cell 2
      have p3 := D4.cell 3
      simp at p0 p1 p2 p3
      have HE1 := Lib.hid E1
      have HE4 := Lib.hid E4
      have HGL : Hid (∀ l ∈ acc, goodL l) := Lib.hid fun l hl => (HW.out l hl).1
      clear E1 E4 D1 D2 D3 D4 set4 HB H1 H2 H3 HO HV HW
      by_cases hlm : k < m
      · have q1 : decide ((k : Int) < (m : Int)) = true := decide_eq_true (by omega)
        have q2 : decide ((k : Int) < 16) = false := decide_eq_false (by omega)
        go_wp2
        refine bodyPost_ret (v := .agg #[.string yp, .slice yA yn yc, .int .i64 yo, .slice Ab k cb]) ?_ rfl ⟨⟨⟨yp, yA, yn, yc, yo, yes⟩, Ab, k, cb, acc⟩, rfl, ⟨HGH.out, by show acc.length ≤ 16; have := HEND.out; omega, HGL.out⟩, ?_, ?_⟩
        · simp [results, Try.results18, go_sem, p0, p1, p2, p3]
        · rw [HRR.out]; exact HE1.out
        · rw [HRR.out]; exact HE4.out
      · have q1 : decide ((k : Int) < (m : Int)) = false := decide_eq_false (by omega)
        go_wp2
        refine bodyPost_ret (v := .agg #[.string yp, .slice yA yn yc, .int .i64 yo, .slice Ab k cb]) ?_ rfl ⟨⟨⟨yp, yA, yn, yc, yo, yes⟩, Ab, k, cb, acc⟩, rfl, ⟨HGH.out, by show acc.length ≤ 16; have := HEND.out; omega, HGL.out⟩, ?_, ?_⟩
        · simp [results, Try.results18, go_sem, p0, p1, p2, p3]
        · rw [HRR.out]; exact HE1.out
        · rw [HRR.out]; exact HE4.out
end Go.Proofs.Ytjcgkplphiedjaa
