/- The program's covers. -/
import Derived.Test.YtjcgkplphiedjaaGn
import Derived.Laws.EntriesVeiled
namespace Go.Proofs.Ytjcgkplphiedjaa
open Go.RowKit Go.Sort

theorem Try.info114 : (Try.prog.info? 114).map (fun i => (i.zero, i.size, i.bytes)) = some (some (.slice none 0 0), 1, 24) := by kernel_rfl
theorem bmcells_append (a b : List Bm) : bmcells (a ++ b) = bmcells a ++ bmcells b := by simp [bmcells]
theorem Bm.one (x : Bm) : ∀ u ∈ x.cells, u.oneCell' = true := by
  intro u hu
  simp only [Bm.cells, List.mem_cons, List.not_mem_nil, or_false] at hu
  subst hu; rfl
theorem zip_pairL : ∀ (n : Nat) (ls : List Li), ls.zip ((pairL n ls).map Prod.snd) = pairL n ls
  | _, [] => rfl
  | n, l :: ls => by rw [pairL, List.map_cons, List.zip_cons_cons, zip_pairL]
theorem pair_snoc (n : Nat) (ls : List Li) (k : Nat) (h : k < ls.length) : ((pairL n ls).map Prod.snd).take (k + 1) = ((pairL n ls).map Prod.snd).take k ++ [num (n + cnt ((ls.take k).flatMap Li.terms)) ls[k].terms] := by
  rw [List.take_add_one, List.getElem?_map, pairL_get n ls k h]; rfl
theorem below_map {R : Nat} {w w1 w2 : World} {mb : Nat} (h : Below R w w1) (hR : R ≤ w1.heap.size) (hg : w1.grownBy w2 (some mb)) (hm : R ≤ mb) : Below R w w2 := h.grown hg hR (fun q hq => by injection hq with hq; omega)

theorem own_kept_blk {w w' : World} {base e size n P : Nat} {t : TypeId} {cs : List Value} {v : Value} {xs : List Value} (h : w.ownsRow base e size v n xs) (hP : Blk w P t cs) (hne : t ≠ e) (hg : w.grownBy w' (some P)) : w'.ownsRow base e size v n xs := by
  refine h.kept hg ?_
  rcases h.2 with ⟨rfl, _⟩ | ⟨g, cap, cur, rfl, _⟩
  · exact .inl rfl
  · exact .inr (fun e => own_blk_ne h hP hne e.symm)

set_option maxRecDepth 200000 in
set_option maxHeartbeats 16000000 in
theorem covers_any (a b : Cl) (w : World) (ha : Cl.ok w a) (hb : Cl.ok w b) (hat : a.tot.length ≤ 1000) (hbt : b.tot.length ≤ 1000) (hbl : b.ls.length ≤ 1000) (haf : ∀ t ∈ a.tot, t.t.size ≤ maxLen) :
    Calls Try.prog 47 #[.agg a.cells.toArray, .agg b.cells.toArray] w fun e w' => e = .returned (.bool (coversP a b)) ∧ Below w.heap.size w w' := by
  obtain ⟨i0, hi, hz0, hz1, hz2⟩ := info_parts Try.info114
  have hal : a.ls.length = a.n := by have := ha.2.1.1; rw [lcells_length] at this; omega
  have hbl2 : b.ls.length = b.n := by have := hb.2.1.1; rw [lcells_length] at this; omega
  have hahl : a.h.es.length = a.h.n := by have := ha.1.1.1; rw [tcells_length] at this; omega
  have hbhl : b.h.es.length = b.h.n := by have := hb.1.1.1; rw [tcells_length] at this; omega
  have HV : Hid (coversP a b = if 6 < a.n ∨ a.h.p ≠ b.h.p ∨ a.h.n ≠ b.h.n then false
    else (takeF [] a.h.es (num 0 b.h.es)).2 && searchP (pairL (cnt b.h.es) b.ls) (takeF [] a.h.es (num 0 b.h.es)).1 a.ls) := Lib.hid (by rw [← hal, ← hahl, ← hbhl]; rfl)
  have hahn : a.h.n ≤ 1000 := by unfold Cl.tot at hat; rw [List.length_append] at hat; omega
  have hbhn : b.h.n ≤ 1000 := by unfold Cl.tot at hbt; rw [List.length_append] at hbt; omega
  have hbn : b.n ≤ 1000 := by omega
  have HTB : Hid (∀ k, (h : k < b.ls.length) → cnt b.h.es + cnt ((b.ls.take k).flatMap Li.terms) + b.ls[k].terms.length ≤ 1000) := Lib.hid (fun k h => Nat.le_trans (terms_bound b.h.es b.ls k h) hbt)
  have HAF1 : Hid (∀ t ∈ a.h.es, t.t.size ≤ maxLen) := Lib.hid (fun t ht => haf t (List.mem_append_left _ ht))
  have HAF2 : Hid (∀ y ∈ a.ls, ∀ t ∈ y.terms, t.t.size ≤ maxLen) := Lib.hid (fun y hy t ht => haf t (List.mem_append_right _ (List.mem_flatMap.2 ⟨y, hy, ht⟩)))
  have HAL2 : Hid (a.h.es.length + (a.ls.flatMap Li.terms).length ≤ 1000) := Lib.hid (by unfold Cl.tot at hat; rw [List.length_append] at hat; exact hat)
  have HA := Lib.hid ha
  have HB0 := Lib.hid hb
  have HBL := Lib.hid hbl2
  have HAHL := Lib.hid hahl
  clear hal hbl2 hahl hbhl ha hb hat hbt hbl haf
  generalize coversP a b = v at *
  have HAC : Hid (a.cells = [.string a.h.p, .slice a.h.A a.h.n a.h.c, .int .i64 a.h.o, .slice a.A a.n a.c]) := Lib.hid rfl
  have HBC : Hid (b.cells = [.string b.h.p, .slice b.h.A b.h.n b.h.c, .int .i64 b.h.o, .slice b.A b.n b.c]) := Lib.hid rfl
  show Calls Try.prog 47 #[.agg #[.string a.h.p, .slice a.h.A a.h.n a.h.c, .int .i64 a.h.o, .slice a.A a.n a.c], .agg #[.string b.h.p, .slice b.h.A b.h.n b.h.c, .int .i64 b.h.o, .slice b.A b.n b.c]] w _
  go_enter Try.func47, Try.ntmps47
  go_upto_region 1 with (fail)
  obtain ⟨hb3, h1, h2, hs3⟩ := two_alloc w 45 45 [.string a.h.p, .slice a.h.A a.h.n a.h.c, .int .i64 a.h.o, .slice a.A a.n a.c] [.string b.h.p, .slice b.h.A b.h.n b.h.c, .int .i64 b.h.o, .slice b.A b.n b.c]
  generalize World.alloc (World.alloc _ _) _ = w1 at *
  generalize hR : w.heap.size = R at *
  have HRR := Lib.hid hR
  clear hR
  have HB1 := Lib.hid hb3
  have H1 := Lib.hid h1
  have H2 := Lib.hid h2
  have f0 := h1.cell 0
  have f1 := h1.cell 1
  have f2 := h1.cell 2
  have f3 := h1.cell 3
  have g0 := h2.cell 0
  have g1 := h2.cell 1
  have g2 := h2.cell 2
  have g3 := h2.cell 3
  simp only [List.getElem?_cons_zero, List.getElem?_cons_succ] at f0 f1 f2 f3 g0 g1 g2 g3
  have hs1 : R + 1 < w1.heap.size := h2.lt
  clear h1 h2 hb3 hs3
  by_cases e1 : a.n ≤ 6
  rotate_left
  · have hz : v = false := by rw [HV.out, if_pos (.inl (by omega))]
    have t1 : decide ((6 : Int) < (a.n : Int)) = true := decide_eq_true (by omega)
    subst hz
    clear HV e1
    go_wp2
    go_ret
    exact ⟨by rfl, by rw [HRR.out]; exact HB1.out⟩
  have t1 : decide ((6 : Int) < (a.n : Int)) = false := decide_eq_false (by omega)
  by_cases e2 : a.h.p = b.h.p
  rotate_left
  · have hz : v = false := by rw [HV.out, if_pos (.inr (.inl e2))]
    have t2 : (a.h.p.toList != b.h.p.toList) = true := by simp only [bne_iff_ne, ne_eq]; exact fun h => e2 (toList_inj h)
    have t3 : (a.h.p.toList == b.h.p.toList) = false := by simp only [beq_eq_false_iff_ne, ne_eq]; exact fun h => e2 (toList_inj h)
    subst hz
    clear HV e1 e2
    go_wp2
    go_ret
    exact ⟨by rfl, by rw [HRR.out]; exact HB1.out⟩
  have t2 : (a.h.p.toList != b.h.p.toList) = false := by rw [e2]; simp
  have t3 : (a.h.p.toList == b.h.p.toList) = true := by rw [e2]; simp
  by_cases e3 : a.h.n = b.h.n
  rotate_left
  · have hz : v = false := by rw [HV.out, if_pos (.inr (.inr e3))]
    have t4 : ((a.h.n : Int) != (b.h.n : Int)) = true := by simp only [bne_iff_ne, ne_eq]; omega
    have t5 : ((a.h.n : Int) == (b.h.n : Int)) = false := by simp only [beq_eq_false_iff_ne, ne_eq]; omega
    subst hz
    clear HV e1 e2
    go_wp2
    go_ret
    exact ⟨by rfl, by rw [HRR.out]; exact HB1.out⟩
  have t4 : ((a.h.n : Int) != (b.h.n : Int)) = false := by rw [e3]; simp
  have t5 : ((a.h.n : Int) == (b.h.n : Int)) = true := by rw [e3]; simp
  have HV2 : Hid (v = ((takeF [] a.h.es (num 0 b.h.es)).2 && searchP (pairL (cnt b.h.es) b.ls) (takeF [] a.h.es (num 0 b.h.es)).1 a.ls)) := Lib.hid (by rw [HV.out, if_neg (by rintro (h | h | h); omega; exact h e2; exact h e3)])
  have HE2 := Lib.hid e2
  have HE3 := Lib.hid e3
  clear HV e2 e3
  go_upto_region 4 with (fail)
  have hba := (Below.refl w1.heap.size w1).alloc (Nat.le_refl _) (.cells #[.int .i64 0] 3)
  have H3 := Lib.hid (Blk.new w1 3 [.int .i64 (((0 : Nat) : Int))])
  have K1 := Lib.hid (H1.out.below hba H1.out.lt)
  have K2 := Lib.hid (H2.out.below hba H2.out.lt)
  have KB := Lib.hid (HB1.out.trans (hba.mono (by omega)))
  have H3' : Hid (Blk (w1.alloc (.cells #[.int .i64 0] 3)) w1.heap.size 3 [.int .i64 (((0 : Nat) : Int))]) := H3
  clear H3 H1 H2 HB1 hba f0 f1 f2 f3 g0 g1 g2 g3 t1 t2 t3 t4 t5
  generalize World.alloc _ _ = w2 at *
  generalize w1.heap.size = P at *
  have hs2 : P < w2.heap.size := H3'.out.lt
  have g1 := K2.out.cell 1
  simp only [List.getElem?_cons_zero, List.getElem?_cons_succ] at g1
  have kt := things_any b.h.A b.h.n b.h.c 0 P b.h.es w2 (HB0.out.1.1.up (HRR.out ▸ KB.out) (by have := HRR.out; omega)) HB0.out.1.2.2 (by omega) H3'.out (fun hn b' o' e => by
    obtain ⟨b2, o2, e2, hlt, _⟩ := HB0.out.1.1.2.2 hn
    rw [e] at e2
    injection e2 with e2
    injection e2 with e2 _
    have := HRR.out
    omega)
  rw [Nat.zero_add] at kt
  go_wp2_with fail
  refine kt.mono ?_
  rintro e w3 ⟨A4, c4, rfl, hown3, hP3, hg3⟩
  have L1 := Lib.hid (K1.out.grown hg3 (fun e => by injection e with e; omega))
  have L2 := Lib.hid (K2.out.grown hg3 (fun e => by injection e with e; omega))
  have L3 := Lib.hid hP3
  have LB := Lib.hid (below_map KB.out (by omega) hg3 (by omega))
  have LO := Lib.hid (own_le hown3 (by omega : R ≤ w2.heap.size))
  have hs3 : P < w3.heap.size := hP3.lt
  clear hown3 hP3 hg3 kt K1 K2 H3' KB g1
  go_upto_region 6 with (fail)
  have hba := (Below.refl w3.heap.size w3).alloc (Nat.le_refl _) (.cells #[.slice none 0 0] 117)
  have M4 := Lib.hid (Blk.new w3 117 [.slice none 0 0])
  have M1 := Lib.hid (L1.out.below hba L1.out.lt)
  have M2 := Lib.hid (L2.out.below hba L2.out.lt)
  have M3 := Lib.hid (L3.out.below hba L3.out.lt)
  have MB := Lib.hid (LB.out.trans (hba.mono (by omega)))
  have MO := Lib.hid (own_below LO.out hba)
  clear hba L1 L2 L3 LB LO
  generalize World.alloc _ _ = w4 at *
  generalize w3.heap.size = Q at *
  have g3 := M2.out.cell 3
  simp only [List.getElem?_cons_zero, List.getElem?_cons_succ] at g3
  go_upto_region 7 with (fail)
  clear g3
  go_loopg [45] b.n (fun gk u45 wr => ∃ (j : Nat) (vb : Value) (acc : List Bm), u45 = .int .i64 j ∧ j ≤ b.n ∧ Hid (gk = b.n - j) ∧ Hid (Below R w wr) ∧ Hid (Blk wr R 45 [.string a.h.p, .slice a.h.A a.h.n a.h.c, .int .i64 a.h.o, .slice a.A a.n a.c]) ∧ Hid (Blk wr (R + 1) 45 [.string b.h.p, .slice b.h.A b.h.n b.h.c, .int .i64 b.h.o, .slice b.A b.n b.c]) ∧
    Hid (Blk wr P 3 [.int .i64 ((cnt b.h.es + cnt ((b.ls.take j).flatMap Li.terms) : Nat) : Int)]) ∧ Hid (Blk wr Q 117 [vb]) ∧ Hid (wr.ownsRow R 114 1 vb j (bmcells acc)) ∧ Hid (acc.map Bm.ths = ((pairL (cnt b.h.es) b.ls).map Prod.snd).take j) ∧
    Hid (∀ y ∈ acc, wr.ownsRow R 153 4 (.slice y.A y.n y.c) y.n (thcells y.ths)) ∧ Hid (wr.ownsRow R 153 4 (.slice A4 b.h.n c4) b.h.n (thcells (num 0 b.h.es))))
  case atStart => exact ⟨0, .slice none 0 0, [], rfl, Nat.zero_le _, Lib.hid (by omega), MB, M1, M2, M3, M4, Lib.hid (World.ownsRow_nil _ _ _ _), Lib.hid rfl, Lib.hid (by simp), MO⟩
  case round =>
    clear MB M1 M2 M3 M4 MO
    obtain ⟨j, vb, acc, rfl, hj, HG, HB, H1, H2, H3, H4, HV, HC, HW, HO⟩ := hrel
    have hsr : R ≤ wr.heap.size := by have := H1.out.lt; omega
    by_cases hlt : j < b.n
    · have hjb : j < b.ls.length := by have := HBL.out; omega
      obtain ⟨bb, ob, _, hbe, hbB, hbc⟩ := (HB0.out.2.1.below (HRR.out ▸ HB.out)).at Li.cells 14 (fun _ => rfl) (by omega) j hlt
      have hxo := HB0.out.2.2.2 b.ls[j] (List.getElem_mem hjb)
      have HS := Lib.hid (pair_snoc (cnt b.h.es) b.ls j hjb)
      have HT := Lib.hid (terms_snoc b.ls j hjb)
      have htb := HTB.out j hjb
      generalize cnt ((b.ls.take j).flatMap Li.terms) = q at *
      generalize b.ls[j] = x at *
      obtain ⟨xk, ⟨xp, xA, xn, xc, xo, xes⟩, xop, ⟨xlk, xli, xlt, xlo⟩, ⟨xrk, xri, xrt, xro⟩, xof⟩ := x
      have c0 := hbc 0 _ (by omega) rfl
      have c1 := hbc 1 _ (by omega) rfl
      have c2 := hbc 2 _ (by omega) rfl
      have c3 := hbc 3 _ (by omega) rfl
      have c4 := hbc 4 _ (by omega) rfl
      have c5 := hbc 5 _ (by omega) rfl
      have c6 := hbc 6 _ (by omega) rfl
      have c7 := hbc 7 _ (by omega) rfl
      have c8 := hbc 8 _ (by omega) rfl
      have c9 := hbc 9 _ (by omega) rfl
      have c10 := hbc 10 _ (by omega) rfl
      have c11 := hbc 11 _ (by omega) rfl
      have c12 := hbc 12 _ (by omega) rfl
      have c13 := hbc 13 _ (by omega) rfl
      dsimp only at c0 c1 c2 c3 c4 c5 c6 c7 c8 c9 c10 c11 c12 c13
      rw [Nat.add_zero] at c0
      have HBE := Lib.hid hbe
      have HXO := Lib.hid hxo
      clear hbc hbe hxo
      rw [HBE.out]
      go_upto_region 9 with (fail)
      have hba := (Below.refl wr.heap.size wr).alloc (Nat.le_refl _) (.cells #[.int .i64 xk, .string xp, .slice xA xn xc, .int .i64 xo, .int .i64 xop, .int .i64 xlk, .int .i64 xli, .string xlt, .int .i64 xlo, .int .i64 xrk, .int .i64 xri, .string xrt, .int .i64 xro, .int .i64 xof] 61)
      have L := Lib.hid (Blk.new wr 61 [.int .i64 xk, .string xp, .slice xA xn xc, .int .i64 xo, .int .i64 xop, .int .i64 xlk, .int .i64 xli, .string xlt, .int .i64 xlo, .int .i64 xrk, .int .i64 xri, .string xrt, .int .i64 xro, .int .i64 xof])
      have K1 := Lib.hid (H1.out.below hba H1.out.lt)
      have K2 := Lib.hid (H2.out.below hba H2.out.lt)
      have K3 := Lib.hid (H3.out.below hba H3.out.lt)
      have K4 := Lib.hid (H4.out.below hba H4.out.lt)
      have KB := Lib.hid (HB.out.trans (hba.mono hsr))
      have KV := Lib.hid (own_below HV.out hba)
      have KO := Lib.hid (own_below HO.out hba)
      have KW : Hid (∀ y ∈ acc, (wr.alloc (.cells #[.int .i64 xk, .string xp, .slice xA xn xc, .int .i64 xo, .int .i64 xop, .int .i64 xlk, .int .i64 xli, .string xlt, .int .i64 xlo, .int .i64 xrk, .int .i64 xri, .string xrt, .int .i64 xro, .int .i64 xof] 61)).ownsRow R 153 4 (.slice y.A y.n y.c) y.n (thcells y.ths)) := Lib.hid fun y hy => own_below (HW.out y hy) hba
      have hPz : P < wr.heap.size := H3.out.lt
      have hQz : Q < wr.heap.size := H4.out.lt
      clear hba H1 H2 H3 H4 HB HV HO HW c0 c1 c2 c3 c4 c5 c6 c7 c8 c9 c10 c11 c12 c13 hbB
      generalize World.alloc _ _ = w5 at *
      generalize wr.heap.size = Z at *
      obtain ⟨C, hCi⟩ : ∃ C : World → Prop, ∀ w', C w' ↔ (Blk w' Q 117 [vb] ∧ Blk w' Z 61 [.int .i64 xk, .string xp, .slice xA xn xc, .int .i64 xo, .int .i64 xop, .int .i64 xlk, .int .i64 xli, .string xlt, .int .i64 xlo, .int .i64 xrk, .int .i64 xri, .string xrt, .int .i64 xro, .int .i64 xof]) := ⟨_, fun _ => Iff.rfl⟩
      have hbd : Below w5.heap.size w5 w5.drew := ⟨rfl, rfl, rfl, Nat.le_refl _, fun _ _ => rfl⟩
      have hC : C w5.drew := (hCi _).2 ⟨K4.out.below hbd K4.out.lt, L.out.below hbd L.out.lt⟩
      have k0 : ∀ p : WC C, p.w.cell? ⟨Z, 0, none⟩ = _ := fun p => (((hCi _).1 p.h).2.cell 0).trans rfl
      have k1 : ∀ p : WC C, p.w.cell? ⟨Z, 1, none⟩ = _ := fun p => (((hCi _).1 p.h).2.cell 1).trans rfl
      have k2 : ∀ p : WC C, p.w.cell? ⟨Z, 2, none⟩ = _ := fun p => (((hCi _).1 p.h).2.cell 2).trans rfl
      have k3 : ∀ p : WC C, p.w.cell? ⟨Z, 3, none⟩ = _ := fun p => (((hCi _).1 p.h).2.cell 3).trans rfl
      have k4 : ∀ p : WC C, p.w.cell? ⟨Z, 4, none⟩ = _ := fun p => (((hCi _).1 p.h).2.cell 4).trans rfl
      have k5 : ∀ p : WC C, p.w.cell? ⟨Z, 5, none⟩ = _ := fun p => (((hCi _).1 p.h).2.cell 5).trans rfl
      have k6 : ∀ p : WC C, p.w.cell? ⟨Z, 6, none⟩ = _ := fun p => (((hCi _).1 p.h).2.cell 6).trans rfl
      have k7 : ∀ p : WC C, p.w.cell? ⟨Z, 7, none⟩ = _ := fun p => (((hCi _).1 p.h).2.cell 7).trans rfl
      have k8 : ∀ p : WC C, p.w.cell? ⟨Z, 8, none⟩ = _ := fun p => (((hCi _).1 p.h).2.cell 8).trans rfl
      have k9 : ∀ p : WC C, p.w.cell? ⟨Z, 9, none⟩ = _ := fun p => (((hCi _).1 p.h).2.cell 9).trans rfl
      have k10 : ∀ p : WC C, p.w.cell? ⟨Z, 10, none⟩ = _ := fun p => (((hCi _).1 p.h).2.cell 10).trans rfl
      have k11 : ∀ p : WC C, p.w.cell? ⟨Z, 11, none⟩ = _ := fun p => (((hCi _).1 p.h).2.cell 11).trans rfl
      have k12 : ∀ p : WC C, p.w.cell? ⟨Z, 12, none⟩ = _ := fun p => (((hCi _).1 p.h).2.cell 12).trans rfl
      have k13 : ∀ p : WC C, p.w.cell? ⟨Z, 13, none⟩ = _ := fun p => (((hCi _).1 p.h).2.cell 13).trans rfl
      have kv : ∀ p : WC C, p.w.cell? ⟨Q, 0, none⟩ = _ := fun p => (((hCi _).1 p.h).1.cell 0).trans rfl
      have kn : Nonempty (WC C) := ⟨⟨_, hC⟩⟩
      refine wp_region_frontN C [0, 1] 5 (fun j => decide (j < 6)) (by kernel_rfl) (fun _ _ d _ _ h => by cases d <;> exact h) (by kernel_rfl) hC ?_
      simp only [List.map_cons, List.map_nil, List.getD_cons_zero, List.getD_cons_succ]
      repeat (go_big_quiet_step (fail))
      refine wpQuiet_nil ?_
      have HCi := Lib.hid hCi
      have hszd : R ≤ w5.heap.size := by have := K1.out.lt; omega
      have N1 := Lib.hid (K1.out.below hbd K1.out.lt)
      have N2 := Lib.hid (K2.out.below hbd K2.out.lt)
      have N3 := Lib.hid (K3.out.below hbd K3.out.lt)
      have N4 := Lib.hid (K4.out.below hbd K4.out.lt)
      have NL := Lib.hid (L.out.below hbd L.out.lt)
      have NB := Lib.hid (KB.out.trans (hbd.mono hszd))
      have NV := Lib.hid (own_below KV.out hbd)
      have NO := Lib.hid (own_below KO.out hbd)
      have NW : Hid (∀ y ∈ acc, w5.drew.ownsRow R 153 4 (.slice y.A y.n y.c) y.n (thcells y.ths)) := Lib.hid fun y hy => own_below (KW.out y hy) hbd
      clear k0 k1 k2 k3 k4 k5 k6 k7 k8 k9 k10 k11 k12 k13 kv kn hC hCi hbd K1 K2 K3 K4 KB KV KO KW L hszd
      generalize w5.drew = wd at *
      have ka := terms_any ⟨xk, ⟨xp, xA, xn, xc, xo, xes⟩, xop, ⟨xlk, xli, xlt, xlo⟩, ⟨xrk, xri, xrt, xro⟩, xof⟩ wd (At.ok.up HXO.out (HRR.out ▸ NB.out))
      simp only [Li.cells] at ka
      refine wpN_one (i := 2) (by kernel_rfl) rfl ?_
      go_wp2_with fail
      refine ka.mono ?_
      rintro e w6 ⟨A1, n1, c1, rfl, hr1, h401, hA1, hb6⟩
      have hn1 : (⟨xk, ⟨xp, xA, xn, xc, xo, xes⟩, xop, ⟨xlk, xli, xlt, xlo⟩, ⟨xrk, xri, xrt, xro⟩, xof⟩ : Li).terms.length = n1 := by have := hr1.1; rw [tcells_length] at this; omega
      have hPd : P < wd.heap.size := N3.out.lt
      have hRd : R ≤ wd.heap.size := by have := N1.out.lt; omega
      have K1 := Lib.hid (N1.out.below hb6 N1.out.lt)
      have K2 := Lib.hid (N2.out.below hb6 N2.out.lt)
      have K3 := Lib.hid (N3.out.below hb6 N3.out.lt)
      have K4 := Lib.hid (N4.out.below hb6 N4.out.lt)
      have KL := Lib.hid (NL.out.below hb6 NL.out.lt)
      have KB := Lib.hid (NB.out.trans (hb6.mono hRd))
      have KV := Lib.hid (own_below NV.out hb6)
      have KO := Lib.hid (own_below NO.out hb6)
      have KW : Hid (∀ y ∈ acc, w6.ownsRow R 153 4 (.slice y.A y.n y.c) y.n (thcells y.ths)) := Lib.hid fun y hy => own_below (NW.out y hy) hb6
      have hs6 := hb6.size
      have HR1 := Lib.hid hr1
      clear ka hb6 hr1 N1 N2 N3 N4 NL NB NV NO NW
      go_wp2
      refine tailN_normal ((HCi.out _).2 ⟨K4.out, KL.out⟩) ?_
      have kb := things_any A1 n1 c1 (cnt b.h.es + q) P (⟨xk, ⟨xp, xA, xn, xc, xo, xes⟩, xop, ⟨xlk, xli, xlt, xlo⟩, ⟨xrk, xri, xrt, xro⟩, xof⟩ : Li).terms w6 HR1.out h401 (by omega) K3.out (fun hn b' o' e => by
        rcases hA1 with ⟨e1, e2, _⟩ | ⟨g, e1, e2⟩
        · obtain ⟨b2, o2, e3, hlt2, _⟩ := HXO.out.1.2.2 (by rw [← e2]; exact hn)
          rw [e] at e1
          rw [← e1] at e3
          injection e3 with e3
          injection e3 with e3 _
          rw [HRR.out] at hlt2
          omega
        · rw [e] at e1
          injection e1 with e1
          injection e1 with e1 _
          omega)
      refine wpN_one (i := 3) (by kernel_rfl) rfl ?_
      go_wp2_with fail
      refine kb.mono ?_
      rintro e w7 ⟨A7, c7, rfl, hown7, hP7, hg7⟩
      have hR6 : R ≤ w6.heap.size := Nat.le_trans hRd hs6
      have N1 := Lib.hid (K1.out.grown hg7 (fun e => by injection e with e; omega))
      have N2 := Lib.hid (K2.out.grown hg7 (fun e => by injection e with e; omega))
      have N3 := Lib.hid hP7
      have N4 := Lib.hid (K4.out.grown hg7 (fun e => by injection e with e; omega))
      have NL := Lib.hid (KL.out.grown hg7 (fun e => by injection e with e; omega))
      have NB := Lib.hid (below_map KB.out hR6 hg7 (by omega))
      have NV := Lib.hid (own_kept_blk KV.out K3.out (by decide) hg7)
      have NO := Lib.hid (own_kept_blk KO.out K3.out (by decide) hg7)
      have NW : Hid (∀ y ∈ acc, w7.ownsRow R 153 4 (.slice y.A y.n y.c) y.n (thcells y.ths)) := Lib.hid fun y hy => own_kept_blk (KW.out y hy) K3.out (by decide) hg7
      have N7 := Lib.hid (own_le hown7 hR6)
      have hR7 := Nat.le_trans hR6 hg7.size
      clear kb hown7 hP7 hg7 K1 K2 K3 K4 KL KB KV KO KW HR1 hA1
      go_wp2
      refine tailN_normal ((HCi.out _).2 ⟨N4.out, NL.out⟩) ?_
      refine wpN_one (i := 4) (by kernel_rfl) rfl ?_
      go_wp2
      refine tailN_normal ((HCi.out _).2 ⟨N4.out.alloc _, NL.out.alloc _⟩) ?_
      refine wpN_one (i := 5) (by kernel_rfl) rfl ?_
      have hownb := NV.out
      refine wpList_append_own _ rfl _ _ 117 rfl R 114 i0 _ 1 24 Try.underlying117 hi hz0 hz1 hz2 rfl (by decide) _ _ _ rfl (hownb.alloc _) ⟨w7.heap.size, 0, none⟩ 1 1 (Bm.cells ⟨A7, n1, c7, num (cnt b.h.es + q) (⟨xk, ⟨xp, xA, xn, xc, xo, xes⟩, xop, ⟨xlk, xli, xlt, xlo⟩, ⟨xrk, xri, xrt, xro⟩, xof⟩ : Li).terms⟩) rfl rfl (fun j u h => new_cells _ _ _ j u h) (Bm.one _) (by unfold maxLen; omega) (by omega) (by simp; omega) ?_
      intro v8 w8 hown8 hg8 _
      obtain ⟨A8, c8, rfl, hn8⟩ := own_slice hown8
      have M1 := Lib.hid ((N1.out.alloc (.cells (Bm.cells ⟨A7, n1, c7, num (cnt b.h.es + q) (⟨xk, ⟨xp, xA, xn, xc, xo, xes⟩, xop, ⟨xlk, xli, xlt, xlo⟩, ⟨xrk, xri, xrt, xro⟩, xof⟩ : Li).terms⟩).toArray 114)).grown hg8 (own_blk_ne hownb N1.out (by decide)))
      have M2 := Lib.hid ((N2.out.alloc (.cells (Bm.cells ⟨A7, n1, c7, num (cnt b.h.es + q) (⟨xk, ⟨xp, xA, xn, xc, xo, xes⟩, xop, ⟨xlk, xli, xlt, xlo⟩, ⟨xrk, xri, xrt, xro⟩, xof⟩ : Li).terms⟩).toArray 114)).grown hg8 (own_blk_ne hownb N2.out (by decide)))
      have M3 := Lib.hid ((N3.out.alloc (.cells (Bm.cells ⟨A7, n1, c7, num (cnt b.h.es + q) (⟨xk, ⟨xp, xA, xn, xc, xo, xes⟩, xop, ⟨xlk, xli, xlt, xlo⟩, ⟨xrk, xri, xrt, xro⟩, xof⟩ : Li).terms⟩).toArray 114)).grown hg8 (own_blk_ne hownb N3.out (by decide)))
      have M4 := Lib.hid ((N4.out.alloc (.cells (Bm.cells ⟨A7, n1, c7, num (cnt b.h.es + q) (⟨xk, ⟨xp, xA, xn, xc, xo, xes⟩, xop, ⟨xlk, xli, xlt, xlo⟩, ⟨xrk, xri, xrt, xro⟩, xof⟩ : Li).terms⟩).toArray 114)).grown hg8 (own_blk_ne hownb N4.out (by decide)))
      have ML := Lib.hid ((NL.out.alloc (.cells (Bm.cells ⟨A7, n1, c7, num (cnt b.h.es + q) (⟨xk, ⟨xp, xA, xn, xc, xo, xes⟩, xop, ⟨xlk, xli, xlt, xlo⟩, ⟨xrk, xri, xrt, xro⟩, xof⟩ : Li).terms⟩).toArray 114)).grown hg8 (own_blk_ne hownb NL.out (by decide)))
      have MB := Lib.hid ((NB.out.alloc hR7 (.cells (Bm.cells ⟨A7, n1, c7, num (cnt b.h.es + q) (⟨xk, ⟨xp, xA, xn, xc, xo, xes⟩, xop, ⟨xlk, xli, xlt, xlo⟩, ⟨xrk, xri, xrt, xro⟩, xof⟩ : Li).terms⟩).toArray 114)).grown hg8 (by simp; omega) (fun q hq => (hownb.lt q hq).1))
      have MO := Lib.hid (own_kept_types (NO.out.alloc (.cells (Bm.cells ⟨A7, n1, c7, num (cnt b.h.es + q) (⟨xk, ⟨xp, xA, xn, xc, xo, xes⟩, xop, ⟨xlk, xli, xlt, xlo⟩, ⟨xrk, xri, xrt, xro⟩, xof⟩ : Li).terms⟩).toArray 114)) (hownb.alloc _) (by decide) hg8)
      have M7 := Lib.hid (own_kept_types (N7.out.alloc (.cells (Bm.cells ⟨A7, n1, c7, num (cnt b.h.es + q) (⟨xk, ⟨xp, xA, xn, xc, xo, xes⟩, xop, ⟨xlk, xli, xlt, xlo⟩, ⟨xrk, xri, xrt, xro⟩, xof⟩ : Li).terms⟩).toArray 114)) (hownb.alloc _) (by decide) hg8)
      have MW : Hid (∀ y ∈ acc, w8.ownsRow R 153 4 (.slice y.A y.n y.c) y.n (thcells y.ths)) := Lib.hid fun y hy => own_kept_types (World.ownsRow.alloc (NW.out y hy) (.cells (Bm.cells ⟨A7, n1, c7, num (cnt b.h.es + q) (⟨xk, ⟨xp, xA, xn, xc, xo, xes⟩, xop, ⟨xlk, xli, xlt, xlo⟩, ⟨xrk, xri, xrt, xro⟩, xof⟩ : Li).terms⟩).toArray 114)) (hownb.alloc _) (by decide) hg8
      have MV : Hid (w8.ownsRow R 114 1 (.slice A8 (j + 1) c8) (j + 1) (bmcells (acc ++ [(⟨A7, n1, c7, num (cnt b.h.es + q) (⟨xk, ⟨xp, xA, xn, xc, xo, xes⟩, xop, ⟨xlk, xli, xlt, xlo⟩, ⟨xrk, xri, xrt, xro⟩, xof⟩ : Li).terms⟩ : Bm)]))) := Lib.hid (by rw [bmcells_append]; simpa [bmcells] using hown8)
      have HC8 : Hid ((acc ++ [(⟨A7, n1, c7, num (cnt b.h.es + q) (⟨xk, ⟨xp, xA, xn, xc, xo, xes⟩, xop, ⟨xlk, xli, xlt, xlo⟩, ⟨xrk, xri, xrt, xro⟩, xof⟩ : Li).terms⟩ : Bm)]).map Bm.ths = ((pairL (cnt b.h.es) b.ls).map Prod.snd).take (j + 1)) := Lib.hid (by rw [List.map_append, HC.out, HS.out]; rfl)
      have HT8 : Hid (cnt b.h.es + q + cnt (⟨xk, ⟨xp, xA, xn, xc, xo, xes⟩, xop, ⟨xlk, xli, xlt, xlo⟩, ⟨xrk, xri, xrt, xro⟩, xof⟩ : Li).terms = cnt b.h.es + cnt ((b.ls.take (j + 1)).flatMap Li.terms)) := Lib.hid (by rw [HT.out, Nat.add_assoc])
      rw [HT8.out] at M3
      clear hown8 hg8 hownb N1 N2 N3 N4 NL NB NV NO NW N7 HC HS HT HT8
      go_wp2
      refine tailN_normal ((HCi.out _).2 ⟨M4.out, ML.out⟩) ?_
      refine wpN_one (i := 6) (by kernel_rfl) rfl ?_
      have x0 := M4.out.cell 0
      have z0 := M4.out.frozen 0
      have hl8 := M4.out.lt
      simp only [List.getElem?_cons_zero] at x0
      have S1 := Lib.hid (M1.out.far (p := ⟨Q, 0, none⟩) (by show R ≠ Q; omega) (.slice A8 (j + 1) c8))
      have S2 := Lib.hid (M2.out.far (p := ⟨Q, 0, none⟩) (by show R + 1 ≠ Q; omega) (.slice A8 (j + 1) c8))
      have S3 := Lib.hid (M3.out.far (p := ⟨Q, 0, none⟩) (by show P ≠ Q; omega) (.slice A8 (j + 1) c8))
      have S4 := Lib.hid (M4.out.set_ 0 (.slice A8 (j + 1) c8))
      have SB := Lib.hid (MB.out.setCell (p := ⟨Q, 0, none⟩) (by show R ≤ Q; omega) (.slice A8 (j + 1) c8))
      have SV := Lib.hid (own_setCell_blk MV.out M4.out (by decide) 0 (.slice A8 (j + 1) c8))
      have SO := Lib.hid (own_setCell_blk MO.out M4.out (by decide) 0 (.slice A8 (j + 1) c8))
      have S7 := Lib.hid (own_setCell_blk M7.out M4.out (by decide) 0 (.slice A8 (j + 1) c8))
      have SW : Hid (∀ y ∈ acc ++ [(⟨A7, n1, c7, num (cnt b.h.es + q) (⟨xk, ⟨xp, xA, xn, xc, xo, xes⟩, xop, ⟨xlk, xli, xlt, xlo⟩, ⟨xrk, xri, xrt, xro⟩, xof⟩ : Li).terms⟩ : Bm)], (w8.setCell ⟨Q, 0, none⟩ (.slice A8 (j + 1) c8)).ownsRow R 153 4 (.slice y.A y.n y.c) y.n (thcells y.ths)) := Lib.hid fun y hy => by
        rcases List.mem_append.1 hy with hy | hy
        · exact own_setCell_blk (MW.out y hy) M4.out (by decide) 0 (.slice A8 (j + 1) c8)
        · rw [List.mem_singleton.1 hy]; exact S7.out
      simp only [List.set_cons_zero] at S4
      clear M1 M2 M3 M4 ML MB MV MO M7 MW S7
      go_wp2
      refine (show tailN _ _ _ _ _ _ _ _ _ .normal _ _ from ⟨fun h => absurd h (by decide), ?_⟩)
      refine wpN_none (by kernel_rfl) ?_
      clear x0 z0 hl8 HCi C
      generalize World.setCell _ _ _ = w9 at *
      go_wp2
      rw [← HBE.out]
      go_roundg (b.n - (j + 1))
      case measure => have := HG.out; omega
      case rel => exact ⟨j + 1, (.slice A8 (j + 1) c8), _, by go_num, by omega, Lib.hid rfl, SB, S1, S2, S3, S4, SV, HC8, SW, SO⟩
    · obtain rfl : j = b.n := by omega
      have hall : ((pairL (cnt b.h.es) b.ls).map Prod.snd).take b.n = (pairL (cnt b.h.es) b.ls).map Prod.snd := List.take_of_length_le (by rw [List.length_map, pairL_length]; have := HBL.out; omega)
      rw [hall] at HC
      clear hall
      obtain ⟨BA, bc, rfl, hbc⟩ := own_slice HV.out
      have hmm := @run_makeMap Try.prog
      go_upto_region 12 with (fail)
      have hba := (Below.refl wr.heap.size wr).alloc (Nat.le_refl _) (.map #[] 0)
      have hM := Mp.made wr
      have K1 := Lib.hid (H1.out.below hba H1.out.lt)
      have K2 := Lib.hid (H2.out.below hba H2.out.lt)
      have K4 := Lib.hid (H4.out.below hba H4.out.lt)
      have KB := Lib.hid (HB.out.trans (hba.mono hsr))
      have KV := Lib.hid (own_below HV.out hba)
      have KO := Lib.hid (own_below HO.out hba)
      have KW : Hid (∀ y ∈ acc, (wr.alloc (.map #[] 0)).ownsRow R 153 4 (.slice y.A y.n y.c) y.n (thcells y.ths)) := Lib.hid fun y hy => own_below (HW.out y hy) hba
      have hQ0 : Q < wr.heap.size := H4.out.lt
      have hs0 : (wr.alloc (.map #[] 0)).heap.size = wr.heap.size + 1 := by simp
      clear hba H1 H2 H3 H4 HB HV HO HW
      have hba := (Below.refl (wr.alloc (.map #[] 0)).heap.size (wr.alloc (.map #[] 0))).alloc (Nat.le_refl _) (.cells #[.map (some wr.heap.size)] 120)
      have hS := Blk.new (wr.alloc (.map #[] 0)) 120 [.map (some wr.heap.size)]
      rw [hs0] at hS
      have L1 := Lib.hid (K1.out.below hba K1.out.lt)
      have L2 := Lib.hid (K2.out.below hba K2.out.lt)
      have L4 := Lib.hid (K4.out.below hba K4.out.lt)
      have LB := Lib.hid (KB.out.trans (hba.mono (by omega)))
      have LV := Lib.hid (own_below KV.out hba)
      have LO := Lib.hid (own_below KO.out hba)
      have LW : Hid (∀ y ∈ acc, ((wr.alloc (.map #[] 0)).alloc (.cells #[.map (some wr.heap.size)] 120)).ownsRow R 153 4 (.slice y.A y.n y.c) y.n (thcells y.ths)) := Lib.hid fun y hy => own_below (KW.out y hy) hba
      have LM : Hid (Mp ((wr.alloc (.map #[] 0)).alloc (.cells #[.map (some wr.heap.size)] 120)) wr.heap.size 0 (bdF [])) := Lib.hid ((Mp.congr hM (fun s => rfl)).below hba (by omega))
      have LS := Lib.hid hS
      clear hba hS hM K1 K2 K4 KB KV KO KW hs0
      generalize World.alloc (World.alloc _ _) _ = w5 at *
      generalize wr.heap.size = mb at *
      have hR5 : R ≤ w5.heap.size := by have := L1.out.lt; omega
      have f1 := L1.out.cell 1
      have s0 := LS.out.cell 0
      simp only [List.getElem?_cons_zero, List.getElem?_cons_succ] at f1 s0
      have kt := take_any mb 0 [] a.h.A a.h.n a.h.c a.h.es A4 c4 (num 0 b.h.es) w5 LM.out (by omega) (HA.out.1.1.up (HRR.out ▸ LB.out) (by have := HRR.out; omega)) (HE3.out ▸ own_rd LO.out) HAF1.out
      rw [← HE3.out]
      go_wp2_with fail
      refine kt.mono ?_
      rintro e w6 ⟨F, fn, fc, new, rfl, hnew, hm6, hnl, hown6, hg6⟩
      have M1 := Lib.hid (L1.out.map LM.out hg6)
      have M2 := Lib.hid (L2.out.map LM.out hg6)
      have M4 := Lib.hid (L4.out.map LM.out hg6)
      have MS := Lib.hid (LS.out.map LM.out hg6)
      have MB := Lib.hid (below_map LB.out hR5 hg6 (by omega))
      have MR := Lib.hid ((own_rd LV.out).mapUp LM.out hg6)
      have MW : Hid (∀ y ∈ acc, Rd w6 w6.heap.size 4 y.A y.n (thcells y.ths)) := Lib.hid fun y hy => (own_rd (LW.out y hy)).mapUp LM.out hg6
      have MAO := Lib.hid ((Cl.ok.up HA.out (HRR.out ▸ LB.out)).map LM.out hg6)
      have MBO := Lib.hid ((Cl.ok.up HB0.out (HRR.out ▸ LB.out)).map LM.out hg6)
      have MM := Lib.hid hm6
      have HNW : Hid ((takeF [] a.h.es (num 0 b.h.es)).1 = new) := Lib.hid (by rw [hnew.out, List.nil_append])
      have HND : Hid ((new.map Prod.fst).Nodup) := Lib.hid (by rw [← HNW.out]; exact takeF_nodup _ _ _ (by simp))
      have HNS : Hid (∀ p ∈ new, p.1.size ≤ maxLen) := Lib.hid (fun p hp => by
        rw [← HNW.out] at hp
        rcases take_names _ _ _ p hp with h | h
        · cases h
        · obtain ⟨t, ht, e⟩ := List.mem_map.1 h
          rw [← e]; exact HAF1.out t ht)
      rw [HNW.out] at HV2
      clear kt hnew hm6 hown6 hg6 L1 L2 L4 LS LB LV LO LW LM f1 s0 hmm HNW
      generalize (takeF [] a.h.es (num 0 b.h.es)).2 = ok at *
      cases ok with
      | false =>
        have hz : v = false := by rw [HV2.out]; rfl
        subst hz
        clear HV2
        go_wp2
        go_ret
        exact ⟨by rfl, by rw [HRR.out]; exact MB.out⟩
      | true =>
        have HV3 : Hid (v = searchP (pairL (cnt b.h.es) b.ls) new a.ls) := Lib.hid (by rw [HV2.out, Bool.true_and])
        clear HV2
        go_upto_region 16 with (fail)
        have HBA := Lib.hid ((Below.refl w6.heap.size w6).alloc (Nat.le_refl _) (.cells #[.nilFunc] 123))
        have KP := Lib.hid (Blk.new w6 123 [.nilFunc])
        have hR6 : R + 1 < w6.heap.size := M2.out.lt
        have hmb6 : mb + 1 < w6.heap.size := MS.out.lt
        have hQ6 : Q < w6.heap.size := M4.out.lt
        have H6 : Hid (w6.heap.size = w6.heap.size) := Lib.hid rfl
        generalize World.alloc _ _ = w7 at *
        generalize hPp : w6.heap.size = Pp at *
        have HPP := Lib.hid hPp
        clear hPp H6
        have p0 := KP.out.cell 0
        have s0 := KP.out.frozen 0
        have hlp := KP.out.lt
        simp only [List.getElem?_cons_zero] at p0
        have HB8 := Lib.hid (HBA.out.setCell (p := ⟨Pp, 0, none⟩) (Nat.le_refl _) (.func (.func 75) #[] #[.pointer (some ⟨R, 0, none⟩), .pointer (some ⟨R + 1, 0, none⟩), .pointer (some ⟨mb + 1, 0, none⟩), .pointer (some ⟨Q, 0, none⟩), .pointer (some ⟨Pp, 0, none⟩)]))
        have NP := Lib.hid (KP.out.set_ 0 (.func (.func 75) #[] #[.pointer (some ⟨R, 0, none⟩), .pointer (some ⟨R + 1, 0, none⟩), .pointer (some ⟨mb + 1, 0, none⟩), .pointer (some ⟨Q, 0, none⟩), .pointer (some ⟨Pp, 0, none⟩)]))
        simp only [List.set_cons_zero] at NP
        clear KP HBA
        go_upto_region 17 with (fail)
        clear p0 s0 hlp
        generalize World.setCell _ _ _ = w8 at *
        have HB8' : Hid (Below w6.heap.size w6 w8) := Lib.hid (HPP.out.symm ▸ HB8.out)
        have hsz8 : Pp ≤ w8.heap.size := by have := HB8.out.size; rw [HPP.out] at this; exact this
        have HMP : Hid (Mp w8 mb (0 + new.length) (bdF new)) := Lib.hid (MM.out.below HB8'.out MM.out.lt)
        have HLZ : Hid (zipB b acc = pairL (cnt b.h.es) b.ls) := Lib.hid (by unfold zipB; rw [HC.out, zip_pairL])
        have HSK : Hid (Seek w8 mb R (R + 1) (mb + 1) Q Pp a b BA bc acc) := Lib.hid
          ⟨M1.out.below HB8'.out M1.out.lt, M2.out.below HB8'.out M2.out.lt, MS.out.below HB8'.out MS.out.lt, M4.out.below HB8'.out M4.out.lt, NP.out, MAO.out.up HB8'.out, MBO.out.up HB8'.out,
            Rd.up MR.out HB8.out hsz8, fun y hy => Rd.up (MW.out y hy) HB8.out hsz8⟩
        have HBZ : Hid (Below R w w8) := Lib.hid (MB.out.trans (HB8.out.mono (by omega)))
        have p0 := HSK.out.fp.cell 0
        simp only [List.getElem?_cons_zero] at p0
        have hal : a.ls.length = a.n := by have := HA.out.2.1.1; rw [lcells_length] at this; omega
        have hnl2 := HAL2.out
        have hahl := HAHL.out
        have kp := place_any mb R (R + 1) (mb + 1) Q Pp bc a b BA acc (by
            have := congrArg List.length HC.out
            rw [List.length_map, List.length_map, pairL_length] at this; exact this)
          (fun p hp => by rw [HLZ.out] at hp; exact (pairL_mem _ _ p hp).2) HAF2.out a.ls.length 0 (0 + new.length) new w8 (by omega) HSK.out HMP.out HND.out HNS.out (by rw [List.drop_zero]; omega)
        rw [HLZ.out, List.drop_zero, ← HV3.out] at kp
        have hmbR : R ≤ mb := by omega
        clear M1 M2 M4 MS MB MR MW MAO MBO MM HC HV3 HND HNS HMP HLZ HSK HB8 HB8' NP hal
        go_wp2_with fail
        refine kp.mono ?_
        rintro e w9 ⟨rfl, hg9, _, _⟩
        have HZ := Lib.hid (below_map HBZ.out (by omega) hg9 hmbR)
        clear kp hg9 HBZ p0
        go_wp2
        go_ret
        exact ⟨by rfl, by rw [HRR.out]; exact HZ.out⟩
end Go.Proofs.Ytjcgkplphiedjaa
