/- The program's again. -/
import Derived.Test.YtjcgkplphiedjaaGo
import Derived.Test.YtjcgkplphiedjaaGp
namespace Go.Proofs.Ytjcgkplphiedjaa
open Go.RowKit Go.Sort Go.Maps Go.WideMaps

@[simp] theorem run_neq44L (k i k' i' : Int) (t t' : ByteArray) (w : World) :
    (binOp .neq 33 (.agg #[.int .i64 k, .int .i64 i, .string t, .int .i64 0]) (.agg #[.int .i64 k', .int .i64 i', .string t', .int .i64 0])).run Try.prog w = .ok (.bool (!like k i k' i' t t')) w := by
  rw [run_neq_struct, eqIn44]; rfl
def natF (m : List (ByteArray × Nat)) (s : ByteArray) : Option Value := (m.find? fun p => decide (p.1 = s)).map fun p => .int .i64 (p.2 : Int)
theorem natF_get (m : List (ByteArray × Nat)) (s : ByteArray) : (natF m s).getD (.int .i64 0) = .int .i64 ((getN m s : Nat) : Int) := by
  unfold natF getN
  cases m.find? fun p => decide (p.1 = s) <;> rfl
theorem natF_put (m : List (ByteArray × Nat)) (s : ByteArray) (v : Nat) (u : ByteArray) : (if u = s then some (Value.int .i64 (v : Int)) else natF m u) = natF ((s, v) :: m) u := by
  unfold natF
  rw [List.find?_cons]
  by_cases e : u = s
  · subst e; simp
  · rw [if_neg e, decide_eq_false (fun h => e h.symm)]
theorem mapN : Try.prog.underlying 66 = some (.map 9 3) := by kernel_rfl
theorem zeroI (w : World) : (zeroValue 3).run Try.prog w = .ok (.int .i64 0) w := by kernel_rfl
theorem places_drop (th bk : List (ByteArray × Nat)) (i : Nat) (X Y : List T) (h : i < X.length) (h' : i < Y.length) : places th bk i (X.drop i) (Y.drop i) =
    if named2 X[i] Y[i] = true then
      if getN th X[i].t = getN bk Y[i].t then
        if getN th X[i].t = 0 then places ((X[i].t, i + 1) :: th) ((Y[i].t, i + 1) :: bk) (i + 1) (X.drop (i + 1)) (Y.drop (i + 1)) else places th bk (i + 1) (X.drop (i + 1)) (Y.drop (i + 1))
      else false
    else if likeT X[i] Y[i] = true then places th bk (i + 1) (X.drop (i + 1)) (Y.drop (i + 1)) else false := by
  rw [List.drop_eq_getElem_cons h, List.drop_eq_getElem_cons h', places]
theorem places_end (th bk : List (ByteArray × Nat)) (i : Nat) (X Y : List T) (h : X.length ≤ i) : places th bk i (X.drop i) (Y.drop i) = true := by
  rw [List.drop_eq_nil_of_le h, places]
  intros; simp_all

/-- What the round of again holds. -/
structure AgSt (w wq : World) (R mb i N Z Z2 : Nat) (th bk : List (ByteArray × Nat)) (XA YA : Option Addr) (X Y : List T) (x y : T) : Prop where
  b : Below R w wq
  m1 : Mp wq mb i (natF th)
  m2 : Mp wq (mb + 1) i (natF bk)
  rx : Rd wq wq.heap.size 4 XA N (tcells X)
  ry : Rd wq wq.heap.size 4 YA N (tcells Y)
  bx : Blk wq Z 33 x.cells
  by_ : Blk wq Z2 33 y.cells
  hr : R ≤ wq.heap.size
theorem AgSt.up {w wq wq' : World} {R mb i N Z Z2 : Nat} {th bk : List (ByteArray × Nat)} {XA YA : Option Addr} {X Y : List T} {x y : T} (h : AgSt w wq R mb i N Z Z2 th bk XA YA X Y x y) (hb : Below wq.heap.size wq wq') : AgSt w wq' R mb i N Z Z2 th bk XA YA X Y x y :=
  ⟨h.b.trans (hb.mono h.hr), h.m1.below hb h.m1.lt, h.m2.below hb h.m2.lt, h.rx.up hb hb.size, h.ry.up hb hb.size, h.bx.below hb h.bx.lt, h.by_.below hb h.by_.lt, Nat.le_trans h.hr hb.size⟩

set_option maxRecDepth 200000 in
set_option maxHeartbeats 16000000 in
theorem again_any (a b : Cl) (w : World) (ha : Cl.ok w a) (hb : Cl.ok w b) (hat : a.tot.length ≤ 1000) (hbt : b.tot.length ≤ 1000) (haf : ∀ t ∈ a.tot, t.t.size ≤ maxLen) (hbf : ∀ t ∈ b.tot, t.t.size ≤ maxLen) :
    Calls Try.prog 60 #[.agg a.cells.toArray, .agg b.cells.toArray] w fun e w' => e = .returned (.bool (againP a b)) ∧ Below w.heap.size w w' := by
  have hahl : a.h.es.length = a.h.n := by have := ha.1.1.1; rw [tcells_length] at this; omega
  have hbhl : b.h.es.length = b.h.n := by have := hb.1.1.1; rw [tcells_length] at this; omega
  have HV : Hid (againP a b = if a.h.p ≠ b.h.p ∨ a.h.n ≠ b.h.n ∨ alikes a.ls b.ls = false then false else places [] [] 0 (a.tot.drop 0) (b.tot.drop 0)) := Lib.hid (by rw [← hahl, ← hbhl]; rfl)
  have HTL : Hid (a.h.n = b.h.n → alikes a.ls b.ls = true → a.tot.length = b.tot.length) := Lib.hid (fun h1 h2 => by
    unfold Cl.tot
    rw [List.length_append, List.length_append, alikes_tot _ _ h2, hahl, hbhl, h1])
  have KEQ := Lib.hid (fun W (h : Below w.heap.size w W) => eqlits_any a.A a.n a.c b.A b.n b.c a.ls b.ls W (ha.2.1.up h h.size) (hb.2.1.up h h.size) (fun y hy => At.ok.up (ha.2.2.2 y hy) h) (fun y hy => At.ok.up (hb.2.2.2 y hy) h))
  have KAA := Lib.hid (fun W (h : Below w.heap.size w W) => all_any a W (ha.up h) hat)
  have KAB := Lib.hid (fun W (h : Below w.heap.size w W) => all_any b W (hb.up h) hbt)
  have HAF := Lib.hid haf
  have HBF := Lib.hid hbf
  have hhn := ha.1.2.2
  have hhn2 := hb.1.2.2
  generalize againP a b = v at *
  generalize alikes a.ls b.ls = al at *
  generalize a.tot = X at *
  generalize b.tot = Y at *
  clear ha hb haf hbf hahl hbhl
  obtain ⟨⟨ap, aA, an, ac, ao, aes⟩, aB, am, ad, als⟩ := a
  obtain ⟨⟨bp, bA, bn, bc, bo, bes⟩, bB, bm, bd, bls⟩ := b
  dsimp only at HV HTL KEQ hhn hhn2
  simp only [Cl.cells] at KAA KAB
  show Calls Try.prog 60 #[.agg #[.string ap, .slice aA an ac, .int .i64 ao, .slice aB am ad], .agg #[.string bp, .slice bA bn bc, .int .i64 bo, .slice bB bm bd]] w _
  go_enter Try.func60, Try.ntmps60
  go_upto_region 1 with (fail)
  obtain ⟨hb3, h1, h2, hs3⟩ := two_alloc w 45 45 [.string ap, .slice aA an ac, .int .i64 ao, .slice aB am ad] [.string bp, .slice bA bn bc, .int .i64 bo, .slice bB bm bd]
  generalize World.alloc (World.alloc _ _) _ = w1 at *
  generalize hR : w.heap.size = R at *
  have HRR := Lib.hid hR
  clear hR
  have HB1 := Lib.hid hb3
  have H1 := Lib.hid h1
  have H2 := Lib.hid h2
  have f0 := h1.cell 0
  have f1 := h1.cell 1
  have f3 := h1.cell 3
  have g0 := h2.cell 0
  have g1 := h2.cell 1
  have g3 := h2.cell 3
  simp only [List.getElem?_cons_zero, List.getElem?_cons_succ] at f0 f1 f3 g0 g1 g3
  have hs1 : R + 1 < w1.heap.size := h2.lt
  clear h1 h2 hb3 hs3
  by_cases e2 : ap = bp
  rotate_left
  · have hz : v = false := by rw [HV.out, if_pos (.inl e2)]
    have t2 : (ap.toList != bp.toList) = true := by simp only [bne_iff_ne, ne_eq]; exact fun h => e2 (toList_inj h)
    have t3 : (ap.toList == bp.toList) = false := by simp only [beq_eq_false_iff_ne, ne_eq]; exact fun h => e2 (toList_inj h)
    subst hz
    clear HV e2
    go_wp2
    go_ret
    exact ⟨by rfl, by rw [HRR.out]; exact HB1.out⟩
  subst e2
  by_cases e3 : an = bn
  rotate_left
  · have hz : v = false := by rw [HV.out, if_pos (.inr (.inl e3))]
    have t4 : ((an : Int) != (bn : Int)) = true := by simp only [bne_iff_ne, ne_eq]; omega
    have t5 : ((an : Int) == (bn : Int)) = false := by simp only [beq_eq_false_iff_ne, ne_eq]; omega
    subst hz
    clear HV
    go_wp2
    go_ret
    exact ⟨by rfl, by rw [HRR.out]; exact HB1.out⟩
  subst e3
  have ke := KEQ.out w1 HB1.out
  go_wp2_with fail
  refine ke.mono ?_
  rintro e w2 ⟨rfl, hb2⟩
  have K1 := Lib.hid (H1.out.below hb2 H1.out.lt)
  have K2 := Lib.hid (H2.out.below hb2 H2.out.lt)
  have KB := Lib.hid (HB1.out.trans (hb2.mono (by omega)))
  clear ke hb2 H1 H2 HB1 KEQ f0 f1 f3 g0 g1 g3
  cases al with
  | false =>
    have hz : v = false := by rw [HV.out, if_pos (.inr (.inr rfl))]
    subst hz
    clear HV
    go_wp2
    go_ret
    exact ⟨by rfl, by rw [HRR.out]; exact KB.out⟩
  | true =>
  have HV2 : Hid (v = places [] [] 0 (X.drop 0) (Y.drop 0)) := Lib.hid (by rw [HV.out, if_neg (by rintro (h | h | h); exact h rfl; exact h rfl; cases h)])
  have htl : X.length = Y.length := by first | exact HTL.out trivial trivial | exact HTL.out trivial rfl | exact HTL.out rfl trivial | exact HTL.out rfl rfl | exact HTL.out trivial
  have HTL2 := Lib.hid htl
  clear htl
  clear HV HTL
  have hmm := @run_makeMap Try.prog
  have hs2 : R + 1 < w2.heap.size := K2.out.lt
  go_upto_region 4 with (fail)
  have hba := ((Below.refl w2.heap.size w2).alloc (Nat.le_refl _) (.map #[] 0)).alloc (by simp) (.map #[] 0)
  have hm1 : Mp ((w2.alloc (.map #[] 0)).alloc (.map #[] 0)) w2.heap.size 0 (natF []) := ((Mp.made w2).alloc _).congr (fun s => rfl)
  have hm2 : Mp ((w2.alloc (.map #[] 0)).alloc (.map #[] 0)) (w2.heap.size + 1) 0 (natF []) := by
    have h := Mp.made (w2.alloc (.map #[] 0))
    have e : (w2.alloc (.map #[] 0)).heap.size = w2.heap.size + 1 := by simp
    rw [e] at h
    exact h.congr (fun s => rfl)
  have L1 := Lib.hid (K1.out.below hba K1.out.lt)
  have L2 := Lib.hid (K2.out.below hba K2.out.lt)
  have LB := Lib.hid (KB.out.trans (hba.mono (by omega)))
  have M1 := Lib.hid hm1
  have M2 := Lib.hid hm2
  clear hba hm1 hm2 K1 K2 KB hmm
  have hRmb : R ≤ w2.heap.size := by omega
  generalize World.alloc (World.alloc _ _) _ = w3 at *
  generalize w2.heap.size = mb at *
  have hs3 : mb + 1 < w3.heap.size := M2.out.lt
  have g0 := L2.out.cell 0
  have g1 := L2.out.cell 1
  have g2 := L2.out.cell 2
  have g3 := L2.out.cell 3
  simp only [List.getElem?_cons_zero, List.getElem?_cons_succ] at g0 g1 g2 g3
  have kb := KAB.out w3 LB.out
  go_wp2_with fail
  refine kb.mono ?_
  rintro e w4 ⟨YA, Yc, rfl, hownY, hb4⟩
  have N1 := Lib.hid (L1.out.below hb4 L1.out.lt)
  have NB := Lib.hid (LB.out.trans (hb4.mono (by omega)))
  have P1 := Lib.hid (M1.out.below hb4 M1.out.lt)
  have P2 := Lib.hid (M2.out.below hb4 M2.out.lt)
  have NY := Lib.hid (own_rd hownY)
  have hs4 : mb + 1 < w4.heap.size := P2.out.lt
  clear kb hb4 hownY L1 L2 LB M1 M2 g0 g1 g2 g3 KAB
  have f0 := N1.out.cell 0
  have f1 := N1.out.cell 1
  have f2 := N1.out.cell 2
  have f3 := N1.out.cell 3
  simp only [List.getElem?_cons_zero, List.getElem?_cons_succ] at f0 f1 f2 f3
  have ka := KAA.out w4 NB.out
  go_wp2_with fail
  refine ka.mono ?_
  rintro e w5 ⟨XA, Xc, rfl, hownX, hb5⟩
  have QB := Lib.hid (NB.out.trans (hb5.mono (by omega)))
  have Q1 := Lib.hid (P1.out.below hb5 P1.out.lt)
  have Q2 := Lib.hid (P2.out.below hb5 P2.out.lt)
  have QY := Lib.hid (NY.out.up hb5 hb5.size)
  have QX := Lib.hid (own_rd hownX)
  have hs5 : mb + 1 < w5.heap.size := Q2.out.lt
  clear ka hb5 hownX N1 NB P1 P2 NY f0 f1 f2 f3 KAA
  go_upto_region 6 with (fail)
  rw [← HTL2.out] at QY
  rw [← HTL2.out]
  generalize hN : X.length = N at *
  have HN := Lib.hid hN
  clear hN
  have HYN := HTL2
  clear HTL2
  go_loopg [46] N (fun gk u46 wr => ∃ (i : Nat) (th bk : List (ByteArray × Nat)), u46 = .int .i64 i ∧ i ≤ N ∧ Hid (gk = N - i) ∧ Hid (Below R w wr) ∧ Hid (Mp wr mb i (natF th)) ∧ Hid (Mp wr (mb + 1) i (natF bk)) ∧ Hid (Rd wr wr.heap.size 4 XA N (tcells X)) ∧ Hid (Rd wr wr.heap.size 4 YA N (tcells Y)) ∧ Hid (v = places th bk i (X.drop i) (Y.drop i)))
  case atStart => exact ⟨0, [], [], rfl, Nat.zero_le _, Lib.hid (by omega), QB, Q1, Q2, QX, QY, HV2⟩
  case round =>
    clear QB Q1 Q2 QX QY HV2
    obtain ⟨i, th, bk, rfl, hi, HG, HB, HM1, HM2, HX, HY, HV⟩ := hrel
    have hsr : mb + 1 < wr.heap.size := HM2.out.lt
    by_cases hlt : i < N
    rotate_left
    · have hz : v = true := by rw [HV.out]; exact places_end _ _ _ _ _ (by have := HN.out; omega)
      subst hz
      go_wp2
      go_ret
      exact ⟨by rfl, by rw [HRR.out]; exact HB.out⟩
    have hi2 : i < Y.length := by have := HYN.out; omega
    obtain ⟨b1, o1, hk1, hxe, hB1, c0, c1, c2, c3⟩ := HX.out.term i hlt
    obtain ⟨b2, o2, hk2, hye, hB2, d0, d1, d2, d3⟩ := HY.out.term i hlt
    have HS := Lib.hid (places_drop th bk i X Y hk1 hk2)
    rw [← HV.out] at HS
    have hxs := HAF.out X[i] (List.getElem_mem hk1)
    have hys := HBF.out Y[i] (List.getElem_mem hk2)
    clear HV
    generalize X[i] = x at *
    generalize Y[i] = y at *
    obtain ⟨xk, xi, xt, xo⟩ := x
    obtain ⟨yk, yi, yt, yo⟩ := y
    dsimp only at c0 c1 c2 c3 d0 d1 d2 d3 HS hxs hys
    subst hxe
    subst hye
    go_upto_region 8 with (fail)
    have hba := (Below.refl wr.heap.size wr).alloc (Nat.le_refl _) (.cells #[.int .i64 xk, .int .i64 xi, .string xt, .int .i64 xo] 33)
    have L1 := Lib.hid (Blk.new wr 33 [.int .i64 xk, .int .i64 xi, .string xt, .int .i64 xo])
    have KB := Lib.hid (HB.out.trans (hba.mono (by omega)))
    have KM1 := Lib.hid (HM1.out.below hba HM1.out.lt)
    have KM2 := Lib.hid (HM2.out.below hba HM2.out.lt)
    have KX := Lib.hid (HX.out.up hba hba.size)
    have KY := Lib.hid (HY.out.up hba hba.size)
    have d0 := (hba.cell (p := ⟨b2, o2 + i * 4, none⟩) hB2).trans d0
    have d1 := (hba.cell (p := ⟨b2, o2 + i * 4 + 1, none⟩) hB2).trans d1
    have d2 := (hba.cell (p := ⟨b2, o2 + i * 4 + 2, none⟩) hB2).trans d2
    have d3 := (hba.cell (p := ⟨b2, o2 + i * 4 + 3, none⟩) hB2).trans d3
    clear hba HB HM1 HM2 HX HY c0 c1 c2 c3
    generalize World.alloc _ _ = w2b at *
    generalize wr.heap.size = Z at *
    go_upto_region 14 with (fail)
    have hZ2 : Z < w2b.heap.size := L1.out.lt
    have hba := (Below.refl w2b.heap.size w2b).alloc (Nat.le_refl _) (.cells #[.int .i64 yk, .int .i64 yi, .string yt, .int .i64 yo] 33)
    have S0 : Hid (AgSt w (w2b.alloc (.cells #[.int .i64 yk, .int .i64 yi, .string yt, .int .i64 yo] 33)) R mb i N Z w2b.heap.size th bk (some ⟨b1, o1, none⟩) (some ⟨b2, o2, none⟩) X Y ⟨xk, xi, xt, xo⟩ ⟨yk, yi, yt, yo⟩) := Lib.hid
      ⟨KB.out.trans (hba.mono (by omega)), KM1.out.below hba KM1.out.lt, KM2.out.below hba KM2.out.lt, KX.out.up hba hba.size, KY.out.up hba hba.size, L1.out.below hba L1.out.lt, Blk.new w2b 33 [.int .i64 yk, .int .i64 yi, .string yt, .int .i64 yo], by have := hba.size; omega⟩
    clear hba KB KM1 KM2 KX KY L1 d0 d1 d2 d3
    generalize World.alloc _ _ = w3b at *
    generalize w2b.heap.size = Z2 at *
    have f0 := S0.out.bx.cell 0
    have g0 := S0.out.by_.cell 0
    have f1 := S0.out.bx.cell 1
    have g1 := S0.out.by_.cell 1
    have f2 := S0.out.bx.cell 2
    have g2 := S0.out.by_.cell 2
    have f3 := S0.out.bx.cell 3
    have g3 := S0.out.by_.cell 3
    simp only [T.cells, List.getElem?_cons_zero, List.getElem?_cons_succ] at f0 f1 f2 f3 g0 g1 g2 g3
    by_cases x4 : xk = 4
    rotate_left
    · have hn2 : named2 ⟨xk, xi, xt, xo⟩ ⟨yk, yi, yt, yo⟩ = false := by unfold named2; simp [x4]
      have e4 : (xk == 4) = false := by simpa using x4
      clear x4
      have kc := variable_any xk xi xo xt w3b
      rw [e4] at kc
      go_wp2_with fail
      refine kc.mono ?_
      rintro e wa ⟨rfl, hb⟩
      have S1 := Lib.hid (S0.out.up hb)
      clear kc hb S0 f0 f1 f2 f3 g0 g1 g2 g3
      rw [hn2, if_neg (by simp)] at HS
      go_upto_region 15 with (fail)
      have f0 := cell_regrown ((S1.out.bx.cell 0).trans rfl)
      have f1 := cell_regrown ((S1.out.bx.cell 1).trans rfl)
      have f2 := cell_regrown ((S1.out.bx.cell 2).trans rfl)
      have f3 := cell_regrown ((S1.out.bx.cell 3).trans rfl)
      have g0 := cell_regrown ((S1.out.by_.cell 0).trans rfl)
      have g1 := cell_regrown ((S1.out.by_.cell 1).trans rfl)
      have g2 := cell_regrown ((S1.out.by_.cell 2).trans rfl)
      have g3 := cell_regrown ((S1.out.by_.cell 3).trans rfl)
      have cA : ∀ d os, Calls Try.prog 90 #[.agg #[.int .i64 xk, .int .i64 xi, .string xt, .int .i64 xo]] (grow (redrawn wa d) os) fun e w'' => e = .returned (.agg #[.int .i64 xk, .int .i64 xi, .string xt, .int .i64 0]) ∧ ∃ p : Regrown, w'' = grow (redrawn wa p.d) p.os := fun d os => Calls.regrown_of (bareL_any xk xi xo xt _)
      have cB : ∀ d os, Calls Try.prog 90 #[.agg #[.int .i64 yk, .int .i64 yi, .string yt, .int .i64 yo]] (grow (redrawn wa d) os) fun e w'' => e = .returned (.agg #[.int .i64 yk, .int .i64 yi, .string yt, .int .i64 0]) ∧ ∃ p : Regrown, w'' = grow (redrawn wa p.d) p.os := fun d os => Calls.regrown_of (bareL_any yk yi yo yt _)
      have HLK : Hid (likeT ⟨xk, xi, xt, xo⟩ ⟨yk, yi, yt, yo⟩ = like xk xi yk yi xt yt) := Lib.hid rfl
      rw [HLK.out] at HS
      clear HLK
      cases hlk : like xk xi yk yi xt yt with
      | true =>
        rw [hlk, if_pos rfl] at HS
        refine wp_region_quiet_below (by kernel_rfl) (by kernel_rfl) ?_
        repeat (go_big_quiet_step (first | with_reducible exact cA _ _ | with_reducible exact cB _ _))
        refine wpQuiet_nil ?_
        intro w6 hw6
        obtain ⟨⟨dq, osq⟩, rfl⟩ := hw6
        have TT := Lib.hid (S1.out.up (below_regrown wa dq osq))
        clear S1 f0 f1 f2 f3 g0 g1 g2 g3 cA cB hlk
        go_wp2
        go_roundg (N - (i + 1))
        case measure => have := HG.out; omega
        case rel => exact ⟨i + 1, th, bk, by go_num, by omega, Lib.hid rfl, Lib.hid TT.out.b, Lib.hid (TT.out.m1.mono (Nat.le_succ _)), Lib.hid (TT.out.m2.mono (Nat.le_succ _)), Lib.hid TT.out.rx, Lib.hid TT.out.ry, HS⟩
      | false =>
        rw [hlk, if_neg (by simp)] at HS
        have hz : v = false := HS.out
        subst hz
        refine wp_region_quiet_below (by kernel_rfl) (by kernel_rfl) ?_
        repeat (go_big_quiet_step (first | with_reducible exact cA _ _ | with_reducible exact cB _ _))
        refine wpQuiet_nil ?_
        intro w6 hw6
        obtain ⟨⟨dq, osq⟩, rfl⟩ := hw6
        have TT := Lib.hid (S1.out.up (below_regrown wa dq osq))
        clear S1 f0 f1 f2 f3 g0 g1 g2 g3 cA cB hlk HS
        go_wp2
        go_ret
        exact ⟨by rfl, by rw [HRR.out]; exact TT.out.b⟩
    subst x4
    by_cases y4 : yk = 4
    rotate_left
    · have hn2 : named2 ⟨4, xi, xt, xo⟩ ⟨yk, yi, yt, yo⟩ = false := by unfold named2; simp [y4]
      have e4 : (yk == 4) = false := by simpa using y4
      clear y4
      have kc := variable_any 4 xi xo xt w3b
      rw [show ((4 : Int) == 4) = true from rfl] at kc
      go_wp2_with fail
      refine kc.mono ?_
      rintro e wa ⟨rfl, hb⟩
      have S1 := Lib.hid (S0.out.up hb)
      clear kc hb S0 f0 f1 f2 f3 g0 g1 g2 g3
      have f0 := S1.out.bx.cell 0
      have g0 := S1.out.by_.cell 0
      have f1 := S1.out.bx.cell 1
      have g1 := S1.out.by_.cell 1
      have f2 := S1.out.bx.cell 2
      have g2 := S1.out.by_.cell 2
      have f3 := S1.out.bx.cell 3
      have g3 := S1.out.by_.cell 3
      simp only [T.cells, List.getElem?_cons_zero, List.getElem?_cons_succ] at f0 f1 f2 f3 g0 g1 g2 g3
      have kc := variable_any yk yi yo yt wa
      rw [e4] at kc
      go_wp2_with fail
      refine kc.mono ?_
      rintro e wb ⟨rfl, hb⟩
      have S2 := Lib.hid (S1.out.up hb)
      clear kc hb S1 f0 f1 f2 f3 g0 g1 g2 g3
      rw [hn2, if_neg (by simp)] at HS
      go_upto_region 15 with (fail)
      have f0 := cell_regrown ((S2.out.bx.cell 0).trans rfl)
      have f1 := cell_regrown ((S2.out.bx.cell 1).trans rfl)
      have f2 := cell_regrown ((S2.out.bx.cell 2).trans rfl)
      have f3 := cell_regrown ((S2.out.bx.cell 3).trans rfl)
      have g0 := cell_regrown ((S2.out.by_.cell 0).trans rfl)
      have g1 := cell_regrown ((S2.out.by_.cell 1).trans rfl)
      have g2 := cell_regrown ((S2.out.by_.cell 2).trans rfl)
      have g3 := cell_regrown ((S2.out.by_.cell 3).trans rfl)
      have cA : ∀ d os, Calls Try.prog 90 #[.agg #[.int .i64 4, .int .i64 xi, .string xt, .int .i64 xo]] (grow (redrawn wb d) os) fun e w'' => e = .returned (.agg #[.int .i64 4, .int .i64 xi, .string xt, .int .i64 0]) ∧ ∃ p : Regrown, w'' = grow (redrawn wb p.d) p.os := fun d os => Calls.regrown_of (bareL_any 4 xi xo xt _)
      have cB : ∀ d os, Calls Try.prog 90 #[.agg #[.int .i64 yk, .int .i64 yi, .string yt, .int .i64 yo]] (grow (redrawn wb d) os) fun e w'' => e = .returned (.agg #[.int .i64 yk, .int .i64 yi, .string yt, .int .i64 0]) ∧ ∃ p : Regrown, w'' = grow (redrawn wb p.d) p.os := fun d os => Calls.regrown_of (bareL_any yk yi yo yt _)
      have HLK : Hid (likeT ⟨4, xi, xt, xo⟩ ⟨yk, yi, yt, yo⟩ = like 4 xi yk yi xt yt) := Lib.hid rfl
      rw [HLK.out] at HS
      clear HLK
      cases hlk : like 4 xi yk yi xt yt with
      | true =>
        rw [hlk, if_pos rfl] at HS
        refine wp_region_quiet_below (by kernel_rfl) (by kernel_rfl) ?_
        repeat (go_big_quiet_step (first | with_reducible exact cA _ _ | with_reducible exact cB _ _))
        refine wpQuiet_nil ?_
        intro w6 hw6
        obtain ⟨⟨dq, osq⟩, rfl⟩ := hw6
        have TT := Lib.hid (S2.out.up (below_regrown wb dq osq))
        clear S2 f0 f1 f2 f3 g0 g1 g2 g3 cA cB hlk
        go_wp2
        go_roundg (N - (i + 1))
        case measure => have := HG.out; omega
        case rel => exact ⟨i + 1, th, bk, by go_num, by omega, Lib.hid rfl, Lib.hid TT.out.b, Lib.hid (TT.out.m1.mono (Nat.le_succ _)), Lib.hid (TT.out.m2.mono (Nat.le_succ _)), Lib.hid TT.out.rx, Lib.hid TT.out.ry, HS⟩
      | false =>
        rw [hlk, if_neg (by simp)] at HS
        have hz : v = false := HS.out
        subst hz
        refine wp_region_quiet_below (by kernel_rfl) (by kernel_rfl) ?_
        repeat (go_big_quiet_step (first | with_reducible exact cA _ _ | with_reducible exact cB _ _))
        refine wpQuiet_nil ?_
        intro w6 hw6
        obtain ⟨⟨dq, osq⟩, rfl⟩ := hw6
        have TT := Lib.hid (S2.out.up (below_regrown wb dq osq))
        clear S2 f0 f1 f2 f3 g0 g1 g2 g3 cA cB hlk HS
        go_wp2
        go_ret
        exact ⟨by rfl, by rw [HRR.out]; exact TT.out.b⟩
    subst y4
    cases hnx : noName 4 xt with
    | true =>
      have hn2 : named2 ⟨4, xi, xt, xo⟩ ⟨4, yi, yt, yo⟩ = false := by unfold named2 T.nn; simp [hnx]
      have kc := variable_any 4 xi xo xt w3b
      rw [show ((4 : Int) == 4) = true from rfl] at kc
      go_wp2_with fail
      refine kc.mono ?_
      rintro e wa ⟨rfl, hb⟩
      have S1 := Lib.hid (S0.out.up hb)
      clear kc hb S0 f0 f1 f2 f3 g0 g1 g2 g3
      have f0 := S1.out.bx.cell 0
      have g0 := S1.out.by_.cell 0
      have f1 := S1.out.bx.cell 1
      have g1 := S1.out.by_.cell 1
      have f2 := S1.out.bx.cell 2
      have g2 := S1.out.by_.cell 2
      have f3 := S1.out.bx.cell 3
      have g3 := S1.out.by_.cell 3
      simp only [T.cells, List.getElem?_cons_zero, List.getElem?_cons_succ] at f0 f1 f2 f3 g0 g1 g2 g3
      have kc := variable_any 4 yi yo yt wa
      rw [show ((4 : Int) == 4) = true from rfl] at kc
      go_wp2_with fail
      refine kc.mono ?_
      rintro e wb ⟨rfl, hb⟩
      have S2 := Lib.hid (S1.out.up hb)
      clear kc hb S1 f0 f1 f2 f3 g0 g1 g2 g3
      have f0 := S2.out.bx.cell 0
      have g0 := S2.out.by_.cell 0
      have f1 := S2.out.bx.cell 1
      have g1 := S2.out.by_.cell 1
      have f2 := S2.out.bx.cell 2
      have g2 := S2.out.by_.cell 2
      have f3 := S2.out.bx.cell 3
      have g3 := S2.out.by_.cell 3
      simp only [T.cells, List.getElem?_cons_zero, List.getElem?_cons_succ] at f0 f1 f2 f3 g0 g1 g2 g3
      have kc := nameless_any 4 xi xo xt wb
      rw [hnx] at kc
      go_wp2_with fail
      refine kc.mono ?_
      rintro e wc ⟨rfl, hb⟩
      have S3 := Lib.hid (S2.out.up hb)
      clear kc hb S2 f0 f1 f2 f3 g0 g1 g2 g3
      rw [hn2, if_neg (by simp)] at HS
      go_upto_region 15 with (fail)
      have f0 := cell_regrown ((S3.out.bx.cell 0).trans rfl)
      have f1 := cell_regrown ((S3.out.bx.cell 1).trans rfl)
      have f2 := cell_regrown ((S3.out.bx.cell 2).trans rfl)
      have f3 := cell_regrown ((S3.out.bx.cell 3).trans rfl)
      have g0 := cell_regrown ((S3.out.by_.cell 0).trans rfl)
      have g1 := cell_regrown ((S3.out.by_.cell 1).trans rfl)
      have g2 := cell_regrown ((S3.out.by_.cell 2).trans rfl)
      have g3 := cell_regrown ((S3.out.by_.cell 3).trans rfl)
      have cA : ∀ d os, Calls Try.prog 90 #[.agg #[.int .i64 4, .int .i64 xi, .string xt, .int .i64 xo]] (grow (redrawn wc d) os) fun e w'' => e = .returned (.agg #[.int .i64 4, .int .i64 xi, .string xt, .int .i64 0]) ∧ ∃ p : Regrown, w'' = grow (redrawn wc p.d) p.os := fun d os => Calls.regrown_of (bareL_any 4 xi xo xt _)
      have cB : ∀ d os, Calls Try.prog 90 #[.agg #[.int .i64 4, .int .i64 yi, .string yt, .int .i64 yo]] (grow (redrawn wc d) os) fun e w'' => e = .returned (.agg #[.int .i64 4, .int .i64 yi, .string yt, .int .i64 0]) ∧ ∃ p : Regrown, w'' = grow (redrawn wc p.d) p.os := fun d os => Calls.regrown_of (bareL_any 4 yi yo yt _)
      have HLK : Hid (likeT ⟨4, xi, xt, xo⟩ ⟨4, yi, yt, yo⟩ = like 4 xi 4 yi xt yt) := Lib.hid rfl
      rw [HLK.out] at HS
      clear HLK
      cases hlk : like 4 xi 4 yi xt yt with
      | true =>
        rw [hlk, if_pos rfl] at HS
        refine wp_region_quiet_below (by kernel_rfl) (by kernel_rfl) ?_
        repeat (go_big_quiet_step (first | with_reducible exact cA _ _ | with_reducible exact cB _ _))
        refine wpQuiet_nil ?_
        intro w6 hw6
        obtain ⟨⟨dq, osq⟩, rfl⟩ := hw6
        have TT := Lib.hid (S3.out.up (below_regrown wc dq osq))
        clear S3 f0 f1 f2 f3 g0 g1 g2 g3 cA cB hlk
        go_wp2
        go_roundg (N - (i + 1))
        case measure => have := HG.out; omega
        case rel => exact ⟨i + 1, th, bk, by go_num, by omega, Lib.hid rfl, Lib.hid TT.out.b, Lib.hid (TT.out.m1.mono (Nat.le_succ _)), Lib.hid (TT.out.m2.mono (Nat.le_succ _)), Lib.hid TT.out.rx, Lib.hid TT.out.ry, HS⟩
      | false =>
        rw [hlk, if_neg (by simp)] at HS
        have hz : v = false := HS.out
        subst hz
        refine wp_region_quiet_below (by kernel_rfl) (by kernel_rfl) ?_
        repeat (go_big_quiet_step (first | with_reducible exact cA _ _ | with_reducible exact cB _ _))
        refine wpQuiet_nil ?_
        intro w6 hw6
        obtain ⟨⟨dq, osq⟩, rfl⟩ := hw6
        have TT := Lib.hid (S3.out.up (below_regrown wc dq osq))
        clear S3 f0 f1 f2 f3 g0 g1 g2 g3 cA cB hlk HS
        go_wp2
        go_ret
        exact ⟨by rfl, by rw [HRR.out]; exact TT.out.b⟩
    | false =>
    cases hny : noName 4 yt with
    | true =>
      have hn2 : named2 ⟨4, xi, xt, xo⟩ ⟨4, yi, yt, yo⟩ = false := by unfold named2 T.nn; simp [hny]
      have kc := variable_any 4 xi xo xt w3b
      rw [show ((4 : Int) == 4) = true from rfl] at kc
      go_wp2_with fail
      refine kc.mono ?_
      rintro e wa ⟨rfl, hb⟩
      have S1 := Lib.hid (S0.out.up hb)
      clear kc hb S0 f0 f1 f2 f3 g0 g1 g2 g3
      have f0 := S1.out.bx.cell 0
      have g0 := S1.out.by_.cell 0
      have f1 := S1.out.bx.cell 1
      have g1 := S1.out.by_.cell 1
      have f2 := S1.out.bx.cell 2
      have g2 := S1.out.by_.cell 2
      have f3 := S1.out.bx.cell 3
      have g3 := S1.out.by_.cell 3
      simp only [T.cells, List.getElem?_cons_zero, List.getElem?_cons_succ] at f0 f1 f2 f3 g0 g1 g2 g3
      have kc := variable_any 4 yi yo yt wa
      rw [show ((4 : Int) == 4) = true from rfl] at kc
      go_wp2_with fail
      refine kc.mono ?_
      rintro e wb ⟨rfl, hb⟩
      have S2 := Lib.hid (S1.out.up hb)
      clear kc hb S1 f0 f1 f2 f3 g0 g1 g2 g3
      have f0 := S2.out.bx.cell 0
      have g0 := S2.out.by_.cell 0
      have f1 := S2.out.bx.cell 1
      have g1 := S2.out.by_.cell 1
      have f2 := S2.out.bx.cell 2
      have g2 := S2.out.by_.cell 2
      have f3 := S2.out.bx.cell 3
      have g3 := S2.out.by_.cell 3
      simp only [T.cells, List.getElem?_cons_zero, List.getElem?_cons_succ] at f0 f1 f2 f3 g0 g1 g2 g3
      have kc := nameless_any 4 xi xo xt wb
      rw [hnx] at kc
      go_wp2_with fail
      refine kc.mono ?_
      rintro e wc ⟨rfl, hb⟩
      have S3 := Lib.hid (S2.out.up hb)
      clear kc hb S2 f0 f1 f2 f3 g0 g1 g2 g3
      have f0 := S3.out.bx.cell 0
      have g0 := S3.out.by_.cell 0
      have f1 := S3.out.bx.cell 1
      have g1 := S3.out.by_.cell 1
      have f2 := S3.out.bx.cell 2
      have g2 := S3.out.by_.cell 2
      have f3 := S3.out.bx.cell 3
      have g3 := S3.out.by_.cell 3
      simp only [T.cells, List.getElem?_cons_zero, List.getElem?_cons_succ] at f0 f1 f2 f3 g0 g1 g2 g3
      have kc := nameless_any 4 yi yo yt wc
      rw [hny] at kc
      go_wp2_with fail
      refine kc.mono ?_
      rintro e wd ⟨rfl, hb⟩
      have S4 := Lib.hid (S3.out.up hb)
      clear kc hb S3 f0 f1 f2 f3 g0 g1 g2 g3
      rw [hn2, if_neg (by simp)] at HS
      go_upto_region 15 with (fail)
      have f0 := cell_regrown ((S4.out.bx.cell 0).trans rfl)
      have f1 := cell_regrown ((S4.out.bx.cell 1).trans rfl)
      have f2 := cell_regrown ((S4.out.bx.cell 2).trans rfl)
      have f3 := cell_regrown ((S4.out.bx.cell 3).trans rfl)
      have g0 := cell_regrown ((S4.out.by_.cell 0).trans rfl)
      have g1 := cell_regrown ((S4.out.by_.cell 1).trans rfl)
      have g2 := cell_regrown ((S4.out.by_.cell 2).trans rfl)
      have g3 := cell_regrown ((S4.out.by_.cell 3).trans rfl)
      have cA : ∀ d os, Calls Try.prog 90 #[.agg #[.int .i64 4, .int .i64 xi, .string xt, .int .i64 xo]] (grow (redrawn wd d) os) fun e w'' => e = .returned (.agg #[.int .i64 4, .int .i64 xi, .string xt, .int .i64 0]) ∧ ∃ p : Regrown, w'' = grow (redrawn wd p.d) p.os := fun d os => Calls.regrown_of (bareL_any 4 xi xo xt _)
      have cB : ∀ d os, Calls Try.prog 90 #[.agg #[.int .i64 4, .int .i64 yi, .string yt, .int .i64 yo]] (grow (redrawn wd d) os) fun e w'' => e = .returned (.agg #[.int .i64 4, .int .i64 yi, .string yt, .int .i64 0]) ∧ ∃ p : Regrown, w'' = grow (redrawn wd p.d) p.os := fun d os => Calls.regrown_of (bareL_any 4 yi yo yt _)
      have HLK : Hid (likeT ⟨4, xi, xt, xo⟩ ⟨4, yi, yt, yo⟩ = like 4 xi 4 yi xt yt) := Lib.hid rfl
      rw [HLK.out] at HS
      clear HLK
      cases hlk : like 4 xi 4 yi xt yt with
      | true =>
        rw [hlk, if_pos rfl] at HS
        refine wp_region_quiet_below (by kernel_rfl) (by kernel_rfl) ?_
        repeat (go_big_quiet_step (first | with_reducible exact cA _ _ | with_reducible exact cB _ _))
        refine wpQuiet_nil ?_
        intro w6 hw6
        obtain ⟨⟨dq, osq⟩, rfl⟩ := hw6
        have TT := Lib.hid (S4.out.up (below_regrown wd dq osq))
        clear S4 f0 f1 f2 f3 g0 g1 g2 g3 cA cB hlk
        go_wp2
        go_roundg (N - (i + 1))
        case measure => have := HG.out; omega
        case rel => exact ⟨i + 1, th, bk, by go_num, by omega, Lib.hid rfl, Lib.hid TT.out.b, Lib.hid (TT.out.m1.mono (Nat.le_succ _)), Lib.hid (TT.out.m2.mono (Nat.le_succ _)), Lib.hid TT.out.rx, Lib.hid TT.out.ry, HS⟩
      | false =>
        rw [hlk, if_neg (by simp)] at HS
        have hz : v = false := HS.out
        subst hz
        refine wp_region_quiet_below (by kernel_rfl) (by kernel_rfl) ?_
        repeat (go_big_quiet_step (first | with_reducible exact cA _ _ | with_reducible exact cB _ _))
        refine wpQuiet_nil ?_
        intro w6 hw6
        obtain ⟨⟨dq, osq⟩, rfl⟩ := hw6
        have TT := Lib.hid (S4.out.up (below_regrown wd dq osq))
        clear S4 f0 f1 f2 f3 g0 g1 g2 g3 cA cB hlk HS
        go_wp2
        go_ret
        exact ⟨by rfl, by rw [HRR.out]; exact TT.out.b⟩
    | false =>
      have hn2 : named2 ⟨4, xi, xt, xo⟩ ⟨4, yi, yt, yo⟩ = true := by unfold named2 T.nn; simp [hnx, hny]
      have kc := variable_any 4 xi xo xt w3b
      rw [show ((4 : Int) == 4) = true from rfl] at kc
      go_wp2_with fail
      refine kc.mono ?_
      rintro e wa ⟨rfl, hb⟩
      have S1 := Lib.hid (S0.out.up hb)
      clear kc hb S0 f0 f1 f2 f3 g0 g1 g2 g3
      have f0 := S1.out.bx.cell 0
      have g0 := S1.out.by_.cell 0
      have f1 := S1.out.bx.cell 1
      have g1 := S1.out.by_.cell 1
      have f2 := S1.out.bx.cell 2
      have g2 := S1.out.by_.cell 2
      have f3 := S1.out.bx.cell 3
      have g3 := S1.out.by_.cell 3
      simp only [T.cells, List.getElem?_cons_zero, List.getElem?_cons_succ] at f0 f1 f2 f3 g0 g1 g2 g3
      have kc := variable_any 4 yi yo yt wa
      rw [show ((4 : Int) == 4) = true from rfl] at kc
      go_wp2_with fail
      refine kc.mono ?_
      rintro e wb ⟨rfl, hb⟩
      have S2 := Lib.hid (S1.out.up hb)
      clear kc hb S1 f0 f1 f2 f3 g0 g1 g2 g3
      have f0 := S2.out.bx.cell 0
      have g0 := S2.out.by_.cell 0
      have f1 := S2.out.bx.cell 1
      have g1 := S2.out.by_.cell 1
      have f2 := S2.out.bx.cell 2
      have g2 := S2.out.by_.cell 2
      have f3 := S2.out.bx.cell 3
      have g3 := S2.out.by_.cell 3
      simp only [T.cells, List.getElem?_cons_zero, List.getElem?_cons_succ] at f0 f1 f2 f3 g0 g1 g2 g3
      have kc := nameless_any 4 xi xo xt wb
      rw [hnx] at kc
      go_wp2_with fail
      refine kc.mono ?_
      rintro e wc ⟨rfl, hb⟩
      have S3 := Lib.hid (S2.out.up hb)
      clear kc hb S2 f0 f1 f2 f3 g0 g1 g2 g3
      have f0 := S3.out.bx.cell 0
      have g0 := S3.out.by_.cell 0
      have f1 := S3.out.bx.cell 1
      have g1 := S3.out.by_.cell 1
      have f2 := S3.out.bx.cell 2
      have g2 := S3.out.by_.cell 2
      have f3 := S3.out.bx.cell 3
      have g3 := S3.out.by_.cell 3
      simp only [T.cells, List.getElem?_cons_zero, List.getElem?_cons_succ] at f0 f1 f2 f3 g0 g1 g2 g3
      have kc := nameless_any 4 yi yo yt wc
      rw [hny] at kc
      go_wp2_with fail
      refine kc.mono ?_
      rintro e wd ⟨rfl, hb⟩
      have S4 := Lib.hid (S3.out.up hb)
      clear kc hb S3 f0 f1 f2 f3 g0 g1 g2 g3
      rw [hn2, if_pos rfl] at HS
      go_upto_region 9 with (fail)
      have f2 := cell_regrown ((S4.out.bx.cell 2).trans rfl)
      have g2 := cell_regrown ((S4.out.by_.cell 2).trans rfl)
      have kl1 : ∀ d os, (Instr.lookup 66 (.map (some mb)) (.string xt) false).run Try.prog (grow (redrawn wd d) os) = .ok (.int .i64 ((getN th xt : Nat) : Int)) (grow (redrawn wd d) os) := fun d os => by
        have h := mp_lookup (S4.out.m1.below (below_regrown wd d os) S4.out.m1.lt) mapN (zeroI _) xt hxs
        rw [natF_get] at h; exact h
      have kl2 : ∀ d os, (Instr.lookup 66 (.map (some (mb + 1))) (.string yt) false).run Try.prog (grow (redrawn wd d) os) = .ok (.int .i64 ((getN bk yt : Nat) : Int)) (grow (redrawn wd d) os) := fun d os => by
        have h := mp_lookup (S4.out.m2.below (below_regrown wd d os) S4.out.m2.lt) mapN (zeroI _) yt hys
        rw [natF_get] at h; exact h
      have HSP : Hid (v = (if getN th xt = getN bk yt then (if getN th xt = 0 then places ((xt, i + 1) :: th) ((yt, i + 1) :: bk) (i + 1) (X.drop (i + 1)) (Y.drop (i + 1)) else places th bk (i + 1) (X.drop (i + 1)) (Y.drop (i + 1))) else false)) := HS
      clear HS
      generalize getN th xt = p at *
      generalize getN bk yt = q at *
      refine wp_region_quiet_below (by kernel_rfl) (by kernel_rfl) ?_
      repeat (go_big_quiet_step (fail))
      refine wpQuiet_nil ?_
      intro w6 hw6
      obtain ⟨⟨dq, osq⟩, rfl⟩ := hw6
      have S5 := Lib.hid (S4.out.up (below_regrown wd dq osq))
      clear S4 f2 g2 kl1 kl2
      generalize hW : grow _ _ = wv at *
      clear hW
      by_cases hpq : p = q
      rotate_left
      · have hz : v = false := by rw [HSP.out, if_neg hpq]
        have t1 : ((p : Int) != (q : Int)) = true := by simp only [bne_iff_ne, ne_eq]; omega
        have t2 : ((p : Int) == (q : Int)) = false := by simp only [beq_eq_false_iff_ne, ne_eq]; omega
        subst hz
        clear HSP
        go_wp2
        go_ret
        exact ⟨by rfl, by rw [HRR.out]; exact S5.out.b⟩
      subst hpq
      rcases Nat.eq_zero_or_pos p with p0 | p0
      rotate_left
      · have HN2 : Hid (v = places th bk (i + 1) (X.drop (i + 1)) (Y.drop (i + 1))) := Lib.hid (by rw [HSP.out, if_pos rfl, if_neg (by omega)])
        have t1 : ((p : Int) == 0) = false := by simpa using (by omega : ¬ (p : Int) = 0)
        clear HSP
        go_wp2
        go_roundg (N - (i + 1))
        case measure => have := HG.out; omega
        case rel => exact ⟨i + 1, th, bk, by go_num, by omega, Lib.hid rfl, Lib.hid S5.out.b, Lib.hid (S5.out.m1.mono (Nat.le_succ _)), Lib.hid (S5.out.m2.mono (Nat.le_succ _)), Lib.hid S5.out.rx, Lib.hid S5.out.ry, HN2⟩
      subst p0
      have HN2 : Hid (v = places ((xt, i + 1) :: th) ((yt, i + 1) :: bk) (i + 1) (X.drop (i + 1)) (Y.drop (i + 1))) := Lib.hid (by rw [HSP.out, if_pos rfl, if_pos rfl])
      clear HSP
      go_upto_region 13 with (fail)
      obtain ⟨C, hCi⟩ : ∃ C : World → Prop, ∀ w', C w' ↔ (Blk w' Z 33 [.int .i64 4, .int .i64 xi, .string xt, .int .i64 xo] ∧ Blk w' Z2 33 [.int .i64 4, .int .i64 yi, .string yt, .int .i64 yo]) := ⟨_, fun _ => Iff.rfl⟩
      have hbd : Below wv.heap.size wv wv.drew := ⟨rfl, rfl, rfl, Nat.le_refl _, fun _ _ => rfl⟩
      have hC : C wv.drew := (hCi _).2 ⟨S5.out.bx.below hbd S5.out.bx.lt, S5.out.by_.below hbd S5.out.by_.lt⟩
      have k1 : ∀ p : WC C, p.w.cell? ⟨Z, 2, none⟩ = _ := fun p => (((hCi _).1 p.h).1.cell 2).trans rfl
      have k2 : ∀ p : WC C, p.w.cell? ⟨Z2, 2, none⟩ = _ := fun p => (((hCi _).1 p.h).2.cell 2).trans rfl
      have kn : Nonempty (WC C) := ⟨⟨_, hC⟩⟩
      have hiN : i < 9223372036854775807 := by omega
      refine wp_region_frontN C [0, 1, 2, 3, 4, 5, 6, 7, 8, 9] 2 (fun j => decide (j < 12)) (by kernel_rfl) (fun _ _ d _ _ h => by cases d <;> exact h) (by kernel_rfl) hC ?_
      simp only [List.map_cons, List.map_nil, List.getD_cons_zero, List.getD_cons_succ]
      repeat (go_big_quiet_step (fail))
      refine wpQuiet_nil ?_
      have HCi := Lib.hid hCi
      have S6 := Lib.hid (S5.out.up hbd)
      clear k1 k2 kn hC hCi hbd S5
      generalize wv.drew = wx at *
      refine wpN_one (i := 10) (by kernel_rfl) rfl ?_
      · refine wpList_update_mp rfl _ _ _ 66 3 rfl mapN mb i _ rfl S6.out.m1 (by unfold maxLen; omega) xt rfl hxs _ rfl ?_
        intro w8 hm8 hg8
        have A1 : Hid (Mp w8 mb (i + 1) (natF ((xt, i + 1) :: th))) := Lib.hid (Mp.congr hm8 (fun u => natF_put th xt (i + 1) u))
        have A2 := Lib.hid (S6.out.m2.grown hg8 (fun e => by injection e with e; omega))
        have A3 := Lib.hid (S6.out.bx.map S6.out.m1 hg8)
        have A4 := Lib.hid (S6.out.by_.map S6.out.m1 hg8)
        have A5 := Lib.hid (S6.out.rx.mapUp S6.out.m1 hg8)
        have A6 := Lib.hid (S6.out.ry.mapUp S6.out.m1 hg8)
        have A7 := Lib.hid (below_map S6.out.b S6.out.hr hg8 hRmb)
        have A8 : Hid (R ≤ w8.heap.size) := Lib.hid (Nat.le_trans S6.out.hr hg8.size)
        clear hm8 hg8 S6
        go_wp2
        refine tailN_normal ((HCi.out _).2 ⟨A3.out, A4.out⟩) ?_
        refine wpN_one (i := 11) (by kernel_rfl) rfl ?_
        refine wpList_update_mp rfl _ _ _ 66 3 rfl mapN (mb + 1) i _ rfl A2.out (by unfold maxLen; omega) yt rfl hys _ rfl ?_
        intro w9 hm9 hg9
        have B2 : Hid (Mp w9 (mb + 1) (i + 1) (natF ((yt, i + 1) :: bk))) := Lib.hid (Mp.congr hm9 (fun u => natF_put bk yt (i + 1) u))
        have B1 := Lib.hid (A1.out.grown hg9 (fun e => by injection e with e; omega))
        have B3 := Lib.hid (A3.out.map A2.out hg9)
        have B4 := Lib.hid (A4.out.map A2.out hg9)
        have B5 := Lib.hid (A5.out.mapUp A2.out hg9)
        have B6 := Lib.hid (A6.out.mapUp A2.out hg9)
        have B7 := Lib.hid (below_map A7.out A8.out hg9 (by omega))
        clear hm9 hg9 A1 A2 A3 A4 A5 A6 A7 A8
        go_wp2
        refine tailN_normal ((HCi.out _).2 ⟨B3.out, B4.out⟩) ?_
        refine wpN_none (by kernel_rfl) ?_
        go_wp2
        go_roundg (N - (i + 1))
        case measure => have := HG.out; omega
        case rel => exact ⟨i + 1, _, _, by go_num, by omega, Lib.hid rfl, B7, B1, B2, B5, B6, HN2⟩
end Go.Proofs.Ytjcgkplphiedjaa
