/- Terms that are the same one by one; the first literal for which a function answers true. | The place of a literal that keeps a clause from firing: the program's fault. -/
import Derived.Test.YtjcgkplphiedjaaGs
import Derived.Test.YtjcgkplphiedjaaGt
namespace Go.Proofs.Ytjcgkplphiedjaa
open Go.RowKit Go.Sort

set_option maxRecDepth 20000 in
set_option maxHeartbeats 4000000 in
theorem eqterms_any (A : Option Addr) (n c : Nat) (B : Option Addr) (m d : Nat) (X Y : List T) (w : World) (hr : Rd w w.heap.size 4 A n (tcells X)) (hr2 : Rd w w.heap.size 4 B m (tcells Y)) :
    Calls Try.prog 65 #[.slice A n c, .slice B m d, .func (.func 66) #[] #[]] w fun e w' => e = .returned (.bool (eqTs X Y)) ∧ Below w.heap.size w w' := by
  have hl : X.length = n := by have := hr.1; rw [tcells_length] at this; omega
  have hl2 : Y.length = m := by have := hr2.1; rw [tcells_length] at this; omega
  have hnb := hr.2.1
  have hmb := hr2.2.1
  have HR := Lib.hid hr
  have HR2 := Lib.hid hr2
  have HL := Lib.hid hl
  have HL2 := Lib.hid hl2
  have HV : Hid (eqTs (X.drop 0) (Y.drop 0) = eqTs X Y) := Lib.hid rfl
  have HNE : Hid (n ≠ m → eqTs X Y = false) := Lib.hid (fun h => eqTs_length X Y (by omega))
  clear hr hr2 hl hl2
  generalize eqTs X Y = v at *
  go_enter Try.func65, Try.ntmps65
  by_cases hne : n ≠ m
  · have hz := HNE.out hne
    have t1 : ((n : Int) != (m : Int)) = true := by simp only [bne_iff_ne, ne_eq]; omega
    have t2 : ((n : Int) == (m : Int)) = false := by simp only [beq_eq_false_iff_ne, ne_eq]; omega
    subst hz
    clear HV HNE
    go_wp2
    go_ret
    exact ⟨by rfl, Below.refl _ _⟩
  obtain rfl : n = m := Classical.not_not.1 hne
  clear HNE hne
  go_upto_region 4 with (fail)
  generalize hR : w.heap.size = R at *
  have HRR := Lib.hid hR
  clear hR
  go_loopg [17] n (fun gk u17 wr => ∃ k : Nat, u17 = .int .i64 k ∧ k ≤ n ∧ Hid (gk = n - k) ∧ Hid (Below R w wr) ∧ Hid (eqTs (X.drop k) (Y.drop k) = v))
  case atStart => exact ⟨0, rfl, Nat.zero_le _, Lib.hid (by omega), Lib.hid (Below.refl _ _), HV⟩
  case round =>
    clear HV
    obtain ⟨k, rfl, hk, HG, HB, HV⟩ := hrel
    have hsr : R ≤ wr.heap.size := by have := HB.out.size; rw [HRR.out] at this; exact this
    by_cases hlt : k < n
    · obtain ⟨b, o, hk1, rfl, hB, c0, c1, c2, c3⟩ := (HR.out.below HB.out).term k hlt
      obtain ⟨b', o', hk2, rfl, hB', d0, d1, d2, d3⟩ := (HR2.out.below HB.out).term k hlt
      have HS : Hid (v = (sameT X[k] Y[k] && eqTs (X.drop (k + 1)) (Y.drop (k + 1)))) := Lib.hid (by rw [← HV.out]; exact eqTs_drop X Y k hk1 hk2)
      clear HV
      generalize X[k] = x at *
      generalize Y[k] = y at *
      have HKL : Hid (∀ W, Calls Try.prog 66 #[.agg x.cells.toArray, .agg y.cells.toArray] W fun e w' => e = .returned (.bool (sameT x y)) ∧ Below W.heap.size W w') := Lib.hid (fun W => same_any x y W)
      obtain ⟨lk, hlk⟩ : ∃ lk, sameT x y = lk := ⟨_, rfl⟩
      rw [hlk] at HS HKL
      clear hlk
      obtain ⟨xk, xi, xt, xo⟩ := x
      obtain ⟨yk, yi, yt, yo⟩ := y
      dsimp only at c0 c1 c2 c3 d0 d1 d2 d3
      simp only [T.cells] at HKL
      go_upto_region 6 with (fail)
      have hba := (Below.refl wr.heap.size wr).alloc (Nat.le_refl _) (.cells #[.int .i64 xk, .int .i64 xi, .string xt, .int .i64 xo] 33)
      have L1 := Lib.hid (Blk.new wr 33 [.int .i64 xk, .int .i64 xi, .string xt, .int .i64 xo])
      have KB := Lib.hid (HB.out.trans (hba.mono hsr))
      have hBr : b' < wr.heap.size := by omega
      have d0 := (hba.cell (p := ⟨b', o' + k * 4, none⟩) hBr).trans d0
      have d1 := (hba.cell (p := ⟨b', o' + k * 4 + 1, none⟩) hBr).trans d1
      have d2 := (hba.cell (p := ⟨b', o' + k * 4 + 2, none⟩) hBr).trans d2
      have d3 := (hba.cell (p := ⟨b', o' + k * 4 + 3, none⟩) hBr).trans d3
      clear hba HB c0 c1 c2 c3
      generalize World.alloc _ _ = w2 at *
      generalize wr.heap.size = Z at *
      go_upto_region 7 with (fail)
      have hba := (Below.refl w2.heap.size w2).alloc (Nat.le_refl _) (.cells #[.int .i64 yk, .int .i64 yi, .string yt, .int .i64 yo] 33)
      have L2 := Lib.hid (Blk.new w2 33 [.int .i64 yk, .int .i64 yi, .string yt, .int .i64 yo])
      have M1 := Lib.hid (L1.out.below hba L1.out.lt)
      have hZ2 : Z < w2.heap.size := L1.out.lt
      have MB := Lib.hid (KB.out.trans (hba.mono (by omega)))
      clear hba KB L1 d0 d1 d2 d3
      generalize World.alloc _ _ = w3 at *
      generalize w2.heap.size = V at *
      have hY3 : V < w3.heap.size := L2.out.lt
      have f0 := M1.out.cell 0
      have g0 := L2.out.cell 0
      have f1 := M1.out.cell 1
      have g1 := L2.out.cell 1
      have f2 := M1.out.cell 2
      have g2 := L2.out.cell 2
      have f3 := M1.out.cell 3
      have g3 := L2.out.cell 3
      simp only [List.getElem?_cons_zero, List.getElem?_cons_succ] at f0 f1 f2 f3 g0 g1 g2 g3
      go_wp2_with fail
      refine (HKL.out _).mono ?_
      rintro e w4 ⟨rfl, hb4⟩
      have NB := Lib.hid (MB.out.trans (hb4.mono (by omega)))
      clear hb4 MB M1 L2 HKL f0 f1 f2 f3 g0 g1 g2 g3
      cases lk with
      | true =>
        have HN : Hid (eqTs (X.drop (k + 1)) (Y.drop (k + 1)) = v) := Lib.hid (by rw [HS.out, Bool.true_and])
        clear HS
        go_wp2
        go_roundg (n - (k + 1))
        case measure => have := HG.out; omega
        case rel => exact ⟨k + 1, by go_num, by omega, Lib.hid rfl, NB, HN⟩
      | false =>
        have hz : v = false := by rw [HS.out]; rfl
        subst hz
        clear HS
        go_wp2
        go_ret
        exact ⟨by rfl, by rw [HRR.out]; exact NB.out⟩
    · obtain rfl : k = n := by omega
      have hz : v = true := by rw [← HV.out]; exact eqTs_end X Y k (by have := HL.out; omega) (by have := HL2.out; omega)
      subst hz
      go_wp2
      go_ret
      exact ⟨by rfl, by rw [HRR.out]; exact HB.out⟩

set_option maxRecDepth 20000 in
set_option maxHeartbeats 4000000 in
theorem indexA_any (q : Option Addr) (f : Li → Bool) (A : Option Addr) (n c : Nat) (ls : List Li) (w : World) (hr : Rd w w.heap.size 14 A n (lcells ls))
    (hc : ∀ x ∈ ls, ∀ W, Below w.heap.size w W → Calls Try.prog 62 #[.agg x.cells.toArray, .pointer q] W fun e w' => e = .returned (.bool (f x)) ∧ Below W.heap.size W w') :
    Calls Try.prog 61 #[.slice A n c, .func (.func 62) #[] #[.pointer q]] w fun e w' => e = .returned (.int .i64 (optI (firstI (fun _ x => f x) 0 ls))) ∧ Below w.heap.size w w' := by
  have hl : ls.length = n := by have := hr.1; rw [lcells_length] at this; omega
  have hnb := hr.2.1
  have HR := Lib.hid hr
  have HC := Lib.hid hc
  have HL := Lib.hid hl
  have HV : Hid (optI (firstI (fun _ x => f x) 0 (ls.drop 0)) = optI (firstI (fun _ x => f x) 0 ls)) := Lib.hid rfl
  clear hr hc hl
  generalize optI (firstI (fun _ x => f x) 0 ls) = v at *
  go_enter Try.func61, Try.ntmps61
  go_upto_region 2 with (fail)
  generalize hR : w.heap.size = R at *
  have HRR := Lib.hid hR
  clear hR
  go_loopg [8] n (fun gk u8 wr => ∃ k : Nat, u8 = .int .i64 k ∧ k ≤ n ∧ Hid (gk = n - k) ∧ Hid (Below R w wr) ∧ Hid (optI (firstI (fun _ x => f x) k (ls.drop k)) = v))
  case atStart => exact ⟨0, rfl, Nat.zero_le _, Lib.hid (by omega), Lib.hid (Below.refl _ _), HV⟩
  case round =>
    clear HV
    obtain ⟨k, rfl, hk, HG, HB, HV⟩ := hrel
    have hsr : R ≤ wr.heap.size := by have := HB.out.size; rw [HRR.out] at this; exact this
    by_cases hlt : k < n
    · obtain ⟨b, o, hk1, rfl, hB, hcc⟩ := (HR.out.below HB.out).at Li.cells 14 (fun _ => rfl) (by omega) k hlt
      have HS : Hid (v = optI (if f ls[k] = true then some k else firstI (fun _ x => f x) (k + 1) (ls.drop (k + 1)))) := Lib.hid (by rw [← HV.out, firstI_drop _ ls k hk1])
      have hka := HC.out ls[k] (List.getElem_mem hk1) wr HB.out
      clear HV
      generalize ls[k] = x at *
      generalize f x = fx at *
      have HKL := Lib.hid hka
      clear hka
      obtain ⟨xk, ⟨xp, xA, xn, xc, xo, xes⟩, xop, ⟨xlk, xli, xlt, xlo⟩, ⟨xrk, xri, xrt, xro⟩, xof⟩ := x
      have c0 := hcc 0 _ (by omega) rfl
      have c1 := hcc 1 _ (by omega) rfl
      have c2 := hcc 2 _ (by omega) rfl
      have c3 := hcc 3 _ (by omega) rfl
      have c4 := hcc 4 _ (by omega) rfl
      have c5 := hcc 5 _ (by omega) rfl
      have c6 := hcc 6 _ (by omega) rfl
      have c7 := hcc 7 _ (by omega) rfl
      have c8 := hcc 8 _ (by omega) rfl
      have c9 := hcc 9 _ (by omega) rfl
      have c10 := hcc 10 _ (by omega) rfl
      have c11 := hcc 11 _ (by omega) rfl
      have c12 := hcc 12 _ (by omega) rfl
      have c13 := hcc 13 _ (by omega) rfl
      clear hcc
      rw [Nat.add_zero] at c0
      dsimp only at c0 c1 c2 c3 c4 c5 c6 c7 c8 c9 c10 c11 c12 c13
      simp only [Li.cells] at HKL
      go_wp2_with fail
      refine HKL.out.mono ?_
      rintro e w4 ⟨rfl, hb4⟩
      have NB := Lib.hid (HB.out.trans (hb4.mono hsr))
      clear hb4 HB HKL c0 c1 c2 c3 c4 c5 c6 c7 c8 c9 c10 c11 c12 c13
      cases fx with
      | false =>
        have HN : Hid (optI (firstI (fun _ x => f x) (k + 1) (ls.drop (k + 1))) = v) := Lib.hid (by rw [HS.out]; simp)
        clear HS
        go_wp2
        go_roundg (n - (k + 1))
        case measure => have := HG.out; omega
        case rel => exact ⟨k + 1, by go_num, by omega, Lib.hid rfl, NB, HN⟩
      | true =>
        have hz : v = (k : Int) := by rw [HS.out, if_pos rfl]; rfl
        subst hz
        clear HS
        go_wp2
        go_ret
        exact ⟨by rfl, by rw [HRR.out]; exact NB.out⟩
    · obtain rfl : k = n := by omega
      have hz : v = -1 := by rw [← HV.out, firstI_end _ ls k k (by have := HL.out; omega)]; rfl
      subst hz
      go_wp2
      go_ret
      exact ⟨by rfl, by rw [HRR.out]; exact HB.out⟩

set_option maxRecDepth 20000 in
set_option maxHeartbeats 4000000 in
theorem indexB_any (q : Option Addr) (f : Li → Bool) (A : Option Addr) (n c : Nat) (ls : List Li) (w : World) (hr : Rd w w.heap.size 14 A n (lcells ls))
    (hc : ∀ x ∈ ls, ∀ W, Below w.heap.size w W → Calls Try.prog 64 #[.agg x.cells.toArray, .pointer q] W fun e w' => e = .returned (.bool (f x)) ∧ Below W.heap.size W w') :
    Calls Try.prog 61 #[.slice A n c, .func (.func 64) #[] #[.pointer q]] w fun e w' => e = .returned (.int .i64 (optI (firstI (fun _ x => f x) 0 ls))) ∧ Below w.heap.size w w' := by
  have hl : ls.length = n := by have := hr.1; rw [lcells_length] at this; omega
  have hnb := hr.2.1
  have HR := Lib.hid hr
  have HC := Lib.hid hc
  have HL := Lib.hid hl
  have HV : Hid (optI (firstI (fun _ x => f x) 0 (ls.drop 0)) = optI (firstI (fun _ x => f x) 0 ls)) := Lib.hid rfl
  clear hr hc hl
  generalize optI (firstI (fun _ x => f x) 0 ls) = v at *
  go_enter Try.func61, Try.ntmps61
  go_upto_region 2 with (fail)
  generalize hR : w.heap.size = R at *
  have HRR := Lib.hid hR
  clear hR
  go_loopg [8] n (fun gk u8 wr => ∃ k : Nat, u8 = .int .i64 k ∧ k ≤ n ∧ Hid (gk = n - k) ∧ Hid (Below R w wr) ∧ Hid (optI (firstI (fun _ x => f x) k (ls.drop k)) = v))
  case atStart => exact ⟨0, rfl, Nat.zero_le _, Lib.hid (by omega), Lib.hid (Below.refl _ _), HV⟩
  case round =>
    clear HV
    obtain ⟨k, rfl, hk, HG, HB, HV⟩ := hrel
    have hsr : R ≤ wr.heap.size := by have := HB.out.size; rw [HRR.out] at this; exact this
    by_cases hlt : k < n
    · obtain ⟨b, o, hk1, rfl, hB, hcc⟩ := (HR.out.below HB.out).at Li.cells 14 (fun _ => rfl) (by omega) k hlt
      have HS : Hid (v = optI (if f ls[k] = true then some k else firstI (fun _ x => f x) (k + 1) (ls.drop (k + 1)))) := Lib.hid (by rw [← HV.out, firstI_drop _ ls k hk1])
      have hka := HC.out ls[k] (List.getElem_mem hk1) wr HB.out
      clear HV
      generalize ls[k] = x at *
      generalize f x = fx at *
      have HKL := Lib.hid hka
      clear hka
      obtain ⟨xk, ⟨xp, xA, xn, xc, xo, xes⟩, xop, ⟨xlk, xli, xlt, xlo⟩, ⟨xrk, xri, xrt, xro⟩, xof⟩ := x
      have c0 := hcc 0 _ (by omega) rfl
      have c1 := hcc 1 _ (by omega) rfl
      have c2 := hcc 2 _ (by omega) rfl
      have c3 := hcc 3 _ (by omega) rfl
      have c4 := hcc 4 _ (by omega) rfl
      have c5 := hcc 5 _ (by omega) rfl
      have c6 := hcc 6 _ (by omega) rfl
      have c7 := hcc 7 _ (by omega) rfl
      have c8 := hcc 8 _ (by omega) rfl
      have c9 := hcc 9 _ (by omega) rfl
      have c10 := hcc 10 _ (by omega) rfl
      have c11 := hcc 11 _ (by omega) rfl
      have c12 := hcc 12 _ (by omega) rfl
      have c13 := hcc 13 _ (by omega) rfl
      clear hcc
      rw [Nat.add_zero] at c0
      dsimp only at c0 c1 c2 c3 c4 c5 c6 c7 c8 c9 c10 c11 c12 c13
      simp only [Li.cells] at HKL
      go_wp2_with fail
      refine HKL.out.mono ?_
      rintro e w4 ⟨rfl, hb4⟩
      have NB := Lib.hid (HB.out.trans (hb4.mono hsr))
      clear hb4 HB HKL c0 c1 c2 c3 c4 c5 c6 c7 c8 c9 c10 c11 c12 c13
      cases fx with
      | false =>
        have HN : Hid (optI (firstI (fun _ x => f x) (k + 1) (ls.drop (k + 1))) = v) := Lib.hid (by rw [HS.out]; simp)
        clear HS
        go_wp2
        go_roundg (n - (k + 1))
        case measure => have := HG.out; omega
        case rel => exact ⟨k + 1, by go_num, by omega, Lib.hid rfl, NB, HN⟩
      | true =>
        have hz : v = (k : Int) := by rw [HS.out, if_pos rfl]; rfl
        subst hz
        clear HS
        go_wp2
        go_ret
        exact ⟨by rfl, by rw [HRR.out]; exact NB.out⟩
    · obtain rfl : k = n := by omega
      have hz : v = -1 := by rw [← HV.out, firstI_end _ ls k k (by have := HL.out; omega)]; rfl
      subst hz
      go_wp2
      go_ret
      exact ⟨by rfl, by rw [HRR.out]; exact HB.out⟩

theorem optI_any {α : Type} (f : α → Bool) : ∀ (l : List α) (k : Nat), decide (0 ≤ optI (firstI (fun _ x => f x) k l)) = l.any f
  | [], _ => rfl
  | a :: l, k => by
    unfold firstI
    rw [List.any_cons]
    cases h : f a with
    | true => rw [if_pos rfl]; simp [optI]
    | false => rw [if_neg (by simp), optI_any f l (k + 1), Bool.false_or]

set_option maxRecDepth 20000 in
set_option maxHeartbeats 4000000 in
theorem contains_any (q : Option Addr) (f : Li → Bool) (A : Option Addr) (n c : Nat) (ls : List Li) (w : World) (hr : Rd w w.heap.size 14 A n (lcells ls))
    (hc : ∀ x ∈ ls, ∀ W, Below w.heap.size w W → Calls Try.prog 64 #[.agg x.cells.toArray, .pointer q] W fun e w' => e = .returned (.bool (f x)) ∧ Below W.heap.size W w') :
    Calls Try.prog 63 #[.slice A n c, .func (.func 64) #[] #[.pointer q]] w fun e w' => e = .returned (.bool (ls.any f)) ∧ Below w.heap.size w w' := by
  have ki := indexB_any q f A n c ls w hr hc
  have HV := Lib.hid (optI_any f ls 0)
  clear hr hc
  generalize optI (firstI (fun _ x => f x) 0 ls) = i at *
  generalize ls.any f = v at *
  go_enter Try.func63, Try.ntmps63
  go_wp2_with fail
  refine ki.mono ?_
  rintro e w1 ⟨rfl, hb1⟩
  have hz : v = decide (0 ≤ i) := HV.out.symm
  subst hz
  clear HV ki
  go_wp2
  go_ret
  exact ⟨by rfl, hb1⟩
end Go.Proofs.Ytjcgkplphiedjaa

namespace Go.Proofs.Ytjcgkplphiedjaa
open Go.RowKit Go.Sort

theorem clause_sides {x : Cl} (h : clauseE x = 0) : ∀ l ∈ x.ls, l.k = 3 → sideSame l.l l.r = sideEq l.l l.r := by
  intro l hl hk
  obtain ⟨_, _, h3⟩ := clauseE_parts h
  have he := litE_err (firstE_all h3 l hl)
  unfold Li.terms at he
  rw [if_pos hk] at he
  exact sides_same (he _ (by simp)) (he _ (by simp))

set_option maxRecDepth 20000 in
set_option maxHeartbeats 4000000 in
theorem inner_any (x y : Li) (P : Nat) (w : World) (hp : Blk w P 61 y.cells) (hx : Li.ok w x) (hy : Li.ok w y) :
    Calls Try.prog 64 #[.agg x.cells.toArray, .pointer (some ⟨P, 0, none⟩)] w fun e w' => e = .returned (.bool (meetsB x y)) ∧ Below w.heap.size w w' := by
  have HE := Lib.hid (fun W h1 h2 => eqterms_any x.a.A x.a.n x.a.c y.a.A y.a.n y.a.c x.a.es y.a.es W h1 h2)
  have HX := Lib.hid hx.1
  have HY := Lib.hid hy.1
  have HV : Hid (meetsB x y = ((x.k == 1) && ((x.a.p.toList == y.a.p.toList) && eqTs x.a.es y.a.es))) := Lib.hid rfl
  clear hx hy
  obtain ⟨mk, ⟨mp, mA, mn, mc, mo, mes⟩, mop, ⟨mlk, mli, mlt, mlo⟩, ⟨mrk, mri, mrt, mro⟩, mof⟩ := x
  obtain ⟨k, ⟨p, A, n, c, o, es⟩, op, ⟨lk, li, lt, lo⟩, ⟨rk, ri, rt, ro⟩, of⟩ := y
  dsimp only [Li.cells] at hp HE HX HY HV
  generalize meetsB _ _ = v at *
  generalize eqTs _ _ = q at *
  show Calls Try.prog 64 #[.agg #[.int .i64 mk, .string mp, .slice mA mn mc, .int .i64 mo, .int .i64 mop, .int .i64 mlk, .int .i64 mli, .string mlt, .int .i64 mlo, .int .i64 mrk, .int .i64 mri, .string mrt, .int .i64 mro, .int .i64 mof], .pointer (some ⟨P, 0, none⟩)] w _
  have hPl := hp.lt
  have HP := Lib.hid hp
  clear hp
  go_enter Try.func64, Try.ntmps64
  go_upto_region 1 with (fail)
  have hb1 := (Below.refl w.heap.size w).alloc (Nat.le_refl _) (.cells #[.int .i64 mk, .string mp, .slice mA mn mc, .int .i64 mo, .int .i64 mop, .int .i64 mlk, .int .i64 mli, .string mlt, .int .i64 mlo, .int .i64 mrk, .int .i64 mri, .string mrt, .int .i64 mro, .int .i64 mof] 61)
  have H1 := Lib.hid (Blk.new w 61 [.int .i64 mk, .string mp, .slice mA mn mc, .int .i64 mo, .int .i64 mop, .int .i64 mlk, .int .i64 mli, .string mlt, .int .i64 mlo, .int .i64 mrk, .int .i64 mri, .string mrt, .int .i64 mro, .int .i64 mof])
  have HP1 := Lib.hid (HP.out.below hb1 hPl)
  have HX1 := Lib.hid (HX.out.up hb1 hb1.size)
  have HY1 := Lib.hid (HY.out.up hb1 hb1.size)
  generalize World.alloc _ _ = w1 at *
  generalize hR : w.heap.size = R at *
  have HRR := Lib.hid hR
  clear hR
  have HB1 := Lib.hid hb1
  clear hb1
  have f0 := (H1.out.cell 0).trans rfl
  have f1 := (H1.out.cell 1).trans rfl
  have f2 := (H1.out.cell 2).trans rfl
  have g1 := (HP1.out.cell 1).trans rfl
  have g2 := (HP1.out.cell 2).trans rfl
  have hs1 : R < w1.heap.size := H1.out.lt
  by_cases hk : mk = 1
  rotate_left
  · have hv : v = false := by rw [HV.out]; simp [hk]
    have t1 : (mk == 1) = false := by simpa using hk
    subst hv
    clear HV hk
    go_wp2
    go_ret
    exact ⟨by rfl, by rw [HRR.out]; exact HB1.out⟩
  subst hk
  cases hq : (mp.toList == p.toList) with
  | false =>
    have hv : v = false := by rw [HV.out, hq]; simp
    subst hv
    clear HV
    go_wp2
    go_ret
    exact ⟨by rfl, by rw [HRR.out]; exact HB1.out⟩
  | true =>
    have hv : v = q := by rw [HV.out, hq]; simp
    subst hv
    clear HV
    go_wp2_with fail
    refine (HE.out _ HX1.out HY1.out).mono ?_
    rintro e w2 ⟨rfl, hb2⟩
    have HB2 := Lib.hid (HB1.out.trans (hb2.mono (Nat.le_of_lt hs1)))
    clear hb2 f0 f1 f2 g1 g2
    go_wp2
    go_ret
    exact ⟨by rfl, by rw [HRR.out]; exact HB2.out⟩

set_option maxRecDepth 20000 in
set_option maxHeartbeats 4000000 in
theorem closure_any (y : Li) (x : Cl) (Q : Nat) (w : World) (hq : Blk w Q 45 x.cells) (hx : Cl.ok w x) (hy : Li.ok w y) (hf : y.fine) (hw : y.k = 3 → sideSame y.l y.r = sideEq y.l y.r) :
    Calls Try.prog 62 #[.agg y.cells.toArray, .pointer (some ⟨Q, 0, none⟩)] w fun e w' => e = .returned (.bool (faultB x.ls y)) ∧ Below w.heap.size w w' := by
  have HC := Lib.hid (fun W => compared_any y W hf hw)
  have HI := Lib.hid (fun (z : Li) (P : Nat) (W : World) h1 h2 h3 => inner_any z y P W h1 h2 h3)
  have HV : Hid (faultB x.ls y = (voidB y || ((y.k == 2) && x.ls.any fun m => meetsB m y))) := Lib.hid rfl
  have HY := Lib.hid hy
  have HOL := Lib.hid hx.2.2.2
  have HRL := Lib.hid hx.2.1
  clear hf hw hx hy
  obtain ⟨⟨hp, hA, hn, hc, ho, hes⟩, B, m, d, ls⟩ := x
  generalize hgg : (fun m => meetsB m y) = gg at *
  have HGG := Lib.hid hgg
  clear hgg
  generalize voidB y = vo at *
  generalize idleB y = vi at *
  have HYC : Hid (y.cells = y.cells) := Lib.hid rfl
  obtain ⟨k, ⟨p, A, n, c, o, es⟩, op, ⟨lk, li, lt, lo⟩, ⟨rk, ri, rt, ro⟩, of⟩ := y
  dsimp only [Cl.cells] at hq HV HOL HRL
  dsimp only [Li.cells] at HC HI
  generalize faultB _ _ = v at *
  show Calls Try.prog 62 #[.agg #[.int .i64 k, .string p, .slice A n c, .int .i64 o, .int .i64 op, .int .i64 lk, .int .i64 li, .string lt, .int .i64 lo, .int .i64 rk, .int .i64 ri, .string rt, .int .i64 ro, .int .i64 of], .pointer (some ⟨Q, 0, none⟩)] w _
  have hQl := hq.lt
  have HQ := Lib.hid hq
  clear hq HYC
  go_enter Try.func62, Try.ntmps62
  go_upto_region 1 with (fail)
  have hb1 := (Below.refl w.heap.size w).alloc (Nat.le_refl _) (.cells #[.int .i64 k, .string p, .slice A n c, .int .i64 o, .int .i64 op, .int .i64 lk, .int .i64 li, .string lt, .int .i64 lo, .int .i64 rk, .int .i64 ri, .string rt, .int .i64 ro, .int .i64 of] 61)
  have H1 := Lib.hid (Blk.new w 61 [.int .i64 k, .string p, .slice A n c, .int .i64 o, .int .i64 op, .int .i64 lk, .int .i64 li, .string lt, .int .i64 lo, .int .i64 rk, .int .i64 ri, .string rt, .int .i64 ro, .int .i64 of])
  have HQ1 := Lib.hid (HQ.out.below hb1 hQl)
  have HR1 := Lib.hid (HRL.out.up hb1 hb1.size)
  have HO1 := Lib.hid (fun z hz => At.ok.up (HOL.out z hz) hb1)
  have HY1 := Lib.hid (At.ok.up HY.out hb1)
  generalize World.alloc _ _ = w1 at *
  generalize hR : w.heap.size = R at *
  have HRR := Lib.hid hR
  clear hR
  have HB1 := Lib.hid hb1
  clear hb1 HQ HRL HOL HY
  have f0 := (H1.out.cell 0).trans rfl
  have f1 := (H1.out.cell 1).trans rfl
  have f2 := (H1.out.cell 2).trans rfl
  have f3 := (H1.out.cell 3).trans rfl
  have f4 := (H1.out.cell 4).trans rfl
  have f5 := (H1.out.cell 5).trans rfl
  have f6 := (H1.out.cell 6).trans rfl
  have f7 := (H1.out.cell 7).trans rfl
  have f8 := (H1.out.cell 8).trans rfl
  have f9 := (H1.out.cell 9).trans rfl
  have f10 := (H1.out.cell 10).trans rfl
  have f11 := (H1.out.cell 11).trans rfl
  have f12 := (H1.out.cell 12).trans rfl
  have f13 := (H1.out.cell 13).trans rfl
  have hs1 : R < w1.heap.size := H1.out.lt
  go_wp2_with fail
  refine (HC.out _).mono ?_
  rintro e w2 ⟨rfl, hb2⟩
  have HB2 := Lib.hid (HB1.out.trans (hb2.mono (Nat.le_of_lt hs1)))
  have H2 := Lib.hid (H1.out.below hb2 H1.out.lt)
  have HQ2 := Lib.hid (HQ1.out.below hb2 (by omega))
  have HR2 := Lib.hid (HR1.out.up hb2 hb2.size)
  have HO2 := Lib.hid (fun z hz => At.ok.up (HO1.out z hz) hb2)
  have HY2 := Lib.hid (At.ok.up HY1.out hb2)
  clear hb2 H1 HB1 HQ1 HR1 HO1 HY1 f0 f1 f2 f3 f4 f5 f6 f7 f8 f9 f10 f11 f12 f13
  have hs2 : R < w2.heap.size := H2.out.lt
  have f0 := (H2.out.cell 0).trans rfl
  have g3 := (HQ2.out.cell 3).trans rfl
  cases vo with
  | true =>
    have hv : v = true := by rw [HV.out]; simp
    subst hv
    clear HV
    go_wp2
    go_ret
    exact ⟨by rfl, by rw [HRR.out]; exact HB2.out⟩
  | false =>
    by_cases hk : k = 2
    rotate_left
    · have hv : v = false := by rw [HV.out]; simp [hk]
      have t1 : (k == 2) = false := by simpa using hk
      subst hv
      clear HV hk
      go_wp2
      go_ret
      exact ⟨by rfl, by rw [HRR.out]; exact HB2.out⟩
    subst hk
    have hv : v = ls.any gg := by rw [HV.out]; simp
    have kc := contains_any (some ⟨R, 0, none⟩) gg B m d ls w2 HR2.out (fun z hz W hb => by
      have := HI.out z R W (H2.out.below hb H2.out.lt) (At.ok.up (HO2.out z hz) hb) (At.ok.up HY2.out hb)
      rw [← HGG.out]
      exact this)
    rw [← hv] at kc
    clear HV hv
    go_wp2_with fail
    refine kc.mono ?_
    rintro e w3 ⟨rfl, hb3⟩
    have HB3 := Lib.hid (HB2.out.trans (hb3.mono (Nat.le_of_lt hs2)))
    clear hb3 kc f0 g3
    go_wp2
    go_ret
    exact ⟨by rfl, by rw [HRR.out]; exact HB3.out⟩

set_option maxRecDepth 20000 in
set_option maxHeartbeats 4000000 in
theorem fault_any (x : Cl) (w : World) (hx : Cl.ok w x) (hf : x.fines) (hw : ∀ l ∈ x.ls, l.k = 3 → sideSame l.l l.r = sideEq l.l l.r) :
    Calls Try.prog 41 #[.agg x.cells.toArray] w fun e w' => e = .returned (.int .i64 (optI (atO x))) ∧ Below w.heap.size w w' := by
  have HC := Lib.hid (fun (y : Li) (Q : Nat) (W : World) h1 h2 h3 h4 h5 => closure_any y x Q W h1 h2 h3 h4 h5)
  have HV : Hid (optI (atO x) = optI (firstI (fun _ l => faultB x.ls l) 0 x.ls)) := Lib.hid rfl
  have HX := Lib.hid hx
  have HF := Lib.hid hf.2
  have HW := Lib.hid hw
  generalize optI (atO x) = v at *
  generalize hgg : (fun l => faultB x.ls l) = gg at *
  have HGG := Lib.hid hgg
  clear hgg hx hf hw
  have HXC : Hid (Cl.ok = Cl.ok) := Lib.hid rfl
  obtain ⟨⟨hp, hA, hn, hc, ho, hes⟩, B, m, d, ls⟩ := x
  clear HXC
  show Calls Try.prog 41 #[.agg #[.string hp, .slice hA hn hc, .int .i64 ho, .slice B m d]] w _
  go_enter Try.func41, Try.ntmps41
  go_upto_region 1 with (fail)
  have hb1 := (Below.refl w.heap.size w).alloc (Nat.le_refl _) (.cells #[.string hp, .slice hA hn hc, .int .i64 ho, .slice B m d] 45)
  have H1 := Lib.hid (Blk.new w 45 [.string hp, .slice hA hn hc, .int .i64 ho, .slice B m d])
  have HX1 := Lib.hid (HX.out.up hb1)
  generalize World.alloc _ _ = w1 at *
  generalize hR : w.heap.size = R at *
  have HRR := Lib.hid hR
  clear hR
  have HB1 := Lib.hid hb1
  clear hb1 HX
  have f3 := (H1.out.cell 3).trans rfl
  have hs1 : R < w1.heap.size := H1.out.lt
  have kc := indexA_any (some ⟨R, 0, none⟩) gg B m d ls w1 HX1.out.2.1 (fun z hz W hb => by
    have := HC.out z R W (H1.out.below hb H1.out.lt) (HX1.out.up hb) (At.ok.up (HX1.out.2.2.2 z hz) hb) (HF.out z hz) (HW.out z hz)
    rw [← HGG.out]
    exact this)
  have hv : v = optI (firstI (fun _ x => gg x) 0 ls) := by rw [HV.out, ← HGG.out]
  rw [← hv] at kc
  clear HV hv HC HF HW
  go_wp2_with fail
  refine kc.mono ?_
  rintro e w3 ⟨rfl, hb3⟩
  have HB3 := Lib.hid (HB1.out.trans (hb3.mono (Nat.le_of_lt hs1)))
  clear hb3 kc f3
  go_wp2
  go_ret
  exact ⟨by rfl, by rw [HRR.out]; exact HB3.out⟩
end Go.Proofs.Ytjcgkplphiedjaa
