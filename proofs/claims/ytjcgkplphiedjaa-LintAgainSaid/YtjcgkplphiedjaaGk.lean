/- Atoms' and literals' texts, the document's. | Literals' and clauses' texts, the document's: they are not empty where the clause is well formed. | Clauses' texts, the document's: not empty where the clause is well formed. | The rest of a row, as the program slices it. -/
import Derived.Test.YtjcgkplphiedjaaGi
import Derived.Test.YtjcgkplphiedjaaGj
import Derived.Test.YtjcgkplphiedjaaGd
namespace Go.Proofs.Ytjcgkplphiedjaa
open Go.RowKit Go.Sort

def At.ints (a : At) : Prop := ∀ e ∈ a.es, inI e.i
def Li.ints (x : Li) : Prop := x.a.ints ∧ inI x.l.i ∧ inI x.r.i
def Cl.ints (x : Cl) : Prop := x.h.ints ∧ ∀ y ∈ x.ls, y.ints

def atomS (p : ByteArray) (es : List T) : ByteArray := if atomE p es = 0 then appS p (es.map termS) else ⟨#[]⟩
theorem atomE_parts {p : ByteArray} {es : List T} (h : atomE p es = 0) : p.size ≤ 64 ∧ es.length ≤ 8 := by
  unfold atomE at h
  split at h
  · cases h
  · rename_i hn
    split at h
    · cases h
    · refine ⟨?_, by omega⟩
      have hn : isNameS p = true := by simpa using hn
      unfold isNameS at hn
      simp only [Bool.and_eq_true, decide_eq_true_eq] at hn
      exact hn.1.1.1.2
theorem terms_size (es : List T) (hi : ∀ e ∈ es, inI e.i) : ∀ x ∈ es.map termS, x.size ≤ 1022 := by
  intro x hx
  obtain ⟨e, he, rfl⟩ := List.mem_map.1 hx
  exact termS_size e (hi e he)
theorem atomS_size (p : ByteArray) (es : List T) (hi : ∀ e ∈ es, inI e.i) : (atomS p es).size ≤ 10000 := by
  unfold atomS
  split
  · rename_i h
    obtain ⟨h1, h2⟩ := atomE_parts h
    have := appS_size 1022 p _ (terms_size es hi)
    rw [List.length_map] at this
    omega
  · show (0 : Nat) ≤ 10000; omega

theorem scells_append (a b : List ByteArray) : scells (a ++ b) = scells a ++ scells b := by simp [scells]

set_option maxRecDepth 20000 in
set_option maxHeartbeats 4000000 in
theorem atom_text (p : ByteArray) (A : Option Addr) (n c : Nat) (o : Int) (es : List T) (w : World) (hr : Rd w w.heap.size 4 A n (tcells es)) (hp : p.size ≤ 9223372036854775807) (hf : ∀ e ∈ es, e.fine) (hi : ∀ e ∈ es, inI e.i) :
    Calls Try.prog 78 #[.agg #[.string p, .slice A n c, .int .i64 o]] w fun e w' => e = .returned (.string (atomS p es)) ∧ Below w.heap.size w w' := by
  obtain ⟨i0, hi0, hz0, hz1, hz2⟩ := info_parts Try.info9
  have hl : es.length = n := by have := hr.1; rw [tcells_length] at this; omega
  have hnb := hr.2.1
  have HV : Hid (atomS p es = if atomE p es = 0 then appS p (es.map termS) else ⟨#[]⟩) := Lib.hid rfl
  have HPA : Hid (atomE p es = 0 → p.size ≤ 64 ∧ n ≤ 8) := Lib.hid (fun h => by have := atomE_parts h; rw [hl] at this; exact this)
  have HKA : Hid (∀ W, Below w.heap.size w W → Calls Try.prog 95 #[.agg #[.string p, .slice A n c, .int .i64 o]] W fun e w' => e = .returned (.int .i64 (atomE p es)) ∧ Below W.heap.size W w') :=
    Lib.hid (fun W hb => atomE_ref p A n c o es W (hr.up hb hb.size) hp hf)
  have HTS := Lib.hid (terms_size es hi)
  have HR := Lib.hid hr
  have HL := Lib.hid hl
  have HF := Lib.hid hf
  have HI := Lib.hid hi
  clear hr hl hf hi
  generalize atomS p es = v at *
  generalize atomE p es = q at *
  go_enter Try.func78, Try.ntmps78
  go_upto_region 1 with (fail)
  have hb1 := (Below.refl w.heap.size w).alloc (Nat.le_refl _) (.cells #[.string p, .slice A n c, .int .i64 o] 27)
  have h1 := Blk.new w 27 [.string p, .slice A n c, .int .i64 o]
  generalize World.alloc _ _ = w1 at *
  generalize hR : w.heap.size = R at *
  have HRR := Lib.hid hR
  clear hR
  have HB1 := Lib.hid hb1
  have H1 := Lib.hid h1
  have f0 := h1.cell 0
  have f1 := h1.cell 1
  have f2 := h1.cell 2
  simp only [List.getElem?_cons_zero, List.getElem?_cons_succ] at f0 f1 f2
  have hs1 : R ≤ w1.heap.size := by have := h1.lt; omega
  clear h1 hb1
  have ka := HKA.out w1 HB1.out
  go_wp2_with fail
  refine ka.mono ?_
  rintro e w2 ⟨rfl, hb2⟩
  have HB2 := Lib.hid (HB1.out.trans (hb2.mono hs1))
  have H2 := Lib.hid (H1.out.below hb2 H1.out.lt)
  clear ka hb2 HB1 H1 f0 f1 f2 HKA
  by_cases hq : q = 0
  · obtain ⟨hp64, hn8⟩ := HPA.out hq
    have hz : v = appS p (es.map termS) := by rw [HV.out, if_pos hq]
    subst hq
    clear HV HPA
    go_upto_region 6 with (fail)
    go_loopg [4, 5] n (fun gk u4 u5 wr => ∃ k : Nat, u5 = .int .i64 k ∧ k ≤ n ∧ Hid (gk = n - k) ∧ Hid (Below R w wr) ∧ Hid (Blk wr R 27 [.string p, .slice A n c, .int .i64 o]) ∧ Hid (wr.ownsRow R 9 1 u4 k (scells ((es.take k).map termS))))
    case atStart => exact ⟨0, rfl, Nat.zero_le _, Lib.hid (by omega), HB2, H2, Lib.hid (World.ownsRow_nil _ _ _ _)⟩
    case round =>
      clear HB2 H2
      obtain ⟨k, rfl, hk, HG, HB, H2, HO⟩ := hrel
      have g1 := H2.out.cell 1
      simp only [List.getElem?_cons_zero, List.getElem?_cons_succ] at g1
      have hsr : R ≤ wr.heap.size := by have := H2.out.lt; omega
      by_cases hlt : k < n
      · obtain ⟨b, off, hk1, rfl, hB, c0, c1, c2, c3⟩ := (HR.out.below HB.out).term k hlt
        have kt := term_text es[k] (HI.out _ (List.getElem_mem hk1)) (HF.out _ (List.getElem_mem hk1)) wr
        have HT : Hid ((es.take (k + 1)).map termS = (es.take k).map termS ++ [termS es[k]]) := Lib.hid (by rw [take_snoc _ _ hk1, List.map_append]; rfl)
        generalize es[k] = x at *
        obtain ⟨xk, xi, xt, xo⟩ := x
        dsimp only at c0 c1 c2 c3
        simp only [T.cells] at kt
        generalize termS ⟨xk, xi, xt, xo⟩ = s at *
        go_wp2_with fail
        refine kt.mono ?_
        rintro e w3 ⟨rfl, hb3⟩
        have KB := Lib.hid (HB.out.trans (hb3.mono hsr))
        have K2 := Lib.hid (H2.out.below hb3 H2.out.lt)
        have KO := Lib.hid (own_below HO.out hb3)
        have hs3 : R ≤ w3.heap.size := by have := K2.out.lt; omega
        clear kt hb3 HB H2 HO c0 c1 c2 c3 g1
        have hownb := KO.out
        go_wp2_with (at_builtin; go_must (refine wpList_append_own _ rfl _ _ 23 rfl R 9 i0 _ 1 16 Try.underlying23 hi0 hz0 hz1 hz2 rfl (by decide) _ _ _ rfl (hownb.alloc _) ⟨w3.heap.size, 0, none⟩ 1 1 [.string s] rfl rfl (fun j u h => new_cells _ _ _ j u h) (str_one _) (by unfold maxLen; omega) (by omega) (by simp; omega) ?_))
        intro v7 w7 hown7 hg7 _
        have a2 := (K2.out.alloc (.cells #[.string s] 9)).grown hg7 (own_blk_ne hownb K2.out (by decide))
        have BL := (KB.out.alloc (by omega) (.cells #[.string s] 9)).grown hg7 (by simp; omega) (fun q hq => (hownb.lt q hq).1)
        have V7 : w7.ownsRow R 9 1 v7 (k + 1) (scells ((es.take (k + 1)).map termS)) := by
          rw [HT.out, scells_append]; simpa [scells] using hown7
        have HA2 := Lib.hid a2
        have HBL := Lib.hid BL
        have HV7 := Lib.hid V7
        clear a2 BL V7 hown7 hownb hg7 K2 KO KB HT
        go_wp2
        go_roundg (n - (k + 1))
        case measure => have := HG.out; omega
        case rel => exact ⟨k + 1, by go_num, by omega, Lib.hid rfl, HBL, HA2, HV7⟩
      · obtain rfl : k = n := by omega
        have hall : es.take k = es := List.take_of_length_le (by have := HL.out; omega)
        rw [hall] at HO
        obtain ⟨Ao, co, rfl, hmb⟩ := own_slice HO.out
        have g0 := H2.out.cell 0
        simp only [List.getElem?_cons_zero] at g0
        have kp := applied_ref p Ao k co 1022 (es.map termS) wr (by omega) (own_rd HO.out) (by omega) (by omega) HTS.out
        rw [← hz] at kp
        clear hz
        go_wp2_with fail
        refine kp.mono ?_
        rintro e w3 ⟨rfl, hb3⟩
        have KB := Lib.hid (HB.out.trans (hb3.mono hsr))
        go_wp2
        go_ret
        exact ⟨by rfl, by rw [HRR.out]; exact KB.out⟩
  · have hz : v = ⟨#[]⟩ := by rw [HV.out, if_neg hq]
    have t1 : (q != 0) = true := by simpa using hq
    have t2 : (q == 0) = false := by simpa using hq
    subst hz
    clear HV hq
    go_wp2
    go_ret
    exact ⟨by rfl, by rw [HRR.out]; exact HB2.out⟩
end Go.Proofs.Ytjcgkplphiedjaa

namespace Go.Proofs.Ytjcgkplphiedjaa
open Go.RowKit Go.Sort

def litS (x : Li) : ByteArray :=
  if litE x = 0 then (if x.k = 1 then atomS x.a.p x.a.es else if x.k = 2 then ⟨#[110, 111, 116, 32]⟩ ++ atomS x.a.p x.a.es else (((termS x.l ++ ⟨#[32]⟩) ++ signS x.op) ++ ⟨#[32]⟩) ++ termS x.r) else ⟨#[]⟩
theorem litS_size (x : Li) (hi : x.ints) : (litS x).size ≤ 10004 := by
  have h1 := atomS_size x.a.p x.a.es hi.1
  have h2 := termS_size x.l hi.2.1
  have h3 := termS_size x.r hi.2.2
  have h4 := signS_size x.op
  have e1 : (⟨#[110, 111, 116, 32]⟩ : ByteArray).size = 4 := rfl
  have e2 : (⟨#[32]⟩ : ByteArray).size = 1 := rfl
  unfold litS
  split
  · split
    · omega
    · split
      · rw [app_size, e1]; omega
      · rw [app_size, app_size, app_size, app_size, e2]; omega
  · show (0 : Nat) ≤ 10004; omega

set_option maxRecDepth 200000 in
set_option maxHeartbeats 8000000 in
theorem lit_text (x : Li) (w : World) (hok : Li.ok w x) (hf : x.fine) (hi : x.ints) :
    Calls Try.prog 99 #[.agg x.cells.toArray] w fun e w' => e = .returned (.string (litS x)) ∧ Below w.heap.size w w' := by
  have HV : Hid (litS x = if litE x = 0 then (if x.k = 1 then atomS x.a.p x.a.es else if x.k = 2 then ⟨#[110, 111, 116, 32]⟩ ++ atomS x.a.p x.a.es else (((termS x.l ++ ⟨#[32]⟩) ++ signS x.op) ++ ⟨#[32]⟩) ++ termS x.r) else ⟨#[]⟩) := Lib.hid rfl
  have HKL : Hid (∀ W, Below w.heap.size w W → Calls Try.prog 96 #[.agg x.cells.toArray] W fun e w' => e = .returned (.int .i64 (litE x)) ∧ Below W.heap.size W w') := Lib.hid (fun W hb => litE_ref x W (At.ok.up hok hb) hf)
  have HKA : Hid (∀ W, Below w.heap.size w W → Calls Try.prog 78 #[.agg #[.string x.a.p, .slice x.a.A x.a.n x.a.c, .int .i64 x.a.o]] W fun e w' => e = .returned (.string (atomS x.a.p x.a.es)) ∧ Below W.heap.size W w') :=
    Lib.hid (fun W hb => atom_text x.a.p x.a.A x.a.n x.a.c x.a.o x.a.es W (hok.1.up hb hb.size) hf.1.1 hf.1.2 hi.1)
  have HT1 := Lib.hid (fun W => term_text x.l hi.2.1 hf.2.1 W)
  have HT2 := Lib.hid (fun W => term_text x.r hi.2.2 hf.2.2 W)
  have HSG := Lib.hid (fun W => sign_ref x.op W)
  have hz1 := atomS_size x.a.p x.a.es hi.1
  have hz2 := termS_size x.l hi.2.1
  have hz3 := termS_size x.r hi.2.2
  have hz4 := signS_size x.op
  generalize litS x = v at *
  generalize litE x = q at *
  obtain ⟨k, ⟨p, A, n, c, o, es⟩, op, ⟨lk, li, lt, lo⟩, ⟨rk, ri, rt, ro⟩, of⟩ := x
  dsimp only at HV HKA HT1 HT2 HSG hz1 hz2 hz3 hz4
  simp only [Li.cells] at HKL
  simp only [T.cells] at HT1 HT2
  generalize atomS p es = aS at *
  generalize termS ⟨lk, li, lt, lo⟩ = s1 at *
  generalize termS ⟨rk, ri, rt, ro⟩ = s2 at *
  generalize signS op = sg at *
  clear hok hf hi
  show Calls Try.prog 99 #[.agg #[.int .i64 k, .string p, .slice A n c, .int .i64 o, .int .i64 op, .int .i64 lk, .int .i64 li, .string lt, .int .i64 lo, .int .i64 rk, .int .i64 ri, .string rt, .int .i64 ro, .int .i64 of]] w _
  go_enter Try.func99, Try.ntmps99
  go_upto_region 1 with (fail)
  have hb1 := (Below.refl w.heap.size w).alloc (Nat.le_refl _) (.cells #[.int .i64 k, .string p, .slice A n c, .int .i64 o, .int .i64 op, .int .i64 lk, .int .i64 li, .string lt, .int .i64 lo, .int .i64 rk, .int .i64 ri, .string rt, .int .i64 ro, .int .i64 of] 61)
  have h1 := Blk.new w 61 [.int .i64 k, .string p, .slice A n c, .int .i64 o, .int .i64 op, .int .i64 lk, .int .i64 li, .string lt, .int .i64 lo, .int .i64 rk, .int .i64 ri, .string rt, .int .i64 ro, .int .i64 of]
  generalize World.alloc _ _ = w1 at *
  generalize hR : w.heap.size = R at *
  have HRR := Lib.hid hR
  clear hR
  have HB1 := Lib.hid hb1
  have H1 := Lib.hid h1
  have f0 := h1.cell 0
  have f1 := h1.cell 1
  have f2 := h1.cell 2
  have f3 := h1.cell 3
  have f4 := h1.cell 4
  have f5 := h1.cell 5
  have f6 := h1.cell 6
  have f7 := h1.cell 7
  have f8 := h1.cell 8
  have f9 := h1.cell 9
  have f10 := h1.cell 10
  have f11 := h1.cell 11
  have f12 := h1.cell 12
  have f13 := h1.cell 13
  simp only [List.getElem?_cons_zero, List.getElem?_cons_succ] at f0 f1 f2 f3 f4 f5 f6 f7 f8 f9 f10 f11 f12 f13
  have hs1 : R ≤ w1.heap.size := by have := h1.lt; omega
  clear h1 hb1
  have ka := HKL.out w1 HB1.out
  go_wp2_with fail
  refine ka.mono ?_
  rintro e w2 ⟨rfl, hb2⟩
  have HB2 := Lib.hid (HB1.out.trans (hb2.mono hs1))
  have H2 := Lib.hid (H1.out.below hb2 H1.out.lt)
  have hs2 : R ≤ w2.heap.size := Nat.le_trans hs1 hb2.size
  clear ka hb2 HB1 H1 f0 f1 f2 f3 f4 f5 f6 f7 f8 f9 f10 f11 f12 f13 HKL
  by_cases hq : q = 0
  · have HV2 : Hid (v = (if k = 1 then aS else if k = 2 then ⟨#[110, 111, 116, 32]⟩ ++ aS else (((s1 ++ ⟨#[32]⟩) ++ sg) ++ ⟨#[32]⟩) ++ s2)) := Lib.hid (by rw [HV.out, if_pos hq])
    subst hq
    clear HV
    have g0 := H2.out.cell 0
    have g1 := H2.out.cell 1
    have g2 := H2.out.cell 2
    have g3 := H2.out.cell 3
    simp only [List.getElem?_cons_zero, List.getElem?_cons_succ] at g0 g1 g2 g3
    by_cases k1 : k = 1
    · subst k1
      have hz : v = aS := by rw [HV2.out, if_pos rfl]
      subst hz
      clear HV2
      have ka := HKA.out w2 HB2.out
      go_wp2_with fail
      refine ka.mono ?_
      rintro e w3 ⟨rfl, hb3⟩
      have KB := Lib.hid (HB2.out.trans (hb3.mono hs2))
      go_wp2
      go_ret
      exact ⟨by rfl, by rw [HRR.out]; exact KB.out⟩
    have t1 : (k == 1) = false := by simpa using k1
    by_cases k2 : k = 2
    · subst k2
      have hz : v = ⟨#[110, 111, 116, 32]⟩ ++ aS := by rw [HV2.out, if_neg k1, if_pos rfl]
      subst hz
      clear HV2 k1
      have ka := HKA.out w2 HB2.out
      have e1 : (⟨#[110, 111, 116, 32]⟩ : ByteArray).size = 4 := rfl
      go_wp2_with fail
      refine ka.mono ?_
      rintro e w3 ⟨rfl, hb3⟩
      have KB := Lib.hid (HB2.out.trans (hb3.mono hs2))
      go_wp2
      go_ret
      exact ⟨by rfl, by rw [HRR.out]; exact KB.out⟩
    · have hz : v = (((s1 ++ ⟨#[32]⟩) ++ sg) ++ ⟨#[32]⟩) ++ s2 := by rw [HV2.out, if_neg k1, if_neg k2]
      have t2 : (k == 2) = false := by simpa using k2
      subst hz
      clear HV2 k1 k2
      have e1 : (⟨#[32]⟩ : ByteArray).size = 1 := rfl
      have a1 := app_size s1 ⟨#[32]⟩
      have a2 := app_size (s1 ++ ⟨#[32]⟩) sg
      have a3 := app_size ((s1 ++ ⟨#[32]⟩) ++ sg) ⟨#[32]⟩
      have a4 := app_size (((s1 ++ ⟨#[32]⟩) ++ sg) ++ ⟨#[32]⟩) s2
      go_upto_region 9 with (fail)
      have g4 := cell_regrown ((H2.out.cell 4).trans rfl)
      have g5 := cell_regrown ((H2.out.cell 5).trans rfl)
      have g6 := cell_regrown ((H2.out.cell 6).trans rfl)
      have g7 := cell_regrown ((H2.out.cell 7).trans rfl)
      have g8 := cell_regrown ((H2.out.cell 8).trans rfl)
      have g9 := cell_regrown ((H2.out.cell 9).trans rfl)
      have g10 := cell_regrown ((H2.out.cell 10).trans rfl)
      have g11 := cell_regrown ((H2.out.cell 11).trans rfl)
      have g12 := cell_regrown ((H2.out.cell 12).trans rfl)
      have cA : ∀ d os, Calls Try.prog 97 #[.agg #[.int .i64 lk, .int .i64 li, .string lt, .int .i64 lo]] (grow (redrawn w2 d) os) fun e w'' => e = .returned (.string s1) ∧ ∃ p : Regrown, w'' = grow (redrawn w2 p.d) p.os := fun d os => Calls.regrown_of (HT1.out _)
      have cB : ∀ d os, Calls Try.prog 97 #[.agg #[.int .i64 rk, .int .i64 ri, .string rt, .int .i64 ro]] (grow (redrawn w2 d) os) fun e w'' => e = .returned (.string s2) ∧ ∃ p : Regrown, w'' = grow (redrawn w2 p.d) p.os := fun d os => Calls.regrown_of (HT2.out _)
      have cC : ∀ d os, Calls Try.prog 113 #[.int .i64 op] (grow (redrawn w2 d) os) fun e w'' => e = .returned (.string sg) ∧ ∃ p : Regrown, w'' = grow (redrawn w2 p.d) p.os := fun d os => Calls.regrown_of (HSG.out _)
      refine wp_region_quiet_below (by kernel_rfl) (by kernel_rfl) ?_
      repeat (go_big_quiet_step (first | with_reducible exact cA _ _ | with_reducible exact cB _ _ | with_reducible exact cC _ _))
      refine wpQuiet_nil ?_
      intro w6 hw6
      obtain ⟨⟨dq, osq⟩, rfl⟩ := hw6
      have HB6 := Lib.hid (HB2.out.trans ((below_regrown w2 dq osq).mono hs2))
      clear g4 g5 g6 g7 g8 g9 g10 g11 g12 cA cB cC
      go_wp2
      go_ret
      exact ⟨by rfl, by rw [HRR.out]; exact HB6.out⟩
  · have hz : v = ⟨#[]⟩ := by rw [HV.out, if_neg hq]
    have t1 : (q != 0) = true := by simpa using hq
    have t2 : (q == 0) = false := by simpa using hq
    subst hz
    clear HV hq
    go_wp2
    go_ret
    exact ⟨by rfl, by rw [HRR.out]; exact HB2.out⟩
end Go.Proofs.Ytjcgkplphiedjaa

namespace Go.Proofs.Ytjcgkplphiedjaa
open Go.RowKit Go.Sort

set_option maxRecDepth 20000 in
set_option maxHeartbeats 4000000 in
theorem body_text (A : Option Addr) (n c : Nat) (ls : List Li) (w : World) (hr : Rd w w.heap.size 14 A n (lcells ls)) (hok : ∀ x ∈ ls, Li.ok w x) (hf : ∀ x ∈ ls, x.fine) (hi : ∀ x ∈ ls, x.ints) (hn : n ≤ 16) :
    Calls Try.prog 79 #[.slice A n c] w fun e w' => e = .returned (.string (listS (ls.map litS))) ∧ Below w.heap.size w w' := by
  obtain ⟨i0, hi0, hz0, hz1, hz2⟩ := info_parts Try.info9
  have hl : ls.length = n := by have := hr.1; rw [lcells_length] at this; omega
  have HR := Lib.hid hr
  have HL := Lib.hid hl
  have HF := Lib.hid hf
  have HI := Lib.hid hi
  have HK := Lib.hid hok
  have HSZ : Hid (∀ x ∈ ls.map litS, x.size ≤ 10004) := Lib.hid (by
    intro x hx
    obtain ⟨e, he, rfl⟩ := List.mem_map.1 hx
    exact litS_size e (hi e he))
  clear hr hl hf hi hok
  go_enter Try.func79, Try.ntmps79
  go_upto_region 3 with (fail)
  generalize hR : w.heap.size = R at *
  have HRR := Lib.hid hR
  clear hR
  go_loopg [3, 4] n (fun gk u3 u4 wr => ∃ k : Nat, u4 = .int .i64 k ∧ k ≤ n ∧ Hid (gk = n - k) ∧ Hid (Below R w wr) ∧ Hid (wr.ownsRow R 9 1 u3 k (scells ((ls.take k).map litS))))
  case atStart => exact ⟨0, rfl, Nat.zero_le _, Lib.hid (by omega), Lib.hid (Below.refl _ _), Lib.hid (World.ownsRow_nil _ _ _ _)⟩
  case round =>
    obtain ⟨k, rfl, hk, HG, HB, HO⟩ := hrel
    have hsr : R ≤ wr.heap.size := by have := HB.out.size; rw [HRR.out] at this; exact this
    by_cases hlt : k < n
    · obtain ⟨b, off, hk1, rfl, hB, hcc⟩ := (HR.out.below HB.out).at Li.cells 14 (fun _ => rfl) (by omega) k hlt
      have c0 := hcc 0 _ (by omega) rfl
      have c1 := hcc 1 _ (by omega) rfl
      have c2 := hcc 2 _ (by omega) rfl
      have c3 := hcc 3 _ (by omega) rfl
      have c4 := hcc 4 _ (by omega) rfl
      have c5 := hcc 5 _ (by omega) rfl
      have c6 := hcc 6 _ (by omega) rfl
      have c7 := hcc 7 _ (by omega) rfl
      have c8 := hcc 8 _ (by omega) rfl
      have c9 := hcc 9 _ (by omega) rfl
      have c10 := hcc 10 _ (by omega) rfl
      have c11 := hcc 11 _ (by omega) rfl
      have c12 := hcc 12 _ (by omega) rfl
      have c13 := hcc 13 _ (by omega) rfl
      rw [Nat.add_zero] at c0
      clear hcc
      have kt := lit_text ls[k] wr (At.ok.up (HK.out _ (List.getElem_mem hk1)) (HRR.out ▸ HB.out)) (HF.out _ (List.getElem_mem hk1)) (HI.out _ (List.getElem_mem hk1))
      have HT : Hid ((ls.take (k + 1)).map litS = (ls.take k).map litS ++ [litS ls[k]]) := Lib.hid (by rw [take_snoc _ _ hk1, List.map_append]; rfl)
      generalize ls[k] = x at *
      generalize litS x = s at *
      obtain ⟨zk, ⟨zp, zA, zn, zc, zo, zes⟩, zop, zl, zr, zof⟩ := x
      dsimp only at c0 c1 c2 c3 c4 c5 c6 c7 c8 c9 c10 c11 c12 c13
      simp only [Li.cells] at kt
      go_wp2_with fail
      refine kt.mono ?_
      rintro e w3 ⟨rfl, hb3⟩
      have KB := Lib.hid (HB.out.trans (hb3.mono hsr))
      have KO := Lib.hid (own_below HO.out hb3)
      have hs3 : R ≤ w3.heap.size := Nat.le_trans hsr hb3.size
      clear kt hb3 HB HO c0 c1 c2 c3 c4 c5 c6 c7 c8 c9 c10 c11 c12 c13
      have hownb := KO.out
      go_wp2_with (at_builtin; go_must (refine wpList_append_own _ rfl _ _ 23 rfl R 9 i0 _ 1 16 Try.underlying23 hi0 hz0 hz1 hz2 rfl (by decide) _ _ _ rfl (hownb.alloc _) ⟨w3.heap.size, 0, none⟩ 1 1 [.string s] rfl rfl (fun j u h => new_cells _ _ _ j u h) (str_one _) (by unfold maxLen; omega) (by omega) (by simp; omega) ?_))
      intro v7 w7 hown7 hg7 _
      have BL := (KB.out.alloc (by omega) (.cells #[.string s] 9)).grown hg7 (by simp; omega) (fun q hq => (hownb.lt q hq).1)
      have V7 : w7.ownsRow R 9 1 v7 (k + 1) (scells ((ls.take (k + 1)).map litS)) := by
        rw [HT.out, scells_append]; simpa [scells] using hown7
      have HBL := Lib.hid BL
      have HV7 := Lib.hid V7
      clear BL V7 hown7 hownb hg7 KO KB HT
      go_wp2
      go_roundg (n - (k + 1))
      case measure => have := HG.out; omega
      case rel => exact ⟨k + 1, by go_num, by omega, Lib.hid rfl, HBL, HV7⟩
    · obtain rfl : k = n := by omega
      have hall : ls.take k = ls := List.take_of_length_le (by have := HL.out; omega)
      rw [hall] at HO
      obtain ⟨Ao, co, rfl, hmb⟩ := own_slice HO.out
      have kp := listed_ref Ao k co 10004 (ls.map litS) wr (own_rd HO.out) (by omega) (by omega) HSZ.out
      go_wp2_with fail
      refine kp.mono ?_
      rintro e w3 ⟨rfl, hb3⟩
      have KB := Lib.hid (HB.out.trans (hb3.mono hsr))
      go_wp2
      go_ret
      exact ⟨by rfl, by rw [HRR.out]; exact KB.out⟩

def clauseS (x : Cl) : ByteArray :=
  if clauseE x = 0 then (if x.ls.length = 0 then atomS x.h.p x.h.es ++ ⟨#[46]⟩ else ((atomS x.h.p x.h.es ++ ⟨#[32, 58, 45, 32]⟩) ++ listS (x.ls.map litS)) ++ ⟨#[46]⟩) else ⟨#[]⟩
theorem dot_empty (l : List UInt8) : (l ++ [46]).isEmpty = false := by cases l <;> rfl
theorem clauseS_empty (x : Cl) : (clauseS x).toList.isEmpty = decide (clauseE x ≠ 0) := by
  have hd : (⟨#[46]⟩ : ByteArray).toList = [46] := list_mk [46]
  have he : (⟨#[]⟩ : ByteArray).toList = [] := list_mk []
  unfold clauseS
  by_cases h : clauseE x = 0
  · rw [if_pos h, decide_eq_false (by simp [h])]
    split
    · rw [toList_append, hd, dot_empty]
    · rw [toList_append, hd, dot_empty]
  · rw [if_neg h, decide_eq_true h, he]; rfl

theorem clauseE_parts {x : Cl} (h : clauseE x = 0) : atomE x.h.p x.h.es = 0 ∧ x.ls.length ≤ 16 ∧ firstE litE x.ls = 0 := by
  unfold clauseE at h
  split at h
  · rename_i ha
    split at h
    · cases h
    · exact ⟨ha, by omega, h⟩
  · rename_i ha; exact absurd h ha

set_option maxRecDepth 200000 in
set_option maxHeartbeats 8000000 in
theorem clause_text (x : Cl) (w : World) (hok : Cl.ok w x) (hf : x.fines) (hi : x.ints) :
    Calls Try.prog 48 #[.agg x.cells.toArray] w fun e w' => e = .returned (.string (clauseS x)) ∧ Below w.heap.size w w' := by
  have HV : Hid (clauseS x = if clauseE x = 0 then (if x.ls.length = 0 then atomS x.h.p x.h.es ++ ⟨#[46]⟩ else ((atomS x.h.p x.h.es ++ ⟨#[32, 58, 45, 32]⟩) ++ listS (x.ls.map litS)) ++ ⟨#[46]⟩) else ⟨#[]⟩) := Lib.hid rfl
  have hl : x.ls.length = x.n := by have := hok.2.1.1; rw [lcells_length] at this; omega
  rw [hl] at HV
  have HKC : Hid (∀ W, Below w.heap.size w W → Calls Try.prog 77 #[.agg x.cells.toArray] W fun e w' => e = .returned (.int .i64 (clauseE x)) ∧ Below W.heap.size W w') := Lib.hid (fun W hb => clauseE_ref x W (hok.up hb) hf)
  have HKA : Hid (∀ W, Below w.heap.size w W → Calls Try.prog 78 #[.agg #[.string x.h.p, .slice x.h.A x.h.n x.h.c, .int .i64 x.h.o]] W fun e w' => e = .returned (.string (atomS x.h.p x.h.es)) ∧ Below W.heap.size W w') :=
    Lib.hid (fun W hb => atom_text x.h.p x.h.A x.h.n x.h.c x.h.o x.h.es W (hok.1.1.up hb hb.size) hf.1.1 hf.1.2 hi.1)
  have HKB : Hid (clauseE x = 0 → ∀ W, Below w.heap.size w W → Calls Try.prog 79 #[.slice x.A x.n x.c] W fun e w' => e = .returned (.string (listS (x.ls.map litS))) ∧ Below W.heap.size W w') :=
    Lib.hid (fun h W hb => body_text x.A x.n x.c x.ls W (hok.2.1.up hb hb.size) (fun y hy => At.ok.up (hok.2.2.2 y hy) hb) hf.2 hi.2 (by have := (clauseE_parts h).2.1; omega))
  have HZ : Hid (clauseE x = 0 → (listS (x.ls.map litS)).size ≤ 170000) := Lib.hid (fun h => by
    have h1 := listS_size 10004 (x.ls.map litS) (by
      intro y hy
      obtain ⟨e, he, rfl⟩ := List.mem_map.1 hy
      exact litS_size e (hi.2 e he))
    rw [List.length_map] at h1
    have h2 := (clauseE_parts h).2.1
    have : x.ls.length * (10004 + 2) ≤ 16 * 10006 := Nat.mul_le_mul h2 (by omega)
    omega)
  have hza := atomS_size x.h.p x.h.es hi.1
  generalize clauseS x = v at *
  generalize clauseE x = q at *
  generalize atomS x.h.p x.h.es = aS at *
  generalize listS (x.ls.map litS) = bS at *
  obtain ⟨⟨p, A, n, c, o, es⟩, B, m, d, ls⟩ := x
  dsimp only at HV HKA HKB hl
  simp only [Cl.cells] at HKC
  clear hok hf hi hl
  show Calls Try.prog 48 #[.agg #[.string p, .slice A n c, .int .i64 o, .slice B m d]] w _
  go_enter Try.func48, Try.ntmps48
  go_upto_region 1 with (fail)
  have hb1 := (Below.refl w.heap.size w).alloc (Nat.le_refl _) (.cells #[.string p, .slice A n c, .int .i64 o, .slice B m d] 45)
  have h1 := Blk.new w 45 [.string p, .slice A n c, .int .i64 o, .slice B m d]
  generalize World.alloc _ _ = w1 at *
  generalize hR : w.heap.size = R at *
  have HRR := Lib.hid hR
  clear hR
  have HB1 := Lib.hid hb1
  have H1 := Lib.hid h1
  have f0 := h1.cell 0
  have f1 := h1.cell 1
  have f2 := h1.cell 2
  have f3 := h1.cell 3
  simp only [List.getElem?_cons_zero, List.getElem?_cons_succ] at f0 f1 f2 f3
  have hs1 : R ≤ w1.heap.size := by have := h1.lt; omega
  clear h1 hb1
  have ka := HKC.out w1 HB1.out
  go_wp2_with fail
  refine ka.mono ?_
  rintro e w2 ⟨rfl, hb2⟩
  have HB2 := Lib.hid (HB1.out.trans (hb2.mono hs1))
  have H2 := Lib.hid (H1.out.below hb2 H1.out.lt)
  have hs2 : R ≤ w2.heap.size := Nat.le_trans hs1 hb2.size
  clear ka hb2 HB1 H1 f0 f1 f2 f3 HKC
  by_cases hq : q = 0
  · have HV2 : Hid (v = (if m = 0 then aS ++ ⟨#[46]⟩ else ((aS ++ ⟨#[32, 58, 45, 32]⟩) ++ bS) ++ ⟨#[46]⟩)) := Lib.hid (by rw [HV.out, if_pos hq])
    have hzb := HZ.out hq
    have HKB2 := Lib.hid (HKB.out hq)
    subst hq
    clear HV HZ HKB
    have e1 : (⟨#[46]⟩ : ByteArray).size = 1 := rfl
    have e2 : (⟨#[32, 58, 45, 32]⟩ : ByteArray).size = 4 := rfl
    have g0 := H2.out.cell 0
    have g1 := H2.out.cell 1
    have g2 := H2.out.cell 2
    have g3 := H2.out.cell 3
    simp only [List.getElem?_cons_zero, List.getElem?_cons_succ] at g0 g1 g2 g3
    rcases Nat.eq_zero_or_pos m with m0 | m0
    · have hz : v = aS ++ ⟨#[46]⟩ := by rw [HV2.out, if_pos m0]
      subst m0
      subst hz
      clear HV2 HKB2
      have ka := HKA.out w2 HB2.out
      go_wp2_with fail
      refine ka.mono ?_
      rintro e w3 ⟨rfl, hb3⟩
      have KB := Lib.hid (HB2.out.trans (hb3.mono hs2))
      go_wp2
      go_ret
      exact ⟨by rfl, by rw [HRR.out]; exact KB.out⟩
    · have hz : v = ((aS ++ ⟨#[32, 58, 45, 32]⟩) ++ bS) ++ ⟨#[46]⟩ := by rw [HV2.out, if_neg (by omega)]
      have t1 : ((m : Int) == 0) = false := by simpa using (by omega : ¬ (m : Int) = 0)
      have a1 := app_size aS ⟨#[32, 58, 45, 32]⟩
      have a2 := app_size (aS ++ ⟨#[32, 58, 45, 32]⟩) bS
      have a3 := app_size ((aS ++ ⟨#[32, 58, 45, 32]⟩) ++ bS) ⟨#[46]⟩
      subst hz
      clear HV2
      go_upto_region 6 with (fail)
      clear g0 g1 g2 g3
      have g0 := cell_regrown ((H2.out.cell 0).trans rfl)
      have g1 := cell_regrown ((H2.out.cell 1).trans rfl)
      have g2 := cell_regrown ((H2.out.cell 2).trans rfl)
      have g3 := cell_regrown ((H2.out.cell 3).trans rfl)
      have cA : ∀ d os, Calls Try.prog 78 #[.agg #[.string p, .slice A n c, .int .i64 o]] (grow (redrawn w2 d) os) fun e w'' => e = .returned (.string aS) ∧ ∃ p : Regrown, w'' = grow (redrawn w2 p.d) p.os :=
        fun d os => Calls.regrown_of (HKA.out _ (HB2.out.trans ((below_regrown w2 d os).mono hs2)))
      have cB : ∀ d' os, Calls Try.prog 79 #[.slice B m d] (grow (redrawn w2 d') os) fun e w'' => e = .returned (.string bS) ∧ ∃ p : Regrown, w'' = grow (redrawn w2 p.d) p.os :=
        fun d' os => Calls.regrown_of (HKB2.out _ (HB2.out.trans ((below_regrown w2 d' os).mono hs2)))
      refine wp_region_quiet_below (by kernel_rfl) (by kernel_rfl) ?_
      repeat (go_big_quiet_step (first | with_reducible exact cA _ _ | with_reducible exact cB _ _))
      refine wpQuiet_nil ?_
      intro w6 hw6
      obtain ⟨⟨dq, osq⟩, rfl⟩ := hw6
      have HB6 := Lib.hid (HB2.out.trans ((below_regrown w2 dq osq).mono hs2))
      clear g0 g1 g2 g3 cA cB
      go_wp2
      go_ret
      exact ⟨by rfl, by rw [HRR.out]; exact HB6.out⟩
  · have hz : v = ⟨#[]⟩ := by rw [HV.out, if_neg hq]
    have t1 : (q != 0) = true := by simpa using hq
    have t2 : (q == 0) = false := by simpa using hq
    subst hz
    clear HV hq
    go_wp2
    go_ret
    exact ⟨by rfl, by rw [HRR.out]; exact HB2.out⟩
end Go.Proofs.Ytjcgkplphiedjaa

namespace Go.Proofs.Ytjcgkplphiedjaa
open Go.RowKit

theorem wpList_slice_by {P : Program} {w : World} {ops : Array Oper} {rest : List Oper} {o : Oper} {a : Act} {Q : Exit → Act → World → Prop} (hg : o.guard = none) (t : TypeId) (x lo : Operand) (hop : o.op = Op.slice t x (some lo) none none)
    (vx vl u : Value) (hx : a.eval x = vx) (hl : a.eval lo = vl) (hrun : (Instr.sliceAt t vx (some vl) none none).run P w = .ok u w) (hK : wpList P ops Q rest (a.put o.dst u) w) : wpList P ops Q (o :: rest) a w := by
  refine wpList_plain hg fun K' hK' => ?_
  unfold Oper.wp
  simp [execOp, hop, hx, hl, hrun, Result.andThen]
  exact hK' _ _ hK

theorem slice_parts (b o n c l : Nat) (hl : l ≤ n) : ∃ A, (∀ w, (Instr.sliceAt 82 (.slice (some ⟨b, o, none⟩) n c) (some (.int .i64 (l : Int))) none none).run Try.prog w = .ok (.slice A (n - l) (c - l)) w) ∧ (c ≠ l → A = some ⟨b, o + l * 4, none⟩) := by
  have hs : ∀ w, (sizeOf (Try.prog.elem 82)).run Try.prog w = .ok 4 w := fun w => by kernel_rfl
  have ht : Try.prog.underlying 82 = some (.slice (Try.prog.elem 82)) := by kernel_rfl
  have hr : ∀ w, (Instr.sliceAt 82 (.slice (some ⟨b, o, none⟩) n c) (some (.int .i64 (l : Int))) none none).run Try.prog w = .ok (sliced (some ⟨b, o, none⟩) l n c 4) w := fun w => by
    rw [run_sliceAt_slice w _ _ _ _ _ ht, run_slice_l w _ _ _ _ ht .i64 (l : Int) (by omega) (by omega), hs]
    rfl
  by_cases hc : c = l
  · refine ⟨some ⟨b, o, none⟩, fun w => ?_, fun h => absurd hc h⟩
    rw [hr w]
    unfold sliced
    rw [if_pos hc]
  · refine ⟨some ⟨b, o + l * 4, none⟩, fun w => ?_, fun _ => rfl⟩
    rw [hr w]
    unfold sliced
    rw [if_neg hc]
    have : (⟨b, o, none⟩ : Addr).add (l * 4) = ⟨b, o + l * 4, none⟩ := by unfold Addr.add; split <;> simp_all
    rw [Option.map_some, this]
end Go.Proofs.Ytjcgkplphiedjaa
