/- Lists of terms, atoms that are well formed. | Atoms that are well formed: the document's and the program's. | Literals that are well formed: the document's and the program's. | Literals that are well formed: the program's. -/
import Derived.Test.YtjcgkplphiedjaaGb
namespace Go.Proofs.Ytjcgkplphiedjaa
open Go.RowKit

/-- The first reason among those of a list's elements. -/
def firstE {α : Type} (f : α → Int) : List α → Int
  | [] => 0
  | a :: l => if f a = 0 then firstE f l else f a
theorem firstE_drop {α : Type} (f : α → Int) (l : List α) (k : Nat) (h : k < l.length) : firstE f (l.drop k) = if f l[k] = 0 then firstE f (l.drop (k + 1)) else f l[k] := by
  rw [List.drop_eq_getElem_cons h]; rfl
theorem firstE_end {α : Type} (f : α → Int) (l : List α) (k : Nat) (h : l.length ≤ k) : firstE f (l.drop k) = 0 := by
  rw [List.drop_eq_nil_of_le h]; rfl

def T.fine (e : T) : Prop := e.t.size ≤ 9223372036854775807
def T.err (e : T) : Int := termE e.k e.i e.t
def atomE (p : ByteArray) (es : List T) : Int := if isNameS p = false then 14 else if 8 < es.length then 22 else firstE T.err es

set_option maxRecDepth 20000 in
set_option maxHeartbeats 4000000 in
theorem firstTerm_any (A : Option Addr) (n c : Nat) (es : List T) (w : World) (hr : Rd w w.heap.size 4 A n (tcells es)) (hf : ∀ e ∈ es, e.fine) :
    Calls Try.prog 102 #[.slice A n c, .func (.func 103) #[] #[]] w fun e w' => e = .returned (.int .i64 (firstE T.err es)) ∧ Below w.heap.size w w' := by
  have hl : es.length = n := by have := hr.1; rw [tcells_length] at this; omega
  have hn := hr.2.1
  have HL := Lib.hid hl
  have HR := Lib.hid hr
  have HF := Lib.hid hf
  have HV : Hid (firstE T.err (es.drop 0) = firstE T.err es) := Lib.hid rfl
  clear hl hr hf
  generalize firstE T.err es = v at *
  go_enter Try.func102, Try.ntmps102
  go_upto_region 2 with (fail)
  generalize hR : w.heap.size = R at *
  have HRR := Lib.hid hR
  clear hR
  go_loopg [10] n (fun gk u10 wr => ∃ k : Nat, u10 = .int .i64 k ∧ k ≤ n ∧ Hid (gk = n - k) ∧ Hid (Below R w wr) ∧ Hid (firstE T.err (es.drop k) = v))
  case atStart => exact ⟨0, rfl, Nat.zero_le _, Lib.hid (by omega), Lib.hid (Below.refl _ _), HV⟩
  case round =>
    clear HV
    obtain ⟨k, rfl, hk, HG, HB, HV⟩ := hrel
    by_cases hlt : k < n
    · obtain ⟨b, o, hk1, rfl, hB, c0, c1, c2, c3⟩ := (HR.out.below HB.out).term k hlt
      have hx := HF.out es[k] (List.getElem_mem hk1)
      have HS := Lib.hid (firstE_drop T.err es k hk1)
      generalize hE : es[k] = x at *
      clear hE
      obtain ⟨xk, xi, xt, xo⟩ := x
      have HS2 : Hid (v = if termE xk xi xt = 0 then firstE T.err (es.drop (k + 1)) else termE xk xi xt) := Lib.hid (by rw [← HV.out, HS.out]; rfl)
      clear HS HV
      dsimp only at c0 c1 c2 c3
      go_upto_region 4 with (fail)
      have hb1 := HB.out.alloc (HRR.out ▸ HB.out.size) (.cells #[.int .i64 xk, .int .i64 xi, .string xt, .int .i64 xo] 33)
      have h1 := Blk.new wr 33 [.int .i64 xk, .int .i64 xi, .string xt, .int .i64 xo]
      clear c0 c1 c2 c3
      generalize World.alloc _ _ = w1 at *
      have f0 := h1.cell 0
      have f1 := h1.cell 1
      have f2 := h1.cell 2
      have f3 := h1.cell 3
      simp only [List.getElem?_cons_zero, List.getElem?_cons_succ] at f0 f1 f2 f3
      have kt := wellTerm_any xk xi xo xt hx w1
      have HB1 := Lib.hid hb1
      clear h1 hb1 hx
      generalize termE xk xi xt = q at *
      go_wp2_with fail
      refine kt.mono ?_
      rintro e w2 ⟨rfl, hb2⟩
      have HB2 := Lib.hid (HB1.out.trans (hb2.mono (HRR.out ▸ HB1.out.size)))
      clear hb2 kt f0 f1 f2 f3
      by_cases hq : q = 0
      · have HN : Hid (firstE T.err (es.drop (k + 1)) = v) := Lib.hid (by rw [HS2.out, if_pos hq])
        subst hq
        clear HS2
        go_wp2
        go_roundg (n - (k + 1))
        case measure => have := HG.out; omega
        case rel => exact ⟨k + 1, by go_num, by omega, Lib.hid rfl, HB2, HN⟩
      · have hz : v = q := by rw [HS2.out, if_neg hq]
        have t1 : (q != 0) = true := by simpa using hq
        subst hz
        clear HS2 hq
        go_wp2
        go_ret
        exact ⟨by rfl, by rw [HRR.out]; exact HB2.out⟩
    · have hz : v = 0 := by rw [← HV.out]; exact firstE_end T.err es k (by have := HL.out; omega)
      subst hz
      go_wp2
      go_ret
      exact ⟨by rfl, by rw [HRR.out]; exact HB.out⟩
end Go.Proofs.Ytjcgkplphiedjaa

namespace Go.Proofs.Ytjcgkplphiedjaa
open Go.RowKit

set_option maxRecDepth 20000 in
set_option maxHeartbeats 4000000 in
theorem atomE_ref (p : ByteArray) (A : Option Addr) (n c : Nat) (o : Int) (es : List T) (w : World) (hr : Rd w w.heap.size 4 A n (tcells es)) (hp : p.size ≤ 9223372036854775807) (hf : ∀ e ∈ es, e.fine) :
    Calls Try.prog 95 #[.agg #[.string p, .slice A n c, .int .i64 o]] w fun e w' => e = .returned (.int .i64 (atomE p es)) ∧ Below w.heap.size w w' := by
  have hl : es.length = n := by have := hr.1; rw [tcells_length] at this; omega
  have hn := hr.2.1
  have HL := Lib.hid hl
  have HR := Lib.hid hr
  have HF := Lib.hid hf
  have kn := fun W => isName_ref p hp W
  have HV : Hid (atomE p es = if isNameS p = false then 14 else if 8 < n then 22 else firstE T.err es) := Lib.hid (by unfold atomE; rw [hl])
  clear hl hr hf
  generalize atomE p es = v at *
  generalize isNameS p = u at *
  go_enter Try.func95, Try.ntmps95
  go_upto_region 1 with (fail)
  have hb1 := (Below.refl w.heap.size w).alloc (Nat.le_refl _) (.cells #[.string p, .slice A n c, .int .i64 o] 27)
  have h1 := Blk.new w 27 [.string p, .slice A n c, .int .i64 o]
  generalize World.alloc _ _ = w1 at *
  generalize hR : w.heap.size = R at *
  have HRR := Lib.hid hR
  clear hR
  have HB1 := Lib.hid hb1
  have H1 := Lib.hid h1
  have f0 := h1.cell 0
  have f1 := h1.cell 1
  simp only [List.getElem?_cons_zero, List.getElem?_cons_succ] at f0 f1
  clear h1 hb1
  go_wp2_with fail
  refine (kn w1).mono ?_
  rintro e w2 ⟨rfl, rfl⟩
  cases u with
  | false =>
    have hz : v = 14 := by rw [HV.out]; simp
    subst hz
    clear HV kn
    go_wp2
    go_ret
    exact ⟨by rfl, by rw [HRR.out]; exact HB1.out⟩
  | true =>
  by_cases h8 : 8 < n
  · have hz : v = 22 := by rw [HV.out]; simp [h8]
    subst hz
    clear HV kn
    go_wp2
    go_ret
    exact ⟨by rfl, by rw [HRR.out]; exact HB1.out⟩
  have HV2 : Hid (firstE T.err (es.drop 0) = v) := Lib.hid (by rw [HV.out]; simp [h8])
  clear HV kn
  go_upto_region 6 with (fail)
  clear f0 f1
  go_loopg [3] n (fun gk u3 wr => ∃ k : Nat, u3 = .int .i64 k ∧ k ≤ n ∧ Hid (gk = n - k) ∧ Hid (Below R w wr) ∧ Hid (Blk wr R 27 [.string p, .slice A n c, .int .i64 o]) ∧ Hid (firstE T.err (es.drop k) = v))
  case atStart => exact ⟨0, rfl, Nat.zero_le _, Lib.hid (by omega), HB1, H1, HV2⟩
  case round =>
    clear HV2 HB1 H1
    obtain ⟨k, rfl, hk, HG, HB, H1, HV⟩ := hrel
    have f1 := H1.out.cell 1
    simp only [List.getElem?_cons_zero, List.getElem?_cons_succ] at f1
    by_cases hlt : k < n
    · obtain ⟨b, off, hk1, rfl, hB, c0, c1, c2, c3⟩ := (HR.out.below HB.out).term k hlt
      have hx := HF.out es[k] (List.getElem_mem hk1)
      have HS := Lib.hid (firstE_drop T.err es k hk1)
      generalize hE : es[k] = x at *
      clear hE
      obtain ⟨xk, xi, xt, xo⟩ := x
      have HS2 : Hid (v = if termE xk xi xt = 0 then firstE T.err (es.drop (k + 1)) else termE xk xi xt) := Lib.hid (by rw [← HV.out, HS.out]; rfl)
      clear HS HV
      dsimp only at c0 c1 c2 c3
      have kt := term_ref xk xi xo xt hx wr
      clear hx
      generalize termE xk xi xt = q at *
      go_wp2_with fail
      refine kt.mono ?_
      rintro e w2 ⟨rfl, hb2⟩
      have HB2 := Lib.hid (HB.out.trans (hb2.mono (HRR.out ▸ HB.out.size)))
      have H2 := Lib.hid (H1.out.below hb2 H1.out.lt)
      clear hb2 kt c0 c1 c2 c3 f1
      by_cases hq : q = 0
      · have HN : Hid (firstE T.err (es.drop (k + 1)) = v) := Lib.hid (by rw [HS2.out, if_pos hq])
        subst hq
        clear HS2
        go_wp2
        go_roundg (n - (k + 1))
        case measure => have := HG.out; omega
        case rel => exact ⟨k + 1, by go_num, by omega, Lib.hid rfl, HB2, H2, HN⟩
      · have hz : v = q := by rw [HS2.out, if_neg hq]
        have t1 : (q != 0) = true := by simpa using hq
        subst hz
        clear HS2 hq
        go_wp2
        go_ret
        exact ⟨by rfl, by rw [HRR.out]; exact HB2.out⟩
    · have hz : v = 0 := by rw [← HV.out]; exact firstE_end T.err es k (by have := HL.out; omega)
      subst hz
      go_wp2
      go_ret
      exact ⟨by rfl, by rw [HRR.out]; exact HB.out⟩

set_option maxRecDepth 20000 in
set_option maxHeartbeats 4000000 in
theorem wellAtom_any (p : ByteArray) (A : Option Addr) (n c : Nat) (o : Int) (es : List T) (w : World) (hr : Rd w w.heap.size 4 A n (tcells es)) (hp : p.size ≤ 9223372036854775807) (hf : ∀ e ∈ es, e.fine) :
    Calls Try.prog 85 #[.agg #[.string p, .slice A n c, .int .i64 o]] w fun e w' => e = .returned (.int .i64 (atomE p es)) ∧ Below w.heap.size w w' := by
  have hl : es.length = n := by have := hr.1; rw [tcells_length] at this; omega
  have hn := hr.2.1
  have HR := Lib.hid hr
  have HF := Lib.hid hf
  have kn := fun W => isName_sym p hp W
  have HV : Hid (atomE p es = if isNameS p = false then 14 else if 8 < n then 22 else firstE T.err es) := Lib.hid (by unfold atomE; rw [hl])
  clear hl hr hf
  generalize atomE p es = v at *
  generalize isNameS p = u at *
  go_enter Try.func85, Try.ntmps85
  go_upto_region 1 with (fail)
  have hb1 := (Below.refl w.heap.size w).alloc (Nat.le_refl _) (.cells #[.string p, .slice A n c, .int .i64 o] 27)
  have h1 := Blk.new w 27 [.string p, .slice A n c, .int .i64 o]
  generalize World.alloc _ _ = w1 at *
  generalize hR : w.heap.size = R at *
  have HRR := Lib.hid hR
  clear hR
  have HB1 := Lib.hid hb1
  have H1 := Lib.hid h1
  have f0 := h1.cell 0
  simp only [List.getElem?_cons_zero] at f0
  clear h1 hb1
  go_wp2_with fail
  refine (kn w1).mono ?_
  rintro e w2 ⟨rfl, hb2⟩
  have HB2 := Lib.hid (HB1.out.trans (hb2.mono (HRR.out ▸ HB1.out.size)))
  have h2 := H1.out.below hb2 H1.out.lt
  have f1 := h2.cell 1
  simp only [List.getElem?_cons_zero, List.getElem?_cons_succ] at f1
  clear hb2 h2 f0 H1 HB1 kn
  cases u with
  | false =>
    have hz : v = 14 := by rw [HV.out]; simp
    subst hz
    clear HV
    go_wp2
    go_ret
    exact ⟨by rfl, by rw [HRR.out]; exact HB2.out⟩
  | true =>
  by_cases h8 : 8 < n
  · have hz : v = 22 := by rw [HV.out]; simp [h8]
    subst hz
    clear HV
    go_wp2
    go_ret
    exact ⟨by rfl, by rw [HRR.out]; exact HB2.out⟩
  have HV2 : Hid (firstE T.err es = v) := Lib.hid (by rw [HV.out]; simp [h8])
  clear HV
  go_wp2_with fail
  refine (firstTerm_any A n c es w2 (HR.out.up HB2.out (HRR.out ▸ HB2.out.size)) HF.out).mono ?_
  rintro e w3 ⟨rfl, hb3⟩
  rw [HV2.out]
  have HB3 := Lib.hid (HB2.out.trans (hb3.mono (HRR.out ▸ HB2.out.size)))
  clear hb3
  go_wp2
  go_ret
  exact ⟨by rfl, by rw [HRR.out]; exact HB3.out⟩
end Go.Proofs.Ytjcgkplphiedjaa

namespace Go.Proofs.Ytjcgkplphiedjaa
open Go.RowKit

def At.fine (a : At) : Prop := a.p.size ≤ 9223372036854775807 ∧ ∀ e ∈ a.es, e.fine
def Li.fine (x : Li) : Prop := x.a.fine ∧ x.l.fine ∧ x.r.fine
def T.zero (e : T) : Bool := zeroT e.k e.i e.t
def litE (x : Li) : Int :=
  if x.k = 1 ∨ x.k = 2 then (if x.op ≠ 0 ∨ x.l.zero = false ∨ x.r.zero = false then 2 else atomE x.a.p x.a.es)
  else if x.k = 3 then (if ((x.op < 1 ∨ 6 < x.op) ∨ (x.a.p.toList == []) = false) ∨ 0 < x.a.es.length then 2 else firstE T.err [x.l, x.r])
  else 2

set_option maxRecDepth 20000 in
set_option maxHeartbeats 8000000 in
theorem litE_ref (x : Li) (w : World) (hok : Li.ok w x) (hf : x.fine) :
    Calls Try.prog 96 #[.agg x.cells.toArray] w fun e w' => e = .returned (.int .i64 (litE x)) ∧ Below w.heap.size w w' := by
  obtain ⟨k, ⟨p, A, n, c, o, es⟩, op, ⟨lk, li, lt, lo⟩, ⟨rk, ri, rt, ro⟩, of⟩ := x
  obtain ⟨ht, hA, hn40⟩ := hok
  obtain ⟨⟨hp, hes⟩, hlt, hrt⟩ := hf
  dsimp only at ht hA hn40 hp hes hlt hrt
  have hl : es.length = n := by have := ht.1; rw [tcells_length] at this; omega
  have hn := ht.2.1
  have HT := Lib.hid ht
  have HES := Lib.hid hes
  have HLT := Lib.hid hlt
  have HRT := Lib.hid hrt
  have HP := Lib.hid hp
  have HV : Hid (litE ⟨k, ⟨p, A, n, c, o, es⟩, op, ⟨lk, li, lt, lo⟩, ⟨rk, ri, rt, ro⟩, of⟩ = if k = 1 ∨ k = 2 then (if op ≠ 0 ∨ zeroT lk li lt = false ∨ zeroT rk ri rt = false then 2 else atomE p es)
    else if k = 3 then (if ((op < 1 ∨ 6 < op) ∨ (p.toList == []) = false) ∨ 0 < n then 2 else firstE T.err [⟨lk, li, lt, lo⟩, ⟨rk, ri, rt, ro⟩]) else 2) := Lib.hid (by rw [← hl]; rfl)
  clear ht hA hes hlt hrt hp hl hn40
  show Calls Try.prog 96 #[.agg #[.int .i64 k, .string p, .slice A n c, .int .i64 o, .int .i64 op, .int .i64 lk, .int .i64 li, .string lt, .int .i64 lo, .int .i64 rk, .int .i64 ri, .string rt, .int .i64 ro, .int .i64 of]] w _
  generalize litE _ = v at *
  go_enter Try.func96, Try.ntmps96
  go_upto_region 1 with (fail)
  have hb1 := (Below.refl w.heap.size w).alloc (Nat.le_refl _) (.cells #[.int .i64 k, .string p, .slice A n c, .int .i64 o, .int .i64 op, .int .i64 lk, .int .i64 li, .string lt, .int .i64 lo, .int .i64 rk, .int .i64 ri, .string rt, .int .i64 ro, .int .i64 of] 61)
  have h1 := Blk.new w 61 [.int .i64 k, .string p, .slice A n c, .int .i64 o, .int .i64 op, .int .i64 lk, .int .i64 li, .string lt, .int .i64 lo, .int .i64 rk, .int .i64 ri, .string rt, .int .i64 ro, .int .i64 of]
  generalize World.alloc _ _ = w1 at *
  generalize hR : w.heap.size = R at *
  have HRR := Lib.hid hR
  clear hR
  have hs1 : R ≤ w1.heap.size := by have := hb1.size; rw [HRR.out] at this; exact this
  have HB1 := Lib.hid hb1
  have H1 := Lib.hid h1
  have f0 := h1.cell 0
  have f1 := h1.cell 1
  have f2 := h1.cell 2
  have f3 := h1.cell 3
  have f4 := h1.cell 4
  have f5 := h1.cell 5
  have f6 := h1.cell 6
  have f7 := h1.cell 7
  have f8 := h1.cell 8
  have f9 := h1.cell 9
  have f10 := h1.cell 10
  have f11 := h1.cell 11
  have f12 := h1.cell 12
  simp only [List.getElem?_cons_zero, List.getElem?_cons_succ] at f0 f1 f2 f3 f4 f5 f6 f7 f8 f9 f10 f11 f12
  clear h1 hb1
  rcases (by omega : (k = 1 ∨ k = 2) ∨ k = 3 ∨ (k ≠ 1 ∧ k ≠ 2 ∧ k ≠ 3)) with hk | rfl | hk
  · have HZ := Lib.hid (HV.out.trans (if_pos hk))
    clear HV
    by_cases hop : op = 0
    · subst hop
      have kl := fun W => zero_ref lk li lo lt W
      have kr := fun W => zero_ref rk ri ro rt W
      generalize zeroT lk li lt = zl at *
      generalize zeroT rk ri rt = zr at *
      cases zl with
      | false =>
        have hz : v = 2 := by rw [HZ.out]; simp
        subst hz
        clear HZ kr
        rcases hk with rfl | rfl
        all_goals
          go_wp2_with fail
          refine (kl w1).mono ?_
          rintro e w2 ⟨rfl, hb2⟩
          go_wp2
          go_ret
          exact ⟨by rfl, by rw [HRR.out]; exact HB1.out.trans (hb2.mono hs1)⟩
      | true =>
        rcases hk with rfl | rfl
        all_goals
          go_wp2_with fail
          refine (kl w1).mono ?_
          rintro e w2 ⟨rfl, hb2⟩
          have HB2 := Lib.hid (HB1.out.trans (hb2.mono hs1))
          have h2 := H1.out.below hb2 H1.out.lt
          have hs2 : R ≤ w2.heap.size := by have := HB2.out.size; rw [HRR.out] at this; exact this
          have H2 := Lib.hid h2
          clear f0 f1 f2 f3 f4 f5 f6 f7 f8 f9 f10 f11 f12 hb2 H1 HB1 kl
          have f9 := h2.cell 9
          have f10 := h2.cell 10
          have f11 := h2.cell 11
          have f12 := h2.cell 12
          simp only [List.getElem?_cons_zero, List.getElem?_cons_succ] at f9 f10 f11 f12
          clear h2
          go_wp2_with fail
          refine (kr w2).mono ?_
          rintro e w3 ⟨rfl, hb3⟩
          have HB3 := Lib.hid (HB2.out.trans (hb3.mono hs2))
          have h3 := H2.out.below hb3 H2.out.lt
          have hs3 : R ≤ w3.heap.size := by have := HB3.out.size; rw [HRR.out] at this; exact this
          clear f9 f10 f11 f12 hb3 H2 HB2 kr
          have f1 := h3.cell 1
          have f2 := h3.cell 2
          have f3 := h3.cell 3
          simp only [List.getElem?_cons_zero, List.getElem?_cons_succ] at f1 f2 f3
          clear h3
          cases zr with
          | false =>
            have hz : v = 2 := by rw [HZ.out]; simp
            subst hz
            clear HZ
            go_wp2
            go_ret
            exact ⟨by rfl, by rw [HRR.out]; exact HB3.out⟩
          | true =>
            have hz : v = atomE p es := by rw [HZ.out]; simp
            have HZ2 := Lib.hid hz
            clear HZ hz
            go_wp2_with fail
            refine (atomE_ref p A n c o es w3 (HT.out.up HB3.out (HRR.out ▸ hs3)) HP.out HES.out).mono ?_
            rintro e w4 ⟨rfl, hb4⟩
            rw [← HZ2.out]
            go_wp2
            go_ret
            exact ⟨by rfl, by rw [HRR.out]; exact HB3.out.trans (hb4.mono hs3)⟩
    · have hz : v = 2 := by rw [HZ.out]; simp [hop]
      have t1 : (op != 0) = true := by simpa using hop
      subst hz
      clear HZ hop
      rcases hk with rfl | rfl
      all_goals
        go_wp2
        go_ret
        exact ⟨by rfl, by rw [HRR.out]; exact HB1.out⟩
  · have HZ : Hid (v = if ((op < 1 ∨ 6 < op) ∨ (p.toList == []) = false) ∨ 0 < n then 2 else firstE T.err [⟨lk, li, lt, lo⟩, ⟨rk, ri, rt, ro⟩]) := Lib.hid (by rw [HV.out]; simp)
    clear HV
    by_cases h1 : op < 1
    · have hz : v = 2 := by rw [HZ.out]; simp [h1]
      subst hz
      clear HZ
      go_wp2
      go_ret
      exact ⟨by rfl, by rw [HRR.out]; exact HB1.out⟩
    by_cases h6 : 6 < op
    · have hz : v = 2 := by rw [HZ.out]; simp [h6]
      subst hz
      clear HZ
      go_wp2
      go_ret
      exact ⟨by rfl, by rw [HRR.out]; exact HB1.out⟩
    cases hpe : (p.toList == []) with
    | false =>
      have hz : v = 2 := by rw [HZ.out, hpe]; simp
      have t1 : (p.toList != []) = true := by simp only [bne, hpe]; rfl
      have t2 : p.toList.isEmpty = false := by cases hq : p.toList with | nil => rw [hq] at hpe; cases hpe | cons a l => rfl
      subst hz
      clear HZ hpe
      go_wp2
      go_ret
      exact ⟨by rfl, by rw [HRR.out]; exact HB1.out⟩
    | true =>
    have t1 : (p.toList != []) = false := by simp only [bne, hpe]; rfl
    have t2 : p.toList.isEmpty = true := by cases hq : p.toList with | nil => rfl | cons a l => rw [hq] at hpe; cases hpe
    by_cases hn0 : 0 < n
    · have hz : v = 2 := by rw [HZ.out]; simp [hn0]
      subst hz
      clear HZ hpe
      go_wp2
      go_ret
      exact ⟨by rfl, by rw [HRR.out]; exact HB1.out⟩
    have HZ2 : Hid (v = firstE T.err [⟨lk, li, lt, lo⟩, ⟨rk, ri, rt, ro⟩]) := Lib.hid (by rw [HZ.out, hpe]; simp [h1, h6, hn0])
    clear HZ hpe
    have HZ3 : Hid (v = if termE lk li lt = 0 then termE rk ri rt else termE lk li lt) := Lib.hid (by
      rw [HZ2.out]
      show (if termE lk li lt = 0 then (if termE rk ri rt = 0 then 0 else termE rk ri rt) else termE lk li lt) = _
      by_cases h : termE rk ri rt = 0
      · rw [if_pos h, h]
      · rw [if_neg h])
    have kl := fun W => term_ref lk li lo lt HLT.out W
    have kr := fun W => term_ref rk ri ro rt HRT.out W
    clear HZ2
    generalize termE lk li lt = a at *
    generalize termE rk ri rt = b at *
    go_wp2_with fail
    refine (kl w1).mono ?_
    rintro e w2 ⟨rfl, hb2⟩
    have HB2 := Lib.hid (HB1.out.trans (hb2.mono hs1))
    have h2 := H1.out.below hb2 H1.out.lt
    have hs2 : R ≤ w2.heap.size := by have := HB2.out.size; rw [HRR.out] at this; exact this
    clear f0 f1 f2 f3 f4 f5 f6 f7 f8 f9 f10 f11 f12 hb2 H1 HB1 kl
    have f9 := h2.cell 9
    have f10 := h2.cell 10
    have f11 := h2.cell 11
    have f12 := h2.cell 12
    simp only [List.getElem?_cons_zero, List.getElem?_cons_succ] at f9 f10 f11 f12
    clear h2
    by_cases ha : a = 0
    · have hz : v = b := by rw [HZ3.out, if_pos ha]
      subst hz
      subst ha
      clear HZ3
      go_wp2_with fail
      refine (kr w2).mono ?_
      rintro e w3 ⟨rfl, hb3⟩
      go_wp2
      go_ret
      exact ⟨by rfl, by rw [HRR.out]; exact HB2.out.trans (hb3.mono hs2)⟩
    · have hz : v = a := by rw [HZ3.out, if_neg ha]
      have ta : (a != 0) = true := by simpa using ha
      subst hz
      clear HZ3 ha
      go_wp2
      go_ret
      exact ⟨by rfl, by rw [HRR.out]; exact HB2.out⟩
  · obtain ⟨k1, k2, k3⟩ := hk
    have hz : v = 2 := by rw [HV.out, if_neg (by omega), if_neg k3]
    have t1 : (k == 1) = false := by simpa using k1
    have t2 : (k == 2) = false := by simpa using k2
    have t3 : (k == 3) = false := by simpa using k3
    subst hz
    clear HV k1 k2 k3
    go_wp2
    go_ret
    exact ⟨by rfl, by rw [HRR.out]; exact HB1.out⟩

end Go.Proofs.Ytjcgkplphiedjaa

namespace Go.Proofs.Ytjcgkplphiedjaa
open Go.RowKit

set_option maxRecDepth 20000 in
set_option maxHeartbeats 8000000 in
theorem wellLiteral_any (x : Li) (w : World) (hok : Li.ok w x) (hf : x.fine) :
    Calls Try.prog 87 #[.agg x.cells.toArray] w fun e w' => e = .returned (.int .i64 (litE x)) ∧ Below w.heap.size w w' := by
  obtain ⟨k, ⟨p, A, n, c, o, es⟩, op, ⟨lk, li, lt, lo⟩, ⟨rk, ri, rt, ro⟩, of⟩ := x
  obtain ⟨ht, hA, hn40⟩ := hok
  obtain ⟨⟨hp, hes⟩, hlt, hrt⟩ := hf
  dsimp only at ht hA hn40 hp hes hlt hrt
  have hl : es.length = n := by have := ht.1; rw [tcells_length] at this; omega
  have hn := ht.2.1
  have HT := Lib.hid ht
  have HES := Lib.hid hes
  have HLT := Lib.hid hlt
  have HRT := Lib.hid hrt
  have HP := Lib.hid hp
  have HV : Hid (litE ⟨k, ⟨p, A, n, c, o, es⟩, op, ⟨lk, li, lt, lo⟩, ⟨rk, ri, rt, ro⟩, of⟩ = if k = 1 ∨ k = 2 then (if op ≠ 0 ∨ zeroT lk li lt = false ∨ zeroT rk ri rt = false then 2 else atomE p es)
    else if k = 3 then (if ((op < 1 ∨ 6 < op) ∨ (p.toList == []) = false) ∨ 0 < n then 2 else firstE T.err [⟨lk, li, lt, lo⟩, ⟨rk, ri, rt, ro⟩]) else 2) := Lib.hid (by rw [← hl]; rfl)
  clear ht hA hes hlt hrt hp hl hn40
  show Calls Try.prog 87 #[.agg #[.int .i64 k, .string p, .slice A n c, .int .i64 o, .int .i64 op, .int .i64 lk, .int .i64 li, .string lt, .int .i64 lo, .int .i64 rk, .int .i64 ri, .string rt, .int .i64 ro, .int .i64 of]] w _
  generalize litE _ = v at *
  go_enter Try.func87, Try.ntmps87
  go_upto_region 1 with (fail)
  have hb1 := (Below.refl w.heap.size w).alloc (Nat.le_refl _) (.cells #[.int .i64 k, .string p, .slice A n c, .int .i64 o, .int .i64 op, .int .i64 lk, .int .i64 li, .string lt, .int .i64 lo, .int .i64 rk, .int .i64 ri, .string rt, .int .i64 ro, .int .i64 of] 61)
  have h1 := Blk.new w 61 [.int .i64 k, .string p, .slice A n c, .int .i64 o, .int .i64 op, .int .i64 lk, .int .i64 li, .string lt, .int .i64 lo, .int .i64 rk, .int .i64 ri, .string rt, .int .i64 ro, .int .i64 of]
  generalize World.alloc _ _ = w1 at *
  generalize hR : w.heap.size = R at *
  have HRR := Lib.hid hR
  clear hR
  have hs1 : R ≤ w1.heap.size := by have := hb1.size; rw [HRR.out] at this; exact this
  have HB1 := Lib.hid hb1
  have H1 := Lib.hid h1
  have f0 := h1.cell 0
  have f1 := h1.cell 1
  have f2 := h1.cell 2
  have f3 := h1.cell 3
  have f4 := h1.cell 4
  have f5 := h1.cell 5
  have f6 := h1.cell 6
  have f7 := h1.cell 7
  have f8 := h1.cell 8
  have f9 := h1.cell 9
  have f10 := h1.cell 10
  have f11 := h1.cell 11
  have f12 := h1.cell 12
  simp only [List.getElem?_cons_zero, List.getElem?_cons_succ] at f0 f1 f2 f3 f4 f5 f6 f7 f8 f9 f10 f11 f12
  clear h1 hb1
  rcases (by omega : (k = 1 ∨ k = 2) ∨ k = 3 ∨ (k ≠ 1 ∧ k ≠ 2 ∧ k ≠ 3)) with hk | rfl | hk
  · have HZ := Lib.hid (HV.out.trans (if_pos hk))
    clear HV
    by_cases hop : op = 0
    · subst hop
      have kl := fun W => bareP_any lk li lo lt W
      have kr := fun W => bareP_any rk ri ro rt W
      generalize zeroT lk li lt = zl at *
      generalize zeroT rk ri rt = zr at *
      cases zl with
      | false =>
        have hz : v = 2 := by rw [HZ.out]; simp
        subst hz
        clear HZ kr
        rcases hk with rfl | rfl
        all_goals
          go_wp2_with fail
          refine (kl w1).mono ?_
          rintro e w2 ⟨rfl, hb2⟩
          go_wp2
          go_ret
          exact ⟨by rfl, by rw [HRR.out]; exact HB1.out.trans (hb2.mono hs1)⟩
      | true =>
        rcases hk with rfl | rfl
        all_goals
          go_wp2_with fail
          refine (kl w1).mono ?_
          rintro e w2 ⟨rfl, hb2⟩
          have HB2 := Lib.hid (HB1.out.trans (hb2.mono hs1))
          have h2 := H1.out.below hb2 H1.out.lt
          have hs2 : R ≤ w2.heap.size := by have := HB2.out.size; rw [HRR.out] at this; exact this
          have H2 := Lib.hid h2
          clear f0 f1 f2 f3 f4 f5 f6 f7 f8 f9 f10 f11 f12 hb2 H1 HB1 kl
          have f9 := h2.cell 9
          have f10 := h2.cell 10
          have f11 := h2.cell 11
          have f12 := h2.cell 12
          simp only [List.getElem?_cons_zero, List.getElem?_cons_succ] at f9 f10 f11 f12
          clear h2
          go_wp2_with fail
          refine (kr w2).mono ?_
          rintro e w3 ⟨rfl, hb3⟩
          have HB3 := Lib.hid (HB2.out.trans (hb3.mono hs2))
          have h3 := H2.out.below hb3 H2.out.lt
          have hs3 : R ≤ w3.heap.size := by have := HB3.out.size; rw [HRR.out] at this; exact this
          clear f9 f10 f11 f12 hb3 H2 HB2 kr
          have f1 := h3.cell 1
          have f2 := h3.cell 2
          have f3 := h3.cell 3
          simp only [List.getElem?_cons_zero, List.getElem?_cons_succ] at f1 f2 f3
          clear h3
          cases zr with
          | false =>
            have hz : v = 2 := by rw [HZ.out]; simp
            subst hz
            clear HZ
            go_wp2
            go_ret
            exact ⟨by rfl, by rw [HRR.out]; exact HB3.out⟩
          | true =>
            have hz : v = atomE p es := by rw [HZ.out]; simp
            have HZ2 := Lib.hid hz
            clear HZ hz
            go_wp2_with fail
            refine (wellAtom_any p A n c o es w3 (HT.out.up HB3.out (HRR.out ▸ hs3)) HP.out HES.out).mono ?_
            rintro e w4 ⟨rfl, hb4⟩
            rw [← HZ2.out]
            go_wp2
            go_ret
            exact ⟨by rfl, by rw [HRR.out]; exact HB3.out.trans (hb4.mono hs3)⟩
    · have hz : v = 2 := by rw [HZ.out]; simp [hop]
      have t1 : (op != 0) = true := by simpa using hop
      subst hz
      clear HZ hop
      rcases hk with rfl | rfl
      all_goals
        go_wp2
        go_ret
        exact ⟨by rfl, by rw [HRR.out]; exact HB1.out⟩
  · have HZ : Hid (v = if ((op < 1 ∨ 6 < op) ∨ (p.toList == []) = false) ∨ 0 < n then 2 else firstE T.err [⟨lk, li, lt, lo⟩, ⟨rk, ri, rt, ro⟩]) := Lib.hid (by rw [HV.out]; simp)
    clear HV
    by_cases h1 : op < 1
    · have hz : v = 2 := by rw [HZ.out]; simp [h1]
      subst hz
      clear HZ
      go_wp2
      go_ret
      exact ⟨by rfl, by rw [HRR.out]; exact HB1.out⟩
    by_cases h6 : 6 < op
    · have hz : v = 2 := by rw [HZ.out]; simp [h6]
      subst hz
      clear HZ
      go_wp2
      go_ret
      exact ⟨by rfl, by rw [HRR.out]; exact HB1.out⟩
    cases hpe : (p.toList == []) with
    | false =>
      have hz : v = 2 := by rw [HZ.out, hpe]; simp
      have t1 : (p.toList != []) = true := by simp only [bne, hpe]; rfl
      have t2 : p.toList.isEmpty = false := by cases hq : p.toList with | nil => rw [hq] at hpe; cases hpe | cons a l => rfl
      subst hz
      clear HZ hpe
      go_wp2
      go_ret
      exact ⟨by rfl, by rw [HRR.out]; exact HB1.out⟩
    | true =>
    have t1 : (p.toList != []) = false := by simp only [bne, hpe]; rfl
    have t2 : p.toList.isEmpty = true := by cases hq : p.toList with | nil => rfl | cons a l => rw [hq] at hpe; cases hpe
    by_cases hn0 : 0 < n
    · have hz : v = 2 := by rw [HZ.out]; simp [hn0]
      subst hz
      clear HZ hpe
      go_wp2
      go_ret
      exact ⟨by rfl, by rw [HRR.out]; exact HB1.out⟩
    have HZ2 : Hid (v = firstE T.err [⟨lk, li, lt, lo⟩, ⟨rk, ri, rt, ro⟩]) := Lib.hid (by rw [HZ.out, hpe]; simp [h1, h6, hn0])
    clear HZ hpe
    have hfine : ∀ e ∈ ([⟨lk, li, lt, lo⟩, ⟨rk, ri, rt, ro⟩] : List T), e.fine := fun e he => by
      simp only [List.mem_cons, List.not_mem_nil, or_false] at he
      rcases he with rfl | rfl
      · exact HLT.out
      · exact HRT.out
    have HFI := Lib.hid hfine
    have hrd := Rd_new w1 #[.int .i64 lk, .int .i64 li, .string lt, .int .i64 lo, .int .i64 rk, .int .i64 ri, .string rt, .int .i64 ro] 33 4 2 rfl (by decide)
    have HRD := Lib.hid hrd
    have hba := HB1.out.alloc hs1 (.cells #[.int .i64 lk, .int .i64 li, .string lt, .int .i64 lo, .int .i64 rk, .int .i64 ri, .string rt, .int .i64 ro] 33)
    have HBA := Lib.hid hba
    clear hfine hrd hba
    go_wp2_with fail
    refine (firstTerm_any _ 2 2 [⟨lk, li, lt, lo⟩, ⟨rk, ri, rt, ro⟩] _ HRD.out HFI.out).mono ?_
    rintro e w2 ⟨rfl, hb2⟩
    rw [← HZ2.out]
    have HB2 := Lib.hid (HBA.out.trans (hb2.mono (by have := HBA.out.size; rw [HRR.out] at this; exact this)))
    clear hb2 f0 f1 f2 f3 f4 f5 f6 f7 f8 f9 f10 f11 f12
    go_wp2
    go_ret
    exact ⟨by rfl, by rw [HRR.out]; exact HB2.out⟩
  · obtain ⟨k1, k2, k3⟩ := hk
    have hz : v = 2 := by rw [HV.out, if_neg (by omega), if_neg k3]
    have t1 : (k == 1) = false := by simpa using k1
    have t2 : (k == 2) = false := by simpa using k2
    have t3 : (k == 3) = false := by simpa using k3
    subst hz
    clear HV k1 k2 k3
    go_wp2
    go_ret
    exact ⟨by rfl, by rw [HRR.out]; exact HB1.out⟩

end Go.Proofs.Ytjcgkplphiedjaa
