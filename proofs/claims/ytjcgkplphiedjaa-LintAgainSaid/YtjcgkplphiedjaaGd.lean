/- Lists of literals, clauses that are well formed. | Clauses that are well formed: the document's and the program's. | Programs that are well formed: the document's and the program's. -/
import Derived.Test.YtjcgkplphiedjaaGc
namespace Go.Proofs.Ytjcgkplphiedjaa
open Go.RowKit

def Cl.fines (x : Cl) : Prop := x.h.fine ∧ ∀ y ∈ x.ls, y.fine
def clauseE (x : Cl) : Int := if atomE x.h.p x.h.es = 0 then (if 16 < x.ls.length then 23 else firstE litE x.ls) else atomE x.h.p x.h.es

set_option maxRecDepth 20000 in
set_option maxHeartbeats 8000000 in
theorem firstLit_any (A : Option Addr) (n c : Nat) (ls : List Li) (w : World) (hr : Rd w w.heap.size 14 A n (lcells ls)) (hok : ∀ x ∈ ls, Li.ok w x) (hf : ∀ x ∈ ls, x.fine) :
    Calls Try.prog 86 #[.slice A n c, .func (.func 87) #[] #[]] w fun e w' => e = .returned (.int .i64 (firstE litE ls)) ∧ Below w.heap.size w w' := by
  have hl : ls.length = n := by have := hr.1; rw [lcells_length] at this; omega
  have hn := hr.2.1
  have HL := Lib.hid hl
  have HR := Lib.hid hr
  have HF := Lib.hid hf
  have HK := Lib.hid hok
  have HV : Hid (firstE litE (ls.drop 0) = firstE litE ls) := Lib.hid rfl
  clear hl hr hf hok
  generalize firstE litE ls = v at *
  go_enter Try.func86, Try.ntmps86
  go_upto_region 2 with (fail)
  generalize hR : w.heap.size = R at *
  have HRR := Lib.hid hR
  clear hR
  go_loopg [10] n (fun gk u10 wr => ∃ k : Nat, u10 = .int .i64 k ∧ k ≤ n ∧ Hid (gk = n - k) ∧ Hid (Below R w wr) ∧ Hid (firstE litE (ls.drop k) = v))
  case atStart => exact ⟨0, rfl, Nat.zero_le _, Lib.hid (by omega), Lib.hid (Below.refl _ _), HV⟩
  case round =>
    clear HV
    obtain ⟨k, rfl, hk, HG, HB, HV⟩ := hrel
    by_cases hlt : k < n
    · obtain ⟨b, o, hk1, rfl, hB, hc⟩ := (HR.out.below HB.out).at Li.cells 14 (fun _ => rfl) (by omega) k hlt
      have c0 := hc 0 _ (by omega) rfl
      have c1 := hc 1 _ (by omega) rfl
      have c2 := hc 2 _ (by omega) rfl
      have c3 := hc 3 _ (by omega) rfl
      have c4 := hc 4 _ (by omega) rfl
      have c5 := hc 5 _ (by omega) rfl
      have c6 := hc 6 _ (by omega) rfl
      have c7 := hc 7 _ (by omega) rfl
      have c8 := hc 8 _ (by omega) rfl
      have c9 := hc 9 _ (by omega) rfl
      have c10 := hc 10 _ (by omega) rfl
      have c11 := hc 11 _ (by omega) rfl
      have c12 := hc 12 _ (by omega) rfl
      have c13 := hc 13 _ (by omega) rfl
      rw [Nat.add_zero] at c0
      clear hc
      have hx := HF.out ls[k] (List.getElem_mem hk1)
      have hz : Li.ok wr ls[k] := At.ok.up (HK.out ls[k] (List.getElem_mem hk1)) (HRR.out ▸ HB.out)
      have HS := Lib.hid (firstE_drop litE ls k hk1)
      generalize hE : ls[k] = x at *
      clear hE
      have HS2 : Hid (v = if litE x = 0 then firstE litE (ls.drop (k + 1)) else litE x) := Lib.hid (by rw [← HV.out, HS.out])
      clear HS HV
      have HX := Lib.hid hx
      have HZ := Lib.hid hz
      have hq0 : ∃ q, litE x = q := ⟨_, rfl⟩
      obtain ⟨q, hqe⟩ := hq0
      rw [hqe] at HS2
      have HQE := Lib.hid hqe
      clear hx hz hqe
      obtain ⟨zk, ⟨zp, zA, zn, zc, zo, zes⟩, zop, zl, zr, zof⟩ := x
      dsimp only at c0 c1 c2 c3 c4 c5 c6 c7 c8 c9 c10 c11 c12 c13
      go_upto_region 4 with (fail)
      have hb1 := HB.out.alloc (HRR.out ▸ HB.out.size) (.cells (Li.cells ⟨zk, ⟨zp, zA, zn, zc, zo, zes⟩, zop, zl, zr, zof⟩).toArray 61)
      have h1 := Blk.new wr 61 (Li.cells ⟨zk, ⟨zp, zA, zn, zc, zo, zes⟩, zop, zl, zr, zof⟩)
      have hbl := (Below.refl wr.heap.size wr).alloc (Nat.le_refl _) (.cells (Li.cells ⟨zk, ⟨zp, zA, zn, zc, zo, zes⟩, zop, zl, zr, zof⟩).toArray 61)
      have hz1 := At.ok.up HZ.out hbl
      have kt := wellLiteral_any ⟨zk, ⟨zp, zA, zn, zc, zo, zes⟩, zop, zl, zr, zof⟩ _ hz1 HX.out
      rw [HQE.out] at kt
      simp only [Li.cells] at hb1 h1 kt
      clear c0 c1 c2 c3 c4 c5 c6 c7 c8 c9 c10 c11 c12 c13 hbl hz1
      generalize World.alloc _ _ = w1 at *
      have f0 := h1.cell 0
      have f1 := h1.cell 1
      have f2 := h1.cell 2
      have f3 := h1.cell 3
      have f4 := h1.cell 4
      have f5 := h1.cell 5
      have f6 := h1.cell 6
      have f7 := h1.cell 7
      have f8 := h1.cell 8
      have f9 := h1.cell 9
      have f10 := h1.cell 10
      have f11 := h1.cell 11
      have f12 := h1.cell 12
      have f13 := h1.cell 13
      simp only [List.getElem?_cons_zero, List.getElem?_cons_succ] at f0 f1 f2 f3 f4 f5 f6 f7 f8 f9 f10 f11 f12 f13
      have HB1 := Lib.hid hb1
      clear h1 hb1
      go_wp2_with fail
      refine kt.mono ?_
      rintro e w2 ⟨rfl, hb2⟩
      have HB2 := Lib.hid (HB1.out.trans (hb2.mono (HRR.out ▸ HB1.out.size)))
      clear hb2 kt f0 f1 f2 f3 f4 f5 f6 f7 f8 f9 f10 f11 f12 f13
      by_cases hq : q = 0
      · have HN : Hid (firstE litE (ls.drop (k + 1)) = v) := Lib.hid (by rw [HS2.out, if_pos hq])
        subst hq
        clear HS2
        go_wp2
        go_roundg (n - (k + 1))
        case measure => have := HG.out; omega
        case rel => exact ⟨k + 1, by go_num, by omega, Lib.hid rfl, HB2, HN⟩
      · have hz : v = q := by rw [HS2.out, if_neg hq]
        have t1 : (q != 0) = true := by simpa using hq
        subst hz
        clear HS2 hq HQE
        go_wp2
        go_ret
        exact ⟨by rfl, by rw [HRR.out]; exact HB2.out⟩
    · have hz : v = 0 := by rw [← HV.out]; exact firstE_end litE ls k (by have := HL.out; omega)
      subst hz
      go_wp2
      go_ret
      exact ⟨by rfl, by rw [HRR.out]; exact HB.out⟩
end Go.Proofs.Ytjcgkplphiedjaa

namespace Go.Proofs.Ytjcgkplphiedjaa
open Go.RowKit

set_option maxRecDepth 20000 in
set_option maxHeartbeats 8000000 in
theorem wellClause_any (x : Cl) (w : World) (hok : Cl.ok w x) (hf : x.fines) :
    Calls Try.prog 59 #[.agg x.cells.toArray] w fun e w' => e = .returned (.int .i64 (clauseE x)) ∧ Below w.heap.size w w' := by
  obtain ⟨⟨hp, hA, hn, hc, ho, hes⟩, A, n, c, ls⟩ := x
  obtain ⟨hoh, hrl, hn152, hol⟩ := hok
  obtain ⟨⟨hfp, hfe⟩, hfl⟩ := hf
  dsimp only at hoh hrl hn152 hol hfp hfe hfl
  have hl : ls.length = n := by have := hrl.1; rw [lcells_length] at this; omega
  have hnb := hrl.2.1
  have HH := Lib.hid hoh
  have HRL := Lib.hid hrl
  have HOL := Lib.hid hol
  have HFP := Lib.hid hfp
  have HFE := Lib.hid hfe
  have HFL := Lib.hid hfl
  have HV : Hid (clauseE ⟨⟨hp, hA, hn, hc, ho, hes⟩, A, n, c, ls⟩ = if atomE hp hes = 0 then (if 16 < n then 23 else firstE litE ls) else atomE hp hes) := Lib.hid (by rw [← hl]; rfl)
  clear hoh hrl hn152 hol hfp hfe hfl hl
  show Calls Try.prog 59 #[.agg #[.string hp, .slice hA hn hc, .int .i64 ho, .slice A n c]] w _
  generalize clauseE _ = v at *
  go_enter Try.func59, Try.ntmps59
  go_upto_region 1 with (fail)
  have hb1 := (Below.refl w.heap.size w).alloc (Nat.le_refl _) (.cells #[.string hp, .slice hA hn hc, .int .i64 ho, .slice A n c] 45)
  have h1 := Blk.new w 45 [.string hp, .slice hA hn hc, .int .i64 ho, .slice A n c]
  generalize World.alloc _ _ = w1 at *
  generalize hR : w.heap.size = R at *
  have HRR := Lib.hid hR
  clear hR
  have HB1 := Lib.hid hb1
  have H1 := Lib.hid h1
  have f0 := h1.cell 0
  have f1 := h1.cell 1
  have f2 := h1.cell 2
  simp only [List.getElem?_cons_zero, List.getElem?_cons_succ] at f0 f1 f2
  clear h1 hb1
  have ka := wellAtom_any hp hA hn hc ho hes w1 (HH.out.1.up (HRR.out ▸ HB1.out) HB1.out.size) HFP.out HFE.out
  generalize atomE hp hes = a at *
  go_wp2_with fail
  refine ka.mono ?_
  rintro e w2 ⟨rfl, hb2⟩
  have HB2 := Lib.hid (HB1.out.trans (hb2.mono (HRR.out ▸ HB1.out.size)))
  have h2 := H1.out.below hb2 H1.out.lt
  have f3 := h2.cell 3
  simp only [List.getElem?_cons_zero, List.getElem?_cons_succ] at f3
  clear hb2 h2 f0 f1 f2 H1 HB1 ka
  by_cases ha : a = 0
  · subst ha
    by_cases h16 : 16 < n
    · have hz : v = 23 := by rw [HV.out]; simp [h16]
      subst hz
      clear HV
      go_wp2
      go_ret
      exact ⟨by rfl, by rw [HRR.out]; exact HB2.out⟩
    have HZ : Hid (v = firstE litE ls) := Lib.hid (by rw [HV.out]; simp [h16])
    clear HV
    have kl := firstLit_any A n c ls w2 (HRL.out.up HB2.out (HRR.out ▸ HB2.out.size)) (fun y hy => At.ok.up (HOL.out y hy) (HRR.out ▸ HB2.out)) HFL.out
    rw [← HZ.out] at kl
    go_wp2_with fail
    refine kl.mono ?_
    rintro e w3 ⟨rfl, hb3⟩
    have HB3 := Lib.hid (HB2.out.trans (hb3.mono (HRR.out ▸ HB2.out.size)))
    clear hb3 kl
    go_wp2
    go_ret
    exact ⟨by rfl, by rw [HRR.out]; exact HB3.out⟩
  · have hz : v = a := by rw [HV.out, if_neg ha]
    have t1 : (a != 0) = true := by simpa using ha
    subst hz
    clear HV ha
    go_wp2
    go_ret
    exact ⟨by rfl, by rw [HRR.out]; exact HB2.out⟩

set_option maxRecDepth 20000 in
set_option maxHeartbeats 8000000 in
theorem clauseE_ref (x : Cl) (w : World) (hok : Cl.ok w x) (hf : x.fines) :
    Calls Try.prog 77 #[.agg x.cells.toArray] w fun e w' => e = .returned (.int .i64 (clauseE x)) ∧ Below w.heap.size w w' := by
  obtain ⟨⟨hp, hA, hn, hc, ho, hes⟩, A, n, c, ls⟩ := x
  obtain ⟨hoh, hrl, hn152, hol⟩ := hok
  obtain ⟨⟨hfp, hfe⟩, hfl⟩ := hf
  dsimp only at hoh hrl hn152 hol hfp hfe hfl
  have hl : ls.length = n := by have := hrl.1; rw [lcells_length] at this; omega
  have hnb := hrl.2.1
  have HL := Lib.hid hl
  have HH := Lib.hid hoh
  have HRL := Lib.hid hrl
  have HOL := Lib.hid hol
  have HFP := Lib.hid hfp
  have HFE := Lib.hid hfe
  have HFL := Lib.hid hfl
  have HV : Hid (clauseE ⟨⟨hp, hA, hn, hc, ho, hes⟩, A, n, c, ls⟩ = if atomE hp hes = 0 then (if 16 < n then 23 else firstE litE ls) else atomE hp hes) := Lib.hid (by rw [← hl]; rfl)
  clear hoh hrl hn152 hol hfp hfe hfl hl
  show Calls Try.prog 77 #[.agg #[.string hp, .slice hA hn hc, .int .i64 ho, .slice A n c]] w _
  generalize clauseE _ = v at *
  go_enter Try.func77, Try.ntmps77
  go_upto_region 1 with (fail)
  have hb1 := (Below.refl w.heap.size w).alloc (Nat.le_refl _) (.cells #[.string hp, .slice hA hn hc, .int .i64 ho, .slice A n c] 45)
  have h1 := Blk.new w 45 [.string hp, .slice hA hn hc, .int .i64 ho, .slice A n c]
  generalize World.alloc _ _ = w1 at *
  generalize hR : w.heap.size = R at *
  have HRR := Lib.hid hR
  clear hR
  have HB1 := Lib.hid hb1
  have H1 := Lib.hid h1
  have f0 := h1.cell 0
  have f1 := h1.cell 1
  have f2 := h1.cell 2
  simp only [List.getElem?_cons_zero, List.getElem?_cons_succ] at f0 f1 f2
  clear h1 hb1
  have ka := atomE_ref hp hA hn hc ho hes w1 (HH.out.1.up (HRR.out ▸ HB1.out) HB1.out.size) HFP.out HFE.out
  generalize atomE hp hes = a at *
  go_wp2_with fail
  refine ka.mono ?_
  rintro e w2 ⟨rfl, hb2⟩
  have HB2 := Lib.hid (HB1.out.trans (hb2.mono (HRR.out ▸ HB1.out.size)))
  have h2 := H1.out.below hb2 H1.out.lt
  have H2 := Lib.hid h2
  have f3 := h2.cell 3
  simp only [List.getElem?_cons_zero, List.getElem?_cons_succ] at f3
  clear hb2 h2 f0 f1 f2 H1 HB1 ka
  by_cases ha : a = 0
  · subst ha
    by_cases h16 : 16 < n
    · have hz : v = 23 := by rw [HV.out]; simp [h16]
      subst hz
      clear HV
      go_wp2
      go_ret
      exact ⟨by rfl, by rw [HRR.out]; exact HB2.out⟩
    have HV2 : Hid (firstE litE (ls.drop 0) = v) := Lib.hid (by rw [HV.out]; simp [h16])
    clear HV
    go_upto_region 7 with (fail)
    clear f3
    go_loopg [4] n (fun gk u4 wr => ∃ k : Nat, u4 = .int .i64 k ∧ k ≤ n ∧ Hid (gk = n - k) ∧ Hid (Below R w wr) ∧ Hid (Blk wr R 45 [.string hp, .slice hA hn hc, .int .i64 ho, .slice A n c]) ∧ Hid (firstE litE (ls.drop k) = v))
    case atStart => exact ⟨0, rfl, Nat.zero_le _, Lib.hid (by omega), HB2, H2, HV2⟩
    case round =>
      clear HV2 HB2 H2
      obtain ⟨k, rfl, hk, HG, HB, H1, HV⟩ := hrel
      have f3 := H1.out.cell 3
      simp only [List.getElem?_cons_zero, List.getElem?_cons_succ] at f3
      by_cases hlt : k < n
      · obtain ⟨b, off, hk1, rfl, hB, hcc⟩ := (HRL.out.below HB.out).at Li.cells 14 (fun _ => rfl) (by omega) k hlt
        have c0 := hcc 0 _ (by omega) rfl
        have c1 := hcc 1 _ (by omega) rfl
        have c2 := hcc 2 _ (by omega) rfl
        have c3 := hcc 3 _ (by omega) rfl
        have c4 := hcc 4 _ (by omega) rfl
        have c5 := hcc 5 _ (by omega) rfl
        have c6 := hcc 6 _ (by omega) rfl
        have c7 := hcc 7 _ (by omega) rfl
        have c8 := hcc 8 _ (by omega) rfl
        have c9 := hcc 9 _ (by omega) rfl
        have c10 := hcc 10 _ (by omega) rfl
        have c11 := hcc 11 _ (by omega) rfl
        have c12 := hcc 12 _ (by omega) rfl
        have c13 := hcc 13 _ (by omega) rfl
        rw [Nat.add_zero] at c0
        clear hcc
        have hx := HFL.out ls[k] (List.getElem_mem hk1)
        have hz : Li.ok wr ls[k] := At.ok.up (HOL.out ls[k] (List.getElem_mem hk1)) (HRR.out ▸ HB.out)
        have HS := Lib.hid (firstE_drop litE ls k hk1)
        generalize hE : ls[k] = x at *
        clear hE
        have HS2 : Hid (v = if litE x = 0 then firstE litE (ls.drop (k + 1)) else litE x) := Lib.hid (by rw [← HV.out, HS.out])
        clear HS HV
        obtain ⟨q, hqe⟩ : ∃ q, litE x = q := ⟨_, rfl⟩
        rw [hqe] at HS2
        have kt := litE_ref x wr hz hx
        rw [hqe] at kt
        clear hx hz hqe
        obtain ⟨zk, ⟨zp, zA, zn, zc, zo, zes⟩, zop, zl, zr, zof⟩ := x
        dsimp only at c0 c1 c2 c3 c4 c5 c6 c7 c8 c9 c10 c11 c12 c13
        simp only [Li.cells] at kt
        go_wp2_with fail
        refine kt.mono ?_
        rintro e w2 ⟨rfl, hb2⟩
        have HB2 := Lib.hid (HB.out.trans (hb2.mono (HRR.out ▸ HB.out.size)))
        have H2 := Lib.hid (H1.out.below hb2 H1.out.lt)
        clear hb2 kt c0 c1 c2 c3 c4 c5 c6 c7 c8 c9 c10 c11 c12 c13 f3
        by_cases hq : q = 0
        · have HN : Hid (firstE litE (ls.drop (k + 1)) = v) := Lib.hid (by rw [HS2.out, if_pos hq])
          subst hq
          clear HS2
          go_wp2
          go_roundg (n - (k + 1))
          case measure => have := HG.out; omega
          case rel => exact ⟨k + 1, by go_num, by omega, Lib.hid rfl, HB2, H2, HN⟩
        · have hz : v = q := by rw [HS2.out, if_neg hq]
          have t1 : (q != 0) = true := by simpa using hq
          subst hz
          clear HS2 hq
          go_wp2
          go_ret
          exact ⟨by rfl, by rw [HRR.out]; exact HB2.out⟩
      · have hz : v = 0 := by rw [← HV.out]; exact firstE_end litE ls k (by have := HL.out; omega)
        subst hz
        go_wp2
        go_ret
        exact ⟨by rfl, by rw [HRR.out]; exact HB.out⟩
  · have hz : v = a := by rw [HV.out, if_neg ha]
    have t1 : (a != 0) = true := by simpa using ha
    subst hz
    clear HV ha
    go_wp2
    go_ret
    exact ⟨by rfl, by rw [HRR.out]; exact HB2.out⟩
end Go.Proofs.Ytjcgkplphiedjaa

namespace Go.Proofs.Ytjcgkplphiedjaa
open Go.RowKit

def wellE (cs : List Cl) : Int := if 512 < cs.length then 24 else firstE clauseE cs

set_option maxRecDepth 20000 in
set_option maxHeartbeats 8000000 in
theorem firstClause_any (A : Option Addr) (n c : Nat) (cs : List Cl) (w : World) (hr : Rd w w.heap.size 4 A n (ccells cs)) (hok : ∀ x ∈ cs, Cl.ok w x) (hf : ∀ x ∈ cs, x.fines) :
    Calls Try.prog 58 #[.slice A n c, .func (.func 59) #[] #[]] w fun e w' => e = .returned (.int .i64 (firstE clauseE cs)) ∧ Below w.heap.size w w' := by
  have hl : cs.length = n := by have := hr.1; rw [ccells_length] at this; omega
  have hn := hr.2.1
  have HL := Lib.hid hl
  have HR := Lib.hid hr
  have HF := Lib.hid hf
  have HK := Lib.hid hok
  have HV : Hid (firstE clauseE (cs.drop 0) = firstE clauseE cs) := Lib.hid rfl
  clear hl hr hf hok
  generalize firstE clauseE cs = v at *
  go_enter Try.func58, Try.ntmps58
  go_upto_region 2 with (fail)
  generalize hR : w.heap.size = R at *
  have HRR := Lib.hid hR
  clear hR
  go_loopg [10] n (fun gk u10 wr => ∃ k : Nat, u10 = .int .i64 k ∧ k ≤ n ∧ Hid (gk = n - k) ∧ Hid (Below R w wr) ∧ Hid (firstE clauseE (cs.drop k) = v))
  case atStart => exact ⟨0, rfl, Nat.zero_le _, Lib.hid (by omega), Lib.hid (Below.refl _ _), HV⟩
  case round =>
    clear HV
    obtain ⟨k, rfl, hk, HG, HB, HV⟩ := hrel
    by_cases hlt : k < n
    · obtain ⟨b, o, hk1, rfl, hB, hc⟩ := (HR.out.below HB.out).at Cl.cells 4 (fun _ => rfl) (by omega) k hlt
      have c0 := hc 0 _ (by omega) rfl
      have c1 := hc 1 _ (by omega) rfl
      have c2 := hc 2 _ (by omega) rfl
      have c3 := hc 3 _ (by omega) rfl
      rw [Nat.add_zero] at c0
      clear hc
      have hx := HF.out cs[k] (List.getElem_mem hk1)
      have hz : Cl.ok wr cs[k] := Cl.ok.up (HK.out cs[k] (List.getElem_mem hk1)) (HRR.out ▸ HB.out)
      have HS := Lib.hid (firstE_drop clauseE cs k hk1)
      generalize hE : cs[k] = x at *
      clear hE
      have HS2 : Hid (v = if clauseE x = 0 then firstE clauseE (cs.drop (k + 1)) else clauseE x) := Lib.hid (by rw [← HV.out, HS.out])
      clear HS HV
      obtain ⟨q, hqe⟩ : ∃ q, clauseE x = q := ⟨_, rfl⟩
      rw [hqe] at HS2
      have HX := Lib.hid hx
      have HZ := Lib.hid hz
      have HQE := Lib.hid hqe
      clear hx hz hqe
      obtain ⟨⟨zp, zA, zn, zc, zo, zes⟩, zB, zm, zd, zls⟩ := x
      dsimp only at c0 c1 c2 c3
      go_upto_region 4 with (fail)
      have hb1 := HB.out.alloc (HRR.out ▸ HB.out.size) (.cells (Cl.cells ⟨⟨zp, zA, zn, zc, zo, zes⟩, zB, zm, zd, zls⟩).toArray 45)
      have h1 := Blk.new wr 45 (Cl.cells ⟨⟨zp, zA, zn, zc, zo, zes⟩, zB, zm, zd, zls⟩)
      have hbl := (Below.refl wr.heap.size wr).alloc (Nat.le_refl _) (.cells (Cl.cells ⟨⟨zp, zA, zn, zc, zo, zes⟩, zB, zm, zd, zls⟩).toArray 45)
      have hz1 := Cl.ok.up HZ.out hbl
      have kt := wellClause_any ⟨⟨zp, zA, zn, zc, zo, zes⟩, zB, zm, zd, zls⟩ _ hz1 HX.out
      rw [HQE.out] at kt
      simp only [Cl.cells] at hb1 h1 kt
      clear c0 c1 c2 c3 hbl hz1
      generalize World.alloc _ _ = w1 at *
      have f0 := h1.cell 0
      have f1 := h1.cell 1
      have f2 := h1.cell 2
      have f3 := h1.cell 3
      simp only [List.getElem?_cons_zero, List.getElem?_cons_succ] at f0 f1 f2 f3
      have HB1 := Lib.hid hb1
      clear h1 hb1
      go_wp2_with fail
      refine kt.mono ?_
      rintro e w2 ⟨rfl, hb2⟩
      have HB2 := Lib.hid (HB1.out.trans (hb2.mono (HRR.out ▸ HB1.out.size)))
      clear hb2 kt f0 f1 f2 f3
      by_cases hq : q = 0
      · have HN : Hid (firstE clauseE (cs.drop (k + 1)) = v) := Lib.hid (by rw [HS2.out, if_pos hq])
        subst hq
        clear HS2
        go_wp2
        go_roundg (n - (k + 1))
        case measure => have := HG.out; omega
        case rel => exact ⟨k + 1, by go_num, by omega, Lib.hid rfl, HB2, HN⟩
      · have hz : v = q := by rw [HS2.out, if_neg hq]
        have t1 : (q != 0) = true := by simpa using hq
        subst hz
        clear HS2 hq HQE
        go_wp2
        go_ret
        exact ⟨by rfl, by rw [HRR.out]; exact HB2.out⟩
    · have hz : v = 0 := by rw [← HV.out]; exact firstE_end clauseE cs k (by have := HL.out; omega)
      subst hz
      go_wp2
      go_ret
      exact ⟨by rfl, by rw [HRR.out]; exact HB.out⟩

set_option maxRecDepth 20000 in
set_option maxHeartbeats 4000000 in
theorem wellP_any (A : Option Addr) (n c : Nat) (cs : List Cl) (w : World) (hr : Rd w w.heap.size 4 A n (ccells cs)) (hok : ∀ x ∈ cs, Cl.ok w x) (hf : ∀ x ∈ cs, x.fines) :
    Calls Try.prog 39 #[.agg #[.slice A n c]] w fun e w' => e = .returned (.int .i64 (wellE cs)) ∧ Below w.heap.size w w' := by
  have hl : cs.length = n := by have := hr.1; rw [ccells_length] at this; omega
  have hn := hr.2.1
  have HR := Lib.hid hr
  have HF := Lib.hid hf
  have HK := Lib.hid hok
  have HV : Hid (wellE cs = if 512 < n then 24 else firstE clauseE cs) := Lib.hid (by rw [← hl]; rfl)
  clear hl hr hf hok
  generalize wellE cs = v at *
  go_enter Try.func39, Try.ntmps39
  go_upto_region 1 with (fail)
  have hb1 := (Below.refl w.heap.size w).alloc (Nat.le_refl _) (.cells #[.slice A n c] 37)
  have h1 := Blk.new w 37 [.slice A n c]
  generalize World.alloc _ _ = w1 at *
  have f0 := h1.cell 0
  simp only [List.getElem?_cons_zero] at f0
  have HB1 := Lib.hid hb1
  have HS1 := Lib.hid hb1.size
  clear h1 hb1
  have kl := firstClause_any A n c cs w1 (HR.out.up HB1.out HS1.out) (fun x hx => (HK.out x hx).up HB1.out) HF.out
  by_cases h5 : 512 < n
  · have hz : v = 24 := by rw [HV.out]; simp [h5]
    subst hz
    clear HV kl
    go_wp2
    go_ret
    exact ⟨by rfl, HB1.out⟩
  · have HZ : Hid (v = firstE clauseE cs) := Lib.hid (by rw [HV.out]; simp [h5])
    clear HV
    rw [← HZ.out] at kl
    go_wp2_with fail
    refine kl.mono ?_
    rintro e w3 ⟨rfl, hb3⟩
    have HB3 := Lib.hid (HB1.out.trans (hb3.mono HS1.out))
    clear hb3 kl
    go_wp2
    go_ret
    exact ⟨by rfl, HB3.out⟩

end Go.Proofs.Ytjcgkplphiedjaa
