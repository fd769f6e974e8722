/- The program's all: a clause's terms in reading order; bodies alike. | The program's all. -/
import Derived.Test.YtjcgkplphiedjaaGm
import Derived.Test.YtjcgkplphiedjaaGn
namespace Go.Proofs.Ytjcgkplphiedjaa
open Go.RowKit Go.Sort

theorem alikes_drop (as_ bs : List Li) (k : Nat) (h : k < as_.length) (h' : k < bs.length) : alikes (as_.drop k) (bs.drop k) = (likeL as_[k] bs[k] && alikes (as_.drop (k + 1)) (bs.drop (k + 1))) := by
  rw [List.drop_eq_getElem_cons h, List.drop_eq_getElem_cons h', alikes]
theorem alikes_end (as_ bs : List Li) (k : Nat) (h : as_.length = k) (h' : bs.length = k) : alikes (as_.drop k) (bs.drop k) = true := by
  rw [List.drop_eq_nil_of_le (by omega), List.drop_eq_nil_of_le (by omega), alikes]

set_option maxRecDepth 20000 in
set_option maxHeartbeats 4000000 in
theorem eqlits_any (A : Option Addr) (n c : Nat) (B : Option Addr) (m d : Nat) (as_ bs : List Li) (w : World) (hr : Rd w w.heap.size 14 A n (lcells as_)) (hr2 : Rd w w.heap.size 14 B m (lcells bs)) (ho : ∀ y ∈ as_, Li.ok w y) (ho2 : ∀ y ∈ bs, Li.ok w y) :
    Calls Try.prog 88 #[.slice A n c, .slice B m d, .func (.func 76) #[] #[]] w fun e w' => e = .returned (.bool (alikes as_ bs)) ∧ Below w.heap.size w w' := by
  have hl : as_.length = n := by have := hr.1; rw [lcells_length] at this; omega
  have hl2 : bs.length = m := by have := hr2.1; rw [lcells_length] at this; omega
  have hnb := hr.2.1
  have hmb := hr2.2.1
  have HR := Lib.hid hr
  have HR2 := Lib.hid hr2
  have HO := Lib.hid ho
  have HO2 := Lib.hid ho2
  have HL := Lib.hid hl
  have HL2 := Lib.hid hl2
  have HV : Hid (alikes (as_.drop 0) (bs.drop 0) = alikes as_ bs) := Lib.hid rfl
  have HNE : Hid (n ≠ m → alikes as_ bs = false) := Lib.hid (fun h => by
    cases e : alikes as_ bs with
    | false => rfl
    | true => exact absurd (alikes_length _ _ e) (by omega))
  clear hr hr2 ho ho2 hl hl2
  generalize alikes as_ bs = v at *
  go_enter Try.func88, Try.ntmps88
  by_cases hne : n ≠ m
  · have hz := HNE.out hne
    have t1 : ((n : Int) != (m : Int)) = true := by simp only [bne_iff_ne, ne_eq]; omega
    have t2 : ((n : Int) == (m : Int)) = false := by simp only [beq_eq_false_iff_ne, ne_eq]; omega
    subst hz
    clear HV HNE
    go_wp2
    go_ret
    exact ⟨by rfl, Below.refl _ _⟩
  obtain rfl : n = m := Classical.not_not.1 hne
  clear HNE hne
  go_upto_region 4 with (fail)
  generalize hR : w.heap.size = R at *
  have HRR := Lib.hid hR
  clear hR
  go_loopg [17] n (fun gk u17 wr => ∃ k : Nat, u17 = .int .i64 k ∧ k ≤ n ∧ Hid (gk = n - k) ∧ Hid (Below R w wr) ∧ Hid (alikes (as_.drop k) (bs.drop k) = v))
  case atStart => exact ⟨0, rfl, Nat.zero_le _, Lib.hid (by omega), Lib.hid (Below.refl _ _), HV⟩
  case round =>
    clear HV
    obtain ⟨k, rfl, hk, HG, HB, HV⟩ := hrel
    have hsr : R ≤ wr.heap.size := by have := HB.out.size; rw [HRR.out] at this; exact this
    by_cases hlt : k < n
    · obtain ⟨b, o, hk1, rfl, hB, hcc⟩ := (HR.out.below HB.out).at Li.cells 14 (fun _ => rfl) (by omega) k hlt
      obtain ⟨b', o', hk2, rfl, hB', hdd⟩ := (HR2.out.below HB.out).at Li.cells 14 (fun _ => rfl) (by omega) k hlt
      have HS : Hid (v = (likeL as_[k] bs[k] && alikes (as_.drop (k + 1)) (bs.drop (k + 1)))) := Lib.hid (by rw [← HV.out]; exact alikes_drop as_ bs k hk1 hk2)
      have hxo : Li.ok wr as_[k] := At.ok.up (HO.out _ (List.getElem_mem hk1)) (HRR.out ▸ HB.out)
      have hyo : Li.ok wr bs[k] := At.ok.up (HO2.out _ (List.getElem_mem hk2)) (HRR.out ▸ HB.out)
      clear HV
      generalize as_[k] = x at *
      generalize bs[k] = y at *
      have HXO := Lib.hid hxo
      have HYO := Lib.hid hyo
      have HKL := Lib.hid (fun W h1 h2 => alike_any x y W h1 h2)
      obtain ⟨lk, hlk⟩ : ∃ lk, likeL x y = lk := ⟨_, rfl⟩
      rw [hlk] at HS HKL
      clear hxo hyo hlk
      obtain ⟨xk, ⟨xp, xA, xn, xc, xo, xes⟩, xop, ⟨xlk, xli, xlt, xlo⟩, ⟨xrk, xri, xrt, xro⟩, xof⟩ := x
      obtain ⟨yk, ⟨yp, yA, yn, yc, yo, yes⟩, yop, ⟨ylk, yli, ylt, ylo⟩, ⟨yrk, yri, yrt, yro⟩, yof⟩ := y
      have c0 := hcc 0 _ (by omega) rfl
      have d0 := hdd 0 _ (by omega) rfl
      have c1 := hcc 1 _ (by omega) rfl
      have d1 := hdd 1 _ (by omega) rfl
      have c2 := hcc 2 _ (by omega) rfl
      have d2 := hdd 2 _ (by omega) rfl
      have c3 := hcc 3 _ (by omega) rfl
      have d3 := hdd 3 _ (by omega) rfl
      have c4 := hcc 4 _ (by omega) rfl
      have d4 := hdd 4 _ (by omega) rfl
      have c5 := hcc 5 _ (by omega) rfl
      have d5 := hdd 5 _ (by omega) rfl
      have c6 := hcc 6 _ (by omega) rfl
      have d6 := hdd 6 _ (by omega) rfl
      have c7 := hcc 7 _ (by omega) rfl
      have d7 := hdd 7 _ (by omega) rfl
      have c8 := hcc 8 _ (by omega) rfl
      have d8 := hdd 8 _ (by omega) rfl
      have c9 := hcc 9 _ (by omega) rfl
      have d9 := hdd 9 _ (by omega) rfl
      have c10 := hcc 10 _ (by omega) rfl
      have d10 := hdd 10 _ (by omega) rfl
      have c11 := hcc 11 _ (by omega) rfl
      have d11 := hdd 11 _ (by omega) rfl
      have c12 := hcc 12 _ (by omega) rfl
      have d12 := hdd 12 _ (by omega) rfl
      have c13 := hcc 13 _ (by omega) rfl
      have d13 := hdd 13 _ (by omega) rfl
      clear hcc hdd
      rw [Nat.add_zero] at c0 d0
      dsimp only at c0 c1 c2 c3 c4 c5 c6 c7 c8 c9 c10 c11 c12 c13 d0 d1 d2 d3 d4 d5 d6 d7 d8 d9 d10 d11 d12 d13
      simp only [Li.cells] at HKL
      go_upto_region 6 with (fail)
      have hba := (Below.refl wr.heap.size wr).alloc (Nat.le_refl _) (.cells #[.int .i64 xk, .string xp, .slice xA xn xc, .int .i64 xo, .int .i64 xop, .int .i64 xlk, .int .i64 xli, .string xlt, .int .i64 xlo, .int .i64 xrk, .int .i64 xri, .string xrt, .int .i64 xro, .int .i64 xof] 61)
      have L1 := Lib.hid (Blk.new wr 61 [.int .i64 xk, .string xp, .slice xA xn xc, .int .i64 xo, .int .i64 xop, .int .i64 xlk, .int .i64 xli, .string xlt, .int .i64 xlo, .int .i64 xrk, .int .i64 xri, .string xrt, .int .i64 xro, .int .i64 xof])
      have KB := Lib.hid (HB.out.trans (hba.mono hsr))
      have KX := Lib.hid (At.ok.up HXO.out hba)
      have KY := Lib.hid (At.ok.up HYO.out hba)
      have hBr : b' < wr.heap.size := by omega
      have d0 := (hba.cell (p := ⟨b', o' + k * 14, none⟩) hBr).trans d0
      have d1 := (hba.cell (p := ⟨b', o' + k * 14 + 1, none⟩) hBr).trans d1
      have d2 := (hba.cell (p := ⟨b', o' + k * 14 + 2, none⟩) hBr).trans d2
      have d3 := (hba.cell (p := ⟨b', o' + k * 14 + 3, none⟩) hBr).trans d3
      have d4 := (hba.cell (p := ⟨b', o' + k * 14 + 4, none⟩) hBr).trans d4
      have d5 := (hba.cell (p := ⟨b', o' + k * 14 + 5, none⟩) hBr).trans d5
      have d6 := (hba.cell (p := ⟨b', o' + k * 14 + 6, none⟩) hBr).trans d6
      have d7 := (hba.cell (p := ⟨b', o' + k * 14 + 7, none⟩) hBr).trans d7
      have d8 := (hba.cell (p := ⟨b', o' + k * 14 + 8, none⟩) hBr).trans d8
      have d9 := (hba.cell (p := ⟨b', o' + k * 14 + 9, none⟩) hBr).trans d9
      have d10 := (hba.cell (p := ⟨b', o' + k * 14 + 10, none⟩) hBr).trans d10
      have d11 := (hba.cell (p := ⟨b', o' + k * 14 + 11, none⟩) hBr).trans d11
      have d12 := (hba.cell (p := ⟨b', o' + k * 14 + 12, none⟩) hBr).trans d12
      have d13 := (hba.cell (p := ⟨b', o' + k * 14 + 13, none⟩) hBr).trans d13
      clear hba HB HXO HYO c0 c1 c2 c3 c4 c5 c6 c7 c8 c9 c10 c11 c12 c13
      generalize World.alloc _ _ = w2 at *
      generalize wr.heap.size = Z at *
      go_upto_region 7 with (fail)
      have hba := (Below.refl w2.heap.size w2).alloc (Nat.le_refl _) (.cells #[.int .i64 yk, .string yp, .slice yA yn yc, .int .i64 yo, .int .i64 yop, .int .i64 ylk, .int .i64 yli, .string ylt, .int .i64 ylo, .int .i64 yrk, .int .i64 yri, .string yrt, .int .i64 yro, .int .i64 yof] 61)
      have L2 := Lib.hid (Blk.new w2 61 [.int .i64 yk, .string yp, .slice yA yn yc, .int .i64 yo, .int .i64 yop, .int .i64 ylk, .int .i64 yli, .string ylt, .int .i64 ylo, .int .i64 yrk, .int .i64 yri, .string yrt, .int .i64 yro, .int .i64 yof])
      have M1 := Lib.hid (L1.out.below hba L1.out.lt)
      have hZ2 : Z < w2.heap.size := L1.out.lt
      have MB := Lib.hid (KB.out.trans (hba.mono (by omega)))
      have MX := Lib.hid (At.ok.up KX.out hba)
      have MY := Lib.hid (At.ok.up KY.out hba)
      clear hba KB KX KY L1 d0 d1 d2 d3 d4 d5 d6 d7 d8 d9 d10 d11 d12 d13
      generalize World.alloc _ _ = w3 at *
      generalize w2.heap.size = Y at *
      have hY3 : Y < w3.heap.size := L2.out.lt
      have f0 := M1.out.cell 0
      have g0 := L2.out.cell 0
      have f1 := M1.out.cell 1
      have g1 := L2.out.cell 1
      have f2 := M1.out.cell 2
      have g2 := L2.out.cell 2
      have f3 := M1.out.cell 3
      have g3 := L2.out.cell 3
      have f4 := M1.out.cell 4
      have g4 := L2.out.cell 4
      have f5 := M1.out.cell 5
      have g5 := L2.out.cell 5
      have f6 := M1.out.cell 6
      have g6 := L2.out.cell 6
      have f7 := M1.out.cell 7
      have g7 := L2.out.cell 7
      have f8 := M1.out.cell 8
      have g8 := L2.out.cell 8
      have f9 := M1.out.cell 9
      have g9 := L2.out.cell 9
      have f10 := M1.out.cell 10
      have g10 := L2.out.cell 10
      have f11 := M1.out.cell 11
      have g11 := L2.out.cell 11
      have f12 := M1.out.cell 12
      have g12 := L2.out.cell 12
      have f13 := M1.out.cell 13
      have g13 := L2.out.cell 13
      simp only [List.getElem?_cons_zero, List.getElem?_cons_succ] at f0 f1 f2 f3 f4 f5 f6 f7 f8 f9 f10 f11 f12 f13 g0 g1 g2 g3 g4 g5 g6 g7 g8 g9 g10 g11 g12 g13
      have ka := HKL.out w3 MX.out MY.out
      go_wp2_with fail
      refine ka.mono ?_
      rintro e w4 ⟨rfl, hb4⟩
      have NB := Lib.hid (MB.out.trans (hb4.mono (by omega)))
      clear ka hb4 MB MX MY M1 L2 HKL f0 f1 f2 f3 f4 f5 f6 f7 f8 f9 f10 f11 f12 f13 g0 g1 g2 g3 g4 g5 g6 g7 g8 g9 g10 g11 g12 g13
      cases lk with
      | true =>
        have HN : Hid (alikes (as_.drop (k + 1)) (bs.drop (k + 1)) = v) := Lib.hid (by rw [HS.out, Bool.true_and])
        clear HS
        go_wp2
        go_roundg (n - (k + 1))
        case measure => have := HG.out; omega
        case rel => exact ⟨k + 1, by go_num, by omega, Lib.hid rfl, NB, HN⟩
      | false =>
        have hz : v = false := by rw [HS.out]; rfl
        subst hz
        clear HS
        go_wp2
        go_ret
        exact ⟨by rfl, by rw [HRR.out]; exact NB.out⟩
    · obtain rfl : k = n := by omega
      have hz : v = true := by rw [← HV.out]; exact alikes_end as_ bs k HL.out HL2.out
      subst hz
      go_wp2
      go_ret
      exact ⟨by rfl, by rw [HRR.out]; exact HB.out⟩

set_option maxRecDepth 20000 in
set_option maxHeartbeats 1000000 in
theorem cloneT_any (A : Option Addr) (n c : Nat) (l : List T) (w : World) (hr : Rd w w.heap.size 4 A n (tcells l)) (hA : A = none → c = 0) (hn : n * 40 ≤ 140737488351232) :
    Calls Try.prog 91 #[.slice A n c] w fun e w' => ∃ A' c', e = .returned (.slice A' n c') ∧ w'.ownsRow w.heap.size 33 4 (.slice A' n c') n (tcells l) ∧ Below w.heap.size w w' := by
  obtain ⟨i0, hi, hz0, hz1, hz2⟩ := info_parts Try.info33
  have HR := Lib.hid hr
  clear hr
  cases A with
  | none =>
    obtain rfl : c = 0 := hA rfl
    obtain rfl : n = 0 := by
      rcases Nat.eq_zero_or_pos n with h | h
      · exact h
      · obtain ⟨b, o, h, _⟩ := HR.out.2.2 h; cases h
    obtain rfl : l = [] := by
      have := HR.out.1
      rw [tcells_length] at this
      exact List.eq_nil_of_length_eq_zero (by omega)
    clear hA
    have he : ∀ w : World, (binOp .eql 25 (.slice none 0 0) (.slice none 0 0)).run Try.prog w = .ok (.bool true) w := fun _ => by kernel_rfl
    go_enter Try.func91, Try.ntmps91
    go_wp2
    go_ret
    exact ⟨none, 0, rfl, World.ownsRow_nil _ _ _ _, Below.refl _ _⟩
  | some ad =>
    clear hA
    have he : ∀ w : World, (binOp .eql 25 (.slice (some ad) n c) (.slice none 0 0)).run Try.prog w = .ok (.bool false) w := fun _ => by kernel_rfl
    go_enter Try.func91, Try.ntmps91
    have hown0 : (w.alloc (.cells #[] 33)).ownsRow w.heap.size 33 4 (.slice (some ⟨w.heap.size, 0, none⟩) 0 0) 0 [] := own_empty (Nat.le_refl _)
    have hba := (Below.refl w.heap.size w).alloc (Nat.le_refl _) (.cells #[] 33)
    have hbw : w.heap.size ≤ (w.alloc (.cells #[] 33)).heap.size := hba.size
    have HRd := Lib.hid (HR.out.up hba hbw)
    go_wp2_with (at_builtin; go_must (refine wpList_append_own _ rfl _ _ 25 rfl w.heap.size 33 i0 _ 4 40 Try.underlying25 hi hz0 hz1 hz2 rfl (by decide) _ _ _ rfl hown0 ad n c (tcells l) rfl HRd.out.1 HRd.out.news (terms_one l) (by unfold maxLen; omega) (by omega) hbw ?_))
    intro v4 w4 hown4 hg4 _
    have HB4 := Lib.hid (hba.grown hg4 hbw (fun k hk => (hown0.lt k hk).1))
    obtain ⟨A4, c4, rfl, hn4⟩ := own_slice hown4
    have HO4 := Lib.hid hown4
    clear hown0 hown4 hg4 hba hbw HRd
    go_wp2
    go_ret
    exact ⟨A4, c4, rfl, by simpa using HO4.out, HB4.out⟩
end Go.Proofs.Ytjcgkplphiedjaa

namespace Go.Proofs.Ytjcgkplphiedjaa
open Go.RowKit Go.Sort

set_option maxRecDepth 20000 in
set_option maxHeartbeats 8000000 in
theorem all_any (x : Cl) (w : World) (hok : Cl.ok w x) (hx : x.tot.length ≤ 1000) :
    Calls Try.prog 67 #[.agg x.cells.toArray] w fun e w' => ∃ A c, e = .returned (.slice A x.tot.length c) ∧ w'.ownsRow w.heap.size 33 4 (.slice A x.tot.length c) x.tot.length (tcells x.tot) ∧ Below w.heap.size w w' := by
  obtain ⟨i0, hi, hz0, hz1, hz2⟩ := info_parts Try.info33
  have HT : Hid (x.tot = x.h.es ++ x.ls.flatMap Li.terms) := Lib.hid rfl
  have hl : x.ls.length = x.n := by have := hok.2.1.1; rw [lcells_length] at this; omega
  have hhl : x.h.es.length = x.h.n := by have := hok.1.1.1; rw [tcells_length] at this; omega
  have HB : Hid (∀ k, (h : k < x.ls.length) → (x.h.es ++ (x.ls.take k).flatMap Li.terms).length + x.ls[k].terms.length ≤ 1000) := Lib.hid (fun k h => by
    have h3 : x.ls.flatMap Li.terms = (x.ls.take k).flatMap Li.terms ++ x.ls[k].terms ++ (x.ls.drop (k + 1)).flatMap Li.terms := by
      rw [List.append_assoc, ← List.flatMap_cons, ← List.drop_eq_getElem_cons h, ← List.flatMap_append, List.take_append_drop]
    have h4 := hx
    rw [HT.out, h3] at h4
    simp only [List.length_append] at h4 ⊢
    omega)
  have HL := Lib.hid hl
  have HHL := Lib.hid hhl
  have HH := Lib.hid hok.1
  have HRL := Lib.hid hok.2.1
  have HOL := Lib.hid hok.2.2.2
  have hnb := hok.2.1.2.1
  clear hok hl hhl hx
  obtain ⟨⟨hp, hA, hn, hc, ho, hes⟩, A, n, c, ls⟩ := x
  dsimp only at HT HB HL HHL HH HRL HOL hnb
  generalize Cl.tot _ = tot at *
  show Calls Try.prog 67 #[.agg #[.string hp, .slice hA hn hc, .int .i64 ho, .slice A n c]] w _
  go_enter Try.func67, Try.ntmps67
  go_upto_region 1 with (fail)
  have hb1 := (Below.refl w.heap.size w).alloc (Nat.le_refl _) (.cells #[.string hp, .slice hA hn hc, .int .i64 ho, .slice A n c] 45)
  have h1 := Blk.new w 45 [.string hp, .slice hA hn hc, .int .i64 ho, .slice A n c]
  generalize World.alloc _ _ = w1 at *
  generalize hR : w.heap.size = R at *
  have HRR := Lib.hid hR
  clear hR
  have HB1 := Lib.hid hb1
  have H1 := Lib.hid h1
  have f1 := h1.cell 1
  simp only [List.getElem?_cons_zero, List.getElem?_cons_succ] at f1
  have hs1 : R ≤ w1.heap.size := by have := h1.lt; omega
  clear h1 hb1
  have hh1 := HH.out.up (HRR.out ▸ HB1.out)
  have kc := cloneT_any hA hn hc hes w1 hh1.1 hh1.2.1 hh1.2.2
  clear hh1
  go_wp2_with fail
  refine kc.mono ?_
  rintro e w2 ⟨A2, c2, rfl, hown2, hb2⟩
  have K1 := Lib.hid (H1.out.below hb2 H1.out.lt)
  have KB := Lib.hid (HB1.out.trans (hb2.mono hs1))
  have KO : Hid (w2.ownsRow R 33 4 (.slice A2 hn c2) hn (tcells (hes ++ (ls.take 0).flatMap Li.terms))) := Lib.hid (by
    rw [List.take_zero, List.flatMap_nil, List.append_nil]; exact own_le hown2 hs1)
  clear hown2 hb2 kc H1 HB1 f1
  have f3 := K1.out.cell 3
  simp only [List.getElem?_cons_zero, List.getElem?_cons_succ] at f3
  go_upto_region 3 with (fail)
  clear f3
  go_loopg [3, 13] n (fun gk u3 u13 wr => ∃ (j m c3 : Nat) (A3 : Option Addr), u13 = .int .i64 j ∧ u3 = .slice A3 m c3 ∧ j ≤ n ∧ Hid (gk = n - j) ∧ Hid (Below R w wr) ∧ Hid (wr.ownsRow R 33 4 (.slice A3 m c3) m (tcells (hes ++ (ls.take j).flatMap Li.terms))))
  case atStart => exact ⟨0, hn, c2, A2, rfl, rfl, Nat.zero_le _, Lib.hid (by omega), KB, KO⟩
  case round =>
    clear KB KO K1
    obtain ⟨j, m, c3, A3, rfl, rfl, hj, HG, HB2, HO⟩ := hrel
    have hsr : R ≤ wr.heap.size := by have := HB2.out.size; rw [HRR.out] at this; exact this
    have hm : (hes ++ (ls.take j).flatMap Li.terms).length = m := by have := HO.out.1; rw [tcells_length] at this; omega
    by_cases hlt : j < n
    · obtain ⟨bb, ob, hk1, hbe, hbB, hbc⟩ := (HRL.out.below HB2.out).at Li.cells 14 (fun _ => rfl) (by omega) j hlt
      have hxo : Li.ok wr ls[j] := At.ok.up (HOL.out _ (List.getElem_mem hk1)) (HRR.out ▸ HB2.out)
      have HS : Hid (hes ++ (ls.take (j + 1)).flatMap Li.terms = (hes ++ (ls.take j).flatMap Li.terms) ++ ls[j].terms) := Lib.hid (by rw [take_snoc _ _ hk1, List.flatMap_append]; simp)
      have htb := HB.out j hk1
      rw [hm] at htb
      have hxA := (HOL.out _ (List.getElem_mem hk1)).2.1
      generalize ls[j] = x at *
      generalize hpre : hes ++ (ls.take j).flatMap Li.terms = pre at *
      obtain ⟨xk, ⟨xp, xA, xn, xc, xo, xes⟩, xop, ⟨xlk, xli, xlt, xlo⟩, ⟨xrk, xri, xrt, xro⟩, xof⟩ := x
      have c0 := hbc 0 _ (by omega) rfl
      have c1 := hbc 1 _ (by omega) rfl
      have c2' := hbc 2 _ (by omega) rfl
      have c3' := hbc 3 _ (by omega) rfl
      have c4 := hbc 4 _ (by omega) rfl
      have c5 := hbc 5 _ (by omega) rfl
      have c6 := hbc 6 _ (by omega) rfl
      have c7 := hbc 7 _ (by omega) rfl
      have c8 := hbc 8 _ (by omega) rfl
      have c9 := hbc 9 _ (by omega) rfl
      have c10 := hbc 10 _ (by omega) rfl
      have c11 := hbc 11 _ (by omega) rfl
      have c12 := hbc 12 _ (by omega) rfl
      have c13 := hbc 13 _ (by omega) rfl
      dsimp only at c0 c1 c2' c3' c4 c5 c6 c7 c8 c9 c10 c11 c12 c13 hxA
      rw [Nat.add_zero] at c0
      subst hbe
      have HXO := Lib.hid hxo
      have HXA := Lib.hid hxA
      have HPRE := Lib.hid hpre
      clear hbc hxo hxA hpre
      go_upto_region 5 with (fail)
      have hba := (Below.refl wr.heap.size wr).alloc (Nat.le_refl _) (.cells #[.int .i64 xk, .string xp, .slice xA xn xc, .int .i64 xo, .int .i64 xop, .int .i64 xlk, .int .i64 xli, .string xlt, .int .i64 xlo, .int .i64 xrk, .int .i64 xri, .string xrt, .int .i64 xro, .int .i64 xof] 61)
      have L := Lib.hid (Blk.new wr 61 [.int .i64 xk, .string xp, .slice xA xn xc, .int .i64 xo, .int .i64 xop, .int .i64 xlk, .int .i64 xli, .string xlt, .int .i64 xlo, .int .i64 xrk, .int .i64 xri, .string xrt, .int .i64 xro, .int .i64 xof])
      have KB := Lib.hid (HB2.out.trans (hba.mono hsr))
      have KO := Lib.hid (own_below HO.out hba)
      have KX := Lib.hid (At.ok.up HXO.out hba)
      clear hba HB2 HO HXO c0 c1 c2' c3' c4 c5 c6 c7 c8 c9 c10 c11 c12 c13 hbB
      generalize World.alloc _ _ = w3 at *
      generalize wr.heap.size = Z at *
      have g0 := L.out.cell 0
      have g1 := L.out.cell 1
      have g2 := L.out.cell 2
      have g3 := L.out.cell 3
      have g4 := L.out.cell 4
      have g5 := L.out.cell 5
      have g6 := L.out.cell 6
      have g7 := L.out.cell 7
      have g8 := L.out.cell 8
      have g9 := L.out.cell 9
      have g10 := L.out.cell 10
      have g11 := L.out.cell 11
      have g12 := L.out.cell 12
      have g13 := L.out.cell 13
      simp only [List.getElem?_cons_zero, List.getElem?_cons_succ] at g0 g1 g2 g3 g4 g5 g6 g7 g8 g9 g10 g11 g12 g13
      have hs3 : R ≤ w3.heap.size := by have := L.out.lt; omega
      have kt := terms_any ⟨xk, ⟨xp, xA, xn, xc, xo, xes⟩, xop, ⟨xlk, xli, xlt, xlo⟩, ⟨xrk, xri, xrt, xro⟩, xof⟩ w3 KX.out
      simp only [Li.cells] at kt
      go_wp2_with fail
      refine kt.mono ?_
      rintro e w4 ⟨A4, n4, c4, rfl, hr4, h40, hA4, hb4⟩
      have hn4 : (⟨xk, ⟨xp, xA, xn, xc, xo, xes⟩, xop, ⟨xlk, xli, xlt, xlo⟩, ⟨xrk, xri, xrt, xro⟩, xof⟩ : Li).terms.length = n4 := by have := hr4.1; rw [tcells_length] at this; omega
      have MB := Lib.hid (KB.out.trans (hb4.mono hs3))
      have MO := Lib.hid (own_below KO.out hb4)
      have HR4 := Lib.hid hr4
      have hs4 : R ≤ w4.heap.size := Nat.le_trans hs3 hb4.size
      have HA4 : Hid (A4 = none → c4 = 0) := Lib.hid (fun e => by
        rcases hA4 with ⟨e1, _, e3⟩ | ⟨g, e1, _⟩
        · rw [e] at e1; rw [e3]; exact HXA.out e1.symm
        · rw [e] at e1; cases e1)
      clear kt hb4 hr4 hA4 KB KO KX L g0 g1 g2 g3 g4 g5 g6 g7 g8 g9 g10 g11 g12 g13
      have hown := MO.out
      go_wp2_with (at_builtin; go_must (refine wpList_append_all rfl _ _ 25 rfl R 33 i0 _ 4 40 Try.underlying25 hi hz0 hz1 hz2 rfl (by decide) _ _ _ rfl hown A4 n4 c4 (tcells (⟨xk, ⟨xp, xA, xn, xc, xo, xes⟩, xop, ⟨xlk, xli, xlt, xlo⟩, ⟨xrk, xri, xrt, xro⟩, xof⟩ : Li).terms) rfl HA4.out HR4.out (terms_one _) (by unfold maxLen; omega) (by omega) hs4 ?_))
      intro v5 w5 hown5 hg5
      obtain ⟨A5, c5, rfl, hn5⟩ := own_slice hown5
      have NB := Lib.hid (MB.out.grown hg5 hs4 (fun q hq => (hown.lt q hq).1))
      have NO : Hid (w5.ownsRow R 33 4 (.slice A5 (m + n4) c5) (m + n4) (tcells (hes ++ (ls.take (j + 1)).flatMap Li.terms))) := Lib.hid (by
        rw [HS.out, tcells_append]; exact hown5)
      clear hown5 hg5 hown MB MO HR4 HA4 HS
      go_wp2
      go_roundg (n - (j + 1))
      case measure => have := HG.out; omega
      case rel => exact ⟨j + 1, m + n4, c5, A5, by go_num, rfl, by omega, Lib.hid rfl, NB, NO⟩
    · obtain rfl : j = n := by omega
      have hall : ls.take j = ls := List.take_of_length_le (by have := HL.out; omega)
      rw [hall, ← HT.out] at hm HO
      subst hm
      go_wp2
      go_ret
      exact ⟨A3, c3, rfl, by rw [HRR.out]; exact HO.out, by rw [HRR.out]; exact HB2.out⟩
end Go.Proofs.Ytjcgkplphiedjaa
