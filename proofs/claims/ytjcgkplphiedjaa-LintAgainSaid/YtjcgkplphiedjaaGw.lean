/- The clause that a clause is again, or that covers it: the document's twice and covered. | The clause that covers a clause: the document's covered. | The finding that a clause is another one again, or is covered by one: the program's others. -/
import Derived.Test.YtjcgkplphiedjaaGs
import Derived.Test.YtjcgkplphiedjaaGq
namespace Go.Proofs.Ytjcgkplphiedjaa
open Go.RowKit Go.Sort

theorem Rd.two {α : Type} (f : α → List Value) (s : Nat) (hf : ∀ x, (f x).length = s) {w : World} {B : Nat} {A : Option Addr} {n : Nat} {l : List α} (h : Rd w B s A n (l.flatMap f)) (hs : 0 < s) (k i : Nat) (hk : k < n) (hi : i < n) :
    ∃ b o, ∃ (h1 : k < l.length) (h2 : i < l.length), A = some ⟨b, o, none⟩ ∧ b < B ∧ (∀ j u, j < s → (f l[k])[j]? = some u → w.cell? ⟨b, o + k * s + j, none⟩ = some u) ∧ ∀ j u, j < s → (f l[i])[j]? = some u → w.cell? ⟨b, o + i * s + j, none⟩ = some u := by
  obtain ⟨b, o, h1, hA, hB, hc⟩ := h.at f s hf hs k hk
  obtain ⟨b', o', h2, hA', hB', hc'⟩ := h.at f s hf hs i hi
  rw [hA] at hA'
  injection hA' with hA'
  injection hA' with e1 e2
  subst e1 e2
  exact ⟨b, o, h1, h2, hA, hB, hc, hc'⟩

theorem coversD_pred {a b : Cl} (h : coversD a b = true) : a.h.p = b.h.p := by
  unfold coversD at h
  split at h
  · unfold coversR at h
    split at h
    · cases h
    · rename_i w hw
      exact (fitP_some hw).1.2.1
  · cases h

/-- What the findings need of clauses: they lie in memory and are well formed. -/
def Fit' (w : World) (cs : List Cl) : Prop := ∀ x ∈ cs, Cl.ok w x ∧ x.fines ∧ x.ints ∧ clauseE x = 0
theorem Fit'.up {w w' : World} {cs : List Cl} (h : Fit' w cs) (hb : Below w.heap.size w w') : Fit' w' cs := fun x hx => ⟨(h x hx).1.up hb, (h x hx).2⟩
theorem clause_small {x : Cl} (h : clauseE x = 0) : x.tot.length ≤ 136 ∧ x.ls.length ≤ 16 := ⟨tot_le h, (clauseE_parts h).2.1⟩
theorem tot_fine {x : Cl} (h : x.fines) : ∀ t ∈ x.tot, t.t.size ≤ maxLen := by
  intro t ht
  have hm : (9223372036854775807 : Nat) = maxLen := rfl
  unfold Cl.tot at ht
  rcases List.mem_append.1 ht with ht | ht
  · exact h.1.2 t ht
  · obtain ⟨y, hy, ht⟩ := List.mem_flatMap.1 ht
    have hyf := h.2 y hy
    unfold Li.terms at ht
    split at ht
    · simp only [List.mem_cons, List.not_mem_nil, or_false] at ht
      rcases ht with rfl | rfl
      · exact hyf.2.1
      · exact hyf.2.2
    · exact hyf.1.2 t ht
theorem covers_call {w : World} {cs : List Cl} (h : Fit' w cs) {x y : Cl} (hx : x ∈ cs) (hy : y ∈ cs) {W : World} (hb : Below w.heap.size w W) :
    Calls Try.prog 25 #[.agg x.cells.toArray, .agg y.cells.toArray] W fun e w' => e = .returned (.bool (coversD x y)) ∧ Below W.heap.size W w' :=
  covers_ref x y W ((h x hx).1.up hb) ((h y hy).1.up hb) (h x hx).2.1 (h y hy).2.1 (h x hx).2.2.1 (h y hy).2.2.1
theorem againP_call {w : World} {cs : List Cl} (h : Fit' w cs) {x y : Cl} (hx : x ∈ cs) (hy : y ∈ cs) {W : World} (hb : Below w.heap.size w W) :
    Calls Try.prog 60 #[.agg x.cells.toArray, .agg y.cells.toArray] W fun e w' => e = .returned (.bool (againR y x)) ∧ Below W.heap.size W w' := by
  obtain ⟨h1, h2⟩ := clause_small (h x hx).2.2.2
  obtain ⟨h3, h4⟩ := clause_small (h y hy).2.2.2
  rw [← againPR (h x hx).2.2.2 (h y hy).2.2.2]
  exact again_any x y W ((h x hx).1.up hb) ((h y hy).1.up hb) (by omega) (by omega) (tot_fine (h x hx).2.1) (tot_fine (h y hy).2.1)
theorem coversP_call {w : World} {cs : List Cl} (h : Fit' w cs) {x y : Cl} (hx : x ∈ cs) (hy : y ∈ cs) {W : World} (hb : Below w.heap.size w W) :
    Calls Try.prog 47 #[.agg x.cells.toArray, .agg y.cells.toArray] W fun e w' => e = .returned (.bool (coversD x y)) ∧ Below W.heap.size W w' := by
  obtain ⟨h1, h2⟩ := clause_small (h x hx).2.2.2
  obtain ⟨h3, h4⟩ := clause_small (h y hy).2.2.2
  rw [← coversPD (h x hx).2.2.2 (h y hy).2.2.2]
  exact covers_any x y W ((h x hx).1.up hb) ((h y hy).1.up hb) (by omega) (by omega) (by omega) (tot_fine (h x hx).2.1)

end Go.Proofs.Ytjcgkplphiedjaa

namespace Go.Proofs.Ytjcgkplphiedjaa
open Go.RowKit Go.Sort

end Go.Proofs.Ytjcgkplphiedjaa

namespace Go.Proofs.Ytjcgkplphiedjaa
open Go.RowKit Go.Sort

set_option maxRecDepth 200000 in
set_option maxHeartbeats 16000000 in
theorem others_any (A : Option Addr) (n c : Nat) (cs : List Cl) (i : Nat) (x : Cl) (hi : i < n) (hx : cs[i]? = some x) (w : World) (hr : Rd w w.heap.size 4 A n (ccells cs)) (hf : Fit' w cs) :
    Calls Try.prog 40 #[.slice A n c, .int .i64 i] w fun e w' => ∃ A' c', e = .returned (.slice A' (othersF cs i x).length c') ∧ Rd w' w'.heap.size 5 A' (othersF cs i x).length (fcells (othersF cs i x)) ∧ (A' = none → c' = 0) ∧ Below w.heap.size w w' := by
  have hl : cs.length = n := by have := hr.1; rw [ccells_length] at this; omega
  have hnb := hr.2.1
  have HL := Lib.hid hl
  have HR := Lib.hid hr
  have HF := Lib.hid hf
  have HX := Lib.hid hx
  have HTL : Hid ((cs.take i).length = i) := Lib.hid (by rw [List.length_take]; omega)
  have HV : Hid (firstI (fun _ y => againR x y) 0 ((cs.take i).drop 0) = twiceO cs i x) := Lib.hid rfl
  have HV2 : Hid (firstI (covB i x) 0 (cs.drop 0) = coveredO cs i x) := Lib.hid rfl
  have HO1 : Hid (∀ j, twiceO cs i x = some j → othersF cs i x = [⟨1, i, j, x.h.o, noS⟩]) := Lib.hid (fun j h => by unfold othersF; rw [h])
  have HO2 : Hid (twiceO cs i x = none → ∀ j, coveredO cs i x = some j → othersF cs i x = [⟨2, i, j, x.h.o, noS⟩]) := Lib.hid (fun h j h2 => by unfold othersF; rw [h, h2])
  have HO3 : Hid (twiceO cs i x = none → coveredO cs i x = none → othersF cs i x = []) := Lib.hid (fun h h2 => by unfold othersF; rw [h, h2])
  clear hl hr hf hx
  generalize othersF cs i x = O at *
  generalize twiceO cs i x = tw at *
  generalize coveredO cs i x = cv at *
  go_enter Try.func40, Try.ntmps40
  go_upto_region 2 with (fail)
  generalize hR : w.heap.size = R at *
  have HRR := Lib.hid hR
  clear hR
  go_loopg [8] i (fun gk u8 wr => ∃ j : Nat, u8 = .int .i64 j ∧ j ≤ i ∧ Hid (gk = i - j) ∧ Hid (Below R w wr) ∧ Hid (firstI (fun _ y => againR x y) j ((cs.take i).drop j) = tw))
  case atStart => exact ⟨0, rfl, Nat.zero_le _, Lib.hid (by omega), Lib.hid (Below.refl _ _), HV⟩
  case round =>
    clear HV
    obtain ⟨j, rfl, hj, HG, HB, HV⟩ := hrel
    have hsr : R ≤ wr.heap.size := by have := HB.out.size; rw [HRR.out] at this; exact this
    by_cases hlt : j < i
    · have hjn : j < n := by omega
      obtain ⟨b, s, hk1, hk2, rfl, hB, hcx, hcy⟩ := (HR.out.below HB.out).two Cl.cells 4 (fun _ => rfl) (by omega) i j hi hjn
      have hxi : cs[i] = x := by
        have := HX.out
        rw [List.getElem?_eq_getElem hk1] at this
        injection this
      have HS : Hid (tw = if againR x cs[j] = true then some j else firstI (fun _ y => againR x y) (j + 1) ((cs.take i).drop (j + 1))) := Lib.hid (by
        rw [← HV.out, firstI_drop _ (cs.take i) j (by rw [HTL.out]; exact hlt)]
        simp only [List.getElem_take])
      have HCA : Hid (∀ d' os, Calls Try.prog 60 #[.agg cs[j].cells.toArray, .agg cs[i].cells.toArray] (grow (redrawn wr d') os) fun e w' => e = .returned (.bool (againR cs[i] cs[j])) ∧ Below (grow (redrawn wr d') os).heap.size (grow (redrawn wr d') os) w') := Lib.hid (fun d' os =>
        againP_call HF.out (List.getElem_mem hk2) (List.getElem_mem hk1) (HRR.out ▸ HB.out.trans ((below_regrown wr d' os).mono hsr)))
      clear HV
      rw [hxi] at hcx HCA
      generalize cs[j] = y at *
      generalize hq : againR x y = q at *
      clear hxi hq
      obtain ⟨⟨xp, xA, xn, xc, xo, xes⟩, xB, xm, xd, xls⟩ := x
      obtain ⟨⟨yp, yA, yn, yc, yo, yes⟩, yB, ym, yd, yls⟩ := y
      have c0 := hcx 0 _ (by omega) rfl
      have c1 := hcx 1 _ (by omega) rfl
      have c2 := hcx 2 _ (by omega) rfl
      have c3 := hcx 3 _ (by omega) rfl
      have d0 := hcy 0 _ (by omega) rfl
      have d1 := hcy 1 _ (by omega) rfl
      have d2 := hcy 2 _ (by omega) rfl
      have d3 := hcy 3 _ (by omega) rfl
      clear hcx hcy
      rw [Nat.add_zero] at c0 d0
      dsimp only at c0 c1 c2 c3 d0 d1 d2 d3 HO1 HO2
      dsimp only [Cl.cells] at HCA
      go_upto_region 4 with (fail)
      have ec0 := cell_regrown c0
      have ec1 := cell_regrown c1
      have ec2 := cell_regrown c2
      have ec3 := cell_regrown c3
      have ed0 := cell_regrown d0
      have ed1 := cell_regrown d1
      have ed2 := cell_regrown d2
      have ed3 := cell_regrown d3
      have hBr : b < wr.heap.size := by omega
      have cA : ∀ d' os, Calls Try.prog 60 #[.agg #[.string yp, .slice yA yn yc, .int .i64 yo, .slice yB ym yd], .agg #[.string xp, .slice xA xn xc, .int .i64 xo, .slice xB xm xd]] (grow (redrawn wr d') os) fun e w'' => e = .returned (.bool q) ∧ ∃ p : Regrown, w'' = grow (redrawn wr p.d) p.os := fun d' os => Calls.regrown_of (HCA.out d' os)
      refine wp_region_quiet_below (by kernel_rfl) (by kernel_rfl) ?_
      repeat (go_big_quiet_step (first | with_reducible exact cA _ _))
      refine wpQuiet_nil ?_
      intro w6 hw6
      obtain ⟨⟨dq, osq⟩, rfl⟩ := hw6
      have KB := Lib.hid (HB.out.trans ((below_regrown wr dq osq).mono hsr))
      have k2 := ((below_regrown wr dq osq).cell (p := ⟨b, s + i * 4 + 2, none⟩) hBr).trans c2
      clear c0 c1 c2 c3 d0 d1 d2 d3 ec0 ec1 ec2 ec3 ed0 ed1 ed2 ed3 cA HCA HB
      generalize hW : grow _ _ = w7 at *
      clear hW
      have hs7 : R ≤ w7.heap.size := by have := KB.out.size; rw [HRR.out] at this; exact this
      cases q with
      | true =>
        have hO : O = [⟨1, i, j, xo, noS⟩] := HO1.out j (by rw [HS.out, if_pos rfl])
        subst hO
        clear HS
        have KC := Lib.hid ((Below.refl w7.heap.size w7).alloc (Nat.le_refl _) (.cells #[.int .i64 1, .int .i64 i, .int .i64 j, .int .i64 xo, .string ⟨#[]⟩] 51))
        have KD := Lib.hid (Rd_new w7 #[.int .i64 1, .int .i64 i, .int .i64 j, .int .i64 xo, .string ⟨#[]⟩] 51 5 1 rfl (by omega))
        go_wp2
        go_ret
        exact ⟨_, _, by rfl, KD.out, (fun h => nomatch h), by rw [HRR.out]; exact KB.out.trans (KC.out.mono hs7)⟩
      | false =>
        have HN : Hid (firstI (fun _ y => againR ⟨⟨xp, xA, xn, xc, xo, xes⟩, xB, xm, xd, xls⟩ y) (j + 1) ((cs.take i).drop (j + 1)) = tw) := Lib.hid (by rw [HS.out]; simp)
        clear HS k2
        go_wp2
        go_roundg (i - (j + 1))
        case measure => have := HG.out; omega
        case rel => exact ⟨j + 1, by go_num, by omega, Lib.hid rfl, KB, HN⟩
    · have htw : tw = none := by rw [← HV.out, firstI_end _ (cs.take i) j j (by have := HTL.out; omega)]
      subst htw
      replace HO2 := Lib.hid (HO2.out rfl)
      replace HO3 := Lib.hid (HO3.out rfl)
      clear HV HO1
      go_upto_region 8 with (fail)
      generalize hwo : wr = wo at *
      clear hwo hsr
      go_loopg [33] n (fun gj u33 wr => ∃ j : Nat, u33 = .int .i64 j ∧ j ≤ n ∧ Hid (gj = n - j) ∧ Hid (Below R w wr) ∧ Hid (firstI (covB i x) j (cs.drop j) = cv))
      case atStart => exact ⟨0, rfl, Nat.zero_le _, Lib.hid (by omega), HB, HV2⟩
      case round =>
        clear HV2 HB hlt hj
        clear HG
        obtain ⟨j, rfl, hj, HG2, HB, HV⟩ := hrel
        have hsr : R ≤ wr.heap.size := by have := HB.out.size; rw [HRR.out] at this; exact this
        by_cases hjn : j < n
        · obtain ⟨b, s, hk1, hk2, rfl, hB, hcx, hcy⟩ := (HR.out.below HB.out).two Cl.cells 4 (fun _ => rfl) (by omega) i j hi hjn
          have hxi : cs[i] = x := by
            have := HX.out
            rw [List.getElem?_eq_getElem hk1] at this
            injection this
          have HS : Hid (cv = if covB i x j cs[j] = true then some j else firstI (covB i x) (j + 1) (cs.drop (j + 1))) := Lib.hid (by
            rw [← HV.out, firstI_drop _ cs j hk2])
          have HCA : Hid (∀ W, Below R w W → Calls Try.prog 47 #[.agg cs[j].cells.toArray, .agg cs[i].cells.toArray] W fun e w' => e = .returned (.bool (coversD cs[j] cs[i])) ∧ Below W.heap.size W w') := Lib.hid (fun W hb =>
            coversP_call HF.out (List.getElem_mem hk2) (List.getElem_mem hk1) (HRR.out ▸ hb))
          have HCB : Hid (∀ W, Below R w W → Calls Try.prog 47 #[.agg cs[i].cells.toArray, .agg cs[j].cells.toArray] W fun e w' => e = .returned (.bool (coversD cs[i] cs[j])) ∧ Below W.heap.size W w') := Lib.hid (fun W hb =>
            coversP_call HF.out (List.getElem_mem hk1) (List.getElem_mem hk2) (HRR.out ▸ hb))
          clear HV
          rw [hxi] at hcx HCA HCB
          generalize cs[j] = y at *
          have HCB2 : Hid (covB i x j y = (decide (j ≠ i) && (coversD y x && (decide (j < i) || !coversD x y)))) := Lib.hid rfl
          generalize covB i x j y = cb at *
          generalize coversD y x = qa at *
          generalize coversD x y = qb at *
          clear hxi
          obtain ⟨⟨xp, xA, xn, xc, xo, xes⟩, xB, xm, xd, xls⟩ := x
          obtain ⟨⟨yp, yA, yn, yc, yo, yes⟩, yB, ym, yd, yls⟩ := y
          have c0 := hcx 0 _ (by omega) rfl
          have c1 := hcx 1 _ (by omega) rfl
          have c2 := hcx 2 _ (by omega) rfl
          have c3 := hcx 3 _ (by omega) rfl
          have d0 := hcy 0 _ (by omega) rfl
          have d1 := hcy 1 _ (by omega) rfl
          have d2 := hcy 2 _ (by omega) rfl
          have d3 := hcy 3 _ (by omega) rfl
          clear hcx hcy
          rw [Nat.add_zero] at c0 d0
          dsimp only at c0 c1 c2 c3 d0 d1 d2 d3 HO2
          dsimp only [Cl.cells] at HCA HCB
          go_upto_region 10 with (fail)
          have ec0 := cell_regrown c0
          have ec1 := cell_regrown c1
          have ec2 := cell_regrown c2
          have ec3 := cell_regrown c3
          have ed0 := cell_regrown d0
          have ed1 := cell_regrown d1
          have ed2 := cell_regrown d2
          have ed3 := cell_regrown d3
          have hBr : b < wr.heap.size := by omega
          have cA : ∀ d' os, Calls Try.prog 47 #[.agg #[.string yp, .slice yA yn yc, .int .i64 yo, .slice yB ym yd], .agg #[.string xp, .slice xA xn xc, .int .i64 xo, .slice xB xm xd]] (grow (redrawn wr d') os) fun e w'' => e = .returned (.bool qa) ∧ ∃ p : Regrown, w'' = grow (redrawn wr p.d) p.os := fun d' os => Calls.regrown_of (HCA.out _ (HB.out.trans ((below_regrown wr d' os).mono hsr)))
          have cB : ∀ d' os, Calls Try.prog 47 #[.agg #[.string xp, .slice xA xn xc, .int .i64 xo, .slice xB xm xd], .agg #[.string yp, .slice yA yn yc, .int .i64 yo, .slice yB ym yd]] (grow (redrawn wr d') os) fun e w'' => e = .returned (.bool qb) ∧ ∃ p : Regrown, w'' = grow (redrawn wr p.d) p.os := fun d' os => Calls.regrown_of (HCB.out _ (HB.out.trans ((below_regrown wr d' os).mono hsr)))
          clear HCA HCB
          by_cases hji : j = i
          · have t1 : ((j : Int) != (i : Int)) = false := by simp; omega
            have t2 : ((j : Int) == (i : Int)) = true := by simp; omega
            refine wp_region_quiet_below (by kernel_rfl) (by kernel_rfl) ?_
            repeat (go_big_quiet_step (first | with_reducible exact cA _ _ | with_reducible exact cB _ _))
            refine wpQuiet_nil ?_
            intro w6 hw6
            obtain ⟨⟨dq, osq⟩, rfl⟩ := hw6
            have KB := Lib.hid (HB.out.trans ((below_regrown wr dq osq).mono hsr))
            have k2 := ((below_regrown wr dq osq).cell (p := ⟨b, s + i * 4 + 2, none⟩) hBr).trans c2
            clear c0 c1 c2 c3 d0 d1 d2 d3 ec0 ec1 ec2 ec3 ed0 ed1 ed2 ed3 cA cB HB
            generalize hW : grow _ _ = w7 at *
            clear hW
            have hs7 : R ≤ w7.heap.size := by have := KB.out.size; rw [HRR.out] at this; exact this
            have HN : Hid (firstI (covB i ⟨⟨xp, xA, xn, xc, xo, xes⟩, xB, xm, xd, xls⟩) (j + 1) (cs.drop (j + 1)) = cv) := Lib.hid (by rw [HS.out, if_neg (by rw [HCB2.out, decide_eq_false (fun h => h hji)]; simp)])
            clear HS HCB2 k2
            go_wp2
            go_roundg (n - (j + 1))
            case measure => have := HG2.out; omega
            case rel => exact ⟨j + 1, by go_num, by omega, Lib.hid rfl, KB, HN⟩
          have t1 : ((j : Int) != (i : Int)) = true := by simp; omega
          have t2 : ((j : Int) == (i : Int)) = false := by simp; omega
          have hdj : decide (j ≠ i) = true := decide_eq_true hji
          cases qa with
          | false =>
            refine wp_region_quiet_below (by kernel_rfl) (by kernel_rfl) ?_
            repeat (go_big_quiet_step (first | with_reducible exact cA _ _ | with_reducible exact cB _ _))
            refine wpQuiet_nil ?_
            intro w6 hw6
            obtain ⟨⟨dq, osq⟩, rfl⟩ := hw6
            have KB := Lib.hid (HB.out.trans ((below_regrown wr dq osq).mono hsr))
            have k2 := ((below_regrown wr dq osq).cell (p := ⟨b, s + i * 4 + 2, none⟩) hBr).trans c2
            clear c0 c1 c2 c3 d0 d1 d2 d3 ec0 ec1 ec2 ec3 ed0 ed1 ed2 ed3 cA cB HB
            generalize hW : grow _ _ = w7 at *
            clear hW
            have hs7 : R ≤ w7.heap.size := by have := KB.out.size; rw [HRR.out] at this; exact this
            have HN : Hid (firstI (covB i ⟨⟨xp, xA, xn, xc, xo, xes⟩, xB, xm, xd, xls⟩) (j + 1) (cs.drop (j + 1)) = cv) := Lib.hid (by rw [HS.out, if_neg (by rw [HCB2.out]; simp)])
            clear HS HCB2 k2
            go_wp2
            go_roundg (n - (j + 1))
            case measure => have := HG2.out; omega
            case rel => exact ⟨j + 1, by go_num, by omega, Lib.hid rfl, KB, HN⟩
          | true =>
            by_cases hlo : j < i
            · have t3 : decide ((j : Int) < (i : Int)) = true := decide_eq_true (by omega)
              refine wp_region_quiet_below (by kernel_rfl) (by kernel_rfl) ?_
              repeat (go_big_quiet_step (first | with_reducible exact cA _ _ | with_reducible exact cB _ _))
              refine wpQuiet_nil ?_
              intro w6 hw6
              obtain ⟨⟨dq, osq⟩, rfl⟩ := hw6
              have KB := Lib.hid (HB.out.trans ((below_regrown wr dq osq).mono hsr))
              have k2 := ((below_regrown wr dq osq).cell (p := ⟨b, s + i * 4 + 2, none⟩) hBr).trans c2
              clear c0 c1 c2 c3 d0 d1 d2 d3 ec0 ec1 ec2 ec3 ed0 ed1 ed2 ed3 cA cB HB
              generalize hW : grow _ _ = w7 at *
              clear hW
              have hs7 : R ≤ w7.heap.size := by have := KB.out.size; rw [HRR.out] at this; exact this
              have hO : O = [⟨2, i, j, xo, noS⟩] := HO2.out j (by rw [HS.out, if_pos (by rw [HCB2.out, hdj, decide_eq_true hlo]; simp)])
              subst hO
              clear HS HCB2
              have KC := Lib.hid ((Below.refl w7.heap.size w7).alloc (Nat.le_refl _) (.cells #[.int .i64 2, .int .i64 i, .int .i64 j, .int .i64 xo, .string ⟨#[]⟩] 51))
              have KD := Lib.hid (Rd_new w7 #[.int .i64 2, .int .i64 i, .int .i64 j, .int .i64 xo, .string ⟨#[]⟩] 51 5 1 rfl (by omega))
              go_wp2
              go_ret
              exact ⟨_, _, by rfl, KD.out, (fun h => nomatch h), by rw [HRR.out]; exact KB.out.trans (KC.out.mono hs7)⟩
            · have t3 : decide ((j : Int) < (i : Int)) = false := decide_eq_false (by omega)
              cases qb with
              | true =>
                refine wp_region_quiet_below (by kernel_rfl) (by kernel_rfl) ?_
                repeat (go_big_quiet_step (first | with_reducible exact cA _ _ | with_reducible exact cB _ _))
                refine wpQuiet_nil ?_
                intro w6 hw6
                obtain ⟨⟨dq, osq⟩, rfl⟩ := hw6
                have KB := Lib.hid (HB.out.trans ((below_regrown wr dq osq).mono hsr))
                have k2 := ((below_regrown wr dq osq).cell (p := ⟨b, s + i * 4 + 2, none⟩) hBr).trans c2
                clear c0 c1 c2 c3 d0 d1 d2 d3 ec0 ec1 ec2 ec3 ed0 ed1 ed2 ed3 cA cB HB
                generalize hW : grow _ _ = w7 at *
                clear hW
                have hs7 : R ≤ w7.heap.size := by have := KB.out.size; rw [HRR.out] at this; exact this
                have HN : Hid (firstI (covB i ⟨⟨xp, xA, xn, xc, xo, xes⟩, xB, xm, xd, xls⟩) (j + 1) (cs.drop (j + 1)) = cv) := Lib.hid (by rw [HS.out, if_neg (by rw [HCB2.out, decide_eq_false hlo]; simp)])
                clear HS HCB2 k2
                go_wp2
                go_roundg (n - (j + 1))
                case measure => have := HG2.out; omega
                case rel => exact ⟨j + 1, by go_num, by omega, Lib.hid rfl, KB, HN⟩
              | false =>
                refine wp_region_quiet_below (by kernel_rfl) (by kernel_rfl) ?_
                repeat (go_big_quiet_step (first | with_reducible exact cA _ _ | with_reducible exact cB _ _))
                refine wpQuiet_nil ?_
                intro w6 hw6
                obtain ⟨⟨dq, osq⟩, rfl⟩ := hw6
                have KB := Lib.hid (HB.out.trans ((below_regrown wr dq osq).mono hsr))
                have k2 := ((below_regrown wr dq osq).cell (p := ⟨b, s + i * 4 + 2, none⟩) hBr).trans c2
                clear c0 c1 c2 c3 d0 d1 d2 d3 ec0 ec1 ec2 ec3 ed0 ed1 ed2 ed3 cA cB HB
                generalize hW : grow _ _ = w7 at *
                clear hW
                have hs7 : R ≤ w7.heap.size := by have := KB.out.size; rw [HRR.out] at this; exact this
                have hO : O = [⟨2, i, j, xo, noS⟩] := HO2.out j (by rw [HS.out, if_pos (by rw [HCB2.out, hdj]; simp)])
                subst hO
                clear HS HCB2
                have KC := Lib.hid ((Below.refl w7.heap.size w7).alloc (Nat.le_refl _) (.cells #[.int .i64 2, .int .i64 i, .int .i64 j, .int .i64 xo, .string ⟨#[]⟩] 51))
                have KD := Lib.hid (Rd_new w7 #[.int .i64 2, .int .i64 i, .int .i64 j, .int .i64 xo, .string ⟨#[]⟩] 51 5 1 rfl (by omega))
                go_wp2
                go_ret
                exact ⟨_, _, by rfl, KD.out, (fun h => nomatch h), by rw [HRR.out]; exact KB.out.trans (KC.out.mono hs7)⟩
        · have hcv : cv = none := by rw [← HV.out, firstI_end _ cs j j (by have := HL.out; omega)]
          have hO := HO3.out hcv
          subst hO
          clear HV
          go_wp2
          go_ret
          exact ⟨none, 0, by rfl, ⟨rfl, Nat.zero_le _, fun h => absurd h (Nat.lt_irrefl 0)⟩, fun _ => rfl, by rw [HRR.out]; exact HB.out⟩
end Go.Proofs.Ytjcgkplphiedjaa
