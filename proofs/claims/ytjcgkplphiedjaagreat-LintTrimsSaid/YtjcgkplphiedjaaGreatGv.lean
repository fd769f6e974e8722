/- A negated literal whose atom stands in the body too: the document's refuted. | The place of the first literal at fault: the document's at. -/
import Derived.Test.YtjcgkplphiedjaaGreatGs
import Derived.Test.YtjcgkplphiedjaaGreatGt
namespace Go.Proofs.YtjcgkplphiedjaaGreat
open Go.RowKit Go.Sort

theorem any_drop {α : Type} (f : α → Bool) (l : List α) (k : Nat) (h : k < l.length) : (l.drop k).any f = (f l[k] || (l.drop (k + 1)).any f) := by
  rw [List.drop_eq_getElem_cons h]; rfl
theorem any_end {α : Type} (f : α → Bool) (l : List α) (k : Nat) (h : l.length ≤ k) : (l.drop k).any f = false := by
  rw [List.drop_eq_nil_of_le h]; rfl
theorem sameT_eq (a b : T) : sameT a b = ((a.k == b.k) && ((a.i == b.i) && ((a.t.toList == b.t.toList) && !((a.k == 4) && (a.t.toList == [95]))))) := by
  unfold sameT likeT like T.nn noName
  cases (a.k == b.k) <;> cases (a.i == b.i) <;> cases (a.t.toList == b.t.toList) <;> simp

set_option maxRecDepth 200000 in
set_option maxHeartbeats 16000000 in
theorem refuted_ref (B : Option Addr) (m d : Nat) (ls : List Li) (y : Li) (w : World) (hr : Rd w w.heap.size 14 B m (lcells ls)) (hok : ∀ x ∈ ls, Li.ok w x) (hy : Li.ok w y) :
    Calls Tryz.prog 33 #[.slice B m d, .agg y.cells.toArray] w fun e w' => e = .returned (.bool (refB ls y)) ∧ Below w.heap.size w w' := by
  have hl : ls.length = m := by have := hr.1; rw [lcells_length] at this; omega
  have hnb := hr.2.1
  have HR := Lib.hid hr
  have HL := Lib.hid hl
  have HOK := Lib.hid hok
  have HY := Lib.hid hy.1
  have HV : Hid (refB ls y = ((y.k == 2) && ls.any fun m => meetsB m y)) := Lib.hid rfl
  have HGM : Hid (∀ x, meetsB x y = ((x.k == 1) && ((x.a.p.toList == y.a.p.toList) && eqTs x.a.es y.a.es))) := Lib.hid (fun _ => rfl)
  clear hr hl hok hy
  generalize refB ls y = v at *
  generalize hgg : (fun m => meetsB m y) = gg at *
  have HG0 : Hid (∀ x, gg x = ((x.k == 1) && ((x.a.p.toList == y.a.p.toList) && eqTs x.a.es y.a.es))) := Lib.hid (fun x => by rw [← hgg]; exact HGM.out x)
  clear hgg HGM
  obtain ⟨k, ⟨p, A, n, c, o, es⟩, op, ⟨lk, li, lt, lo⟩, ⟨rk, ri, rt, ro⟩, of⟩ := y
  dsimp only at HY HV HG0
  show Calls Tryz.prog 33 #[.slice B m d, .agg #[.int .i64 k, .string p, .slice A n c, .int .i64 o, .int .i64 op, .int .i64 lk, .int .i64 li, .string lt, .int .i64 lo, .int .i64 rk, .int .i64 ri, .string rt, .int .i64 ro, .int .i64 of]] w _
  go_enter Tryz.func33, Tryz.ntmps33
  go_upto_region 1 with (fail)
  have hb1 := (Below.refl w.heap.size w).alloc (Nat.le_refl _) (.cells #[.int .i64 k, .string p, .slice A n c, .int .i64 o, .int .i64 op, .int .i64 lk, .int .i64 li, .string lt, .int .i64 lo, .int .i64 rk, .int .i64 ri, .string rt, .int .i64 ro, .int .i64 of] 46)
  have H1 := Lib.hid (Blk.new w 46 [.int .i64 k, .string p, .slice A n c, .int .i64 o, .int .i64 op, .int .i64 lk, .int .i64 li, .string lt, .int .i64 lo, .int .i64 rk, .int .i64 ri, .string rt, .int .i64 ro, .int .i64 of])
  generalize World.alloc _ _ = w1 at *
  generalize hR : w.heap.size = R at *
  have HRR := Lib.hid hR
  clear hR
  have HB1 := Lib.hid hb1
  clear hb1
  have f0 := (H1.out.cell 0).trans rfl
  by_cases hk : k = 2
  rotate_left
  · have hv : v = false := by rw [HV.out]; simp [hk]
    have t1 : (k != 2) = true := by simpa using hk
    subst hv
    clear HV hk
    go_wp2
    go_ret
    exact ⟨by rfl, by rw [HRR.out]; exact HB1.out⟩
  subst hk
  replace HV : Hid ((ls.drop 0).any gg = v) := Lib.hid (by rw [HV.out]; simp)
  have hyl : es.length = n := by have := HY.out.1; rw [tcells_length] at this; omega
  have hyn := HY.out.2.1
  have HYL := Lib.hid hyl
  clear hyl
  go_upto_region 4 with (fail)
  clear f0
  go_loopg [5] m (fun gk u5 wr => ∃ j : Nat, u5 = .int .i64 j ∧ j ≤ m ∧ Hid (gk = m - j) ∧ Hid (Below R w wr) ∧ Hid (Blk wr R 46 [.int .i64 2, .string p, .slice A n c, .int .i64 o, .int .i64 op, .int .i64 lk, .int .i64 li, .string lt, .int .i64 lo, .int .i64 rk, .int .i64 ri, .string rt, .int .i64 ro, .int .i64 of]) ∧ Hid ((ls.drop j).any gg = v))
  case atStart => exact ⟨0, rfl, Nat.zero_le _, Lib.hid (by omega), HB1, H1, HV⟩
  case round =>
    clear HB1 H1 HV
    obtain ⟨j, rfl, hj, HG, HB, H1, HV⟩ := hrel
    have hsr : R ≤ wr.heap.size := by have := HB.out.size; rw [HRR.out] at this; exact this
    by_cases hlt : j < m
    · obtain ⟨b, s, hk1, rfl, hB, hcc⟩ := (HR.out.below HB.out).at Li.cells 14 (fun _ => rfl) (by omega) j hlt
      have HXO := Lib.hid (HOK.out ls[j] (List.getElem_mem hk1)).1
      have HS : Hid (v = (gg ls[j] || (ls.drop (j + 1)).any gg)) := Lib.hid (by rw [← HV.out]; exact any_drop gg ls j hk1)
      have HG1 := Lib.hid (HG0.out ls[j])
      clear HV
      generalize ls[j] = x at *
      generalize gg x = q at *
      obtain ⟨xk, ⟨xp, xA, xn, xc, xo, xes⟩, xop, ⟨xlk, xli, xlt, xlo⟩, ⟨xrk, xri, xrt, xro⟩, xof⟩ := x
      have c0 := hcc 0 _ (by omega) rfl
      have c1 := hcc 1 _ (by omega) rfl
      have c2 := hcc 2 _ (by omega) rfl
      have c3 := hcc 3 _ (by omega) rfl
      clear hcc
      rw [Nat.add_zero] at c0
      dsimp only at c0 c1 c2 c3 HXO HG1
      have hxn := HXO.out.2.1
      have hxl : xes.length = xn := by have := HXO.out.1; rw [tcells_length] at this; omega
      have HXL := Lib.hid hxl
      clear hxl
      go_upto_region 7 with (fail)
      have hba := (Below.refl wr.heap.size wr).alloc (Nat.le_refl _) (.cells #[.string xp, .slice xA xn xc, .int .i64 xo] 34)
      have M1 := Lib.hid (Blk.new wr 34 [.string xp, .slice xA xn xc, .int .i64 xo])
      have K1 := Lib.hid (H1.out.alloc (.cells #[.string xp, .slice xA xn xc, .int .i64 xo] 34))
      have KB := Lib.hid (HB.out.trans (hba.mono hsr))
      have hBr : b < wr.heap.size := by omega
      have c0 := (hba.cell (p := ⟨b, s + j * 14, none⟩) hBr).trans c0
      clear hba HB H1 c1 c2 c3
      generalize World.alloc _ _ = w2 at *
      generalize wr.heap.size = Z at *
      have hZ2 : Z < w2.heap.size := M1.out.lt
      have f0 := (M1.out.cell 0).trans rfl
      have f1 := (M1.out.cell 1).trans rfl
      have g1 := (K1.out.cell 1).trans rfl
      have g2 := (K1.out.cell 2).trans rfl
      by_cases hk2 : xk = 1
      rotate_left
      · have hq : q = false := by rw [HG1.out]; simp [hk2]
        have t1 : (xk != 1) = true := by simpa using hk2
        have HN : Hid ((ls.drop (j + 1)).any gg = v) := Lib.hid (by rw [HS.out, hq, Bool.false_or])
        clear HS HG1 hk2 hq
        go_wp2
        go_roundg (m - (j + 1))
        case measure => have := HG.out; omega
        case rel => exact ⟨j + 1, by go_num, by omega, Lib.hid rfl, KB, K1, HN⟩
      subst hk2
      cases hpp : (xp.toList == p.toList) with
      | false =>
        have hq : q = false := by rw [HG1.out, hpp]; simp
        have t1 : (xp.toList != p.toList) = true := by simp only [bne, hpp]; rfl
        have HN : Hid ((ls.drop (j + 1)).any gg = v) := Lib.hid (by rw [HS.out, hq, Bool.false_or])
        clear HS HG1 hq
        go_wp2
        go_roundg (m - (j + 1))
        case measure => have := HG.out; omega
        case rel => exact ⟨j + 1, by go_num, by omega, Lib.hid rfl, KB, K1, HN⟩
      | true =>
      have t1 : (xp.toList != p.toList) = false := by simp only [bne, hpp]; rfl
      by_cases hnn : xn = n
      rotate_left
      · have hq : q = false := by rw [HG1.out, eqTs_length xes es (by have := HXL.out; have := HYL.out; omega)]; simp
        have t2 : ((xn : Int) != (n : Int)) = true := by simp only [bne_iff_ne, ne_eq]; omega
        have t3 : ((xn : Int) == (n : Int)) = false := by simp only [beq_eq_false_iff_ne, ne_eq]; omega
        have HN : Hid ((ls.drop (j + 1)).any gg = v) := Lib.hid (by rw [HS.out, hq, Bool.false_or])
        clear HS HG1 hq hnn
        go_wp2
        go_roundg (m - (j + 1))
        case measure => have := HG.out; omega
        case rel => exact ⟨j + 1, by go_num, by omega, Lib.hid rfl, KB, K1, HN⟩
      subst hnn
      have HQ : Hid ((true && eqTs (xes.drop 0) (es.drop 0)) = q) := Lib.hid (by rw [HG1.out, hpp]; simp)
      clear HG1
      go_upto_region 10 with (fail)
      clear c0 f0 f1 g1 g2
      generalize hwo : wr = wo at *
      clear hwo
      go_loopg [7, 8] xn (fun gj u7 u8 wr => ∃ (a : Bool) (i : Nat), u7 = .bool a ∧ u8 = .int .i64 i ∧ i ≤ xn ∧ Hid (gj = xn - i) ∧ Hid (Below R w wr) ∧ Hid (Blk wr R 46 [.int .i64 2, .string p, .slice A xn c, .int .i64 o, .int .i64 op, .int .i64 lk, .int .i64 li, .string lt, .int .i64 lo, .int .i64 rk, .int .i64 ri, .string rt, .int .i64 ro, .int .i64 of]) ∧ Hid (Blk wr Z 34 [.string xp, .slice xA xn xc, .int .i64 xo]) ∧ Hid ((a && eqTs (xes.drop i) (es.drop i)) = q))
      case atStart => exact ⟨true, 0, rfl, rfl, Nat.zero_le _, Lib.hid (by omega), KB, K1, M1, HQ⟩
      case round =>
        clear KB K1 M1 HQ
        obtain ⟨a, i, rfl, rfl, hi, HGI, KB, K1, M1, HQ⟩ := hrel
        have hZr : Z < wr.heap.size := M1.out.lt
        have f1 := (M1.out.cell 1).trans rfl
        by_cases hli : i < xn
        · obtain ⟨b2, o2, hi1, hA2, hB2, d0, d1, d2, d3⟩ := ((HRR.out ▸ HXO.out : Rd w R 4 xA xn (tcells xes)).below KB.out).term i hli
          obtain ⟨b3, o3, hi2, hA3, hB3, e0, e1, e2, e3⟩ := ((HRR.out ▸ HY.out : Rd w R 4 A xn (tcells es)).below KB.out).term i hli
          subst hA2
          subst hA3
          have HT : Hid (q = (a && (sameT xes[i] es[i] && eqTs (xes.drop (i + 1)) (es.drop (i + 1))))) := Lib.hid (by rw [← HQ.out, eqTs_drop xes es i hi1 hi2])
          have HSE := Lib.hid (sameT_eq xes[i] es[i])
          clear HQ
          generalize xes[i] = z at *
          generalize es[i] = z' at *
          generalize sameT z z' = st at *
          obtain ⟨zk, zi, zt, zo⟩ := z
          obtain ⟨yk, yi, yt, yo⟩ := z'
          dsimp only at d0 d1 d2 d3 e0 e1 e2 e3 HSE
          go_upto_region 13 with (fail)
          have hba := (Below.refl wr.heap.size wr).alloc (Nat.le_refl _) (.cells #[.int .i64 zk, .int .i64 zi, .string zt, .int .i64 zo] 44)
          have L1 := Lib.hid (Blk.new wr 44 [.int .i64 zk, .int .i64 zi, .string zt, .int .i64 zo])
          have J1 := Lib.hid (K1.out.alloc (.cells #[.int .i64 zk, .int .i64 zi, .string zt, .int .i64 zo] 44))
          have N1 := Lib.hid (M1.out.alloc (.cells #[.int .i64 zk, .int .i64 zi, .string zt, .int .i64 zo] 44))
          have JB := Lib.hid (KB.out.trans (hba.mono (by have := KB.out.size; rw [HRR.out] at this; omega)))
          have hBr : b3 < wr.heap.size := by have := KB.out.size; rw [HRR.out] at this; omega
          have e0 := (hba.cell (p := ⟨b3, o3 + i * 4, none⟩) hBr).trans e0
          have e1 := (hba.cell (p := ⟨b3, o3 + i * 4 + 1, none⟩) hBr).trans e1
          have e2 := (hba.cell (p := ⟨b3, o3 + i * 4 + 2, none⟩) hBr).trans e2
          have e3 := (hba.cell (p := ⟨b3, o3 + i * 4 + 3, none⟩) hBr).trans e3
          have hRz : R ≤ wr.heap.size := by have := KB.out.size; rw [HRR.out] at this; exact this
          clear hba KB K1 M1 f1 d0 d1 d2 d3
          generalize World.alloc _ _ = w3 at *
          generalize wr.heap.size = V at *
          have g2 := (J1.out.cell 2).trans rfl
          have hV3 : V < w3.heap.size := L1.out.lt
          go_upto_region 14 with (fail)
          have hba := (Below.refl w3.heap.size w3).alloc (Nat.le_refl _) (.cells #[.int .i64 yk, .int .i64 yi, .string yt, .int .i64 yo] 44)
          have L2 := Lib.hid (Blk.new w3 44 [.int .i64 yk, .int .i64 yi, .string yt, .int .i64 yo])
          have L3 := Lib.hid (L1.out.alloc (.cells #[.int .i64 yk, .int .i64 yi, .string yt, .int .i64 yo] 44))
          have J2 := Lib.hid (J1.out.alloc (.cells #[.int .i64 yk, .int .i64 yi, .string yt, .int .i64 yo] 44))
          have N2 := Lib.hid (N1.out.alloc (.cells #[.int .i64 yk, .int .i64 yi, .string yt, .int .i64 yo] 44))
          have JC := Lib.hid (JB.out.trans (hba.mono (by omega)))
          clear hba JB J1 N1 L1 g2 e0 e1 e2 e3
          generalize World.alloc _ _ = w4 at *
          generalize w3.heap.size = V2 at *
          have d0 := (L3.out.cell 0).trans rfl
          have d1 := (L3.out.cell 1).trans rfl
          have d2 := (L3.out.cell 2).trans rfl
          have e0 := (L2.out.cell 0).trans rfl
          have e1 := (L2.out.cell 1).trans rfl
          have e2 := (L2.out.cell 2).trans rfl
          cases a with
          | false =>
            have HN : Hid ((false && eqTs (xes.drop (i + 1)) (es.drop (i + 1))) = q) := Lib.hid (by rw [HT.out]; simp)
            clear HT HSE
            go_wp2
            go_roundg (xn - (i + 1))
            case measure => have := HGI.out; omega
            case rel => exact ⟨false, i + 1, rfl, by go_num, by omega, Lib.hid rfl, JC, J2, N2, HN⟩
          | true =>
            have HN : ∀ st', st = st' → Hid ((st' && eqTs (xes.drop (i + 1)) (es.drop (i + 1))) = q) := fun st' h => Lib.hid (by rw [HT.out, h]; simp)
            have HN := Lib.hid HN
            clear HT
            by_cases q1 : zk = yk
            rotate_left
            · have hst : st = false := by rw [HSE.out]; simp [q1]
              have t2 : (zk == yk) = false := by simpa using q1
              have HM := HN.out false hst
              clear HSE HN hst q1
              go_wp2
              go_roundg (xn - (i + 1))
              case measure => have := HGI.out; omega
              case rel => exact ⟨false, i + 1, rfl, by go_num, by omega, Lib.hid rfl, JC, J2, N2, HM⟩
            subst q1
            by_cases q2 : zi = yi
            rotate_left
            · have hst : st = false := by rw [HSE.out]; simp [q2]
              have t2 : (zi == yi) = false := by simpa using q2
              have HM := HN.out false hst
              clear HSE HN hst q2
              go_wp2
              go_roundg (xn - (i + 1))
              case measure => have := HGI.out; omega
              case rel => exact ⟨false, i + 1, rfl, by go_num, by omega, Lib.hid rfl, JC, J2, N2, HM⟩
            subst q2
            cases q3 : (zt.toList == yt.toList) with
            | false =>
              have hst : st = false := by rw [HSE.out, q3]; simp
              have HM := HN.out false hst
              clear HSE HN hst
              go_wp2
              go_roundg (xn - (i + 1))
              case measure => have := HGI.out; omega
              case rel => exact ⟨false, i + 1, rfl, by go_num, by omega, Lib.hid rfl, JC, J2, N2, HM⟩
            | true =>
              by_cases q4 : zk = 4
              · cases q5 : (zt.toList == [95]) with
                | true =>
                  have hst : st = false := by rw [HSE.out, q4, q5]; simp
                  have HM := HN.out false hst
                  subst q4
                  clear HSE HN hst
                  go_wp2
                  go_roundg (xn - (i + 1))
                  case measure => have := HGI.out; omega
                  case rel => exact ⟨false, i + 1, rfl, by go_num, by omega, Lib.hid rfl, JC, J2, N2, HM⟩
                | false =>
                  have hst : st = true := by rw [HSE.out, q3, q5]; simp
                  have HM := HN.out true hst
                  subst q4
                  clear HSE HN hst
                  go_wp2
                  go_roundg (xn - (i + 1))
                  case measure => have := HGI.out; omega
                  case rel => exact ⟨true, i + 1, rfl, by go_num, by omega, Lib.hid rfl, JC, J2, N2, HM⟩
              · have t4 : (zk == 4) = false := by simpa using q4
                have hst : st = true := by rw [HSE.out, q3, t4]; simp
                have HM := HN.out true hst
                clear HSE HN hst q4
                go_wp2
                go_roundg (xn - (i + 1))
                case measure => have := HGI.out; omega
                case rel => exact ⟨true, i + 1, rfl, by go_num, by omega, Lib.hid rfl, JC, J2, N2, HM⟩
        · have hq : q = a := by rw [← HQ.out, eqTs_end xes es i (by have := HXL.out; omega) (by have := HYL.out; omega)]; simp
          subst hq
          clear HQ
          cases q with
          | true =>
            have hv : v = true := by rw [HS.out]; rfl
            subst hv
            clear HS
            go_wp2
            go_ret
            exact ⟨by rfl, by rw [HRR.out]; exact KB.out⟩
          | false =>
            have HN : Hid ((ls.drop (j + 1)).any gg = v) := Lib.hid (by rw [HS.out, Bool.false_or])
            clear HS
            go_wp2
            go_roundg (m - (j + 1))
            case measure => have := HG.out; omega
            case rel => exact ⟨j + 1, by go_num, by omega, Lib.hid rfl, KB, K1, HN⟩
    · have hv : v = false := by rw [← HV.out]; exact any_end gg ls j (by have := HL.out; omega)
      subst hv
      clear HV
      go_wp2
      go_ret
      exact ⟨by rfl, by rw [HRR.out]; exact HB.out⟩
end Go.Proofs.YtjcgkplphiedjaaGreat

namespace Go.Proofs.YtjcgkplphiedjaaGreat
open Go.RowKit Go.Sort

set_option maxRecDepth 200000 in
set_option maxHeartbeats 16000000 in
theorem at_ref (x : Cl) (w : World) (hx : Cl.ok w x) (hf : x.fines) :
    Calls Tryz.prog 15 #[.agg x.cells.toArray] w fun e w' => e = .returned (.int .i64 (optI (atO x))) ∧ Below w.heap.size w w' := by
  have HV : Hid (optI (firstI (fun _ l => faultB x.ls l) 0 (x.ls.drop 0)) = optI (atO x)) := Lib.hid rfl
  have HR := Lib.hid hx.2.1
  have HOK := Lib.hid hx.2.2.2
  have HF := Lib.hid hf.2
  have hnb := hx.2.1.2.1
  have hl : x.ls.length = x.n := by have := hx.2.1.1; rw [lcells_length] at this; omega
  have HL := Lib.hid hl
  clear hx hf hl
  generalize optI (atO x) = v at *
  obtain ⟨⟨hp, hA, hn, hc, ho, hes⟩, B, m, d, ls⟩ := x
  dsimp only at HV HR HOK HF HL hnb
  show Calls Tryz.prog 15 #[.agg #[.string hp, .slice hA hn hc, .int .i64 ho, .slice B m d]] w _
  go_enter Tryz.func15, Tryz.ntmps15
  go_upto_region 1 with (fail)
  have hb1 := (Below.refl w.heap.size w).alloc (Nat.le_refl _) (.cells #[.string hp, .slice hA hn hc, .int .i64 ho, .slice B m d] 37)
  have H1 := Lib.hid (Blk.new w 37 [.string hp, .slice hA hn hc, .int .i64 ho, .slice B m d])
  generalize World.alloc _ _ = w1 at *
  generalize hR : w.heap.size = R at *
  have HRR := Lib.hid hR
  clear hR
  have HB1 := Lib.hid hb1
  clear hb1
  go_upto_region 2 with (fail)
  go_loopg [3] m (fun gk u3 wr => ∃ j : Nat, u3 = .int .i64 j ∧ j ≤ m ∧ Hid (gk = m - j) ∧ Hid (Below R w wr) ∧ Hid (Blk wr R 37 [.string hp, .slice hA hn hc, .int .i64 ho, .slice B m d]) ∧ Hid (optI (firstI (fun _ l => faultB ls l) j (ls.drop j)) = v))
  case atStart => exact ⟨0, rfl, Nat.zero_le _, Lib.hid (by omega), HB1, H1, HV⟩
  case round =>
    clear HB1 H1 HV
    obtain ⟨j, rfl, hj, HG, HB, H1, HV⟩ := hrel
    have hsr : R ≤ wr.heap.size := by have := HB.out.size; rw [HRR.out] at this; exact this
    have f3 := (H1.out.cell 3).trans rfl
    by_cases hlt : j < m
    · obtain ⟨b, s, hk1, rfl, hB, hcc⟩ := (HR.out.below HB.out).at Li.cells 14 (fun _ => rfl) (by omega) j hlt
      have HS : Hid (v = optI (if faultB ls ls[j] = true then some j else firstI (fun _ l => faultB ls l) (j + 1) (ls.drop (j + 1)))) := Lib.hid (by rw [← HV.out, firstI_drop _ ls j hk1])
      have HVD := Lib.hid (fun W => verdict_ref ls[j] W (HF.out _ (List.getElem_mem hk1)))
      have HRF : Hid (∀ d' os, Calls Tryz.prog 33 #[.slice (some ⟨b, s, none⟩) m d, .agg ls[j].cells.toArray] (grow (redrawn wr d') os) fun e w' => e = .returned (.bool (refB ls ls[j])) ∧ Below (grow (redrawn wr d') os).heap.size (grow (redrawn wr d') os) w') := Lib.hid (fun d' os => by
        have hb := HB.out.trans ((below_regrown wr d' os).mono hsr)
        have hbw : Below w.heap.size w (grow (redrawn wr d') os) := HRR.out ▸ hb
        exact refuted_ref (some ⟨b, s, none⟩) m d ls ls[j] _ (HR.out.up hb (HRR.out ▸ hbw.size)) (fun z hz => At.ok.up (HOK.out z hz) hbw) (At.ok.up (HOK.out _ (List.getElem_mem hk1)) hbw))
      have HFB : Hid (faultB ls ls[j] = (voidB ls[j] || refB ls ls[j])) := Lib.hid rfl
      have HVN := Lib.hid (verdI_neg ls[j])
      clear HV
      generalize faultB ls ls[j] = fb at *
      generalize refB ls ls[j] = rb at *
      generalize ls[j] = x at *
      generalize voidB x = vo at *
      generalize verdI x = vd at *
      obtain ⟨k, ⟨p, A, n, c, o, es⟩, op, ⟨lk, li, lt, lo⟩, ⟨rk, ri, rt, ro⟩, of⟩ := x
      have c0 := hcc 0 _ (by omega) rfl
      have c1 := hcc 1 _ (by omega) rfl
      have c2 := hcc 2 _ (by omega) rfl
      have c3 := hcc 3 _ (by omega) rfl
      have c4 := hcc 4 _ (by omega) rfl
      have c5 := hcc 5 _ (by omega) rfl
      have c6 := hcc 6 _ (by omega) rfl
      have c7 := hcc 7 _ (by omega) rfl
      have c8 := hcc 8 _ (by omega) rfl
      have c9 := hcc 9 _ (by omega) rfl
      have c10 := hcc 10 _ (by omega) rfl
      have c11 := hcc 11 _ (by omega) rfl
      have c12 := hcc 12 _ (by omega) rfl
      have c13 := hcc 13 _ (by omega) rfl
      clear hcc
      rw [Nat.add_zero] at c0
      dsimp only at c0 c1 c2 c3 c4 c5 c6 c7 c8 c9 c10 c11 c12 c13
      dsimp only [Li.cells] at HVD HRF
      go_upto_region 4 with (fail)
      replace c0 := cell_regrown c0
      replace c1 := cell_regrown c1
      replace c2 := cell_regrown c2
      replace c3 := cell_regrown c3
      replace c4 := cell_regrown c4
      replace c5 := cell_regrown c5
      replace c6 := cell_regrown c6
      replace c7 := cell_regrown c7
      replace c8 := cell_regrown c8
      replace c9 := cell_regrown c9
      replace c10 := cell_regrown c10
      replace c11 := cell_regrown c11
      replace c12 := cell_regrown c12
      replace c13 := cell_regrown c13
      have f3 := cell_regrown f3
      have cV : ∀ d' os, Calls Tryz.prog 17 #[.agg #[.int .i64 k, .string p, .slice A n c, .int .i64 o, .int .i64 op, .int .i64 lk, .int .i64 li, .string lt, .int .i64 lo, .int .i64 rk, .int .i64 ri, .string rt, .int .i64 ro, .int .i64 of]] (grow (redrawn wr d') os) fun e w'' => e = .returned (.int .i64 vd) ∧ ∃ p : Regrown, w'' = grow (redrawn wr p.d) p.os := fun d' os => Calls.regrown_of (HVD.out _)
      have cR : ∀ d' os, Calls Tryz.prog 33 #[.slice (some ⟨b, s, none⟩) m d, .agg #[.int .i64 k, .string p, .slice A n c, .int .i64 o, .int .i64 op, .int .i64 lk, .int .i64 li, .string lt, .int .i64 lo, .int .i64 rk, .int .i64 ri, .string rt, .int .i64 ro, .int .i64 of]] (grow (redrawn wr d') os) fun e w'' => e = .returned (.bool rb) ∧ ∃ p : Regrown, w'' = grow (redrawn wr p.d) p.os := fun d' os => Calls.regrown_of (HRF.out d' os)
      cases vo with
      | true =>
        have t1 : decide (vd < 0) = true := decide_eq_true (HVN.out.2 rfl)
        have hfb : fb = true := by rw [HFB.out]; rfl
        have hv : v = (j : Int) := by rw [HS.out, if_pos hfb]; rfl
        subst hv
        clear HS HFB HVN HVD HRF hfb
        refine wp_region_quiet_below (by kernel_rfl) (by kernel_rfl) ?_
        repeat (go_big_quiet_step (first | with_reducible exact cV _ _ | with_reducible exact cR _ _))
        refine wpQuiet_nil ?_
        intro w6 hw6
        obtain ⟨⟨dq, osq⟩, rfl⟩ := hw6
        have KB := Lib.hid (HB.out.trans ((below_regrown wr dq osq).mono hsr))
        have K1 := Lib.hid (H1.out.below (below_regrown wr dq osq) H1.out.lt)
        clear c0 c1 c2 c3 c4 c5 c6 c7 c8 c9 c10 c11 c12 c13 cV cR f3 HB H1
        generalize hW : grow _ _ = w7 at *
        clear hW
        go_wp2
        go_ret
        exact ⟨by rfl, by rw [HRR.out]; exact KB.out⟩
      | false =>
        have t1 : decide (vd < 0) = false := decide_eq_false (fun h => by have := HVN.out.1 h; cases this)
        have hfb : fb = rb := by rw [HFB.out]; rfl
        subst hfb
        clear HFB HVN HVD HRF
        refine wp_region_quiet_below (by kernel_rfl) (by kernel_rfl) ?_
        repeat (go_big_quiet_step (first | with_reducible exact cV _ _ | with_reducible exact cR _ _))
        refine wpQuiet_nil ?_
        intro w6 hw6
        obtain ⟨⟨dq, osq⟩, rfl⟩ := hw6
        have KB := Lib.hid (HB.out.trans ((below_regrown wr dq osq).mono hsr))
        have K1 := Lib.hid (H1.out.below (below_regrown wr dq osq) H1.out.lt)
        clear c0 c1 c2 c3 c4 c5 c6 c7 c8 c9 c10 c11 c12 c13 cV cR f3 HB H1
        generalize hW : grow _ _ = w7 at *
        clear hW
        cases fb with
        | true =>
          have hv : v = (j : Int) := by rw [HS.out, if_pos rfl]; rfl
          subst hv
          clear HS
          go_wp2
          go_ret
          exact ⟨by rfl, by rw [HRR.out]; exact KB.out⟩
        | false =>
          have HN : Hid (optI (firstI (fun _ l => faultB ls l) (j + 1) (ls.drop (j + 1))) = v) := Lib.hid (by rw [HS.out]; simp)
          clear HS
          go_wp2
          go_roundg (m - (j + 1))
          case measure => have := HG.out; omega
          case rel => exact ⟨j + 1, by go_num, by omega, Lib.hid rfl, KB, K1, HN⟩
    · have hv : v = -1 := by rw [← HV.out, firstI_end _ ls j j (by have := HL.out; omega)]; rfl
      subst hv
      clear HV
      go_wp2
      go_ret
      exact ⟨by rfl, by rw [HRR.out]; exact HB.out⟩
end Go.Proofs.YtjcgkplphiedjaaGreat
