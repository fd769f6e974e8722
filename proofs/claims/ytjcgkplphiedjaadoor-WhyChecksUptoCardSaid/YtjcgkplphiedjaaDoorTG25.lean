/- Is each constant the core's? The document's. | A fact's place in a list: the document's. -/
import Derived.Test.YtjcgkplphiedjaaDoorTG24
namespace Go.Proofs.YtjcgkplphiedjaaDoorT
open Go.RowKit Go.Sort

def isK (cs : List Cn) (z : Cn) : Bool := cs.any fun y => decide (z = y)
def knownB (cs ss : List Cn) : Bool := ss.all (isK cs)

set_option maxRecDepth 20000 in
set_option maxHeartbeats 8000000 in
theorem known_ref (x : Co) (A : Option Addr) (n c : Nat) (ss : List Cn) (w : World) (hx : Rd w w.heap.size 3 x.CA x.cn (kcells x.cs)) (hr : Rd w w.heap.size 3 A n (kcells ss)) :
    Calls Tryd.prog 63 #[.agg x.cells.toArray, .slice A n c] w fun e w' => e = .returned (.bool (knownB x.cs ss)) ∧ Below w.heap.size w w' := by
  have hl : ss.length = n := by have := hr.1; rw [kcells_length] at this; omega
  have hlc : x.cs.length = x.cn := by have := hx.1; rw [kcells_length] at this; omega
  have hnb := hr.2.1
  have hcb := hx.2.1
  obtain ⟨V, hV⟩ : ∃ V, V = knownB x.cs ss := ⟨_, rfl⟩
  rw [← hV]
  obtain ⟨DA, dn, dc, ds, CA, cn, cc, cs, RA, rn, rc, rs, FA, fn, fc, fs⟩ := x
  dsimp only at hx hlc hcb hV
  have HL := Lib.hid hl
  have HLC := Lib.hid hlc
  have HV := Lib.hid hV
  have HX := Lib.hid hx
  have HR := Lib.hid hr
  clear hl hlc hV hx hr
  show Calls Tryd.prog 63 #[.agg #[.slice DA dn dc, .slice CA cn cc, .slice RA rn rc, .slice FA fn fc], .slice A n c] w _
  go_enter Tryd.func63, Tryd.ntmps63
  go_upto_region 1 with (fail)
  have hb1 := (Below.refl w.heap.size w).alloc (Nat.le_refl _) (.cells #[.slice DA dn dc, .slice CA cn cc, .slice RA rn rc, .slice FA fn fc] 40)
  have h1 := Blk.new w 40 [.slice DA dn dc, .slice CA cn cc, .slice RA rn rc, .slice FA fn fc]
  have hlt1 := h1.lt
  generalize World.alloc _ _ = w1 at *
  have HX1 := Lib.hid (HX.out.below hb1)
  have HR1 := Lib.hid (HR.out.below hb1)
  generalize hR : w.heap.size = R at *
  have HRR := Lib.hid hR
  have HB := Lib.hid hb1
  have H1 := Lib.hid h1
  clear hR HX HR hb1 h1
  go_upto_region 2 with (fail)
  go_loopg [5] n (fun gk u5 wr => ∃ i : Nat, u5 = .int .i64 i ∧ i ≤ n ∧ Hid (gk = n - i) ∧ Hid (Below R w wr) ∧ Hid (Below (R + 1) w1 wr) ∧ Hid ((ss.take i).all (isK cs) = true))
  case atStart => exact ⟨0, rfl, Nat.zero_le _, Lib.hid (by omega), HB, Lib.hid (Below.refl _ _), Lib.hid rfl⟩
  case round =>
    obtain ⟨i, rfl, hi, HG, GB, GW, HN⟩ := hrel
    by_cases hlt : i < n
    · have hk : i < ss.length := by have := HL.out; omega
      have HYES : Hid (isK cs ss[i] = true → (ss.take (i + 1)).all (isK cs) = true) := Lib.hid fun h => by rw [take_snoc ss i hk, List.all_append, HN.out, List.all_cons, h]; rfl
      have HNO : Hid (isK cs ss[i] = false → V = false) := Lib.hid fun h => by
        rw [HV.out, knownB, List.all_eq_false]
        exact ⟨ss[i], List.getElem_mem hk, by rw [h]; decide⟩
      obtain ⟨b1, o1, hk1, rfl, hlb, hc⟩ := HR1.out.at Cn.cells 3 (fun _ => rfl) (by omega) i hlt
      have c0 := Lib.hid (hc 0 _ (by omega) rfl)
      have c1 := Lib.hid (hc 1 _ (by omega) rfl)
      have c2 := Lib.hid (hc 2 _ (by omega) rfl)
      rw [Nat.add_zero] at c0
      clear hc
      obtain ⟨z, hz⟩ : ∃ z, z = ss[i] := ⟨_, rfl⟩
      rw [← hz] at HYES HNO c0 c1 c2
      clear hz hk1
      have HIK : Hid (isK cs z = cs.any fun y => decide (z = y)) := Lib.hid rfl
      generalize isK cs z = D at *
      go_upto_region 6 with (fail)
      go_loopg [6, 7] cn (fun gj u6 u7 wr => ∃ (f : Bool) (j : Nat), u6 = .bool f ∧ u7 = .int .i64 j ∧ j ≤ cn ∧ Hid (gj = cn - j) ∧ Hid (Below R w wr) ∧ Hid (Below (R + 1) w1 wr) ∧ Hid ((cs.take j).any (fun y => decide (z = y)) = f))
      case atStart => exact ⟨false, 0, rfl, rfl, Nat.zero_le _, Lib.hid (by omega), GB, GW, Lib.hid rfl⟩
      case round =>
        clear GB GW
        obtain ⟨f, j, rfl, rfl, hj, HGJ, GB, GW, HF⟩ := hrel
        have f1 := ((H1.out.below GW.out (by omega)).cell 1).trans rfl
        cases f with
        | true =>
          have hD : D = true := by
            rw [HIK.out, List.any_eq_true]
            obtain ⟨y, hy, h⟩ := List.any_eq_true.1 HF.out
            exact ⟨y, List.mem_of_mem_take hy, h⟩
          have HY := Lib.hid (HYES.out hD)
          clear hD HYES HNO HIK
          by_cases hlj : j < cn
          · go_wp2
            go_roundg (n - (i + 1))
            case measure => have := HG.out; omega
            case rel => exact ⟨i + 1, by go_num, by omega, Lib.hid rfl, GB, GW, HY⟩
          · go_wp2
            go_roundg (n - (i + 1))
            case measure => have := HG.out; omega
            case rel => exact ⟨i + 1, by go_num, by omega, Lib.hid rfl, GB, GW, HY⟩
        | false =>
          by_cases hlj : j < cn
          · have hkc : j < cs.length := by have := HLC.out; omega
            obtain ⟨b2, o2, hk2, rfl, hb2, hd⟩ := (HX1.out.below (GW.out.mono (by omega))).at Cn.cells 3 (fun _ => rfl) (by omega) j hlj
            have d0 := hd 0 _ (by omega) rfl
            have d1 := hd 1 _ (by omega) rfl
            have d2 := hd 2 _ (by omega) rfl
            rw [Nat.add_zero] at d0
            clear hd
            have e0 := (GW.out.cell (p := ⟨b1, o1 + i * 3, none⟩) (by show b1 < _; omega)).trans c0.out
            have e1 := (GW.out.cell (p := ⟨b1, o1 + i * 3 + 1, none⟩) (by show b1 < _; omega)).trans c1.out
            have e2 := (GW.out.cell (p := ⟨b1, o1 + i * 3 + 2, none⟩) (by show b1 < _; omega)).trans c2.out
            have HFN : Hid ((cs.take (j + 1)).any (fun y => decide (z = y)) = decide (z = cs[j])) := Lib.hid (by rw [take_snoc cs j hkc, List.any_append, HF.out, List.any_cons]; simp)
            generalize cs[j] = y at *
            have HS := Lib.hid (sameK z y)
            generalize decide (z = y) = E at *
            obtain ⟨zk, zi, zt⟩ := z
            obtain ⟨yk, yi, yt⟩ := y
            simp only [Cn.cells] at HS
            dsimp only at d0 d1 d2 e0 e1 e2
            go_upto_region 8 with (fail)
            have kf1 := cell_regrown f1
            have kd0 := cell_regrown d0
            have kd1 := cell_regrown d1
            have kd2 := cell_regrown d2
            have ke0 := cell_regrown e0
            have ke1 := cell_regrown e1
            have ke2 := cell_regrown e2
            have cA : ∀ d os, Calls Tryd.prog 61 #[.agg #[.int .i64 zk, .int .i64 zi, .string zt], .agg #[.int .i64 yk, .int .i64 yi, .string yt]] (grow (redrawn wr d) os) fun e w'' => e = .returned (.bool E) ∧ ∃ p : Regrown, w'' = grow (redrawn wr p.d) p.os :=
              fun d os => Calls.regrown_of (HS.out _)
            clear f1 d0 d1 d2 e0 e1 e2
            refine wp_region_quiet_below (by kernel_rfl) (by kernel_rfl) ?_
            repeat (go_big_quiet_step (exact cA _ _))
            refine wpQuiet_nil ?_
            intro w6 hw6
            obtain ⟨⟨dq, osq⟩, rfl⟩ := hw6
            have hsr : R ≤ wr.heap.size := by have := GW.out.size; omega
            have HB6 := Lib.hid (GB.out.trans ((below_regrown wr dq osq).mono hsr))
            have HW6 := Lib.hid (GW.out.trans ((below_regrown wr dq osq).mono (Nat.le_trans (by omega) GW.out.size)))
            clear kf1 kd0 kd1 kd2 ke0 ke1 ke2 cA
            go_wp2
            go_roundg (cn - (j + 1))
            case measure => have := HGJ.out; omega
            case rel => exact ⟨E, j + 1, rfl, by go_num, by omega, Lib.hid rfl, HB6, HW6, HFN⟩
          · have hall : cs.take j = cs := List.take_of_length_le (by have := HLC.out; omega)
            rw [hall] at HF
            have hD : D = false := by rw [HIK.out, HF.out]
            obtain rfl : V = false := HNO.out hD
            clear hD HYES HNO HIK
            go_wp2
            go_ret
            exact ⟨by rfl, by rw [HRR.out]; exact GB.out⟩
    · obtain rfl : i = n := by omega
      have hall : ss.take i = ss := List.take_of_length_le (by have := HL.out; omega)
      rw [hall] at HN
      obtain rfl : V = true := by rw [HV.out]; exact HN.out
      go_wp2
      go_ret
      exact ⟨by rfl, by rw [HRR.out]; exact GB.out⟩
end Go.Proofs.YtjcgkplphiedjaaDoorT

namespace Go.Proofs.YtjcgkplphiedjaaDoorT
open Go.RowKit Go.Sort

/-- A fact. -/
structure Fa where
  s : ByteArray
  A : Option Addr
  n : Nat
  c : Nat
  xs : List Cn
def Fa.cells (x : Fa) : List Value := [.string x.s, .slice x.A x.n x.c]
def facells (l : List Fa) : List Value := l.flatMap Fa.cells
def Fa.core (x : Fa) : ByteArray × List Cn := (x.s, x.xs)
def Fa.ok (w : World) (x : Fa) : Prop := Rd w w.heap.size 3 x.A x.n (kcells x.xs)
theorem Fa.ok.up {w w' : World} {x : Fa} (h : x.ok w) (hb : Below w.heap.size w w') : x.ok w' := Rd.up h hb hb.size
theorem facells_length (l : List Fa) : (facells l).length = l.length * 2 := flat_length Fa.cells 2 (fun _ => rfl) l
/-- Is the fact one of them? -/
def memB (ms : List Fa) (p : ByteArray) (xs : List Cn) : Bool := ms.any fun y => sameB y.s y.xs p xs

set_option maxRecDepth 20000 in
set_option maxHeartbeats 8000000 in
theorem placeF_ref (M : Option Addr) (m mc : Nat) (ms : List Fa) (p : ByteArray) (A : Option Addr) (n c : Nat) (xs : List Cn) (w : World) (hm : Rd w w.heap.size 2 M m (facells ms)) (hms : ∀ y ∈ ms, y.ok w) (hr : Rd w w.heap.size 3 A n (kcells xs)) :
    Calls Tryd.prog 66 #[.slice M m mc, .agg #[.string p, .slice A n c]] w fun e w' => (∃ r : Int, e = .returned (.int .i64 r) ∧ decide (0 ≤ r) = memB ms p xs) ∧ Below w.heap.size w w' := by
  have hl : ms.length = m := by have := hm.1; rw [facells_length] at this; omega
  have hmb := hm.2.1
  obtain ⟨V, hV⟩ : ∃ V, V = memB ms p xs := ⟨_, rfl⟩
  rw [← hV]
  have HL := Lib.hid hl
  have HV := Lib.hid hV
  have HM := Lib.hid hm
  have HMS := Lib.hid hms
  have HR := Lib.hid hr
  clear hl hV hm hms hr
  go_enter Tryd.func66, Tryd.ntmps66
  go_upto_region 1 with (fail)
  have hb1 := (Below.refl w.heap.size w).alloc (Nat.le_refl _) (.cells #[.string p, .slice A n c] 45)
  have h1 := Blk.new w 45 [.string p, .slice A n c]
  have hlt1 := h1.lt
  generalize World.alloc _ _ = w1 at *
  have HM1 := Lib.hid (HM.out.below hb1)
  have HMS1 := Lib.hid (fun y hy => Fa.ok.up (HMS.out y hy) hb1)
  have HR1 := Lib.hid (HR.out.up hb1 hb1.size)
  generalize hR : w.heap.size = R at *
  have HRR := Lib.hid hR
  have HB := Lib.hid hb1
  have H1 := Lib.hid h1
  clear hR HM HR HMS hb1 h1
  go_upto_region 2 with (fail)
  go_loopg [5] m (fun gk u5 wr => ∃ i : Nat, u5 = .int .i64 i ∧ i ≤ m ∧ Hid (gk = m - i) ∧ Hid (Below R w wr) ∧ Hid (Below w1.heap.size w1 wr) ∧ Hid ((ms.take i).any (fun y => sameB y.s y.xs p xs) = false))
  case atStart => exact ⟨0, rfl, Nat.zero_le _, Lib.hid (by omega), HB, Lib.hid (Below.refl _ _), Lib.hid rfl⟩
  case round =>
    obtain ⟨i, rfl, hi, HG, GB, GW, HN⟩ := hrel
    by_cases hlt : i < m
    · obtain ⟨b1, o1, hk1, rfl, hlb, hc⟩ := (HM1.out.below (GW.out.mono (by omega))).at Fa.cells 2 (fun _ => rfl) (by omega) i hlt
      have c0 := hc 0 _ (by omega) rfl
      have c1 := hc 1 _ (by omega) rfl
      rw [Nat.add_zero] at c0
      clear hc
      have f0 := ((H1.out.below GW.out (by omega)).cell 0).trans rfl
      have f1 := ((H1.out.below GW.out (by omega)).cell 1).trans rfl
      have HYES : Hid (sameB ms[i].s ms[i].xs p xs = true → V = true) := Lib.hid fun h => by
        rw [HV.out, memB, List.any_eq_true]
        exact ⟨ms[i], List.getElem_mem hk1, h⟩
      have HNO : Hid (sameB ms[i].s ms[i].xs p xs = false → (ms.take (i + 1)).any (fun y => sameB y.s y.xs p xs) = false) := Lib.hid fun h => by rw [take_snoc ms i hk1, List.any_append, HN.out, List.any_cons, h]; rfl
      have HY := Lib.hid (Fa.ok.up (HMS1.out ms[i] (List.getElem_mem hk1)) GW.out)
      generalize ms[i] = y at *
      obtain ⟨ys, yA, yn, yc, yxs⟩ := y
      dsimp only at c0 c1 HYES HNO
      have HSF := Lib.hid (fun W (hb : Below wr.heap.size wr W) => sameF ys p yA A yn yc n c yxs xs W (Fa.ok.up HY.out hb) ((HR1.out.up GW.out GW.out.size).up hb hb.size))
      generalize sameB ys yxs p xs = D at *
      go_upto_region 4 with (fail)
      have kf0 := cell_regrown f0
      have kf1 := cell_regrown f1
      have kc0 := cell_regrown c0
      have kc1 := cell_regrown c1
      have cA : ∀ d os, Calls Tryd.prog 36 #[.agg #[.string ys, .slice yA yn yc], .agg #[.string p, .slice A n c]] (grow (redrawn wr d) os) fun e w'' => e = .returned (.bool D) ∧ ∃ p : Regrown, w'' = grow (redrawn wr p.d) p.os :=
        fun d os => Calls.regrown_of (HSF.out _ (below_regrown wr d os))
      clear f0 f1 c0 c1
      refine wp_region_quiet_below (by kernel_rfl) (by kernel_rfl) ?_
      repeat (go_big_quiet_step (exact cA _ _))
      refine wpQuiet_nil ?_
      intro w6 hw6
      obtain ⟨⟨dq, osq⟩, rfl⟩ := hw6
      have hsr : R ≤ wr.heap.size := by have := GW.out.size; omega
      have HB6 := Lib.hid (GB.out.trans ((below_regrown wr dq osq).mono hsr))
      have HW6 := Lib.hid (GW.out.trans ((below_regrown wr dq osq).mono GW.out.size))
      clear kf0 kf1 kc0 kc1 cA
      cases D with
      | true =>
        obtain rfl : V = true := HYES.out rfl
        have hz : decide ((0 : Int) ≤ (i : Int)) = true := by simp
        go_wp2
        go_ret
        exact ⟨⟨_, by rfl, by first | exact hz | simp⟩, by rw [HRR.out]; exact HB6.out⟩
      | false =>
        have HN2 := Lib.hid (HNO.out rfl)
        clear HNO HYES HSF
        go_wp2
        go_roundg (m - (i + 1))
        case measure => have := HG.out; omega
        case rel => exact ⟨i + 1, by go_num, by omega, Lib.hid rfl, HB6, HW6, HN2⟩
    · obtain rfl : i = m := by omega
      have hall : ms.take i = ms := List.take_of_length_le (by have := HL.out; omega)
      rw [hall] at HN
      obtain rfl : V = false := by rw [HV.out]; exact HN.out
      go_wp2
      go_ret
      exact ⟨⟨_, by rfl, rfl⟩, by rw [HRR.out]; exact GB.out⟩
end Go.Proofs.YtjcgkplphiedjaaDoorT
