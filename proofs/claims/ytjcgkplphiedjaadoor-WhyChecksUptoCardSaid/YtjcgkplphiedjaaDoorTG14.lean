/- A fact's text, the program's: its constants as parts. | A fact's text, the program's: parts, applied. | A fact's text, the program's. -/
import Derived.Test.YtjcgkplphiedjaaDoorTG13
import Derived.Handy
import Derived.Test.YtjcgkplphiedjaaDoorTG9
namespace Go.Proofs.YtjcgkplphiedjaaDoorT
open Go.RowKit Go.Sort

theorem Tryd.info130 : (Tryd.prog.info? 130).map (fun i => (i.zero, i.size, i.bytes)) = some (some .nilIface, 1, 16) := by kernel_rfl

/-- The table of powers stays whatever is done from block R on. -/
def PowB (R : Nat) (w : World) : Prop := ∀ w', Below R w w' → Pow w'
theorem PowB.of {R : Nat} {w : World} (h : Pow w) (hR : w.heap.size = R) : PowB R w := fun _ hb => YtjcgkplphiedjaaDoor.Pow.below h (hR ▸ hb)
theorem PowB.below {R : Nat} {w w' : World} (h : PowB R w) (hb : Below R w w') : PowB R w' := fun w'' hb' => h w'' (hb.trans hb')
theorem PowB.pow {R : Nat} {w : World} (h : PowB R w) : Pow w := h w (Below.refl _ _)

def pval (z : Cn) : Value := .iface 201 (.agg z.cells.toArray)
def pcells (l : List Cn) : List Value := l.map pval
theorem pcells_length (l : List Cn) : (pcells l).length = l.length := by simp [pcells]

set_option maxRecDepth 20000 in
set_option maxHeartbeats 4000000 in
theorem value_write (z : Cn) (hz : inI z.i ∧ fineK z) (R : Nat) (L : List UInt8) (w : World) (h : BU R L w) (hl : L.length ≤ 140737488350000) (hp : PowB R w) :
    Calls Tryd.prog 163 #[.agg z.cells.toArray, .pointer (some ⟨R, 0, none⟩)] w fun e w' => e = .returned (.tuple #[]) ∧ (BU R (L ++ (textK z).toList) w' ∧ Below R w w' ∧ Fz w w') := by
  have ht := textK_size z hz.1
  unfold textK at *
  obtain ⟨k, i, t⟩ := z
  dsimp only at ht ⊢
  show Calls Tryd.prog 163 #[.agg #[.int .i64 k, .int .i64 i, .string t], .pointer (some ⟨R, 0, none⟩)] w _
  have HU := Lib.hid h
  have HP := Lib.hid hp
  have hR := h.lt
  have HKT := Lib.hid (fun W hW => text_sym k i t hz.1 hz.2 W hW)
  clear h hp hz
  generalize textS k i t = s at *
  go_enter Tryd.func163, Tryd.ntmps163
  go_upto_region 1 with (fail)
  have hba := (Below.refl w.heap.size w).alloc (Nat.le_refl _) (.cells #[.int .i64 k, .int .i64 i, .string t] 201)
  have H1 := Lib.hid (Blk.new w 201 [.int .i64 k, .int .i64 i, .string t])
  have HF1 := Lib.hid (Fz.alloc w (.cells #[.int .i64 k, .int .i64 i, .string t] 201))
  generalize World.alloc _ _ = w1 at *
  have HU1 := Lib.hid (HU.out.below hba)
  have HB1 := Lib.hid (hba.mono (Nat.le_of_lt hR))
  clear hba HU
  generalize w.heap.size = G at *
  have f0 := (H1.out.cell 0).trans rfl
  have f1 := (H1.out.cell 1).trans rfl
  have f2 := (H1.out.cell 2).trans rfl
  go_wp2_with fail
  refine (HKT.out w1 (HP.out.below HB1.out).pow).mono ?_
  rintro e w2 ⟨rfl, hb2⟩
  have HU2 := Lib.hid (HU1.out.below hb2)
  have HB2 := Lib.hid (HB1.out.trans (hb2.mono (Nat.le_of_lt HU1.out.lt)))
  have HF2 := Lib.hid (HF1.out.trans (Fz.below hb2))
  clear hb2 HU1 HB1 HF1 H1 f0 f1 f2
  go_wp2_with fail
  refine (wStr R L s w2 HU2.out (by omega)).mono ?_
  rintro e w3 ⟨rfl, h3, hb3, hf3⟩
  have HU3 := Lib.hid h3
  have HB3 := Lib.hid (HB2.out.trans hb3)
  have HF3 := Lib.hid (HF2.out.trans hf3)
  clear h3 hb3 hf3
  go_wp2
  go_end0
  exact ⟨rfl, HU3.out, HB3.out, HF3.out⟩

/-- The constants, as parts. -/
def PA (w : World) (A : Option Addr) (n : Nat) (l : List Cn) : Prop := l.length = n ∧ (0 < n → ∃ G cur, A = some ⟨G, 0, none⟩ ∧ Blk w G 130 cur ∧ cur.take n = pcells l)
theorem PA.fz {w w' : World} {A : Option Addr} {n : Nat} {l : List Cn} (h : PA w A n l) (hf : Fz w w') : PA w' A n l :=
  ⟨h.1, fun hn => by obtain ⟨G, cur, h1, h2, h3⟩ := h.2 hn; exact ⟨G, cur, h1, hf G _ _ _ h2 (.inr ⟨by decide, by decide⟩), h3⟩⟩
theorem PA.at {w : World} {A : Option Addr} {n : Nat} {l : List Cn} (h : PA w A n l) (k : Nat) (hk : k < n) : ∃ G, ∃ h2 : k < l.length, A = some ⟨G, 0, none⟩ ∧ w.cell? ⟨G, k, none⟩ = some (pval l[k]) := by
  have hk2 : k < l.length := by rw [h.1]; exact hk
  obtain ⟨G, cur, h1, h2, h3⟩ := h.2 (by omega)
  refine ⟨G, hk2, h1, ?_⟩
  rw [h2.cell k]
  have h4 : (cur.take n)[k]? = some (pval l[k]) := by rw [h3]; simp [pcells, hk2]
  rw [List.getElem?_take] at h4
  rwa [if_pos hk] at h4

set_option maxRecDepth 20000 in
set_option maxHeartbeats 4000000 in
theorem between_any (R : Nat) (L : List UInt8) (A : Option Addr) (n c : Nat) (l : List Cn) (w : World) (h : BU R L w) (hpa : PA w A n l) (hz : ∀ z ∈ l, inI z.i ∧ fineK z) (hn : n ≤ 8) (hl : L.length ≤ 140737488000000) (hp : PowB R w) :
    Calls Tryd.prog 161 #[.pointer (some ⟨R, 0, none⟩), .string ⟨#[44, 32]⟩, .slice A n c] w fun e w' => e = .returned (.tuple #[]) ∧ (BU R (L ++ subL l) w' ∧ Below R w w' ∧ Fz w w') := by
  have HU := Lib.hid h
  have HA := Lib.hid hpa
  have HZ := Lib.hid hz
  have HP := Lib.hid hp
  have HN := Lib.hid hpa.1
  clear h hpa hz hp
  go_enter Tryd.func161, Tryd.ntmps161
  go_upto_region 1 with (fail)
  go_loopg [10] n (fun gk u10 wr => ∃ (k : Nat), u10 = .int .i64 k ∧ k ≤ n ∧ Hid (gk = n - k) ∧ Hid (BU R (L ++ subL (l.take k)) wr) ∧ Hid (Below R w wr) ∧ Hid (Fz w wr))
  case atStart => exact ⟨0, rfl, Nat.zero_le _, Lib.hid (by omega), Lib.hid (by simpa [subL, jo] using HU.out), Lib.hid (Below.refl _ _), Lib.hid (Fz.refl _)⟩
  case round =>
    clear HU
    obtain ⟨k, rfl, hk, HG, HU, HB, HF⟩ := hrel
    by_cases hlt : k < n
    · obtain ⟨G, hk1, rfl, c0⟩ := (HA.out.fz HF.out).at k hlt
      have hb8 : (subL (l.take k)).length ≤ 8 * 1024 := by
        have := subL_length (l.take k) fun z hz => (HZ.out z (List.mem_of_mem_take hz)).1
        rw [List.length_take] at this
        have h2 : min k l.length * 1024 ≤ 8 * 1024 := Nat.mul_le_mul_right _ (by omega)
        omega
      have hzk := HZ.out l[k] (List.getElem_mem hk1)
      have HST : Hid (subL (l.take (k + 1)) = if k = 0 then (textK l[k]).toList else subL (l.take k) ++ ([44, 32] ++ (textK l[k]).toList)) := Lib.hid (jo_take (fun z => (textK z).toList) l k hk1)
      have HPr := Lib.hid (HP.out.below HB.out)
      generalize l[k] = z at *
      generalize hS : subL (l.take k) = S at *
      have HS := Lib.hid hS
      clear hS
      unfold pval at c0
      rcases Nat.eq_zero_or_pos k with k0 | k0
      · have t1 : decide ((0 : Int) < (k : Int)) = false := decide_eq_false (by omega)
        subst k0
        have HS0 : Hid (S = []) := Lib.hid (by rw [← HS.out]; simp [subL, jo])
        rw [HS0.out, List.append_nil] at HU
        rw [if_pos rfl] at HST
        go_wp2_with fail
        refine (value_write z hzk R L wr HU.out (by omega) HPr.out).mono ?_
        rintro e w5 ⟨rfl, h5, hb5, hf5⟩
        have HU5 : Hid (BU R (L ++ subL (l.take (0 + 1))) w5) := Lib.hid (by rw [HST.out]; exact h5)
        have HB5 := Lib.hid (HB.out.trans hb5)
        have HF5 := Lib.hid (HF.out.trans hf5)
        clear h5 hb5 hf5 HU HB HF HPr
        go_wp2
        go_roundg (n - (0 + 1))
        case measure => have := HG.out; omega
        case rel => exact ⟨0 + 1, by go_num, by omega, Lib.hid rfl, HU5, HB5, HF5⟩
      · have t1 : decide ((0 : Int) < (k : Int)) = true := decide_eq_true (by omega)
        rw [if_neg (by omega)] at HST
        have ks := fun W (hW : BU R (L ++ S) W) => wStr R (L ++ S) ⟨#[44, 32]⟩ W hW (by rw [List.length_append]; show _ + 2 ≤ _; omega)
        rw [mk_list] at ks
        go_wp2_with fail
        refine (ks wr HU.out).mono ?_
        rintro e w5 ⟨rfl, h5, hb5, hf5⟩
        have HU5 := Lib.hid h5
        have HP5 := Lib.hid (HPr.out.below hb5)
        have HB5 := Lib.hid (HB.out.trans hb5)
        have HF5 := Lib.hid (HF.out.trans hf5)
        clear h5 hb5 hf5 HU HB HF HPr ks
        go_wp2_with fail
        refine (value_write z hzk R _ w5 HU5.out (by simp only [List.length_append, List.length_cons, List.length_nil]; omega) HP5.out).mono ?_
        rintro e w6 ⟨rfl, h6, hb6, hf6⟩
        have HU6 : Hid (BU R (L ++ subL (l.take (k + 1))) w6) := Lib.hid (by rw [HST.out]; simpa using h6)
        have HB6 := Lib.hid (HB5.out.trans hb6)
        have HF6 := Lib.hid (HF5.out.trans hf6)
        clear h6 hb6 hf6 HU5 HB5 HF5 HP5
        go_wp2
        go_roundg (n - (k + 1))
        case measure => have := HG.out; omega
        case rel => exact ⟨k + 1, by go_num, by omega, Lib.hid rfl, HU6, HB6, HF6⟩
    · obtain rfl : k = n := by omega
      have hall : l.take k = l := List.take_of_length_le (by have := HN.out; omega)
      rw [hall] at HU
      go_wp2
      go_end0
      exact ⟨rfl, HU.out, HB.out, HF.out⟩
end Go.Proofs.YtjcgkplphiedjaaDoorT

namespace Go.Proofs.YtjcgkplphiedjaaDoorT
open Go.RowKit Go.Sort

set_option maxRecDepth 20000 in
theorem asPart (z : Cn) (w : World) :
    Calls Tryd.prog 160 #[.agg z.cells.toArray] w fun e w' => e = .returned (pval z) ∧ Below w.heap.size w w' := by
  obtain ⟨k, i, t⟩ := z
  show Calls Tryd.prog 160 #[.agg #[.int .i64 k, .int .i64 i, .string t]] w fun e w' => e = .returned (.iface 201 (.agg #[.int .i64 k, .int .i64 i, .string t])) ∧ Below w.heap.size w w'
  go_enter Tryd.func160, Tryd.ntmps160
  go_upto_region 1 with (fail)
  have hba := (Below.refl w.heap.size w).alloc (Nat.le_refl _) (.cells #[.int .i64 k, .int .i64 i, .string t] 68)
  have H1 := Lib.hid (Blk.new w 68 [.int .i64 k, .int .i64 i, .string t])
  generalize World.alloc _ _ = w1 at *
  have HB := Lib.hid hba
  clear hba
  generalize hR : w.heap.size = R at *
  have HRR := Lib.hid hR
  clear hR
  have f0 := (H1.out.cell 0).trans rfl
  have f1 := (H1.out.cell 1).trans rfl
  have f2 := (H1.out.cell 2).trans rfl
  go_wp2
  go_ret
  exact ⟨rfl, by rw [HRR.out]; exact HB.out⟩

set_option maxRecDepth 20000 in
set_option maxHeartbeats 4000000 in
theorem parts_any (A : Option Addr) (n c : Nat) (l : List Cn) (w : World) (hr : Rd w w.heap.size 3 A n (kcells l)) (hn : n ≤ 8) :
    Calls Tryd.prog 159 #[.slice A n c, .func (.func 160) #[] #[]] w fun e w' => ∃ v, e = .returned v ∧ w'.ownsRow w.heap.size 130 1 v n (pcells l) ∧ Below w.heap.size w w' := by
  obtain ⟨i0, hi, hz0, hz1, hz2⟩ := info_parts Tryd.info130
  have HR := Lib.hid hr
  have hlen : l.length = n := by have := hr.1; rw [kcells_length] at this; omega
  have HN := Lib.hid hlen
  clear hr hlen
  have mk3 : ∀ W : World, (Instr.makeSlice 199 (.int .i64 0) (.int .i64 (n : Int))).run Tryd.prog W = .ok (.slice (some ⟨W.heap.size, 0, none⟩) 0 n) (W.alloc (.cells (madeCells #[.nilIface] n) 130)) := fun W => by
    have := run_make_rowN 199 130 i0 _ Tryd.underlying199 hi hz0 .i64 .i64 0 n (Nat.zero_le _) (by rw [hz2]; omega) (by omega) W
    rw [hz1, Nat.mul_one] at this
    exact this
  go_enter Tryd.func159, Tryd.ntmps159
  go_upto_region 2 with (fail)
  have HB2 : Hid (Below w.heap.size w (w.alloc (.cells (madeCells #[.nilIface] n) 130))) := Lib.hid ((Below.refl _ _).alloc (Nat.le_refl _) _)
  have HV2 : Hid ((w.alloc (.cells (madeCells #[.nilIface] n) 130)).ownsRow w.heap.size 130 1 (.slice (some ⟨w.heap.size, 0, none⟩) 0 n) 0 (pcells (l.take 0))) := Lib.hid (by have := own_made (w := w) (base := w.heap.size) (e := 130) (size := 1) (c := n) #[.nilIface] (Nat.le_refl _) (by unfold maxLen; omega); rw [Nat.mul_one] at this; exact this)
  have HS2 : Hid (w.heap.size ≤ (w.alloc (.cells (madeCells #[.nilIface] n) 130)).heap.size) := Lib.hid (by simp)
  generalize World.alloc _ _ = w2 at *
  generalize hR : w.heap.size = R at *
  have HRR := Lib.hid hR
  clear hR mk3
  go_upto_region 3 with (fail)
  go_loopg [5, 13] n (fun gk u5 u13 wr => ∃ (k : Nat), u13 = .int .i64 k ∧ k ≤ n ∧ Hid (gk = n - k) ∧ Hid (wr.ownsRow R 130 1 u5 k (pcells (l.take k))) ∧ Hid (Below R w wr) ∧ Hid (R ≤ wr.heap.size))
  case atStart => exact ⟨0, rfl, Nat.zero_le _, Lib.hid (by omega), HV2, HB2, HS2⟩
  case round =>
    clear HV2 HB2 HS2
    obtain ⟨k, rfl, hk, HG, HV, HB, HS⟩ := hrel
    by_cases hlt : k < n
    · obtain ⟨b1, o1, hk1, rfl, hb1, hc⟩ := (HR.out.below HB.out).at Cn.cells 3 (fun _ => rfl) (by omega) k hlt
      have c0 := hc 0 _ (by omega) rfl
      have c1 := hc 1 _ (by omega) rfl
      have c2 := hc 2 _ (by omega) rfl
      rw [Nat.add_zero] at c0
      clear hc
      have HTK := Lib.hid (take_snoc l k hk1)
      generalize l[k] = z at *
      have HW := Lib.hid (asPart z)
      obtain ⟨zk, zi, zt⟩ := z
      simp only [Cn.cells, pval] at HW
      dsimp only at c0 c1 c2
      obtain ⟨A5, d5, rfl, hn5⟩ := own_slice HV.out
      go_upto_region 5 with (fail)
      have HBA := Lib.hid ((Below.refl wr.heap.size wr).alloc (Nat.le_refl _) (.cells #[.int .i64 zk, .int .i64 zi, .string zt] 68))
      have HX := Lib.hid (Blk.new wr 68 [.int .i64 zk, .int .i64 zi, .string zt])
      clear c0 c1 c2
      generalize World.alloc _ _ = wa at *
      have HV1 := Lib.hid (own_below HV.out HBA.out)
      have HB1 := Lib.hid (HB.out.trans (HBA.out.mono HS.out))
      have hs1 : R ≤ wa.heap.size := Nat.le_trans HS.out HBA.out.size
      clear HBA HB HS HV
      generalize wr.heap.size = Z at *
      have x0 := (HX.out.cell 0).trans rfl
      have x1 := (HX.out.cell 1).trans rfl
      have x2 := (HX.out.cell 2).trans rfl
      go_wp2_with fail
      refine (HW.out wa).mono ?_
      rintro e w5 ⟨rfl, hb5⟩
      have HB5 := Lib.hid (HB1.out.trans (hb5.mono hs1))
      have hs5 : R ≤ w5.heap.size := Nat.le_trans hs1 hb5.size
      have hown := own_below HV1.out hb5
      clear hb5 hs1 HB1 HX x0 x1 x2 HW HV1
      go_wp2_with (at_builtin; go_must (refine wpList_append_own _ rfl _ _ 199 rfl R 130 i0 _ 1 16 Tryd.underlying199 hi hz0 hz1 hz2 rfl (by decide) _ _ _ rfl (hown.alloc _) ⟨w5.heap.size, 0, none⟩ 1 1 [.iface 201 (.agg #[.int .i64 zk, .int .i64 zi, .string zt])] rfl rfl (fun j u h => new_cells _ _ _ j u h) (by intro u hu; simp at hu; subst hu; rfl) (by unfold maxLen; omega) (by omega) (by simp; omega) ?_))
      intro v7 w7 hown7 hg7 _
      have BL := Lib.hid ((HB5.out.alloc hs5 (.cells #[.iface 201 (.agg #[.int .i64 zk, .int .i64 zi, .string zt])] 130)).grown hg7 (by simp; omega) (fun q hq => (hown.lt q hq).1))
      have V7 : Hid (w7.ownsRow R 130 1 v7 (k + 1) (pcells (l.take (k + 1)))) := Lib.hid (by rw [HTK.out]; simpa [pcells, pval, Cn.cells] using hown7)
      have S7 : Hid (R ≤ w7.heap.size) := Lib.hid (Nat.le_trans (by simp; omega) hg7.size)
      clear hown7 hown hg7 HB5 hs5
      go_wp2
      go_roundg (n - (k + 1))
      case measure => have := HG.out; omega
      case rel => exact ⟨k + 1, by go_num, by omega, Lib.hid rfl, V7, BL, S7⟩
    · obtain rfl : k = n := by omega
      have hall : l.take k = l := List.take_of_length_le (by have := HN.out; omega)
      rw [hall] at HV
      go_wp2
      go_ret
      exact ⟨_, rfl, by rw [HRR.out]; exact HV.out, by rw [HRR.out]; exact HB.out⟩

theorem own_pa {w : World} {base n c : Nat} {A : Option Addr} {l : List Cn} (h : w.ownsRow base 130 1 (.slice A n c) n (pcells l)) : PA w A n l := by
  have hl : l.length = n := by have := h.1; rw [pcells_length] at this; omega
  refine ⟨hl, fun hn => ?_⟩
  obtain ⟨g, cap, cur, hv, _, hg, _, _, _, ht⟩ := own_blk h hn
  simp only [Value.slice.injEq] at hv
  obtain ⟨rfl, _, rfl⟩ := hv
  exact ⟨g, cur, rfl, hg, by simpa using ht⟩

/-- What a fact writes. -/
def factL (p : ByteArray) (l : List Cn) : List UInt8 := if l.length = 0 then p.toList else p.toList ++ ([40] ++ (subL l ++ [41]))

set_option maxRecDepth 20000 in
set_option maxHeartbeats 4000000 in
theorem applied_any (R : Nat) (p : ByteArray) (A : Option Addr) (n c : Nat) (l : List Cn) (w : World) (h : Lib.IsBuilder 59 5 R R [] w) (hps : p.size ≤ 1000000) (hpa : PA w A n l) (hz : ∀ z ∈ l, inI z.i ∧ fineK z) (hn : n ≤ 8) (hp : PowB R w) :
    Calls Tryd.prog 158 #[.pointer (some ⟨R, 0, none⟩), .string p, .slice A n c] w fun e w' => e = .returned (.tuple #[]) ∧ (BU R (factL p l) w' ∧ Below R w w' ∧ Fz w w') := by
  have HI := Lib.hid h
  have HA := Lib.hid hpa
  have HZ := Lib.hid hz
  have HP := Lib.hid hp
  have HFL : Hid (factL p l = if n = 0 then p.toList else p.toList ++ ([40] ++ (subL l ++ [41]))) := Lib.hid (by rw [← hpa.1]; rfl)
  have hsub : (subL l).length ≤ 8 * 1024 := by
    have h1 := subL_length l fun z hz' => (hz z hz').1
    have h2 : l.length * 1024 ≤ 8 * 1024 := Nat.mul_le_mul_right _ (by rw [hpa.1]; exact hn)
    omega
  have hpl := toList_size p
  clear h hpa hz hp
  generalize factL p l = V at *
  go_enter Tryd.func158, Tryd.ntmps158
  go_wp2_with fail
  refine (wStr0 R p w HI.out (by omega)).mono ?_
  rintro e w2 ⟨rfl, h2, hb2, hf2⟩
  have HU2 := Lib.hid h2
  have HB2 := Lib.hid hb2
  have HP2 := Lib.hid (HP.out.below hb2)
  have HA2 := Lib.hid (HA.out.fz hf2)
  have HF2 := Lib.hid hf2
  clear h2 hb2 hf2 HI HP HA
  rcases Nat.eq_zero_or_pos n with h0 | h0
  · subst h0
    obtain rfl : V = p.toList := by rw [HFL.out, if_pos rfl]
    go_wp2
    go_end0
    exact ⟨rfl, HU2.out, HB2.out, HF2.out⟩
  · have t1 : decide ((0 : Int) < (n : Int)) = true := decide_eq_true (by omega)
    have HV : Hid (((p.toList ++ [40]) ++ subL l) ++ [41] = V) := Lib.hid (by rw [HFL.out, if_neg (by omega)]; simp)
    clear HFL
    go_wp2_with fail
    refine (wByte R _ 40 w2 HU2.out (by omega)).mono ?_
    rintro e w3 ⟨rfl, h3, hb3, hf3⟩
    have HU3 := Lib.hid h3
    have HB3 := Lib.hid (HB2.out.trans hb3)
    have HP3 := Lib.hid (HP2.out.below hb3)
    have HA3 := Lib.hid (HA2.out.fz hf3)
    have HF3 := Lib.hid (HF2.out.trans hf3)
    clear h3 hb3 hf3 HU2 HB2 HP2 HA2 HF2
    go_wp2_with fail
    refine (between_any R _ A n c l w3 HU3.out HA3.out HZ.out hn (by simp only [List.length_append, List.length_cons, List.length_nil]; omega) HP3.out).mono ?_
    rintro e w4 ⟨rfl, h4, hb4, hf4⟩
    have HF4 := Lib.hid (HF3.out.trans hf4)
    have HU4 := Lib.hid h4
    have HB4 := Lib.hid (HB3.out.trans hb4)
    clear h4 hb4 hf4 HU3 HB3 HP3 HA3 HF3
    go_wp2_with fail
    refine (wByte R _ 41 w4 HU4.out (by simp only [List.length_append, List.length_cons, List.length_nil]; omega)).mono ?_
    rintro e w5 ⟨rfl, h5, hb5, hf5⟩
    have HF5 := Lib.hid (HF4.out.trans hf5)
    rw [HV.out] at h5
    have HU5 := Lib.hid h5
    have HB5 := Lib.hid (HB4.out.trans hb5)
    clear h5 hb5 hf5 HU4 HB4 HF4
    go_wp2
    go_end0
    exact ⟨rfl, HU5.out, HB5.out, HF5.out⟩
end Go.Proofs.YtjcgkplphiedjaaDoorT

namespace Go.Proofs.YtjcgkplphiedjaaDoorT
open Go.RowKit Go.Sort

set_option maxRecDepth 20000 in
set_option maxHeartbeats 4000000 in
theorem fact_write (R : Nat) (p : ByteArray) (A : Option Addr) (n c : Nat) (l : List Cn) (w : World) (h : Lib.IsBuilder 59 5 R R [] w) (hps : p.size ≤ 1000000) (hr : Rd w R 3 A n (kcells l)) (hz : ∀ z ∈ l, inI z.i ∧ fineK z) (hn : n ≤ 8) (hp : PowB R w) :
    Calls Tryd.prog 157 #[.agg #[.string p, .slice A n c], .pointer (some ⟨R, 0, none⟩)] w fun e w' => e = .returned (.tuple #[]) ∧ (BU R (factL p l) w' ∧ Below R w w') := by
  have HI := Lib.hid h
  have HR := Lib.hid hr
  have HZ := Lib.hid hz
  have HP := Lib.hid hp
  have hRl : R < w.heap.size := YtjcgkplphiedjaaDoor.isb_lt h
  clear h hr hz hp
  go_enter Tryd.func157, Tryd.ntmps157
  go_upto_region 1 with (fail)
  have hba := (Below.refl w.heap.size w).alloc (Nat.le_refl _) (.cells #[.string p, .slice A n c] 105)
  have H1 := Lib.hid (Blk.new w 105 [.string p, .slice A n c]).drew
  generalize hw1 : World.alloc _ _ = w1 at *
  have hbd := hba.drew
  have HI1 := Lib.hid (YtjcgkplphiedjaaDoor.isb_below HI.out hbd)
  have HB1 := Lib.hid (hbd.mono (Nat.le_of_lt hRl))
  have hs1 : R < w1.drew.heap.size := Nat.lt_of_lt_of_le hRl hbd.size
  clear hba HI hw1
  generalize w.heap.size = G at *
  obtain ⟨C, hCi⟩ : ∃ C : World → Prop, ∀ w', C w' ↔ Blk w' G 105 [.string p, .slice A n c] := ⟨_, fun _ => Iff.rfl⟩
  have k0 : ∀ q : WC C, q.w.cell? ⟨G, 0, none⟩ = some (.string p) := fun q => ((hCi _).1 q.h).cell 0
  have k1 : ∀ q : WC C, q.w.cell? ⟨G, 1, none⟩ = some (.slice A n c) := fun q => ((hCi _).1 q.h).cell 1
  have kn : Nonempty (WC C) := ⟨⟨_, (hCi _).2 H1.out⟩⟩
  refine wp_region_frontN C [0, 1, 2, 3, 4] 2 (fun j => decide (j < 7)) (by kernel_rfl) (fun _ _ d _ _ h => by cases d <;> exact h) (by kernel_rfl) ((hCi _).2 H1.out) ?_
  simp only [List.map_cons, List.map_nil, List.getD_cons_zero, List.getD_cons_succ]
  repeat (go_big_quiet_step (fail))
  refine wpQuiet_nil ?_
  clear k0 k1 kn
  have HCi := Lib.hid hCi
  clear hCi
  generalize w1.drew = b0 at *
  refine wpN_one (i := 5) (by kernel_rfl) rfl ?_
  go_wp2_with fail
  refine (parts_any A n c l b0 ((HR.out.up HB1.out (Nat.le_of_lt hs1))) hn).mono ?_
  rintro e b1 ⟨v, rfl, hv, hb⟩
  obtain ⟨A5, d5, rfl, hn5⟩ := own_slice hv
  have HA := Lib.hid (own_pa hv)
  have HI2 := Lib.hid (YtjcgkplphiedjaaDoor.isb_below HI1.out hb)
  have HB2 := Lib.hid (HB1.out.trans (hb.mono (Nat.le_of_lt hs1)))
  have H2 := Lib.hid (H1.out.below hb H1.out.lt)
  clear hv hb HI1 HB1 H1
  go_wp2
  refine tailN_normal ((HCi.out _).2 H2.out) ?_
  refine wpN_one (i := 6) (by kernel_rfl) rfl ?_
  go_wp2_with fail
  refine (applied_any R p A5 n d5 l b1 HI2.out hps HA.out HZ.out hn (HP.out.below HB2.out)).mono ?_
  rintro e b2 ⟨rfl, h2, hb, hf⟩
  have HU := Lib.hid h2
  have HB3 := Lib.hid (HB2.out.trans hb)
  have H3 : Hid (Blk b2 G 105 [.string p, .slice A n c]) := Lib.hid (hf G _ _ _ H2.out (.inr ⟨by decide, by decide⟩))
  clear h2 hb hf HI2 HB2 H2
  go_wp2
  refine tailN_normal ((HCi.out _).2 H3.out) ?_
  refine wpN_none (by kernel_rfl) ?_
  go_wp2
  go_end0
  exact ⟨rfl, HU.out, HB3.out⟩

theorem factT_L {p : ByteArray} {l : List Cn} (h : wellF p l = true) : factT p l = ⟨(factL p l).toArray⟩ := bytes_eq (by rw [factT_bytes h]; rfl)

set_option maxRecDepth 20000 in
set_option maxHeartbeats 4000000 in
theorem text_fact (p : ByteArray) (A : Option Addr) (n c : Nat) (l : List Cn) (w : World) (hr : Rd w w.heap.size 3 A n (kcells l)) (hz : ∀ z ∈ l, inI z.i ∧ fineK z) (hp : Pow w) :
    Calls Tryd.prog 55 #[.int .i64 (factE p l), .iface 105 (.agg #[.string p, .slice A n c])] w fun e w' => e = .returned (.string (factT p l)) ∧ Below w.heap.size w w' := by
  have hlen : l.length = n := by have := hr.1; rw [kcells_length] at this; omega
  cases hwf : wellF p l with
  | false =>
    have h1 : factE p l ≠ 0 := fun h => by rw [(factE_zero p l).1 h] at hwf; cases hwf
    rw [factT_no hwf]
    have t1 : (factE p l != 0) = true := by simpa using h1
    have t2 : (factE p l == 0) = false := by simpa using h1
    generalize factE p l = q at *
    clear hr hz hp h1 hwf
    go_enter Tryd.func55, Tryd.ntmps55
    go_wp2
    go_ret
    exact ⟨by rfl, Below.refl _ _⟩
  | true =>
    have h1 : factE p l = 0 := (factE_zero p l).2 hwf
    obtain ⟨hnm, h8, _⟩ := wellF_parts hwf
    have hps := name_size hnm
    rw [h1, factT_L hwf]
    have HR := Lib.hid hr
    have HZ := Lib.hid hz
    have HP := Lib.hid hp
    clear hr hz hp hwf hnm h1
    obtain ⟨V, hV⟩ : ∃ V, V = factL p l := ⟨_, rfl⟩
    rw [← hV]
    have HV := Lib.hid hV
    clear hV
    go_enter Tryd.func55, Tryd.ntmps55
    go_upto_region 4 with (fail)
    have HI := Lib.hid (Lib.fresh_isBuilder 59 5 w)
    have hba := (Below.refl w.heap.size w).alloc (Nat.le_refl _) (.cells #[.pointer none, .slice none 0 0] 59)
    generalize World.alloc _ _ = w1 at *
    have HR1 := Lib.hid (HR.out.below hba)
    have HP1 := Lib.hid (PowB.below (PowB.of HP.out rfl) hba)
    have HB1 := Lib.hid hba
    clear hba HR HP
    generalize hR : w.heap.size = R at *
    have HRR := Lib.hid hR
    clear hR
    go_wp2_with fail
    refine (fact_write R p A n c l w1 HI.out (by omega) HR1.out HZ.out (by omega) HP1.out).mono ?_
    rintro e w2 ⟨rfl, h2, hb2⟩
    rw [← HV.out] at h2
    have HU := Lib.hid h2
    have HB2 := Lib.hid (HB1.out.trans hb2)
    clear h2 hb2 HI HB1 HP1 HR1
    go_wp2_with fail
    refine (readB R V w2 HU.out.is).mono ?_
    rintro e w3 ⟨rfl, hb3⟩
    have HB3 := Lib.hid (HB2.out.trans hb3)
    clear hb3 HB2
    go_wp2
    go_ret
    exact ⟨by rfl, by rw [HRR.out]; exact HB3.out⟩

set_option maxRecDepth 20000 in
set_option maxHeartbeats 4000000 in
theorem fact_print (p : ByteArray) (A : Option Addr) (n c : Nat) (l : List Cn) (w : World) (hr : Rd w w.heap.size 3 A n (kcells l)) (hz : ∀ z ∈ l, inI z.i ∧ fineK z) (hps : p.size ≤ 9223372036854775807) (hp : Pow w) :
    Calls Tryd.prog 33 #[.agg #[.string p, .slice A n c]] w fun e w' => e = .returned (.string (factT p l)) ∧ Below w.heap.size w w' := by
  have HR := Lib.hid hr
  have HZ := Lib.hid hz
  have HP := Lib.hid hp
  clear hr hz hp
  go_enter Tryd.func33, Tryd.ntmps33
  go_upto_region 1 with (fail)
  have hba := (Below.refl w.heap.size w).alloc (Nat.le_refl _) (.cells #[.string p, .slice A n c] 45)
  have H1 := Lib.hid (Blk.new w 45 [.string p, .slice A n c])
  generalize World.alloc _ _ = w1 at *
  have HR1 := Lib.hid (HR.out.up hba hba.size)
  have HP1 := Lib.hid (HP.out.below hba)
  have HB1 := Lib.hid hba
  clear hba HR HP
  generalize hG : w.heap.size = G at *
  have HGG := Lib.hid hG
  clear hG
  have kf0 := cell_regrown ((H1.out.cell 0).trans rfl)
  have kf1 := cell_regrown ((H1.out.cell 1).trans rfl)
  have cW : ∀ d os, Calls Tryd.prog 56 #[.agg #[.string p, .slice A n c]] (grow (redrawn w1 d) os) fun e w'' => e = .returned (.int .i64 (factE p l)) ∧ ∃ q : Regrown, w'' = grow (redrawn w1 q.d) q.os :=
    fun d os => Calls.regrown_of (wellFact_any p hps A n c l _ (HR1.out.up (below_regrown w1 d os) (below_regrown w1 d os).size) (fun z hz => (HZ.out z hz).2))
  have cT : ∀ d os, Calls Tryd.prog 55 #[.int .i64 (factE p l), .iface 105 (.agg #[.string p, .slice A n c])] (grow (redrawn w1 d) os) fun e w'' => e = .returned (.string (factT p l)) ∧ ∃ q : Regrown, w'' = grow (redrawn w1 q.d) q.os :=
    fun d os => Calls.regrown_of (text_fact p A n c l _ (HR1.out.up (below_regrown w1 d os) (below_regrown w1 d os).size) HZ.out (HP1.out.below (below_regrown w1 d os)))
  generalize factE p l = er at *
  refine wp_region_quiet_below (by kernel_rfl) (by kernel_rfl) ?_
  repeat (go_big_quiet_step (first | exact cW _ _ | exact cT _ _))
  refine wpQuiet_nil ?_
  intro w3 hw3
  obtain ⟨⟨dq, osq⟩, rfl⟩ := hw3
  have HB3 := Lib.hid (HB1.out.trans ((below_regrown w1 dq osq).mono (Nat.le_of_lt H1.out.lt)))
  clear kf0 kf1 cW cT
  generalize grow _ _ = w3 at *
  go_wp2
  go_ret
  exact ⟨by rfl, by rw [HGG.out]; exact HB3.out⟩
end Go.Proofs.YtjcgkplphiedjaaDoorT
