/- A fact's text, the program's: parts, applied. -/
import Derived.Test.YtjcgkplphiedjaaDoorTH23
namespace Go.Proofs.YtjcgkplphiedjaaDoorT
open Go.RowKit Go.Sort

set_option maxRecDepth 20000 in
theorem asPart (z : Cn) (w : World) :
    Calls Tryd.prog 160 #[.agg z.cells.toArray] w fun e w' => e = .returned (pval z) ∧ Below w.heap.size w w' := by
  obtain ⟨k, i, t⟩ := z
  show Calls Tryd.prog 160 #[.agg #[.int .i64 k, .int .i64 i, .string t]] w fun e w' => e = .returned (.iface 201 (.agg #[.int .i64 k, .int .i64 i, .string t])) ∧ Below w.heap.size w w'
  go_enter Tryd.func160, Tryd.ntmps160
  go_upto_region 1 with (fail)
  have hba := (Below.refl w.heap.size w).alloc (Nat.le_refl _) (.cells #[.int .i64 k, .int .i64 i, .string t] 68)
  have H1 := Lib.hid (Blk.new w 68 [.int .i64 k, .int .i64 i, .string t])
  generalize World.alloc _ _ = w1 at *
  have HB := Lib.hid hba
  clear hba
  generalize hR : w.heap.size = R at *
  have HRR := Lib.hid hR
  clear hR
  have f0 := (H1.out.cell 0).trans rfl
  have f1 := (H1.out.cell 1).trans rfl
  have f2 := (H1.out.cell 2).trans rfl
  go_wp2
  go_ret
  exact ⟨rfl, by rw [HRR.out]; exact HB.out⟩

set_option maxRecDepth 20000 in
set_option maxHeartbeats 4000000 in
theorem parts_any (A : Option Addr) (n c : Nat) (l : List Cn) (w : World) (hr : Rd w w.heap.size 3 A n (kcells l)) (hn : n ≤ 8) :
    Calls Tryd.prog 159 #[.slice A n c, .func (.func 160) #[] #[]] w fun e w' => ∃ v, e = .returned v ∧ w'.ownsRow w.heap.size 130 1 v n (pcells l) ∧ Below w.heap.size w w' := by
  obtain ⟨i0, hi, hz0, hz1, hz2⟩ := info_parts Tryd.info130
  have HR := Lib.hid hr
  have hlen : l.length = n := by have := hr.1; rw [kcells_length] at this; omega
  have HN := Lib.hid hlen
  clear hr hlen
  have mk3 : ∀ W : World, (Instr.makeSlice 199 (.int .i64 0) (.int .i64 (n : Int))).run Tryd.prog W = .ok (.slice (some ⟨W.heap.size, 0, none⟩) 0 n) (W.alloc (.cells (madeCells #[.nilIface] n) 130)) := fun W => by
    have := run_make_rowN 199 130 i0 _ Tryd.underlying199 hi hz0 .i64 .i64 0 n (Nat.zero_le _) (by rw [hz2]; omega) (by omega) W
    rw [hz1, Nat.mul_one] at this
    exact this
  go_enter Tryd.func159, Tryd.ntmps159
  go_upto_region 2 with (fail)
  have HB2 : Hid (Below w.heap.size w (w.alloc (.cells (madeCells #[.nilIface] n) 130))) := Lib.hid ((Below.refl _ _).alloc (Nat.le_refl _) _)
  have HV2 : Hid ((w.alloc (.cells (madeCells #[.nilIface] n) 130)).ownsRow w.heap.size 130 1 (.slice (some ⟨w.heap.size, 0, none⟩) 0 n) 0 (pcells (l.take 0))) := Lib.hid (by have := own_made (w := w) (base := w.heap.size) (e := 130) (size := 1) (c := n) #[.nilIface] (Nat.le_refl _) (by unfold maxLen; omega); rw [Nat.mul_one] at this; exact this)
  have HS2 : Hid (w.heap.size ≤ (w.alloc (.cells (madeCells #[.nilIface] n) 130)).heap.size) := Lib.hid (by simp)
  generalize World.alloc _ _ = w2 at *
  generalize hR : w.heap.size = R at *
  have HRR := Lib.hid hR
  clear hR mk3
  go_upto_region 3 with (fail)
  go_loopg [5, 13] n (fun gk u5 u13 wr => ∃ (k : Nat), u13 = .int .i64 k ∧ k ≤ n ∧ Hid (gk = n - k) ∧ Hid (wr.ownsRow R 130 1 u5 k (pcells (l.take k))) ∧ Hid (Below R w wr) ∧ Hid (R ≤ wr.heap.size))
  case atStart => exact ⟨0, rfl, Nat.zero_le _, Lib.hid (by omega), HV2, HB2, HS2⟩
  case round =>
    clear HV2 HB2 HS2
    obtain ⟨k, rfl, hk, HG, HV, HB, HS⟩ := hrel
    by_cases hlt : k < n
    · obtain ⟨b1, o1, hk1, rfl, hb1, hc⟩ := (HR.out.below HB.out).at Cn.cells 3 (fun _ => rfl) (by omega) k hlt
      have c0 := hc 0 _ (by omega) rfl
      have c1 := hc 1 _ (by omega) rfl
      have c2 := hc 2 _ (by omega) rfl
      rw [Nat.add_zero] at c0
      clear hc
      have HTK := Lib.hid (take_snoc l k hk1)
      generalize l[k] = z at *
      have HW := Lib.hid (asPart z)
      obtain ⟨zk, zi, zt⟩ := z
      simp only [Cn.cells, pval] at HW
      dsimp only at c0 c1 c2
      obtain ⟨A5, d5, rfl, hn5⟩ := own_slice HV.out
      go_upto_region 5 with (fail)
      have HBA := Lib.hid ((Below.refl wr.heap.size wr).alloc (Nat.le_refl _) (.cells #[.int .i64 zk, .int .i64 zi, .string zt] 68))
      have HX := Lib.hid (Blk.new wr 68 [.int .i64 zk, .int .i64 zi, .string zt])
      clear c0 c1 c2
      generalize World.alloc _ _ = wa at *
      have HV1 := Lib.hid (own_below HV.out HBA.out)
      have HB1 := Lib.hid (HB.out.trans (HBA.out.mono HS.out))
      have hs1 : R ≤ wa.heap.size := Nat.le_trans HS.out HBA.out.size
      clear HBA HB HS HV
      generalize wr.heap.size = Z at *
      have x0 := (HX.out.cell 0).trans rfl
      have x1 := (HX.out.cell 1).trans rfl
      have x2 := (HX.out.cell 2).trans rfl
      go_wp2_with fail
      refine (HW.out wa).mono ?_
      rintro e w5 ⟨rfl, hb5⟩
      have HB5 := Lib.hid (HB1.out.trans (hb5.mono hs1))
      have hs5 : R ≤ w5.heap.size := Nat.le_trans hs1 hb5.size
      have hown := own_below HV1.out hb5
      clear hb5 hs1 HB1 HX x0 x1 x2 HW HV1
      go_wp2_with (at_builtin; go_must (refine wpList_append_own _ rfl _ _ 199 rfl R 130 i0 _ 1 16 Tryd.underlying199 hi hz0 hz1 hz2 rfl (by decide) _ _ _ rfl (hown.alloc _) ⟨w5.heap.size, 0, none⟩ 1 1 [.iface 201 (.agg #[.int .i64 zk, .int .i64 zi, .string zt])] rfl rfl (fun j u h => new_cells _ _ _ j u h) (by intro u hu; simp at hu; subst hu; rfl) (by unfold maxLen; omega) (by omega) (by simp; omega) ?_))
      intro v7 w7 hown7 hg7 _
      have BL := Lib.hid ((HB5.out.alloc hs5 (.cells #[.iface 201 (.agg #[.int .i64 zk, .int .i64 zi, .string zt])] 130)).grown hg7 (by simp; omega) (fun q hq => (hown.lt q hq).1))
      have V7 : Hid (w7.ownsRow R 130 1 v7 (k + 1) (pcells (l.take (k + 1)))) := Lib.hid (by rw [HTK.out]; simpa [pcells, pval, Cn.cells] using hown7)
      have S7 : Hid (R ≤ w7.heap.size) := Lib.hid (Nat.le_trans (by simp; omega) hg7.size)
      clear hown7 hown hg7 HB5 hs5
      go_wp2
      go_roundg (n - (k + 1))
      case measure => have := HG.out; omega
      case rel => exact ⟨k + 1, by go_num, by omega, Lib.hid rfl, V7, BL, S7⟩
    · obtain rfl : k = n := by omega
      have hall : l.take k = l := List.take_of_length_le (by have := HN.out; omega)
      rw [hall] at HV
      go_wp2
      go_ret
      exact ⟨_, rfl, by rw [HRR.out]; exact HV.out, by rw [HRR.out]; exact HB.out⟩

theorem own_pa {w : World} {base n c : Nat} {A : Option Addr} {l : List Cn} (h : w.ownsRow base 130 1 (.slice A n c) n (pcells l)) : PA w A n l := by
  have hl : l.length = n := by have := h.1; rw [pcells_length] at this; omega
  refine ⟨hl, fun hn => ?_⟩
  obtain ⟨g, cap, cur, hv, _, hg, _, _, _, ht⟩ := own_blk h hn
  simp only [Value.slice.injEq] at hv
  obtain ⟨rfl, _, rfl⟩ := hv
  exact ⟨g, cur, rfl, hg, by simpa using ht⟩

/-- What a fact writes. -/
def factL (p : ByteArray) (l : List Cn) : List UInt8 := if l.length = 0 then p.toList else p.toList ++ ([40] ++ (subL l ++ [41]))

set_option maxRecDepth 20000 in
set_option maxHeartbeats 4000000 in
theorem applied_any (R : Nat) (p : ByteArray) (A : Option Addr) (n c : Nat) (l : List Cn) (w : World) (h : Lib.IsBuilder 59 5 R R [] w) (hps : p.size ≤ 1000000) (hpa : PA w A n l) (hz : ∀ z ∈ l, inI z.i ∧ fineK z) (hn : n ≤ 8) (hp : PowB R w) :
    Calls Tryd.prog 158 #[.pointer (some ⟨R, 0, none⟩), .string p, .slice A n c] w fun e w' => e = .returned (.tuple #[]) ∧ (BU R (factL p l) w' ∧ Below R w w' ∧ Fz w w') := by
  have HI := Lib.hid h
  have HA := Lib.hid hpa
  have HZ := Lib.hid hz
  have HP := Lib.hid hp
  have HFL : Hid (factL p l = if n = 0 then p.toList else p.toList ++ ([40] ++ (subL l ++ [41]))) := Lib.hid (by rw [← hpa.1]; rfl)
  have hsub : (subL l).length ≤ 8 * 1024 := by
    have h1 := subL_length l fun z hz' => (hz z hz').1
    have h2 : l.length * 1024 ≤ 8 * 1024 := Nat.mul_le_mul_right _ (by rw [hpa.1]; exact hn)
    omega
  have hpl := toList_size p
  clear h hpa hz hp
  generalize factL p l = V at *
  go_enter Tryd.func158, Tryd.ntmps158
  go_wp2_with fail
  refine (wStr0 R p w HI.out (by omega)).mono ?_
  rintro e w2 ⟨rfl, h2, hb2, hf2⟩
  have HU2 := Lib.hid h2
  have HB2 := Lib.hid hb2
  have HP2 := Lib.hid (HP.out.below hb2)
  have HA2 := Lib.hid (HA.out.fz hf2)
  have HF2 := Lib.hid hf2
  clear h2 hb2 hf2 HI HP HA
  rcases Nat.eq_zero_or_pos n with h0 | h0
  · subst h0
    obtain rfl : V = p.toList := by rw [HFL.out, if_pos rfl]
    go_wp2
    go_end0
    exact ⟨rfl, HU2.out, HB2.out, HF2.out⟩
  · have t1 : decide ((0 : Int) < (n : Int)) = true := decide_eq_true (by omega)
    have HV : Hid (((p.toList ++ [40]) ++ subL l) ++ [41] = V) := Lib.hid (by rw [HFL.out, if_neg (by omega)]; simp)
    clear HFL
    go_wp2_with fail
    refine (wByte R _ 40 w2 HU2.out (by omega)).mono ?_
    rintro e w3 ⟨rfl, h3, hb3, hf3⟩
    have HU3 := Lib.hid h3
    have HB3 := Lib.hid (HB2.out.trans hb3)
    have HP3 := Lib.hid (HP2.out.below hb3)
    have HA3 := Lib.hid (HA2.out.fz hf3)
    have HF3 := Lib.hid (HF2.out.trans hf3)
    clear h3 hb3 hf3 HU2 HB2 HP2 HA2 HF2
    go_wp2_with fail
    refine (between_any R _ A n c l w3 HU3.out HA3.out HZ.out hn (by simp only [List.length_append, List.length_cons, List.length_nil]; omega) HP3.out).mono ?_
    rintro e w4 ⟨rfl, h4, hb4, hf4⟩
    have HF4 := Lib.hid (HF3.out.trans hf4)
    have HU4 := Lib.hid h4
    have HB4 := Lib.hid (HB3.out.trans hb4)
    clear h4 hb4 hf4 HU3 HB3 HP3 HA3 HF3
    go_wp2_with fail
    refine (wByte R _ 41 w4 HU4.out (by simp only [List.length_append, List.length_cons, List.length_nil]; omega)).mono ?_
    rintro e w5 ⟨rfl, h5, hb5, hf5⟩
    have HF5 := Lib.hid (HF4.out.trans hf5)
    rw [HV.out] at h5
    have HU5 := Lib.hid h5
    have HB5 := Lib.hid (HB4.out.trans hb5)
    clear h5 hb5 hf5 HU4 HB4 HF4
    go_wp2
    go_end0
    exact ⟨rfl, HU5.out, HB5.out, HF5.out⟩
end Go.Proofs.YtjcgkplphiedjaaDoorT
