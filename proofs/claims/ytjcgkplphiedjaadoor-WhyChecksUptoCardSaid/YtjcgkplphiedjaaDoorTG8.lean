/- Facts that are well formed: the program's look. | Facts that are well formed: the document's look. -/
import Derived.Test.YtjcgkplphiedjaaDoorTG7
namespace Go.Proofs.YtjcgkplphiedjaaDoorT
open Go.RowKit Go.Sort

def factE (p : ByteArray) (l : List Cn) : Int := if isNameS p = false then 14 else if 8 < l.length then 22 else if l.all validK = true then 0 else 5
theorem factE_zero (p : ByteArray) (l : List Cn) : factE p l = 0 ↔ wellF p l = true := by
  unfold factE wellF
  cases isNameS p <;> by_cases h : 8 < l.length <;> cases l.all validK <;> simp [h] <;> omega

set_option maxHeartbeats 4000000 in
theorem wellFact_any (p : ByteArray) (hp : p.size ≤ 9223372036854775807) (A : Option Addr) (n c : Nat) (l : List Cn) (w : World) (hr : Rd w w.heap.size 3 A n (kcells l)) (hf : ∀ z ∈ l, fineK z) :
    Calls Tryd.prog 56 #[.agg #[.string p, .slice A n c]] w fun e w' => e = .returned (.int .i64 (factE p l)) ∧ Below w.heap.size w w' := by
  have hlen : l.length = n := by have := hr.1; rw [kcells_length] at this; omega
  obtain ⟨V, hV⟩ : ∃ V : Int, V = factE p l := ⟨_, rfl⟩
  rw [← hV]
  unfold factE at hV
  rw [hlen] at hV
  have HVV := Lib.hid hV
  have HR := Lib.hid hr
  have HF := Lib.hid hf
  have HI := Lib.hid (isName_sym p hp)
  have hn := hr.2.1
  clear hr hf hlen hV hp
  go_enter Tryd.func56, Tryd.ntmps56
  go_upto_region 1 with (fail)
  have hb1 := (Below.refl w.heap.size w).alloc (Nat.le_refl _) (.cells #[.string p, .slice A n c] 45)
  have h1 := Blk.new w 45 [.string p, .slice A n c]
  generalize World.alloc _ _ = w1 at *
  generalize hR : w.heap.size = R at *
  have HRR := Lib.hid hR
  clear hR
  have HB := Lib.hid hb1
  have H1 := Lib.hid h1
  clear hb1 h1
  have f0 := (H1.out.cell 0).trans rfl
  go_wp2_with fail
  refine (HI.out w1).mono ?_
  rintro e w2 ⟨rfl, hb2⟩
  have H2 := Lib.hid (H1.out.below hb2 H1.out.lt)
  have HB2 := Lib.hid (HB.out.trans (hb2.mono (Nat.le_of_lt H1.out.lt)))
  clear hb2 HB H1 HI f0
  have f1 := (H2.out.cell 1).trans rfl
  cases hi : isNameS p with
  | false =>
    obtain rfl : V = 14 := by rw [HVV.out, hi]; rfl
    clear hi HVV
    go_wp2
    go_ret
    exact ⟨rfl, by rw [HRR.out]; exact HB2.out⟩
  | true =>
    by_cases h8 : 8 < n
    · obtain rfl : V = 22 := by rw [HVV.out, hi, if_neg (by decide), if_pos h8]
      have t8 : decide ((n : Int) > 8) = true := decide_eq_true (by omega)
      clear hi HVV
      go_wp2
      go_ret
      exact ⟨rfl, by rw [HRR.out]; exact HB2.out⟩
    · have HV2 : Hid (V = if l.all validK = true then 0 else 5) := Lib.hid (by rw [HVV.out, hi, if_neg (by decide), if_neg h8])
      have t8 : decide ((n : Int) > 8) = false := decide_eq_false (by omega)
      clear hi HVV
      have hR2 := H2.out.lt
      go_wp2_with fail
      refine (firstK A n c l w2 (HR.out.up HB2.out (by omega)) HF.out).mono ?_
      rintro e w3 ⟨rfl, hb3⟩
      rw [← HV2.out]
      have HB3 := Lib.hid (HB2.out.trans (hb3.mono (Nat.le_of_lt hR2)))
      clear hb3 f1 HV2
      go_wp2
      go_ret
      exact ⟨rfl, by rw [HRR.out]; exact HB3.out⟩
end Go.Proofs.YtjcgkplphiedjaaDoorT

namespace Go.Proofs.YtjcgkplphiedjaaDoorT
open Go.RowKit Go.Sort

set_option maxHeartbeats 4000000 in
theorem wellFact_ref (p : ByteArray) (hp : p.size ≤ 9223372036854775807) (A : Option Addr) (n c : Nat) (l : List Cn) (w : World) (hr : Rd w w.heap.size 3 A n (kcells l)) (hf : ∀ z ∈ l, fineK z) :
    Calls Tryd.prog 50 #[.agg #[.string p, .slice A n c]] w fun e w' => e = .returned (.bool (wellF p l)) ∧ Below w.heap.size w w' := by
  have hlen : l.length = n := by have := hr.1; rw [kcells_length] at this; omega
  obtain ⟨V, hV⟩ : ∃ V : Bool, V = wellF p l := ⟨_, rfl⟩
  rw [← hV]
  unfold wellF at hV
  rw [hlen] at hV
  have HVV := Lib.hid hV
  have HR := Lib.hid hr
  have HF := Lib.hid hf
  have HN := Lib.hid hlen
  have HI := Lib.hid (isName_ref p hp)
  have hn := hr.2.1
  clear hr hf hlen hV hp
  go_enter Tryd.func50, Tryd.ntmps50
  go_upto_region 1 with (fail)
  have hb1 := (Below.refl w.heap.size w).alloc (Nat.le_refl _) (.cells #[.string p, .slice A n c] 45)
  have h1 := Blk.new w 45 [.string p, .slice A n c]
  generalize World.alloc _ _ = w1 at *
  generalize hR : w.heap.size = R at *
  have HRR := Lib.hid hR
  clear hR
  have HB := Lib.hid hb1
  have H1 := Lib.hid h1
  clear hb1 h1
  have f0 := (H1.out.cell 0).trans rfl
  have f1 := (H1.out.cell 1).trans rfl
  go_wp2_with fail
  refine (HI.out w1).mono ?_
  rintro e w2 ⟨rfl, rfl⟩
  cases hi : isNameS p with
  | false =>
    obtain rfl : V = false := by rw [HVV.out, hi]; rfl
    clear hi HVV
    go_wp2
    go_ret
    exact ⟨rfl, by rw [HRR.out]; exact HB.out⟩
  | true =>
    by_cases h8 : 8 < n
    · obtain rfl : V = false := by rw [HVV.out, hi, decide_eq_false (by omega)]; rfl
      have t8 : decide ((n : Int) > 8) = true := decide_eq_true (by omega)
      clear hi HVV
      go_wp2
      go_ret
      exact ⟨rfl, by rw [HRR.out]; exact HB.out⟩
    · have HV2 : Hid (V = l.all validK) := Lib.hid (by rw [HVV.out, hi, decide_eq_true (by omega)]; simp)
      have t8 : decide ((n : Int) > 8) = false := decide_eq_false (by omega)
      clear hi HVV
      go_upto_region 4 with (fail)
      clear f0 f1 t8
      go_loopg [3] n (fun gk u3 wr => ∃ k : Nat, u3 = .int .i64 k ∧ k ≤ n ∧ Hid (gk = n - k) ∧ Hid (Below R w wr) ∧ Hid (Blk wr R 45 [.string p, .slice A n c]) ∧ Hid ((l.take k).all validK = true))
      case atStart => exact ⟨0, rfl, Nat.zero_le _, Lib.hid (by omega), HB, H1, Lib.hid rfl⟩
      case round =>
        clear HB H1
        obtain ⟨k, rfl, hk, HG, HB, H1, HA⟩ := hrel
        have f1 := (H1.out.cell 1).trans rfl
        by_cases hlt : k < n
        · obtain ⟨b1, o1, hk1, rfl, hb1, hc⟩ := (HR.out.below HB.out).at Cn.cells 3 (fun _ => rfl) (by omega) k hlt
          have c0 := hc 0 _ (by omega) rfl
          have c1 := hc 1 _ (by omega) rfl
          have c2 := hc 2 _ (by omega) rfl
          rw [Nat.add_zero] at c0
          clear hc
          have hz := HF.out l[k] (List.getElem_mem hk1)
          have HTK := Lib.hid (take_snoc l k hk1)
          have HM : Hid (validK l[k] = false → l.all validK = false) := Lib.hid fun h => by
            rw [List.all_eq_false]; exact ⟨l[k], List.getElem_mem hk1, by simp [h]⟩
          generalize l[k] = z at *
          obtain ⟨zk, zi, zt⟩ := z
          dsimp only at c0 c1 c2
          go_wp2_with fail
          refine (valid_ref zk zi zt hz wr).mono ?_
          rintro e w5 ⟨rfl, hb5⟩
          have hl := H1.out.lt
          have HB5 := Lib.hid (HB.out.trans (hb5.mono (Nat.le_of_lt hl)))
          have H5 := Lib.hid (H1.out.below hb5 hl)
          clear hb5 hl HB H1 c0 c1 c2 f1
          cases hv : validC zk zi zt with
          | true =>
            have A7 : Hid ((l.take (k + 1)).all validK = true) := Lib.hid (by rw [HTK.out, List.all_append, HA.out]; simp [validK, hv])
            clear hv HM
            go_wp2
            go_roundg (n - (k + 1))
            case measure => have := HG.out; omega
            case rel => exact ⟨k + 1, by go_num, by omega, Lib.hid rfl, HB5, H5, A7⟩
          | false =>
            obtain rfl : V = false := by rw [HV2.out, HM.out hv]
            clear hv HM HV2
            go_wp2
            go_ret
            exact ⟨rfl, by rw [HRR.out]; exact HB5.out⟩
        · obtain rfl : k = n := by omega
          have hall : l.take k = l := List.take_of_length_le (by have := HN.out; omega)
          rw [hall] at HA
          obtain rfl : V = true := by rw [HV2.out, HA.out]
          go_wp2
          go_ret
          exact ⟨rfl, by rw [HRR.out]; exact HB.out⟩
end Go.Proofs.YtjcgkplphiedjaaDoorT
