/- Facts that are well formed: both looks. -/
import Derived.Test.YtjcgkplphiedjaaDoorTH10
namespace Go.Proofs.YtjcgkplphiedjaaDoorT
open Go.RowKit Go.Sort

set_option maxHeartbeats 4000000 in
theorem firstK (A : Option Addr) (n c : Nat) (l : List Cn) (w : World) (hr : Rd w w.heap.size 3 A n (kcells l)) (hf : ∀ z ∈ l, fineK z) :
    Calls Tryd.prog 82 #[.slice A n c, .func (.func 83) #[] #[]] w fun e w' => e = .returned (.int .i64 (if l.all validK = true then 0 else 5)) ∧ Below w.heap.size w w' := by
  have hlen : l.length = n := by have := hr.1; rw [kcells_length] at this; omega
  obtain ⟨V, hV⟩ : ∃ V : Int, V = if l.all validK = true then 0 else 5 := ⟨_, rfl⟩
  rw [← hV]
  have HVV := Lib.hid hV
  have HR := Lib.hid hr
  have HF := Lib.hid hf
  have HN := Lib.hid hlen
  have hn := hr.2.1
  clear hr hf hlen hV
  generalize hR : w.heap.size = R at *
  have HRR := Lib.hid hR
  clear hR
  go_enter Tryd.func82, Tryd.ntmps82
  go_upto_region 2 with (fail)
  go_loopg [10] n (fun gk u10 wr => ∃ k : Nat, u10 = .int .i64 k ∧ k ≤ n ∧ Hid (gk = n - k) ∧ Hid (Below R w wr) ∧ Hid (R ≤ wr.heap.size) ∧ Hid ((l.take k).all validK = true))
  case atStart => exact ⟨0, rfl, Nat.zero_le _, Lib.hid (by omega), Lib.hid (Below.refl _ _), Lib.hid (by rw [HRR.out]; exact Nat.le_refl _), Lib.hid rfl⟩
  case round =>
    obtain ⟨k, rfl, hk, HG, HB, HS, HA⟩ := hrel
    by_cases hlt : k < n
    · obtain ⟨b1, o1, hk1, rfl, hb1, hc⟩ := (HR.out.below HB.out).at Cn.cells 3 (fun _ => rfl) (by omega) k hlt
      have c0 := hc 0 _ (by omega) rfl
      have c1 := hc 1 _ (by omega) rfl
      have c2 := hc 2 _ (by omega) rfl
      rw [Nat.add_zero] at c0
      clear hc
      have hz := HF.out l[k] (List.getElem_mem hk1)
      have HTK := Lib.hid (take_snoc l k hk1)
      have HM : Hid (validK l[k] = false → l.all validK = false) := Lib.hid fun h => by
        rw [List.all_eq_false]; exact ⟨l[k], List.getElem_mem hk1, by simp [h]⟩
      generalize l[k] = z at *
      have HW := Lib.hid (wellConstK z hz)
      obtain ⟨zk, zi, zt⟩ := z
      simp only [Cn.cells] at HW
      dsimp only at c0 c1 c2
      go_upto_region 4 with (fail)
      have HBA := Lib.hid ((Below.refl wr.heap.size wr).alloc (Nat.le_refl _) (.cells #[.int .i64 zk, .int .i64 zi, .string zt] 68))
      have HX := Lib.hid (Blk.new wr 68 [.int .i64 zk, .int .i64 zi, .string zt])
      clear c0 c1 c2
      generalize World.alloc _ _ = wa at *
      have HB1 := Lib.hid (HB.out.trans (HBA.out.mono HS.out))
      have hs1 : R ≤ wa.heap.size := Nat.le_trans HS.out HBA.out.size
      clear HBA HB HS
      generalize wr.heap.size = Z at *
      have x0 := (HX.out.cell 0).trans rfl
      have x1 := (HX.out.cell 1).trans rfl
      have x2 := (HX.out.cell 2).trans rfl
      go_wp2_with fail
      refine (HW.out wa).mono ?_
      rintro e w5 ⟨rfl, hb5⟩
      have HB5 := Lib.hid (HB1.out.trans (hb5.mono hs1))
      have HS5 := Lib.hid (Nat.le_trans hs1 hb5.size)
      clear hb5 hs1 HB1 HX x0 x1 x2 HW
      cases hv : validK ⟨zk, zi, zt⟩ with
      | true =>
        have A7 : Hid ((l.take (k + 1)).all validK = true) := Lib.hid (by rw [HTK.out, List.all_append, HA.out]; simp [hv])
        clear hv HM
        rw [if_pos rfl]
        go_wp2
        go_roundg (n - (k + 1))
        case measure => have := HG.out; omega
        case rel => exact ⟨k + 1, by go_num, by omega, Lib.hid rfl, HB5, HS5, A7⟩
      | false =>
        obtain rfl : V = 5 := by rw [HVV.out, HM.out hv]; rfl
        clear hv HM HVV
        rw [if_neg (by decide)]
        go_wp2
        go_ret
        exact ⟨rfl, HB5.out⟩
    · obtain rfl : k = n := by omega
      have hall : l.take k = l := List.take_of_length_le (by have := HN.out; omega)
      rw [hall] at HA
      obtain rfl : V = 0 := by rw [HVV.out, HA.out]; rfl
      go_wp2
      go_ret
      exact ⟨rfl, HB.out⟩
end Go.Proofs.YtjcgkplphiedjaaDoorT
