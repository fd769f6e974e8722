/- A fact's text, the program's: its constants as parts. -/
import Derived.Test.YtjcgkplphiedjaaDoorTH22
import Derived.Handy
namespace Go.Proofs.YtjcgkplphiedjaaDoorT
open Go.RowKit Go.Sort

theorem Tryd.info130 : (Tryd.prog.info? 130).map (fun i => (i.zero, i.size, i.bytes)) = some (some .nilIface, 1, 16) := by kernel_rfl

/-- The table of powers stays whatever is done from block R on. -/
def PowB (R : Nat) (w : World) : Prop := ∀ w', Below R w w' → Pow w'
theorem PowB.of {R : Nat} {w : World} (h : Pow w) (hR : w.heap.size = R) : PowB R w := fun _ hb => YtjcgkplphiedjaaDoor.Pow.below h (hR ▸ hb)
theorem PowB.below {R : Nat} {w w' : World} (h : PowB R w) (hb : Below R w w') : PowB R w' := fun w'' hb' => h w'' (hb.trans hb')
theorem PowB.pow {R : Nat} {w : World} (h : PowB R w) : Pow w := h w (Below.refl _ _)

def pval (z : Cn) : Value := .iface 201 (.agg z.cells.toArray)
def pcells (l : List Cn) : List Value := l.map pval
theorem pcells_length (l : List Cn) : (pcells l).length = l.length := by simp [pcells]

set_option maxRecDepth 20000 in
set_option maxHeartbeats 4000000 in
theorem value_write (z : Cn) (hz : inI z.i ∧ fineK z) (R : Nat) (L : List UInt8) (w : World) (h : BU R L w) (hl : L.length ≤ 140737488350000) (hp : PowB R w) :
    Calls Tryd.prog 163 #[.agg z.cells.toArray, .pointer (some ⟨R, 0, none⟩)] w fun e w' => e = .returned (.tuple #[]) ∧ (BU R (L ++ (textK z).toList) w' ∧ Below R w w' ∧ Fz w w') := by
  have ht := textK_size z hz.1
  unfold textK at *
  obtain ⟨k, i, t⟩ := z
  dsimp only at ht ⊢
  show Calls Tryd.prog 163 #[.agg #[.int .i64 k, .int .i64 i, .string t], .pointer (some ⟨R, 0, none⟩)] w _
  have HU := Lib.hid h
  have HP := Lib.hid hp
  have hR := h.lt
  have HKT := Lib.hid (fun W hW => text_sym k i t hz.1 hz.2 W hW)
  clear h hp hz
  generalize textS k i t = s at *
  go_enter Tryd.func163, Tryd.ntmps163
  go_upto_region 1 with (fail)
  have hba := (Below.refl w.heap.size w).alloc (Nat.le_refl _) (.cells #[.int .i64 k, .int .i64 i, .string t] 201)
  have H1 := Lib.hid (Blk.new w 201 [.int .i64 k, .int .i64 i, .string t])
  have HF1 := Lib.hid (Fz.alloc w (.cells #[.int .i64 k, .int .i64 i, .string t] 201))
  generalize World.alloc _ _ = w1 at *
  have HU1 := Lib.hid (HU.out.below hba)
  have HB1 := Lib.hid (hba.mono (Nat.le_of_lt hR))
  clear hba HU
  generalize w.heap.size = G at *
  have f0 := (H1.out.cell 0).trans rfl
  have f1 := (H1.out.cell 1).trans rfl
  have f2 := (H1.out.cell 2).trans rfl
  go_wp2_with fail
  refine (HKT.out w1 (HP.out.below HB1.out).pow).mono ?_
  rintro e w2 ⟨rfl, hb2⟩
  have HU2 := Lib.hid (HU1.out.below hb2)
  have HB2 := Lib.hid (HB1.out.trans (hb2.mono (Nat.le_of_lt HU1.out.lt)))
  have HF2 := Lib.hid (HF1.out.trans (Fz.below hb2))
  clear hb2 HU1 HB1 HF1 H1 f0 f1 f2
  go_wp2_with fail
  refine (wStr R L s w2 HU2.out (by omega)).mono ?_
  rintro e w3 ⟨rfl, h3, hb3, hf3⟩
  have HU3 := Lib.hid h3
  have HB3 := Lib.hid (HB2.out.trans hb3)
  have HF3 := Lib.hid (HF2.out.trans hf3)
  clear h3 hb3 hf3
  go_wp2
  go_end0
  exact ⟨rfl, HU3.out, HB3.out, HF3.out⟩

/-- The constants, as parts. -/
def PA (w : World) (A : Option Addr) (n : Nat) (l : List Cn) : Prop := l.length = n ∧ (0 < n → ∃ G cur, A = some ⟨G, 0, none⟩ ∧ Blk w G 130 cur ∧ cur.take n = pcells l)
theorem PA.fz {w w' : World} {A : Option Addr} {n : Nat} {l : List Cn} (h : PA w A n l) (hf : Fz w w') : PA w' A n l :=
  ⟨h.1, fun hn => by obtain ⟨G, cur, h1, h2, h3⟩ := h.2 hn; exact ⟨G, cur, h1, hf G _ _ _ h2 (.inr ⟨by decide, by decide⟩), h3⟩⟩
theorem PA.at {w : World} {A : Option Addr} {n : Nat} {l : List Cn} (h : PA w A n l) (k : Nat) (hk : k < n) : ∃ G, ∃ h2 : k < l.length, A = some ⟨G, 0, none⟩ ∧ w.cell? ⟨G, k, none⟩ = some (pval l[k]) := by
  have hk2 : k < l.length := by rw [h.1]; exact hk
  obtain ⟨G, cur, h1, h2, h3⟩ := h.2 (by omega)
  refine ⟨G, hk2, h1, ?_⟩
  rw [h2.cell k]
  have h4 : (cur.take n)[k]? = some (pval l[k]) := by rw [h3]; simp [pcells, hk2]
  rw [List.getElem?_take] at h4
  rwa [if_pos hk] at h4

set_option maxRecDepth 20000 in
set_option maxHeartbeats 4000000 in
theorem between_any (R : Nat) (L : List UInt8) (A : Option Addr) (n c : Nat) (l : List Cn) (w : World) (h : BU R L w) (hpa : PA w A n l) (hz : ∀ z ∈ l, inI z.i ∧ fineK z) (hn : n ≤ 8) (hl : L.length ≤ 140737488000000) (hp : PowB R w) :
    Calls Tryd.prog 161 #[.pointer (some ⟨R, 0, none⟩), .string ⟨#[44, 32]⟩, .slice A n c] w fun e w' => e = .returned (.tuple #[]) ∧ (BU R (L ++ subL l) w' ∧ Below R w w' ∧ Fz w w') := by
  have HU := Lib.hid h
  have HA := Lib.hid hpa
  have HZ := Lib.hid hz
  have HP := Lib.hid hp
  have HN := Lib.hid hpa.1
  clear h hpa hz hp
  go_enter Tryd.func161, Tryd.ntmps161
  go_upto_region 1 with (fail)
  go_loopg [10] n (fun gk u10 wr => ∃ (k : Nat), u10 = .int .i64 k ∧ k ≤ n ∧ Hid (gk = n - k) ∧ Hid (BU R (L ++ subL (l.take k)) wr) ∧ Hid (Below R w wr) ∧ Hid (Fz w wr))
  case atStart => exact ⟨0, rfl, Nat.zero_le _, Lib.hid (by omega), Lib.hid (by simpa [subL, jo] using HU.out), Lib.hid (Below.refl _ _), Lib.hid (Fz.refl _)⟩
  case round =>
    clear HU
    obtain ⟨k, rfl, hk, HG, HU, HB, HF⟩ := hrel
    by_cases hlt : k < n
    · obtain ⟨G, hk1, rfl, c0⟩ := (HA.out.fz HF.out).at k hlt
      have hb8 : (subL (l.take k)).length ≤ 8 * 1024 := by
        have := subL_length (l.take k) fun z hz => (HZ.out z (List.mem_of_mem_take hz)).1
        rw [List.length_take] at this
        have h2 : min k l.length * 1024 ≤ 8 * 1024 := Nat.mul_le_mul_right _ (by omega)
        omega
      have hzk := HZ.out l[k] (List.getElem_mem hk1)
      have HST : Hid (subL (l.take (k + 1)) = if k = 0 then (textK l[k]).toList else subL (l.take k) ++ ([44, 32] ++ (textK l[k]).toList)) := Lib.hid (jo_take (fun z => (textK z).toList) l k hk1)
      have HPr := Lib.hid (HP.out.below HB.out)
      generalize l[k] = z at *
      generalize hS : subL (l.take k) = S at *
      have HS := Lib.hid hS
      clear hS
      unfold pval at c0
      rcases Nat.eq_zero_or_pos k with k0 | k0
      · have t1 : decide ((0 : Int) < (k : Int)) = false := decide_eq_false (by omega)
        subst k0
        have HS0 : Hid (S = []) := Lib.hid (by rw [← HS.out]; simp [subL, jo])
        rw [HS0.out, List.append_nil] at HU
        rw [if_pos rfl] at HST
        go_wp2_with fail
        refine (value_write z hzk R L wr HU.out (by omega) HPr.out).mono ?_
        rintro e w5 ⟨rfl, h5, hb5, hf5⟩
        have HU5 : Hid (BU R (L ++ subL (l.take (0 + 1))) w5) := Lib.hid (by rw [HST.out]; exact h5)
        have HB5 := Lib.hid (HB.out.trans hb5)
        have HF5 := Lib.hid (HF.out.trans hf5)
        clear h5 hb5 hf5 HU HB HF HPr
        go_wp2
        go_roundg (n - (0 + 1))
        case measure => have := HG.out; omega
        case rel => exact ⟨0 + 1, by go_num, by omega, Lib.hid rfl, HU5, HB5, HF5⟩
      · have t1 : decide ((0 : Int) < (k : Int)) = true := decide_eq_true (by omega)
        rw [if_neg (by omega)] at HST
        have ks := fun W (hW : BU R (L ++ S) W) => wStr R (L ++ S) ⟨#[44, 32]⟩ W hW (by rw [List.length_append]; show _ + 2 ≤ _; omega)
        rw [mk_list] at ks
        go_wp2_with fail
        refine (ks wr HU.out).mono ?_
        rintro e w5 ⟨rfl, h5, hb5, hf5⟩
        have HU5 := Lib.hid h5
        have HP5 := Lib.hid (HPr.out.below hb5)
        have HB5 := Lib.hid (HB.out.trans hb5)
        have HF5 := Lib.hid (HF.out.trans hf5)
        clear h5 hb5 hf5 HU HB HF HPr ks
        go_wp2_with fail
        refine (value_write z hzk R _ w5 HU5.out (by simp only [List.length_append, List.length_cons, List.length_nil]; omega) HP5.out).mono ?_
        rintro e w6 ⟨rfl, h6, hb6, hf6⟩
        have HU6 : Hid (BU R (L ++ subL (l.take (k + 1))) w6) := Lib.hid (by rw [HST.out]; simpa using h6)
        have HB6 := Lib.hid (HB5.out.trans hb6)
        have HF6 := Lib.hid (HF5.out.trans hf6)
        clear h6 hb6 hf6 HU5 HB5 HF5 HP5
        go_wp2
        go_roundg (n - (k + 1))
        case measure => have := HG.out; omega
        case rel => exact ⟨k + 1, by go_num, by omega, Lib.hid rfl, HU6, HB6, HF6⟩
    · obtain rfl : k = n := by omega
      have hall : l.take k = l := List.take_of_length_le (by have := HN.out; omega)
      rw [hall] at HU
      go_wp2
      go_end0
      exact ⟨rfl, HU.out, HB.out, HF.out⟩
end Go.Proofs.YtjcgkplphiedjaaDoorT
