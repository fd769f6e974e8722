/- A byte's text, the document's. -/
import Derived.Test.YtjcgkplphiedjaaDoorTH14
namespace Go.Proofs.YtjcgkplphiedjaaDoorT
open Go.RowKit

def hexL : List UInt8 := [48, 49, 50, 51, 52, 53, 54, 55, 56, 57, 97, 98, 99, 100, 101, 102]
def hexD (k : Nat) : UInt8 := hexL.getD k 0
def letterS (b : UInt8) : ByteArray :=
  if b = 34 then ⟨#[92, 34]⟩ else if b = 92 then ⟨#[92, 92]⟩ else if b = 10 then ⟨#[92, 110]⟩ else if b = 9 then ⟨#[92, 116]⟩ else if b = 13 then ⟨#[92, 114]⟩
  else if 32 ≤ b.toNat ∧ b.toNat ≤ 126 then ⟨#[b]⟩ else ⟨#[92, 120, hexD (b.toNat / 16), hexD (b.toNat % 16)]⟩
theorem letterS_size (b : UInt8) : (letterS b).size ≤ 4 := by
  unfold letterS
  repeat' split
  all_goals (show Array.size _ ≤ 4; simp)
theorem byte_is (b : UInt8) (k : Nat) (hk : k < 256) : (((b.toNat : Int)) == (k : Int)) = decide (b = UInt8.ofNat k) := by
  rw [Bool.eq_iff_iff, beq_iff_eq, decide_eq_true_eq]
  constructor
  · intro h
    have h1 : b.toNat = k := by omega
    apply UInt8.toNat_inj.1
    rw [h1]; simp; omega
  · rintro rfl
    simp; omega

theorem bytes_conv (l : List UInt8) (n : Nat) (hn : l.length = n) (w : World) (cs : Array Value) (hcs : cs = (l.map fun c => Value.int .u8 (c.toNat : Int)).toArray) :
    (convert 57 9 (.slice (some ⟨w.heap.size, 0, none⟩) n n)).run Tryd.prog (w.alloc (.cells cs 5)) = .ok (.string ⟨l.toArray⟩) (w.alloc (.cells cs 5)) := by
  subst hn
  have h := run_convert_bytes_back (P := Tryd.prog) (w.alloc (.cells cs 5)) 57 9 5 ⟨w.heap.size, 0, none⟩ l.length l Tryd.underlying57 Tryd.underlying5 Tryd.underlying9 (fun j hj => by
    rw [add_plain', cell_of_row _ w.heap.size j _ 5 (0, 0) (heap_alloc_new w _)]
    subst hcs
    simp [hj])
  exact h

theorem index_hex (q : Nat) (h : q < 16) (w : World) : (Instr.index 9 (.string ⟨#[48, 49, 50, 51, 52, 53, 54, 55, 56, 57, 97, 98, 99, 100, 101, 102]⟩) (.int .u8 (q : Int))).run Tryd.prog w = .ok (.int .u8 ((hexD q).toNat : Int)) w := by
  have hs : (⟨#[48, 49, 50, 51, 52, 53, 54, 55, 56, 57, 97, 98, 99, 100, 101, 102]⟩ : ByteArray).size = 16 := rfl
  rw [run_index_string w 9 _ .u8 (q : Int) Tryd.underlying9, dif_pos ⟨by omega, by rw [hs]; omega⟩]
  have : hexD q = hexL[q]'(by simpa [hexL] using h) := by
    unfold hexD List.getD
    rw [List.getElem?_eq_getElem (by simpa [hexL] using h)]; rfl
  rw [this]
  rfl

theorem bytes_conv_drew (l : List UInt8) (n : Nat) (hn : l.length = n) (w : World) (cs : Array Value) (hcs : cs = (l.map fun c => Value.int .u8 (c.toNat : Int)).toArray) :
    (convert 57 9 (.slice (some ⟨w.heap.size, 0, none⟩) n n)).run Tryd.prog (w.alloc (.cells cs 5)).drew = .ok (.string ⟨l.toArray⟩) (w.alloc (.cells cs 5)).drew := by
  subst hn
  have h := run_convert_bytes_back (P := Tryd.prog) (w.alloc (.cells cs 5)).drew 57 9 5 ⟨w.heap.size, 0, none⟩ l.length l Tryd.underlying57 Tryd.underlying5 Tryd.underlying9 (fun j hj => by
    show (w.alloc (.cells cs 5)).cell? _ = _
    rw [add_plain', cell_of_row _ w.heap.size j _ 5 (0, 0) (heap_alloc_new w _)]
    subst hcs
    simp [hj])
  exact h

set_option maxRecDepth 20000 in
set_option maxHeartbeats 2000000 in
theorem letter_ref (b : UInt8) (w : World) :
    Calls Tryd.prog 54 #[.int .u8 (b.toNat : Int)] w fun e w' => e = .returned (.string (letterS b)) ∧ Below w.heap.size w w' := by
  have hb := b.toNat_lt
  have HV : Hid (letterS b = if b = 34 then ⟨#[92, 34]⟩ else if b = 92 then ⟨#[92, 92]⟩ else if b = 10 then ⟨#[92, 110]⟩ else if b = 9 then ⟨#[92, 116]⟩ else if b = 13 then ⟨#[92, 114]⟩
    else if 32 ≤ b.toNat ∧ b.toNat ≤ 126 then ⟨#[b]⟩ else ⟨#[92, 120, hexD (b.toNat / 16), hexD (b.toNat % 16)]⟩) := Lib.hid rfl
  have e1 : (((b.toNat : Int)) == 34) = decide (b = 34) := byte_is b 34 (by omega)
  have e2 : (((b.toNat : Int)) == 92) = decide (b = 92) := byte_is b 92 (by omega)
  have e3 : (((b.toNat : Int)) == 10) = decide (b = 10) := byte_is b 10 (by omega)
  have e4 : (((b.toNat : Int)) == 9) = decide (b = 9) := byte_is b 9 (by omega)
  have e5 : (((b.toNat : Int)) == 13) = decide (b = 13) := byte_is b 13 (by omega)
  have kc1 := bytes_conv [b] 1 rfl w #[.int .u8 (b.toNat : Int)] rfl
  have kc4 := bytes_conv_drew [92, 120, hexD (b.toNat / 16), hexD (b.toNat % 16)] 4 rfl w #[.int .u8 92, .int .u8 120, .int .u8 ((hexD (b.toNat / 16)).toNat : Int), .int .u8 ((hexD (b.toNat % 16)).toNat : Int)] rfl
  generalize letterS b = v at *
  generalize hn : b.toNat = n at *
  by_cases h1 : b = 34
  · have hz : v = ⟨#[92, 34]⟩ := by rw [HV.out, if_pos h1]
    rw [decide_eq_true h1] at e1
    subst hz
    clear HV e2 e3 e4 e5 kc1 kc4 h1 hn
    go_enter Tryd.func54, Tryd.ntmps54
    go_wp2
    go_ret
    exact ⟨by rfl, Below.refl _ _⟩
  rw [decide_eq_false h1] at e1
  by_cases h2 : b = 92
  · have hz : v = ⟨#[92, 92]⟩ := by rw [HV.out, if_neg h1, if_pos h2]
    rw [decide_eq_true h2] at e2
    subst hz
    clear HV e3 e4 e5 kc1 kc4 h1 h2 hn
    go_enter Tryd.func54, Tryd.ntmps54
    go_wp2
    go_ret
    exact ⟨by rfl, Below.refl _ _⟩
  rw [decide_eq_false h2] at e2
  by_cases h3 : b = 10
  · have hz : v = ⟨#[92, 110]⟩ := by rw [HV.out, if_neg h1, if_neg h2, if_pos h3]
    rw [decide_eq_true h3] at e3
    subst hz
    clear HV e4 e5 kc1 kc4 h1 h2 h3 hn
    go_enter Tryd.func54, Tryd.ntmps54
    go_wp2
    go_ret
    exact ⟨by rfl, Below.refl _ _⟩
  rw [decide_eq_false h3] at e3
  by_cases h4 : b = 9
  · have hz : v = ⟨#[92, 116]⟩ := by rw [HV.out, if_neg h1, if_neg h2, if_neg h3, if_pos h4]
    rw [decide_eq_true h4] at e4
    subst hz
    clear HV e5 kc1 kc4 h1 h2 h3 h4 hn
    go_enter Tryd.func54, Tryd.ntmps54
    go_wp2
    go_ret
    exact ⟨by rfl, Below.refl _ _⟩
  rw [decide_eq_false h4] at e4
  by_cases h5 : b = 13
  · have hz : v = ⟨#[92, 114]⟩ := by rw [HV.out, if_neg h1, if_neg h2, if_neg h3, if_neg h4, if_pos h5]
    rw [decide_eq_true h5] at e5
    subst hz
    clear HV kc1 kc4 h1 h2 h3 h4 h5 hn
    go_enter Tryd.func54, Tryd.ntmps54
    go_wp2
    go_ret
    exact ⟨by rfl, Below.refl _ _⟩
  rw [decide_eq_false h5] at e5
  by_cases h6 : 32 ≤ n ∧ n ≤ 126
  · have hz : v = ⟨#[b]⟩ := by rw [HV.out, if_neg h1, if_neg h2, if_neg h3, if_neg h4, if_neg h5, if_pos h6]
    have t1 : decide ((32 : Int) ≤ (n : Int)) = true := decide_eq_true (by omega)
    have t2 : decide ((n : Int) ≤ 126) = true := decide_eq_true (by omega)
    have HB := Lib.hid ((Below.refl w.heap.size w).alloc (Nat.le_refl _) (.cells #[.int .u8 (n : Int)] 5))
    subst hz
    clear HV kc4 h1 h2 h3 h4 h5 h6 hn
    go_enter Tryd.func54, Tryd.ntmps54
    go_wp2
    go_ret
    exact ⟨by rfl, HB.out⟩
  · have hz : v = ⟨#[92, 120, hexD (n / 16), hexD (n % 16)]⟩ := by rw [HV.out, if_neg h1, if_neg h2, if_neg h3, if_neg h4, if_neg h5, if_neg h6]
    subst hz
    clear HV h1 h2 h3 h4 h5 hn kc1
    obtain ⟨q, hq⟩ : ∃ q, n / 16 = q := ⟨_, rfl⟩
    obtain ⟨r, hr⟩ : ∃ r, n % 16 = r := ⟨_, rfl⟩
    have c1 : (n : Int) / 16 = (q : Int) := by omega
    have c2 : (n : Int) % 16 = (r : Int) := by omega
    rw [hq, hr] at kc4 ⊢
    go_enter Tryd.func54, Tryd.ntmps54
    have HB := Lib.hid ((Below.refl w.heap.size w).alloc (Nat.le_refl _) (.cells #[.int .u8 92, .int .u8 120, .int .u8 ((hexD q).toNat : Int), .int .u8 ((hexD r).toNat : Int)] 5)).drew
    have ki1 := index_hex q (by omega)
    have ki2 := index_hex r (by omega)
    by_cases h7 : 32 ≤ n
    · have t1 : decide ((32 : Int) ≤ (n : Int)) = true := decide_eq_true (by omega)
      have t2 : decide ((n : Int) ≤ 126) = false := decide_eq_false (by omega)
      go_upto_region 14 with (fail)
      obtain ⟨C, hC⟩ : ∃ C : World → Prop, ∀ w, C w := ⟨fun _ => True, fun _ => trivial⟩
      have kn : Nonempty (WC C) := ⟨⟨w, hC w⟩⟩
      refine wp_region_frontN C [0, 1, 2, 3, 4, 5] 3 (fun j => decide (j < 9)) (by kernel_rfl) (fun _ _ d _ _ h => by cases d <;> exact h) (by kernel_rfl) (hC _) ?_
      simp only [List.map_cons, List.map_nil, List.getD_cons_zero, List.getD_cons_succ]
      repeat (go_big_quiet_step (fail))
      refine wpQuiet_nil ?_
      refine wpN_one (i := 6) (by kernel_rfl) rfl ?_
      go_wp2
      refine tailN_normal (hC _) ?_
      refine wpN_one (i := 7) (by kernel_rfl) rfl ?_
      go_wp2
      refine tailN_normal (hC _) ?_
      refine wpN_one (i := 8) (by kernel_rfl) rfl ?_
      go_wp2
      refine tailN_normal (hC _) ?_
      refine wpN_none (by kernel_rfl) ?_
      go_wp2
      go_ret
      exact ⟨by rfl, HB.out⟩
    · have t1 : decide ((32 : Int) ≤ (n : Int)) = false := decide_eq_false (by omega)
      go_upto_region 14 with (fail)
      obtain ⟨C, hC⟩ : ∃ C : World → Prop, ∀ w, C w := ⟨fun _ => True, fun _ => trivial⟩
      have kn : Nonempty (WC C) := ⟨⟨w, hC w⟩⟩
      refine wp_region_frontN C [0, 1, 2, 3, 4, 5] 3 (fun j => decide (j < 9)) (by kernel_rfl) (fun _ _ d _ _ h => by cases d <;> exact h) (by kernel_rfl) (hC _) ?_
      simp only [List.map_cons, List.map_nil, List.getD_cons_zero, List.getD_cons_succ]
      repeat (go_big_quiet_step (fail))
      refine wpQuiet_nil ?_
      refine wpN_one (i := 6) (by kernel_rfl) rfl ?_
      go_wp2
      refine tailN_normal (hC _) ?_
      refine wpN_one (i := 7) (by kernel_rfl) rfl ?_
      go_wp2
      refine tailN_normal (hC _) ?_
      refine wpN_one (i := 8) (by kernel_rfl) rfl ?_
      go_wp2
      refine tailN_normal (hC _) ?_
      refine wpN_none (by kernel_rfl) ?_
      go_wp2
      go_ret
      exact ⟨by rfl, HB.out⟩
end Go.Proofs.YtjcgkplphiedjaaDoorT
