/- Lists' texts, the document's. -/
import Derived.Test.YtjcgkplphiedjaaDoorTH16
namespace Go.Proofs.YtjcgkplphiedjaaDoorT
open Go.RowKit

def lsGo : ByteArray → Bool → List ByteArray → ByteArray
  | s, _, [] => s
  | s, true, x :: xs => lsGo (s ++ x) false xs
  | s, false, x :: xs => lsGo ((s ++ ⟨#[44, 32]⟩) ++ x) false xs
def listS (l : List ByteArray) : ByteArray := lsGo ⟨#[]⟩ true l
theorem lsGo_end (s : ByteArray) (b : Bool) (l : List ByteArray) (k : Nat) (h : l.length ≤ k) : lsGo s b (l.drop k) = s := by
  rw [List.drop_eq_nil_of_le h, lsGo]
theorem lsGo_size (N : Nat) : ∀ (l : List ByteArray) (s : ByteArray) (b : Bool), (∀ x ∈ l, x.size ≤ N) → (lsGo s b l).size ≤ s.size + l.length * (N + 2)
  | [], s, b, _ => by rw [lsGo]; simp
  | x :: xs, s, true, h => by
    have h1 := lsGo_size N xs (s ++ x) false (fun y hy => h y (List.mem_cons_of_mem _ hy))
    have h2 := h x (by simp)
    rw [app_size] at h1
    rw [lsGo, List.length_cons, Nat.add_mul]; omega
  | x :: xs, s, false, h => by
    have h1 := lsGo_size N xs ((s ++ ⟨#[44, 32]⟩) ++ x) false (fun y hy => h y (List.mem_cons_of_mem _ hy))
    have h2 := h x (by simp)
    have h3 : (⟨#[44, 32]⟩ : ByteArray).size = 2 := rfl
    rw [app_size, app_size, h3] at h1
    rw [lsGo, List.length_cons, Nat.add_mul]; omega
theorem listS_size (N : Nat) (l : List ByteArray) (h : ∀ x ∈ l, x.size ≤ N) : (listS l).size ≤ l.length * (N + 2) := by
  have := lsGo_size N l ⟨#[]⟩ true h
  have h0 : (⟨#[]⟩ : ByteArray).size = 0 := rfl
  unfold listS; omega

set_option maxRecDepth 20000 in
set_option maxHeartbeats 4000000 in
theorem listed_ref (A : Option Addr) (n c N : Nat) (l : List ByteArray) (w : World) (hr : Rd w w.heap.size 1 A n (scells l)) (hN : N ≤ 1000000) (hn : n ≤ 16) (hs : ∀ x ∈ l, x.size ≤ N) :
    Calls Tryd.prog 80 #[.slice A n c] w fun e w' => e = .returned (.string (listS l)) ∧ Below w.heap.size w w' := by
  have hl : l.length = n := by have := hr.1; rw [scells_length] at this; omega
  have HV : Hid (lsGo ⟨#[]⟩ (decide (0 = 0)) (l.drop 0) = listS l) := Lib.hid rfl
  have HR := Lib.hid hr
  have HL := Lib.hid hl
  have HS := Lib.hid hs
  clear hr hl hs
  generalize listS l = v at *
  go_enter Tryd.func80, Tryd.ntmps80
  go_upto_region 3 with (fail)
  generalize hR : w.heap.size = R at *
  have HRR := Lib.hid hR
  clear hR
  go_loopg [3, 4] n (fun gk u3 u4 wr => ∃ (k : Nat) (s : ByteArray), u4 = .int .i64 k ∧ u3 = .string s ∧ k ≤ n ∧ s.size ≤ k * 1000002 ∧ Hid (gk = n - k) ∧ Hid (Below R w wr) ∧ Hid (lsGo s (decide (k = 0)) (l.drop k) = v))
  case atStart => exact ⟨0, ⟨#[]⟩, rfl, rfl, Nat.zero_le _, by show (0 : Nat) ≤ _; omega, Lib.hid (by omega), Lib.hid (Below.refl _ _), HV⟩
  case round =>
    clear HV
    obtain ⟨k, s, rfl, rfl, hk, hsz, HG, HB, HV⟩ := hrel
    by_cases hlt : k < n
    · obtain ⟨b, o, hk1, rfl, hB, c0⟩ := (HR.out.below HB.out).str k hlt
      have hx := HS.out l[k] (List.getElem_mem hk1)
      have HD : Hid (l.drop k = l[k] :: l.drop (k + 1)) := Lib.hid (List.drop_eq_getElem_cons hk1)
      generalize l[k] = x at *
      have h2 : (⟨#[44, 32]⟩ : ByteArray).size = 2 := rfl
      have hsz1 := app_size s x
      have hsz2 := app_size (s ++ ⟨#[44, 32]⟩) x
      have hsz3 := app_size s ⟨#[44, 32]⟩
      rcases Nat.eq_zero_or_pos k with k0 | k0
      · have HN : Hid (lsGo (s ++ x) (decide (k + 1 = 0)) (l.drop (k + 1)) = v) := Lib.hid (by rw [← HV.out, HD.out, decide_eq_true k0, decide_eq_false (by omega : ¬ k + 1 = 0), lsGo])
        have t1 : decide ((0 : Int) < (k : Int)) = false := decide_eq_false (by omega)
        have hszn : (s ++ x).size ≤ (k + 1) * 1000002 := by rw [hsz1]; omega
        clear HV HD hsz2 hsz3
        subst k0
        rw [Nat.add_zero] at c0
        go_wp2
        go_roundg (n - (0 + 1))
        case measure => have := HG.out; omega
        case rel => exact ⟨0 + 1, s ++ x, by go_num, rfl, by omega, hszn, Lib.hid rfl, HB, HN⟩
      · have HN : Hid (lsGo ((s ++ ⟨#[44, 32]⟩) ++ x) (decide (k + 1 = 0)) (l.drop (k + 1)) = v) := Lib.hid (by rw [← HV.out, HD.out, decide_eq_false (by omega : ¬ k = 0), decide_eq_false (by omega : ¬ k + 1 = 0), lsGo])
        have t1 : decide ((0 : Int) < (k : Int)) = true := decide_eq_true (by omega)
        have hszn : ((s ++ ⟨#[44, 32]⟩) ++ x).size ≤ (k + 1) * 1000002 := by rw [hsz2, hsz3, h2]; omega
        clear HV HD
        go_wp2
        go_roundg (n - (k + 1))
        case measure => have := HG.out; omega
        case rel => exact ⟨k + 1, (s ++ ⟨#[44, 32]⟩) ++ x, by go_num, rfl, by omega, hszn, Lib.hid rfl, HB, HN⟩
    · have hz : s = v := by rw [← HV.out]; exact (lsGo_end s _ l k (by have := HL.out; omega)).symm
      subst hz
      go_wp2
      go_ret
      exact ⟨by rfl, by rw [HRR.out]; exact HB.out⟩

def appS (p : ByteArray) (l : List ByteArray) : ByteArray := if l.length = 0 then p else ((p ++ ⟨#[40]⟩) ++ listS l) ++ ⟨#[41]⟩
theorem appS_size (N : Nat) (p : ByteArray) (l : List ByteArray) (h : ∀ x ∈ l, x.size ≤ N) : (appS p l).size ≤ p.size + 2 + l.length * (N + 2) := by
  have h1 := listS_size N l h
  have h2 : (⟨#[40]⟩ : ByteArray).size = 1 := rfl
  have h3 : (⟨#[41]⟩ : ByteArray).size = 1 := rfl
  unfold appS
  split
  · omega
  · rw [app_size, app_size, app_size, h2, h3]; omega

set_option maxRecDepth 20000 in
set_option maxHeartbeats 4000000 in
theorem applied_ref (p : ByteArray) (A : Option Addr) (n c N : Nat) (l : List ByteArray) (w : World) (hp : p.size ≤ 1000000) (hr : Rd w w.heap.size 1 A n (scells l)) (hN : N ≤ 1000000) (hn : n ≤ 16) (hs : ∀ x ∈ l, x.size ≤ N) :
    Calls Tryd.prog 51 #[.string p, .slice A n c] w fun e w' => e = .returned (.string (appS p l)) ∧ Below w.heap.size w w' := by
  have hl : l.length = n := by have := hr.1; rw [scells_length] at this; omega
  have HV : Hid (appS p l = if n = 0 then p else ((p ++ ⟨#[40]⟩) ++ listS l) ++ ⟨#[41]⟩) := Lib.hid (by rw [← hl]; rfl)
  have kl := listed_ref A n c N l w hr hN hn hs
  have hls := listS_size N l hs
  rw [hl] at hls
  have hls2 : (listS l).size ≤ 17000000 := by
    have : n * (N + 2) ≤ 16 * 1000002 := Nat.mul_le_mul hn (by omega)
    omega
  generalize appS p l = v at *
  generalize listS l = y at *
  clear hr hl hs hls
  go_enter Tryd.func51, Tryd.ntmps51
  rcases Nat.eq_zero_or_pos n with h0 | h0
  · have hz : v = p := by rw [HV.out, if_pos h0]
    subst hz
    subst h0
    clear HV kl
    go_wp2
    go_ret
    exact ⟨by rfl, Below.refl _ _⟩
  · have hz : v = ((p ++ ⟨#[40]⟩) ++ y) ++ ⟨#[41]⟩ := by rw [HV.out, if_neg (by omega)]
    have t1 : ((n : Int) == 0) = false := by simpa using (by omega : ¬ (n : Int) = 0)
    have h2 : (⟨#[40]⟩ : ByteArray).size = 1 := rfl
    have h3 : (⟨#[41]⟩ : ByteArray).size = 1 := rfl
    have s1 := app_size p ⟨#[40]⟩
    have s2 := app_size (p ++ ⟨#[40]⟩) y
    have s3 := app_size ((p ++ ⟨#[40]⟩) ++ y) ⟨#[41]⟩
    subst hz
    clear HV
    go_wp2_with fail
    refine kl.mono ?_
    rintro e w3 ⟨rfl, hb3⟩
    clear kl
    go_wp2
    go_ret
    exact ⟨by rfl, hb3⟩
end Go.Proofs.YtjcgkplphiedjaaDoorT
