/- Reading slices of names and of terms. -/
import Derived.Test.YtjcgkplphiedjaaRows
import Derived.WalkKit
import Derived.WalkSpells
import Derived.WalkLawsBesides
import Derived.Lib.Hide
import Derived.Deep.QuietTactic
import Derived.BigQuiet
namespace Go.Proofs.Ytjcgkplphiedjaa
open Go.RowKit

theorem Try.info9 : (Try.prog.info? 9).map (fun i => (i.zero, i.size, i.bytes)) = some (some (.string ⟨#[]⟩), 1, 16) := by kernel_rfl
theorem Try.info5 : (Try.prog.info? 5).map (fun i => (i.zero, i.size, i.bytes)) = some (some (.int .u8 0), 1, 1) := by kernel_rfl
theorem Try.info33 : (Try.prog.info? 33).map (fun i => (i.zero, i.size, i.bytes)) = some (some (.agg #[.int .i64 0, .int .i64 0, .string ⟨#[]⟩, .int .i64 0]), 4, 40) := by kernel_rfl
theorem Try.info27 : (Try.prog.info? 27).map (fun i => (i.zero, i.size, i.bytes)) = some (some (.agg #[.string ⟨#[]⟩, .slice none 0 0, .int .i64 0]), 3, 48) := by kernel_rfl

/-- A slice value that reads as the cells xs (size cells each element), its memory below block B. -/
def Rd (w : World) (B size : Nat) (A : Option Addr) (n : Nat) (xs : List Value) : Prop :=
  xs.length = n * size ∧ n ≤ 9223372036854775807 ∧ (0 < n → ∃ b o, A = some ⟨b, o, none⟩ ∧ b < B ∧ ∀ j u, xs[j]? = some u → w.cell? ⟨b, o + j, none⟩ = some u)

theorem Rd.below {w w' : World} {B size : Nat} {A : Option Addr} {n : Nat} {xs : List Value} (h : Rd w B size A n xs) (hb : Below B w w') : Rd w' B size A n xs := by
  refine ⟨h.1, h.2.1, fun hn => ?_⟩
  obtain ⟨b, o, hA, hlt, hc⟩ := h.2.2 hn
  exact ⟨b, o, hA, hlt, fun j u hu => (hb.cell (p := ⟨b, o + j, none⟩) hlt).trans (hc j u hu)⟩

theorem take_snoc {α : Type} (l : List α) (k : Nat) (h : k < l.length) : l.take (k + 1) = l.take k ++ [l[k]] := by
  rw [List.take_add_one, List.getElem?_eq_getElem h]; rfl

/-- Names. -/
def scells (l : List ByteArray) : List Value := l.map (.string ·)
theorem scells_length (l : List ByteArray) : (scells l).length = l.length := by simp [scells]
theorem Rd.str {w : World} {B : Nat} {A : Option Addr} {n : Nat} {l : List ByteArray} (h : Rd w B 1 A n (scells l)) (k : Nat) (hk : k < n) :
    ∃ b o, ∃ h2 : k < l.length, A = some ⟨b, o, none⟩ ∧ b < B ∧ w.cell? ⟨b, o + k, none⟩ = some (.string l[k]) := by
  obtain ⟨h1, h2, h3⟩ := h
  obtain ⟨b, o, hA, hb, hc⟩ := h3 (by omega)
  rw [scells_length] at h1
  exact ⟨b, o, by omega, hA, hb, hc k _ (by simp [scells])⟩

/-- Is a name among them? -/
def has (l : List ByteArray) (s : ByteArray) : Bool := l.any fun x => x.toList == s.toList
theorem has_true {l : List ByteArray} {s : ByteArray} (k : Nat) (h : k < l.length) (e : l[k].toList = s.toList) : has l s = true :=
  List.any_eq_true.2 ⟨l[k], List.getElem_mem h, by simpa using e⟩
theorem has_false {l : List ByteArray} {s : ByteArray} (h : ∀ j, (h : j < l.length) → l[j].toList ≠ s.toList) : has l s = false := by
  rw [has, List.any_eq_false]
  intro x hx
  obtain ⟨j, hj, rfl⟩ := List.mem_iff_getElem.1 hx
  simpa using h j hj

set_option maxHeartbeats 1000000 in
theorem within_any (A : Option Addr) (n c : Nat) (l : List ByteArray) (s : ByteArray) (w : World) (hr : Rd w w.heap.size 1 A n (scells l)) :
    Calls Try.prog 27 #[.slice A n c, .string s] w fun e w' => e = .returned (.bool (has l s)) ∧ w' = w := by
  have hl : l.length = n := by have := hr.1; rw [scells_length] at this; omega
  have HR := Lib.hid hr
  have HL := Lib.hid hl
  have hn := hr.2.1
  clear hr hl
  go_enter Try.func27, Try.ntmps27
  go_wp2
  go_loopw [5] (fun i wr => ∃ k : Nat, i = .int .i64 k ∧ k ≤ n ∧ wr = w ∧ Hid (∀ j, (h : j < l.length) → j < k → l[j].toList ≠ s.toList)) (fun i _ => n - (intOf i).toNat)
  case atStart => exact ⟨0, rfl, Nat.zero_le _, rfl, fun j _ h => absurd h (by omega)⟩
  case round =>
    obtain ⟨k, rfl, hk, rfl, hno⟩ := hrel
    by_cases hlt : k < n
    · obtain ⟨b, o, hk1, rfl, hb, c0⟩ := HR.out.str k hlt
      by_cases he : l[k].toList = s.toList
      · have he2 : (l[k].toList == s.toList) = true := by simpa using he
        have HE := Lib.hid he
        clear he
        go_wp2
        go_ret
        exact ⟨by rw [has_true k hk1 HE.out]; rfl, rfl⟩
      · have he2 : (l[k].toList == s.toList) = false := by simpa using he
        have HE := Lib.hid he
        clear he
        go_wp2
        go_roundw
        case rel => exact ⟨k + 1, by go_num, by omega, trivial, fun j h hj => by
          by_cases e : j = k
          · subst e; exact HE.out
          · exact hno.out j h (by omega)⟩
        case measure => simp [intOf]; omega
    · go_wp2
      go_ret
      exact ⟨by rw [has_false fun j h => hno.out j h (by have := HL.out; omega)]; rfl, rfl⟩

set_option maxHeartbeats 1000000 in
theorem index_any (A : Option Addr) (n c : Nat) (l : List ByteArray) (s : ByteArray) (w : World) (hr : Rd w w.heap.size 1 A n (scells l)) :
    Calls Try.prog 55 #[.slice A n c, .string s] w fun e w' => ∃ r : Int, e = .returned (.int .i64 r) ∧ w' = w ∧ decide (0 ≤ r) = has l s := by
  have hl : l.length = n := by have := hr.1; rw [scells_length] at this; omega
  have HR := Lib.hid hr
  have HL := Lib.hid hl
  have hn := hr.2.1
  clear hr hl
  go_enter Try.func55, Try.ntmps55
  go_wp2
  go_loopw [8] (fun i wr => ∃ k : Nat, i = .int .i64 k ∧ k ≤ n ∧ wr = w ∧ Hid (∀ j, (h : j < l.length) → j < k → l[j].toList ≠ s.toList)) (fun i _ => n - (intOf i).toNat)
  case atStart => exact ⟨0, rfl, Nat.zero_le _, rfl, fun j _ h => absurd h (by omega)⟩
  case round =>
    obtain ⟨k, rfl, hk, rfl, hno⟩ := hrel
    by_cases hlt : k < n
    · obtain ⟨b, o, hk1, rfl, hb, c0⟩ := HR.out.str k hlt
      by_cases he : l[k].toList = s.toList
      · have he2 : (s.toList == l[k].toList) = true := by simpa using he.symm
        have HE := Lib.hid he
        clear he
        go_wp2
        go_ret
        exact ⟨k, rfl, rfl, by rw [has_true k hk1 HE.out]; simp⟩
      · have he2 : (s.toList == l[k].toList) = false := by simpa using fun h => he (Eq.symm h)
        have HE := Lib.hid he
        clear he
        go_wp2
        go_roundw
        case rel => exact ⟨k + 1, by go_num, by omega, trivial, fun j h hj => by
          by_cases e : j = k
          · subst e; exact HE.out
          · exact hno.out j h (by omega)⟩
        case measure => simp [intOf]; omega
    · go_wp2
      go_ret
      exact ⟨-1, rfl, rfl, by rw [has_false fun j h => hno.out j h (by have := HL.out; omega)]; rfl⟩

theorem contains_any (A : Option Addr) (n c : Nat) (l : List ByteArray) (s : ByteArray) (w : World) (hr : Rd w w.heap.size 1 A n (scells l)) :
    Calls Try.prog 28 #[.slice A n c, .string s] w fun e w' => e = .returned (.bool (has l s)) ∧ w' = w := by
  have HR := Lib.hid hr
  clear hr
  go_enter Try.func28, Try.ntmps28
  go_wp2_with fail
  refine (index_any A n c l s w HR.out).mono ?_
  rintro e w1 ⟨r, rfl, rfl, hd⟩
  go_wp2
  go_ret
  exact ⟨by rw [← hd]; rfl, rfl⟩
end Go.Proofs.Ytjcgkplphiedjaa
