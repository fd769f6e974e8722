/- Adorn, twice. -/
import Derived.Test.YtjcgkplphiedjaaJ1
namespace Go.Proofs.Ytjcgkplphiedjaa
open Go.RowKit

structure T where
  k : Int
  i : Int
  t : ByteArray
  o : Int

def T.cells (e : T) : List Value := [.int .i64 e.k, .int .i64 e.i, .string e.t, .int .i64 e.o]
def tcells (es : List T) : List Value := es.flatMap T.cells

theorem tcells_length (es : List T) : (tcells es).length = es.length * 4 := by
  induction es with
  | nil => rfl
  | cons e es ih => simp only [tcells, List.flatMap_cons, List.length_append, List.length_cons] at *; rw [ih]; simp only [T.cells, List.length_cons, List.length_nil]; omega

theorem tcells_append (a b : List T) : tcells (a ++ b) = tcells a ++ tcells b := by simp [tcells]

theorem tcells_at (es : List T) (k j : Nat) (hk : k < es.length) (hj : j < 4) : (tcells es)[k * 4 + j]? = (es[k]).cells[j]? := by
  induction es generalizing k with
  | nil => simp at hk
  | cons e es ih =>
    cases k with
    | zero =>
      simp only [tcells, List.flatMap_cons, Nat.zero_mul, Nat.zero_add, List.getElem_cons_zero]
      rw [List.getElem?_append_left (by simp [T.cells]; omega)]
    | succ k =>
      simp only [tcells, List.flatMap_cons, List.getElem_cons_succ]
      rw [List.getElem?_append_right (by simp [T.cells]; omega)]
      have := ih k (by simpa using hk)
      simp only [tcells] at this
      rw [← this]; congr 1; simp [T.cells]; omega

theorem Rd.term {w : World} {B : Nat} {A : Option Addr} {n : Nat} {es : List T} (h : Rd w B 4 A n (tcells es)) (k : Nat) (hk : k < n) :
    ∃ b o, ∃ h2 : k < es.length, A = some ⟨b, o, none⟩ ∧ b < B ∧ w.cell? ⟨b, o + k * 4, none⟩ = some (.int .i64 es[k].k) ∧ w.cell? ⟨b, o + k * 4 + 1, none⟩ = some (.int .i64 es[k].i)
      ∧ w.cell? ⟨b, o + k * 4 + 2, none⟩ = some (.string es[k].t) ∧ w.cell? ⟨b, o + k * 4 + 3, none⟩ = some (.int .i64 es[k].o) := by
  obtain ⟨h1, h2, h3⟩ := h
  obtain ⟨b, o, hA, hb, hc⟩ := h3 (by omega)
  rw [tcells_length] at h1
  have hk' : k < es.length := by omega
  refine ⟨b, o, hk', hA, hb, ?_, ?_, ?_, ?_⟩
  · exact hc (k * 4 + 0) _ (by rw [tcells_at es k 0 hk' (by omega)]; rfl)
  · exact hc (k * 4 + 1) _ (by rw [tcells_at es k 1 hk' (by omega)]; rfl)
  · exact hc (k * 4 + 2) _ (by rw [tcells_at es k 2 hk' (by omega)]; rfl)
  · exact hc (k * 4 + 3) _ (by rw [tcells_at es k 3 hk' (by omega)]; rfl)

/-- An atom, as a value. -/
def av (p : ByteArray) (A : Option Addr) (n c : Nat) (o : Int) : Value := .agg #[.string p, .slice A n c, .int .i64 o]

/-- The letter of a term. -/
def bit (l : List ByteArray) (e : T) : UInt8 := if e.k = 4 ∧ (e.t.toList = [95] ∨ has l e.t = false) then 102 else 98
def bits (l : List ByteArray) (es : List T) : List UInt8 := es.map (bit l)

theorem toList_append (a b : ByteArray) : (a ++ b).toList = a.toList ++ b.toList := by
  rw [ByteArray.toList_eq, ByteArray.toList_eq, ByteArray.toList_eq, ByteArray.data_append, Array.toList_append]
theorem toList_size (a : ByteArray) : a.size = a.toList.length := by
  rw [ByteArray.toList_eq, Array.length_toList]; rfl

theorem step_bits {l : List ByteArray} {es : List T} {k : Nat} {b : ByteArray} {x : UInt8} (h : b.toList = bits l (es.take k)) (hk : k < es.length) (hx : bit l es[k] = x) : Hid ((b ++ ⟨#[x]⟩).toList = bits l (es.take (k + 1))) := by
  unfold Hid
  have e : (⟨#[x]⟩ : ByteArray).toList = [x] := ByteArray.toList_mk [x]
  rw [toList_append, h, e, take_snoc _ _ hk, bits, bits, List.map_append, List.map_cons, List.map_nil, hx]

set_option maxHeartbeats 1000000 in
theorem refAdorn_any (p : ByteArray) (A A' : Option Addr) (n c m c' : Nat) (o : Int) (es : List T) (l : List ByteArray) (w : World) (hr : Rd w w.heap.size 4 A n (tcells es)) (hr' : Rd w w.heap.size 1 A' m (scells l)) (hreach : n * 40 ≤ 140737488351232) :
    Calls Try.prog 8 #[av p A n c o, .slice A' m c'] w fun e w' => ∃ b, e = .returned (.string b) ∧ b.toList = bits l es ∧ Below w.heap.size w w' := by
  have hl : es.length = n := by have := hr.1; rw [tcells_length] at this; omega
  have HR := Lib.hid hr
  have HR' := Lib.hid hr'
  have HL := Lib.hid hl
  have HW : Hid (w = w) := rfl
  have hn := hr.2.1
  clear hr hr' hl
  unfold av
  go_enter Try.func8, Try.ntmps8
  go_wp2
  have hb0 := Lib.hid ((Below.refl w.heap.size w).alloc (Nat.le_refl _) (.cells #[.string p, .slice A n c, .int .i64 o] 27))
  have hR0 : w.heap.size < (w.alloc (.cells #[.string p, .slice A n c, .int .i64 o] 27)).heap.size := by simp
  have hc0 : (w.alloc (.cells #[.string p, .slice A n c, .int .i64 o] 27)).cell? ⟨w.heap.size, 1, none⟩ = some (.slice A n c) := by
    have := World.cell?_alloc_mark w #[.string p, .slice A n c, .int .i64 o] 27 (0, 0) 1
    rw [this]; rfl
  generalize World.alloc _ _ = w1 at *
  generalize hR : w.heap.size = R at *
  have HRR := Lib.hid hR
  clear hR
  go_loopw [6, 5] (fun u6 u5 wr => ∃ (k : Nat) (b : ByteArray), u6 = .int .i64 k ∧ u5 = .string b ∧ k ≤ n ∧ Hid (b.toList = bits l (es.take k)) ∧ Hid (Below R w wr) ∧ wr.cell? ⟨R, 1, none⟩ = some (.slice A n c) ∧ R < wr.heap.size) (fun i _ _ => n - (intOf i).toNat)
  case atStart => exact ⟨0, _, rfl, rfl, Nat.zero_le _, by simp [Hid, bits], hb0, hc0, hR0⟩
  case round =>
    clear hb0 hR0 hc0
    obtain ⟨k, b, rfl, rfl, hk, hbt, hb, hc1, hRl⟩ := hrel
    by_cases hlt : k < n
    · obtain ⟨B, off, hk1, rfl, hB, c0, c1, c2, c3⟩ := (HR.out.below hb.out).term k hlt
      have hbs : b.size = k := by rw [toList_size, hbt.out]; simp [bits]; omega
      have hb2 := Lib.hid (hb.out.alloc (by have := HRR.out; omega) (.cells #[.int .i64 es[k].k, .int .i64 es[k].i, .string es[k].t, .int .i64 es[k].o] 33))
      have hin := within_any A' m c' l es[k].t (wr.alloc (.cells #[.int .i64 es[k].k, .int .i64 es[k].i, .string es[k].t, .int .i64 es[k].o] 33)) (by
        have h := HR'.out.below hb2.out
        exact ⟨h.1, h.2.1, fun hm => by obtain ⟨b1, o1, h1, h2, h3⟩ := h.2.2 hm; exact ⟨b1, o1, h1, by simp; omega, h3⟩⟩)
      have HIN := Lib.hid hin
      clear hin
      have hc2 : (wr.alloc (.cells #[.int .i64 es[k].k, .int .i64 es[k].i, .string es[k].t, .int .i64 es[k].o] 33)).cell? ⟨R, 1, none⟩ = some (.slice (some ⟨B, off, none⟩) n c) := (World.cell?_alloc_lt _ _ _ hRl).trans hc1
      by_cases h4 : es[k].k = 4
      · rw [h4] at c0 hb2 hc2 HIN
        have H4 := Lib.hid h4
        clear h4
        by_cases hu : es[k].t.toList = [95]
        · have hu' : (es[k].t.toList == [95]) = true := by simpa using hu
          have HU := Lib.hid hu
          clear hu
          go_wp2
          go_roundw
          case rel => exact ⟨k + 1, b ++ ⟨#[102]⟩, by go_num, rfl, by omega, step_bits hbt.out hk1 (by unfold bit; rw [if_pos ⟨H4.out, .inl HU.out⟩]), hb2, by rw [hc2], by simp; omega⟩
          case measure => simp [intOf]; omega
        · have hu' : (es[k].t.toList == [95]) = false := by simpa using hu
          have HU := Lib.hid hu
          clear hu
          by_cases hh : has l es[k].t = true
          · go_wp2_with fail
            refine HIN.out.mono ?_
            rintro e w3 ⟨rfl, rfl⟩
            rw [hh]
            go_wp2
            go_roundw
            case rel => exact ⟨k + 1, b ++ ⟨#[98]⟩, by go_num, rfl, by omega, step_bits hbt.out hk1 (by unfold bit; rw [if_neg (by rintro ⟨_, h | h⟩; exact HU.out h; rw [hh] at h; cases h)]), hb2, by rw [hc2], by simp; omega⟩
            case measure => simp [intOf]; omega
          · have hh : has l es[k].t = false := by simpa using hh
            go_wp2_with fail
            refine HIN.out.mono ?_
            rintro e w3 ⟨rfl, rfl⟩
            rw [hh]
            go_wp2
            go_roundw
            case rel => exact ⟨k + 1, b ++ ⟨#[102]⟩, by go_num, rfl, by omega, step_bits hbt.out hk1 (by unfold bit; rw [if_pos ⟨H4.out, .inr hh⟩]), hb2, by rw [hc2], by simp; omega⟩
            case measure => simp [intOf]; omega
      · have h4' : (es[k].k == 4) = false := by simpa using h4
        have H4 := Lib.hid h4
        clear h4
        go_wp2
        go_roundw
        case rel => exact ⟨k + 1, b ++ ⟨#[98]⟩, by go_num, rfl, by omega, step_bits hbt.out hk1 (by unfold bit; rw [if_neg fun h => H4.out h.1]), hb2, by rw [hc2], by simp; omega⟩
        case measure => simp [intOf]; omega
    · go_wp2
      go_ret
      exact ⟨b, rfl, by have := hbt.out; rw [List.take_of_length_le (by have := HL.out; omega)] at this; exact this, by have := HRR.out; rw [this]; exact hb.out⟩
end Go.Proofs.Ytjcgkplphiedjaa
