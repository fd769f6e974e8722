/- A strings.Builder at this program: a text, a byte, bytes; what is laid fast (a string's bytes) stays as it is. | A text's canonical text, the program's: a byte's letter. -/
import Derived.Test.YtjcgkplphiedjaaDoorTG11
import Derived.Test.YtjcgkplphiedjaaDoorA2
import Derived.Test.YtjcgkplphiedjaaDoorA7
namespace Go.Proofs.YtjcgkplphiedjaaDoorT
open Go.RowKit Go.Sort

/-- Rows that no builder writes: those with a frozen range, those of other types. -/
def Firm (t : TypeId) (fr : Nat × Nat) : Prop := fr ≠ (0, 0) ∨ (t ≠ 5 ∧ t ≠ 59)
/-- Such rows stay as they are. -/
def Fz (w w' : World) : Prop := ∀ (G : Nat) (cs : Array Value) (t : TypeId) (fr : Nat × Nat), w.heap[G]? = some (.cells cs t fr) → Firm t fr → w'.heap[G]? = some (.cells cs t fr)
theorem Fz.refl (w : World) : Fz w w := fun _ _ _ _ h _ => h
theorem Fz.trans {a b c : World} (h1 : Fz a b) (h2 : Fz b c) : Fz a c := fun G cs t fr h hf => h2 G cs t fr (h1 G cs t fr h hf) hf
theorem heap_lt {w : World} {G : Nat} {o : Obj} (h : w.heap[G]? = some o) : G < w.heap.size := by
  rcases Nat.lt_or_ge G w.heap.size with h' | h'
  · exact h'
  · rw [Array.getElem?_eq_none h'] at h; cases h
theorem Fz.below {w w' : World} (hb : Below w.heap.size w w') : Fz w w' := fun G _ _ _ h _ => (hb.block G (heap_lt h)).trans h
theorem Fz.alloc (w : World) (o : Obj) : Fz w (w.alloc o) := fun G cs t fr h _ => by
  rw [Lib.alloc_old w o G (heap_lt h)]; exact h
theorem Fz.set {w : World} {b : Nat} {cs : Array Value} (hb : w.heap[b]? = some (.cells cs 59 (0, 0))) (i : Nat) (u : Value) : Fz w (w.setCell ⟨b, i, none⟩ u) := fun G cs' t' fr h hf => by
  have hne : G ≠ b := by
    rintro rfl
    rw [hb] at h
    simp only [Option.some.injEq, Obj.cells.injEq] at h
    rcases hf with hf | hf
    · exact hf h.2.2.symm
    · exact hf.2 h.2.1.symm
  exact (Below.heap_setCell w _ u G hne).trans h
theorem Fz.grown {w w' : World} {base size n : Nat} {v : Value} {xs : List Value} (hown : w.ownsRow base 5 size v n xs) (hg : w.grownBy w' v.ownBlock) : Fz w w' := fun G cs t fr h hf => by
  refine (hg.block G (heap_lt h) ?_).trans h
  rcases hown.2 with ⟨rfl, _⟩ | ⟨g, cap, cur, rfl, _, hh, _⟩
  · simp [Value.ownBlock]
  · intro e2
    simp only [Value.ownBlock, Option.some.injEq] at e2
    subst e2
    rw [hh] at h
    simp only [Option.some.injEq, Obj.cells.injEq] at h
    rcases hf with hf | hf
    · exact hf h.2.2.symm
    · exact hf.1 h.2.1.symm

theorem copyCheck_fz (B b : Nat) (bs : List Value) (w : World) (h : Lib.IsBuilder 59 5 B b bs w) :
    Calls Tryd.prog 49 #[.pointer (some ⟨b, 0, none⟩)] w fun e w' => e = .returned (.tuple #[]) ∧ (Lib.BuilderAt 59 5 B b (.pointer (some ⟨b, 0, none⟩)) bs w' ∧ Below B w w' ∧ Fz w w') := by
  rcases h with h | h
  · refine (YtjcgkplphiedjaaDoor.copyCheck_fresh b w h.cell0 h.shape h.frozen0).mono ?_
    rintro e w' ⟨rfl, rfl⟩
    obtain ⟨hB, v, hb, hr⟩ := id h
    exact ⟨rfl, h.used _, (Below.refl B w).setCell (p := ⟨b, 0, none⟩) h.1 _, Fz.set hb 0 _⟩
  · refine (YtjcgkplphiedjaaDoor.copyCheck_used b w h.cell0).mono ?_
    rintro e w' ⟨rfl, rfl⟩
    exact ⟨rfl, h, Below.refl B _, Fz.refl _⟩

set_option maxHeartbeats 2000000 in
set_option maxRecDepth 100000 in
theorem write_fz (B b : Nat) (bs : List Value) (s : ByteArray) (w : World) (h : Lib.IsBuilder 59 5 B b bs w) (hlen : bs.length + s.size ≤ 140737488355328) (hBw : B ≤ w.heap.size) :
    Calls Tryd.prog 28 #[.pointer (some ⟨b, 0, none⟩), .string s] w fun e w' => e = .returned (.tuple #[.int .i64 s.size, .nilIface]) ∧ (Lib.BuilderAt 59 5 B b (.pointer (some ⟨b, 0, none⟩)) (bs ++ Lib.strCells s) w' ∧ Below B w w' ∧ Fz w w') := by
  obtain ⟨i0, hi, hz0, hz1, hz2⟩ := info_parts Tryd.info5
  go_enter Tryd.func28, Tryd.ntmps28
  go_wp2_with (go_at_call 49; refine (copyCheck_fz B b bs _ h).mono ?_)
  rintro e w1 ⟨rfl, h1, hb1, hf1⟩
  obtain ⟨hB, v, hbk, hown, hne⟩ := h1
  have c0 : w1.cell? ⟨b, 0, none⟩ = some (.pointer (some ⟨b, 0, none⟩)) := by rw [Lib.cell_of_heap hbk]; rfl
  have c1 : w1.cell? ⟨b, 1, none⟩ = some v := by rw [Lib.cell_of_heap hbk]; rfl
  have HF1 := Lib.hid hf1
  clear hf1
  go_wp2_with (at_builtin; refine Lib.wpList_append_own_string _ rfl _ _ 57 9 rfl B 5 i0 Tryd.underlying57 Tryd.underlying9 hi hz0 hz1 hz2 _ _ _ rfl hown s rfl ?c3 ?c4 ?c5 ?_)
  case c3 => unfold maxLen; omega
  case c4 => omega
  case c5 => have := hb1.size; omega
  intro v' w2 hown' hgrow _
  have hlt : b < w1.heap.size := by
    rcases Nat.lt_or_ge b w1.heap.size with h' | h'
    · exact h'
    · simp [Array.getElem?_eq_none h'] at hbk
  have hb2 : w2.heap[b]? = some (.cells #[.pointer (some ⟨b, 0, none⟩), v] 59 (0, 0)) := by
    rw [hgrow.block b hlt (fun e => hne e.symm)]
    exact hbk
  have d0 : w2.cell? ⟨b, 0, none⟩ = some (.pointer (some ⟨b, 0, none⟩)) := by rw [Lib.cell_of_heap hb2]; rfl
  have d1 : w2.cell? ⟨b, 1, none⟩ = some v := by rw [Lib.cell_of_heap hb2]; rfl
  have f1 : w2.frozen? ⟨b, 1, none⟩ = false := Lib.frozen_of_heap hb2 1
  obtain ⟨ao, n', cap, rfl⟩ : ∃ ao n' cap, v' = .slice ao n' cap := by
    rcases hown'.2 with ⟨hv, _⟩ | ⟨g, cap, cur, hv, _⟩
    · exact ⟨_, _, _, hv⟩
    · exact ⟨_, _, _, hv⟩
  go_wp2
  go_ret2
  refine ⟨rfl, ?_, ?_, ?_⟩
  · exact Lib.BuilderAt.put (T := 59) (e := 5) hB hb2 (bs' := bs ++ Lib.strCells s) (by simpa [Lib.strCells_length] using hown') (by decide)
  · exact (hb1.grown hgrow (by have := hb1.size; omega) (fun k hk => (hown.lt k hk).1)).setCell (p := ⟨b, 1, none⟩) hB _
  · exact (HF1.out.trans (Fz.grown hown hgrow)).trans (Fz.set hb2 1 _)

set_option maxHeartbeats 2000000 in
set_option maxRecDepth 100000 in
theorem writeByte_fz (B b : Nat) (bs : List Value) (c : Int) (w : World) (h : Lib.IsBuilder 59 5 B b bs w) (hlen : bs.length + 1 ≤ 140737488355328) (hBw : B ≤ w.heap.size) :
    Calls Tryd.prog 84 #[.pointer (some ⟨b, 0, none⟩), .int .u8 c] w fun e w' => e = .returned .nilIface ∧ (Lib.BuilderAt 59 5 B b (.pointer (some ⟨b, 0, none⟩)) (bs ++ [.int .u8 c]) w' ∧ Below B w w' ∧ Fz w w') := by
  obtain ⟨i0, hi, hz0, hz1, hz2⟩ := info_parts Tryd.info5
  go_enter Tryd.func84, Tryd.ntmps84
  go_wp2_with (go_at_call 49; refine (copyCheck_fz B b bs _ h).mono ?_)
  rintro e w1 ⟨rfl, h1, hb1, hf1⟩
  obtain ⟨hB, v, hbk, hown, hne⟩ := h1
  have c0 : w1.cell? ⟨b, 0, none⟩ = some (.pointer (some ⟨b, 0, none⟩)) := by rw [Lib.cell_of_heap hbk]; rfl
  have c1 : w1.cell? ⟨b, 1, none⟩ = some v := by rw [Lib.cell_of_heap hbk]; rfl
  have hs1 := hb1.size
  have HF1 := Lib.hid hf1
  clear hf1
  go_wp2_with (at_builtin; refine wpList_append_own _ rfl _ _ 57 rfl B 5 i0 (.int .u8 0) 1 1 Tryd.underlying57 hi hz0 hz1 hz2 rfl (by decide) _ _ _ rfl (hown.alloc _) ⟨w1.heap.size, 0, none⟩ 1 1 [.int .u8 c] rfl rfl (fun j u h => new_cells _ _ _ j u h) (by intro u hu; simp at hu; subst hu; rfl) (by unfold maxLen; omega) (by omega) (by simp; omega) ?_)
  intro v' w2 hown' hgrow _
  have hlt : b < w1.heap.size := by
    rcases Nat.lt_or_ge b w1.heap.size with h' | h'
    · exact h'
    · simp [Array.getElem?_eq_none h'] at hbk
  have hb2 : w2.heap[b]? = some (.cells #[.pointer (some ⟨b, 0, none⟩), v] 59 (0, 0)) := by
    rw [hgrow.block b (by simp; omega) (fun e => hne e.symm), Lib.alloc_old w1 _ b hlt]
    exact hbk
  have d0 : w2.cell? ⟨b, 0, none⟩ = some (.pointer (some ⟨b, 0, none⟩)) := by rw [Lib.cell_of_heap hb2]; rfl
  have d1 : w2.cell? ⟨b, 1, none⟩ = some v := by rw [Lib.cell_of_heap hb2]; rfl
  have f1 : w2.frozen? ⟨b, 1, none⟩ = false := Lib.frozen_of_heap hb2 1
  obtain ⟨g, cap, rfl⟩ : ∃ g cap, v' = .slice (some ⟨g, 0, none⟩) (bs.length + 1) cap := by
    rcases hown'.2 with ⟨_, h0⟩ | ⟨g, cap, cur, hv, _⟩
    · omega
    · exact ⟨g, cap, hv⟩
  go_wp2
  go_ret
  refine ⟨rfl, ?_, ?_, ?_⟩
  · exact Lib.BuilderAt.put (T := 59) (e := 5) hB hb2 (bs' := bs ++ [.int .u8 c]) (by simpa using hown') (by decide)
  · exact ((hb1.alloc (by omega) _).grown hgrow (by simp; omega) (fun k hk => (hown.lt k hk).1)).setCell (p := ⟨b, 1, none⟩) hB _
  · exact ((HF1.out.trans (Fz.alloc _ _)).trans (Fz.grown (hown.alloc _) hgrow)).trans (Fz.set hb2 1 _)

set_option maxHeartbeats 2000000 in
set_option maxRecDepth 100000 in
theorem writeBytes_fz (B b : Nat) (bs : List Value) (A : Option Addr) (m c : Nat) (news : List UInt8) (w : World) (h : Lib.BuilderAt 59 5 B b (.pointer (some ⟨b, 0, none⟩)) bs w) (hA : A = none → c = 0) (hr : Rd w w.heap.size 1 A m (Lib.byteCells news)) (hlen : bs.length + m ≤ 140737488355328) (hBw : B ≤ w.heap.size) :
    Calls Tryd.prog 86 #[.pointer (some ⟨b, 0, none⟩), .slice A m c] w fun e w' => e = .returned (.tuple #[.int .i64 m, .nilIface]) ∧ (Lib.BuilderAt 59 5 B b (.pointer (some ⟨b, 0, none⟩)) (bs ++ Lib.byteCells news) w' ∧ Below B w w' ∧ Fz w w') := by
  obtain ⟨i0, hi, hz0, hz1, hz2⟩ := info_parts Tryd.info5
  go_enter Tryd.func86, Tryd.ntmps86
  go_wp2_with (go_at_call 49; refine (YtjcgkplphiedjaaDoor.copyCheck_used b _ h.cell0).mono ?_)
  rintro e w1 ⟨rfl, rfl⟩
  have hb1 := Below.refl B w1
  obtain ⟨hB, v, hbk, hown, hne⟩ := h
  have c0 : w1.cell? ⟨b, 0, none⟩ = some (.pointer (some ⟨b, 0, none⟩)) := by rw [Lib.cell_of_heap hbk]; rfl
  have c1 : w1.cell? ⟨b, 1, none⟩ = some v := by rw [Lib.cell_of_heap hbk]; rfl
  have hs1 := hb1.size
  have hm1 : m ≤ 9223372036854775807 := hr.2.1
  go_wp2_with (at_builtin; refine wpList_append_all rfl _ _ 57 rfl B 5 i0 (.int .u8 0) 1 1 Tryd.underlying57 hi hz0 hz1 hz2 rfl (by decide) _ _ _ rfl hown A m c (Lib.byteCells news) rfl hA hr (by intro u hu; obtain ⟨x, _, rfl⟩ := List.mem_map.1 hu; rfl) (by unfold maxLen; omega) (by omega) (by omega) ?_)
  intro v' w2 hown' hgrow
  have hlt : b < w1.heap.size := by
    rcases Nat.lt_or_ge b w1.heap.size with h' | h'
    · exact h'
    · simp [Array.getElem?_eq_none h'] at hbk
  have hb2 : w2.heap[b]? = some (.cells #[.pointer (some ⟨b, 0, none⟩), v] 59 (0, 0)) := by
    rw [hgrow.block b hlt (fun e => hne e.symm)]
    exact hbk
  have d0 : w2.cell? ⟨b, 0, none⟩ = some (.pointer (some ⟨b, 0, none⟩)) := by rw [Lib.cell_of_heap hb2]; rfl
  have d1 : w2.cell? ⟨b, 1, none⟩ = some v := by rw [Lib.cell_of_heap hb2]; rfl
  have f1 : w2.frozen? ⟨b, 1, none⟩ = false := Lib.frozen_of_heap hb2 1
  have hlb : (Lib.byteCells news).length = m := by have := hr.1; omega
  obtain ⟨ao, n', cap, rfl⟩ : ∃ ao n' cap, v' = .slice ao n' cap := by
    rcases hown'.2 with ⟨hv, _⟩ | ⟨g, cap, cur, hv, _⟩
    · exact ⟨_, _, _, hv⟩
    · exact ⟨_, _, _, hv⟩
  go_wp2
  go_ret2
  refine ⟨rfl, ?_, ?_, ?_⟩
  · exact Lib.BuilderAt.put (T := 59) (e := 5) hB hb2 (bs' := bs ++ Lib.byteCells news) (by simpa [hlb] using hown') (by decide)
  · exact (hb1.grown hgrow (by omega) (fun k hk => (hown.lt k hk).1)).setCell (p := ⟨b, 1, none⟩) hB _
  · exact (Fz.grown hown hgrow).trans (Fz.set hb2 1 _)
end Go.Proofs.YtjcgkplphiedjaaDoorT

namespace Go.Proofs.YtjcgkplphiedjaaDoorT
open Go.RowKit Go.Sort

/-- What stands behind the backslash; 0 where there is none. -/
def letN (b : UInt8) : UInt8 := if b = 34 then 34 else if b = 92 then 92 else if b = 10 then 110 else if b = 9 then 116 else if b = 13 then 114 else 0
theorem letN_some {b : UInt8} (h : letN b ≠ 0) : letterS b = ⟨#[92, letN b]⟩ := by
  unfold letN at h
  unfold letterS letN
  by_cases h1 : b = 34
  · rw [if_pos h1, if_pos h1]
  by_cases h2 : b = 92
  · rw [if_neg h1, if_pos h2, if_neg h1, if_pos h2]
  by_cases h3 : b = 10
  · rw [if_neg h1, if_neg h2, if_pos h3, if_neg h1, if_neg h2, if_pos h3]
  by_cases h4 : b = 9
  · rw [if_neg h1, if_neg h2, if_neg h3, if_pos h4, if_neg h1, if_neg h2, if_neg h3, if_pos h4]
  by_cases h5 : b = 13
  · rw [if_neg h1, if_neg h2, if_neg h3, if_neg h4, if_pos h5, if_neg h1, if_neg h2, if_neg h3, if_neg h4, if_pos h5]
  · rw [if_neg h1, if_neg h2, if_neg h3, if_neg h4, if_neg h5] at h
    exact absurd rfl h
theorem letN_none {b : UInt8} (h : letN b = 0) : letterS b = if 32 ≤ b.toNat ∧ b.toNat ≤ 126 then ⟨#[b]⟩ else ⟨#[92, 120, hexD (b.toNat / 16), hexD (b.toNat % 16)]⟩ := by
  unfold letN at h
  unfold letterS
  by_cases h1 : b = 34
  · rw [if_pos h1] at h; cases h
  by_cases h2 : b = 92
  · rw [if_neg h1, if_pos h2] at h; cases h
  by_cases h3 : b = 10
  · rw [if_neg h1, if_neg h2, if_pos h3] at h; cases h
  by_cases h4 : b = 9
  · rw [if_neg h1, if_neg h2, if_neg h3, if_pos h4] at h; cases h
  by_cases h5 : b = 13
  · rw [if_neg h1, if_neg h2, if_neg h3, if_neg h4, if_pos h5] at h; cases h
  rw [if_neg h1, if_neg h2, if_neg h3, if_neg h4, if_neg h5]

set_option maxRecDepth 20000 in
set_option maxHeartbeats 2000000 in
theorem letter_sym (b : UInt8) (w : World) :
    Calls Tryd.prog 85 #[.int .u8 (b.toNat : Int)] w fun e w' => e = .returned (.int .u8 ((letN b).toNat : Int)) ∧ w' = w := by
  have hb := b.toNat_lt
  have HV : Hid (letN b = if b = 34 then 34 else if b = 92 then 92 else if b = 10 then 110 else if b = 9 then 116 else if b = 13 then 114 else 0) := Lib.hid rfl
  have e1 : (((b.toNat : Int)) == 34) = decide (b = 34) := byte_is b 34 (by omega)
  have e2 : (((b.toNat : Int)) == 92) = decide (b = 92) := byte_is b 92 (by omega)
  have e3 : (((b.toNat : Int)) == 10) = decide (b = 10) := byte_is b 10 (by omega)
  have e4 : (((b.toNat : Int)) == 9) = decide (b = 9) := byte_is b 9 (by omega)
  have e5 : (((b.toNat : Int)) == 13) = decide (b = 13) := byte_is b 13 (by omega)
  generalize letN b = v at *
  by_cases h1 : b = 34
  · have hz : v = 34 := by rw [HV.out, if_pos h1]
    rw [decide_eq_true h1] at e1
    have hn : (b.toNat : Int) = 34 := by simpa using e1
    subst hz
    rw [hn] at e1 ⊢
    clear HV e2 e3 e4 e5 h1 hn
    go_enter Tryd.func85, Tryd.ntmps85
    go_wp2
    go_ret
    exact ⟨by rfl, rfl⟩
  rw [decide_eq_false h1] at e1
  by_cases h2 : b = 92
  · have hz : v = 92 := by rw [HV.out, if_neg h1, if_pos h2]
    rw [decide_eq_true h2] at e2
    have hn : (b.toNat : Int) = 92 := by simpa using e2
    subst hz
    rw [hn] at e1 e2 ⊢
    clear HV e3 e4 e5 h1 h2 hn
    go_enter Tryd.func85, Tryd.ntmps85
    go_wp2
    go_ret
    exact ⟨by rfl, rfl⟩
  rw [decide_eq_false h2] at e2
  generalize hn : b.toNat = n at *
  by_cases h3 : b = 10
  · have hz : v = 110 := by rw [HV.out, if_neg h1, if_neg h2, if_pos h3]
    rw [decide_eq_true h3] at e3
    subst hz
    clear HV e4 e5 h1 h2 h3 hn
    go_enter Tryd.func85, Tryd.ntmps85
    go_wp2
    go_ret
    exact ⟨by rfl, rfl⟩
  rw [decide_eq_false h3] at e3
  by_cases h4 : b = 9
  · have hz : v = 116 := by rw [HV.out, if_neg h1, if_neg h2, if_neg h3, if_pos h4]
    rw [decide_eq_true h4] at e4
    subst hz
    clear HV e5 h1 h2 h3 h4 hn
    go_enter Tryd.func85, Tryd.ntmps85
    go_wp2
    go_ret
    exact ⟨by rfl, rfl⟩
  rw [decide_eq_false h4] at e4
  by_cases h5 : b = 13
  · have hz : v = 114 := by rw [HV.out, if_neg h1, if_neg h2, if_neg h3, if_neg h4, if_pos h5]
    rw [decide_eq_true h5] at e5
    subst hz
    clear HV h1 h2 h3 h4 h5 hn
    go_enter Tryd.func85, Tryd.ntmps85
    go_wp2
    go_ret
    exact ⟨by rfl, rfl⟩
  rw [decide_eq_false h5] at e5
  have hz : v = 0 := by rw [HV.out, if_neg h1, if_neg h2, if_neg h3, if_neg h4, if_neg h5]
  subst hz
  clear HV h1 h2 h3 h4 h5 hn
  go_enter Tryd.func85, Tryd.ntmps85
  go_wp2
  go_ret
  exact ⟨by rfl, rfl⟩

/-- A builder that has been written, and holds these bytes. -/
def BU (R : Nat) (l : List UInt8) (w : World) : Prop := Lib.BuilderAt 59 5 R R (.pointer (some ⟨R, 0, none⟩)) (Lib.byteCells l) w
theorem BU.is {R : Nat} {l : List UInt8} {w : World} (h : BU R l w) : Lib.IsBuilder 59 5 R R (Lib.byteCells l) w := .inr h
theorem BU.lt {R : Nat} {l : List UInt8} {w : World} (h : BU R l w) : R < w.heap.size := Lib.BuilderAt.lt h
theorem BU.below {R : Nat} {l : List UInt8} {w w' : World} (h : BU R l w) (hb : Below w.heap.size w w') : BU R l w' := YtjcgkplphiedjaaDoor.bat_below h hb
theorem wByte (R : Nat) (l : List UInt8) (x : UInt8) (w : World) (h : BU R l w) (hl : l.length ≤ 140737488355327) :
    Calls Tryd.prog 84 #[.pointer (some ⟨R, 0, none⟩), .int .u8 (x.toNat : Int)] w fun e w' => e = .returned .nilIface ∧ (BU R (l ++ [x]) w' ∧ Below R w w' ∧ Fz w w') := by
  refine (writeByte_fz R R (Lib.byteCells l) (x.toNat : Int) w h.is (by rw [Lib.byteCells_length]; omega) (Nat.le_of_lt h.lt)).mono ?_
  rintro e w' ⟨rfl, h1, h2, h3⟩
  refine ⟨rfl, ?_, h2, h3⟩
  unfold BU
  rw [Lib.byteCells_append]
  exact h1
theorem wStr (R : Nat) (l : List UInt8) (s : ByteArray) (w : World) (h : BU R l w) (hl : l.length + s.size ≤ 140737488355328) :
    Calls Tryd.prog 28 #[.pointer (some ⟨R, 0, none⟩), .string s] w fun e w' => e = .returned (.tuple #[.int .i64 s.size, .nilIface]) ∧ (BU R (l ++ s.toList) w' ∧ Below R w w' ∧ Fz w w') := by
  refine (write_fz R R (Lib.byteCells l) s w h.is (by rw [Lib.byteCells_length]; omega) (Nat.le_of_lt h.lt)).mono ?_
  rintro e w' ⟨rfl, h1, h2, h3⟩
  refine ⟨rfl, ?_, h2, h3⟩
  unfold BU
  rw [Lib.byteCells_append, ByteArray.toList_eq]
  exact h1
theorem wBytes (R : Nat) (l : List UInt8) (A : Option Addr) (m c : Nat) (news : List UInt8) (w : World) (h : BU R l w) (hA : A = none → c = 0) (hr : Rd w w.heap.size 1 A m (Lib.byteCells news)) (hl : l.length + m ≤ 140737488355328) :
    Calls Tryd.prog 86 #[.pointer (some ⟨R, 0, none⟩), .slice A m c] w fun e w' => e = .returned (.tuple #[.int .i64 m, .nilIface]) ∧ (BU R (l ++ news) w' ∧ Below R w w' ∧ Fz w w') := by
  refine (writeBytes_fz R R (Lib.byteCells l) A m c news w h hA hr (by rw [Lib.byteCells_length]; omega) (Nat.le_of_lt h.lt)).mono ?_
  rintro e w' ⟨rfl, h1, h2, h3⟩
  refine ⟨rfl, ?_, h2, h3⟩
  unfold BU
  rw [Lib.byteCells_append]
  exact h1
/-- The first write, at a builder that lies there fresh. -/
theorem wStr0 (R : Nat) (s : ByteArray) (w : World) (h : Lib.IsBuilder 59 5 R R [] w) (hl : s.size ≤ 140737488355328) :
    Calls Tryd.prog 28 #[.pointer (some ⟨R, 0, none⟩), .string s] w fun e w' => e = .returned (.tuple #[.int .i64 s.size, .nilIface]) ∧ (BU R s.toList w' ∧ Below R w w' ∧ Fz w w') := by
  refine (write_fz R R [] s w h (by simp only [List.length_nil]; omega) (Nat.le_of_lt (YtjcgkplphiedjaaDoor.isb_lt h))).mono ?_
  rintro e w' ⟨rfl, h1, h2, h3⟩
  refine ⟨rfl, ?_, h2, h3⟩
  unfold BU
  rw [ByteArray.toList_eq]
  exact h1
theorem wByte0 (R : Nat) (x : UInt8) (w : World) (h : Lib.IsBuilder 59 5 R R [] w) :
    Calls Tryd.prog 84 #[.pointer (some ⟨R, 0, none⟩), .int .u8 (x.toNat : Int)] w fun e w' => e = .returned .nilIface ∧ (BU R [x] w' ∧ Below R w w' ∧ Fz w w') := by
  refine (writeByte_fz R R [] (x.toNat : Int) w h (by simp) (Nat.le_of_lt (YtjcgkplphiedjaaDoor.isb_lt h))).mono ?_
  rintro e w' ⟨rfl, h1, h2, h3⟩
  exact ⟨rfl, h1, h2, h3⟩
theorem readB (R : Nat) (l : List UInt8) (w : World) (h : Lib.IsBuilder 59 5 R R (Lib.byteCells l) w) :
    Calls Tryd.prog 29 #[.pointer (some ⟨R, 0, none⟩)] w fun e w' => e = .returned (.string ⟨l.toArray⟩) ∧ Below R w w' :=
  Tryd.Builder_String_any R R l w h (Nat.le_of_lt (YtjcgkplphiedjaaDoor.isb_lt h))
end Go.Proofs.YtjcgkplphiedjaaDoorT
