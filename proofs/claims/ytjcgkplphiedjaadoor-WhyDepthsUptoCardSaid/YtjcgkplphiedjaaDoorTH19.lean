/- A strings.Builder at this program: a text, a byte, bytes; what is laid fast (a string's bytes) stays as it is. -/
import Derived.Test.YtjcgkplphiedjaaDoorTH18
import Derived.Test.YtjcgkplphiedjaaDoorA2
import Derived.Test.YtjcgkplphiedjaaDoorA7
namespace Go.Proofs.YtjcgkplphiedjaaDoorT
open Go.RowKit Go.Sort

/-- Rows that no builder writes: those with a frozen range, those of other types. -/
def Firm (t : TypeId) (fr : Nat × Nat) : Prop := fr ≠ (0, 0) ∨ (t ≠ 5 ∧ t ≠ 59)
/-- Such rows stay as they are. -/
def Fz (w w' : World) : Prop := ∀ (G : Nat) (cs : Array Value) (t : TypeId) (fr : Nat × Nat), w.heap[G]? = some (.cells cs t fr) → Firm t fr → w'.heap[G]? = some (.cells cs t fr)
theorem Fz.refl (w : World) : Fz w w := fun _ _ _ _ h _ => h
theorem Fz.trans {a b c : World} (h1 : Fz a b) (h2 : Fz b c) : Fz a c := fun G cs t fr h hf => h2 G cs t fr (h1 G cs t fr h hf) hf
theorem heap_lt {w : World} {G : Nat} {o : Obj} (h : w.heap[G]? = some o) : G < w.heap.size := by
  rcases Nat.lt_or_ge G w.heap.size with h' | h'
  · exact h'
  · rw [Array.getElem?_eq_none h'] at h; cases h
theorem Fz.below {w w' : World} (hb : Below w.heap.size w w') : Fz w w' := fun G _ _ _ h _ => (hb.block G (heap_lt h)).trans h
theorem Fz.alloc (w : World) (o : Obj) : Fz w (w.alloc o) := fun G cs t fr h _ => by
  rw [Lib.alloc_old w o G (heap_lt h)]; exact h
theorem Fz.set {w : World} {b : Nat} {cs : Array Value} (hb : w.heap[b]? = some (.cells cs 59 (0, 0))) (i : Nat) (u : Value) : Fz w (w.setCell ⟨b, i, none⟩ u) := fun G cs' t' fr h hf => by
  have hne : G ≠ b := by
    rintro rfl
    rw [hb] at h
    simp only [Option.some.injEq, Obj.cells.injEq] at h
    rcases hf with hf | hf
    · exact hf h.2.2.symm
    · exact hf.2 h.2.1.symm
  exact (Below.heap_setCell w _ u G hne).trans h
theorem Fz.grown {w w' : World} {base size n : Nat} {v : Value} {xs : List Value} (hown : w.ownsRow base 5 size v n xs) (hg : w.grownBy w' v.ownBlock) : Fz w w' := fun G cs t fr h hf => by
  refine (hg.block G (heap_lt h) ?_).trans h
  rcases hown.2 with ⟨rfl, _⟩ | ⟨g, cap, cur, rfl, _, hh, _⟩
  · simp [Value.ownBlock]
  · intro e2
    simp only [Value.ownBlock, Option.some.injEq] at e2
    subst e2
    rw [hh] at h
    simp only [Option.some.injEq, Obj.cells.injEq] at h
    rcases hf with hf | hf
    · exact hf h.2.2.symm
    · exact hf.1 h.2.1.symm

theorem copyCheck_fz (B b : Nat) (bs : List Value) (w : World) (h : Lib.IsBuilder 59 5 B b bs w) :
    Calls Tryd.prog 49 #[.pointer (some ⟨b, 0, none⟩)] w fun e w' => e = .returned (.tuple #[]) ∧ (Lib.BuilderAt 59 5 B b (.pointer (some ⟨b, 0, none⟩)) bs w' ∧ Below B w w' ∧ Fz w w') := by
  rcases h with h | h
  · refine (YtjcgkplphiedjaaDoor.copyCheck_fresh b w h.cell0 h.shape h.frozen0).mono ?_
    rintro e w' ⟨rfl, rfl⟩
    obtain ⟨hB, v, hb, hr⟩ := id h
    exact ⟨rfl, h.used _, (Below.refl B w).setCell (p := ⟨b, 0, none⟩) h.1 _, Fz.set hb 0 _⟩
  · refine (YtjcgkplphiedjaaDoor.copyCheck_used b w h.cell0).mono ?_
    rintro e w' ⟨rfl, rfl⟩
    exact ⟨rfl, h, Below.refl B _, Fz.refl _⟩

set_option maxHeartbeats 2000000 in
set_option maxRecDepth 100000 in
theorem write_fz (B b : Nat) (bs : List Value) (s : ByteArray) (w : World) (h : Lib.IsBuilder 59 5 B b bs w) (hlen : bs.length + s.size ≤ 140737488355328) (hBw : B ≤ w.heap.size) :
    Calls Tryd.prog 28 #[.pointer (some ⟨b, 0, none⟩), .string s] w fun e w' => e = .returned (.tuple #[.int .i64 s.size, .nilIface]) ∧ (Lib.BuilderAt 59 5 B b (.pointer (some ⟨b, 0, none⟩)) (bs ++ Lib.strCells s) w' ∧ Below B w w' ∧ Fz w w') := by
  obtain ⟨i0, hi, hz0, hz1, hz2⟩ := info_parts Tryd.info5
  go_enter Tryd.func28, Tryd.ntmps28
  go_wp2_with (go_at_call 49; refine (copyCheck_fz B b bs _ h).mono ?_)
  rintro e w1 ⟨rfl, h1, hb1, hf1⟩
  obtain ⟨hB, v, hbk, hown, hne⟩ := h1
  have c0 : w1.cell? ⟨b, 0, none⟩ = some (.pointer (some ⟨b, 0, none⟩)) := by rw [Lib.cell_of_heap hbk]; rfl
  have c1 : w1.cell? ⟨b, 1, none⟩ = some v := by rw [Lib.cell_of_heap hbk]; rfl
  have HF1 := Lib.hid hf1
  clear hf1
  go_wp2_with (at_builtin; refine Lib.wpList_append_own_string _ rfl _ _ 57 9 rfl B 5 i0 Tryd.underlying57 Tryd.underlying9 hi hz0 hz1 hz2 _ _ _ rfl hown s rfl ?c3 ?c4 ?c5 ?_)
  case c3 => unfold maxLen; omega
  case c4 => omega
  case c5 => have := hb1.size; omega
  intro v' w2 hown' hgrow _
  have hlt : b < w1.heap.size := by
    rcases Nat.lt_or_ge b w1.heap.size with h' | h'
    · exact h'
    · simp [Array.getElem?_eq_none h'] at hbk
  have hb2 : w2.heap[b]? = some (.cells #[.pointer (some ⟨b, 0, none⟩), v] 59 (0, 0)) := by
    rw [hgrow.block b hlt (fun e => hne e.symm)]
    exact hbk
  have d0 : w2.cell? ⟨b, 0, none⟩ = some (.pointer (some ⟨b, 0, none⟩)) := by rw [Lib.cell_of_heap hb2]; rfl
  have d1 : w2.cell? ⟨b, 1, none⟩ = some v := by rw [Lib.cell_of_heap hb2]; rfl
  have f1 : w2.frozen? ⟨b, 1, none⟩ = false := Lib.frozen_of_heap hb2 1
  obtain ⟨ao, n', cap, rfl⟩ : ∃ ao n' cap, v' = .slice ao n' cap := by
    rcases hown'.2 with ⟨hv, _⟩ | ⟨g, cap, cur, hv, _⟩
    · exact ⟨_, _, _, hv⟩
    · exact ⟨_, _, _, hv⟩
  go_wp2
  go_ret2
  refine ⟨rfl, ?_, ?_, ?_⟩
  · exact Lib.BuilderAt.put (T := 59) (e := 5) hB hb2 (bs' := bs ++ Lib.strCells s) (by simpa [Lib.strCells_length] using hown') (by decide)
  · exact (hb1.grown hgrow (by have := hb1.size; omega) (fun k hk => (hown.lt k hk).1)).setCell (p := ⟨b, 1, none⟩) hB _
  · exact (HF1.out.trans (Fz.grown hown hgrow)).trans (Fz.set hb2 1 _)

set_option maxHeartbeats 2000000 in
set_option maxRecDepth 100000 in
theorem writeByte_fz (B b : Nat) (bs : List Value) (c : Int) (w : World) (h : Lib.IsBuilder 59 5 B b bs w) (hlen : bs.length + 1 ≤ 140737488355328) (hBw : B ≤ w.heap.size) :
    Calls Tryd.prog 84 #[.pointer (some ⟨b, 0, none⟩), .int .u8 c] w fun e w' => e = .returned .nilIface ∧ (Lib.BuilderAt 59 5 B b (.pointer (some ⟨b, 0, none⟩)) (bs ++ [.int .u8 c]) w' ∧ Below B w w' ∧ Fz w w') := by
  obtain ⟨i0, hi, hz0, hz1, hz2⟩ := info_parts Tryd.info5
  go_enter Tryd.func84, Tryd.ntmps84
  go_wp2_with (go_at_call 49; refine (copyCheck_fz B b bs _ h).mono ?_)
  rintro e w1 ⟨rfl, h1, hb1, hf1⟩
  obtain ⟨hB, v, hbk, hown, hne⟩ := h1
  have c0 : w1.cell? ⟨b, 0, none⟩ = some (.pointer (some ⟨b, 0, none⟩)) := by rw [Lib.cell_of_heap hbk]; rfl
  have c1 : w1.cell? ⟨b, 1, none⟩ = some v := by rw [Lib.cell_of_heap hbk]; rfl
  have hs1 := hb1.size
  have HF1 := Lib.hid hf1
  clear hf1
  go_wp2_with (at_builtin; refine wpList_append_own _ rfl _ _ 57 rfl B 5 i0 (.int .u8 0) 1 1 Tryd.underlying57 hi hz0 hz1 hz2 rfl (by decide) _ _ _ rfl (hown.alloc _) ⟨w1.heap.size, 0, none⟩ 1 1 [.int .u8 c] rfl rfl (fun j u h => new_cells _ _ _ j u h) (by intro u hu; simp at hu; subst hu; rfl) (by unfold maxLen; omega) (by omega) (by simp; omega) ?_)
  intro v' w2 hown' hgrow _
  have hlt : b < w1.heap.size := by
    rcases Nat.lt_or_ge b w1.heap.size with h' | h'
    · exact h'
    · simp [Array.getElem?_eq_none h'] at hbk
  have hb2 : w2.heap[b]? = some (.cells #[.pointer (some ⟨b, 0, none⟩), v] 59 (0, 0)) := by
    rw [hgrow.block b (by simp; omega) (fun e => hne e.symm), Lib.alloc_old w1 _ b hlt]
    exact hbk
  have d0 : w2.cell? ⟨b, 0, none⟩ = some (.pointer (some ⟨b, 0, none⟩)) := by rw [Lib.cell_of_heap hb2]; rfl
  have d1 : w2.cell? ⟨b, 1, none⟩ = some v := by rw [Lib.cell_of_heap hb2]; rfl
  have f1 : w2.frozen? ⟨b, 1, none⟩ = false := Lib.frozen_of_heap hb2 1
  obtain ⟨g, cap, rfl⟩ : ∃ g cap, v' = .slice (some ⟨g, 0, none⟩) (bs.length + 1) cap := by
    rcases hown'.2 with ⟨_, h0⟩ | ⟨g, cap, cur, hv, _⟩
    · omega
    · exact ⟨g, cap, hv⟩
  go_wp2
  go_ret
  refine ⟨rfl, ?_, ?_, ?_⟩
  · exact Lib.BuilderAt.put (T := 59) (e := 5) hB hb2 (bs' := bs ++ [.int .u8 c]) (by simpa using hown') (by decide)
  · exact ((hb1.alloc (by omega) _).grown hgrow (by simp; omega) (fun k hk => (hown.lt k hk).1)).setCell (p := ⟨b, 1, none⟩) hB _
  · exact ((HF1.out.trans (Fz.alloc _ _)).trans (Fz.grown (hown.alloc _) hgrow)).trans (Fz.set hb2 1 _)

set_option maxHeartbeats 2000000 in
set_option maxRecDepth 100000 in
theorem writeBytes_fz (B b : Nat) (bs : List Value) (A : Option Addr) (m c : Nat) (news : List UInt8) (w : World) (h : Lib.BuilderAt 59 5 B b (.pointer (some ⟨b, 0, none⟩)) bs w) (hA : A = none → c = 0) (hr : Rd w w.heap.size 1 A m (Lib.byteCells news)) (hlen : bs.length + m ≤ 140737488355328) (hBw : B ≤ w.heap.size) :
    Calls Tryd.prog 86 #[.pointer (some ⟨b, 0, none⟩), .slice A m c] w fun e w' => e = .returned (.tuple #[.int .i64 m, .nilIface]) ∧ (Lib.BuilderAt 59 5 B b (.pointer (some ⟨b, 0, none⟩)) (bs ++ Lib.byteCells news) w' ∧ Below B w w' ∧ Fz w w') := by
  obtain ⟨i0, hi, hz0, hz1, hz2⟩ := info_parts Tryd.info5
  go_enter Tryd.func86, Tryd.ntmps86
  go_wp2_with (go_at_call 49; refine (YtjcgkplphiedjaaDoor.copyCheck_used b _ h.cell0).mono ?_)
  rintro e w1 ⟨rfl, rfl⟩
  have hb1 := Below.refl B w1
  obtain ⟨hB, v, hbk, hown, hne⟩ := h
  have c0 : w1.cell? ⟨b, 0, none⟩ = some (.pointer (some ⟨b, 0, none⟩)) := by rw [Lib.cell_of_heap hbk]; rfl
  have c1 : w1.cell? ⟨b, 1, none⟩ = some v := by rw [Lib.cell_of_heap hbk]; rfl
  have hs1 := hb1.size
  have hm1 : m ≤ 9223372036854775807 := hr.2.1
  go_wp2_with (at_builtin; refine wpList_append_all rfl _ _ 57 rfl B 5 i0 (.int .u8 0) 1 1 Tryd.underlying57 hi hz0 hz1 hz2 rfl (by decide) _ _ _ rfl hown A m c (Lib.byteCells news) rfl hA hr (by intro u hu; obtain ⟨x, _, rfl⟩ := List.mem_map.1 hu; rfl) (by unfold maxLen; omega) (by omega) (by omega) ?_)
  intro v' w2 hown' hgrow
  have hlt : b < w1.heap.size := by
    rcases Nat.lt_or_ge b w1.heap.size with h' | h'
    · exact h'
    · simp [Array.getElem?_eq_none h'] at hbk
  have hb2 : w2.heap[b]? = some (.cells #[.pointer (some ⟨b, 0, none⟩), v] 59 (0, 0)) := by
    rw [hgrow.block b hlt (fun e => hne e.symm)]
    exact hbk
  have d0 : w2.cell? ⟨b, 0, none⟩ = some (.pointer (some ⟨b, 0, none⟩)) := by rw [Lib.cell_of_heap hb2]; rfl
  have d1 : w2.cell? ⟨b, 1, none⟩ = some v := by rw [Lib.cell_of_heap hb2]; rfl
  have f1 : w2.frozen? ⟨b, 1, none⟩ = false := Lib.frozen_of_heap hb2 1
  have hlb : (Lib.byteCells news).length = m := by have := hr.1; omega
  obtain ⟨ao, n', cap, rfl⟩ : ∃ ao n' cap, v' = .slice ao n' cap := by
    rcases hown'.2 with ⟨hv, _⟩ | ⟨g, cap, cur, hv, _⟩
    · exact ⟨_, _, _, hv⟩
    · exact ⟨_, _, _, hv⟩
  go_wp2
  go_ret2
  refine ⟨rfl, ?_, ?_, ?_⟩
  · exact Lib.BuilderAt.put (T := 59) (e := 5) hB hb2 (bs' := bs ++ Lib.byteCells news) (by simpa [hlb] using hown') (by decide)
  · exact (hb1.grown hgrow (by omega) (fun k hk => (hown.lt k hk).1)).setCell (p := ⟨b, 1, none⟩) hB _
  · exact (Fz.grown hown hgrow).trans (Fz.set hb2 1 _)
end Go.Proofs.YtjcgkplphiedjaaDoorT
