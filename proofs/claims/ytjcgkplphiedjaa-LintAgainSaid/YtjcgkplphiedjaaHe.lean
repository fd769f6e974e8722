/- What Trim strikes from a body: the closure, the search, a row written over. | slices.DeleteFunc at a row of literals of one's own. | The document's clause without its idle tests. -/
import Derived.Test.YtjcgkplphiedjaaGt
import Derived.Test.YtjcgkplphiedjaaGs
import Derived.Test.YtjcgkplphiedjaaHd
import Derived.Deep.MidRow
import Derived.Test.YtjcgkplphiedjaaGq
namespace Go.Proofs.Ytjcgkplphiedjaa
open Go.RowKit Go.Sort

set_option maxRecDepth 200000 in
set_option maxHeartbeats 4000000 in
theorem idleC_any (x : Li) (w : World) (hf : x.fine) (hw : x.k = 3 → sideSame x.l x.r = sideEq x.l x.r) :
    Calls Try.prog 45 #[.agg x.cells.toArray] w fun e w' => e = .returned (.bool (idleB x)) ∧ Below w.heap.size w w' := by
  have kc := fun W => compared_any x W hf hw
  clear hf hw
  generalize idleB x = ib at *
  generalize voidB x = vb at *
  obtain ⟨xk, ⟨xp, xA, xn, xc, xo, xes⟩, xop, ⟨xlk, xli, xlt, xlo⟩, ⟨xrk, xri, xrt, xro⟩, xof⟩ := x
  simp only [Li.cells] at kc ⊢
  go_enter Try.func45, Try.ntmps45
  go_upto_region 1 with (fail)
  have hb1 := (Below.refl w.heap.size w).alloc (Nat.le_refl _) (.cells #[.int .i64 xk, .string xp, .slice xA xn xc, .int .i64 xo, .int .i64 xop, .int .i64 xlk, .int .i64 xli, .string xlt, .int .i64 xlo, .int .i64 xrk, .int .i64 xri, .string xrt, .int .i64 xro, .int .i64 xof] 61)
  have h1 := Blk.new w 61 [.int .i64 xk, .string xp, .slice xA xn xc, .int .i64 xo, .int .i64 xop, .int .i64 xlk, .int .i64 xli, .string xlt, .int .i64 xlo, .int .i64 xrk, .int .i64 xri, .string xrt, .int .i64 xro, .int .i64 xof]
  generalize World.alloc _ _ = w1 at *
  have hs1 := hb1.size
  generalize hR : w.heap.size = R at *
  have HRR := Lib.hid hR
  clear hR
  have HB1 := Lib.hid hb1
  have c0 := (h1.cell 0).trans rfl
  have c1 := (h1.cell 1).trans rfl
  have c2 := (h1.cell 2).trans rfl
  have c3 := (h1.cell 3).trans rfl
  have c4 := (h1.cell 4).trans rfl
  have c5 := (h1.cell 5).trans rfl
  have c6 := (h1.cell 6).trans rfl
  have c7 := (h1.cell 7).trans rfl
  have c8 := (h1.cell 8).trans rfl
  have c9 := (h1.cell 9).trans rfl
  have c10 := (h1.cell 10).trans rfl
  have c11 := (h1.cell 11).trans rfl
  have c12 := (h1.cell 12).trans rfl
  have c13 := (h1.cell 13).trans rfl
  have kc1 := kc w1
  clear h1 hb1 kc
  go_wp2_with fail
  refine kc1.mono ?_
  rintro e w2 ⟨rfl, hb2⟩
  have HB2 := Lib.hid (HB1.out.trans (hb2.mono hs1))
  clear kc1 hb2 c0 c1 c2 c3 c4 c5 c6 c7 c8 c9 c10 c11 c12 c13
  go_wp2
  go_ret
  exact ⟨rfl, by rw [HRR.out]; exact HB2.out⟩

set_option maxRecDepth 20000 in
set_option maxHeartbeats 4000000 in
theorem indexC_any (f : Li → Bool) (A : Option Addr) (n c : Nat) (ls : List Li) (w : World) (hr : Rd w w.heap.size 14 A n (lcells ls))
    (hc : ∀ x ∈ ls, ∀ W, Below w.heap.size w W → Calls Try.prog 45 #[.agg x.cells.toArray] W fun e w' => e = .returned (.bool (f x)) ∧ Below W.heap.size W w') :
    Calls Try.prog 61 #[.slice A n c, .func (.func 45) #[] #[]] w fun e w' => e = .returned (.int .i64 (optI (firstI (fun _ x => f x) 0 ls))) ∧ Below w.heap.size w w' := by
  have hl : ls.length = n := by have := hr.1; rw [lcells_length] at this; omega
  have hnb := hr.2.1
  have HR := Lib.hid hr
  have HC := Lib.hid hc
  have HL := Lib.hid hl
  have HV : Hid (optI (firstI (fun _ x => f x) 0 (ls.drop 0)) = optI (firstI (fun _ x => f x) 0 ls)) := Lib.hid rfl
  clear hr hc hl
  generalize optI (firstI (fun _ x => f x) 0 ls) = v at *
  go_enter Try.func61, Try.ntmps61
  go_upto_region 2 with (fail)
  generalize hR : w.heap.size = R at *
  have HRR := Lib.hid hR
  clear hR
  go_loopg [8] n (fun gk u8 wr => ∃ k : Nat, u8 = .int .i64 k ∧ k ≤ n ∧ Hid (gk = n - k) ∧ Hid (Below R w wr) ∧ Hid (optI (firstI (fun _ x => f x) k (ls.drop k)) = v))
  case atStart => exact ⟨0, rfl, Nat.zero_le _, Lib.hid (by omega), Lib.hid (Below.refl _ _), HV⟩
  case round =>
    clear HV
    obtain ⟨k, rfl, hk, HG, HB, HV⟩ := hrel
    have hsr : R ≤ wr.heap.size := by have := HB.out.size; rw [HRR.out] at this; exact this
    by_cases hlt : k < n
    · obtain ⟨b, o, hk1, rfl, hB, hcc⟩ := (HR.out.below HB.out).at Li.cells 14 (fun _ => rfl) (by omega) k hlt
      have HS : Hid (v = optI (if f ls[k] = true then some k else firstI (fun _ x => f x) (k + 1) (ls.drop (k + 1)))) := Lib.hid (by rw [← HV.out, firstI_drop _ ls k hk1])
      have hka := HC.out ls[k] (List.getElem_mem hk1) wr HB.out
      clear HV
      generalize ls[k] = x at *
      generalize f x = fx at *
      have HKL := Lib.hid hka
      clear hka
      obtain ⟨xk, ⟨xp, xA, xn, xc, xo, xes⟩, xop, ⟨xlk, xli, xlt, xlo⟩, ⟨xrk, xri, xrt, xro⟩, xof⟩ := x
      have c0 := hcc 0 _ (by omega) rfl
      have c1 := hcc 1 _ (by omega) rfl
      have c2 := hcc 2 _ (by omega) rfl
      have c3 := hcc 3 _ (by omega) rfl
      have c4 := hcc 4 _ (by omega) rfl
      have c5 := hcc 5 _ (by omega) rfl
      have c6 := hcc 6 _ (by omega) rfl
      have c7 := hcc 7 _ (by omega) rfl
      have c8 := hcc 8 _ (by omega) rfl
      have c9 := hcc 9 _ (by omega) rfl
      have c10 := hcc 10 _ (by omega) rfl
      have c11 := hcc 11 _ (by omega) rfl
      have c12 := hcc 12 _ (by omega) rfl
      have c13 := hcc 13 _ (by omega) rfl
      clear hcc
      rw [Nat.add_zero] at c0
      dsimp only at c0 c1 c2 c3 c4 c5 c6 c7 c8 c9 c10 c11 c12 c13
      simp only [Li.cells] at HKL
      go_wp2_with fail
      refine HKL.out.mono ?_
      rintro e w4 ⟨rfl, hb4⟩
      have NB := Lib.hid (HB.out.trans (hb4.mono hsr))
      clear hb4 HB HKL c0 c1 c2 c3 c4 c5 c6 c7 c8 c9 c10 c11 c12 c13
      cases fx with
      | false =>
        have HN : Hid (optI (firstI (fun _ x => f x) (k + 1) (ls.drop (k + 1))) = v) := Lib.hid (by rw [HS.out]; simp)
        clear HS
        go_wp2
        go_roundg (n - (k + 1))
        case measure => have := HG.out; omega
        case rel => exact ⟨k + 1, by go_num, by omega, Lib.hid rfl, NB, HN⟩
      | true =>
        have hz : v = (k : Int) := by rw [HS.out, if_pos rfl]; rfl
        subst hz
        clear HS
        go_wp2
        go_ret
        exact ⟨by rfl, by rw [HRR.out]; exact NB.out⟩
    · obtain rfl : k = n := by omega
      have hz : v = -1 := by rw [← HV.out, firstI_end _ ls k k (by have := HL.out; omega)]; rfl
      subst hz
      go_wp2
      go_ret
      exact ⟨by rfl, by rw [HRR.out]; exact HB.out⟩


/-- A list written over from a place on. -/
def setL : List Value → Nat → List Value → List Value
  | xs, _, [] => xs
  | xs, o, v :: r => setL (xs.set o v) (o + 1) r
theorem setL_length : ∀ (vs xs : List Value) (o : Nat), (setL xs o vs).length = xs.length
  | [], _, _ => rfl
  | v :: r, xs, o => by rw [setL, setL_length r]; simp
theorem setL_get : ∀ (vs xs : List Value) (o j : Nat), o + vs.length ≤ xs.length → (setL xs o vs)[j]? = if o ≤ j ∧ j < o + vs.length then vs[j - o]? else xs[j]?
  | [], xs, o, j, _ => by
    rw [setL, if_neg]
    simp only [List.length_nil]; omega
  | v :: r, xs, o, j, h => by
    simp only [List.length_cons] at h ⊢
    rw [setL, setL_get r _ _ j (by simp; omega)]
    by_cases h1 : o + 1 ≤ j ∧ j < o + 1 + r.length
    · rw [if_pos h1, if_pos (by omega), show j - o = (j - (o + 1)) + 1 by omega]; rfl
    · rw [if_neg h1]
      by_cases h2 : j = o
      · subst h2
        rw [if_pos (by omega), List.getElem?_set_self (by omega), Nat.sub_self]; rfl
      · rw [if_neg (by omega), List.getElem?_set_ne (by omega)]
theorem setL_take {vs xs : List Value} {o k : Nat} (h : o + vs.length ≤ xs.length) (hk : k ≤ o) : (setL xs o vs).take k = xs.take k := by
  apply List.ext_getElem?
  intro j
  rw [List.getElem?_take, List.getElem?_take]
  split
  · rw [setL_get _ _ _ _ h, if_neg (by omega)]
  · rfl
theorem setL_take_all {vs xs : List Value} {o : Nat} (h : o + vs.length ≤ xs.length) : (setL xs o vs).take (o + vs.length) = xs.take o ++ vs := by
  apply List.ext_getElem?
  intro j
  rw [List.getElem?_take, List.getElem?_append, List.length_take, Nat.min_eq_left (by omega)]
  split
  · rw [setL_get _ _ _ _ h]
    by_cases h1 : j < o
    · rw [if_neg (by omega), if_pos h1, List.getElem?_take, if_pos h1]
    · rw [if_pos (by omega), if_neg h1]
  · rw [if_neg (by omega), List.getElem?_eq_none (by omega)]
theorem Blk.setCells {g : Nat} {t : TypeId} : ∀ (vs : List Value) (o : Nat) {w : World} {cs : List Value}, Blk w g t cs → Blk (w.setCells g o vs) g t (setL cs o vs)
  | [], _, _, _, h => h
  | v :: r, o, _, _, h => Blk.setCells r (o + 1) (h.set_ o v)
theorem grown_setCell {w w' : World} {b : Nat} (h : w.grownBy w' (some b)) (i : Nat) (u : Value) : w.grownBy (w'.setCell ⟨b, i, none⟩ u) (some b) :=
  ⟨h.os, h.tape, h.output, by have := h.size; simpa [World.setCell] using this, fun k hk hne => (Below.heap_setCell w' ⟨b, i, none⟩ u k (fun e => hne (by simp [e]))).trans (h.block k hk hne)⟩
theorem grown_setCells {w : World} {b : Nat} : ∀ (vs : List Value) (o : Nat) {w' : World}, w.grownBy w' (some b) → w.grownBy (w'.setCells b o vs) (some b)
  | [], _, _, h => h
  | v :: r, o, _, h => grown_setCells r (o + 1) (grown_setCell h o v)

theorem run_clear_rows {P : Program} (w : World) (t e ty : TypeId) (z : Value) (ht : P.underlying t = some (.slice e)) (hv : ∀ w, (zeroValue e).run P w = .ok z w) (s : Nat) (hs : 0 < s) (hz : z.cells.size = s) (h1 : ∀ v ∈ z.cells.toList, v.oneCell' = true) (b o n c : Nat) (hn : 0 < n)
    (hc : ∀ j, j < n * s → (w.cell? ⟨b, o + j, none⟩).isSome = true) (hf : ∀ j, j < n * s → w.frozen? ⟨b, o + j, none⟩ = false) :
    (Builtin.clear_ #[t] ty #[.slice (some ⟨b, o, none⟩) n c]).run P w = .ok (.tuple #[]) (w.setCells b o (Builtin.zeroCells z.cells n).toList) := by
  have hl : (Builtin.zeroCells z.cells n).toList.length = n * s := by simp [Builtin.zeroCells, hz]
  have hst := run_storeCells_cells (P := P) b o (Builtin.zeroCells z.cells n).toList 0 w (by rw [hl]; simpa using hc) (by rw [hl]; simpa using hf) (by
    intro v hv'
    simp only [Builtin.zeroCells, Array.toList_map, List.mem_map, Array.mem_toList_iff, Array.mem_range] at hv'
    obtain ⟨i, hi, rfl⟩ := hv'
    have hlt : i % z.cells.size < z.cells.size := Nat.mod_lt _ (by omega)
    rw [getElem!_pos z.cells _ hlt]
    exact h1 _ (by simp))
  simp only [Nat.add_zero] at hst
  obtain ⟨m, rfl⟩ : ∃ m, n = m + 1 := ⟨n - 1, by omega⟩
  simp [Builtin.clear_, run_underlying ht, hv, hst]
end Go.Proofs.Ytjcgkplphiedjaa

namespace Go.Proofs.Ytjcgkplphiedjaa
open Go.RowKit Go.Sort

theorem firstI_none_all {α : Type} {f : α → Bool} : ∀ {l : List α} {k : Nat}, firstI (fun _ x => f x) k l = none → ∀ x ∈ l, f x = false
  | [], _, _, _, h => by cases h
  | a :: l, k, h, x, hx => by
    unfold firstI at h
    cases ha : f a with
    | true => rw [if_pos ha] at h; cases h
    | false =>
      rw [if_neg (by simp [ha])] at h
      rcases List.mem_cons.1 hx with rfl | hx
      · exact ha
      · exact firstI_none_all h x hx
theorem firstI_some_at {α : Type} {f : α → Bool} : ∀ {l : List α} {k m : Nat}, firstI (fun _ x => f x) k l = some m → ∃ q, m = k + q ∧ ∃ h : q < l.length, f l[q] = true ∧ ∀ x ∈ l.take q, f x = false
  | [], _, _, h => by cases h
  | a :: l, k, m, h => by
    unfold firstI at h
    cases ha : f a with
    | true =>
      rw [if_pos ha] at h
      injection h with h
      exact ⟨0, by omega, by simp, ha, by simp⟩
    | false =>
      rw [if_neg (by simp [ha])] at h
      obtain ⟨q, h1, h2, h3, h4⟩ := firstI_some_at h
      refine ⟨q + 1, by omega, by simp; omega, by simpa using h3, fun x hx => ?_⟩
      rw [List.take_succ_cons] at hx
      rcases List.mem_cons.1 hx with rfl | hx
      · exact ha
      · exact h4 x hx
theorem flat_take {α : Type} (f : α → List Value) (s : Nat) (hf : ∀ x, (f x).length = s) : ∀ (l : List α) (k : Nat), (l.take k).flatMap f = (l.flatMap f).take (k * s)
  | [], k => by simp
  | a :: l, 0 => by simp
  | a :: l, k + 1 => by
    rw [List.take_succ_cons, List.flatMap_cons, List.flatMap_cons, flat_take f s hf l k, List.take_append, hf, Nat.add_mul, Nat.one_mul, Nat.add_sub_cancel, List.take_of_length_le (l := f a) (by rw [hf]; omega)]
theorem idleLs_all {ls : List Li} (h : ∀ x ∈ ls, idleB x = false) : idleLs ls = ls := List.filter_eq_self.2 fun x hx => by rw [h x hx]; rfl

theorem zeroLi (w : World) : (zeroValue 61).run Try.prog w = .ok (.agg #[.int .i64 0, .string ⟨#[]⟩, .slice none 0 0, .int .i64 0, .int .i64 0, .int .i64 0, .int .i64 0, .string ⟨#[]⟩, .int .i64 0, .int .i64 0, .int .i64 0, .string ⟨#[]⟩, .int .i64 0, .int .i64 0]) w := by kernel_rfl
theorem clear_lits (w : World) (b o n c : Nat) (hn : 0 < n) (hc : ∀ j, j < n * 14 → (w.cell? ⟨b, o + j, none⟩).isSome = true) (hf : ∀ j, j < n * 14 → w.frozen? ⟨b, o + j, none⟩ = false) :
    ∃ zs : List Value, zs.length = n * 14 ∧ ∀ ty, (Builtin.clear_ #[43] ty #[.slice (some ⟨b, o, none⟩) n c]).run Try.prog w = .ok (.tuple #[]) (w.setCells b o zs) :=
  ⟨_, by simp [Builtin.zeroCells, Value.cells], fun ty => run_clear_rows w 43 61 ty _ Try.underlying43 zeroLi 14 (by omega) rfl (by
    intro v hv
    simp only [Value.cells, List.mem_cons, List.not_mem_nil, or_false] at hv
    rcases hv with rfl | rfl | rfl | rfl | rfl | rfl | rfl | rfl | rfl | rfl | rfl | rfl | rfl | rfl <;> rfl) b o n c hn hc hf⟩
theorem slice_lits (b n c l : Nat) (hl : l ≤ n) (hc : c ≠ l) : ∀ w, (Instr.sliceAt 43 (.slice (some ⟨b, 0, none⟩) n c) (some (.int .i64 (l : Int))) none none).run Try.prog w = .ok (.slice (some ⟨b, l * 14, none⟩) (n - l) (c - l)) w := fun w => by
  have hs : ∀ w, (sizeOf (Try.prog.elem 43)).run Try.prog w = .ok 14 w := fun w => by kernel_rfl
  have ht : Try.prog.underlying 43 = some (.slice (Try.prog.elem 43)) := by kernel_rfl
  rw [run_sliceAt_slice w _ _ _ _ _ ht, run_slice_l w _ _ _ _ ht .i64 (l : Int) (by omega) (by omega), hs]
  show Result.ok (sliced (some ⟨b, 0, none⟩) l n c 14) w = _
  unfold sliced
  rw [if_neg hc]
  have : (⟨b, 0, none⟩ : Addr).add (l * 14) = ⟨b, l * 14, none⟩ := by unfold Addr.add; split <;> simp_all
  rw [Option.map_some, this]

set_option maxRecDepth 200000 in
set_option maxHeartbeats 8000000 in
theorem deleteFunc_any (A : Option Addr) (n c R0 : Nat) (ls : List Li) (w : World) (hown : w.ownsRow R0 61 14 (.slice A n c) n (lcells ls))
    (hc : ∀ x ∈ ls, ∀ W, Calls Try.prog 45 #[.agg x.cells.toArray] W fun e w' => e = .returned (.bool (idleB x)) ∧ Below W.heap.size W w') :
    Calls Try.prog 44 #[.slice A n c, .func (.func 45) #[] #[]] w fun e w' => e = .returned (.slice A (idleLs ls).length c) ∧
      w'.ownsRow R0 61 14 (.slice A (idleLs ls).length c) (idleLs ls).length (lcells (idleLs ls)) ∧ w.grownBy w' (Value.slice A n c).ownBlock := by
  have hr := own_rd hown
  have hl : ls.length = n := by have := hr.1; rw [lcells_length] at this; omega
  have hnb := hr.2.1
  have ki := indexC_any idleB A n c ls w hr (fun x hx W _ => hc x hx W)
  have HC := Lib.hid hc
  have HL := Lib.hid hl
  clear hc
  generalize hKK : idleLs ls = K at *
  generalize hmm : K.length = m at *
  have HKK := Lib.hid hKK
  have HMM := Lib.hid hmm
  clear hKK hmm
  go_enter Try.func44, Try.ntmps44
  cases hfi : firstI (fun _ x => idleB x) 0 ls with
  | none =>
    have hid := idleLs_all (firstI_none_all hfi)
    rw [hfi] at ki
    rw [show optI none = -1 from rfl] at ki
    obtain rfl : ls = K := hid.symm.trans HKK.out
    obtain rfl : n = m := hl.symm.trans HMM.out
    have HO := Lib.hid hown
    clear hfi hid hown hr hl HKK HMM
    have t1 : ((-1 : Int) == -1) = true := rfl
    go_wp2_with fail
    refine ki.mono ?_
    rintro e w2 ⟨rfl, hb2⟩
    have G := Lib.hid (below_grown hb2 (Value.slice A n c).ownBlock)
    have HO2 := Lib.hid (own_below HO.out hb2)
    clear ki hb2 HO
    go_wp2
    go_ret
    exact ⟨rfl, HO2.out, G.out⟩
  | some k0 =>
    obtain ⟨q, hq0, hqn, hqi, hqb⟩ := firstI_some_at hfi
    obtain rfl : k0 = q := by omega
    rw [hfi] at ki
    rw [show optI (some k0) = (k0 : Int) from rfl] at ki
    have hk0 : k0 < n := by omega
    obtain ⟨g, cap, cur0, hv, hR0, hg0, hnc, hcm, hcs, ht0⟩ := own_blk hown (by omega)
    injection hv with hv1 _ hv3
    subst hv1 hv3
    have HI0 : Hid (idleLs (ls.take (k0 + 1)) = ls.take k0) := Lib.hid (by rw [idleLs_succ ls k0 hqn, hqi, if_pos rfl, List.append_nil]; exact idleLs_all hqb)
    have HT0 : Hid (cur0.take (k0 * 14) = lcells (idleLs (ls.take (k0 + 1)))) := Lib.hid (by
      rw [HI0.out]
      have e : cur0.take (k0 * 14) = (lcells ls).take (k0 * 14) := by rw [← ht0, List.take_take, Nat.min_eq_left (by omega)]
      rw [e]
      unfold lcells
      exact (flat_take Li.cells 14 (fun _ => rfl) ls k0).symm)
    have HQ0 : Hid ((idleLs (ls.take (k0 + 1))).length = k0) := Lib.hid (by rw [HI0.out, List.length_take]; omega)
    have HK0 : Hid (∀ q, (k0 + 1) * 14 ≤ q → q < n * 14 → cur0[q]? = (lcells ls)[q]?) := Lib.hid (fun q _ h => by rw [← ht0, List.getElem?_take, if_pos h])
    have HG0 := Lib.hid hg0
    have HCS := Lib.hid hcs
    have HRO := Lib.hid hR0
    have HNC := Lib.hid (And.intro hnc hcm)
    clear hfi hown hr hl hqi hqb hqn hg0 hcs hR0 ht0 HI0 hq0
    have t1 : ((k0 : Int) == -1) = false := by
      rw [beq_eq_false_iff_ne]; omega
    go_wp2_with fail
    refine ki.mono ?_
    rintro e w2 ⟨rfl, hb2⟩
    have G2 := Lib.hid (below_grown hb2 (some g))
    have HB2 := Lib.hid (HG0.out.below hb2 HG0.out.lt)
    clear ki hb2 HG0 t1
    go_upto_region 5 with (fail)
    go_loopg [5, 6] (n - (k0 + 1)) (fun gk u5 u6 wr => ∃ (i j : Nat) (cur : List Value), u5 = .int .i64 i ∧ u6 = .int .i64 j ∧ i < j ∧ j ≤ n ∧ Hid (gk = n - j) ∧ Hid (w.grownBy wr (some g)) ∧ Hid (Blk wr g 61 cur) ∧ Hid (cur.length = c * 14) ∧
      Hid (cur.take (i * 14) = lcells (idleLs (ls.take j))) ∧ Hid ((idleLs (ls.take j)).length = i) ∧ Hid (∀ q, j * 14 ≤ q → q < n * 14 → cur[q]? = (lcells ls)[q]?))
    case atStart => exact ⟨k0, k0 + 1, cur0, rfl, by go_num, by omega, by omega, Lib.hid (by omega), G2, HB2, HCS, HT0, HQ0, HK0⟩
    case round =>
      clear G2 HB2 HCS HT0 HQ0 HK0 hk0
      obtain ⟨i, j, cur, rfl, rfl, hij, hjn, HG, GB, HB, HCS, HT, HQ, HK⟩ := hrel
      by_cases hlt : j < n
      · have hj1 : j < ls.length := by have := HL.out; omega
        have hcl := HCS.out
        have hcapn := HNC.out.1
        have hcc : ∀ r u, r < 14 → ls[j].cells[r]? = some u → wr.cell? ⟨g, j * 14 + r, none⟩ = some u := fun r u hr hu => by
          rw [HB.out.cell, HK.out _ (by omega) (by omega)]
          unfold lcells
          rw [Nat.mul_comm]
          have := flat_at Li.cells 14 (fun _ => rfl) ls j r hj1 hr
          rw [← hu, ← this]
          congr 1
          omega
        have HSU := Lib.hid (idleLs_succ ls j hj1)
        have HKC := Lib.hid (HC.out ls[j] (List.getElem_mem hj1))
        have HCJ : Hid (∀ q, (j + 1) * 14 ≤ q → q < n * 14 → cur[q]? = (lcells ls)[q]?) := Lib.hid (fun q h1 h2 => HK.out q (by omega) h2)
        generalize ls[j] = x at *
        generalize idleB x = ib at *
        obtain ⟨xk, ⟨xp, xA, xn, xc, xo, xes⟩, xop, ⟨xlk, xli, xlt, xlo⟩, ⟨xrk, xri, xrt, xro⟩, xof⟩ := x
        have c0 := hcc 0 _ (by omega) rfl
        have c1 := hcc 1 _ (by omega) rfl
        have c2 := hcc 2 _ (by omega) rfl
        have c3 := hcc 3 _ (by omega) rfl
        have c4 := hcc 4 _ (by omega) rfl
        have c5 := hcc 5 _ (by omega) rfl
        have c6 := hcc 6 _ (by omega) rfl
        have c7 := hcc 7 _ (by omega) rfl
        have c8 := hcc 8 _ (by omega) rfl
        have c9 := hcc 9 _ (by omega) rfl
        have c10 := hcc 10 _ (by omega) rfl
        have c11 := hcc 11 _ (by omega) rfl
        have c12 := hcc 12 _ (by omega) rfl
        have c13 := hcc 13 _ (by omega) rfl
        clear hcc
        rw [Nat.add_zero] at c0
        dsimp only at c0 c1 c2 c3 c4 c5 c6 c7 c8 c9 c10 c11 c12 c13
        simp only [Li.cells] at HKC HSU
        go_upto_region 8 with (fail)
        have GB1 := Lib.hid (grown_alloc GB.out (.cells #[.int .i64 xk, .string xp, .slice xA xn xc, .int .i64 xo, .int .i64 xop, .int .i64 xlk, .int .i64 xli, .string xlt, .int .i64 xlo, .int .i64 xrk, .int .i64 xri, .string xrt, .int .i64 xro, .int .i64 xof] 61))
        have HB1 := Lib.hid (HB.out.alloc (.cells #[.int .i64 xk, .string xp, .slice xA xn xc, .int .i64 xo, .int .i64 xop, .int .i64 xlk, .int .i64 xli, .string xlt, .int .i64 xlo, .int .i64 xrk, .int .i64 xri, .string xrt, .int .i64 xro, .int .i64 xof] 61))
        have Z1 := Lib.hid (Blk.new wr 61 [.int .i64 xk, .string xp, .slice xA xn xc, .int .i64 xo, .int .i64 xop, .int .i64 xlk, .int .i64 xli, .string xlt, .int .i64 xlo, .int .i64 xrk, .int .i64 xri, .string xrt, .int .i64 xro, .int .i64 xof])
        have hgz : g < wr.heap.size := HB.out.lt
        clear c0 c1 c2 c3 c4 c5 c6 c7 c8 c9 c10 c11 c12 c13 GB HB
        generalize World.alloc _ _ = w3 at *
        generalize wr.heap.size = Z at *
        have d0 := (Z1.out.cell 0).trans rfl
        have d1 := (Z1.out.cell 1).trans rfl
        have d2 := (Z1.out.cell 2).trans rfl
        have d3 := (Z1.out.cell 3).trans rfl
        have d4 := (Z1.out.cell 4).trans rfl
        have d5 := (Z1.out.cell 5).trans rfl
        have d6 := (Z1.out.cell 6).trans rfl
        have d7 := (Z1.out.cell 7).trans rfl
        have d8 := (Z1.out.cell 8).trans rfl
        have d9 := (Z1.out.cell 9).trans rfl
        have d10 := (Z1.out.cell 10).trans rfl
        have d11 := (Z1.out.cell 11).trans rfl
        have d12 := (Z1.out.cell 12).trans rfl
        have d13 := (Z1.out.cell 13).trans rfl
        have kc := HKC.out w3
        clear HKC
        go_wp2_with fail
        refine kc.mono ?_
        rintro e w4 ⟨rfl, hb4⟩
        have GB2 := Lib.hid (grown_below GB1.out hb4)
        have HB2 := Lib.hid (HB1.out.below hb4 HB1.out.lt)
        have Z2 := Lib.hid (Z1.out.below hb4 Z1.out.lt)
        clear kc hb4 d0 d1 d2 d3 d4 d5 d6 d7 d8 d9 d10 d11 d12 d13 GB1 HB1 hgz Z1
        cases ib with
        | true =>
          have HT2 : Hid (cur.take (i * 14) = lcells (idleLs (ls.take (j + 1)))) := Lib.hid (by rw [HSU.out, if_pos rfl, List.append_nil]; exact HT.out)
          have HQ2 : Hid ((idleLs (ls.take (j + 1))).length = i) := Lib.hid (by rw [HSU.out, if_pos rfl, List.append_nil]; exact HQ.out)
          clear HSU HT HQ HK
          go_wp2
          go_roundg (n - (j + 1))
          case measure => have := HG.out; omega
          case rel => exact ⟨i, j + 1, cur, rfl, by go_num, by omega, by omega, Lib.hid rfl, GB2, HB2, HCS, HT2, HQ2, HCJ⟩
        | false =>
          have hin : (i + 1) * 14 ≤ c * 14 := Nat.mul_le_mul_right 14 (by omega)
          obtain ⟨vs, hvs⟩ : ∃ vs : Array Value, vs = #[.int .i64 xk, .string xp, .slice xA xn xc, .int .i64 xo, .int .i64 xop, .int .i64 xlk, .int .i64 xli, .string xlt, .int .i64 xlo, .int .i64 xrk, .int .i64 xri, .string xrt, .int .i64 xro, .int .i64 xof] := ⟨_, rfl⟩
          have hvl : vs.toList = [.int .i64 xk, .string xp, .slice xA xn xc, .int .i64 xo, .int .i64 xop, .int .i64 xlk, .int .i64 xli, .string xlt, .int .i64 xlo, .int .i64 xrk, .int .i64 xri, .string xrt, .int .i64 xro, .int .i64 xof] := by rw [hvs]
          have hsz : vs.size = 14 := by rw [hvs]; rfl
          have HTH : w4.there g (i * 14) vs.size := fun r hr => ⟨by rw [HB2.out.cell, List.getElem?_eq_getElem (by omega)]; rfl, HB2.out.frozen _⟩
          have HON : vs.all (·.oneCell') = true := by rw [← Array.all_toList, hvl]; rfl
          have HIF : (Try.prog.info? 61).map (·.size) = some vs.size := by rw [hsz]; kernel_rfl
          have d0 := (Z2.out.cell 0).trans rfl
          have d1 := (Z2.out.cell 1).trans rfl
          have d2 := (Z2.out.cell 2).trans rfl
          have d3 := (Z2.out.cell 3).trans rfl
          have d4 := (Z2.out.cell 4).trans rfl
          have d5 := (Z2.out.cell 5).trans rfl
          have d6 := (Z2.out.cell 6).trans rfl
          have d7 := (Z2.out.cell 7).trans rfl
          have d8 := (Z2.out.cell 8).trans rfl
          have d9 := (Z2.out.cell 9).trans rfl
          have d10 := (Z2.out.cell 10).trans rfl
          have d11 := (Z2.out.cell 11).trans rfl
          have d12 := (Z2.out.cell 12).trans rfl
          have d13 := (Z2.out.cell 13).trans rfl
          have NL : (setL cur (i * 14) vs.toList).length = c * 14 := (setL_length _ _ _).trans hcl
          have NT : (setL cur (i * 14) vs.toList).take ((i + 1) * 14) = lcells (idleLs (ls.take (j + 1))) := by
            have e := setL_take_all (vs := vs.toList) (xs := cur) (o := i * 14) (by rw [Array.length_toList, hsz]; omega)
            rw [Array.length_toList, hsz] at e
            rw [show (i + 1) * 14 = i * 14 + 14 by omega, e, HT.out, HSU.out, if_neg (by simp), hvl]
            simp [lcells, Li.cells]
          have NQ : (idleLs (ls.take (j + 1))).length = i + 1 := by rw [HSU.out, if_neg (by simp), List.length_append, HQ.out]; rfl
          have NK : ∀ q, (j + 1) * 14 ≤ q → q < n * 14 → (setL cur (i * 14) vs.toList)[q]? = (lcells ls)[q]? := fun q h1 h2 => by
            rw [setL_get _ _ _ _ (by rw [Array.length_toList, hsz]; omega), if_neg (by rw [Array.length_toList, hsz]; omega)]
            exact HCJ.out q h1 h2
          have NB := HB2.out.setCells vs.toList (i * 14)
          have NG := grown_setCells vs.toList (i * 14) GB2.out
          have HNL := Lib.hid NL
          have HNT := Lib.hid NT
          have HNQ := Lib.hid NQ
          have HNK := Lib.hid NK
          have HNB := Lib.hid NB
          have HNG := Lib.hid NG
          clear NL NT NQ NK NB NG HSU HT HQ HK HCJ HCS GB2 HB2 hvl hsz
          generalize setL cur (i * 14) vs.toList = cur2 at *
          go_upto_region 10 with (refine wpList_store_mid rfl 61 _ _ rfl g (i * 14) vs rfl (by rw [hvs]; rfl) HTH HIF HON ?_)
          clear HTH HIF HON d0 d1 d2 d3 d4 d5 d6 d7 d8 d9 d10 d11 d12 d13 Z2
          generalize World.setCells _ _ _ _ = w5 at *
          go_wp2
          go_roundg (n - (j + 1))
          case measure => have := HG.out; omega
          case rel => exact ⟨i + 1, j + 1, cur2, by go_num, by go_num, by omega, by omega, Lib.hid rfl, HNG, HNB, HNL, HNT, HNQ, HNK⟩
      · obtain rfl : j = n := by omega
        have hcl := HCS.out
        obtain ⟨hjc, hcm⟩ := HNC.out
        have hall : ls.take j = ls := List.take_of_length_le (by have := HL.out; omega)
        rw [hall, HKK.out] at HT HQ
        obtain rfl : m = i := HMM.out.symm.trans HQ.out
        clear HKK HMM
        obtain ⟨zs, hzl, hclr⟩ := clear_lits wr g (m * 14) (j - m) (c - m) (by omega) (fun r hr => by rw [HB.out.cell, List.getElem?_eq_getElem (by omega)]; rfl) (fun r hr => HB.out.frozen _)
        have hsl := slice_lits g j c m (by omega) (by omega)
        have hlen : m * 14 + zs.length ≤ cur.length := by omega
        have NO : Hid ((wr.setCells g (m * 14) zs).ownsRow R0 61 14 (.slice (some ⟨g, 0, none⟩) m c) m (lcells K)) := Lib.hid
          ⟨by rw [lcells_length, HQ.out], .inr ⟨g, c, (setL cur (m * 14) zs).toArray, rfl, HRO.out, HB.out.setCells zs (m * 14), by omega, hcm, by simp only [List.size_toArray, setL_length]; exact hcl, by simp only [setL_take hlen (Nat.le_refl _)]; exact HT.out⟩⟩
        have NG := Lib.hid (grown_setCells zs (m * 14) GB.out)
        clear HB GB HT HK HCS hcl hlen hall hzl
        go_wp2_with (refine wpList_slice_by rfl 43 _ _ rfl _ _ (.slice (some ⟨g, m * 14, none⟩) (j - m) (c - m)) rfl rfl (hsl _) ?_)
        go_ret
        exact ⟨rfl, NO.out, NG.out⟩
end Go.Proofs.Ytjcgkplphiedjaa

namespace Go.Proofs.Ytjcgkplphiedjaa
open Go.RowKit

end Go.Proofs.Ytjcgkplphiedjaa
