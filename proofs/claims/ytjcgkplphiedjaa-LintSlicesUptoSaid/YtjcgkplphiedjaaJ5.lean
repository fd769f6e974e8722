/- atom: a copy with a mark behind it. -/
import Derived.Test.YtjcgkplphiedjaaJ4
import Derived.Laws.AppendOwnNone
namespace Go.Proofs.Ytjcgkplphiedjaa
open Go.RowKit

theorem own_slice {w : World} {base e size n : Nat} {v : Value} {xs : List Value} (h : w.ownsRow base e size v n xs) :
    ∃ A c, v = .slice A n c ∧ n ≤ 9223372036854775807 := by
  obtain ⟨h1, h2⟩ := h
  rcases h2 with ⟨rfl, rfl⟩ | ⟨g, cap, cur, rfl, hb, hg, hnc, hcm, hcs, ht⟩
  · exact ⟨none, 0, rfl, by omega⟩
  · exact ⟨_, _, rfl, by unfold maxLen at hcm; omega⟩

theorem own_empty {w : World} {base e size : Nat} (hb : base ≤ w.heap.size) : (w.alloc (.cells #[] e)).ownsRow base e size (.slice (some ⟨w.heap.size, 0, none⟩) 0 0) 0 [] :=
  ⟨by simp, .inr ⟨w.heap.size, 0, #[], rfl, hb, heap_alloc_new w _, Nat.le_refl _, by unfold maxLen; omega, by simp, by simp⟩⟩

theorem new_cells (w : World) (cs : Array Value) (T : TypeId) (j : Nat) (u : Value) (h : cs.toList[j]? = some u) :
    (w.alloc (.cells cs T)).cell? ((⟨w.heap.size, 0, none⟩ : Addr).add j) = some u := by
  have hadd : (⟨w.heap.size, 0, none⟩ : Addr).add j = ⟨w.heap.size, j, none⟩ := by unfold Addr.add; split <;> simp_all
  rw [hadd, cell_of_row _ w.heap.size j cs T (0, 0) (heap_alloc_new w _)]
  simpa using h

theorem Rd.news {w : World} {B size : Nat} {ad : Addr} {n : Nat} {xs : List Value} (h : Rd w B size (some ad) n xs) : ∀ j u, xs[j]? = some u → w.cell? (ad.add j) = some u := by
  intro j u hu
  have hj := (List.getElem?_eq_some_iff.1 hu).1
  have hn : 0 < n := by
    rcases Nat.eq_zero_or_pos n with e | e
    · rw [h.1, e] at hj; omega
    · exact e
  obtain ⟨b, o, e, _, hc⟩ := h.2.2 hn
  injection e with e
  subst e
  have hadd : (⟨b, o, none⟩ : Addr).add j = ⟨b, o + j, none⟩ := by unfold Addr.add; split <;> simp_all
  rw [hadd]; exact hc j u hu

theorem own_setCell_blk {w : World} {base e size n g : Nat} {t : TypeId} {cs : List Value} {v : Value} {xs : List Value} (h : w.ownsRow base e size v n xs) (hg : Blk w g t cs) (hne : t ≠ e) (i : Nat) (u : Value) :
    (w.setCell ⟨g, i, none⟩ u).ownsRow base e size v n xs := by
  have hb := own_blk_ne h hg hne
  refine ⟨h.1, ?_⟩
  rcases h.2 with h2 | ⟨g', cap, cur, rfl, hl, hh, r⟩
  · exact .inl h2
  · refine .inr ⟨g', cap, cur, rfl, hl, ?_, r⟩
    rw [Below.heap_setCell _ _ _ _ (fun e => hb (by simp [Value.ownBlock, e]))]
    exact hh

theorem own_blk {w : World} {base e size n : Nat} {v : Value} {xs : List Value} (h : w.ownsRow base e size v n xs) (hn : 0 < n) :
    ∃ g cap cur, v = .slice (some ⟨g, 0, none⟩) n cap ∧ base ≤ g ∧ Blk w g e cur ∧ n ≤ cap ∧ cap ≤ maxLen ∧ cur.length = cap * size ∧ cur.take (n * size) = xs := by
  rcases h.2 with ⟨_, h0⟩ | ⟨g, cap, cur, hv, hb, hg, hnc, hcm, hcs, ht⟩
  · omega
  · exact ⟨g, cap, cur.toList, hv, hb, by unfold Blk; simpa using hg, hnc, hcm, by simpa using hcs, ht⟩
theorem term_one (e : T) : ∀ u ∈ e.cells, u.oneCell' = true := by
  intro u hu
  simp only [T.cells, List.mem_cons, List.not_mem_nil, or_false] at hu
  rcases hu with rfl | rfl | rfl | rfl <;> rfl
theorem terms_one (es : List T) : ∀ u ∈ tcells es, u.oneCell' = true := by
  intro u hu
  obtain ⟨e, he, hu⟩ := List.mem_flatMap.1 hu
  exact term_one e u hu

/-- The mark behind the terms. -/
def mark : T := ⟨77, 0, ⟨#[]⟩, 0⟩

set_option maxRecDepth 20000 in
set_option maxHeartbeats 2000000 in
theorem atom_any (p : ByteArray) (A : Option Addr) (n c : Nat) (o : Int) (es : List T) (w : World) (hr : Rd w w.heap.size 4 A n (tcells es)) (hA : A = none → c = 0) (hreach : n * 40 ≤ 140737488351232) :
    Calls Try.prog 9 #[av p A n c o] w fun e w' => ∃ g cap, e = .returned (av p (some ⟨g, 0, none⟩) n cap o) ∧ w'.ownsRow w.heap.size 33 4 (.slice (some ⟨g, 0, none⟩) (n + 1) cap) (n + 1) (tcells (es ++ [mark])) ∧ Below w.heap.size w w' := by
  obtain ⟨i0, hi, hz0, hz1, hz2⟩ := info_parts Try.info33
  have HR := Lib.hid hr
  have hn := hr.2.1
  clear hr
  unfold av
  go_enter Try.func9, Try.ntmps9
  go_upto_region 1 with (fail)
  have hb1 := Lib.hid (((Below.refl w.heap.size w).alloc (Nat.le_refl _) (.cells #[.string p, .slice A n c, .int .i64 o] 27)).alloc (by simp) (.cells #[.string ⟨#[]⟩, .slice none 0 0, .int .i64 0] 27))
  have h1 := Lib.hid ((Blk.new w 27 [.string p, .slice A n c, .int .i64 o]).alloc (.cells #[.string ⟨#[]⟩, .slice none 0 0, .int .i64 0] 27))
  have h2 := Blk.new (w.alloc (.cells #[.string p, .slice A n c, .int .i64 o] 27)) 27 [.string ⟨#[]⟩, .slice none 0 0, .int .i64 0]
  rw [show (w.alloc (.cells #[.string p, .slice A n c, .int .i64 o] 27)).heap.size = w.heap.size + 1 by simp] at h2
  have h2 := Lib.hid h2
  have hsz : ((w.alloc (.cells #[.string p, .slice A n c, .int .i64 o] 27)).alloc (.cells #[.string ⟨#[]⟩, .slice none 0 0, .int .i64 0] 27)).heap.size = w.heap.size + 2 := by simp
  have HSZ := Lib.hid hsz
  clear hsz
  generalize World.alloc (World.alloc _ _) _ = w1 at *
  generalize hR : w.heap.size = R at *
  have HRR := Lib.hid hR
  clear hR
  have hown0 : (w1.alloc (.cells #[] 33)).ownsRow R 33 4 (.slice (some ⟨w1.heap.size, 0, none⟩) 0 0) 0 [] := own_empty (by have := HSZ.out; omega)
  have f1 : w1.cell? ⟨R, 1, none⟩ = some (.slice A n c) := h1.out.cell 1
  have hRl := h1.out.lt
  have hbw : R ≤ (w1.alloc (.cells #[] 33)).heap.size := by simp; omega
  have HRd := Lib.hid ((HR.out.below hb1.out).below ((Below.refl R w1).alloc (by omega) (.cells #[] 33)))
  match A with
  | none =>
    obtain rfl : c = 0 := hA rfl
    obtain rfl : n = 0 := by
      rcases Nat.eq_zero_or_pos n with h | h
      · exact h
      · obtain ⟨b, o, h, _⟩ := HR.out.2.2 h; cases h
    obtain rfl : es = [] := by
      have := HR.out.1
      rw [tcells_length] at this
      exact List.eq_nil_of_length_eq_zero (by omega)
    go_upto_region 2 with (at_builtin; go_must (refine wpList_append_own_none rfl _ _ 25 rfl R 33 i0 4 Try.underlying25 hi _ _ _ rfl hown0 rfl ?_))
    have hown1 := hown0
    have B1 := Lib.hid (h1.out.alloc (.cells #[] 33))
    have B2 := Lib.hid (h2.out.alloc (.cells #[] 33))
    have BL := Lib.hid (hb1.out.alloc (by have := HSZ.out; omega) (.cells #[] 33))
    have hsz4 : R ≤ (w1.alloc (.cells #[] 33)).heap.size := by have := B1.out.lt; omega
    clear f1 hRl hbw hown0
    generalize World.alloc _ _ = w4 at *
    go_wp2_with (at_builtin; go_must (refine wpList_append_own _ rfl _ _ 25 rfl R 33 i0 _ 4 40 Try.underlying25 hi hz0 hz1 hz2 rfl (by decide) _ _ _ rfl (hown1.alloc _) ⟨w4.heap.size, 0, none⟩ 1 1 mark.cells rfl rfl (fun j u h => new_cells _ _ _ j u h) (term_one mark) (by unfold maxLen; omega) (by omega) (by simp; omega) ?_))
    intro v2 w5 hown2 hg2 hne2
    obtain ⟨g, cap, cur, rfl, _, _, hnc, hcm, _⟩ := own_blk hown2 (by omega)
    have hq := own_blk_ne (hown1.alloc (.cells mark.cells.toArray 33)) (B1.out.alloc _) (by decide)
    have hq2 := own_blk_ne (hown1.alloc (.cells mark.cells.toArray 33)) (B2.out.alloc _) (by decide)
    have B1' := (B1.out.alloc (.cells mark.cells.toArray 33)).grown hg2 hq
    have B2' := (B2.out.alloc (.cells mark.cells.toArray 33)).grown hg2 hq2
    have BL' := Lib.hid (((BL.out.alloc hsz4 (.cells mark.cells.toArray 33))).grown hg2 (by simp; omega) (fun k hk => (hown1.lt k hk).1))
    have hn2 := hcm
    unfold maxLen at hn2
    have a0 := B1'.cell 0
    have a1 := B1'.cell 1
    have a2 := B1'.cell 2
    have az := B1'.frozen 1
    have b0 := B2'.cell 0
    have b1 := B2'.cell 1
    have b2 := B2'.cell 2
    have bz0 := B2'.frozen 0
    have bz1 := B2'.frozen 1
    have bz2 := B2'.frozen 2
    simp only [List.getElem?_cons_zero, List.getElem?_cons_succ] at a0 a1 a2 b0 b1 b2
    have hlt1 := B1'.lt
    have hlt2 := B2'.lt
    have C2 := ((B2'.far (p := ⟨R, 1, none⟩) (by simp) (.slice (some ⟨g, 0, none⟩) 0 cap)).set_ 0 (.string p)).set_ 1 (.slice (some ⟨g, 0, none⟩) 0 cap) |>.set_ 2 (.int .i64 o)
    have O1 := own_setCell_blk hown2 B1' (by decide) 1 (.slice (some ⟨g, 0, none⟩) 0 cap)
    have O2 := own_setCell_blk O1 (B2'.far (p := ⟨R, 1, none⟩) (by simp) (.slice (some ⟨g, 0, none⟩) 0 cap)) (by decide) 0 (.string p)
    have O3 := own_setCell_blk O2 ((B2'.far (p := ⟨R, 1, none⟩) (by simp) (.slice (some ⟨g, 0, none⟩) 0 cap)).set_ 0 (.string p)) (by decide) 1 (.slice (some ⟨g, 0, none⟩) 0 cap)
    have O4 := own_setCell_blk O3 (((B2'.far (p := ⟨R, 1, none⟩) (by simp) (.slice (some ⟨g, 0, none⟩) 0 cap)).set_ 0 (.string p)).set_ 1 (.slice (some ⟨g, 0, none⟩) 0 cap)) (by decide) 2 (.int .i64 o)
    have E1 := BL'.out.setCell (p := ⟨R, 1, none⟩) (Nat.le_refl _) (.slice (some ⟨g, 0, none⟩) 0 cap)
    have E2 := (((E1.setCell (p := ⟨R + 1, 0, none⟩) (by simp) (.string p)).setCell (p := ⟨R + 1, 1, none⟩) (by simp) (.slice (some ⟨g, 0, none⟩) 0 cap)).setCell (p := ⟨R + 1, 2, none⟩) (by simp) (.int .i64 o))
    have q0 := C2.cell 0
    have q1 := C2.cell 1
    have q2 := C2.cell 2
    simp at q0 q1 q2
    have HO := Lib.hid O4
    have HE := Lib.hid E2
    clear hown2 hg2 hne2 B1' B2' O1 O2 O3 O4 E1 E2 C2 hown1 hq hq2 hcm
    go_wp2
    refine bodyPost_ret (v := .agg #[.string p, (.slice (some ⟨g, 0, none⟩) 0 cap), .int .i64 o]) ?_ rfl ⟨g, cap, rfl, ?_, by have := HRR.out; rw [this]; exact HE.out⟩
    · simp [results, Try.results9, go_sem, q0, q1, q2]
    · have := HRR.out
      rw [this, tcells_append]
      have e : tcells [mark] = mark.cells := by simp [tcells]
      rw [e]; exact HO.out
  | some ad =>
    go_wp2_with (at_builtin; go_must (refine wpList_append_own _ rfl _ _ 25 rfl R 33 i0 _ 4 40 Try.underlying25 hi hz0 hz1 hz2 rfl (by decide) _ _ _ rfl hown0 ad n c (tcells es) rfl HRd.out.1 HRd.out.news (terms_one es) (by unfold maxLen; omega) (by omega) hbw ?_))
    intro v1 w4 hown1 hg1 hne
    obtain ⟨A1, c1, rfl, _⟩ := own_slice hown1
    have hq := own_blk_ne hown0 (h1.out.alloc _) (by decide)
    have hq2 := own_blk_ne hown0 (h2.out.alloc _) (by decide)
    have B1 := Lib.hid ((h1.out.alloc (.cells #[] 33)).grown hg1 hq)
    have B2 := Lib.hid ((h2.out.alloc (.cells #[] 33)).grown hg1 hq2)
    have BL := Lib.hid (((hb1.out.alloc (by have := HSZ.out; omega) (.cells #[] 33))).grown hg1 hbw (fun k hk => (hown0.lt k hk).1))
    have hsz4 : R ≤ w4.heap.size := by have := B1.out.lt; omega
    clear hown0 f1 hRl hbw hg1 hq hq2
    go_wp2_with (at_builtin; go_must (refine wpList_append_own _ rfl _ _ 25 rfl R 33 i0 _ 4 40 Try.underlying25 hi hz0 hz1 hz2 rfl (by decide) _ _ _ rfl (hown1.alloc _) ⟨w4.heap.size, 0, none⟩ 1 1 mark.cells rfl rfl (fun j u h => new_cells _ _ _ j u h) (term_one mark) (by unfold maxLen; omega) (by omega) (by simp; omega) ?_))
    intro v2 w5 hown2 hg2 hne2
    obtain ⟨g, cap, cur, rfl, _, _, hnc, hcm, _⟩ := own_blk hown2 (by omega)
    have hq := own_blk_ne (hown1.alloc (.cells mark.cells.toArray 33)) (B1.out.alloc _) (by decide)
    have hq2 := own_blk_ne (hown1.alloc (.cells mark.cells.toArray 33)) (B2.out.alloc _) (by decide)
    have B1' := (B1.out.alloc (.cells mark.cells.toArray 33)).grown hg2 hq
    have B2' := (B2.out.alloc (.cells mark.cells.toArray 33)).grown hg2 hq2
    have BL' := Lib.hid (((BL.out.alloc hsz4 (.cells mark.cells.toArray 33))).grown hg2 (by simp; omega) (fun k hk => (hown1.lt k hk).1))
    have hn2 := hcm
    unfold maxLen at hn2
    have a0 := B1'.cell 0
    have a1 := B1'.cell 1
    have a2 := B1'.cell 2
    have az := B1'.frozen 1
    have b0 := B2'.cell 0
    have b1 := B2'.cell 1
    have b2 := B2'.cell 2
    have bz0 := B2'.frozen 0
    have bz1 := B2'.frozen 1
    have bz2 := B2'.frozen 2
    simp only [List.getElem?_cons_zero, List.getElem?_cons_succ] at a0 a1 a2 b0 b1 b2
    have hlt1 := B1'.lt
    have hlt2 := B2'.lt
    have C2 := ((B2'.far (p := ⟨R, 1, none⟩) (by simp) (.slice (some ⟨g, 0, none⟩) n cap)).set_ 0 (.string p)).set_ 1 (.slice (some ⟨g, 0, none⟩) n cap) |>.set_ 2 (.int .i64 o)
    have O1 := own_setCell_blk hown2 B1' (by decide) 1 (.slice (some ⟨g, 0, none⟩) n cap)
    have O2 := own_setCell_blk O1 (B2'.far (p := ⟨R, 1, none⟩) (by simp) (.slice (some ⟨g, 0, none⟩) n cap)) (by decide) 0 (.string p)
    have O3 := own_setCell_blk O2 ((B2'.far (p := ⟨R, 1, none⟩) (by simp) (.slice (some ⟨g, 0, none⟩) n cap)).set_ 0 (.string p)) (by decide) 1 (.slice (some ⟨g, 0, none⟩) n cap)
    have O4 := own_setCell_blk O3 (((B2'.far (p := ⟨R, 1, none⟩) (by simp) (.slice (some ⟨g, 0, none⟩) n cap)).set_ 0 (.string p)).set_ 1 (.slice (some ⟨g, 0, none⟩) n cap)) (by decide) 2 (.int .i64 o)
    have E1 := BL'.out.setCell (p := ⟨R, 1, none⟩) (Nat.le_refl _) (.slice (some ⟨g, 0, none⟩) n cap)
    have E2 := (((E1.setCell (p := ⟨R + 1, 0, none⟩) (by simp) (.string p)).setCell (p := ⟨R + 1, 1, none⟩) (by simp) (.slice (some ⟨g, 0, none⟩) n cap)).setCell (p := ⟨R + 1, 2, none⟩) (by simp) (.int .i64 o))
    have q0 := C2.cell 0
    have q1 := C2.cell 1
    have q2 := C2.cell 2
    simp at q0 q1 q2
    have HO := Lib.hid O4
    have HE := Lib.hid E2
    clear hown2 hg2 hne2 B1' B2' O1 O2 O3 O4 E1 E2 C2 hown1 hq hq2 hcm
    go_wp2
    refine bodyPost_ret (v := .agg #[.string p, .slice (some ⟨g, 0, none⟩) n cap, .int .i64 o]) ?_ rfl ⟨g, cap, rfl, ?_, by have := HRR.out; rw [this]; exact HE.out⟩
    · simp [results, Try.results9, go_sem, q0, q1, q2]
    · have := HRR.out
      rw [this, tcells_append]
      have e : tcells [mark] = mark.cells := by simp [tcells]
      rw [e]; exact HO.out
end Go.Proofs.Ytjcgkplphiedjaa
