/- The law of texts: its walk. -/
import Derived.Test.YtjcgkplphiedjaaDoorA7
import Derived.Laws.AppendOwnNone
namespace Go.Proofs.YtjcgkplphiedjaaDoor
open Go.RowKit Go.Sort

theorem Tryd.info52 : (Tryd.prog.info? 52).map (fun i => (i.zero, i.size, i.bytes)) = some (some (.agg #[.int .i64 0, .int .i64 0, .int .i64 0, .int .i64 0, .string ⟨#[]⟩]), 5, 48) := by kernel_rfl

theorem own_slice {w : World} {base e size n : Nat} {v : Value} {xs : List Value} (h : w.ownsRow base e size v n xs) :
    ∃ A c, v = .slice A n c ∧ n ≤ 9223372036854775807 := by
  obtain ⟨h1, h2⟩ := h
  rcases h2 with ⟨rfl, rfl⟩ | ⟨g, cap, cur, rfl, hb, hg, hnc, hcm, hcs, ht⟩
  · exact ⟨none, 0, rfl, by omega⟩
  · exact ⟨_, _, rfl, by unfold maxLen at hcm; omega⟩

theorem own_empty {w : World} {base e size : Nat} (hb : base ≤ w.heap.size) : (w.alloc (.cells #[] e)).ownsRow base e size (.slice (some ⟨w.heap.size, 0, none⟩) 0 0) 0 [] :=
  ⟨by simp, .inr ⟨w.heap.size, 0, #[], rfl, hb, heap_alloc_new w _, Nat.le_refl _, by unfold maxLen; omega, by simp, by simp⟩⟩

theorem Rd.news {w : World} {B size : Nat} {ad : Addr} {n : Nat} {xs : List Value} (h : Rd w B size (some ad) n xs) : ∀ j u, xs[j]? = some u → w.cell? (ad.add j) = some u := by
  intro j u hu
  have hj := (List.getElem?_eq_some_iff.1 hu).1
  have hn : 0 < n := by
    rcases Nat.eq_zero_or_pos n with e | e
    · rw [h.1, e] at hj; omega
    · exact e
  obtain ⟨b, o, e, _, hc⟩ := h.2.2 hn
  injection e with e
  subst e
  have hadd : (⟨b, o, none⟩ : Addr).add j = ⟨b, o + j, none⟩ := by unfold Addr.add; split <;> simp_all
  rw [hadd]; exact hc j u hu

theorem own_none {w : World} {base e size n c : Nat} {xs : List Value} (h : w.ownsRow base e size (.slice none n c) n xs) : c = 0 := by
  rcases h.2 with ⟨h, _⟩ | ⟨g, cap, cur, h, _⟩
  · simp only [Value.slice.injEq] at h; exact h.2.2
  · simp at h
theorem own_rd {w : World} {base e size n c : Nat} {A : Option Addr} {xs : List Value} (h : w.ownsRow base e size (.slice A n c) n xs) : Rd w w.heap.size size A n xs := by
  obtain ⟨h1, h2⟩ := h
  rcases h2 with ⟨hv, rfl⟩ | ⟨g, cap, cur, hv, hb, hg, hnc, hcm, hcs, ht⟩
  · exact ⟨h1, by omega, fun h => absurd h (by omega)⟩
  · simp only [Value.slice.injEq] at hv
    obtain ⟨rfl, _, rfl⟩ := hv
    refine ⟨h1, by unfold maxLen at hcm; omega, fun _ => ⟨g, 0, rfl, (Array.getElem?_eq_some_iff.1 hg).1, fun j u hu => ?_⟩⟩
    rw [Nat.zero_add, cell_of_row w g j cur e (0, 0) hg]
    rw [← ht, List.getElem?_take] at hu
    split at hu
    · simpa using hu
    · cases hu
theorem wpList_append_all {P : Program} {w : World} {ops : Array Oper} {rest : List Oper} {o : Oper} {a : Act} {Q : Exit → Act → World → Prop} (hgd : o.guard = none) (s x : Operand) (t : TypeId)
    (ho : o.op = .call { callee := .builtin .append, args := #[s, x], argTypes := #[t, t] })
    (base : Nat) (e : TypeId) (i : TypeInfo) (z : Value) (size bytes : Nat) (ht : P.underlying t = some (.slice e)) (hi : P.info? e = some i) (hz : i.zero = some z)
    (hsize : i.size = size) (hby : i.bytes = bytes) (hzs : z.cells.size = size) (hsz : 0 < size)
    (v : Value) (n : Nat) (xs : List Value) (hs : a.eval s = v) (hown : w.ownsRow base e size v n xs)
    (A : Option Addr) (m c : Nat) (news : List Value) (hx : a.eval x = .slice A m c) (hA : A = none → c = 0) (hr : Rd w w.heap.size size A m news) (h1 : ∀ u ∈ news, u.oneCell' = true)
    (h63 : n + m ≤ maxLen) (hbytes : (n + m) * bytes ≤ 140737488355328) (hbase : base ≤ w.heap.size)
    (h : ∀ v' w', w'.ownsRow base e size v' (n + m) (xs ++ news) → w.grownBy w' v.ownBlock → wpList P ops Q rest (a.put o.dst v') w') : wpList P ops Q (o :: rest) a w := by
  cases A with
  | none =>
    obtain rfl : c = 0 := hA rfl
    obtain rfl : m = 0 := by
      rcases Nat.eq_zero_or_pos m with h | h
      · exact h
      · obtain ⟨b, o, h, _⟩ := hr.2.2 h; cases h
    obtain rfl : news = [] := List.eq_nil_of_length_eq_zero (by have := hr.1; omega)
    exact wpList_append_own_none hgd s x t ho base e i size ht hi v n xs hs hown hx (h v w (by simpa using hown) (World.grownBy.refl _ _))
  | some ad => exact wpList_append_own _ hgd s x t ho base e i z size bytes ht hi hz hsize hby hzs hsz v n xs hs hown ad m c news hx hr.1 hr.news h1 h63 hbytes hbase fun v' w' h2 h3 _ => h v' w' h2 h3


theorem fcells_one (fs : List Fd) : ∀ u ∈ fcells fs, u.oneCell' = true := by
  intro u hu
  obtain ⟨x, _, hx⟩ := List.mem_flatMap.1 hu
  simp only [Fd.cells, List.mem_cons, List.not_mem_nil, or_false] at hx
  rcases hx with rfl | rfl | rfl | rfl | rfl <;> rfl

set_option maxRecDepth 20000 in
set_option maxHeartbeats 4000000 in
theorem LintTexts_walk (A : Option Addr) (n c : Nat) (src : ByteArray) (fs : List Fd) (w : World) (hr : Rd w w.heap.size 5 A n (fcells fs)) (hA : A = none → c = 0) (hok : ∀ x ∈ fs, x.fine) (hn : n ≤ 1048576) (hsrc : src.size ≤ 1048576) (hpow : Pow w) :
    Calls Tryd.prog 3 #[.string src, .slice A n c] w fun e w' => e = .returned (.bool true) ∧ Below w.heap.size w w' := by
  obtain ⟨i0, hi, hz0, hz1, hz2⟩ := info_parts Tryd.info52
  have HR := Lib.hid hr
  have HK := Lib.hid hok
  have HPW := Lib.hid hpow
  have HA := Lib.hid hA
  clear hr hok hpow hA
  go_enter Tryd.func3, Tryd.ntmps3
  have hown0 : (w.alloc (.cells #[] 52)).ownsRow w.heap.size 52 5 (.slice (some ⟨w.heap.size, 0, none⟩) 0 0) 0 [] := own_empty (Nat.le_refl _)
  have hba := (Below.refl w.heap.size w).alloc (Nat.le_refl _) (.cells #[] 52)
  have hbw : w.heap.size ≤ (w.alloc (.cells #[] 52)).heap.size := hba.size
  have HRd := Lib.hid (HR.out.up hba hbw)
  have q1 : 0 + n ≤ maxLen := by unfold maxLen; omega
  have q2 : (0 + n) * 48 ≤ 140737488355328 := by omega
  go_wp2_with (at_builtin; refine wpList_append_all rfl _ _ 22 rfl w.heap.size 52 i0 _ 5 48 Tryd.underlying22 hi hz0 hz1 hz2 rfl (by decide) _ _ _ rfl hown0 A n c (fcells fs) rfl HA.out HRd.out (fcells_one fs) q1 q2 hbw ?_)
  intro v5 w5 hown5 hg5
  obtain ⟨A5, c5, rfl, hn5⟩ := own_slice hown5
  have hb5 := (hba.grown hg5 hbw (fun k hk => (hown0.lt k hk).1))
  have HB5 := Lib.hid hb5
  have HR5 : Hid (Rd w5 w5.heap.size 5 A5 n (fcells fs)) := Lib.hid (by simpa using own_rd hown5)
  clear hown0 hown5 hg5 hba hbw HRd hb5
  go_wp2_with fail
  refine (text_ref A5 n c5 src fs w5 HR5.out HK.out hn hsrc).mono ?_
  rintro e w6 ⟨rfl, hb6⟩
  have HB6 := Lib.hid (HB5.out.trans (hb6.mono HB5.out.size))
  clear hb6 HB5
  generalize hX : (⟨(textL src fs).toArray⟩ : ByteArray) = X at *
  have HX := Lib.hid hX
  clear hX
  go_wp2_with fail
  refine (text_lint A n c src fs w6 (HR.out.up HB6.out HB6.out.size) HK.out hn hsrc (HPW.out.below HB6.out)).mono ?_
  rintro e w7 ⟨rfl, hb7⟩
  rw [HX.out]
  have HB7 := Lib.hid (HB6.out.trans (hb7.mono HB6.out.size))
  clear hb7 HB6
  go_wp2
  go_ret
  exact ⟨by simp, HB7.out⟩
end Go.Proofs.YtjcgkplphiedjaaDoor
