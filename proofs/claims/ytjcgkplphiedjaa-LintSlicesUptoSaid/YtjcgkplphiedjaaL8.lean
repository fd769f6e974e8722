/- The program's slice of a program: a map of names as a set, the stack of names, the walk. -/
import Derived.Test.YtjcgkplphiedjaaL7
import Derived.Maps.OwnOps
import Derived.Maps.Views
import Derived.StringKeys
namespace Go.Proofs.Ytjcgkplphiedjaa
open Go.RowKit Go.Maps Go.WideMaps

theorem lawK : Keyed Try.prog 9 := string_keyed Try.underlying9
theorem zeroE (w : World) : (zeroValue 3).run Try.prog w = .ok (.int .i64 0) w := by kernel_rfl

/-- A map from names to numbers that holds 1 at the names of S, nothing else. -/
def Wm (w : World) (b k : Nat) (S : List ByteArray) : Prop :=
  ∃ D : DataW Unit, w.ownsMap Try.prog 9 (plainElem Try.prog 3) b k D ∧ IsMap D ∧ ∀ s : ByteArray, D.atKey (.string s.data.toList) (.lit (.int .i64 0)) = .lit (.int .i64 (if has S s = true then 1 else 0))
theorem Wm.of_block {w w' : World} {b k : Nat} {S : List ByteArray} (h : Wm w b k S) (e : w'.heap[b]? = w.heap[b]?) : Wm w' b k S := by
  obtain ⟨D, ⟨es, clock, h1, h2⟩, h3⟩ := h
  exact ⟨D, ⟨es, clock, e.trans h1, h2⟩, h3⟩
theorem Wm.lt {w : World} {b k : Nat} {S : List ByteArray} (h : Wm w b k S) : b < w.heap.size := by
  obtain ⟨D, h1, _⟩ := h
  exact h1.lt
theorem Wm.alloc {w : World} {b k : Nat} {S : List ByteArray} (h : Wm w b k S) (o : Obj) : Wm (w.alloc o) b k S := h.of_block (Below.heap_alloc w o b h.lt)
theorem Wm.below {w w' : World} {b k B : Nat} {S : List ByteArray} (h : Wm w b k S) (hb : Below B w w') (hB : b < B) : Wm w' b k S := h.of_block (hb.block b hB)
theorem Wm.far {w : World} {b k : Nat} {S : List ByteArray} (h : Wm w b k S) {p : Addr} (hp : b ≠ p.block) (u : Value) : Wm (w.setCell p u) b k S := h.of_block (Below.heap_setCell w p u b hp)
theorem Wm.ne {w : World} {b k base e size n : Nat} {S : List ByteArray} {v : Value} {xs : List Value} (h : Wm w b k S) (ho : w.ownsRow base e size v n xs) : some b ≠ v.ownBlock := by
  obtain ⟨D, ⟨es, clock, h1, _⟩, _⟩ := h
  rcases ho.2 with ⟨rfl, _⟩ | ⟨g', cap, cur, rfl, _, hh, _⟩
  · simp [Value.ownBlock]
  · intro he
    simp only [Value.ownBlock, Option.some.injEq] at he
    subst he
    rw [h1] at hh
    simp at hh
theorem Wm.grown {w w' : World} {b k : Nat} {S : List ByteArray} {row : Option Nat} (h : Wm w b k S) (hg : w.grownBy w' row) (hne : some b ≠ row) : Wm w' b k S := h.of_block (hg.block b h.lt hne)
theorem Wm.blk_ne {w : World} {b k g : Nat} {t : TypeId} {cs : List Value} {S : List ByteArray} (h : Wm w b k S) (hg : Blk w g t cs) : b ≠ g := by
  intro e
  subst e
  obtain ⟨D, ⟨es, clock, h1, _⟩, _⟩ := h
  unfold Blk at hg
  rw [h1] at hg
  simp at hg
theorem Wm.made (w : World) : Wm (w.alloc (.map #[] 0)) w.heap.size 0 [] :=
  ⟨_, World.ownsMap_made w Try.prog 9 _, isMap_empty, fun s => by simp [has]; rfl⟩

theorem wpList_lookup_wm {w : World} {ops : Array Oper} {rest : List Oper} {o : Oper} {a : Act} {Q : Exit → Act → World → Prop} (hg : o.guard = none) (m x : Operand) (hop : o.op = Op.lookup 66 m x false)
    (b n : Nat) (S : List ByteArray) (hm : a.eval m = .map (some b)) (h : Wm w b n S) (s : ByteArray) (hx : a.eval x = .string s) (hs : s.size ≤ maxLen)
    (hK : wpList Try.prog ops Q rest (a.put o.dst (.int .i64 (if has S s = true then 1 else 0))) w) : wpList Try.prog ops Q (o :: rest) a w := by
  obtain ⟨D, h1, h2, h3⟩ := h
  refine wpList_lookup_own_int w hg m x 66 hop 9 3 .i64 lawK Try.underlying66 Try.underlying3 (zeroE _) b n D hm h1 _ _ hx (keyOf_string_mk Try.underlying9 hs) ?_
  intro c hc _
  rw [h3 s] at hc
  simp only [DataW.lit.injEq, Lit.int.injEq, true_and] at hc
  rw [← hc]; exact hK

theorem wpList_update_wm {w : World} {ops : Array Oper} {rest : List Oper} {o : Oper} {a : Act} {Q : Exit → Act → World → Prop} (hg : o.guard = none) (m x v : Operand) (hop : o.op = Op.mapUpdate 66 m x v)
    (b n : Nat) (S : List ByteArray) (hm : a.eval m = .map (some b)) (h : Wm w b n S) (hn : n < maxLen) (s : ByteArray) (hx : a.eval x = .string s) (hs : s.size ≤ maxLen) (hv : a.eval v = .int .i64 1)
    (hK : ∀ w', Wm w' b (n + 1) (s :: S) → w.grownBy w' (some b) → wpList Try.prog ops Q rest (a.put o.dst undef) w') : wpList Try.prog ops Q (o :: rest) a w := by
  obtain ⟨D, h1, h2, h3⟩ := h
  refine wpList_mapUpdate_own w hg m x v 66 hop 9 3 lawK Try.underlying66 _ b n D hm h1 hn _ _ _ hx hv (keyOf_string_mk Try.underlying9 hs) _ [] (plainElem_int Try.underlying3 (by decide)) ?_
  intro w' h4 h5
  refine hK w' ⟨_, h4, h2.put _ _, fun s' => ?_⟩ h5
  by_cases e : s' = s
  · subst e
    rw [atKey_put_same h2 (lawK.key (keyOf_string_mk Try.underlying9 hs)), has_iff.2 (by simp), if_pos rfl]
  · have hne : Lit.string s'.data.toList ≠ Lit.string s.data.toList := by
      intro he
      injection he with he
      exact e (toList_inj (by rw [ByteArray.toList_eq, ByteArray.toList_eq]; exact he))
    rw [atKey_put_other hne, h3 s']
    have hb : (s.toList == s'.toList) = false := by simp only [beq_eq_false_iff_ne]; exact fun h => e (toList_inj h.symm)
    have : has (s :: S) s' = has S s' := by simp [has, hb]
    rw [this]

theorem names_pop {w : World} {R : Nat} {v : Value} {t : List ByteArray} {g : ByteArray} (h : w.ownsRow R 9 1 v (t ++ [g]).length (scells (t ++ [g]))) :
    ∃ g' cap, v = .slice (some ⟨g', 0, none⟩) (t.length + 1) cap ∧ g' < w.heap.size ∧ w.cell? ⟨g', t.length, none⟩ = some (.string g) ∧ w.ownsRow R 9 1 (.slice (some ⟨g', 0, none⟩) t.length cap) t.length (scells t) ∧ t.length + 1 ≤ cap ∧ cap ≤ 9223372036854775807 := by
  rw [List.length_append, List.length_singleton, scells_append] at h
  obtain ⟨g', cap, cur, rfl, hb, hg, hnc, hcm, hcs, ht⟩ := own_blk h (by omega)
  refine ⟨g', cap, rfl, hg.lt, ?_, own_pop (size := 1) h (by simp [scells]), hnc, by unfold maxLen at hcm; omega⟩
  rw [hg.cell]
  have h2 : (scells t ++ scells [g])[t.length]? = some (.string g) := by
    rw [List.getElem?_append_right (by simp [scells])]
    simp [scells]
  rw [← ht, List.getElem?_take] at h2
  split at h2
  · exact h2
  · cases h2

theorem asksL_take_le (ls : List Li) (k : Nat) : (asksL (ls.take k)).length ≤ (asksL ls).length := by
  have h : asksL ls = asksL (ls.take k) ++ asksL (ls.drop k) := by
    unfold asksL
    rw [← List.map_append, ← List.filter_append, List.take_append_drop]
  rw [h, List.length_append]; omega

set_option maxRecDepth 20000 in
set_option maxHeartbeats 1000000 in
theorem clone_any (A : Option Addr) (n c : Nat) (l : List ByteArray) (w : World) (hr : Rd w w.heap.size 1 A n (scells l)) (hA : A = none → c = 0) (hn : n * 16 ≤ 140737488351232) :
    Calls Try.prog 31 #[.slice A n c] w fun e w' => ∃ A' c', e = .returned (.slice A' n c') ∧ w'.ownsRow w.heap.size 9 1 (.slice A' n c') n (scells l) ∧ Below w.heap.size w w' := by
  obtain ⟨i0, hi, hz0, hz1, hz2⟩ := info_parts Try.info9
  have HR := Lib.hid hr
  clear hr
  cases A with
  | none =>
    obtain rfl : c = 0 := hA rfl
    obtain rfl : n = 0 := by
      rcases Nat.eq_zero_or_pos n with h | h
      · exact h
      · obtain ⟨b, o, h, _⟩ := HR.out.2.2 h; cases h
    obtain rfl : l = [] := by
      have := HR.out.1
      rw [scells_length] at this
      exact List.eq_nil_of_length_eq_zero (by omega)
    clear hA
    have he : ∀ w : World, (binOp .eql 23 (.slice none 0 0) (.slice none 0 0)).run Try.prog w = .ok (.bool true) w := fun _ => by kernel_rfl
    go_enter Try.func31, Try.ntmps31
    go_wp2
    go_ret
    exact ⟨none, 0, rfl, World.ownsRow_nil _ _ _ _, Below.refl _ _⟩
  | some ad =>
    clear hA
    have he : ∀ w : World, (binOp .eql 23 (.slice (some ad) n c) (.slice none 0 0)).run Try.prog w = .ok (.bool false) w := fun _ => by kernel_rfl
    go_enter Try.func31, Try.ntmps31
    have hown0 : (w.alloc (.cells #[] 9)).ownsRow w.heap.size 9 1 (.slice (some ⟨w.heap.size, 0, none⟩) 0 0) 0 [] := own_empty (Nat.le_refl _)
    have hba := (Below.refl w.heap.size w).alloc (Nat.le_refl _) (.cells #[] 9)
    have hbw : w.heap.size ≤ (w.alloc (.cells #[] 9)).heap.size := hba.size
    have HRd := Lib.hid (HR.out.up hba hbw)
    go_wp2_with (at_builtin; go_must (refine wpList_append_own _ rfl _ _ 23 rfl w.heap.size 9 i0 _ 1 16 Try.underlying23 hi hz0 hz1 hz2 rfl (by decide) _ _ _ rfl hown0 ad n c (scells l) rfl HRd.out.1 HRd.out.news (strs_one l) (by unfold maxLen; omega) (by omega) hbw ?_))
    intro v4 w4 hown4 hg4 _
    have HB4 := Lib.hid (hba.grown hg4 hbw (fun k hk => (hown0.lt k hk).1))
    obtain ⟨A4, c4, rfl, hn4⟩ := own_slice hown4
    have HO4 := Lib.hid hown4
    clear hown0 hown4 hg4 hba hbw HRd
    go_wp2
    go_ret
    exact ⟨A4, c4, rfl, by simpa using HO4.out, HB4.out⟩
end Go.Proofs.Ytjcgkplphiedjaa
