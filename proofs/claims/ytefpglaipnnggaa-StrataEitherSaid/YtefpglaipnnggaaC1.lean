import Derived.Test.YtefpglaipnnggaaA9
import Derived.Deep.Draws
import Derived.Laws.Rows
import Derived.Deep.RegionWith
namespace Go.Proofs.Ytefpglaipnnggaa
open Go.RowKit

/-- A block that is known whole. -/
def Blk (w : World) (g : Nat) (t : TypeId) (cs : List Value) : Prop := w.heap[g]? = some (.cells cs.toArray t (0, 0))

section
variable {w w' : World} {g : Nat} {t : TypeId} {cs : List Value}
theorem Blk.lt (h : Blk w g t cs) : g < w.heap.size := by
  rcases Nat.lt_or_ge g w.heap.size with hlt | hge
  · exact hlt
  · unfold Blk at h; rw [Array.getElem?_eq_none hge] at h; cases h
theorem Blk.cell (h : Blk w g t cs) (i : Nat) : w.cell? ⟨g, i, none⟩ = cs[i]? := by
  rw [cell_of_row w g i cs.toArray t (0, 0) h]; simp
theorem Blk.frozen (h : Blk w g t cs) (i : Nat) : w.frozen? ⟨g, i, none⟩ = false := by
  unfold Blk at h
  simp [World.frozen?, h]
theorem Blk.new (w : World) (t : TypeId) (cs : List Value) : Blk (w.alloc (.cells cs.toArray t)) w.heap.size t cs := heap_alloc_new w _
theorem Blk.drewN (h : Blk w g t cs) (n : Nat) : Blk (w.drewN n) g t cs := h
theorem Blk.drew (h : Blk w g t cs) : Blk w.drew g t cs := h
theorem Blk.alloc (h : Blk w g t cs) (o : Obj) : Blk (w.alloc o) g t cs := (Below.heap_alloc w o g h.lt).trans h
theorem Blk.set_ (h : Blk w g t cs) (i : Nat) (u : Value) : Blk (w.setCell ⟨g, i, none⟩ u) g t (cs.set i u) := by
  unfold Blk at h ⊢
  simp [World.setCell, Array.getElem?_modify, h]
theorem Blk.far (h : Blk w g t cs) {p : Addr} (hp : g ≠ p.block) (u : Value) : Blk (w.setCell p u) g t cs := (Below.heap_setCell w p u g hp).trans h
theorem Blk.below {B : Nat} (h : Blk w g t cs) (hb : Below B w w') (hg : g < B) : Blk w' g t cs := (hb.block g hg).trans h
theorem Blk.grown {row : Option Nat} (h : Blk w g t cs) (hb : w.grownBy w' row) (hg : some g ≠ row) : Blk w' g t cs := (hb.block g h.lt hg).trans h
end

/-- Below block M nothing but the blocks of S has turned. -/
structure Only (S : List Nat) (M : Nat) (w w' : World) : Prop where
  os : w'.os = w.os
  tape : w'.tape = w.tape
  output : w'.output = w.output
  size : w.heap.size ≤ w'.heap.size
  block : ∀ k, k < M → k ∉ S → w'.heap[k]? = w.heap[k]?

theorem Only.refl (S : List Nat) (M : Nat) (w : World) : Only S M w w := ⟨rfl, rfl, rfl, Nat.le_refl _, fun _ _ _ => rfl⟩
theorem Only.trans {S : List Nat} {M : Nat} {a b c : World} (h : Only S M a b) (k : Only S M b c) : Only S M a c :=
  ⟨k.os.trans h.os, k.tape.trans h.tape, k.output.trans h.output, Nat.le_trans h.size k.size, fun i hi hs => (k.block i hi hs).trans (h.block i hi hs)⟩
theorem Only.of_below {S : List Nat} {M : Nat} {a b : World} (h : Below M a b) : Only S M a b := ⟨h.os, h.tape, h.output, h.size, fun k hk _ => h.block k hk⟩
theorem Only.drewN {S : List Nat} {M : Nat} {a b : World} (h : Only S M a b) (n : Nat) : Only S M a (b.drewN n) := ⟨h.os, h.tape, h.output, h.size, h.block⟩
theorem Only.drew {S : List Nat} {M : Nat} {a b : World} (h : Only S M a b) : Only S M a b.drew := ⟨h.os, h.tape, h.output, h.size, h.block⟩
theorem Only.setCell {S : List Nat} {M : Nat} {a b : World} (h : Only S M a b) {p : Addr} (hp : p.block ∈ S ∨ M ≤ p.block) (u : Value) : Only S M a (b.setCell p u) :=
  h.trans ⟨rfl, rfl, rfl, by simp [World.setCell], fun k hk hs => Below.heap_setCell _ _ _ _ (by
    rcases hp with hp | hp
    · intro e; exact hs (e ▸ hp)
    · omega)⟩
theorem Only.alloc {S : List Nat} {M : Nat} {a b : World} (h : Only S M a b) (hM : M ≤ b.heap.size) (o : Obj) : Only S M a (b.alloc o) :=
  h.trans (Only.of_below ((Below.refl M b).alloc hM o))
theorem Only.grown {S : List Nat} {M : Nat} {a w w' : World} {row : Option Nat} (h : Only S M a w) (hg : w.grownBy w' row) (hM : M ≤ w.heap.size) (hr : ∀ k, row = some k → M ≤ k) : Only S M a w' :=
  h.trans (Only.of_below ((Below.refl M w).grown hg hM hr))
theorem Only.below {S : List Nat} {M B : Nat} {a b : World} (h : Only S M a b) (hB : B ≤ M) (hS : ∀ k ∈ S, B ≤ k) : Below B a b :=
  ⟨h.os, h.tape, h.output, h.size, fun k hk => h.block k (by omega) (fun hs => by have := hS k hs; omega)⟩

def sl (g n : Nat) : Value := .slice (some ⟨g, 0, none⟩) n n

/-- The seeker: its fields' blocks, and what stands in them. -/
structure Sk (W0 w : World) (M s gt gl gc go n : Nat) (time low comp opn : List Int) (clock count : Int) : Prop where
  only : Only [s, gt, gl, gc] M W0 w
  size : M ≤ w.heap.size
  lt : s < M ∧ gt < M ∧ gl < M ∧ gc < M ∧ go < M
  ne : s ≠ gt ∧ s ≠ gl ∧ s ≠ gc ∧ gt ≠ gl ∧ gt ≠ gc ∧ gl ≠ gc ∧ s ≠ go ∧ gt ≠ go ∧ gl ≠ go ∧ gc ≠ go
  len : time.length = n ∧ low.length = n ∧ comp.length = n
  btime : Blk w gt 3 (icells time)
  blow : Blk w gl 3 (icells low)
  bcomp : Blk w gc 3 (icells comp)
  bs : ∃ vo, Blk w s 78 [sl go n, sl gt n, sl gl n, sl gc n, vo, .int .i64 clock, .int .i64 count] ∧ w.ownsRow M 3 1 vo opn.length (icells opn)

theorem icells_get {l : List Int} {i : Nat} (h : i < l.length) : (icells l)[i]? = some (.int .i64 l[i]) := by simp [icells, h]
theorem icells_lv {l : List Int} {i : Int} (h0 : 0 ≤ i) (h : i < l.length) : (icells l)[i.toNat]? = some (.int .i64 (lv l i)) := by
  have : i.toNat < l.length := by omega
  simp [icells, lv, this]
theorem icells_set (l : List Int) (i : Nat) (x : Int) : (icells l).set i (.int .i64 x) = icells (l.set i x) := by simp [icells, List.map_set]

section
variable {W0 w w' : World} {M s gt gl gc go n : Nat} {time low comp opn : List Int} {clock count : Int}

theorem Sk.drewN (h : Sk W0 w M s gt gl gc go n time low comp opn clock count) (q : Nat) : Sk W0 (w.drewN q) M s gt gl gc go n time low comp opn clock count :=
  ⟨h.only.drewN q, h.size, h.lt, h.ne, h.len, h.btime, h.blow, h.bcomp, h.bs⟩
theorem Sk.drew (h : Sk W0 w M s gt gl gc go n time low comp opn clock count) : Sk W0 w.drew M s gt gl gc go n time low comp opn clock count :=
  ⟨h.only.drew, h.size, h.lt, h.ne, h.len, h.btime, h.blow, h.bcomp, h.bs⟩
theorem Sk.alloc (h : Sk W0 w M s gt gl gc go n time low comp opn clock count) (o : Obj) : Sk W0 (w.alloc o) M s gt gl gc go n time low comp opn clock count := by
  obtain ⟨vo, h1, h2⟩ := h.bs
  exact ⟨h.only.alloc h.size o, by have := h.size; simp; omega, h.lt, h.ne, h.len, h.btime.alloc o, h.blow.alloc o, h.bcomp.alloc o, vo, h1.alloc o, h2.alloc o⟩

theorem Sk.set_clock (h : Sk W0 w M s gt gl gc go n time low comp opn clock count) (x : Int) : Sk W0 (w.setCell ⟨s, 5, none⟩ (.int .i64 x)) M s gt gl gc go n time low comp opn x count := by
  obtain ⟨vo, h1, h2⟩ := h.bs
  obtain ⟨n1, n2, n3, n4, n5, n6, n7, n8, n9, n10⟩ := h.ne
  exact ⟨h.only.setCell (.inl (by simp)) _, by have := h.size; simpa [World.setCell] using this, h.lt, h.ne, h.len, h.btime.far n1.symm _, h.blow.far n2.symm _, h.bcomp.far n3.symm _, vo, h1.set_ 5 _, ownsRow_setCell_below h2 h.lt.1 _⟩
theorem Sk.set_count (h : Sk W0 w M s gt gl gc go n time low comp opn clock count) (x : Int) : Sk W0 (w.setCell ⟨s, 6, none⟩ (.int .i64 x)) M s gt gl gc go n time low comp opn clock x := by
  obtain ⟨vo, h1, h2⟩ := h.bs
  obtain ⟨n1, n2, n3, n4, n5, n6, n7, n8, n9, n10⟩ := h.ne
  exact ⟨h.only.setCell (.inl (by simp)) _, by have := h.size; simpa [World.setCell] using this, h.lt, h.ne, h.len, h.btime.far n1.symm _, h.blow.far n2.symm _, h.bcomp.far n3.symm _, vo, h1.set_ 6 _, ownsRow_setCell_below h2 h.lt.1 _⟩
theorem Sk.set_time (h : Sk W0 w M s gt gl gc go n time low comp opn clock count) (i : Nat) (x : Int) : Sk W0 (w.setCell ⟨gt, i, none⟩ (.int .i64 x)) M s gt gl gc go n (time.set i x) low comp opn clock count := by
  obtain ⟨vo, h1, h2⟩ := h.bs
  obtain ⟨n1, n2, n3, n4, n5, n6, n7, n8, n9, n10⟩ := h.ne
  exact ⟨h.only.setCell (.inl (by simp)) _, by have := h.size; simpa [World.setCell] using this, h.lt, h.ne, by simpa using h.len, by rw [← icells_set]; exact h.btime.set_ i _, h.blow.far n4.symm _, h.bcomp.far n5.symm _, vo, h1.far n1 _, ownsRow_setCell_below h2 h.lt.2.1 _⟩
theorem Sk.set_low (h : Sk W0 w M s gt gl gc go n time low comp opn clock count) (i : Nat) (x : Int) : Sk W0 (w.setCell ⟨gl, i, none⟩ (.int .i64 x)) M s gt gl gc go n time (low.set i x) comp opn clock count := by
  obtain ⟨vo, h1, h2⟩ := h.bs
  obtain ⟨n1, n2, n3, n4, n5, n6, n7, n8, n9, n10⟩ := h.ne
  exact ⟨h.only.setCell (.inl (by simp)) _, by have := h.size; simpa [World.setCell] using this, h.lt, h.ne, by simpa using h.len, h.btime.far n4 _, by rw [← icells_set]; exact h.blow.set_ i _, h.bcomp.far n6.symm _, vo, h1.far n2 _, ownsRow_setCell_below h2 h.lt.2.2.1 _⟩
theorem Sk.set_comp (h : Sk W0 w M s gt gl gc go n time low comp opn clock count) (i : Nat) (x : Int) : Sk W0 (w.setCell ⟨gc, i, none⟩ (.int .i64 x)) M s gt gl gc go n time low (comp.set i x) opn clock count := by
  obtain ⟨vo, h1, h2⟩ := h.bs
  obtain ⟨n1, n2, n3, n4, n5, n6, n7, n8, n9, n10⟩ := h.ne
  exact ⟨h.only.setCell (.inl (by simp)) _, by have := h.size; simpa [World.setCell] using this, h.lt, h.ne, by simpa using h.len, h.btime.far n5 _, h.blow.far n6 _, by rw [← icells_set]; exact h.bcomp.set_ i _, vo, h1.far n3 _, ownsRow_setCell_below h2 h.lt.2.2.2.1 _⟩

theorem Sk.f0 (h : Sk W0 w M s gt gl gc go n time low comp opn clock count) : w.cell? ⟨s, 0, none⟩ = some (.slice (some ⟨go, 0, none⟩) n n) := by obtain ⟨vo, h1, _⟩ := h.bs; exact h1.cell 0
theorem Sk.f1 (h : Sk W0 w M s gt gl gc go n time low comp opn clock count) : w.cell? ⟨s, 1, none⟩ = some (.slice (some ⟨gt, 0, none⟩) n n) := by obtain ⟨vo, h1, _⟩ := h.bs; exact h1.cell 1
theorem Sk.f2 (h : Sk W0 w M s gt gl gc go n time low comp opn clock count) : w.cell? ⟨s, 2, none⟩ = some (.slice (some ⟨gl, 0, none⟩) n n) := by obtain ⟨vo, h1, _⟩ := h.bs; exact h1.cell 2
theorem Sk.f3 (h : Sk W0 w M s gt gl gc go n time low comp opn clock count) : w.cell? ⟨s, 3, none⟩ = some (.slice (some ⟨gc, 0, none⟩) n n) := by obtain ⟨vo, h1, _⟩ := h.bs; exact h1.cell 3
theorem Sk.f5 (h : Sk W0 w M s gt gl gc go n time low comp opn clock count) : w.cell? ⟨s, 5, none⟩ = some (.int .i64 clock) := by obtain ⟨vo, h1, _⟩ := h.bs; exact h1.cell 5
theorem Sk.f6 (h : Sk W0 w M s gt gl gc go n time low comp opn clock count) : w.cell? ⟨s, 6, none⟩ = some (.int .i64 count) := by obtain ⟨vo, h1, _⟩ := h.bs; exact h1.cell 6
theorem Sk.zs (h : Sk W0 w M s gt gl gc go n time low comp opn clock count) (i : Nat) : w.frozen? ⟨s, i, none⟩ = false := by obtain ⟨vo, h1, _⟩ := h.bs; exact h1.frozen i
theorem Sk.slt (h : Sk W0 w M s gt gl gc go n time low comp opn clock count) : s < w.heap.size := by obtain ⟨vo, h1, _⟩ := h.bs; exact h1.lt
theorem Sk.ct (h : Sk W0 w M s gt gl gc go n time low comp opn clock count) {p : Int} (h0 : 0 ≤ p) (hp : p < n) : w.cell? ⟨gt, p.toNat, none⟩ = some (.int .i64 (lv time p)) :=
  (h.btime.cell p.toNat).trans (icells_lv h0 (by have := h.len.1; omega))
theorem Sk.cl (h : Sk W0 w M s gt gl gc go n time low comp opn clock count) {p : Int} (h0 : 0 ≤ p) (hp : p < n) : w.cell? ⟨gl, p.toNat, none⟩ = some (.int .i64 (lv low p)) :=
  (h.blow.cell p.toNat).trans (icells_lv h0 (by have := h.len.2.1; omega))
theorem Sk.cc (h : Sk W0 w M s gt gl gc go n time low comp opn clock count) {p : Int} (h0 : 0 ≤ p) (hp : p < n) : w.cell? ⟨gc, p.toNat, none⟩ = some (.int .i64 (lv comp p)) :=
  (h.bcomp.cell p.toNat).trans (icells_lv h0 (by have := h.len.2.2; omega))

/-- The open list's slice stands anew in its field. -/
theorem Sk.set_open {vo vo' : Value} {opn' : List Int} (h : Sk W0 w M s gt gl gc go n time low comp opn clock count) (h1 : Blk w s 78 [sl go n, sl gt n, sl gl n, sl gc n, vo, .int .i64 clock, .int .i64 count])
    (hg : w.grownBy w' vo.ownBlock) (hown : w.ownsRow M 3 1 vo opn.length (icells opn)) (hown' : w'.ownsRow M 3 1 vo' opn'.length (icells opn')) :
    Sk W0 (w'.setCell ⟨s, 4, none⟩ vo') M s gt gl gc go n time low comp opn' clock count := by
  obtain ⟨n1, n2, n3, n4, n5, n6, n7, n8, n9, n10⟩ := h.ne
  have hne : ∀ g, g < M → some g ≠ vo.ownBlock := fun g hg he => by have := (hown.lt g he.symm).1; omega
  have hrow : ∀ k, vo.ownBlock = some k → M ≤ k := fun k hk => (hown.lt k hk).1
  have ho := h.only.grown hg h.size hrow
  refine ⟨ho.setCell (.inl (by simp)) _, ?_, h.lt, h.ne, h.len, (h.btime.grown hg (hne _ h.lt.2.1)).far n1.symm _, (h.blow.grown hg (hne _ h.lt.2.2.1)).far n2.symm _, (h.bcomp.grown hg (hne _ h.lt.2.2.2.1)).far n3.symm _, vo', ?_, ownsRow_setCell_below hown' h.lt.1 _⟩
  · have := h.size; have := hg.size; simp [World.setCell]; omega
  · exact (h1.grown hg (hne _ h.lt.1)).set_ 4 _
end

theorem own_blk_ne {w : World} {base e size n g : Nat} {t : TypeId} {cs : List Value} {v : Value} {xs : List Value} (h : w.ownsRow base e size v n xs) (hg : Blk w g t cs) (hne : t ≠ e) : some g ≠ v.ownBlock := by
  rcases h.2 with ⟨rfl, _⟩ | ⟨g', cap, cur, rfl, _, hh, _⟩
  · simp [Value.ownBlock]
  · intro he
    simp only [Value.ownBlock, Option.some.injEq] at he
    subst he
    unfold Blk at hg
    rw [hh] at hg
    injection hg with hg
    injection hg with _ ht
    exact hne ht.symm

theorem own_setCell_blk {w : World} {base e size n g : Nat} {t : TypeId} {cs : List Value} {v : Value} {xs : List Value} (h : w.ownsRow base e size v n xs) (hg : Blk w g t cs) (hne : t ≠ e) (i : Nat) (u : Value) :
    (w.setCell ⟨g, i, none⟩ u).ownsRow base e size v n xs := by
  have hb := own_blk_ne h hg hne
  refine ⟨h.1, ?_⟩
  rcases h.2 with h2 | ⟨g', cap, cur, rfl, hl, hh, r⟩
  · exact .inl h2
  · refine .inr ⟨g', cap, cur, rfl, hl, ?_, r⟩
    rw [Below.heap_setCell _ _ _ _ (fun e => hb (by simp [Value.ownBlock, e]))]
    exact hh

/-- Blocks that are no rows of numbers, and are not in S, stay. -/
structure Fr (S : List Nat) (w w' : World) : Prop where
  size : w.heap.size ≤ w'.heap.size
  keep : ∀ k t cs, k ∉ S → t ≠ 3 → Blk w k t cs → Blk w' k t cs
theorem Fr.refl (S : List Nat) (w : World) : Fr S w w := ⟨Nat.le_refl _, fun _ _ _ _ _ h => h⟩
theorem Fr.trans {S : List Nat} {a b c : World} (h : Fr S a b) (k : Fr S b c) : Fr S a c := ⟨Nat.le_trans h.size k.size, fun i t cs hs ht hb => k.keep i t cs hs ht (h.keep i t cs hs ht hb)⟩
theorem Fr.drew {S : List Nat} {a b : World} (h : Fr S a b) : Fr S a b.drew := ⟨h.size, h.keep⟩
theorem Fr.drewN {S : List Nat} {a b : World} (h : Fr S a b) (q : Nat) : Fr S a (b.drewN q) := ⟨h.size, h.keep⟩
theorem Fr.alloc {S : List Nat} {a b : World} (h : Fr S a b) (o : Obj) : Fr S a (b.alloc o) := ⟨by have := h.size; simp; omega, fun k t cs hs ht hb => (h.keep k t cs hs ht hb).alloc o⟩
theorem Fr.setCell {S : List Nat} {a b : World} (h : Fr S a b) {p : Addr} (hp : p.block ∈ S ∨ a.heap.size ≤ p.block) (u : Value) : Fr S a (b.setCell p u) :=
  ⟨by have := h.size; simpa [World.setCell] using this, fun k t cs hs ht hb => (h.keep k t cs hs ht hb).far (by
    rcases hp with hp | hp
    · intro e; exact hs (e ▸ hp)
    · have := hb.lt; omega) u⟩
theorem Fr.grown {S : List Nat} {a w w' : World} {base size n : Nat} {v : Value} {xs : List Value} (h : Fr S a w) (hown : w.ownsRow base 3 size v n xs) (hg : w.grownBy w' v.ownBlock) : Fr S a w' :=
  ⟨Nat.le_trans h.size hg.size, fun k t cs hs ht hb => (h.keep k t cs hs ht hb).grown hg (own_blk_ne hown (h.keep k t cs hs ht hb) ht)⟩

theorem Sk.set_blk {W0 w : World} {M s gt gl gc go n : Nat} {time low comp opn : List Int} {clock count : Int} (h : Sk W0 w M s gt gl gc go n time low comp opn clock count)
    {g : Nat} {t : TypeId} {cs : List Value} (hb : Blk w g t cs) (ht : t ≠ 3) (hM : M ≤ g) (i : Nat) (u : Value) : Sk W0 (w.setCell ⟨g, i, none⟩ u) M s gt gl gc go n time low comp opn clock count := by
  obtain ⟨vo, h1, h2⟩ := h.bs
  have hl := h.lt
  exact ⟨h.only.setCell (.inr hM) u, by have := h.size; simpa [World.setCell] using this, h.lt, h.ne, h.len, h.btime.far (by simp; omega) u, h.blow.far (by simp; omega) u, h.bcomp.far (by simp; omega) u, vo, h1.far (by simp; omega) u,
    own_setCell_blk h2 hb ht i u⟩

set_option maxHeartbeats 1000000 in
theorem enter_any (W0 w : World) (M s gt gl gc go n : Nat) (time low comp opn : List Int) (clock count : Int) (h : Sk W0 w M s gt gl gc go n time low comp opn clock count)
    (p : Int) (h0 : 0 ≤ p) (hp : p < n) (hc0 : 0 ≤ clock) (hc : clock ≤ 1000000) (ho : opn.length ≤ 1000000) :
    Calls Try.prog 58 #[.pointer (some ⟨s, 0, none⟩), .int .i64 p] w fun e w' => e = .returned (.agg #[.int .i64 p, .int .i64 0]) ∧ Fr [s, gt, gl, gc] w w' ∧
      Sk W0 w' M s gt gl gc go n (time.set p.toNat (clock + 1)) (low.set p.toNat (clock + 1)) comp (opn ++ [p]) (clock + 1) count := by
  obtain ⟨i0, hi, hz0, hz1, hz2⟩ := info_parts Try.info3
  have f5 := h.f5
  have fz := h.zs 5
  have hslt := h.slt
  have HH := Lib.hid h
  clear h
  go_enter Try.func58, Try.ntmps58
  go_wp2
  clear f5 fz
  -- behind the clock
  have HS := Lib.hid ((HH.out.set_clock (clock + 1)).alloc (.cells #[.int .i64 0, .int .i64 0] 81))
  have HR := Lib.hid (Blk.new (w.setCell ⟨s, 5, none⟩ (.int .i64 (clock + 1))) 81 [.int .i64 0, .int .i64 0])
  have HW := Lib.hid (((Fr.refl [s, gt, gl, gc] w).setCell (p := ⟨s, 5, none⟩) (.inl (by simp)) (.int .i64 (clock + 1))).alloc (.cells #[.int .i64 0, .int .i64 0] 81))
  have hsz : (w.setCell ⟨s, 5, none⟩ (.int .i64 (clock + 1))).heap.size = w.heap.size := by simp [World.setCell]
  rw [hsz] at HR
  have HM : Hid (M ≤ w.heap.size) := HH.out.size
  clear hsz HH
  generalize World.alloc _ _ = w1 at *
  have HZ := Lib.hid (Nat.le_refl w.heap.size)
  generalize hR : w.heap.size = R at HR HM hslt HZ ⊢
  rw [← hR] at HZ
  have HZ : Hid (w.heap.size ≤ R) := by rw [hR]; exact Nat.le_refl _
  clear hR hslt
  have f1 := HS.out.f1
  have f5 := HS.out.f5
  have ct := HS.out.ct h0 hp
  have zt := HS.out.btime.frozen p.toNat
  go_region
  clear f1 f5 ct zt
  have HS := Lib.hid ((HS.out.set_time p.toNat (clock + 1)).drew)
  have HR := Lib.hid (HR.out.far (p := ⟨gt, p.toNat, none⟩) (by have := HM.out; have := HS.out.lt; simp; omega) (.int .i64 (clock + 1))).drew
  have HW := Lib.hid ((HW.out.setCell (p := ⟨gt, p.toNat, none⟩) (.inl (by simp)) (.int .i64 (clock + 1))).drew)
  generalize World.drew _ = w2 at *
  have f2 := HS.out.f2
  have f5 := HS.out.f5
  have cl := HS.out.cl h0 hp
  have zl := HS.out.blow.frozen p.toNat
  go_wp2
  go_region
  clear f2 f5 cl zl
  have HS := Lib.hid ((HS.out.set_low p.toNat (clock + 1)).drew)
  have HR := Lib.hid (HR.out.far (p := ⟨gl, p.toNat, none⟩) (by have := HM.out; have := HS.out.lt; simp; omega) (.int .i64 (clock + 1))).drew
  have HW := Lib.hid ((HW.out.setCell (p := ⟨gl, p.toNat, none⟩) (.inl (by simp)) (.int .i64 (clock + 1))).drew)
  generalize World.drew _ = w3 at *
  obtain ⟨vo, hbs, hown⟩ := HS.out.bs
  have f4 := hbs.cell 4
  simp only [sl, List.getElem?_cons_zero, List.getElem?_cons_succ] at f4
  have HB := Lib.hid hbs
  clear hbs
  have HM2 := HS.out.size
  go_wp2_with (at_builtin; go_must (refine wpList_append_own _ rfl _ _ 37 rfl M 3 i0 _ 1 8 Try.underlying37 hi hz0 hz1 hz2 rfl (by decide) _ _ _ rfl (hown.alloc _) ⟨w3.heap.size, 0, none⟩ 1 1 [.int .i64 p] rfl rfl (fun j u h => new_cells _ _ _ j u h) (int_one _) (by unfold maxLen; omega) (by omega) (by simp; omega) ?_))
  intro v1 w4 hown1 hg1 _
  obtain ⟨A1, c1, hv, _⟩ := own_slice hown1
  have HB4 := Lib.hid ((HB.out.alloc (.cells #[.int .i64 p] 3)).grown hg1 (fun he => by have := (hown.lt s he.symm).1; have := HS.out.lt; omega))
  have HR4 := Lib.hid ((HR.out.alloc (.cells #[.int .i64 p] 3)).grown hg1 (own_blk_ne (hown.alloc _) (HR.out.alloc (.cells #[.int .i64 p] 3)) (by decide)))
  have HW4 := Lib.hid ((HW.out.alloc (.cells #[.int .i64 p] 3)).grown (hown.alloc _) hg1)
  have HS4 := Lib.hid ((HS.out.alloc (.cells #[.int .i64 p] 3)).set_open (HB.out.alloc _) hg1 (hown.alloc _) (opn' := opn ++ [p]) (vo' := v1) (by simpa [icells] using hown1))
  have f4' := HB4.out.cell 4
  have fz := HB4.out.frozen 4
  simp only [sl, List.getElem?_cons_zero, List.getElem?_cons_succ] at f4'
  have hRs : R ≠ s := by have := HM.out; have := HS.out.lt; omega
  have HR5 := Lib.hid (HR4.out.far (p := ⟨s, 4, none⟩) hRs v1)
  have HS5 := Lib.hid (HS4.out.set_blk HR5.out (by decide) HM.out 0 (.int .i64 p))
  have HS6 := Lib.hid (HS5.out.set_blk (HR5.out.set_ 0 (.int .i64 p)) (by decide) HM.out 1 (.int .i64 0))
  have HR6 := Lib.hid ((HR5.out.set_ 0 (.int .i64 p)).set_ 1 (.int .i64 0))
  have HW6 := Lib.hid (((HW4.out.setCell (p := ⟨s, 4, none⟩) (.inl (by simp)) v1).setCell (p := ⟨R, 0, none⟩) (.inr (by have := HZ.out; simp; omega)) (.int .i64 p)).setCell (p := ⟨R, 1, none⟩) (.inr (by have := HZ.out; simp; omega)) (.int .i64 0))
  have r0 := HR4.out.cell 0
  have r1 := HR4.out.cell 1
  simp only [List.getElem?_cons_zero, List.getElem?_cons_succ] at r0 r1
  have rz := HR4.out.frozen 0
  have rz1 := HR4.out.frozen 1
  have hlt := HB4.out.lt
  have hltR := HR4.out.lt
  have q0 := HR6.out.cell 0
  have q1 := HR6.out.cell 1
  simp at q0 q1
  clear hown1 hg1 hown HR5 HS5
  rw [hv] at HS6 HW6 q0 q1 ⊢
  go_wp2
  refine bodyPost_ret (v := .agg #[.int .i64 p, .int .i64 0]) ?_ rfl ⟨rfl, HW6.out, HS6.out⟩
  simp [results, Try.results58, go_sem, q0, q1]
end Go.Proofs.Ytefpglaipnnggaa
