/- The base of a Lint seat: slices that read, blocks, own rows, terms, atoms, literals, clauses. -/
import Derived.Test.YtjcgkplphiedjaaDoorRows
import Derived.WalkKit
import Derived.WalkSpells
import Derived.WalkLawsBesides
import Derived.Lib.Hide
import Derived.Lib.QuietBelow
import Derived.Deep.QuietTactic
import Derived.BigQuiet
import Derived.Laws.MakeOwn
import Derived.Laws.IdiomStrings
import Derived.Deep.DeepCutAuto
import Derived.Laws.AppendOwnNone
namespace Go.Proofs.YtjcgkplphiedjaaDoorT
open Go.RowKit


theorem Tryd.info9 : (Tryd.prog.info? 9).map (fun i => (i.zero, i.size, i.bytes)) = some (some (.string ⟨#[]⟩), 1, 16) := by kernel_rfl
theorem Tryd.info5 : (Tryd.prog.info? 5).map (fun i => (i.zero, i.size, i.bytes)) = some (some (.int .u8 0), 1, 1) := by kernel_rfl
/-- A slice value that reads as the cells xs (size cells each element), its memory below block B. -/
def Rd (w : World) (B size : Nat) (A : Option Addr) (n : Nat) (xs : List Value) : Prop :=
  xs.length = n * size ∧ n ≤ 9223372036854775807 ∧ (0 < n → ∃ b o, A = some ⟨b, o, none⟩ ∧ b < B ∧ ∀ j u, xs[j]? = some u → w.cell? ⟨b, o + j, none⟩ = some u)

theorem Rd.below {w w' : World} {B size : Nat} {A : Option Addr} {n : Nat} {xs : List Value} (h : Rd w B size A n xs) (hb : Below B w w') : Rd w' B size A n xs := by
  refine ⟨h.1, h.2.1, fun hn => ?_⟩
  obtain ⟨b, o, hA, hlt, hc⟩ := h.2.2 hn
  exact ⟨b, o, hA, hlt, fun j u hu => (hb.cell (p := ⟨b, o + j, none⟩) hlt).trans (hc j u hu)⟩

theorem take_snoc {α : Type} (l : List α) (k : Nat) (h : k < l.length) : l.take (k + 1) = l.take k ++ [l[k]] := by
  rw [List.take_add_one, List.getElem?_eq_getElem h]; rfl

/-- Names. -/
def scells (l : List ByteArray) : List Value := l.map (.string ·)
theorem scells_length (l : List ByteArray) : (scells l).length = l.length := by simp [scells]
theorem Rd.str {w : World} {B : Nat} {A : Option Addr} {n : Nat} {l : List ByteArray} (h : Rd w B 1 A n (scells l)) (k : Nat) (hk : k < n) :
    ∃ b o, ∃ h2 : k < l.length, A = some ⟨b, o, none⟩ ∧ b < B ∧ w.cell? ⟨b, o + k, none⟩ = some (.string l[k]) := by
  obtain ⟨h1, h2, h3⟩ := h
  obtain ⟨b, o, hA, hb, hc⟩ := h3 (by omega)
  rw [scells_length] at h1
  exact ⟨b, o, by omega, hA, hb, hc k _ (by simp [scells])⟩

/-- Is a name among them? -/
def has (l : List ByteArray) (s : ByteArray) : Bool := l.any fun x => x.toList == s.toList
theorem has_true {l : List ByteArray} {s : ByteArray} (k : Nat) (h : k < l.length) (e : l[k].toList = s.toList) : has l s = true :=
  List.any_eq_true.2 ⟨l[k], List.getElem_mem h, by simpa using e⟩
theorem has_false {l : List ByteArray} {s : ByteArray} (h : ∀ j, (h : j < l.length) → l[j].toList ≠ s.toList) : has l s = false := by
  rw [has, List.any_eq_false]
  intro x hx
  obtain ⟨j, hj, rfl⟩ := List.mem_iff_getElem.1 hx
  simpa using h j hj


structure T where
  k : Int
  i : Int
  t : ByteArray
  o : Int

def T.cells (e : T) : List Value := [.int .i64 e.k, .int .i64 e.i, .string e.t, .int .i64 e.o]
def tcells (es : List T) : List Value := es.flatMap T.cells

theorem tcells_length (es : List T) : (tcells es).length = es.length * 4 := by
  induction es with
  | nil => rfl
  | cons e es ih => simp only [tcells, List.flatMap_cons, List.length_append, List.length_cons] at *; rw [ih]; simp only [T.cells, List.length_cons, List.length_nil]; omega

theorem tcells_append (a b : List T) : tcells (a ++ b) = tcells a ++ tcells b := by simp [tcells]

theorem tcells_at (es : List T) (k j : Nat) (hk : k < es.length) (hj : j < 4) : (tcells es)[k * 4 + j]? = (es[k]).cells[j]? := by
  induction es generalizing k with
  | nil => simp at hk
  | cons e es ih =>
    cases k with
    | zero =>
      simp only [tcells, List.flatMap_cons, Nat.zero_mul, Nat.zero_add, List.getElem_cons_zero]
      rw [List.getElem?_append_left (by simp [T.cells]; omega)]
    | succ k =>
      simp only [tcells, List.flatMap_cons, List.getElem_cons_succ]
      rw [List.getElem?_append_right (by simp [T.cells]; omega)]
      have := ih k (by simpa using hk)
      simp only [tcells] at this
      rw [← this]; congr 1; simp [T.cells]; omega

theorem Rd.term {w : World} {B : Nat} {A : Option Addr} {n : Nat} {es : List T} (h : Rd w B 4 A n (tcells es)) (k : Nat) (hk : k < n) :
    ∃ b o, ∃ h2 : k < es.length, A = some ⟨b, o, none⟩ ∧ b < B ∧ w.cell? ⟨b, o + k * 4, none⟩ = some (.int .i64 es[k].k) ∧ w.cell? ⟨b, o + k * 4 + 1, none⟩ = some (.int .i64 es[k].i)
      ∧ w.cell? ⟨b, o + k * 4 + 2, none⟩ = some (.string es[k].t) ∧ w.cell? ⟨b, o + k * 4 + 3, none⟩ = some (.int .i64 es[k].o) := by
  obtain ⟨h1, h2, h3⟩ := h
  obtain ⟨b, o, hA, hb, hc⟩ := h3 (by omega)
  rw [tcells_length] at h1
  have hk' : k < es.length := by omega
  refine ⟨b, o, hk', hA, hb, ?_, ?_, ?_, ?_⟩
  · exact hc (k * 4 + 0) _ (by rw [tcells_at es k 0 hk' (by omega)]; rfl)
  · exact hc (k * 4 + 1) _ (by rw [tcells_at es k 1 hk' (by omega)]; rfl)
  · exact hc (k * 4 + 2) _ (by rw [tcells_at es k 2 hk' (by omega)]; rfl)
  · exact hc (k * 4 + 3) _ (by rw [tcells_at es k 3 hk' (by omega)]; rfl)

/-- An atom, as a value. -/
theorem toList_append (a b : ByteArray) : (a ++ b).toList = a.toList ++ b.toList := by
  rw [ByteArray.toList_eq, ByteArray.toList_eq, ByteArray.toList_eq, ByteArray.data_append, Array.toList_append]
theorem toList_size (a : ByteArray) : a.size = a.toList.length := by
  rw [ByteArray.toList_eq, Array.length_toList]; rfl

/-- A block that is known whole. -/
def Blk (w : World) (g : Nat) (t : TypeId) (cs : List Value) : Prop := w.heap[g]? = some (.cells cs.toArray t (0, 0))

section
variable {w w' : World} {g : Nat} {t : TypeId} {cs : List Value}
theorem Blk.lt (h : Blk w g t cs) : g < w.heap.size := by
  rcases Nat.lt_or_ge g w.heap.size with hlt | hge
  · exact hlt
  · unfold Blk at h; rw [Array.getElem?_eq_none hge] at h; cases h
theorem Blk.cell (h : Blk w g t cs) (i : Nat) : w.cell? ⟨g, i, none⟩ = cs[i]? := by
  rw [cell_of_row w g i cs.toArray t (0, 0) h]; simp
theorem Blk.frozen (h : Blk w g t cs) (i : Nat) : w.frozen? ⟨g, i, none⟩ = false := by
  unfold Blk at h
  simp [World.frozen?, h]
theorem Blk.new (w : World) (t : TypeId) (cs : List Value) : Blk (w.alloc (.cells cs.toArray t)) w.heap.size t cs := heap_alloc_new w _
theorem Blk.drewN (h : Blk w g t cs) (n : Nat) : Blk (w.drewN n) g t cs := h
theorem Blk.drew (h : Blk w g t cs) : Blk w.drew g t cs := h
theorem Blk.alloc (h : Blk w g t cs) (o : Obj) : Blk (w.alloc o) g t cs := (Below.heap_alloc w o g h.lt).trans h
theorem Blk.set_ (h : Blk w g t cs) (i : Nat) (u : Value) : Blk (w.setCell ⟨g, i, none⟩ u) g t (cs.set i u) := by
  unfold Blk at h ⊢
  simp [World.setCell, Array.getElem?_modify, h]
theorem Blk.far (h : Blk w g t cs) {p : Addr} (hp : g ≠ p.block) (u : Value) : Blk (w.setCell p u) g t cs := (Below.heap_setCell w p u g hp).trans h
theorem Blk.below {B : Nat} (h : Blk w g t cs) (hb : Below B w w') (hg : g < B) : Blk w' g t cs := (hb.block g hg).trans h
theorem Blk.grown {row : Option Nat} (h : Blk w g t cs) (hb : w.grownBy w' row) (hg : some g ≠ row) : Blk w' g t cs := (hb.block g h.lt hg).trans h
end

theorem run_make_rowN {P : Program} (t e : TypeId) (i : TypeInfo) (z : Value) (ht : P.underlying t = some (.slice e)) (hi : P.info? e = some i) (hz : i.zero = some z)
    (kl kc : IntKind) (n c : Nat) (hnc : n ≤ c) (hbytes : i.bytes * c ≤ 281474976710656) (h63 : c ≤ 9223372036854775807) (w : World) :
    (Instr.makeSlice t (.int kl (n : Int)) (.int kc (c : Int))).run P w = .ok (.slice (some ⟨w.heap.size, 0, none⟩) n c) (w.alloc (.cells (madeCells z.cells (c * i.size)) e)) := by
  have hb : (i.bytes : Int) * (c : Int) ≤ 281474976710656 := by
    have h : ((i.bytes * c : Nat) : Int) ≤ 281474976710656 := by omega
    rwa [Int.natCast_mul] at h
  have hr := run_make (P := P) w t e i z ht hi hz kl kc n c (by omega) (by omega) hb (by omega)
  simp only [Int.toNat_natCast] at hr
  exact hr

theorem made_one (z : Value) (hz : z.cells = #[z]) (n : Nat) : madeCells z.cells (n * 1) = (List.replicate n z).toArray := by
  apply Array.ext_getElem?
  intro i
  rw [hz]
  simp only [madeCells, Nat.mul_one, Array.getElem?_map, Array.getElem?_range, List.getElem?_toArray, List.getElem?_replicate]
  split <;> simp [Nat.mod_one]


theorem add_plain' (b j : Nat) : (⟨b, 0, none⟩ : Addr).add j = ⟨b, j, none⟩ := by unfold Addr.add; split <;> simp_all


theorem own_blk_ne {w : World} {base e size n g : Nat} {t : TypeId} {cs : List Value} {v : Value} {xs : List Value} (h : w.ownsRow base e size v n xs) (hg : Blk w g t cs) (hne : t ≠ e) : some g ≠ v.ownBlock := by
  rcases h.2 with ⟨rfl, _⟩ | ⟨g', cap, cur, rfl, _, hh, _⟩
  · simp [Value.ownBlock]
  · intro he
    simp only [Value.ownBlock, Option.some.injEq] at he
    subst he
    unfold Blk at hg
    rw [hh] at hg
    injection hg with hg
    injection hg with _ ht
    exact hne ht.symm
theorem own_slice {w : World} {base e size n : Nat} {v : Value} {xs : List Value} (h : w.ownsRow base e size v n xs) :
    ∃ A c, v = .slice A n c ∧ n ≤ 9223372036854775807 := by
  obtain ⟨h1, h2⟩ := h
  rcases h2 with ⟨rfl, rfl⟩ | ⟨g, cap, cur, rfl, hb, hg, hnc, hcm, hcs, ht⟩
  · exact ⟨none, 0, rfl, by omega⟩
  · exact ⟨_, _, rfl, by unfold maxLen at hcm; omega⟩

theorem own_empty {w : World} {base e size : Nat} (hb : base ≤ w.heap.size) : (w.alloc (.cells #[] e)).ownsRow base e size (.slice (some ⟨w.heap.size, 0, none⟩) 0 0) 0 [] :=
  ⟨by simp, .inr ⟨w.heap.size, 0, #[], rfl, hb, heap_alloc_new w _, Nat.le_refl _, by unfold maxLen; omega, by simp, by simp⟩⟩

theorem new_cells (w : World) (cs : Array Value) (T : TypeId) (j : Nat) (u : Value) (h : cs.toList[j]? = some u) :
    (w.alloc (.cells cs T)).cell? ((⟨w.heap.size, 0, none⟩ : Addr).add j) = some u := by
  have hadd : (⟨w.heap.size, 0, none⟩ : Addr).add j = ⟨w.heap.size, j, none⟩ := by unfold Addr.add; split <;> simp_all
  rw [hadd, cell_of_row _ w.heap.size j cs T (0, 0) (heap_alloc_new w _)]
  simpa using h

theorem Rd.news {w : World} {B size : Nat} {ad : Addr} {n : Nat} {xs : List Value} (h : Rd w B size (some ad) n xs) : ∀ j u, xs[j]? = some u → w.cell? (ad.add j) = some u := by
  intro j u hu
  have hj := (List.getElem?_eq_some_iff.1 hu).1
  have hn : 0 < n := by
    rcases Nat.eq_zero_or_pos n with e | e
    · rw [h.1, e] at hj; omega
    · exact e
  obtain ⟨b, o, e, _, hc⟩ := h.2.2 hn
  injection e with e
  subst e
  have hadd : (⟨b, o, none⟩ : Addr).add j = ⟨b, o + j, none⟩ := by unfold Addr.add; split <;> simp_all
  rw [hadd]; exact hc j u hu

theorem own_setCell_blk {w : World} {base e size n g : Nat} {t : TypeId} {cs : List Value} {v : Value} {xs : List Value} (h : w.ownsRow base e size v n xs) (hg : Blk w g t cs) (hne : t ≠ e) (i : Nat) (u : Value) :
    (w.setCell ⟨g, i, none⟩ u).ownsRow base e size v n xs := by
  have hb := own_blk_ne h hg hne
  refine ⟨h.1, ?_⟩
  rcases h.2 with h2 | ⟨g', cap, cur, rfl, hl, hh, r⟩
  · exact .inl h2
  · refine .inr ⟨g', cap, cur, rfl, hl, ?_, r⟩
    rw [Below.heap_setCell _ _ _ _ (fun e => hb (by simp [Value.ownBlock, e]))]
    exact hh

theorem own_blk {w : World} {base e size n : Nat} {v : Value} {xs : List Value} (h : w.ownsRow base e size v n xs) (hn : 0 < n) :
    ∃ g cap cur, v = .slice (some ⟨g, 0, none⟩) n cap ∧ base ≤ g ∧ Blk w g e cur ∧ n ≤ cap ∧ cap ≤ maxLen ∧ cur.length = cap * size ∧ cur.take (n * size) = xs := by
  rcases h.2 with ⟨_, h0⟩ | ⟨g, cap, cur, hv, hb, hg, hnc, hcm, hcs, ht⟩
  · omega
  · exact ⟨g, cap, cur.toList, hv, hb, by unfold Blk; simpa using hg, hnc, hcm, by simpa using hcs, ht⟩
theorem term_one (e : T) : ∀ u ∈ e.cells, u.oneCell' = true := by
  intro u hu
  simp only [T.cells, List.mem_cons, List.not_mem_nil, or_false] at hu
  rcases hu with rfl | rfl | rfl | rfl <;> rfl
theorem terms_one (es : List T) : ∀ u ∈ tcells es, u.oneCell' = true := by
  intro u hu
  obtain ⟨e, he, hu⟩ := List.mem_flatMap.1 hu
  exact term_one e u hu

/-- The mark behind the terms. -/
def mark : T := ⟨77, 0, ⟨#[]⟩, 0⟩

set_option maxRecDepth 20000 in


theorem bytes_eq {b : ByteArray} {l : List UInt8} (h : b.toList = l) : b = ⟨l.toArray⟩ := by
  obtain ⟨d⟩ := b
  rw [ByteArray.toList_eq] at h
  subst h
  simp

theorem Rd.up {w w' : World} {B B' size n : Nat} {A : Option Addr} {xs : List Value} (h : Rd w B size A n xs) (hb : Below B w w') (hB : B ≤ B') : Rd w' B' size A n xs := by
  have h := h.below hb
  exact ⟨h.1, h.2.1, fun hn => by obtain ⟨b, o, h1, h2, h3⟩ := h.2.2 hn; exact ⟨b, o, h1, by omega, h3⟩⟩

theorem own_pre {w : World} {base e size n g cap : Nat} {xs ys : List Value} (h : w.ownsRow base e size (.slice (some ⟨g, 0, none⟩) (n + 1) cap) (n + 1) (xs ++ ys)) (hl : xs.length = n * size) :
    Rd w w.heap.size size (some ⟨g, 0, none⟩) n xs ∧ (∀ j u, ys[j]? = some u → w.cell? ⟨g, n * size + j, none⟩ = some u) ∧ n + 1 ≤ cap ∧ cap ≤ 9223372036854775807 ∧ g < w.heap.size ∧ base ≤ g := by
  obtain ⟨g', cap', cur, hv, hb, hg, hnc, hcm, hcs, ht⟩ := own_blk h (by omega)
  injection hv with hv1 _ hv3
  injection hv1 with hv1
  injection hv1 with hv1
  subst hv1 hv3
  unfold maxLen at hcm
  have hat : ∀ (j : Nat) (u : Value), (xs ++ ys)[j]? = some u → w.cell? ⟨g, j, none⟩ = some u := by
    intro j u hu
    rw [← ht, List.getElem?_take] at hu
    split at hu
    · exact (hg.cell j).trans hu
    · cases hu
  refine ⟨⟨hl, by omega, fun _ => ⟨g, 0, rfl, hg.lt, fun j u hu => ?_⟩⟩, fun j u hu => ?_, hnc, hcm, hg.lt, hb⟩
  · rw [Nat.zero_add]
    exact hat j u (by rw [List.getElem?_append_left (List.getElem?_eq_some_iff.1 hu).1]; exact hu)
  · exact hat _ u (by rw [List.getElem?_append_right (by omega), hl, Nat.add_sub_cancel_left]; exact hu)

theorem Rd_new (w : World) (cs : Array Value) (T : TypeId) (size n : Nat) (h : cs.size = n * size) (hn : n ≤ 9223372036854775807) : Rd (w.alloc (.cells cs T)) (w.alloc (.cells cs T)).heap.size size (some ⟨w.heap.size, 0, none⟩) n cs.toList := by
  refine ⟨by simpa using h, hn, fun _ => ⟨w.heap.size, 0, rfl, by simp, fun j u hu => ?_⟩⟩
  have h := new_cells w cs T j u hu
  have hadd : (⟨w.heap.size, 0, none⟩ : Addr).add j = ⟨w.heap.size, j, none⟩ := by unfold Addr.add; split <;> simp_all
  rw [hadd] at h
  rw [Nat.zero_add]; exact h

structure At where
  p : ByteArray
  A : Option Addr
  n : Nat
  c : Nat
  o : Int
  es : List T
def At.cells (a : At) : List Value := [.string a.p, .slice a.A a.n a.c, .int .i64 a.o]
def acells (l : List At) : List Value := l.flatMap At.cells
/-- What stands behind an atom. -/
def At.ok (w : World) (a : At) : Prop := Rd w w.heap.size 4 a.A a.n (tcells a.es) ∧ (a.A = none → a.c = 0) ∧ a.n * 40 ≤ 140737488351232

theorem acells_length (es : List At) : (acells es).length = es.length * 3 := by
  induction es with
  | nil => rfl
  | cons e es ih => simp only [acells, List.flatMap_cons, List.length_append, List.length_cons] at *; rw [ih]; simp only [At.cells, List.length_cons, List.length_nil]; omega

theorem acells_at (es : List At) (k j : Nat) (hk : k < es.length) (hj : j < 3) : (acells es)[k * 3 + j]? = (es[k]).cells[j]? := by
  induction es generalizing k with
  | nil => simp at hk
  | cons e es ih =>
    cases k with
    | zero =>
      simp only [acells, List.flatMap_cons, Nat.zero_mul, Nat.zero_add, List.getElem_cons_zero]
      rw [List.getElem?_append_left (by simp [At.cells]; omega)]
    | succ k =>
      simp only [acells, List.flatMap_cons, List.getElem_cons_succ]
      rw [List.getElem?_append_right (by simp [At.cells]; omega)]
      have := ih k (by simpa using hk)
      simp only [acells] at this
      rw [← this]; congr 1; simp [At.cells]; omega

theorem Rd.atom {w : World} {B : Nat} {A : Option Addr} {n : Nat} {es : List At} (h : Rd w B 3 A n (acells es)) (k : Nat) (hk : k < n) :
    ∃ b o, ∃ h2 : k < es.length, A = some ⟨b, o, none⟩ ∧ b < B ∧ w.cell? ⟨b, o + k * 3, none⟩ = some (.string es[k].p) ∧ w.cell? ⟨b, o + k * 3 + 1, none⟩ = some (.slice es[k].A es[k].n es[k].c) ∧ w.cell? ⟨b, o + k * 3 + 2, none⟩ = some (.int .i64 es[k].o) := by
  obtain ⟨h1, h2, h3⟩ := h
  obtain ⟨b, o, hA, hb, hc⟩ := h3 (by omega)
  rw [acells_length] at h1
  have hk' : k < es.length := by omega
  refine ⟨b, o, hk', hA, hb, ?_, ?_, ?_⟩
  · exact hc (k * 3 + 0) _ (by rw [acells_at es k 0 hk' (by omega)]; rfl)
  · exact hc (k * 3 + 1) _ (by rw [acells_at es k 1 hk' (by omega)]; rfl)
  · exact hc (k * 3 + 2) _ (by rw [acells_at es k 2 hk' (by omega)]; rfl)

theorem str_one (s : ByteArray) : ∀ u ∈ [Value.string s], u.oneCell' = true := by
  intro u hu
  simp only [List.mem_cons, List.not_mem_nil, or_false] at hu
  subst hu; rfl
theorem strs_one (l : List ByteArray) : ∀ u ∈ scells l, u.oneCell' = true := by
  intro u hu
  obtain ⟨s, _, rfl⟩ := List.mem_map.1 hu
  rfl
theorem wpList_append_all {P : Program} {w : World} {ops : Array Oper} {rest : List Oper} {o : Oper} {a : Act} {Q : Exit → Act → World → Prop} (hgd : o.guard = none) (s x : Operand) (t : TypeId)
    (ho : o.op = .call { callee := .builtin .append, args := #[s, x], argTypes := #[t, t] })
    (base : Nat) (e : TypeId) (i : TypeInfo) (z : Value) (size bytes : Nat) (ht : P.underlying t = some (.slice e)) (hi : P.info? e = some i) (hz : i.zero = some z)
    (hsize : i.size = size) (hby : i.bytes = bytes) (hzs : z.cells.size = size) (hsz : 0 < size)
    (v : Value) (n : Nat) (xs : List Value) (hs : a.eval s = v) (hown : w.ownsRow base e size v n xs)
    (A : Option Addr) (m c : Nat) (news : List Value) (hx : a.eval x = .slice A m c) (hA : A = none → c = 0) (hr : Rd w w.heap.size size A m news) (h1 : ∀ u ∈ news, u.oneCell' = true)
    (h63 : n + m ≤ maxLen) (hbytes : (n + m) * bytes ≤ 140737488355328) (hbase : base ≤ w.heap.size)
    (h : ∀ v' w', w'.ownsRow base e size v' (n + m) (xs ++ news) → w.grownBy w' v.ownBlock → wpList P ops Q rest (a.put o.dst v') w') : wpList P ops Q (o :: rest) a w := by
  cases A with
  | none =>
    obtain rfl : c = 0 := hA rfl
    obtain rfl : m = 0 := by
      rcases Nat.eq_zero_or_pos m with h | h
      · exact h
      · obtain ⟨b, o, h, _⟩ := hr.2.2 h; cases h
    obtain rfl : news = [] := List.eq_nil_of_length_eq_zero (by have := hr.1; omega)
    exact wpList_append_own_none hgd s x t ho base e i size ht hi v n xs hs hown hx (h v w (by simpa using hown) (World.grownBy.refl _ _))
  | some ad => exact wpList_append_own _ hgd s x t ho base e i z size bytes ht hi hz hsize hby hzs hsz v n xs hs hown ad m c news hx hr.1 hr.news h1 h63 hbytes hbase fun v' w' h2 h3 _ => h v' w' h2 h3


/-- A literal: its fourteen cells. -/
structure Li where
  k : Int
  a : At
  op : Int
  l : T
  r : T
  o : Int
def Li.cells (x : Li) : List Value := [.int .i64 x.k, .string x.a.p, .slice x.a.A x.a.n x.a.c, .int .i64 x.a.o, .int .i64 x.op, .int .i64 x.l.k, .int .i64 x.l.i, .string x.l.t, .int .i64 x.l.o, .int .i64 x.r.k, .int .i64 x.r.i, .string x.r.t, .int .i64 x.r.o, .int .i64 x.o]
def lcells (l : List Li) : List Value := l.flatMap Li.cells
/-- A clause: its four cells. -/
structure Cl where
  h : At
  A : Option Addr
  n : Nat
  c : Nat
  ls : List Li
def Cl.cells (x : Cl) : List Value := [.string x.h.p, .slice x.h.A x.h.n x.h.c, .int .i64 x.h.o, .slice x.A x.n x.c]
def ccells (l : List Cl) : List Value := l.flatMap Cl.cells

theorem flat_at {α : Type} (f : α → List Value) (s : Nat) (hf : ∀ x, (f x).length = s) (l : List α) (k j : Nat) (hk : k < l.length) (hj : j < s) : (l.flatMap f)[k * s + j]? = (f l[k])[j]? := by
  induction l generalizing k with
  | nil => simp at hk
  | cons e es ih =>
    cases k with
    | zero =>
      simp only [List.flatMap_cons, Nat.zero_mul, Nat.zero_add, List.getElem_cons_zero]
      rw [List.getElem?_append_left (by rw [hf]; exact hj)]
    | succ k =>
      simp only [List.flatMap_cons, List.getElem_cons_succ]
      have e1 : (k + 1) * s + j = s + (k * s + j) := by rw [Nat.succ_mul]; omega
      rw [List.getElem?_append_right (by rw [hf]; omega), hf, e1, Nat.add_sub_cancel_left]
      exact ih k (by simpa using hk)
theorem flat_length {α : Type} (f : α → List Value) (s : Nat) (hf : ∀ x, (f x).length = s) (l : List α) : (l.flatMap f).length = l.length * s := by
  induction l with
  | nil => simp
  | cons e es ih => rw [List.flatMap_cons, List.length_append, hf, ih, List.length_cons, Nat.succ_mul]; omega

theorem Rd.at {α : Type} (f : α → List Value) (s : Nat) (hf : ∀ x, (f x).length = s) {w : World} {B : Nat} {A : Option Addr} {n : Nat} {l : List α} (h : Rd w B s A n (l.flatMap f)) (hs : 0 < s) (k : Nat) (hk : k < n) :
    ∃ b o, ∃ h2 : k < l.length, A = some ⟨b, o, none⟩ ∧ b < B ∧ ∀ j u, j < s → (f l[k])[j]? = some u → w.cell? ⟨b, o + k * s + j, none⟩ = some u := by
  obtain ⟨h1, h2, h3⟩ := h
  obtain ⟨b, o, hA, hb, hc⟩ := h3 (by omega)
  rw [flat_length f s hf] at h1
  have hl : l.length = n := Nat.eq_of_mul_eq_mul_right hs h1
  refine ⟨b, o, by omega, hA, hb, fun j u hj hu => ?_⟩
  rw [Nat.add_assoc]
  exact hc _ _ (by rw [flat_at f s hf l k j (by omega) hj]; exact hu)

theorem lcells_append (a b : List Li) : lcells (a ++ b) = lcells a ++ lcells b := by simp [lcells]
theorem ccells_append (a b : List Cl) : ccells (a ++ b) = ccells a ++ ccells b := by simp [ccells]
theorem lcells_length (l : List Li) : (lcells l).length = l.length * 14 := flat_length Li.cells 14 (fun _ => rfl) l
theorem ccells_length (l : List Cl) : (ccells l).length = l.length * 4 := flat_length Cl.cells 4 (fun _ => rfl) l
theorem Li.one (x : Li) : ∀ u ∈ x.cells, u.oneCell' = true := by
  intro u hu
  simp only [Li.cells, List.mem_cons, List.not_mem_nil, or_false] at hu
  rcases hu with rfl | rfl | rfl | rfl | rfl | rfl | rfl | rfl | rfl | rfl | rfl | rfl | rfl | rfl <;> rfl
theorem Cl.one (x : Cl) : ∀ u ∈ x.cells, u.oneCell' = true := by
  intro u hu
  simp only [Cl.cells, List.mem_cons, List.not_mem_nil, or_false] at hu
  rcases hu with rfl | rfl | rfl | rfl <;> rfl

/-- What stands behind a literal, a clause. -/
def Li.ok (w : World) (x : Li) : Prop := At.ok w x.a
def Cl.ok (w : World) (x : Cl) : Prop := At.ok w x.h ∧ Rd w w.heap.size 14 x.A x.n (lcells x.ls) ∧ x.n * 152 ≤ 140737488351232 ∧ ∀ y ∈ x.ls, Li.ok w y
theorem At.ok.up {w w' : World} {a : At} (h : At.ok w a) (hb : Below w.heap.size w w') : At.ok w' a := ⟨h.1.up hb hb.size, h.2⟩
theorem Cl.ok.up {w w' : World} {x : Cl} (h : Cl.ok w x) (hb : Below w.heap.size w w') : Cl.ok w' x := ⟨h.1.up hb, h.2.1.up hb hb.size, h.2.2.1, fun y hy => At.ok.up (h.2.2.2 y hy) hb⟩

/-- What counts of them: everything but where the lists lie. -/
def At.core (a : At) : ByteArray × Int × List T := (a.p, a.o, a.es)
def Li.core (x : Li) : Int × (ByteArray × Int × List T) × Int × T × T × Int := (x.k, x.a.core, x.op, x.l, x.r, x.o)
def Cl.core (x : Cl) : (ByteArray × Int × List T) × List (Int × (ByteArray × Int × List T) × Int × T × T × Int) := (x.h.core, x.ls.map Li.core)

/-- The predicates that a clause's positive and negated literals ask for. -/
def asksL (ls : List Li) : List ByteArray := (ls.filter fun x => x.k == 1 || x.k == 2).map (·.a.p)
def Cl.asks (c : Cl) : List ByteArray := asksL c.ls
theorem asksL_snoc {ls : List Li} {k : Nat} (hk : k < ls.length) : asksL (ls.take (k + 1)) = asksL (ls.take k) ++ (if (ls[k].k == 1 || ls[k].k == 2) = true then [ls[k].a.p] else []) := by
  unfold asksL
  rw [take_snoc _ _ hk, List.filter_append, List.map_append]
  congr 1
  cases h : (ls[k].k == 1 || ls[k].k == 2) <;> simp only [List.filter_cons, List.filter_nil, h, Bool.false_eq_true, if_false, if_true, List.map_cons, List.map_nil]
theorem asksL_le (ls : List Li) : (asksL ls).length ≤ ls.length := by
  unfold asksL
  rw [List.length_map]; exact List.length_filter_le _ _

inductive Need (cs : List Cl) (goals : List ByteArray) : ByteArray → Prop
  | goal {s : ByteArray} : s ∈ goals → Need cs goals s
  | step {c : Cl} {s : ByteArray} : c ∈ cs → Need cs goals c.h.p → s ∈ c.asks → Need cs goals s

theorem Need.mem {cs : List Cl} {goals S : List ByteArray} (h1 : ∀ g ∈ goals, g ∈ S) (h2 : ∀ c ∈ cs, c.h.p ∈ S → ∀ s ∈ c.asks, s ∈ S) {s : ByteArray} (h : Need cs goals s) : s ∈ S := by
  induction h with
  | goal h => exact h1 _ h
  | step hc _ hs ih => exact h2 _ hc ih _ hs

theorem toList_inj {a b : ByteArray} (h : a.toList = b.toList) : a = b := (bytes_eq (b := a) h).trans (bytes_eq (b := b) rfl).symm
theorem has_iff {l : List ByteArray} {s : ByteArray} : has l s = true ↔ s ∈ l := by
  unfold has
  rw [List.any_eq_true]
  constructor
  · rintro ⟨x, hx, h⟩
    have e : x = s := toList_inj (by simpa using h)
    rw [← e]; exact hx
  · intro h
    exact ⟨s, h, by simp⟩
theorem has_not {l : List ByteArray} {s : ByteArray} (h : s ∉ l) : has l s = false := by
  cases e : has l s
  · rfl
  · exact absurd (has_iff.1 e) h

/-- How many of the asked names are not there yet. -/
def fresh (cs : List Cl) (l : List ByteArray) : Nat := ((cs.flatMap Cl.asks).filter fun s => !has l s).length
def allAsks (cs : List Cl) : Nat := (cs.flatMap Cl.asks).length
theorem fresh_le (cs : List Cl) (l : List ByteArray) : fresh cs l ≤ allAsks cs := List.length_filter_le _ _
theorem filter_lt {α : Type} {p q : α → Bool} : ∀ {l : List α}, (∀ x ∈ l, q x = true → p x = true) → (∃ x ∈ l, p x = true ∧ q x = false) → (l.filter q).length < (l.filter p).length
  | [], _, h => by obtain ⟨x, hx, _⟩ := h; cases hx
  | a :: l, h1, h2 => by
    have hle : ∀ (l : List α), (∀ x ∈ l, q x = true → p x = true) → (l.filter q).length ≤ (l.filter p).length := by
      intro l
      induction l with
      | nil => intro _; exact Nat.le_refl _
      | cons b l ih =>
        intro h
        have := ih fun x hx => h x (List.mem_cons_of_mem _ hx)
        simp only [List.filter_cons]
        cases hq : q b
        · cases hp : p b <;> simp <;> omega
        · rw [h b (by simp) hq]; simpa using this
    rw [List.filter_cons, List.filter_cons]
    obtain ⟨x, hx, hp, hq⟩ := h2
    rcases List.mem_cons.1 hx with rfl | hx
    · rw [hp, hq]
      have := hle l fun y hy => h1 y (List.mem_cons_of_mem _ hy)
      simp; omega
    · have ih := filter_lt (l := l) (fun y hy => h1 y (List.mem_cons_of_mem _ hy)) ⟨x, hx, hp, hq⟩
      cases ha : q a
      · cases hb : p a <;> simp <;> omega
      · rw [h1 a (by simp) ha]; simpa using ih
theorem fresh_push {cs : List Cl} {l : List ByteArray} {c : Cl} {s : ByteArray} (hc : c ∈ cs) (hs : s ∈ c.asks) (hn : s ∉ l) : fresh cs (l ++ [s]) < fresh cs l := by
  unfold fresh
  refine filter_lt (fun x _ hx => ?_) ⟨s, List.mem_flatMap.2 ⟨c, hc, hs⟩, ?_, ?_⟩
  · cases h : has l x
    · rfl
    · have := has_iff.2 (List.mem_append_left [s] (has_iff.1 h))
      rw [this] at hx; cases hx
  · rw [has_not hn]; rfl
  · rw [has_iff.2 (by simp)]; rfl

/-- What the clauses that are not wanted yet still owe. -/
def owed (cs : List Cl) (S : List ByteArray) : Nat := (cs.map fun c => if has S c.h.p = true then 0 else c.asks.length).sum
/-- What the clauses of one head push. -/
def pushes (cs : List Cl) (g : ByteArray) : List ByteArray := (cs.filter fun c => c.h.p.toList == g.toList).flatMap Cl.asks
theorem owed_push {cs : List Cl} {S : List ByteArray} {g : ByteArray} (hg : g ∉ S) : (pushes cs g).length + owed cs (g :: S) = owed cs S := by
  induction cs with
  | nil => rfl
  | cons c cs ih =>
    have e1 : owed (c :: cs) (g :: S) = (if has (g :: S) c.h.p = true then 0 else c.asks.length) + owed cs (g :: S) := by simp [owed]
    have e2 : owed (c :: cs) S = (if has S c.h.p = true then 0 else c.asks.length) + owed cs S := by simp [owed]
    rw [e1, e2]
    by_cases h : c.h.p = g
    · have e3 : pushes (c :: cs) g = c.asks ++ pushes cs g := by simp [pushes, h]
      rw [e3, List.length_append, h, has_iff.2 (by simp : g ∈ g :: S), has_not hg]
      simp; omega
    · have hb : (c.h.p.toList == g.toList) = false := by
        simp only [beq_eq_false_iff_ne]; exact fun e => h (toList_inj e)
      have e3 : pushes (c :: cs) g = pushes cs g := by simp [pushes, hb]
      have e4 : has (g :: S) c.h.p = has S c.h.p := by
        have hb' : (g.toList == c.h.p.toList) = false := by simp only [beq_eq_false_iff_ne]; exact fun e => h (toList_inj e.symm)
        simp [has, hb']
      rw [e3, e4]; omega
theorem owed_nil (cs : List Cl) : owed cs [] = allAsks cs := by
  induction cs with
  | nil => rfl
  | cons c cs ih =>
    have e1 : owed (c :: cs) [] = c.asks.length + owed cs [] := by simp [owed, has]
    have e2 : allAsks (c :: cs) = c.asks.length + allAsks cs := by simp [allAsks]
    rw [e1, e2, ih]
theorem pushes_snoc {cs : List Cl} {k : Nat} (hk : k < cs.length) (g : ByteArray) : pushes (cs.take (k + 1)) g = pushes (cs.take k) g ++ (if (cs[k].h.p.toList == g.toList) = true then cs[k].asks else []) := by
  unfold pushes
  rw [take_snoc _ _ hk, List.filter_append, List.flatMap_append]
  congr 1
  cases h : (cs[k].h.p.toList == g.toList) <;> simp only [List.filter_cons, List.filter_nil, h, Bool.false_eq_true, if_false, if_true, List.flatMap_cons, List.flatMap_nil, List.append_nil]
theorem pushes_le (cs : List Cl) (g : ByteArray) (k : Nat) : (pushes (cs.take k) g).length ≤ (pushes cs g).length := by
  have h : pushes cs g = pushes (cs.take k) g ++ pushes (cs.drop k) g := by
    unfold pushes
    rw [← List.flatMap_append, ← List.filter_append, List.take_append_drop]
  rw [h, List.length_append]; omega
theorem mem_pushes {cs : List Cl} {g s : ByteArray} : s ∈ pushes cs g ↔ ∃ c ∈ cs, c.h.p = g ∧ s ∈ c.asks := by
  unfold pushes
  rw [List.mem_flatMap]
  constructor
  · rintro ⟨c, hc, hs⟩
    rw [List.mem_filter] at hc
    exact ⟨c, hc.1, toList_inj (by simpa using hc.2), hs⟩
  · rintro ⟨c, hc, rfl, hs⟩
    exact ⟨c, List.mem_filter.2 ⟨hc, by simp⟩, hs⟩

/-- The state of the search with a stack: S is done, todo is to come. -/
structure Hunt (cs : List Cl) (goals S todo : List ByteArray) : Prop where
  sound : ∀ s, s ∈ S ∨ s ∈ todo → Need cs goals s
  goals : ∀ g ∈ goals, g ∈ S ∨ g ∈ todo
  closed : ∀ c ∈ cs, c.h.p ∈ S → ∀ s ∈ c.asks, s ∈ S ∨ s ∈ todo
theorem Hunt.start (cs : List Cl) (goals : List ByteArray) : Hunt cs goals [] goals :=
  ⟨fun s h => by rcases h with h | h; cases h; exact .goal h, fun g h => .inr h, fun c _ h => by cases h⟩
theorem Hunt.skip {cs : List Cl} {goals S todo : List ByteArray} {g : ByteArray} (h : Hunt cs goals S (todo ++ [g])) (hg : g ∈ S) : Hunt cs goals S todo := by
  have key : ∀ s, s ∈ S ∨ s ∈ todo ++ [g] → s ∈ S ∨ s ∈ todo := fun s hs => by
    rcases hs with hs | hs
    · exact .inl hs
    · rcases List.mem_append.1 hs with hs | hs
      · exact .inr hs
      · rw [List.mem_singleton.1 hs]; exact .inl hg
  exact ⟨fun s hs => h.sound s (hs.imp id (List.mem_append_left _)), fun x hx => key x (h.goals x hx), fun c hc hp s hs => key s (h.closed c hc hp s hs)⟩
theorem Hunt.take {cs : List Cl} {goals S todo : List ByteArray} {g : ByteArray} (h : Hunt cs goals S (todo ++ [g])) : Hunt cs goals (g :: S) (todo ++ pushes cs g) := by
  have hg : Need cs goals g := h.sound g (.inr (by simp))
  have key : ∀ s, s ∈ S ∨ s ∈ todo ++ [g] → s ∈ g :: S ∨ s ∈ todo ++ pushes cs g := fun s hs => by
    rcases hs with hs | hs
    · exact .inl (List.mem_cons_of_mem _ hs)
    · rcases List.mem_append.1 hs with hs | hs
      · exact .inr (List.mem_append_left _ hs)
      · rw [List.mem_singleton.1 hs]; exact .inl (by simp)
  refine ⟨fun s hs => ?_, fun x hx => key x (h.goals x hx), fun c hc hp s hs => ?_⟩
  · rcases hs with hs | hs
    · rcases List.mem_cons.1 hs with rfl | hs
      · exact hg
      · exact h.sound s (.inl hs)
    · rcases List.mem_append.1 hs with hs | hs
      · exact h.sound s (.inr (List.mem_append_left _ hs))
      · obtain ⟨c, hc, e, hs2⟩ := mem_pushes.1 hs
        exact .step hc (e ▸ hg) hs2
  · rcases List.mem_cons.1 hp with rfl | hp
    · exact .inr (List.mem_append_right _ (mem_pushes.2 ⟨c, hc, rfl, hs⟩))
    · exact key s (h.closed c hc hp s hs)
theorem Hunt.done {cs : List Cl} {goals S : List ByteArray} (h : Hunt cs goals S []) (s : ByteArray) : s ∈ S ↔ Need cs goals s :=
  ⟨fun hs => h.sound s (.inl hs), fun hs => hs.mem (fun g hg => (h.goals g hg).resolve_right (by simp)) (fun c hc hp s hs => (h.closed c hc hp s hs).resolve_right (by simp))⟩

/-- The clauses that stay. -/
noncomputable def keepB (cs : List Cl) (goals : List ByteArray) (c : Cl) : Bool := @decide (Need cs goals c.h.p) (Classical.propDecidable _)
theorem keepB_iff {cs : List Cl} {goals : List ByteArray} {c : Cl} : keepB cs goals c = true ↔ Need cs goals c.h.p := by
  unfold keepB; simp
theorem keep_snoc {cs : List Cl} {k : Nat} (hk : k < cs.length) (p : Cl → Bool) : (cs.take (k + 1)).filter p = (cs.take k).filter p ++ (if p cs[k] = true then [cs[k]] else []) := by
  rw [take_snoc _ _ hk, List.filter_append]
  congr 1
  cases h : p cs[k] <;> simp only [List.filter_cons, List.filter_nil, h, Bool.false_eq_true, if_false, if_true]


theorem own_below {w w' : World} {R size n : Nat} {e : TypeId} {v : Value} {xs : List Value} (h : w.ownsRow R e size v n xs) (hb : Below w.heap.size w w') : w'.ownsRow R e size v n xs := by
  refine ⟨h.1, ?_⟩
  rcases h.2 with h2 | ⟨g, cap, cur, hv, hg, hc, r⟩
  · exact .inl h2
  · exact .inr ⟨g, cap, cur, hv, hg, (hb.block g (Array.getElem?_eq_some_iff.1 hc).1).trans hc, r⟩
theorem own_le {w : World} {R R' size n : Nat} {e : TypeId} {v : Value} {xs : List Value} (h : w.ownsRow R e size v n xs) (hb : R' ≤ R) : w.ownsRow R' e size v n xs := by
  refine ⟨h.1, ?_⟩
  rcases h.2 with h2 | ⟨g, cap, cur, hv, hg, r⟩
  · exact .inl h2
  · exact .inr ⟨g, cap, cur, hv, Nat.le_trans hb hg, r⟩
theorem own_kept_types {w w' : World} {base base' e e' size size' n n' : Nat} {v v' : Value} {xs xs' : List Value} (h : w.ownsRow base e size v n xs) (h' : w.ownsRow base' e' size' v' n' xs') (hne : e ≠ e') (hg : w.grownBy w' v'.ownBlock) : w'.ownsRow base e size v n xs := by
  refine h.kept hg ?_
  rcases h.2 with ⟨rfl, _⟩ | ⟨g, cap, cur, rfl, _, hgg, _⟩
  · exact .inl rfl
  · refine .inr ?_
    have := own_blk_ne h' (g := g) (t := e) (cs := cur.toList) (by unfold Blk; simpa using hgg) hne
    simpa [Value.ownBlock] using this

/-- The last one off a row of one's own. -/
theorem own_pop {w : World} {base e size n : Nat} {A : Option Addr} {c : Nat} {xs ys : List Value} (h : w.ownsRow base e size (.slice A (n + 1) c) (n + 1) (xs ++ ys)) (hl : xs.length = n * size) : w.ownsRow base e size (.slice A n c) n xs := by
  refine ⟨hl, ?_⟩
  rcases h.2 with ⟨_, h0⟩ | ⟨g, cap, cur, hv, hb, hg, hnc, hcm, hcs, ht⟩
  · omega
  · simp only [Value.slice.injEq] at hv
    obtain ⟨rfl, _, rfl⟩ := hv
    refine .inr ⟨g, c, cur, rfl, hb, hg, by omega, hcm, hcs, ?_⟩
    have h2 := congrArg (List.take (n * size)) ht
    rw [List.take_take, Nat.min_eq_left (Nat.mul_le_mul_right _ (Nat.le_succ _)), ← hl, List.take_left] at h2
    rw [← hl]; exact h2

theorem own_none {w : World} {base e size n c : Nat} {xs : List Value} (h : w.ownsRow base e size (.slice none n c) n xs) : c = 0 := by
  rcases h.2 with ⟨h, _⟩ | ⟨g, cap, cur, h, _⟩
  · simp only [Value.slice.injEq] at h; exact h.2.2
  · simp at h
theorem own_rd {w : World} {base e size n c : Nat} {A : Option Addr} {xs : List Value} (h : w.ownsRow base e size (.slice A n c) n xs) : Rd w w.heap.size size A n xs := by
  obtain ⟨h1, h2⟩ := h
  rcases h2 with ⟨hv, rfl⟩ | ⟨g, cap, cur, hv, hb, hg, hnc, hcm, hcs, ht⟩
  · exact ⟨h1, by omega, fun h => absurd h (by omega)⟩
  · simp only [Value.slice.injEq] at hv
    obtain ⟨rfl, _, rfl⟩ := hv
    refine ⟨h1, by unfold maxLen at hcm; omega, fun _ => ⟨g, 0, rfl, (Array.getElem?_eq_some_iff.1 hg).1, fun j u hu => ?_⟩⟩
    rw [Nat.zero_add, cell_of_row w g j cur e (0, 0) hg]
    rw [← ht, List.getElem?_take] at hu
    split at hu
    · simpa using hu
    · cases hu
theorem At.ok.size {w : World} {a : At} (h : At.ok w a) : a.es.length * 40 ≤ 140737488351232 := by
  have hl : a.es.length = a.n := by have := h.1.1; rw [tcells_length] at this; omega
  rw [hl]; exact h.2.2

/-- One clause has the core of another that is whole: then it is whole. -/
theorem core_sizes {w : World} {a : At} {b : At} (h : b.core = a.core) (ha : At.ok w a) : b.es.length * 40 ≤ 140737488351232 := by
  have : b.es = a.es := congrArg (fun p => p.2.2) h
  rw [this]; exact ha.size
theorem two_alloc (w : World) (t1 t2 : TypeId) (c1 c2 : List Value) :
    Below w.heap.size w ((w.alloc (.cells c1.toArray t1)).alloc (.cells c2.toArray t2)) ∧
    Blk ((w.alloc (.cells c1.toArray t1)).alloc (.cells c2.toArray t2)) w.heap.size t1 c1 ∧
    Blk ((w.alloc (.cells c1.toArray t1)).alloc (.cells c2.toArray t2)) (w.heap.size + 1) t2 c2 ∧
    ((w.alloc (.cells c1.toArray t1)).alloc (.cells c2.toArray t2)).heap.size = w.heap.size + 2 := by
  have h1 := Blk.new w t1 c1
  have h2 := Blk.new (w.alloc (.cells c1.toArray t1)) t2 c2
  have e1 : (w.alloc (.cells c1.toArray t1)).heap.size = w.heap.size + 1 := by simp
  rw [e1] at h2
  exact ⟨((Below.refl _ w).alloc (Nat.le_refl _) _).alloc (by omega) _, h1.alloc _, h2, by simp⟩
theorem own_made {w : World} {base e size c : Nat} (z : Array Value) (hb : base ≤ w.heap.size) (hc : c ≤ maxLen) : (w.alloc (.cells (madeCells z (c * size)) e)).ownsRow base e size (.slice (some ⟨w.heap.size, 0, none⟩) 0 c) 0 [] :=
  ⟨by simp, .inr ⟨w.heap.size, c, madeCells z (c * size), rfl, hb, heap_alloc_new w _, Nat.zero_le _, hc, by simp [madeCells], by simp⟩⟩
end Go.Proofs.YtjcgkplphiedjaaDoorT
