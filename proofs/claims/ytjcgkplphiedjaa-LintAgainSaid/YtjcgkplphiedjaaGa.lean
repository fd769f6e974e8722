/- The base of a Lint seat: slices that read, blocks, own rows, terms, atoms, literals, clauses. | The document's copy of a clause. | A region that draws its order: operations that only read (whatever is written beside them does not touch what they read) are taken first, in one order; the few that write come behind them, in the order that their edges force. | The law's copy of a program. -/
import Derived.Test.YtjcgkplphiedjaaRows
import Derived.WalkKit
import Derived.WalkSpells
import Derived.WalkLawsBesides
import Derived.Lib.Hide
import Derived.Lib.QuietBelow
import Derived.Deep.QuietTactic
import Derived.BigQuiet
import Derived.Laws.MakeOwn
import Derived.Laws.IdiomStrings
import Derived.Deep.DeepCutAuto
import Derived.Laws.AppendOwnNone
import Derived.OrdersHeld
namespace Go.Proofs.Ytjcgkplphiedjaa
open Go.RowKit


theorem Try.info9 : (Try.prog.info? 9).map (fun i => (i.zero, i.size, i.bytes)) = some (some (.string ⟨#[]⟩), 1, 16) := by kernel_rfl
theorem Try.info5 : (Try.prog.info? 5).map (fun i => (i.zero, i.size, i.bytes)) = some (some (.int .u8 0), 1, 1) := by kernel_rfl
theorem Try.info33 : (Try.prog.info? 33).map (fun i => (i.zero, i.size, i.bytes)) = some (some (.agg #[.int .i64 0, .int .i64 0, .string ⟨#[]⟩, .int .i64 0]), 4, 40) := by kernel_rfl

/-- A slice value that reads as the cells xs (size cells each element), its memory below block B. -/
def Rd (w : World) (B size : Nat) (A : Option Addr) (n : Nat) (xs : List Value) : Prop :=
  xs.length = n * size ∧ n ≤ 9223372036854775807 ∧ (0 < n → ∃ b o, A = some ⟨b, o, none⟩ ∧ b < B ∧ ∀ j u, xs[j]? = some u → w.cell? ⟨b, o + j, none⟩ = some u)

theorem Rd.below {w w' : World} {B size : Nat} {A : Option Addr} {n : Nat} {xs : List Value} (h : Rd w B size A n xs) (hb : Below B w w') : Rd w' B size A n xs := by
  refine ⟨h.1, h.2.1, fun hn => ?_⟩
  obtain ⟨b, o, hA, hlt, hc⟩ := h.2.2 hn
  exact ⟨b, o, hA, hlt, fun j u hu => (hb.cell (p := ⟨b, o + j, none⟩) hlt).trans (hc j u hu)⟩

theorem take_snoc {α : Type} (l : List α) (k : Nat) (h : k < l.length) : l.take (k + 1) = l.take k ++ [l[k]] := by
  rw [List.take_add_one, List.getElem?_eq_getElem h]; rfl

/-- Names. -/
def scells (l : List ByteArray) : List Value := l.map (.string ·)
theorem scells_length (l : List ByteArray) : (scells l).length = l.length := by simp [scells]
theorem Rd.str {w : World} {B : Nat} {A : Option Addr} {n : Nat} {l : List ByteArray} (h : Rd w B 1 A n (scells l)) (k : Nat) (hk : k < n) :
    ∃ b o, ∃ h2 : k < l.length, A = some ⟨b, o, none⟩ ∧ b < B ∧ w.cell? ⟨b, o + k, none⟩ = some (.string l[k]) := by
  obtain ⟨h1, h2, h3⟩ := h
  obtain ⟨b, o, hA, hb, hc⟩ := h3 (by omega)
  rw [scells_length] at h1
  exact ⟨b, o, by omega, hA, hb, hc k _ (by simp [scells])⟩

/-- Is a name among them? -/
def has (l : List ByteArray) (s : ByteArray) : Bool := l.any fun x => x.toList == s.toList
theorem has_true {l : List ByteArray} {s : ByteArray} (k : Nat) (h : k < l.length) (e : l[k].toList = s.toList) : has l s = true :=
  List.any_eq_true.2 ⟨l[k], List.getElem_mem h, by simpa using e⟩
theorem has_false {l : List ByteArray} {s : ByteArray} (h : ∀ j, (h : j < l.length) → l[j].toList ≠ s.toList) : has l s = false := by
  rw [has, List.any_eq_false]
  intro x hx
  obtain ⟨j, hj, rfl⟩ := List.mem_iff_getElem.1 hx
  simpa using h j hj


structure T where
  k : Int
  i : Int
  t : ByteArray
  o : Int

def T.cells (e : T) : List Value := [.int .i64 e.k, .int .i64 e.i, .string e.t, .int .i64 e.o]
def tcells (es : List T) : List Value := es.flatMap T.cells

theorem tcells_length (es : List T) : (tcells es).length = es.length * 4 := by
  induction es with
  | nil => rfl
  | cons e es ih => simp only [tcells, List.flatMap_cons, List.length_append, List.length_cons] at *; rw [ih]; simp only [T.cells, List.length_cons, List.length_nil]; omega

theorem tcells_append (a b : List T) : tcells (a ++ b) = tcells a ++ tcells b := by simp [tcells]

theorem tcells_at (es : List T) (k j : Nat) (hk : k < es.length) (hj : j < 4) : (tcells es)[k * 4 + j]? = (es[k]).cells[j]? := by
  induction es generalizing k with
  | nil => simp at hk
  | cons e es ih =>
    cases k with
    | zero =>
      simp only [tcells, List.flatMap_cons, Nat.zero_mul, Nat.zero_add, List.getElem_cons_zero]
      rw [List.getElem?_append_left (by simp [T.cells]; omega)]
    | succ k =>
      simp only [tcells, List.flatMap_cons, List.getElem_cons_succ]
      rw [List.getElem?_append_right (by simp [T.cells]; omega)]
      have := ih k (by simpa using hk)
      simp only [tcells] at this
      rw [← this]; congr 1; simp [T.cells]; omega

theorem Rd.term {w : World} {B : Nat} {A : Option Addr} {n : Nat} {es : List T} (h : Rd w B 4 A n (tcells es)) (k : Nat) (hk : k < n) :
    ∃ b o, ∃ h2 : k < es.length, A = some ⟨b, o, none⟩ ∧ b < B ∧ w.cell? ⟨b, o + k * 4, none⟩ = some (.int .i64 es[k].k) ∧ w.cell? ⟨b, o + k * 4 + 1, none⟩ = some (.int .i64 es[k].i)
      ∧ w.cell? ⟨b, o + k * 4 + 2, none⟩ = some (.string es[k].t) ∧ w.cell? ⟨b, o + k * 4 + 3, none⟩ = some (.int .i64 es[k].o) := by
  obtain ⟨h1, h2, h3⟩ := h
  obtain ⟨b, o, hA, hb, hc⟩ := h3 (by omega)
  rw [tcells_length] at h1
  have hk' : k < es.length := by omega
  refine ⟨b, o, hk', hA, hb, ?_, ?_, ?_, ?_⟩
  · exact hc (k * 4 + 0) _ (by rw [tcells_at es k 0 hk' (by omega)]; rfl)
  · exact hc (k * 4 + 1) _ (by rw [tcells_at es k 1 hk' (by omega)]; rfl)
  · exact hc (k * 4 + 2) _ (by rw [tcells_at es k 2 hk' (by omega)]; rfl)
  · exact hc (k * 4 + 3) _ (by rw [tcells_at es k 3 hk' (by omega)]; rfl)

/-- An atom, as a value. -/
theorem toList_append (a b : ByteArray) : (a ++ b).toList = a.toList ++ b.toList := by
  rw [ByteArray.toList_eq, ByteArray.toList_eq, ByteArray.toList_eq, ByteArray.data_append, Array.toList_append]
theorem toList_size (a : ByteArray) : a.size = a.toList.length := by
  rw [ByteArray.toList_eq, Array.length_toList]; rfl

/-- A block that is known whole. -/
def Blk (w : World) (g : Nat) (t : TypeId) (cs : List Value) : Prop := w.heap[g]? = some (.cells cs.toArray t (0, 0))

section
variable {w w' : World} {g : Nat} {t : TypeId} {cs : List Value}
theorem Blk.lt (h : Blk w g t cs) : g < w.heap.size := by
  rcases Nat.lt_or_ge g w.heap.size with hlt | hge
  · exact hlt
  · unfold Blk at h; rw [Array.getElem?_eq_none hge] at h; cases h
theorem Blk.cell (h : Blk w g t cs) (i : Nat) : w.cell? ⟨g, i, none⟩ = cs[i]? := by
  rw [cell_of_row w g i cs.toArray t (0, 0) h]; simp
theorem Blk.frozen (h : Blk w g t cs) (i : Nat) : w.frozen? ⟨g, i, none⟩ = false := by
  unfold Blk at h
  simp [World.frozen?, h]
theorem Blk.new (w : World) (t : TypeId) (cs : List Value) : Blk (w.alloc (.cells cs.toArray t)) w.heap.size t cs := heap_alloc_new w _
theorem Blk.drewN (h : Blk w g t cs) (n : Nat) : Blk (w.drewN n) g t cs := h
theorem Blk.drew (h : Blk w g t cs) : Blk w.drew g t cs := h
theorem Blk.alloc (h : Blk w g t cs) (o : Obj) : Blk (w.alloc o) g t cs := (Below.heap_alloc w o g h.lt).trans h
theorem Blk.set_ (h : Blk w g t cs) (i : Nat) (u : Value) : Blk (w.setCell ⟨g, i, none⟩ u) g t (cs.set i u) := by
  unfold Blk at h ⊢
  simp [World.setCell, Array.getElem?_modify, h]
theorem Blk.far (h : Blk w g t cs) {p : Addr} (hp : g ≠ p.block) (u : Value) : Blk (w.setCell p u) g t cs := (Below.heap_setCell w p u g hp).trans h
theorem Blk.below {B : Nat} (h : Blk w g t cs) (hb : Below B w w') (hg : g < B) : Blk w' g t cs := (hb.block g hg).trans h
theorem Blk.grown {row : Option Nat} (h : Blk w g t cs) (hb : w.grownBy w' row) (hg : some g ≠ row) : Blk w' g t cs := (hb.block g h.lt hg).trans h
end

theorem run_make_rowN {P : Program} (t e : TypeId) (i : TypeInfo) (z : Value) (ht : P.underlying t = some (.slice e)) (hi : P.info? e = some i) (hz : i.zero = some z)
    (kl kc : IntKind) (n c : Nat) (hnc : n ≤ c) (hbytes : i.bytes * c ≤ 281474976710656) (h63 : c ≤ 9223372036854775807) (w : World) :
    (Instr.makeSlice t (.int kl (n : Int)) (.int kc (c : Int))).run P w = .ok (.slice (some ⟨w.heap.size, 0, none⟩) n c) (w.alloc (.cells (madeCells z.cells (c * i.size)) e)) := by
  have hb : (i.bytes : Int) * (c : Int) ≤ 281474976710656 := by
    have h : ((i.bytes * c : Nat) : Int) ≤ 281474976710656 := by omega
    rwa [Int.natCast_mul] at h
  have hr := run_make (P := P) w t e i z ht hi hz kl kc n c (by omega) (by omega) hb (by omega)
  simp only [Int.toNat_natCast] at hr
  exact hr

theorem made_one (z : Value) (hz : z.cells = #[z]) (n : Nat) : madeCells z.cells (n * 1) = (List.replicate n z).toArray := by
  apply Array.ext_getElem?
  intro i
  rw [hz]
  simp only [madeCells, Nat.mul_one, Array.getElem?_map, Array.getElem?_range, List.getElem?_toArray, List.getElem?_replicate]
  split <;> simp [Nat.mod_one]


theorem add_plain' (b j : Nat) : (⟨b, 0, none⟩ : Addr).add j = ⟨b, j, none⟩ := by unfold Addr.add; split <;> simp_all


theorem own_blk_ne {w : World} {base e size n g : Nat} {t : TypeId} {cs : List Value} {v : Value} {xs : List Value} (h : w.ownsRow base e size v n xs) (hg : Blk w g t cs) (hne : t ≠ e) : some g ≠ v.ownBlock := by
  rcases h.2 with ⟨rfl, _⟩ | ⟨g', cap, cur, rfl, _, hh, _⟩
  · simp [Value.ownBlock]
  · intro he
    simp only [Value.ownBlock, Option.some.injEq] at he
    subst he
    unfold Blk at hg
    rw [hh] at hg
    injection hg with hg
    injection hg with _ ht
    exact hne ht.symm
theorem eqIn33 (k i o : Int) (t : ByteArray) (w : World) :
    (Op.equalIn 10000 33 (.agg #[.int .i64 k, .int .i64 i, .string t, .int .i64 o]) (.agg #[.int .i64 k, .int .i64 i, .string t, .int .i64 o])).run Try.prog w = .ok true w := by
  rw [run_equalIn_struct (P := Try.prog) w 9999 33 _ _ (by kernel_rfl) (by kernel_rfl)]
  have h1 : ∃ a b c d : Field, (Try.prog.fieldsOf 33).toList = [a, b, c, d] ∧ a.name ≠ "_" ∧ b.name ≠ "_" ∧ c.name ≠ "_" ∧ d.name ≠ "_" ∧ a.type = 3 ∧ b.type = 2 ∧ c.type = 9 ∧ d.type = 3 ∧ a.offset = 0 ∧ b.offset = 1 ∧ c.offset = 2 ∧ d.offset = 3 := by
    simp only [Program.fieldsOf, Try.underlying33]
    exact ⟨_, _, _, _, rfl, by decide, by decide, by decide, by decide, rfl, rfl, rfl, rfl, rfl, rfl, rfl, rfl⟩
  obtain ⟨a, b, c, d, hl, n1, n2, n3, n4, t1, t2, t3, t4, o1, o2, o3, o4⟩ := h1
  rw [hl]
  simp only [Op.eqFields, t1, t2, t3, t4, o1, o2, o3, o4]
  go_simp
  repeat' split
  all_goals simp_all

@[simp] theorem run_neq33 (k i o : Int) (t : ByteArray) (w : World) :
    (binOp .neq 33 (.agg #[.int .i64 k, .int .i64 i, .string t, .int .i64 o]) (.agg #[.int .i64 k, .int .i64 i, .string t, .int .i64 o])).run Try.prog w = .ok (.bool false) w := by
  rw [run_neq_struct, eqIn33]; rfl


theorem own_slice {w : World} {base e size n : Nat} {v : Value} {xs : List Value} (h : w.ownsRow base e size v n xs) :
    ∃ A c, v = .slice A n c ∧ n ≤ 9223372036854775807 := by
  obtain ⟨h1, h2⟩ := h
  rcases h2 with ⟨rfl, rfl⟩ | ⟨g, cap, cur, rfl, hb, hg, hnc, hcm, hcs, ht⟩
  · exact ⟨none, 0, rfl, by omega⟩
  · exact ⟨_, _, rfl, by unfold maxLen at hcm; omega⟩

theorem own_empty {w : World} {base e size : Nat} (hb : base ≤ w.heap.size) : (w.alloc (.cells #[] e)).ownsRow base e size (.slice (some ⟨w.heap.size, 0, none⟩) 0 0) 0 [] :=
  ⟨by simp, .inr ⟨w.heap.size, 0, #[], rfl, hb, heap_alloc_new w _, Nat.le_refl _, by unfold maxLen; omega, by simp, by simp⟩⟩

theorem new_cells (w : World) (cs : Array Value) (T : TypeId) (j : Nat) (u : Value) (h : cs.toList[j]? = some u) :
    (w.alloc (.cells cs T)).cell? ((⟨w.heap.size, 0, none⟩ : Addr).add j) = some u := by
  have hadd : (⟨w.heap.size, 0, none⟩ : Addr).add j = ⟨w.heap.size, j, none⟩ := by unfold Addr.add; split <;> simp_all
  rw [hadd, cell_of_row _ w.heap.size j cs T (0, 0) (heap_alloc_new w _)]
  simpa using h

theorem Rd.news {w : World} {B size : Nat} {ad : Addr} {n : Nat} {xs : List Value} (h : Rd w B size (some ad) n xs) : ∀ j u, xs[j]? = some u → w.cell? (ad.add j) = some u := by
  intro j u hu
  have hj := (List.getElem?_eq_some_iff.1 hu).1
  have hn : 0 < n := by
    rcases Nat.eq_zero_or_pos n with e | e
    · rw [h.1, e] at hj; omega
    · exact e
  obtain ⟨b, o, e, _, hc⟩ := h.2.2 hn
  injection e with e
  subst e
  have hadd : (⟨b, o, none⟩ : Addr).add j = ⟨b, o + j, none⟩ := by unfold Addr.add; split <;> simp_all
  rw [hadd]; exact hc j u hu

theorem own_setCell_blk {w : World} {base e size n g : Nat} {t : TypeId} {cs : List Value} {v : Value} {xs : List Value} (h : w.ownsRow base e size v n xs) (hg : Blk w g t cs) (hne : t ≠ e) (i : Nat) (u : Value) :
    (w.setCell ⟨g, i, none⟩ u).ownsRow base e size v n xs := by
  have hb := own_blk_ne h hg hne
  refine ⟨h.1, ?_⟩
  rcases h.2 with h2 | ⟨g', cap, cur, rfl, hl, hh, r⟩
  · exact .inl h2
  · refine .inr ⟨g', cap, cur, rfl, hl, ?_, r⟩
    rw [Below.heap_setCell _ _ _ _ (fun e => hb (by simp [Value.ownBlock, e]))]
    exact hh

theorem own_blk {w : World} {base e size n : Nat} {v : Value} {xs : List Value} (h : w.ownsRow base e size v n xs) (hn : 0 < n) :
    ∃ g cap cur, v = .slice (some ⟨g, 0, none⟩) n cap ∧ base ≤ g ∧ Blk w g e cur ∧ n ≤ cap ∧ cap ≤ maxLen ∧ cur.length = cap * size ∧ cur.take (n * size) = xs := by
  rcases h.2 with ⟨_, h0⟩ | ⟨g, cap, cur, hv, hb, hg, hnc, hcm, hcs, ht⟩
  · omega
  · exact ⟨g, cap, cur.toList, hv, hb, by unfold Blk; simpa using hg, hnc, hcm, by simpa using hcs, ht⟩
theorem term_one (e : T) : ∀ u ∈ e.cells, u.oneCell' = true := by
  intro u hu
  simp only [T.cells, List.mem_cons, List.not_mem_nil, or_false] at hu
  rcases hu with rfl | rfl | rfl | rfl <;> rfl
theorem terms_one (es : List T) : ∀ u ∈ tcells es, u.oneCell' = true := by
  intro u hu
  obtain ⟨e, he, hu⟩ := List.mem_flatMap.1 hu
  exact term_one e u hu

/-- The mark behind the terms. -/
def mark : T := ⟨77, 0, ⟨#[]⟩, 0⟩

set_option maxRecDepth 20000 in


theorem bytes_eq {b : ByteArray} {l : List UInt8} (h : b.toList = l) : b = ⟨l.toArray⟩ := by
  obtain ⟨d⟩ := b
  rw [ByteArray.toList_eq] at h
  subst h
  simp

theorem Rd.up {w w' : World} {B B' size n : Nat} {A : Option Addr} {xs : List Value} (h : Rd w B size A n xs) (hb : Below B w w') (hB : B ≤ B') : Rd w' B' size A n xs := by
  have h := h.below hb
  exact ⟨h.1, h.2.1, fun hn => by obtain ⟨b, o, h1, h2, h3⟩ := h.2.2 hn; exact ⟨b, o, h1, by omega, h3⟩⟩

theorem own_pre {w : World} {base e size n g cap : Nat} {xs ys : List Value} (h : w.ownsRow base e size (.slice (some ⟨g, 0, none⟩) (n + 1) cap) (n + 1) (xs ++ ys)) (hl : xs.length = n * size) :
    Rd w w.heap.size size (some ⟨g, 0, none⟩) n xs ∧ (∀ j u, ys[j]? = some u → w.cell? ⟨g, n * size + j, none⟩ = some u) ∧ n + 1 ≤ cap ∧ cap ≤ 9223372036854775807 ∧ g < w.heap.size ∧ base ≤ g := by
  obtain ⟨g', cap', cur, hv, hb, hg, hnc, hcm, hcs, ht⟩ := own_blk h (by omega)
  injection hv with hv1 _ hv3
  injection hv1 with hv1
  injection hv1 with hv1
  subst hv1 hv3
  unfold maxLen at hcm
  have hat : ∀ (j : Nat) (u : Value), (xs ++ ys)[j]? = some u → w.cell? ⟨g, j, none⟩ = some u := by
    intro j u hu
    rw [← ht, List.getElem?_take] at hu
    split at hu
    · exact (hg.cell j).trans hu
    · cases hu
  refine ⟨⟨hl, by omega, fun _ => ⟨g, 0, rfl, hg.lt, fun j u hu => ?_⟩⟩, fun j u hu => ?_, hnc, hcm, hg.lt, hb⟩
  · rw [Nat.zero_add]
    exact hat j u (by rw [List.getElem?_append_left (List.getElem?_eq_some_iff.1 hu).1]; exact hu)
  · exact hat _ u (by rw [List.getElem?_append_right (by omega), hl, Nat.add_sub_cancel_left]; exact hu)

theorem Rd_new (w : World) (cs : Array Value) (T : TypeId) (size n : Nat) (h : cs.size = n * size) (hn : n ≤ 9223372036854775807) : Rd (w.alloc (.cells cs T)) (w.alloc (.cells cs T)).heap.size size (some ⟨w.heap.size, 0, none⟩) n cs.toList := by
  refine ⟨by simpa using h, hn, fun _ => ⟨w.heap.size, 0, rfl, by simp, fun j u hu => ?_⟩⟩
  have h := new_cells w cs T j u hu
  have hadd : (⟨w.heap.size, 0, none⟩ : Addr).add j = ⟨w.heap.size, j, none⟩ := by unfold Addr.add; split <;> simp_all
  rw [hadd] at h
  rw [Nat.zero_add]; exact h

structure At where
  p : ByteArray
  A : Option Addr
  n : Nat
  c : Nat
  o : Int
  es : List T
def At.cells (a : At) : List Value := [.string a.p, .slice a.A a.n a.c, .int .i64 a.o]
def acells (l : List At) : List Value := l.flatMap At.cells
/-- What stands behind an atom. -/
def At.ok (w : World) (a : At) : Prop := Rd w w.heap.size 4 a.A a.n (tcells a.es) ∧ (a.A = none → a.c = 0) ∧ a.n * 40 ≤ 140737488351232

theorem acells_length (es : List At) : (acells es).length = es.length * 3 := by
  induction es with
  | nil => rfl
  | cons e es ih => simp only [acells, List.flatMap_cons, List.length_append, List.length_cons] at *; rw [ih]; simp only [At.cells, List.length_cons, List.length_nil]; omega

theorem acells_at (es : List At) (k j : Nat) (hk : k < es.length) (hj : j < 3) : (acells es)[k * 3 + j]? = (es[k]).cells[j]? := by
  induction es generalizing k with
  | nil => simp at hk
  | cons e es ih =>
    cases k with
    | zero =>
      simp only [acells, List.flatMap_cons, Nat.zero_mul, Nat.zero_add, List.getElem_cons_zero]
      rw [List.getElem?_append_left (by simp [At.cells]; omega)]
    | succ k =>
      simp only [acells, List.flatMap_cons, List.getElem_cons_succ]
      rw [List.getElem?_append_right (by simp [At.cells]; omega)]
      have := ih k (by simpa using hk)
      simp only [acells] at this
      rw [← this]; congr 1; simp [At.cells]; omega

theorem Rd.atom {w : World} {B : Nat} {A : Option Addr} {n : Nat} {es : List At} (h : Rd w B 3 A n (acells es)) (k : Nat) (hk : k < n) :
    ∃ b o, ∃ h2 : k < es.length, A = some ⟨b, o, none⟩ ∧ b < B ∧ w.cell? ⟨b, o + k * 3, none⟩ = some (.string es[k].p) ∧ w.cell? ⟨b, o + k * 3 + 1, none⟩ = some (.slice es[k].A es[k].n es[k].c) ∧ w.cell? ⟨b, o + k * 3 + 2, none⟩ = some (.int .i64 es[k].o) := by
  obtain ⟨h1, h2, h3⟩ := h
  obtain ⟨b, o, hA, hb, hc⟩ := h3 (by omega)
  rw [acells_length] at h1
  have hk' : k < es.length := by omega
  refine ⟨b, o, hk', hA, hb, ?_, ?_, ?_⟩
  · exact hc (k * 3 + 0) _ (by rw [acells_at es k 0 hk' (by omega)]; rfl)
  · exact hc (k * 3 + 1) _ (by rw [acells_at es k 1 hk' (by omega)]; rfl)
  · exact hc (k * 3 + 2) _ (by rw [acells_at es k 2 hk' (by omega)]; rfl)

theorem str_one (s : ByteArray) : ∀ u ∈ [Value.string s], u.oneCell' = true := by
  intro u hu
  simp only [List.mem_cons, List.not_mem_nil, or_false] at hu
  subst hu; rfl
theorem strs_one (l : List ByteArray) : ∀ u ∈ scells l, u.oneCell' = true := by
  intro u hu
  obtain ⟨s, _, rfl⟩ := List.mem_map.1 hu
  rfl
theorem wpList_append_all {P : Program} {w : World} {ops : Array Oper} {rest : List Oper} {o : Oper} {a : Act} {Q : Exit → Act → World → Prop} (hgd : o.guard = none) (s x : Operand) (t : TypeId)
    (ho : o.op = .call { callee := .builtin .append, args := #[s, x], argTypes := #[t, t] })
    (base : Nat) (e : TypeId) (i : TypeInfo) (z : Value) (size bytes : Nat) (ht : P.underlying t = some (.slice e)) (hi : P.info? e = some i) (hz : i.zero = some z)
    (hsize : i.size = size) (hby : i.bytes = bytes) (hzs : z.cells.size = size) (hsz : 0 < size)
    (v : Value) (n : Nat) (xs : List Value) (hs : a.eval s = v) (hown : w.ownsRow base e size v n xs)
    (A : Option Addr) (m c : Nat) (news : List Value) (hx : a.eval x = .slice A m c) (hA : A = none → c = 0) (hr : Rd w w.heap.size size A m news) (h1 : ∀ u ∈ news, u.oneCell' = true)
    (h63 : n + m ≤ maxLen) (hbytes : (n + m) * bytes ≤ 140737488355328) (hbase : base ≤ w.heap.size)
    (h : ∀ v' w', w'.ownsRow base e size v' (n + m) (xs ++ news) → w.grownBy w' v.ownBlock → wpList P ops Q rest (a.put o.dst v') w') : wpList P ops Q (o :: rest) a w := by
  cases A with
  | none =>
    obtain rfl : c = 0 := hA rfl
    obtain rfl : m = 0 := by
      rcases Nat.eq_zero_or_pos m with h | h
      · exact h
      · obtain ⟨b, o, h, _⟩ := hr.2.2 h; cases h
    obtain rfl : news = [] := List.eq_nil_of_length_eq_zero (by have := hr.1; omega)
    exact wpList_append_own_none hgd s x t ho base e i size ht hi v n xs hs hown hx (h v w (by simpa using hown) (World.grownBy.refl _ _))
  | some ad => exact wpList_append_own _ hgd s x t ho base e i z size bytes ht hi hz hsize hby hzs hsz v n xs hs hown ad m c news hx hr.1 hr.news h1 h63 hbytes hbase fun v' w' h2 h3 _ => h v' w' h2 h3


/-- A literal: its fourteen cells. -/
structure Li where
  k : Int
  a : At
  op : Int
  l : T
  r : T
  o : Int
def Li.cells (x : Li) : List Value := [.int .i64 x.k, .string x.a.p, .slice x.a.A x.a.n x.a.c, .int .i64 x.a.o, .int .i64 x.op, .int .i64 x.l.k, .int .i64 x.l.i, .string x.l.t, .int .i64 x.l.o, .int .i64 x.r.k, .int .i64 x.r.i, .string x.r.t, .int .i64 x.r.o, .int .i64 x.o]
def lcells (l : List Li) : List Value := l.flatMap Li.cells
/-- A clause: its four cells. -/
structure Cl where
  h : At
  A : Option Addr
  n : Nat
  c : Nat
  ls : List Li
def Cl.cells (x : Cl) : List Value := [.string x.h.p, .slice x.h.A x.h.n x.h.c, .int .i64 x.h.o, .slice x.A x.n x.c]
def ccells (l : List Cl) : List Value := l.flatMap Cl.cells

theorem flat_at {α : Type} (f : α → List Value) (s : Nat) (hf : ∀ x, (f x).length = s) (l : List α) (k j : Nat) (hk : k < l.length) (hj : j < s) : (l.flatMap f)[k * s + j]? = (f l[k])[j]? := by
  induction l generalizing k with
  | nil => simp at hk
  | cons e es ih =>
    cases k with
    | zero =>
      simp only [List.flatMap_cons, Nat.zero_mul, Nat.zero_add, List.getElem_cons_zero]
      rw [List.getElem?_append_left (by rw [hf]; exact hj)]
    | succ k =>
      simp only [List.flatMap_cons, List.getElem_cons_succ]
      have e1 : (k + 1) * s + j = s + (k * s + j) := by rw [Nat.succ_mul]; omega
      rw [List.getElem?_append_right (by rw [hf]; omega), hf, e1, Nat.add_sub_cancel_left]
      exact ih k (by simpa using hk)
theorem flat_length {α : Type} (f : α → List Value) (s : Nat) (hf : ∀ x, (f x).length = s) (l : List α) : (l.flatMap f).length = l.length * s := by
  induction l with
  | nil => simp
  | cons e es ih => rw [List.flatMap_cons, List.length_append, hf, ih, List.length_cons, Nat.succ_mul]; omega

theorem Rd.at {α : Type} (f : α → List Value) (s : Nat) (hf : ∀ x, (f x).length = s) {w : World} {B : Nat} {A : Option Addr} {n : Nat} {l : List α} (h : Rd w B s A n (l.flatMap f)) (hs : 0 < s) (k : Nat) (hk : k < n) :
    ∃ b o, ∃ h2 : k < l.length, A = some ⟨b, o, none⟩ ∧ b < B ∧ ∀ j u, j < s → (f l[k])[j]? = some u → w.cell? ⟨b, o + k * s + j, none⟩ = some u := by
  obtain ⟨h1, h2, h3⟩ := h
  obtain ⟨b, o, hA, hb, hc⟩ := h3 (by omega)
  rw [flat_length f s hf] at h1
  have hl : l.length = n := Nat.eq_of_mul_eq_mul_right hs h1
  refine ⟨b, o, by omega, hA, hb, fun j u hj hu => ?_⟩
  rw [Nat.add_assoc]
  exact hc _ _ (by rw [flat_at f s hf l k j (by omega) hj]; exact hu)

theorem lcells_append (a b : List Li) : lcells (a ++ b) = lcells a ++ lcells b := by simp [lcells]
theorem ccells_append (a b : List Cl) : ccells (a ++ b) = ccells a ++ ccells b := by simp [ccells]
theorem lcells_length (l : List Li) : (lcells l).length = l.length * 14 := flat_length Li.cells 14 (fun _ => rfl) l
theorem ccells_length (l : List Cl) : (ccells l).length = l.length * 4 := flat_length Cl.cells 4 (fun _ => rfl) l
theorem Li.one (x : Li) : ∀ u ∈ x.cells, u.oneCell' = true := by
  intro u hu
  simp only [Li.cells, List.mem_cons, List.not_mem_nil, or_false] at hu
  rcases hu with rfl | rfl | rfl | rfl | rfl | rfl | rfl | rfl | rfl | rfl | rfl | rfl | rfl | rfl <;> rfl
theorem Cl.one (x : Cl) : ∀ u ∈ x.cells, u.oneCell' = true := by
  intro u hu
  simp only [Cl.cells, List.mem_cons, List.not_mem_nil, or_false] at hu
  rcases hu with rfl | rfl | rfl | rfl <;> rfl

/-- What stands behind a literal, a clause. -/
def Li.ok (w : World) (x : Li) : Prop := At.ok w x.a
def Cl.ok (w : World) (x : Cl) : Prop := At.ok w x.h ∧ Rd w w.heap.size 14 x.A x.n (lcells x.ls) ∧ x.n * 152 ≤ 140737488351232 ∧ ∀ y ∈ x.ls, Li.ok w y
theorem At.ok.up {w w' : World} {a : At} (h : At.ok w a) (hb : Below w.heap.size w w') : At.ok w' a := ⟨h.1.up hb hb.size, h.2⟩
theorem Cl.ok.up {w w' : World} {x : Cl} (h : Cl.ok w x) (hb : Below w.heap.size w w') : Cl.ok w' x := ⟨h.1.up hb, h.2.1.up hb hb.size, h.2.2.1, fun y hy => At.ok.up (h.2.2.2 y hy) hb⟩

/-- What counts of them: everything but where the lists lie. -/
def At.core (a : At) : ByteArray × Int × List T := (a.p, a.o, a.es)
def Li.core (x : Li) : Int × (ByteArray × Int × List T) × Int × T × T × Int := (x.k, x.a.core, x.op, x.l, x.r, x.o)
def Cl.core (x : Cl) : (ByteArray × Int × List T) × List (Int × (ByteArray × Int × List T) × Int × T × T × Int) := (x.h.core, x.ls.map Li.core)

/-- The predicates that a clause's positive and negated literals ask for. -/
def asksL (ls : List Li) : List ByteArray := (ls.filter fun x => x.k == 1 || x.k == 2).map (·.a.p)
def Cl.asks (c : Cl) : List ByteArray := asksL c.ls
theorem asksL_snoc {ls : List Li} {k : Nat} (hk : k < ls.length) : asksL (ls.take (k + 1)) = asksL (ls.take k) ++ (if (ls[k].k == 1 || ls[k].k == 2) = true then [ls[k].a.p] else []) := by
  unfold asksL
  rw [take_snoc _ _ hk, List.filter_append, List.map_append]
  congr 1
  cases h : (ls[k].k == 1 || ls[k].k == 2) <;> simp only [List.filter_cons, List.filter_nil, h, Bool.false_eq_true, if_false, if_true, List.map_cons, List.map_nil]
theorem asksL_le (ls : List Li) : (asksL ls).length ≤ ls.length := by
  unfold asksL
  rw [List.length_map]; exact List.length_filter_le _ _

inductive Need (cs : List Cl) (goals : List ByteArray) : ByteArray → Prop
  | goal {s : ByteArray} : s ∈ goals → Need cs goals s
  | step {c : Cl} {s : ByteArray} : c ∈ cs → Need cs goals c.h.p → s ∈ c.asks → Need cs goals s

theorem Need.mem {cs : List Cl} {goals S : List ByteArray} (h1 : ∀ g ∈ goals, g ∈ S) (h2 : ∀ c ∈ cs, c.h.p ∈ S → ∀ s ∈ c.asks, s ∈ S) {s : ByteArray} (h : Need cs goals s) : s ∈ S := by
  induction h with
  | goal h => exact h1 _ h
  | step hc _ hs ih => exact h2 _ hc ih _ hs

theorem toList_inj {a b : ByteArray} (h : a.toList = b.toList) : a = b := (bytes_eq (b := a) h).trans (bytes_eq (b := b) rfl).symm
theorem has_iff {l : List ByteArray} {s : ByteArray} : has l s = true ↔ s ∈ l := by
  unfold has
  rw [List.any_eq_true]
  constructor
  · rintro ⟨x, hx, h⟩
    have e : x = s := toList_inj (by simpa using h)
    rw [← e]; exact hx
  · intro h
    exact ⟨s, h, by simp⟩
theorem has_not {l : List ByteArray} {s : ByteArray} (h : s ∉ l) : has l s = false := by
  cases e : has l s
  · rfl
  · exact absurd (has_iff.1 e) h

/-- How many of the asked names are not there yet. -/
def fresh (cs : List Cl) (l : List ByteArray) : Nat := ((cs.flatMap Cl.asks).filter fun s => !has l s).length
def allAsks (cs : List Cl) : Nat := (cs.flatMap Cl.asks).length
theorem fresh_le (cs : List Cl) (l : List ByteArray) : fresh cs l ≤ allAsks cs := List.length_filter_le _ _
theorem filter_lt {α : Type} {p q : α → Bool} : ∀ {l : List α}, (∀ x ∈ l, q x = true → p x = true) → (∃ x ∈ l, p x = true ∧ q x = false) → (l.filter q).length < (l.filter p).length
  | [], _, h => by obtain ⟨x, hx, _⟩ := h; cases hx
  | a :: l, h1, h2 => by
    have hle : ∀ (l : List α), (∀ x ∈ l, q x = true → p x = true) → (l.filter q).length ≤ (l.filter p).length := by
      intro l
      induction l with
      | nil => intro _; exact Nat.le_refl _
      | cons b l ih =>
        intro h
        have := ih fun x hx => h x (List.mem_cons_of_mem _ hx)
        simp only [List.filter_cons]
        cases hq : q b
        · cases hp : p b <;> simp <;> omega
        · rw [h b (by simp) hq]; simpa using this
    rw [List.filter_cons, List.filter_cons]
    obtain ⟨x, hx, hp, hq⟩ := h2
    rcases List.mem_cons.1 hx with rfl | hx
    · rw [hp, hq]
      have := hle l fun y hy => h1 y (List.mem_cons_of_mem _ hy)
      simp; omega
    · have ih := filter_lt (l := l) (fun y hy => h1 y (List.mem_cons_of_mem _ hy)) ⟨x, hx, hp, hq⟩
      cases ha : q a
      · cases hb : p a <;> simp <;> omega
      · rw [h1 a (by simp) ha]; simpa using ih
theorem fresh_push {cs : List Cl} {l : List ByteArray} {c : Cl} {s : ByteArray} (hc : c ∈ cs) (hs : s ∈ c.asks) (hn : s ∉ l) : fresh cs (l ++ [s]) < fresh cs l := by
  unfold fresh
  refine filter_lt (fun x _ hx => ?_) ⟨s, List.mem_flatMap.2 ⟨c, hc, hs⟩, ?_, ?_⟩
  · cases h : has l x
    · rfl
    · have := has_iff.2 (List.mem_append_left [s] (has_iff.1 h))
      rw [this] at hx; cases hx
  · rw [has_not hn]; rfl
  · rw [has_iff.2 (by simp)]; rfl

/-- What the clauses that are not wanted yet still owe. -/
def owed (cs : List Cl) (S : List ByteArray) : Nat := (cs.map fun c => if has S c.h.p = true then 0 else c.asks.length).sum
/-- What the clauses of one head push. -/
def pushes (cs : List Cl) (g : ByteArray) : List ByteArray := (cs.filter fun c => c.h.p.toList == g.toList).flatMap Cl.asks
theorem owed_push {cs : List Cl} {S : List ByteArray} {g : ByteArray} (hg : g ∉ S) : (pushes cs g).length + owed cs (g :: S) = owed cs S := by
  induction cs with
  | nil => rfl
  | cons c cs ih =>
    have e1 : owed (c :: cs) (g :: S) = (if has (g :: S) c.h.p = true then 0 else c.asks.length) + owed cs (g :: S) := by simp [owed]
    have e2 : owed (c :: cs) S = (if has S c.h.p = true then 0 else c.asks.length) + owed cs S := by simp [owed]
    rw [e1, e2]
    by_cases h : c.h.p = g
    · have e3 : pushes (c :: cs) g = c.asks ++ pushes cs g := by simp [pushes, h]
      rw [e3, List.length_append, h, has_iff.2 (by simp : g ∈ g :: S), has_not hg]
      simp; omega
    · have hb : (c.h.p.toList == g.toList) = false := by
        simp only [beq_eq_false_iff_ne]; exact fun e => h (toList_inj e)
      have e3 : pushes (c :: cs) g = pushes cs g := by simp [pushes, hb]
      have e4 : has (g :: S) c.h.p = has S c.h.p := by
        have hb' : (g.toList == c.h.p.toList) = false := by simp only [beq_eq_false_iff_ne]; exact fun e => h (toList_inj e.symm)
        simp [has, hb']
      rw [e3, e4]; omega
theorem owed_nil (cs : List Cl) : owed cs [] = allAsks cs := by
  induction cs with
  | nil => rfl
  | cons c cs ih =>
    have e1 : owed (c :: cs) [] = c.asks.length + owed cs [] := by simp [owed, has]
    have e2 : allAsks (c :: cs) = c.asks.length + allAsks cs := by simp [allAsks]
    rw [e1, e2, ih]
theorem pushes_snoc {cs : List Cl} {k : Nat} (hk : k < cs.length) (g : ByteArray) : pushes (cs.take (k + 1)) g = pushes (cs.take k) g ++ (if (cs[k].h.p.toList == g.toList) = true then cs[k].asks else []) := by
  unfold pushes
  rw [take_snoc _ _ hk, List.filter_append, List.flatMap_append]
  congr 1
  cases h : (cs[k].h.p.toList == g.toList) <;> simp only [List.filter_cons, List.filter_nil, h, Bool.false_eq_true, if_false, if_true, List.flatMap_cons, List.flatMap_nil, List.append_nil]
theorem pushes_le (cs : List Cl) (g : ByteArray) (k : Nat) : (pushes (cs.take k) g).length ≤ (pushes cs g).length := by
  have h : pushes cs g = pushes (cs.take k) g ++ pushes (cs.drop k) g := by
    unfold pushes
    rw [← List.flatMap_append, ← List.filter_append, List.take_append_drop]
  rw [h, List.length_append]; omega
theorem mem_pushes {cs : List Cl} {g s : ByteArray} : s ∈ pushes cs g ↔ ∃ c ∈ cs, c.h.p = g ∧ s ∈ c.asks := by
  unfold pushes
  rw [List.mem_flatMap]
  constructor
  · rintro ⟨c, hc, hs⟩
    rw [List.mem_filter] at hc
    exact ⟨c, hc.1, toList_inj (by simpa using hc.2), hs⟩
  · rintro ⟨c, hc, rfl, hs⟩
    exact ⟨c, List.mem_filter.2 ⟨hc, by simp⟩, hs⟩

/-- The state of the search with a stack: S is done, todo is to come. -/
structure Hunt (cs : List Cl) (goals S todo : List ByteArray) : Prop where
  sound : ∀ s, s ∈ S ∨ s ∈ todo → Need cs goals s
  goals : ∀ g ∈ goals, g ∈ S ∨ g ∈ todo
  closed : ∀ c ∈ cs, c.h.p ∈ S → ∀ s ∈ c.asks, s ∈ S ∨ s ∈ todo
theorem Hunt.start (cs : List Cl) (goals : List ByteArray) : Hunt cs goals [] goals :=
  ⟨fun s h => by rcases h with h | h; cases h; exact .goal h, fun g h => .inr h, fun c _ h => by cases h⟩
theorem Hunt.skip {cs : List Cl} {goals S todo : List ByteArray} {g : ByteArray} (h : Hunt cs goals S (todo ++ [g])) (hg : g ∈ S) : Hunt cs goals S todo := by
  have key : ∀ s, s ∈ S ∨ s ∈ todo ++ [g] → s ∈ S ∨ s ∈ todo := fun s hs => by
    rcases hs with hs | hs
    · exact .inl hs
    · rcases List.mem_append.1 hs with hs | hs
      · exact .inr hs
      · rw [List.mem_singleton.1 hs]; exact .inl hg
  exact ⟨fun s hs => h.sound s (hs.imp id (List.mem_append_left _)), fun x hx => key x (h.goals x hx), fun c hc hp s hs => key s (h.closed c hc hp s hs)⟩
theorem Hunt.take {cs : List Cl} {goals S todo : List ByteArray} {g : ByteArray} (h : Hunt cs goals S (todo ++ [g])) : Hunt cs goals (g :: S) (todo ++ pushes cs g) := by
  have hg : Need cs goals g := h.sound g (.inr (by simp))
  have key : ∀ s, s ∈ S ∨ s ∈ todo ++ [g] → s ∈ g :: S ∨ s ∈ todo ++ pushes cs g := fun s hs => by
    rcases hs with hs | hs
    · exact .inl (List.mem_cons_of_mem _ hs)
    · rcases List.mem_append.1 hs with hs | hs
      · exact .inr (List.mem_append_left _ hs)
      · rw [List.mem_singleton.1 hs]; exact .inl (by simp)
  refine ⟨fun s hs => ?_, fun x hx => key x (h.goals x hx), fun c hc hp s hs => ?_⟩
  · rcases hs with hs | hs
    · rcases List.mem_cons.1 hs with rfl | hs
      · exact hg
      · exact h.sound s (.inl hs)
    · rcases List.mem_append.1 hs with hs | hs
      · exact h.sound s (.inr (List.mem_append_left _ hs))
      · obtain ⟨c, hc, e, hs2⟩ := mem_pushes.1 hs
        exact .step hc (e ▸ hg) hs2
  · rcases List.mem_cons.1 hp with rfl | hp
    · exact .inr (List.mem_append_right _ (mem_pushes.2 ⟨c, hc, rfl, hs⟩))
    · exact key s (h.closed c hc hp s hs)
theorem Hunt.done {cs : List Cl} {goals S : List ByteArray} (h : Hunt cs goals S []) (s : ByteArray) : s ∈ S ↔ Need cs goals s :=
  ⟨fun hs => h.sound s (.inl hs), fun hs => hs.mem (fun g hg => (h.goals g hg).resolve_right (by simp)) (fun c hc hp s hs => (h.closed c hc hp s hs).resolve_right (by simp))⟩

/-- The clauses that stay. -/
noncomputable def keepB (cs : List Cl) (goals : List ByteArray) (c : Cl) : Bool := @decide (Need cs goals c.h.p) (Classical.propDecidable _)
theorem keepB_iff {cs : List Cl} {goals : List ByteArray} {c : Cl} : keepB cs goals c = true ↔ Need cs goals c.h.p := by
  unfold keepB; simp
theorem keep_snoc {cs : List Cl} {k : Nat} (hk : k < cs.length) (p : Cl → Bool) : (cs.take (k + 1)).filter p = (cs.take k).filter p ++ (if p cs[k] = true then [cs[k]] else []) := by
  rw [take_snoc _ _ hk, List.filter_append]
  congr 1
  cases h : p cs[k] <;> simp only [List.filter_cons, List.filter_nil, h, Bool.false_eq_true, if_false, if_true]


theorem own_below {w w' : World} {R size n : Nat} {e : TypeId} {v : Value} {xs : List Value} (h : w.ownsRow R e size v n xs) (hb : Below w.heap.size w w') : w'.ownsRow R e size v n xs := by
  refine ⟨h.1, ?_⟩
  rcases h.2 with h2 | ⟨g, cap, cur, hv, hg, hc, r⟩
  · exact .inl h2
  · exact .inr ⟨g, cap, cur, hv, hg, (hb.block g (Array.getElem?_eq_some_iff.1 hc).1).trans hc, r⟩
theorem own_le {w : World} {R R' size n : Nat} {e : TypeId} {v : Value} {xs : List Value} (h : w.ownsRow R e size v n xs) (hb : R' ≤ R) : w.ownsRow R' e size v n xs := by
  refine ⟨h.1, ?_⟩
  rcases h.2 with h2 | ⟨g, cap, cur, hv, hg, r⟩
  · exact .inl h2
  · exact .inr ⟨g, cap, cur, hv, Nat.le_trans hb hg, r⟩
theorem own_kept_types {w w' : World} {base base' e e' size size' n n' : Nat} {v v' : Value} {xs xs' : List Value} (h : w.ownsRow base e size v n xs) (h' : w.ownsRow base' e' size' v' n' xs') (hne : e ≠ e') (hg : w.grownBy w' v'.ownBlock) : w'.ownsRow base e size v n xs := by
  refine h.kept hg ?_
  rcases h.2 with ⟨rfl, _⟩ | ⟨g, cap, cur, rfl, _, hgg, _⟩
  · exact .inl rfl
  · refine .inr ?_
    have := own_blk_ne h' (g := g) (t := e) (cs := cur.toList) (by unfold Blk; simpa using hgg) hne
    simpa [Value.ownBlock] using this

/-- The last one off a row of one's own. -/
theorem own_pop {w : World} {base e size n : Nat} {A : Option Addr} {c : Nat} {xs ys : List Value} (h : w.ownsRow base e size (.slice A (n + 1) c) (n + 1) (xs ++ ys)) (hl : xs.length = n * size) : w.ownsRow base e size (.slice A n c) n xs := by
  refine ⟨hl, ?_⟩
  rcases h.2 with ⟨_, h0⟩ | ⟨g, cap, cur, hv, hb, hg, hnc, hcm, hcs, ht⟩
  · omega
  · simp only [Value.slice.injEq] at hv
    obtain ⟨rfl, _, rfl⟩ := hv
    refine .inr ⟨g, c, cur, rfl, hb, hg, by omega, hcm, hcs, ?_⟩
    have h2 := congrArg (List.take (n * size)) ht
    rw [List.take_take, Nat.min_eq_left (Nat.mul_le_mul_right _ (Nat.le_succ _)), ← hl, List.take_left] at h2
    rw [← hl]; exact h2

/-- Its terms lie in a row of one's own. -/
def At.own (w : World) (R : Nat) (a : At) : Prop := w.ownsRow R 33 4 (.slice a.A a.n a.c) a.n (tcells a.es)
theorem At.own.below {w w' : World} {R : Nat} {a : At} (h : At.own w R a) (hb : Below w.heap.size w w') : At.own w' R a := own_below h hb
theorem At.own.le {w : World} {R R' : Nat} {a : At} (h : At.own w R a) (hb : R' ≤ R) : At.own w R' a := own_le h hb
theorem own_none {w : World} {base e size n c : Nat} {xs : List Value} (h : w.ownsRow base e size (.slice none n c) n xs) : c = 0 := by
  rcases h.2 with ⟨h, _⟩ | ⟨g, cap, cur, h, _⟩
  · simp only [Value.slice.injEq] at h; exact h.2.2
  · simp at h
theorem own_rd {w : World} {base e size n c : Nat} {A : Option Addr} {xs : List Value} (h : w.ownsRow base e size (.slice A n c) n xs) : Rd w w.heap.size size A n xs := by
  obtain ⟨h1, h2⟩ := h
  rcases h2 with ⟨hv, rfl⟩ | ⟨g, cap, cur, hv, hb, hg, hnc, hcm, hcs, ht⟩
  · exact ⟨h1, by omega, fun h => absurd h (by omega)⟩
  · simp only [Value.slice.injEq] at hv
    obtain ⟨rfl, _, rfl⟩ := hv
    refine ⟨h1, by unfold maxLen at hcm; omega, fun _ => ⟨g, 0, rfl, (Array.getElem?_eq_some_iff.1 hg).1, fun j u hu => ?_⟩⟩
    rw [Nat.zero_add, cell_of_row w g j cur e (0, 0) hg]
    rw [← ht, List.getElem?_take] at hu
    split at hu
    · simpa using hu
    · cases hu
theorem At.own.ok {w : World} {R : Nat} {a : At} (h : At.own w R a) (hs : a.es.length * 40 ≤ 140737488351232) : At.ok w a := by
  have hr := own_rd h
  have hl : a.es.length = a.n := by have := hr.1; rw [tcells_length] at this; omega
  exact ⟨hr, fun hA => by unfold At.own at h; rw [hA] at h; exact own_none h, by rw [← hl]; exact hs⟩
theorem At.ok.size {w : World} {a : At} (h : At.ok w a) : a.es.length * 40 ≤ 140737488351232 := by
  have hl : a.es.length = a.n := by have := h.1.1; rw [tcells_length] at this; omega
  rw [hl]; exact h.2.2

/-- A clause's lists lie in rows of one's own. -/
structure Cl.own (w : World) (R : Nat) (x : Cl) : Prop where
  h : At.own w R x.h
  b : w.ownsRow R 61 14 (.slice x.A x.n x.c) x.n (lcells x.ls)
  l : ∀ y ∈ x.ls, At.own w R y.a
theorem Cl.own.below {w w' : World} {R : Nat} {x : Cl} (h : Cl.own w R x) (hb : Below w.heap.size w w') : Cl.own w' R x := ⟨h.h.below hb, own_below h.b hb, fun y hy => (h.l y hy).below hb⟩
theorem Cl.own.le {w : World} {R R' : Nat} {x : Cl} (h : Cl.own w R x) (hb : R' ≤ R) : Cl.own w R' x := ⟨h.h.le hb, own_le h.b hb, fun y hy => (h.l y hy).le hb⟩
theorem Cl.own.kept {w w' : World} {R R' n : Nat} {x : Cl} {v : Value} {xs : List Value} (h : Cl.own w R x) (h' : w.ownsRow R' 45 4 v n xs) (hg : w.grownBy w' v.ownBlock) : Cl.own w' R x :=
  ⟨own_kept_types h.h h' (by decide) hg, own_kept_types h.b h' (by decide) hg, fun y hy => own_kept_types (h.l y hy) h' (by decide) hg⟩
theorem At.own.kept {w w' : World} {R R' n : Nat} {x : At} {v : Value} {xs : List Value} (h : At.own w R x) (h' : w.ownsRow R' 61 14 v n xs) (hg : w.grownBy w' v.ownBlock) : At.own w' R x := own_kept_types h h' (by decide) hg

/-- One clause has the core of another that is whole: then it is whole. -/
theorem core_sizes {w : World} {a : At} {b : At} (h : b.core = a.core) (ha : At.ok w a) : b.es.length * 40 ≤ 140737488351232 := by
  have : b.es = a.es := congrArg (fun p => p.2.2) h
  rw [this]; exact ha.size
theorem Cl.own.ok {w w0 : World} {R : Nat} {y x : Cl} (h : Cl.own w R y) (hc : y.core = x.core) (hx : Cl.ok w0 x) : Cl.ok w y := by
  have hh : y.h.core = x.h.core := congrArg (fun p => p.1) hc
  have hl : y.ls.map Li.core = x.ls.map Li.core := congrArg (fun p => p.2) hc
  have hlen : y.ls.length = x.ls.length := by have := congrArg List.length hl; simpa using this
  have h1 : y.ls.length = y.n := by have := (own_rd h.b).1; rw [lcells_length] at this; omega
  have h2 : x.ls.length = x.n := by have := hx.2.1.1; rw [lcells_length] at this; omega
  refine ⟨h.h.ok (core_sizes hh hx.1), own_rd h.b, by have := hx.2.2.1; omega, fun z hz => ?_⟩
  obtain ⟨i, hi, rfl⟩ := List.mem_iff_getElem.1 hz
  have hi' : i < x.ls.length := by omega
  have e : y.ls[i].core = x.ls[i].core := by
    have := congrArg (fun l => l[i]?) hl
    simpa [hi, hi'] using this
  have e2 : y.ls[i].a.core = x.ls[i].a.core := congrArg (fun p => p.2.1) e
  exact (h.l _ hz).ok (core_sizes e2 (hx.2.2.2 _ (List.getElem_mem hi')))

theorem two_alloc (w : World) (t1 t2 : TypeId) (c1 c2 : List Value) :
    Below w.heap.size w ((w.alloc (.cells c1.toArray t1)).alloc (.cells c2.toArray t2)) ∧
    Blk ((w.alloc (.cells c1.toArray t1)).alloc (.cells c2.toArray t2)) w.heap.size t1 c1 ∧
    Blk ((w.alloc (.cells c1.toArray t1)).alloc (.cells c2.toArray t2)) (w.heap.size + 1) t2 c2 ∧
    ((w.alloc (.cells c1.toArray t1)).alloc (.cells c2.toArray t2)).heap.size = w.heap.size + 2 := by
  have h1 := Blk.new w t1 c1
  have h2 := Blk.new (w.alloc (.cells c1.toArray t1)) t2 c2
  have e1 : (w.alloc (.cells c1.toArray t1)).heap.size = w.heap.size + 1 := by simp
  rw [e1] at h2
  exact ⟨((Below.refl _ w).alloc (Nat.le_refl _) _).alloc (by omega) _, h1.alloc _, h2, by simp⟩
theorem own_made {w : World} {base e size c : Nat} (z : Array Value) (hb : base ≤ w.heap.size) (hc : c ≤ maxLen) : (w.alloc (.cells (madeCells z (c * size)) e)).ownsRow base e size (.slice (some ⟨w.heap.size, 0, none⟩) 0 c) 0 [] :=
  ⟨by simp, .inr ⟨w.heap.size, c, madeCells z (c * size), rfl, hb, heap_alloc_new w _, Nat.zero_le _, hc, by simp [madeCells], by simp⟩⟩
end Go.Proofs.Ytjcgkplphiedjaa

namespace Go.Proofs.Ytjcgkplphiedjaa
open Go.RowKit

theorem Try.info61 : (Try.prog.info? 61).map (fun i => (i.zero, i.size, i.bytes)) = some (some (.agg #[.int .i64 0, .string ⟨#[]⟩, .slice none 0 0, .int .i64 0, .int .i64 0, .int .i64 0, .int .i64 0, .string ⟨#[]⟩, .int .i64 0, .int .i64 0, .int .i64 0, .string ⟨#[]⟩, .int .i64 0, .int .i64 0]), 14, 152) := by kernel_rfl
theorem Try.info45 : (Try.prog.info? 45).map (fun i => (i.zero, i.size, i.bytes)) = some (some (.agg #[.string ⟨#[]⟩, .slice none 0 0, .int .i64 0, .slice none 0 0]), 4, 72) := by kernel_rfl

theorem three_alloc (w : World) (t1 t2 t3 : TypeId) (c1 c2 c3 : List Value) :
    Below w.heap.size w (((w.alloc (.cells c1.toArray t1)).alloc (.cells c2.toArray t2)).alloc (.cells c3.toArray t3)) ∧
    Blk (((w.alloc (.cells c1.toArray t1)).alloc (.cells c2.toArray t2)).alloc (.cells c3.toArray t3)) w.heap.size t1 c1 ∧
    Blk (((w.alloc (.cells c1.toArray t1)).alloc (.cells c2.toArray t2)).alloc (.cells c3.toArray t3)) (w.heap.size + 1) t2 c2 ∧
    Blk (((w.alloc (.cells c1.toArray t1)).alloc (.cells c2.toArray t2)).alloc (.cells c3.toArray t3)) (w.heap.size + 1 + 1) t3 c3 ∧
    (((w.alloc (.cells c1.toArray t1)).alloc (.cells c2.toArray t2)).alloc (.cells c3.toArray t3)).heap.size = w.heap.size + 3 := by
  have h1 := Blk.new w t1 c1
  have h2 := Blk.new (w.alloc (.cells c1.toArray t1)) t2 c2
  have h3 := Blk.new ((w.alloc (.cells c1.toArray t1)).alloc (.cells c2.toArray t2)) t3 c3
  have e1 : (w.alloc (.cells c1.toArray t1)).heap.size = w.heap.size + 1 := by simp
  have e2 : ((w.alloc (.cells c1.toArray t1)).alloc (.cells c2.toArray t2)).heap.size = w.heap.size + 1 + 1 := by simp
  rw [e1] at h2
  rw [e2] at h3
  refine ⟨(((Below.refl _ w).alloc (Nat.le_refl _) _).alloc (by omega) _).alloc (by omega) _, (h1.alloc _).alloc _, h2.alloc _, h3, by simp⟩

set_option maxRecDepth 20000 in
set_option maxHeartbeats 4000000 in
theorem refCopied_any (x : Cl) (w : World) (hok : Cl.ok w x) :
    Calls Try.prog 24 #[.agg x.cells.toArray] w fun e w' => ∃ y : Cl, e = .returned (.agg y.cells.toArray) ∧ y.core = x.core ∧ Cl.own w' w.heap.size y ∧ Below w.heap.size w w' := by
  obtain ⟨i0, hi, hz0, hz1, hz2⟩ := info_parts Try.info33
  obtain ⟨j0, hj, hy0, hy1, hy2⟩ := info_parts Try.info61
  obtain ⟨⟨p, A, n, c, o, es⟩, B, m, d, ls⟩ := x
  obtain ⟨⟨ht, hA, hn40⟩, hl, hm152, hlk⟩ := hok
  dsimp only at ht hA hn40 hl hm152 hlk
  show Calls Try.prog 24 #[.agg #[.string p, .slice A n c, .int .i64 o, .slice B m d]] w _
  have HT := Lib.hid ht
  have HA := Lib.hid hA
  have HL := Lib.hid hl
  have HLK := Lib.hid hlk
  have hmb := hl.2.1
  have hnb := ht.2.1
  have hlen : ls.length = m := by have := hl.1; rw [lcells_length] at this; omega
  have HN := Lib.hid hlen
  clear ht hA hl hlk hlen
  go_enter Try.func24, Try.ntmps24
  go_upto_region 2 with (fail)
  obtain ⟨hb3, h1, h2, h3, hs3⟩ := three_alloc w 45 45 45 [.string p, .slice A n c, .int .i64 o, .slice B m d] [.string ⟨#[]⟩, .slice none 0 0, .int .i64 0, .slice none 0 0] [.string p, .slice A n c, .int .i64 o, .slice none 0 0]
  generalize World.alloc (World.alloc (World.alloc _ _) _) _ = w3 at *
  generalize hR : w.heap.size = R at *
  have HRR := Lib.hid hR
  clear hR
  have HB3 := Lib.hid hb3
  have H1 := Lib.hid h1
  have H2 := Lib.hid h2
  have H3 := Lib.hid h3
  have HS3 := Lib.hid hs3
  clear hb3 h1 h2 h3 hs3
  have f1 := H1.out.cell 1
  simp only [List.getElem?_cons_zero, List.getElem?_cons_succ] at f1
  have hown0 : (w3.alloc (.cells #[] 33)).ownsRow R 33 4 (.slice (some ⟨w3.heap.size, 0, none⟩) 0 0) 0 [] := own_empty (by have := HS3.out; omega)
  have hba := (Below.refl w3.heap.size w3).alloc (Nat.le_refl _) (.cells #[] 33)
  have hbw : R ≤ (w3.alloc (.cells #[] 33)).heap.size := by have := hba.size; have := HS3.out; omega
  have HRd : Hid (Rd (w3.alloc (.cells #[] 33)) (w3.alloc (.cells #[] 33)).heap.size 4 A n (tcells es)) := Lib.hid ((HT.out.up HB3.out (by have := HS3.out; omega)).up hba hba.size)
  clear hba
  have hRl := H1.out.lt
  go_wp2_with (at_builtin; go_must (refine wpList_append_all rfl _ _ 25 rfl R 33 i0 _ 4 40 Try.underlying25 hi hz0 hz1 hz2 rfl (by decide) _ _ _ rfl hown0 A n c (tcells es) rfl HA.out HRd.out (terms_one es) (by unfold maxLen; omega) (by omega) hbw ?_))
  intro v4 w4 hown4 hg4
  have a1 := (H1.out.alloc (.cells #[] 33)).grown hg4 (own_blk_ne hown0 (H1.out.alloc _) (by decide))
  have a2 := (H2.out.alloc (.cells #[] 33)).grown hg4 (own_blk_ne hown0 (H2.out.alloc _) (by decide))
  have a3 := (H3.out.alloc (.cells #[] 33)).grown hg4 (own_blk_ne hown0 (H3.out.alloc _) (by decide))
  have B4 := (HB3.out.alloc (by have := HS3.out; omega) (.cells #[] 33)).grown hg4 hbw (fun k hk => (hown0.lt k hk).1)
  obtain ⟨A4, c4, rfl, hn4⟩ := own_slice hown4
  have z3 := a3.frozen 1
  have g3 := a3.cell 1
  simp only [List.getElem?_cons_zero, List.getElem?_cons_succ] at g3
  have hl3 := a3.lt
  clear hown0 hg4 HB3 H1 H2 H3 f1 HRd hbw hRl
  have HA1 := Lib.hid a1
  have HA2 := Lib.hid a2
  have HA3 := Lib.hid a3
  have HB4 := Lib.hid B4
  have HO4 := Lib.hid hown4
  clear a1 a2 a3 B4 hown4
  go_upto_region 3 with (fail)
  have HG1 := Lib.hid (HA1.out.far (p := ⟨R + 1 + 1, 1, none⟩) (by simp; omega) (.slice A4 n c4))
  have HG2 := Lib.hid (HA2.out.far (p := ⟨R + 1 + 1, 1, none⟩) (by simp) (.slice A4 n c4))
  have HG3 := Lib.hid (HA3.out.set_ 1 (.slice A4 n c4))
  have HOG := Lib.hid (own_setCell_blk HO4.out HA3.out (by decide) 1 (.slice A4 n c4))
  have HBG := Lib.hid (HB4.out.setCell (p := ⟨R + 1 + 1, 1, none⟩) (by simp; omega) (.slice A4 n c4))
  simp only [List.set_cons_succ, List.set_cons_zero] at HG3
  clear HA1 HA2 HA3 HB4 HO4 z3 g3 hl3 HS3
  generalize World.setCell _ _ _ = w5 at *
  go_wp2
  go_loopg [4] m (fun gk u4 wr => ∃ (k : Nat) (acc : List Li) (vb : Value), u4 = .int .i64 k ∧ k ≤ m ∧ gk = m - k ∧ Hid (Below R w wr) ∧ Hid (Blk wr R 45 [.string p, .slice A n c, .int .i64 o, .slice B m d]) ∧ Hid (Blk wr (R + 1) 45 [.string ⟨#[]⟩, .slice none 0 0, .int .i64 0, .slice none 0 0]) ∧
    Hid (Blk wr (R + 1 + 1) 45 [.string p, .slice A4 n c4, .int .i64 o, vb]) ∧ Hid (wr.ownsRow R 33 4 (.slice A4 n c4) n (tcells es)) ∧ Hid (wr.ownsRow R 61 14 vb k (lcells acc)) ∧ Hid (acc.map Li.core = (ls.take k).map Li.core) ∧ Hid (∀ y ∈ acc, At.own wr R y.a))
  case atStart => exact ⟨0, [], .slice none 0 0, rfl, Nat.zero_le _, by omega, HBG, HG1, HG2, HG3, HOG, World.ownsRow_nil _ _ _ _, Lib.hid rfl, Lib.hid (by simp)⟩
  case round =>
    clear HBG HG1 HG2 HG3 HOG
    obtain ⟨k, acc, vb, rfl, hk, hgk, HB, H1, H2, H3, HO, HV, HC, HW⟩ := hrel
    have HG := Lib.hid hgk
    clear hgk
    have f3 := H1.out.cell 3
    simp only [List.getElem?_cons_zero, List.getElem?_cons_succ] at f3
    by_cases hlt : k < m
    · obtain ⟨B', off, hk1, rfl, hB, hc⟩ := (HL.out.below HB.out).at Li.cells 14 (fun _ => rfl) (by omega) k hlt
      have c0 := hc 0 _ (by omega) rfl
      have c1 := hc 1 _ (by omega) rfl
      have c2 := hc 2 _ (by omega) rfl
      have c3 := hc 3 _ (by omega) rfl
      have c4' := hc 4 _ (by omega) rfl
      have c5 := hc 5 _ (by omega) rfl
      have c6 := hc 6 _ (by omega) rfl
      have c7 := hc 7 _ (by omega) rfl
      have c8 := hc 8 _ (by omega) rfl
      have c9 := hc 9 _ (by omega) rfl
      have c10 := hc 10 _ (by omega) rfl
      have c11 := hc 11 _ (by omega) rfl
      have c12 := hc 12 _ (by omega) rfl
      have c13 := hc 13 _ (by omega) rfl
      rw [Nat.add_zero] at c0
      clear hc
      have hlkk := HLK.out ls[k] (List.getElem_mem hk1)
      have HTK := Lib.hid (take_snoc ls k hk1)
      go_upto_region 7 with (fail)
      have HBA := Lib.hid ((Below.refl wr.heap.size wr).alloc (Nat.le_refl _) (.cells (ls[k]).cells.toArray 61))
      have HX := Lib.hid (Blk.new wr 61 (ls[k]).cells)
      have hRZ : R + 1 + 1 < wr.heap.size := H3.out.lt
      simp only [Li.cells] at HBA HX
      clear c0 c1 c2 c3 c4' c5 c6 c7 c8 c9 c10 c11 c12 c13 f3
      generalize ls[k] = z at *
      obtain ⟨zk, ⟨zp, zA, zn, zc, zo, zes⟩, zop, zl, zr, zof⟩ := z
      dsimp only at HBA HX
      generalize World.alloc _ _ = wa at *
      have hsa := HX.out.lt
      generalize hZ : wr.heap.size = Z at *
      have HZ := Lib.hid hZ
      clear hZ
      obtain ⟨hzt, hzA, hz40⟩ := hlkk
      dsimp only at hzt hzA hz40
      have HZT := Lib.hid hzt
      have HZA := Lib.hid hzA
      have hznb := hzt.2.1
      clear hzt hzA
      have hown0 : (wa.alloc (.cells #[] 33)).ownsRow Z 33 4 (.slice (some ⟨wa.heap.size, 0, none⟩) 0 0) 0 [] := own_empty (by omega)
      have hba := (Below.refl wa.heap.size wa).alloc (Nat.le_refl _) (.cells #[] 33)
      have hbw : Z ≤ (wa.alloc (.cells #[] 33)).heap.size := by have := hba.size; omega
      have HRd : Hid (Rd (wa.alloc (.cells #[] 33)) (wa.alloc (.cells #[] 33)).heap.size 4 zA zn (tcells zes)) := Lib.hid ((HZT.out.up ((HRR.out ▸ HB.out : Below w.heap.size w wr).trans (HBA.out.mono (by have := HRR.out; omega))) (by have := HRR.out; omega)).up hba hba.size)
      clear hba
      have g2 := HX.out.cell 2
      simp only [List.getElem?_cons_zero, List.getElem?_cons_succ] at g2
      go_wp2_with (at_builtin; go_must (refine wpList_append_all rfl _ _ 25 rfl Z 33 i0 _ 4 40 Try.underlying25 hi hz0 hz1 hz2 rfl (by decide) _ _ _ rfl hown0 zA zn zc (tcells zes) rfl HZA.out HRd.out (terms_one zes) (by unfold maxLen; omega) (by omega) hbw ?_))
      intro v5 w5 hown5 hg5
      have b5 := (HX.out.alloc (.cells #[] 33)).grown hg5 (own_blk_ne hown0 (HX.out.alloc _) (by decide))
      have B5 := (HBA.out.alloc (by omega) (.cells #[] 33)).grown hg5 hbw (fun k hk => (hown0.lt k hk).1)
      obtain ⟨A5, d5, rfl, hn5⟩ := own_slice hown5
      have z5 := b5.frozen 2
      have g5 := b5.cell 2
      simp only [List.getElem?_cons_zero, List.getElem?_cons_succ] at g5
      have hl5 := b5.lt
      clear hown0 hg5 HBA HX g2 HRd hbw hsa
      have HX5 := Lib.hid b5
      have HB5 := Lib.hid B5
      have HO5 := Lib.hid hown5
      clear b5 B5 hown5
      go_upto_region 8 with (fail)
      have HX6 := Lib.hid (HX5.out.set_ 2 (.slice A5 zn d5))
      have HO6 := Lib.hid (own_setCell_blk HO5.out HX5.out (by decide) 2 (.slice A5 zn d5))
      have HB6 := Lib.hid (HB5.out.setCell (p := ⟨Z, 2, none⟩) (by simp) (.slice A5 zn d5))
      simp only [List.set_cons_succ, List.set_cons_zero] at HX6
      clear HX5 HB5 HO5 z5 g5 hl5
      generalize World.setCell _ _ _ = w6 at *
      have hbz : Below wr.heap.size wr w6 := by rw [HZ.out]; exact HB6.out
      have HBR := Lib.hid (HB.out.trans (HB6.out.mono (by omega)))
      have K1 := Lib.hid (H1.out.below HB6.out (by omega))
      have K2 := Lib.hid (H2.out.below HB6.out (by omega))
      have K3 := Lib.hid (H3.out.below HB6.out (by omega))
      have KO := Lib.hid (own_below HO.out hbz)
      have hownb := own_below HV.out hbz
      have KW : Hid (∀ y ∈ acc, At.own w6 R y.a) := Lib.hid fun y hy => (HW.out y hy).below hbz
      clear hbz HB H1 H2 H3 HO HV HW
      have x0 := HX6.out.cell 0
      have x1 := HX6.out.cell 1
      have x2 := HX6.out.cell 2
      have x3 := HX6.out.cell 3
      have x4 := HX6.out.cell 4
      have x5 := HX6.out.cell 5
      have x6 := HX6.out.cell 6
      have x7 := HX6.out.cell 7
      have x8 := HX6.out.cell 8
      have x9 := HX6.out.cell 9
      have x10 := HX6.out.cell 10
      have x11 := HX6.out.cell 11
      have x12 := HX6.out.cell 12
      have x13 := HX6.out.cell 13
      have y3 := K3.out.cell 3
      simp only [List.getElem?_cons_zero, List.getElem?_cons_succ] at x0 x1 x2 x3 x4 x5 x6 x7 x8 x9 x10 x11 x12 x13 y3
      have hl6 := K3.out.lt
      have hm152' := hm152
      go_wp2_with (at_builtin; go_must (refine wpList_append_own _ rfl _ _ 43 rfl R 61 j0 _ 14 152 Try.underlying43 hj hy0 hy1 hy2 rfl (by decide) _ _ _ rfl (hownb.alloc _) ⟨w6.heap.size, 0, none⟩ 1 1 (Li.cells ⟨zk, ⟨zp, A5, zn, d5, zo, zes⟩, zop, zl, zr, zof⟩) rfl rfl (fun j u h => new_cells _ _ _ j u h) (Li.one _) (by unfold maxLen; omega) (by omega) (by simp; omega) ?_))
      intro v7 w7 hown7 hg7 _
      obtain ⟨A7, d7, rfl, hn7⟩ := own_slice hown7
      have a1 := (K1.out.alloc (.cells (Li.cells ⟨zk, ⟨zp, A5, zn, d5, zo, zes⟩, zop, zl, zr, zof⟩).toArray 61)).grown hg7 (own_blk_ne hownb K1.out (by decide))
      have a2 := (K2.out.alloc (.cells (Li.cells ⟨zk, ⟨zp, A5, zn, d5, zo, zes⟩, zop, zl, zr, zof⟩).toArray 61)).grown hg7 (own_blk_ne hownb K2.out (by decide))
      have a3 := (K3.out.alloc (.cells (Li.cells ⟨zk, ⟨zp, A5, zn, d5, zo, zes⟩, zop, zl, zr, zof⟩).toArray 61)).grown hg7 (own_blk_ne hownb K3.out (by decide))
      have BL := (HBR.out.alloc (by omega) (.cells (Li.cells ⟨zk, ⟨zp, A5, zn, d5, zo, zes⟩, zop, zl, zr, zof⟩).toArray 61)).grown hg7 (by simp; omega) (fun q hq => (hownb.lt q hq).1)
      have O7 := own_kept_types (KO.out.alloc (.cells (Li.cells ⟨zk, ⟨zp, A5, zn, d5, zo, zes⟩, zop, zl, zr, zof⟩).toArray 61)) (hownb.alloc _) (by decide) hg7
      have W7 : ∀ q ∈ acc ++ [(⟨zk, ⟨zp, A5, zn, d5, zo, zes⟩, zop, zl, zr, zof⟩ : Li)], At.own w7 R q.a := by
        intro q hq
        rcases List.mem_append.1 hq with hq | hq
        · exact own_kept_types (World.ownsRow.alloc (KW.out q hq) (.cells (Li.cells ⟨zk, ⟨zp, A5, zn, d5, zo, zes⟩, zop, zl, zr, zof⟩).toArray 61)) (hownb.alloc _) (by decide) hg7
        · rw [List.mem_singleton.1 hq]
          exact own_kept_types (World.ownsRow.alloc (own_le HO6.out (by omega)) (.cells (Li.cells ⟨zk, ⟨zp, A5, zn, d5, zo, zes⟩, zop, zl, zr, zof⟩).toArray 61)) (hownb.alloc _) (by decide) hg7
      have C7 : (acc ++ [(⟨zk, ⟨zp, A5, zn, d5, zo, zes⟩, zop, zl, zr, zof⟩ : Li)]).map Li.core = (ls.take (k + 1)).map Li.core := by
        rw [HTK.out, List.map_append, List.map_append, HC.out]; rfl
      have V7 : w7.ownsRow R 61 14 (.slice A7 (k + 1) d7) (k + 1) (lcells (acc ++ [(⟨zk, ⟨zp, A5, zn, d5, zo, zes⟩, zop, zl, zr, zof⟩ : Li)])) := by
        rw [lcells_append]; simpa [lcells] using hown7
      have z3 := a3.frozen 3
      have y3' := a3.cell 3
      simp only [List.getElem?_cons_zero, List.getElem?_cons_succ] at y3'
      have hl7 := a3.lt
      have HA1 := Lib.hid a1
      have HA2 := Lib.hid a2
      have HA3 := Lib.hid a3
      have HBL := Lib.hid BL
      have HO7 := Lib.hid O7
      have HW7 := Lib.hid W7
      have HC7 := Lib.hid C7
      have HV7 := Lib.hid V7
      clear a1 a2 a3 BL O7 W7 C7 V7 hown7 hownb hg7 K1 K2 K3 KO KW HBR HX6 HO6 HB6 x0 x1 x2 x3 x4 x5 x6 x7 x8 x9 x10 x11 x12 x13 y3 hl6 HTK HC HZT HZA
      go_upto_region 5 with (fail)
      have HG1 := Lib.hid (HA1.out.far (p := ⟨R + 1 + 1, 3, none⟩) (by simp; omega) (.slice A7 (k + 1) d7))
      have HG2 := Lib.hid (HA2.out.far (p := ⟨R + 1 + 1, 3, none⟩) (by simp) (.slice A7 (k + 1) d7))
      have HG3 := Lib.hid (HA3.out.set_ 3 (.slice A7 (k + 1) d7))
      have HOG := Lib.hid (own_setCell_blk HO7.out HA3.out (by decide) 3 (.slice A7 (k + 1) d7))
      have HVG := Lib.hid (own_setCell_blk HV7.out HA3.out (by decide) 3 (.slice A7 (k + 1) d7))
      have HBG := Lib.hid (HBL.out.setCell (p := ⟨R + 1 + 1, 3, none⟩) (by simp; omega) (.slice A7 (k + 1) d7))
      have HWG : Hid (∀ q ∈ acc ++ [(⟨zk, ⟨zp, A5, zn, d5, zo, zes⟩, zop, zl, zr, zof⟩ : Li)], At.own (w7.setCell ⟨R + 1 + 1, 3, none⟩ (.slice A7 (k + 1) d7)) R q.a) := Lib.hid fun q hq => own_setCell_blk (HW7.out q hq) HA3.out (by decide) 3 (.slice A7 (k + 1) d7)
      simp only [List.set_cons_succ, List.set_cons_zero] at HG3
      clear HA1 HA2 HA3 HBL HO7 HV7 HW7 z3 y3' hl7
      generalize World.setCell _ _ _ = w8 at *
      go_wp2
      go_roundg (m - (k + 1))
      case measure => have := HG.out; omega
      case rel => exact ⟨k + 1, _, (.slice A7 (k + 1) d7), by go_num, by omega, rfl, HBG, HG1, HG2, HG3, HOG, HVG, HC7, HWG⟩
    · obtain rfl : k = m := by omega
      have hall : ls.take k = ls := List.take_of_length_le (by have := HN.out; omega)
      rw [hall] at HC
      obtain ⟨Ab, cb, rfl, hnb2⟩ := own_slice HV.out
      have q0 := H3.out.cell 0
      have q1 := H3.out.cell 1
      have q2 := H3.out.cell 2
      have q3 := H3.out.cell 3
      have r0 := H2.out.cell 0
      have r1 := H2.out.cell 1
      have r2 := H2.out.cell 2
      have r3 := H2.out.cell 3
      have s0 := H2.out.frozen 0
      have s1 := H2.out.frozen 1
      have s2 := H2.out.frozen 2
      have s3 := H2.out.frozen 3
      have hl2 := H2.out.lt
      have hl3 := H3.out.lt
      simp only [List.getElem?_cons_zero, List.getElem?_cons_succ] at q0 q1 q2 q3 r0 r1 r2 r3
      have D1 := H2.out.set_ 0 (.string p)
      have D2 := D1.set_ 1 (.slice A4 n c4)
      have D3 := D2.set_ 2 (.int .i64 o)
      have D4 := D3.set_ 3 (.slice Ab k cb)
      have set4 : ∀ (e : TypeId) (size m : Nat) (v : Value) (xs : List Value), e ≠ 45 → wr.ownsRow R e size v m xs → ((((wr.setCell ⟨R + 1, 0, none⟩ (.string p)).setCell ⟨R + 1, 1, none⟩ (.slice A4 n c4)).setCell ⟨R + 1, 2, none⟩ (.int .i64 o)).setCell ⟨R + 1, 3, none⟩ (.slice Ab k cb)).ownsRow R e size v m xs :=
        fun e size m v xs hne h => own_setCell_blk (own_setCell_blk (own_setCell_blk (own_setCell_blk h H2.out (Ne.symm hne) 0 _) D1 (Ne.symm hne) 1 _) D2 (Ne.symm hne) 2 _) D3 (Ne.symm hne) 3 _
      have E1 := set4 33 4 n _ _ (by decide) HO.out
      have E2 := set4 61 14 k _ _ (by decide) HV.out
      have E3 : ∀ q ∈ acc, At.own ((((wr.setCell ⟨R + 1, 0, none⟩ (.string p)).setCell ⟨R + 1, 1, none⟩ (.slice A4 n c4)).setCell ⟨R + 1, 2, none⟩ (.int .i64 o)).setCell ⟨R + 1, 3, none⟩ (.slice Ab k cb)) R q.a := fun q hq => set4 33 4 _ _ _ (by decide) (HW.out q hq)
      have E4 := (((HB.out.setCell (p := ⟨R + 1, 0, none⟩) (by simp) (.string p)).setCell (p := ⟨R + 1, 1, none⟩) (by simp) (.slice A4 n c4)).setCell (p := ⟨R + 1, 2, none⟩) (by simp) (.int .i64 o)).setCell (p := ⟨R + 1, 3, none⟩) (by simp) (.slice Ab k cb)
      have p0 := D4.cell 0
      have p1 := D4.cell 1
      have p2 := D4.cell 2
      have p3 := D4.cell 3
      simp at p0 p1 p2 p3
      have HE1 := Lib.hid E1
      have HE2 := Lib.hid E2
      have HE3 := Lib.hid E3
      have HE4 := Lib.hid E4
      clear E1 E2 E3 E4 D1 D2 D3 D4 set4 HB H1 H2 H3 HO HV HW
      go_wp2
      refine bodyPost_ret (v := .agg #[.string p, .slice A4 n c4, .int .i64 o, .slice Ab k cb]) ?_ rfl ⟨⟨⟨p, A4, n, c4, o, es⟩, Ab, k, cb, acc⟩, rfl, ?_, ?_, ?_⟩
      · simp [results, Try.results24, go_sem, p0, p1, p2, p3]
      · simp only [Cl.core, At.core, HC.out]
      · rw [HRR.out]
        exact ⟨HE1.out, HE2.out, HE3.out⟩
      · rw [HRR.out]; exact HE4.out
end Go.Proofs.Ytjcgkplphiedjaa

namespace Go.Proofs.Ytjcgkplphiedjaa
open Go.RowKit

section
variable {P : Program} {ops : Array Oper} {Q : Exit → Act → World → Prop} {md : Region.Mode} {C : World → Prop}

/-- An operation that yields a value and leaves the world alone, or halts. -/
def calm (o : Oper) : Bool :=
  match o.op with
  | .move _ | .assign _ | .pick .. | .load .. | .binOp .. | .unOp .. | .convert .. | .fieldAddr .. | .field .. | .indexAddr .. | .index .. | .slice .. | .extract .. => true
  | .nilCheck _ => true
  | .call { callee := .builtin .len, .. } | .call { callee := .builtin .min, .. } | .call { callee := .builtin .max, .. } | .call { callee := .builtin .cap, .. } => true
  | _ => false

def isValue : Result Next → Prop
  | .ok (.value _) _ => True
  | .ok _ _ => False
  | .halt _ _ => True

theorem isValue_bind (s : Sem Value) (w : World) : isValue ((do pure (.value (← s)) : Sem Next).run P w) := by
  simp only [Sem.run_bind]
  generalize s.run P w = r
  cases r with
  | ok v w' => exact trivial
  | halt h w' => exact trivial

theorem calm_value {o : Oper} (h : calm o = true) (ρ : Operand → Value) (w : World) : isValue ((execOp ρ o).run P w) := by
  obtain ⟨dst, op, type, pos, after, guard⟩ := o
  unfold execOp
  cases op with
  | move x => exact trivial
  | assign x => exact trivial
  | pick c a b =>
    simp only [Sem.run_bind]
    generalize (asBool (ρ c)).run P w = r
    cases r with
    | ok v w' => exact trivial
    | halt h w' => exact trivial
  | load t a => exact isValue_bind _ w
  | binOp => exact isValue_bind _ w
  | unOp => exact isValue_bind _ w
  | convert => exact isValue_bind _ w
  | fieldAddr => exact isValue_bind _ w
  | field => exact isValue_bind _ w
  | indexAddr => exact isValue_bind _ w
  | index => exact isValue_bind _ w
  | slice => exact isValue_bind _ w
  | extract => exact isValue_bind _ w
  | nilCheck x =>
    have hp : ∃ h w', (runtimePanic (α := Next) .nilDeref).run P w = .halt h w' := ⟨_, _, rfl⟩
    obtain ⟨ph, pw, hp⟩ := hp
    simp only
    generalize ρ x = v
    cases v with
    | pointer a => cases a with
      | none => simp only; rw [hp]; exact trivial
      | some a => exact trivial
    | nilIface => simp only; rw [hp]; exact trivial
    | nilFunc => simp only; rw [hp]; exact trivial
    | func fn first captured =>
      cases fn with
      | method name =>
        simp only
        split
        · rw [hp]; exact trivial
        · simp only [Sem.run_bind]
          generalize Sem.run P _ w = r1
          cases r1 with
          | halt h w' => exact trivial
          | ok p w1 =>
            simp only [Result.andThen_ok]
            generalize Sem.run P _ w1 = r2
            cases r2 with
            | halt h w' => exact trivial
            | ok b w2 =>
              simp only [Result.andThen_ok]
              split <;> exact trivial
        · exact trivial
      | _ => exact trivial
    | _ => exact trivial
  | call c =>
    obtain ⟨callee, args, argTypes⟩ := c
    cases callee with
    | builtin b =>
      simp only [Sem.run_bind, resolve, Sem.run_pure, Result.andThen_ok, invoke]
      cases b with
      | len => exact isValue_bind _ w
      | min => exact isValue_bind _ w
      | max => exact isValue_bind _ w
      | cap => exact isValue_bind _ w
      | _ => simp [calm] at h
    | _ => simp [calm] at h
  | _ => simp [calm] at h

/-- A calm operation that is quiet in the class yields its value in every world of the class. -/
theorem yields_of_quietAt {o : Oper} {a : Act} {v : Value} (hc : calm o = true) (hw : Region.wanted o (yielded ops a.tmps) = true) (h : ∀ w, C w → o.quietAt P a C w v) : YieldsIf P ops C o v a := by
  refine .inl ⟨hw, fun w hC => ?_⟩
  have h1 := h w hC
  have h2 := calm_value (P := P) hc a.eval w
  unfold Oper.quietAt at h1
  generalize (execOp a.eval o).run P w = r at h1 h2
  cases r with
  | halt x w' => simp only [Oper.quietUpon] at h1
  | ok x w' =>
    cases x with
    | value u =>
      simp only [Oper.quietUpon] at h1
      rw [h1.1, h1.2]
    | _ => simp [isValue] at h2

/-- Whatever order is picked from here on; behind the operations of 'nd' the world is of the class. -/
def wpN (P : Program) (md : Region.Mode) (ops : Array Oper) (Q : Exit → Act → World → Prop) (C : World → Prop) (nd : Nat → Bool) : Nat → Array Bool → Act → World → Prop
  | 0, listed, a, w => Region.ready md ops listed = [] ∧ Q .normal a w
  | fuel + 1, listed, a, w =>
    (Region.ready md ops listed = [] → Q .normal a w) ∧
    ∀ i ∈ Region.ready md ops listed, wpOp P ops Q i (fun a' w' => (nd i = true → C w') ∧ wpN P md ops Q C nd fuel (listed.setIfInBounds i true) a' w') a w

theorem wpN_any {nd : Nat → Bool} : ∀ (fuel : Nat) (listed : Array Bool) (a : Act) (w : World), wpN P md ops Q C nd fuel listed a w → wpAny P md ops Q fuel listed a w
  | 0, _, _, _, h => h
  | fuel + 1, _, _, _, h => ⟨h.1, fun i hi => wpOp_mono (fun a' w' h' => wpN_any fuel _ a' w' h'.2) (h.2 i hi)⟩

/-- Does every operation that is not in 'nd' wait for number i? -/
def waited (md : Region.Mode) (ops : Array Oper) (nd : Nat → Bool) (i : Nat) : Bool :=
  (List.range ops.size).all fun j => nd j || (match ops[j]? with | some oj => oj.after.any (fun e => Region.binds md e && e.on == i) | none => true)

theorem wpN_first {nd : Nat → Bool} {i : Nat} {oi : Oper} {v : Value} (hi : ops[i]? = some oi) (hs : Region.noSelect ops = true)
    (hQ : ∀ c a d v w, Q (.panic c) (Act.put a d v) w → Q (.panic c) a w) (hw : waited md ops nd i = true) :
    ∀ (fuel : Nat) (listed : Array Bool) (a : Act) (w : World),
      (∀ j oj, ops[j]? = some oj → j ≠ i → listed.getD j true = false → (∀ e ∈ oj.after, Region.binds md e = true → e.on ≠ i) → oi.apart ops oj = true) →
      i ∈ Region.ready md ops listed → YieldsIf P ops C oi v a → C w →
      wpN P md ops Q C nd fuel (listed.setIfInBounds i true) (a.put oi.dst v) w → wpN P md ops Q C nd (fuel + 1) listed a w := by
  have hsel := Region.noSelect_spec hs
  intro fuel
  induction fuel with
  | zero =>
    intro listed a w _ hr hy hC H
    refine ⟨fun h => (by rw [h] at hr; cases hr), fun j hj => ?_⟩
    by_cases hji : j = i
    · subst hji; exact hy.wpOp hi hC ⟨fun _ => hC, H⟩
    · have := ready_mono hj hji
      rw [H.1] at this
      cases this
  | succ fuel ih =>
    intro listed a w hfree hr hy hC H
    refine ⟨fun h => (by rw [h] at hr; cases hr), fun j hj => ?_⟩
    by_cases hji : j = i
    · subst hji; exact hy.wpOp hi hC ⟨fun _ => hC, H⟩
    · have h1 := H.2 j (ready_mono hj hji)
      obtain ⟨hjun, oj, hoj, hall⟩ := mem_ready.1 hj
      have hnot : ∀ e ∈ oj.after, Region.binds md e = true → e.on ≠ i := fun e he hb heq => by
        have h1 := hall e he hb
        have h0 := (mem_ready.1 hr).1
        rw [heq] at h1
        rcases Nat.lt_or_ge i listed.size with h' | h'
        · simp [h'] at h0 h1; rw [h0] at h1; cases h1
        · simp [Array.getElem?_eq_none h'] at h1
      have hndj : nd j = true := by
        unfold waited at hw
        rw [List.all_eq_true] at hw
        have hjs : j < ops.size := (Array.getElem?_eq_some_iff.1 hoj).1
        have := hw j (List.mem_range.2 hjs)
        simp only [hoj, Bool.or_eq_true] at this
        rcases this with h | h
        · exact h
        · rw [Array.any_eq_true'] at h
          obtain ⟨e, he, h⟩ := h
          simp only [Bool.and_eq_true, beq_iff_eq] at h
          exact absurd h.2 (hnot e he h.1)
      have h2 := wpOp_putIf hoj (hfree j oj hoj hji hjun hnot) (fun cs b => hsel i oi cs b hi) (fun cs b => hsel j oj cs b hoj) (fun c a w => hQ c a _ _ w) hy h1
      have hfree' : ∀ k ok, ops[k]? = some ok → k ≠ i → (listed.setIfInBounds j true).getD k true = false →
          (∀ e ∈ ok.after, Region.binds md e = true → e.on ≠ i) → oi.apart ops ok = true := fun k ok hk hki hun hno => by
        refine hfree k ok hk hki ?_ hno
        by_cases hjk : j = k
        · subst hjk; exact hjun
        · rw [getD_set_ne true hjk] at hun; exact hun
      refine wpOp_mono (fun a' w' h3 => ⟨h3.2.1, ih (listed.setIfInBounds j true) a' w' hfree' (ready_mono hr (Ne.symm hji)) h3.1 (h3.2.1 hndj) ?_⟩) h2
      rw [Array.setIfInBounds_comm _ _ hji]
      exact h3.2.2

/-- What follows the calm ones, in its forced order; each as a list of its own. -/
def wpTail (P : Program) (ops : Array Oper) (Q : Exit → Act → World → Prop) (C : World → Prop) : List (Oper × Bool) → Act → World → Prop
  | [], a, w => Q .normal a w
  | (o, b) :: rest, a, w => wpList P ops (fun e a' w' => match e with | .normal => (b = true → C w') ∧ wpTail P ops Q C rest a' w' | .panic c => Q (.panic c) a' w' | .outgrown => Q .outgrown a' w' | _ => False) [o] a w

def frontB (md : Region.Mode) (ops : Array Oper) (nd : Nat → Bool) : List Nat → Array Bool → Bool
  | [], _ => true
  | i :: rest, listed => (Region.ready md ops listed).contains i && Region.free md ops listed i && waited md ops nd i && ((ops[i]?).map calm).getD false && frontB md ops nd rest (listed.setIfInBounds i true)

def laterB (md : Region.Mode) (ops : Array Oper) : List Nat → Array Bool → Bool
  | [], listed => (Region.ready md ops listed).isEmpty
  | i :: rest, listed => Region.ready md ops listed == [i] && laterB md ops rest (listed.setIfInBounds i true)

def listAll : List Nat → Array Bool → Array Bool
  | [], l => l
  | i :: rest, l => listAll rest (l.setIfInBounds i true)

theorem wpN_tail {nd : Nat → Bool} : ∀ (T : List Nat) (l : List (Oper × Bool)) (listed : Array Bool) (a : Act) (w : World), l.map (fun p => some p.1) = T.map (fun i => ops[i]?) → l.map (·.2) = T.map nd →
    laterB md ops T listed = true → wpTail P ops Q C l a w → wpN P md ops Q C nd T.length listed a w
  | [], l, listed, a, w, h1, _, hB, h => by
    have : l = [] := by simpa using h1
    subst this
    exact ⟨by simpa [laterB] using hB, h⟩
  | i :: T, [], _, _, _, h1, _, _, _ => by simp at h1
  | i :: T, (o, b) :: l, listed, a, w, h1, h2, hB, h => by
    simp only [List.map_cons, List.cons.injEq] at h1 h2
    obtain ⟨ho, h1⟩ := h1
    obtain ⟨hb, h2⟩ := h2
    simp only [laterB, Bool.and_eq_true, beq_iff_eq] at hB
    obtain ⟨hr, hB⟩ := hB
    refine ⟨fun h0 => (by rw [hr] at h0; cases h0), fun j hj => ?_⟩
    rw [hr] at hj
    simp only [List.mem_singleton] at hj
    subst hj
    unfold wpOp
    simp only [← ho]
    unfold wpTail at h
    unfold wpList at h
    have hnext : ∀ a' w', (b = true → C w') ∧ wpTail P ops Q C l a' w' → (nd j = true → C w') ∧ wpN P md ops Q C nd T.length (listed.setIfInBounds j true) a' w' :=
      fun a' w' h' => ⟨fun hn => h'.1 (hb.trans hn), wpN_tail T l _ a' w' h1 h2 hB h'.2⟩
    by_cases hwt : Region.wanted o (yielded ops a.tmps) = true
    · rw [if_pos hwt] at h ⊢
      rcases h with h | ⟨ha, hl⟩
      · refine .inl ?_
        unfold Oper.wp at h ⊢
        generalize (execOp a.eval o).run P w = r at h
        cases r with
        | ok x w' =>
          cases x <;> simp only [Oper.upon, wpList] at h ⊢
          case value u => exact hnext _ _ h
          case skip => exact hnext _ _ h
          case defer d => exact hnext _ _ h
          case enter f args =>
            refine Calls.mono h fun e w'' he => ?_
            cases e with
            | returned u => exact hnext _ _ he
            | panicked c => exact he
            | outgrown =>
              obtain ⟨a1, w1, h1⟩ := he
              exact ⟨a1, w1, h1⟩
          case row row args => exact Rows.mono h fun u w'' he => hnext _ _ he
        | halt x w' =>
          cases x <;> simp only [Oper.upon] at h ⊢
          case panic u => exact h
      · refine .inr ⟨ha, ?_⟩
        obtain ⟨a1, w1, h1⟩ := hl
        exact ⟨a1, w1, h1⟩
    · rw [if_neg hwt] at h ⊢
      exact hnext _ _ h

theorem wpN_front {nd : Nat → Bool} (hs : Region.noSelect ops = true) (hQ : ∀ c a d v w, Q (.panic c) (Act.put a d v) w → Q (.panic c) a w) (k : Nat) :
    ∀ (F : List Nat) (l : List Oper) (listed : Array Bool) (a : Act) (w : World), l.map some = F.map (fun i => ops[i]?) → frontB md ops nd F listed = true → C w →
      wpQuiet P ops C (fun a' => wpN P md ops Q C nd k (listAll F listed) a' w) l a → wpN P md ops Q C nd (F.length + k) listed a w
  | [], l, listed, a, w, h1, _, _, h => by
    have : l = [] := by simpa using h1
    subst this
    have h' : wpN P md ops Q C nd k listed a w := h
    rw [List.length_nil, Nat.zero_add]; exact h'
  | i :: F, [], _, _, _, h1, _, _, _ => by simp at h1
  | i :: F, o :: l, listed, a, w, h1, hB, hC, h => by
    simp only [List.map_cons, List.cons.injEq] at h1
    obtain ⟨ho, h1⟩ := h1
    simp only [frontB, Bool.and_eq_true] at hB
    obtain ⟨⟨⟨⟨hr, hf⟩, hw⟩, hc⟩, hB⟩ := hB
    rw [← ho] at hc
    simp only [Option.map_some, Option.getD_some] at hc
    rw [List.length_cons, Nat.add_right_comm]
    have key : ∃ v, YieldsIf P ops C o v a ∧ wpQuiet P ops C (fun a' => wpN P md ops Q C nd k (listAll (i :: F) listed) a' w) l (a.put o.dst v) := by
      unfold wpQuiet at h
      by_cases hwt : Region.wanted o (yielded ops a.tmps) = true
      · rw [if_pos hwt] at h
        obtain ⟨v, hv, hn⟩ := h
        exact ⟨v, yields_of_quietAt hc hwt hv, hn⟩
      · rw [if_neg hwt] at h
        exact ⟨undef, .inr ⟨by simpa using hwt, rfl⟩, h⟩
    obtain ⟨v, hy, hn⟩ := key
    exact wpN_first ho.symm hs hQ hw (F.length + k) listed a w (Region.free_spec ho.symm hf) (by simpa using hr) hy hC (wpN_front hs hQ k F l _ _ w h1 hB hC hn)

/-- THE LAW: F: the numbers of those that only read, in an order that serves; T: the numbers of the others, in their forced order; nd: which of those may come up while one of F still waits (behind those the class must hold anew). -/
theorem wp_region_front (C : World → Prop) {id : Nat} {a : Act} {w : World} {l : List Oper} (F T : List Nat) (nd : Nat → Bool) (hm : P.follows .mixedOrders = true)
    (hQ : ∀ c a d v w, Q (.panic c) (Act.put a d v) w → Q (.panic c) a w)
    (hB : (Region.noSelect l.toArray && frontB .any l.toArray nd F (Array.replicate l.length false) && laterB .any l.toArray T (listAll F (Array.replicate l.length false)) && (F.length + T.length == l.length) && F.all (· < l.length) && T.all (· < l.length)) = true)
    (hC : C w.drew)
    (h : wpQuiet P l.toArray C (fun a' => wpTail P l.toArray Q C (T.map fun i => (l.getD i default, nd i)) a' w.drew) (F.map fun i => l.getD i default) a) : (Code.region id l.toArray true).wp P Q a w := by
  simp only [Bool.and_eq_true, beq_iff_eq] at hB
  obtain ⟨⟨⟨⟨⟨hs, hf⟩, ht⟩, hlen⟩, hF1⟩, hT1⟩ := hB
  have pick : ∀ G : List Nat, G.all (· < l.length) = true → (G.map fun i => some (l.getD i default)) = G.map fun i => l.toArray[i]? := by
    intro G hG
    apply List.map_congr_left
    intro i hi
    have := List.all_eq_true.1 hG i hi
    simp only [decide_eq_true_eq] at this
    simp [List.getD, this]
  refine wp_region_any hm (wpN_any _ _ _ _ (nd := nd) (C := C) ?_)
  have h2 := wpN_front (P := P) (Q := Q) (md := .any) (C := C) hs hQ T.length F (F.map fun i => l.getD i default) (Array.replicate l.length false) a w.drew (by rw [List.map_map]; exact pick F hF1) hf hC ?_
  · rw [hlen] at h2
    simpa using h2
  · have mono : ∀ (m : List Oper) (G G' : Act → Prop) (a : Act), (∀ a, G a → G' a) → wpQuiet P l.toArray C G m a → wpQuiet P l.toArray C G' m a := by
      intro m
      induction m with
      | nil => intro G G' a hg hh; exact hg a hh
      | cons o m ih =>
        intro G G' a hg hh
        unfold wpQuiet at hh ⊢
        split
        · rename_i hw; rw [if_pos hw] at hh; exact Oper.quiet_mono (fun a h => ih G G' a hg h) hh
        · rename_i hw; rw [if_neg hw] at hh; exact ih G G' _ hg hh
    exact mono _ _ _ a (fun a' h' => wpN_tail T _ _ a' _ (by rw [List.map_map]; exact pick T hT1) (by rw [List.map_map]; rfl) ht h') h

/-- What is asked behind one operation of the tail. -/
def tailQ (P : Program) (ops : Array Oper) (Q : Exit → Act → World → Prop) (C : World → Prop) (b : Bool) (rest : List (Oper × Bool)) : Exit → Act → World → Prop := fun e a' w' =>
  match e with | .normal => (b = true → C w') ∧ wpTail P ops Q C rest a' w' | .panic c => Q (.panic c) a' w' | .outgrown => Q .outgrown a' w' | _ => False
theorem wpTail_cons {o : Oper} {b : Bool} {rest : List (Oper × Bool)} {a : Act} {w : World} (h : wpList P ops (tailQ P ops Q C b rest) [o] a w) : wpTail P ops Q C ((o, b) :: rest) a w := h
theorem tailQ_normal {b : Bool} {rest : List (Oper × Bool)} {a : Act} {w : World} (h1 : b = true → C w) (h2 : wpTail P ops Q C rest a w) : tailQ P ops Q C b rest .normal a w := ⟨h1, h2⟩
theorem wpTail_nil {a : Act} {w : World} (h : Q .normal a w) : wpTail P ops Q C [] a w := h

/-- A world of the class, as a thing of its own (so that the walk's rules may speak of it). -/
structure WC (C : World → Prop) where
  w : World
  h : C w

/-- The same, the class said as the walk can use it: lay the facts as 'forall p : WC C, p.w.cell? .. = ..', and 'Nonempty (WC C)'. -/
theorem wp_region_front' (C : World → Prop) {id : Nat} {a : Act} {w : World} {l : List Oper} (F T : List Nat) (nd : Nat → Bool) (hm : P.follows .mixedOrders = true)
    (hQ : ∀ c a d v w, Q (.panic c) (Act.put a d v) w → Q (.panic c) a w)
    (hB : (Region.noSelect l.toArray && frontB .any l.toArray nd F (Array.replicate l.length false) && laterB .any l.toArray T (listAll F (Array.replicate l.length false)) && (F.length + T.length == l.length) && F.all (· < l.length) && T.all (· < l.length)) = true)
    (hC : C w.drew)
    (h : wpQuiet P l.toArray (fun w' => ∃ p : WC C, w' = p.w) (fun a' => wpTail P l.toArray Q C (T.map fun i => (l.getD i default, nd i)) a' w.drew) (F.map fun i => l.getD i default) a) : (Code.region id l.toArray true).wp P Q a w := by
  have e : (fun w' => ∃ p : WC C, w' = p.w) = C := by
    funext w'
    exact propext ⟨fun ⟨p, hp⟩ => hp ▸ p.h, fun h => ⟨⟨w', h⟩, rfl⟩⟩
  rw [e] at h
  exact wp_region_front C F T nd hm hQ hB hC h

/-- One calm operation by hand: its value, in every world of the class. -/
theorem wpQuiet_by {o : Oper} {rest : List Oper} {a : Act} {G : Act → Prop} (v : Value) (hg : o.guard = none) (h1 : ∀ w', C w' → o.quietAt P a C w' v)
    (h2 : ∀ K : Act → Prop, (∀ a, wpQuiet P ops C G rest a → K a) → K (a.put o.dst v)) : wpQuiet P ops C G (o :: rest) a := by
  unfold wpQuiet
  have hw : Region.wanted o (yielded ops a.tmps) = true := by simp [Region.wanted, hg]
  rw [if_pos hw]
  exact ⟨v, h1, h2 _ (fun _ h => h)⟩
end

section
variable {P : Program} {ops : Array Oper} {Q : Exit → Act → World → Prop} {md : Region.Mode} {C : World → Prop} {nd : Nat → Bool}

/-- What is asked behind operation i, k others to come. -/
def tailN (P : Program) (md : Region.Mode) (ops : Array Oper) (Q : Exit → Act → World → Prop) (C : World → Prop) (nd : Nat → Bool) (k : Nat) (listed : Array Bool) (i : Nat) : Exit → Act → World → Prop := fun e a' w' =>
  match e with | .normal => (nd i = true → C w') ∧ wpN P md ops Q C nd k (listed.setIfInBounds i true) a' w' | .panic c => Q (.panic c) a' w' | .outgrown => Q .outgrown a' w' | _ => False
theorem tailN_normal {k : Nat} {listed : Array Bool} {i : Nat} {a : Act} {w : World} (h1 : C w) (h2 : wpN P md ops Q C nd k (listed.setIfInBounds i true) a w) : tailN P md ops Q C nd k listed i .normal a w := ⟨fun _ => h1, h2⟩

theorem wpN_run {k i : Nat} {listed : Array Bool} {o : Oper} {a : Act} {w : World} (ho : ops[i]? = some o) (h : wpList P ops (tailN P md ops Q C nd k listed i) [o] a w) :
    wpOp P ops Q i (fun a' w' => (nd i = true → C w') ∧ wpN P md ops Q C nd k (listed.setIfInBounds i true) a' w') a w := by
  unfold wpOp
  simp only [ho]
  unfold wpList at h
  have hnext : ∀ a' w', tailN P md ops Q C nd k listed i .normal a' w' → (nd i = true → C w') ∧ wpN P md ops Q C nd k (listed.setIfInBounds i true) a' w' := fun a' w' h' => h'
  by_cases hwt : Region.wanted o (yielded ops a.tmps) = true
  · rw [if_pos hwt] at h ⊢
    rcases h with h | ⟨ha, hl⟩
    · refine .inl ?_
      unfold Oper.wp at h ⊢
      generalize (execOp a.eval o).run P w = r at h
      cases r with
      | ok x w' =>
        cases x <;> simp only [Oper.upon, wpList] at h ⊢
        case value u => exact hnext _ _ h
        case skip => exact hnext _ _ h
        case defer d => exact hnext _ _ h
        case enter f args =>
          refine Calls.mono h fun e w'' he => ?_
          cases e with
          | returned u => exact hnext _ _ he
          | panicked c => exact he
          | outgrown =>
            obtain ⟨a1, w1, h1⟩ := he
            exact ⟨a1, w1, h1⟩
        case row row args => exact Rows.mono h fun u w'' he => hnext _ _ he
      | halt x w' =>
        cases x <;> simp only [Oper.upon] at h ⊢
        case panic u => exact h
    · refine .inr ⟨ha, ?_⟩
      obtain ⟨a1, w1, h1⟩ := hl
      exact ⟨a1, w1, h1⟩
  · rw [if_neg hwt] at h ⊢
    exact hnext _ _ h

theorem wpN_one {k i : Nat} {listed : Array Bool} {o : Oper} {a : Act} {w : World} (hr : Region.ready md ops listed = [i]) (ho : ops[i]? = some o)
    (h : wpList P ops (tailN P md ops Q C nd k listed i) [o] a w) : wpN P md ops Q C nd (k + 1) listed a w := by
  refine ⟨fun h0 => (by rw [hr] at h0; cases h0), fun j hj => ?_⟩
  rw [hr] at hj
  simp only [List.mem_singleton] at hj
  subst hj
  exact wpN_run ho h
theorem wpN_two {k i j : Nat} {listed : Array Bool} {o o' : Oper} {a : Act} {w : World} (hr : Region.ready md ops listed = [i, j]) (ho : ops[i]? = some o) (ho' : ops[j]? = some o')
    (h : wpList P ops (tailN P md ops Q C nd k listed i) [o] a w) (h' : wpList P ops (tailN P md ops Q C nd k listed j) [o'] a w) : wpN P md ops Q C nd (k + 1) listed a w := by
  refine ⟨fun h0 => (by rw [hr] at h0; cases h0), fun x hx => ?_⟩
  rw [hr] at hx
  simp only [List.mem_cons, List.not_mem_nil, or_false] at hx
  rcases hx with rfl | rfl
  · exact wpN_run ho h
  · exact wpN_run ho' h'
theorem wpN_none {listed : Array Bool} {a : Act} {w : World} (hr : Region.ready md ops listed = []) (h : Q .normal a w) : wpN P md ops Q C nd 0 listed a w := ⟨hr, h⟩

/-- The calm ones first, whatever order behind them. -/
theorem wp_region_frontN (C : World → Prop) {id : Nat} {a : Act} {w : World} {l : List Oper} (F : List Nat) (k : Nat) (nd : Nat → Bool) (hm : P.follows .mixedOrders = true)
    (hQ : ∀ c a d v w, Q (.panic c) (Act.put a d v) w → Q (.panic c) a w)
    (hB : (Region.noSelect l.toArray && frontB .any l.toArray nd F (Array.replicate l.length false) && (F.length + k == l.length) && F.all (· < l.length)) = true)
    (hC : C w.drew)
    (h : wpQuiet P l.toArray (fun w' => ∃ p : WC C, w' = p.w) (fun a' => wpN P .any l.toArray Q C nd k (listAll F (Array.replicate l.length false)) a' w.drew) (F.map fun i => l.getD i default) a) : (Code.region id l.toArray true).wp P Q a w := by
  have e : (fun w' => ∃ p : WC C, w' = p.w) = C := by
    funext w'
    exact propext ⟨fun ⟨p, hp⟩ => hp ▸ p.h, fun h => ⟨⟨w', h⟩, rfl⟩⟩
  rw [e] at h
  simp only [Bool.and_eq_true, beq_iff_eq, List.all_eq_true, decide_eq_true_eq] at hB
  obtain ⟨⟨⟨hs, hf⟩, hlen⟩, hF⟩ := hB
  have pick : ∀ (L : List Nat), (∀ i ∈ L, i < l.length) → L.map (fun i => some (l.getD i default)) = L.map (fun i => l.toArray[i]?) := by
    intro L hL
    refine List.map_congr_left fun i hi => ?_
    have := hL i hi
    simp [List.getD, this]
  refine wp_region_any hm (wpN_any _ _ _ _ (nd := nd) (C := C) ?_)
  have h2 := wpN_front (P := P) (Q := Q) (md := .any) (C := C) hs hQ k F (F.map fun i => l.getD i default) (Array.replicate l.length false) a w.drew (by rw [List.map_map]; exact pick F hF) hf hC h
  rw [hlen] at h2
  simpa using h2
end
theorem wpN_frontW {P : Program} {Q : Exit → Act → World → Prop} (C : World → Prop) {a : Act} {w : World} {l : List Oper} {nd : Nat → Bool} (F : List Nat) (k : Nat) (listed : Array Bool)
    (hQ : ∀ c a d v w, Q (.panic c) (Act.put a d v) w → Q (.panic c) a w)
    (hB : (Region.noSelect l.toArray && frontB .any l.toArray nd F listed && F.all (· < l.length)) = true)
    (hC : C w)
    (h : wpQuiet P l.toArray (fun w' => ∃ p : WC C, w' = p.w) (fun a' => wpN P .any l.toArray Q C nd k (listAll F listed) a' w) (F.map fun i => l.getD i default) a) : wpN P .any l.toArray Q C nd (F.length + k) listed a w := by
  have e : (fun w' => ∃ p : WC C, w' = p.w) = C := by
    funext w'
    exact propext ⟨fun ⟨p, hp⟩ => hp ▸ p.h, fun h => ⟨⟨w', h⟩, rfl⟩⟩
  rw [e] at h
  simp only [Bool.and_eq_true, List.all_eq_true, decide_eq_true_eq] at hB
  obtain ⟨⟨hs, hf⟩, hF⟩ := hB
  have pick : ∀ (L : List Nat), (∀ i ∈ L, i < l.length) → L.map (fun i => some (l.getD i default)) = L.map (fun i => l.toArray[i]?) := by
    intro L hL
    refine List.map_congr_left fun i hi => ?_
    have := hL i hi
    simp [List.getD, this]
  exact wpN_front (P := P) (Q := Q) (md := .any) (C := C) hs hQ k F (F.map fun i => l.getD i default) listed a w (by rw [List.map_map]; exact pick F hF) hf hC h

end Go.Proofs.Ytjcgkplphiedjaa

namespace Go.Proofs.Ytjcgkplphiedjaa
open Go.RowKit

theorem Cl.own.set {w : World} {R g : Nat} {t : TypeId} {cs : List Value} {x : Cl} (h : Cl.own w R x) (hg : Blk w g t cs) (h1 : t ≠ 33) (h2 : t ≠ 61) (i : Nat) (u : Value) : Cl.own (w.setCell ⟨g, i, none⟩ u) R x :=
  ⟨own_setCell_blk h.h hg h1 i u, own_setCell_blk h.b hg h2 i u, fun y hy => own_setCell_blk (h.l y hy) hg h1 i u⟩

set_option maxRecDepth 20000 in
set_option maxHeartbeats 4000000 in
theorem lawCopied_any (A : Option Addr) (n c : Nat) (cs : List Cl) (w : World) (hr : Rd w w.heap.size 4 A n (ccells cs)) (hok : ∀ x ∈ cs, Cl.ok w x) (hn : n * 72 ≤ 140737488351232) :
    Calls Try.prog 14 #[.agg #[.slice A n c]] w fun e w' => ∃ A' c' cs', e = .returned (.agg #[.slice A' n c']) ∧ w'.ownsRow w.heap.size 45 4 (.slice A' n c') n (ccells cs') ∧ cs'.map Cl.core = cs.map Cl.core ∧ (∀ x ∈ cs', Cl.own w' w.heap.size x) ∧ Below w.heap.size w w' := by
  obtain ⟨j0, hj, hy0, hy1, hy2⟩ := info_parts Try.info45
  have HL := Lib.hid hr
  have HK := Lib.hid hok
  have hmb := hr.2.1
  have hlen : cs.length = n := by have := hr.1; rw [ccells_length] at this; omega
  have HN := Lib.hid hlen
  clear hr hok hlen
  go_enter Try.func14, Try.ntmps14
  go_upto_region 2 with (fail)
  obtain ⟨hb3, h1, h2, h3, hs3⟩ := three_alloc w 37 37 37 [.slice A n c] [.slice none 0 0] [.slice none 0 0]
  generalize World.alloc (World.alloc (World.alloc _ _) _) _ = w3 at *
  generalize hR : w.heap.size = R at *
  have HRR := Lib.hid hR
  clear hR
  have HB3 := Lib.hid hb3
  have H1 := Lib.hid h1
  have H2 := Lib.hid h2
  have H3 := Lib.hid h3
  clear hb3 h1 h2 h3 hs3
  go_wp2
  go_loopg [4] n (fun gk u4 wr => ∃ (k : Nat) (acc : List Cl) (vb : Value), u4 = .int .i64 k ∧ k ≤ n ∧ gk = n - k ∧ Hid (Below R w wr) ∧ Hid (Blk wr R 37 [.slice A n c]) ∧ Hid (Blk wr (R + 1) 37 [.slice none 0 0]) ∧
    Hid (Blk wr (R + 1 + 1) 37 [vb]) ∧ Hid (wr.ownsRow R 45 4 vb k (ccells acc)) ∧ Hid (acc.map Cl.core = (cs.take k).map Cl.core) ∧ Hid (∀ y ∈ acc, Cl.own wr R y))
  case atStart => exact ⟨0, [], .slice none 0 0, rfl, Nat.zero_le _, by omega, HB3, H1, H2, H3, World.ownsRow_nil _ _ _ _, Lib.hid rfl, Lib.hid (by simp)⟩
  case round =>
    clear HB3 H1 H2 H3
    obtain ⟨k, acc, vb, rfl, hk, hgk, HB, H1, H2, H3, HV, HC, HW⟩ := hrel
    have HG := Lib.hid hgk
    clear hgk
    have f0 := H1.out.cell 0
    simp only [List.getElem?_cons_zero] at f0
    by_cases hlt : k < n
    · obtain ⟨B', off, hk1, rfl, hB, hc⟩ := (HL.out.below HB.out).at Cl.cells 4 (fun _ => rfl) (by omega) k hlt
      have c0 := hc 0 _ (by omega) rfl
      have c1 := hc 1 _ (by omega) rfl
      have c2 := hc 2 _ (by omega) rfl
      have c3 := hc 3 _ (by omega) rfl
      rw [Nat.add_zero] at c0
      clear hc
      have hlkk := HK.out cs[k] (List.getElem_mem hk1)
      have HTK := Lib.hid (take_snoc cs k hk1)
      generalize cs[k] = z at *
      have HZ : Hid (Cl.ok wr z) := Lib.hid (hlkk.up (HRR.out ▸ HB.out))
      clear hlkk
      go_upto_region 5 with (fail)
      clear f0
      have hs0 : R + 1 + 1 < wr.heap.size := H3.out.lt
      have hbd : Below wr.heap.size wr wr.drew := (Below.refl _ _).drew
      have HBd : Hid (Below R w wr.drew) := Lib.hid HB.out.drew
      have H1d := Lib.hid H1.out.drew
      have H2d := Lib.hid H2.out.drew
      have H3d := Lib.hid H3.out.drew
      have HVd : Hid (wr.drew.ownsRow R 45 4 vb k (ccells acc)) := Lib.hid HV.out.drew
      have HWd : Hid (∀ y ∈ acc, Cl.own wr.drew R y) := Lib.hid fun y hy => (HW.out y hy).below hbd
      have HZd : Hid (Cl.ok wr.drew z) := Lib.hid (HZ.out.up hbd)
      have e0 : wr.drew.cell? ⟨B', off + k * 4, none⟩ = some (.string z.h.p) := c0
      have e1 : wr.drew.cell? ⟨B', off + k * 4 + 1, none⟩ = some (.slice z.h.A z.h.n z.h.c) := c1
      have e2 : wr.drew.cell? ⟨B', off + k * 4 + 2, none⟩ = some (.int .i64 z.h.o) := c2
      have e3 : wr.drew.cell? ⟨B', off + k * 4 + 3, none⟩ = some (.slice z.A z.n z.c) := c3
      have hs1 : R + 1 + 1 < wr.drew.heap.size := hs0
      clear c0 c1 c2 c3 hbd HB H1 H2 H3 HV HW HZ hs0
      generalize hdw : wr.drew = wd at *
      obtain ⟨C, hCi⟩ : ∃ C : World → Prop, ∀ w', C w' ↔ (w'.cell? ⟨R + 1 + 1, 0, none⟩ = some vb ∧ w'.cell? ⟨R, 0, none⟩ = some (.slice (some ⟨B', off, none⟩) n c) ∧ w'.cell? ⟨B', off + k * 4, none⟩ = some (.string z.h.p) ∧
        w'.cell? ⟨B', off + k * 4 + 1, none⟩ = some (.slice z.h.A z.h.n z.h.c) ∧ w'.cell? ⟨B', off + k * 4 + 2, none⟩ = some (.int .i64 z.h.o) ∧ w'.cell? ⟨B', off + k * 4 + 3, none⟩ = some (.slice z.A z.n z.c)) := ⟨_, fun _ => Iff.rfl⟩
      have q3 := H3d.out.cell 0
      have q1 := H1d.out.cell 0
      simp only [List.getElem?_cons_zero] at q3 q1
      have hC : C wd := (hCi _).2 ⟨q3, q1, e0, e1, e2, e3⟩
      have HCb : Hid (∀ w', Below wd.heap.size wd w' → C w') := Lib.hid fun w' hb => (hCi _).2 ⟨cell_later hb q3, cell_later hb q1, cell_later hb e0, cell_later hb e1, cell_later hb e2, cell_later hb e3⟩
      have HCg : Hid (∀ w', Below R w w' → Blk w' R 37 [.slice (some ⟨B', off, none⟩) n c] → Blk w' (R + 1 + 1) 37 [vb] → C w') := Lib.hid fun w' hb b1 b3 => (hCi _).2
        ⟨b3.cell 0, b1.cell 0, (hb.cell hB).trans ((HBd.out.cell hB).symm.trans e0), (hb.cell hB).trans ((HBd.out.cell hB).symm.trans e1), (hb.cell hB).trans ((HBd.out.cell hB).symm.trans e2), (hb.cell hB).trans ((HBd.out.cell hB).symm.trans e3)⟩
      have k3 : ∀ p : WC C, p.w.cell? ⟨R + 1 + 1, 0, none⟩ = some vb := fun p => ((hCi _).1 p.h).1
      have k1 : ∀ p : WC C, p.w.cell? ⟨R, 0, none⟩ = some (.slice (some ⟨B', off, none⟩) n c) := fun p => ((hCi _).1 p.h).2.1
      have g0 : ∀ p : WC C, p.w.cell? ⟨B', off + k * 4, none⟩ = some (.string z.h.p) := fun p => ((hCi _).1 p.h).2.2.1
      have g1 : ∀ p : WC C, p.w.cell? ⟨B', off + k * 4 + 1, none⟩ = some (.slice z.h.A z.h.n z.h.c) := fun p => ((hCi _).1 p.h).2.2.2.1
      have g2 : ∀ p : WC C, p.w.cell? ⟨B', off + k * 4 + 2, none⟩ = some (.int .i64 z.h.o) := fun p => ((hCi _).1 p.h).2.2.2.2.1
      have g3 : ∀ p : WC C, p.w.cell? ⟨B', off + k * 4 + 3, none⟩ = some (.slice z.A z.n z.c) := fun p => ((hCi _).1 p.h).2.2.2.2.2
      have kn : Nonempty (WC C) := ⟨⟨_, hC⟩⟩
      clear hCi e0 e1 e2 e3 q3 q1
      refine wp_region_front' C [0, 1, 2, 3, 4, 5, 6] [7, 8, 9, 10, 11] (fun j => decide (j < 11)) (by kernel_rfl) (fun _ _ d _ _ h => by cases d <;> exact h) (by kernel_rfl) (hdw ▸ hC) ?_
      simp only [List.map_cons, List.map_nil, List.getD_cons_zero, List.getD_cons_succ]
      repeat (go_big_quiet_step (fail))
      refine wpQuiet_nil ?_
      clear k3 k1 g0 g1 g2 g3 kn hC
      rw [hdw]
      clear hdw
      refine wpTail_cons ?_
      go_wp2_with fail
      refine (refCopied_any z wd HZd.out).mono ?_
      rintro e w5 ⟨y, rfl, hcy, hoy, hb5⟩
      obtain ⟨⟨yp, yA, yn, yc, yo, yes⟩, yB, ym, yd, yls⟩ := y
      dsimp only [Cl.cells]
      have hs5 : R + 1 + 1 < w5.heap.size := by have := hb5.size; omega
      have K1 := Lib.hid (H1d.out.below hb5 (by omega))
      have K2 := Lib.hid (H2d.out.below hb5 (by omega))
      have K3 := Lib.hid (H3d.out.below hb5 (by omega))
      have KB := Lib.hid (HBd.out.trans (hb5.mono (by omega)))
      have hown := own_below HVd.out hb5
      have KW : Hid (∀ y ∈ acc, Cl.own w5 R y) := Lib.hid fun y hy => (HWd.out y hy).below hb5
      have KY := Lib.hid (Cl.own.le hoy (show R ≤ wd.heap.size by omega))
      have KC := Lib.hid hcy
      have hC5 := HCb.out _ hb5
      have hC6 := HCb.out _ (hb5.alloc hb5.size (.cells (Cl.cells ⟨⟨yp, yA, yn, yc, yo, yes⟩, yB, ym, yd, yls⟩).toArray 45))
      have HC5 := Lib.hid hC5
      have HC6 := Lib.hid hC6
      clear hC5 hC6 hb5 hoy hcy H1d H2d H3d HBd HVd HWd HZd HCb
      go_wp2
      refine tailQ_normal (fun _ => HC5.out) ?_
      refine wpTail_cons ?_
      go_wp2
      refine tailQ_normal (fun _ => HC6.out) ?_
      refine wpTail_cons ?_
      refine wpList_append_own _ rfl _ _ 35 rfl R 45 j0 _ 4 72 Try.underlying35 hj hy0 hy1 hy2 rfl (by decide) _ _ _ rfl (hown.alloc _) ⟨w5.heap.size, 0, none⟩ 1 1 (Cl.cells ⟨⟨yp, yA, yn, yc, yo, yes⟩, yB, ym, yd, yls⟩) rfl rfl (fun j u h => new_cells _ _ _ j u h) (Cl.one _) (by unfold maxLen; omega) (by omega) (by simp; omega) ?_
      intro v7 w7 hown7 hg7 _
      obtain ⟨A7, d7, rfl, hn7⟩ := own_slice hown7
      have a1 := (K1.out.alloc (.cells (Cl.cells ⟨⟨yp, yA, yn, yc, yo, yes⟩, yB, ym, yd, yls⟩).toArray 45)).grown hg7 (own_blk_ne hown K1.out (by decide))
      have a2 := (K2.out.alloc (.cells (Cl.cells ⟨⟨yp, yA, yn, yc, yo, yes⟩, yB, ym, yd, yls⟩).toArray 45)).grown hg7 (own_blk_ne hown K2.out (by decide))
      have a3 := (K3.out.alloc (.cells (Cl.cells ⟨⟨yp, yA, yn, yc, yo, yes⟩, yB, ym, yd, yls⟩).toArray 45)).grown hg7 (own_blk_ne hown K3.out (by decide))
      have hba := (Below.refl w5.heap.size w5).alloc (Nat.le_refl _) (.cells (Cl.cells ⟨⟨yp, yA, yn, yc, yo, yes⟩, yB, ym, yd, yls⟩).toArray 45)
      have BL := (KB.out.alloc (by omega) (.cells (Cl.cells ⟨⟨yp, yA, yn, yc, yo, yes⟩, yB, ym, yd, yls⟩).toArray 45)).grown hg7 (by simp; omega) (fun q hq => (hown.lt q hq).1)
      have W7 : ∀ q ∈ acc ++ [(⟨⟨yp, yA, yn, yc, yo, yes⟩, yB, ym, yd, yls⟩ : Cl)], Cl.own w7 R q := by
        intro q hq
        rcases List.mem_append.1 hq with hq | hq
        · exact ((KW.out q hq).below hba).kept (hown.alloc _) hg7
        · rw [List.mem_singleton.1 hq]
          exact (KY.out.below hba).kept (hown.alloc _) hg7
      have C7 : (acc ++ [(⟨⟨yp, yA, yn, yc, yo, yes⟩, yB, ym, yd, yls⟩ : Cl)]).map Cl.core = (cs.take (k + 1)).map Cl.core := by
        rw [HTK.out, List.map_append, List.map_append, HC.out]
        simp only [List.map_cons, List.map_nil, KC.out]
      have V7 : w7.ownsRow R 45 4 (.slice A7 (k + 1) d7) (k + 1) (ccells (acc ++ [(⟨⟨yp, yA, yn, yc, yo, yes⟩, yB, ym, yd, yls⟩ : Cl)])) := by
        rw [ccells_append]; simpa [ccells] using hown7
      have hC7 := Lib.hid (HCg.out w7 BL a1 a3)
      have z3 := a3.frozen 0
      have y3 := a3.cell 0
      simp only [List.getElem?_cons_zero] at y3
      have hl7 := a3.lt
      have HA1 := Lib.hid a1
      have HA2 := Lib.hid a2
      have HA3 := Lib.hid a3
      have HBL := Lib.hid BL
      have HW7 := Lib.hid W7
      have HC7 := Lib.hid C7
      have HV7 := Lib.hid V7
      clear a1 a2 a3 BL W7 C7 V7 hown7 hown hg7 hba K1 K2 K3 KW KB KY KC HC HTK HC5 HC6 HCg
      go_wp2
      refine tailQ_normal (fun _ => hC7.out) ?_
      refine wpTail_cons ?_
      go_wp2
      refine tailQ_normal (fun _ => hC7.out) ?_
      refine wpTail_cons ?_
      go_wp2
      refine tailQ_normal (fun h => by cases h) ?_
      refine wpTail_nil ?_
      have HG1 := Lib.hid (HA1.out.far (p := ⟨R + 1 + 1, 0, none⟩) (by simp; omega) (.slice A7 (k + 1) d7))
      have HG2 := Lib.hid (HA2.out.far (p := ⟨R + 1 + 1, 0, none⟩) (by simp) (.slice A7 (k + 1) d7))
      have HG3 := Lib.hid (HA3.out.set_ 0 (.slice A7 (k + 1) d7))
      have HVG := Lib.hid (own_setCell_blk HV7.out HA3.out (by decide) 0 (.slice A7 (k + 1) d7))
      have HBG := Lib.hid (HBL.out.setCell (p := ⟨R + 1 + 1, 0, none⟩) (by simp; omega) (.slice A7 (k + 1) d7))
      have HWG : Hid (∀ q ∈ acc ++ [(⟨⟨yp, yA, yn, yc, yo, yes⟩, yB, ym, yd, yls⟩ : Cl)], Cl.own (w7.setCell ⟨R + 1 + 1, 0, none⟩ (.slice A7 (k + 1) d7)) R q) := Lib.hid fun q hq => (HW7.out q hq).set HA3.out (by decide) (by decide) 0 _
      simp only [List.set_cons_zero] at HG3
      clear HA1 HA2 HA3 HBL HV7 HW7 z3 y3 hl7 hC7
      generalize World.setCell _ _ _ = w8 at *
      go_wp2
      go_roundg (n - (k + 1))
      case measure => have := HG.out; omega
      case rel => exact ⟨k + 1, _, _, by go_num, by omega, rfl, HBG, HG1, HG2, HG3, HVG, HC7, HWG⟩
    · obtain rfl : k = n := by omega
      have hall : cs.take k = cs := List.take_of_length_le (by have := HN.out; omega)
      rw [hall] at HC
      obtain ⟨Ab, cb, rfl, hnb2⟩ := own_slice HV.out
      have q0 := H3.out.cell 0
      have r0 := H2.out.cell 0
      have s0 := H2.out.frozen 0
      have hl2 := H2.out.lt
      simp only [List.getElem?_cons_zero] at q0 r0
      have D1 := H2.out.set_ 0 (.slice Ab k cb)
      have E2 := own_setCell_blk HV.out H2.out (by decide) 0 (.slice Ab k cb)
      have E3 : ∀ q ∈ acc, Cl.own (wr.setCell ⟨R + 1, 0, none⟩ (.slice Ab k cb)) R q := fun q hq => (HW.out q hq).set H2.out (by decide) (by decide) 0 _
      have E4 := HB.out.setCell (p := ⟨R + 1, 0, none⟩) (by simp) (.slice Ab k cb)
      have p0 := D1.cell 0
      simp at p0
      have HE2 := Lib.hid E2
      have HE3 := Lib.hid E3
      have HE4 := Lib.hid E4
      clear E2 E3 E4 D1 HB H1 H2 H3 HV HW
      go_wp2
      refine bodyPost_ret (v := .agg #[.slice Ab k cb]) ?_ rfl ⟨Ab, cb, acc, rfl, ?_, HC.out, ?_, ?_⟩
      · simp [results, Try.results14, go_sem, p0]
      · rw [HRR.out]; exact HE2.out
      · rw [HRR.out]; exact HE3.out
      · rw [HRR.out]; exact HE4.out
end Go.Proofs.Ytjcgkplphiedjaa
