/- Constants, lines of a proof: data, cells, what reads, what is owned. -/
import Derived.Test.YtjcgkplphiedjaaDoorTB1
namespace Go.Proofs.YtjcgkplphiedjaaDoorT
open Go.RowKit

theorem Tryd.info68 : (Tryd.prog.info? 68).map (fun i => (i.zero, i.size, i.bytes)) = some (some (.agg #[.int .i64 0, .int .i64 0, .string ⟨#[]⟩]), 3, 32) := by kernel_rfl
theorem Tryd.info3 : (Tryd.prog.info? 3).map (fun i => (i.zero, i.size, i.bytes)) = some (some (.int .i64 0), 1, 8) := by kernel_rfl
theorem Tryd.info66 : (Tryd.prog.info? 66).map (fun i => (i.zero, i.size, i.bytes)) = some (some (.agg #[.string ⟨#[]⟩, .slice none 0 0, .int .i64 0, .slice none 0 0, .slice none 0 0]), 5, 96) := by kernel_rfl

/-- A constant. -/
structure Cn where
  k : Int
  i : Int
  t : ByteArray
def Cn.cells (x : Cn) : List Value := [.int .i64 x.k, .int .i64 x.i, .string x.t]
def kcells (l : List Cn) : List Value := l.flatMap Cn.cells
def icells (l : List Int) : List Value := l.map (.int .i64 ·)
theorem kcells_length (l : List Cn) : (kcells l).length = l.length * 3 := flat_length Cn.cells 3 (fun _ => rfl) l
theorem kcells_append (a b : List Cn) : kcells (a ++ b) = kcells a ++ kcells b := by simp [kcells]
theorem icells_length (l : List Int) : (icells l).length = l.length * 1 := by simp [icells]
theorem icells_append (a b : List Int) : icells (a ++ b) = icells a ++ icells b := by simp [icells]
theorem cons_one (l : List Cn) : ∀ u ∈ kcells l, u.oneCell' = true := by
  intro u hu
  obtain ⟨x, _, hu⟩ := List.mem_flatMap.1 hu
  simp only [Cn.cells, List.mem_cons, List.not_mem_nil, or_false] at hu
  rcases hu with rfl | rfl | rfl <;> rfl
theorem ints_one (l : List Int) : ∀ u ∈ icells l, u.oneCell' = true := by
  intro u hu
  obtain ⟨x, _, rfl⟩ := List.mem_map.1 hu
  rfl
theorem Rd.ints {w : World} {B : Nat} {A : Option Addr} {n : Nat} {l : List Int} (h : Rd w B 1 A n (icells l)) (k : Nat) (hk : k < n) :
    ∃ b o, ∃ h2 : k < l.length, A = some ⟨b, o, none⟩ ∧ b < B ∧ w.cell? ⟨b, o + k, none⟩ = some (.int .i64 l[k]) := by
  obtain ⟨h1, h2, h3⟩ := h
  obtain ⟨b, o, hA, hb, hc⟩ := h3 (by omega)
  rw [icells_length] at h1
  have hk' : k < l.length := by omega
  exact ⟨b, o, hk', hA, hb, hc k _ (by simp [icells, List.getElem?_eq_getElem hk'])⟩

/-- A line of a proof: a fact, a rule, a substitution, the lines that it comes from. -/
structure Ln where
  p : ByteArray
  A : Option Addr
  n : Nat
  c : Nat
  r : Int
  B : Option Addr
  m : Nat
  d : Nat
  F : Option Addr
  k : Nat
  e : Nat
  xs : List Cn
  ss : List Cn
  fs : List Int
def Ln.cells (x : Ln) : List Value := [.string x.p, .slice x.A x.n x.c, .int .i64 x.r, .slice x.B x.m x.d, .slice x.F x.k x.e]
def ncells (l : List Ln) : List Value := l.flatMap Ln.cells
theorem ncells_length (l : List Ln) : (ncells l).length = l.length * 5 := flat_length Ln.cells 5 (fun _ => rfl) l
theorem ncells_append (a b : List Ln) : ncells (a ++ b) = ncells a ++ ncells b := by simp [ncells]
theorem Ln.one (x : Ln) : ∀ u ∈ x.cells, u.oneCell' = true := by
  intro u hu
  simp only [Ln.cells, List.mem_cons, List.not_mem_nil, or_false] at hu
  rcases hu with rfl | rfl | rfl | rfl | rfl <;> rfl
theorem lns_one (l : List Ln) : ∀ u ∈ ncells l, u.oneCell' = true := by
  intro u hu
  obtain ⟨x, _, hu⟩ := List.mem_flatMap.1 hu
  exact Ln.one x u hu
/-- What a line says, without where its lists lie. -/
def Ln.core (x : Ln) : ByteArray × List Cn × Int × List Cn × List Int := (x.p, x.xs, x.r, x.ss, x.fs)
/-- What stands behind a line. -/
structure Ln.ok (w : World) (x : Ln) : Prop where
  a : Rd w w.heap.size 3 x.A x.n (kcells x.xs)
  s : Rd w w.heap.size 3 x.B x.m (kcells x.ss)
  f : Rd w w.heap.size 1 x.F x.k (icells x.fs)
  an : x.n * 32 ≤ 140737488351232
  sn : x.m * 32 ≤ 140737488351232
  fn : x.k * 8 ≤ 140737488351232
  aA : x.A = none → x.c = 0
  sA : x.B = none → x.d = 0
  fA : x.F = none → x.e = 0
theorem Ln.ok.up {w w' : World} {x : Ln} (h : Ln.ok w x) (hb : Below w.heap.size w w') : Ln.ok w' x := ⟨h.a.up hb hb.size, h.s.up hb hb.size, h.f.up hb hb.size, h.an, h.sn, h.fn, h.aA, h.sA, h.fA⟩
/-- A line whose lists are its own. -/
structure Ln.own (w : World) (R : Nat) (x : Ln) : Prop where
  a : w.ownsRow R 68 3 (.slice x.A x.n x.c) x.n (kcells x.xs)
  s : w.ownsRow R 68 3 (.slice x.B x.m x.d) x.m (kcells x.ss)
  f : w.ownsRow R 3 1 (.slice x.F x.k x.e) x.k (icells x.fs)
theorem Ln.own.below {w w' : World} {R : Nat} {x : Ln} (h : Ln.own w R x) (hb : Below w.heap.size w w') : Ln.own w' R x := ⟨own_below h.a hb, own_below h.s hb, own_below h.f hb⟩
theorem Ln.own.le {w : World} {R R' : Nat} {x : Ln} (h : Ln.own w R x) (hb : R' ≤ R) : Ln.own w R' x := ⟨own_le h.a hb, own_le h.s hb, own_le h.f hb⟩
theorem Ln.own.kept {w w' : World} {R R' n : Nat} {x : Ln} {v : Value} {xs : List Value} (h : Ln.own w R x) (h' : w.ownsRow R' 66 5 v n xs) (hg : w.grownBy w' v.ownBlock) : Ln.own w' R x :=
  ⟨own_kept_types h.a h' (by decide) hg, own_kept_types h.s h' (by decide) hg, own_kept_types h.f h' (by decide) hg⟩
theorem Ln.own.set {w : World} {R g : Nat} {t : TypeId} {cs : List Value} {x : Ln} (h : Ln.own w R x) (hg : Blk w g t cs) (h1 : t ≠ 68) (h2 : t ≠ 3) (i : Nat) (u : Value) : Ln.own (w.setCell ⟨g, i, none⟩ u) R x :=
  ⟨own_setCell_blk h.a hg h1 i u, own_setCell_blk h.s hg h1 i u, own_setCell_blk h.f hg h2 i u⟩

/-- The marks behind a line's lists. -/
def markK : Cn := ⟨77, 0, ⟨#[]⟩⟩
/-- A line whose lists are its own, each with a mark behind its last element. -/
structure Ln.room (w : World) (R : Nat) (x : Ln) : Prop where
  a : w.ownsRow R 68 3 (.slice x.A (x.n + 1) x.c) (x.n + 1) (kcells (x.xs ++ [markK]))
  s : w.ownsRow R 68 3 (.slice x.B (x.m + 1) x.d) (x.m + 1) (kcells (x.ss ++ [markK]))
  f : w.ownsRow R 3 1 (.slice x.F (x.k + 1) x.e) (x.k + 1) (icells (x.fs ++ [77]))
theorem Ln.room.below {w w' : World} {R : Nat} {x : Ln} (h : Ln.room w R x) (hb : Below w.heap.size w w') : Ln.room w' R x := ⟨own_below h.a hb, own_below h.s hb, own_below h.f hb⟩
theorem Ln.room.le {w : World} {R R' : Nat} {x : Ln} (h : Ln.room w R x) (hb : R' ≤ R) : Ln.room w R' x := ⟨own_le h.a hb, own_le h.s hb, own_le h.f hb⟩
theorem Ln.room.kept {w w' : World} {R R' n : Nat} {x : Ln} {v : Value} {xs : List Value} (h : Ln.room w R x) (h' : w.ownsRow R' 66 5 v n xs) (hg : w.grownBy w' v.ownBlock) : Ln.room w' R x :=
  ⟨own_kept_types h.a h' (by decide) hg, own_kept_types h.s h' (by decide) hg, own_kept_types h.f h' (by decide) hg⟩
theorem own_less {w : World} {base e size n c : Nat} {A : Option Addr} {xs ys : List Value} (h : w.ownsRow base e size (.slice A (n + 1) c) (n + 1) (xs ++ ys)) (hl : xs.length = n * size) : w.ownsRow base e size (.slice A n c) n xs := own_pop h hl
theorem Ln.room.own {w : World} {R : Nat} {x : Ln} (h : Ln.room w R x) (h1 : x.xs.length = x.n) (h2 : x.ss.length = x.m) (h3 : x.fs.length = x.k) : Ln.own w R x := by
  refine ⟨?_, ?_, ?_⟩
  · exact own_pop (by simpa only [kcells_append] using h.a) (by rw [kcells_length]; omega)
  · exact own_pop (by simpa only [kcells_append] using h.s) (by rw [kcells_length]; omega)
  · exact own_pop (by simpa only [icells_append] using h.f) (by rw [icells_length]; omega)
theorem Ln.own.ok {w : World} {R : Nat} {x : Ln} (h : Ln.own w R x) (h1 : x.n * 32 ≤ 140737488351232) (h2 : x.m * 32 ≤ 140737488351232) (h3 : x.k * 8 ≤ 140737488351232) : Ln.ok w x :=
  ⟨own_rd h.a, own_rd h.s, own_rd h.f, h1, h2, h3, fun e => own_none (e ▸ h.a), fun e => own_none (e ▸ h.s), fun e => own_none (e ▸ h.f)⟩
end Go.Proofs.YtjcgkplphiedjaaDoorT
