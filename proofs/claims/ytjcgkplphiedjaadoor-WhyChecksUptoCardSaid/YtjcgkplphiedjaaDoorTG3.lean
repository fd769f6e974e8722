/- Constants, lines of a proof: data, cells, what reads, what is owned. | The law's copy of lines. -/
import Derived.Test.YtjcgkplphiedjaaDoorTG1
namespace Go.Proofs.YtjcgkplphiedjaaDoorT
open Go.RowKit

theorem Tryd.info68 : (Tryd.prog.info? 68).map (fun i => (i.zero, i.size, i.bytes)) = some (some (.agg #[.int .i64 0, .int .i64 0, .string ⟨#[]⟩]), 3, 32) := by kernel_rfl
theorem Tryd.info3 : (Tryd.prog.info? 3).map (fun i => (i.zero, i.size, i.bytes)) = some (some (.int .i64 0), 1, 8) := by kernel_rfl
theorem Tryd.info66 : (Tryd.prog.info? 66).map (fun i => (i.zero, i.size, i.bytes)) = some (some (.agg #[.string ⟨#[]⟩, .slice none 0 0, .int .i64 0, .slice none 0 0, .slice none 0 0]), 5, 96) := by kernel_rfl

/-- A constant. -/
structure Cn where
  k : Int
  i : Int
  t : ByteArray
def Cn.cells (x : Cn) : List Value := [.int .i64 x.k, .int .i64 x.i, .string x.t]
def kcells (l : List Cn) : List Value := l.flatMap Cn.cells
def icells (l : List Int) : List Value := l.map (.int .i64 ·)
theorem kcells_length (l : List Cn) : (kcells l).length = l.length * 3 := flat_length Cn.cells 3 (fun _ => rfl) l
theorem kcells_append (a b : List Cn) : kcells (a ++ b) = kcells a ++ kcells b := by simp [kcells]
theorem icells_length (l : List Int) : (icells l).length = l.length * 1 := by simp [icells]
theorem icells_append (a b : List Int) : icells (a ++ b) = icells a ++ icells b := by simp [icells]
theorem cons_one (l : List Cn) : ∀ u ∈ kcells l, u.oneCell' = true := by
  intro u hu
  obtain ⟨x, _, hu⟩ := List.mem_flatMap.1 hu
  simp only [Cn.cells, List.mem_cons, List.not_mem_nil, or_false] at hu
  rcases hu with rfl | rfl | rfl <;> rfl
theorem ints_one (l : List Int) : ∀ u ∈ icells l, u.oneCell' = true := by
  intro u hu
  obtain ⟨x, _, rfl⟩ := List.mem_map.1 hu
  rfl
theorem Rd.ints {w : World} {B : Nat} {A : Option Addr} {n : Nat} {l : List Int} (h : Rd w B 1 A n (icells l)) (k : Nat) (hk : k < n) :
    ∃ b o, ∃ h2 : k < l.length, A = some ⟨b, o, none⟩ ∧ b < B ∧ w.cell? ⟨b, o + k, none⟩ = some (.int .i64 l[k]) := by
  obtain ⟨h1, h2, h3⟩ := h
  obtain ⟨b, o, hA, hb, hc⟩ := h3 (by omega)
  rw [icells_length] at h1
  have hk' : k < l.length := by omega
  exact ⟨b, o, hk', hA, hb, hc k _ (by simp [icells, List.getElem?_eq_getElem hk'])⟩

/-- A line of a proof: a fact, a rule, a substitution, the lines that it comes from. -/
structure Ln where
  p : ByteArray
  A : Option Addr
  n : Nat
  c : Nat
  r : Int
  B : Option Addr
  m : Nat
  d : Nat
  F : Option Addr
  k : Nat
  e : Nat
  xs : List Cn
  ss : List Cn
  fs : List Int
def Ln.cells (x : Ln) : List Value := [.string x.p, .slice x.A x.n x.c, .int .i64 x.r, .slice x.B x.m x.d, .slice x.F x.k x.e]
def ncells (l : List Ln) : List Value := l.flatMap Ln.cells
theorem ncells_length (l : List Ln) : (ncells l).length = l.length * 5 := flat_length Ln.cells 5 (fun _ => rfl) l
theorem ncells_append (a b : List Ln) : ncells (a ++ b) = ncells a ++ ncells b := by simp [ncells]
theorem Ln.one (x : Ln) : ∀ u ∈ x.cells, u.oneCell' = true := by
  intro u hu
  simp only [Ln.cells, List.mem_cons, List.not_mem_nil, or_false] at hu
  rcases hu with rfl | rfl | rfl | rfl | rfl <;> rfl
theorem lns_one (l : List Ln) : ∀ u ∈ ncells l, u.oneCell' = true := by
  intro u hu
  obtain ⟨x, _, hu⟩ := List.mem_flatMap.1 hu
  exact Ln.one x u hu
/-- What a line says, without where its lists lie. -/
def Ln.core (x : Ln) : ByteArray × List Cn × Int × List Cn × List Int := (x.p, x.xs, x.r, x.ss, x.fs)
/-- What stands behind a line. -/
structure Ln.ok (w : World) (x : Ln) : Prop where
  a : Rd w w.heap.size 3 x.A x.n (kcells x.xs)
  s : Rd w w.heap.size 3 x.B x.m (kcells x.ss)
  f : Rd w w.heap.size 1 x.F x.k (icells x.fs)
  an : x.n * 32 ≤ 140737488351232
  sn : x.m * 32 ≤ 140737488351232
  fn : x.k * 8 ≤ 140737488351232
  aA : x.A = none → x.c = 0
  sA : x.B = none → x.d = 0
  fA : x.F = none → x.e = 0
theorem Ln.ok.up {w w' : World} {x : Ln} (h : Ln.ok w x) (hb : Below w.heap.size w w') : Ln.ok w' x := ⟨h.a.up hb hb.size, h.s.up hb hb.size, h.f.up hb hb.size, h.an, h.sn, h.fn, h.aA, h.sA, h.fA⟩
/-- A line whose lists are its own. -/
structure Ln.own (w : World) (R : Nat) (x : Ln) : Prop where
  a : w.ownsRow R 68 3 (.slice x.A x.n x.c) x.n (kcells x.xs)
  s : w.ownsRow R 68 3 (.slice x.B x.m x.d) x.m (kcells x.ss)
  f : w.ownsRow R 3 1 (.slice x.F x.k x.e) x.k (icells x.fs)
theorem Ln.own.below {w w' : World} {R : Nat} {x : Ln} (h : Ln.own w R x) (hb : Below w.heap.size w w') : Ln.own w' R x := ⟨own_below h.a hb, own_below h.s hb, own_below h.f hb⟩
theorem Ln.own.le {w : World} {R R' : Nat} {x : Ln} (h : Ln.own w R x) (hb : R' ≤ R) : Ln.own w R' x := ⟨own_le h.a hb, own_le h.s hb, own_le h.f hb⟩
theorem Ln.own.kept {w w' : World} {R R' n : Nat} {x : Ln} {v : Value} {xs : List Value} (h : Ln.own w R x) (h' : w.ownsRow R' 66 5 v n xs) (hg : w.grownBy w' v.ownBlock) : Ln.own w' R x :=
  ⟨own_kept_types h.a h' (by decide) hg, own_kept_types h.s h' (by decide) hg, own_kept_types h.f h' (by decide) hg⟩
theorem Ln.own.set {w : World} {R g : Nat} {t : TypeId} {cs : List Value} {x : Ln} (h : Ln.own w R x) (hg : Blk w g t cs) (h1 : t ≠ 68) (h2 : t ≠ 3) (i : Nat) (u : Value) : Ln.own (w.setCell ⟨g, i, none⟩ u) R x :=
  ⟨own_setCell_blk h.a hg h1 i u, own_setCell_blk h.s hg h1 i u, own_setCell_blk h.f hg h2 i u⟩

/-- The marks behind a line's lists. -/
def markK : Cn := ⟨77, 0, ⟨#[]⟩⟩
/-- A line whose lists are its own, each with a mark behind its last element. -/
structure Ln.room (w : World) (R : Nat) (x : Ln) : Prop where
  a : w.ownsRow R 68 3 (.slice x.A (x.n + 1) x.c) (x.n + 1) (kcells (x.xs ++ [markK]))
  s : w.ownsRow R 68 3 (.slice x.B (x.m + 1) x.d) (x.m + 1) (kcells (x.ss ++ [markK]))
  f : w.ownsRow R 3 1 (.slice x.F (x.k + 1) x.e) (x.k + 1) (icells (x.fs ++ [77]))
theorem Ln.room.below {w w' : World} {R : Nat} {x : Ln} (h : Ln.room w R x) (hb : Below w.heap.size w w') : Ln.room w' R x := ⟨own_below h.a hb, own_below h.s hb, own_below h.f hb⟩
theorem Ln.room.le {w : World} {R R' : Nat} {x : Ln} (h : Ln.room w R x) (hb : R' ≤ R) : Ln.room w R' x := ⟨own_le h.a hb, own_le h.s hb, own_le h.f hb⟩
theorem Ln.room.kept {w w' : World} {R R' n : Nat} {x : Ln} {v : Value} {xs : List Value} (h : Ln.room w R x) (h' : w.ownsRow R' 66 5 v n xs) (hg : w.grownBy w' v.ownBlock) : Ln.room w' R x :=
  ⟨own_kept_types h.a h' (by decide) hg, own_kept_types h.s h' (by decide) hg, own_kept_types h.f h' (by decide) hg⟩
theorem own_less {w : World} {base e size n c : Nat} {A : Option Addr} {xs ys : List Value} (h : w.ownsRow base e size (.slice A (n + 1) c) (n + 1) (xs ++ ys)) (hl : xs.length = n * size) : w.ownsRow base e size (.slice A n c) n xs := own_pop h hl
theorem Ln.room.own {w : World} {R : Nat} {x : Ln} (h : Ln.room w R x) (h1 : x.xs.length = x.n) (h2 : x.ss.length = x.m) (h3 : x.fs.length = x.k) : Ln.own w R x := by
  refine ⟨?_, ?_, ?_⟩
  · exact own_pop (by simpa only [kcells_append] using h.a) (by rw [kcells_length]; omega)
  · exact own_pop (by simpa only [kcells_append] using h.s) (by rw [kcells_length]; omega)
  · exact own_pop (by simpa only [icells_append] using h.f) (by rw [icells_length]; omega)
theorem Ln.own.ok {w : World} {R : Nat} {x : Ln} (h : Ln.own w R x) (h1 : x.n * 32 ≤ 140737488351232) (h2 : x.m * 32 ≤ 140737488351232) (h3 : x.k * 8 ≤ 140737488351232) : Ln.ok w x :=
  ⟨own_rd h.a, own_rd h.s, own_rd h.f, h1, h2, h3, fun e => own_none (e ▸ h.a), fun e => own_none (e ▸ h.s), fun e => own_none (e ▸ h.f)⟩
end Go.Proofs.YtjcgkplphiedjaaDoorT

namespace Go.Proofs.YtjcgkplphiedjaaDoorT
open Go.RowKit

set_option maxRecDepth 20000 in
set_option maxHeartbeats 4000000 in
theorem copied_any (A : Option Addr) (n c : Nat) (ls : List Ln) (w : World) (hr : Rd w w.heap.size 5 A n (ncells ls)) (hok : ∀ x ∈ ls, Ln.ok w x) (hn : n * 96 ≤ 140737488351232) :
    Calls Tryd.prog 8 #[.slice A n c] w fun e w' => ∃ A' c' ls', e = .returned (.slice A' n c') ∧ w'.ownsRow w.heap.size 66 5 (.slice A' n c') n (ncells ls') ∧ ls'.map Ln.core = ls.map Ln.core ∧ (∀ x ∈ ls', Ln.own w' w.heap.size x) ∧ Below w.heap.size w w' := by
  obtain ⟨i0, hi, hz0, hz1, hz2⟩ := info_parts Tryd.info68
  obtain ⟨k0, hki, hk0, hk1', hk2⟩ := info_parts Tryd.info3
  obtain ⟨j0, hj, hy0, hy1, hy2⟩ := info_parts Tryd.info66
  have HL := Lib.hid hr
  have HK := Lib.hid hok
  have hmb := hr.2.1
  have hlen : ls.length = n := by have := hr.1; rw [ncells_length] at this; omega
  have HN := Lib.hid hlen
  clear hr hok hlen
  generalize hR : w.heap.size = R at *
  have HRR := Lib.hid hR
  clear hR
  go_enter Tryd.func8, Tryd.ntmps8
  go_upto_region 3 with (fail)
  go_loopg [3, 4] n (fun gk u3 u4 wr => ∃ (k : Nat) (acc : List Ln), u4 = .int .i64 k ∧ k ≤ n ∧ Hid (gk = n - k) ∧ Hid (Below R w wr) ∧ Hid (R ≤ wr.heap.size) ∧ Hid (wr.ownsRow R 66 5 u3 k (ncells acc)) ∧ Hid (acc.map Ln.core = (ls.take k).map Ln.core) ∧ Hid (∀ y ∈ acc, Ln.own wr R y))
  case atStart => exact ⟨0, [], rfl, Nat.zero_le _, Lib.hid (by omega), Lib.hid (Below.refl _ _), Lib.hid (by rw [HRR.out]; exact Nat.le_refl _), Lib.hid (World.ownsRow_nil _ _ _ _), Lib.hid rfl, Lib.hid (by simp)⟩
  case round =>
    obtain ⟨k, acc, rfl, hk, HG, HB, HS, HV, HC, HW⟩ := hrel
    by_cases hlt : k < n
    · obtain ⟨B', off, hk1, rfl, hB, hc⟩ := (HL.out.below HB.out).at Ln.cells 5 (fun _ => rfl) (by omega) k hlt
      have c0 := hc 0 _ (by omega) rfl
      have c1 := hc 1 _ (by omega) rfl
      have c2 := hc 2 _ (by omega) rfl
      have c3 := hc 3 _ (by omega) rfl
      have c4 := hc 4 _ (by omega) rfl
      rw [Nat.add_zero] at c0
      clear hc
      have hlkk := HK.out ls[k] (List.getElem_mem hk1)
      have HTK := Lib.hid (take_snoc ls k hk1)
      generalize ls[k] = z at *
      have HZ : Hid (Ln.ok wr z) := Lib.hid (hlkk.up (HRR.out ▸ HB.out))
      clear hlkk
      obtain ⟨zp, zA, zn, zc, zr, zB, zm, zd, zF, zk, ze, zxs, zss, zfs⟩ := z
      have hzn := HZ.out.an
      have hzm := HZ.out.sn
      have hzk := HZ.out.fn
      dsimp only at c0 c1 c2 c3 c4 hzn hzm hzk
      go_upto_region 6 with (fail)
      have HBZ := Lib.hid ((Below.refl wr.heap.size wr).alloc (Nat.le_refl _) (.cells #[.string zp, .slice zA zn zc, .int .i64 zr, .slice zB zm zd, .slice zF zk ze] 66))
      have HX := Lib.hid (Blk.new wr 66 [.string zp, .slice zA zn zc, .int .i64 zr, .slice zB zm zd, .slice zF zk ze])
      clear c0 c1 c2 c3 c4
      generalize World.alloc _ _ = wa0 at *
      generalize hZ : wr.heap.size = Z at *
      have HZZ := Lib.hid hZ
      clear hZ
      have hRZ : R ≤ Z := HS.out
      have hs0 := HX.out.lt
      have hBw : Below wr.heap.size wr wa0 := by rw [HZZ.out]; exact HBZ.out
      have hown0 : (wa0.alloc (.cells #[] 68)).ownsRow wa0.heap.size 68 3 (.slice (some ⟨wa0.heap.size, 0, none⟩) 0 0) 0 [] := own_empty (Nat.le_refl _)
      have hba := (Below.refl wa0.heap.size wa0).alloc (Nat.le_refl _) (.cells #[] 68)
      have hbw := hba.size
      have HRd : Hid (Rd (wa0.alloc (.cells #[] 68)) (wa0.alloc (.cells #[] 68)).heap.size 3 zA zn (kcells zxs)) := Lib.hid ((HZ.out.a.up hBw hBw.size).up hba hba.size)
      have g2 := (HX.out.cell 1).trans rfl
      go_wp2_with (at_builtin; go_must (refine wpList_append_all rfl _ _ 36 rfl wa0.heap.size 68 i0 _ 3 32 Tryd.underlying36 hi hz0 hz1 hz2 rfl (by decide) _ _ _ rfl hown0 zA zn zc (kcells zxs) rfl HZ.out.aA HRd.out (cons_one zxs) (by unfold maxLen; omega) (by omega) hbw ?_))
      intro v1 w1 hown1 hg1
      have hb := hba.grown hg1 hbw (fun k hk => (hown0.lt k hk).1)
      obtain ⟨A1, d1, rfl, hn1⟩ := own_slice hown1
      have HXn := Lib.hid (HX.out.below hb hs0)
      have HBn := Lib.hid (HBZ.out.trans (hb.mono (Nat.le_of_lt hs0)))
      have HP1 := Lib.hid (own_le hown1 (Nat.le_of_lt hs0))
      clear hown1 hg1 hb hown0 hba hbw HRd g2 HX HBZ hBw hs0
      have f0 := HXn.out.frozen 1
      have f1 := (HXn.out.cell 1).trans rfl
      have f2 := HXn.out.lt
      go_upto_region 7 with (fail)
      have HX := Lib.hid (HXn.out.set_ 1 (.slice A1 zn d1))
      have HBZ := Lib.hid (HBn.out.setCell (p := ⟨Z, 1, none⟩) (by simp) (.slice A1 zn d1))
      have HQ1 := Lib.hid (own_setCell_blk HP1.out HXn.out (by decide) 1 (.slice A1 zn d1))
      simp only [List.set_cons_succ, List.set_cons_zero] at HX
      clear HXn HBn HP1  f0 f1 f2
      generalize World.setCell _ _ _ = x1 at *
      have HP1 := HQ1
      clear HQ1
      have hs0 := HX.out.lt
      have hBw : Below wr.heap.size wr x1 := by rw [HZZ.out]; exact HBZ.out
      have hown0 : (x1.alloc (.cells #[] 68)).ownsRow x1.heap.size 68 3 (.slice (some ⟨x1.heap.size, 0, none⟩) 0 0) 0 [] := own_empty (Nat.le_refl _)
      have hba := (Below.refl x1.heap.size x1).alloc (Nat.le_refl _) (.cells #[] 68)
      have hbw := hba.size
      have HRd : Hid (Rd (x1.alloc (.cells #[] 68)) (x1.alloc (.cells #[] 68)).heap.size 3 zB zm (kcells zss)) := Lib.hid ((HZ.out.s.up hBw hBw.size).up hba hba.size)
      have g2 := (HX.out.cell 3).trans rfl
      go_wp2_with (at_builtin; go_must (refine wpList_append_all rfl _ _ 36 rfl x1.heap.size 68 i0 _ 3 32 Tryd.underlying36 hi hz0 hz1 hz2 rfl (by decide) _ _ _ rfl hown0 zB zm zd (kcells zss) rfl HZ.out.sA HRd.out (cons_one zss) (by unfold maxLen; omega) (by omega) hbw ?_))
      intro v2 w2 hown2 hg2
      have hb := hba.grown hg2 hbw (fun k hk => (hown0.lt k hk).1)
      obtain ⟨A2, d2, rfl, hn2⟩ := own_slice hown2
      have HXn := Lib.hid (HX.out.below hb hs0)
      have HBn := Lib.hid (HBZ.out.trans (hb.mono (Nat.le_of_lt hs0)))
      have HP2 := Lib.hid (own_le hown2 (Nat.le_of_lt hs0))
      have HP1n := Lib.hid (own_below HP1.out hb)
      clear HP1
      clear hown2 hg2 hb hown0 hba hbw HRd g2 HX HBZ hBw hs0
      have f0 := HXn.out.frozen 3
      have f1 := (HXn.out.cell 3).trans rfl
      have f2 := HXn.out.lt
      go_upto_region 8 with (fail)
      have HX := Lib.hid (HXn.out.set_ 3 (.slice A2 zm d2))
      have HBZ := Lib.hid (HBn.out.setCell (p := ⟨Z, 3, none⟩) (by simp) (.slice A2 zm d2))
      have HQ2 := Lib.hid (own_setCell_blk HP2.out HXn.out (by decide) 3 (.slice A2 zm d2))
      have HQ1 := Lib.hid (own_setCell_blk HP1n.out HXn.out (by decide) 3 (.slice A2 zm d2))
      simp only [List.set_cons_succ, List.set_cons_zero] at HX
      clear HXn HBn HP2 HP1n f0 f1 f2
      generalize World.setCell _ _ _ = x2 at *
      have HP1 := HQ1
      clear HQ1
      have HP2 := HQ2
      clear HQ2
      have hs0 := HX.out.lt
      have hBw : Below wr.heap.size wr x2 := by rw [HZZ.out]; exact HBZ.out
      have hown0 : (x2.alloc (.cells #[] 3)).ownsRow x2.heap.size 3 1 (.slice (some ⟨x2.heap.size, 0, none⟩) 0 0) 0 [] := own_empty (Nat.le_refl _)
      have hba := (Below.refl x2.heap.size x2).alloc (Nat.le_refl _) (.cells #[] 3)
      have hbw := hba.size
      have HRd : Hid (Rd (x2.alloc (.cells #[] 3)) (x2.alloc (.cells #[] 3)).heap.size 1 zF zk (icells zfs)) := Lib.hid ((HZ.out.f.up hBw hBw.size).up hba hba.size)
      have g2 := (HX.out.cell 4).trans rfl
      go_wp2_with (at_builtin; go_must (refine wpList_append_all rfl _ _ 27 rfl x2.heap.size 3 k0 _ 1 8 Tryd.underlying27 hki hk0 hk1' hk2 rfl (by decide) _ _ _ rfl hown0 zF zk ze (icells zfs) rfl HZ.out.fA HRd.out (ints_one zfs) (by unfold maxLen; omega) (by omega) hbw ?_))
      intro v3 w3 hown3 hg3
      have hb := hba.grown hg3 hbw (fun k hk => (hown0.lt k hk).1)
      obtain ⟨A3, d3, rfl, hn3⟩ := own_slice hown3
      have HXn := Lib.hid (HX.out.below hb hs0)
      have HBn := Lib.hid (HBZ.out.trans (hb.mono (Nat.le_of_lt hs0)))
      have HP3 := Lib.hid (own_le hown3 (Nat.le_of_lt hs0))
      have HP1n := Lib.hid (own_below HP1.out hb)
      have HP2n := Lib.hid (own_below HP2.out hb)
      clear HP1
      clear HP2
      clear hown3 hg3 hb hown0 hba hbw HRd g2 HX HBZ hBw hs0
      have f0 := HXn.out.frozen 4
      have f1 := (HXn.out.cell 4).trans rfl
      have f2 := HXn.out.lt
      go_upto_region 9 with (fail)
      have HX := Lib.hid (HXn.out.set_ 4 (.slice A3 zk d3))
      have HBZ := Lib.hid (HBn.out.setCell (p := ⟨Z, 4, none⟩) (by simp) (.slice A3 zk d3))
      have HQ3 := Lib.hid (own_setCell_blk HP3.out HXn.out (by decide) 4 (.slice A3 zk d3))
      have HQ1 := Lib.hid (own_setCell_blk HP1n.out HXn.out (by decide) 4 (.slice A3 zk d3))
      have HQ2 := Lib.hid (own_setCell_blk HP2n.out HXn.out (by decide) 4 (.slice A3 zk d3))
      simp only [List.set_cons_succ, List.set_cons_zero] at HX
      clear HXn HBn HP3 HP1n HP2n f0 f1 f2
      generalize World.setCell _ _ _ = x3 at *
      have HP1 := HQ1
      clear HQ1
      have HP2 := HQ2
      clear HQ2
      have HP3 := HQ3
      clear HQ3
      have q0 := (HX.out.cell 0).trans rfl
      have q1 := (HX.out.cell 1).trans rfl
      have q2 := (HX.out.cell 2).trans rfl
      have q3 := (HX.out.cell 3).trans rfl
      have q4 := (HX.out.cell 4).trans rfl
      have hbz : Below wr.heap.size wr x3 := by rw [HZZ.out]; exact HBZ.out
      have hsz := hbz.size
      have hown := own_below HV.out hbz
      have KW : Hid (∀ y ∈ acc, Ln.own x3 R y) := Lib.hid fun y hy => (HW.out y hy).below hbz
      have KB := Lib.hid (HB.out.trans (hbz.mono (by rw [HZZ.out]; exact HS.out)))
      have KY : Hid (Ln.own x3 R ⟨zp, A1, zn, d1, zr, A2, zm, d2, A3, zk, d3, zxs, zss, zfs⟩) := Lib.hid ⟨own_le HP1.out HS.out, own_le HP2.out HS.out, own_le HP3.out HS.out⟩
      have hRx : R ≤ x3.heap.size := by have := HZZ.out; omega
      go_wp2_with (at_builtin; go_must (refine wpList_append_own _ rfl _ _ 25 rfl R 66 j0 _ 5 96 Tryd.underlying25 hj hy0 hy1 hy2 rfl (by decide) _ _ _ rfl (hown.alloc _) ⟨x3.heap.size, 0, none⟩ 1 1 (Ln.cells ⟨zp, A1, zn, d1, zr, A2, zm, d2, A3, zk, d3, zxs, zss, zfs⟩) rfl rfl (fun j u h => new_cells _ _ _ j u h) (Ln.one _) (by unfold maxLen; omega) (by omega) (by simp; omega) ?_))
      intro v7 w7 hown7 hg7 _
      obtain ⟨A7, d7, rfl, hn7⟩ := own_slice hown7
      have hba := (Below.refl x3.heap.size x3).alloc (Nat.le_refl _) (.cells (Ln.cells ⟨zp, A1, zn, d1, zr, A2, zm, d2, A3, zk, d3, zxs, zss, zfs⟩).toArray 66)
      have BL := Lib.hid ((KB.out.alloc hRx (.cells (Ln.cells ⟨zp, A1, zn, d1, zr, A2, zm, d2, A3, zk, d3, zxs, zss, zfs⟩).toArray 66)).grown hg7 (by simp; omega) (fun q hq => (hown.lt q hq).1))
      have W7 : Hid (∀ q ∈ acc ++ [(⟨zp, A1, zn, d1, zr, A2, zm, d2, A3, zk, d3, zxs, zss, zfs⟩ : Ln)], Ln.own w7 R q) := Lib.hid (by
        intro q hq
        rcases List.mem_append.1 hq with hq | hq
        · exact ((KW.out q hq).below hba).kept (hown.alloc _) hg7
        · rw [List.mem_singleton.1 hq]
          exact (KY.out.below hba).kept (hown.alloc _) hg7)
      have C7 : Hid ((acc ++ [(⟨zp, A1, zn, d1, zr, A2, zm, d2, A3, zk, d3, zxs, zss, zfs⟩ : Ln)]).map Ln.core = (ls.take (k + 1)).map Ln.core) := Lib.hid (by
        rw [HTK.out, List.map_append, List.map_append, HC.out]; rfl)
      have V7 : Hid (w7.ownsRow R 66 5 (.slice A7 (k + 1) d7) (k + 1) (ncells (acc ++ [(⟨zp, A1, zn, d1, zr, A2, zm, d2, A3, zk, d3, zxs, zss, zfs⟩ : Ln)]))) := Lib.hid (by
        rw [ncells_append]; simpa [ncells] using hown7)
      have S7 : Hid (R ≤ w7.heap.size) := Lib.hid (Nat.le_trans (by simp; omega) hg7.size)
      clear hown7 hown hg7 hba KW KB KY hbz HP1 HP2 HP3 HX HBZ HV HW HC HTK HB q0 q1 q2 q3 q4
      go_wp2
      go_roundg (n - (k + 1))
      case measure => have := HG.out; omega
      case rel => exact ⟨k + 1, _, by go_num, by omega, Lib.hid rfl, BL, S7, V7, C7, W7⟩
    · obtain rfl : k = n := by omega
      have hall : ls.take k = ls := List.take_of_length_le (by have := HN.out; omega)
      rw [hall] at HC
      obtain ⟨Ab, cb, rfl, hnb2⟩ := own_slice HV.out
      go_wp2
      go_ret
      exact ⟨Ab, cb, acc, rfl, HV.out, HC.out, HW.out, HB.out⟩
end Go.Proofs.YtjcgkplphiedjaaDoorT
