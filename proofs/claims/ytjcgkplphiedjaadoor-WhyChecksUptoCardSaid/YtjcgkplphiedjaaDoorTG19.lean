/- A core: data, cells, what reads; a slot's constant under a substitution. | A slot's constant under a substitution, the program's. -/
import Derived.Test.YtjcgkplphiedjaaDoorTG18
namespace Go.Proofs.YtjcgkplphiedjaaDoorT
open Go.RowKit Go.Sort

/-- A slot of a pattern. -/
structure Sl where
  v : Bool
  n : Int
def Sl.cells (x : Sl) : List Value := [.bool x.v, .int .i64 x.n]
def slcells (l : List Sl) : List Value := l.flatMap Sl.cells
/-- A predicate. -/
structure Pd where
  s : ByteArray
  a : Int
def Pd.cells (x : Pd) : List Value := [.string x.s, .int .i64 x.a]
def pdcells (l : List Pd) : List Value := l.flatMap Pd.cells
/-- A pattern. -/
structure Pn where
  p : Int
  A : Option Addr
  n : Nat
  c : Nat
  xs : List Sl
def Pn.cells (x : Pn) : List Value := [.int .i64 x.p, .slice x.A x.n x.c]
def pncells (l : List Pn) : List Value := l.flatMap Pn.cells
def Pn.core (x : Pn) : Int × List Sl := (x.p, x.xs)
/-- A test. -/
structure Ts where
  op : Int
  l : Sl
  r : Sl
def Ts.cells (x : Ts) : List Value := [.int .i64 x.op, .bool x.l.v, .int .i64 x.l.n, .bool x.r.v, .int .i64 x.r.n]
def tscells (l : List Ts) : List Value := l.flatMap Ts.cells
/-- A row. -/
structure Rw where
  p : Int
  A : Option Addr
  n : Nat
  c : Nat
  xs : List Int
def Rw.cells (x : Rw) : List Value := [.int .i64 x.p, .slice x.A x.n x.c]
def rwcells (l : List Rw) : List Value := l.flatMap Rw.cells
def Rw.core (x : Rw) : Int × List Int := (x.p, x.xs)
/-- A rule. -/
structure Rl where
  h : Pn
  PA : Option Addr
  pn : Nat
  pc : Nat
  ps : List Pn
  TA : Option Addr
  tn : Nat
  tc : Nat
  ts : List Ts
  NA : Option Addr
  nn : Nat
  nc : Nat
  ns : List Pn
  VA : Option Addr
  vn : Nat
  vc : Nat
  vs : List ByteArray
  cl : Int
def Rl.cells (x : Rl) : List Value := [.int .i64 x.h.p, .slice x.h.A x.h.n x.h.c, .slice x.PA x.pn x.pc, .slice x.TA x.tn x.tc, .slice x.NA x.nn x.nc, .slice x.VA x.vn x.vc, .int .i64 x.cl]
def rlcells (l : List Rl) : List Value := l.flatMap Rl.cells
def Rl.core (x : Rl) : (Int × List Sl) × List (Int × List Sl) × List Ts × List (Int × List Sl) × List ByteArray × Int := (x.h.core, x.ps.map Pn.core, x.ts, x.ns.map Pn.core, x.vs, x.cl)
/-- A core. -/
structure Co where
  DA : Option Addr
  dn : Nat
  dc : Nat
  ds : List Pd
  CA : Option Addr
  cn : Nat
  cc : Nat
  cs : List Cn
  RA : Option Addr
  rn : Nat
  rc : Nat
  rs : List Rl
  FA : Option Addr
  fn : Nat
  fc : Nat
  fs : List Rw
def Co.cells (x : Co) : List Value := [.slice x.DA x.dn x.dc, .slice x.CA x.cn x.cc, .slice x.RA x.rn x.rc, .slice x.FA x.fn x.fc]
def Co.core (x : Co) := (x.ds, x.cs, x.rs.map Rl.core, x.fs.map Rw.core)

/-- What stands behind a pattern, a row, a rule, a core. -/
def Pn.ok (w : World) (x : Pn) : Prop := Rd w w.heap.size 2 x.A x.n (slcells x.xs)
def Rw.ok (w : World) (x : Rw) : Prop := Rd w w.heap.size 1 x.A x.n (icells x.xs)
structure Rl.ok (w : World) (x : Rl) : Prop where
  h : x.h.ok w
  p : Rd w w.heap.size 2 x.PA x.pn (pncells x.ps)
  ps : ∀ y ∈ x.ps, y.ok w
  t : Rd w w.heap.size 5 x.TA x.tn (tscells x.ts)
  n : Rd w w.heap.size 2 x.NA x.nn (pncells x.ns)
  ns : ∀ y ∈ x.ns, y.ok w
  v : Rd w w.heap.size 1 x.VA x.vn (scells x.vs)
structure Co.ok (w : World) (x : Co) : Prop where
  d : Rd w w.heap.size 2 x.DA x.dn (pdcells x.ds)
  c : Rd w w.heap.size 3 x.CA x.cn (kcells x.cs)
  r : Rd w w.heap.size 7 x.RA x.rn (rlcells x.rs)
  rs : ∀ y ∈ x.rs, y.ok w
  f : Rd w w.heap.size 2 x.FA x.fn (rwcells x.fs)
  fs : ∀ y ∈ x.fs, y.ok w
theorem Pn.ok.up {w w' : World} {x : Pn} (h : x.ok w) (hb : Below w.heap.size w w') : x.ok w' := Rd.up h hb hb.size
theorem Rw.ok.up {w w' : World} {x : Rw} (h : x.ok w) (hb : Below w.heap.size w w') : x.ok w' := Rd.up h hb hb.size
theorem Rl.ok.up {w w' : World} {x : Rl} (h : x.ok w) (hb : Below w.heap.size w w') : x.ok w' :=
  ⟨h.h.up hb, h.p.up hb hb.size, fun y hy => (h.ps y hy).up hb, h.t.up hb hb.size, h.n.up hb hb.size, fun y hy => (h.ns y hy).up hb, h.v.up hb hb.size⟩
theorem Co.ok.up {w w' : World} {x : Co} (h : x.ok w) (hb : Below w.heap.size w w') : x.ok w' :=
  ⟨h.d.up hb hb.size, h.c.up hb hb.size, h.r.up hb hb.size, fun y hy => (h.rs y hy).up hb, h.f.up hb hb.size, fun y hy => (h.fs y hy).up hb⟩

/-- A slot's constant: where it points at one. -/
def bindS (cs sub : List Cn) (s : Sl) : Option Cn :=
  if s.n < 0 then none else (if s.v then sub else cs)[s.n.toNat]?
def noK : Cn := ⟨0, 0, ⟨#[]⟩⟩
def optK (o : Option Cn) : Value := .agg (o.getD noK).cells.toArray

theorem three_alloc (w : World) (t1 t2 t3 : TypeId) (c1 c2 c3 : List Value) :
    Below w.heap.size w (((w.alloc (.cells c1.toArray t1)).alloc (.cells c2.toArray t2)).alloc (.cells c3.toArray t3)) ∧
    Blk (((w.alloc (.cells c1.toArray t1)).alloc (.cells c2.toArray t2)).alloc (.cells c3.toArray t3)) w.heap.size t1 c1 ∧
    Blk (((w.alloc (.cells c1.toArray t1)).alloc (.cells c2.toArray t2)).alloc (.cells c3.toArray t3)) (w.heap.size + 1) t2 c2 ∧
    Blk (((w.alloc (.cells c1.toArray t1)).alloc (.cells c2.toArray t2)).alloc (.cells c3.toArray t3)) (w.heap.size + 1 + 1) t3 c3 ∧
    (((w.alloc (.cells c1.toArray t1)).alloc (.cells c2.toArray t2)).alloc (.cells c3.toArray t3)).heap.size = w.heap.size + 1 + 1 + 1 := by
  obtain ⟨h1, h2, h3, h4⟩ := two_alloc w t1 t2 c1 c2
  have h5 := Blk.new ((w.alloc (.cells c1.toArray t1)).alloc (.cells c2.toArray t2)) t3 c3
  rw [h4] at h5
  refine ⟨h1.alloc h1.size _, h2.alloc _, h3.alloc _, h5, ?_⟩
  have : (((w.alloc (.cells c1.toArray t1)).alloc (.cells c2.toArray t2)).alloc (.cells c3.toArray t3)).heap.size = ((w.alloc (.cells c1.toArray t1)).alloc (.cells c2.toArray t2)).heap.size + 1 := by simp
  rw [this, h4]
theorem bindS_some {cs sub l : List Cn} {sv : Bool} {sn : Int} (hl : l = if sv then sub else cs) (h0 : 0 ≤ sn) (h1 : sn.toNat < l.length) : bindS cs sub ⟨sv, sn⟩ = some l[sn.toNat] := by
  subst hl
  unfold bindS
  rw [if_neg (by show ¬ sn < 0; omega)]
  exact List.getElem?_eq_getElem h1
theorem bindS_low {cs sub : List Cn} {sv : Bool} {sn : Int} (h0 : sn < 0) : bindS cs sub ⟨sv, sn⟩ = none := if_pos h0
theorem bindS_high {cs sub l : List Cn} {sv : Bool} {sn : Int} (hl : l = if sv then sub else cs) (h0 : 0 ≤ sn) (h1 : l.length ≤ sn.toNat) : bindS cs sub ⟨sv, sn⟩ = none := by
  subst hl
  unfold bindS
  rw [if_neg (by show ¬ sn < 0; omega)]
  exact List.getElem?_eq_none h1

set_option maxRecDepth 20000 in
set_option maxHeartbeats 8000000 in
theorem bind_ref (x : Co) (s : Sl) (A : Option Addr) (n c : Nat) (sub : List Cn) (w : World) (hx : Rd w w.heap.size 3 x.CA x.cn (kcells x.cs)) (hr : Rd w w.heap.size 3 A n (kcells sub)) :
    Calls Tryd.prog 88 #[.agg x.cells.toArray, .agg s.cells.toArray, .slice A n c] w fun e w' => e = .returned (.tuple #[optK (bindS x.cs sub s), .bool (bindS x.cs sub s).isSome]) ∧ Below w.heap.size w w' := by
  have hl : sub.length = n := by have := hr.1; rw [kcells_length] at this; omega
  have hlc : x.cs.length = x.cn := by have := hx.1; rw [kcells_length] at this; omega
  obtain ⟨V, hV⟩ : ∃ V, V = bindS x.cs sub s := ⟨_, rfl⟩
  rw [← hV]
  obtain ⟨DA, dn, dc, ds, CA, cn, cc, cs, RA, rn, rc, rs, FA, fn, fc, fs⟩ := x
  obtain ⟨sv, sn⟩ := s
  dsimp only at hx hlc hV
  show Calls Tryd.prog 88 #[.agg #[.slice DA dn dc, .slice CA cn cc, .slice RA rn rc, .slice FA fn fc], .agg #[.bool sv, .int .i64 sn], .slice A n c] w _
  have HX := Lib.hid hx
  have HR := Lib.hid hr
  have HV := Lib.hid hV
  have hnb := hr.2.1
  have hcb := hx.2.1
  clear hx hr hV
  go_enter Tryd.func88, Tryd.ntmps88
  go_upto_region 1 with (fail)
  obtain ⟨hb, h1, h2, h3, hsz⟩ := three_alloc w 40 117 68 [.slice DA dn dc, .slice CA cn cc, .slice RA rn rc, .slice FA fn fc] [.bool sv, .int .i64 sn] [.int .i64 0, .int .i64 0, .string ⟨#[]⟩]
  generalize World.alloc (World.alloc (World.alloc _ _) _) _ = w3 at *
  have HR3 := Lib.hid (HR.out.below hb)
  have HX3 := Lib.hid (HX.out.below hb)
  generalize hR : w.heap.size = R at *
  have HRR := Lib.hid hR
  clear hR HR HX
  have HB := Lib.hid hb
  have f1 := (h1.cell 1).trans rfl
  have g0 := (h2.cell 0).trans rfl
  have g1 := (h2.cell 1).trans rfl
  have r0 := (h3.cell 0).trans rfl
  have r1 := (h3.cell 1).trans rfl
  have r2 := (h3.cell 2).trans rfl
  have q0 := h3.frozen 0
  have q1 := h3.frozen 1
  have q2 := h3.frozen 2
  have H3 := Lib.hid h3
  clear h1 h2 h3 hb
  have HBS : ∀ (a b c' : Value), Hid (Below R w (((w3.setCell ⟨R + 1 + 1, 0, none⟩ a).setCell ⟨R + 1 + 1, 1, none⟩ b).setCell ⟨R + 1 + 1, 2, none⟩ c')) := fun a b c' => Lib.hid (((HB.out.setCell (p := ⟨R + 1 + 1, 0, none⟩) (by show R ≤ R + 1 + 1; omega) a).setCell (p := ⟨R + 1 + 1, 1, none⟩) (by show R ≤ R + 1 + 1; omega) b).setCell (p := ⟨R + 1 + 1, 2, none⟩) (by show R ≤ R + 1 + 1; omega) c')
  rcases Int.lt_or_le sn 0 with hs0 | hs0
  · have t0 : decide (sn < 0) = true := decide_eq_true hs0
    obtain rfl : V = none := by rw [HV.out, bindS_low hs0]
    clear HV
    have hk := ((H3.out.set_ 0 (.int .i64 0)).set_ 1 (.int .i64 0)).set_ 2 (.string ⟨#[]⟩)
    have hb4 := HBS (.int .i64 0) (.int .i64 0) (.string ⟨#[]⟩)
    clear HBS
    cases sv
    all_goals
      go_wp2
      generalize World.setCell (World.setCell (World.setCell _ _ _) _ _) _ _ = w4 at *
      have k0 := (hk.cell 0).trans rfl
      have k1 := (hk.cell 1).trans rfl
      have k2 := (hk.cell 2).trans rfl
      refine bodyPost_ret (v := .tuple #[.agg #[.int .i64 0, .int .i64 0, .string ⟨#[]⟩], .bool false]) (by simp [results, Tryd.results88, go_sem, k0, k1, k2]) rfl ?_
      exact ⟨rfl, by rw [HRR.out]; exact hb4.out⟩
  · obtain ⟨N, rfl⟩ : ∃ N : Nat, sn = (N : Int) := ⟨sn.toNat, by omega⟩
    have t0 : decide ((N : Int) < 0) = false := decide_eq_false (by omega)
    cases sv with
    | true =>
      by_cases hN : N < n
      · have t1 : decide ((n : Int) ≤ (N : Int)) = false := decide_eq_false (by omega)
        obtain ⟨b1, o1, hk1, rfl, hb1, hc⟩ := HR3.out.at Cn.cells 3 (fun _ => rfl) (by omega) N hN
        have c0 := hc 0 _ (by omega) rfl
        have c1 := hc 1 _ (by omega) rfl
        have c2 := hc 2 _ (by omega) rfl
        rw [Nat.add_zero] at c0
        clear hc
        have hVz : V = some sub[N] := by rw [HV.out, bindS_some (l := sub) rfl (by omega) (by simpa using hk1)]; rfl
        generalize sub[N] = z at *
        obtain ⟨zk, zi, zt⟩ := z
        dsimp only at c0 c1 c2
        subst hVz
        have hk := ((H3.out.set_ 0 (.int .i64 zk)).set_ 1 (.int .i64 zi)).set_ 2 (.string zt)
        have hb4 := HBS (.int .i64 zk) (.int .i64 zi) (.string zt)
        clear HBS HV
        go_wp2
        generalize World.setCell (World.setCell (World.setCell _ _ _) _ _) _ _ = w4 at *
        have k0 := (hk.cell 0).trans rfl
        have k1 := (hk.cell 1).trans rfl
        have k2 := (hk.cell 2).trans rfl
        refine bodyPost_ret (v := .tuple #[.agg #[.int .i64 zk, .int .i64 zi, .string zt], .bool true]) (by simp [results, Tryd.results88, go_sem, k0, k1, k2]) rfl ?_
        exact ⟨rfl, by rw [HRR.out]; exact hb4.out⟩
      · have t1 : decide ((n : Int) ≤ (N : Int)) = true := decide_eq_true (by omega)
        obtain rfl : V = none := by rw [HV.out, bindS_high (l := sub) rfl (by omega) (by simp; omega)]
        have hk := ((H3.out.set_ 0 (.int .i64 0)).set_ 1 (.int .i64 0)).set_ 2 (.string ⟨#[]⟩)
        have hb4 := HBS (.int .i64 0) (.int .i64 0) (.string ⟨#[]⟩)
        clear HBS HV
        go_wp2
        generalize World.setCell (World.setCell (World.setCell _ _ _) _ _) _ _ = w4 at *
        have k0 := (hk.cell 0).trans rfl
        have k1 := (hk.cell 1).trans rfl
        have k2 := (hk.cell 2).trans rfl
        refine bodyPost_ret (v := .tuple #[.agg #[.int .i64 0, .int .i64 0, .string ⟨#[]⟩], .bool false]) (by simp [results, Tryd.results88, go_sem, k0, k1, k2]) rfl ?_
        exact ⟨rfl, by rw [HRR.out]; exact hb4.out⟩
    | false =>
      by_cases hN : N < cn
      · have t1 : decide ((cn : Int) ≤ (N : Int)) = false := decide_eq_false (by omega)
        obtain ⟨b1, o1, hk1, rfl, hb1, hc⟩ := HX3.out.at Cn.cells 3 (fun _ => rfl) (by omega) N hN
        have c0 := hc 0 _ (by omega) rfl
        have c1 := hc 1 _ (by omega) rfl
        have c2 := hc 2 _ (by omega) rfl
        rw [Nat.add_zero] at c0
        clear hc
        have hVz : V = some cs[N] := by rw [HV.out, bindS_some (l := cs) rfl (by omega) (by simpa using hk1)]; rfl
        generalize cs[N] = z at *
        obtain ⟨zk, zi, zt⟩ := z
        dsimp only at c0 c1 c2
        subst hVz
        have hk := ((H3.out.set_ 0 (.int .i64 zk)).set_ 1 (.int .i64 zi)).set_ 2 (.string zt)
        have hb4 := HBS (.int .i64 zk) (.int .i64 zi) (.string zt)
        clear HBS HV
        go_wp2
        generalize World.setCell (World.setCell (World.setCell _ _ _) _ _) _ _ = w4 at *
        have k0 := (hk.cell 0).trans rfl
        have k1 := (hk.cell 1).trans rfl
        have k2 := (hk.cell 2).trans rfl
        refine bodyPost_ret (v := .tuple #[.agg #[.int .i64 zk, .int .i64 zi, .string zt], .bool true]) (by simp [results, Tryd.results88, go_sem, k0, k1, k2]) rfl ?_
        exact ⟨rfl, by rw [HRR.out]; exact hb4.out⟩
      · have t1 : decide ((cn : Int) ≤ (N : Int)) = true := decide_eq_true (by omega)
        obtain rfl : V = none := by rw [HV.out, bindS_high (l := cs) rfl (by omega) (by simp; omega)]
        have hk := ((H3.out.set_ 0 (.int .i64 0)).set_ 1 (.int .i64 0)).set_ 2 (.string ⟨#[]⟩)
        have hb4 := HBS (.int .i64 0) (.int .i64 0) (.string ⟨#[]⟩)
        clear HBS HV
        go_wp2
        generalize World.setCell (World.setCell (World.setCell _ _ _) _ _) _ _ = w4 at *
        have k0 := (hk.cell 0).trans rfl
        have k1 := (hk.cell 1).trans rfl
        have k2 := (hk.cell 2).trans rfl
        refine bodyPost_ret (v := .tuple #[.agg #[.int .i64 0, .int .i64 0, .string ⟨#[]⟩], .bool false]) (by simp [results, Tryd.results88, go_sem, k0, k1, k2]) rfl ?_
        exact ⟨rfl, by rw [HRR.out]; exact hb4.out⟩
end Go.Proofs.YtjcgkplphiedjaaDoorT

namespace Go.Proofs.YtjcgkplphiedjaaDoorT
open Go.RowKit Go.Sort

set_option maxRecDepth 20000 in
set_option maxHeartbeats 8000000 in
theorem term_why (x : Co) (s : Sl) (A : Option Addr) (n c : Nat) (sub : List Cn) (w : World) (hx : Rd w w.heap.size 3 x.CA x.cn (kcells x.cs)) (hr : Rd w w.heap.size 3 A n (kcells sub)) :
    Calls Tryd.prog 91 #[.agg x.cells.toArray, .agg s.cells.toArray, .slice A n c] w fun e w' => e = .returned (.tuple #[optK (bindS x.cs sub s), .bool (bindS x.cs sub s).isSome]) ∧ Below w.heap.size w w' := by
  have hl : sub.length = n := by have := hr.1; rw [kcells_length] at this; omega
  have hlc : x.cs.length = x.cn := by have := hx.1; rw [kcells_length] at this; omega
  obtain ⟨V, hV⟩ : ∃ V, V = bindS x.cs sub s := ⟨_, rfl⟩
  rw [← hV]
  obtain ⟨DA, dn, dc, ds, CA, cn, cc, cs, RA, rn, rc, rs, FA, fn, fc, fs⟩ := x
  obtain ⟨sv, sn⟩ := s
  dsimp only at hx hlc hV
  show Calls Tryd.prog 91 #[.agg #[.slice DA dn dc, .slice CA cn cc, .slice RA rn rc, .slice FA fn fc], .agg #[.bool sv, .int .i64 sn], .slice A n c] w _
  have HX := Lib.hid hx
  have HR := Lib.hid hr
  have HV := Lib.hid hV
  have hnb := hr.2.1
  have hcb := hx.2.1
  clear hx hr hV
  go_enter Tryd.func91, Tryd.ntmps91
  go_upto_region 1 with (fail)
  obtain ⟨hb, h1, h2, h3, hsz⟩ := three_alloc w 40 117 68 [.slice DA dn dc, .slice CA cn cc, .slice RA rn rc, .slice FA fn fc] [.bool sv, .int .i64 sn] [.int .i64 0, .int .i64 0, .string ⟨#[]⟩]
  generalize World.alloc (World.alloc (World.alloc _ _) _) _ = w3 at *
  have HR3 := Lib.hid (HR.out.below hb)
  have HX3 := Lib.hid (HX.out.below hb)
  generalize hR : w.heap.size = R at *
  have HRR := Lib.hid hR
  clear hR HR HX
  have HB := Lib.hid hb
  have f1 := (h1.cell 1).trans rfl
  have g0 := (h2.cell 0).trans rfl
  have g1 := (h2.cell 1).trans rfl
  have r0 := (h3.cell 0).trans rfl
  have r1 := (h3.cell 1).trans rfl
  have r2 := (h3.cell 2).trans rfl
  have q0 := h3.frozen 0
  have q1 := h3.frozen 1
  have q2 := h3.frozen 2
  have H3 := Lib.hid h3
  clear h1 h2 h3 hb
  have HBS : ∀ (a b c' : Value), Hid (Below R w (((w3.setCell ⟨R + 1 + 1, 0, none⟩ a).setCell ⟨R + 1 + 1, 1, none⟩ b).setCell ⟨R + 1 + 1, 2, none⟩ c')) := fun a b c' => Lib.hid (((HB.out.setCell (p := ⟨R + 1 + 1, 0, none⟩) (by show R ≤ R + 1 + 1; omega) a).setCell (p := ⟨R + 1 + 1, 1, none⟩) (by show R ≤ R + 1 + 1; omega) b).setCell (p := ⟨R + 1 + 1, 2, none⟩) (by show R ≤ R + 1 + 1; omega) c')
  rcases Int.lt_or_le sn 0 with hs0 | hs0
  · have t0 : decide (sn < 0) = true := decide_eq_true hs0
    obtain rfl : V = none := by rw [HV.out, bindS_low hs0]
    clear HV
    have hk := ((H3.out.set_ 0 (.int .i64 0)).set_ 1 (.int .i64 0)).set_ 2 (.string ⟨#[]⟩)
    have hb4 := HBS (.int .i64 0) (.int .i64 0) (.string ⟨#[]⟩)
    clear HBS
    cases sv
    all_goals
      go_wp2
      generalize World.setCell (World.setCell (World.setCell _ _ _) _ _) _ _ = w4 at *
      have k0 := (hk.cell 0).trans rfl
      have k1 := (hk.cell 1).trans rfl
      have k2 := (hk.cell 2).trans rfl
      refine bodyPost_ret (v := .tuple #[.agg #[.int .i64 0, .int .i64 0, .string ⟨#[]⟩], .bool false]) (by simp [results, Tryd.results91, go_sem, k0, k1, k2]) rfl ?_
      exact ⟨rfl, by rw [HRR.out]; exact hb4.out⟩
  · obtain ⟨N, rfl⟩ : ∃ N : Nat, sn = (N : Int) := ⟨sn.toNat, by omega⟩
    have t0 : decide ((N : Int) < 0) = false := decide_eq_false (by omega)
    cases sv with
    | true =>
      by_cases hN : N < n
      · have t1 : decide ((n : Int) ≤ (N : Int)) = false := decide_eq_false (by omega)
        obtain ⟨b1, o1, hk1, rfl, hb1, hc⟩ := HR3.out.at Cn.cells 3 (fun _ => rfl) (by omega) N hN
        have c0 := hc 0 _ (by omega) rfl
        have c1 := hc 1 _ (by omega) rfl
        have c2 := hc 2 _ (by omega) rfl
        rw [Nat.add_zero] at c0
        clear hc
        have hVz : V = some sub[N] := by rw [HV.out, bindS_some (l := sub) rfl (by omega) (by simpa using hk1)]; rfl
        generalize sub[N] = z at *
        obtain ⟨zk, zi, zt⟩ := z
        dsimp only at c0 c1 c2
        subst hVz
        have hk := ((H3.out.set_ 0 (.int .i64 zk)).set_ 1 (.int .i64 zi)).set_ 2 (.string zt)
        have hb4 := HBS (.int .i64 zk) (.int .i64 zi) (.string zt)
        clear HBS HV
        go_wp2
        generalize World.setCell (World.setCell (World.setCell _ _ _) _ _) _ _ = w4 at *
        have k0 := (hk.cell 0).trans rfl
        have k1 := (hk.cell 1).trans rfl
        have k2 := (hk.cell 2).trans rfl
        refine bodyPost_ret (v := .tuple #[.agg #[.int .i64 zk, .int .i64 zi, .string zt], .bool true]) (by simp [results, Tryd.results91, go_sem, k0, k1, k2]) rfl ?_
        exact ⟨rfl, by rw [HRR.out]; exact hb4.out⟩
      · have t1 : decide ((n : Int) ≤ (N : Int)) = true := decide_eq_true (by omega)
        obtain rfl : V = none := by rw [HV.out, bindS_high (l := sub) rfl (by omega) (by simp; omega)]
        have hk := ((H3.out.set_ 0 (.int .i64 0)).set_ 1 (.int .i64 0)).set_ 2 (.string ⟨#[]⟩)
        have hb4 := HBS (.int .i64 0) (.int .i64 0) (.string ⟨#[]⟩)
        clear HBS HV
        go_wp2
        generalize World.setCell (World.setCell (World.setCell _ _ _) _ _) _ _ = w4 at *
        have k0 := (hk.cell 0).trans rfl
        have k1 := (hk.cell 1).trans rfl
        have k2 := (hk.cell 2).trans rfl
        refine bodyPost_ret (v := .tuple #[.agg #[.int .i64 0, .int .i64 0, .string ⟨#[]⟩], .bool false]) (by simp [results, Tryd.results91, go_sem, k0, k1, k2]) rfl ?_
        exact ⟨rfl, by rw [HRR.out]; exact hb4.out⟩
    | false =>
      by_cases hN : N < cn
      · have t1 : decide ((cn : Int) ≤ (N : Int)) = false := decide_eq_false (by omega)
        obtain ⟨b1, o1, hk1, rfl, hb1, hc⟩ := HX3.out.at Cn.cells 3 (fun _ => rfl) (by omega) N hN
        have c0 := hc 0 _ (by omega) rfl
        have c1 := hc 1 _ (by omega) rfl
        have c2 := hc 2 _ (by omega) rfl
        rw [Nat.add_zero] at c0
        clear hc
        have hVz : V = some cs[N] := by rw [HV.out, bindS_some (l := cs) rfl (by omega) (by simpa using hk1)]; rfl
        generalize cs[N] = z at *
        obtain ⟨zk, zi, zt⟩ := z
        dsimp only at c0 c1 c2
        subst hVz
        have hk := ((H3.out.set_ 0 (.int .i64 zk)).set_ 1 (.int .i64 zi)).set_ 2 (.string zt)
        have hb4 := HBS (.int .i64 zk) (.int .i64 zi) (.string zt)
        clear HBS HV
        go_wp2
        generalize World.setCell (World.setCell (World.setCell _ _ _) _ _) _ _ = w4 at *
        have k0 := (hk.cell 0).trans rfl
        have k1 := (hk.cell 1).trans rfl
        have k2 := (hk.cell 2).trans rfl
        refine bodyPost_ret (v := .tuple #[.agg #[.int .i64 zk, .int .i64 zi, .string zt], .bool true]) (by simp [results, Tryd.results91, go_sem, k0, k1, k2]) rfl ?_
        exact ⟨rfl, by rw [HRR.out]; exact hb4.out⟩
      · have t1 : decide ((cn : Int) ≤ (N : Int)) = true := decide_eq_true (by omega)
        obtain rfl : V = none := by rw [HV.out, bindS_high (l := cs) rfl (by omega) (by simp; omega)]
        have hk := ((H3.out.set_ 0 (.int .i64 0)).set_ 1 (.int .i64 0)).set_ 2 (.string ⟨#[]⟩)
        have hb4 := HBS (.int .i64 0) (.int .i64 0) (.string ⟨#[]⟩)
        clear HBS HV
        go_wp2
        generalize World.setCell (World.setCell (World.setCell _ _ _) _ _) _ _ = w4 at *
        have k0 := (hk.cell 0).trans rfl
        have k1 := (hk.cell 1).trans rfl
        have k2 := (hk.cell 2).trans rfl
        refine bodyPost_ret (v := .tuple #[.agg #[.int .i64 0, .int .i64 0, .string ⟨#[]⟩], .bool false]) (by simp [results, Tryd.results91, go_sem, k0, k1, k2]) rfl ?_
        exact ⟨rfl, by rw [HRR.out]; exact hb4.out⟩
end Go.Proofs.YtjcgkplphiedjaaDoorT
