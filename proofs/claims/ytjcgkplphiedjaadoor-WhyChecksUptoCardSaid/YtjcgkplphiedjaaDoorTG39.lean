/- The law's copy of a core. -/
import Derived.Test.YtjcgkplphiedjaaDoorTG36
import Derived.Test.YtjcgkplphiedjaaDoorTG38
namespace Go.Proofs.YtjcgkplphiedjaaDoorT
open Go.RowKit

theorem Tryd.info94 : (Tryd.prog.info? 94).map (fun i => (i.zero, i.size, i.bytes)) = some (some (.agg #[.string ⟨#[]⟩, .int .i64 0]), 2, 24) := by kernel_rfl
theorem Tryd.info119 : (Tryd.prog.info? 119).map (fun i => (i.zero, i.size, i.bytes)) = some (some (.agg #[.int .i64 0, .bool false, .int .i64 0, .bool false, .int .i64 0]), 5, 40) := by kernel_rfl
theorem Tryd.info81 : (Tryd.prog.info? 81).map (fun i => (i.zero, i.size, i.bytes)) = some (some (.agg #[.int .i64 0, .slice none 0 0, .slice none 0 0, .slice none 0 0, .slice none 0 0, .slice none 0 0, .int .i64 0]), 7, 136) := by kernel_rfl
theorem Tryd.info84 : (Tryd.prog.info? 84).map (fun i => (i.zero, i.size, i.bytes)) = some (some (.agg #[.int .i64 0, .slice none 0 0]), 2, 32) := by kernel_rfl
theorem preds_one (l : List Pd) : ∀ u ∈ pdcells l, u.oneCell' = true := by
  intro u hu
  obtain ⟨x, _, hu⟩ := List.mem_flatMap.1 hu
  simp only [Pd.cells, List.mem_cons, List.not_mem_nil, or_false] at hu
  rcases hu with rfl | rfl <;> rfl
theorem tests_one (l : List Ts) : ∀ u ∈ tscells l, u.oneCell' = true := by
  intro u hu
  obtain ⟨x, _, hu⟩ := List.mem_flatMap.1 hu
  simp only [Ts.cells, List.mem_cons, List.not_mem_nil, or_false] at hu
  rcases hu with rfl | rfl | rfl | rfl | rfl <;> rfl
theorem Rl.one (x : Rl) : ∀ u ∈ x.cells, u.oneCell' = true := by
  intro u hu
  simp only [Rl.cells, List.mem_cons, List.not_mem_nil, or_false] at hu
  rcases hu with rfl | rfl | rfl | rfl | rfl | rfl | rfl <;> rfl
theorem Rw.one (x : Rw) : ∀ u ∈ x.cells, u.oneCell' = true := by
  intro u hu
  simp only [Rw.cells, List.mem_cons, List.not_mem_nil, or_false] at hu
  rcases hu with rfl | rfl <;> rfl
theorem rlcells_length (l : List Rl) : (rlcells l).length = l.length * 7 := flat_length Rl.cells 7 (fun _ => rfl) l
theorem rlcells_append (a b : List Rl) : rlcells (a ++ b) = rlcells a ++ rlcells b := by simp [rlcells]
theorem rwcells_length (l : List Rw) : (rwcells l).length = l.length * 2 := flat_length Rw.cells 2 (fun _ => rfl) l
theorem rwcells_append (a b : List Rw) : rwcells (a ++ b) = rwcells a ++ rwcells b := by simp [rwcells]

/-- A rule whose lists are its own. -/
structure Rl.own (w : World) (R : Nat) (x : Rl) : Prop where
  h : x.h.own w R
  p : w.ownsRow R 77 2 (.slice x.PA x.pn x.pc) x.pn (pncells x.ps)
  ps : ∀ y ∈ x.ps, y.own w R
  t : w.ownsRow R 119 5 (.slice x.TA x.tn x.tc) x.tn (tscells x.ts)
  n : w.ownsRow R 77 2 (.slice x.NA x.nn x.nc) x.nn (pncells x.ns)
  ns : ∀ y ∈ x.ns, y.own w R
  v : w.ownsRow R 9 1 (.slice x.VA x.vn x.vc) x.vn (scells x.vs)
theorem Rl.own.below {w w' : World} {R : Nat} {x : Rl} (h : x.own w R) (hb : Below w.heap.size w w') : x.own w' R :=
  ⟨own_below h.h hb, own_below h.p hb, fun y hy => own_below (h.ps y hy) hb, own_below h.t hb, own_below h.n hb, fun y hy => own_below (h.ns y hy) hb, own_below h.v hb⟩
theorem Rl.own.le {w : World} {R R' : Nat} {x : Rl} (h : x.own w R) (hb : R' ≤ R) : x.own w R' :=
  ⟨own_le h.h hb, own_le h.p hb, fun y hy => own_le (h.ps y hy) hb, own_le h.t hb, own_le h.n hb, fun y hy => own_le (h.ns y hy) hb, own_le h.v hb⟩
theorem Rl.own.kept {w w' : World} {R R' e size n : Nat} {x : Rl} {v : Value} {xs : List Value} (h : x.own w R) (h' : w.ownsRow R' e size v n xs) (h1 : 117 ≠ e) (h2 : 77 ≠ e) (h3 : 119 ≠ e) (h4 : 9 ≠ e) (hg : w.grownBy w' v.ownBlock) : x.own w' R :=
  ⟨own_kept_types h.h h' h1 hg, own_kept_types h.p h' h2 hg, fun y hy => own_kept_types (h.ps y hy) h' h1 hg, own_kept_types h.t h' h3 hg, own_kept_types h.n h' h2 hg, fun y hy => own_kept_types (h.ns y hy) h' h1 hg, own_kept_types h.v h' h4 hg⟩
theorem Rl.own.set {w : World} {R g : Nat} {t : TypeId} {cs : List Value} {x : Rl} (h : x.own w R) (hg : Blk w g t cs) (h1 : t ≠ 117) (h2 : t ≠ 77) (h3 : t ≠ 119) (h4 : t ≠ 9) (i : Nat) (u : Value) : x.own (w.setCell ⟨g, i, none⟩ u) R :=
  ⟨own_setCell_blk h.h hg h1 i u, own_setCell_blk h.p hg h2 i u, fun y hy => own_setCell_blk (h.ps y hy) hg h1 i u, own_setCell_blk h.t hg h3 i u, own_setCell_blk h.n hg h2 i u, fun y hy => own_setCell_blk (h.ns y hy) hg h1 i u, own_setCell_blk h.v hg h4 i u⟩
theorem Rl.own.ok {w : World} {R : Nat} {x : Rl} (h : x.own w R) : x.ok w := ⟨own_rd h.h, own_rd h.p, fun y hy => own_rd (h.ps y hy), own_rd h.t, own_rd h.n, fun y hy => own_rd (h.ns y hy), own_rd h.v⟩
/-- A row whose list is its own. -/
def Rw.own (w : World) (R : Nat) (y : Rw) : Prop := w.ownsRow R 3 1 (.slice y.A y.n y.c) y.n (icells y.xs)

theorem own4 {w : World} {base e size n g : Nat} {t : TypeId} {v : Value} {xs cs : List Value} (h : w.ownsRow base e size v n xs) (hg : Blk w g t cs) (ht : t ≠ e) {a b c d : Value} :
    ((((w.setCell ⟨g, 0, none⟩ a).setCell ⟨g, 1, none⟩ b).setCell ⟨g, 2, none⟩ c).setCell ⟨g, 3, none⟩ d).ownsRow base e size v n xs :=
  own_setCell_blk (own_setCell_blk (own_setCell_blk (own_setCell_blk h hg ht 0 a) (hg.set_ 0 a) ht 1 b) ((hg.set_ 0 a).set_ 1 b) ht 2 c) (((hg.set_ 0 a).set_ 1 b).set_ 2 c) ht 3 d

theorem wpN_three {P : Program} {md : Region.Mode} {ops : Array Oper} {Q : Exit → Act → World → Prop} {C : World → Prop} {nd : Nat → Bool} {k i j l : Nat} {listed : Array Bool} {o o' o'' : Oper} {a : Act} {w : World} (hr : Region.ready md ops listed = [i, j, l]) (ho : ops[i]? = some o) (ho' : ops[j]? = some o') (ho'' : ops[l]? = some o'')
    (h : wpList P ops (tailN P md ops Q C nd k listed i) [o] a w) (h' : wpList P ops (tailN P md ops Q C nd k listed j) [o'] a w) (h'' : wpList P ops (tailN P md ops Q C nd k listed l) [o''] a w) : wpN P md ops Q C nd (k + 1) listed a w := by
  refine ⟨fun h0 => (by rw [hr] at h0; cases h0), fun x hx => ?_⟩
  rw [hr] at hx
  simp only [List.mem_cons, List.not_mem_nil, or_false] at hx
  rcases hx with rfl | rfl | rfl
  · exact wpN_run ho h
  · exact wpN_run ho' h'
  · exact wpN_run ho'' h''

/-- What has been made, of a copy of a core: the predicates, the constants, the core's block. -/
structure TS (Z : Nat) (wd : World) (fa fb : Option (Value × Nat × List Value)) (fk : Option (Nat × List Value)) (w : World) : Prop where
  b : Below Z wd w
  s : Z ≤ w.heap.size
  a : ∀ v n l, fa = some (v, n, l) → w.ownsRow Z 94 2 v n l
  c : ∀ v n l, fb = some (v, n, l) → w.ownsRow Z 68 3 v n l
  k : ∀ K l, fk = some (K, l) → Blk w K 40 l ∧ Z ≤ K
section
variable {Z : Nat} {wd w : World} {fa fb : Option (Value × Nat × List Value)} {fk : Option (Nat × List Value)}
theorem TS.alloc (h : TS Z wd fa fb fk w) (o : Obj) : TS Z wd fa fb fk (w.alloc o) :=
  ⟨h.b.alloc h.s o, Nat.le_trans h.s (by simp), fun v n l e => (h.a v n l e).alloc o, fun v n l e => (h.c v n l e).alloc o, fun K l e => ⟨(h.k K l e).1.alloc o, (h.k K l e).2⟩⟩
theorem TS.A0 (h : TS Z wd none fb fk w) : TS Z wd (some (.slice (some ⟨w.heap.size, 0, none⟩) 0 0, 0, [])) fb fk (w.alloc (.cells #[] 94)) :=
  ⟨(h.alloc _).b, (h.alloc _).s, by rintro _ _ _ ⟨⟩; exact own_empty h.s, (h.alloc _).c, (h.alloc _).k⟩
theorem TS.B0 (h : TS Z wd fa none fk w) : TS Z wd fa (some (.slice (some ⟨w.heap.size, 0, none⟩) 0 0, 0, [])) fk (w.alloc (.cells #[] 68)) :=
  ⟨(h.alloc _).b, (h.alloc _).s, (h.alloc _).a, by rintro _ _ _ ⟨⟩; exact own_empty h.s, (h.alloc _).k⟩
theorem TS.A3 {v v' : Value} {n : Nat} {l : List Value} {w' : World} (h : TS Z wd (some (v, 0, [])) fb fk w) (ho : w'.ownsRow Z 94 2 v' n l) (hg : w.grownBy w' v.ownBlock) : TS Z wd (some (v', n, l)) fb fk w' :=
  have h0 := h.a _ _ _ rfl
  ⟨h.b.grown hg h.s (fun q hq => (h0.lt q hq).1), Nat.le_trans h.s hg.size, by rintro _ _ _ ⟨⟩; exact ho, fun v n l e => own_kept_types (h.c v n l e) h0 (by decide) hg, fun K l e => ⟨(h.k K l e).1.grown hg (own_blk_ne h0 (h.k K l e).1 (by decide)), (h.k K l e).2⟩⟩
theorem TS.B7 {v v' : Value} {n : Nat} {l : List Value} {w' : World} (h : TS Z wd fa (some (v, 0, [])) fk w) (ho : w'.ownsRow Z 68 3 v' n l) (hg : w.grownBy w' v.ownBlock) : TS Z wd fa (some (v', n, l)) fk w' :=
  have h0 := h.c _ _ _ rfl
  ⟨h.b.grown hg h.s (fun q hq => (h0.lt q hq).1), Nat.le_trans h.s hg.size, fun v n l e => own_kept_types (h.a v n l e) h0 (by decide) hg, by rintro _ _ _ ⟨⟩; exact ho, fun K l e => ⟨(h.k K l e).1.grown hg (own_blk_ne h0 (h.k K l e).1 (by decide)), (h.k K l e).2⟩⟩
theorem TS.C9 (h : TS Z wd fa fb none w) (l : List Value) : TS Z wd fa fb (some (w.heap.size, l)) (w.alloc (.cells l.toArray 40)) :=
  ⟨(h.alloc _).b, (h.alloc _).s, (h.alloc _).a, (h.alloc _).c, by rintro _ _ ⟨⟩; exact ⟨Blk.new _ _ _, h.s⟩⟩
theorem TS.up {w' : World} (h : TS Z wd fa fb fk w) (hb : Below w.heap.size w w') : TS Z wd fa fb fk w' :=
  ⟨h.b.trans (hb.mono h.s), Nat.le_trans h.s hb.size, fun v n l e => own_below (h.a v n l e) hb, fun v n l e => own_below (h.c v n l e) hb, fun K l e => ⟨(h.k K l e).1.below hb (h.k K l e).1.lt, (h.k K l e).2⟩⟩
theorem TS.grow {w' : World} {e size n : Nat} {v : Value} {xs : List Value} (h : TS Z wd fa fb fk w) (h' : w.ownsRow Z e size v n xs) (hg : w.grownBy w' v.ownBlock) (h1 : 94 ≠ e) (h2 : 68 ≠ e) (h3 : 40 ≠ e) : TS Z wd fa fb fk w' :=
  ⟨h.b.grown hg h.s (fun q hq => (h'.lt q hq).1), Nat.le_trans h.s hg.size, fun v n l e => own_kept_types (h.a v n l e) h' h1 hg, fun v n l e => own_kept_types (h.c v n l e) h' h2 hg, fun K l e => ⟨(h.k K l e).1.grown hg (own_blk_ne h' (h.k K l e).1 h3), (h.k K l e).2⟩⟩
theorem TS.st {K : Nat} {l : List Value} (h : TS Z wd fa fb (some (K, l)) w) (i : Nat) (u : Value) : TS Z wd fa fb (some (K, l.set i u)) (w.setCell ⟨K, i, none⟩ u) :=
  have h0 := h.k _ _ rfl
  ⟨h.b.setCell (p := ⟨K, i, none⟩) h0.2 u, by simpa [World.setCell] using h.s, fun v n l e => own_setCell_blk (h.a v n l e) h0.1 (by decide) i u, fun v n l e => own_setCell_blk (h.c v n l e) h0.1 (by decide) i u, by rintro _ _ ⟨⟩; exact ⟨h0.1.set_ i u, h0.2⟩⟩
end

set_option maxRecDepth 40000 in
set_option maxHeartbeats 16000000 in
theorem twin_any (x : Co) (w : World) (hx : x.ok w) (hf : x.fine) (hn : x.nil) (hs : x.small) :
    Calls Tryd.prog 17 #[.agg x.cells.toArray] w fun e w' => ∃ x' : Co, e = .returned (.agg x'.cells.toArray) ∧ x'.core = x.core ∧ x'.ok w' ∧ x'.fn = x.fn ∧ Below w.heap.size w w' := by
  obtain ⟨p0, hpi, hp0, hp1, hp2⟩ := info_parts Tryd.info94
  obtain ⟨i0, hi, hi0, hi1, hi2⟩ := info_parts Tryd.info68
  obtain ⟨sl0, hsl, hsl0, hsl1, hsl2⟩ := info_parts Tryd.info117
  obtain ⟨ti, hti, ht0, ht1, ht2⟩ := info_parts Tryd.info119
  obtain ⟨ri, hri, hr0, hr1, hr2⟩ := info_parts Tryd.info81
  obtain ⟨qi, hqi, hq0, hq1, hq2⟩ := info_parts Tryd.info84
  obtain ⟨n0, hni, hn0, hn1, hn2⟩ := info_parts Tryd.info3
  obtain ⟨ui, hui, hu0, hu1, hu2⟩ := info_parts Tryd.info9
  have hlr : x.rs.length = x.rn := by have h := hx.r.1; rw [rlcells_length] at h; omega
  have hlf : x.fs.length = x.fn := by have h := hx.f.1; rw [rwcells_length] at h; omega
  have HO := Lib.hid hx
  have HXN := Lib.hid hf.f
  have HNI := Lib.hid hn
  have HSM := Lib.hid hs
  have HLR := Lib.hid hlr
  have HLF := Lib.hid hlf
  have hdn := hs.d
  have hcn := hs.c
  have hrn := hs.r
  have hfn := hs.f
  have hdA := hn.d
  have hcA := hn.c
  clear hx hf hn hs hlr hlf
  obtain ⟨DA, dn, dc, ds, CA, cn, cc, cs, RA, rn, rc, rs, FA, fn, fc, fs⟩ := x
  dsimp only at HLR HLF hdn hcn hrn hfn hdA hcA
  show Calls Tryd.prog 17 #[.agg #[.slice DA dn dc, .slice CA cn cc, .slice RA rn rc, .slice FA fn fc]] w _
  go_enter Tryd.func17, Tryd.ntmps17
  go_upto_region 1 with (fail)
  obtain ⟨hb3, h1, h2, hs3⟩ := two_alloc w 40 40 [.slice DA dn dc, .slice CA cn cc, .slice RA rn rc, .slice FA fn fc] [.slice none 0 0, .slice none 0 0, .slice none 0 0, .slice none 0 0]
  generalize World.alloc (World.alloc _ _) _ = w3 at *
  have HX := Lib.hid (HO.out.up hb3)
  generalize hR : w.heap.size = R at *
  have HRR := Lib.hid hR
  clear hR HO
  have HB := Lib.hid hb3
  have H1 := Lib.hid h1
  have H2 := Lib.hid h2
  clear hb3 h1 h2
  obtain ⟨Z, hZ⟩ : ∃ Z, Z = w3.heap.size := ⟨_, rfl⟩
  have hZR : R + 1 < Z := by omega
  have HZ := Lib.hid hZ
  clear hs3
  go_cut [3] from 7 to 15 (fun u3 wx => ∃ K A1 d1 A2 d2, u3 = .pointer (some ⟨K, 0, none⟩) ∧ Hid (TS Z w3 (some (.slice A1 dn d1, dn, pdcells ds)) (some (.slice A2 cn d2, cn, kcells cs)) (some (K, [.slice A1 dn d1, .slice A2 cn d2, .slice none 0 0, .slice none 0 0])) wx))
  case first =>
    obtain ⟨C, hCi⟩ : ∃ C : World → Prop, ∀ w', C w' ↔ Blk w' R 40 [.slice DA dn dc, .slice CA cn cc, .slice RA rn rc, .slice FA fn fc] := ⟨_, fun _ => Iff.rfl⟩
    have HC : Hid (∀ w', Below Z w3 w' → C w') := Lib.hid fun w' hb => (hCi _).2 (H1.out.below hb (by omega))
    have q0 : ∀ q : WC C, q.w.cell? ⟨R, 0, none⟩ = some (.slice DA dn dc) := fun q => ((hCi _).1 q.h).cell 0
    have q1 : ∀ q : WC C, q.w.cell? ⟨R, 1, none⟩ = some (.slice CA cn cc) := fun q => ((hCi _).1 q.h).cell 1
    have hC1 : C w3.drew := HC.out _ ((Below.refl _ _).drew)
    have kn : Nonempty (WC C) := ⟨⟨_, hC1⟩⟩
    refine wp_region_frontN C [1, 2, 5, 6] 7 (fun j => decide (j < 11)) (by kernel_rfl) (fun _ _ d _ _ h => by cases d <;> exact h) (by kernel_rfl) hC1 ?_
    simp only [List.map_cons, List.map_nil, List.getD_cons_zero, List.getD_cons_succ]
    repeat (go_big_quiet_step (fail))
    refine wpQuiet_nil ?_
    clear q0 q1 kn hCi hC1
    have hsd : Z ≤ w3.drew.heap.size := by rw [hZ]; exact ((Below.refl w3.heap.size w3).drew).size
    have S0 : Hid (TS Z w3 none none none w3.drew) := Lib.hid ⟨(Below.refl _ _).drew, hsd, (by rintro _ _ _ ⟨⟩), (by rintro _ _ _ ⟨⟩), (by rintro _ _ ⟨⟩)⟩
    have HRA : Hid (∀ w', Below Z w3 w' → Z ≤ w'.heap.size → Rd w' w'.heap.size 2 DA dn (pdcells ds)) := Lib.hid fun w' hb hs => by subst hZ; exact HX.out.d.up hb hs
    have HRC : Hid (∀ w', Below Z w3 w' → Z ≤ w'.heap.size → Rd w' w'.heap.size 3 CA cn (kcells cs)) := Lib.hid fun w' hb hs => by subst hZ; exact HX.out.c.up hb hs
    clear hsd hZ
    generalize w3.drew = w0 at *
    refine wpN_three (i := 0) (j := 4) (l := 9) (by kernel_rfl) rfl rfl rfl ?_ ?_ ?_
    · go_wp2
      have S1 := Lib.hid S0.out.A0
      refine tailN_normal (HC.out _ S1.out.b) ?_
      generalize World.alloc _ _ = w1 at *
      refine wpN_three (i := 3) (j := 4) (l := 9) (by kernel_rfl) rfl rfl rfl ?_ ?_ ?_
      · refine wpList_append_all rfl _ _ 35 rfl Z 94 p0 _ 2 24 Tryd.underlying35 hpi hp0 hp1 hp2 rfl (by decide) _ _ _ rfl (S1.out.a _ _ _ rfl) DA dn dc (pdcells ds) rfl hdA (HRA.out _ S1.out.b S1.out.s) (preds_one ds) (by unfold maxLen; omega) (by omega) S1.out.s ?_
        intro vA w2 hoA hgA
        rw [Nat.zero_add, List.nil_append] at hoA
        have S2 := Lib.hid (S1.out.A3 hoA hgA)
        obtain ⟨A1, d1, rfl, _⟩ := own_slice hoA
        clear hoA hgA
        refine tailN_normal (HC.out _ S2.out.b) ?_
        refine wpN_two (i := 4) (j := 9) (by kernel_rfl) rfl rfl ?_ ?_
        · go_wp2
          have S3 := Lib.hid S2.out.B0
          refine tailN_normal (HC.out _ S3.out.b) ?_
          generalize World.alloc _ _ = w3 at *
          refine wpN_two (i := 7) (j := 9) (by kernel_rfl) rfl rfl ?_ ?_
          · refine wpList_append_all rfl _ _ 36 rfl Z 68 i0 _ 3 32 Tryd.underlying36 hi hi0 hi1 hi2 rfl (by decide) _ _ _ rfl (S3.out.c _ _ _ rfl) CA cn cc (kcells cs) rfl hcA (HRC.out _ S3.out.b S3.out.s) (cons_one cs) (by unfold maxLen; omega) (by omega) S3.out.s ?_
            intro vB w4 hoB hgB
            rw [Nat.zero_add, List.nil_append] at hoB
            have S4 := Lib.hid (S3.out.B7 hoB hgB)
            obtain ⟨A2, d2, rfl, _⟩ := own_slice hoB
            clear hoB hgB
            refine tailN_normal (HC.out _ S4.out.b) ?_
            refine wpN_two (i := 8) (j := 9) (by kernel_rfl) rfl rfl ?_ ?_
            · go_wp2
              refine tailN_normal (HC.out _ S4.out.b) ?_
              refine wpN_one (i := 9) (by kernel_rfl) rfl ?_
              go_wp2
              have S5 := Lib.hid (S4.out.C9 [.slice none 0 0, .slice none 0 0, .slice none 0 0, .slice none 0 0])
              refine tailN_normal (HC.out _ S5.out.b) ?_
              generalize World.alloc _ _ = w5 at *
              refine wpN_one (i := 10) (by kernel_rfl) rfl ?_
              have hk := (S5.out.k _ _ rfl).1
              have s0 := hk.frozen 0
              have r0 := (hk.cell 0).trans rfl
              have s1 := hk.frozen 1
              have r1 := (hk.cell 1).trans rfl
              have s2 := hk.frozen 2
              have r2 := (hk.cell 2).trans rfl
              have s3 := hk.frozen 3
              have r3 := (hk.cell 3).trans rfl
              clear hk
              go_wp2
              have S6 := Lib.hid ((((S5.out.st 0 (.slice A1 dn d1)).st 1 (.slice A2 cn d2)).st 2 (.slice none 0 0)).st 3 (.slice none 0 0))
              refine tailN_normal (HC.out _ S6.out.b) ?_
              clear s0 s1 s2 s3 r0 r1 r2 r3
              generalize World.setCell (World.setCell (World.setCell (World.setCell _ _ _) _ _) _ _) _ _ = w6 at *
              refine wpN_none (by kernel_rfl) ?_
              go_wp2
              go_meet
              exact ⟨_, A1, d1, A2, d2, rfl, S6⟩
            · go_wp2
              have S5 := Lib.hid (S4.out.C9 [.slice none 0 0, .slice none 0 0, .slice none 0 0, .slice none 0 0])
              refine tailN_normal (HC.out _ S5.out.b) ?_
              generalize World.alloc _ _ = w5 at *
              refine wpN_one (i := 8) (by kernel_rfl) rfl ?_
              go_wp2
              refine tailN_normal (HC.out _ S5.out.b) ?_
              refine wpN_one (i := 10) (by kernel_rfl) rfl ?_
              have hk := (S5.out.k _ _ rfl).1
              have s0 := hk.frozen 0
              have r0 := (hk.cell 0).trans rfl
              have s1 := hk.frozen 1
              have r1 := (hk.cell 1).trans rfl
              have s2 := hk.frozen 2
              have r2 := (hk.cell 2).trans rfl
              have s3 := hk.frozen 3
              have r3 := (hk.cell 3).trans rfl
              clear hk
              go_wp2
              have S6 := Lib.hid ((((S5.out.st 0 (.slice A1 dn d1)).st 1 (.slice A2 cn d2)).st 2 (.slice none 0 0)).st 3 (.slice none 0 0))
              refine tailN_normal (HC.out _ S6.out.b) ?_
              clear s0 s1 s2 s3 r0 r1 r2 r3
              generalize World.setCell (World.setCell (World.setCell (World.setCell _ _ _) _ _) _ _) _ _ = w6 at *
              refine wpN_none (by kernel_rfl) ?_
              go_wp2
              go_meet
              exact ⟨_, A1, d1, A2, d2, rfl, S6⟩
          · go_wp2
            have S4 := Lib.hid (S3.out.C9 [.slice none 0 0, .slice none 0 0, .slice none 0 0, .slice none 0 0])
            refine tailN_normal (HC.out _ S4.out.b) ?_
            generalize World.alloc _ _ = w4 at *
            refine wpN_one (i := 7) (by kernel_rfl) rfl ?_
            refine wpList_append_all rfl _ _ 36 rfl Z 68 i0 _ 3 32 Tryd.underlying36 hi hi0 hi1 hi2 rfl (by decide) _ _ _ rfl (S4.out.c _ _ _ rfl) CA cn cc (kcells cs) rfl hcA (HRC.out _ S4.out.b S4.out.s) (cons_one cs) (by unfold maxLen; omega) (by omega) S4.out.s ?_
            intro vB w5 hoB hgB
            rw [Nat.zero_add, List.nil_append] at hoB
            have S5 := Lib.hid (S4.out.B7 hoB hgB)
            obtain ⟨A2, d2, rfl, _⟩ := own_slice hoB
            clear hoB hgB
            refine tailN_normal (HC.out _ S5.out.b) ?_
            refine wpN_one (i := 8) (by kernel_rfl) rfl ?_
            go_wp2
            refine tailN_normal (HC.out _ S5.out.b) ?_
            refine wpN_one (i := 10) (by kernel_rfl) rfl ?_
            have hk := (S5.out.k _ _ rfl).1
            have s0 := hk.frozen 0
            have r0 := (hk.cell 0).trans rfl
            have s1 := hk.frozen 1
            have r1 := (hk.cell 1).trans rfl
            have s2 := hk.frozen 2
            have r2 := (hk.cell 2).trans rfl
            have s3 := hk.frozen 3
            have r3 := (hk.cell 3).trans rfl
            clear hk
            go_wp2
            have S6 := Lib.hid ((((S5.out.st 0 (.slice A1 dn d1)).st 1 (.slice A2 cn d2)).st 2 (.slice none 0 0)).st 3 (.slice none 0 0))
            refine tailN_normal (HC.out _ S6.out.b) ?_
            clear s0 s1 s2 s3 r0 r1 r2 r3
            generalize World.setCell (World.setCell (World.setCell (World.setCell _ _ _) _ _) _ _) _ _ = w6 at *
            refine wpN_none (by kernel_rfl) ?_
            go_wp2
            go_meet
            exact ⟨_, A1, d1, A2, d2, rfl, S6⟩
        · go_wp2
          have S3 := Lib.hid (S2.out.C9 [.slice none 0 0, .slice none 0 0, .slice none 0 0, .slice none 0 0])
          refine tailN_normal (HC.out _ S3.out.b) ?_
          generalize World.alloc _ _ = w3 at *
          refine wpN_one (i := 4) (by kernel_rfl) rfl ?_
          go_wp2
          have S4 := Lib.hid S3.out.B0
          refine tailN_normal (HC.out _ S4.out.b) ?_
          generalize World.alloc _ _ = w4 at *
          refine wpN_one (i := 7) (by kernel_rfl) rfl ?_
          refine wpList_append_all rfl _ _ 36 rfl Z 68 i0 _ 3 32 Tryd.underlying36 hi hi0 hi1 hi2 rfl (by decide) _ _ _ rfl (S4.out.c _ _ _ rfl) CA cn cc (kcells cs) rfl hcA (HRC.out _ S4.out.b S4.out.s) (cons_one cs) (by unfold maxLen; omega) (by omega) S4.out.s ?_
          intro vB w5 hoB hgB
          rw [Nat.zero_add, List.nil_append] at hoB
          have S5 := Lib.hid (S4.out.B7 hoB hgB)
          obtain ⟨A2, d2, rfl, _⟩ := own_slice hoB
          clear hoB hgB
          refine tailN_normal (HC.out _ S5.out.b) ?_
          refine wpN_one (i := 8) (by kernel_rfl) rfl ?_
          go_wp2
          refine tailN_normal (HC.out _ S5.out.b) ?_
          refine wpN_one (i := 10) (by kernel_rfl) rfl ?_
          have hk := (S5.out.k _ _ rfl).1
          have s0 := hk.frozen 0
          have r0 := (hk.cell 0).trans rfl
          have s1 := hk.frozen 1
          have r1 := (hk.cell 1).trans rfl
          have s2 := hk.frozen 2
          have r2 := (hk.cell 2).trans rfl
          have s3 := hk.frozen 3
          have r3 := (hk.cell 3).trans rfl
          clear hk
          go_wp2
          have S6 := Lib.hid ((((S5.out.st 0 (.slice A1 dn d1)).st 1 (.slice A2 cn d2)).st 2 (.slice none 0 0)).st 3 (.slice none 0 0))
          refine tailN_normal (HC.out _ S6.out.b) ?_
          clear s0 s1 s2 s3 r0 r1 r2 r3
          generalize World.setCell (World.setCell (World.setCell (World.setCell _ _ _) _ _) _ _) _ _ = w6 at *
          refine wpN_none (by kernel_rfl) ?_
          go_wp2
          go_meet
          exact ⟨_, A1, d1, A2, d2, rfl, S6⟩
      · go_wp2
        have S2 := Lib.hid S1.out.B0
        refine tailN_normal (HC.out _ S2.out.b) ?_
        generalize World.alloc _ _ = w2 at *
        refine wpN_two (i := 3) (j := 9) (by kernel_rfl) rfl rfl ?_ ?_
        · refine wpList_append_all rfl _ _ 35 rfl Z 94 p0 _ 2 24 Tryd.underlying35 hpi hp0 hp1 hp2 rfl (by decide) _ _ _ rfl (S2.out.a _ _ _ rfl) DA dn dc (pdcells ds) rfl hdA (HRA.out _ S2.out.b S2.out.s) (preds_one ds) (by unfold maxLen; omega) (by omega) S2.out.s ?_
          intro vA w3 hoA hgA
          rw [Nat.zero_add, List.nil_append] at hoA
          have S3 := Lib.hid (S2.out.A3 hoA hgA)
          obtain ⟨A1, d1, rfl, _⟩ := own_slice hoA
          clear hoA hgA
          refine tailN_normal (HC.out _ S3.out.b) ?_
          refine wpN_two (i := 7) (j := 9) (by kernel_rfl) rfl rfl ?_ ?_
          · refine wpList_append_all rfl _ _ 36 rfl Z 68 i0 _ 3 32 Tryd.underlying36 hi hi0 hi1 hi2 rfl (by decide) _ _ _ rfl (S3.out.c _ _ _ rfl) CA cn cc (kcells cs) rfl hcA (HRC.out _ S3.out.b S3.out.s) (cons_one cs) (by unfold maxLen; omega) (by omega) S3.out.s ?_
            intro vB w4 hoB hgB
            rw [Nat.zero_add, List.nil_append] at hoB
            have S4 := Lib.hid (S3.out.B7 hoB hgB)
            obtain ⟨A2, d2, rfl, _⟩ := own_slice hoB
            clear hoB hgB
            refine tailN_normal (HC.out _ S4.out.b) ?_
            refine wpN_two (i := 8) (j := 9) (by kernel_rfl) rfl rfl ?_ ?_
            · go_wp2
              refine tailN_normal (HC.out _ S4.out.b) ?_
              refine wpN_one (i := 9) (by kernel_rfl) rfl ?_
              go_wp2
              have S5 := Lib.hid (S4.out.C9 [.slice none 0 0, .slice none 0 0, .slice none 0 0, .slice none 0 0])
              refine tailN_normal (HC.out _ S5.out.b) ?_
              generalize World.alloc _ _ = w5 at *
              refine wpN_one (i := 10) (by kernel_rfl) rfl ?_
              have hk := (S5.out.k _ _ rfl).1
              have s0 := hk.frozen 0
              have r0 := (hk.cell 0).trans rfl
              have s1 := hk.frozen 1
              have r1 := (hk.cell 1).trans rfl
              have s2 := hk.frozen 2
              have r2 := (hk.cell 2).trans rfl
              have s3 := hk.frozen 3
              have r3 := (hk.cell 3).trans rfl
              clear hk
              go_wp2
              have S6 := Lib.hid ((((S5.out.st 0 (.slice A1 dn d1)).st 1 (.slice A2 cn d2)).st 2 (.slice none 0 0)).st 3 (.slice none 0 0))
              refine tailN_normal (HC.out _ S6.out.b) ?_
              clear s0 s1 s2 s3 r0 r1 r2 r3
              generalize World.setCell (World.setCell (World.setCell (World.setCell _ _ _) _ _) _ _) _ _ = w6 at *
              refine wpN_none (by kernel_rfl) ?_
              go_wp2
              go_meet
              exact ⟨_, A1, d1, A2, d2, rfl, S6⟩
            · go_wp2
              have S5 := Lib.hid (S4.out.C9 [.slice none 0 0, .slice none 0 0, .slice none 0 0, .slice none 0 0])
              refine tailN_normal (HC.out _ S5.out.b) ?_
              generalize World.alloc _ _ = w5 at *
              refine wpN_one (i := 8) (by kernel_rfl) rfl ?_
              go_wp2
              refine tailN_normal (HC.out _ S5.out.b) ?_
              refine wpN_one (i := 10) (by kernel_rfl) rfl ?_
              have hk := (S5.out.k _ _ rfl).1
              have s0 := hk.frozen 0
              have r0 := (hk.cell 0).trans rfl
              have s1 := hk.frozen 1
              have r1 := (hk.cell 1).trans rfl
              have s2 := hk.frozen 2
              have r2 := (hk.cell 2).trans rfl
              have s3 := hk.frozen 3
              have r3 := (hk.cell 3).trans rfl
              clear hk
              go_wp2
              have S6 := Lib.hid ((((S5.out.st 0 (.slice A1 dn d1)).st 1 (.slice A2 cn d2)).st 2 (.slice none 0 0)).st 3 (.slice none 0 0))
              refine tailN_normal (HC.out _ S6.out.b) ?_
              clear s0 s1 s2 s3 r0 r1 r2 r3
              generalize World.setCell (World.setCell (World.setCell (World.setCell _ _ _) _ _) _ _) _ _ = w6 at *
              refine wpN_none (by kernel_rfl) ?_
              go_wp2
              go_meet
              exact ⟨_, A1, d1, A2, d2, rfl, S6⟩
          · go_wp2
            have S4 := Lib.hid (S3.out.C9 [.slice none 0 0, .slice none 0 0, .slice none 0 0, .slice none 0 0])
            refine tailN_normal (HC.out _ S4.out.b) ?_
            generalize World.alloc _ _ = w4 at *
            refine wpN_one (i := 7) (by kernel_rfl) rfl ?_
            refine wpList_append_all rfl _ _ 36 rfl Z 68 i0 _ 3 32 Tryd.underlying36 hi hi0 hi1 hi2 rfl (by decide) _ _ _ rfl (S4.out.c _ _ _ rfl) CA cn cc (kcells cs) rfl hcA (HRC.out _ S4.out.b S4.out.s) (cons_one cs) (by unfold maxLen; omega) (by omega) S4.out.s ?_
            intro vB w5 hoB hgB
            rw [Nat.zero_add, List.nil_append] at hoB
            have S5 := Lib.hid (S4.out.B7 hoB hgB)
            obtain ⟨A2, d2, rfl, _⟩ := own_slice hoB
            clear hoB hgB
            refine tailN_normal (HC.out _ S5.out.b) ?_
            refine wpN_one (i := 8) (by kernel_rfl) rfl ?_
            go_wp2
            refine tailN_normal (HC.out _ S5.out.b) ?_
            refine wpN_one (i := 10) (by kernel_rfl) rfl ?_
            have hk := (S5.out.k _ _ rfl).1
            have s0 := hk.frozen 0
            have r0 := (hk.cell 0).trans rfl
            have s1 := hk.frozen 1
            have r1 := (hk.cell 1).trans rfl
            have s2 := hk.frozen 2
            have r2 := (hk.cell 2).trans rfl
            have s3 := hk.frozen 3
            have r3 := (hk.cell 3).trans rfl
            clear hk
            go_wp2
            have S6 := Lib.hid ((((S5.out.st 0 (.slice A1 dn d1)).st 1 (.slice A2 cn d2)).st 2 (.slice none 0 0)).st 3 (.slice none 0 0))
            refine tailN_normal (HC.out _ S6.out.b) ?_
            clear s0 s1 s2 s3 r0 r1 r2 r3
            generalize World.setCell (World.setCell (World.setCell (World.setCell _ _ _) _ _) _ _) _ _ = w6 at *
            refine wpN_none (by kernel_rfl) ?_
            go_wp2
            go_meet
            exact ⟨_, A1, d1, A2, d2, rfl, S6⟩
        · go_wp2
          have S3 := Lib.hid (S2.out.C9 [.slice none 0 0, .slice none 0 0, .slice none 0 0, .slice none 0 0])
          refine tailN_normal (HC.out _ S3.out.b) ?_
          generalize World.alloc _ _ = w3 at *
          refine wpN_one (i := 3) (by kernel_rfl) rfl ?_
          refine wpList_append_all rfl _ _ 35 rfl Z 94 p0 _ 2 24 Tryd.underlying35 hpi hp0 hp1 hp2 rfl (by decide) _ _ _ rfl (S3.out.a _ _ _ rfl) DA dn dc (pdcells ds) rfl hdA (HRA.out _ S3.out.b S3.out.s) (preds_one ds) (by unfold maxLen; omega) (by omega) S3.out.s ?_
          intro vA w4 hoA hgA
          rw [Nat.zero_add, List.nil_append] at hoA
          have S4 := Lib.hid (S3.out.A3 hoA hgA)
          obtain ⟨A1, d1, rfl, _⟩ := own_slice hoA
          clear hoA hgA
          refine tailN_normal (HC.out _ S4.out.b) ?_
          refine wpN_one (i := 7) (by kernel_rfl) rfl ?_
          refine wpList_append_all rfl _ _ 36 rfl Z 68 i0 _ 3 32 Tryd.underlying36 hi hi0 hi1 hi2 rfl (by decide) _ _ _ rfl (S4.out.c _ _ _ rfl) CA cn cc (kcells cs) rfl hcA (HRC.out _ S4.out.b S4.out.s) (cons_one cs) (by unfold maxLen; omega) (by omega) S4.out.s ?_
          intro vB w5 hoB hgB
          rw [Nat.zero_add, List.nil_append] at hoB
          have S5 := Lib.hid (S4.out.B7 hoB hgB)
          obtain ⟨A2, d2, rfl, _⟩ := own_slice hoB
          clear hoB hgB
          refine tailN_normal (HC.out _ S5.out.b) ?_
          refine wpN_one (i := 8) (by kernel_rfl) rfl ?_
          go_wp2
          refine tailN_normal (HC.out _ S5.out.b) ?_
          refine wpN_one (i := 10) (by kernel_rfl) rfl ?_
          have hk := (S5.out.k _ _ rfl).1
          have s0 := hk.frozen 0
          have r0 := (hk.cell 0).trans rfl
          have s1 := hk.frozen 1
          have r1 := (hk.cell 1).trans rfl
          have s2 := hk.frozen 2
          have r2 := (hk.cell 2).trans rfl
          have s3 := hk.frozen 3
          have r3 := (hk.cell 3).trans rfl
          clear hk
          go_wp2
          have S6 := Lib.hid ((((S5.out.st 0 (.slice A1 dn d1)).st 1 (.slice A2 cn d2)).st 2 (.slice none 0 0)).st 3 (.slice none 0 0))
          refine tailN_normal (HC.out _ S6.out.b) ?_
          clear s0 s1 s2 s3 r0 r1 r2 r3
          generalize World.setCell (World.setCell (World.setCell (World.setCell _ _ _) _ _) _ _) _ _ = w6 at *
          refine wpN_none (by kernel_rfl) ?_
          go_wp2
          go_meet
          exact ⟨_, A1, d1, A2, d2, rfl, S6⟩
      · go_wp2
        have S2 := Lib.hid (S1.out.C9 [.slice none 0 0, .slice none 0 0, .slice none 0 0, .slice none 0 0])
        refine tailN_normal (HC.out _ S2.out.b) ?_
        generalize World.alloc _ _ = w2 at *
        refine wpN_two (i := 3) (j := 4) (by kernel_rfl) rfl rfl ?_ ?_
        · refine wpList_append_all rfl _ _ 35 rfl Z 94 p0 _ 2 24 Tryd.underlying35 hpi hp0 hp1 hp2 rfl (by decide) _ _ _ rfl (S2.out.a _ _ _ rfl) DA dn dc (pdcells ds) rfl hdA (HRA.out _ S2.out.b S2.out.s) (preds_one ds) (by unfold maxLen; omega) (by omega) S2.out.s ?_
          intro vA w3 hoA hgA
          rw [Nat.zero_add, List.nil_append] at hoA
          have S3 := Lib.hid (S2.out.A3 hoA hgA)
          obtain ⟨A1, d1, rfl, _⟩ := own_slice hoA
          clear hoA hgA
          refine tailN_normal (HC.out _ S3.out.b) ?_
          refine wpN_one (i := 4) (by kernel_rfl) rfl ?_
          go_wp2
          have S4 := Lib.hid S3.out.B0
          refine tailN_normal (HC.out _ S4.out.b) ?_
          generalize World.alloc _ _ = w4 at *
          refine wpN_one (i := 7) (by kernel_rfl) rfl ?_
          refine wpList_append_all rfl _ _ 36 rfl Z 68 i0 _ 3 32 Tryd.underlying36 hi hi0 hi1 hi2 rfl (by decide) _ _ _ rfl (S4.out.c _ _ _ rfl) CA cn cc (kcells cs) rfl hcA (HRC.out _ S4.out.b S4.out.s) (cons_one cs) (by unfold maxLen; omega) (by omega) S4.out.s ?_
          intro vB w5 hoB hgB
          rw [Nat.zero_add, List.nil_append] at hoB
          have S5 := Lib.hid (S4.out.B7 hoB hgB)
          obtain ⟨A2, d2, rfl, _⟩ := own_slice hoB
          clear hoB hgB
          refine tailN_normal (HC.out _ S5.out.b) ?_
          refine wpN_one (i := 8) (by kernel_rfl) rfl ?_
          go_wp2
          refine tailN_normal (HC.out _ S5.out.b) ?_
          refine wpN_one (i := 10) (by kernel_rfl) rfl ?_
          have hk := (S5.out.k _ _ rfl).1
          have s0 := hk.frozen 0
          have r0 := (hk.cell 0).trans rfl
          have s1 := hk.frozen 1
          have r1 := (hk.cell 1).trans rfl
          have s2 := hk.frozen 2
          have r2 := (hk.cell 2).trans rfl
          have s3 := hk.frozen 3
          have r3 := (hk.cell 3).trans rfl
          clear hk
          go_wp2
          have S6 := Lib.hid ((((S5.out.st 0 (.slice A1 dn d1)).st 1 (.slice A2 cn d2)).st 2 (.slice none 0 0)).st 3 (.slice none 0 0))
          refine tailN_normal (HC.out _ S6.out.b) ?_
          clear s0 s1 s2 s3 r0 r1 r2 r3
          generalize World.setCell (World.setCell (World.setCell (World.setCell _ _ _) _ _) _ _) _ _ = w6 at *
          refine wpN_none (by kernel_rfl) ?_
          go_wp2
          go_meet
          exact ⟨_, A1, d1, A2, d2, rfl, S6⟩
        · go_wp2
          have S3 := Lib.hid S2.out.B0
          refine tailN_normal (HC.out _ S3.out.b) ?_
          generalize World.alloc _ _ = w3 at *
          refine wpN_one (i := 3) (by kernel_rfl) rfl ?_
          refine wpList_append_all rfl _ _ 35 rfl Z 94 p0 _ 2 24 Tryd.underlying35 hpi hp0 hp1 hp2 rfl (by decide) _ _ _ rfl (S3.out.a _ _ _ rfl) DA dn dc (pdcells ds) rfl hdA (HRA.out _ S3.out.b S3.out.s) (preds_one ds) (by unfold maxLen; omega) (by omega) S3.out.s ?_
          intro vA w4 hoA hgA
          rw [Nat.zero_add, List.nil_append] at hoA
          have S4 := Lib.hid (S3.out.A3 hoA hgA)
          obtain ⟨A1, d1, rfl, _⟩ := own_slice hoA
          clear hoA hgA
          refine tailN_normal (HC.out _ S4.out.b) ?_
          refine wpN_one (i := 7) (by kernel_rfl) rfl ?_
          refine wpList_append_all rfl _ _ 36 rfl Z 68 i0 _ 3 32 Tryd.underlying36 hi hi0 hi1 hi2 rfl (by decide) _ _ _ rfl (S4.out.c _ _ _ rfl) CA cn cc (kcells cs) rfl hcA (HRC.out _ S4.out.b S4.out.s) (cons_one cs) (by unfold maxLen; omega) (by omega) S4.out.s ?_
          intro vB w5 hoB hgB
          rw [Nat.zero_add, List.nil_append] at hoB
          have S5 := Lib.hid (S4.out.B7 hoB hgB)
          obtain ⟨A2, d2, rfl, _⟩ := own_slice hoB
          clear hoB hgB
          refine tailN_normal (HC.out _ S5.out.b) ?_
          refine wpN_one (i := 8) (by kernel_rfl) rfl ?_
          go_wp2
          refine tailN_normal (HC.out _ S5.out.b) ?_
          refine wpN_one (i := 10) (by kernel_rfl) rfl ?_
          have hk := (S5.out.k _ _ rfl).1
          have s0 := hk.frozen 0
          have r0 := (hk.cell 0).trans rfl
          have s1 := hk.frozen 1
          have r1 := (hk.cell 1).trans rfl
          have s2 := hk.frozen 2
          have r2 := (hk.cell 2).trans rfl
          have s3 := hk.frozen 3
          have r3 := (hk.cell 3).trans rfl
          clear hk
          go_wp2
          have S6 := Lib.hid ((((S5.out.st 0 (.slice A1 dn d1)).st 1 (.slice A2 cn d2)).st 2 (.slice none 0 0)).st 3 (.slice none 0 0))
          refine tailN_normal (HC.out _ S6.out.b) ?_
          clear s0 s1 s2 s3 r0 r1 r2 r3
          generalize World.setCell (World.setCell (World.setCell (World.setCell _ _ _) _ _) _ _) _ _ = w6 at *
          refine wpN_none (by kernel_rfl) ?_
          go_wp2
          go_meet
          exact ⟨_, A1, d1, A2, d2, rfl, S6⟩
    · go_wp2
      have S1 := Lib.hid S0.out.B0
      refine tailN_normal (HC.out _ S1.out.b) ?_
      generalize World.alloc _ _ = w1 at *
      refine wpN_two (i := 0) (j := 9) (by kernel_rfl) rfl rfl ?_ ?_
      · go_wp2
        have S2 := Lib.hid S1.out.A0
        refine tailN_normal (HC.out _ S2.out.b) ?_
        generalize World.alloc _ _ = w2 at *
        refine wpN_two (i := 3) (j := 9) (by kernel_rfl) rfl rfl ?_ ?_
        · refine wpList_append_all rfl _ _ 35 rfl Z 94 p0 _ 2 24 Tryd.underlying35 hpi hp0 hp1 hp2 rfl (by decide) _ _ _ rfl (S2.out.a _ _ _ rfl) DA dn dc (pdcells ds) rfl hdA (HRA.out _ S2.out.b S2.out.s) (preds_one ds) (by unfold maxLen; omega) (by omega) S2.out.s ?_
          intro vA w3 hoA hgA
          rw [Nat.zero_add, List.nil_append] at hoA
          have S3 := Lib.hid (S2.out.A3 hoA hgA)
          obtain ⟨A1, d1, rfl, _⟩ := own_slice hoA
          clear hoA hgA
          refine tailN_normal (HC.out _ S3.out.b) ?_
          refine wpN_two (i := 7) (j := 9) (by kernel_rfl) rfl rfl ?_ ?_
          · refine wpList_append_all rfl _ _ 36 rfl Z 68 i0 _ 3 32 Tryd.underlying36 hi hi0 hi1 hi2 rfl (by decide) _ _ _ rfl (S3.out.c _ _ _ rfl) CA cn cc (kcells cs) rfl hcA (HRC.out _ S3.out.b S3.out.s) (cons_one cs) (by unfold maxLen; omega) (by omega) S3.out.s ?_
            intro vB w4 hoB hgB
            rw [Nat.zero_add, List.nil_append] at hoB
            have S4 := Lib.hid (S3.out.B7 hoB hgB)
            obtain ⟨A2, d2, rfl, _⟩ := own_slice hoB
            clear hoB hgB
            refine tailN_normal (HC.out _ S4.out.b) ?_
            refine wpN_two (i := 8) (j := 9) (by kernel_rfl) rfl rfl ?_ ?_
            · go_wp2
              refine tailN_normal (HC.out _ S4.out.b) ?_
              refine wpN_one (i := 9) (by kernel_rfl) rfl ?_
              go_wp2
              have S5 := Lib.hid (S4.out.C9 [.slice none 0 0, .slice none 0 0, .slice none 0 0, .slice none 0 0])
              refine tailN_normal (HC.out _ S5.out.b) ?_
              generalize World.alloc _ _ = w5 at *
              refine wpN_one (i := 10) (by kernel_rfl) rfl ?_
              have hk := (S5.out.k _ _ rfl).1
              have s0 := hk.frozen 0
              have r0 := (hk.cell 0).trans rfl
              have s1 := hk.frozen 1
              have r1 := (hk.cell 1).trans rfl
              have s2 := hk.frozen 2
              have r2 := (hk.cell 2).trans rfl
              have s3 := hk.frozen 3
              have r3 := (hk.cell 3).trans rfl
              clear hk
              go_wp2
              have S6 := Lib.hid ((((S5.out.st 0 (.slice A1 dn d1)).st 1 (.slice A2 cn d2)).st 2 (.slice none 0 0)).st 3 (.slice none 0 0))
              refine tailN_normal (HC.out _ S6.out.b) ?_
              clear s0 s1 s2 s3 r0 r1 r2 r3
              generalize World.setCell (World.setCell (World.setCell (World.setCell _ _ _) _ _) _ _) _ _ = w6 at *
              refine wpN_none (by kernel_rfl) ?_
              go_wp2
              go_meet
              exact ⟨_, A1, d1, A2, d2, rfl, S6⟩
            · go_wp2
              have S5 := Lib.hid (S4.out.C9 [.slice none 0 0, .slice none 0 0, .slice none 0 0, .slice none 0 0])
              refine tailN_normal (HC.out _ S5.out.b) ?_
              generalize World.alloc _ _ = w5 at *
              refine wpN_one (i := 8) (by kernel_rfl) rfl ?_
              go_wp2
              refine tailN_normal (HC.out _ S5.out.b) ?_
              refine wpN_one (i := 10) (by kernel_rfl) rfl ?_
              have hk := (S5.out.k _ _ rfl).1
              have s0 := hk.frozen 0
              have r0 := (hk.cell 0).trans rfl
              have s1 := hk.frozen 1
              have r1 := (hk.cell 1).trans rfl
              have s2 := hk.frozen 2
              have r2 := (hk.cell 2).trans rfl
              have s3 := hk.frozen 3
              have r3 := (hk.cell 3).trans rfl
              clear hk
              go_wp2
              have S6 := Lib.hid ((((S5.out.st 0 (.slice A1 dn d1)).st 1 (.slice A2 cn d2)).st 2 (.slice none 0 0)).st 3 (.slice none 0 0))
              refine tailN_normal (HC.out _ S6.out.b) ?_
              clear s0 s1 s2 s3 r0 r1 r2 r3
              generalize World.setCell (World.setCell (World.setCell (World.setCell _ _ _) _ _) _ _) _ _ = w6 at *
              refine wpN_none (by kernel_rfl) ?_
              go_wp2
              go_meet
              exact ⟨_, A1, d1, A2, d2, rfl, S6⟩
          · go_wp2
            have S4 := Lib.hid (S3.out.C9 [.slice none 0 0, .slice none 0 0, .slice none 0 0, .slice none 0 0])
            refine tailN_normal (HC.out _ S4.out.b) ?_
            generalize World.alloc _ _ = w4 at *
            refine wpN_one (i := 7) (by kernel_rfl) rfl ?_
            refine wpList_append_all rfl _ _ 36 rfl Z 68 i0 _ 3 32 Tryd.underlying36 hi hi0 hi1 hi2 rfl (by decide) _ _ _ rfl (S4.out.c _ _ _ rfl) CA cn cc (kcells cs) rfl hcA (HRC.out _ S4.out.b S4.out.s) (cons_one cs) (by unfold maxLen; omega) (by omega) S4.out.s ?_
            intro vB w5 hoB hgB
            rw [Nat.zero_add, List.nil_append] at hoB
            have S5 := Lib.hid (S4.out.B7 hoB hgB)
            obtain ⟨A2, d2, rfl, _⟩ := own_slice hoB
            clear hoB hgB
            refine tailN_normal (HC.out _ S5.out.b) ?_
            refine wpN_one (i := 8) (by kernel_rfl) rfl ?_
            go_wp2
            refine tailN_normal (HC.out _ S5.out.b) ?_
            refine wpN_one (i := 10) (by kernel_rfl) rfl ?_
            have hk := (S5.out.k _ _ rfl).1
            have s0 := hk.frozen 0
            have r0 := (hk.cell 0).trans rfl
            have s1 := hk.frozen 1
            have r1 := (hk.cell 1).trans rfl
            have s2 := hk.frozen 2
            have r2 := (hk.cell 2).trans rfl
            have s3 := hk.frozen 3
            have r3 := (hk.cell 3).trans rfl
            clear hk
            go_wp2
            have S6 := Lib.hid ((((S5.out.st 0 (.slice A1 dn d1)).st 1 (.slice A2 cn d2)).st 2 (.slice none 0 0)).st 3 (.slice none 0 0))
            refine tailN_normal (HC.out _ S6.out.b) ?_
            clear s0 s1 s2 s3 r0 r1 r2 r3
            generalize World.setCell (World.setCell (World.setCell (World.setCell _ _ _) _ _) _ _) _ _ = w6 at *
            refine wpN_none (by kernel_rfl) ?_
            go_wp2
            go_meet
            exact ⟨_, A1, d1, A2, d2, rfl, S6⟩
        · go_wp2
          have S3 := Lib.hid (S2.out.C9 [.slice none 0 0, .slice none 0 0, .slice none 0 0, .slice none 0 0])
          refine tailN_normal (HC.out _ S3.out.b) ?_
          generalize World.alloc _ _ = w3 at *
          refine wpN_one (i := 3) (by kernel_rfl) rfl ?_
          refine wpList_append_all rfl _ _ 35 rfl Z 94 p0 _ 2 24 Tryd.underlying35 hpi hp0 hp1 hp2 rfl (by decide) _ _ _ rfl (S3.out.a _ _ _ rfl) DA dn dc (pdcells ds) rfl hdA (HRA.out _ S3.out.b S3.out.s) (preds_one ds) (by unfold maxLen; omega) (by omega) S3.out.s ?_
          intro vA w4 hoA hgA
          rw [Nat.zero_add, List.nil_append] at hoA
          have S4 := Lib.hid (S3.out.A3 hoA hgA)
          obtain ⟨A1, d1, rfl, _⟩ := own_slice hoA
          clear hoA hgA
          refine tailN_normal (HC.out _ S4.out.b) ?_
          refine wpN_one (i := 7) (by kernel_rfl) rfl ?_
          refine wpList_append_all rfl _ _ 36 rfl Z 68 i0 _ 3 32 Tryd.underlying36 hi hi0 hi1 hi2 rfl (by decide) _ _ _ rfl (S4.out.c _ _ _ rfl) CA cn cc (kcells cs) rfl hcA (HRC.out _ S4.out.b S4.out.s) (cons_one cs) (by unfold maxLen; omega) (by omega) S4.out.s ?_
          intro vB w5 hoB hgB
          rw [Nat.zero_add, List.nil_append] at hoB
          have S5 := Lib.hid (S4.out.B7 hoB hgB)
          obtain ⟨A2, d2, rfl, _⟩ := own_slice hoB
          clear hoB hgB
          refine tailN_normal (HC.out _ S5.out.b) ?_
          refine wpN_one (i := 8) (by kernel_rfl) rfl ?_
          go_wp2
          refine tailN_normal (HC.out _ S5.out.b) ?_
          refine wpN_one (i := 10) (by kernel_rfl) rfl ?_
          have hk := (S5.out.k _ _ rfl).1
          have s0 := hk.frozen 0
          have r0 := (hk.cell 0).trans rfl
          have s1 := hk.frozen 1
          have r1 := (hk.cell 1).trans rfl
          have s2 := hk.frozen 2
          have r2 := (hk.cell 2).trans rfl
          have s3 := hk.frozen 3
          have r3 := (hk.cell 3).trans rfl
          clear hk
          go_wp2
          have S6 := Lib.hid ((((S5.out.st 0 (.slice A1 dn d1)).st 1 (.slice A2 cn d2)).st 2 (.slice none 0 0)).st 3 (.slice none 0 0))
          refine tailN_normal (HC.out _ S6.out.b) ?_
          clear s0 s1 s2 s3 r0 r1 r2 r3
          generalize World.setCell (World.setCell (World.setCell (World.setCell _ _ _) _ _) _ _) _ _ = w6 at *
          refine wpN_none (by kernel_rfl) ?_
          go_wp2
          go_meet
          exact ⟨_, A1, d1, A2, d2, rfl, S6⟩
      · go_wp2
        have S2 := Lib.hid (S1.out.C9 [.slice none 0 0, .slice none 0 0, .slice none 0 0, .slice none 0 0])
        refine tailN_normal (HC.out _ S2.out.b) ?_
        generalize World.alloc _ _ = w2 at *
        refine wpN_one (i := 0) (by kernel_rfl) rfl ?_
        go_wp2
        have S3 := Lib.hid S2.out.A0
        refine tailN_normal (HC.out _ S3.out.b) ?_
        generalize World.alloc _ _ = w3 at *
        refine wpN_one (i := 3) (by kernel_rfl) rfl ?_
        refine wpList_append_all rfl _ _ 35 rfl Z 94 p0 _ 2 24 Tryd.underlying35 hpi hp0 hp1 hp2 rfl (by decide) _ _ _ rfl (S3.out.a _ _ _ rfl) DA dn dc (pdcells ds) rfl hdA (HRA.out _ S3.out.b S3.out.s) (preds_one ds) (by unfold maxLen; omega) (by omega) S3.out.s ?_
        intro vA w4 hoA hgA
        rw [Nat.zero_add, List.nil_append] at hoA
        have S4 := Lib.hid (S3.out.A3 hoA hgA)
        obtain ⟨A1, d1, rfl, _⟩ := own_slice hoA
        clear hoA hgA
        refine tailN_normal (HC.out _ S4.out.b) ?_
        refine wpN_one (i := 7) (by kernel_rfl) rfl ?_
        refine wpList_append_all rfl _ _ 36 rfl Z 68 i0 _ 3 32 Tryd.underlying36 hi hi0 hi1 hi2 rfl (by decide) _ _ _ rfl (S4.out.c _ _ _ rfl) CA cn cc (kcells cs) rfl hcA (HRC.out _ S4.out.b S4.out.s) (cons_one cs) (by unfold maxLen; omega) (by omega) S4.out.s ?_
        intro vB w5 hoB hgB
        rw [Nat.zero_add, List.nil_append] at hoB
        have S5 := Lib.hid (S4.out.B7 hoB hgB)
        obtain ⟨A2, d2, rfl, _⟩ := own_slice hoB
        clear hoB hgB
        refine tailN_normal (HC.out _ S5.out.b) ?_
        refine wpN_one (i := 8) (by kernel_rfl) rfl ?_
        go_wp2
        refine tailN_normal (HC.out _ S5.out.b) ?_
        refine wpN_one (i := 10) (by kernel_rfl) rfl ?_
        have hk := (S5.out.k _ _ rfl).1
        have s0 := hk.frozen 0
        have r0 := (hk.cell 0).trans rfl
        have s1 := hk.frozen 1
        have r1 := (hk.cell 1).trans rfl
        have s2 := hk.frozen 2
        have r2 := (hk.cell 2).trans rfl
        have s3 := hk.frozen 3
        have r3 := (hk.cell 3).trans rfl
        clear hk
        go_wp2
        have S6 := Lib.hid ((((S5.out.st 0 (.slice A1 dn d1)).st 1 (.slice A2 cn d2)).st 2 (.slice none 0 0)).st 3 (.slice none 0 0))
        refine tailN_normal (HC.out _ S6.out.b) ?_
        clear s0 s1 s2 s3 r0 r1 r2 r3
        generalize World.setCell (World.setCell (World.setCell (World.setCell _ _ _) _ _) _ _) _ _ = w6 at *
        refine wpN_none (by kernel_rfl) ?_
        go_wp2
        go_meet
        exact ⟨_, A1, d1, A2, d2, rfl, S6⟩
    · go_wp2
      have S1 := Lib.hid (S0.out.C9 [.slice none 0 0, .slice none 0 0, .slice none 0 0, .slice none 0 0])
      refine tailN_normal (HC.out _ S1.out.b) ?_
      generalize World.alloc _ _ = w1 at *
      refine wpN_two (i := 0) (j := 4) (by kernel_rfl) rfl rfl ?_ ?_
      · go_wp2
        have S2 := Lib.hid S1.out.A0
        refine tailN_normal (HC.out _ S2.out.b) ?_
        generalize World.alloc _ _ = w2 at *
        refine wpN_two (i := 3) (j := 4) (by kernel_rfl) rfl rfl ?_ ?_
        · refine wpList_append_all rfl _ _ 35 rfl Z 94 p0 _ 2 24 Tryd.underlying35 hpi hp0 hp1 hp2 rfl (by decide) _ _ _ rfl (S2.out.a _ _ _ rfl) DA dn dc (pdcells ds) rfl hdA (HRA.out _ S2.out.b S2.out.s) (preds_one ds) (by unfold maxLen; omega) (by omega) S2.out.s ?_
          intro vA w3 hoA hgA
          rw [Nat.zero_add, List.nil_append] at hoA
          have S3 := Lib.hid (S2.out.A3 hoA hgA)
          obtain ⟨A1, d1, rfl, _⟩ := own_slice hoA
          clear hoA hgA
          refine tailN_normal (HC.out _ S3.out.b) ?_
          refine wpN_one (i := 4) (by kernel_rfl) rfl ?_
          go_wp2
          have S4 := Lib.hid S3.out.B0
          refine tailN_normal (HC.out _ S4.out.b) ?_
          generalize World.alloc _ _ = w4 at *
          refine wpN_one (i := 7) (by kernel_rfl) rfl ?_
          refine wpList_append_all rfl _ _ 36 rfl Z 68 i0 _ 3 32 Tryd.underlying36 hi hi0 hi1 hi2 rfl (by decide) _ _ _ rfl (S4.out.c _ _ _ rfl) CA cn cc (kcells cs) rfl hcA (HRC.out _ S4.out.b S4.out.s) (cons_one cs) (by unfold maxLen; omega) (by omega) S4.out.s ?_
          intro vB w5 hoB hgB
          rw [Nat.zero_add, List.nil_append] at hoB
          have S5 := Lib.hid (S4.out.B7 hoB hgB)
          obtain ⟨A2, d2, rfl, _⟩ := own_slice hoB
          clear hoB hgB
          refine tailN_normal (HC.out _ S5.out.b) ?_
          refine wpN_one (i := 8) (by kernel_rfl) rfl ?_
          go_wp2
          refine tailN_normal (HC.out _ S5.out.b) ?_
          refine wpN_one (i := 10) (by kernel_rfl) rfl ?_
          have hk := (S5.out.k _ _ rfl).1
          have s0 := hk.frozen 0
          have r0 := (hk.cell 0).trans rfl
          have s1 := hk.frozen 1
          have r1 := (hk.cell 1).trans rfl
          have s2 := hk.frozen 2
          have r2 := (hk.cell 2).trans rfl
          have s3 := hk.frozen 3
          have r3 := (hk.cell 3).trans rfl
          clear hk
          go_wp2
          have S6 := Lib.hid ((((S5.out.st 0 (.slice A1 dn d1)).st 1 (.slice A2 cn d2)).st 2 (.slice none 0 0)).st 3 (.slice none 0 0))
          refine tailN_normal (HC.out _ S6.out.b) ?_
          clear s0 s1 s2 s3 r0 r1 r2 r3
          generalize World.setCell (World.setCell (World.setCell (World.setCell _ _ _) _ _) _ _) _ _ = w6 at *
          refine wpN_none (by kernel_rfl) ?_
          go_wp2
          go_meet
          exact ⟨_, A1, d1, A2, d2, rfl, S6⟩
        · go_wp2
          have S3 := Lib.hid S2.out.B0
          refine tailN_normal (HC.out _ S3.out.b) ?_
          generalize World.alloc _ _ = w3 at *
          refine wpN_one (i := 3) (by kernel_rfl) rfl ?_
          refine wpList_append_all rfl _ _ 35 rfl Z 94 p0 _ 2 24 Tryd.underlying35 hpi hp0 hp1 hp2 rfl (by decide) _ _ _ rfl (S3.out.a _ _ _ rfl) DA dn dc (pdcells ds) rfl hdA (HRA.out _ S3.out.b S3.out.s) (preds_one ds) (by unfold maxLen; omega) (by omega) S3.out.s ?_
          intro vA w4 hoA hgA
          rw [Nat.zero_add, List.nil_append] at hoA
          have S4 := Lib.hid (S3.out.A3 hoA hgA)
          obtain ⟨A1, d1, rfl, _⟩ := own_slice hoA
          clear hoA hgA
          refine tailN_normal (HC.out _ S4.out.b) ?_
          refine wpN_one (i := 7) (by kernel_rfl) rfl ?_
          refine wpList_append_all rfl _ _ 36 rfl Z 68 i0 _ 3 32 Tryd.underlying36 hi hi0 hi1 hi2 rfl (by decide) _ _ _ rfl (S4.out.c _ _ _ rfl) CA cn cc (kcells cs) rfl hcA (HRC.out _ S4.out.b S4.out.s) (cons_one cs) (by unfold maxLen; omega) (by omega) S4.out.s ?_
          intro vB w5 hoB hgB
          rw [Nat.zero_add, List.nil_append] at hoB
          have S5 := Lib.hid (S4.out.B7 hoB hgB)
          obtain ⟨A2, d2, rfl, _⟩ := own_slice hoB
          clear hoB hgB
          refine tailN_normal (HC.out _ S5.out.b) ?_
          refine wpN_one (i := 8) (by kernel_rfl) rfl ?_
          go_wp2
          refine tailN_normal (HC.out _ S5.out.b) ?_
          refine wpN_one (i := 10) (by kernel_rfl) rfl ?_
          have hk := (S5.out.k _ _ rfl).1
          have s0 := hk.frozen 0
          have r0 := (hk.cell 0).trans rfl
          have s1 := hk.frozen 1
          have r1 := (hk.cell 1).trans rfl
          have s2 := hk.frozen 2
          have r2 := (hk.cell 2).trans rfl
          have s3 := hk.frozen 3
          have r3 := (hk.cell 3).trans rfl
          clear hk
          go_wp2
          have S6 := Lib.hid ((((S5.out.st 0 (.slice A1 dn d1)).st 1 (.slice A2 cn d2)).st 2 (.slice none 0 0)).st 3 (.slice none 0 0))
          refine tailN_normal (HC.out _ S6.out.b) ?_
          clear s0 s1 s2 s3 r0 r1 r2 r3
          generalize World.setCell (World.setCell (World.setCell (World.setCell _ _ _) _ _) _ _) _ _ = w6 at *
          refine wpN_none (by kernel_rfl) ?_
          go_wp2
          go_meet
          exact ⟨_, A1, d1, A2, d2, rfl, S6⟩
      · go_wp2
        have S2 := Lib.hid S1.out.B0
        refine tailN_normal (HC.out _ S2.out.b) ?_
        generalize World.alloc _ _ = w2 at *
        refine wpN_one (i := 0) (by kernel_rfl) rfl ?_
        go_wp2
        have S3 := Lib.hid S2.out.A0
        refine tailN_normal (HC.out _ S3.out.b) ?_
        generalize World.alloc _ _ = w3 at *
        refine wpN_one (i := 3) (by kernel_rfl) rfl ?_
        refine wpList_append_all rfl _ _ 35 rfl Z 94 p0 _ 2 24 Tryd.underlying35 hpi hp0 hp1 hp2 rfl (by decide) _ _ _ rfl (S3.out.a _ _ _ rfl) DA dn dc (pdcells ds) rfl hdA (HRA.out _ S3.out.b S3.out.s) (preds_one ds) (by unfold maxLen; omega) (by omega) S3.out.s ?_
        intro vA w4 hoA hgA
        rw [Nat.zero_add, List.nil_append] at hoA
        have S4 := Lib.hid (S3.out.A3 hoA hgA)
        obtain ⟨A1, d1, rfl, _⟩ := own_slice hoA
        clear hoA hgA
        refine tailN_normal (HC.out _ S4.out.b) ?_
        refine wpN_one (i := 7) (by kernel_rfl) rfl ?_
        refine wpList_append_all rfl _ _ 36 rfl Z 68 i0 _ 3 32 Tryd.underlying36 hi hi0 hi1 hi2 rfl (by decide) _ _ _ rfl (S4.out.c _ _ _ rfl) CA cn cc (kcells cs) rfl hcA (HRC.out _ S4.out.b S4.out.s) (cons_one cs) (by unfold maxLen; omega) (by omega) S4.out.s ?_
        intro vB w5 hoB hgB
        rw [Nat.zero_add, List.nil_append] at hoB
        have S5 := Lib.hid (S4.out.B7 hoB hgB)
        obtain ⟨A2, d2, rfl, _⟩ := own_slice hoB
        clear hoB hgB
        refine tailN_normal (HC.out _ S5.out.b) ?_
        refine wpN_one (i := 8) (by kernel_rfl) rfl ?_
        go_wp2
        refine tailN_normal (HC.out _ S5.out.b) ?_
        refine wpN_one (i := 10) (by kernel_rfl) rfl ?_
        have hk := (S5.out.k _ _ rfl).1
        have s0 := hk.frozen 0
        have r0 := (hk.cell 0).trans rfl
        have s1 := hk.frozen 1
        have r1 := (hk.cell 1).trans rfl
        have s2 := hk.frozen 2
        have r2 := (hk.cell 2).trans rfl
        have s3 := hk.frozen 3
        have r3 := (hk.cell 3).trans rfl
        clear hk
        go_wp2
        have S6 := Lib.hid ((((S5.out.st 0 (.slice A1 dn d1)).st 1 (.slice A2 cn d2)).st 2 (.slice none 0 0)).st 3 (.slice none 0 0))
        refine tailN_normal (HC.out _ S6.out.b) ?_
        clear s0 s1 s2 s3 r0 r1 r2 r3
        generalize World.setCell (World.setCell (World.setCell (World.setCell _ _ _) _ _) _ _) _ _ = w6 at *
        refine wpN_none (by kernel_rfl) ?_
        go_wp2
        go_meet
        exact ⟨_, A1, d1, A2, d2, rfl, S6⟩
  case rest =>
    obtain ⟨K, A1, d1, A2, d2, rfl, HT⟩ := hcut
    have HRU : Hid (∀ w', Below Z w3 w' → Z ≤ w'.heap.size → Rd w' w'.heap.size 7 RA rn (rlcells rs)) := Lib.hid fun w' hb hs => by subst hZ; exact HX.out.r.up hb hs
    have HRF : Hid (∀ w', Below Z w3 w' → Rd w' Z 2 FA fn (rwcells fs)) := Lib.hid fun w' hb => by subst hZ; exact HX.out.f.below hb
    have HEU : Hid (∀ y ∈ rs, ∀ w', Below Z w3 w' → y.ok w') := Lib.hid fun y hy w' hb => by subst hZ; exact (HX.out.rs y hy).up hb
    have HEF : Hid (∀ y ∈ fs, ∀ w', Below Z w3 w' → y.ok w') := Lib.hid fun y hy w' hb => by subst hZ; exact (HX.out.fs y hy).up hb
    clear HX hZ
    go_upto_region 3 with (fail)
    go_loopg [4] rn (fun gk u4 wr => ∃ (i : Nat) (acc : List Rl) (Ar : Option Addr) (dr : Nat), u4 = .int .i64 i ∧ i ≤ rn ∧ Hid (gk = rn - i) ∧ Hid (TS Z w3 (some (.slice A1 dn d1, dn, pdcells ds)) (some (.slice A2 cn d2, cn, kcells cs)) (some (K, [.slice A1 dn d1, .slice A2 cn d2, .slice Ar i dr, .slice none 0 0])) wr) ∧ Hid (wr.ownsRow Z 81 7 (.slice Ar i dr) i (rlcells acc)) ∧ Hid (acc.map Rl.core = (rs.take i).map Rl.core) ∧ Hid (∀ y ∈ acc, y.own wr Z))
    case atStart => exact ⟨0, [], none, 0, rfl, Nat.zero_le _, Lib.hid (by omega), HT, Lib.hid (World.ownsRow_nil _ _ _ _), Lib.hid rfl, Lib.hid (by simp)⟩
    case round =>
      clear HT
      obtain ⟨i, acc, Ar, dr, rfl, hi, HG, HT, HV, HC, HW⟩ := hrel
      have hsr : Z ≤ wr.heap.size := HT.out.s
      have G1 := Lib.hid (H1.out.below HT.out.b (by omega))
      have f2 := (G1.out.cell 2).trans rfl
      by_cases hlt : i < rn
      · obtain ⟨b2, o2, hk2, rfl, hb2, hc⟩ := (HRU.out wr HT.out.b hsr).at Rl.cells 7 (fun _ => rfl) (by omega) i hlt
        have c0 := hc 0 _ (by omega) rfl
        have c1 := hc 1 _ (by omega) rfl
        have c2 := hc 2 _ (by omega) rfl
        have c3 := hc 3 _ (by omega) rfl
        have c4 := hc 4 _ (by omega) rfl
        have c5 := hc 5 _ (by omega) rfl
        have c6 := hc 6 _ (by omega) rfl
        rw [Nat.add_zero] at c0
        clear hc
        have HZZ := Lib.hid (HEU.out rs[i] (List.getElem_mem hk2) wr HT.out.b)
        have HNN := Lib.hid (HNI.out.rs rs[i] (List.getElem_mem hk2))
        have hsm := HSM.out.rs rs[i] (List.getElem_mem hk2)
        have HTK := Lib.hid (take_snoc rs i hk2)
        generalize rs[i] = r at *
        obtain ⟨⟨zp, hA, hn, hcc, hxs⟩, PA, pn, pc, ps, TA, tn, tc, ts, NA, nn, nc, ns, VA, vn, vc, vs, cl⟩ := r
        have hhn : hn ≤ 1048576 := hsm.h
        have hpn : pn ≤ 1048576 := hsm.p
        have htn : tn ≤ 1048576 := hsm.t
        have hnn : nn ≤ 1048576 := hsm.n
        have hvn : vn ≤ 1048576 := hsm.v
        have HPSM := Lib.hid hsm.ps
        have HNSM := Lib.hid hsm.ns
        clear hsm
        dsimp only at c0 c1 c2 c3 c4 c5 c6
        go_upto_region 6 with (fail)
        clear f2
        have HBZ := Lib.hid ((Below.refl wr.heap.size wr).alloc (Nat.le_refl _) (.cells #[.int .i64 zp, .slice hA hn hcc, .slice PA pn pc, .slice TA tn tc, .slice NA nn nc, .slice VA vn vc, .int .i64 cl] 81))
        have HX := Lib.hid (Blk.new wr 81 [.int .i64 zp, .slice hA hn hcc, .slice PA pn pc, .slice TA tn tc, .slice NA nn nc, .slice VA vn vc, .int .i64 cl])
        clear c0 c1 c2 c3 c4 c5 c6
        generalize World.alloc _ _ = x0 at *
        generalize hY : wr.heap.size = Y at *
        have HYY := Lib.hid hY
        clear hY
        have hs0 := HX.out.lt
        have hBw : Below wr.heap.size wr x0 := by rw [HYY.out]; exact HBZ.out
        have hown0 : (x0.alloc (.cells #[] 117)).ownsRow x0.heap.size 117 2 (.slice (some ⟨x0.heap.size, 0, none⟩) 0 0) 0 [] := own_empty (Nat.le_refl _)
        have hba := (Below.refl x0.heap.size x0).alloc (Nat.le_refl _) (.cells #[] 117)
        have hbw := hba.size
        have HRd : Hid (Rd (x0.alloc (.cells #[] 117)) (x0.alloc (.cells #[] 117)).heap.size 2 hA hn (slcells hxs)) := Lib.hid (Rd.up (Rd.up HZZ.out.h hBw hBw.size) hba hba.size)
        have g2 := (HX.out.cell 1).trans rfl
        go_wp2_with (at_builtin; go_must (refine wpList_append_all rfl _ _ 75 rfl x0.heap.size 117 sl0 _ 2 16 Tryd.underlying75 hsl hsl0 hsl1 hsl2 rfl (by decide) _ _ _ rfl hown0 hA hn hcc (slcells hxs) rfl HNN.out.h HRd.out (slots_one hxs) (by unfold maxLen; omega) (by omega) hbw ?_))
        intro v1 w1 hown1 hg1
        have hb := hba.grown hg1 hbw (fun k hk => (hown0.lt k hk).1)
        obtain ⟨H1A, H1c, rfl, _⟩ := own_slice hown1
        have HXn := Lib.hid (HX.out.below hb hs0)
        have HBn := Lib.hid (HBZ.out.trans (hb.mono (Nat.le_of_lt hs0)))
        have HP1n := Lib.hid (own_le hown1 (Nat.le_of_lt hs0))
        clear hown1 hg1 hb hown0 hba hbw HRd g2 HX HBZ hBw hs0
        have f0 := HXn.out.frozen 1
        have f1 := (HXn.out.cell 1).trans rfl
        have f2 := HXn.out.lt
        go_upto_region 7 with (fail)
        have HX := Lib.hid (HXn.out.set_ 1 (.slice H1A hn H1c))
        have HBZ := Lib.hid (HBn.out.setCell (p := ⟨Y, 1, none⟩) (by simp) (.slice H1A hn H1c))
        have HP1 := Lib.hid (own_setCell_blk HP1n.out HXn.out (by decide) 1 (.slice H1A hn H1c))
        clear HP1n
        simp only [List.set_cons_succ, List.set_cons_zero] at HX
        clear HXn HBn f0 f1 f2
        generalize World.setCell _ _ _ = x1 at *
        have hs0 := HX.out.lt
        have hBw : Below wr.heap.size wr x1 := by rw [HYY.out]; exact HBZ.out
        have g2 := (HX.out.cell 2).trans rfl
        go_wp2_with fail
        refine (patterns_any PA pn pc ps x1 (Rd.up HZZ.out.p hBw hBw.size) (fun y hy => ⟨⟨(HZZ.out.ps y hy).up hBw, HNN.out.ps y hy⟩, HPSM.out y hy⟩) hpn).mono ?_
        rintro e w2 ⟨P1A, P1c, ps2, rfl, hown2, hcr2, hel2, hb⟩
        have HXn := Lib.hid (HX.out.below hb hs0)
        have HBn := Lib.hid (HBZ.out.trans (hb.mono (Nat.le_of_lt hs0)))
        have HP1n := Lib.hid (own_below HP1.out hb)
        clear HP1
        have HP2n := Lib.hid (own_le hown2 (Nat.le_of_lt hs0))
        have HE2n := Lib.hid (fun y hy => own_le (hel2 y hy) (Nat.le_of_lt hs0))
        have HC2 := Lib.hid hcr2
        clear hown2 hel2 hcr2 hb g2 HX HBZ hBw hs0
        have f0 := HXn.out.frozen 2
        have f1 := (HXn.out.cell 2).trans rfl
        have f2 := HXn.out.lt
        go_upto_region 8 with (fail)
        have HX := Lib.hid (HXn.out.set_ 2 (.slice P1A pn P1c))
        have HBZ := Lib.hid (HBn.out.setCell (p := ⟨Y, 2, none⟩) (by simp) (.slice P1A pn P1c))
        have HP1 := Lib.hid (own_setCell_blk HP1n.out HXn.out (by decide) 2 (.slice P1A pn P1c))
        have HP2 := Lib.hid (own_setCell_blk HP2n.out HXn.out (by decide) 2 (.slice P1A pn P1c))
        have HE2 := Lib.hid (fun y hy => own_setCell_blk (HE2n.out y hy) HXn.out (by decide) 2 (.slice P1A pn P1c))
        clear HP1n HP2n HE2n
        simp only [List.set_cons_succ, List.set_cons_zero] at HX
        clear HXn HBn f0 f1 f2
        generalize World.setCell _ _ _ = x2 at *
        have hs0 := HX.out.lt
        have hBw : Below wr.heap.size wr x2 := by rw [HYY.out]; exact HBZ.out
        have hown0 : (x2.alloc (.cells #[] 119)).ownsRow x2.heap.size 119 5 (.slice (some ⟨x2.heap.size, 0, none⟩) 0 0) 0 [] := own_empty (Nat.le_refl _)
        have hba := (Below.refl x2.heap.size x2).alloc (Nat.le_refl _) (.cells #[] 119)
        have hbw := hba.size
        have HRd : Hid (Rd (x2.alloc (.cells #[] 119)) (x2.alloc (.cells #[] 119)).heap.size 5 TA tn (tscells ts)) := Lib.hid (Rd.up (Rd.up HZZ.out.t hBw hBw.size) hba hba.size)
        have g2 := (HX.out.cell 3).trans rfl
        go_wp2_with (at_builtin; go_must (refine wpList_append_all rfl _ _ 79 rfl x2.heap.size 119 ti _ 5 40 Tryd.underlying79 hti ht0 ht1 ht2 rfl (by decide) _ _ _ rfl hown0 TA tn tc (tscells ts) rfl HNN.out.t HRd.out (tests_one ts) (by unfold maxLen; omega) (by omega) hbw ?_))
        intro v3 w3 hown3 hg3
        have hb := hba.grown hg3 hbw (fun k hk => (hown0.lt k hk).1)
        obtain ⟨T1A, T1c, rfl, _⟩ := own_slice hown3
        have HXn := Lib.hid (HX.out.below hb hs0)
        have HBn := Lib.hid (HBZ.out.trans (hb.mono (Nat.le_of_lt hs0)))
        have HP1n := Lib.hid (own_below HP1.out hb)
        have HP2n := Lib.hid (own_below HP2.out hb)
        have HE2n := Lib.hid (fun y hy => own_below (HE2.out y hy) hb)
        clear HP1 HP2 HE2
        have HP3n := Lib.hid (own_le hown3 (Nat.le_of_lt hs0))
        clear hown3 hg3 hb hown0 hba hbw HRd g2 HX HBZ hBw hs0
        have f0 := HXn.out.frozen 3
        have f1 := (HXn.out.cell 3).trans rfl
        have f2 := HXn.out.lt
        go_upto_region 9 with (fail)
        have HX := Lib.hid (HXn.out.set_ 3 (.slice T1A tn T1c))
        have HBZ := Lib.hid (HBn.out.setCell (p := ⟨Y, 3, none⟩) (by simp) (.slice T1A tn T1c))
        have HP1 := Lib.hid (own_setCell_blk HP1n.out HXn.out (by decide) 3 (.slice T1A tn T1c))
        have HP2 := Lib.hid (own_setCell_blk HP2n.out HXn.out (by decide) 3 (.slice T1A tn T1c))
        have HE2 := Lib.hid (fun y hy => own_setCell_blk (HE2n.out y hy) HXn.out (by decide) 3 (.slice T1A tn T1c))
        have HP3 := Lib.hid (own_setCell_blk HP3n.out HXn.out (by decide) 3 (.slice T1A tn T1c))
        clear HP1n HP2n HE2n HP3n
        simp only [List.set_cons_succ, List.set_cons_zero] at HX
        clear HXn HBn f0 f1 f2
        generalize World.setCell _ _ _ = x3 at *
        have hs0 := HX.out.lt
        have hBw : Below wr.heap.size wr x3 := by rw [HYY.out]; exact HBZ.out
        have g2 := (HX.out.cell 4).trans rfl
        go_wp2_with fail
        refine (patterns_any NA nn nc ns x3 (Rd.up HZZ.out.n hBw hBw.size) (fun y hy => ⟨⟨(HZZ.out.ns y hy).up hBw, HNN.out.ns y hy⟩, HNSM.out y hy⟩) hnn).mono ?_
        rintro e w4 ⟨N1A, N1c, ns4, rfl, hown4, hcr4, hel4, hb⟩
        have HXn := Lib.hid (HX.out.below hb hs0)
        have HBn := Lib.hid (HBZ.out.trans (hb.mono (Nat.le_of_lt hs0)))
        have HP1n := Lib.hid (own_below HP1.out hb)
        have HP2n := Lib.hid (own_below HP2.out hb)
        have HE2n := Lib.hid (fun y hy => own_below (HE2.out y hy) hb)
        have HP3n := Lib.hid (own_below HP3.out hb)
        clear HP1 HP2 HE2 HP3
        have HP4n := Lib.hid (own_le hown4 (Nat.le_of_lt hs0))
        have HE4n := Lib.hid (fun y hy => own_le (hel4 y hy) (Nat.le_of_lt hs0))
        have HC4 := Lib.hid hcr4
        clear hown4 hel4 hcr4 hb g2 HX HBZ hBw hs0
        have f0 := HXn.out.frozen 4
        have f1 := (HXn.out.cell 4).trans rfl
        have f2 := HXn.out.lt
        go_upto_region 10 with (fail)
        have HX := Lib.hid (HXn.out.set_ 4 (.slice N1A nn N1c))
        have HBZ := Lib.hid (HBn.out.setCell (p := ⟨Y, 4, none⟩) (by simp) (.slice N1A nn N1c))
        have HP1 := Lib.hid (own_setCell_blk HP1n.out HXn.out (by decide) 4 (.slice N1A nn N1c))
        have HP2 := Lib.hid (own_setCell_blk HP2n.out HXn.out (by decide) 4 (.slice N1A nn N1c))
        have HE2 := Lib.hid (fun y hy => own_setCell_blk (HE2n.out y hy) HXn.out (by decide) 4 (.slice N1A nn N1c))
        have HP3 := Lib.hid (own_setCell_blk HP3n.out HXn.out (by decide) 4 (.slice N1A nn N1c))
        have HP4 := Lib.hid (own_setCell_blk HP4n.out HXn.out (by decide) 4 (.slice N1A nn N1c))
        have HE4 := Lib.hid (fun y hy => own_setCell_blk (HE4n.out y hy) HXn.out (by decide) 4 (.slice N1A nn N1c))
        clear HP1n HP2n HE2n HP3n HP4n HE4n
        simp only [List.set_cons_succ, List.set_cons_zero] at HX
        clear HXn HBn f0 f1 f2
        generalize World.setCell _ _ _ = x4 at *
        have hs0 := HX.out.lt
        have hBw : Below wr.heap.size wr x4 := by rw [HYY.out]; exact HBZ.out
        have hown0 : (x4.alloc (.cells #[] 9)).ownsRow x4.heap.size 9 1 (.slice (some ⟨x4.heap.size, 0, none⟩) 0 0) 0 [] := own_empty (Nat.le_refl _)
        have hba := (Below.refl x4.heap.size x4).alloc (Nat.le_refl _) (.cells #[] 9)
        have hbw := hba.size
        have HRd : Hid (Rd (x4.alloc (.cells #[] 9)) (x4.alloc (.cells #[] 9)).heap.size 1 VA vn (scells vs)) := Lib.hid (Rd.up (Rd.up HZZ.out.v hBw hBw.size) hba hba.size)
        have g2 := (HX.out.cell 5).trans rfl
        go_wp2_with (at_builtin; go_must (refine wpList_append_all rfl _ _ 71 rfl x4.heap.size 9 ui _ 1 16 Tryd.underlying71 hui hu0 hu1 hu2 rfl (by decide) _ _ _ rfl hown0 VA vn vc (scells vs) rfl HNN.out.v HRd.out (strs_one vs) (by unfold maxLen; omega) (by omega) hbw ?_))
        intro v5 w5 hown5 hg5
        have hb := hba.grown hg5 hbw (fun k hk => (hown0.lt k hk).1)
        obtain ⟨V1A, V1c, rfl, _⟩ := own_slice hown5
        have HXn := Lib.hid (HX.out.below hb hs0)
        have HBn := Lib.hid (HBZ.out.trans (hb.mono (Nat.le_of_lt hs0)))
        have HP1n := Lib.hid (own_below HP1.out hb)
        have HP2n := Lib.hid (own_below HP2.out hb)
        have HE2n := Lib.hid (fun y hy => own_below (HE2.out y hy) hb)
        have HP3n := Lib.hid (own_below HP3.out hb)
        have HP4n := Lib.hid (own_below HP4.out hb)
        have HE4n := Lib.hid (fun y hy => own_below (HE4.out y hy) hb)
        clear HP1 HP2 HE2 HP3 HP4 HE4
        have HP5n := Lib.hid (own_le hown5 (Nat.le_of_lt hs0))
        clear hown5 hg5 hb hown0 hba hbw HRd g2 HX HBZ hBw hs0
        have f0 := HXn.out.frozen 5
        have f1 := (HXn.out.cell 5).trans rfl
        have f2 := HXn.out.lt
        go_upto_region 11 with (fail)
        have HX := Lib.hid (HXn.out.set_ 5 (.slice V1A vn V1c))
        have HBZ := Lib.hid (HBn.out.setCell (p := ⟨Y, 5, none⟩) (by simp) (.slice V1A vn V1c))
        have HP1 := Lib.hid (own_setCell_blk HP1n.out HXn.out (by decide) 5 (.slice V1A vn V1c))
        have HP2 := Lib.hid (own_setCell_blk HP2n.out HXn.out (by decide) 5 (.slice V1A vn V1c))
        have HE2 := Lib.hid (fun y hy => own_setCell_blk (HE2n.out y hy) HXn.out (by decide) 5 (.slice V1A vn V1c))
        have HP3 := Lib.hid (own_setCell_blk HP3n.out HXn.out (by decide) 5 (.slice V1A vn V1c))
        have HP4 := Lib.hid (own_setCell_blk HP4n.out HXn.out (by decide) 5 (.slice V1A vn V1c))
        have HE4 := Lib.hid (fun y hy => own_setCell_blk (HE4n.out y hy) HXn.out (by decide) 5 (.slice V1A vn V1c))
        have HP5 := Lib.hid (own_setCell_blk HP5n.out HXn.out (by decide) 5 (.slice V1A vn V1c))
        clear HP1n HP2n HE2n HP3n HP4n HE4n HP5n
        simp only [List.set_cons_succ, List.set_cons_zero] at HX
        clear HXn HBn f0 f1 f2
        generalize World.setCell _ _ _ = x5 at *
        have hs5 := HX.out.lt
        have hBw : Below wr.heap.size wr x5 := by rw [HYY.out]; exact HBZ.out
        have HT5 := Lib.hid (HT.out.up hBw)
        have hown := own_below HV.out hBw
        have HW5 : Hid (∀ y ∈ acc, y.own x5 Z) := Lib.hid fun y hy => (HW.out y hy).below hBw
        have hZ5 : Z ≤ x5.heap.size := by omega
        have KY : Hid (Rl.own x5 Z ⟨⟨zp, H1A, hn, H1c, hxs⟩, P1A, pn, P1c, ps2, T1A, tn, T1c, ts, N1A, nn, N1c, ns4, V1A, vn, V1c, vs, cl⟩) := Lib.hid ⟨own_le HP1.out (by omega), own_le HP2.out (by omega), fun y hy => own_le (HE2.out y hy) (by omega), own_le HP3.out (by omega), own_le HP4.out (by omega), fun y hy => own_le (HE4.out y hy) (by omega), own_le HP5.out (by omega)⟩
        have k2 := ((HT5.out.k _ _ rfl).1.cell 2).trans rfl
        have y0 := (HX.out.cell 0).trans rfl
        have y1 := (HX.out.cell 1).trans rfl
        have y2 := (HX.out.cell 2).trans rfl
        have y3 := (HX.out.cell 3).trans rfl
        have y4 := (HX.out.cell 4).trans rfl
        have y5 := (HX.out.cell 5).trans rfl
        have y6 := (HX.out.cell 6).trans rfl
        clear HT HV HW hBw HP1 HP2 HE2 HP3 HP4 HE4 HP5 HBZ HYY
        go_wp2_with (at_builtin; go_must (refine wpList_append_own _ rfl _ _ 37 rfl Z 81 ri _ 7 136 Tryd.underlying37 hri hr0 hr1 hr2 rfl (by decide) _ _ _ rfl (hown.alloc _) ⟨x5.heap.size, 0, none⟩ 1 1 (Rl.cells ⟨⟨zp, H1A, hn, H1c, hxs⟩, P1A, pn, P1c, ps2, T1A, tn, T1c, ts, N1A, nn, N1c, ns4, V1A, vn, V1c, vs, cl⟩) rfl rfl (fun j u h => new_cells _ _ _ j u h) (Rl.one _) (by unfold maxLen; omega) (by omega) (by simp; omega) ?_))
        intro v7 w7 hown7 hg7 _
        obtain ⟨A7, d7, rfl, hn7⟩ := own_slice hown7
        have hba := (Below.refl x5.heap.size x5).alloc (Nat.le_refl _) (.cells (Rl.cells ⟨⟨zp, H1A, hn, H1c, hxs⟩, P1A, pn, P1c, ps2, T1A, tn, T1c, ts, N1A, nn, N1c, ns4, V1A, vn, V1c, vs, cl⟩).toArray 81)
        have HT7 := Lib.hid ((HT5.out.alloc (.cells (Rl.cells ⟨⟨zp, H1A, hn, H1c, hxs⟩, P1A, pn, P1c, ps2, T1A, tn, T1c, ts, N1A, nn, N1c, ns4, V1A, vn, V1c, vs, cl⟩).toArray 81)).grow (hown.alloc _) hg7 (by decide) (by decide) (by decide))
        have W7 : Hid (∀ q ∈ acc ++ [(⟨⟨zp, H1A, hn, H1c, hxs⟩, P1A, pn, P1c, ps2, T1A, tn, T1c, ts, N1A, nn, N1c, ns4, V1A, vn, V1c, vs, cl⟩ : Rl)], q.own w7 Z) := Lib.hid (by
          intro q hq
          rcases List.mem_append.1 hq with hq | hq
          · exact ((HW5.out q hq).below hba).kept (hown.alloc _) (by decide) (by decide) (by decide) (by decide) hg7
          · rw [List.mem_singleton.1 hq]
            exact (KY.out.below hba).kept (hown.alloc _) (by decide) (by decide) (by decide) (by decide) hg7)
        have C7 : Hid ((acc ++ [(⟨⟨zp, H1A, hn, H1c, hxs⟩, P1A, pn, P1c, ps2, T1A, tn, T1c, ts, N1A, nn, N1c, ns4, V1A, vn, V1c, vs, cl⟩ : Rl)]).map Rl.core = (rs.take (i + 1)).map Rl.core) := Lib.hid (by
          rw [HTK.out, List.map_append, List.map_append, HC.out]
          simp only [List.map_cons, List.map_nil, Rl.core, HC2.out, HC4.out, Pn.core])
        have V7 : Hid (w7.ownsRow Z 81 7 (.slice A7 (i + 1) d7) (i + 1) (rlcells (acc ++ [(⟨⟨zp, H1A, hn, H1c, hxs⟩, P1A, pn, P1c, ps2, T1A, tn, T1c, ts, N1A, nn, N1c, ns4, V1A, vn, V1c, vs, cl⟩ : Rl)]))) := Lib.hid (by rw [rlcells_append]; simpa [rlcells] using hown7)
        have hk := (HT7.out.k _ _ rfl).1
        have s2 := hk.frozen 2
        have l2 := (hk.cell 2).trans rfl
        have HT8 := Lib.hid (HT7.out.st 2 (.slice A7 (i + 1) d7))
        have V8 := Lib.hid (own_setCell_blk V7.out hk (by decide) 2 (.slice A7 (i + 1) d7))
        have W8 : Hid (∀ q ∈ acc ++ [(⟨⟨zp, H1A, hn, H1c, hxs⟩, P1A, pn, P1c, ps2, T1A, tn, T1c, ts, N1A, nn, N1c, ns4, V1A, vn, V1c, vs, cl⟩ : Rl)], q.own (w7.setCell ⟨K, 2, none⟩ (.slice A7 (i + 1) d7)) Z) := Lib.hid fun q hq => (W7.out q hq).set hk (by decide) (by decide) (by decide) (by decide) 2 _
        clear hown7 hown hg7 hba HT5 HW5 KY HT7 W7 V7 hk k2 y0 y1 y2 y3 y4 y5 y6 HX HC HTK HC2 HC4
        go_wp2
        clear s2 l2
        generalize World.setCell _ _ _ = w8 at *
        go_roundg (rn - (i + 1))
        case measure => have := HG.out; omega
        case rel => exact ⟨i + 1, acc ++ [(⟨⟨zp, H1A, hn, H1c, hxs⟩, P1A, pn, P1c, ps2, T1A, tn, T1c, ts, N1A, nn, N1c, ns4, V1A, vn, V1c, vs, cl⟩ : Rl)], A7, d7, by go_num, by omega, Lib.hid rfl, HT8, V8, C7, W8⟩
      · obtain rfl : rn = i := by omega
        have hall : rs.take rn = rs := List.take_of_length_le (by have := HLR.out; omega)
        rw [hall] at HC
        clear hlt hi HG hall HRU HEU
        go_upto_region 13 with (fail)
        clear f2 G1 hsr
        go_loopg [6] fn (fun gk u6 wr => ∃ (j : Nat) (acd : List Rw) (Af : Option Addr) (df : Nat), u6 = .int .i64 j ∧ j ≤ fn ∧ Hid (gk = fn - j) ∧ Hid (TS Z w3 (some (.slice A1 dn d1, dn, pdcells ds)) (some (.slice A2 cn d2, cn, kcells cs)) (some (K, [.slice A1 dn d1, .slice A2 cn d2, .slice Ar rn dr, .slice Af j df])) wr) ∧ Hid (wr.ownsRow Z 81 7 (.slice Ar rn dr) rn (rlcells acc)) ∧ Hid (∀ y ∈ acc, y.own wr Z) ∧ Hid (wr.ownsRow Z 84 2 (.slice Af j df) j (rwcells acd)) ∧ Hid (acd.map Rw.core = (fs.take j).map Rw.core) ∧ Hid (∀ y ∈ acd, y.own wr Z))
        case atStart => exact ⟨0, [], none, 0, rfl, Nat.zero_le _, Lib.hid (by omega), HT, HV, HW, Lib.hid (World.ownsRow_nil _ _ _ _), Lib.hid rfl, Lib.hid (by simp)⟩
        case round =>
          clear HT HV HW
          obtain ⟨j, acd, Af, df, rfl, hj, HG, HT, HV, HW, HF, HD, HU⟩ := hrel
          have hsr : Z ≤ wr.heap.size := HT.out.s
          have G1 := Lib.hid (H1.out.below HT.out.b (by omega))
          have f3 := (G1.out.cell 3).trans rfl
          by_cases hlt : j < fn
          · obtain ⟨b2, o2, hk2, rfl, hb2, hc⟩ := (HRF.out wr HT.out.b).at Rw.cells 2 (fun _ => rfl) (by omega) j hlt
            have c0 := hc 0 _ (by omega) rfl
            have c1 := hc 1 _ (by omega) rfl
            rw [Nat.add_zero] at c0
            clear hc
            have hz : Rd wr wr.heap.size 1 fs[j].A fs[j].n (icells fs[j].xs) := HEF.out fs[j] (List.getElem_mem hk2) wr HT.out.b
            have hzA := HNI.out.fs fs[j] (List.getElem_mem hk2)
            have hzn := HXN.out fs[j] (List.getElem_mem hk2)
            have HTK := Lib.hid (take_snoc fs j hk2)
            generalize fs[j] = z at *
            obtain ⟨zp, zA, zn, zc, zxs⟩ := z
            dsimp only at c0 c1 hz hzA hzn
            go_upto_region 15 with (fail)
            clear f3
            have hbd : Below wr.heap.size wr wr.drew := (Below.refl _ _).drew
            have HTd := Lib.hid (HT.out.up hbd)
            have HVd : Hid (wr.drew.ownsRow Z 81 7 (.slice Ar rn dr) rn (rlcells acc)) := Lib.hid HV.out.drew
            have HWd : Hid (∀ y ∈ acc, y.own wr.drew Z) := Lib.hid fun y hy => (HW.out y hy).below hbd
            have HFd : Hid (wr.drew.ownsRow Z 84 2 (.slice Af j df) j (rwcells acd)) := Lib.hid HF.out.drew
            have HUd : Hid (∀ y ∈ acd, y.own wr.drew Z) := Lib.hid fun y hy => own_below (HU.out y hy) hbd
            have HZd : Hid (Rd wr.drew wr.drew.heap.size 1 zA zn (icells zxs)) := Lib.hid (hz.up hbd hbd.size)
            have e0 : wr.drew.cell? ⟨b2, o2 + j * 2, none⟩ = some (.int .i64 zp) := c0
            have e1 : wr.drew.cell? ⟨b2, o2 + j * 2 + 1, none⟩ = some (.slice zA zn zc) := c1
            have HE0 := Lib.hid ((HTd.out.b.cell (p := ⟨b2, o2 + j * 2, none⟩) hb2).symm.trans e0)
            have HE1 := Lib.hid ((HTd.out.b.cell (p := ⟨b2, o2 + j * 2 + 1, none⟩) hb2).symm.trans e1)
            clear c0 c1 hbd HT HV HW HF HU hz G1
            generalize hdw : wr.drew = wd at *
            obtain ⟨C, hCi⟩ : ∃ C : World → Prop, ∀ w', C w' ↔ (Blk w' K 40 [.slice A1 dn d1, .slice A2 cn d2, .slice Ar rn dr, .slice Af j df] ∧ Blk w' R 40 [.slice DA dn dc, .slice CA cn cc, .slice RA rn rc, .slice (some ⟨b2, o2, none⟩) fn fc] ∧ w'.cell? ⟨b2, o2 + j * 2, none⟩ = some (.int .i64 zp) ∧ w'.cell? ⟨b2, o2 + j * 2 + 1, none⟩ = some (.slice zA zn zc)) := ⟨_, fun _ => Iff.rfl⟩
            have hC : C wd := (hCi _).2 ⟨(HTd.out.k _ _ rfl).1, H1.out.below HTd.out.b (by omega), e0, e1⟩
            have HCk : Hid (∀ w', Below Z w3 w' → Blk w' K 40 [.slice A1 dn d1, .slice A2 cn d2, .slice Ar rn dr, .slice Af j df] → C w') := Lib.hid fun w' hb hk => (hCi _).2 ⟨hk, H1.out.below hb (by omega), (hb.cell (p := ⟨b2, o2 + j * 2, none⟩) hb2).trans HE0.out, (hb.cell (p := ⟨b2, o2 + j * 2 + 1, none⟩) hb2).trans HE1.out⟩
            have g0 : ∀ p : WC C, p.w.cell? ⟨b2, o2 + j * 2, none⟩ = some (.int .i64 zp) := fun p => ((hCi _).1 p.h).2.2.1
            have g1 : ∀ p : WC C, p.w.cell? ⟨b2, o2 + j * 2 + 1, none⟩ = some (.slice zA zn zc) := fun p => ((hCi _).1 p.h).2.2.2
            have g2 : ∀ p : WC C, p.w.cell? ⟨K, 3, none⟩ = some (.slice Af j df) := fun p => ((hCi _).1 p.h).1.cell 3
            have g3 : ∀ p : WC C, p.w.cell? ⟨R, 3, none⟩ = some (.slice (some ⟨b2, o2, none⟩) fn fc) := fun p => ((hCi _).1 p.h).2.1.cell 3
            have kn : Nonempty (WC C) := ⟨⟨_, hC⟩⟩
            refine wp_region_front' C [0, 1, 2, 3, 4, 5, 6, 7, 9, 10, 11, 12, 13, 14] [8, 15, 16, 17, 18, 19, 20] (fun j => decide (j < 20)) (by kernel_rfl) (fun _ _ d _ _ h => by cases d <;> exact h) (by kernel_rfl) (hdw ▸ hC) ?_
            simp only [List.map_cons, List.map_nil, List.getD_cons_zero, List.getD_cons_succ]
            repeat (go_big_quiet_step (fail))
            refine wpQuiet_nil ?_
            clear g0 g1 g2 g3 kn hC hCi
            rw [hdw]
            clear hdw
            refine wpTail_cons ?_
            have hown0 : (wd.alloc (.cells #[] 3)).ownsRow wd.heap.size 3 1 (.slice (some ⟨wd.heap.size, 0, none⟩) 0 0) 0 [] := own_empty (Nat.le_refl _)
            have hba := (Below.refl wd.heap.size wd).alloc (Nat.le_refl _) (.cells #[] 3)
            have hbw := hba.size
            have HRd := Lib.hid (HZd.out.up hba hbw)
            have HTa := Lib.hid (HTd.out.up hba)
            have HC1 := Lib.hid (HCk.out _ HTa.out.b (HTa.out.k _ _ rfl).1)
            have hZd : Z ≤ wd.heap.size := HTd.out.s
            go_wp2
            refine tailQ_normal (fun _ => HC1.out) ?_
            refine wpTail_cons ?_
            refine wpList_append_all rfl _ _ 27 rfl wd.heap.size 3 n0 _ 1 8 Tryd.underlying27 hni hn0 hn1 hn2 rfl (by decide) _ _ _ rfl hown0 zA zn zc (icells zxs) rfl hzA HRd.out (ints_one zxs) (by unfold maxLen; omega) (by omega) hbw ?_
            intro v1 w1 hown1 hg1
            have hb1 := hba.grown hg1 hbw (fun k hk => (hown0.lt k hk).1)
            obtain ⟨A5, d5, rfl, hn5⟩ := own_slice hown1
            rw [Nat.zero_add, List.nil_append] at hown1
            have KY : Hid (Rw.own w1 Z ⟨zp, A5, zn, d5, zxs⟩) := Lib.hid (own_le hown1 hZd)
            have HT1 := Lib.hid (HTd.out.up hb1)
            have HV1 := Lib.hid (own_below HVd.out hb1)
            have HW1 : Hid (∀ y ∈ acc, y.own w1 Z) := Lib.hid fun y hy => (HWd.out y hy).below hb1
            have HF1 := Lib.hid (own_below HFd.out hb1)
            have HU1 : Hid (∀ y ∈ acd, y.own w1 Z) := Lib.hid fun y hy => own_below (HUd.out y hy) hb1
            have HC2 := Lib.hid (HCk.out _ HT1.out.b (HT1.out.k _ _ rfl).1)
            clear hown1 hg1 hb1 hown0 hba hbw HRd HC1 HTd HTa HVd HWd HFd HUd HZd hZd e0 e1
            rw [Nat.zero_add]
            go_wp2
            refine tailQ_normal (fun _ => HC2.out) ?_
            refine wpTail_cons ?_
            go_wp2
            refine tailQ_normal (fun _ => HC2.out) ?_
            refine wpTail_cons ?_
            have hown := HF1.out
            have hba := (Below.refl w1.heap.size w1).alloc (Nat.le_refl _) (.cells (Rw.cells ⟨zp, A5, zn, d5, zxs⟩).toArray 84)
            have hs1 := HT1.out.s
            have HT2 := Lib.hid (HT1.out.alloc (.cells (Rw.cells ⟨zp, A5, zn, d5, zxs⟩).toArray 84))
            have HC3 := Lib.hid (HCk.out _ HT2.out.b (HT2.out.k _ _ rfl).1)
            go_wp2
            refine tailQ_normal (fun _ => HC3.out) ?_
            refine wpTail_cons ?_
            refine wpList_append_own _ rfl _ _ 38 rfl Z 84 qi _ 2 32 Tryd.underlying38 hqi hq0 hq1 hq2 rfl (by decide) _ _ _ rfl (hown.alloc _) ⟨w1.heap.size, 0, none⟩ 1 1 (Rw.cells ⟨zp, A5, zn, d5, zxs⟩) rfl rfl (fun j u h => new_cells _ _ _ j u h) (Rw.one _) (by unfold maxLen; omega) (by omega) (by simp; omega) ?_
            intro v7 w7 hown7 hg7 _
            obtain ⟨A7, d7, rfl, hn7⟩ := own_slice hown7
            have HT7 := Lib.hid (HT2.out.grow (hown.alloc _) hg7 (by decide) (by decide) (by decide))
            have HV7 := Lib.hid (own_kept_types (own_below HV1.out hba) (hown.alloc _) (by decide) hg7)
            have HW7 : Hid (∀ y ∈ acc, y.own w7 Z) := Lib.hid fun y hy => ((HW1.out y hy).below hba).kept (hown.alloc _) (by decide) (by decide) (by decide) (by decide) hg7
            have HU7 : Hid (∀ q ∈ acd ++ [(⟨zp, A5, zn, d5, zxs⟩ : Rw)], q.own w7 Z) := Lib.hid (by
              intro q hq
              rcases List.mem_append.1 hq with hq | hq
              · exact own_kept_types (own_below (HU1.out q hq) hba) (hown.alloc _) (by decide) hg7
              · rw [List.mem_singleton.1 hq]
                exact own_kept_types (own_below KY.out hba) (hown.alloc _) (by decide) hg7)
            have HD7 : Hid ((acd ++ [(⟨zp, A5, zn, d5, zxs⟩ : Rw)]).map Rw.core = (fs.take (j + 1)).map Rw.core) := Lib.hid (by
              rw [HTK.out, List.map_append, List.map_append, HD.out]
              rfl)
            have HF7 : Hid (w7.ownsRow Z 84 2 (.slice A7 (j + 1) d7) (j + 1) (rwcells (acd ++ [(⟨zp, A5, zn, d5, zxs⟩ : Rw)]))) := Lib.hid (by rw [rwcells_append]; simpa [rwcells] using hown7)
            have hk := (HT7.out.k _ _ rfl).1
            have s3 := hk.frozen 3
            have l3 := (hk.cell 3).trans rfl
            have HT8 := Lib.hid (HT7.out.st 3 (.slice A7 (j + 1) d7))
            have HV8 := Lib.hid (own_setCell_blk HV7.out hk (by decide) 3 (.slice A7 (j + 1) d7))
            have HW8 : Hid (∀ y ∈ acc, y.own (w7.setCell ⟨K, 3, none⟩ (.slice A7 (j + 1) d7)) Z) := Lib.hid fun q hq => (HW7.out q hq).set hk (by decide) (by decide) (by decide) (by decide) 3 _
            have HF8 := Lib.hid (own_setCell_blk HF7.out hk (by decide) 3 (.slice A7 (j + 1) d7))
            have HU8 : Hid (∀ q ∈ acd ++ [(⟨zp, A5, zn, d5, zxs⟩ : Rw)], q.own (w7.setCell ⟨K, 3, none⟩ (.slice A7 (j + 1) d7)) Z) := Lib.hid fun q hq => own_setCell_blk (HU7.out q hq) hk (by decide) 3 _
            have HC7 : Hid (C w7) := Lib.hid (HCk.out _ HT7.out.b hk)
            clear hown7 hg7 hba hown HT1 HV1 HW1 HF1 HU1 HT2 HC2 HC3 HT7 HV7 HW7 HF7 HU7 KY HD HTK HE0 HE1 hk HCk
            refine tailQ_normal (fun _ => HC7.out) ?_
            refine wpTail_cons ?_
            go_wp2
            refine tailQ_normal (fun _ => HC7.out) ?_
            refine wpTail_cons ?_
            go_wp2
            refine tailQ_normal (fun h => by cases h) ?_
            refine wpTail_nil ?_
            clear s3 l3 HC7
            generalize World.setCell _ _ _ = w8 at *
            go_wp2
            go_roundg (fn - (j + 1))
            case measure => have := HG.out; omega
            case rel => exact ⟨j + 1, acd ++ [(⟨zp, A5, zn, d5, zxs⟩ : Rw)], A7, d7, by go_num, by omega, Lib.hid rfl, HT8, HV8, HW8, HF8, HD7, HU8⟩
          · obtain rfl : fn = j := by omega
            have hall : fs.take fn = fs := List.take_of_length_le (by have := HLF.out; omega)
            rw [hall] at HD
            have hk := (HT.out.k _ _ rfl).1
            have k0 := (hk.cell 0).trans rfl
            have k1 := (hk.cell 1).trans rfl
            have k2 := (hk.cell 2).trans rfl
            have k3 := (hk.cell 3).trans rfl
            have hh := H2.out.below HT.out.b (by omega)
            have s0 := hh.frozen 0
            have s1 := hh.frozen 1
            have s2 := hh.frozen 2
            have s3 := hh.frozen 3
            have r0 := (hh.cell 0).trans rfl
            have r1 := (hh.cell 1).trans rfl
            have r2 := (hh.cell 2).trans rfl
            have r3 := (hh.cell 3).trans rfl
            have hb9 := Lib.hid (((((HB.out.trans (HT.out.b.mono (by omega))).setCell (p := ⟨R + 1, 0, none⟩) (by show R ≤ R + 1; omega) (.slice A1 dn d1)).setCell (p := ⟨R + 1, 1, none⟩) (by show R ≤ R + 1; omega) (.slice A2 cn d2)).setCell (p := ⟨R + 1, 2, none⟩) (by show R ≤ R + 1; omega) (.slice Ar rn dr)).setCell (p := ⟨R + 1, 3, none⟩) (by show R ≤ R + 1; omega) (.slice Af fn df))
            have hh4 := (((hh.set_ 0 (.slice A1 dn d1)).set_ 1 (.slice A2 cn d2)).set_ 2 (.slice Ar rn dr)).set_ 3 (.slice Af fn df)
            have OK : Hid (Co.ok ((((wr.setCell ⟨R + 1, 0, none⟩ (.slice A1 dn d1)).setCell ⟨R + 1, 1, none⟩ (.slice A2 cn d2)).setCell ⟨R + 1, 2, none⟩ (.slice Ar rn dr)).setCell ⟨R + 1, 3, none⟩ (.slice Af fn df)) ⟨A1, dn, d1, ds, A2, cn, d2, cs, Ar, rn, dr, acc, Af, fn, df, acd⟩) := Lib.hid
              ⟨own_rd (own4 (HT.out.a _ _ _ rfl) hh (by decide)), own_rd (own4 (HT.out.c _ _ _ rfl) hh (by decide)), own_rd (own4 HV.out hh (by decide)), fun y hy => Rl.own.ok (R := Z)
                (((((HW.out y hy).set hh (by decide) (by decide) (by decide) (by decide) 0 _).set (hh.set_ 0 _) (by decide) (by decide) (by decide) (by decide) 1 _).set ((hh.set_ 0 _).set_ 1 _) (by decide) (by decide) (by decide) (by decide) 2 _).set (((hh.set_ 0 _).set_ 1 _).set_ 2 _) (by decide) (by decide) (by decide) (by decide) 3 _),
                own_rd (own4 HF.out hh (by decide)), fun y hy => own_rd (own4 (HU.out y hy) hh (by decide))⟩
            clear hk hh
            go_wp2
            clear s0 s1 s2 s3 r0 r1 r2 r3 k0 k1 k2 k3
            generalize World.setCell (World.setCell (World.setCell (World.setCell _ _ _) _ _) _ _) _ _ = w9 at *
            have k0 := (hh4.cell 0).trans rfl
            have k1 := (hh4.cell 1).trans rfl
            have k2 := (hh4.cell 2).trans rfl
            have k3 := (hh4.cell 3).trans rfl
            refine bodyPost_ret (v := .agg #[.slice A1 dn d1, .slice A2 cn d2, .slice Ar rn dr, .slice Af fn df]) (by simp [results, Tryd.results17, go_sem, k0, k1, k2, k3]) rfl ?_
            exact ⟨⟨A1, dn, d1, ds, A2, cn, d2, cs, Ar, rn, dr, acc, Af, fn, df, acd⟩, rfl, by simp only [Co.core, HC.out, HD.out], OK.out, rfl, by rw [HRR.out]; exact hb9.out⟩
end Go.Proofs.YtjcgkplphiedjaaDoorT
