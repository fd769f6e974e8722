/- Apart: plain facts of the components in order; the law's 'from'. -/
import Derived.Test.YtefpglaipnnggaaF1
namespace Go.Proofs.Ytefpglaipnnggaa
open Go.RowKit

section
variable {n : Nat} {es : List E} {out : List (List Int)}
theorem Steps.at (h : Steps n es out) : ∀ i, (hi : i < out.length) → ∃ p, Ready n es (Told (out.take i)) p ∧ out[i] = cls n (Eg es) p := by
  induction h with
  | nil => intro i hi; simp at hi
  | @snoc out p h1 h2 h3 ih =>
    intro i hi
    simp only [List.length_append, List.length_singleton] at hi
    rw [List.take_append_of_le_length (by omega)]
    by_cases e : i = out.length
    · subst e
      refine ⟨p, by rw [List.take_length]; exact h2, ?_⟩
      rw [List.getElem_append_right (by omega)]; simp
    · obtain ⟨q, h4, h5⟩ := ih i (by omega)
      exact ⟨q, h4, by rw [List.getElem_append_left (by omega)]; exact h5⟩
theorem told_take {i : Nat} {q : Int} (h : Told (out.take i) q) : ∃ a, ∃ ha : a < out.length, a < i ∧ q ∈ out[a] := by
  obtain ⟨l, hl, hq⟩ := h
  obtain ⟨a, ha, rfl⟩ := List.mem_iff_getElem.1 hl
  simp only [List.length_take] at ha
  exact ⟨a, by omega, by omega, by simpa using hq⟩
theorem take_told {a i : Nat} {q : Int} (ha : a < out.length) (hai : a < i) (hq : q ∈ out[a]) : Told (out.take i) q :=
  ⟨out[a], List.mem_iff_getElem.2 ⟨a, by rw [List.length_take]; omega, by simp⟩, hq⟩
theorem Steps.disj (h : Steps n es out) {a i : Nat} (ha : a < out.length) (hi : i < out.length) {q : Int} (h1 : q ∈ out[a]) (h2 : q ∈ out[i]) : a = i := by
  have key : ∀ {a i : Nat} (ha : a < out.length) (hi : i < out.length), a < i → q ∈ out[a] → q ∈ out[i] → False := by
    intro a i ha hi hlt h1 h2
    obtain ⟨p, hr, e⟩ := h.at i hi
    obtain ⟨p', hr', e'⟩ := h.at a ha
    have h1' := h1
    rw [e', mem_cls] at h1'
    rw [e, mem_cls] at h2
    have hs : Scc (Eg es) p' p := h1'.2.trans h2.2.symm
    exact hr.2.1 (take_told ha hlt (by rw [e', mem_cls]; exact ⟨hr.1, hs⟩))
  rcases Nat.lt_trichotomy a i with hlt | rfl | hlt
  · exact absurd (key ha hi hlt h1 h2) (by simp)
  · rfl
  · exact absurd (key hi ha hlt h2 h1) (by simp)
theorem Steps.edge (hf : Fits n es) (h : Steps n es out) {e : E} (he : e ∈ es) {a b : Nat} (ha : a < out.length) (hb : b < out.length) (h1 : e.f ∈ out[a]) (h2 : e.t ∈ out[b]) : a ≤ b := by
  obtain ⟨p, hr, ep⟩ := h.at b hb
  have h2' := h2
  rw [ep, mem_cls] at h2'
  have hok := hf.2.2 e he
  by_cases hs : Scc (Eg es) e.f p
  · have : e.f ∈ out[b] := by rw [ep, mem_cls]; exact ⟨⟨hok.1, hok.2.1⟩, hs.symm⟩
    exact Nat.le_of_eq (h.disj ha hb h1 this)
  · obtain ⟨a', ha', hlt, hq⟩ := told_take (hr.2.2 e he h2'.2.symm hs)
    have := h.disj ha ha' h1 hq
    omega
theorem Steps.nodup (h : Steps n es out) {i : Nat} (hi : i < out.length) : out[i].Nodup := by
  obtain ⟨p, _, e⟩ := h.at i hi
  rw [e]
  exact (List.Pairwise.filter _ (ps_sorted n)).imp (fun h e => by omega)
theorem Steps.vx (h : Steps n es out) {i : Nat} (hi : i < out.length) {q : Int} (hq : q ∈ out[i]) : Vx n q := by
  obtain ⟨p, _, e⟩ := h.at i hi
  rw [e, mem_cls] at hq
  exact hq.1
theorem Steps.flat_nodup (h : Steps n es out) : out.flatten.Nodup := by
  induction h with
  | nil => simp
  | @snoc out p h1 h2 h3 ih =>
    rw [List.flatten_append, List.nodup_append]
    refine ⟨ih, ?_, fun a ha b hb e => ?_⟩
    · simp only [List.flatten_cons, List.flatten_nil, List.append_nil]
      exact (List.Pairwise.filter _ (ps_sorted n)).imp (fun h e => by omega)
    · subst e
      simp only [List.flatten_cons, List.flatten_nil, List.append_nil, mem_cls] at hb
      obtain ⟨l, hl, hal⟩ := List.mem_flatten.1 ha
      obtain ⟨p', _, rfl⟩ := h1.lists l hl
      exact h2.2.1 ⟨_, hl, mem_cls.2 ⟨h2.1, (mem_cls.1 hal).2.trans hb.2.symm⟩⟩
theorem Done.flat_length (h : Done n es out) : out.flatten.length = n := by
  have h1 : out.flatten.length ≤ (ps n).length := nodup_le _ _ h.1.flat_nodup (fun x hx => by
    obtain ⟨l, hl, hx⟩ := List.mem_flatten.1 hx
    obtain ⟨i, hi, rfl⟩ := List.mem_iff_getElem.1 hl
    exact mem_ps.2 (h.1.vx hi hx))
  have h2 : (ps n).length ≤ out.flatten.length := nodup_le _ _ ((ps_sorted n).imp (fun h e => by omega)) (fun x hx => by
    obtain ⟨l, hl, hx⟩ := h.2 x (mem_ps.1 hx)
    exact List.mem_flatten.2 ⟨l, hl, hx⟩)
  rw [ps_length] at h1 h2
  omega

/-- The ends of an edge, in the walk's direction. -/
def sEnd (back : Bool) (e : E) : Int := if back then e.t else e.f
def tEnd (back : Bool) (e : E) : Int := if back then e.f else e.t
/-- What is seen is closed along the edges inside. -/
def Closed (es : List E) (inl sn : List Bool) (back : Bool) : Prop := ∀ e ∈ es, tl1 inl (sEnd back e) = true → tl1 inl (tEnd back e) = true → tl1 sn (sEnd back e) = true → tl1 sn (tEnd back e) = true
theorem closed_all {inl sn : List Bool} {back : Bool} {p h q : Int} (hin : ∀ x, Vx n x → (tl1 inl x = true ↔ x ∈ cls n (Eg es) p)) (hf : Fits n es) (hc : Closed es inl sn back) (hh : h ∈ cls n (Eg es) p) (hq : q ∈ cls n (Eg es) p) (hs : tl1 sn h = true) : tl1 sn q = true := by
  have hEv : ∀ u x, Vx n u → Eg es u x → Vx n x := fun u x _ ⟨e, he, _, h2⟩ => by have h := hf.2.2 e he; exact ⟨h2 ▸ h.2.2.1, h2 ▸ h.2.2.2⟩
  rw [mem_cls] at hh hq
  cases back with
  | false =>
    obtain ⟨k, hk⟩ := (hh.2.symm.trans hq.2).1
    have key : ∀ (k : Nat) (u : Int), Vx n u → Scc (Eg es) p u → tl1 sn u = true → RN (Eg es) k u q → tl1 sn q = true := by
      intro k
      induction k with
      | zero => intro u _ _ hu hr; cases hr; exact hu
      | succ k ih =>
        intro u hv hu hsu ⟨x, hx, hr⟩
        have hvx := hEv u x hv hx
        have hsx : Scc (Eg es) p x := ⟨hu.1.trans (Reach.step hx), (show Reach (Eg es) x q from ⟨k, hr⟩).trans hq.2.2⟩
        refine ih x hvx hsx ?_ hr
        obtain ⟨e, he, h1, h2⟩ := hx
        have hce := hc e he
        simp only [sEnd, tEnd, Bool.false_eq_true, if_false, h1, h2] at hce
        exact hce ((hin u hv).2 (mem_cls.2 ⟨hv, hu⟩)) ((hin x hvx).2 (mem_cls.2 ⟨hvx, hsx⟩)) hsu
    exact key k h hh.1 hh.2 hs hk
  | true =>
    obtain ⟨k, hk⟩ := (hq.2.symm.trans hh.2).1
    have key : ∀ (k : Nat) (u : Int), Vx n u → Scc (Eg es) p u → RN (Eg es) k u h → tl1 sn u = true := by
      intro k
      induction k with
      | zero => intro u _ _ hr; cases hr; exact hs
      | succ k ih =>
        intro u hv hu ⟨x, hx, hr⟩
        have hvx := hEv u x hv hx
        have hsx : Scc (Eg es) p x := ⟨hu.1.trans (Reach.step hx), (show Reach (Eg es) x h from ⟨k, hr⟩).trans hh.2.2⟩
        have h3 := ih x hvx hsx hr
        obtain ⟨e, he, h1, h2⟩ := hx
        have hce := hc e he
        simp only [sEnd, tEnd, if_true, h1, h2] at hce
        exact hce ((hin x hvx).2 (mem_cls.2 ⟨hvx, hsx⟩)) ((hin u hv).2 (mem_cls.2 ⟨hv, hu⟩)) h3
    exact key k q hq.1 hq.2 hk
end

/-- How many are not seen. -/
def falses (l : List Bool) : Nat := (l.filter (fun b => !b)).length
theorem falses_set : ∀ (l : List Bool) (i : Nat), i < l.length → l.getD i false = false → falses (l.set i true) + 1 = falses l
  | [], i, h, _ => by simp at h
  | a :: l, 0, _, h => by
    have ha : a = false := by simpa using h
    subst ha
    simp [falses]
  | a :: l, i + 1, h, h0 => by
    have ih := falses_set l i (by simpa using h) (by simpa using h0)
    unfold falses at ih ⊢
    simp only [List.set_cons_succ, List.filter_cons]
    split <;> simp_all
theorem tl1_set {l : List Bool} {i : Nat} (hi : i < l.length) (x : Int) : tl1 (l.set i true) x = if x.toNat = i then true else tl1 l x := by
  unfold tl1
  simp only [List.getD_eq_getElem?_getD, List.getElem?_set]
  by_cases e : i = x.toNat
  · subst e; simp [hi]
  · rw [if_neg e, if_neg (fun h => e h.symm)]
theorem Blk.bool {w : World} {g : Nat} {l : List Bool} (h : Blk w g 4 (bcells l)) {i : Nat} (hi : i < l.length) : w.cell? ⟨g, i, none⟩ = some (.bool (tl1 l i)) := by
  refine (h.cell i).trans ?_
  unfold bcells tl1
  rw [List.getElem?_map, Int.toNat_natCast, List.getD_eq_getElem?_getD, List.getElem?_eq_getElem hi]; rfl

set_option maxRecDepth 20000 in
set_option maxHeartbeats 4000000 in
theorem from_any (A : Option Addr) (m c n gi a : Nat) (back : Bool) (es : List E) (inl : List Bool) (w : World) (hr : Rd w w.heap.size 4 A m (ecells es)) (hf : Fits n es) (hi : Blk w gi 4 (bcells inl)) (hil : inl.length = n) (ha : a < n) :
    Calls Try.prog 34 #[.int .i64 n, .slice A m c, .slice (some ⟨gi, 0, none⟩) n n, .int .i64 a, .bool back] w fun e w' => ∃ gs sn, e = .returned (.slice (some ⟨gs, 0, none⟩) n n) ∧ Below w.heap.size w w' ∧ Blk w' gs 4 (bcells sn) ∧ sn.length = n ∧ tl1 sn a = true ∧ Closed es inl sn back := by
  obtain ⟨i2, hi2, hb0, hb1, hb2⟩ := info_parts Try.info4
  have hn : n ≤ 128 := by have := hf.2.1; omega
  have hlen : es.length = m := by have := hr.1; rw [ecells_length] at this; omega
  have HL := Lib.hid hlen
  have HR := Lib.hid hr
  have HF := Lib.hid hf
  have HI := Lib.hid hi
  have hmb := hr.2.1
  have hgi : Hid (gi < w.heap.size) := Lib.hid hi.lt
  clear hr hf hlen hi
  have mk4 : ∀ W : World, (Instr.makeSlice 52 (.int .i64 (n : Int)) (.int .i64 (n : Int))).run Try.prog W = .ok (.slice (some ⟨W.heap.size, 0, none⟩) n n) (W.alloc (.cells (bcells (List.replicate n false)).toArray 4)) := fun W => by
    rw [run_make_rowN 52 4 i2 _ Try.underlying52 hi2 hb0 _ _ n n (Nat.le_refl _) (by rw [hb2]; omega) (by omega) W, hb1, made_one _ rfl]
    simp [bcells]
  go_enter Try.func34, Try.ntmps34
  go_upto_region 2 with (fail)
  have HB0 : Hid (Below w.heap.size w (w.alloc (.cells (bcells (List.replicate n false)).toArray 4))) := Lib.hid ((Below.refl _ _).alloc (Nat.le_refl _) _)
  have HS0 := Lib.hid (Blk.new w 4 (bcells (List.replicate n false)))
  generalize World.alloc _ _ = w2 at *
  generalize hZ : w.heap.size = Z at *
  have HZ := Lib.hid hZ
  clear hZ mk4
  have t0 := HS0.out.bool (i := a) (by simpa using ha)
  have z0 := HS0.out.frozen a
  go_upto_region 3 with (fail)
  have HB3 := Lib.hid (HB0.out.setCell (p := ⟨Z, a, none⟩) (Nat.le_refl _) (.bool true))
  have HS3 : Hid (Blk (w2.setCell ⟨Z, a, none⟩ (.bool true)) Z 4 (bcells ((List.replicate n false).set a true))) := by
    have := HS0.out.set_ a (.bool true)
    unfold bcells at this ⊢
    rw [List.map_set]; exact Lib.hid this
  clear HB0 HS0 t0 z0
  generalize World.setCell _ _ _ = w3 at *
  go_wp2
  go_loopg [12] (falses ((List.replicate n false).set a true) + 1) (fun gk v wr => ∃ (ag : Bool) (sn : List Bool), v = .bool ag ∧ Hid (gk = if ag then falses sn + 1 else 0) ∧ Hid (Below Z w wr) ∧ Hid (Blk wr Z 4 (bcells sn)) ∧ Hid (sn.length = n ∧ tl1 sn a = true) ∧ Hid (ag = false → Closed es inl sn back))
  case atStart => exact ⟨true, _, rfl, Lib.hid rfl, HB3, HS3, Lib.hid ⟨by simp, by rw [tl1_set (by simpa using ha), if_pos (by omega)]⟩, Lib.hid (fun h => by cases h)⟩
  case round =>
    clear HB3 HS3
    obtain ⟨ag, sn, rfl, HG, HB, HS, HN, HCL⟩ := hrel
    cases ag with
    | false =>
      go_wp2
      go_ret
      exact ⟨Z, rfl, by rw [HZ.out]; exact HB.out, sn, HS.out, HN.out.1, HN.out.2, HCL.out trivial⟩
    | true =>
      obtain ⟨sn0, hsn0⟩ : ∃ x, x = sn := ⟨sn, rfl⟩
      subst hsn0
      clear HCL
      go_wp2
      go_loopg [13, 12] m (fun gk v13 v12 wr => ∃ (i : Nat) (ag : Bool) (sn : List Bool), v13 = .int .i64 i ∧ v12 = .bool ag ∧ i ≤ m ∧ gk = m - i ∧ Hid (Below Z w wr) ∧ Hid (Blk wr Z 4 (bcells sn)) ∧ Hid (sn.length = n ∧ tl1 sn a = true) ∧
        Hid ((ag = false ∧ sn = sn0 ∧ ∀ e ∈ es.take i, tl1 inl (sEnd back e) = true → tl1 inl (tEnd back e) = true → tl1 sn (sEnd back e) = true → tl1 sn (tEnd back e) = true) ∨ (ag = true ∧ falses sn < falses sn0)))
      case atStart => exact ⟨0, false, sn0, rfl, rfl, Nat.zero_le _, by omega, HB, HS, HN, Lib.hid (.inl ⟨rfl, rfl, fun e he => by simp at he⟩)⟩
      case round =>
        clear HB HS HN
        obtain ⟨i, ag, sn, rfl, rfl, hi9, hgi9, HB, HS, HN, HC⟩ := hrel
        have HK2 := Lib.hid hgi9
        clear hgi9
        by_cases hlt : i < m
        · obtain ⟨b, o, hj1, rfl, hbb, c0, c1, _, _⟩ := (HR.out.below HB.out).edge i hlt
          have hok := HF.out.2.2 _ (List.getElem_mem hj1)
          have HK := Lib.hid (take_snoc es i hj1)
          generalize es[i] = e at *
          obtain ⟨ef, et, en, er⟩ := e
          obtain ⟨p1, p2, p3, p4⟩ := hok
          dsimp only at c0 c1 p1 p2 p3 p4
          obtain ⟨f, rfl⟩ : ∃ f : Nat, ef = (f : Int) := ⟨ef.toNat, by omega⟩
          obtain ⟨t, rfl⟩ : ∃ t : Nat, et = (t : Int) := ⟨et.toNat, by omega⟩
          cases back with
          | false =>
            have hu0 : f < n := by omega
            have hv0 : t < n := by omega
            have i0 := (HI.out.below HB.out hgi.out).bool (i := f) (by omega)
            have i1 := (HI.out.below HB.out hgi.out).bool (i := t) (by omega)
            have s0 := HS.out.bool (i := f) (by have := HN.out.1; omega)
            have s1 := HS.out.bool (i := t) (by have := HN.out.1; omega)
            have zv := HS.out.frozen t
            have HSK : Hid ((tl1 inl f = false ∨ tl1 inl t = false ∨ tl1 sn f = false ∨ tl1 sn t = true) → ((ag = false ∧ sn = sn0 ∧ ∀ e ∈ es.take (i + 1), tl1 inl (sEnd false e) = true → tl1 inl (tEnd false e) = true → tl1 sn (sEnd false e) = true → tl1 sn (tEnd false e) = true) ∨ (ag = true ∧ falses sn < falses sn0))) := Lib.hid fun h => by
              rcases HC.out with ⟨h1, h2, h3⟩ | h1
              · refine .inl ⟨h1, h2, fun e he => ?_⟩
                rw [HK.out] at he
                rcases List.mem_append.1 he with he | he
                · exact h3 e he
                · rw [List.mem_singleton.1 he]
                  simp only [sEnd, tEnd, Bool.false_eq_true, if_false]
                  rcases h with h | h | h | h <;> simp [h]
              · exact .inr h1
            cases h1 : tl1 inl f with
            | false =>
              rw [h1] at i0
              have HX := Lib.hid (HSK.out (.inl h1))
              clear HSK h1
              go_wp2
              go_roundg (m - (i + 1))
              case measure => have := HK2.out; omega
              case rel => exact ⟨i + 1, ag, sn, by go_num, rfl, by omega, rfl, HB, HS, HN, HX⟩
            | true =>
              rw [h1] at i0
              cases h2 : tl1 inl t with
              | false =>
                rw [h2] at i1
                have HX := Lib.hid (HSK.out (.inr (.inl h2)))
                clear HSK h1 h2
                go_wp2
                go_roundg (m - (i + 1))
                case measure => have := HK2.out; omega
                case rel => exact ⟨i + 1, ag, sn, by go_num, rfl, by omega, rfl, HB, HS, HN, HX⟩
              | true =>
                rw [h2] at i1
                cases h3 : tl1 sn f with
                | false =>
                  rw [h3] at s0
                  have HX := Lib.hid (HSK.out (.inr (.inr (.inl h3))))
                  clear HSK h1 h2 h3
                  go_wp2
                  go_roundg (m - (i + 1))
                  case measure => have := HK2.out; omega
                  case rel => exact ⟨i + 1, ag, sn, by go_num, rfl, by omega, rfl, HB, HS, HN, HX⟩
                | true =>
                  rw [h3] at s0
                  cases h4 : tl1 sn t with
                  | true =>
                    rw [h4] at s1
                    have HX := Lib.hid (HSK.out (.inr (.inr (.inr h4))))
                    clear HSK h1 h2 h3 h4
                    go_wp2
                    go_roundg (m - (i + 1))
                    case measure => have := HK2.out; omega
                    case rel => exact ⟨i + 1, ag, sn, by go_num, rfl, by omega, rfl, HB, HS, HN, HX⟩
                  | false =>
                    rw [h4] at s1
                    have hvl : t < sn.length := by have := HN.out.1; omega
                    have HX : Hid (falses (sn.set t true) < falses sn0) := Lib.hid (by
                      have h5 := falses_set sn t hvl (by unfold tl1 at h4; rw [Int.toNat_natCast] at h4; exact h4)
                      rcases HC.out with ⟨_, h2, _⟩ | ⟨_, h2⟩
                      · rw [← h2]; omega
                      · omega)
                    have HN2 : Hid ((sn.set t true).length = n ∧ tl1 (sn.set t true) a = true) := Lib.hid ⟨by simpa using HN.out.1, by rw [tl1_set hvl]; split; rfl; exact HN.out.2⟩
                    clear HSK h1 h2 h3 h4
                    go_upto_region 15 with (fail)
                    have HB5 := Lib.hid (HB.out.setCell (p := ⟨Z, t, none⟩) (Nat.le_refl _) (.bool true))
                    have HS5 : Hid (Blk (wr.setCell ⟨Z, t, none⟩ (.bool true)) Z 4 (bcells (sn.set t true))) := by
                      have := HS.out.set_ t (.bool true)
                      unfold bcells at this ⊢
                      rw [List.map_set]; exact Lib.hid this
                    clear HB HS i0 i1 s0 s1 zv c0 c1
                    generalize World.setCell _ _ _ = w5 at *
                    go_wp2
                    go_roundg (m - (i + 1))
                    case measure => have := HK2.out; omega
                    case rel => exact ⟨i + 1, true, _, by go_num, rfl, by omega, rfl, HB5, HS5, HN2, Lib.hid (.inr ⟨rfl, HX.out⟩)⟩
          | true =>
            have hu0 : t < n := by omega
            have hv0 : f < n := by omega
            have i0 := (HI.out.below HB.out hgi.out).bool (i := t) (by omega)
            have i1 := (HI.out.below HB.out hgi.out).bool (i := f) (by omega)
            have s0 := HS.out.bool (i := t) (by have := HN.out.1; omega)
            have s1 := HS.out.bool (i := f) (by have := HN.out.1; omega)
            have zv := HS.out.frozen f
            have HSK : Hid ((tl1 inl t = false ∨ tl1 inl f = false ∨ tl1 sn t = false ∨ tl1 sn f = true) → ((ag = false ∧ sn = sn0 ∧ ∀ e ∈ es.take (i + 1), tl1 inl (sEnd true e) = true → tl1 inl (tEnd true e) = true → tl1 sn (sEnd true e) = true → tl1 sn (tEnd true e) = true) ∨ (ag = true ∧ falses sn < falses sn0))) := Lib.hid fun h => by
              rcases HC.out with ⟨h1, h2, h3⟩ | h1
              · refine .inl ⟨h1, h2, fun e he => ?_⟩
                rw [HK.out] at he
                rcases List.mem_append.1 he with he | he
                · exact h3 e he
                · rw [List.mem_singleton.1 he]
                  simp only [sEnd, tEnd, if_true]
                  rcases h with h | h | h | h <;> simp [h]
              · exact .inr h1
            cases h1 : tl1 inl t with
            | false =>
              rw [h1] at i0
              have HX := Lib.hid (HSK.out (.inl h1))
              clear HSK h1
              go_wp2
              go_roundg (m - (i + 1))
              case measure => have := HK2.out; omega
              case rel => exact ⟨i + 1, ag, sn, by go_num, rfl, by omega, rfl, HB, HS, HN, HX⟩
            | true =>
              rw [h1] at i0
              cases h2 : tl1 inl f with
              | false =>
                rw [h2] at i1
                have HX := Lib.hid (HSK.out (.inr (.inl h2)))
                clear HSK h1 h2
                go_wp2
                go_roundg (m - (i + 1))
                case measure => have := HK2.out; omega
                case rel => exact ⟨i + 1, ag, sn, by go_num, rfl, by omega, rfl, HB, HS, HN, HX⟩
              | true =>
                rw [h2] at i1
                cases h3 : tl1 sn t with
                | false =>
                  rw [h3] at s0
                  have HX := Lib.hid (HSK.out (.inr (.inr (.inl h3))))
                  clear HSK h1 h2 h3
                  go_wp2
                  go_roundg (m - (i + 1))
                  case measure => have := HK2.out; omega
                  case rel => exact ⟨i + 1, ag, sn, by go_num, rfl, by omega, rfl, HB, HS, HN, HX⟩
                | true =>
                  rw [h3] at s0
                  cases h4 : tl1 sn f with
                  | true =>
                    rw [h4] at s1
                    have HX := Lib.hid (HSK.out (.inr (.inr (.inr h4))))
                    clear HSK h1 h2 h3 h4
                    go_wp2
                    go_roundg (m - (i + 1))
                    case measure => have := HK2.out; omega
                    case rel => exact ⟨i + 1, ag, sn, by go_num, rfl, by omega, rfl, HB, HS, HN, HX⟩
                  | false =>
                    rw [h4] at s1
                    have hvl : f < sn.length := by have := HN.out.1; omega
                    have HX : Hid (falses (sn.set f true) < falses sn0) := Lib.hid (by
                      have h5 := falses_set sn f hvl (by unfold tl1 at h4; rw [Int.toNat_natCast] at h4; exact h4)
                      rcases HC.out with ⟨_, h2, _⟩ | ⟨_, h2⟩
                      · rw [← h2]; omega
                      · omega)
                    have HN2 : Hid ((sn.set f true).length = n ∧ tl1 (sn.set f true) a = true) := Lib.hid ⟨by simpa using HN.out.1, by rw [tl1_set hvl]; split; rfl; exact HN.out.2⟩
                    clear HSK h1 h2 h3 h4
                    go_upto_region 15 with (fail)
                    have HB5 := Lib.hid (HB.out.setCell (p := ⟨Z, f, none⟩) (Nat.le_refl _) (.bool true))
                    have HS5 : Hid (Blk (wr.setCell ⟨Z, f, none⟩ (.bool true)) Z 4 (bcells (sn.set f true))) := by
                      have := HS.out.set_ f (.bool true)
                      unfold bcells at this ⊢
                      rw [List.map_set]; exact Lib.hid this
                    clear HB HS i0 i1 s0 s1 zv c0 c1
                    generalize World.setCell _ _ _ = w5 at *
                    go_wp2
                    go_roundg (m - (i + 1))
                    case measure => have := HK2.out; omega
                    case rel => exact ⟨i + 1, true, _, by go_num, rfl, by omega, rfl, HB5, HS5, HN2, Lib.hid (.inr ⟨rfl, HX.out⟩)⟩
        · obtain rfl : i = m := by omega
          have HCX : Hid (ag = false → Closed es inl sn back) := Lib.hid fun h e he => by
            rcases HC.out with ⟨_, _, h3⟩ | ⟨h1, _⟩
            · rw [List.take_of_length_le (by have := HL.out; omega)] at h3
              exact h3 e he
            · rw [h] at h1; cases h1
          have HM : Hid ((if ag then falses sn + 1 else 0) < falses sn0 + 1) := Lib.hid (by
            rcases HC.out with ⟨h1, _, _⟩ | ⟨h1, h2⟩
            · rw [h1]; simp
            · rw [h1]; simp; omega)
          go_wp2
          go_roundg (if ag then falses sn + 1 else 0)
          case measure => have := HG.out; have := HM.out; simp only [if_true] at *; omega
          case rel => exact ⟨ag, sn, rfl, Lib.hid rfl, HB, HS, HN, HCX⟩
end Go.Proofs.Ytefpglaipnnggaa
