/- Lists of lists compared; edges turned in place. -/
import Derived.Test.YtefpglaipnnggaaE6
namespace Go.Proofs.Ytefpglaipnnggaa
open Go.RowKit

/-- A list of lists, as it reads. -/
structure RdL (w : World) (A : Option Addr) (n : Nat) (vs : List Value) (ls : List (List Int)) : Prop where
  rd : Rd w w.heap.size 1 A n vs
  len : ls.length = n
  at_ : ∀ i, (h : i < vs.length) → (h2 : i < ls.length) → ∃ Ai ci, vs[i] = .slice Ai ls[i].length ci ∧ Rd w w.heap.size 1 Ai ls[i].length (icells ls[i])
theorem RdL.up {w w' : World} {A : Option Addr} {n : Nat} {vs : List Value} {ls : List (List Int)} (h : RdL w A n vs ls) (hb : Below w.heap.size w w') : RdL w' A n vs ls :=
  ⟨h.rd.up hb hb.size, h.len, fun i hi h2 => by
    obtain ⟨Ai, ci, e, hr⟩ := h.at_ i hi h2
    exact ⟨Ai, ci, e, hr.up hb hb.size⟩⟩
theorem RdL.nil (w : World) : RdL w none 0 [] [] := ⟨Rd_nil _ _ _, rfl, fun i hi => by simp at hi⟩
theorem LL.rd {w : World} {U : Nat} {v : Value} {vs : List Value} {ls : List (List Int)} (h : LL w U v vs ls) : ∃ A c, v = .slice A ls.length c ∧ RdL w A ls.length vs ls := by
  obtain ⟨A, c, h1, h2⟩ := own_slice h.row
  exact ⟨A, c, h1, h2, rfl, fun i hi hi2 => by
    obtain ⟨Ai, ci, h3, h4⟩ := own_slice (h.own i hi hi2)
    exact ⟨Ai, ci, h3, h4⟩⟩

set_option maxRecDepth 20000 in
theorem equalLists_same (A A' : Option Addr) (n c c' : Nat) (vs vs' : List Value) (ls : List (List Int)) (w : World) (hr : RdL w A n vs ls) (hr' : RdL w A' n vs' ls) :
    Calls Try.prog 30 #[.slice A n c, .slice A' n c'] w fun e w' => e = .returned (.bool true) ∧ ∃ q, w.drewN q = w' := by
  have HR := Lib.hid hr
  have HR' := Lib.hid hr'
  have hn := hr.rd.2.1
  clear hr hr'
  go_enter Try.func30, Try.ntmps30
  go_wp2
  go_loopg [5] n (fun gk v wr => ∃ (i : Nat), v = .int .i64 i ∧ i ≤ n ∧ gk = n - i ∧ Hid (∃ q, wr = w.drewN q))
  case atStart => exact ⟨0, rfl, Nat.zero_le _, by omega, Lib.hid ⟨0, rfl⟩⟩
  case round =>
    obtain ⟨i, rfl, hi, hgi, HQ⟩ := hrel
    have HG := Lib.hid hgi
    clear hgi
    by_cases hlt : i < n
    · have hbw : Below w.heap.size w wr := by obtain ⟨q, hq⟩ := HQ.out; rw [hq]; exact below_drewN (Below.refl _ _) q
      have hr := HR.out.up hbw
      have hr' := HR'.out.up hbw
      have hl1 : vs.length = n := by have := hr.rd.1; omega
      have hl2 : vs'.length = n := by have := hr'.rd.1; omega
      have hl3 : ls.length = n := hr.len
      obtain ⟨b, o, hA, hb, hc⟩ := hr.rd.2.2 (by omega)
      obtain ⟨b', o', hA', hb', hc'⟩ := hr'.rd.2.2 (by omega)
      obtain ⟨Ai, ci, e1, hi1⟩ := hr.at_ i (by omega) (by omega)
      obtain ⟨Ai', ci', e2, hi2⟩ := hr'.at_ i (by omega) (by omega)
      have d0 := hc i _ (List.getElem?_eq_getElem (by omega))
      have d1 := hc' i _ (List.getElem?_eq_getElem (by omega))
      rw [e1] at d0
      rw [e2] at d1
      subst hA hA'
      have cE : ∀ q, Calls Try.prog 25 #[.slice Ai ls[i].length ci, .slice Ai' ls[i].length ci'] (wr.drewN q) fun e w' => e = .returned (.bool true) ∧ ∃ m, w' = (wr.drewN q).drewN m := fun q =>
        (equalInts_any Ai Ai' ls[i].length ls[i].length ci ci' ls[i] ls[i] (wr.drewN q) (hi1.up (below_drewN (Below.refl _ _) q) (Nat.le_refl _)) (hi2.up (below_drewN (Below.refl _ _) q) (Nat.le_refl _))).mono (by
          rintro e w' ⟨rfl, m, rfl⟩
          exact ⟨by simp, m, rfl⟩)
      have HC := Lib.hid cE
      clear cE hc hc' hi1 hi2 e1 e2 hr hr' hbw
      generalize ls[i].length = ll at *
      go_upto_region 6 with (fail)
      go_quiet ((go_at_call 25; exact Calls.quiet_of (HC.out _)))
      go_wp2
      go_roundg (n - (i + 1))
      case measure => have := HG.out; omega
      case rel => exact ⟨i + 1, by go_num, by omega, rfl, Lib.hid (by obtain ⟨q, hq⟩ := HQ.out; exact ⟨q + nq, by rw [hq, World.drewN_drewN]⟩)⟩
    · obtain rfl : i = n := by omega
      go_wp2
      go_ret
      obtain ⟨q, hq⟩ := HQ.out
      exact ⟨rfl, q, hq.symm⟩

def turnE (e : E) : E := ⟨e.t, e.f, !e.neg, e.r⟩
theorem map_next {α : Type} (f : α → α) (l : List α) (k : Nat) (hk : k < l.length) : ((l.take k).map f ++ l.drop k).set k (f l[k]) = (l.take (k + 1)).map f ++ l.drop (k + 1) := by
  have hlen : ((l.take k).map f).length = k := by simp; omega
  rw [List.set_append_right _ _ (by omega), hlen, Nat.sub_self, List.drop_eq_getElem_cons hk, List.set_cons_zero, take_snoc _ _ hk, List.map_append, List.append_assoc]; rfl
theorem map_at {α : Type} (f : α → α) (l : List α) (k : Nat) (hk : k < l.length) (h2 : k < ((l.take k).map f ++ l.drop k).length) : ((l.take k).map f ++ l.drop k)[k] = l[k] := by
  have hlen : ((l.take k).map f).length = k := by simp; omega
  rw [List.getElem_append_right (by omega)]
  simp only [hlen, List.getElem_drop, Nat.sub_self, Nat.add_zero]
theorem turn_fits {n : Int} {es : List E} : Fits n (es.map turnE) ↔ Fits n es := by
  unfold Fits
  constructor
  · rintro ⟨h1, h2, h3⟩
    refine ⟨h1, h2, fun e he => ?_⟩
    have := h3 _ (List.mem_map_of_mem (f := turnE) he)
    unfold okE turnE at this
    unfold okE
    dsimp only at this
    omega
  · rintro ⟨h1, h2, h3⟩
    refine ⟨h1, h2, fun e he => ?_⟩
    obtain ⟨a, ha, rfl⟩ := List.mem_map.1 he
    have := h3 _ ha
    unfold okE at this
    unfold okE turnE
    dsimp only
    omega

set_option maxRecDepth 20000 in
set_option maxHeartbeats 2000000 in
theorem turn_any (R : Nat) (A : Option Addr) (n c : Nat) (es : List E) (w : World) (h : w.ownsRow R 43 4 (.slice A n c) n (ecells es)) :
    Calls Try.prog 32 #[.slice A n c] w fun e w' => e = .returned (.tuple #[]) ∧ w'.ownsRow R 43 4 (.slice A n c) n (ecells (es.map turnE)) ∧ w.grownBy w' (Value.slice A n c).ownBlock := by
  have H := Lib.hid h
  have hl : es.length = n := by have := h.1; rw [ecells_length] at this; omega
  have hn : n ≤ 9223372036854775807 := (own_rd h).2.1
  have HL := Lib.hid hl
  clear h hl
  go_enter Try.func32, Try.ntmps32
  go_wp2
  go_loopg [2] n (fun gk v wr => ∃ (k : Nat), v = .int .i64 k ∧ k ≤ n ∧ gk = n - k ∧ Hid (wr.ownsRow R 43 4 (.slice A n c) n (ecells ((es.take k).map turnE ++ es.drop k))) ∧ Hid (w.grownBy wr (Value.slice A n c).ownBlock))
  case atStart => exact ⟨0, rfl, Nat.zero_le _, by omega, by simpa using H, Lib.hid (World.grownBy.refl _ _)⟩
  case round =>
    obtain ⟨k, rfl, hk, hgk, HO, HGB⟩ := hrel
    have HG := Lib.hid hgk
    clear hgk
    by_cases hlt : k < n
    · have hke : k < es.length := by have := HL.out; omega
      obtain ⟨g, cap, cur, hv, hbg, hg, _⟩ := own_blkd HO.out (by omega)
      injection hv with hv1 _ hv2
      subst hv1 hv2
      obtain ⟨b, o, hk1, hA1, hbb, q0, q1, q2, q3⟩ := (own_rd HO.out).edge k hlt
      injection hA1 with hA1
      injection hA1 with hA1 hA2
      subst hA1 hA2
      rw [Nat.zero_add] at q0 q1 q2 q3
      rw [map_at turnE es k hke] at q0 q1 q2 q3
      have HOd := HO.out.drew
      have z0 := HOd.frozenAt (k * 4)
      have z1 := HOd.frozenAt (k * 4 + 1)
      have z2 := HOd.frozenAt (k * 4 + 2)
      have z3 := HOd.frozenAt (k * 4 + 3)
      have hset := own_edge_set HOd hk1 (turnE es[k])
      rw [map_next turnE es k hke] at hset
      have hgb : w.grownBy wr.drew (Value.slice (some ⟨g, 0, none⟩) n c).ownBlock := ⟨HGB.out.os, HGB.out.tape, HGB.out.output, HGB.out.size, HGB.out.block⟩
      have HGD := Lib.hid hgb
      clear HOd hgb
      unfold turnE at hset
      dsimp only at hset
      have HSET := Lib.hid hset
      clear hset
      generalize es[k] = e at *
      obtain ⟨ef, et, en, er⟩ := e
      dsimp only at q0 q1 q2 q3 HSET
      go_upto_region 3 with (fail)
      have q0' : wr.drew.cell? ⟨g, k * 4, none⟩ = some (.int .i64 ef) := q0
      have q1' : wr.drew.cell? ⟨g, k * 4 + 1, none⟩ = some (.int .i64 et) := q1
      have q2' : wr.drew.cell? ⟨g, k * 4 + 2, none⟩ = some (.bool en) := q2
      have q3' : wr.drew.cell? ⟨g, k * 4 + 3, none⟩ = some (.int .i64 er) := q3
      clear q0 q1 q2 q3 HO HGB hg
      generalize hwd : wr.drew = wd at *
      obtain ⟨C, hCi⟩ : ∃ C : World → Prop, ∀ w', C w' ↔ (w'.cell? ⟨g, k * 4, none⟩ = some (.int .i64 ef) ∧ w'.cell? ⟨g, k * 4 + 1, none⟩ = some (.int .i64 et) ∧ w'.cell? ⟨g, k * 4 + 2, none⟩ = some (.bool en) ∧ w'.cell? ⟨g, k * 4 + 3, none⟩ = some (.int .i64 er)) := ⟨_, fun _ => Iff.rfl⟩
      have hC : C wd := (hCi _).2 ⟨q0', q1', q2', q3'⟩
      have k0 : ∀ p : WC C, p.w.cell? ⟨g, k * 4, none⟩ = some (.int .i64 ef) := fun p => ((hCi _).1 p.h).1
      have k1 : ∀ p : WC C, p.w.cell? ⟨g, k * 4 + 1, none⟩ = some (.int .i64 et) := fun p => ((hCi _).1 p.h).2.1
      have k2 : ∀ p : WC C, p.w.cell? ⟨g, k * 4 + 2, none⟩ = some (.bool en) := fun p => ((hCi _).1 p.h).2.2.1
      have k3 : ∀ p : WC C, p.w.cell? ⟨g, k * 4 + 3, none⟩ = some (.int .i64 er) := fun p => ((hCi _).1 p.h).2.2.2
      have kn : Nonempty (WC C) := ⟨⟨_, hC⟩⟩
      clear hCi
      have HQ := Lib.hid (⟨q0', q1', q2', q3', z0, z1, z2, z3⟩ : _ ∧ _ ∧ _ ∧ _ ∧ _ ∧ _ ∧ _ ∧ _)
      clear q0' q1' q2' q3' z0 z1 z2 z3
      refine wp_region_front' C [0, 1, 2, 3, 4, 5, 6, 7, 8, 9, 10, 11, 12, 13, 14, 15, 16, 17, 18, 19, 20, 21, 22] [23, 24, 25] (fun j => decide (j < 25)) (by kernel_rfl) (fun _ _ d _ _ h => by cases d <;> exact h) (by kernel_rfl) (by rw [hwd]; exact hC) ?_
      simp only [List.map_cons, List.map_nil, List.getD_cons_zero, List.getD_cons_succ]
      repeat (go_big_quiet_step (fail))
      refine wpQuiet_nil ?_
      clear k0 k1 k2 k3 kn
      rw [hwd]
      refine wpTail_cons ?_
      go_wp2
      refine tailQ_normal (fun _ => hC) ?_
      refine wpTail_cons ?_
      go_wp2
      refine tailQ_normal (fun _ => hC) ?_
      refine wpTail_cons ?_
      obtain ⟨q0, q1, q2, q3, z0, z1, z2, z3⟩ := HQ.out
      go_wp2
      refine tailQ_normal (fun h => by cases h) ?_
      refine wpTail_nil ?_
      have HO3 := Lib.hid HSET.out.1
      have HG3 := Lib.hid (HGD.out.trans HSET.out.2)
      clear HSET HGD q0 q1 q2 q3 z0 z1 z2 z3 HQ hC
      generalize World.setCell _ _ _ = w5 at *
      go_wp2
      go_roundg (n - (k + 1))
      case measure => have := HG.out; omega
      case rel => exact ⟨k + 1, by go_num, by omega, rfl, HO3, HG3⟩
    · obtain rfl : k = n := by omega
      go_wp2
      go_end0
      have h := HO.out
      rw [List.take_of_length_le (by have := HL.out; omega), List.drop_of_length_le (by have := HL.out; omega), List.append_nil] at h
      exact ⟨rfl, h, HGB.out⟩
end Go.Proofs.Ytefpglaipnnggaa
