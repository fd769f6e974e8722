import Derived.Test.YtefpglaipnnggaaC2
import Derived.Test.YtefpglaipnnggaaP3
import Derived.Deep.DeepCutAuto
import Derived.Deep.LoopGhost
import Derived.WalkMore
namespace Go.Proofs.Ytefpglaipnnggaa
open Go.RowKit

/-- The rows of the out list, as they lie below M, outside S. -/
def AdjAt (W : World) (M go : Nat) (S : List Nat) (n : Nat) (adj : Int → List Int) : Prop :=
  go < M ∧ go ∉ S ∧ ∀ v : Int, 0 ≤ v → v < n → ∃ A c, W.cell? ⟨go, v.toNat, none⟩ = some (.slice A (adj v).length c) ∧ (adj v).length ≤ 9223372036854775807 ∧
    (0 < (adj v).length → ∃ b o, A = some ⟨b, o, none⟩ ∧ b < M ∧ b ∉ S ∧ ∀ j u, (adj v)[j]? = some u → W.cell? ⟨b, o + j, none⟩ = some (.int .i64 u))

theorem Only.cell {S : List Nat} {M : Nat} {a b : World} (h : Only S M a b) {p : Addr} (hp : p.block < M) (hs : p.block ∉ S) : b.cell? p = a.cell? p := World.cell?_of_block (w := a) (h.block p.block hp hs)

theorem AdjAt.keep {W w : World} {M go : Nat} {S : List Nat} {n : Nat} {adj : Int → List Int} (h : AdjAt W M go S n adj) (ho : Only S M W w) : AdjAt w M go S n adj := by
  refine ⟨h.1, h.2.1, fun v h0 hn => ?_⟩
  obtain ⟨A, c, h1, h2, h3⟩ := h.2.2 v h0 hn
  refine ⟨A, c, (ho.cell h.1 h.2.1).trans h1, h2, fun hl => ?_⟩
  obtain ⟨b, o, e, hb, hs, hc⟩ := h3 hl
  exact ⟨b, o, e, hb, hs, fun j u hu => (ho.cell (p := ⟨b, o + j, none⟩) hb hs).trans (hc j u hu)⟩

/-- The stack's cells: from the bottom. -/
def fcells (C : List (Int × Nat)) : List Value := C.reverse.flatMap fun c => [.int .i64 c.1, .int .i64 (c.2 : Int)]
theorem fcells_cons (c : Int × Nat) (C : List (Int × Nat)) : fcells (c :: C) = fcells C ++ [.int .i64 c.1, .int .i64 (c.2 : Int)] := by simp [fcells]
theorem fcells_length (C : List (Int × Nat)) : (fcells C).length = C.length * 2 := by
  induction C with
  | nil => rfl
  | cons c C ih => rw [fcells_cons, List.length_append, ih]; simp; omega

theorem own_blk {w : World} {base e size n : Nat} {v : Value} {xs : List Value} (h : w.ownsRow base e size v n xs) (hn : 0 < n) :
    ∃ g cap cur, v = .slice (some ⟨g, 0, none⟩) n cap ∧ base ≤ g ∧ Blk w g e cur ∧ n ≤ cap ∧ cap ≤ maxLen ∧ cur.length = cap * size ∧ cur.take (n * size) = xs := by
  rcases h.2 with ⟨_, h0⟩ | ⟨g, cap, cur, hv, hb, hg, hnc, hcm, hcs, ht⟩
  · omega
  · exact ⟨g, cap, cur.toList, hv, hb, by unfold Blk; simpa using hg, hnc, hcm, by simpa using hcs, ht⟩
theorem own_mk {w : World} {base e size n g cap : Nat} {cur xs : List Value} (hb : base ≤ g) (hg : Blk w g e cur) (hnc : n ≤ cap) (hcm : cap ≤ maxLen) (hcs : cur.length = cap * size) (ht : cur.take (n * size) = xs) (hl : xs.length = n * size) :
    w.ownsRow base e size (.slice (some ⟨g, 0, none⟩) n cap) n xs :=
  ⟨hl, .inr ⟨g, cap, cur.toArray, rfl, hb, hg, hnc, hcm, by simpa using hcs, by simpa using ht⟩⟩

/-- The stack's row stays over the seeker's own work. -/
theorem own_fr {w w' : World} {S : List Nat} {base n : Nat} {v : Value} {xs : List Value} (h : w.ownsRow base 81 2 v n xs) (hf : Fr S w w') (hS : ∀ k ∈ S, k < base) : w'.ownsRow base 81 2 v n xs := by
  refine ⟨h.1, ?_⟩
  rcases h.2 with h2 | ⟨g, cap, cur, hv, hb, hg, r⟩
  · exact .inl h2
  · refine .inr ⟨g, cap, cur, hv, hb, ?_, r⟩
    have := hf.keep g 81 cur.toList (fun hs => by have := hS g hs; omega) (by decide) (by unfold Blk; simpa using hg)
    unfold Blk at this; simpa using this

theorem own_top {w : World} {M n g cap : Nat} {p : Int} {i : Nat} {rest : List (Int × Nat)} (h : w.ownsRow M 81 2 (.slice (some ⟨g, 0, none⟩) n cap) (rest.length + 1) (fcells ((p, i) :: rest))) :
    M ≤ g ∧ g < w.heap.size ∧ (∃ cur, Blk w g 81 cur) ∧ rest.length + 1 ≤ cap ∧ cap ≤ maxLen ∧ w.cell? ⟨g, rest.length * 2, none⟩ = some (.int .i64 p) ∧ w.cell? ⟨g, rest.length * 2 + 1, none⟩ = some (.int .i64 (i : Int)) ∧
      w.ownsRow M 81 2 (.slice (some ⟨g, 0, none⟩) rest.length cap) rest.length (fcells rest) ∧
      ∀ x : Nat, (w.setCell ⟨g, rest.length * 2 + 1, none⟩ (.int .i64 (x : Int))).ownsRow M 81 2 (.slice (some ⟨g, 0, none⟩) (rest.length + 1) cap) (rest.length + 1) (fcells ((p, x) :: rest)) := by
  obtain ⟨g', cap', cur, hv, hb, hg, hnc, hcm, hcs, ht⟩ := own_blk h (by omega)
  injection hv with hv1 hv2 hv3
  injection hv1 with hv1
  injection hv1 with hv1
  subst hv1 hv2 hv3
  have hfl := fcells_length rest
  rw [fcells_cons] at ht
  have hat : ∀ (j : Nat) (u : Value), (fcells rest ++ [Value.int .i64 p, .int .i64 (i : Int)])[j]? = some u → cur[j]? = some u := by
    intro j u hu
    rw [← ht, List.getElem?_take] at hu
    split at hu
    · exact hu
    · cases hu
  have c0 : cur[rest.length * 2]? = some (.int .i64 p) := hat _ _ (by rw [List.getElem?_append_right (by omega), hfl]; simp)
  have c1 : cur[rest.length * 2 + 1]? = some (.int .i64 (i : Int)) := hat _ _ (by rw [List.getElem?_append_right (by omega), hfl]; simp)
  have hrest : cur.take (rest.length * 2) = fcells rest := by
    have e : cur.take (rest.length * 2) = (cur.take ((rest.length + 1) * 2)).take (rest.length * 2) := by rw [List.take_take]; congr 1; omega
    rw [e, ht, List.take_append_of_le_length (by omega), List.take_of_length_le (by omega)]
  refine ⟨hb, hg.lt, ⟨cur, hg⟩, hnc, hcm, (hg.cell _).trans c0, (hg.cell _).trans c1, own_mk hb hg (by omega) hcm hcs hrest hfl, fun x => ?_⟩
  refine own_mk hb (hg.set_ _ _) hnc hcm (by simpa using hcs) ?_ (by rw [fcells_length]; rfl)
  rw [fcells_cons, List.take_set, ht, List.set_append, if_neg (by omega), hfl]
  have : rest.length * 2 + 1 - rest.length * 2 = 1 := by omega
  rw [this]; rfl

theorem Sk.grown81 {W0 w w' : World} {M s gt gl gc go n size k : Nat} {time low comp opn : List Int} {clock count : Int} {v : Value} {xs : List Value} (h : Sk W0 w M s gt gl gc go n time low comp opn clock count)
    (hown : w.ownsRow M 81 size v k xs) (hg : w.grownBy w' v.ownBlock) : Sk W0 w' M s gt gl gc go n time low comp opn clock count := by
  obtain ⟨vo, h1, h2⟩ := h.bs
  have hl := h.lt
  have hrow : ∀ q, v.ownBlock = some q → M ≤ q := fun q hq => (hown.lt q hq).1
  have hne : ∀ g, g < M → some g ≠ v.ownBlock := fun g hg he => by have := hrow g he.symm; omega
  refine ⟨h.only.grown hg h.size hrow, Nat.le_trans h.size hg.size, h.lt, h.ne, h.len, h.btime.grown hg (hne _ hl.2.1), h.blow.grown hg (hne _ hl.2.2.1), h.bcomp.grown hg (hne _ hl.2.2.2.1), vo, h1.grown hg (hne _ hl.1), h2.kept hg ?_⟩
  rcases h2.2 with ⟨rfl, _⟩ | ⟨g, cap, cur, rfl, _, hgg, _⟩
  · exact .inl rfl
  · right
    intro e
    simp only [Value.ownBlock] at e
    exact own_blk_ne hown (g := g) (t := 3) (cs := cur.toList) (by unfold Blk; simpa using hgg) (by decide) e

/-- How many are not found yet. -/
def zeros (l : List Int) : Nat := (l.filter (· == 0)).length
theorem zeros_set : ∀ (l : List Int) (i : Nat) (x : Int), i < l.length → l.getD i 0 = 0 → x ≠ 0 → zeros (l.set i x) + 1 = zeros l
  | [], i, _, h, _, _ => by simp at h
  | a :: l, 0, x, _, h, hx => by
    have ha : a = 0 := by simpa using h
    subst ha
    simp [zeros, hx]
  | a :: l, i + 1, x, h, h0, hx => by
    have ih := zeros_set l i x (by simpa using h) (by simpa using h0) hx
    by_cases ha : a = 0
    · subst ha; simp only [zeros, List.set_cons_succ] at ih ⊢; simp; omega
    · simp only [zeros, List.set_cons_succ] at ih ⊢; simp [ha]; omega

/-- A state of the walk, in memory and in numbers; z: how many are not found yet. -/
structure SkJ (W0 w : World) (M s gt gl gc go n : Nat) (E : Int → Int → Prop) (adj : Int → List Int) (time0 : Int → Int) (C : List (Int × Nat)) (z : Nat) (time low comp opn : List Int) (clock count : Int) : Prop where
  sk : Sk W0 w M s gt gl gc go n time low comp opn clock count
  tb : TB n E adj (lv time) (lv comp) opn clock count C
  tl : TL E adj (lv time) (lv low) opn C
  zs : zeros time = z
  zc : (z : Int) + clock = n
  cc : count + opn.length ≤ clock
  seen : ∀ x, Vx n x → time0 x ≠ 0 → lv time x ≠ 0

section
variable {W0 w w' : World} {M s gt gl gc go n z : Nat} {E : Int → Int → Prop} {adj : Int → List Int} {time0 : Int → Int} {C : List (Int × Nat)} {time low comp opn : List Int} {clock count : Int}

theorem SkJ.small (h : SkJ W0 w M s gt gl gc go n E adj time0 C z time low comp opn clock count) (hn : n ≤ 128) : 0 ≤ clock ∧ clock ≤ 128 ∧ opn.length ≤ 128 ∧ 0 ≤ count ∧ count ≤ 128 := by
  have h1 := h.zc
  have h2 := h.cc
  have h3 := h.tb.clk
  have h4 := h.tb.cnt
  refine ⟨h3, by omega, by omega, h4, by omega⟩

theorem SkJ.other (h : SkJ W0 w M s gt gl gc go n E adj time0 C z time low comp opn clock count) (hs : Sk W0 w' M s gt gl gc go n time low comp opn clock count) : SkJ W0 w' M s gt gl gc go n E adj time0 C z time low comp opn clock count :=
  ⟨hs, h.tb, h.tl, h.zs, h.zc, h.cc, h.seen⟩

/-- A new predicate is entered. -/
theorem SkJ.push {C0 : List (Int × Nat)} {q : Int} (h : SkJ W0 w M s gt gl gc go n E adj time0 C z time low comp opn clock count) (u : Under E adj (lv time) opn C C0 q) (hq : Vx n q) (hq0 : lv time q = 0)
    (hs : Sk W0 w' M s gt gl gc go n (time.set q.toNat (clock + 1)) (low.set q.toNat (clock + 1)) comp (opn ++ [q]) (clock + 1) count) :
    ∃ z', z = z' + 1 ∧ SkJ W0 w' M s gt gl gc go n E adj time0 ((q, 0) :: C0) z' (time.set q.toNat (clock + 1)) (low.set q.toNat (clock + 1)) comp (opn ++ [q]) (clock + 1) count ∧ lv (time.set q.toNat (clock + 1)) q ≠ 0 := by
  have hck := h.tb.clk
  have hl1 := h.sk.len.1
  have hl2 := h.sk.len.2.1
  have et : ∀ x, Vx n x → lv (time.set q.toNat (clock + 1)) x = if x = q then clock + 1 else lv time x := fun x hx => set_lv hq.1 hx.1 (by rw [hl1]; exact hq.2) _
  have el : ∀ x, Vx n x → lv (low.set q.toNat (clock + 1)) x = if x = q then clock + 1 else lv low x := fun x hx => set_lv hq.1 hx.1 (by rw [hl2]; exact hq.2) _
  have hz := zeros_set time q.toNat (clock + 1) (by have := hq.2; have := hq.1; omega) hq0 (by omega)
  have hzs := h.zs
  have hzc := h.zc
  have hcc := h.cc
  refine ⟨zeros (time.set q.toNat (clock + 1)), by omega, ⟨hs, h.tb.push u hq hq0 et, h.tl.push h.tb u hq hq0 et el, rfl, by omega, by simp; omega, fun x hx h0 => ?_⟩, ?_⟩
  · rw [et x hx]
    by_cases e : x = q
    · rw [if_pos e]; omega
    · rw [if_neg e]; exact h.seen x hx h0
  · rw [et q hq, if_pos rfl]; omega
end

theorem Try.info81 : (Try.prog.info? 81).map (fun i => (i.zero, i.size, i.bytes)) = some (some (.agg #[.int .i64 0, .int .i64 0]), 2, 16) := by kernel_rfl

theorem pair_one (a b : Int) : ∀ u ∈ [Value.int .i64 a, .int .i64 b], u.oneCell' = true := by
  intro u hu
  simp only [List.mem_cons, List.not_mem_nil, or_false] at hu
  rcases hu with rfl | rfl <;> rfl

theorem TL.congr {n : Int} {E : Int → Int → Prop} {adj : Int → List Int} {τ l l' : Int → Int} {opn : List Int} {C : List (Int × Nat)} (h : TL E adj τ l opn C) (hV : ∀ c ∈ C, Vx n c.1) (he : ∀ x, Vx n x → l' x = l x) : TL E adj τ l' opn C :=
  ⟨fun c hc => by rw [he _ (hV c hc)]; exact h.lows c hc, fun c hc w hw hle hseg x hx hp => by rw [he _ (hV c hc)]; exact h.lowc c hc w hw hle hseg x hx hp⟩

/-- A predicate is left: what comes of the walk's state. -/
theorem leave_any {W0 w : World} {M s gt gl gc go n z : Nat} {E : Int → Int → Prop} {adj : Int → List Int} {time0 : Int → Int} {v : Int} {rest : List (Int × Nat)} {time low comp opn : List Int} {clock count : Int}
    (h : SkJ W0 w M s gt gl gc go n E adj time0 ((v, (adj v).length) :: rest) z time low comp opn clock count) (hn : n ≤ 128) :
    Calls Try.prog 59 #[.pointer (some ⟨s, 0, none⟩), .int .i64 v] w fun e w' => e = .returned (.tuple #[]) ∧ Fr [s, gt, gl, gc] w w' ∧ ∃ comp2 opn2 count2, Sk W0 w' M s gt gl gc go n time low comp2 opn2 clock count2 ∧
      TB n E adj (lv time) (lv comp2) opn2 clock count2 rest ∧ (∀ u j rest', rest = (u, j) :: rest' → ∀ l' : Int → Int, (∀ x, Vx n x → l' x = if x = u then min (lv low u) (lv low v) else lv low x) → TL E adj (lv time) l' opn2 rest) ∧ count2 + opn2.length ≤ clock := by
  have hv : Vx n v := h.tb.oV v (h.tb.cgray (v, (adj v).length) (by simp))
  have hsm := h.small hn
  by_cases heq : lv low v = lv time v
  · obtain ⟨pre, post, ho, hnp, hpop⟩ := TB.pop_scc h.tb h.tl heq
    subst ho
    refine (leave_yes pre post v h.sk hv.1 hv.2 heq (fun x hx => h.tb.oV x (by simp [hx])) hnp ⟨hsm.2.2.2.1, by omega⟩ (by omega)).mono ?_
    rintro e w' ⟨rfl, hf, comp', hs, hk⟩
    obtain ⟨h1, h2⟩ := hpop (lv comp') (fun x hx => hk x hx.1)
    refine ⟨rfl, hf, comp', pre, count + 1, hs, h1, fun u j rest' e l' hl => ?_, ?_⟩
    · refine h2.congr (n := n) (fun c hc => h1.oV c.1 (h1.cgray c hc)) (fun x hx => ?_)
      rw [hl x hx]
      by_cases hxu : x = u
      · subst hxu
        rw [if_pos rfl]
        have hlt := h.tb.below_top (x, j) (by rw [e]; simp)
        have hlo := (h.tl.lows (x, j) (by rw [e]; simp)).1
        simp only at hlt hlo
        omega
      · rw [if_neg hxu]
    · have := h.cc
      simp at this ⊢; omega
  · refine (leave_no h.sk v hv.1 hv.2 heq).mono ?_
    rintro e w' ⟨rfl, hf, hs⟩
    obtain ⟨u, j, rest', e, h1, h2⟩ := TB.pop_low (l' := lv low) h.tb h.tl heq
    refine ⟨rfl, hf, comp, opn, count, hs, h1, fun u' j' rest'' e' l' hl => ?_, h.cc⟩
    obtain ⟨u2, j2, rest2, e2, _, h3⟩ := TB.pop_low (l' := l') h.tb h.tl heq
    rw [e'] at e2
    injection e2 with e2 _
    injection e2 with e2 _
    subst e2
    exact h3 hl

/-- What a predicate's edges read as. -/
theorem SkJ.out {W0 w : World} {M s gt gl gc go n z : Nat} {E : Int → Int → Prop} {adj : Int → List Int} {time0 : Int → Int} {C : List (Int × Nat)} {time low comp opn : List Int} {clock count : Int}
    (h : SkJ W0 w M s gt gl gc go n E adj time0 C z time low comp opn clock count) (hA : AdjAt W0 M go [s, gt, gl, gc] n adj) {v : Int} (h0 : 0 ≤ v) (hn : v < n) :
    ∃ A c, w.cell? ⟨go, v.toNat, none⟩ = some (.slice A (adj v).length c) ∧ (adj v).length ≤ 9223372036854775807 ∧ (0 < (adj v).length → ∃ b o, A = some ⟨b, o, none⟩ ∧ ∀ j u, (adj v)[j]? = some u → w.cell? ⟨b, o + j, none⟩ = some (.int .i64 u)) := by
  obtain ⟨A, c, h1, h2, h3⟩ := (hA.keep h.sk.only).2.2 v h0 hn
  exact ⟨A, c, h1, h2, fun hl => by obtain ⟨b, o, e, _, _, hc⟩ := h3 hl; exact ⟨b, o, e, hc⟩⟩

section
variable {W0 w w' : World} {M s gt gl gc go n z : Nat} {E : Int → Int → Prop} {adj : Int → List Int} {time0 : Int → Int} {C : List (Int × Nat)} {time low comp opn : List Int} {clock count : Int}
/-- An open one is seen. -/
theorem SkJ.see {v q x : Int} {i : Nat} {rest : List (Int × Nat)} (h : SkJ W0 w M s gt gl gc go n E adj time0 ((v, i) :: rest) z time low comp opn clock count) (hs : Sk W0 w' M s gt gl gc go n time low comp opn clock count)
    (hq : (adj v)[i]? = some q) (hq0 : lv time q ≠ 0) (hqo : q ∈ opn) (hx : x = min (lv low v) (lv time q)) :
    SkJ W0 (w'.setCell ⟨gl, v.toNat, none⟩ (.int .i64 x)).drew M s gt gl gc go n E adj time0 ((v, i + 1) :: rest) z time (low.set v.toNat x) comp opn clock count := by
  have hv : Vx n v := h.tb.oV v (h.tb.cgray (v, i) (by simp))
  refine ⟨(hs.set_low v.toNat x).drew, h.tb.skip hq hq0, h.tl.see h.tb hq hqo (fun y hy => ?_), h.zs, h.zc, h.cc, h.seen⟩
  rw [← hx]
  exact set_lv hv.1 hy.1 (by rw [h.sk.len.2.1]; exact hv.2) x

/-- The one below takes the low of what was left. -/
theorem SkJ.took {u x lv0 : Int} {j : Nat} {rest : List (Int × Nat)} {comp2 opn2 : List Int} {count2 : Int} (h : SkJ W0 w M s gt gl gc go n E adj time0 C z time low comp opn clock count) (hs : Sk W0 w' M s gt gl gc go n time low comp2 opn2 clock count2)
    (htb : TB n E adj (lv time) (lv comp2) opn2 clock count2 ((u, j) :: rest)) (htl : ∀ l' : Int → Int, (∀ x, Vx n x → l' x = if x = u then min (lv low u) lv0 else lv low x) → TL E adj (lv time) l' opn2 ((u, j) :: rest))
    (hcc : count2 + opn2.length ≤ clock) (hx : x = min (lv low u) lv0) :
    SkJ W0 (w'.setCell ⟨gl, u.toNat, none⟩ (.int .i64 x)).drew M s gt gl gc go n E adj time0 ((u, j) :: rest) z time (low.set u.toNat x) comp2 opn2 clock count2 := by
  have hv : Vx n u := htb.oV u (htb.cgray (u, j) (by simp))
  refine ⟨(hs.set_low u.toNat x).drew, htb, htl _ (fun y hy => ?_), h.zs, h.zc, hcc, h.seen⟩
  rw [← hx]
  exact set_lv hv.1 hy.1 (by rw [h.sk.len.2.1]; exact hv.2) x

theorem own_low {base k i : Nat} {v : Value} {xs : List Value} {x : Int} (hs : Sk W0 w M s gt gl gc go n time low comp opn clock count) (h : w.ownsRow M 81 2 v k xs) : (w.setCell ⟨gl, i, none⟩ (.int .i64 x)).drew.ownsRow M 81 2 v k xs := by
  have := base
  exact own_fr h (((Fr.refl [s, gt, gl, gc] w).setCell (p := ⟨gl, i, none⟩) (.inl (by simp)) (.int .i64 x)).drew) (by have := hs.lt; intro k hk; simp at hk; omega)
end

theorem fcells_one (p : Int) (i : Nat) : fcells [(p, i)] = [.int .i64 p, .int .i64 (i : Int)] := rfl

set_option maxRecDepth 20000 in
set_option maxHeartbeats 4000000 in
theorem seek_any (W0 w : World) (M s gt gl gc go n z : Nat) (time low comp opn : List Int) (clock count : Int) (E : Int → Int → Prop) (adj : Int → List Int) (time0 : Int → Int)
    (h : SkJ W0 w M s gt gl gc go n E adj time0 [] z time low comp opn clock count) (hA : AdjAt W0 M go [s, gt, gl, gc] n adj) (hn : n ≤ 128)
    (p : Int) (h0 : 0 ≤ p) (hp : p < n) (hpt : lv time p = 0) :
    Calls Try.prog 57 #[.pointer (some ⟨s, 0, none⟩), .int .i64 p] w fun e w' => e = .returned (.tuple #[]) ∧ ∃ z' time' low' comp' opn' clock' count',
      SkJ W0 w' M s gt gl gc go n E adj time0 [] z' time' low' comp' opn' clock' count' ∧ lv time' p ≠ 0 := by
  obtain ⟨i0, hi, hz0, hz1, hz2⟩ := info_parts Try.info81
  have HH := Lib.hid h
  have HA := Lib.hid hA
  have HP := Lib.hid hpt
  clear h hA hpt
  go_enter Try.func57, Try.ntmps57
  go_step3
  go_wp2_with fail
  refine (enter_any W0 _ M s gt gl gc go n time low comp opn clock count HH.out.sk p h0 hp (HH.out.small hn).1 (by have := (HH.out.small hn).2.1; omega) (by have := (HH.out.small hn).2.2.1; omega)).mono ?_
  rintro e w1 ⟨rfl, hfr, hs1⟩
  have HJ := Lib.hid (HH.out.push (Under.root HH.out.tb p) ⟨h0, hp⟩ HP.out hs1)
  clear hfr hs1
  go_wp2
  go_step3
  go_wp2
  have HO : Hid ((w1.alloc (.cells #[.int .i64 p, .int .i64 0] 81)).ownsRow M 81 2 (.slice (some ⟨w1.heap.size, 0, none⟩) 1 1) 1 (fcells [(p, 0)])) :=
    Lib.hid (own_mk (cur := [.int .i64 p, .int .i64 0]) (by obtain ⟨z', _, hj, _⟩ := HJ.out; exact hj.sk.size) (Blk.new w1 81 _) (Nat.le_refl _) (by unfold maxLen; omega) rfl rfl rfl)
  obtain ⟨z', hz, hj, hpt⟩ := HJ.out
  have HJ := Lib.hid (hj.other (hj.sk.alloc (.cells #[.int .i64 p, .int .i64 0] 81)))
  have HZ := Lib.hid hz
  have HP := Lib.hid hpt
  clear hj hpt hz
  generalize World.alloc _ _ = w2 at *
  go_loopg [4] (2 * z' + 1) (fun gk v wr => ∃ (C : List (Int × Nat)) (z : Nat) (time low comp opn : List Int) (clock count : Int), (gk = 2 * z + C.length ∧ z + C.length ≤ n) ∧ SkJ W0 wr M s gt gl gc go n E adj time0 C z time low comp opn clock count ∧ lv time p ≠ 0 ∧
    wr.ownsRow M 81 2 v C.length (fcells C))
  case atStart => exact ⟨_, _, _, _, _, _, _, _, ⟨rfl, by have := HH.out.zc; have := HH.out.tb.clk; have := HZ.out; simp; omega⟩, HJ.out, HP.out, HO.out⟩
  case round =>
    obtain ⟨C, z1, time1, low1, comp1, opn1, clock1, count1, hgk, hj, hp1, hown⟩ := hrel
    have HG := Lib.hid hgk
    have HJ1 := Lib.hid hj
    have HP1 := Lib.hid hp1
    have HO1 := Lib.hid hown
    clear hgk hj hp1 hown HJ HP HO HZ
    match C with
    | [] =>
      have HO2 : Hid (wr.ownsRow M 81 2 u4 0 []) := HO1
      clear HO1 HG
      obtain ⟨A, c, rfl, _⟩ := own_slice HO2.out
      clear HO2
      go_wp2
      rw [Exit.noGoto_normal]
      go_end0
      exact ⟨rfl, _, _, _, _, _, _, _, HJ1.out, HP1.out⟩
    | (v, i) :: rest =>
      have HO1 : Hid (wr.ownsRow M 81 2 u4 (rest.length + 1) (fcells ((v, i) :: rest))) := HO1
      obtain ⟨g, cap, cur, rfl, _⟩ := own_blk HO1.out (by omega)
      have HG : Hid (gk = 2 * z1 + (rest.length + 1) ∧ z1 + (rest.length + 1) ≤ n) := HG
      have HT := Lib.hid (own_top HO1.out)
      have hv : Vx n v := HJ1.out.tb.oV v (HJ1.out.tb.cgray (v,i) (by simp))
      obtain ⟨v0, vn⟩ := hv
      have hrl : rest.length + 1 ≤ 128 := by have := HG.out.2; omega
      have hcap := HT.out.2.2.2.1
      have hcm := HT.out.2.2.2.2.1
      have hglt := HT.out.2.1
      go_wp2
      go_loopg [4] ((adj v).length - i) (fun gk v4 wr => ∃ (i : Nat) (low1 : List Int), v4 = .slice (some ⟨g, 0, none⟩) (rest.length + 1) cap ∧ gk = (adj v).length - i ∧ SkJ W0 wr M s gt gl gc go n E adj time0 ((v, i) :: rest) z1 time1 low1 comp1 opn1 clock1 count1 ∧
        wr.ownsRow M 81 2 (.slice (some ⟨g, 0, none⟩) (rest.length + 1) cap) (rest.length + 1) (fcells ((v, i) :: rest)))
      case atStart => exact ⟨i, low1, rfl, rfl, HJ1.out, HO1.out⟩
      case round =>
        clear HJ1 HO1 HT hglt
        obtain ⟨i, low1, rfl, hgk, hj, hown⟩ := hrel
        have HG2 := Lib.hid hgk
        have HJ1 := Lib.hid hj
        have HT := Lib.hid (own_top hown)
        have HOi := Lib.hid hown
        clear hgk hj hown
        have hglt := HT.out.2.1
        obtain ⟨A, c, ho, hol, hoc⟩ := HJ1.out.out HA.out v0 vn
        have HC := Lib.hid hoc
        clear hoc
        have f0 := HJ1.out.sk.f0
        have t0 := HT.out.2.2.2.2.2.1
        have t1 := HT.out.2.2.2.2.2.2.1
        have hil : i ≤ (adj v).length := HJ1.out.tb.cidx (v, i) (by simp)
        by_cases hi' : i < (adj v).length
        · have hi2 : (i : Int) < ((adj v).length : Int) := by omega
          have hq := List.getElem?_eq_getElem hi'
          generalize (adj v)[i] = q at hq
          obtain ⟨b, o, rfl, hcs⟩ := HC.out (by omega)
          have oc := hcs i q hq
          have HQ := Lib.hid hq
          clear hcs hq
          go_wp2
          go_quiet (fail)
          go_wp2
          revert nq
          intro ka
          go_quiet (fail)
          have HJ3 := Lib.hid (HJ1.out.other ((HJ1.out.sk.drewN ka).drewN nq))
          have HO3 := Lib.hid (own_drewN (own_drewN HOi.out ka) nq)
          clear ho oc f0 t0 t1 hi2 HJ1 HOi HT hglt HC
          generalize World.drewN (World.drewN _ _) _ = w3 at *
          have HT := Lib.hid (own_top HO3.out)
          have hglt := HT.out.2.1
          have t1 := HT.out.2.2.2.2.2.2.1
          have zf : w3.frozen? ⟨g, rest.length * 2 + 1, none⟩ = false := by obtain ⟨cur, hb⟩ := HT.out.2.2.1; exact hb.frozen _
          have hqV : Vx n q := by
            have h1 := (HJ3.out.tb.hadj v q ⟨v0, vn⟩).1 (List.mem_of_getElem? HQ.out)
            exact HJ3.out.tb.eV v q ⟨v0, vn⟩ h1
          obtain ⟨q0, qn⟩ := hqV
          have hMg := HT.out.1
          have hlt := HJ3.out.sk.lt
          have hsg : s ≠ g := by omega
          have htg : gt ≠ g := by omega
          have hcg : gc ≠ g := by omega
          have f1 := HJ3.out.sk.f1
          have f3 := HJ3.out.sk.f3
          have ct := HJ3.out.sk.ct q0 qn
          have cc := HJ3.out.sk.cc q0 qn
          have HS4 : Hid (Sk W0 (w3.setCell ⟨g, rest.length * 2 + 1, none⟩ (.int .i64 ((i : Int) + 1))) M s gt gl gc go n time1 low1 comp1 opn1 clock1 count1) := by
            obtain ⟨cur, hb⟩ := HT.out.2.2.1
            exact HJ3.out.sk.set_blk hb (by decide) hMg _ _
          have HO4 : Hid ((w3.setCell ⟨g, rest.length * 2 + 1, none⟩ (.int .i64 ((i : Int) + 1))).ownsRow M 81 2 (.slice (some ⟨g, 0, none⟩) (rest.length + 1) cap) (rest.length + 1) (fcells ((v, i + 1) :: rest))) := by
            have := HT.out.2.2.2.2.2.2.2.2 (i + 1)
            rw [Int.natCast_add] at this
            exact this
          clear hlt
          by_cases hqz : lv time1 q = 0
          · have hqz2 : (lv time1 q == 0) = true := by simpa using hqz
            have HZ := Lib.hid hqz
            clear hqz
            go_wp2_with fail
            clear f1 f3 ct cc t1 zf hsg htg hcg HT hglt
            generalize World.setCell _ _ _ = w4 at *
            refine (enter_any W0 w4 M s gt gl gc go n time1 low1 comp1 opn1 clock1 count1 HS4.out q q0 qn (HJ3.out.small hn).1 (by have := (HJ3.out.small hn).2.1; omega) (by have := (HJ3.out.small hn).2.2.1; omega)).mono ?_
            rintro e w5 ⟨rfl, hfr, hs5⟩
            have HJ5 := Lib.hid (HJ3.out.push (Under.child HJ3.out.tb HQ.out) ⟨q0, qn⟩ HZ.out hs5)
            have hM5 : M ≤ w5.heap.size := hs5.size
            have HO5 : Hid (w5.ownsRow M 81 2 (.slice (some ⟨g, 0, none⟩) (rest.length + 1) cap) (rest.length + 1) (fcells ((v, i + 1) :: rest))) :=
              Lib.hid (own_fr HO4.out hfr (by have := hs5.lt; intro k hk; simp at hk; omega))
            clear hfr hs5 HS4 HO4
            have hown := HO5.out
            go_wp2_with (at_builtin; go_must (refine wpList_append_own _ rfl _ _ 83 rfl M 81 i0 _ 2 16 Try.underlying83 hi hz0 hz1 hz2 rfl (by decide) _ _ _ rfl (hown.alloc _) ⟨w5.heap.size, 0, none⟩ 1 1 [.int .i64 q, .int .i64 0] rfl rfl (fun j u h => new_cells _ _ _ j u h) (pair_one _ _) (by unfold maxLen; omega) (by omega) (by simp; omega) ?_))
            intro v6 w6 hown6 hg6 _
            obtain ⟨z2, hz2', hj5, hseen⟩ := HJ5.out
            have HJ6 := Lib.hid (hj5.other ((hj5.sk.alloc (.cells #[.int .i64 q, .int .i64 0] 81)).grown81 (hown.alloc _) hg6))
            have HZ2 := Lib.hid hz2'
            have HP6 : Hid (lv (time1.set q.toNat (clock1 + 1)) p ≠ 0) := by
              by_cases e : p = q
              · rw [e]; exact hseen
              · have h2 := set_lv (l := time1) (i := q) (j := p) q0 h0 (by have := HJ3.out.sk.len.1; omega) (clock1 + 1)
                rw [if_neg e] at h2
                exact fun h3 => HP1.out (h2 ▸ h3)
            have HO6 : Hid (w6.ownsRow M 81 2 v6 ((q, 0) :: (v, i + 1) :: rest).length (fcells ((q, 0) :: (v, i + 1) :: rest))) := by
              rw [fcells_cons]; exact hown6
            clear hown6 hg6 hown hz2' hj5 hseen HO5
            go_wp2
            go_roundg (2 * z2 + (rest.length + 2))
            case measure => have := HG.out; have := HZ2.out; omega
            case rel => exact ⟨_, _, _, _, _, _, _, _, ⟨rfl, by have := HG.out; have := HZ2.out; simp; omega⟩, HJ6.out, HP6.out, HO6.out⟩
          · have hqz2 : (lv time1 q == 0) = false := by simpa using hqz
            have HZ := Lib.hid hqz
            clear hqz
            by_cases hk : lv comp1 q < 0
            · have HK := Lib.hid hk
              go_wp2
              clear f1 f3 ct cc t1 zf hsg htg hcg HT hglt hk
              generalize World.setCell _ _ _ = w4 at *
              have f1 := HS4.out.f1
              have f2 := HS4.out.f2
              have ct := HS4.out.ct q0 qn
              have cl := HS4.out.cl v0 vn
              have zl := HS4.out.blow.frozen v.toNat
              have t0 := (own_top HO4.out).2.2.2.2.2.1
              have hglt := (own_top HO4.out).2.1
              have hqo : q ∈ opn1 := (HJ3.out.tb.oiff q ⟨q0, qn⟩).2 ⟨HZ.out, HK.out⟩
              have HQO := Lib.hid hqo
              clear hqo
              go_region
              go_wp2
              all_goals
                go_roundg ((adj v).length - (i + 1))
                case measure => have := HG2.out; omega
                case rel => exact ⟨i + 1, _, rfl, rfl, HJ3.out.see HS4.out HQ.out HZ.out HQO.out (by omega), own_low (base := 0) HS4.out HO4.out⟩
            · go_wp2
              clear f1 f3 ct cc t1 zf hsg htg hcg HT hglt
              generalize World.setCell _ _ _ = w4 at *
              go_roundg ((adj v).length - (i + 1))
              case measure => have := HG2.out; omega
              case rel =>
                refine ⟨i + 1, low1, rfl, rfl, ⟨HS4.out, HJ3.out.tb.skip HQ.out HZ.out, HJ3.out.tl.skip HQ.out (fun hm => ?_), HJ3.out.zs, HJ3.out.zc, HJ3.out.cc, HJ3.out.seen⟩, HO4.out⟩
                have := ((HJ3.out.tb.oiff q ⟨q0, qn⟩).1 hm).2
                omega
        · have hie : i = (adj v).length := by omega
          subst hie
          go_wp2
          go_quiet (fail)
          have HJ3 := Lib.hid (HJ1.out.other (HJ1.out.sk.drewN nq))
          have HO3 := Lib.hid (own_drewN HOi.out nq)
          clear ho f0 t0 t1 HJ1 HOi HT hglt HC
          generalize World.drewN _ _ = w3 at *
          have HT := Lib.hid (own_top HO3.out)
          have hglt := HT.out.2.1
          have t0 := HT.out.2.2.2.2.2.1
          go_wp2_with fail
          refine (leave_any HJ3.out hn).mono ?_
          rintro e w4 ⟨rfl, hfr, comp2, opn2, count2, hs4, htb, htl, hcc⟩
          have HO4 : Hid (w4.ownsRow M 81 2 (.slice (some ⟨g, 0, none⟩) rest.length cap) rest.length (fcells rest)) := Lib.hid (own_fr HT.out.2.2.2.2.2.2.2.1 hfr (by have := hs4.lt; intro k hk; simp at hk; omega))
          have HS4 := Lib.hid hs4
          have HTB := Lib.hid htb
          have HTL := Lib.hid htl
          have HCC := Lib.hid hcc
          clear hfr hs4 htb htl hcc HT hglt t0
          match rest with
          | [] =>
            go_wp2
            go_roundg (2 * z1)
            case measure => have := HG.out; omega
            case rel => exact ⟨[], z1, time1, low1, comp2, opn2, clock1, count2, ⟨rfl, by have := HG.out; simp; omega⟩, ⟨HS4.out, HTB.out, ⟨by simp, by simp⟩, HJ3.out.zs, HJ3.out.zc, HCC.out, HJ3.out.seen⟩, HP1.out, HO4.out⟩
          | (u, j) :: rest' =>
            have hrl : rest'.length + 1 + 1 ≤ 128 := hrl
            have hcap : rest'.length + 1 + 1 ≤ cap := hcap
            have HT := Lib.hid (own_top HO4.out)
            have t0 := HT.out.2.2.2.2.2.1
            have hglt := HT.out.2.1
            have hu : Vx n u := HTB.out.oV u (HTB.out.cgray (u, j) (by simp))
            obtain ⟨u0, un⟩ := hu
            go_wp2
            have f2 := HS4.out.f2
            have cl := HS4.out.cl v0 vn
            have cu := HS4.out.cl u0 un
            have zl := HS4.out.blow.frozen u.toNat
            go_region
            go_wp2
            all_goals
              go_roundg (2 * z1 + (rest'.length + 1))
              case measure => have HG := HG.out; simp only [List.length_cons] at HG; omega
              case rel =>
                have HG := HG.out
                exact ⟨(u, j) :: rest', z1, time1, _, comp2, opn2, clock1, count2, ⟨rfl, by simp only [List.length_cons] at HG ⊢; omega⟩, HJ3.out.took HS4.out HTB.out (fun l' hl => HTL.out u j rest' rfl l' hl) HCC.out (by omega), HP1.out, own_low (base := 0) HS4.out HO4.out⟩
end Go.Proofs.Ytefpglaipnnggaa
