/- The law of the components: lemmas. -/
import Derived.Test.YtefpglaipnnggaaE8
import Derived.Test.YtefpglaipnnggaaA7
import Derived.Laws.AppendOwnNone
namespace Go.Proofs.Ytefpglaipnnggaa
open Go.RowKit

theorem Steps.lists {n : Nat} {es : List E} {out : List (List Int)} (h : Steps n es out) : ∀ l ∈ out, ∃ p, Vx n p ∧ l = cls n (Eg es) p := by
  induction h with
  | nil => simp
  | @snoc out p _ h2 _ ih =>
    intro l hl
    rcases List.mem_append.1 hl with hl | hl
    · exact ih l hl
    · exact ⟨p, h2.1, List.mem_singleton.1 hl⟩
theorem Steps.count {n : Nat} {es : List E} {out : List (List Int)} (h : Steps n es out) : out.length + untold n out ≤ n := by
  induction h with
  | nil =>
    have h : untold n [] ≤ (ps n).length := List.length_filter_le _ _
    rw [ps_length] at h; simpa using h
  | @snoc out p _ h2 _ ih =>
    have := untold_lt (l := cls n (Eg es) p) h2.1 h2.2.1 (mem_cls.2 ⟨h2.1, Scc.refl _⟩)
    rw [List.length_append, List.length_singleton]; omega
theorem cls_len (n : Nat) (E : Int → Int → Prop) (p : Int) : (cls n E p).length ≤ n := by
  have h : (cls n E p).length ≤ (ps n).length := List.length_filter_le _ _
  rwa [ps_length] at h

/-- The components' answer: the lists, the error. -/
def Comps (x : Int) (es : List E) (ls : List (List Int)) (code : Int) : Prop := (∃ n : Nat, x = n ∧ Fits n es ∧ Done n es ls ∧ code = 0) ∨ (¬ Fits x es ∧ ls = [] ∧ code = 2)
theorem Comps.unique {x : Int} {es : List E} {ls ls' : List (List Int)} {c c' : Int} (h : Comps x es ls c) (h' : Comps x es ls' c') : ls = ls' ∧ c = c' := by
  rcases h with ⟨n, rfl, h1, h2, h3⟩ | ⟨h1, h2, h3⟩ <;> rcases h' with ⟨n', e, k1, k2, k3⟩ | ⟨k1, k2, k3⟩
  · have : n = n' := by omega
    subst this
    exact ⟨h2.unique k2, by omega⟩
  · exact absurd h1 k1
  · rw [e] at h1; exact absurd k1 h1
  · exact ⟨h2.trans k2.symm, by omega⟩
theorem Comps.small {x : Int} {es : List E} {ls : List (List Int)} {c : Int} (h : Comps x es ls c) : ls.length ≤ 128 ∧ ∀ l ∈ ls, 0 < l.length ∧ l.length ≤ 128 := by
  rcases h with ⟨n, rfl, h1, h2, _⟩ | ⟨_, rfl, _⟩
  · have hn : n ≤ 128 := by have := h1.2.1; omega
    refine ⟨by have := h2.1.count; omega, fun l hl => ?_⟩
    obtain ⟨p, hp, rfl⟩ := h2.1.lists l hl
    exact ⟨List.length_pos_of_mem (mem_cls.2 ⟨hp, Scc.refl _⟩), Nat.le_trans (cls_len _ _ _) hn⟩
  · exact ⟨by simp, by simp⟩

theorem LL.nil (w : World) (U : Nat) : LL w U (.slice none 0 0) [] [] := ⟨World.ownsRow_nil _ _ _ _, fun i hi => by simp at hi, fun i j hi => by simp at hi⟩
theorem progComps_all (A : Option Addr) (m c : Nat) (x : Int) (es : List E) (w : World) (hr : Rd w w.heap.size 4 A m (ecells es)) (hreach : m * 32 ≤ 140737488355328) :
    Calls Try.prog 29 #[.int .i64 x, .slice A m c] w fun e w' => ∃ v vs ls code, e = .returned (.tuple #[v, .int .i64 code]) ∧ Below w.heap.size w w' ∧ LL w' w.heap.size v vs ls ∧ Comps x es ls code := by
  by_cases hf : Fits x es
  · obtain ⟨n, rfl⟩ : ∃ n : Nat, x = n := ⟨x.toNat, by have := hf.1; omega⟩
    refine (progComps_any A m c n es w hr hf hreach).mono ?_
    rintro e w' ⟨v, vs, ls, rfl, h1, h2, h3⟩
    exact ⟨v, vs, ls, 0, rfl, h1, h2, .inl ⟨n, rfl, hf, h3, rfl⟩⟩
  · refine (progComps_no A m c x es w hr hf).mono ?_
    rintro e w' ⟨rfl, h1⟩
    exact ⟨_, [], [], 2, rfl, h1, LL.nil _ _, .inr ⟨hf, rfl, rfl⟩⟩
theorem refComps_all (A : Option Addr) (m c : Nat) (x : Int) (es : List E) (w : World) (hr : Rd w w.heap.size 4 A m (ecells es)) :
    Calls Try.prog 28 #[.int .i64 x, .slice A m c] w fun e w' => ∃ v vs ls code, e = .returned (.tuple #[v, .int .i64 code]) ∧ Below w.heap.size w w' ∧ LL w' w.heap.size v vs ls ∧ Comps x es ls code := by
  by_cases hf : Fits x es
  · obtain ⟨n, rfl⟩ : ∃ n : Nat, x = n := ⟨x.toNat, by have := hf.1; omega⟩
    refine (refComps_any A m c n es w hr hf).mono ?_
    rintro e w' ⟨v, vs, ls, rfl, h1, h2, h3⟩
    exact ⟨v, vs, ls, 0, rfl, h1, h2, .inl ⟨n, rfl, hf, h3, rfl⟩⟩
  · refine (refComps_no A m c x es w hr hf).mono ?_
    rintro e w' ⟨rfl, rfl⟩
    exact ⟨_, [], [], 2, rfl, Below.refl _ _, LL.nil _ _, .inr ⟨hf, rfl, rfl⟩⟩

/-- The lists of a list of lists, without its own row. -/
structure LS (w : World) (U : Nat) (vs : List Value) (ls : List (List Int)) : Prop where
  len : vs.length = ls.length
  own : ∀ i, (h : i < vs.length) → (h2 : i < ls.length) → w.ownsRow U 3 1 vs[i] ls[i].length (icells ls[i])
  apart : ∀ i j, (hi : i < vs.length) → (hj : j < vs.length) → i ≠ j → vs[i].ownBlock = vs[j].ownBlock → vs[i].ownBlock = none
theorem LL.ls {w : World} {U : Nat} {v : Value} {vs : List Value} {ls : List (List Int)} (h : LL w U v vs ls) : LS w U vs ls := ⟨h.len, h.own, h.apart⟩
theorem LS.cat {w : World} {U : Nat} {vs vs' : List Value} {ls ls' : List (List Int)} (h : LS w U vs ls) (h' : LS w U vs' ls') (hne : ∀ i j, (hi : i < vs.length) → (hj : j < vs'.length) → ∀ q, vs[i].ownBlock = some q → vs'[j].ownBlock ≠ some q) : LS w U (vs ++ vs') (ls ++ ls') := by
  have hl := h.len
  have hl' := h'.len
  have key : ∀ i, (hi : i < (vs ++ vs').length) → (∃ h : i < vs.length, (vs ++ vs')[i] = vs[i]) ∨ (∃ h : i - vs.length < vs'.length, vs.length ≤ i ∧ (vs ++ vs')[i] = vs'[i - vs.length]) := fun i hi => by
    by_cases e : i < vs.length
    · exact .inl ⟨e, List.getElem_append_left e⟩
    · exact .inr ⟨by simp at hi; omega, by omega, List.getElem_append_right (by omega)⟩
  refine ⟨by simp [hl, hl'], fun i hi h2 => ?_, fun i j hi hj hij he => ?_⟩
  · rcases key i hi with ⟨h1, e1⟩ | ⟨h1, h3, e1⟩
    · have e2 : (ls ++ ls')[i] = ls[i]'(by omega) := List.getElem_append_left (by omega)
      rw [e1]; simp only [e2]; exact h.own i h1 (by omega)
    · have e2 : (ls ++ ls')[i] = ls'[i - vs.length]'(by omega) := by rw [List.getElem_append_right (by omega)]; simp only [hl]
      rw [e1]; simp only [e2]; exact h'.own _ h1 (by omega)
  · rcases key i hi with ⟨h1, e1⟩ | ⟨h1, h3, e1⟩ <;> rcases key j hj with ⟨k1, e2⟩ | ⟨k1, k3, e2⟩
    · rw [e1, e2] at he; rw [e1]; exact h.apart i j h1 k1 hij he
    · rw [e1, e2] at he
      rw [e1]
      cases hx : vs[i].ownBlock with
      | none => rfl
      | some q => rw [hx] at he; exact absurd he.symm (hne i _ h1 k1 q hx)
    · rw [e1, e2] at he
      rw [e1]
      cases hx : vs'[i - vs.length].ownBlock with
      | none => rfl
      | some q => rw [hx] at he; exact absurd hx (hne j _ k1 h1 q he.symm)
    · rw [e1, e2] at he; rw [e1]; exact h'.apart _ _ h1 k1 (by omega) he

theorem own_prefix {w : World} {R size n m g cap : Nat} {e : TypeId} {xs ys : List Value} (h : w.ownsRow R e size (.slice (some ⟨g, 0, none⟩) (n + m) cap) (n + m) (xs ++ ys)) (hl : xs.length = n * size) :
    w.ownsRow R e size (.slice (some ⟨g, 0, none⟩) n cap) n xs ∧ n + m ≤ cap ∧ cap ≤ maxLen := by
  rcases h.2 with ⟨h0, _⟩ | ⟨g', cap', cur, hv, hb, hg, hnc, hcm, hcs, ht⟩
  · cases h0
  · injection hv with hv1 _ hv3
    injection hv1 with hv1
    injection hv1 with hv1
    subst hv1 hv3
    refine ⟨⟨hl, .inr ⟨g, cap, cur, rfl, hb, hg, by omega, hcm, hcs, ?_⟩⟩, hnc, hcm⟩
    have h2 := congrArg (List.take (n * size)) ht
    rw [List.take_take, Nat.min_eq_left (Nat.mul_le_mul_right _ (Nat.le_add_right _ _)), ← hl, List.take_left] at h2
    rw [← hl]; exact h2
theorem own_frg {w w' : World} {R size n : Nat} {e : TypeId} {v : Value} {xs : List Value} (h : w.ownsRow R e size v n xs) (hf : Fr [] w w') (he : e ≠ 3) : w'.ownsRow R e size v n xs := by
  refine ⟨h.1, ?_⟩
  rcases h.2 with h2 | ⟨g, cap, cur, hv, hg, hc, r⟩
  · exact .inl h2
  · refine .inr ⟨g, cap, cur, hv, hg, ?_, r⟩
    have := hf.keep g e cur.toList (by simp) he (by unfold Blk; simpa using hc)
    unfold Blk at this; simpa using this
theorem own_nil0 {w : World} {R size n c : Nat} {e : TypeId} {A : Option Addr} {xs : List Value} (h : w.ownsRow R e size (.slice A n c) n xs) : A = none → c = 0 := by
  rcases h.2 with ⟨h0, _⟩ | ⟨g, cap, cur, hv, _⟩
  · intro _; injection h0
  · intro e; rw [e] at hv; cases hv
theorem Rd.news' {w : World} {B size : Nat} {ad : Addr} {n : Nat} {xs : List Value} (h : Rd w B size (some ad) n xs) : ∀ j u, xs[j]? = some u → w.cell? (ad.add j) = some u := by
  intro j u hu
  by_cases hn : 0 < n
  · obtain ⟨b, o, hA, hb, hc⟩ := h.2.2 hn
    injection hA with hA
    subst hA
    have hadd : (⟨b, o, none⟩ : Addr).add j = ⟨b, o + j, none⟩ := by unfold Addr.add; split <;> simp_all
    rw [hadd]; exact hc j u hu
  · have h1 := h.1
    have h0 : xs.length = 0 := by rw [h1]; obtain rfl : n = 0 := by omega
                                  simp
    have := (List.getElem?_eq_some_iff.1 hu).1
    omega
theorem wpList_append_all {P : Program} {w : World} {ops : Array Oper} {rest : List Oper} {o : Oper} {a : Act} {Q : Exit → Act → World → Prop} (hgd : o.guard = none) (s x : Operand) (t : TypeId)
    (ho : o.op = .call { callee := .builtin .append, args := #[s, x], argTypes := #[t, t] })
    (base : Nat) (e : TypeId) (i : TypeInfo) (z : Value) (size bytes : Nat) (ht : P.underlying t = some (.slice e)) (hi : P.info? e = some i) (hz : i.zero = some z)
    (hsize : i.size = size) (hby : i.bytes = bytes) (hzs : z.cells.size = size) (hsz : 0 < size)
    (v : Value) (n : Nat) (xs : List Value) (hs : a.eval s = v) (hown : w.ownsRow base e size v n xs)
    (A : Option Addr) (m c : Nat) (news : List Value) (hx : a.eval x = .slice A m c) (hA : A = none → c = 0) (hr : Rd w w.heap.size size A m news) (h1 : ∀ u ∈ news, u.oneCell' = true)
    (h63 : n + m ≤ maxLen) (hbytes : (n + m) * bytes ≤ 140737488355328) (hbase : base ≤ w.heap.size)
    (h : ∀ v' w', w'.ownsRow base e size v' (n + m) (xs ++ news) → w.grownBy w' v.ownBlock → wpList P ops Q rest (a.put o.dst v') w') : wpList P ops Q (o :: rest) a w := by
  cases A with
  | none =>
    obtain rfl : c = 0 := hA rfl
    obtain rfl : m = 0 := by
      rcases Nat.eq_zero_or_pos m with h | h
      · exact h
      · obtain ⟨b, o, h, _⟩ := hr.2.2 h; cases h
    obtain rfl : news = [] := List.eq_nil_of_length_eq_zero (by have := hr.1; omega)
    exact wpList_append_own_none hgd s x t ho base e i size ht hi v n xs hs hown hx (h v w (by simpa using hown) (World.grownBy.refl _ _))
  | some ad => exact wpList_append_own _ hgd s x t ho base e i z size bytes ht hi hz hsize hby hzs hsz v n xs hs hown ad m c news hx hr.1 hr.news' h1 h63 hbytes hbase fun v' w' h2 h3 _ => h v' w' h2 h3
theorem LS.one {w : World} {U : Nat} {vs : List Value} {ls : List (List Int)} (h : LS w U vs ls) : ∀ u ∈ vs, u.oneCell' = true := by
  intro u hu
  obtain ⟨i, hi, rfl⟩ := List.mem_iff_getElem.1 hu
  obtain ⟨A, c, e, _⟩ := own_slice (h.own i hi (by have := h.len; omega))
  rw [e]; rfl

/-- Three predicates, an edge from the first to the second: three components. -/
theorem three {ls : List (List Int)} {code : Int} (h : Comps 3 [⟨0, 1, false, 0⟩] ls code) : ls.length = 3 ∧ code = 0 := by
  have hEg : ∀ u x, Eg [⟨0, 1, false, 0⟩] u x → u = 0 ∧ x = 1 := by
    rintro u x ⟨e, he, h1, h2⟩
    rw [List.mem_singleton.1 he] at h1 h2
    exact ⟨h1.symm, h2.symm⟩
  have hR : ∀ u x, Reach (Eg [⟨0, 1, false, 0⟩]) u x → u = x ∨ (u = 0 ∧ x = 1) := by
    intro u x ⟨k, hk⟩
    cases k with
    | zero => exact .inl hk
    | succ k =>
      obtain ⟨y, h1, h2⟩ := hk
      obtain ⟨h3, h4⟩ := hEg u y h1
      cases k with
      | zero => cases h2; exact .inr ⟨h3, h4⟩
      | succ k =>
        obtain ⟨z, h5, _⟩ := h2
        have := (hEg y z h5).1
        omega
  have hS : ∀ u x, Scc (Eg [⟨0, 1, false, 0⟩]) u x → u = x := by
    intro u x ⟨h1, h2⟩
    rcases hR u x h1 with h | h
    · exact h
    · rcases hR x u h2 with k | k <;> omega
  have hf : Fits 3 [⟨0, 1, false, 0⟩] := ⟨by omega, by omega, fun e he => by rw [List.mem_singleton.1 he]; unfold okE; dsimp only; omega⟩
  rcases h with ⟨n, hn, _, h2, h3⟩ | ⟨h1, _, _⟩
  · obtain rfl : n = 3 := by omega
    refine ⟨?_, h3⟩
    have hcl : ∀ p, Vx (3 : Nat) p → cls 3 (Eg [⟨0, 1, false, 0⟩]) p = [p] := by
      intro p hp
      have hm : ∀ q, q ∈ cls 3 (Eg [⟨0, 1, false, 0⟩]) p ↔ q = p := fun q => by
        rw [mem_cls]
        exact ⟨fun h => (hS p q h.2).symm, fun h => by subst h; exact ⟨hp, Scc.refl _⟩⟩
      have hnd : (cls 3 (Eg [⟨0, 1, false, 0⟩]) p).Nodup := (List.Pairwise.filter _ (ps_sorted 3)).imp (fun h e => by omega)
      match hc : cls 3 (Eg [⟨0, 1, false, 0⟩]) p with
      | [] => have := (hm p).2 rfl; rw [hc] at this; cases this
      | [a] => have := (hm a).1 (by rw [hc]; simp); rw [this]
      | a :: b :: r =>
        have h1 := (hm a).1 (by rw [hc]; simp)
        have h2 := (hm b).1 (by rw [hc]; simp)
        rw [hc, h1, h2] at hnd
        simp at hnd
    have hrd : ∀ (out : List (List Int)) (p : Int), Vx (3 : Nat) p → ¬ Told out p → (p = 1 → Told out 0) → Ready 3 [⟨0, 1, false, 0⟩] (Told out) p := fun out p hp hn h0 => ⟨hp, hn, fun e he h1 _ => by
      rw [List.mem_singleton.1 he] at h1 ⊢
      exact h0 (hS 1 p h1).symm⟩
    have s0 : Steps 3 [⟨0, 1, false, 0⟩] ([] ++ [cls 3 (Eg [⟨0, 1, false, 0⟩]) 0]) := .snoc .nil (hrd _ _ ⟨by omega, by omega⟩ (by simp [Told]) (by omega)) (fun q hq => hq.1.1)
    rw [hcl 0 ⟨by omega, by omega⟩] at s0
    have s1 : Steps 3 [⟨0, 1, false, 0⟩] (([] ++ [[0]]) ++ [cls 3 (Eg [⟨0, 1, false, 0⟩]) 1]) := .snoc s0 (hrd _ _ ⟨by omega, by omega⟩ (by simp [Told]) (by simp [Told])) (fun q hq => by
      have h1 := hq.1.1
      have h2 : q ≠ 0 := fun e => hq.2.1 (by rw [e]; simp [Told])
      omega)
    rw [hcl 1 ⟨by omega, by omega⟩] at s1
    have s2 : Steps 3 [⟨0, 1, false, 0⟩] ((([] ++ [[0]]) ++ [[1]]) ++ [cls 3 (Eg [⟨0, 1, false, 0⟩]) 2]) := .snoc s1 (hrd _ _ ⟨by omega, by omega⟩ (by simp [Told]) (by omega)) (fun q hq => by
      have h1 := hq.1.1
      have h2 : q ≠ 0 := fun e => hq.2.1 (by rw [e]; simp [Told])
      have h3 : q ≠ 1 := fun e => hq.2.1 (by rw [e]; simp [Told])
      omega)
    rw [hcl 2 ⟨by omega, by omega⟩] at s2
    have hd : Done 3 [⟨0, 1, false, 0⟩] [[0], [1], [2]] := ⟨s2, fun v hv => by
      have h1 := hv.1
      have h2 := hv.2
      have : v = 0 ∨ v = 1 ∨ v = 2 := by omega
      simp [Told, this]⟩
    rw [h2.unique hd]; rfl
  · exact absurd hf h1
end Go.Proofs.Ytefpglaipnnggaa
