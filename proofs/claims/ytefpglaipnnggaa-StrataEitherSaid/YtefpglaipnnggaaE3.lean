/- The document's table of who reaches whom. -/
import Derived.Test.YtefpglaipnnggaaE1
import Derived.Test.YtefpglaipnnggaaD4
namespace Go.Proofs.Ytefpglaipnnggaa
open Go.RowKit

/-- Some walk of at least one edge. -/
def RP (E : Int → Int → Prop) (u x : Int) : Prop := ∃ y, E u y ∧ Reach E y x
theorem RP.trans {E : Int → Int → Prop} {u v x : Int} (h : RP E u v) (k : RP E v x) : RP E u x := by
  obtain ⟨y, h1, h2⟩ := h
  obtain ⟨z, k1, k2⟩ := k
  exact ⟨y, h1, h2.trans ((Reach.step k1).trans k2)⟩
/-- Walks whose inner places are below k. -/
def PI (E : Int → Int → Prop) : Nat → Int → Int → Prop
  | 0, u, x => E u x
  | k + 1, u, x => PI E k u x ∨ (PI E k u k ∧ PI E k k x)
theorem PI.up {E : Int → Int → Prop} {u x : Int} (h : E u x) : ∀ k, PI E k u x
  | 0 => h
  | k + 1 => .inl (PI.up h k)
theorem PI.trans {E : Int → Int → Prop} : ∀ (k : Nat) (v u x : Int), 0 ≤ v → v < k → PI E k u v → PI E k v x → PI E k u x
  | 0, v, _, _, h0, h1, _, _ => by omega
  | k + 1, v, u, x, h0, h1, h, h' => by
    by_cases e : v = k
    · subst e
      have a1 : PI E k u k := by rcases h with h | h; exact h; exact h.1
      have a2 : PI E k k x := by rcases h' with h | h; exact h; exact h.2
      exact .inr ⟨a1, a2⟩
    · have ih := fun u x => PI.trans (E := E) k v u x h0 (by omega)
      rcases h with h | h <;> rcases h' with h' | h'
      · exact .inl (ih u x h h')
      · exact .inr ⟨ih u k h h'.1, h'.2⟩
      · exact .inr ⟨h.1, ih k x h.2 h'⟩
      · exact .inr ⟨h.1, h'.2⟩
theorem PI.of_RP {E : Int → Int → Prop} {n : Nat} (hE : ∀ u x, Vx n u → E u x → Vx n x) {u x : Int} (hu : Vx n u) (h : RP E u x) : PI E n u x := by
  obtain ⟨y, h1, k, h2⟩ := h
  induction k generalizing u y with
  | zero => cases h2; exact PI.up h1 n
  | succ k ih =>
    obtain ⟨z, h3, h4⟩ := h2
    have hy := hE u y hu h1
    exact PI.trans n y u x hy.1 hy.2 (PI.up h1 n) (ih hy z h3 h4)

/-- The table's entry. -/
def tg (tv : List (List Bool)) (u x : Int) : Bool := (tv.getD u.toNat []).getD x.toNat false
theorem tg_set {tv : List (List Bool)} {i j : Nat} (hi : i < tv.length) (hj : j < tv[i].length) (u x : Int) : tg (tv.set i (tv[i].set j true)) u x = if u.toNat = i ∧ x.toNat = j then true else tg tv u x := by
  unfold tg
  simp only [List.getD_eq_getElem?_getD, List.getElem?_set]
  by_cases e : i = u.toNat
  · subst e
    rw [if_pos rfl, if_pos hi]
    simp only [Option.getD_some, List.getElem?_set]
    by_cases e2 : j = x.toNat
    · subst e2
      simp [hj]
    · rw [if_neg e2, if_neg (fun h => e2 h.2.symm), List.getElem?_eq_getElem hi]; rfl
  · rw [if_neg e, if_neg (fun h => e h.1.symm)]

def bcs (l : List Bool) : List Value := l.map Value.bool
def rv (n : Nat) (g : Nat) : Value := .slice (some ⟨g, 0, none⟩) n n

/-- The table in memory. -/
structure Tab (w wx : World) (n : Nat) (k : Nat) (v : Value) (gs : List Nat) (tv : List (List Bool)) : Prop where
  below : Below w.heap.size w wx
  own : wx.ownsRow w.heap.size 52 1 v k (gs.map (rv n))
  lg : gs.length = k
  lt : tv.length = k
  ll : ∀ i, (h : i < tv.length) → tv[i].length = n
  row : ∀ i, (h : i < gs.length) → (h2 : i < tv.length) → Blk wx gs[i] 4 (bcs tv[i])
  nd : gs.Nodup
  ge : ∀ g ∈ gs, w.heap.size ≤ g
theorem Tab.drewN {w wx : World} {n k : Nat} {v : Value} {gs : List Nat} {tv : List (List Bool)} (h : Tab w wx n k v gs tv) (q : Nat) : Tab w (wx.drewN q) n k v gs tv :=
  ⟨below_drewN h.below q, h.own, h.lg, h.lt, h.ll, h.row, h.nd, h.ge⟩
theorem Tab.drew {w wx : World} {n k : Nat} {v : Value} {gs : List Nat} {tv : List (List Bool)} (h : Tab w wx n k v gs tv) : Tab w wx.drew n k v gs tv :=
  ⟨h.below.drew, h.own, h.lg, h.lt, h.ll, h.row, h.nd, h.ge⟩
theorem Tab.set {w wx : World} {n k : Nat} {v : Value} {gs : List Nat} {tv : List (List Bool)} (h : Tab w wx n k v gs tv) {i j : Nat} (hg : i < gs.length) (ht : i < tv.length) :
    Tab w (wx.setCell ⟨gs[i], j, none⟩ (.bool true)) n k v gs (tv.set i (tv[i].set j true)) := by
  have hge := h.ge gs[i] (List.getElem_mem hg)
  refine ⟨h.below.setCell (p := ⟨gs[i], j, none⟩) hge _, own_setCell_blk h.own (h.row i hg ht) (by decide) j _, h.lg, by simpa using h.lt, fun u hu => ?_, fun u hu hu2 => ?_, h.nd, h.ge⟩
  · rw [List.getElem_set]
    split
    · rename_i e; rw [List.length_set]; exact h.ll i ht
    · exact h.ll u (by simpa using hu)
  · rw [List.getElem_set]
    split
    · rename_i e
      subst e
      have := (h.row i hg ht).set_ j (.bool true)
      unfold bcs at this ⊢
      rw [List.map_set]; exact this
    · rename_i e
      refine (h.row u hu (by simpa using hu2)).far (p := ⟨gs[i], j, none⟩) (fun e2 => e ?_) _
      rcases Nat.lt_trichotomy i u with hlt | rfl | hlt
      · exact absurd e2.symm (List.pairwise_iff_getElem.1 h.nd i u hg hu hlt)
      · rfl
      · exact absurd e2 (List.pairwise_iff_getElem.1 h.nd u i hu hg hlt)
theorem Tab.at {w wx : World} {n k : Nat} {v : Value} {gs : List Nat} {tv : List (List Bool)} (h : Tab w wx n k v gs tv) {i : Nat} (hi : i < k) :
    ∃ gv c, ∃ hg : i < gs.length, ∃ _ht : i < tv.length, v = .slice (some ⟨gv, 0, none⟩) k c ∧ wx.cell? ⟨gv, i, none⟩ = some (.slice (some ⟨gs[i], 0, none⟩) n n) ∧ ∀ j, j < n → wx.cell? ⟨gs[i], j, none⟩ = some (.bool (tg tv i j)) ∧ wx.frozen? ⟨gs[i], j, none⟩ = false := by
  obtain ⟨gv, c, cur, hv, hb, hg, hnc, hcm, hcs, ht⟩ := own_blkd h.own (by omega)
  have hl := h.lg
  have hl2 := h.lt
  refine ⟨gv, c, by omega, by omega, hv, ?_, fun j hj => ⟨?_, (h.row i (by omega) (by omega)).frozen j⟩⟩
  · refine (hg.cell i).trans ?_
    have e : cur[i]? = (gs.map (rv n))[i]? := by rw [← ht, List.getElem?_take, if_pos (by omega)]
    rw [e, List.getElem?_map, List.getElem?_eq_getElem (by omega)]; rfl
  · refine ((h.row i (by omega) (by omega)).cell j).trans ?_
    have hlen := h.ll i (by omega)
    unfold bcs tg
    rw [List.getElem?_map, List.getElem?_eq_getElem (by omega)]
    simp [List.getD_eq_getElem?_getD, List.getElem?_eq_getElem (show i < tv.length by omega), List.getElem?_eq_getElem (show j < (tv[i]'(by omega)).length by omega)]
theorem Tab.push {w wx w' : World} {n k : Nat} {v v' : Value} {gs : List Nat} {tv : List (List Bool)} (h : Tab w wx n k v gs tv) (o : Obj) (hg : ((wx.alloc (.cells (bcs (List.replicate n false)).toArray 4)).alloc o).grownBy w' v.ownBlock)
    (ho : w'.ownsRow w.heap.size 52 1 v' (k + 1) (gs.map (rv n) ++ [rv n wx.heap.size])) : Tab w w' n (k + 1) v' (gs ++ [wx.heap.size]) (tv ++ [List.replicate n false]) := by
  have hbs := h.below.size
  have hb0 : Below w.heap.size w ((wx.alloc (.cells (bcs (List.replicate n false)).toArray 4)).alloc o) := (h.below.alloc hbs _).alloc (by simp; omega) o
  have hlt : ∀ g ∈ gs, g < wx.heap.size := fun g hgm => by
    obtain ⟨i, hi, rfl⟩ := List.mem_iff_getElem.1 hgm
    exact (h.row i hi (by have := h.lg; have := h.lt; omega)).lt
  have hnew : Blk ((wx.alloc (.cells (bcs (List.replicate n false)).toArray 4)).alloc o) wx.heap.size 4 (bcs (List.replicate n false)) := (Blk.new wx 4 _).alloc o
  have hown2 := (h.own.alloc (.cells (bcs (List.replicate n false)).toArray 4)).alloc o
  refine ⟨hb0.grown hg (by simp; omega) (fun q hq => (h.own.lt q hq).1), by rw [List.map_append]; exact ho, by simp [h.lg], by simp [h.lt], fun i hi => ?_, fun i hi hi2 => ?_, ?_, fun g hg' => ?_⟩
  · rw [List.getElem_append]
    split
    · exact h.ll i _
    · simp
  · have e1 := h.lg
    have e2 := h.lt
    by_cases hik : i < k
    · rw [List.getElem_append_left (by omega), List.getElem_append_left (by omega)]
      have hb := ((h.row i (by omega) (by omega)).alloc (.cells (bcs (List.replicate n false)).toArray 4)).alloc o
      exact hb.grown hg (own_blk_ne hown2 hb (by decide))
    · have : i = k := by simp at hi; omega
      subst this
      rw [List.getElem_append_right (by omega), List.getElem_append_right (by omega)]
      simp only [e1, e2, Nat.sub_self, List.getElem_singleton]
      exact hnew.grown hg (own_blk_ne hown2 hnew (by decide))
  · rw [List.nodup_append]
    exact ⟨h.nd, by simp, fun a ha b hb e => by have := hlt a ha; rw [List.mem_singleton.1 hb] at e; omega⟩
  · rcases List.mem_append.1 hg' with h1 | h1
    · exact h.ge g h1
    · rw [List.mem_singleton.1 h1]; exact hbs
/-- Where Warshall's walk stands: phase k, row i, place j. -/
structure WK (es : List E) (n k i j : Nat) (tv : List (List Bool)) : Prop where
  sound : ∀ u x, Vx n u → Vx n x → tg tv u x = true → RP (Eg es) u x
  all : ∀ u x, Vx n u → Vx n x → PI (Eg es) k u x → tg tv u x = true
  rows : ∀ u x, Vx n u → Vx n x → u < (i : Int) → PI (Eg es) (k + 1) u x → tg tv u x = true
  cols : ∀ x, Vx n x → x < (j : Int) → PI (Eg es) (k + 1) i x → tg tv i x = true
theorem WK.no {es : List E} {n k i j : Nat} {tv : List (List Bool)} (h : WK es n k i j tv) (hk : k < n) (hi : i < n) (hj : tg tv k j = false) : WK es n k i (j + 1) tv :=
  ⟨h.sound, h.all, h.rows, fun x hx hlt hp => by
    by_cases e : x = j
    · subst e
      rcases hp with hp | ⟨_, hp⟩
      · exact h.all _ _ ⟨by omega, by omega⟩ hx hp
      · have := h.all _ _ ⟨by omega, by omega⟩ hx hp
        rw [hj] at this; cases this
    · exact h.cols x hx (by omega) hp⟩
theorem WK.yes {es : List E} {n k i j : Nat} {tv : List (List Bool)} (h : WK es n k i j tv) (hk : k < n) (hik : tg tv i k = true) (hkj : tg tv k j = true) (ht : i < tv.length) (hl : j < tv[i].length) : WK es n k i (j + 1) (tv.set i (tv[i].set j true)) := by
  have hup : ∀ u x, tg tv u x = true → tg (tv.set i (tv[i].set j true)) u x = true := fun u x hx => by rw [tg_set ht hl]; split; rfl; exact hx
  refine ⟨fun u x hu hx htx => ?_, fun u x hu hx hp => hup _ _ (h.all u x hu hx hp), fun u x hu hx hlt hp => hup _ _ (h.rows u x hu hx hlt hp), fun x hx hlt hp => ?_⟩
  · rw [tg_set ht hl] at htx
    split at htx
    · rename_i e
      obtain rfl : u = (i : Int) := by have := hu.1; omega
      obtain rfl : x = (j : Int) := by have := hx.1; omega
      exact (h.sound _ _ hu ⟨by omega, by omega⟩ hik).trans (h.sound _ _ ⟨by omega, by omega⟩ hx hkj)
    · exact h.sound u x hu hx htx
  · by_cases e : x = j
    · subst e; rw [tg_set ht hl, if_pos ⟨by omega, by omega⟩]
    · exact hup _ _ (h.cols x hx (by omega) hp)
theorem WK.row {es : List E} {n k i j : Nat} {tv : List (List Bool)} (h : WK es n k i j tv) (hk : k < n) (he : j = n ∨ tg tv i k = false) : WK es n k (i + 1) 0 tv :=
  ⟨h.sound, h.all, fun u x hu hx hlt hp => by
    by_cases e : u = i
    · subst e
      rcases he with he | he
      · exact h.cols x hx (by have := hx.2; omega) hp
      · rcases hp with hp | ⟨hp, _⟩
        · exact h.all _ _ hu hx hp
        · have := h.all _ _ hu ⟨by omega, by omega⟩ hp
          rw [he] at this; cases this
    · exact h.rows u x hu hx (by omega) hp, fun x hx hlt => by have := hx.1; omega⟩
theorem WK.phase {es : List E} {n k : Nat} {tv : List (List Bool)} (h : WK es n k n 0 tv) : WK es n (k + 1) 0 0 tv :=
  ⟨h.sound, fun u x hu hx hp => h.rows u x hu hx hu.2 hp, fun u x hu _ hlt => by have := hu.1; omega, fun x hx hlt => by have := hx.1; omega⟩
theorem WK.first {es : List E} {n : Nat} {tv : List (List Bool)} (h : ∀ u x, Vx n u → Vx n x → (tg tv u x = true ↔ Eg es u x)) : WK es n 0 0 0 tv :=
  ⟨fun u x hu hx ht => ⟨x, (h u x hu hx).1 ht, Reach.refl x⟩, fun u x hu hx hp => (h u x hu hx).2 hp, fun u x hu _ hlt => by have := hu.1; omega, fun x hx hlt => by have := hx.1; omega⟩
theorem WK.last {es : List E} {n : Nat} {tv : List (List Bool)} (hf : Fits n es) (h : WK es n n 0 0 tv) {u x : Int} (hu : Vx n u) (hx : Vx n x) : tg tv u x = true ↔ RP (Eg es) u x :=
  ⟨h.sound u x hu hx, fun hr => h.all u x hu hx (PI.of_RP (fun a b _ ⟨e, he, _, h2⟩ => by have h := hf.2.2 e he; exact ⟨h2 ▸ h.2.2.1, h2 ▸ h.2.2.2⟩) hu hr)⟩
theorem Eg_snoc {es : List E} {e : E} {u x : Int} : Eg (es ++ [e]) u x ↔ Eg es u x ∨ (e.f = u ∧ e.t = x) := by
  simp only [Eg, List.mem_append, List.mem_singleton]
  constructor
  · rintro ⟨a, h | rfl, h1, h2⟩
    · exact .inl ⟨a, h, h1, h2⟩
    · exact .inr ⟨h1, h2⟩
  · rintro (⟨a, h, h1, h2⟩ | ⟨h1, h2⟩)
    · exact ⟨a, .inl h, h1, h2⟩
    · exact ⟨e, .inr rfl, h1, h2⟩
end Go.Proofs.Ytefpglaipnnggaa
