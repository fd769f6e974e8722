/- The document's one, ready. -/
import Derived.Test.YtefpglaipnnggaaE4
import Derived.Test.YtefpglaipnnggaaE2
namespace Go.Proofs.Ytefpglaipnnggaa
open Go.RowKit

def oneB (tv : List (List Bool)) (a b : Int) : Bool := a == b || (tg tv a b && tg tv b a)
theorem reach_RP {E : Int → Int → Prop} {u x : Int} : Reach E u x ↔ u = x ∨ RP E u x := by
  constructor
  · rintro ⟨k, h⟩
    cases k with
    | zero => exact .inl h
    | succ k =>
      obtain ⟨y, h1, h2⟩ := h
      exact .inr ⟨y, h1, k, h2⟩
  · rintro (rfl | ⟨y, h1, h2⟩)
    · exact .refl _
    · exact (Reach.step h1).trans h2
theorem oneB_iff {es : List E} {n : Nat} {tv : List (List Bool)} (h : ∀ u x, Vx n u → Vx n x → (tg tv u x = true ↔ RP (Eg es) u x)) {a b : Int} (ha : Vx n a) (hb : Vx n b) : oneB tv a b = true ↔ Scc (Eg es) a b := by
  unfold oneB Scc
  simp only [Bool.or_eq_true, beq_iff_eq, Bool.and_eq_true, h a b ha hb, h b a hb ha, reach_RP]
  constructor
  · rintro (rfl | ⟨h1, h2⟩)
    · exact ⟨.inl rfl, .inl rfl⟩
    · exact ⟨.inr h1, .inr h2⟩
  · rintro ⟨h1 | h1, h2 | h2⟩
    · exact .inl h1
    · exact .inl h1
    · exact .inl h2.symm
    · exact .inr ⟨h1, h2⟩

set_option maxRecDepth 20000 in
theorem one_any {w wx : World} {n : Nat} {v : Value} {gs : List Nat} {tv : List (List Bool)} (h : Tab w wx n n v gs tv) (a b : Nat) (ha : a < n) (hb : b < n) :
    Calls Try.prog 49 #[v, .int .i64 a, .int .i64 b] wx fun e w' => e = .returned (.bool (oneB tv a b)) ∧ w' = wx := by
  obtain ⟨gv, cv, hg, ht, rfl, d0, d1⟩ := h.at ha
  obtain ⟨d1, _⟩ := d1 b hb
  obtain ⟨gv', cv', hg', ht', hv', d2, d3⟩ := h.at hb
  obtain rfl : gv = gv' := by
    have h := congrArg Value.ownBlock hv'
    simpa [Value.ownBlock] using h
  obtain ⟨d3, _⟩ := d3 a ha
  clear hv' h
  unfold oneB
  go_enter Try.func49, Try.ntmps49
  by_cases hab : a = b
  · subst hab
    go_wp2
    go_ret
    exact ⟨by simp, rfl⟩
  · have hab2 : ((a : Int) == (b : Int)) = false := by simp; omega
    cases h1 : tg tv a b with
    | false =>
      rw [h1] at d1
      go_wp2
      go_ret
      exact ⟨by simp [hab2], rfl⟩
    | true =>
      rw [h1] at d1
      go_wp2
      go_ret
      exact ⟨by simp [hab2], rfl⟩
def tl1 (tl : List Bool) (x : Int) : Bool := tl.getD x.toNat false
def badE (tv : List (List Bool)) (tl : List Bool) (a : Int) (e : E) : Bool := (oneB tv e.t a && !oneB tv e.f a) && !tl1 tl e.f

set_option maxRecDepth 20000 in
set_option maxHeartbeats 1000000 in
theorem ready_any {w wx : World} {n : Nat} {v : Value} {gs : List Nat} {tv : List (List Bool)} (h : Tab w wx n n v gs tv) (A : Option Addr) (m c gt : Nat) (es : List E) (hr : Rd wx wx.heap.size 4 A m (ecells es)) (hf : Fits n es)
    (tl : List Bool) (hb : Blk wx gt 4 (bcells tl)) (hl : tl.length = n) (a : Nat) (ha : a < n) :
    Calls Try.prog 48 #[v, .slice A m c, .slice (some ⟨gt, 0, none⟩) n n, .int .i64 a] wx fun e w' => e = .returned (.bool (!es.any (badE tv tl a))) ∧ w' = wx := by
  have HT := Lib.hid h
  have HR := Lib.hid hr
  have HF := Lib.hid hf
  have HB := Lib.hid hb
  have hlen : es.length = m := by have := hr.1; rw [ecells_length] at this; omega
  have HL := Lib.hid hlen
  have hmb := hr.2.1
  have hn : n ≤ 128 := by have := hf.2.1; omega
  clear h hr hf hb hlen
  go_enter Try.func48, Try.ntmps48
  go_wp2
  go_loopg [9] m (fun gk v9 wr => ∃ (i : Nat), v9 = .int .i64 i ∧ i ≤ m ∧ gk = m - i ∧ wr = wx ∧ Hid ((es.take i).any (badE tv tl a) = false))
  case atStart => exact ⟨0, rfl, Nat.zero_le _, by omega, rfl, Lib.hid (by simp)⟩
  case round =>
    obtain ⟨i, rfl, hi, hgi, rfl, HA⟩ := hrel
    have HG := Lib.hid hgi
    clear hgi
    by_cases hlt : i < m
    · obtain ⟨b, o, hj1, rfl, hbb, c0, c1, _, _⟩ := HR.out.edge i hlt
      have hok := HF.out.2.2 _ (List.getElem_mem hj1)
      have HK := Lib.hid (take_snoc es i hj1)
      have HMEM := Lib.hid (List.getElem_mem hj1)
      generalize es[i] = e at *
      obtain ⟨ef, et, en, er⟩ := e
      obtain ⟨p1, p2, p3, p4⟩ := hok
      dsimp only at c0 c1 p1 p2 p3 p4
      obtain ⟨f, rfl⟩ : ∃ f : Nat, ef = (f : Int) := ⟨ef.toNat, by omega⟩
      obtain ⟨t, rfl⟩ : ∃ t : Nat, et = (t : Int) := ⟨et.toNat, by omega⟩
      have hfk : f < n := by omega
      have htk : t < n := by omega
      have t0 : wr.cell? ⟨gt, f, none⟩ = some (.bool (tl1 tl f)) := by
        refine (HB.out.cell f).trans ?_
        unfold bcells tl1
        rw [List.getElem?_map, Int.toNat_natCast, List.getD_eq_getElem?_getD, List.getElem?_eq_getElem (by omega)]; rfl
      have HBD : Hid (∀ x y z : Bool, oneB tv t a = x → oneB tv f a = y → tl1 tl f = z → badE tv tl a ⟨f, t, en, er⟩ = ((x && !y) && !z)) := Lib.hid (by rintro x y z rfl rfl rfl; rfl)
      go_wp2_with fail
      refine (one_any HT.out t a htk ha).mono ?_
      rintro e1 w1 ⟨rfl, rfl⟩
      cases h1 : oneB tv t a with
      | false =>
        have HX : Hid ((es.take (i + 1)).any (badE tv tl a) = false) := Lib.hid (by rw [HK.out, List.any_append, HA.out, List.any_cons, HBD.out _ _ _ h1 rfl rfl]; simp)
        go_wp2
        go_roundg (m - (i + 1))
        case measure => have := HG.out; omega
        case rel => exact ⟨i + 1, by go_num, by omega, rfl, rfl, HX⟩
      | true =>
        have H1 := Lib.hid h1
        clear h1
        go_wp2_with fail
        refine (one_any HT.out f a hfk ha).mono ?_
        rintro e2 w2 ⟨rfl, rfl⟩
        cases h2 : oneB tv f a with
        | true =>
          have HX : Hid ((es.take (i + 1)).any (badE tv tl a) = false) := Lib.hid (by rw [HK.out, List.any_append, HA.out, List.any_cons, HBD.out _ _ _ H1.out h2 rfl]; simp)
          go_wp2
          go_roundg (m - (i + 1))
          case measure => have := HG.out; omega
          case rel => exact ⟨i + 1, by go_num, by omega, rfl, rfl, HX⟩
        | false =>
          have H2 := Lib.hid h2
          clear h2
          cases h3 : tl1 tl f with
          | true =>
            rw [h3] at t0
            have HX : Hid ((es.take (i + 1)).any (badE tv tl a) = false) := Lib.hid (by rw [HK.out, List.any_append, HA.out, List.any_cons, HBD.out _ _ _ H1.out H2.out h3]; simp)
            go_wp2
            go_roundg (m - (i + 1))
            case measure => have := HG.out; omega
            case rel => exact ⟨i + 1, by go_num, by omega, rfl, rfl, HX⟩
          | false =>
            rw [h3] at t0
            have HX : Hid (es.any (badE tv tl a) = true) := Lib.hid (by
              rw [List.any_eq_true]
              exact ⟨_, HMEM.out, by rw [HBD.out _ _ _ H1.out H2.out h3]; rfl⟩)
            go_wp2
            go_ret
            exact ⟨by rw [HX.out]; rfl, rfl⟩
    · obtain rfl : i = m := by omega
      go_wp2
      go_ret
      have h := HA.out
      rw [List.take_of_length_le (by have := HL.out; omega)] at h
      exact ⟨by rw [h]; rfl, rfl⟩

theorem ready_iff {es : List E} {n : Nat} {tv : List (List Bool)} {tl : List Bool} {out : List (List Int)} (hf : Fits n es) (h : ∀ u x, Vx n u → Vx n x → (tg tv u x = true ↔ RP (Eg es) u x)) (ht : ∀ x, Vx n x → (tl1 tl x = true ↔ Told out x)) {a : Int} (ha : Vx n a)
    (hna : ¬ Told out a) : es.any (badE tv tl a) = false ↔ Ready n es (Told out) a := by
  rw [List.any_eq_false]
  constructor
  · intro hx
    refine ⟨ha, hna, fun e he h1 h2 => ?_⟩
    have hok := hf.2.2 e he
    have hb := hx e he
    unfold badE at hb
    have e1 := (oneB_iff h ⟨hok.2.2.1, hok.2.2.2⟩ ha).2 h1
    have e2 : oneB tv e.f a = false := by
      cases hx : oneB tv e.f a with
      | false => rfl
      | true => exact absurd ((oneB_iff h ⟨hok.1, hok.2.1⟩ ha).1 hx) h2
    rw [e1, e2] at hb
    exact (ht e.f ⟨hok.1, hok.2.1⟩).1 (by simpa using hb)
  · rintro ⟨_, _, hr⟩ e he
    have hok := hf.2.2 e he
    unfold badE
    intro hb
    simp only [Bool.and_eq_true, Bool.not_eq_true'] at hb
    have h1 := (oneB_iff h ⟨hok.2.2.1, hok.2.2.2⟩ ha).1 hb.1.1
    have h2 : ¬ Scc (Eg es) e.f a := fun hs => by
      have := (oneB_iff h ⟨hok.1, hok.2.1⟩ ha).2 hs
      rw [hb.1.2] at this; cases this
    have h3 := (ht e.f ⟨hok.1, hok.2.1⟩).2 (hr e he h1 h2)
    rw [hb.2] at h3; cases h3
end Go.Proofs.Ytefpglaipnnggaa
