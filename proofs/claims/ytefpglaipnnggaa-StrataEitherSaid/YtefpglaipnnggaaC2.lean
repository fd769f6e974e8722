import Derived.Test.YtefpglaipnnggaaC1
import Derived.Deep.LoopGhost
namespace Go.Proofs.Ytefpglaipnnggaa
open Go.RowKit

section
variable {W0 w w' : World} {M s gt gl gc go n : Nat} {time low comp opn : List Int} {clock count : Int}

set_option maxHeartbeats 1000000 in
theorem leave_no (h : Sk W0 w M s gt gl gc go n time low comp opn clock count) (p : Int) (h0 : 0 ≤ p) (hp : p < n) (hne : lv low p ≠ lv time p) :
    Calls Try.prog 59 #[.pointer (some ⟨s, 0, none⟩), .int .i64 p] w fun e w' => e = .returned (.tuple #[]) ∧ Fr [s, gt, gl, gc] w w' ∧ Sk W0 w' M s gt gl gc go n time low comp opn clock count := by
  have f1 := h.f1
  have f2 := h.f2
  have ct := h.ct h0 hp
  have cl := h.cl h0 hp
  have HH := Lib.hid h
  have hq : (lv low p != lv time p) = true := by simpa using hne
  clear h hne
  go_enter Try.func59, Try.ntmps59
  go_wp2
  go_quiet (fail)
  go_wp2
  refine bodyPost_ret (results_none rfl _ _ _) rfl ?_
  exact ⟨rfl, (Fr.refl _ _).drewN _, HH.out.drewN _⟩

theorem own_drewN {base e size k : Nat} {v : Value} {xs : List Value} (h : w.ownsRow base e size v k xs) (q : Nat) : (w.drewN q).ownsRow base e size v k xs := h

/-- The last one taken off. -/
theorem Sk.pop {vo vo' : Value} {pre : List Int} {q : Int} (h : Sk W0 w M s gt gl gc go n time low comp (pre ++ [q]) clock count) :
    ∃ A c, Blk w s 78 [sl go n, sl gt n, sl gl n, sl gc n, .slice A (pre.length + 1) c, .int .i64 clock, .int .i64 count] ∧ w.ownsRow M 3 1 (.slice A (pre.length + 1) c) (pre.length + 1) (icells (pre ++ [q])) ∧
      (∃ g, A = some ⟨g, 0, none⟩ ∧ g < w.heap.size ∧ w.cell? ⟨g, pre.length, none⟩ = some (.int .i64 q)) ∧ w.ownsRow M 3 1 (.slice A pre.length c) pre.length (icells pre) ∧ pre.length + 1 ≤ c := by
  have := vo; have := vo'
  obtain ⟨v, h1, h2⟩ := h.bs
  rw [List.length_append, List.length_singleton] at h2
  rcases h2.2 with ⟨rfl, hn⟩ | ⟨g, cap, cur, rfl, hb, hg, hnc, hcm, hcs, ht⟩
  · omega
  · refine ⟨_, _, h1, h2, ⟨g, rfl, (Array.getElem?_eq_some_iff.1 hg).1, ?_⟩, ⟨by simp [icells], .inr ⟨g, cap, cur, rfl, hb, hg, by omega, hcm, hcs, ?_⟩⟩, hnc⟩
    · have := h2.cells (g := g) rfl pre.length (.int .i64 q) (by simp [icells])
      have hadd : (⟨g, 0, none⟩ : Addr).add pre.length = ⟨g, pre.length, none⟩ := by unfold Addr.add; split <;> simp_all
      rwa [hadd] at this
    · have e : cur.toList.take (pre.length * 1) = ((cur.toList.take ((pre.length + 1) * 1))).take (pre.length * 1) := by
        rw [List.take_take]; congr 1; omega
      rw [e, ht]
      simp [icells]

theorem set_lv {l : List Int} {i j : Int} (hi : 0 ≤ i) (hj : 0 ≤ j) (h : i < l.length) (x : Int) : lv (l.set i.toNat x) j = if j = i then x else lv l j := by
  unfold lv
  simp only [List.getD_eq_getElem?_getD, List.getElem?_set]
  by_cases hij : j = i
  · subst hij; rw [if_pos rfl, if_pos (by omega), if_pos rfl]; rfl
  · rw [if_neg (by omega), if_neg hij]

set_option maxHeartbeats 1000000 in
theorem leave_yes (pre post : List Int) (p : Int) (h : Sk W0 w M s gt gl gc go n time low comp (pre ++ p :: post) clock count) (h0 : 0 ≤ p) (hp : p < n) (heq : lv low p = lv time p)
    (hin : ∀ x ∈ post, 0 ≤ x ∧ x < n) (hnp : p ∉ post) (hcc : 0 ≤ count ∧ count ≤ 1000000) (hlo : (pre ++ p :: post).length ≤ 1000000) :
    Calls Try.prog 59 #[.pointer (some ⟨s, 0, none⟩), .int .i64 p] w fun e w' => e = .returned (.tuple #[]) ∧ Fr [s, gt, gl, gc] w w' ∧
      ∃ comp', Sk W0 w' M s gt gl gc go n time low comp' pre clock (count + 1) ∧ ∀ i, 0 ≤ i → lv comp' i = if i ∈ p :: post then count else lv comp i := by
  have f1 := h.f1
  have f2 := h.f2
  have ct := h.ct h0 hp
  have cl := h.cl h0 hp
  have HH := Lib.hid h
  have HI := Lib.hid hin
  have HN := Lib.hid hnp
  have HE := Lib.hid hlo
  have hq : (lv low p != lv time p) = false := by simpa using heq
  clear h heq hin hnp hlo
  go_enter Try.func59, Try.ntmps59
  go_wp2
  go_quiet (fail)
  clear f1 f2 ct cl
  have HS := Lib.hid (HH.out.drewN nq)
  have HW := Lib.hid ((Fr.refl [s, gt, gl, gc] w).drewN nq)
  clear hq HH
  generalize World.drewN _ _ = w1 at *
  go_wp2
  go_loopg [4] (post.length + 1) (fun gk _ wr => ∃ (post1 done : List Int) (comp1 : List Int), gk = post1.length + 1 ∧ post = post1 ++ done ∧ Fr [s, gt, gl, gc] w wr ∧ Sk W0 wr M s gt gl gc go n time low comp1 (pre ++ p :: post1) clock count ∧
    ∀ i, 0 ≤ i → lv comp1 i = if i ∈ done then count else lv comp i)
  case atStart => exact ⟨post, [], comp, rfl, by simp, HW.out, HS.out, by simp⟩
  case round =>
    obtain ⟨post1, done, comp1, hgk, hpd, hw, hs, hc⟩ := hrel
    have HG := Lib.hid hgk
    have HC := Lib.hid hc
    have HW2 := Lib.hid hw
    have HP := Lib.hid hpd
    clear hgk hc hw hpd HW HS w1
    obtain ⟨front, q, hf, hd⟩ : ∃ front q, pre ++ p :: post1 = front ++ [q] ∧ ((post1 = [] ∧ front = pre ∧ q = p) ∨ ∃ post2, post1 = post2 ++ [q] ∧ front = pre ++ p :: post2) := by
      rcases List.eq_nil_or_concat post1 with rfl | ⟨post2, q, rfl⟩
      · exact ⟨pre, p, rfl, .inl ⟨rfl, rfl, rfl⟩⟩
      · exact ⟨pre ++ p :: post2, q, by simp, .inr ⟨post2, by simp, rfl⟩⟩
    rw [hf] at hs
    have HF := Lib.hid hf
    have hlen : front.length + 1 ≤ 1000000 := by
      have := HE.out
      have h2 := congrArg List.length hf
      have h3 := congrArg List.length HP.out
      simp at this h2 h3; omega
    clear hf
    obtain ⟨A, c, hb, hown, ⟨g, rfl, hg, hcell⟩, hown', hcap⟩ := Sk.pop (vo := undef) (vo' := undef) hs
    rcases hd with ⟨hd1, hd2, hd3⟩ | ⟨post2, hd1, hd2⟩
    · have q0 : 0 ≤ q := by omega
      have q1 : q < n := by omega
      have hqp : (q == p) = true := by simp [hd3]
      have D1 := Lib.hid hd1
      have D2 := Lib.hid hd2
      have D3 := Lib.hid hd3
      clear hd1 hd2 hd3
      have f3 := hs.f3
      have f6 := hs.f6
      have f4 := hb.cell 4
      have fz := hb.frozen 4
      have fz6 := hb.frozen 6
      simp only [sl, List.getElem?_cons_zero, List.getElem?_cons_succ] at f4
      have cc := hs.cc q0 q1
      have zc := hs.bcomp.frozen q.toNat
      have hslt := hs.slt
      have hclt := hs.bcomp.lt
      have hsc := hs.ne.2.2.1
      have HH := Lib.hid hs
      have HB := Lib.hid hb
      have HO := Lib.hid hown'
      have HQ := Lib.hid hown
      clear hs hb hown hown'
      go_wp2
      go_quiet (fail)
      have HH := Lib.hid (HH.out.drewN nq)
      have HB := Lib.hid (HB.out.drewN nq)
      have HO := Lib.hid (own_drewN HO.out nq)
      have HQ := Lib.hid (own_drewN HQ.out nq)
      have HW2 := Lib.hid (HW2.out.drewN nq)
      clear f3 f6 f4 fz cc zc hslt hclt hcell hg
      generalize World.drewN _ _ = w1 at *
      have f4 := HB.out.cell 4
      have fz := HB.out.frozen 4
      simp only [sl, List.getElem?_cons_zero, List.getElem?_cons_succ] at f4
      go_wp2
      go_region
      have HS2 := Lib.hid (HH.out.set_open (vo' := .slice (some ⟨g, 0, none⟩) front.length c) (opn' := front) HB.out (World.grownBy.refl _ _) (by simpa using HQ.out) HO.out).drew
      have HW3 := Lib.hid ((HW2.out.setCell (p := ⟨s, 4, none⟩) (.inl (by simp)) (.slice (some ⟨g, 0, none⟩) front.length c)).drew)
      clear HH HB HO HQ HW2 f4 fz
      generalize World.drew _ = w2 at *
      have f3 := HS2.out.f3
      have f6 := HS2.out.f6
      have cc := HS2.out.cc q0 q1
      have zc := HS2.out.bcomp.frozen q.toNat
      go_wp2
      go_region
      have HS3 := Lib.hid ((HS2.out.set_comp q.toNat count).drew)
      have HW4 := Lib.hid ((HW3.out.setCell (p := ⟨gc, q.toNat, none⟩) (.inl (by simp)) (.int .i64 count)).drew)
      have HL := Lib.hid (HS2.out.len.2.2)
      clear HS2 HW3 f3 f6 cc zc
      generalize World.drew _ = w3 at *
      have f6 := HS3.out.f6
      have fz6 := HS3.out.zs 6
      go_wp2
      go_end0
      refine ⟨rfl, HW4.out.setCell (p := ⟨s, 6, none⟩) (.inl (by simp)) _, comp1.set q.toNat count, by have := HS3.out.set_count (count + 1); rw [D2.out] at this; exact this, fun i hi => ?_⟩
      have hpd := HP.out
      rw [D1.out, List.nil_append] at hpd
      rw [set_lv q0 hi (by have := HL.out; omega), HC.out i hi, D3.out, hpd]
      by_cases e : i = p
      · subst e; simp
      · simp [e]
    · have hqin : q ∈ post := by have := HP.out; rw [this, hd1]; simp
      have q0 := (HI.out q hqin).1
      have q1 := (HI.out q hqin).2
      have hqp : (q == p) = false := by
        have : q ≠ p := fun e => HN.out (e ▸ hqin)
        simpa using this
      have D1 := Lib.hid hd1
      have D2 := Lib.hid hd2
      clear hd1 hd2 hqin
      have f3 := hs.f3
      have f6 := hs.f6
      have f4 := hb.cell 4
      have fz := hb.frozen 4
      have fz6 := hb.frozen 6
      simp only [sl, List.getElem?_cons_zero, List.getElem?_cons_succ] at f4
      have cc := hs.cc q0 q1
      have zc := hs.bcomp.frozen q.toNat
      have hslt := hs.slt
      have hclt := hs.bcomp.lt
      have hsc := hs.ne.2.2.1
      have HH := Lib.hid hs
      have HB := Lib.hid hb
      have HO := Lib.hid hown'
      have HQ := Lib.hid hown
      clear hs hb hown hown'
      go_wp2
      go_quiet (fail)
      have HH := Lib.hid (HH.out.drewN nq)
      have HB := Lib.hid (HB.out.drewN nq)
      have HO := Lib.hid (own_drewN HO.out nq)
      have HQ := Lib.hid (own_drewN HQ.out nq)
      have HW2 := Lib.hid (HW2.out.drewN nq)
      clear f3 f6 f4 fz cc zc hslt hclt hcell hg
      generalize World.drewN _ _ = w1 at *
      have f4 := HB.out.cell 4
      have fz := HB.out.frozen 4
      simp only [sl, List.getElem?_cons_zero, List.getElem?_cons_succ] at f4
      go_wp2
      go_region
      have HS2 := Lib.hid (HH.out.set_open (vo' := .slice (some ⟨g, 0, none⟩) front.length c) (opn' := front) HB.out (World.grownBy.refl _ _) (by simpa using HQ.out) HO.out).drew
      have HW3 := Lib.hid ((HW2.out.setCell (p := ⟨s, 4, none⟩) (.inl (by simp)) (.slice (some ⟨g, 0, none⟩) front.length c)).drew)
      clear HH HB HO HQ HW2 f4 fz
      generalize World.drew _ = w2 at *
      have f3 := HS2.out.f3
      have f6 := HS2.out.f6
      have cc := HS2.out.cc q0 q1
      have zc := HS2.out.bcomp.frozen q.toNat
      go_wp2
      go_region
      have HS3 := Lib.hid ((HS2.out.set_comp q.toNat count).drew)
      have HW4 := Lib.hid ((HW3.out.setCell (p := ⟨gc, q.toNat, none⟩) (.inl (by simp)) (.int .i64 count)).drew)
      have HL := Lib.hid (HS2.out.len.2.2)
      clear HS2 HW3 f3 f6 cc zc
      generalize World.drew _ = w3 at *
      go_wp2
      go_roundg (post2.length + 1)
      case measure =>
        have := HG.out
        rw [D1.out] at this
        simp at this; omega
      case rel =>
        refine ⟨post2, q :: done, comp1.set q.toNat count, rfl, ?_, HW4.out, by have := HS3.out; rw [D2.out] at this; exact this, fun i hi => ?_⟩
        · have := HP.out
          rw [this, D1.out]; simp
        · rw [set_lv q0 hi (by have := HL.out; omega), HC.out i hi]
          by_cases e : i = q
          · subst e; simp
          · simp [e]
end
end Go.Proofs.Ytefpglaipnnggaa
