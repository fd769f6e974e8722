/- The document's Reach: its walk. -/
import Derived.Test.YtefpglaipnnggaaE3
namespace Go.Proofs.Ytefpglaipnnggaa
open Go.RowKit

theorem Try.info4' : (Try.prog.info? 4).map (fun i => (i.zero, i.size, i.bytes)) = some (some (.bool false), 1, 1) := by kernel_rfl
theorem Try.info52 : (Try.prog.info? 52).map (fun i => (i.zero, i.size, i.bytes)) = some (some (.slice none 0 0), 1, 24) := by kernel_rfl

set_option maxRecDepth 20000 in
set_option maxHeartbeats 4000000 in
theorem refReach_any (A : Option Addr) (m c n : Nat) (es : List E) (w : World) (hr : Rd w w.heap.size 4 A m (ecells es)) (hf : Fits n es) :
    Calls Try.prog 47 #[.int .i64 n, .slice A m c] w fun e w' => ∃ v gs tv, e = .returned v ∧ Tab w w' n n v gs tv ∧ ∀ u x, Vx n u → Vx n x → (tg tv u x = true ↔ RP (Eg es) u x) := by
  obtain ⟨i0, hi, hz0, hz1, hz2⟩ := info_parts Try.info4'
  obtain ⟨i1, hi', hz0', hz1', hz2'⟩ := info_parts Try.info52
  have hn : n ≤ 128 := by have := hf.2.1; omega
  have mk4 : ∀ W : World, (Instr.makeSlice 52 (.int .i64 (n : Int)) (.int .i64 (n : Int))).run Try.prog W = .ok (.slice (some ⟨W.heap.size, 0, none⟩) n n) (W.alloc (.cells (bcs (List.replicate n false)).toArray 4)) := fun W => by
    rw [run_make_rowN 52 4 i0 _ Try.underlying52 hi hz0 _ _ n n (Nat.le_refl _) (by rw [hz2]; omega) (by omega) W, hz1, made_one _ rfl]
    simp [bcs]
  have hlen : es.length = m := by have := hr.1; rw [ecells_length] at this; omega
  have HL := Lib.hid hlen
  have HR := Lib.hid hr
  have HF := Lib.hid hf
  have hmb := hr.2.1
  clear hr hf hlen
  go_enter Try.func47, Try.ntmps47
  go_wp2
  go_loopg [6, 5] n (fun gk v6 v5 wr => ∃ (k : Nat) (gs : List Nat), v6 = .int .i64 k ∧ k ≤ n ∧ gk = n - k ∧ Hid (Tab w wr n k v5 gs (List.replicate k (List.replicate n false))))
  case atStart => exact ⟨0, [], rfl, Nat.zero_le _, by omega, Lib.hid ⟨Below.refl _ _, World.ownsRow_nil _ _ _ _, rfl, rfl, by simp, by simp, List.nodup_nil, by simp⟩⟩
  case round =>
    obtain ⟨k, gs, rfl, hk, hgk, HT⟩ := hrel
    have HG := Lib.hid hgk
    clear hgk
    by_cases hlt : k < n
    · have hown := HT.out.own
      have hbs := HT.out.below.size
      go_wp2_with (at_builtin; go_must (refine wpList_append_own _ rfl _ _ 65 rfl w.heap.size 52 i1 _ 1 24 Try.underlying65 hi' hz0' hz1' hz2' rfl (by decide) _ _ _ rfl ((hown.alloc _).alloc _) ⟨wr.heap.size + 1, 0, none⟩ 1 1 [rv n wr.heap.size] rfl rfl (fun j u h => by have h9 := new_cells (wr.alloc (.cells (bcs (List.replicate n false)).toArray 4)) #[rv n wr.heap.size] 52 j u h; simpa [rv] using h9) (by intro u hu; rw [List.mem_singleton.1 hu]; rfl) (by unfold maxLen; omega) (by omega) (by simp; omega) ?_))
      intro v3 w3 hown3 hg3 _
      have HT3 := Lib.hid (HT.out.push _ hg3 hown3)
      rw [← List.replicate_succ'] at HT3
      clear hown hown3 hg3 HT
      go_wp2
      go_roundg (n - (k + 1))
      case measure => have := HG.out; omega
      case rel => exact ⟨k + 1, _, by go_num, by omega, rfl, HT3⟩
    · obtain rfl : k = n := by omega
      have HI : Hid (∀ u x, Vx k u → Vx k x → (tg (List.replicate k (List.replicate k false)) u x = true ↔ Eg (es.take 0) u x)) := Lib.hid fun u x hu hx => by
        have e : tg (List.replicate k (List.replicate k false)) u x = false := by
          unfold tg
          have h1 : u.toNat < k := by have := hu.1; have := hu.2; omega
          have h2 : x.toNat < k := by have := hx.1; have := hx.2; omega
          simp [List.getD_eq_getElem?_getD, h1, h2]
        rw [e]
        simp [Eg]
      clear mk4 HG
      go_wp2
      go_loopg [7] m (fun gk v wr => ∃ (i : Nat) (tv : List (List Bool)), v = .int .i64 i ∧ i ≤ m ∧ gk = m - i ∧ Hid (Tab w wr k k u5 gs tv) ∧ Hid (∀ u x, Vx k u → Vx k x → (tg tv u x = true ↔ Eg (es.take i) u x)))
      case atStart => exact ⟨0, _, rfl, Nat.zero_le _, by omega, HT, HI⟩
      case round =>
        clear HT HI
        obtain ⟨i, tv, rfl, hi1, hgi, HT, HI⟩ := hrel
        have HG := Lib.hid hgi
        clear hgi
        by_cases hlt2 : i < m
        · obtain ⟨b, o, hj1, rfl, hbb, c0, c1, _, _⟩ := (HR.out.below HT.out.below).edge i hlt2
          have hok := HF.out.2.2 _ (List.getElem_mem hj1)
          have HK := Lib.hid (take_snoc es i hj1)
          generalize es[i] = e at *
          obtain ⟨ef, et, en, er⟩ := e
          obtain ⟨p1, p2, p3, p4⟩ := hok
          dsimp only at c0 c1 p1 p2 p3 p4
          obtain ⟨f, rfl⟩ : ∃ f : Nat, ef = (f : Int) := ⟨ef.toNat, by omega⟩
          obtain ⟨t, rfl⟩ : ∃ t : Nat, et = (t : Int) := ⟨et.toNat, by omega⟩
          have hfk : f < k := by omega
          have htk : t < k := by omega
          obtain ⟨gv, cv, hg, ht, hv, d0, d1⟩ := HT.out.at hfk
          subst hv
          obtain ⟨d1, z1⟩ := d1 t htk
          have hl := HT.out.ll f ht
          have HT2 := Lib.hid (HT.out.set (j := t) hg ht)
          have HSET := Lib.hid (tg_set ht (show t < tv[f].length by omega))
          go_upto_region 9 with (fail)
          go_region
          all_goals
            have HI2 : Hid (∀ u x, Vx k u → Vx k x → (tg (tv.set f (tv[f].set t true)) u x = true ↔ Eg (es.take (i + 1)) u x)) := Lib.hid fun u x hu hx => by
              rw [HSET.out, HK.out, Eg_snoc, ← HI.out u x hu hx]
              have hu0 := hu.1
              have hx0 := hx.1
              by_cases e : u.toNat = f ∧ x.toNat = t
              · have e2 : (f : Int) = u ∧ (t : Int) = x := by omega
                simp [e, e2]
              · have e2 : ¬ ((f : Int) = u ∧ (t : Int) = x) := by omega
                simp only [if_neg e, e2, or_false]
            clear HT HI d0 d1 z1 c0 c1 HSET
            generalize World.setCell _ _ _ = w5 at *
            go_wp2
            go_roundg (m - (i + 1))
            case measure => have := HG.out; omega
            case rel => exact ⟨i + 1, _, by go_num, by omega, rfl, Lib.hid HT2.out.drew, HI2⟩
        · obtain rfl : i = m := by omega
          have HW : Hid (WK es k 0 0 0 tv) := Lib.hid (WK.first (fun u x hu hx => by
            have h := HI.out u x hu hx
            rw [List.take_of_length_le (by have := HL.out; omega)] at h
            exact h))
          clear HI HG
          go_wp2
          go_loopg [8] k (fun gk v wr => ∃ (q : Nat) (tv : List (List Bool)), v = .int .i64 q ∧ q ≤ k ∧ gk = k - q ∧ Hid (Tab w wr k k u5 gs tv) ∧ Hid (WK es k q 0 0 tv))
          case atStart => exact ⟨0, _, rfl, Nat.zero_le _, by omega, HT, HW⟩
          case round =>
            clear HT HW
            obtain ⟨q, tv, rfl, hq, hgq, HT, HW⟩ := hrel
            have HG := Lib.hid hgq
            clear hgq
            by_cases hlt3 : q < k
            · go_wp2
              go_loopg [9] k (fun gk v wr => ∃ (a : Nat) (tv : List (List Bool)), v = .int .i64 a ∧ a ≤ k ∧ gk = k - a ∧ Hid (Tab w wr k k u5 gs tv) ∧ Hid (WK es k q a 0 tv))
              case atStart => exact ⟨0, _, rfl, Nat.zero_le _, by omega, HT, HW⟩
              case round =>
                clear HT HW
                obtain ⟨a, tv, rfl, ha, hga, HT, HW⟩ := hrel
                have HG2 := Lib.hid hga
                clear hga
                by_cases hlt4 : a < k
                · go_wp2
                  go_loopg [10] k (fun gk v wr => ∃ (j : Nat) (tv : List (List Bool)), v = .int .i64 j ∧ j ≤ k ∧ gk = k - j ∧ Hid (Tab w wr k k u5 gs tv) ∧ Hid (WK es k q a j tv))
                  case atStart => exact ⟨0, _, rfl, Nat.zero_le _, by omega, HT, HW⟩
                  case round =>
                    clear HT HW
                    obtain ⟨j, tv, rfl, hj, hgj, HT, HW⟩ := hrel
                    have HG3 := Lib.hid hgj
                    clear hgj
                    obtain ⟨gv, cv, hg, ht, hv, d0, d1⟩ := HT.out.at hlt4
                    subst hv
                    obtain ⟨d2, _⟩ := d1 q hlt3
                    have HD1 := Lib.hid d1
                    clear d1
                    cases hik : tg tv a q with
                    | false =>
                      rw [hik] at d2
                      have HW2 := Lib.hid (HW.out.row hlt3 (.inr hik))
                      clear hik
                      go_wp2
                      go_roundg (k - (a + 1))
                      case measure => have := HG2.out; omega
                      case rel => exact ⟨a + 1, _, by go_num, by omega, rfl, HT, HW2⟩
                    | true =>
                      rw [hik] at d2
                      have HIK := Lib.hid hik
                      clear hik
                      by_cases hlt5 : j < k
                      · obtain ⟨d3, z3⟩ := HD1.out j hlt5
                        obtain ⟨gv', cv', hg', ht', hv', d4, d5⟩ := HT.out.at hlt3
                        obtain rfl : gv = gv' := by
                          have h := congrArg Value.ownBlock hv'
                          simpa [Value.ownBlock] using h
                        clear hv'
                        obtain ⟨d6, _⟩ := d5 j hlt5
                        clear d5
                        cases hkj : tg tv q j with
                        | false =>
                          rw [hkj] at d6
                          have HW2 := Lib.hid (HW.out.no hlt3 hlt4 hkj)
                          clear hkj
                          go_wp2
                          go_roundg (k - (j + 1))
                          case measure => have := HG3.out; omega
                          case rel => exact ⟨j + 1, _, by go_num, by omega, rfl, HT, HW2⟩
                        | true =>
                          rw [hkj] at d6
                          have hl := HT.out.ll a ht
                          have HW2 := Lib.hid (HW.out.yes hlt3 HIK.out hkj ht (by omega))
                          have HT2 := Lib.hid (HT.out.set (j := j) hg ht)
                          clear hkj
                          go_upto_region 18 with (fail)
                          clear HT HD1 d0 d2 d3 z3 d4 d6
                          generalize World.setCell _ _ _ = w5 at *
                          go_wp2
                          go_roundg (k - (j + 1))
                          case measure => have := HG3.out; omega
                          case rel => exact ⟨j + 1, _, by go_num, by omega, rfl, HT2, HW2⟩
                      · obtain rfl : j = k := by omega
                        have HW2 := Lib.hid (HW.out.row hlt3 (.inl rfl))
                        go_wp2
                        go_roundg (j - (a + 1))
                        case measure => have := HG2.out; omega
                        case rel => exact ⟨a + 1, _, by go_num, by omega, rfl, HT, HW2⟩
                · obtain rfl : a = k := by omega
                  have HW2 := Lib.hid HW.out.phase
                  go_wp2
                  go_roundg (a - (q + 1))
                  case measure => have := HG.out; omega
                  case rel => exact ⟨q + 1, _, by go_num, by omega, rfl, HT, HW2⟩
            · obtain rfl : q = k := by omega
              go_wp2
              go_ret
              exact ⟨_, _, _, rfl, HT.out, fun u x hu hx => HW.out.last HF.out hu hx⟩
end Go.Proofs.Ytefpglaipnnggaa
