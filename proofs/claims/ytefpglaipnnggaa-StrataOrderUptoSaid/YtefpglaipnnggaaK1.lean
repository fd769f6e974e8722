/- Order and doubles of the edges change nothing; the law of the order: its walk. -/
import Derived.Test.YtefpglaipnnggaaH5
namespace Go.Proofs.Ytefpglaipnnggaa
open Go.RowKit

section
variable {es es' : List E}
theorem Eg_congr (h : ∀ e, e ∈ es ↔ e ∈ es') : Eg es = Eg es' := by
  funext u x
  apply propext
  unfold Eg
  simp only [h]
theorem Fits_congr {x : Int} (h : ∀ e, e ∈ es ↔ e ∈ es') : Fits x es ↔ Fits x es' := by
  unfold Fits
  simp only [h]
theorem Ready_congr {n : Nat} {T : Int → Prop} {p : Int} (h : ∀ e, e ∈ es ↔ e ∈ es') : Ready n es T p ↔ Ready n es' T p := by
  unfold Ready
  rw [Eg_congr h]
  simp only [h]
theorem Steps_congr {n : Nat} {out : List (List Int)} (h : ∀ e, e ∈ es ↔ e ∈ es') (hs : Steps n es out) : Steps n es' out := by
  induction hs with
  | nil => exact .nil
  | snoc _ h2 h3 ih =>
    rw [Eg_congr h]
    exact .snoc ih ((Ready_congr h).1 h2) (fun q hq => h3 q ((Ready_congr h).2 hq))
theorem Comps_congr {x : Int} {ls : List (List Int)} {c : Int} (h : ∀ e, e ∈ es ↔ e ∈ es') (hc : Comps x es ls c) : Comps x es' ls c := by
  rcases hc with ⟨n, h1, h2, h3, h4⟩ | ⟨h1, h2, h3⟩
  · exact .inl ⟨n, h1, (Fits_congr h).1 h2, ⟨Steps_congr h h3.1, h3.2⟩, h4⟩
  · exact .inr ⟨fun k => h1 ((Fits_congr h).2 k), h2, h3⟩
theorem Mp_congr {n : Nat} {M : Int → Int} (h : ∀ e, e ∈ es ↔ e ∈ es') : Mp n es M ↔ Mp n es' M := by
  unfold Mp
  simp only [h]
theorem NoBad_congr (h : ∀ e, e ∈ es ↔ e ∈ es') : NoBad es ↔ NoBad es' := by
  unfold NoBad
  rw [Eg_congr h]
  simp only [h]
theorem LeastL_congr {n : Nat} {l : List Int} (h : ∀ e, e ∈ es ↔ e ∈ es') (hl : LeastL n es l) : LeastL n es' l :=
  ⟨hl.1, (Mp_congr h).1 hl.2.1, fun M hM => hl.2.2 M ((Mp_congr h).2 hM)⟩
theorem Levs_congr {x : Int} {l : List Int} {c : Int} (h : ∀ e, e ∈ es ↔ e ∈ es') (hc : Levs x es l c) : Levs x es' l c := by
  rcases hc with ⟨n, h1, h2, h3, h4⟩ | ⟨n, h1, h2, h3, h4, h5⟩ | ⟨h1, h2, h3⟩
  · exact .inl ⟨n, h1, (Fits_congr h).1 h2, LeastL_congr h h3, h4⟩
  · exact .inr (.inl ⟨n, h1, (Fits_congr h).1 h2, fun k => h3 ((NoBad_congr h).2 k), h4, h5⟩)
  · exact .inr (.inr ⟨fun k => h1 ((Fits_congr h).2 k), h2, h3⟩)
end
theorem Comps.fits {n : Nat} {es : List E} {ls : List (List Int)} {c : Int} (hf : Fits n es) (h : Comps n es ls c) : c = 0 ∧ ls.length ≤ n ∧ (0 < n → 0 < ls.length) := by
  rcases h with ⟨n', h1, h2, h3, h4⟩ | ⟨h1, _, _⟩
  · have : n = n' := by omega
    subst this
    refine ⟨h4, by have := h3.1.count; omega, fun hn => ?_⟩
    obtain ⟨l, hl, _⟩ := h3.2 0 ⟨by omega, by omega⟩
    exact List.length_pos_of_mem hl
  · exact absurd hf h1
theorem Levs.fits {n : Nat} {es : List E} {l : List Int} {c : Int} (hf : Fits n es) (h : Levs n es l c) : (c = 0 ∧ l.length = n) ∨ (c = 40 ∧ l.length = 0) := by
  rcases h with ⟨n', h1, h2, h3, h4⟩ | ⟨n', h1, h2, h3, h4, h5⟩ | ⟨h1, _, _⟩
  · have : n = n' := by omega
    subst this
    exact .inl ⟨h4, h3.1⟩
  · exact .inr ⟨h5, by rw [h4]; rfl⟩
  · exact absurd hf h1

/-- The other list of edges, while it is built. -/
structure OL (W w : World) (v : Value) (es os : List E) : Prop where
  b : Below W.heap.size W w
  row : w.ownsRow W.heap.size 43 4 v os.length (ecells os)
  sub : ∀ e ∈ os, e ∈ es
theorem OL.push {W w w' : World} {v v' : Value} {es os : List E} {e : E} (h : OL W w v es os) (he : e ∈ es) {o : Obj} (hg : (w.alloc o).grownBy w' v.ownBlock) (hown : w'.ownsRow W.heap.size 43 4 v' (os.length + 1) (ecells os ++ e.cells)) : OL W w' v' es (os ++ [e]) :=
  ⟨(h.b.alloc h.b.size _).grown hg (Nat.le_trans h.b.size (by simp)) (fun q hq => (h.row.lt q hq).1), by
    rw [ecells_append, List.length_append]; simpa [ecells] using hown, fun x hx => by
    rcases List.mem_append.1 hx with hx | hx
    · exact h.sub x hx
    · rw [List.mem_singleton.1 hx]; exact he⟩

set_option maxRecDepth 20000 in
set_option maxHeartbeats 4000000 in
theorem StrataOrder_walk (x : Int) (A A' : Option Addr) (m c k c' : Nat) (es : List E) (tw : List Int) (w : World) (hr : Rd w w.heap.size 4 A m (ecells es)) (hr' : Rd w w.heap.size 1 A' k (icells tw))
    (hm : m ≤ 1048576) (hk : k ≤ 1048576) :
    Calls Try.prog 10 #[.int .i64 x, .slice A m c, .slice A' k c'] w fun e w' => e = .returned (.bool true) ∧ Below w.heap.size w w' := by
  obtain ⟨i0, hi, hz0, hz1, hz2⟩ := info_parts Try.info43
  have HR := Lib.hid hr
  have HR' := Lib.hid hr'
  have hlen : es.length = m := by have := hr.1; rw [ecells_length] at this; omega
  have hlen' : tw.length = k := by have := hr'.1; rw [show (icells tw).length = tw.length by simp [icells]] at this; omega
  have HL := Lib.hid hlen
  have HL' := Lib.hid hlen'
  have HM : Hid (m * 32 ≤ 140737488351232) := Lib.hid (by omega)
  clear hr hr' hlen hlen'
  go_enter Try.func10, Try.ntmps10
  go_wp2_with fail
  refine (lawFit_any x A m c es _ HR.out).mono ?_
  rintro e w1 ⟨rfl, rfl⟩
  by_cases hf : Fits x es
  · obtain ⟨n, rfl⟩ : ∃ n : Nat, x = n := ⟨x.toNat, by have := hf.1; omega⟩
    have hfit := (fitB_iff n es).2 hf
    rw [hfit]
    have HF := Lib.hid hf
    have hn : n ≤ 128 := by have := hf.2.1; omega
    clear hf hfit
    have HO1 : Hid (OL w w (.slice none 0 0) es []) := Lib.hid ⟨Below.refl _ _, World.ownsRow_nil _ _ _ _, by simp⟩
    have HA1 : Hid (∀ q, (hq : q < es.length) → m ≤ q → es[q] ∈ ([] : List E)) := Lib.hid fun q hq h => by have := HL.out; omega
    go_wp2
    go_loopg [7, 8] m (fun gk v7 v8 wr => ∃ (os : List E), v8 = .int .i64 ((gk : Int) - 1) ∧ gk ≤ m ∧ Hid (os.length + gk = m) ∧ Hid (OL w wr v7 es os) ∧ Hid (∀ q, (hq : q < es.length) → gk ≤ q → es[q] ∈ os))
    case atStart => exact ⟨[], rfl, Nat.le_refl _, Lib.hid (by simp), HO1, HA1⟩
    case round =>
      clear HO1 HA1
      obtain ⟨os, rfl, hgk, HOL, HO, HA⟩ := hrel
      cases gk with
      | succ i =>
        have hlt : i < m := by omega
        have hil : i < es.length := by have := HL.out; omega
        obtain ⟨b, o, hj1, rfl, hbb, c0, c1, c2, c3⟩ := (HR.out.below HO.out.b).edge i hlt
        have hsz := HO.out.b.size
        have hown := HO.out.row
        have hol := HOL.out
        have hii : (((i + 1 : Nat) : Int) - 1) = (i : Int) := by omega
        rw [hii]
        clear hii
        go_wp2_with (at_builtin; go_must (refine wpList_append_own _ rfl _ _ 23 rfl w.heap.size 43 i0 _ 4 32 Try.underlying23 hi hz0 hz1 hz2 rfl (by decide) _ _ _ rfl (hown.alloc _) ⟨wr.heap.size, 0, none⟩ 1 1 (es[i]).cells rfl rfl (fun j u h => new_cells _ _ _ j u h) (E.one _) (by unfold maxLen; omega) (by omega) (by simp; omega) ?_))
        intro v4 w4 hown4 hg4 _
        have HO4 := Lib.hid (HO.out.push (List.getElem_mem hil) hg4 hown4)
        have HA4 : Hid (∀ q, (hq : q < es.length) → i ≤ q → es[q] ∈ os ++ [es[i]]) := Lib.hid fun q hq h => by
          by_cases e : q = i
          · subst e; simp
          · exact List.mem_append_left _ (HA.out q hq (by omega))
        have HOL4 : Hid ((os ++ [es[i]]).length + i = m) := Lib.hid (by simp; omega)
        clear hown hown4 hg4 c0 c1 c2 c3
        go_wp2
        go_roundg i
        case measure => omega
        case rel => exact ⟨_, by go_num, by omega, HOL4, HO4, HA4⟩
      | zero =>
        have HA5 : Hid (∀ e ∈ es, e ∈ os) := Lib.hid fun e he => by
          obtain ⟨q, hq, rfl⟩ := List.mem_iff_getElem.1 he
          exact HA.out q hq (Nat.zero_le _)
        have HOL5 : Hid (os.length ≤ m + 0) := Lib.hid (by have := HOL.out; omega)
        clear HA
        go_wp2
        go_loopg [7, 9] k (fun gk v7 v9 wr => ∃ (i : Nat) (os : List E), v9 = .int .i64 i ∧ i ≤ k ∧ gk = k - i ∧ Hid (os.length ≤ m + i) ∧ Hid (OL w wr v7 es os) ∧ Hid (∀ e ∈ es, e ∈ os))
        case atStart => exact ⟨0, os, rfl, Nat.zero_le _, by omega, HOL5, HO, HA5⟩
        case round =>
          clear HO HA5 HOL5 HOL
          obtain ⟨i, os, rfl, hik, hgi, HOL, HO, HA⟩ := hrel
          have HG := Lib.hid hgi
          clear hgi
          by_cases hlt : i < k
          · obtain ⟨b2, o2, hj2, rfl, hbb2, t0⟩ := (HR'.out.below HO.out.b).int i hlt
            generalize tw[i] = y at *
            have hstay : ¬ (0 ≤ y ∧ y < m) → True := fun _ => trivial
            by_cases h0 : 0 ≤ y
            · by_cases h1 : y < m
              · obtain ⟨z, rfl⟩ : ∃ z : Nat, y = (z : Int) := ⟨y.toNat, by omega⟩
                have hzm : z < m := by omega
                have hil : z < es.length := by have := HL.out; omega
                obtain ⟨b, o, hj1, rfl, hbb, c0, c1, c2, c3⟩ := (HR.out.below HO.out.b).edge z hzm
                have hsz := HO.out.b.size
                have hown := HO.out.row
                have hol := HOL.out
                go_wp2_with (at_builtin; go_must (refine wpList_append_own _ rfl _ _ 23 rfl w.heap.size 43 i0 _ 4 32 Try.underlying23 hi hz0 hz1 hz2 rfl (by decide) _ _ _ rfl (hown.alloc _) ⟨wr.heap.size, 0, none⟩ 1 1 (es[z]).cells rfl rfl (fun j u h => new_cells _ _ _ j u h) (E.one _) (by unfold maxLen; omega) (by omega) (by simp; omega) ?_))
                intro v4 w4 hown4 hg4 _
                have HO4 := Lib.hid (HO.out.push (List.getElem_mem hil) hg4 hown4)
                have HA4 : Hid (∀ e ∈ es, e ∈ os ++ [es[z]]) := Lib.hid fun e he => List.mem_append_left _ (HA.out e he)
                have HOL4 : Hid ((os ++ [es[z]]).length ≤ m + (i + 1)) := Lib.hid (by simp; omega)
                clear hown hown4 hg4 c0 c1 c2 c3 t0
                go_wp2
                go_roundg (k - (i + 1))
                case measure => have := HG.out; omega
                case rel => exact ⟨i + 1, _, by go_num, by omega, rfl, HOL4, HO4, HA4⟩
              · go_wp2
                go_roundg (k - (i + 1))
                case measure => have := HG.out; omega
                case rel => exact ⟨i + 1, os, by go_num, by omega, rfl, Lib.hid (by have := HOL.out; omega), HO, HA⟩
            · go_wp2
              go_roundg (k - (i + 1))
              case measure => have := HG.out; omega
              case rel => exact ⟨i + 1, os, by go_num, by omega, rfl, Lib.hid (by have := HOL.out; omega), HO, HA⟩
          · obtain rfl : i = k := by omega
            have HSET : Hid (∀ e, e ∈ os ↔ e ∈ es) := Lib.hid fun e => ⟨HO.out.sub e, HA.out e⟩
            have HMO : Hid (os.length * 32 ≤ 140737488351232) := Lib.hid (by have := HOL.out; omega)
            have HB0 := Lib.hid HO.out.b
            have hrow := HO.out.row
            have hlb : os.length ≤ 9223372036854775807 := by have := HOL.out; omega
            obtain ⟨AO, cO, rfl, _⟩ := own_slice hrow
            have HOW := Lib.hid hrow
            clear hrow HO HA HOL HG
            generalize os.length = ol at *
            go_wp2_with fail
            refine (edges_sl A m c es _ (HR.out.up HB0.out HB0.out.size) HM.out).mono ?_
            rintro e w2 ⟨A2, c2, rfl, _, hrd2, hb2⟩
            have HB2 := Lib.hid (HB0.out.trans (hb2.mono HB0.out.size))
            have HOW2 := Lib.hid (own_below HOW.out hb2)
            have HR2 := Lib.hid hrd2
            clear hrd2 hb2 HB0 HOW
            go_wp2_with fail
            refine (progComps_all A2 m c2 n es _ HR2.out HM.out).mono ?_
            rintro e w3 ⟨vG, vsG, lsG, codeG, rfl, hb3, hL3, hC3⟩
            have HCG := Lib.hid hC3
            obtain ⟨AG, cG, rfl, hRG⟩ := hL3.rd
            have HRG := Lib.hid hRG
            have HB3 := Lib.hid (HB2.out.trans (hb3.mono HB2.out.size))
            have HOW3 := Lib.hid (own_below HOW2.out hb3)
            clear hb3 hL3 hC3 hRG HB2 HOW2 HR2
            go_wp2_with fail
            refine (progComps_all AO ol cO n os _ (own_rd HOW3.out) HMO.out).mono ?_
            rintro e w4 ⟨vK, vsK, lsK, codeK, rfl, hb4, hL4, hC4⟩
            obtain ⟨e1, e2⟩ := (Comps_congr HSET.out hC4).unique HCG.out
            subst e1 e2
            obtain ⟨AK, cK, rfl, hRK⟩ := hL4.rd
            have HRK := Lib.hid hRK
            have HRG := Lib.hid (HRG.out.up hb4)
            have HB4 := Lib.hid (HB3.out.trans (hb4.mono HB3.out.size))
            have HOW4 := Lib.hid (own_below HOW3.out hb4)
            clear hb4 hL4 hC4 hRK HB3 HOW3
            go_wp2_with fail
            refine (edges_sl A m c es _ (HR.out.up HB4.out HB4.out.size) HM.out).mono ?_
            rintro e w5 ⟨A5, c5, rfl, _, hrd5, hb5⟩
            have HB5 := Lib.hid (HB4.out.trans (hb5.mono HB4.out.size))
            have HOW5 := Lib.hid (own_below HOW4.out hb5)
            have HRG := Lib.hid (HRG.out.up hb5)
            have HRK := Lib.hid (HRK.out.up hb5)
            have HR5 := Lib.hid hrd5
            clear hrd5 hb5 HB4 HOW4
            go_wp2_with fail
            refine (progLevels_all A5 m c5 n es _ HR5.out HM.out).mono ?_
            rintro e w6 ⟨vL, lL, codeL, rfl, hb6, hL6, hC6⟩
            have HCL := Lib.hid hC6
            obtain ⟨AL, cL, rfl, hRL⟩ := own_slice hL6
            have HRL := Lib.hid hRL
            have HB6 := Lib.hid (HB5.out.trans (hb6.mono HB5.out.size))
            have HOW6 := Lib.hid (own_below HOW5.out hb6)
            have HRG := Lib.hid (HRG.out.up hb6)
            have HRK := Lib.hid (HRK.out.up hb6)
            clear hb6 hL6 hC6 hRL HB5 HOW5 HR5
            go_wp2_with fail
            refine (progLevels_all AO ol cO n os _ (own_rd HOW6.out) HMO.out).mono ?_
            rintro e w7 ⟨vN, lN, codeN, rfl, hb7, hL7, hC7⟩
            obtain ⟨e1, e2⟩ := (Levs_congr HSET.out hC7).unique HCL.out
            subst e1 e2
            obtain ⟨AN, cN, rfl, hRN⟩ := own_slice hL7
            have HRN := Lib.hid hRN
            have HRL := Lib.hid (HRL.out.up hb7 hb7.size)
            have HRG := Lib.hid (HRG.out.up hb7)
            have HRK := Lib.hid (HRK.out.up hb7)
            have HB7 := Lib.hid (HB6.out.trans (hb7.mono HB6.out.size))
            clear hb7 hL7 hC7 hRN HB6 HOW6
            obtain ⟨hcg, hln, hlp⟩ := HCG.out.fits HF.out
            subst hcg
            have hlv := HCL.out.fits HF.out
            have hcc : (codeN == codeN) = true := by simp
            have hgt : decide ((n : Int) < (lsK.length : Int)) = false := by simp; omega
            generalize hlk : lsK.length = lk at *
            have HLK := Lib.hid hlk
            clear hlk HCG HCL
            generalize hll : lN.length = ll at *
            have HLL := Lib.hid hll
            clear hll
            have hz0' : n = 0 ∨ 0 < lk := by omega
            have hql : decide (lN = lN) = true := by simp
            clear hgt
            rcases Nat.eq_zero_or_pos n with hn0 | hn0
            · subst hn0
              obtain rfl : lk = 0 := by omega
              clear hz0' hlp hln
              rcases hlv with ⟨rfl, rfl⟩ | ⟨rfl, rfl⟩
              all_goals
                go_wp2_with fail
                refine (equalLists_same _ _ _ _ _ vsG vsK lsK _ HRG.out HRK.out).mono ?_
                rintro e w8 ⟨rfl, q8, hq8⟩
                have HB8 := Lib.hid (HB7.out.trans ((below_drewN (Below.refl _ _) q8).mono HB7.out.size))
                have HRL8 := Lib.hid (HRL.out.up (below_drewN (Below.refl w7.heap.size w7) q8) (below_drewN (Below.refl w7.heap.size w7) q8).size)
                have HRN8 := Lib.hid (HRN.out.up (below_drewN (Below.refl w7.heap.size w7) q8) (below_drewN (Below.refl w7.heap.size w7) q8).size)
                rw [hq8] at HB8 HRL8 HRN8
                clear hq8
                go_wp2_with fail
                refine (equalInts_any _ _ _ _ _ _ lN lN _ HRL8.out HRN8.out).mono ?_
                rintro e w9 ⟨rfl, q9, hq9⟩
                have HB9 := Lib.hid (HB8.out.trans ((below_drewN (Below.refl _ _) q9).mono HB8.out.size))
                rw [hq9] at HB9
                clear hq9
                go_wp2
                go_ret
                exact ⟨rfl, HB9.out⟩
            · have hp1 : decide ((0 : Int) < (n : Int)) = true := by simp; omega
              have hp2 : ((lk : Int) == 0) = false := by simp; omega
              have hp3 : decide ((n : Int) < (lk : Int)) = false := by simp; omega
              rcases hlv with ⟨rfl, rfl⟩ | ⟨rfl, rfl⟩
              all_goals
                go_wp2_with fail
                refine (equalLists_same _ _ _ _ _ vsG vsK lsK _ HRG.out HRK.out).mono ?_
                rintro e w8 ⟨rfl, q8, hq8⟩
                have HB8 := Lib.hid (HB7.out.trans ((below_drewN (Below.refl _ _) q8).mono HB7.out.size))
                have HRL8 := Lib.hid (HRL.out.up (below_drewN (Below.refl w7.heap.size w7) q8) (below_drewN (Below.refl w7.heap.size w7) q8).size)
                have HRN8 := Lib.hid (HRN.out.up (below_drewN (Below.refl w7.heap.size w7) q8) (below_drewN (Below.refl w7.heap.size w7) q8).size)
                rw [hq8] at HB8 HRL8 HRN8
                clear hq8
                go_wp2_with fail
                refine (equalInts_any _ _ _ _ _ _ lN lN _ HRL8.out HRN8.out).mono ?_
                rintro e w9 ⟨rfl, q9, hq9⟩
                have HB9 := Lib.hid (HB8.out.trans ((below_drewN (Below.refl _ _) q9).mono HB8.out.size))
                rw [hq9] at HB9
                clear hq9
                go_wp2
                go_ret
                exact ⟨rfl, HB9.out⟩
  · have hfit := fitB_false hf
    rw [hfit]
    go_wp2
    go_ret
    exact ⟨rfl, Below.refl _ _⟩
end Go.Proofs.Ytefpglaipnnggaa
