/- StrataApart: its walk. -/
import Derived.Test.YtefpglaipnnggaaG1
namespace Go.Proofs.Ytefpglaipnnggaa
open Go.RowKit

theorem RdL.row {w : World} {A : Option Addr} {n : Nat} {vs : List Value} {ls : List (List Int)} (h : RdL w A n vs ls) {i : Nat} (hi : i < ls.length) (hp : 0 < ls[i].length) :
    ∃ b o b' o' ci, A = some ⟨b, o, none⟩ ∧ b < w.heap.size ∧ b' < w.heap.size ∧ w.cell? ⟨b, o + i, none⟩ = some (.slice (some ⟨b', o', none⟩) ls[i].length ci) ∧ ls[i].length ≤ 9223372036854775807 ∧ ∀ j, (hj : j < ls[i].length) → w.cell? ⟨b', o' + j, none⟩ = some (.int .i64 ls[i][j]) := by
  have hl := h.len
  have hv : vs.length = n := by have := h.rd.1; omega
  obtain ⟨b, o, hA, hb, hc⟩ := h.rd.2.2 (by omega)
  obtain ⟨Ai, ci, e, hr⟩ := h.at_ i (by omega) hi
  obtain ⟨b', o', hA', hb', hc'⟩ := hr.2.2 hp
  subst hA'
  refine ⟨b, o, b', o', ci, hA, hb, hb', ?_, hr.2.1, fun j hj => hc' j _ (icells_get hj)⟩
  rw [hc i _ (List.getElem?_eq_getElem (by omega)), e]

/-- Where each predicate stands: behind i lists and j of the next. -/
def Wh (n : Nat) (ls : List (List Int)) (i j : Nat) (wl : List Int) : Prop :=
  wl.length = n ∧ (∀ a, (ha : a < ls.length) → a < i → ∀ p ∈ ls[a], lv wl p = (a : Int)) ∧ (∀ ha : i < ls.length, ∀ p ∈ ls[i].take j, lv wl p = (i : Int)) ∧
  (∀ p, Vx n p → (∀ a, (ha : a < ls.length) → a < i → p ∉ ls[a]) → (∀ ha : i < ls.length, p ∉ ls[i].take j) → lv wl p = -1)
theorem Wh.next {n : Nat} {es : List E} {ls : List (List Int)} {i j : Nat} {wl : List Int} (hs : Steps n es ls) (h : Wh n ls i j wl) (hi : i < ls.length) (hj : j < ls[i].length) :
    lv wl ls[i][j] = -1 ∧ Wh n ls i (j + 1) (wl.set ls[i][j].toNat i) := by
  obtain ⟨h1, h2, h3, h4⟩ := h
  have hm : ls[i][j] ∈ ls[i] := List.getElem_mem hj
  have hv := hs.vx hi hm
  have hpl : ls[i][j].toNat < wl.length := by have := hv.1; have := hv.2; omega
  have htk : ls[i].take (j + 1) = ls[i].take j ++ [ls[i][j]] := take_snoc _ _ hj
  have hnj : ls[i][j] ∉ ls[i].take j := fun hx => by
    obtain ⟨k, hk, e⟩ := List.mem_iff_getElem.1 hx
    rw [List.length_take] at hk
    rw [List.getElem_take] at e
    exact absurd e (List.pairwise_iff_getElem.1 (hs.nodup hi) k j (by omega) hj (by omega))
  have hna : ∀ a, (ha : a < ls.length) → a < i → ls[i][j] ∉ ls[a] := fun a ha hlt hx => by have := hs.disj ha hi hx hm; omega
  refine ⟨h4 _ hv hna (fun _ => hnj), by simpa using h1, fun a ha hlt p hp => ?_, fun ha p hp => ?_, fun p hp ha hb => ?_⟩
  · rw [lv_set hpl, if_neg (fun e => ?_)]
    · exact h2 a ha hlt p hp
    · have hvp := hs.vx ha hp
      have : p = ls[i][j] := by have := hv.1; have := hvp.1; omega
      exact hna a ha hlt (this ▸ hp)
  · rw [htk] at hp
    rw [lv_set hpl]
    by_cases e : p.toNat = ls[i][j].toNat
    · rw [if_pos e]
    · rw [if_neg e]
      rcases List.mem_append.1 hp with hp | hp
      · exact h3 ha p hp
      · rw [List.mem_singleton.1 hp] at e; exact absurd rfl e
  · have hb' := hb hi
    rw [htk, List.mem_append, List.mem_singleton, not_or] at hb'
    rw [lv_set hpl, if_neg (fun e => hb'.2 (by have := hv.1; have := hp.1; omega))]
    exact h4 p hp ha (fun _ => hb'.1)
theorem Wh.row {n : Nat} {ls : List (List Int)} {i : Nat} {wl : List Int} (hi : i < ls.length) (h : Wh n ls i ls[i].length wl) : Wh n ls (i + 1) 0 wl := by
  obtain ⟨h1, h2, h3, h4⟩ := h
  refine ⟨h1, fun a ha hlt p hp => ?_, fun ha p hp => by simp at hp, fun p hp ha hb => h4 p hp (fun a h1 h2 => ha a h1 (by omega)) (fun _ => by rw [List.take_length]; exact ha i hi (by omega))⟩
  by_cases e : a = i
  · subst e; exact h3 hi p (by rw [List.take_length]; exact hp)
  · exact h2 a ha (by omega) p hp
theorem flat_take (ls : List (List Int)) (i : Nat) (hi : i < ls.length) : (ls.take (i + 1)).flatten.length = (ls.take i).flatten.length + ls[i].length := by
  rw [take_snoc _ _ hi, List.flatten_append, List.length_append]; simp

set_option maxRecDepth 20000 in
set_option maxHeartbeats 4000000 in
theorem StrataApart_walk (x : Int) (A : Option Addr) (m c : Nat) (es : List E) (w : World) (hr : Rd w w.heap.size 4 A m (ecells es)) (hreach : m * 32 ≤ 140737488351232) :
    Calls Try.prog 7 #[.int .i64 x, .slice A m c] w fun e w' => e = .returned (.bool true) ∧ Below w.heap.size w w' := by
  obtain ⟨i0, hi, hz0, hz1, hz2⟩ := info_parts Try.info3
  obtain ⟨i2, hi2, hb0, hb1, hb2⟩ := info_parts Try.info4
  have HR := Lib.hid hr
  have HM : Hid (m * 32 ≤ 140737488355328) := Lib.hid (Nat.le_trans hreach (by decide))
  have hlen : es.length = m := by have := hr.1; rw [ecells_length] at this; omega
  have HL := Lib.hid hlen
  have hmb := hr.2.1
  clear hr hreach hlen
  by_cases hf : Fits x es
  · obtain ⟨n, rfl⟩ : ∃ n : Nat, x = n := ⟨x.toNat, by have := hf.1; omega⟩
    have hn : n ≤ 128 := by have := hf.2.1; omega
    have HF := Lib.hid hf
    have hfit := (fitB_iff n es).2 hf
    clear hf
    have mk3 : ∀ W : World, (Instr.makeSlice 37 (.int .i64 (n : Int)) (.int .i64 (n : Int))).run Try.prog W = .ok (.slice (some ⟨W.heap.size, 0, none⟩) n n) (W.alloc (.cells (zints n) 3)) := fun W => by
      rw [run_make_rowN 37 3 i0 _ Try.underlying37 hi hz0 _ _ n n (Nat.le_refl _) (by rw [hz2]; omega) (by omega) W, hz1, made_one _ rfl]
      simp [zints, icells]
    have mk4 : ∀ W : World, (Instr.makeSlice 52 (.int .i64 (n : Int)) (.int .i64 (n : Int))).run Try.prog W = .ok (.slice (some ⟨W.heap.size, 0, none⟩) n n) (W.alloc (.cells (bcells (List.replicate n false)).toArray 4)) := fun W => by
      rw [run_make_rowN 52 4 i2 _ Try.underlying52 hi2 hb0 _ _ n n (Nat.le_refl _) (by rw [hb2]; omega) (by omega) W, hb1, made_one _ rfl]
      simp [bcells]
    go_enter Try.func7, Try.ntmps7
    go_wp2_with fail
    refine (lawFit_any n A m c es _ HR.out).mono ?_
    rintro e w1 ⟨rfl, rfl⟩
    rw [hfit]
    clear hfit
    go_wp2_with fail
    refine (edges_sl A m c es _ HR.out HM.out).mono ?_
    rintro e w2 ⟨A2, c2, rfl, _, hrd2, hb2'⟩
    have HB2 := Lib.hid hb2'
    have HR2 := Lib.hid hrd2
    clear hrd2 hb2'
    go_wp2_with fail
    refine (progComps_any A2 m c2 n es _ HR2.out HF.out HM.out).mono ?_
    rintro e w3 ⟨v3, vs, ls, rfl, hb3, hL3, hD3⟩
    obtain ⟨A5, c5, rfl, hR5⟩ := hL3.rd
    have HDN := Lib.hid hD3
    have HRL := Lib.hid hR5
    have HB3 := Lib.hid (HB2.out.trans (hb3.mono HB2.out.size))
    have hL128 : ls.length ≤ 128 := by have := hD3.1.count; omega
    have HNE : Hid (∀ i, (h : i < ls.length) → 0 < ls[i].length) := Lib.hid fun i h => by
      obtain ⟨p, hp, e⟩ := hD3.1.lists _ (List.getElem_mem h)
      rw [e]; exact List.length_pos_of_mem (mem_cls.2 ⟨hp, Scc.refl _⟩)
    clear hb3 hL3 hD3 hR5 HR2 HB2
    obtain ⟨L, hLl⟩ : ∃ L, ls.length = L := ⟨_, rfl⟩
    rw [hLl] at hL128 HRL ⊢
    have HLL := Lib.hid hLl
    clear hLl
    go_upto_region 7 with (fail)
    have HB4 : Hid (Below w3.heap.size w3 (w3.alloc (.cells (zints n) 3))) := Lib.hid ((Below.refl _ _).alloc (Nat.le_refl _) _)
    have HW4 : Hid (Blk (w3.alloc (.cells (zints n) 3)) w3.heap.size 3 (icells (List.replicate 0 (-1) ++ List.replicate (n - 0) 0))) := Lib.hid (by simpa [zints] using Blk.new w3 3 (icells (List.replicate n 0)))
    generalize World.alloc _ _ = w4 at *
    generalize hS : w3.heap.size = S at *
    have HS := Lib.hid hS
    have HwS : Hid (w.heap.size ≤ S) := Lib.hid (by have := HB3.out.size; omega)
    clear hS mk3
    go_wp2
    go_loopg [8] n (fun gk v wr => ∃ (k : Nat), v = .int .i64 k ∧ k ≤ n ∧ gk = n - k ∧ Hid (Below S w3 wr) ∧ Hid (Blk wr S 3 (icells (List.replicate k (-1) ++ List.replicate (n - k) 0))))
    case atStart => exact ⟨0, rfl, Nat.zero_le _, by omega, HB4, HW4⟩
    case round =>
      clear HB4 HW4
      obtain ⟨k, rfl, hk, hgk, HB, HW⟩ := hrel
      have HG := Lib.hid hgk
      clear hgk
      by_cases hlt : k < n
      · have y0 : wr.cell? ⟨S, k, none⟩ = some (.int .i64 0) := by rw [HW.out.cell]; exact rep_at hlt
        have z0 := HW.out.frozen k
        go_upto_region 9 with (fail)
        have HB5 := Lib.hid (HB.out.setCell (p := ⟨S, k, none⟩) (Nat.le_refl _) (.int .i64 (-1)))
        have HW5 : Hid (Blk (wr.setCell ⟨S, k, none⟩ (.int .i64 (-1))) S 3 (icells (List.replicate (k + 1) (-1) ++ List.replicate (n - (k + 1)) 0))) := by
          have h := HW.out.set_ k (.int .i64 (-1))
          rw [icells_set] at h
          have e : (List.replicate k (-1 : Int) ++ List.replicate (n - k) 0).set k (-1) = List.replicate (k + 1) (-1) ++ List.replicate (n - (k + 1)) 0 := by
            rw [List.set_append, if_neg (by simp)]
            obtain ⟨d, hd⟩ : ∃ d, n - k = d + 1 := ⟨n - k - 1, by omega⟩
            rw [hd, List.replicate_succ (n := d), show n - (k + 1) = d by omega, List.replicate_succ' (n := k)]
            simp
          rw [e] at h
          exact Lib.hid h
        clear HB HW y0 z0
        generalize World.setCell _ _ _ = w5 at *
        go_wp2
        go_roundg (n - (k + 1))
        case measure => have := HG.out; omega
        case rel => exact ⟨k + 1, by go_num, by omega, rfl, HB5, HW5⟩
      · obtain rfl : k = n := by omega
        have HW1 : Hid (Wh k ls 0 0 (List.replicate k (-1))) := Lib.hid ⟨by simp, fun a ha h => by omega, fun ha p hp => by simp at hp, fun p hp _ _ => lv_rep1 k p hp⟩
        have HW2 : Hid (Blk wr S 3 (icells (List.replicate k (-1)))) := by have := HW.out; simpa using Lib.hid this
        clear HW HG
        go_wp2
        go_loopg [10, 9] L (fun gk v10 v9 wr => ∃ (i : Nat) (wl : List Int), v10 = .int .i64 i ∧ v9 = .int .i64 (((ls.take i).flatten.length : Nat) : Int) ∧ i ≤ L ∧ gk = L - i ∧ Hid (Below S w3 wr) ∧ Hid (Blk wr S 3 (icells wl)) ∧ Hid (Wh k ls i 0 wl))
        case atStart => exact ⟨0, _, rfl, by simp, Nat.zero_le _, by omega, HB, HW2, HW1⟩
        case round =>
          clear HB HW2 HW1
          obtain ⟨i, wl, rfl, rfl, hi9, hgi, HB, HW, HWH⟩ := hrel
          have HG := Lib.hid hgi
          clear hgi
          by_cases hlt2 : i < L
          · have hil : i < ls.length := by have := HLL.out; omega
            obtain ⟨b, o, b', o', ci, hA, hbS, hbS', d0, hl63, hcc⟩ := HRL.out.row hil (HNE.out i hil)
            rw [HS.out] at hbS hbS'
            subst hA
            have hfl : (ls.take i).flatten.length + ls[i].length ≤ k := by
              have h1 := flat_take ls i hil
              have h2 := HDN.out.flat_length
              have h3 : (ls.take (i + 1)).flatten.length ≤ ls.flatten.length := by
                have h4 : ls.flatten = (ls.take (i + 1)).flatten ++ (ls.drop (i + 1)).flatten := by rw [← List.flatten_append, List.take_append_drop]
                rw [h4, List.length_append]; omega
              omega
            have HCC := Lib.hid hcc
            have hpos := HNE.out i hil
            clear hcc
            obtain ⟨ll, hll⟩ : ∃ ll, ls[i].length = ll := ⟨_, rfl⟩
            rw [hll] at d0 hfl hpos hl63
            have D0 := Lib.hid d0
            have d0 := (HB.out.cell (p := ⟨b, o + i, none⟩) hbS).trans D0.out
            have HLEN := Lib.hid hll
            clear hll
            obtain ⟨fl, hfl0⟩ : ∃ fl, (ls.take i).flatten.length = fl := ⟨_, rfl⟩
            rw [hfl0] at hfl ⊢
            have HFL := Lib.hid hfl0
            clear hfl0
            have hne0 : (((ll : Nat) : Int) == 0) = false := by simp; omega
            obtain ⟨wq, hwq⟩ : ∃ x, x = wr := ⟨wr, rfl⟩
            subst hwq
            go_wp2
            go_loopg [11, 9] ll (fun gk v11 v9 wr => ∃ (j : Nat) (wl : List Int), v11 = .int .i64 j ∧ v9 = .int .i64 ((fl + j : Nat) : Int) ∧ j ≤ ll ∧ gk = ll - j ∧ Hid (Below S w3 wr) ∧ Hid (Blk wr S 3 (icells wl)) ∧ Hid (Wh k ls i j wl))
            case atStart => exact ⟨0, wl, rfl, rfl, Nat.zero_le _, by omega, HB, HW, HWH⟩
            case round =>
              clear HB HW HWH d0
              obtain ⟨j, wl, rfl, rfl, hj, hgj, HB, HW, HWH⟩ := hrel
              have HG2 := Lib.hid hgj
              clear hgj
              have d0 := (HB.out.cell (p := ⟨b, o + i, none⟩) hbS).trans D0.out
              by_cases hlt3 : j < ll
              · have hjl : j < ls[i].length := by have := HLEN.out; omega
                have d1 := (HB.out.cell (p := ⟨b', o' + j, none⟩) hbS').trans (HCC.out j hjl)
                have hv := HDN.out.1.vx hil (List.getElem_mem hjl)
                have hnx := Wh.next HDN.out.1 HWH.out hil hjl
                have HNX := Lib.hid hnx.2
                have hlv := hnx.1
                have hwl := HWH.out.1
                clear hnx
                generalize hpe : ls[i][j] = p at *
                have HPE := Lib.hid hpe
                clear hpe
                obtain ⟨q, rfl⟩ : ∃ q : Nat, p = (q : Int) := ⟨p.toNat, by have := hv.1; omega⟩
                have hq : (q : Int) < (k : Int) := hv.2
                have y0 : wr.cell? ⟨S, q, none⟩ = some (.int .i64 (-1)) := by
                  have h := icells_lv (l := wl) (i := (q : Int)) (by omega) (by omega)
                  rw [Int.toNat_natCast, hlv] at h
                  exact (HW.out.cell q).trans h
                have z0 := HW.out.frozen q
                have hq0 : decide ((q : Int) < 0) = false := by simp
                clear hlv hwl hv
                rw [Int.toNat_natCast] at HNX
                go_upto_region 24 with (fail)
                have HB5 := Lib.hid (HB.out.setCell (p := ⟨S, q, none⟩) (Nat.le_refl _) (.int .i64 (i : Int)))
                have HW5 := Lib.hid (HW.out.set_ q (.int .i64 (i : Int)))
                rw [icells_set] at HW5
                clear HB HW y0 z0 d0 d1
                generalize World.setCell _ _ _ = w5 at *
                go_wp2
                go_roundg (ll - (j + 1))
                case measure => have := HG2.out; omega
                case rel => exact ⟨j + 1, _, by go_num, by go_num, by omega, rfl, HB5, HW5, HNX⟩
              · obtain rfl : j = ll := by omega
                have HWR : Hid (Wh k ls (i + 1) 0 wl) := Lib.hid (Wh.row hil (by rw [HLEN.out]; exact HWH.out))
                have hfl2 : (ls.take (i + 1)).flatten.length = fl + j := by rw [flat_take ls i hil, HFL.out, HLEN.out]
                have HF2 := Lib.hid hfl2
                clear hfl2
                go_wp2
                go_roundg (L - (i + 1))
                case measure => have := HG.out; omega
                case rel => exact ⟨i + 1, wl, by go_num, by rw [HF2.out], by omega, rfl, HB, HW, HWR⟩
          · obtain rfl : i = L := by omega
            have hfin : (ls.take i).flatten.length = k := by rw [List.take_of_length_le (by have := HLL.out; omega)]; exact HDN.out.flat_length
            rw [hfin]
            have HWF : Hid (wl.length = k ∧ ∀ a, (ha : a < ls.length) → ∀ p ∈ ls[a], lv wl p = (a : Int)) := Lib.hid ⟨HWH.out.1, fun a ha p hp => HWH.out.2.1 a ha (by have := HLL.out; omega) p hp⟩
            clear hfin HWH HG
            go_wp2
            go_loopg [13] m (fun gk v wr => ∃ (j : Nat), v = .int .i64 j ∧ j ≤ m ∧ gk = m - j ∧ Hid (Below S w3 wr) ∧ Hid (Blk wr S 3 (icells wl)))
            case atStart => exact ⟨0, rfl, Nat.zero_le _, by omega, HB, HW⟩
            case round =>
              clear HB HW
              obtain ⟨j, rfl, hj, hgj, HB, HW⟩ := hrel
              have HG := Lib.hid hgj
              clear hgj
              by_cases hlt3 : j < m
              · obtain ⟨b, o, hj1, rfl, hbb, c0, c1, _, _⟩ := (HR.out.below (HB3.out.trans (HB.out.mono HwS.out))).edge j hlt3
                have hok := HF.out.2.2 _ (List.getElem_mem hj1)
                have hwl := HWF.out.1
                have hidx : ∃ a b : Nat, lv wl es[j].f = (a : Int) ∧ lv wl es[j].t = (b : Int) ∧ a ≤ b ∧ b < i := by
                  obtain ⟨l1, hl1, hf1⟩ := HDN.out.2 es[j].f ⟨hok.1, hok.2.1⟩
                  obtain ⟨l2, hl2, hf2⟩ := HDN.out.2 es[j].t ⟨hok.2.2.1, hok.2.2.2⟩
                  obtain ⟨a, ha, rfl⟩ := List.mem_iff_getElem.1 hl1
                  obtain ⟨b, hb, rfl⟩ := List.mem_iff_getElem.1 hl2
                  exact ⟨a, b, HWF.out.2 a ha _ hf1, HWF.out.2 b hb _ hf2, HDN.out.1.edge HF.out (List.getElem_mem hj1) ha hb hf1 hf2, by have := HLL.out; omega⟩
                generalize es[j] = e at *
                obtain ⟨ef, et, en, er⟩ := e
                obtain ⟨p1, p2, p3, p4⟩ := hok
                dsimp only at c0 c1 p1 p2 p3 p4 hidx
                obtain ⟨f, rfl⟩ : ∃ f : Nat, ef = (f : Int) := ⟨ef.toNat, by omega⟩
                obtain ⟨t, rfl⟩ : ∃ t : Nat, et = (t : Int) := ⟨et.toNat, by omega⟩
                obtain ⟨a, b2, ha, hb2, hab, hbi⟩ := hidx
                have y0 : wr.cell? ⟨S, f, none⟩ = some (.int .i64 (a : Int)) := by
                  have h := icells_lv (l := wl) (i := (f : Int)) (by omega) (by omega)
                  rw [Int.toNat_natCast, ha] at h
                  exact (HW.out.cell f).trans h
                have y1 : wr.cell? ⟨S, t, none⟩ = some (.int .i64 (b2 : Int)) := by
                  have h := icells_lv (l := wl) (i := (t : Int)) (by omega) (by omega)
                  rw [Int.toNat_natCast, hb2] at h
                  exact (HW.out.cell t).trans h
                have hcmp : decide ((b2 : Int) < (a : Int)) = false := by simp; omega
                clear ha hb2 hwl
                go_upto_region 30 with (fail)
                go_quiet (fail)
                go_wp2
                go_roundg (m - (j + 1))
                case measure => have := HG.out; omega
                case rel => exact ⟨j + 1, by go_num, by omega, rfl, Lib.hid (below_drewN HB.out _), Lib.hid (HW.out.drewN _)⟩
              · obtain rfl : j = m := by omega
                clear HW HG HWF
                go_wp2
                go_loopg [14] i (fun gk v wr => ∃ (a : Nat), v = .int .i64 a ∧ a ≤ i ∧ gk = i - a ∧ Hid (Below S w3 wr))
                case atStart => exact ⟨0, rfl, Nat.zero_le _, by omega, HB⟩
                case round =>
                  clear HB
                  obtain ⟨a, rfl, ha, hga, HB⟩ := hrel
                  have HG := Lib.hid hga
                  clear hga
                  by_cases hlt4 : a < i
                  · have hil : a < ls.length := by have := HLL.out; omega
                    obtain ⟨p, _, hcl⟩ := HDN.out.1.at a hil
                    obtain ⟨b, o, b', o', ci, hA, hbS, hbS', d0, hl63, hcc⟩ := HRL.out.row hil (HNE.out a hil)
                    rw [HS.out] at hbS hbS'
                    subst hA
                    have HCC := Lib.hid hcc
                    have hpos := HNE.out a hil
                    clear hcc
                    obtain ⟨ll, hll⟩ : ∃ ll, ls[a].length = ll := ⟨_, rfl⟩
                    rw [hll] at d0 hpos hl63
                    have HLEN := Lib.hid hll
                    have D0 := Lib.hid d0
                    have HCLS := Lib.hid hcl
                    have HSZ : Hid (S ≤ wr.heap.size) := Lib.hid (by have := HB.out.size; have := HS.out; omega)
                    clear hll d0 hcl
                    go_upto_region 36 with (fail)
                    have HB6 := Lib.hid (HB.out.alloc HSZ.out (.cells (bcells (List.replicate k false)).toArray 4))
                    have HI6 := Lib.hid (Blk.new wr 4 (bcells (List.replicate k false)))
                    clear HB
                    generalize hG : wr.heap.size = G at *
                    have HSG := HSZ
                    clear HSZ
                    generalize World.alloc _ _ = w6 at *
                    clear hG
                    go_wp2
                    go_loopg [16] ll (fun gk v wr => ∃ (q : Nat) (inl : List Bool), v = .int .i64 q ∧ q ≤ ll ∧ gk = ll - q ∧ Hid (Below S w3 wr) ∧ Hid (Blk wr G 4 (bcells inl)) ∧ Hid (inl.length = k ∧ ∀ x, Vx k x → (tl1 inl x = true ↔ x ∈ ls[a].take q)))
                    case atStart => exact ⟨0, _, rfl, Nat.zero_le _, by omega, HB6, HI6, Lib.hid ⟨by simp, fun x hx => by simp [tl1, List.getD_eq_getElem?_getD, List.getElem?_replicate]; split <;> simp⟩⟩
                    case round =>
                      clear HB6 HI6
                      obtain ⟨q, inl, rfl, hq, hgq, HB, HI, HIN⟩ := hrel
                      have HG2 := Lib.hid hgq
                      clear hgq
                      have d0 := (HB.out.cell (p := ⟨b, o + a, none⟩) hbS).trans D0.out
                      by_cases hlt5 : q < ll
                      · have hjl : q < ls[a].length := by have := HLEN.out; omega
                        have d1 := (HB.out.cell (p := ⟨b', o' + q, none⟩) hbS').trans (HCC.out q hjl)
                        have hv := HDN.out.1.vx hil (List.getElem_mem hjl)
                        have htk := take_snoc ls[a] q hjl
                        generalize hpe : ls[a][q] = p1 at *
                        obtain ⟨r, rfl⟩ : ∃ r : Nat, p1 = (r : Int) := ⟨p1.toNat, by have := hv.1; omega⟩
                        have hrk : (r : Int) < (k : Int) := hv.2
                        have hil2 := HIN.out.1
                        have y0 := HI.out.bool (i := r) (by omega)
                        have z0 := HI.out.frozen r
                        have HX : Hid ((inl.set r true).length = k ∧ ∀ x, Vx k x → (tl1 (inl.set r true) x = true ↔ x ∈ ls[a].take (q + 1))) := Lib.hid ⟨by simpa using hil2, fun x hx => by
                          have hx0 := hx.1
                          rw [tl1_set (by omega), htk, List.mem_append, List.mem_singleton, ← HIN.out.2 x hx]
                          by_cases e : x.toNat = r
                          · have : x = (r : Int) := by omega
                            simp [this]
                          · have : ¬ x = (r : Int) := by omega
                            rw [if_neg e]; simp [this]⟩
                        clear hv htk hil2 hpe
                        go_upto_region 38 with (fail)
                        have HB5 := Lib.hid (HB.out.setCell (p := ⟨G, r, none⟩) HSG.out (.bool true))
                        have HI5 : Hid (Blk (wr.setCell ⟨G, r, none⟩ (.bool true)) G 4 (bcells (inl.set r true))) := by
                          have := HI.out.set_ r (.bool true)
                          unfold bcells at this ⊢
                          rw [List.map_set]; exact Lib.hid this
                        clear HB HI y0 z0 d0 d1
                        generalize World.setCell _ _ _ = w7 at *
                        go_wp2
                        go_roundg (ll - (q + 1))
                        case measure => have := HG2.out; omega
                        case rel => exact ⟨q + 1, _, by go_num, by omega, rfl, HB5, HI5, HX⟩
                      · obtain rfl : q = ll := by omega
                        have h0l : 0 < ls[a].length := by have := HLEN.out; omega
                        have d1 := (HB.out.cell (p := ⟨b', o' + 0, none⟩) hbS').trans (HCC.out 0 h0l)
                        rw [Nat.add_zero] at d1
                        have D1 := Lib.hid (HCC.out 0 h0l)
                        have hhm := List.getElem_mem h0l
                        have hv := HDN.out.1.vx hil hhm
                        generalize hpe : ls[a][0] = p1 at *
                        rw [HCLS.out] at hhm
                        have HHM := Lib.hid hhm
                        clear hhm
                        obtain ⟨r, rfl⟩ : ∃ r : Nat, p1 = (r : Int) := ⟨p1.toNat, by have := hv.1; omega⟩
                        have hrk : r < k := by have := hv.2; omega
                        have HINC : Hid (inl.length = k ∧ ∀ x, Vx k x → (tl1 inl x = true ↔ x ∈ cls k (Eg es) p)) := Lib.hid ⟨HIN.out.1, fun x hx => by rw [HIN.out.2 x hx, List.take_of_length_le (by have := HLEN.out; omega), HCLS.out]⟩
                        clear hpe HIN hv
                        go_wp2_with fail
                        refine (from_any A j c k G r false es inl _ (HR.out.up (HB3.out.trans (HB.out.mono HwS.out)) (HB3.out.trans (HB.out.mono HwS.out)).size) HF.out HI.out HINC.out.1 hrk).mono ?_
                        rintro e w8 ⟨gs, sn, rfl, hb8, hs8, hl8, hr8, hc8⟩
                        have HSW : Hid (S ≤ wr.heap.size) := Lib.hid (by have := HB.out.size; have := HS.out; omega)
                        have HB8 := Lib.hid (HB.out.trans (hb8.mono HSW.out))
                        have HI8 := Lib.hid (HI.out.below hb8 HI.out.lt)
                        have HS8 := Lib.hid hs8
                        have HF8 : Hid (sn.length = k ∧ ∀ x, Vx k x → x ∈ cls k (Eg es) p → tl1 sn x = true) := Lib.hid ⟨hl8, fun x hx hxm => closed_all HINC.out.2 HF.out hc8 HHM.out hxm hr8⟩
                        have HSW8 : Hid (S ≤ w8.heap.size) := Lib.hid (Nat.le_trans HSW.out hb8.size)
                        have d0 := (HB8.out.cell (p := ⟨b, o + a, none⟩) hbS).trans D0.out
                        have d1 := (HB8.out.cell (p := ⟨b', o' + 0, none⟩) hbS').trans D1.out
                        rw [Nat.add_zero] at d1
                        clear hb8 hs8 hl8 hr8 hc8 HB HI
                        go_wp2_with fail
                        refine (from_any A j c k G r true es inl _ (HR.out.up (HB3.out.trans (HB8.out.mono HwS.out)) (HB3.out.trans (HB8.out.mono HwS.out)).size) HF.out HI8.out HINC.out.1 hrk).mono ?_
                        rintro e w9 ⟨gs2, sn2, rfl, hb9, hs9, hl9, hr9, hc9⟩
                        have HB9 := Lib.hid (HB8.out.trans (hb9.mono HSW8.out))
                        have HS8 := Lib.hid (HS8.out.below hb9 HS8.out.lt)
                        have HS9 := Lib.hid hs9
                        have HF9 : Hid (sn2.length = k ∧ ∀ x, Vx k x → x ∈ cls k (Eg es) p → tl1 sn2 x = true) := Lib.hid ⟨hl9, fun x hx hxm => closed_all HINC.out.2 HF.out hc9 HHM.out hxm hr9⟩
                        clear hb9 hs9 hl9 hr9 hc9 HI8 HB8 d0 d1 HINC HHM D1
                        have d0 := (HB9.out.cell (p := ⟨b, o + a, none⟩) hbS).trans D0.out
                        go_wp2
                        go_loopg [19] q (fun gk v wr => ∃ (y : Nat), v = .int .i64 y ∧ y ≤ q ∧ gk = q - y ∧ wr = w9)
                        case atStart => exact ⟨0, rfl, Nat.zero_le _, by omega, rfl⟩
                        case round =>
                          obtain ⟨y, rfl, hy, hgy, hwr⟩ := hrel
                          have HG3 := Lib.hid hgy
                          clear hgy
                          obtain rfl : w9 = wr := hwr.symm
                          by_cases hlt6 : y < q
                          · have hjl : y < ls[a].length := by have := HLEN.out; omega
                            have d1 := (HB9.out.cell (p := ⟨b', o' + y, none⟩) hbS').trans (HCC.out y hjl)
                            have hym := List.getElem_mem hjl
                            have hv := HDN.out.1.vx hil hym
                            generalize hpe : ls[a][y] = p1 at *
                            rw [HCLS.out] at hym
                            obtain ⟨z, rfl⟩ : ∃ z : Nat, p1 = (z : Int) := ⟨p1.toNat, by have := hv.1; omega⟩
                            have hzk : (z : Int) < (k : Int) := hv.2
                            have t0 := HS8.out.bool (i := z) (by have := HF8.out.1; omega)
                            have t1 := HS9.out.bool (i := z) (by have := HF9.out.1; omega)
                            rw [HF8.out.2 z hv hym] at t0
                            rw [HF9.out.2 z hv hym] at t1
                            clear hym hv hpe
                            go_wp2
                            go_roundg (q - (y + 1))
                            case measure => have := HG3.out; omega
                            case rel => exact ⟨y + 1, by go_num, by omega, rfl, rfl⟩
                          · obtain rfl : y = q := by omega
                            go_wp2
                            go_roundg (i - (a + 1))
                            case measure => have := HG.out; omega
                            case rel => exact ⟨a + 1, by go_num, by omega, rfl, HB9⟩
                  · obtain rfl : a = i := by omega
                    go_wp2
                    go_ret
                    exact ⟨rfl, HB3.out.trans (HB.out.mono HwS.out)⟩
  · have hfit := fitB_false hf
    clear hf
    go_enter Try.func7, Try.ntmps7
    go_wp2_with fail
    refine (lawFit_any x A m c es _ HR.out).mono ?_
    rintro e w1 ⟨rfl, rfl⟩
    rw [hfit]
    clear hfit
    go_wp2
    go_ret
    exact ⟨rfl, Below.refl _ _⟩
end Go.Proofs.Ytefpglaipnnggaa
