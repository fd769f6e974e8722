/- The program's Levels. -/
import Derived.Test.YtefpglaipnnggaaH2
namespace Go.Proofs.Ytefpglaipnnggaa
open Go.RowKit

theorem LL.rowb {w : World} {U : Nat} {v : Value} {vs : List Value} {ls : List (List Int)} (h : LL w U v vs ls) {i : Nat} (hi : i < ls.length) (hp : 0 < ls[i].length) :
    ∃ b b' c ci, v = .slice (some ⟨b, 0, none⟩) ls.length c ∧ U ≤ b ∧ b < w.heap.size ∧ U ≤ b' ∧ b' < w.heap.size ∧ w.cell? ⟨b, i, none⟩ = some (.slice (some ⟨b', 0, none⟩) ls[i].length ci) ∧ ls[i].length ≤ 9223372036854775807 ∧
      ∀ j, (hj : j < ls[i].length) → w.cell? ⟨b', j, none⟩ = some (.int .i64 ls[i][j]) := by
  have hl := h.len
  obtain ⟨b, c, cur, hv, hb, hg, hnc, hcm, hcs, ht⟩ := own_blkd h.row (by omega)
  have ho := h.own i (by omega) hi
  obtain ⟨b', ci, cur', hv', hb', hg', hnc', hcm', hcs', ht'⟩ := own_blkd ho hp
  rw [hv'] at ho
  refine ⟨b, b', c, ci, hv, hb, hg.lt, hb', hg'.lt, ?_, by unfold maxLen at hcm'; omega, fun j hj => ?_⟩
  · refine (hg.cell i).trans ?_
    have e2 : cur[i]? = vs[i]? := by rw [← ht, List.getElem?_take, if_pos (by omega)]
    rw [e2, List.getElem?_eq_getElem (by omega), hv']
  · rw [ho.cellAt j (by omega)]
    exact icells_get hj
/-- The numbers of the lists, while they are written. -/
def Idx (n : Nat) (ls : List (List Int)) (i j : Nat) (il : List Int) : Prop :=
  il.length = n ∧ (∀ a, (ha : a < ls.length) → a < i → ∀ p ∈ ls[a], lv il p = (a : Int)) ∧ ∀ ha : i < ls.length, ∀ p ∈ ls[i].take j, lv il p = (i : Int)
theorem Idx.next {n : Nat} {es : List E} {ls : List (List Int)} {i j : Nat} {il : List Int} (hs : Steps n es ls) (h : Idx n ls i j il) (hi : i < ls.length) (hj : j < ls[i].length) : Idx n ls i (j + 1) (il.set ls[i][j].toNat i) := by
  obtain ⟨h1, h2, h3⟩ := h
  have hm : ls[i][j] ∈ ls[i] := List.getElem_mem hj
  have hv := hs.vx hi hm
  have hpl : ls[i][j].toNat < il.length := by have := hv.1; have := hv.2; omega
  have htk : ls[i].take (j + 1) = ls[i].take j ++ [ls[i][j]] := take_snoc _ _ hj
  refine ⟨by simpa using h1, fun a ha hlt p hp => ?_, fun ha p hp => ?_⟩
  · rw [lv_set hpl, if_neg (fun e => ?_)]
    · exact h2 a ha hlt p hp
    · have hvp := hs.vx ha hp
      have : p = ls[i][j] := by have := hv.1; have := hvp.1; omega
      have := hs.disj ha hi (this ▸ hp) hm
      omega
  · rw [htk] at hp
    rw [lv_set hpl]
    by_cases e : p.toNat = ls[i][j].toNat
    · rw [if_pos e]
    · rw [if_neg e]
      rcases List.mem_append.1 hp with hp | hp
      · exact h3 ha p hp
      · rw [List.mem_singleton.1 hp] at e; exact absurd rfl e
theorem Idx.row {n : Nat} {ls : List (List Int)} {i : Nat} {il : List Int} (hi : i < ls.length) (h : Idx n ls i ls[i].length il) : Idx n ls (i + 1) 0 il := by
  obtain ⟨h1, h2, h3⟩ := h
  refine ⟨h1, fun a ha hlt p hp => ?_, fun ha p hp => by simp at hp⟩
  by_cases e : a = i
  · subst e; exact h3 hi p (by rw [List.take_length]; exact hp)
  · exact h2 a ha (by omega) p hp

/-- The levels behind i lists. -/
structure LVI (n : Nat) (es : List E) (ls : List (List Int)) (i : Nat) (l : List Int) : Prop where
  len : l.length = n
  pos : ∀ p, Vx n p → 0 ≤ lv l p
  map : ∀ e ∈ es, ∀ a, (ha : a < ls.length) → a < i → e.t ∈ ls[a] → lv l e.f + stp e ≤ lv l e.t
  least : ∀ M, Mp n es M → ∀ p, Vx n p → lv l p ≤ M p
/-- A list's level, behind some edges. -/
structure LK (n : Nat) (es : List E) (S : List Int) (l : List Int) (done : List E) (x : Int) : Prop where
  pos : 0 ≤ x
  up : ∀ e ∈ done, e.t ∈ S → e.f ∉ S → lv l e.f + stp e ≤ x
  least : ∀ M, Mp n es M → ∀ p ∈ S, x ≤ M p
theorem LK.skip {n : Nat} {es : List E} {S l : List Int} {done : List E} {x : Int} {e : E} (h : LK n es S l done x) (hn : ¬ (e.t ∈ S ∧ e.f ∉ S)) : LK n es S l (done ++ [e]) x :=
  ⟨h.pos, fun e' he h1 h2 => by
    rcases List.mem_append.1 he with he | he
    · exact h.up e' he h1 h2
    · rw [List.mem_singleton.1 he] at h1 h2; exact absurd ⟨h1, h2⟩ hn, h.least⟩
theorem LK.take {n : Nat} {es : List E} {S l : List Int} {done : List E} {x y : Int} {e : E} (h : LK n es S l done x) (he : e ∈ es) (hl : ∀ M, Mp n es M → lv l e.f ≤ M e.f) (hs : ∀ p ∈ S, Scc (Eg es) e.t p) (hy : y = if x < lv l e.f + stp e then lv l e.f + stp e else x) : LK n es S l (done ++ [e]) y := by
  subst hy
  have hp := h.pos
  refine ⟨by split <;> omega, fun e' he' h1 h2 => ?_, fun M hM p hpS => ?_⟩
  · rcases List.mem_append.1 he' with he' | he'
    · have := h.up e' he' h1 h2
      split <;> omega
    · rw [List.mem_singleton.1 he']
      split <;> omega
  · have h1 := h.least M hM p hpS
    have h2 := hM.scc (hs p hpS)
    have h3 := hM.2 e he
    have h4 := hl M hM
    split <;> omega
theorem LVI.next {n : Nat} {es : List E} {ls : List (List Int)} {i : Nat} {l l' : List Int} {x : Int} (hf : Fits n es) (hs : Steps n es ls) (hnb : NoBad es) (h : LVI n es ls i l) (hi : i < ls.length) (hk : LK n es ls[i] l es x) (hl : l'.length = n)
    (h1 : ∀ p ∈ ls[i], lv l' p = x) (h2 : ∀ p, Vx n p → p ∉ ls[i] → lv l' p = lv l p) : LVI n es ls (i + 1) l' := by
  have hcl : ∀ u ∈ ls[i], ∀ v ∈ ls[i], Scc (Eg es) u v := fun u hu v hv => by
    obtain ⟨p, _, e⟩ := hs.at i hi
    rw [e, mem_cls] at hu hv
    exact hu.2.symm.trans hv.2
  refine ⟨hl, fun p hp => ?_, fun e he a ha hlt het => ?_, fun M hM p hp => ?_⟩
  · by_cases hm : p ∈ ls[i]
    · rw [h1 p hm]; exact hk.pos
    · rw [h2 p hp hm]; exact h.pos p hp
  · have hok := hf.2.2 e he
    have hvf : Vx n e.f := ⟨hok.1, hok.2.1⟩
    have hvt : Vx n e.t := ⟨hok.2.2.1, hok.2.2.2⟩
    by_cases hai : a = i
    · subst hai
      rw [h1 _ het]
      by_cases hef : e.f ∈ ls[a]
      · rw [h1 _ hef]
        have : e.neg = false := by
          cases hn : e.neg with
          | false => rfl
          | true => exact absurd (hcl _ hef _ het) (hnb e he hn)
        simp [stp, this]
      · rw [h2 _ hvf hef]
        exact hk.up e he het hef
    · have hti : e.t ∉ ls[i] := fun hx => hai (hs.disj ha hi het hx)
      have hfi : e.f ∉ ls[i] := fun hx => by
        have := hs.edge hf he hi ha hx het
        omega
      rw [h2 _ hvf hfi, h2 _ hvt hti]
      exact h.map e he a ha (by omega) het
  · by_cases hm : p ∈ ls[i]
    · rw [h1 p hm]; exact hk.least M hM p hm
    · rw [h2 p hp hm]; exact h.least M hM p hp

set_option maxRecDepth 20000 in
set_option maxHeartbeats 4000000 in
theorem progLevels_any (A : Option Addr) (m c n : Nat) (es : List E) (w : World) (hr : Rd w w.heap.size 4 A m (ecells es)) (hf : Fits n es) (hreach : m * 32 ≤ 140737488355328) (hnb : NoBad es) :
    Calls Try.prog 40 #[.int .i64 n, .slice A m c] w fun e w' => ∃ v l, e = .returned (.tuple #[v, .int .i64 0]) ∧ Below w.heap.size w w' ∧ w'.ownsRow w.heap.size 3 1 v l.length (icells l) ∧ LeastL n es l := by
  obtain ⟨i0, hi, hz0, hz1, hz2⟩ := info_parts Try.info3
  have hn : n ≤ 128 := by have := hf.2.1; omega
  have hlen : es.length = m := by have := hr.1; rw [ecells_length] at this; omega
  have HL := Lib.hid hlen
  have HR := Lib.hid hr
  have HF := Lib.hid hf
  have HM := Lib.hid hreach
  have HNB := Lib.hid hnb
  have hbad := badAt_m1 hnb
  have hmb := hr.2.1
  clear hr hf hlen hreach hnb
  have mk3 : ∀ W : World, (Instr.makeSlice 37 (.int .i64 (n : Int)) (.int .i64 (n : Int))).run Try.prog W = .ok (.slice (some ⟨W.heap.size, 0, none⟩) n n) (W.alloc (.cells (icells (List.replicate n 0)).toArray 3)) := fun W => by
    rw [run_make_rowN 37 3 i0 _ Try.underlying37 hi hz0 _ _ n n (Nat.le_refl _) (by rw [hz2]; omega) (by omega) W, hz1, made_one _ rfl]
    simp [icells]
  go_enter Try.func40, Try.ntmps40
  go_wp2_with fail
  refine (progBad_any A m c n es _ HR.out HF.out HM.out).mono ?_
  rintro e w1 ⟨rfl, hb1⟩
  rw [hbad]
  have HB1 := Lib.hid hb1
  clear hb1 hbad
  go_upto_region 7 with (fail)
  have HB2 := Lib.hid (HB1.out.alloc HB1.out.size (.cells (icells (List.replicate n 0)).toArray 3))
  have HLV2 := Lib.hid (Blk.new w1 3 (icells (List.replicate n 0)))
  have HGL : Hid (w.heap.size ≤ w1.heap.size) := Lib.hid HB1.out.size
  have HGU : Hid (w1.heap.size < (w1.alloc (.cells (icells (List.replicate n 0)).toArray 3)).heap.size) := Lib.hid HLV2.out.lt
  generalize World.alloc _ _ = w2 at *
  generalize w1.heap.size = gl at *
  clear HB1
  go_wp2_with fail
  refine (progComps_any A m c n es _ (HR.out.up HB2.out HB2.out.size) HF.out HM.out).mono ?_
  rintro e w3 ⟨v9, vs, ls, rfl, hb3, hL3, hD3⟩
  obtain ⟨A9, c9, rfl, _⟩ := hL3.rd
  have HLL' := Lib.hid hL3
  have HDN := Lib.hid hD3
  have HB3 := Lib.hid (HB2.out.trans (hb3.mono HB2.out.size))
  have HLV3 := Lib.hid (HLV2.out.below hb3 HLV2.out.lt)
  have hL128 : ls.length ≤ 128 := by have := hD3.1.count; omega
  have HNE : Hid (∀ i, (h : i < ls.length) → 0 < ls[i].length) := Lib.hid fun i h => by
    obtain ⟨p, hp, e⟩ := hD3.1.lists _ (List.getElem_mem h)
    rw [e]; exact List.length_pos_of_mem (mem_cls.2 ⟨hp, Scc.refl _⟩)
  generalize w2.heap.size = U at *
  clear hb3 hL3 hD3 HLV2 HB2
  obtain ⟨L, hLl⟩ : ∃ L, ls.length = L := ⟨_, rfl⟩
  have HLn := Lib.hid hLl
  rw [hLl] at hL128 ⊢
  clear hLl
  go_upto_region 9 with (fail)
  have HB4 : Hid (Below w3.heap.size w3 (w3.alloc (.cells (icells (List.replicate n 0)).toArray 3))) := Lib.hid ((Below.refl _ _).alloc (Nat.le_refl _) _)
  have HI4 := Lib.hid (Blk.new w3 3 (icells (List.replicate n 0)))
  generalize World.alloc _ _ = w4 at *
  generalize hS : w3.heap.size = S at *
  have HS := Lib.hid hS
  have HUS : Hid (gl < S) := Lib.hid (by have := HLV3.out.lt; omega)
  clear hS mk3
  go_wp2
  go_loopg [46] L (fun gk v wr => ∃ (i : Nat) (il : List Int), v = .int .i64 i ∧ i ≤ L ∧ gk = L - i ∧ Hid (Below S w3 wr) ∧ Hid (Blk wr S 3 (icells il)) ∧ Hid (Idx n ls i 0 il))
  case atStart => exact ⟨0, _, rfl, Nat.zero_le _, by omega, HB4, HI4, Lib.hid ⟨by simp, fun a ha h => by omega, fun ha p hp => by simp at hp⟩⟩
  case round =>
    clear HB4 HI4
    obtain ⟨i, il, rfl, hi9, hgi, HB, HI, HIX⟩ := hrel
    have HG := Lib.hid hgi
    clear hgi
    by_cases hlt : i < L
    · have hil : i < ls.length := by have := HLn.out; omega
      obtain ⟨b, b', cb, ci, hA, hb1, hb2, hb3, hb4, d0, hl63, hcc⟩ := HLL'.out.rowb hil (HNE.out i hil)
      have hA9 : A9 = some ⟨b, 0, none⟩ := by injection hA
      subst hA9
      rw [HS.out] at hb2 hb4
      have HCC := Lib.hid hcc
      obtain ⟨ll, hll⟩ : ∃ ll, ls[i].length = ll := ⟨_, rfl⟩
      rw [hll] at d0 hl63
      have HLEN := Lib.hid hll
      have d0 := (HB.out.cell (p := ⟨b, i, none⟩) hb2).trans d0
      clear hll hcc hA
      go_wp2
      clear d0
      go_loopg [53] ll (fun gk v wr => ∃ (j : Nat) (il : List Int), v = .int .i64 j ∧ j ≤ ll ∧ gk = ll - j ∧ Hid (Below S w3 wr) ∧ Hid (Blk wr S 3 (icells il)) ∧ Hid (Idx n ls i j il))
      case atStart => exact ⟨0, il, rfl, Nat.zero_le _, by omega, HB, HI, HIX⟩
      case round =>
        clear HB HI HIX
        obtain ⟨j, il, rfl, hj, hgj, HB, HI, HIX⟩ := hrel
        have HG2 := Lib.hid hgj
        clear hgj
        by_cases hlt2 : j < ll
        · have hjl : j < ls[i].length := by have := HLEN.out; omega
          have d1 := (HB.out.cell (p := ⟨b', j, none⟩) hb4).trans (HCC.out j hjl)
          have hv := HDN.out.1.vx hil (List.getElem_mem hjl)
          have HNX := Lib.hid (Idx.next HDN.out.1 HIX.out hil hjl)
          have hil2 := HIX.out.1
          generalize hpe : ls[i][j] = p at *
          obtain ⟨q, rfl⟩ : ∃ q : Nat, p = (q : Int) := ⟨p.toNat, by have := hv.1; omega⟩
          have hq : (q : Int) < (n : Int) := hv.2
          have y0 : wr.cell? ⟨S, q, none⟩ = some (.int .i64 (lv il q)) := by
            have h := icells_lv (l := il) (i := (q : Int)) (by omega) (by omega)
            rw [Int.toNat_natCast] at h
            exact (HI.out.cell q).trans h
          have z0 := HI.out.frozen q
          clear hil2 hv hpe
          rw [Int.toNat_natCast] at HNX
          generalize lv il q = y at *
          go_upto_region 16 with (fail)
          have HB5 := Lib.hid (HB.out.setCell (p := ⟨S, q, none⟩) (Nat.le_refl _) (.int .i64 (i : Int)))
          have HI5 := Lib.hid (HI.out.set_ q (.int .i64 (i : Int)))
          rw [icells_set] at HI5
          clear HB HI y0 z0 d1
          generalize World.setCell _ _ _ = w5 at *
          go_wp2
          go_roundg (ll - (j + 1))
          case measure => have := HG2.out; omega
          case rel => exact ⟨j + 1, _, by go_num, by omega, rfl, HB5, HI5, HNX⟩
        · obtain rfl : j = ll := by omega
          have HIR : Hid (Idx n ls (i + 1) 0 il) := Lib.hid (Idx.row hil (by rw [HLEN.out]; exact HIX.out))
          go_wp2
          go_roundg (L - (i + 1))
          case measure => have := HG.out; omega
          case rel => exact ⟨i + 1, il, by go_num, by omega, rfl, HB, HI, HIR⟩
    · obtain rfl : i = L := by omega
      have HIL : Hid (il.length = n ∧ ∀ a, (ha : a < ls.length) → ∀ p ∈ ls[a], lv il p = (a : Int)) := Lib.hid ⟨HIX.out.1, fun a ha p hp => HIX.out.2.1 a ha (by have := HLn.out; omega) p hp⟩
      have HO0 : Hid (Only [gl] S w3 wr) := Lib.hid (Only.of_below HB.out)
      have HV0 := Lib.hid (HLV3.out.below HB.out HUS.out)
      have HX0 : Hid (LVI n es ls 0 (List.replicate n 0)) := Lib.hid ⟨by simp, fun p hp => by rw [lv_rep0]; omega, fun e he a ha h => by omega, fun M hM p hp => by rw [lv_rep0]; exact hM.1 p hp⟩
      clear HIX HB HG HLV3
      go_wp2
      go_loopg [65] i (fun gk v wr => ∃ (a : Nat) (lvl : List Int), v = .int .i64 a ∧ a ≤ i ∧ gk = i - a ∧ Hid (Only [gl] S w3 wr) ∧ Hid (Blk wr S 3 (icells il)) ∧ Hid (Blk wr gl 3 (icells lvl)) ∧ Hid (LVI n es ls a lvl))
      case atStart => exact ⟨0, _, rfl, Nat.zero_le _, by omega, HO0, HI, HV0, HX0⟩
      case round =>
        clear HO0 HI HV0 HX0
        obtain ⟨a, lvl, rfl, ha9, hga, HO, HI, HV, HX⟩ := hrel
        have HG := Lib.hid hga
        clear hga
        by_cases hlt2 : a < i
        · have hil : a < ls.length := by have := HLn.out; omega
          obtain ⟨b, b', cb, ci, hA, hb1, hb2, hb3, hb4, d0, hl63, hcc⟩ := HLL'.out.rowb hil (HNE.out a hil)
          have hA9 : A9 = some ⟨b, 0, none⟩ := by injection hA
          subst hA9
          rw [HS.out] at hb2 hb4
          have hgu := HGU.out
          have HCC := Lib.hid hcc
          obtain ⟨ll, hll⟩ : ∃ ll, ls[a].length = ll := ⟨_, rfl⟩
          rw [hll] at d0 hl63
          have HLEN := Lib.hid hll
          have d0 := (HO.out.cell (p := ⟨b, a, none⟩) hb2 (by simp; omega)).trans d0
          clear hll hcc hA
          go_wp2
          clear d0
          go_loopg [72, 18] m (fun gk v72 v18 wr => ∃ (k : Nat) (x : Nat), v72 = .int .i64 k ∧ v18 = .int .i64 x ∧ k ≤ m ∧ gk = m - k ∧ x ≤ 128 ∧ Hid (Only [gl] S w3 wr) ∧ Hid (Blk wr S 3 (icells il)) ∧ Hid (Blk wr gl 3 (icells lvl)) ∧ Hid (LK n es ls[a] lvl (es.take k) x))
          case atStart => exact ⟨0, 0, rfl, rfl, Nat.zero_le _, by omega, by omega, HO, HI, HV, Lib.hid ⟨by omega, fun e he => by simp at he, fun M hM p hp => hM.1 p (HDN.out.1.vx hil hp)⟩⟩
          case round =>
            clear HO HI HV
            obtain ⟨k, x, rfl, rfl, hk9, hgk, hx128, HO, HI, HV, HK⟩ := hrel
            have HG2 := Lib.hid hgk
            clear hgk
            by_cases hlt3 : k < m
            · have hbw : Below w.heap.size w wr := HB3.out.trans (HO.out.below (by have := HGL.out; have := HUS.out; omega) (by intro q hq; rw [List.mem_singleton.1 hq]; exact HGL.out))
              obtain ⟨b2, o2, hj1, rfl, hbb, c0, c1, c2, c3⟩ := (HR.out.below hbw).edge k hlt3
              have hem := List.getElem_mem hj1
              have hok := HF.out.2.2 _ hem
              have htk := take_snoc es k hj1
              have hidx : ∃ at_ af : Nat, lv il es[k].t = (at_ : Int) ∧ lv il es[k].f = (af : Int) ∧ (at_ = a ↔ es[k].t ∈ ls[a]) ∧ (af = a ↔ es[k].f ∈ ls[a]) := by
                obtain ⟨l1, hl1, hf1⟩ := HDN.out.2 es[k].t ⟨hok.2.2.1, hok.2.2.2⟩
                obtain ⟨l2, hl2, hf2⟩ := HDN.out.2 es[k].f ⟨hok.1, hok.2.1⟩
                obtain ⟨a1, ha1, rfl⟩ := List.mem_iff_getElem.1 hl1
                obtain ⟨a2, ha2, rfl⟩ := List.mem_iff_getElem.1 hl2
                exact ⟨a1, a2, HIL.out.2 a1 ha1 _ hf1, HIL.out.2 a2 ha2 _ hf2, ⟨fun e => by subst e; exact hf1, fun h => HDN.out.1.disj ha1 hil hf1 h⟩, ⟨fun e => by subst e; exact hf2, fun h => HDN.out.1.disj ha2 hil hf2 h⟩⟩
              obtain ⟨at_, af, hat, haf, hti, hfi⟩ := hidx
              have hlf : ∃ z : Nat, lv lvl es[k].f = (z : Int) ∧ z < n := by
                obtain ⟨M, hM, hMn⟩ := HNB.out.map HF.out
                have h1 := HX.out.least M hM es[k].f ⟨hok.1, hok.2.1⟩
                have h2 := hMn es[k].f ⟨hok.1, hok.2.1⟩
                have h3 := HX.out.pos es[k].f ⟨hok.1, hok.2.1⟩
                exact ⟨(lv lvl es[k].f).toNat, by omega, by omega⟩
              obtain ⟨z, hz, hzn⟩ := hlf
              have HSK : Hid (¬ (at_ = a ∧ af ≠ a) → LK n es ls[a] lvl (es.take (k + 1)) x) := Lib.hid fun h => by
                rw [htk]
                exact HK.out.skip (fun hx => h ⟨hti.2 hx.1, fun e => hx.2 (hfi.1 e)⟩)
              have HTK : Hid (at_ = a → ∀ y : Int, y = (if (x : Int) < (z : Int) + stp es[k] then (z : Int) + stp es[k] else x) → LK n es ls[a] lvl (es.take (k + 1)) y) := Lib.hid fun h y hy => by
                rw [htk]
                refine HK.out.take hem (fun M hM => HX.out.least M hM _ ⟨hok.1, hok.2.1⟩) (fun p hp => ?_) (by rw [hy, hz])
                obtain ⟨p0, _, ecl⟩ := HDN.out.1.at a hil
                have h1 := hti.1 h
                rw [ecl, mem_cls] at h1 hp
                exact h1.2.symm.trans hp.2
              have hstp := stp_nonneg es[k]
              clear htk hti hfi hem hbw
              generalize hee : es[k] = e at *
              have HEE := Lib.hid hee
              clear hee
              obtain ⟨ef, et, en, er⟩ := e
              obtain ⟨p1, p2, p3, p4⟩ := hok
              dsimp only at c0 c1 c2 c3 p1 p2 p3 p4 hat haf hz
              obtain ⟨f, rfl⟩ : ∃ f : Nat, ef = (f : Int) := ⟨ef.toNat, by omega⟩
              obtain ⟨t, rfl⟩ : ∃ t : Nat, et = (t : Int) := ⟨et.toNat, by omega⟩
              have hill := HIL.out.1
              have hlvl := HX.out.len
              have hSw : S ≤ wr.heap.size := by have := HI.out.lt; omega
              go_upto_region 25 with (fail)
              have HO := Lib.hid (HO.out.alloc hSw (.cells #[.int .i64 (f : Int), .int .i64 (t : Int), .bool en, .int .i64 er] 43))
              have HI := Lib.hid (HI.out.alloc (.cells #[.int .i64 (f : Int), .int .i64 (t : Int), .bool en, .int .i64 er] 43))
              have HV := Lib.hid (HV.out.alloc (.cells #[.int .i64 (f : Int), .int .i64 (t : Int), .bool en, .int .i64 er] 43))
              have hE := Lib.hid (Blk.new wr 43 [.int .i64 (f : Int), .int .i64 (t : Int), .bool en, .int .i64 er])
              clear c0 c1 c2 c3 hSw
              generalize World.alloc _ _ = w5 at *
              generalize wr.heap.size = R at *
              have e0 := hE.out.cell 0
              have e1 := hE.out.cell 1
              have e2 := hE.out.cell 2
              have e3 := hE.out.cell 3
              simp only [List.getElem?_cons_zero, List.getElem?_cons_succ] at e0 e1 e2 e3
              have y0 : w5.cell? ⟨S, t, none⟩ = some (.int .i64 (at_ : Int)) := by
                have h := icells_lv (l := il) (i := (t : Int)) (by omega) (by omega)
                rw [Int.toNat_natCast, hat] at h
                exact (HI.out.cell t).trans h
              have y1 : w5.cell? ⟨S, f, none⟩ = some (.int .i64 (af : Int)) := by
                have h := icells_lv (l := il) (i := (f : Int)) (by omega) (by omega)
                rw [Int.toNat_natCast, haf] at h
                exact (HI.out.cell f).trans h
              have y2 : w5.cell? ⟨gl, f, none⟩ = some (.int .i64 (z : Int)) := by
                have h := icells_lv (l := lvl) (i := (f : Int)) (by omega) (by omega)
                rw [Int.toNat_natCast, hz] at h
                exact (HV.out.cell f).trans h
              clear hat haf hz hill hlvl
              by_cases h1 : at_ = a
              · by_cases h2 : af = a
                · have HX2 := Lib.hid (HSK.out (by omega))
                  have h1' : ((at_ : Int) == (a : Int)) = true := by simp; omega
                  have h2' : ((af : Int) == (a : Int)) = true := by simp; omega
                  clear HSK HTK
                  go_wp2
                  go_roundg (m - (k + 1))
                  case measure => have := HG2.out; omega
                  case rel => exact ⟨k + 1, x, by go_num, rfl, by omega, rfl, by omega, HO, HI, HV, HX2⟩
                · have h1' : ((at_ : Int) == (a : Int)) = true := by simp; omega
                  have h2' : ((af : Int) == (a : Int)) = false := by simp; omega
                  have HX2 := Lib.hid (HTK.out h1)
                  clear HSK HTK
                  go_upto_region 26 with (fail)
                  have ke0 := cell_regrown e0
                  have ke1 := cell_regrown e1
                  have ke2 := cell_regrown e2
                  have ke3 := cell_regrown e3
                  have ky2 := cell_regrown y2
                  have cS : ∀ d os, Calls Try.prog 55 #[.agg #[.int .i64 (f : Int), .int .i64 (t : Int), .bool en, .int .i64 er]] (Go.Sort.grow (redrawn w5 d) os) fun e w'' => e = .returned (.int .i64 (stp ⟨f, t, en, er⟩)) ∧ ∃ p : Regrown, w'' = Go.Sort.grow (redrawn w5 p.d) p.os :=
                    fun d os => Calls.regrown_of (step_any ⟨f, t, en, er⟩ _)
                  generalize hst : stp ⟨f, t, en, er⟩ = s0 at *
                  have HST := Lib.hid hst
                  have HBR := Lib.hid (fun d os => below_regrown w5 d os)
                  have hS5 : S ≤ w5.heap.size := by have := HI.out.lt; omega
                  clear e0 e1 e2 e3 y0 y1 y2 hst
                  refine wp_region_quiet_below (by kernel_rfl) (by kernel_rfl) ?_
                  repeat (go_big_quiet_step (first | exact cS _ _))
                  refine wpQuiet_nil ?_
                  intro w6 hw6
                  obtain ⟨⟨dq, osq⟩, rfl⟩ := hw6
                  have hb6 := HBR.out dq osq
                  have HO6 := Lib.hid (HO.out.trans (Only.of_below (hb6.mono hS5)))
                  have HI6 := Lib.hid (HI.out.below hb6 HI.out.lt)
                  have HV6 := Lib.hid (HV.out.below hb6 HV.out.lt)
                  obtain ⟨x', hx', hx'128⟩ : ∃ x' : Nat, (if (x : Int) < (z : Int) + s0 then (z : Int) + s0 else (x : Int)) = (x' : Int) ∧ x' ≤ 128 := by
                    refine ⟨(if (x : Int) < (z : Int) + s0 then (z : Int) + s0 else (x : Int)).toNat, ?_, ?_⟩ <;> split <;> omega
                  have HX3 := Lib.hid (HX2.out _ hx'.symm)
                  rw [hx']
                  clear ke0 ke1 ke2 ke3 ky2 cS hb6 HBR hx' HO HI HV hE HX2
                  generalize Go.Sort.grow _ _ = w6 at *
                  go_wp2
                  go_roundg (m - (k + 1))
                  case measure => have := HG2.out; omega
                  case rel => exact ⟨k + 1, x', by go_num, rfl, by omega, rfl, by omega, HO6, HI6, HV6, HX3⟩
              · have HX2 := Lib.hid (HSK.out (by omega))
                have h1' : ((at_ : Int) == (a : Int)) = false := by simp; omega
                clear HSK HTK
                go_wp2
                go_roundg (m - (k + 1))
                case measure => have := HG2.out; omega
                case rel => exact ⟨k + 1, x, by go_num, rfl, by omega, rfl, by omega, HO, HI, HV, HX2⟩
            · obtain rfl : k = m := by omega
              have HKF : Hid (LK n es ls[a] lvl es x) := by
                have h := HK.out
                rw [List.take_of_length_le (by have := HL.out; omega)] at h
                exact Lib.hid h
              clear HK HG2
              go_wp2
              go_loopg [105] ll (fun gk v wr => ∃ (j : Nat) (l2 : List Int), v = .int .i64 j ∧ j ≤ ll ∧ gk = ll - j ∧ Hid (Only [gl] S w3 wr) ∧ Hid (Blk wr S 3 (icells il)) ∧ Hid (Blk wr gl 3 (icells l2)) ∧ Hid (l2.length = n ∧ (∀ p ∈ ls[a].take j, lv l2 p = x) ∧ ∀ p, Vx n p → p ∉ ls[a].take j → lv l2 p = lv lvl p))
              case atStart => exact ⟨0, lvl, rfl, Nat.zero_le _, by omega, HO, HI, HV, Lib.hid ⟨HX.out.len, by simp, fun _ _ _ => rfl⟩⟩
              case round =>
                clear HO HI HV
                obtain ⟨j, l2, rfl, hj, hgj, HO, HI, HV, HL2⟩ := hrel
                have HG2 := Lib.hid hgj
                clear hgj
                by_cases hlt4 : j < ll
                · have hjl : j < ls[a].length := by have := HLEN.out; omega
                  have d1 := (HO.out.cell (p := ⟨b', j, none⟩) hb4 (by simp; omega)).trans (HCC.out j hjl)
                  have hv := HDN.out.1.vx hil (List.getElem_mem hjl)
                  have htk := take_snoc ls[a] j hjl
                  have hl2 := HL2.out.1
                  generalize hpe : ls[a][j] = p at *
                  obtain ⟨q, rfl⟩ : ∃ q : Nat, p = (q : Int) := ⟨p.toNat, by have := hv.1; omega⟩
                  have hq : (q : Int) < (n : Int) := hv.2
                  have hql : q < l2.length := by omega
                  have y0 : wr.cell? ⟨gl, q, none⟩ = some (.int .i64 (lv l2 q)) := by
                    have h := icells_lv (l := l2) (i := (q : Int)) (by omega) (by omega)
                    rw [Int.toNat_natCast] at h
                    exact (HV.out.cell q).trans h
                  have z0 := HV.out.frozen q
                  have HN2 : Hid ((l2.set q (x : Int)).length = n ∧ (∀ p ∈ ls[a].take (j + 1), lv (l2.set q (x : Int)) p = x) ∧ ∀ p, Vx n p → p ∉ ls[a].take (j + 1) → lv (l2.set q (x : Int)) p = lv lvl p) := Lib.hid ⟨by simpa using hl2, fun p hp => by
                    rw [lv_set hql]
                    split
                    · rfl
                    · rename_i e
                      rw [htk] at hp
                      rcases List.mem_append.1 hp with hp | hp
                      · exact HL2.out.2.1 p hp
                      · rw [List.mem_singleton.1 hp, Int.toNat_natCast] at e; exact absurd rfl e, fun p hp hm => by
                    rw [htk, List.mem_append, List.mem_singleton, not_or] at hm
                    rw [lv_set hql, if_neg (fun e => hm.2 (by have := hp.1; omega))]
                    exact HL2.out.2.2 p hp hm.1⟩
                  clear hl2 hv htk hpe
                  generalize lv l2 q = y at *
                  go_upto_region 32 with (fail)
                  have HO5 := Lib.hid (HO.out.setCell (p := ⟨gl, q, none⟩) (.inl (by simp)) (.int .i64 (x : Int)))
                  have HI5 := Lib.hid (HI.out.far (p := ⟨gl, q, none⟩) (by have := HUS.out; simp; omega) (.int .i64 (x : Int)))
                  have HV5 := Lib.hid (HV.out.set_ q (.int .i64 (x : Int)))
                  rw [icells_set] at HV5
                  clear HO HI HV y0 z0 d1
                  generalize World.setCell _ _ _ = w5 at *
                  go_wp2
                  go_roundg (ll - (j + 1))
                  case measure => have := HG2.out; omega
                  case rel => exact ⟨j + 1, _, by go_num, by omega, rfl, HO5, HI5, HV5, HN2⟩
                · obtain rfl : j = ll := by omega
                  have HX2 : Hid (LVI n es ls (a + 1) l2) := Lib.hid (by
                    obtain ⟨h1, h2, h3⟩ := HL2.out
                    rw [List.take_of_length_le (by have := HLEN.out; omega)] at h2 h3
                    exact HX.out.next HF.out HDN.out.1 HNB.out hil HKF.out h1 h2 h3)
                  go_wp2
                  go_roundg (i - (a + 1))
                  case measure => have := HG.out; omega
                  case rel => exact ⟨a + 1, l2, by go_num, by omega, rfl, HO, HI, HV, HX2⟩
        · obtain rfl : a = i := by omega
          have HLE : Hid (LeastL n es lvl) := Lib.hid ⟨HX.out.len, ⟨HX.out.pos, fun e he => by
            have hok := HF.out.2.2 e he
            obtain ⟨l1, hl1, hf1⟩ := HDN.out.2 e.t ⟨hok.2.2.1, hok.2.2.2⟩
            obtain ⟨a1, ha1, rfl⟩ := List.mem_iff_getElem.1 hl1
            exact HX.out.map e he a1 ha1 (by have := HLn.out; omega) hf1⟩, HX.out.least⟩
          have hbw : Below w.heap.size w wr := HB3.out.trans (HO.out.below (by have := HGL.out; have := HUS.out; omega) (by intro q hq; rw [List.mem_singleton.1 hq]; exact HGL.out))
          have HBW := Lib.hid hbw
          have hown : wr.ownsRow w.heap.size 3 1 (.slice (some ⟨gl, 0, none⟩) n n) lvl.length (icells lvl) := by
            have hl := HX.out.len
            have h := own_mk (size := 1) (n := n) (cap := n) HGL.out HV.out (Nat.le_refl _) (by unfold maxLen; omega) (by rw [icells_length, hl]; omega) (xs := icells lvl) (by rw [List.take_of_length_le (by rw [icells_length, hl]; omega)]) (by rw [icells_length, hl]; omega)
            rw [hl]; exact h
          have HOW := Lib.hid hown
          clear hown hbw HO HI HV HX HG
          go_wp2
          go_ret2
          exact ⟨_, lvl, rfl, HBW.out, HOW.out, HLE.out⟩

set_option maxRecDepth 20000 in
theorem progLevels_bad (A : Option Addr) (m c n : Nat) (es : List E) (w : World) (hr : Rd w w.heap.size 4 A m (ecells es)) (hf : Fits n es) (hreach : m * 32 ≤ 140737488355328) (hnb : ¬ NoBad es) :
    Calls Try.prog 40 #[.int .i64 n, .slice A m c] w fun e w' => e = .returned (.tuple #[.slice none 0 0, .int .i64 40]) ∧ Below w.heap.size w w' := by
  have HR := Lib.hid hr
  have HF := Lib.hid hf
  have HM := Lib.hid hreach
  have hb0 : 0 ≤ badAt es := by
    have : ¬ badAt es < 0 := fun h => hnb (badAt_neg.1 h)
    omega
  clear hr hf hreach hnb
  go_enter Try.func40, Try.ntmps40
  go_wp2_with fail
  refine (progBad_any A m c n es _ HR.out HF.out HM.out).mono ?_
  rintro e w1 ⟨rfl, hb1⟩
  have HB1 := Lib.hid hb1
  obtain ⟨b, hb⟩ : ∃ b : Nat, badAt es = b := ⟨(badAt es).toNat, by omega⟩
  rw [hb]
  clear hb1 hb hb0
  go_wp2
  go_ret2
  exact ⟨rfl, HB1.out⟩
set_option maxRecDepth 20000 in
theorem progLevels_no (A : Option Addr) (m c : Nat) (x : Int) (es : List E) (w : World) (hr : Rd w w.heap.size 4 A m (ecells es)) (hf : ¬ Fits x es) :
    Calls Try.prog 40 #[.int .i64 x, .slice A m c] w fun e w' => e = .returned (.tuple #[.slice none 0 0, .int .i64 2]) ∧ Below w.heap.size w w' := by
  go_enter Try.func40, Try.ntmps40
  go_wp2_with fail
  refine (progBad_no A m c x es _ hr hf).mono ?_
  rintro e w1 ⟨rfl, hb1⟩
  have HB1 := Lib.hid hb1
  clear hb1 hr hf
  go_wp2
  go_ret2
  exact ⟨rfl, HB1.out⟩
theorem progLevels_all (A : Option Addr) (m c : Nat) (x : Int) (es : List E) (w : World) (hr : Rd w w.heap.size 4 A m (ecells es)) (hreach : m * 32 ≤ 140737488355328) :
    Calls Try.prog 40 #[.int .i64 x, .slice A m c] w fun e w' => ∃ v l code, e = .returned (.tuple #[v, .int .i64 code]) ∧ Below w.heap.size w w' ∧ w'.ownsRow w.heap.size 3 1 v l.length (icells l) ∧ Levs x es l code := by
  by_cases hf : Fits x es
  · obtain ⟨n, rfl⟩ : ∃ n : Nat, x = n := ⟨x.toNat, by have := hf.1; omega⟩
    by_cases hnb : NoBad es
    · refine (progLevels_any A m c n es w hr hf hreach hnb).mono ?_
      rintro e w' ⟨v, l, rfl, h1, h2, h3⟩
      exact ⟨v, l, 0, rfl, h1, h2, .inl ⟨n, rfl, hf, h3, rfl⟩⟩
    · refine (progLevels_bad A m c n es w hr hf hreach hnb).mono ?_
      rintro e w' ⟨rfl, h1⟩
      exact ⟨_, [], 40, rfl, h1, World.ownsRow_nil _ _ _ _, .inr (.inl ⟨n, rfl, hf, hnb, rfl, rfl⟩)⟩
  · refine (progLevels_no A m c x es w hr hf).mono ?_
    rintro e w' ⟨rfl, h1⟩
    exact ⟨_, [], 2, rfl, h1, World.ownsRow_nil _ _ _ _, .inr (.inr ⟨hf, rfl, rfl⟩)⟩
end Go.Proofs.Ytefpglaipnnggaa
