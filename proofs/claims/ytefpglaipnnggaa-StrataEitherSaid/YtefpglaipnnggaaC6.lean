import Derived.Test.YtefpglaipnnggaaC4
import Derived.Test.YtefpglaipnnggaaC5
namespace Go.Proofs.Ytefpglaipnnggaa
open Go.RowKit

/-- An edge from one to the other is in the list. -/
def Eg (es : List E) (u x : Int) : Prop := ∃ e ∈ es, e.f = u ∧ e.t = x

theorem mem_adjL (es : List E) (u x : Int) : x ∈ adjL es u ↔ Eg es u x := by
  simp only [adjL, List.mem_map, List.mem_filter, Eg, beq_iff_eq]
  constructor
  · rintro ⟨e, ⟨h1, h2⟩, h3⟩; exact ⟨e, h1, h2, h3⟩
  · rintro ⟨e, h1, h2, h3⟩; exact ⟨e, ⟨h1, h2⟩, h3⟩

theorem adj_of {w wx : World} {s gt gl gc go n : Nat} {es : List E} {comp : List Int} {rows : List Value} (hm : Mk w wx s gt gl gc go n comp rows) (hr : Rows2 w.heap.size wx gt gl gc n es rows) :
    AdjAt wx wx.heap.size go [s, gt, gl, gc] n (adjL es) := by
  obtain ⟨n1, n2, n3, n4, n5, n6, n7, n8, n9, n10⟩ := hm.ne
  refine ⟨hm.bo.lt, by simp; omega, fun v h0 hn => ?_⟩
  have hl := hr.len
  have hv : v.toNat < rows.length := by omega
  obtain ⟨hown, o1, o2, o3⟩ := hr.own v.toNat hv
  have ev : ((v.toNat : Nat) : Int) = v := by omega
  rw [ev] at hown
  have hc := hm.bo.cell v.toNat
  rw [List.getElem?_eq_getElem hv] at hc
  have hs := own_blk_ne hown hm.bs (by decide)
  rcases hown.2 with ⟨hv0, h0⟩ | ⟨g, cap, cur, hvv, hb, hg, hnc, hcm, hcs, ht⟩
  · rw [hv0] at hc
    exact ⟨none, 0, by rw [hc, h0], by omega, fun hlt => by omega⟩
  · rw [hvv] at hc hs o1 o2 o3
    simp only [Value.ownBlock, ne_eq, Option.some.injEq] at hs o1 o2 o3
    have hcb : ∀ j, wx.cell? ⟨g, j, none⟩ = cur[j]? := fun j => by rw [cell_of_row wx g j cur 3 (0, 0) hg]
    refine ⟨some ⟨g, 0, none⟩, cap, hc, by unfold maxLen at hcm; omega, fun _ => ⟨g, 0, rfl, (Array.getElem?_eq_some_iff.1 hg).1, by simp; omega, fun j u hu => ?_⟩⟩
    rw [Nat.zero_add, hcb]
    have h2 : (icells (adjL es v))[j]? = some (.int .i64 u) := by simp [icells, hu]
    rw [← ht, List.getElem?_take] at h2
    split at h2
    · simpa using h2
    · cases h2

theorem lv_rep0 (n : Nat) (x : Int) : lv (List.replicate n 0) x = 0 := by
  unfold lv; simp only [List.getD_eq_getElem?_getD, List.getElem?_replicate]
  split <;> rfl
theorem lv_rep1 (n : Nat) (x : Int) (h : Vx n x) : lv (List.replicate n (-1)) x = -1 := by
  have := h.1; have := h.2
  unfold lv; simp only [List.getD_eq_getElem?_getD, List.getElem?_replicate]
  rw [if_pos (by omega)]; rfl

theorem start_sk {w wx : World} {s gt gl gc go n : Nat} {rows : List Value} (hm : Mk w wx s gt gl gc go n (List.replicate n (-1)) rows) :
    Sk wx wx wx.heap.size s gt gl gc go n (List.replicate n 0) (List.replicate n 0) (List.replicate n (-1)) [] 0 0 :=
  ⟨.refl _ _ _, Nat.le_refl _, ⟨hm.bs.lt, hm.bt.lt, hm.bl.lt, hm.bc.lt, hm.bo.lt⟩, hm.ne, by simp, hm.bt, hm.bl, hm.bc, _, hm.bs, World.ownsRow_nil _ _ _ _⟩

theorem start_TB {n : Nat} {es : List E} (hf : Fits n es) : TB n (Eg es) (adjL es) (lv (List.replicate n 0)) (lv (List.replicate n (-1))) [] 0 0 [] where
  eV := fun u x _ ⟨e, he, _, h2⟩ => by have h := hf.2.2 e he; exact ⟨h2 ▸ h.2.2.1, h2 ▸ h.2.2.2⟩
  hadj := fun u x _ => mem_adjL es u x
  clk := Int.le_refl _
  tpos := fun v _ => by rw [lv_rep0]; omega
  tinj := fun u v _ _ h => absurd (lv_rep0 n u) h
  oV := by simp
  oiff := fun v hv => by rw [lv_rep0]; simp
  osort := List.Pairwise.nil
  kun := fun v hv _ => by rw [lv_rep1 n v hv]; omega
  kcnt := fun v hv => by rw [lv_rep1 n v hv]; omega
  cnt := Int.le_refl _
  used := fun k h1 h2 => by omega
  cgray := by simp
  csort := List.Pairwise.nil
  cidx := by simp
  black := fun v _ h => absurd (lv_rep0 n v) h
  grayE := by simp
  fin := fun v x hv h => by rw [lv_rep1 n v hv] at h; omega
  up := by simp
  down := by simp
  scc := fun u v hu hv h => by rw [lv_rep1 n u hu] at h; omega

theorem start_SkJ {w wx : World} {s gt gl gc go n : Nat} {rows : List Value} {es : List E} (hm : Mk w wx s gt gl gc go n (List.replicate n (-1)) rows) (hf : Fits n es) :
    SkJ wx wx wx.heap.size s gt gl gc go n (Eg es) (adjL es) (fun _ => 0) [] n (List.replicate n 0) (List.replicate n 0) (List.replicate n (-1)) [] 0 0 :=
  ⟨start_sk hm, start_TB hf, ⟨by simp, by simp⟩, by simp [zeros], by omega, by simp, fun x _ h => absurd rfl h⟩

/-- The predicates parted into components, by numbers. -/
structure Part (n : Int) (E : Int → Int → Prop) (κ : Int → Int) (count : Int) : Prop where
  rng : ∀ v, Vx n v → 0 ≤ κ v ∧ κ v < count
  scc : ∀ u v, Vx n u → Vx n v → (κ u = κ v ↔ Scc E u v)
  used : ∀ k, 0 ≤ k → k < count → ∃ v, Vx n v ∧ κ v = k
  cnt : 0 ≤ count ∧ count ≤ n

theorem SkJ.part {W0 w : World} {M s gt gl gc go n z : Nat} {E : Int → Int → Prop} {adj : Int → List Int} {time0 : Int → Int} {time low comp opn : List Int} {clock count : Int}
    (h : SkJ W0 w M s gt gl gc go n E adj time0 [] z time low comp opn clock count) (hall : ∀ x, Vx n x → lv time x ≠ 0) : Part n E (lv comp) count := by
  have ho : ∀ x, x ∉ opn := fun x hx => by
    obtain ⟨c, hc, _⟩ := h.tb.up x hx
    cases hc
  have hp : ∀ v, Vx n v → 0 ≤ lv comp v := fun v hv => by
    have h1 := ho v
    rw [h.tb.oiff v hv] at h1
    have h2 := hall v hv
    by_cases h3 : lv comp v < 0
    · exact absurd ⟨h2, h3⟩ h1
    · omega
  have h1 := h.zc
  have h2 := h.cc
  exact ⟨fun v hv => ⟨hp v hv, h.tb.kcnt v hv⟩, fun u v hu hv => h.tb.scc u v hu hv (hp u hu), h.tb.used, h.tb.cnt, by omega⟩

set_option maxHeartbeats 2000000 in
theorem components_any (A : Option Addr) (m c n : Nat) (es : List E) (w : World) (hr : Rd w w.heap.size 4 A m (ecells es)) (hf : Fits n es) (hreach : m * 32 ≤ 140737488355328) :
    Calls Try.prog 50 #[.int .i64 n, .slice A m c] w fun e w' => ∃ gc comp count, e = .returned (.tuple #[.slice (some ⟨gc, 0, none⟩) n n, .int .i64 count]) ∧ Below w.heap.size w w' ∧ w.heap.size ≤ gc ∧ Blk w' gc 3 (icells comp) ∧ comp.length = n ∧
      Part n (Eg es) (lv comp) count := by
  have hn : n ≤ 128 := by have := hf.2.1; omega
  have HR := Lib.hid hr
  have HF := Lib.hid hf
  clear hr hf
  go_enter Try.func50, Try.ntmps50
  go_wp2_with fail
  refine (newSeeker_any A m c n es _ HR.out HF.out hreach).mono ?_
  rintro e w1 ⟨s, gt, gl, gc, go, rows, rfl, hm, hrw⟩
  have HA := Lib.hid (adj_of hm hrw)
  have HJ := Lib.hid (start_SkJ hm HF.out)
  have HM := Lib.hid hm
  clear hm hrw
  go_wp2
  go_loopg [12] n (fun gk v12 wr => ∃ (k z : Nat) (time low comp opn : List Int) (clock count : Int), v12 = .int .i64 (k : Int) ∧ k ≤ n ∧ gk = n - k ∧ SkJ w1 wr w1.heap.size s gt gl gc go n (Eg es) (adjL es) (fun _ => 0) [] z time low comp opn clock count ∧
    ∀ x : Int, 0 ≤ x → x < k → lv time x ≠ 0)
  case atStart => exact ⟨0, n, _, _, _, _, _, _, rfl, by omega, by omega, HJ.out, fun x h1 h2 => by omega⟩
  case round =>
    obtain ⟨k, z, time, low, comp, opn, clock, count, rfl, hk, hgk, hj, hall⟩ := hrel
    have HJ := Lib.hid hj
    have HV := Lib.hid hall
    have HG := Lib.hid hgk
    clear hj hall hgk
    by_cases hkn : k < n
    · have hk2 : (k : Int) < (n : Int) := by omega
      have f1 := HJ.out.sk.f1
      have ct := HJ.out.sk.ct (p := (k : Int)) (by omega) hk2
      rw [Int.toNat_natCast] at ct
      by_cases hz : lv time k = 0
      · have hz2 : (lv time k == 0) = true := by simpa using hz
        have HZ := Lib.hid hz
        clear hz
        go_wp2_with fail
        have hj := HJ.out
        refine (seek_any w1 _ w1.heap.size s gt gl gc go n z time low comp opn clock count (Eg es) (adjL es) (lv time) ⟨hj.sk, hj.tb, hj.tl, hj.zs, hj.zc, hj.cc, fun x _ h => h⟩ HA.out hn k (by omega) hk2 HZ.out).mono ?_
        rintro e w2 ⟨rfl, z', time', low', comp', opn', clock', count', hj', hp'⟩
        have HJ2 := Lib.hid hj'
        have HP2 := Lib.hid hp'
        clear hj hj' hp' f1 ct
        go_wp2
        go_roundg (n - (k + 1))
        case measure => have := HG.out; omega
        case rel =>
          refine ⟨k + 1, z', time', low', comp', opn', clock', count', by go_num, by omega, rfl, ⟨HJ2.out.sk, HJ2.out.tb, HJ2.out.tl, HJ2.out.zs, HJ2.out.zc, HJ2.out.cc, fun x _ h => absurd rfl h⟩, fun x h1 h2 => ?_⟩
          by_cases e : x = k
          · rw [e]; exact HP2.out
          · exact HJ2.out.seen x ⟨h1, by omega⟩ (HV.out x h1 (by omega))
      · have hz2 : (lv time k == 0) = false := by simpa using hz
        have HZ := Lib.hid hz
        clear hz
        go_wp2
        go_roundg (n - (k + 1))
        case measure => have := HG.out; omega
        case rel =>
          refine ⟨k + 1, z, time, low, comp, opn, clock, count, by go_num, by omega, rfl, HJ.out, fun x h1 h2 => ?_⟩
          by_cases e : x = k
          · rw [e]; exact HZ.out
          · exact HV.out x h1 (by omega)
    · have hk2 : ¬ (k : Int) < (n : Int) := by omega
      have f3 := HJ.out.sk.f3
      have f6 := HJ.out.sk.f6
      go_wp2
      go_quiet (fail)
      go_wp2
      go_ret2
      have hj := HJ.out
      exact ⟨gc, comp, count, rfl, HM.out.below.trans ((hj.sk.only.drewN nq).below HM.out.below.size (by have := HM.out.ge; intro k hk; simp at hk; omega)), HM.out.ge.2.2.2.1, hj.sk.bcomp, hj.sk.len.2.2, hj.part (fun x hx => HV.out x hx.1 (by have := hx.2; omega))⟩
end Go.Proofs.Ytefpglaipnnggaa
