/- The marks behind the lists stand where they were put. -/
import Derived.Test.YtjcgkplphiedjaaDoorTH5
namespace Go.Proofs.YtjcgkplphiedjaaDoorT
open Go.RowKit Go.Sort

theorem room_pre {w : World} {R e size n c : Nat} {A : Option Addr} {xs ys : List Value} (h : w.ownsRow R e size (.slice A (n + 1) c) (n + 1) (xs ++ ys)) (hl : xs.length = n * size) :
    ∃ g, A = some ⟨g, 0, none⟩ ∧ n + 1 ≤ c ∧ c ≤ 9223372036854775807 ∧ (∀ j u, ys[j]? = some u → w.cell? ⟨g, n * size + j, none⟩ = some u) ∧ g < w.heap.size := by
  obtain ⟨g, cap, cur, hv, _⟩ := own_blk h (by omega)
  simp only [Value.slice.injEq] at hv
  obtain ⟨rfl, _, rfl⟩ := hv
  obtain ⟨_, h2, h3, h4, h5, _⟩ := own_pre h hl
  exact ⟨g, rfl, h3, h4, h2, h5⟩
theorem Ln.room.lens {w : World} {R : Nat} {x : Ln} (h : Ln.room w R x) : x.xs.length = x.n ∧ x.ss.length = x.m ∧ x.fs.length = x.k := by
  have h1 := h.a.1
  have h2 := h.s.1
  have h3 := h.f.1
  rw [kcells_length, List.length_append] at h1 h2
  rw [icells_length, List.length_append] at h3
  simp only [List.length_singleton] at h1 h2 h3
  omega

set_option maxRecDepth 20000 in
set_option maxHeartbeats 8000000 in
theorem marked_true (g n D R : Nat) (ls : List Ln) (z : Ln) (w : World) (hz : z.r = -77) (h : w.ownsRow R 66 5 (.slice (some ⟨g, 0, none⟩) (n + 1) D) (n + 1) (ncells (ls ++ [z]))) (hm : ∀ x ∈ ls, Ln.room w R x) :
    Calls Tryd.prog 16 #[.slice (some ⟨g, 0, none⟩) n D] w fun e w' => e = .returned (.bool true) ∧ Below w.heap.size w w' := by
  have hlen : ls.length = n := by have := h.1; rw [ncells_length, List.length_append, List.length_singleton] at this; omega
  rw [ncells_append] at h
  obtain ⟨hr, hzc, hnc, hcm, hgs, _⟩ := own_pre h (by rw [ncells_length]; omega)
  have m1 := hzc 2 _ (show (ncells [z])[2]? = some (.int .i64 z.r) by simp [ncells, Ln.cells])
  rw [hz] at m1
  have HM1 := Lib.hid m1
  have HL := Lib.hid hr
  have HK := Lib.hid hm
  have HN := Lib.hid hlen
  clear h hm hr hzc hz hlen
  generalize hR : w.heap.size = S at *
  have HRR := Lib.hid hR
  clear hR
  have hcp : (n : Int) + 1 ≤ (D : Int) := by omega
  go_enter Tryd.func16, Tryd.ntmps16
  go_upto_region 6 with (fail)
  clear m1
  go_loopg [5] n (fun gk u5 wr => ∃ k : Nat, u5 = .int .i64 k ∧ k ≤ n ∧ Hid (gk = n - k) ∧ Hid (Below S w wr))
  case atStart => exact ⟨0, rfl, Nat.zero_le _, Lib.hid (by omega), Lib.hid (Below.refl _ _)⟩
  case round =>
    obtain ⟨k, rfl, hk, HG, HB⟩ := hrel
    by_cases hlt : k < n
    · obtain ⟨b1, o1, hk1, hAe, hb1, hc⟩ := (HL.out.below HB.out).at Ln.cells 5 (fun _ => rfl) (by omega) k hlt
      injection hAe with hAe
      injection hAe with e1 e2
      subst e1 e2
      have c1 := hc 1 _ (by omega) rfl
      have c3 := hc 3 _ (by omega) rfl
      have c4 := hc 4 _ (by omega) rfl
      rw [Nat.zero_add] at c1 c3 c4
      clear hc
      have hx := HK.out ls[k] (List.getElem_mem hk1)
      generalize ls[k] = x at *
      obtain ⟨l1, l2, l3⟩ := hx.lens
      obtain ⟨xp, xA, xn, xc, xr, xB, xm, xd, xF, xk, xe, xxs, xss, xfs⟩ := x
      dsimp only at c1 c3 c4 l1 l2 l3
      have ha := hx.a
      have hs := hx.s
      have hf := hx.f
      dsimp only at ha hs hf
      rw [kcells_append] at ha hs
      rw [icells_append] at hf
      obtain ⟨ga, rfl, ha1, ha2, ha3, ha4⟩ := room_pre ha (by rw [kcells_length]; omega)
      obtain ⟨gs, rfl, hs1, hs2, hs3, hs4⟩ := room_pre hs (by rw [kcells_length]; omega)
      obtain ⟨gf, rfl, hf1, hf2, hf3, hf4⟩ := room_pre hf (by rw [icells_length]; omega)
      have a0 := (HB.out.cell (by rw [← HRR.out]; exact ha4)).trans (ha3 0 (.int .i64 77) rfl)
      have s0 := (HB.out.cell (by rw [← HRR.out]; exact hs4)).trans (hs3 0 (.int .i64 77) rfl)
      have t0 := (HB.out.cell (by rw [← HRR.out]; exact hf4)).trans (hf3 0 (.int .i64 77) rfl)
      rw [Nat.add_zero] at a0 s0 t0
      rw [Nat.mul_one] at t0
      clear hx ha hs hf ha3 ha4 hs3 hs4 hf3 hf4 l1 l2 l3
      have h1 : (xn : Int) + 1 ≤ (xc : Int) := by omega
      have h2 : (xm : Int) + 1 ≤ (xd : Int) := by omega
      have h3 : (xk : Int) + 1 ≤ (xe : Int) := by omega
      go_wp2
      go_roundg (n - (k + 1))
      case measure => have := HG.out; omega
      case rel => exact ⟨k + 1, by go_num, by omega, Lib.hid rfl, HB⟩
    · obtain rfl : k = n := by omega
      go_wp2
      go_ret
      exact ⟨rfl, HB.out⟩
end Go.Proofs.YtjcgkplphiedjaaDoorT
