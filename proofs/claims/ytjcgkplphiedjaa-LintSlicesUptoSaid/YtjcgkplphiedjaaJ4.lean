/- Names, atoms: that they are the same; the mark. -/
import Derived.Test.YtjcgkplphiedjaaJ3
namespace Go.Proofs.Ytjcgkplphiedjaa
open Go.RowKit

theorem own_blk_ne {w : World} {base e size n g : Nat} {t : TypeId} {cs : List Value} {v : Value} {xs : List Value} (h : w.ownsRow base e size v n xs) (hg : Blk w g t cs) (hne : t ≠ e) : some g ≠ v.ownBlock := by
  rcases h.2 with ⟨rfl, _⟩ | ⟨g', cap, cur, rfl, _, hh, _⟩
  · simp [Value.ownBlock]
  · intro he
    simp only [Value.ownBlock, Option.some.injEq] at he
    subst he
    unfold Blk at hg
    rw [hh] at hg
    injection hg with hg
    injection hg with _ ht
    exact hne ht.symm


set_option maxHeartbeats 1000000 in
theorem names_any (A A' : Option Addr) (n c c' : Nat) (l : List ByteArray) (w : World) (hr : Rd w w.heap.size 1 A n (scells l)) (hr' : Rd w w.heap.size 1 A' n (scells l)) :
    Calls Try.prog 13 #[.slice A n c, .slice A' n c'] w fun e w' => e = .returned (.bool true) ∧ Below w.heap.size w w' := by
  have HR := Lib.hid hr
  have HR' := Lib.hid hr'
  have hn := hr.2.1
  clear hr hr'
  go_enter Try.func13, Try.ntmps13
  go_wp2
  go_loopw [5] (fun i wr => ∃ k : Nat, i = .int .i64 k ∧ k ≤ n ∧ Hid (Below w.heap.size w wr)) (fun i _ => n - (intOf i).toNat)
  case atStart => exact ⟨0, rfl, Nat.zero_le _, Below.refl _ _⟩
  case round =>
    obtain ⟨k, rfl, hk, hb⟩ := hrel
    by_cases hlt : k < n
    · obtain ⟨B, o, hk1, rfl, hB, c0⟩ := (HR.out.below hb.out).str k hlt
      obtain ⟨B', o', _, rfl, hB', c0'⟩ := (HR'.out.below hb.out).str k hlt
      go_wp2
      go_quiet (fail)
      go_wp2
      go_roundw
      case rel => exact ⟨k + 1, by go_num, by omega, below_drewN hb.out _⟩
      case measure => simp [intOf]; omega
    · go_wp2
      go_ret
      exact ⟨rfl, hb.out⟩

theorem eqIn33 (k i o : Int) (t : ByteArray) (w : World) :
    (Op.equalIn 10000 33 (.agg #[.int .i64 k, .int .i64 i, .string t, .int .i64 o]) (.agg #[.int .i64 k, .int .i64 i, .string t, .int .i64 o])).run Try.prog w = .ok true w := by
  rw [run_equalIn_struct (P := Try.prog) w 9999 33 _ _ (by kernel_rfl) (by kernel_rfl)]
  have h1 : ∃ a b c d : Field, (Try.prog.fieldsOf 33).toList = [a, b, c, d] ∧ a.name ≠ "_" ∧ b.name ≠ "_" ∧ c.name ≠ "_" ∧ d.name ≠ "_" ∧ a.type = 3 ∧ b.type = 2 ∧ c.type = 9 ∧ d.type = 3 ∧ a.offset = 0 ∧ b.offset = 1 ∧ c.offset = 2 ∧ d.offset = 3 := by
    simp only [Program.fieldsOf, Try.underlying33]
    exact ⟨_, _, _, _, rfl, by decide, by decide, by decide, by decide, rfl, rfl, rfl, rfl, rfl, rfl, rfl, rfl⟩
  obtain ⟨a, b, c, d, hl, n1, n2, n3, n4, t1, t2, t3, t4, o1, o2, o3, o4⟩ := h1
  rw [hl]
  simp only [Op.eqFields, t1, t2, t3, t4, o1, o2, o3, o4]
  go_simp
  repeat' split
  all_goals simp_all

@[go_sem] theorem Try.eqGuard33 : Try.prog.eqGuardType Try.prog.depth 33 = false := by kernel_rfl

@[simp] theorem run_neq33 (k i o : Int) (t : ByteArray) (w : World) :
    (binOp .neq 33 (.agg #[.int .i64 k, .int .i64 i, .string t, .int .i64 o]) (.agg #[.int .i64 k, .int .i64 i, .string t, .int .i64 o])).run Try.prog w = .ok (.bool false) w := by
  rw [run_neq_struct, eqIn33]; rfl

set_option maxHeartbeats 1000000 in
theorem same_any (p : ByteArray) (A A' : Option Addr) (n c c' : Nat) (o : Int) (es : List T) (w : World) (hr : Rd w w.heap.size 4 A n (tcells es)) (hr' : Rd w w.heap.size 4 A' n (tcells es)) :
    Calls Try.prog 11 #[av p A n c o, av p A' n c' o] w fun e w' => e = .returned (.bool true) ∧ Below w.heap.size w w' := by
  have HR := Lib.hid hr
  have HR' := Lib.hid hr'
  have hn := hr.2.1
  clear hr hr'
  unfold av
  go_enter Try.func11, Try.ntmps11
  go_wp2
  have hb0 := Lib.hid (((Below.refl w.heap.size w).alloc (Nat.le_refl _) (.cells #[.string p, .slice A n c, .int .i64 o] 27)).alloc (by simp) (.cells #[.string p, .slice A' n c', .int .i64 o] 27))
  have h1 := Lib.hid ((Blk.new w 27 [.string p, .slice A n c, .int .i64 o]).alloc (.cells #[.string p, .slice A' n c', .int .i64 o] 27))
  have h2 := Blk.new (w.alloc (.cells #[.string p, .slice A n c, .int .i64 o] 27)) 27 [.string p, .slice A' n c', .int .i64 o]
  rw [show (w.alloc (.cells #[.string p, .slice A n c, .int .i64 o] 27)).heap.size = w.heap.size + 1 by simp] at h2
  have h2 := Lib.hid h2
  have f1 : ((w.alloc (.cells #[.string p, .slice A n c, .int .i64 o] 27)).alloc (.cells #[.string p, .slice A' n c', .int .i64 o] 27)).cell? ⟨w.heap.size, 1, none⟩ = some (.slice A n c) := h1.out.cell 1
  have f2 : ((w.alloc (.cells #[.string p, .slice A n c, .int .i64 o] 27)).alloc (.cells #[.string p, .slice A' n c', .int .i64 o] 27)).cell? ⟨w.heap.size + 1, 1, none⟩ = some (.slice A' n c') := h2.out.cell 1
  clear h1 h2
  generalize World.alloc _ _ = w1 at *
  generalize hR : w.heap.size = R at *
  have HRR := Lib.hid hR
  clear hR
  go_loopw [5] (fun i wr => ∃ k : Nat, i = .int .i64 k ∧ k ≤ n ∧ Hid (Below R w wr) ∧ wr.cell? ⟨R, 1, none⟩ = some (.slice A n c) ∧ wr.cell? ⟨R + 1, 1, none⟩ = some (.slice A' n c')) (fun i _ => n - (intOf i).toNat)
  case atStart => exact ⟨0, rfl, Nat.zero_le _, hb0, f1, f2⟩
  case round =>
    clear hb0 f1 f2
    obtain ⟨k, rfl, hk, hb, f1, f2⟩ := hrel
    by_cases hlt : k < n
    · obtain ⟨B, off, hk1, rfl, hB, c0, c1, c2, c3⟩ := (HR.out.below hb.out).term k hlt
      obtain ⟨B', off', _, rfl, hB', d0, d1, d2, d3⟩ := (HR'.out.below hb.out).term k hlt
      go_wp2
      go_quiet (fail)
      go_wp2
      go_roundw
      case rel => exact ⟨k + 1, by go_num, by omega, below_drewN hb.out _, f1, f2⟩
      case measure => simp [intOf]; omega
    · go_wp2
      go_ret
      exact ⟨rfl, by have := HRR.out; rw [this]; exact hb.out⟩

/-- The mark. -/
theorem marked_any (p : ByteArray) (b n c : Nat) (o : Int) (w : World) (hn : n + 1 ≤ c) (hc : c ≤ 9223372036854775807) (h0 : w.cell? ⟨b, n * 4, none⟩ = some (.int .i64 77)) :
    Calls Try.prog 12 #[av p (some ⟨b, 0, none⟩) n c o] w fun e w' => e = .returned (.bool true) ∧ Below w.heap.size w w' := by
  have hb : b < w.heap.size := World.block_lt_of_cell? w _ h0
  unfold av
  go_enter Try.func12, Try.ntmps12
  go_wp2
  go_ret
  exact ⟨rfl, (Below.refl w.heap.size w).alloc (Nat.le_refl _) _⟩
end Go.Proofs.Ytjcgkplphiedjaa
