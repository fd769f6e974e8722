import Derived.Test.YtefpglaipnnggaaA1
namespace Go.Proofs.Ytefpglaipnnggaa
open Go.RowKit

theorem eqIn43 (f t r f' t' r' : Int) (g g' : Bool) (w : World) :
    (Op.equalIn 10000 43 (.agg #[.int .i64 f, .int .i64 t, .bool g, .int .i64 r]) (.agg #[.int .i64 f', .int .i64 t', .bool g', .int .i64 r'])).run Try.prog w = .ok (decide ((⟨f, t, g, r⟩ : E) = ⟨f', t', g', r'⟩)) w := by
  rw [run_equalIn_struct (P := Try.prog) w 9999 43 _ _ (by kernel_rfl) (by kernel_rfl)]
  have h1 : ∃ a b c d : Field, (Try.prog.fieldsOf 43).toList = [a, b, c, d] ∧ a.name ≠ "_" ∧ b.name ≠ "_" ∧ c.name ≠ "_" ∧ d.name ≠ "_" ∧ a.type = 3 ∧ b.type = 3 ∧ c.type = 4 ∧ d.type = 3 ∧ a.offset = 0 ∧ b.offset = 1 ∧ c.offset = 2 ∧ d.offset = 3 := by
    simp only [Program.fieldsOf, Try.underlying43]
    exact ⟨_, _, _, _, rfl, by decide, by decide, by decide, by decide, rfl, rfl, rfl, rfl, rfl, rfl, rfl, rfl⟩
  obtain ⟨a, b, c, d, hl, n1, n2, n3, n4, t1, t2, t3, t4, o1, o2, o3, o4⟩ := h1
  rw [hl]
  simp only [Op.eqFields, t1, t2, t3, t4, o1, o2, o3, o4]
  go_simp
  repeat' split
  all_goals simp_all

@[go_sem] theorem Try.eqGuard43 : Try.prog.eqGuardType Try.prog.depth 43 = false := by kernel_rfl
/-- Are two edges unlike? -/
def eNe (a b : E) : Bool := !decide (a = b)

@[simp] theorem run_neq43 (f t r f' t' r' : Int) (g g' : Bool) (w : World) :
    (binOp .neq 43 (.agg #[.int .i64 f, .int .i64 t, .bool g, .int .i64 r]) (.agg #[.int .i64 f', .int .i64 t', .bool g', .int .i64 r'])).run Try.prog w = .ok (.bool (eNe ⟨f, t, g, r⟩ ⟨f', t', g', r'⟩)) w := by
  rw [run_neq_struct, eqIn43]; rfl
end Go.Proofs.Ytefpglaipnnggaa
