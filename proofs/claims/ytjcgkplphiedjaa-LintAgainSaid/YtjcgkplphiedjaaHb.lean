/- The law of the findings: its walk. -/
import Derived.Test.YtjcgkplphiedjaaGz
namespace Go.Proofs.Ytjcgkplphiedjaa
open Go.RowKit Go.Sort

theorem eqInFd (k c o f : Int) (n : ByteArray) (w : World) :
    (Op.equalIn 10000 51 (.agg #[.int .i64 k, .int .i64 c, .int .i64 o, .int .i64 f, .string n]) (.agg #[.int .i64 k, .int .i64 c, .int .i64 o, .int .i64 f, .string n])).run Try.prog w = .ok true w := by
  rw [run_equalIn_struct (P := Try.prog) w 9999 51 _ _ (by kernel_rfl) (by kernel_rfl)]
  have h1 : ∃ a b c d e : Field, (Try.prog.fieldsOf 51).toList = [a, b, c, d, e] ∧ a.name ≠ "_" ∧ b.name ≠ "_" ∧ c.name ≠ "_" ∧ d.name ≠ "_" ∧ e.name ≠ "_" ∧ a.type = 3 ∧ b.type = 3 ∧ c.type = 3 ∧ d.type = 3 ∧ e.type = 9 ∧ a.offset = 0 ∧ b.offset = 1 ∧ c.offset = 2 ∧ d.offset = 3 ∧ e.offset = 4 := by
    simp only [Program.fieldsOf, Try.underlying51]
    exact ⟨_, _, _, _, _, rfl, by decide, by decide, by decide, by decide, by decide, rfl, rfl, rfl, rfl, rfl, rfl, rfl, rfl, rfl, rfl⟩
  obtain ⟨a, b, c, d, e, hl, n1, n2, n3, n4, n5, t1, t2, t3, t4, t5, o1, o2, o3, o4, o5⟩ := h1
  rw [hl]
  simp only [Op.eqFields, t1, t2, t3, t4, t5, o1, o2, o3, o4, o5]
  go_simp
  repeat' split
  all_goals simp_all

@[go_sem] theorem Try.eqGuardFd : Try.prog.eqGuardType Try.prog.depth 51 = false := by kernel_rfl

@[simp] theorem run_neqFd (k c o f : Int) (n : ByteArray) (w : World) :
    (binOp .neq 51 (.agg #[.int .i64 k, .int .i64 c, .int .i64 o, .int .i64 f, .string n]) (.agg #[.int .i64 k, .int .i64 c, .int .i64 o, .int .i64 f, .string n])).run Try.prog w = .ok (.bool false) w := by
  rw [run_neq_struct, eqInFd]; rfl

theorem core_mem {cs cs' : List Cl} (h : cs.map Cl.core = cs'.map Cl.core) {x : Cl} (hx : x ∈ cs) : ∃ y ∈ cs', y.core = x.core := by
  have h1 : x.core ∈ cs'.map Cl.core := h ▸ List.mem_map_of_mem hx
  obtain ⟨y, hy, e⟩ := List.mem_map.1 h1
  exact ⟨y, hy, e⟩
theorem core_oks {w w0 : World} {R : Nat} {cs cs' : List Cl} (h : cs'.map Cl.core = cs.map Cl.core) (ho : ∀ x ∈ cs', Cl.own w R x) (hk : ∀ x ∈ cs, Cl.ok w0 x) : ∀ x ∈ cs', Cl.ok w x := fun x hx => by
  obtain ⟨y, hy, e⟩ := core_mem h hx
  exact (ho x hx).ok e.symm (hk y hy)
theorem At.core_fine {x y : At} (h : x.core = y.core) (hf : x.fine) : y.fine := by
  have h1 : x.p = y.p := congrArg (fun p => p.1) h
  have h2 : x.es = y.es := congrArg (fun p => p.2.2) h
  unfold At.fine at hf ⊢
  rw [← h1, ← h2]; exact hf
theorem At.core_ints {x y : At} (h : x.core = y.core) (hf : x.ints) : y.ints := by
  have h2 : x.es = y.es := congrArg (fun p => p.2.2) h
  unfold At.ints at hf ⊢
  rw [← h2]; exact hf
theorem Li.core_fine {x y : Li} (h : x.core = y.core) (hf : x.fine) : y.fine := by
  have h1 : x.a.core = y.a.core := congrArg (fun p => p.2.1) h
  have h2 : x.l = y.l := congrArg (fun p => p.2.2.2.1) h
  have h3 : x.r = y.r := congrArg (fun p => p.2.2.2.2.1) h
  exact ⟨At.core_fine h1 hf.1, h2 ▸ hf.2.1, h3 ▸ hf.2.2⟩
theorem Li.core_ints {x y : Li} (h : x.core = y.core) (hf : x.ints) : y.ints := by
  have h1 : x.a.core = y.a.core := congrArg (fun p => p.2.1) h
  have h2 : x.l = y.l := congrArg (fun p => p.2.2.2.1) h
  have h3 : x.r = y.r := congrArg (fun p => p.2.2.2.2.1) h
  exact ⟨At.core_ints h1 hf.1, h2 ▸ hf.2.1, h3 ▸ hf.2.2⟩
theorem lis_core_mem {l l' : List Li} (h : l.map Li.core = l'.map Li.core) {x : Li} (hx : x ∈ l) : ∃ y ∈ l', y.core = x.core := by
  have h1 : x.core ∈ l'.map Li.core := h ▸ List.mem_map_of_mem hx
  obtain ⟨y, hy, e⟩ := List.mem_map.1 h1
  exact ⟨y, hy, e⟩
theorem Cl.core_fines {x y : Cl} (h : x.core = y.core) (hf : x.fines) : y.fines :=
  ⟨At.core_fine (congrArg (fun p => p.1) h) hf.1, fun z hz => by
    obtain ⟨u, hu, e⟩ := lis_core_mem (congrArg (fun p => p.2) h).symm hz
    exact Li.core_fine e (hf.2 u hu)⟩
theorem Cl.core_ints {x y : Cl} (h : x.core = y.core) (hf : x.ints) : y.ints :=
  ⟨At.core_ints (congrArg (fun p => p.1) h) hf.1, fun z hz => by
    obtain ⟨u, hu, e⟩ := lis_core_mem (congrArg (fun p => p.2) h).symm hz
    exact Li.core_ints e (hf.2 u hu)⟩
theorem core_fines {cs cs' : List Cl} (h : cs'.map Cl.core = cs.map Cl.core) (hf : ∀ x ∈ cs, x.fines) : ∀ x ∈ cs', x.fines := fun x hx => by
  obtain ⟨y, hy, e⟩ := core_mem h hx
  exact Cl.core_fines e (hf y hy)
theorem core_ints {cs cs' : List Cl} (h : cs'.map Cl.core = cs.map Cl.core) (hf : ∀ x ∈ cs, x.ints) : ∀ x ∈ cs', x.ints := fun x hx => by
  obtain ⟨y, hy, e⟩ := core_mem h hx
  exact Cl.core_ints e (hf y hy)
end Go.Proofs.Ytjcgkplphiedjaa
