/- A clause's terms in reading order, the document's. | The variables that stand once in a clause: the document's singles. -/
import Derived.Test.YtjcgkplphiedjaaGq
import Derived.Test.YtjcgkplphiedjaaGs
namespace Go.Proofs.Ytjcgkplphiedjaa
open Go.RowKit Go.Sort

end Go.Proofs.Ytjcgkplphiedjaa

namespace Go.Proofs.Ytjcgkplphiedjaa
open Go.RowKit Go.Sort

theorem Try.info51 : (Try.prog.info? 51).map (fun i => (i.zero, i.size, i.bytes)) = some (some (.agg #[.int .i64 0, .int .i64 0, .int .i64 0, .int .i64 0, .string ⟨#[]⟩]), 5, 48) := by kernel_rfl
theorem timesT_succ (L : List T) (s : ByteArray) (k : Nat) (h : k < L.length) : timesT (L.take (k + 1)) s = timesT (L.take k) s + if ((L[k].k == 4) && (L[k].t.toList == s.toList)) = true then 1 else 0 := by
  unfold timesT
  rw [take_snoc L k h, List.countP_append, List.countP_singleton]
theorem below_drewN (w : World) (n : Nat) : Below w.heap.size w (w.drewN n) := ⟨rfl, rfl, rfl, Nat.le_refl _, fun _ _ => rfl⟩
theorem below_drew (w : World) : Below w.heap.size w w.drew := ⟨rfl, rfl, rfl, Nat.le_refl _, fun _ _ => rfl⟩
theorem tot_succ {O : List Fd} {m : Nat} {v : Value} {w : World} {R : Nat} (h : w.ownsRow R 51 5 v m (fcells O)) : O.length = m := by
  have := h.1
  rw [fcells_length] at this
  omega

end Go.Proofs.Ytjcgkplphiedjaa
