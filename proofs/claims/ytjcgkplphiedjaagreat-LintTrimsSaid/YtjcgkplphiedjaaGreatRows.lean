/-
  No cell of these rows narrows 'for every input' (looked for: loops, veiled, ifaces, maps, wideKeys, modest, calm, conditions, laid).
  DERIVED. THE GIVEN ROWS OF THIS SEAT. 2 by the template 'for every input the law returns true; each argument reads behind the call as it read before'; 0 by the template 'total and deterministic' (their statements: YtjcgkplphiedjaaGreatTotals.lean).
  GIVEN WITH THE SEED: the statements are not yours to turn. If you find one false, say at which input.
  Laid BY PROGRAM, IN A SANDBOX (cutbox-rows.mjs): the forced cells as the released guide's own fill.sh prints them over the translation 20a7ae4d22c050ea… (all of the seat's roots in one cut). By AI agents, Wed Nov 11 2026. No macro, syntax, notation, axiom, sorry.
-/
import Derived.Test.YtjcgkplphiedjaaGreatChecked
import GoSem.Claim
import GoSem.ClaimJoined
import GoSem.ClaimMapViews
import Derived.JoinedTies
import Derived.KernelRfl
namespace Go.Proofs.YtjcgkplphiedjaaGreat
/- THE CELL 'sum', in the pinned program and in every row, IS THE sha256 OF THE DUMP (.gsa) THAT YtjcgkplphiedjaaGreatProg.lean LOADS. Nothing in Lean hashes anything: it is a label: what it is worth is what the hold of that sum in a sandbox is worth. -/
noncomputable def Tryz.pinned : Pinned := { name := "ytjcgkplphiedjaagreat", sum := "20a7ae4d22c050ea52ed65a20b5300cbd84dc7ea336efba8fb23f7c61175029d", checked := Tryz.checked }
namespace Rows
def none {H : Type} : Left H := { results := [], args := [] }

/-- 'edictlaw18.LintLooks': WHATEVER THE INPUT: true; the input reads as it did. -/
def lintLooksSpec : ChangeSpec := { name := "lintLooks", fn := fun _ => fun
  | [d] => { results := [.lit (.bool true)], args := [d] }
  | _ => none }
def lintLooksRow : OpenClaim := { program := "ytjcgkplphiedjaagreat", sum := "20a7ae4d22c050ea52ed65a20b5300cbd84dc7ea336efba8fb23f7c61175029d", func := "edict/edictlaw18.LintLooks", spec := "lintLooks", unfollowed := true, recurses := true, apart := false }
def LintLooksSaid : Prop := lintLooksRow.holds Tryz.pinned (OpenSpec.ofChange lintLooksSpec)

/-- ITS FALSE NEIGHBOUR: 'it returns false'. Refute it at one input. -/
def lintLooksWrong : ChangeSpec := { name := "lintLooks", fn := fun _ => fun
  | [d] => { results := [.lit (.bool false)], args := [d] }
  | _ => none }
def LintLooksWrongFalsely : Prop := lintLooksRow.holds Tryz.pinned (OpenSpec.ofChange lintLooksWrong)

/-- 'edictlaw18.LintTrims': WHATEVER THE INPUT: true; the input reads as it did. -/
def lintTrimsSpec : ChangeSpec := { name := "lintTrims", fn := fun _ => fun
  | [d] => { results := [.lit (.bool true)], args := [d] }
  | _ => none }
def lintTrimsRow : OpenClaim := { program := "ytjcgkplphiedjaagreat", sum := "20a7ae4d22c050ea52ed65a20b5300cbd84dc7ea336efba8fb23f7c61175029d", func := "edict/edictlaw18.LintTrims", spec := "lintTrims", unfollowed := true, recurses := true, apart := false }
def LintTrimsSaid : Prop := lintTrimsRow.holds Tryz.pinned (OpenSpec.ofChange lintTrimsSpec)

/-- ITS FALSE NEIGHBOUR: 'it returns false'. Refute it at one input. -/
def lintTrimsWrong : ChangeSpec := { name := "lintTrims", fn := fun _ => fun
  | [d] => { results := [.lit (.bool false)], args := [d] }
  | _ => none }
def LintTrimsWrongFalsely : Prop := lintTrimsRow.holds Tryz.pinned (OpenSpec.ofChange lintTrimsWrong)

/- THE SECOND FORM. 'bulk': how many values and letters a reading holds, each counted each time it is reached (what is shared counts as often as it is met; a slice's spare places count too). A statement '..UptoSaid' is the law's where the arguments, and the package variables that the reading takes, are together of bulk at most 1048576: NARROWER than '..Said'. Prove '..Said' where nothing that the law and all that it calls make is longer than what came in: it says more and counts as full. Else prove '..UptoSaid'. A law counts once. -/
mutual
def uptoBulk {H : Type} : DataW H → Nat
  | .lit (.string bytes) => bytes.length + 1
  | .lit _ => 1
  | .nil => 1
  | .ptr d => uptoBulk d + 1
  | .slice elems spare => uptoBulkAll elems + uptoBulkAll spare + 1
  | .agg parts => uptoBulkAll parts + 1
  | .iface _ d => uptoBulk d + 1
  | .map entries => uptoBulkEntries entries + 1
  | .held _ => 1
def uptoBulkAll {H : Type} : List (DataW H) → Nat
  | [] => 0
  | d :: r => uptoBulk d + uptoBulkAll r
def uptoBulkEntries {H : Type} : List (Lit × DataW H) → Nat
  | [] => 0
  | x :: r => uptoBulkEntry x + uptoBulkEntries r
def uptoBulkEntry {H : Type} : Lit × DataW H → Nat
  | (.string bytes, d) => bytes.length + uptoBulk d + 1
  | (_, d) => uptoBulk d + 1
 end
def uptoSmall : (H : Type) → List (DataW H) → Bool := fun _ ds => decide (uptoBulkAll ds ≤ 1048576)
def OpenSpec.upto (s : _root_.Go.ChangeSpec) : _root_.Go.OpenSpec := { _root_.Go.OpenSpec.ofChange s with cond := some uptoSmall }

/-- 'edictlaw18.LintLooks', WHERE WHAT IT READS IS OF BULK AT MOST 1048576: true; the input reads as it did. -/
def lintLooksUptoRow : OpenClaim := { program := "ytjcgkplphiedjaagreat", sum := "20a7ae4d22c050ea52ed65a20b5300cbd84dc7ea336efba8fb23f7c61175029d", func := "edict/edictlaw18.LintLooks", spec := "lintLooks", unfollowed := true, recurses := true, apart := false, narrowed := true }
def LintLooksUptoSaid : Prop := lintLooksUptoRow.holds Tryz.pinned (OpenSpec.upto lintLooksSpec)

/-- 'edictlaw18.LintTrims', WHERE WHAT IT READS IS OF BULK AT MOST 1048576: true; the input reads as it did. -/
def lintTrimsUptoRow : OpenClaim := { program := "ytjcgkplphiedjaagreat", sum := "20a7ae4d22c050ea52ed65a20b5300cbd84dc7ea336efba8fb23f7c61175029d", func := "edict/edictlaw18.LintTrims", spec := "lintTrims", unfollowed := true, recurses := true, apart := false, narrowed := true }
def LintTrimsUptoSaid : Prop := lintTrimsUptoRow.holds Tryz.pinned (OpenSpec.upto lintTrimsSpec)

end Rows
end Go.Proofs.YtjcgkplphiedjaaGreat
