/-
  No cell of these rows narrows 'for every input' (looked for: loops, veiled, ifaces, maps, wideKeys, modest, calm, conditions, laid).
  DERIVED. THE GIVEN ROWS OF THIS SEAT. 5 by the template 'for every input the law returns true; each argument reads behind the call as it read before'; 0 by the template 'total and deterministic' (their statements: YtjcgkplphiedjaaTotals.lean).
  GIVEN WITH THE SEED: the statements are not yours to turn. If you find one false, say at which input.
  Laid BY PROGRAM, IN A SANDBOX (cutbox-rows.mjs): the forced cells as the released guide's own fill.sh prints them over the translation 94d5f6b8a85ee980… (all of the seat's roots in one cut). By AI agents, Wed Nov 11 2026. No macro, syntax, notation, axiom, sorry.
-/
import Derived.Test.YtjcgkplphiedjaaChecked
import GoSem.Claim
import GoSem.ClaimJoined
import GoSem.ClaimMapViews
import Derived.JoinedTies
import Derived.KernelRfl
namespace Go.Proofs.Ytjcgkplphiedjaa
/- THE CELL 'sum', in the pinned program and in every row, IS THE sha256 OF THE DUMP (.gsa) THAT YtjcgkplphiedjaaProg.lean LOADS. Nothing in Lean hashes anything: it is a label: what it is worth is what the hold of that sum in a sandbox is worth. -/
noncomputable def Try.pinned : Pinned := { name := "ytjcgkplphiedjaa", sum := "94d5f6b8a85ee9808b5e6a4fd83354bc8f3d5f3b8095289d6d10c93ad9acc947", checked := Try.checked }
namespace Rows
def none {H : Type} : Left H := { results := [], args := [] }

/-- 'edictlaw22.MagicAdorns': WHATEVER THE INPUT: true; the input reads as it did. -/
def magicAdornsSpec : ChangeSpec := { name := "magicAdorns", fn := fun _ => fun
  | [d1, d2] => { results := [.lit (.bool true)], args := [d1, d2] }
  | _ => none }
def magicAdornsRow : OpenClaim := { program := "ytjcgkplphiedjaa", sum := "94d5f6b8a85ee9808b5e6a4fd83354bc8f3d5f3b8095289d6d10c93ad9acc947", func := "edict/edictlaw22.MagicAdorns", spec := "magicAdorns", apart := false }
def MagicAdornsSaid : Prop := magicAdornsRow.holds Try.pinned (OpenSpec.ofChange magicAdornsSpec)

/-- ITS FALSE NEIGHBOUR: 'it returns false'. Refute it at one input. -/
def magicAdornsWrong : ChangeSpec := { name := "magicAdorns", fn := fun _ => fun
  | [d1, d2] => { results := [.lit (.bool false)], args := [d1, d2] }
  | _ => none }
def MagicAdornsWrongFalsely : Prop := magicAdornsRow.holds Try.pinned (OpenSpec.ofChange magicAdornsWrong)

/-- 'edictlaw18.LintSlices': WHATEVER THE INPUT: true; the input reads as it did. -/
def lintSlicesSpec : ChangeSpec := { name := "lintSlices", fn := fun _ => fun
  | [d1, d2] => { results := [.lit (.bool true)], args := [d1, d2] }
  | _ => none }
def lintSlicesRow : OpenClaim := { program := "ytjcgkplphiedjaa", sum := "94d5f6b8a85ee9808b5e6a4fd83354bc8f3d5f3b8095289d6d10c93ad9acc947", func := "edict/edictlaw18.LintSlices", spec := "lintSlices", apart := false }
def LintSlicesSaid : Prop := lintSlicesRow.holds Try.pinned (OpenSpec.ofChange lintSlicesSpec)

/-- ITS FALSE NEIGHBOUR: 'it returns false'. Refute it at one input. -/
def lintSlicesWrong : ChangeSpec := { name := "lintSlices", fn := fun _ => fun
  | [d1, d2] => { results := [.lit (.bool false)], args := [d1, d2] }
  | _ => none }
def LintSlicesWrongFalsely : Prop := lintSlicesRow.holds Try.pinned (OpenSpec.ofChange lintSlicesWrong)

/-- 'edictlaw18.LintAgain': WHATEVER THE INPUT: true; the input reads as it did. -/
def lintAgainSpec : ChangeSpec := { name := "lintAgain", fn := fun _ => fun
  | [d1, d2, d3] => { results := [.lit (.bool true)], args := [d1, d2, d3] }
  | _ => none }
def lintAgainRow : OpenClaim := { program := "ytjcgkplphiedjaa", sum := "94d5f6b8a85ee9808b5e6a4fd83354bc8f3d5f3b8095289d6d10c93ad9acc947", func := "edict/edictlaw18.LintAgain", spec := "lintAgain", unfollowed := true, recurses := true, apart := false }
def LintAgainSaid : Prop := lintAgainRow.holds Try.pinned (OpenSpec.ofChange lintAgainSpec)

/-- ITS FALSE NEIGHBOUR: 'it returns false'. Refute it at one input. -/
def lintAgainWrong : ChangeSpec := { name := "lintAgain", fn := fun _ => fun
  | [d1, d2, d3] => { results := [.lit (.bool false)], args := [d1, d2, d3] }
  | _ => none }
def LintAgainWrongFalsely : Prop := lintAgainRow.holds Try.pinned (OpenSpec.ofChange lintAgainWrong)

/-- 'edictlaw18.LintCovers': WHATEVER THE INPUT: true; the input reads as it did. -/
def lintCoversSpec : ChangeSpec := { name := "lintCovers", fn := fun _ => fun
  | [d] => { results := [.lit (.bool true)], args := [d] }
  | _ => none }
def lintCoversRow : OpenClaim := { program := "ytjcgkplphiedjaa", sum := "94d5f6b8a85ee9808b5e6a4fd83354bc8f3d5f3b8095289d6d10c93ad9acc947", func := "edict/edictlaw18.LintCovers", spec := "lintCovers", unfollowed := true, recurses := true, apart := false }
def LintCoversSaid : Prop := lintCoversRow.holds Try.pinned (OpenSpec.ofChange lintCoversSpec)

/-- ITS FALSE NEIGHBOUR: 'it returns false'. Refute it at one input. -/
def lintCoversWrong : ChangeSpec := { name := "lintCovers", fn := fun _ => fun
  | [d] => { results := [.lit (.bool false)], args := [d] }
  | _ => none }
def LintCoversWrongFalsely : Prop := lintCoversRow.holds Try.pinned (OpenSpec.ofChange lintCoversWrong)

/-- 'edictlaw18.LintSpecial': WHATEVER THE INPUT: true; the input reads as it did. -/
def lintSpecialSpec : ChangeSpec := { name := "lintSpecial", fn := fun _ => fun
  | [d1, d2, d3] => { results := [.lit (.bool true)], args := [d1, d2, d3] }
  | _ => none }
def lintSpecialRow : OpenClaim := { program := "ytjcgkplphiedjaa", sum := "94d5f6b8a85ee9808b5e6a4fd83354bc8f3d5f3b8095289d6d10c93ad9acc947", func := "edict/edictlaw18.LintSpecial", spec := "lintSpecial", unfollowed := true, recurses := true, apart := false }
def LintSpecialSaid : Prop := lintSpecialRow.holds Try.pinned (OpenSpec.ofChange lintSpecialSpec)

/-- ITS FALSE NEIGHBOUR: 'it returns false'. Refute it at one input. -/
def lintSpecialWrong : ChangeSpec := { name := "lintSpecial", fn := fun _ => fun
  | [d1, d2, d3] => { results := [.lit (.bool false)], args := [d1, d2, d3] }
  | _ => none }
def LintSpecialWrongFalsely : Prop := lintSpecialRow.holds Try.pinned (OpenSpec.ofChange lintSpecialWrong)

/- THE SECOND FORM. 'bulk': how many values and letters a reading holds, each counted each time it is reached (what is shared counts as often as it is met; a slice's spare places count too). A statement '..UptoSaid' is the law's where the arguments, and the package variables that the reading takes, are together of bulk at most 1048576: NARROWER than '..Said'. Prove '..Said' where nothing that the law and all that it calls make is longer than what came in: it says more and counts as full. Else prove '..UptoSaid'. A law counts once. -/
mutual
def uptoBulk {H : Type} : DataW H → Nat
  | .lit (.string bytes) => bytes.length + 1
  | .lit _ => 1
  | .nil => 1
  | .ptr d => uptoBulk d + 1
  | .slice elems spare => uptoBulkAll elems + uptoBulkAll spare + 1
  | .agg parts => uptoBulkAll parts + 1
  | .iface _ d => uptoBulk d + 1
  | .map entries => uptoBulkEntries entries + 1
  | .held _ => 1
def uptoBulkAll {H : Type} : List (DataW H) → Nat
  | [] => 0
  | d :: r => uptoBulk d + uptoBulkAll r
def uptoBulkEntries {H : Type} : List (Lit × DataW H) → Nat
  | [] => 0
  | x :: r => uptoBulkEntry x + uptoBulkEntries r
def uptoBulkEntry {H : Type} : Lit × DataW H → Nat
  | (.string bytes, d) => bytes.length + uptoBulk d + 1
  | (_, d) => uptoBulk d + 1
 end
def uptoSmall : (H : Type) → List (DataW H) → Bool := fun _ ds => decide (uptoBulkAll ds ≤ 1048576)
def OpenSpec.upto (s : _root_.Go.ChangeSpec) : _root_.Go.OpenSpec := { _root_.Go.OpenSpec.ofChange s with cond := some uptoSmall }

/-- 'edictlaw22.MagicAdorns', WHERE WHAT IT READS IS OF BULK AT MOST 1048576: true; the input reads as it did. -/
def magicAdornsUptoRow : OpenClaim := { program := "ytjcgkplphiedjaa", sum := "94d5f6b8a85ee9808b5e6a4fd83354bc8f3d5f3b8095289d6d10c93ad9acc947", func := "edict/edictlaw22.MagicAdorns", spec := "magicAdorns", apart := false, narrowed := true }
def MagicAdornsUptoSaid : Prop := magicAdornsUptoRow.holds Try.pinned (OpenSpec.upto magicAdornsSpec)

/-- 'edictlaw18.LintSlices', WHERE WHAT IT READS IS OF BULK AT MOST 1048576: true; the input reads as it did. -/
def lintSlicesUptoRow : OpenClaim := { program := "ytjcgkplphiedjaa", sum := "94d5f6b8a85ee9808b5e6a4fd83354bc8f3d5f3b8095289d6d10c93ad9acc947", func := "edict/edictlaw18.LintSlices", spec := "lintSlices", apart := false, narrowed := true }
def LintSlicesUptoSaid : Prop := lintSlicesUptoRow.holds Try.pinned (OpenSpec.upto lintSlicesSpec)

/-- 'edictlaw18.LintAgain', WHERE WHAT IT READS IS OF BULK AT MOST 1048576: true; the input reads as it did. -/
def lintAgainUptoRow : OpenClaim := { program := "ytjcgkplphiedjaa", sum := "94d5f6b8a85ee9808b5e6a4fd83354bc8f3d5f3b8095289d6d10c93ad9acc947", func := "edict/edictlaw18.LintAgain", spec := "lintAgain", unfollowed := true, recurses := true, apart := false, narrowed := true }
def LintAgainUptoSaid : Prop := lintAgainUptoRow.holds Try.pinned (OpenSpec.upto lintAgainSpec)

/-- 'edictlaw18.LintCovers', WHERE WHAT IT READS IS OF BULK AT MOST 1048576: true; the input reads as it did. -/
def lintCoversUptoRow : OpenClaim := { program := "ytjcgkplphiedjaa", sum := "94d5f6b8a85ee9808b5e6a4fd83354bc8f3d5f3b8095289d6d10c93ad9acc947", func := "edict/edictlaw18.LintCovers", spec := "lintCovers", unfollowed := true, recurses := true, apart := false, narrowed := true }
def LintCoversUptoSaid : Prop := lintCoversUptoRow.holds Try.pinned (OpenSpec.upto lintCoversSpec)

/-- 'edictlaw18.LintSpecial', WHERE WHAT IT READS IS OF BULK AT MOST 1048576: true; the input reads as it did. -/
def lintSpecialUptoRow : OpenClaim := { program := "ytjcgkplphiedjaa", sum := "94d5f6b8a85ee9808b5e6a4fd83354bc8f3d5f3b8095289d6d10c93ad9acc947", func := "edict/edictlaw18.LintSpecial", spec := "lintSpecial", unfollowed := true, recurses := true, apart := false, narrowed := true }
def LintSpecialUptoSaid : Prop := lintSpecialUptoRow.holds Try.pinned (OpenSpec.upto lintSpecialSpec)

end Rows
end Go.Proofs.Ytjcgkplphiedjaa
