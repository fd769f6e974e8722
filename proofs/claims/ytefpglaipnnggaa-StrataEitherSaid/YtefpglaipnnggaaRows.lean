/-
  No cell of these rows narrows 'for every input' (looked for: loops, veiled, ifaces, maps, wideKeys, modest, calm, conditions, laid).
  DERIVED. THE GIVEN ROWS OF THIS SEAT. 12 by the template 'for every input the law returns true; each argument reads behind the call as it read before'; 0 by the template 'total and deterministic' (their statements: YtefpglaipnnggaaTotals.lean).
  GIVEN WITH THE SEED: the statements are not yours to turn. If you find one false, say at which input.
  Laid BY PROGRAM, IN A SANDBOX (cutbox-rows.mjs): the forced cells as the released guide's own fill.sh prints them over the translation f5d23dac198a640c… (all of the seat's roots in one cut). By AI agents, Wed Nov 11 2026. No macro, syntax, notation, axiom, sorry.
-/
import Derived.Test.YtefpglaipnnggaaChecked
import GoSem.Claim
import GoSem.ClaimJoined
import GoSem.ClaimMapViews
import Derived.JoinedTies
import Derived.KernelRfl
namespace Go.Proofs.Ytefpglaipnnggaa
/- THE CELL 'sum', in the pinned program and in every row, IS THE sha256 OF THE DUMP (.gsa) THAT YtefpglaipnnggaaProg.lean LOADS. Nothing in Lean hashes anything: it is a label: what it is worth is what the hold of that sum in a sandbox is worth. -/
noncomputable def Try.pinned : Pinned := { name := "ytefpglaipnnggaa", sum := "f5d23dac198a640c7e3daecb98d8baf9604dcfd326ba3798da0a9e79a927deb5", checked := Try.checked }
namespace Rows
def none {H : Type} : Left H := { results := [], args := [] }

/-- 'edictlaw08.StrataEdges': WHATEVER THE INPUT: true; the input reads as it did. -/
def strataEdgesSpec : ChangeSpec := { name := "strataEdges", fn := fun _ => fun
  | [d] => { results := [.lit (.bool true)], args := [d] }
  | _ => none }
def strataEdgesRow : OpenClaim := { program := "ytefpglaipnnggaa", sum := "f5d23dac198a640c7e3daecb98d8baf9604dcfd326ba3798da0a9e79a927deb5", func := "edict/edictlaw08.StrataEdges", spec := "strataEdges", apart := false }
def StrataEdgesSaid : Prop := strataEdgesRow.holds Try.pinned (OpenSpec.ofChange strataEdgesSpec)

/-- ITS FALSE NEIGHBOUR: 'it returns false'. Refute it at one input. -/
def strataEdgesWrong : ChangeSpec := { name := "strataEdges", fn := fun _ => fun
  | [d] => { results := [.lit (.bool false)], args := [d] }
  | _ => none }
def StrataEdgesWrongFalsely : Prop := strataEdgesRow.holds Try.pinned (OpenSpec.ofChange strataEdgesWrong)

/-- 'edictlaw08.StrataHolds': WHATEVER THE INPUT: true; the input reads as it did. -/
def strataHoldsSpec : ChangeSpec := { name := "strataHolds", fn := fun _ => fun
  | [d1, d2, d3] => { results := [.lit (.bool true)], args := [d1, d2, d3] }
  | _ => none }
def strataHoldsRow : OpenClaim := { program := "ytefpglaipnnggaa", sum := "f5d23dac198a640c7e3daecb98d8baf9604dcfd326ba3798da0a9e79a927deb5", func := "edict/edictlaw08.StrataHolds", spec := "strataHolds", apart := false }
def StrataHoldsSaid : Prop := strataHoldsRow.holds Try.pinned (OpenSpec.ofChange strataHoldsSpec)

/-- ITS FALSE NEIGHBOUR: 'it returns false'. Refute it at one input. -/
def strataHoldsWrong : ChangeSpec := { name := "strataHolds", fn := fun _ => fun
  | [d1, d2, d3] => { results := [.lit (.bool false)], args := [d1, d2, d3] }
  | _ => none }
def StrataHoldsWrongFalsely : Prop := strataHoldsRow.holds Try.pinned (OpenSpec.ofChange strataHoldsWrong)

/-- 'edictlaw08.StrataCyclic': WHATEVER THE INPUT: true; the input reads as it did. -/
def strataCyclicSpec : ChangeSpec := { name := "strataCyclic", fn := fun _ => fun
  | [d1, d2, d3] => { results := [.lit (.bool true)], args := [d1, d2, d3] }
  | _ => none }
def strataCyclicRow : OpenClaim := { program := "ytefpglaipnnggaa", sum := "f5d23dac198a640c7e3daecb98d8baf9604dcfd326ba3798da0a9e79a927deb5", func := "edict/edictlaw08.StrataCyclic", spec := "strataCyclic", apart := false }
def StrataCyclicSaid : Prop := strataCyclicRow.holds Try.pinned (OpenSpec.ofChange strataCyclicSpec)

/-- ITS FALSE NEIGHBOUR: 'it returns false'. Refute it at one input. -/
def strataCyclicWrong : ChangeSpec := { name := "strataCyclic", fn := fun _ => fun
  | [d1, d2, d3] => { results := [.lit (.bool false)], args := [d1, d2, d3] }
  | _ => none }
def StrataCyclicWrongFalsely : Prop := strataCyclicRow.holds Try.pinned (OpenSpec.ofChange strataCyclicWrong)

/-- 'edictlaw08.StrataComponents': WHATEVER THE INPUT: true; the input reads as it did. -/
def strataComponentsSpec : ChangeSpec := { name := "strataComponents", fn := fun _ => fun
  | [d1, d2] => { results := [.lit (.bool true)], args := [d1, d2] }
  | _ => none }
def strataComponentsRow : OpenClaim := { program := "ytefpglaipnnggaa", sum := "f5d23dac198a640c7e3daecb98d8baf9604dcfd326ba3798da0a9e79a927deb5", func := "edict/edictlaw08.StrataComponents", spec := "strataComponents", apart := false }
def StrataComponentsSaid : Prop := strataComponentsRow.holds Try.pinned (OpenSpec.ofChange strataComponentsSpec)

/-- ITS FALSE NEIGHBOUR: 'it returns false'. Refute it at one input. -/
def strataComponentsWrong : ChangeSpec := { name := "strataComponents", fn := fun _ => fun
  | [d1, d2] => { results := [.lit (.bool false)], args := [d1, d2] }
  | _ => none }
def StrataComponentsWrongFalsely : Prop := strataComponentsRow.holds Try.pinned (OpenSpec.ofChange strataComponentsWrong)

/-- 'edictlaw08.StrataApart': WHATEVER THE INPUT: true; the input reads as it did. -/
def strataApartSpec : ChangeSpec := { name := "strataApart", fn := fun _ => fun
  | [d1, d2] => { results := [.lit (.bool true)], args := [d1, d2] }
  | _ => none }
def strataApartRow : OpenClaim := { program := "ytefpglaipnnggaa", sum := "f5d23dac198a640c7e3daecb98d8baf9604dcfd326ba3798da0a9e79a927deb5", func := "edict/edictlaw08.StrataApart", spec := "strataApart", apart := false }
def StrataApartSaid : Prop := strataApartRow.holds Try.pinned (OpenSpec.ofChange strataApartSpec)

/-- ITS FALSE NEIGHBOUR: 'it returns false'. Refute it at one input. -/
def strataApartWrong : ChangeSpec := { name := "strataApart", fn := fun _ => fun
  | [d1, d2] => { results := [.lit (.bool false)], args := [d1, d2] }
  | _ => none }
def StrataApartWrongFalsely : Prop := strataApartRow.holds Try.pinned (OpenSpec.ofChange strataApartWrong)

/-- 'edictlaw08.StrataCycle': WHATEVER THE INPUT: true; the input reads as it did. -/
def strataCycleSpec : ChangeSpec := { name := "strataCycle", fn := fun _ => fun
  | [d1, d2] => { results := [.lit (.bool true)], args := [d1, d2] }
  | _ => none }
def strataCycleRow : OpenClaim := { program := "ytefpglaipnnggaa", sum := "f5d23dac198a640c7e3daecb98d8baf9604dcfd326ba3798da0a9e79a927deb5", func := "edict/edictlaw08.StrataCycle", spec := "strataCycle", unfollowed := true, recurses := true, apart := false }
def StrataCycleSaid : Prop := strataCycleRow.holds Try.pinned (OpenSpec.ofChange strataCycleSpec)

/-- ITS FALSE NEIGHBOUR: 'it returns false'. Refute it at one input. -/
def strataCycleWrong : ChangeSpec := { name := "strataCycle", fn := fun _ => fun
  | [d1, d2] => { results := [.lit (.bool false)], args := [d1, d2] }
  | _ => none }
def StrataCycleWrongFalsely : Prop := strataCycleRow.holds Try.pinned (OpenSpec.ofChange strataCycleWrong)

/-- 'edictlaw08.StrataLevels': WHATEVER THE INPUT: true; the input reads as it did. -/
def strataLevelsSpec : ChangeSpec := { name := "strataLevels", fn := fun _ => fun
  | [d1, d2] => { results := [.lit (.bool true)], args := [d1, d2] }
  | _ => none }
def strataLevelsRow : OpenClaim := { program := "ytefpglaipnnggaa", sum := "f5d23dac198a640c7e3daecb98d8baf9604dcfd326ba3798da0a9e79a927deb5", func := "edict/edictlaw08.StrataLevels", spec := "strataLevels", unfollowed := true, recurses := true, apart := false }
def StrataLevelsSaid : Prop := strataLevelsRow.holds Try.pinned (OpenSpec.ofChange strataLevelsSpec)

/-- ITS FALSE NEIGHBOUR: 'it returns false'. Refute it at one input. -/
def strataLevelsWrong : ChangeSpec := { name := "strataLevels", fn := fun _ => fun
  | [d1, d2] => { results := [.lit (.bool false)], args := [d1, d2] }
  | _ => none }
def StrataLevelsWrongFalsely : Prop := strataLevelsRow.holds Try.pinned (OpenSpec.ofChange strataLevelsWrong)

/-- 'edictlaw08.StrataOrder': WHATEVER THE INPUT: true; the input reads as it did. -/
def strataOrderSpec : ChangeSpec := { name := "strataOrder", fn := fun _ => fun
  | [d1, d2, d3] => { results := [.lit (.bool true)], args := [d1, d2, d3] }
  | _ => none }
def strataOrderRow : OpenClaim := { program := "ytefpglaipnnggaa", sum := "f5d23dac198a640c7e3daecb98d8baf9604dcfd326ba3798da0a9e79a927deb5", func := "edict/edictlaw08.StrataOrder", spec := "strataOrder", unfollowed := true, recurses := true, apart := false }
def StrataOrderSaid : Prop := strataOrderRow.holds Try.pinned (OpenSpec.ofChange strataOrderSpec)

/-- ITS FALSE NEIGHBOUR: 'it returns false'. Refute it at one input. -/
def strataOrderWrong : ChangeSpec := { name := "strataOrder", fn := fun _ => fun
  | [d1, d2, d3] => { results := [.lit (.bool false)], args := [d1, d2, d3] }
  | _ => none }
def StrataOrderWrongFalsely : Prop := strataOrderRow.holds Try.pinned (OpenSpec.ofChange strataOrderWrong)

/-- 'edictlaw08.StrataRules': WHATEVER THE INPUT: true; the input reads as it did. -/
def strataRulesSpec : ChangeSpec := { name := "strataRules", fn := fun _ => fun
  | [d1, d2] => { results := [.lit (.bool true)], args := [d1, d2] }
  | _ => none }
def strataRulesRow : OpenClaim := { program := "ytefpglaipnnggaa", sum := "f5d23dac198a640c7e3daecb98d8baf9604dcfd326ba3798da0a9e79a927deb5", func := "edict/edictlaw08.StrataRules", spec := "strataRules", unfollowed := true, recurses := true, apart := false }
def StrataRulesSaid : Prop := strataRulesRow.holds Try.pinned (OpenSpec.ofChange strataRulesSpec)

/-- ITS FALSE NEIGHBOUR: 'it returns false'. Refute it at one input. -/
def strataRulesWrong : ChangeSpec := { name := "strataRules", fn := fun _ => fun
  | [d1, d2] => { results := [.lit (.bool false)], args := [d1, d2] }
  | _ => none }
def StrataRulesWrongFalsely : Prop := strataRulesRow.holds Try.pinned (OpenSpec.ofChange strataRulesWrong)

/-- 'edictlaw08.StrataLeast': WHATEVER THE INPUT: true; the input reads as it did. -/
def strataLeastSpec : ChangeSpec := { name := "strataLeast", fn := fun _ => fun
  | [d1, d2] => { results := [.lit (.bool true)], args := [d1, d2] }
  | _ => none }
def strataLeastRow : OpenClaim := { program := "ytefpglaipnnggaa", sum := "f5d23dac198a640c7e3daecb98d8baf9604dcfd326ba3798da0a9e79a927deb5", func := "edict/edictlaw08.StrataLeast", spec := "strataLeast", unfollowed := true, recurses := true, apart := false }
def StrataLeastSaid : Prop := strataLeastRow.holds Try.pinned (OpenSpec.ofChange strataLeastSpec)

/-- ITS FALSE NEIGHBOUR: 'it returns false'. Refute it at one input. -/
def strataLeastWrong : ChangeSpec := { name := "strataLeast", fn := fun _ => fun
  | [d1, d2] => { results := [.lit (.bool false)], args := [d1, d2] }
  | _ => none }
def StrataLeastWrongFalsely : Prop := strataLeastRow.holds Try.pinned (OpenSpec.ofChange strataLeastWrong)

/-- 'edictlaw08.StrataEither': WHATEVER THE INPUT: true; the input reads as it did. -/
def strataEitherSpec : ChangeSpec := { name := "strataEither", fn := fun _ => fun
  | [d] => { results := [.lit (.bool true)], args := [d] }
  | _ => none }
def strataEitherRow : OpenClaim := { program := "ytefpglaipnnggaa", sum := "f5d23dac198a640c7e3daecb98d8baf9604dcfd326ba3798da0a9e79a927deb5", func := "edict/edictlaw08.StrataEither", spec := "strataEither", unfollowed := true, recurses := true, apart := false }
def StrataEitherSaid : Prop := strataEitherRow.holds Try.pinned (OpenSpec.ofChange strataEitherSpec)

/-- ITS FALSE NEIGHBOUR: 'it returns false'. Refute it at one input. -/
def strataEitherWrong : ChangeSpec := { name := "strataEither", fn := fun _ => fun
  | [d] => { results := [.lit (.bool false)], args := [d] }
  | _ => none }
def StrataEitherWrongFalsely : Prop := strataEitherRow.holds Try.pinned (OpenSpec.ofChange strataEitherWrong)

/-- 'edictlaw08.StrataMore': WHATEVER THE INPUT: true; the input reads as it did. -/
def strataMoreSpec : ChangeSpec := { name := "strataMore", fn := fun _ => fun
  | [d1, d2, d3] => { results := [.lit (.bool true)], args := [d1, d2, d3] }
  | _ => none }
def strataMoreRow : OpenClaim := { program := "ytefpglaipnnggaa", sum := "f5d23dac198a640c7e3daecb98d8baf9604dcfd326ba3798da0a9e79a927deb5", func := "edict/edictlaw08.StrataMore", spec := "strataMore", unfollowed := true, recurses := true, apart := false }
def StrataMoreSaid : Prop := strataMoreRow.holds Try.pinned (OpenSpec.ofChange strataMoreSpec)

/-- ITS FALSE NEIGHBOUR: 'it returns false'. Refute it at one input. -/
def strataMoreWrong : ChangeSpec := { name := "strataMore", fn := fun _ => fun
  | [d1, d2, d3] => { results := [.lit (.bool false)], args := [d1, d2, d3] }
  | _ => none }
def StrataMoreWrongFalsely : Prop := strataMoreRow.holds Try.pinned (OpenSpec.ofChange strataMoreWrong)

/- THE SECOND FORM. 'bulk': how many values and letters a reading holds, each counted each time it is reached (what is shared counts as often as it is met; a slice's spare places count too). A statement '..UptoSaid' is the law's where the arguments, and the package variables that the reading takes, are together of bulk at most 1048576: NARROWER than '..Said'. Prove '..Said' where nothing that the law and all that it calls make is longer than what came in: it says more and counts as full. Else prove '..UptoSaid'. A law counts once. -/
mutual
def uptoBulk {H : Type} : DataW H → Nat
  | .lit (.string bytes) => bytes.length + 1
  | .lit _ => 1
  | .nil => 1
  | .ptr d => uptoBulk d + 1
  | .slice elems spare => uptoBulkAll elems + uptoBulkAll spare + 1
  | .agg parts => uptoBulkAll parts + 1
  | .iface _ d => uptoBulk d + 1
  | .map entries => uptoBulkEntries entries + 1
  | .held _ => 1
def uptoBulkAll {H : Type} : List (DataW H) → Nat
  | [] => 0
  | d :: r => uptoBulk d + uptoBulkAll r
def uptoBulkEntries {H : Type} : List (Lit × DataW H) → Nat
  | [] => 0
  | x :: r => uptoBulkEntry x + uptoBulkEntries r
def uptoBulkEntry {H : Type} : Lit × DataW H → Nat
  | (.string bytes, d) => bytes.length + uptoBulk d + 1
  | (_, d) => uptoBulk d + 1
 end
def uptoSmall : (H : Type) → List (DataW H) → Bool := fun _ ds => decide (uptoBulkAll ds ≤ 1048576)
def OpenSpec.upto (s : _root_.Go.ChangeSpec) : _root_.Go.OpenSpec := { _root_.Go.OpenSpec.ofChange s with cond := some uptoSmall }

/-- 'edictlaw08.StrataEdges', WHERE WHAT IT READS IS OF BULK AT MOST 1048576: true; the input reads as it did. -/
def strataEdgesUptoRow : OpenClaim := { program := "ytefpglaipnnggaa", sum := "f5d23dac198a640c7e3daecb98d8baf9604dcfd326ba3798da0a9e79a927deb5", func := "edict/edictlaw08.StrataEdges", spec := "strataEdges", apart := false, narrowed := true }
def StrataEdgesUptoSaid : Prop := strataEdgesUptoRow.holds Try.pinned (OpenSpec.upto strataEdgesSpec)

/-- 'edictlaw08.StrataHolds', WHERE WHAT IT READS IS OF BULK AT MOST 1048576: true; the input reads as it did. -/
def strataHoldsUptoRow : OpenClaim := { program := "ytefpglaipnnggaa", sum := "f5d23dac198a640c7e3daecb98d8baf9604dcfd326ba3798da0a9e79a927deb5", func := "edict/edictlaw08.StrataHolds", spec := "strataHolds", apart := false, narrowed := true }
def StrataHoldsUptoSaid : Prop := strataHoldsUptoRow.holds Try.pinned (OpenSpec.upto strataHoldsSpec)

/-- 'edictlaw08.StrataCyclic', WHERE WHAT IT READS IS OF BULK AT MOST 1048576: true; the input reads as it did. -/
def strataCyclicUptoRow : OpenClaim := { program := "ytefpglaipnnggaa", sum := "f5d23dac198a640c7e3daecb98d8baf9604dcfd326ba3798da0a9e79a927deb5", func := "edict/edictlaw08.StrataCyclic", spec := "strataCyclic", apart := false, narrowed := true }
def StrataCyclicUptoSaid : Prop := strataCyclicUptoRow.holds Try.pinned (OpenSpec.upto strataCyclicSpec)

/-- 'edictlaw08.StrataComponents', WHERE WHAT IT READS IS OF BULK AT MOST 1048576: true; the input reads as it did. -/
def strataComponentsUptoRow : OpenClaim := { program := "ytefpglaipnnggaa", sum := "f5d23dac198a640c7e3daecb98d8baf9604dcfd326ba3798da0a9e79a927deb5", func := "edict/edictlaw08.StrataComponents", spec := "strataComponents", apart := false, narrowed := true }
def StrataComponentsUptoSaid : Prop := strataComponentsUptoRow.holds Try.pinned (OpenSpec.upto strataComponentsSpec)

/-- 'edictlaw08.StrataApart', WHERE WHAT IT READS IS OF BULK AT MOST 1048576: true; the input reads as it did. -/
def strataApartUptoRow : OpenClaim := { program := "ytefpglaipnnggaa", sum := "f5d23dac198a640c7e3daecb98d8baf9604dcfd326ba3798da0a9e79a927deb5", func := "edict/edictlaw08.StrataApart", spec := "strataApart", apart := false, narrowed := true }
def StrataApartUptoSaid : Prop := strataApartUptoRow.holds Try.pinned (OpenSpec.upto strataApartSpec)

/-- 'edictlaw08.StrataCycle', WHERE WHAT IT READS IS OF BULK AT MOST 1048576: true; the input reads as it did. -/
def strataCycleUptoRow : OpenClaim := { program := "ytefpglaipnnggaa", sum := "f5d23dac198a640c7e3daecb98d8baf9604dcfd326ba3798da0a9e79a927deb5", func := "edict/edictlaw08.StrataCycle", spec := "strataCycle", unfollowed := true, recurses := true, apart := false, narrowed := true }
def StrataCycleUptoSaid : Prop := strataCycleUptoRow.holds Try.pinned (OpenSpec.upto strataCycleSpec)

/-- 'edictlaw08.StrataLevels', WHERE WHAT IT READS IS OF BULK AT MOST 1048576: true; the input reads as it did. -/
def strataLevelsUptoRow : OpenClaim := { program := "ytefpglaipnnggaa", sum := "f5d23dac198a640c7e3daecb98d8baf9604dcfd326ba3798da0a9e79a927deb5", func := "edict/edictlaw08.StrataLevels", spec := "strataLevels", unfollowed := true, recurses := true, apart := false, narrowed := true }
def StrataLevelsUptoSaid : Prop := strataLevelsUptoRow.holds Try.pinned (OpenSpec.upto strataLevelsSpec)

/-- 'edictlaw08.StrataOrder', WHERE WHAT IT READS IS OF BULK AT MOST 1048576: true; the input reads as it did. -/
def strataOrderUptoRow : OpenClaim := { program := "ytefpglaipnnggaa", sum := "f5d23dac198a640c7e3daecb98d8baf9604dcfd326ba3798da0a9e79a927deb5", func := "edict/edictlaw08.StrataOrder", spec := "strataOrder", unfollowed := true, recurses := true, apart := false, narrowed := true }
def StrataOrderUptoSaid : Prop := strataOrderUptoRow.holds Try.pinned (OpenSpec.upto strataOrderSpec)

/-- 'edictlaw08.StrataRules', WHERE WHAT IT READS IS OF BULK AT MOST 1048576: true; the input reads as it did. -/
def strataRulesUptoRow : OpenClaim := { program := "ytefpglaipnnggaa", sum := "f5d23dac198a640c7e3daecb98d8baf9604dcfd326ba3798da0a9e79a927deb5", func := "edict/edictlaw08.StrataRules", spec := "strataRules", unfollowed := true, recurses := true, apart := false, narrowed := true }
def StrataRulesUptoSaid : Prop := strataRulesUptoRow.holds Try.pinned (OpenSpec.upto strataRulesSpec)

/-- 'edictlaw08.StrataLeast', WHERE WHAT IT READS IS OF BULK AT MOST 1048576: true; the input reads as it did. -/
def strataLeastUptoRow : OpenClaim := { program := "ytefpglaipnnggaa", sum := "f5d23dac198a640c7e3daecb98d8baf9604dcfd326ba3798da0a9e79a927deb5", func := "edict/edictlaw08.StrataLeast", spec := "strataLeast", unfollowed := true, recurses := true, apart := false, narrowed := true }
def StrataLeastUptoSaid : Prop := strataLeastUptoRow.holds Try.pinned (OpenSpec.upto strataLeastSpec)

/-- 'edictlaw08.StrataEither', WHERE WHAT IT READS IS OF BULK AT MOST 1048576: true; the input reads as it did. -/
def strataEitherUptoRow : OpenClaim := { program := "ytefpglaipnnggaa", sum := "f5d23dac198a640c7e3daecb98d8baf9604dcfd326ba3798da0a9e79a927deb5", func := "edict/edictlaw08.StrataEither", spec := "strataEither", unfollowed := true, recurses := true, apart := false, narrowed := true }
def StrataEitherUptoSaid : Prop := strataEitherUptoRow.holds Try.pinned (OpenSpec.upto strataEitherSpec)

/-- 'edictlaw08.StrataMore', WHERE WHAT IT READS IS OF BULK AT MOST 1048576: true; the input reads as it did. -/
def strataMoreUptoRow : OpenClaim := { program := "ytefpglaipnnggaa", sum := "f5d23dac198a640c7e3daecb98d8baf9604dcfd326ba3798da0a9e79a927deb5", func := "edict/edictlaw08.StrataMore", spec := "strataMore", unfollowed := true, recurses := true, apart := false, narrowed := true }
def StrataMoreUptoSaid : Prop := strataMoreUptoRow.holds Try.pinned (OpenSpec.upto strataMoreSpec)

end Rows
end Go.Proofs.Ytefpglaipnnggaa
