/-
  DERIVED. GIVEN WITH THE SEED: THE CARDS: each row of YtjcgkplphiedjaaDoorRows.lean that lists a variable, with what it lists TIED to the program's text (the seventh form; the later family's looks); each row that meets fmt, with fmt's text TOLD by the authors' own Lean function (tested against real Go, not proved from fmt's source: count such statements apart). THE CARD IS WHAT COUNTS. Prove the row's statement (the work); the ties are given (YtjcgkplphiedjaaDoorTie.lean); close each card by the builder's one call (the guide's Derived/Test/ToyasCard.lean, 'card_holds'). Laid BY PROGRAM, IN A SANDBOX (cutbox-door.mjs). By AI agents, Wed Nov 11 2026. No macro, syntax, notation, axiom, sorry.
-/
import Derived.Test.YtjcgkplphiedjaaDoorRows
import GoSem.ClaimSeven
namespace Go.Proofs.YtjcgkplphiedjaaDoor
namespace Rows

/-- THE TIED CARD OF 'edictlaw18.LintTexts'. -/
def lintTextsCard : Claim7 := { stood := { row := lintTextsRow, standIns := [], harness := (true, "0ec2d29c7cdb701243066266e4c56323d85303fc0af23e5f52ecadc383c61015"), looks := false }, kinds := [], alts := [], laidByText := true, laidKinds := [.data, .data, .data], laidTests := true, laidLooks := .later }
def LintTextsCardSaid : Prop := Claim7.holds Tryd.pinned (.plain (OpenSpec.ofChange lintTextsSpec)) lintTextsCard

/-- THE TIED CARD OF 'edictlaw16.WhyDepths'. -/
def whyDepthsCard : Claim7 := { stood := { row := whyDepthsRow, standIns := [], harness := (true, "0ec2d29c7cdb701243066266e4c56323d85303fc0af23e5f52ecadc383c61015"), looks := false }, kinds := [], alts := [], laidByText := true, laidKinds := [.data, .data, .data], laidTests := true, laidLooks := .later }
def WhyDepthsCardSaid : Prop := Claim7.holds Tryd.pinned (.plain (OpenSpec.ofChange whyDepthsSpec)) whyDepthsCard

/-- THE TIED CARD OF 'edictlaw16.WhyChecks'. -/
def whyChecksCard : Claim7 := { stood := { row := whyChecksRow, standIns := [], harness := (true, "0ec2d29c7cdb701243066266e4c56323d85303fc0af23e5f52ecadc383c61015"), looks := false }, kinds := [], alts := [], laidByText := true, laidKinds := [.data, .data, .data, .data, .pinned, .pinned, .pinned, .pinned, .pinned, .pinned], laidTests := true, laidLooks := .later }
def WhyChecksCardSaid : Prop := Claim7.holds Tryd.pinned (.plain (OpenSpec.ofChange whyChecksSpec)) whyChecksCard

/-- THE SECOND FORM's CARD OF 'edictlaw18.LintTexts'. -/
def lintTextsUptoCard : Claim7 := { stood := { row := lintTextsUptoRow, standIns := [], harness := (true, "0ec2d29c7cdb701243066266e4c56323d85303fc0af23e5f52ecadc383c61015"), looks := false }, kinds := [], alts := [], laidByText := true, laidKinds := [.data, .data, .data], laidTests := true, laidLooks := .later }
def LintTextsUptoCardSaid : Prop := Claim7.holds Tryd.pinned (.plain (OpenSpec.upto lintTextsSpec)) lintTextsUptoCard

/-- THE SECOND FORM's CARD OF 'edictlaw16.WhyDepths'. -/
def whyDepthsUptoCard : Claim7 := { stood := { row := whyDepthsUptoRow, standIns := [], harness := (true, "0ec2d29c7cdb701243066266e4c56323d85303fc0af23e5f52ecadc383c61015"), looks := false }, kinds := [], alts := [], laidByText := true, laidKinds := [.data, .data, .data], laidTests := true, laidLooks := .later }
def WhyDepthsUptoCardSaid : Prop := Claim7.holds Tryd.pinned (.plain (OpenSpec.upto whyDepthsSpec)) whyDepthsUptoCard

/-- THE SECOND FORM's CARD OF 'edictlaw16.WhyChecks'. -/
def whyChecksUptoCard : Claim7 := { stood := { row := whyChecksUptoRow, standIns := [], harness := (true, "0ec2d29c7cdb701243066266e4c56323d85303fc0af23e5f52ecadc383c61015"), looks := false }, kinds := [], alts := [], laidByText := true, laidKinds := [.data, .data, .data, .data, .pinned, .pinned, .pinned, .pinned, .pinned, .pinned], laidTests := true, laidLooks := .later }
def WhyChecksUptoCardSaid : Prop := Claim7.holds Tryd.pinned (.plain (OpenSpec.upto whyChecksSpec)) whyChecksUptoCard
end Rows
end Go.Proofs.YtjcgkplphiedjaaDoor
