/-
  DERIVED. GIVEN WITH THE SEED: THE CARDS: each row of YtbnoeoghhbhhcaaDoorRows.lean that lists a variable, with what it lists TIED to the program's text (the seventh form; the later family's looks); each row that meets fmt, with fmt's text TOLD by the authors' own Lean function (tested against real Go, not proved from fmt's source: count such statements apart). THE CARD IS WHAT COUNTS. Prove the row's statement (the work); the ties are given (YtbnoeoghhbhhcaaDoorTie.lean); close each card by the builder's one call (the guide's Derived/Test/ToyasCard.lean, 'card_holds'). Laid BY PROGRAM, IN A SANDBOX (cutbox-door.mjs). By AI agents, Wed Nov 11 2026. No macro, syntax, notation, axiom, sorry.
-/
import Derived.Test.YtbnoeoghhbhhcaaDoorRows
import GoSem.ClaimSeven
namespace Go.Proofs.YtbnoeoghhbhhcaaDoor
namespace Rows

/-- THE TIED CARD OF 'lexiphanelaw1.FaultTells'. -/
def faultTellsCard : Claim7 := { stood := { row := faultTellsRow, standIns := [], harness := (true, "0385539d5ef30848e3ad4e45a10a2cddb2165da33202905a343323692d0c6e58"), looks := true }, kinds := [], alts := [], laidByText := true, laidKinds := [.data, .data, .data], laidTests := true, laidLooks := .later }
def FaultTellsCardSaid : Prop := Claim7.holds Tryd.pinned (.plain (OpenSpec.ofChange faultTellsSpec)) faultTellsCard

/-- THE TIED CARD OF 'lexiphanelaw1.FaultMust'. -/
def faultMustCard : Claim7 := { stood := { row := faultMustRow, standIns := [], harness := (true, "0385539d5ef30848e3ad4e45a10a2cddb2165da33202905a343323692d0c6e58"), looks := true }, kinds := [], alts := [], laidByText := true, laidKinds := [.data, .data, .data], laidTests := true, laidLooks := .later }
def FaultMustCardSaid : Prop := Claim7.holds Tryd.pinned (.plain (OpenSpec.ofChange faultMustSpec)) faultMustCard

/-- THE SECOND FORM's CARD OF 'lexiphanelaw1.FaultTells'. -/
def faultTellsUptoCard : Claim7 := { stood := { row := faultTellsUptoRow, standIns := [], harness := (true, "0385539d5ef30848e3ad4e45a10a2cddb2165da33202905a343323692d0c6e58"), looks := true }, kinds := [], alts := [], laidByText := true, laidKinds := [.data, .data, .data], laidTests := true, laidLooks := .later }
def FaultTellsUptoCardSaid : Prop := Claim7.holds Tryd.pinned (.plain (OpenSpec.upto faultTellsSpec)) faultTellsUptoCard

/-- THE SECOND FORM's CARD OF 'lexiphanelaw1.FaultMust'. -/
def faultMustUptoCard : Claim7 := { stood := { row := faultMustUptoRow, standIns := [], harness := (true, "0385539d5ef30848e3ad4e45a10a2cddb2165da33202905a343323692d0c6e58"), looks := true }, kinds := [], alts := [], laidByText := true, laidKinds := [.data, .data, .data], laidTests := true, laidLooks := .later }
def FaultMustUptoCardSaid : Prop := Claim7.holds Tryd.pinned (.plain (OpenSpec.upto faultMustSpec)) faultMustUptoCard
end Rows
end Go.Proofs.YtbnoeoghhbhhcaaDoor
