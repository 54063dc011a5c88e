/-
  DERIVED. GIVEN WITH THE SEED: THE CARDS: each row of YtgjanglonccclaaDoorRows.lean that lists a variable, with what it lists TIED to the program's text (the seventh form; the later family's looks); each row that meets fmt, with fmt's text TOLD by the authors' own Lean function (tested against real Go, not proved from fmt's source: count such statements apart). THE CARD IS WHAT COUNTS. Prove the row's statement (the work); the ties are given (YtgjanglonccclaaDoorTie.lean); close each card by the builder's one call (the guide's Derived/Test/ToyasCard.lean, 'card_holds'). Laid BY PROGRAM, IN A SANDBOX (cutbox-door.mjs). By AI agents, Wed Nov 11 2026. No macro, syntax, notation, axiom, sorry.
-/
import Derived.Test.YtgjanglonccclaaDoorRows
import GoSem.ClaimSeven
namespace Go.Proofs.YtgjanglonccclaaDoor
namespace Rows

/-- THE TIED CARD OF 'backsteplaw46.SimplifyCancels'. -/
def simplifyCancelsCard : Claim7 := { stood := { row := simplifyCancelsRow, standIns := [], harness := (true, "f0fa5194d43c1aeffe3392dc7740b9bfdb559a18a7fe6646873e4d87ecf88ae6"), looks := false }, kinds := [], alts := [], laidByText := true, laidKinds := [.listed, .data], laidTests := true, laidLooks := .later }
def SimplifyCancelsCardSaid : Prop := Claim7.holds Tryd.pinned (.plain (OpenSpec.ofChange simplifyCancelsSpec)) simplifyCancelsCard

/-- THE TIED CARD OF 'backsteplaw46.SimplifyInverts'. -/
def simplifyInvertsCard : Claim7 := { stood := { row := simplifyInvertsRow, standIns := [], harness := (true, "f0fa5194d43c1aeffe3392dc7740b9bfdb559a18a7fe6646873e4d87ecf88ae6"), looks := false }, kinds := [], alts := [], laidByText := true, laidKinds := [.listed, .data], laidTests := true, laidLooks := .later }
def SimplifyInvertsCardSaid : Prop := Claim7.holds Tryd.pinned (.plain (OpenSpec.ofChange simplifyInvertsSpec)) simplifyInvertsCard

/-- THE TIED CARD OF 'backsteplaw46.SimplifyEmpties'. -/
def simplifyEmptiesCard : Claim7 := { stood := { row := simplifyEmptiesRow, standIns := [], harness := (true, "f0fa5194d43c1aeffe3392dc7740b9bfdb559a18a7fe6646873e4d87ecf88ae6"), looks := false }, kinds := [], alts := [], laidByText := true, laidKinds := [.listed, .data], laidTests := true, laidLooks := .later }
def SimplifyEmptiesCardSaid : Prop := Claim7.holds Tryd.pinned (.plain (OpenSpec.ofChange simplifyEmptiesSpec)) simplifyEmptiesCard

/-- THE TIED CARD OF 'backsteplaw46.SimplifyInserts'. -/
def simplifyInsertsCard : Claim7 := { stood := { row := simplifyInsertsRow, standIns := [], harness := (true, "f0fa5194d43c1aeffe3392dc7740b9bfdb559a18a7fe6646873e4d87ecf88ae6"), looks := false }, kinds := [], alts := [], laidByText := true, laidKinds := [.listed, .data], laidTests := true, laidLooks := .later }
def SimplifyInsertsCardSaid : Prop := Claim7.holds Tryd.pinned (.plain (OpenSpec.ofChange simplifyInsertsSpec)) simplifyInsertsCard

/-- THE TIED CARD OF 'backsteplaw46.SimplifyBlocks'. -/
def simplifyBlocksCard : Claim7 := { stood := { row := simplifyBlocksRow, standIns := [], harness := (true, "f0fa5194d43c1aeffe3392dc7740b9bfdb559a18a7fe6646873e4d87ecf88ae6"), looks := false }, kinds := [], alts := [], laidByText := true, laidKinds := [.listed, .data], laidTests := true, laidLooks := .later }
def SimplifyBlocksCardSaid : Prop := Claim7.holds Tryd.pinned (.plain (OpenSpec.ofChange simplifyBlocksSpec)) simplifyBlocksCard

/-- THE TIED CARD OF 'backsteplaw46.SimplifyFixed'. -/
def simplifyFixedCard : Claim7 := { stood := { row := simplifyFixedRow, standIns := [], harness := (true, "f0fa5194d43c1aeffe3392dc7740b9bfdb559a18a7fe6646873e4d87ecf88ae6"), looks := false }, kinds := [], alts := [], laidByText := true, laidKinds := [.listed, .data], laidTests := true, laidLooks := .later }
def SimplifyFixedCardSaid : Prop := Claim7.holds Tryd.pinned (.plain (OpenSpec.ofChange simplifyFixedSpec)) simplifyFixedCard

/-- THE TIED CARD OF 'backsteplaw46.SimplifyAccepts'. -/
def simplifyAcceptsCard : Claim7 := { stood := { row := simplifyAcceptsRow, standIns := [], harness := (true, "f0fa5194d43c1aeffe3392dc7740b9bfdb559a18a7fe6646873e4d87ecf88ae6"), looks := false }, kinds := [], alts := [], laidByText := true, laidKinds := [.listed, .data], laidTests := true, laidLooks := .later }
def SimplifyAcceptsCardSaid : Prop := Claim7.holds Tryd.pinned (.plain (OpenSpec.ofChange simplifyAcceptsSpec)) simplifyAcceptsCard

/-- THE SECOND FORM's CARD OF 'backsteplaw46.SimplifyCancels'. -/
def simplifyCancelsUptoCard : Claim7 := { stood := { row := simplifyCancelsUptoRow, standIns := [], harness := (true, "f0fa5194d43c1aeffe3392dc7740b9bfdb559a18a7fe6646873e4d87ecf88ae6"), looks := false }, kinds := [], alts := [], laidByText := true, laidKinds := [.listed, .data], laidTests := true, laidLooks := .later }
def SimplifyCancelsUptoCardSaid : Prop := Claim7.holds Tryd.pinned (.plain (OpenSpec.upto simplifyCancelsSpec)) simplifyCancelsUptoCard

/-- THE SECOND FORM's CARD OF 'backsteplaw46.SimplifyInverts'. -/
def simplifyInvertsUptoCard : Claim7 := { stood := { row := simplifyInvertsUptoRow, standIns := [], harness := (true, "f0fa5194d43c1aeffe3392dc7740b9bfdb559a18a7fe6646873e4d87ecf88ae6"), looks := false }, kinds := [], alts := [], laidByText := true, laidKinds := [.listed, .data], laidTests := true, laidLooks := .later }
def SimplifyInvertsUptoCardSaid : Prop := Claim7.holds Tryd.pinned (.plain (OpenSpec.upto simplifyInvertsSpec)) simplifyInvertsUptoCard

/-- THE SECOND FORM's CARD OF 'backsteplaw46.SimplifyEmpties'. -/
def simplifyEmptiesUptoCard : Claim7 := { stood := { row := simplifyEmptiesUptoRow, standIns := [], harness := (true, "f0fa5194d43c1aeffe3392dc7740b9bfdb559a18a7fe6646873e4d87ecf88ae6"), looks := false }, kinds := [], alts := [], laidByText := true, laidKinds := [.listed, .data], laidTests := true, laidLooks := .later }
def SimplifyEmptiesUptoCardSaid : Prop := Claim7.holds Tryd.pinned (.plain (OpenSpec.upto simplifyEmptiesSpec)) simplifyEmptiesUptoCard

/-- THE SECOND FORM's CARD OF 'backsteplaw46.SimplifyInserts'. -/
def simplifyInsertsUptoCard : Claim7 := { stood := { row := simplifyInsertsUptoRow, standIns := [], harness := (true, "f0fa5194d43c1aeffe3392dc7740b9bfdb559a18a7fe6646873e4d87ecf88ae6"), looks := false }, kinds := [], alts := [], laidByText := true, laidKinds := [.listed, .data], laidTests := true, laidLooks := .later }
def SimplifyInsertsUptoCardSaid : Prop := Claim7.holds Tryd.pinned (.plain (OpenSpec.upto simplifyInsertsSpec)) simplifyInsertsUptoCard

/-- THE SECOND FORM's CARD OF 'backsteplaw46.SimplifyBlocks'. -/
def simplifyBlocksUptoCard : Claim7 := { stood := { row := simplifyBlocksUptoRow, standIns := [], harness := (true, "f0fa5194d43c1aeffe3392dc7740b9bfdb559a18a7fe6646873e4d87ecf88ae6"), looks := false }, kinds := [], alts := [], laidByText := true, laidKinds := [.listed, .data], laidTests := true, laidLooks := .later }
def SimplifyBlocksUptoCardSaid : Prop := Claim7.holds Tryd.pinned (.plain (OpenSpec.upto simplifyBlocksSpec)) simplifyBlocksUptoCard

/-- THE SECOND FORM's CARD OF 'backsteplaw46.SimplifyFixed'. -/
def simplifyFixedUptoCard : Claim7 := { stood := { row := simplifyFixedUptoRow, standIns := [], harness := (true, "f0fa5194d43c1aeffe3392dc7740b9bfdb559a18a7fe6646873e4d87ecf88ae6"), looks := false }, kinds := [], alts := [], laidByText := true, laidKinds := [.listed, .data], laidTests := true, laidLooks := .later }
def SimplifyFixedUptoCardSaid : Prop := Claim7.holds Tryd.pinned (.plain (OpenSpec.upto simplifyFixedSpec)) simplifyFixedUptoCard

/-- THE SECOND FORM's CARD OF 'backsteplaw46.SimplifyAccepts'. -/
def simplifyAcceptsUptoCard : Claim7 := { stood := { row := simplifyAcceptsUptoRow, standIns := [], harness := (true, "f0fa5194d43c1aeffe3392dc7740b9bfdb559a18a7fe6646873e4d87ecf88ae6"), looks := false }, kinds := [], alts := [], laidByText := true, laidKinds := [.listed, .data], laidTests := true, laidLooks := .later }
def SimplifyAcceptsUptoCardSaid : Prop := Claim7.holds Tryd.pinned (.plain (OpenSpec.upto simplifyAcceptsSpec)) simplifyAcceptsUptoCard
end Rows
end Go.Proofs.YtgjanglonccclaaDoor
