/-
  DERIVED. GIVEN WITH THE SEED: THE CARDS: each row of YtnooolhcolkpiaaGreatDoorRows.lean that lists a variable, with what it lists TIED to the program's text (the seventh form; the later family's looks); each row that meets fmt, with fmt's text TOLD by the authors' own Lean function (tested against real Go, not proved from fmt's source: count such statements apart). THE CARD IS WHAT COUNTS. Prove the row's statement (the work); the ties are given (YtnooolhcolkpiaaGreatDoorTie.lean); close each card by the builder's one call (the guide's Derived/Test/ToyasCard.lean, 'card_holds'). Laid BY PROGRAM, IN A SANDBOX (cutbox-door.mjs). By AI agents, Wed Nov 11 2026. No macro, syntax, notation, axiom, sorry.
-/
import Derived.Test.YtnooolhcolkpiaaGreatDoorRows
import GoSem.ClaimSeven
namespace Go.Proofs.YtnooolhcolkpiaaGreatDoor
namespace Rows

/-- THE TIED CARD OF 'treadwheeltop.TopSleep'. -/
def topSleepCard : Claim7 := { stood := { row := topSleepRow, standIns := [], harness := (true, "aeed4c8b0d32f4b1667cce8b27a51041af76ed760de70b58046efd63dbc7068e"), looks := false }, kinds := [], alts := [], laidByText := true, laidKinds := [.data, .pinned], laidTests := true, laidLooks := .later }
def TopSleepCardSaid : Prop := Claim7.holds Tryz.pinned (.plain (OpenSpec.ofChange topSleepSpec)) topSleepCard

/-- THE TIED CARD OF 'treadwheeltop.TopInputs'. -/
def topInputsCard : Claim7 := { stood := { row := topInputsRow, standIns := [], harness := (true, "aeed4c8b0d32f4b1667cce8b27a51041af76ed760de70b58046efd63dbc7068e"), looks := false }, kinds := [], alts := [], laidByText := true, laidKinds := [.data, .pinned], laidTests := true, laidLooks := .later }
def TopInputsCardSaid : Prop := Claim7.holds Tryz.pinned (.plain (OpenSpec.ofChange topInputsSpec)) topInputsCard

/-- THE TIED CARD OF 'treadwheeltop.TopStop'. -/
def topStopCard : Claim7 := { stood := { row := topStopRow, standIns := [], harness := (true, "aeed4c8b0d32f4b1667cce8b27a51041af76ed760de70b58046efd63dbc7068e"), looks := false }, kinds := [], alts := [], laidByText := true, laidKinds := [.data, .pinned], laidTests := true, laidLooks := .later }
def TopStopCardSaid : Prop := Claim7.holds Tryz.pinned (.plain (OpenSpec.ofChange topStopSpec)) topStopCard

/-- THE TIED CARD OF 'treadwheeltop.TopBlocks'. -/
def topBlocksCard : Claim7 := { stood := { row := topBlocksRow, standIns := [], harness := (true, "aeed4c8b0d32f4b1667cce8b27a51041af76ed760de70b58046efd63dbc7068e"), looks := false }, kinds := [], alts := [], laidByText := true, laidKinds := [.data, .pinned], laidTests := true, laidLooks := .later }
def TopBlocksCardSaid : Prop := Claim7.holds Tryz.pinned (.plain (OpenSpec.ofChange topBlocksSpec)) topBlocksCard

/-- THE SECOND FORM's CARD OF 'treadwheeltop.TopSleep'. -/
def topSleepUptoCard : Claim7 := { stood := { row := topSleepUptoRow, standIns := [], harness := (true, "aeed4c8b0d32f4b1667cce8b27a51041af76ed760de70b58046efd63dbc7068e"), looks := false }, kinds := [], alts := [], laidByText := true, laidKinds := [.data, .pinned], laidTests := true, laidLooks := .later }
def TopSleepUptoCardSaid : Prop := Claim7.holds Tryz.pinned (.plain (OpenSpec.upto topSleepSpec)) topSleepUptoCard

/-- THE SECOND FORM's CARD OF 'treadwheeltop.TopInputs'. -/
def topInputsUptoCard : Claim7 := { stood := { row := topInputsUptoRow, standIns := [], harness := (true, "aeed4c8b0d32f4b1667cce8b27a51041af76ed760de70b58046efd63dbc7068e"), looks := false }, kinds := [], alts := [], laidByText := true, laidKinds := [.data, .pinned], laidTests := true, laidLooks := .later }
def TopInputsUptoCardSaid : Prop := Claim7.holds Tryz.pinned (.plain (OpenSpec.upto topInputsSpec)) topInputsUptoCard

/-- THE SECOND FORM's CARD OF 'treadwheeltop.TopStop'. -/
def topStopUptoCard : Claim7 := { stood := { row := topStopUptoRow, standIns := [], harness := (true, "aeed4c8b0d32f4b1667cce8b27a51041af76ed760de70b58046efd63dbc7068e"), looks := false }, kinds := [], alts := [], laidByText := true, laidKinds := [.data, .pinned], laidTests := true, laidLooks := .later }
def TopStopUptoCardSaid : Prop := Claim7.holds Tryz.pinned (.plain (OpenSpec.upto topStopSpec)) topStopUptoCard

/-- THE SECOND FORM's CARD OF 'treadwheeltop.TopBlocks'. -/
def topBlocksUptoCard : Claim7 := { stood := { row := topBlocksUptoRow, standIns := [], harness := (true, "aeed4c8b0d32f4b1667cce8b27a51041af76ed760de70b58046efd63dbc7068e"), looks := false }, kinds := [], alts := [], laidByText := true, laidKinds := [.data, .pinned], laidTests := true, laidLooks := .later }
def TopBlocksUptoCardSaid : Prop := Claim7.holds Tryz.pinned (.plain (OpenSpec.upto topBlocksSpec)) topBlocksUptoCard
end Rows
end Go.Proofs.YtnooolhcolkpiaaGreatDoor
