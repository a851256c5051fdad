/-
  DERIVED. GIVEN WITH THE SEED: THE CARDS: each row of YtkejdgfcgmediaaGreatDoorRows.lean that lists a variable, with what it lists TIED to the program's text (the seventh form; the later family's looks); each row that meets fmt, with fmt's text TOLD by the authors' own Lean function (tested against real Go, not proved from fmt's source: count such statements apart). THE CARD IS WHAT COUNTS. Prove the row's statement (the work); the ties are given (YtkejdgfcgmediaaGreatDoorTie.lean); close each card by the builder's one call (the guide's Derived/Test/ToyasCard.lean, 'card_holds'). Laid BY PROGRAM, IN A SANDBOX (cutbox-door.mjs). By AI agents, Wed Nov 11 2026. No macro, syntax, notation, axiom, sorry.
-/
import Derived.Test.YtkejdgfcgmediaaGreatDoorRows
import GoSem.ClaimSeven
namespace Go.Proofs.YtkejdgfcgmediaaGreatDoor
namespace Rows

/-- THE TIED CARD OF 'treadwheeltop.TopTypes'. -/
def topTypesCard : Claim7 := { stood := { row := topTypesRow, standIns := [], harness := (true, "96fdcc70bc99ade166942cae29eed5f5694754fa2ab39b4f482c590ac3323a2a"), looks := false }, kinds := [], alts := [], laidByText := true, laidKinds := [.data, .pinned], laidTests := true, laidLooks := .later }
def TopTypesCardSaid : Prop := Claim7.holds Tryz.pinned (.plain (OpenSpec.ofChange topTypesSpec)) topTypesCard

/-- THE TIED CARD OF 'treadwheeltop.TopLevels'. -/
def topLevelsCard : Claim7 := { stood := { row := topLevelsRow, standIns := [], harness := (true, "96fdcc70bc99ade166942cae29eed5f5694754fa2ab39b4f482c590ac3323a2a"), looks := false }, kinds := [], alts := [], laidByText := true, laidKinds := [.data, .pinned], laidTests := true, laidLooks := .later }
def TopLevelsCardSaid : Prop := Claim7.holds Tryz.pinned (.plain (OpenSpec.ofChange topLevelsSpec)) topLevelsCard

/-- THE TIED CARD OF 'treadwheeltop.TopProcs'. -/
def topProcsCard : Claim7 := { stood := { row := topProcsRow, standIns := [], harness := (true, "96fdcc70bc99ade166942cae29eed5f5694754fa2ab39b4f482c590ac3323a2a"), looks := false }, kinds := [], alts := [], laidByText := true, laidKinds := [.data, .pinned], laidTests := true, laidLooks := .later }
def TopProcsCardSaid : Prop := Claim7.holds Tryz.pinned (.plain (OpenSpec.ofChange topProcsSpec)) topProcsCard

/-- THE TIED CARD OF 'treadwheeltop.TopStacks'. -/
def topStacksCard : Claim7 := { stood := { row := topStacksRow, standIns := [], harness := (true, "96fdcc70bc99ade166942cae29eed5f5694754fa2ab39b4f482c590ac3323a2a"), looks := false }, kinds := [], alts := [], laidByText := true, laidKinds := [.data, .pinned], laidTests := true, laidLooks := .later }
def TopStacksCardSaid : Prop := Claim7.holds Tryz.pinned (.plain (OpenSpec.ofChange topStacksSpec)) topStacksCard

/-- THE SECOND FORM's CARD OF 'treadwheeltop.TopTypes'. -/
def topTypesUptoCard : Claim7 := { stood := { row := topTypesUptoRow, standIns := [], harness := (true, "96fdcc70bc99ade166942cae29eed5f5694754fa2ab39b4f482c590ac3323a2a"), looks := false }, kinds := [], alts := [], laidByText := true, laidKinds := [.data, .pinned], laidTests := true, laidLooks := .later }
def TopTypesUptoCardSaid : Prop := Claim7.holds Tryz.pinned (.plain (OpenSpec.upto topTypesSpec)) topTypesUptoCard

/-- THE SECOND FORM's CARD OF 'treadwheeltop.TopLevels'. -/
def topLevelsUptoCard : Claim7 := { stood := { row := topLevelsUptoRow, standIns := [], harness := (true, "96fdcc70bc99ade166942cae29eed5f5694754fa2ab39b4f482c590ac3323a2a"), looks := false }, kinds := [], alts := [], laidByText := true, laidKinds := [.data, .pinned], laidTests := true, laidLooks := .later }
def TopLevelsUptoCardSaid : Prop := Claim7.holds Tryz.pinned (.plain (OpenSpec.upto topLevelsSpec)) topLevelsUptoCard

/-- THE SECOND FORM's CARD OF 'treadwheeltop.TopProcs'. -/
def topProcsUptoCard : Claim7 := { stood := { row := topProcsUptoRow, standIns := [], harness := (true, "96fdcc70bc99ade166942cae29eed5f5694754fa2ab39b4f482c590ac3323a2a"), looks := false }, kinds := [], alts := [], laidByText := true, laidKinds := [.data, .pinned], laidTests := true, laidLooks := .later }
def TopProcsUptoCardSaid : Prop := Claim7.holds Tryz.pinned (.plain (OpenSpec.upto topProcsSpec)) topProcsUptoCard

/-- THE SECOND FORM's CARD OF 'treadwheeltop.TopStacks'. -/
def topStacksUptoCard : Claim7 := { stood := { row := topStacksUptoRow, standIns := [], harness := (true, "96fdcc70bc99ade166942cae29eed5f5694754fa2ab39b4f482c590ac3323a2a"), looks := false }, kinds := [], alts := [], laidByText := true, laidKinds := [.data, .pinned], laidTests := true, laidLooks := .later }
def TopStacksUptoCardSaid : Prop := Claim7.holds Tryz.pinned (.plain (OpenSpec.upto topStacksSpec)) topStacksUptoCard
end Rows
end Go.Proofs.YtkejdgfcgmediaaGreatDoor
