/-
  DERIVED. GIVEN WITH THE SEED: THE CARDS: each row of YtnoclbkoklknnaaGreatDoorRows.lean that lists a variable, with what it lists TIED to the program's text (the seventh form; the later family's looks); each row that meets fmt, with fmt's text TOLD by the authors' own Lean function (tested against real Go, not proved from fmt's source: count such statements apart). THE CARD IS WHAT COUNTS. Prove the row's statement (the work); the ties are given (YtnoclbkoklknnaaGreatDoorTie.lean); close each card by the builder's one call (the guide's Derived/Test/ToyasCard.lean, 'card_holds'). Laid BY PROGRAM, IN A SANDBOX (cutbox-door.mjs). By AI agents, Wed Nov 11 2026. No macro, syntax, notation, axiom, sorry.
-/
import Derived.Test.YtnoclbkoklknnaaGreatDoorRows
import GoSem.ClaimSeven
namespace Go.Proofs.YtnoclbkoklknnaaGreatDoor
namespace Rows

/-- THE TIED CARD OF 'treadwheeltop.TopProcs'. -/
def topProcsCard : Claim7 := { stood := { row := topProcsRow, standIns := [], harness := (true, "c69ab9ffd6904045e6b752c39dc1a4790674205a0660d6049a095d22b960f105"), looks := false }, kinds := [], alts := [], laidByText := true, laidKinds := [.data, .pinned], laidTests := true, laidLooks := .later }
def TopProcsCardSaid : Prop := Claim7.holds Tryz.pinned (.plain (OpenSpec.ofChange topProcsSpec)) topProcsCard

/-- THE TIED CARD OF 'treadwheeltop.TopInputs'. -/
def topInputsCard : Claim7 := { stood := { row := topInputsRow, standIns := [], harness := (true, "c69ab9ffd6904045e6b752c39dc1a4790674205a0660d6049a095d22b960f105"), looks := false }, kinds := [], alts := [], laidByText := true, laidKinds := [.data, .pinned], laidTests := true, laidLooks := .later }
def TopInputsCardSaid : Prop := Claim7.holds Tryz.pinned (.plain (OpenSpec.ofChange topInputsSpec)) topInputsCard

/-- THE TIED CARD OF 'treadwheeltop.TopOnly'. -/
def topOnlyCard : Claim7 := { stood := { row := topOnlyRow, standIns := [], harness := (true, "c69ab9ffd6904045e6b752c39dc1a4790674205a0660d6049a095d22b960f105"), looks := false }, kinds := [], alts := [], laidByText := true, laidKinds := [.data, .pinned], laidTests := true, laidLooks := .later }
def TopOnlyCardSaid : Prop := Claim7.holds Tryz.pinned (.plain (OpenSpec.ofChange topOnlySpec)) topOnlyCard

/-- THE SECOND FORM's CARD OF 'treadwheeltop.TopProcs'. -/
def topProcsUptoCard : Claim7 := { stood := { row := topProcsUptoRow, standIns := [], harness := (true, "c69ab9ffd6904045e6b752c39dc1a4790674205a0660d6049a095d22b960f105"), looks := false }, kinds := [], alts := [], laidByText := true, laidKinds := [.data, .pinned], laidTests := true, laidLooks := .later }
def TopProcsUptoCardSaid : Prop := Claim7.holds Tryz.pinned (.plain (OpenSpec.upto topProcsSpec)) topProcsUptoCard

/-- THE SECOND FORM's CARD OF 'treadwheeltop.TopInputs'. -/
def topInputsUptoCard : Claim7 := { stood := { row := topInputsUptoRow, standIns := [], harness := (true, "c69ab9ffd6904045e6b752c39dc1a4790674205a0660d6049a095d22b960f105"), looks := false }, kinds := [], alts := [], laidByText := true, laidKinds := [.data, .pinned], laidTests := true, laidLooks := .later }
def TopInputsUptoCardSaid : Prop := Claim7.holds Tryz.pinned (.plain (OpenSpec.upto topInputsSpec)) topInputsUptoCard

/-- THE SECOND FORM's CARD OF 'treadwheeltop.TopOnly'. -/
def topOnlyUptoCard : Claim7 := { stood := { row := topOnlyUptoRow, standIns := [], harness := (true, "c69ab9ffd6904045e6b752c39dc1a4790674205a0660d6049a095d22b960f105"), looks := false }, kinds := [], alts := [], laidByText := true, laidKinds := [.data, .pinned], laidTests := true, laidLooks := .later }
def TopOnlyUptoCardSaid : Prop := Claim7.holds Tryz.pinned (.plain (OpenSpec.upto topOnlySpec)) topOnlyUptoCard
end Rows
end Go.Proofs.YtnoclbkoklknnaaGreatDoor
