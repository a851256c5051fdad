/-
  DERIVED. GIVEN WITH THE SEED: THE CARDS: each row of YtamfoplfbidolaaGreatDoorRows.lean that lists a variable, with what it lists TIED to the program's text (the seventh form; the later family's looks); each row that meets fmt, with fmt's text TOLD by the authors' own Lean function (tested against real Go, not proved from fmt's source: count such statements apart). THE CARD IS WHAT COUNTS. Prove the row's statement (the work); the ties are given (YtamfoplfbidolaaGreatDoorTie.lean); close each card by the builder's one call (the guide's Derived/Test/ToyasCard.lean, 'card_holds'). Laid BY PROGRAM, IN A SANDBOX (cutbox-door.mjs). By AI agents, Wed Nov 11 2026. No macro, syntax, notation, axiom, sorry.
-/
import Derived.Test.YtamfoplfbidolaaGreatDoorRows
import GoSem.ClaimSeven
namespace Go.Proofs.YtamfoplfbidolaaGreatDoor
namespace Rows

/-- THE TIED CARD OF 'treadwheeltop.TopSupers'. -/
def topSupersCard : Claim7 := { stood := { row := topSupersRow, standIns := [], harness := (true, "8dbff2d675cb8ab49805466a2e8ba350ea75e0b801201e9e8f3072a00a97e72c"), looks := false }, kinds := [], alts := [], laidByText := true, laidKinds := [.data, .pinned], laidTests := true, laidLooks := .later }
def TopSupersCardSaid : Prop := Claim7.holds Tryz.pinned (.plain (OpenSpec.ofChange topSupersSpec)) topSupersCard

/-- THE TIED CARD OF 'treadwheeltop.TopDeep'. -/
def topDeepCard : Claim7 := { stood := { row := topDeepRow, standIns := [], harness := (true, "8dbff2d675cb8ab49805466a2e8ba350ea75e0b801201e9e8f3072a00a97e72c"), looks := false }, kinds := [], alts := [], laidByText := true, laidKinds := [.data, .pinned], laidTests := true, laidLooks := .later }
def TopDeepCardSaid : Prop := Claim7.holds Tryz.pinned (.plain (OpenSpec.ofChange topDeepSpec)) topDeepCard

/-- THE TIED CARD OF 'treadwheeltop.TopTurns'. -/
def topTurnsCard : Claim7 := { stood := { row := topTurnsRow, standIns := [], harness := (true, "8dbff2d675cb8ab49805466a2e8ba350ea75e0b801201e9e8f3072a00a97e72c"), looks := false }, kinds := [], alts := [], laidByText := true, laidKinds := [.data, .pinned], laidTests := true, laidLooks := .later }
def TopTurnsCardSaid : Prop := Claim7.holds Tryz.pinned (.plain (OpenSpec.ofChange topTurnsSpec)) topTurnsCard

/-- THE TIED CARD OF 'treadwheeltop.TopChain'. -/
def topChainCard : Claim7 := { stood := { row := topChainRow, standIns := [], harness := (true, "8dbff2d675cb8ab49805466a2e8ba350ea75e0b801201e9e8f3072a00a97e72c"), looks := false }, kinds := [], alts := [], laidByText := true, laidKinds := [.data, .pinned], laidTests := true, laidLooks := .later }
def TopChainCardSaid : Prop := Claim7.holds Tryz.pinned (.plain (OpenSpec.ofChange topChainSpec)) topChainCard

/-- THE SECOND FORM's CARD OF 'treadwheeltop.TopSupers'. -/
def topSupersUptoCard : Claim7 := { stood := { row := topSupersUptoRow, standIns := [], harness := (true, "8dbff2d675cb8ab49805466a2e8ba350ea75e0b801201e9e8f3072a00a97e72c"), looks := false }, kinds := [], alts := [], laidByText := true, laidKinds := [.data, .pinned], laidTests := true, laidLooks := .later }
def TopSupersUptoCardSaid : Prop := Claim7.holds Tryz.pinned (.plain (OpenSpec.upto topSupersSpec)) topSupersUptoCard

/-- THE SECOND FORM's CARD OF 'treadwheeltop.TopDeep'. -/
def topDeepUptoCard : Claim7 := { stood := { row := topDeepUptoRow, standIns := [], harness := (true, "8dbff2d675cb8ab49805466a2e8ba350ea75e0b801201e9e8f3072a00a97e72c"), looks := false }, kinds := [], alts := [], laidByText := true, laidKinds := [.data, .pinned], laidTests := true, laidLooks := .later }
def TopDeepUptoCardSaid : Prop := Claim7.holds Tryz.pinned (.plain (OpenSpec.upto topDeepSpec)) topDeepUptoCard

/-- THE SECOND FORM's CARD OF 'treadwheeltop.TopTurns'. -/
def topTurnsUptoCard : Claim7 := { stood := { row := topTurnsUptoRow, standIns := [], harness := (true, "8dbff2d675cb8ab49805466a2e8ba350ea75e0b801201e9e8f3072a00a97e72c"), looks := false }, kinds := [], alts := [], laidByText := true, laidKinds := [.data, .pinned], laidTests := true, laidLooks := .later }
def TopTurnsUptoCardSaid : Prop := Claim7.holds Tryz.pinned (.plain (OpenSpec.upto topTurnsSpec)) topTurnsUptoCard

/-- THE SECOND FORM's CARD OF 'treadwheeltop.TopChain'. -/
def topChainUptoCard : Claim7 := { stood := { row := topChainUptoRow, standIns := [], harness := (true, "8dbff2d675cb8ab49805466a2e8ba350ea75e0b801201e9e8f3072a00a97e72c"), looks := false }, kinds := [], alts := [], laidByText := true, laidKinds := [.data, .pinned], laidTests := true, laidLooks := .later }
def TopChainUptoCardSaid : Prop := Claim7.holds Tryz.pinned (.plain (OpenSpec.upto topChainSpec)) topChainUptoCard
end Rows
end Go.Proofs.YtamfoplfbidolaaGreatDoor
