/-
  No cell of these rows narrows 'for every input' (looked for: loops, veiled, ifaces, maps, wideKeys, modest, calm, conditions, laid).
  DERIVED. THE GIVEN ROWS OF THIS SEAT. 5 by the template 'for every input the law returns true; each argument reads behind the call as it read before'; 0 by the template 'total and deterministic' (their statements: YtamldkpcgagkpaaTotals.lean).
  GIVEN WITH THE SEED: the statements are not yours to turn. If you find one false, say at which input.
  Laid BY PROGRAM, IN A SANDBOX (cutbox-rows.mjs): the forced cells as the released guide's own fill.sh prints them over the translation 3f375137e691a2ab… (all of the seat's roots in one cut). By AI agents, Wed Nov 11 2026. No macro, syntax, notation, axiom, sorry.
-/
import Derived.Test.YtamldkpcgagkpaaChecked
import GoSem.Claim
import GoSem.ClaimJoined
import GoSem.ClaimMapViews
import Derived.JoinedTies
import Derived.KernelRfl
namespace Go.Proofs.Ytamldkpcgagkpaa
/- THE CELL 'sum', in the pinned program and in every row, IS THE sha256 OF THE DUMP (.gsa) THAT YtamldkpcgagkpaaProg.lean LOADS. Nothing in Lean hashes anything: it is a label: what it is worth is what the hold of that sum in a sandbox is worth. -/
noncomputable def Try.pinned : Pinned := { name := "ytamldkpcgagkpaa", sum := "3f375137e691a2ab2f8b0ed34873e78164d5b2895c4a01b36e5d228314914076", checked := Try.checked }
namespace Rows
def none {H : Type} : Left H := { results := [], args := [] }

/-- 'treadwheellaw3.FitNumbers': WHATEVER THE INPUT: true; the input reads as it did. -/
def fitNumbersSpec : ChangeSpec := { name := "fitNumbers", fn := fun _ => fun
  | [] => { results := [.lit (.bool true)], args := [] }
  | _ => none }
def fitNumbersRow : OpenClaim := { program := "ytamldkpcgagkpaa", sum := "3f375137e691a2ab2f8b0ed34873e78164d5b2895c4a01b36e5d228314914076", func := "treadwheel/treadwheellaw3.FitNumbers", spec := "fitNumbers", apart := false }
def FitNumbersSaid : Prop := fitNumbersRow.holds Try.pinned (OpenSpec.ofChange fitNumbersSpec)

/-- ITS FALSE NEIGHBOUR: 'it returns false'. Refute it at one input. -/
def fitNumbersWrong : ChangeSpec := { name := "fitNumbers", fn := fun _ => fun
  | [] => { results := [.lit (.bool false)], args := [] }
  | _ => none }
def FitNumbersWrongFalsely : Prop := fitNumbersRow.holds Try.pinned (OpenSpec.ofChange fitNumbersWrong)

/-- 'treadwheellaw3.FitTells': WHATEVER THE INPUT: true; the input reads as it did. -/
def fitTellsSpec : ChangeSpec := { name := "fitTells", fn := fun _ => fun
  | [d1, d2, d3] => { results := [.lit (.bool true)], args := [d1, d2, d3] }
  | _ => none }
def fitTellsRow : OpenClaim := { program := "ytamldkpcgagkpaa", sum := "3f375137e691a2ab2f8b0ed34873e78164d5b2895c4a01b36e5d228314914076", func := "treadwheel/treadwheellaw3.FitTells", spec := "fitTells", apart := false }
def FitTellsSaid : Prop := fitTellsRow.holds Try.pinned (OpenSpec.ofChange fitTellsSpec)

/-- ITS FALSE NEIGHBOUR: 'it returns false'. Refute it at one input. -/
def fitTellsWrong : ChangeSpec := { name := "fitTells", fn := fun _ => fun
  | [d1, d2, d3] => { results := [.lit (.bool false)], args := [d1, d2, d3] }
  | _ => none }
def FitTellsWrongFalsely : Prop := fitTellsRow.holds Try.pinned (OpenSpec.ofChange fitTellsWrong)

/-- 'treadwheellaw3.FitLeast': WHATEVER THE INPUT: true; the input reads as it did. -/
def fitLeastSpec : ChangeSpec := { name := "fitLeast", fn := fun _ => fun
  | [d] => { results := [.lit (.bool true)], args := [d] }
  | _ => none }
def fitLeastRow : OpenClaim := { program := "ytamldkpcgagkpaa", sum := "3f375137e691a2ab2f8b0ed34873e78164d5b2895c4a01b36e5d228314914076", func := "treadwheel/treadwheellaw3.FitLeast", spec := "fitLeast", apart := false }
def FitLeastSaid : Prop := fitLeastRow.holds Try.pinned (OpenSpec.ofChange fitLeastSpec)

/-- ITS FALSE NEIGHBOUR: 'it returns false'. Refute it at one input. -/
def fitLeastWrong : ChangeSpec := { name := "fitLeast", fn := fun _ => fun
  | [d] => { results := [.lit (.bool false)], args := [d] }
  | _ => none }
def FitLeastWrongFalsely : Prop := fitLeastRow.holds Try.pinned (OpenSpec.ofChange fitLeastWrong)

/-- 'treadwheellaw3.FitTotals': WHATEVER THE INPUT: true; the input reads as it did. -/
def fitTotalsSpec : ChangeSpec := { name := "fitTotals", fn := fun _ => fun
  | [d1, d2, d3] => { results := [.lit (.bool true)], args := [d1, d2, d3] }
  | _ => none }
def fitTotalsRow : OpenClaim := { program := "ytamldkpcgagkpaa", sum := "3f375137e691a2ab2f8b0ed34873e78164d5b2895c4a01b36e5d228314914076", func := "treadwheel/treadwheellaw3.FitTotals", spec := "fitTotals", apart := false }
def FitTotalsSaid : Prop := fitTotalsRow.holds Try.pinned (OpenSpec.ofChange fitTotalsSpec)

/-- ITS FALSE NEIGHBOUR: 'it returns false'. Refute it at one input. -/
def fitTotalsWrong : ChangeSpec := { name := "fitTotals", fn := fun _ => fun
  | [d1, d2, d3] => { results := [.lit (.bool false)], args := [d1, d2, d3] }
  | _ => none }
def FitTotalsWrongFalsely : Prop := fitTotalsRow.holds Try.pinned (OpenSpec.ofChange fitTotalsWrong)

/-- 'treadwheellaw3.FitOrder': WHATEVER THE INPUT: true; the input reads as it did. -/
def fitOrderSpec : ChangeSpec := { name := "fitOrder", fn := fun _ => fun
  | [d1, d2] => { results := [.lit (.bool true)], args := [d1, d2] }
  | _ => none }
def fitOrderRow : OpenClaim := { program := "ytamldkpcgagkpaa", sum := "3f375137e691a2ab2f8b0ed34873e78164d5b2895c4a01b36e5d228314914076", func := "treadwheel/treadwheellaw3.FitOrder", spec := "fitOrder", apart := false }
def FitOrderSaid : Prop := fitOrderRow.holds Try.pinned (OpenSpec.ofChange fitOrderSpec)

/-- ITS FALSE NEIGHBOUR: 'it returns false'. Refute it at one input. -/
def fitOrderWrong : ChangeSpec := { name := "fitOrder", fn := fun _ => fun
  | [d1, d2] => { results := [.lit (.bool false)], args := [d1, d2] }
  | _ => none }
def FitOrderWrongFalsely : Prop := fitOrderRow.holds Try.pinned (OpenSpec.ofChange fitOrderWrong)

/- THE SECOND FORM. 'bulk': how many values and letters a reading holds, each counted each time it is reached (what is shared counts as often as it is met; a slice's spare places count too). A statement '..UptoSaid' is the law's where the arguments, and the package variables that the reading takes, are together of bulk at most 1048576: NARROWER than '..Said'. Prove '..Said' where nothing that the law and all that it calls make is longer than what came in: it says more and counts as full. Else prove '..UptoSaid'. A law counts once. -/
mutual
def uptoBulk {H : Type} : DataW H → Nat
  | .lit (.string bytes) => bytes.length + 1
  | .lit _ => 1
  | .nil => 1
  | .ptr d => uptoBulk d + 1
  | .slice elems spare => uptoBulkAll elems + uptoBulkAll spare + 1
  | .agg parts => uptoBulkAll parts + 1
  | .iface _ d => uptoBulk d + 1
  | .map entries => uptoBulkEntries entries + 1
  | .held _ => 1
def uptoBulkAll {H : Type} : List (DataW H) → Nat
  | [] => 0
  | d :: r => uptoBulk d + uptoBulkAll r
def uptoBulkEntries {H : Type} : List (Lit × DataW H) → Nat
  | [] => 0
  | x :: r => uptoBulkEntry x + uptoBulkEntries r
def uptoBulkEntry {H : Type} : Lit × DataW H → Nat
  | (.string bytes, d) => bytes.length + uptoBulk d + 1
  | (_, d) => uptoBulk d + 1
 end
def uptoSmall : (H : Type) → List (DataW H) → Bool := fun _ ds => decide (uptoBulkAll ds ≤ 1048576)
def OpenSpec.upto (s : _root_.Go.ChangeSpec) : _root_.Go.OpenSpec := { _root_.Go.OpenSpec.ofChange s with cond := some uptoSmall }

/-- 'treadwheellaw3.FitNumbers', WHERE WHAT IT READS IS OF BULK AT MOST 1048576: true; the input reads as it did. -/
def fitNumbersUptoRow : OpenClaim := { program := "ytamldkpcgagkpaa", sum := "3f375137e691a2ab2f8b0ed34873e78164d5b2895c4a01b36e5d228314914076", func := "treadwheel/treadwheellaw3.FitNumbers", spec := "fitNumbers", apart := false, narrowed := true }
def FitNumbersUptoSaid : Prop := fitNumbersUptoRow.holds Try.pinned (OpenSpec.upto fitNumbersSpec)

/-- 'treadwheellaw3.FitTells', WHERE WHAT IT READS IS OF BULK AT MOST 1048576: true; the input reads as it did. -/
def fitTellsUptoRow : OpenClaim := { program := "ytamldkpcgagkpaa", sum := "3f375137e691a2ab2f8b0ed34873e78164d5b2895c4a01b36e5d228314914076", func := "treadwheel/treadwheellaw3.FitTells", spec := "fitTells", apart := false, narrowed := true }
def FitTellsUptoSaid : Prop := fitTellsUptoRow.holds Try.pinned (OpenSpec.upto fitTellsSpec)

/-- 'treadwheellaw3.FitLeast', WHERE WHAT IT READS IS OF BULK AT MOST 1048576: true; the input reads as it did. -/
def fitLeastUptoRow : OpenClaim := { program := "ytamldkpcgagkpaa", sum := "3f375137e691a2ab2f8b0ed34873e78164d5b2895c4a01b36e5d228314914076", func := "treadwheel/treadwheellaw3.FitLeast", spec := "fitLeast", apart := false, narrowed := true }
def FitLeastUptoSaid : Prop := fitLeastUptoRow.holds Try.pinned (OpenSpec.upto fitLeastSpec)

/-- 'treadwheellaw3.FitTotals', WHERE WHAT IT READS IS OF BULK AT MOST 1048576: true; the input reads as it did. -/
def fitTotalsUptoRow : OpenClaim := { program := "ytamldkpcgagkpaa", sum := "3f375137e691a2ab2f8b0ed34873e78164d5b2895c4a01b36e5d228314914076", func := "treadwheel/treadwheellaw3.FitTotals", spec := "fitTotals", apart := false, narrowed := true }
def FitTotalsUptoSaid : Prop := fitTotalsUptoRow.holds Try.pinned (OpenSpec.upto fitTotalsSpec)

/-- 'treadwheellaw3.FitOrder', WHERE WHAT IT READS IS OF BULK AT MOST 1048576: true; the input reads as it did. -/
def fitOrderUptoRow : OpenClaim := { program := "ytamldkpcgagkpaa", sum := "3f375137e691a2ab2f8b0ed34873e78164d5b2895c4a01b36e5d228314914076", func := "treadwheel/treadwheellaw3.FitOrder", spec := "fitOrder", apart := false, narrowed := true }
def FitOrderUptoSaid : Prop := fitOrderUptoRow.holds Try.pinned (OpenSpec.upto fitOrderSpec)

end Rows
end Go.Proofs.Ytamldkpcgagkpaa
