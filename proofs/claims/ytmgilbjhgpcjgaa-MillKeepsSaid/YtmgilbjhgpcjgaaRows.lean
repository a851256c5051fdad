/-
  No cell of these rows narrows 'for every input' (looked for: loops, veiled, ifaces, maps, wideKeys, modest, calm, conditions, laid).
  DERIVED. THE GIVEN ROWS OF THIS SEAT. 5 by the template 'for every input the law returns true; each argument reads behind the call as it read before'; 0 by the template 'total and deterministic' (their statements: YtmgilbjhgpcjgaaTotals.lean).
  GIVEN WITH THE SEED: the statements are not yours to turn. If you find one false, say at which input.
  Laid BY PROGRAM, IN A SANDBOX (cutbox-rows.mjs): the forced cells as the released guide's own fill.sh prints them over the translation e5dd690319e9a4b0… (all of the seat's roots in one cut). By AI agents, Wed Nov 11 2026. No macro, syntax, notation, axiom, sorry.
-/
import Derived.Test.YtmgilbjhgpcjgaaChecked
import GoSem.Claim
import GoSem.ClaimJoined
import GoSem.ClaimMapViews
import Derived.JoinedTies
import Derived.KernelRfl
namespace Go.Proofs.Ytmgilbjhgpcjgaa
/- THE CELL 'sum', in the pinned program and in every row, IS THE sha256 OF THE DUMP (.gsa) THAT YtmgilbjhgpcjgaaProg.lean LOADS. Nothing in Lean hashes anything: it is a label: what it is worth is what the hold of that sum in a sandbox is worth. -/
noncomputable def Try.pinned : Pinned := { name := "ytmgilbjhgpcjgaa", sum := "e5dd690319e9a4b02ea7e1751bc03db1b1f475b6ffa0bb896af227fd28c675fb", checked := Try.checked }
namespace Rows
def none {H : Type} : Left H := { results := [], args := [] }

/-- 'treadwheellaw5.MillNumbers': WHATEVER THE INPUT: true; the input reads as it did. -/
def millNumbersSpec : ChangeSpec := { name := "millNumbers", fn := fun _ => fun
  | [] => { results := [.lit (.bool true)], args := [] }
  | _ => none }
def millNumbersRow : OpenClaim := { program := "ytmgilbjhgpcjgaa", sum := "e5dd690319e9a4b02ea7e1751bc03db1b1f475b6ffa0bb896af227fd28c675fb", func := "treadwheel/treadwheellaw5.MillNumbers", spec := "millNumbers", apart := false }
def MillNumbersSaid : Prop := millNumbersRow.holds Try.pinned (OpenSpec.ofChange millNumbersSpec)

/-- ITS FALSE NEIGHBOUR: 'it returns false'. Refute it at one input. -/
def millNumbersWrong : ChangeSpec := { name := "millNumbers", fn := fun _ => fun
  | [] => { results := [.lit (.bool false)], args := [] }
  | _ => none }
def MillNumbersWrongFalsely : Prop := millNumbersRow.holds Try.pinned (OpenSpec.ofChange millNumbersWrong)

/-- 'treadwheellaw5.MillPlays': WHATEVER THE INPUT: true; the input reads as it did. -/
def millPlaysSpec : ChangeSpec := { name := "millPlays", fn := fun _ => fun
  | [d1, d2] => { results := [.lit (.bool true)], args := [d1, d2] }
  | _ => none }
def millPlaysRow : OpenClaim := { program := "ytmgilbjhgpcjgaa", sum := "e5dd690319e9a4b02ea7e1751bc03db1b1f475b6ffa0bb896af227fd28c675fb", func := "treadwheel/treadwheellaw5.MillPlays", spec := "millPlays", apart := false }
def MillPlaysSaid : Prop := millPlaysRow.holds Try.pinned (OpenSpec.ofChange millPlaysSpec)

/-- ITS FALSE NEIGHBOUR: 'it returns false'. Refute it at one input. -/
def millPlaysWrong : ChangeSpec := { name := "millPlays", fn := fun _ => fun
  | [d1, d2] => { results := [.lit (.bool false)], args := [d1, d2] }
  | _ => none }
def MillPlaysWrongFalsely : Prop := millPlaysRow.holds Try.pinned (OpenSpec.ofChange millPlaysWrong)

/-- 'treadwheellaw5.MillKeeps': WHATEVER THE INPUT: true; the input reads as it did. -/
def millKeepsSpec : ChangeSpec := { name := "millKeeps", fn := fun _ => fun
  | [d1, d2] => { results := [.lit (.bool true)], args := [d1, d2] }
  | _ => none }
def millKeepsRow : OpenClaim := { program := "ytmgilbjhgpcjgaa", sum := "e5dd690319e9a4b02ea7e1751bc03db1b1f475b6ffa0bb896af227fd28c675fb", func := "treadwheel/treadwheellaw5.MillKeeps", spec := "millKeeps", apart := false }
def MillKeepsSaid : Prop := millKeepsRow.holds Try.pinned (OpenSpec.ofChange millKeepsSpec)

/-- ITS FALSE NEIGHBOUR: 'it returns false'. Refute it at one input. -/
def millKeepsWrong : ChangeSpec := { name := "millKeeps", fn := fun _ => fun
  | [d1, d2] => { results := [.lit (.bool false)], args := [d1, d2] }
  | _ => none }
def MillKeepsWrongFalsely : Prop := millKeepsRow.holds Try.pinned (OpenSpec.ofChange millKeepsWrong)

/-- 'treadwheellaw5.MillCycles': WHATEVER THE INPUT: true; the input reads as it did. -/
def millCyclesSpec : ChangeSpec := { name := "millCycles", fn := fun _ => fun
  | [d1, d2] => { results := [.lit (.bool true)], args := [d1, d2] }
  | _ => none }
def millCyclesRow : OpenClaim := { program := "ytmgilbjhgpcjgaa", sum := "e5dd690319e9a4b02ea7e1751bc03db1b1f475b6ffa0bb896af227fd28c675fb", func := "treadwheel/treadwheellaw5.MillCycles", spec := "millCycles", apart := false }
def MillCyclesSaid : Prop := millCyclesRow.holds Try.pinned (OpenSpec.ofChange millCyclesSpec)

/-- ITS FALSE NEIGHBOUR: 'it returns false'. Refute it at one input. -/
def millCyclesWrong : ChangeSpec := { name := "millCycles", fn := fun _ => fun
  | [d1, d2] => { results := [.lit (.bool false)], args := [d1, d2] }
  | _ => none }
def MillCyclesWrongFalsely : Prop := millCyclesRow.holds Try.pinned (OpenSpec.ofChange millCyclesWrong)

/-- 'treadwheellaw5.MillOrder': WHATEVER THE INPUT: true; the input reads as it did. -/
def millOrderSpec : ChangeSpec := { name := "millOrder", fn := fun _ => fun
  | [d1, d2] => { results := [.lit (.bool true)], args := [d1, d2] }
  | _ => none }
def millOrderRow : OpenClaim := { program := "ytmgilbjhgpcjgaa", sum := "e5dd690319e9a4b02ea7e1751bc03db1b1f475b6ffa0bb896af227fd28c675fb", func := "treadwheel/treadwheellaw5.MillOrder", spec := "millOrder", apart := false }
def MillOrderSaid : Prop := millOrderRow.holds Try.pinned (OpenSpec.ofChange millOrderSpec)

/-- ITS FALSE NEIGHBOUR: 'it returns false'. Refute it at one input. -/
def millOrderWrong : ChangeSpec := { name := "millOrder", fn := fun _ => fun
  | [d1, d2] => { results := [.lit (.bool false)], args := [d1, d2] }
  | _ => none }
def MillOrderWrongFalsely : Prop := millOrderRow.holds Try.pinned (OpenSpec.ofChange millOrderWrong)

/- THE SECOND FORM. 'bulk': how many values and letters a reading holds, each counted each time it is reached (what is shared counts as often as it is met; a slice's spare places count too). A statement '..UptoSaid' is the law's where the arguments, and the package variables that the reading takes, are together of bulk at most 1048576: NARROWER than '..Said'. Prove '..Said' where nothing that the law and all that it calls make is longer than what came in: it says more and counts as full. Else prove '..UptoSaid'. A law counts once. -/
mutual
def uptoBulk {H : Type} : DataW H → Nat
  | .lit (.string bytes) => bytes.length + 1
  | .lit _ => 1
  | .nil => 1
  | .ptr d => uptoBulk d + 1
  | .slice elems spare => uptoBulkAll elems + uptoBulkAll spare + 1
  | .agg parts => uptoBulkAll parts + 1
  | .iface _ d => uptoBulk d + 1
  | .map entries => uptoBulkEntries entries + 1
  | .held _ => 1
def uptoBulkAll {H : Type} : List (DataW H) → Nat
  | [] => 0
  | d :: r => uptoBulk d + uptoBulkAll r
def uptoBulkEntries {H : Type} : List (Lit × DataW H) → Nat
  | [] => 0
  | x :: r => uptoBulkEntry x + uptoBulkEntries r
def uptoBulkEntry {H : Type} : Lit × DataW H → Nat
  | (.string bytes, d) => bytes.length + uptoBulk d + 1
  | (_, d) => uptoBulk d + 1
 end
def uptoSmall : (H : Type) → List (DataW H) → Bool := fun _ ds => decide (uptoBulkAll ds ≤ 1048576)
def OpenSpec.upto (s : _root_.Go.ChangeSpec) : _root_.Go.OpenSpec := { _root_.Go.OpenSpec.ofChange s with cond := some uptoSmall }

/-- 'treadwheellaw5.MillNumbers', WHERE WHAT IT READS IS OF BULK AT MOST 1048576: true; the input reads as it did. -/
def millNumbersUptoRow : OpenClaim := { program := "ytmgilbjhgpcjgaa", sum := "e5dd690319e9a4b02ea7e1751bc03db1b1f475b6ffa0bb896af227fd28c675fb", func := "treadwheel/treadwheellaw5.MillNumbers", spec := "millNumbers", apart := false, narrowed := true }
def MillNumbersUptoSaid : Prop := millNumbersUptoRow.holds Try.pinned (OpenSpec.upto millNumbersSpec)

/-- 'treadwheellaw5.MillPlays', WHERE WHAT IT READS IS OF BULK AT MOST 1048576: true; the input reads as it did. -/
def millPlaysUptoRow : OpenClaim := { program := "ytmgilbjhgpcjgaa", sum := "e5dd690319e9a4b02ea7e1751bc03db1b1f475b6ffa0bb896af227fd28c675fb", func := "treadwheel/treadwheellaw5.MillPlays", spec := "millPlays", apart := false, narrowed := true }
def MillPlaysUptoSaid : Prop := millPlaysUptoRow.holds Try.pinned (OpenSpec.upto millPlaysSpec)

/-- 'treadwheellaw5.MillKeeps', WHERE WHAT IT READS IS OF BULK AT MOST 1048576: true; the input reads as it did. -/
def millKeepsUptoRow : OpenClaim := { program := "ytmgilbjhgpcjgaa", sum := "e5dd690319e9a4b02ea7e1751bc03db1b1f475b6ffa0bb896af227fd28c675fb", func := "treadwheel/treadwheellaw5.MillKeeps", spec := "millKeeps", apart := false, narrowed := true }
def MillKeepsUptoSaid : Prop := millKeepsUptoRow.holds Try.pinned (OpenSpec.upto millKeepsSpec)

/-- 'treadwheellaw5.MillCycles', WHERE WHAT IT READS IS OF BULK AT MOST 1048576: true; the input reads as it did. -/
def millCyclesUptoRow : OpenClaim := { program := "ytmgilbjhgpcjgaa", sum := "e5dd690319e9a4b02ea7e1751bc03db1b1f475b6ffa0bb896af227fd28c675fb", func := "treadwheel/treadwheellaw5.MillCycles", spec := "millCycles", apart := false, narrowed := true }
def MillCyclesUptoSaid : Prop := millCyclesUptoRow.holds Try.pinned (OpenSpec.upto millCyclesSpec)

/-- 'treadwheellaw5.MillOrder', WHERE WHAT IT READS IS OF BULK AT MOST 1048576: true; the input reads as it did. -/
def millOrderUptoRow : OpenClaim := { program := "ytmgilbjhgpcjgaa", sum := "e5dd690319e9a4b02ea7e1751bc03db1b1f475b6ffa0bb896af227fd28c675fb", func := "treadwheel/treadwheellaw5.MillOrder", spec := "millOrder", apart := false, narrowed := true }
def MillOrderUptoSaid : Prop := millOrderUptoRow.holds Try.pinned (OpenSpec.upto millOrderSpec)

end Rows
end Go.Proofs.Ytmgilbjhgpcjgaa
