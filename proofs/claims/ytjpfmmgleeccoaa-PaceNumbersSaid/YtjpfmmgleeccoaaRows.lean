/-
  No cell of these rows narrows 'for every input' (looked for: loops, veiled, ifaces, maps, wideKeys, modest, calm, conditions, laid).
  DERIVED. THE GIVEN ROWS OF THIS SEAT. 5 by the template 'for every input the law returns true; each argument reads behind the call as it read before'; 0 by the template 'total and deterministic' (their statements: YtjpfmmgleeccoaaTotals.lean).
  GIVEN WITH THE SEED: the statements are not yours to turn. If you find one false, say at which input.
  Laid BY PROGRAM, IN A SANDBOX (cutbox-rows.mjs): the forced cells as the released guide's own fill.sh prints them over the translation c78e94f12a49054c… (all of the seat's roots in one cut). By AI agents, Wed Nov 11 2026. No macro, syntax, notation, axiom, sorry.
-/
import Derived.Test.YtjpfmmgleeccoaaChecked
import GoSem.Claim
import GoSem.ClaimJoined
import GoSem.ClaimMapViews
import Derived.JoinedTies
import Derived.KernelRfl
namespace Go.Proofs.Ytjpfmmgleeccoaa
/- THE CELL 'sum', in the pinned program and in every row, IS THE sha256 OF THE DUMP (.gsa) THAT YtjpfmmgleeccoaaProg.lean LOADS. Nothing in Lean hashes anything: it is a label: what it is worth is what the hold of that sum in a sandbox is worth. -/
noncomputable def Try.pinned : Pinned := { name := "ytjpfmmgleeccoaa", sum := "c78e94f12a49054c279d2a0d33069fc50d683a12b660157e033faf884e4ac76a", checked := Try.checked }
namespace Rows
def none {H : Type} : Left H := { results := [], args := [] }

/-- 'treadwheellaw6.PaceNumbers': WHATEVER THE INPUT: true; the input reads as it did. -/
def paceNumbersSpec : ChangeSpec := { name := "paceNumbers", fn := fun _ => fun
  | [] => { results := [.lit (.bool true)], args := [] }
  | _ => none }
def paceNumbersRow : OpenClaim := { program := "ytjpfmmgleeccoaa", sum := "c78e94f12a49054c279d2a0d33069fc50d683a12b660157e033faf884e4ac76a", func := "treadwheel/treadwheellaw6.PaceNumbers", spec := "paceNumbers", apart := false }
def PaceNumbersSaid : Prop := paceNumbersRow.holds Try.pinned (OpenSpec.ofChange paceNumbersSpec)

/-- ITS FALSE NEIGHBOUR: 'it returns false'. Refute it at one input. -/
def paceNumbersWrong : ChangeSpec := { name := "paceNumbers", fn := fun _ => fun
  | [] => { results := [.lit (.bool false)], args := [] }
  | _ => none }
def PaceNumbersWrongFalsely : Prop := paceNumbersRow.holds Try.pinned (OpenSpec.ofChange paceNumbersWrong)

/-- 'treadwheellaw6.PaceTells': WHATEVER THE INPUT: true; the input reads as it did. -/
def paceTellsSpec : ChangeSpec := { name := "paceTells", fn := fun _ => fun
  | [d1, d2] => { results := [.lit (.bool true)], args := [d1, d2] }
  | _ => none }
def paceTellsRow : OpenClaim := { program := "ytjpfmmgleeccoaa", sum := "c78e94f12a49054c279d2a0d33069fc50d683a12b660157e033faf884e4ac76a", func := "treadwheel/treadwheellaw6.PaceTells", spec := "paceTells", apart := false }
def PaceTellsSaid : Prop := paceTellsRow.holds Try.pinned (OpenSpec.ofChange paceTellsSpec)

/-- ITS FALSE NEIGHBOUR: 'it returns false'. Refute it at one input. -/
def paceTellsWrong : ChangeSpec := { name := "paceTells", fn := fun _ => fun
  | [d1, d2] => { results := [.lit (.bool false)], args := [d1, d2] }
  | _ => none }
def PaceTellsWrongFalsely : Prop := paceTellsRow.holds Try.pinned (OpenSpec.ofChange paceTellsWrong)

/-- 'treadwheellaw6.PaceDebt': WHATEVER THE INPUT: true; the input reads as it did. -/
def paceDebtSpec : ChangeSpec := { name := "paceDebt", fn := fun _ => fun
  | [d1, d2] => { results := [.lit (.bool true)], args := [d1, d2] }
  | _ => none }
def paceDebtRow : OpenClaim := { program := "ytjpfmmgleeccoaa", sum := "c78e94f12a49054c279d2a0d33069fc50d683a12b660157e033faf884e4ac76a", func := "treadwheel/treadwheellaw6.PaceDebt", spec := "paceDebt", apart := false }
def PaceDebtSaid : Prop := paceDebtRow.holds Try.pinned (OpenSpec.ofChange paceDebtSpec)

/-- ITS FALSE NEIGHBOUR: 'it returns false'. Refute it at one input. -/
def paceDebtWrong : ChangeSpec := { name := "paceDebt", fn := fun _ => fun
  | [d1, d2] => { results := [.lit (.bool false)], args := [d1, d2] }
  | _ => none }
def PaceDebtWrongFalsely : Prop := paceDebtRow.holds Try.pinned (OpenSpec.ofChange paceDebtWrong)

/-- 'treadwheellaw6.PaceSum': WHATEVER THE INPUT: true; the input reads as it did. -/
def paceSumSpec : ChangeSpec := { name := "paceSum", fn := fun _ => fun
  | [d1, d2] => { results := [.lit (.bool true)], args := [d1, d2] }
  | _ => none }
def paceSumRow : OpenClaim := { program := "ytjpfmmgleeccoaa", sum := "c78e94f12a49054c279d2a0d33069fc50d683a12b660157e033faf884e4ac76a", func := "treadwheel/treadwheellaw6.PaceSum", spec := "paceSum", apart := false }
def PaceSumSaid : Prop := paceSumRow.holds Try.pinned (OpenSpec.ofChange paceSumSpec)

/-- ITS FALSE NEIGHBOUR: 'it returns false'. Refute it at one input. -/
def paceSumWrong : ChangeSpec := { name := "paceSum", fn := fun _ => fun
  | [d1, d2] => { results := [.lit (.bool false)], args := [d1, d2] }
  | _ => none }
def PaceSumWrongFalsely : Prop := paceSumRow.holds Try.pinned (OpenSpec.ofChange paceSumWrong)

/-- 'treadwheellaw6.PaceRest': WHATEVER THE INPUT: true; the input reads as it did. -/
def paceRestSpec : ChangeSpec := { name := "paceRest", fn := fun _ => fun
  | [d1, d2] => { results := [.lit (.bool true)], args := [d1, d2] }
  | _ => none }
def paceRestRow : OpenClaim := { program := "ytjpfmmgleeccoaa", sum := "c78e94f12a49054c279d2a0d33069fc50d683a12b660157e033faf884e4ac76a", func := "treadwheel/treadwheellaw6.PaceRest", spec := "paceRest", apart := false }
def PaceRestSaid : Prop := paceRestRow.holds Try.pinned (OpenSpec.ofChange paceRestSpec)

/-- ITS FALSE NEIGHBOUR: 'it returns false'. Refute it at one input. -/
def paceRestWrong : ChangeSpec := { name := "paceRest", fn := fun _ => fun
  | [d1, d2] => { results := [.lit (.bool false)], args := [d1, d2] }
  | _ => none }
def PaceRestWrongFalsely : Prop := paceRestRow.holds Try.pinned (OpenSpec.ofChange paceRestWrong)

/- THE SECOND FORM. 'bulk': how many values and letters a reading holds, each counted each time it is reached (what is shared counts as often as it is met; a slice's spare places count too). A statement '..UptoSaid' is the law's where the arguments, and the package variables that the reading takes, are together of bulk at most 1048576: NARROWER than '..Said'. Prove '..Said' where nothing that the law and all that it calls make is longer than what came in: it says more and counts as full. Else prove '..UptoSaid'. A law counts once. -/
mutual
def uptoBulk {H : Type} : DataW H → Nat
  | .lit (.string bytes) => bytes.length + 1
  | .lit _ => 1
  | .nil => 1
  | .ptr d => uptoBulk d + 1
  | .slice elems spare => uptoBulkAll elems + uptoBulkAll spare + 1
  | .agg parts => uptoBulkAll parts + 1
  | .iface _ d => uptoBulk d + 1
  | .map entries => uptoBulkEntries entries + 1
  | .held _ => 1
def uptoBulkAll {H : Type} : List (DataW H) → Nat
  | [] => 0
  | d :: r => uptoBulk d + uptoBulkAll r
def uptoBulkEntries {H : Type} : List (Lit × DataW H) → Nat
  | [] => 0
  | x :: r => uptoBulkEntry x + uptoBulkEntries r
def uptoBulkEntry {H : Type} : Lit × DataW H → Nat
  | (.string bytes, d) => bytes.length + uptoBulk d + 1
  | (_, d) => uptoBulk d + 1
 end
def uptoSmall : (H : Type) → List (DataW H) → Bool := fun _ ds => decide (uptoBulkAll ds ≤ 1048576)
def OpenSpec.upto (s : _root_.Go.ChangeSpec) : _root_.Go.OpenSpec := { _root_.Go.OpenSpec.ofChange s with cond := some uptoSmall }

/-- 'treadwheellaw6.PaceNumbers', WHERE WHAT IT READS IS OF BULK AT MOST 1048576: true; the input reads as it did. -/
def paceNumbersUptoRow : OpenClaim := { program := "ytjpfmmgleeccoaa", sum := "c78e94f12a49054c279d2a0d33069fc50d683a12b660157e033faf884e4ac76a", func := "treadwheel/treadwheellaw6.PaceNumbers", spec := "paceNumbers", apart := false, narrowed := true }
def PaceNumbersUptoSaid : Prop := paceNumbersUptoRow.holds Try.pinned (OpenSpec.upto paceNumbersSpec)

/-- 'treadwheellaw6.PaceTells', WHERE WHAT IT READS IS OF BULK AT MOST 1048576: true; the input reads as it did. -/
def paceTellsUptoRow : OpenClaim := { program := "ytjpfmmgleeccoaa", sum := "c78e94f12a49054c279d2a0d33069fc50d683a12b660157e033faf884e4ac76a", func := "treadwheel/treadwheellaw6.PaceTells", spec := "paceTells", apart := false, narrowed := true }
def PaceTellsUptoSaid : Prop := paceTellsUptoRow.holds Try.pinned (OpenSpec.upto paceTellsSpec)

/-- 'treadwheellaw6.PaceDebt', WHERE WHAT IT READS IS OF BULK AT MOST 1048576: true; the input reads as it did. -/
def paceDebtUptoRow : OpenClaim := { program := "ytjpfmmgleeccoaa", sum := "c78e94f12a49054c279d2a0d33069fc50d683a12b660157e033faf884e4ac76a", func := "treadwheel/treadwheellaw6.PaceDebt", spec := "paceDebt", apart := false, narrowed := true }
def PaceDebtUptoSaid : Prop := paceDebtUptoRow.holds Try.pinned (OpenSpec.upto paceDebtSpec)

/-- 'treadwheellaw6.PaceSum', WHERE WHAT IT READS IS OF BULK AT MOST 1048576: true; the input reads as it did. -/
def paceSumUptoRow : OpenClaim := { program := "ytjpfmmgleeccoaa", sum := "c78e94f12a49054c279d2a0d33069fc50d683a12b660157e033faf884e4ac76a", func := "treadwheel/treadwheellaw6.PaceSum", spec := "paceSum", apart := false, narrowed := true }
def PaceSumUptoSaid : Prop := paceSumUptoRow.holds Try.pinned (OpenSpec.upto paceSumSpec)

/-- 'treadwheellaw6.PaceRest', WHERE WHAT IT READS IS OF BULK AT MOST 1048576: true; the input reads as it did. -/
def paceRestUptoRow : OpenClaim := { program := "ytjpfmmgleeccoaa", sum := "c78e94f12a49054c279d2a0d33069fc50d683a12b660157e033faf884e4ac76a", func := "treadwheel/treadwheellaw6.PaceRest", spec := "paceRest", apart := false, narrowed := true }
def PaceRestUptoSaid : Prop := paceRestUptoRow.holds Try.pinned (OpenSpec.upto paceRestSpec)

end Rows
end Go.Proofs.Ytjpfmmgleeccoaa
