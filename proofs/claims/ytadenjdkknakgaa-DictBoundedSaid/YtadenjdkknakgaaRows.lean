/-
  No cell of these rows narrows 'for every input' (looked for: loops, veiled, ifaces, maps, wideKeys, modest, calm, conditions, laid).
  DERIVED. THE GIVEN ROWS OF THIS SEAT. 4 by the template 'for every input the law returns true; each argument reads behind the call as it read before'; 0 by the template 'total and deterministic' (their statements: YtadenjdkknakgaaTotals.lean).
  GIVEN WITH THE SEED: the statements are not yours to turn. If you find one false, say at which input.
  Laid BY PROGRAM, IN A SANDBOX (cutbox-rows.mjs): the forced cells as the released guide's own fill.sh prints them over the translation ea1c34c92d64c4a1… (all of the seat's roots in one cut). By AI agents, Wed Nov 11 2026. No macro, syntax, notation, axiom, sorry.
-/
import Derived.Test.YtadenjdkknakgaaChecked
import GoSem.Claim
import GoSem.ClaimJoined
import GoSem.ClaimMapViews
import Derived.JoinedTies
import Derived.KernelRfl
namespace Go.Proofs.Ytadenjdkknakgaa
/- THE CELL 'sum', in the pinned program and in every row, IS THE sha256 OF THE DUMP (.gsa) THAT YtadenjdkknakgaaProg.lean LOADS. Nothing in Lean hashes anything: it is a label: what it is worth is what the hold of that sum in a sandbox is worth. -/
noncomputable def Try.pinned : Pinned := { name := "ytadenjdkknakgaa", sum := "ea1c34c92d64c4a16406ddbb1b2dfce12dc54f4ccd3aef21fe3099dde41c9d0f", checked := Try.checked }
namespace Rows
def none {H : Type} : Left H := { results := [], args := [] }

/-- 'treadwheellaw12.DictNumbers': WHATEVER THE INPUT: true; the input reads as it did. -/
def dictNumbersSpec : ChangeSpec := { name := "dictNumbers", fn := fun _ => fun
  | [] => { results := [.lit (.bool true)], args := [] }
  | _ => none }
def dictNumbersRow : OpenClaim := { program := "ytadenjdkknakgaa", sum := "ea1c34c92d64c4a16406ddbb1b2dfce12dc54f4ccd3aef21fe3099dde41c9d0f", func := "treadwheel/treadwheellaw12.DictNumbers", spec := "dictNumbers", apart := false }
def DictNumbersSaid : Prop := dictNumbersRow.holds Try.pinned (OpenSpec.ofChange dictNumbersSpec)

/-- ITS FALSE NEIGHBOUR: 'it returns false'. Refute it at one input. -/
def dictNumbersWrong : ChangeSpec := { name := "dictNumbers", fn := fun _ => fun
  | [] => { results := [.lit (.bool false)], args := [] }
  | _ => none }
def DictNumbersWrongFalsely : Prop := dictNumbersRow.holds Try.pinned (OpenSpec.ofChange dictNumbersWrong)

/-- 'treadwheellaw12.DictTells': WHATEVER THE INPUT: true; the input reads as it did. -/
def dictTellsSpec : ChangeSpec := { name := "dictTells", fn := fun _ => fun
  | [d1, d2] => { results := [.lit (.bool true)], args := [d1, d2] }
  | _ => none }
def dictTellsRow : OpenClaim := { program := "ytadenjdkknakgaa", sum := "ea1c34c92d64c4a16406ddbb1b2dfce12dc54f4ccd3aef21fe3099dde41c9d0f", func := "treadwheel/treadwheellaw12.DictTells", spec := "dictTells", apart := false }
def DictTellsSaid : Prop := dictTellsRow.holds Try.pinned (OpenSpec.ofChange dictTellsSpec)

/-- ITS FALSE NEIGHBOUR: 'it returns false'. Refute it at one input. -/
def dictTellsWrong : ChangeSpec := { name := "dictTells", fn := fun _ => fun
  | [d1, d2] => { results := [.lit (.bool false)], args := [d1, d2] }
  | _ => none }
def DictTellsWrongFalsely : Prop := dictTellsRow.holds Try.pinned (OpenSpec.ofChange dictTellsWrong)

/-- 'treadwheellaw12.DictBounded': WHATEVER THE INPUT: true; the input reads as it did. -/
def dictBoundedSpec : ChangeSpec := { name := "dictBounded", fn := fun _ => fun
  | [d1, d2] => { results := [.lit (.bool true)], args := [d1, d2] }
  | _ => none }
def dictBoundedRow : OpenClaim := { program := "ytadenjdkknakgaa", sum := "ea1c34c92d64c4a16406ddbb1b2dfce12dc54f4ccd3aef21fe3099dde41c9d0f", func := "treadwheel/treadwheellaw12.DictBounded", spec := "dictBounded", apart := false }
def DictBoundedSaid : Prop := dictBoundedRow.holds Try.pinned (OpenSpec.ofChange dictBoundedSpec)

/-- ITS FALSE NEIGHBOUR: 'it returns false'. Refute it at one input. -/
def dictBoundedWrong : ChangeSpec := { name := "dictBounded", fn := fun _ => fun
  | [d1, d2] => { results := [.lit (.bool false)], args := [d1, d2] }
  | _ => none }
def DictBoundedWrongFalsely : Prop := dictBoundedRow.holds Try.pinned (OpenSpec.ofChange dictBoundedWrong)

/-- 'treadwheellaw12.DictOrder': WHATEVER THE INPUT: true; the input reads as it did. -/
def dictOrderSpec : ChangeSpec := { name := "dictOrder", fn := fun _ => fun
  | [d1, d2] => { results := [.lit (.bool true)], args := [d1, d2] }
  | _ => none }
def dictOrderRow : OpenClaim := { program := "ytadenjdkknakgaa", sum := "ea1c34c92d64c4a16406ddbb1b2dfce12dc54f4ccd3aef21fe3099dde41c9d0f", func := "treadwheel/treadwheellaw12.DictOrder", spec := "dictOrder", apart := false }
def DictOrderSaid : Prop := dictOrderRow.holds Try.pinned (OpenSpec.ofChange dictOrderSpec)

/-- ITS FALSE NEIGHBOUR: 'it returns false'. Refute it at one input. -/
def dictOrderWrong : ChangeSpec := { name := "dictOrder", fn := fun _ => fun
  | [d1, d2] => { results := [.lit (.bool false)], args := [d1, d2] }
  | _ => none }
def DictOrderWrongFalsely : Prop := dictOrderRow.holds Try.pinned (OpenSpec.ofChange dictOrderWrong)

/- THE SECOND FORM. 'bulk': how many values and letters a reading holds, each counted each time it is reached (what is shared counts as often as it is met; a slice's spare places count too). A statement '..UptoSaid' is the law's where the arguments, and the package variables that the reading takes, are together of bulk at most 1048576: NARROWER than '..Said'. Prove '..Said' where nothing that the law and all that it calls make is longer than what came in: it says more and counts as full. Else prove '..UptoSaid'. A law counts once. -/
mutual
def uptoBulk {H : Type} : DataW H → Nat
  | .lit (.string bytes) => bytes.length + 1
  | .lit _ => 1
  | .nil => 1
  | .ptr d => uptoBulk d + 1
  | .slice elems spare => uptoBulkAll elems + uptoBulkAll spare + 1
  | .agg parts => uptoBulkAll parts + 1
  | .iface _ d => uptoBulk d + 1
  | .map entries => uptoBulkEntries entries + 1
  | .held _ => 1
def uptoBulkAll {H : Type} : List (DataW H) → Nat
  | [] => 0
  | d :: r => uptoBulk d + uptoBulkAll r
def uptoBulkEntries {H : Type} : List (Lit × DataW H) → Nat
  | [] => 0
  | x :: r => uptoBulkEntry x + uptoBulkEntries r
def uptoBulkEntry {H : Type} : Lit × DataW H → Nat
  | (.string bytes, d) => bytes.length + uptoBulk d + 1
  | (_, d) => uptoBulk d + 1
 end
def uptoSmall : (H : Type) → List (DataW H) → Bool := fun _ ds => decide (uptoBulkAll ds ≤ 1048576)
def OpenSpec.upto (s : _root_.Go.ChangeSpec) : _root_.Go.OpenSpec := { _root_.Go.OpenSpec.ofChange s with cond := some uptoSmall }

/-- 'treadwheellaw12.DictNumbers', WHERE WHAT IT READS IS OF BULK AT MOST 1048576: true; the input reads as it did. -/
def dictNumbersUptoRow : OpenClaim := { program := "ytadenjdkknakgaa", sum := "ea1c34c92d64c4a16406ddbb1b2dfce12dc54f4ccd3aef21fe3099dde41c9d0f", func := "treadwheel/treadwheellaw12.DictNumbers", spec := "dictNumbers", apart := false, narrowed := true }
def DictNumbersUptoSaid : Prop := dictNumbersUptoRow.holds Try.pinned (OpenSpec.upto dictNumbersSpec)

/-- 'treadwheellaw12.DictTells', WHERE WHAT IT READS IS OF BULK AT MOST 1048576: true; the input reads as it did. -/
def dictTellsUptoRow : OpenClaim := { program := "ytadenjdkknakgaa", sum := "ea1c34c92d64c4a16406ddbb1b2dfce12dc54f4ccd3aef21fe3099dde41c9d0f", func := "treadwheel/treadwheellaw12.DictTells", spec := "dictTells", apart := false, narrowed := true }
def DictTellsUptoSaid : Prop := dictTellsUptoRow.holds Try.pinned (OpenSpec.upto dictTellsSpec)

/-- 'treadwheellaw12.DictBounded', WHERE WHAT IT READS IS OF BULK AT MOST 1048576: true; the input reads as it did. -/
def dictBoundedUptoRow : OpenClaim := { program := "ytadenjdkknakgaa", sum := "ea1c34c92d64c4a16406ddbb1b2dfce12dc54f4ccd3aef21fe3099dde41c9d0f", func := "treadwheel/treadwheellaw12.DictBounded", spec := "dictBounded", apart := false, narrowed := true }
def DictBoundedUptoSaid : Prop := dictBoundedUptoRow.holds Try.pinned (OpenSpec.upto dictBoundedSpec)

/-- 'treadwheellaw12.DictOrder', WHERE WHAT IT READS IS OF BULK AT MOST 1048576: true; the input reads as it did. -/
def dictOrderUptoRow : OpenClaim := { program := "ytadenjdkknakgaa", sum := "ea1c34c92d64c4a16406ddbb1b2dfce12dc54f4ccd3aef21fe3099dde41c9d0f", func := "treadwheel/treadwheellaw12.DictOrder", spec := "dictOrder", apart := false, narrowed := true }
def DictOrderUptoSaid : Prop := dictOrderUptoRow.holds Try.pinned (OpenSpec.upto dictOrderSpec)

end Rows
end Go.Proofs.Ytadenjdkknakgaa
