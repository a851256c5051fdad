/-
  No cell of these rows narrows 'for every input' (looked for: loops, veiled, ifaces, maps, wideKeys, modest, calm, conditions, laid).
  DERIVED. THE GIVEN ROWS OF THIS SEAT. 5 by the template 'for every input the law returns true; each argument reads behind the call as it read before'; 0 by the template 'total and deterministic' (their statements: YtkofebojphfefaaTotals.lean).
  GIVEN WITH THE SEED: the statements are not yours to turn. If you find one false, say at which input.
  Laid BY PROGRAM, IN A SANDBOX (cutbox-rows.mjs): the forced cells as the released guide's own fill.sh prints them over the translation 3775e7c32395c3f3… (all of the seat's roots in one cut). By AI agents, Wed Nov 11 2026. No macro, syntax, notation, axiom, sorry.
-/
import Derived.Test.YtkofebojphfefaaChecked
import GoSem.Claim
import GoSem.ClaimJoined
import GoSem.ClaimMapViews
import Derived.JoinedTies
import Derived.KernelRfl
namespace Go.Proofs.Ytkofebojphfefaa
/- THE CELL 'sum', in the pinned program and in every row, IS THE sha256 OF THE DUMP (.gsa) THAT YtkofebojphfefaaProg.lean LOADS. Nothing in Lean hashes anything: it is a label: what it is worth is what the hold of that sum in a sandbox is worth. -/
noncomputable def Try.pinned : Pinned := { name := "ytkofebojphfefaa", sum := "3775e7c32395c3f3a5cd2a913b8aa53a29a8bb65eb83dec90e1df4940956bdc1", checked := Try.checked }
namespace Rows
def none {H : Type} : Left H := { results := [], args := [] }

/-- 'treadwheellaw8.CostNumbers': WHATEVER THE INPUT: true; the input reads as it did. -/
def costNumbersSpec : ChangeSpec := { name := "costNumbers", fn := fun _ => fun
  | [] => { results := [.lit (.bool true)], args := [] }
  | _ => none }
def costNumbersRow : OpenClaim := { program := "ytkofebojphfefaa", sum := "3775e7c32395c3f3a5cd2a913b8aa53a29a8bb65eb83dec90e1df4940956bdc1", func := "treadwheel/treadwheellaw8.CostNumbers", spec := "costNumbers", apart := false }
def CostNumbersSaid : Prop := costNumbersRow.holds Try.pinned (OpenSpec.ofChange costNumbersSpec)

/-- ITS FALSE NEIGHBOUR: 'it returns false'. Refute it at one input. -/
def costNumbersWrong : ChangeSpec := { name := "costNumbers", fn := fun _ => fun
  | [] => { results := [.lit (.bool false)], args := [] }
  | _ => none }
def CostNumbersWrongFalsely : Prop := costNumbersRow.holds Try.pinned (OpenSpec.ofChange costNumbersWrong)

/-- 'treadwheellaw8.CostTells': WHATEVER THE INPUT: true; the input reads as it did. -/
def costTellsSpec : ChangeSpec := { name := "costTells", fn := fun _ => fun
  | [d1, d2, d3, d4] => { results := [.lit (.bool true)], args := [d1, d2, d3, d4] }
  | _ => none }
def costTellsRow : OpenClaim := { program := "ytkofebojphfefaa", sum := "3775e7c32395c3f3a5cd2a913b8aa53a29a8bb65eb83dec90e1df4940956bdc1", func := "treadwheel/treadwheellaw8.CostTells", spec := "costTells", apart := false }
def CostTellsSaid : Prop := costTellsRow.holds Try.pinned (OpenSpec.ofChange costTellsSpec)

/-- ITS FALSE NEIGHBOUR: 'it returns false'. Refute it at one input. -/
def costTellsWrong : ChangeSpec := { name := "costTells", fn := fun _ => fun
  | [d1, d2, d3, d4] => { results := [.lit (.bool false)], args := [d1, d2, d3, d4] }
  | _ => none }
def CostTellsWrongFalsely : Prop := costTellsRow.holds Try.pinned (OpenSpec.ofChange costTellsWrong)

/-- 'treadwheellaw8.CostBound': WHATEVER THE INPUT: true; the input reads as it did. -/
def costBoundSpec : ChangeSpec := { name := "costBound", fn := fun _ => fun
  | [d1, d2, d3] => { results := [.lit (.bool true)], args := [d1, d2, d3] }
  | _ => none }
def costBoundRow : OpenClaim := { program := "ytkofebojphfefaa", sum := "3775e7c32395c3f3a5cd2a913b8aa53a29a8bb65eb83dec90e1df4940956bdc1", func := "treadwheel/treadwheellaw8.CostBound", spec := "costBound", apart := false }
def CostBoundSaid : Prop := costBoundRow.holds Try.pinned (OpenSpec.ofChange costBoundSpec)

/-- ITS FALSE NEIGHBOUR: 'it returns false'. Refute it at one input. -/
def costBoundWrong : ChangeSpec := { name := "costBound", fn := fun _ => fun
  | [d1, d2, d3] => { results := [.lit (.bool false)], args := [d1, d2, d3] }
  | _ => none }
def CostBoundWrongFalsely : Prop := costBoundRow.holds Try.pinned (OpenSpec.ofChange costBoundWrong)

/-- 'treadwheellaw8.CostParts': WHATEVER THE INPUT: true; the input reads as it did. -/
def costPartsSpec : ChangeSpec := { name := "costParts", fn := fun _ => fun
  | [d] => { results := [.lit (.bool true)], args := [d] }
  | _ => none }
def costPartsRow : OpenClaim := { program := "ytkofebojphfefaa", sum := "3775e7c32395c3f3a5cd2a913b8aa53a29a8bb65eb83dec90e1df4940956bdc1", func := "treadwheel/treadwheellaw8.CostParts", spec := "costParts", apart := false }
def CostPartsSaid : Prop := costPartsRow.holds Try.pinned (OpenSpec.ofChange costPartsSpec)

/-- ITS FALSE NEIGHBOUR: 'it returns false'. Refute it at one input. -/
def costPartsWrong : ChangeSpec := { name := "costParts", fn := fun _ => fun
  | [d] => { results := [.lit (.bool false)], args := [d] }
  | _ => none }
def CostPartsWrongFalsely : Prop := costPartsRow.holds Try.pinned (OpenSpec.ofChange costPartsWrong)

/-- 'treadwheellaw8.CostSmall': WHATEVER THE INPUT: true; the input reads as it did. -/
def costSmallSpec : ChangeSpec := { name := "costSmall", fn := fun _ => fun
  | [d1, d2] => { results := [.lit (.bool true)], args := [d1, d2] }
  | _ => none }
def costSmallRow : OpenClaim := { program := "ytkofebojphfefaa", sum := "3775e7c32395c3f3a5cd2a913b8aa53a29a8bb65eb83dec90e1df4940956bdc1", func := "treadwheel/treadwheellaw8.CostSmall", spec := "costSmall", apart := false }
def CostSmallSaid : Prop := costSmallRow.holds Try.pinned (OpenSpec.ofChange costSmallSpec)

/-- ITS FALSE NEIGHBOUR: 'it returns false'. Refute it at one input. -/
def costSmallWrong : ChangeSpec := { name := "costSmall", fn := fun _ => fun
  | [d1, d2] => { results := [.lit (.bool false)], args := [d1, d2] }
  | _ => none }
def CostSmallWrongFalsely : Prop := costSmallRow.holds Try.pinned (OpenSpec.ofChange costSmallWrong)

/- THE SECOND FORM. 'bulk': how many values and letters a reading holds, each counted each time it is reached (what is shared counts as often as it is met; a slice's spare places count too). A statement '..UptoSaid' is the law's where the arguments, and the package variables that the reading takes, are together of bulk at most 1048576: NARROWER than '..Said'. Prove '..Said' where nothing that the law and all that it calls make is longer than what came in: it says more and counts as full. Else prove '..UptoSaid'. A law counts once. -/
mutual
def uptoBulk {H : Type} : DataW H → Nat
  | .lit (.string bytes) => bytes.length + 1
  | .lit _ => 1
  | .nil => 1
  | .ptr d => uptoBulk d + 1
  | .slice elems spare => uptoBulkAll elems + uptoBulkAll spare + 1
  | .agg parts => uptoBulkAll parts + 1
  | .iface _ d => uptoBulk d + 1
  | .map entries => uptoBulkEntries entries + 1
  | .held _ => 1
def uptoBulkAll {H : Type} : List (DataW H) → Nat
  | [] => 0
  | d :: r => uptoBulk d + uptoBulkAll r
def uptoBulkEntries {H : Type} : List (Lit × DataW H) → Nat
  | [] => 0
  | x :: r => uptoBulkEntry x + uptoBulkEntries r
def uptoBulkEntry {H : Type} : Lit × DataW H → Nat
  | (.string bytes, d) => bytes.length + uptoBulk d + 1
  | (_, d) => uptoBulk d + 1
 end
def uptoSmall : (H : Type) → List (DataW H) → Bool := fun _ ds => decide (uptoBulkAll ds ≤ 1048576)
def OpenSpec.upto (s : _root_.Go.ChangeSpec) : _root_.Go.OpenSpec := { _root_.Go.OpenSpec.ofChange s with cond := some uptoSmall }

/-- 'treadwheellaw8.CostNumbers', WHERE WHAT IT READS IS OF BULK AT MOST 1048576: true; the input reads as it did. -/
def costNumbersUptoRow : OpenClaim := { program := "ytkofebojphfefaa", sum := "3775e7c32395c3f3a5cd2a913b8aa53a29a8bb65eb83dec90e1df4940956bdc1", func := "treadwheel/treadwheellaw8.CostNumbers", spec := "costNumbers", apart := false, narrowed := true }
def CostNumbersUptoSaid : Prop := costNumbersUptoRow.holds Try.pinned (OpenSpec.upto costNumbersSpec)

/-- 'treadwheellaw8.CostTells', WHERE WHAT IT READS IS OF BULK AT MOST 1048576: true; the input reads as it did. -/
def costTellsUptoRow : OpenClaim := { program := "ytkofebojphfefaa", sum := "3775e7c32395c3f3a5cd2a913b8aa53a29a8bb65eb83dec90e1df4940956bdc1", func := "treadwheel/treadwheellaw8.CostTells", spec := "costTells", apart := false, narrowed := true }
def CostTellsUptoSaid : Prop := costTellsUptoRow.holds Try.pinned (OpenSpec.upto costTellsSpec)

/-- 'treadwheellaw8.CostBound', WHERE WHAT IT READS IS OF BULK AT MOST 1048576: true; the input reads as it did. -/
def costBoundUptoRow : OpenClaim := { program := "ytkofebojphfefaa", sum := "3775e7c32395c3f3a5cd2a913b8aa53a29a8bb65eb83dec90e1df4940956bdc1", func := "treadwheel/treadwheellaw8.CostBound", spec := "costBound", apart := false, narrowed := true }
def CostBoundUptoSaid : Prop := costBoundUptoRow.holds Try.pinned (OpenSpec.upto costBoundSpec)

/-- 'treadwheellaw8.CostParts', WHERE WHAT IT READS IS OF BULK AT MOST 1048576: true; the input reads as it did. -/
def costPartsUptoRow : OpenClaim := { program := "ytkofebojphfefaa", sum := "3775e7c32395c3f3a5cd2a913b8aa53a29a8bb65eb83dec90e1df4940956bdc1", func := "treadwheel/treadwheellaw8.CostParts", spec := "costParts", apart := false, narrowed := true }
def CostPartsUptoSaid : Prop := costPartsUptoRow.holds Try.pinned (OpenSpec.upto costPartsSpec)

/-- 'treadwheellaw8.CostSmall', WHERE WHAT IT READS IS OF BULK AT MOST 1048576: true; the input reads as it did. -/
def costSmallUptoRow : OpenClaim := { program := "ytkofebojphfefaa", sum := "3775e7c32395c3f3a5cd2a913b8aa53a29a8bb65eb83dec90e1df4940956bdc1", func := "treadwheel/treadwheellaw8.CostSmall", spec := "costSmall", apart := false, narrowed := true }
def CostSmallUptoSaid : Prop := costSmallUptoRow.holds Try.pinned (OpenSpec.upto costSmallSpec)

end Rows
end Go.Proofs.Ytkofebojphfefaa
