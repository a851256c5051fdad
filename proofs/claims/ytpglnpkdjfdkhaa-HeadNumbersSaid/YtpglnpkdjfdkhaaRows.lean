/-
  No cell of these rows narrows 'for every input' (looked for: loops, veiled, ifaces, maps, wideKeys, modest, calm, conditions, laid).
  DERIVED. THE GIVEN ROWS OF THIS SEAT. 5 by the template 'for every input the law returns true; each argument reads behind the call as it read before'; 0 by the template 'total and deterministic' (their statements: YtpglnpkdjfdkhaaTotals.lean).
  GIVEN WITH THE SEED: the statements are not yours to turn. If you find one false, say at which input.
  Laid BY PROGRAM, IN A SANDBOX (cutbox-rows.mjs): the forced cells as the released guide's own fill.sh prints them over the translation fa9444cef8f4176f… (all of the seat's roots in one cut). By AI agents, Wed Nov 11 2026. No macro, syntax, notation, axiom, sorry.
-/
import Derived.Test.YtpglnpkdjfdkhaaChecked
import GoSem.Claim
import GoSem.ClaimJoined
import GoSem.ClaimMapViews
import Derived.JoinedTies
import Derived.KernelRfl
namespace Go.Proofs.Ytpglnpkdjfdkhaa
/- THE CELL 'sum', in the pinned program and in every row, IS THE sha256 OF THE DUMP (.gsa) THAT YtpglnpkdjfdkhaaProg.lean LOADS. Nothing in Lean hashes anything: it is a label: what it is worth is what the hold of that sum in a sandbox is worth. -/
noncomputable def Try.pinned : Pinned := { name := "ytpglnpkdjfdkhaa", sum := "fa9444cef8f4176f915d9b44bccf2cf0d2e7a3c546153bdbebbf878ed8285da2", checked := Try.checked }
namespace Rows
def none {H : Type} : Left H := { results := [], args := [] }

/-- 'treadwheellaw2.HeadNumbers': WHATEVER THE INPUT: true; the input reads as it did. -/
def headNumbersSpec : ChangeSpec := { name := "headNumbers", fn := fun _ => fun
  | [] => { results := [.lit (.bool true)], args := [] }
  | _ => none }
def headNumbersRow : OpenClaim := { program := "ytpglnpkdjfdkhaa", sum := "fa9444cef8f4176f915d9b44bccf2cf0d2e7a3c546153bdbebbf878ed8285da2", func := "treadwheel/treadwheellaw2.HeadNumbers", spec := "headNumbers", apart := false }
def HeadNumbersSaid : Prop := headNumbersRow.holds Try.pinned (OpenSpec.ofChange headNumbersSpec)

/-- ITS FALSE NEIGHBOUR: 'it returns false'. Refute it at one input. -/
def headNumbersWrong : ChangeSpec := { name := "headNumbers", fn := fun _ => fun
  | [] => { results := [.lit (.bool false)], args := [] }
  | _ => none }
def HeadNumbersWrongFalsely : Prop := headNumbersRow.holds Try.pinned (OpenSpec.ofChange headNumbersWrong)

/-- 'treadwheellaw2.HeadTells': WHATEVER THE INPUT: true; the input reads as it did. -/
def headTellsSpec : ChangeSpec := { name := "headTells", fn := fun _ => fun
  | [d1, d2, d3, d4] => { results := [.lit (.bool true)], args := [d1, d2, d3, d4] }
  | _ => none }
def headTellsRow : OpenClaim := { program := "ytpglnpkdjfdkhaa", sum := "fa9444cef8f4176f915d9b44bccf2cf0d2e7a3c546153bdbebbf878ed8285da2", func := "treadwheel/treadwheellaw2.HeadTells", spec := "headTells", apart := false }
def HeadTellsSaid : Prop := headTellsRow.holds Try.pinned (OpenSpec.ofChange headTellsSpec)

/-- ITS FALSE NEIGHBOUR: 'it returns false'. Refute it at one input. -/
def headTellsWrong : ChangeSpec := { name := "headTells", fn := fun _ => fun
  | [d1, d2, d3, d4] => { results := [.lit (.bool false)], args := [d1, d2, d3, d4] }
  | _ => none }
def HeadTellsWrongFalsely : Prop := headTellsRow.holds Try.pinned (OpenSpec.ofChange headTellsWrong)

/-- 'treadwheellaw2.HeadBack': WHATEVER THE INPUT: true; the input reads as it did. -/
def headBackSpec : ChangeSpec := { name := "headBack", fn := fun _ => fun
  | [d1, d2, d3, d4, d5, d6] => { results := [.lit (.bool true)], args := [d1, d2, d3, d4, d5, d6] }
  | _ => none }
def headBackRow : OpenClaim := { program := "ytpglnpkdjfdkhaa", sum := "fa9444cef8f4176f915d9b44bccf2cf0d2e7a3c546153bdbebbf878ed8285da2", func := "treadwheel/treadwheellaw2.HeadBack", spec := "headBack", apart := false }
def HeadBackSaid : Prop := headBackRow.holds Try.pinned (OpenSpec.ofChange headBackSpec)

/-- ITS FALSE NEIGHBOUR: 'it returns false'. Refute it at one input. -/
def headBackWrong : ChangeSpec := { name := "headBack", fn := fun _ => fun
  | [d1, d2, d3, d4, d5, d6] => { results := [.lit (.bool false)], args := [d1, d2, d3, d4, d5, d6] }
  | _ => none }
def HeadBackWrongFalsely : Prop := headBackRow.holds Try.pinned (OpenSpec.ofChange headBackWrong)

/-- 'treadwheellaw2.HeadFields': WHATEVER THE INPUT: true; the input reads as it did. -/
def headFieldsSpec : ChangeSpec := { name := "headFields", fn := fun _ => fun
  | [d1, d2, d3, d4] => { results := [.lit (.bool true)], args := [d1, d2, d3, d4] }
  | _ => none }
def headFieldsRow : OpenClaim := { program := "ytpglnpkdjfdkhaa", sum := "fa9444cef8f4176f915d9b44bccf2cf0d2e7a3c546153bdbebbf878ed8285da2", func := "treadwheel/treadwheellaw2.HeadFields", spec := "headFields", apart := false }
def HeadFieldsSaid : Prop := headFieldsRow.holds Try.pinned (OpenSpec.ofChange headFieldsSpec)

/-- ITS FALSE NEIGHBOUR: 'it returns false'. Refute it at one input. -/
def headFieldsWrong : ChangeSpec := { name := "headFields", fn := fun _ => fun
  | [d1, d2, d3, d4] => { results := [.lit (.bool false)], args := [d1, d2, d3, d4] }
  | _ => none }
def HeadFieldsWrongFalsely : Prop := headFieldsRow.holds Try.pinned (OpenSpec.ofChange headFieldsWrong)

/-- 'treadwheellaw2.HeadApart': WHATEVER THE INPUT: true; the input reads as it did. -/
def headApartSpec : ChangeSpec := { name := "headApart", fn := fun _ => fun
  | [d] => { results := [.lit (.bool true)], args := [d] }
  | _ => none }
def headApartRow : OpenClaim := { program := "ytpglnpkdjfdkhaa", sum := "fa9444cef8f4176f915d9b44bccf2cf0d2e7a3c546153bdbebbf878ed8285da2", func := "treadwheel/treadwheellaw2.HeadApart", spec := "headApart", apart := false }
def HeadApartSaid : Prop := headApartRow.holds Try.pinned (OpenSpec.ofChange headApartSpec)

/-- ITS FALSE NEIGHBOUR: 'it returns false'. Refute it at one input. -/
def headApartWrong : ChangeSpec := { name := "headApart", fn := fun _ => fun
  | [d] => { results := [.lit (.bool false)], args := [d] }
  | _ => none }
def HeadApartWrongFalsely : Prop := headApartRow.holds Try.pinned (OpenSpec.ofChange headApartWrong)

/- THE SECOND FORM. 'bulk': how many values and letters a reading holds, each counted each time it is reached (what is shared counts as often as it is met; a slice's spare places count too). A statement '..UptoSaid' is the law's where the arguments, and the package variables that the reading takes, are together of bulk at most 1048576: NARROWER than '..Said'. Prove '..Said' where nothing that the law and all that it calls make is longer than what came in: it says more and counts as full. Else prove '..UptoSaid'. A law counts once. -/
mutual
def uptoBulk {H : Type} : DataW H → Nat
  | .lit (.string bytes) => bytes.length + 1
  | .lit _ => 1
  | .nil => 1
  | .ptr d => uptoBulk d + 1
  | .slice elems spare => uptoBulkAll elems + uptoBulkAll spare + 1
  | .agg parts => uptoBulkAll parts + 1
  | .iface _ d => uptoBulk d + 1
  | .map entries => uptoBulkEntries entries + 1
  | .held _ => 1
def uptoBulkAll {H : Type} : List (DataW H) → Nat
  | [] => 0
  | d :: r => uptoBulk d + uptoBulkAll r
def uptoBulkEntries {H : Type} : List (Lit × DataW H) → Nat
  | [] => 0
  | x :: r => uptoBulkEntry x + uptoBulkEntries r
def uptoBulkEntry {H : Type} : Lit × DataW H → Nat
  | (.string bytes, d) => bytes.length + uptoBulk d + 1
  | (_, d) => uptoBulk d + 1
 end
def uptoSmall : (H : Type) → List (DataW H) → Bool := fun _ ds => decide (uptoBulkAll ds ≤ 1048576)
def OpenSpec.upto (s : _root_.Go.ChangeSpec) : _root_.Go.OpenSpec := { _root_.Go.OpenSpec.ofChange s with cond := some uptoSmall }

/-- 'treadwheellaw2.HeadNumbers', WHERE WHAT IT READS IS OF BULK AT MOST 1048576: true; the input reads as it did. -/
def headNumbersUptoRow : OpenClaim := { program := "ytpglnpkdjfdkhaa", sum := "fa9444cef8f4176f915d9b44bccf2cf0d2e7a3c546153bdbebbf878ed8285da2", func := "treadwheel/treadwheellaw2.HeadNumbers", spec := "headNumbers", apart := false, narrowed := true }
def HeadNumbersUptoSaid : Prop := headNumbersUptoRow.holds Try.pinned (OpenSpec.upto headNumbersSpec)

/-- 'treadwheellaw2.HeadTells', WHERE WHAT IT READS IS OF BULK AT MOST 1048576: true; the input reads as it did. -/
def headTellsUptoRow : OpenClaim := { program := "ytpglnpkdjfdkhaa", sum := "fa9444cef8f4176f915d9b44bccf2cf0d2e7a3c546153bdbebbf878ed8285da2", func := "treadwheel/treadwheellaw2.HeadTells", spec := "headTells", apart := false, narrowed := true }
def HeadTellsUptoSaid : Prop := headTellsUptoRow.holds Try.pinned (OpenSpec.upto headTellsSpec)

/-- 'treadwheellaw2.HeadBack', WHERE WHAT IT READS IS OF BULK AT MOST 1048576: true; the input reads as it did. -/
def headBackUptoRow : OpenClaim := { program := "ytpglnpkdjfdkhaa", sum := "fa9444cef8f4176f915d9b44bccf2cf0d2e7a3c546153bdbebbf878ed8285da2", func := "treadwheel/treadwheellaw2.HeadBack", spec := "headBack", apart := false, narrowed := true }
def HeadBackUptoSaid : Prop := headBackUptoRow.holds Try.pinned (OpenSpec.upto headBackSpec)

/-- 'treadwheellaw2.HeadFields', WHERE WHAT IT READS IS OF BULK AT MOST 1048576: true; the input reads as it did. -/
def headFieldsUptoRow : OpenClaim := { program := "ytpglnpkdjfdkhaa", sum := "fa9444cef8f4176f915d9b44bccf2cf0d2e7a3c546153bdbebbf878ed8285da2", func := "treadwheel/treadwheellaw2.HeadFields", spec := "headFields", apart := false, narrowed := true }
def HeadFieldsUptoSaid : Prop := headFieldsUptoRow.holds Try.pinned (OpenSpec.upto headFieldsSpec)

/-- 'treadwheellaw2.HeadApart', WHERE WHAT IT READS IS OF BULK AT MOST 1048576: true; the input reads as it did. -/
def headApartUptoRow : OpenClaim := { program := "ytpglnpkdjfdkhaa", sum := "fa9444cef8f4176f915d9b44bccf2cf0d2e7a3c546153bdbebbf878ed8285da2", func := "treadwheel/treadwheellaw2.HeadApart", spec := "headApart", apart := false, narrowed := true }
def HeadApartUptoSaid : Prop := headApartUptoRow.holds Try.pinned (OpenSpec.upto headApartSpec)

end Rows
end Go.Proofs.Ytpglnpkdjfdkhaa
