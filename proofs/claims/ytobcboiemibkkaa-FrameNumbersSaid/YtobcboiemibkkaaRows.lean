/-
  No cell of these rows narrows 'for every input' (looked for: loops, veiled, ifaces, maps, wideKeys, modest, calm, conditions, laid).
  DERIVED. THE GIVEN ROWS OF THIS SEAT. 5 by the template 'for every input the law returns true; each argument reads behind the call as it read before'; 0 by the template 'total and deterministic' (their statements: YtobcboiemibkkaaTotals.lean).
  GIVEN WITH THE SEED: the statements are not yours to turn. If you find one false, say at which input.
  Laid BY PROGRAM, IN A SANDBOX (cutbox-rows.mjs): the forced cells as the released guide's own fill.sh prints them over the translation bec12b630e06c813… (all of the seat's roots in one cut). By AI agents, Wed Nov 11 2026. No macro, syntax, notation, axiom, sorry.
-/
import Derived.Test.YtobcboiemibkkaaChecked
import GoSem.Claim
import GoSem.ClaimJoined
import GoSem.ClaimMapViews
import Derived.JoinedTies
import Derived.KernelRfl
namespace Go.Proofs.Ytobcboiemibkkaa
/- THE CELL 'sum', in the pinned program and in every row, IS THE sha256 OF THE DUMP (.gsa) THAT YtobcboiemibkkaaProg.lean LOADS. Nothing in Lean hashes anything: it is a label: what it is worth is what the hold of that sum in a sandbox is worth. -/
noncomputable def Try.pinned : Pinned := { name := "ytobcboiemibkkaa", sum := "bec12b630e06c813c21da5972224344338c0ae38d484eae9bd4f03d403e17fbd", checked := Try.checked }
namespace Rows
def none {H : Type} : Left H := { results := [], args := [] }

/-- 'treadwheellaw19.FrameNumbers': WHATEVER THE INPUT: true; the input reads as it did. -/
def frameNumbersSpec : ChangeSpec := { name := "frameNumbers", fn := fun _ => fun
  | [] => { results := [.lit (.bool true)], args := [] }
  | _ => none }
def frameNumbersRow : OpenClaim := { program := "ytobcboiemibkkaa", sum := "bec12b630e06c813c21da5972224344338c0ae38d484eae9bd4f03d403e17fbd", func := "treadwheel/treadwheellaw19.FrameNumbers", spec := "frameNumbers", apart := false }
def FrameNumbersSaid : Prop := frameNumbersRow.holds Try.pinned (OpenSpec.ofChange frameNumbersSpec)

/-- ITS FALSE NEIGHBOUR: 'it returns false'. Refute it at one input. -/
def frameNumbersWrong : ChangeSpec := { name := "frameNumbers", fn := fun _ => fun
  | [] => { results := [.lit (.bool false)], args := [] }
  | _ => none }
def FrameNumbersWrongFalsely : Prop := frameNumbersRow.holds Try.pinned (OpenSpec.ofChange frameNumbersWrong)

/-- 'treadwheellaw19.FramePlays': WHATEVER THE INPUT: true; the input reads as it did. -/
def framePlaysSpec : ChangeSpec := { name := "framePlays", fn := fun _ => fun
  | [d] => { results := [.lit (.bool true)], args := [d] }
  | _ => none }
def framePlaysRow : OpenClaim := { program := "ytobcboiemibkkaa", sum := "bec12b630e06c813c21da5972224344338c0ae38d484eae9bd4f03d403e17fbd", func := "treadwheel/treadwheellaw19.FramePlays", spec := "framePlays", apart := false }
def FramePlaysSaid : Prop := framePlaysRow.holds Try.pinned (OpenSpec.ofChange framePlaysSpec)

/-- ITS FALSE NEIGHBOUR: 'it returns false'. Refute it at one input. -/
def framePlaysWrong : ChangeSpec := { name := "framePlays", fn := fun _ => fun
  | [d] => { results := [.lit (.bool false)], args := [d] }
  | _ => none }
def FramePlaysWrongFalsely : Prop := framePlaysRow.holds Try.pinned (OpenSpec.ofChange framePlaysWrong)

/-- 'treadwheellaw19.FrameSerials': WHATEVER THE INPUT: true; the input reads as it did. -/
def frameSerialsSpec : ChangeSpec := { name := "frameSerials", fn := fun _ => fun
  | [d] => { results := [.lit (.bool true)], args := [d] }
  | _ => none }
def frameSerialsRow : OpenClaim := { program := "ytobcboiemibkkaa", sum := "bec12b630e06c813c21da5972224344338c0ae38d484eae9bd4f03d403e17fbd", func := "treadwheel/treadwheellaw19.FrameSerials", spec := "frameSerials", apart := false }
def FrameSerialsSaid : Prop := frameSerialsRow.holds Try.pinned (OpenSpec.ofChange frameSerialsSpec)

/-- ITS FALSE NEIGHBOUR: 'it returns false'. Refute it at one input. -/
def frameSerialsWrong : ChangeSpec := { name := "frameSerials", fn := fun _ => fun
  | [d] => { results := [.lit (.bool false)], args := [d] }
  | _ => none }
def FrameSerialsWrongFalsely : Prop := frameSerialsRow.holds Try.pinned (OpenSpec.ofChange frameSerialsWrong)

/-- 'treadwheellaw19.FrameStacks': WHATEVER THE INPUT: true; the input reads as it did. -/
def frameStacksSpec : ChangeSpec := { name := "frameStacks", fn := fun _ => fun
  | [d1, d2] => { results := [.lit (.bool true)], args := [d1, d2] }
  | _ => none }
def frameStacksRow : OpenClaim := { program := "ytobcboiemibkkaa", sum := "bec12b630e06c813c21da5972224344338c0ae38d484eae9bd4f03d403e17fbd", func := "treadwheel/treadwheellaw19.FrameStacks", spec := "frameStacks", apart := false }
def FrameStacksSaid : Prop := frameStacksRow.holds Try.pinned (OpenSpec.ofChange frameStacksSpec)

/-- ITS FALSE NEIGHBOUR: 'it returns false'. Refute it at one input. -/
def frameStacksWrong : ChangeSpec := { name := "frameStacks", fn := fun _ => fun
  | [d1, d2] => { results := [.lit (.bool false)], args := [d1, d2] }
  | _ => none }
def FrameStacksWrongFalsely : Prop := frameStacksRow.holds Try.pinned (OpenSpec.ofChange frameStacksWrong)

/-- 'treadwheellaw19.FrameSlots': WHATEVER THE INPUT: true; the input reads as it did. -/
def frameSlotsSpec : ChangeSpec := { name := "frameSlots", fn := fun _ => fun
  | [d1, d2] => { results := [.lit (.bool true)], args := [d1, d2] }
  | _ => none }
def frameSlotsRow : OpenClaim := { program := "ytobcboiemibkkaa", sum := "bec12b630e06c813c21da5972224344338c0ae38d484eae9bd4f03d403e17fbd", func := "treadwheel/treadwheellaw19.FrameSlots", spec := "frameSlots", apart := false }
def FrameSlotsSaid : Prop := frameSlotsRow.holds Try.pinned (OpenSpec.ofChange frameSlotsSpec)

/-- ITS FALSE NEIGHBOUR: 'it returns false'. Refute it at one input. -/
def frameSlotsWrong : ChangeSpec := { name := "frameSlots", fn := fun _ => fun
  | [d1, d2] => { results := [.lit (.bool false)], args := [d1, d2] }
  | _ => none }
def FrameSlotsWrongFalsely : Prop := frameSlotsRow.holds Try.pinned (OpenSpec.ofChange frameSlotsWrong)

/- THE SECOND FORM. 'bulk': how many values and letters a reading holds, each counted each time it is reached (what is shared counts as often as it is met; a slice's spare places count too). A statement '..UptoSaid' is the law's where the arguments, and the package variables that the reading takes, are together of bulk at most 1048576: NARROWER than '..Said'. Prove '..Said' where nothing that the law and all that it calls make is longer than what came in: it says more and counts as full. Else prove '..UptoSaid'. A law counts once. -/
mutual
def uptoBulk {H : Type} : DataW H → Nat
  | .lit (.string bytes) => bytes.length + 1
  | .lit _ => 1
  | .nil => 1
  | .ptr d => uptoBulk d + 1
  | .slice elems spare => uptoBulkAll elems + uptoBulkAll spare + 1
  | .agg parts => uptoBulkAll parts + 1
  | .iface _ d => uptoBulk d + 1
  | .map entries => uptoBulkEntries entries + 1
  | .held _ => 1
def uptoBulkAll {H : Type} : List (DataW H) → Nat
  | [] => 0
  | d :: r => uptoBulk d + uptoBulkAll r
def uptoBulkEntries {H : Type} : List (Lit × DataW H) → Nat
  | [] => 0
  | x :: r => uptoBulkEntry x + uptoBulkEntries r
def uptoBulkEntry {H : Type} : Lit × DataW H → Nat
  | (.string bytes, d) => bytes.length + uptoBulk d + 1
  | (_, d) => uptoBulk d + 1
 end
def uptoSmall : (H : Type) → List (DataW H) → Bool := fun _ ds => decide (uptoBulkAll ds ≤ 1048576)
def OpenSpec.upto (s : _root_.Go.ChangeSpec) : _root_.Go.OpenSpec := { _root_.Go.OpenSpec.ofChange s with cond := some uptoSmall }

/-- 'treadwheellaw19.FrameNumbers', WHERE WHAT IT READS IS OF BULK AT MOST 1048576: true; the input reads as it did. -/
def frameNumbersUptoRow : OpenClaim := { program := "ytobcboiemibkkaa", sum := "bec12b630e06c813c21da5972224344338c0ae38d484eae9bd4f03d403e17fbd", func := "treadwheel/treadwheellaw19.FrameNumbers", spec := "frameNumbers", apart := false, narrowed := true }
def FrameNumbersUptoSaid : Prop := frameNumbersUptoRow.holds Try.pinned (OpenSpec.upto frameNumbersSpec)

/-- 'treadwheellaw19.FramePlays', WHERE WHAT IT READS IS OF BULK AT MOST 1048576: true; the input reads as it did. -/
def framePlaysUptoRow : OpenClaim := { program := "ytobcboiemibkkaa", sum := "bec12b630e06c813c21da5972224344338c0ae38d484eae9bd4f03d403e17fbd", func := "treadwheel/treadwheellaw19.FramePlays", spec := "framePlays", apart := false, narrowed := true }
def FramePlaysUptoSaid : Prop := framePlaysUptoRow.holds Try.pinned (OpenSpec.upto framePlaysSpec)

/-- 'treadwheellaw19.FrameSerials', WHERE WHAT IT READS IS OF BULK AT MOST 1048576: true; the input reads as it did. -/
def frameSerialsUptoRow : OpenClaim := { program := "ytobcboiemibkkaa", sum := "bec12b630e06c813c21da5972224344338c0ae38d484eae9bd4f03d403e17fbd", func := "treadwheel/treadwheellaw19.FrameSerials", spec := "frameSerials", apart := false, narrowed := true }
def FrameSerialsUptoSaid : Prop := frameSerialsUptoRow.holds Try.pinned (OpenSpec.upto frameSerialsSpec)

/-- 'treadwheellaw19.FrameStacks', WHERE WHAT IT READS IS OF BULK AT MOST 1048576: true; the input reads as it did. -/
def frameStacksUptoRow : OpenClaim := { program := "ytobcboiemibkkaa", sum := "bec12b630e06c813c21da5972224344338c0ae38d484eae9bd4f03d403e17fbd", func := "treadwheel/treadwheellaw19.FrameStacks", spec := "frameStacks", apart := false, narrowed := true }
def FrameStacksUptoSaid : Prop := frameStacksUptoRow.holds Try.pinned (OpenSpec.upto frameStacksSpec)

/-- 'treadwheellaw19.FrameSlots', WHERE WHAT IT READS IS OF BULK AT MOST 1048576: true; the input reads as it did. -/
def frameSlotsUptoRow : OpenClaim := { program := "ytobcboiemibkkaa", sum := "bec12b630e06c813c21da5972224344338c0ae38d484eae9bd4f03d403e17fbd", func := "treadwheel/treadwheellaw19.FrameSlots", spec := "frameSlots", apart := false, narrowed := true }
def FrameSlotsUptoSaid : Prop := frameSlotsUptoRow.holds Try.pinned (OpenSpec.upto frameSlotsSpec)

end Rows
end Go.Proofs.Ytobcboiemibkkaa
