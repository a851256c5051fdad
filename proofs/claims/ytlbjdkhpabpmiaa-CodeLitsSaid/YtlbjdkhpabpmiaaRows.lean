/-
  No cell of these rows narrows 'for every input' (looked for: loops, veiled, ifaces, maps, wideKeys, modest, calm, conditions, laid).
  DERIVED. THE GIVEN ROWS OF THIS SEAT. 5 by the template 'for every input the law returns true; each argument reads behind the call as it read before'; 0 by the template 'total and deterministic' (their statements: YtlbjdkhpabpmiaaTotals.lean).
  GIVEN WITH THE SEED: the statements are not yours to turn. If you find one false, say at which input.
  Laid BY PROGRAM, IN A SANDBOX (cutbox-rows.mjs): the forced cells as the released guide's own fill.sh prints them over the translation deb355a680764f6b… (all of the seat's roots in one cut). By AI agents, Wed Nov 11 2026. No macro, syntax, notation, axiom, sorry.
-/
import Derived.Test.YtlbjdkhpabpmiaaChecked
import GoSem.Claim
import GoSem.ClaimJoined
import GoSem.ClaimMapViews
import Derived.JoinedTies
import Derived.KernelRfl
namespace Go.Proofs.Ytlbjdkhpabpmiaa
/- THE CELL 'sum', in the pinned program and in every row, IS THE sha256 OF THE DUMP (.gsa) THAT YtlbjdkhpabpmiaaProg.lean LOADS. Nothing in Lean hashes anything: it is a label: what it is worth is what the hold of that sum in a sandbox is worth. -/
noncomputable def Try.pinned : Pinned := { name := "ytlbjdkhpabpmiaa", sum := "deb355a680764f6bea825a4d29886585cde4025de59fa34ae7ddcbac55facdf6", checked := Try.checked }
namespace Rows
def none {H : Type} : Left H := { results := [], args := [] }

/-- 'treadwheellaw14.CodeNumbers': WHATEVER THE INPUT: true; the input reads as it did. -/
def codeNumbersSpec : ChangeSpec := { name := "codeNumbers", fn := fun _ => fun
  | [] => { results := [.lit (.bool true)], args := [] }
  | _ => none }
def codeNumbersRow : OpenClaim := { program := "ytlbjdkhpabpmiaa", sum := "deb355a680764f6bea825a4d29886585cde4025de59fa34ae7ddcbac55facdf6", func := "treadwheel/treadwheellaw14.CodeNumbers", spec := "codeNumbers", unfollowed := true, recurses := true, apart := false }
def CodeNumbersSaid : Prop := codeNumbersRow.holds Try.pinned (OpenSpec.ofChange codeNumbersSpec)

/-- ITS FALSE NEIGHBOUR: 'it returns false'. Refute it at one input. -/
def codeNumbersWrong : ChangeSpec := { name := "codeNumbers", fn := fun _ => fun
  | [] => { results := [.lit (.bool false)], args := [] }
  | _ => none }
def CodeNumbersWrongFalsely : Prop := codeNumbersRow.holds Try.pinned (OpenSpec.ofChange codeNumbersWrong)

/-- 'treadwheellaw14.CodeTells': WHATEVER THE INPUT: true; the input reads as it did. -/
def codeTellsSpec : ChangeSpec := { name := "codeTells", fn := fun _ => fun
  | [d1, d2, d3, d4, d5, d6] => { results := [.lit (.bool true)], args := [d1, d2, d3, d4, d5, d6] }
  | _ => none }
def codeTellsRow : OpenClaim := { program := "ytlbjdkhpabpmiaa", sum := "deb355a680764f6bea825a4d29886585cde4025de59fa34ae7ddcbac55facdf6", func := "treadwheel/treadwheellaw14.CodeTells", spec := "codeTells", unfollowed := true, recurses := true, apart := false }
def CodeTellsSaid : Prop := codeTellsRow.holds Try.pinned (OpenSpec.ofChange codeTellsSpec)

/-- ITS FALSE NEIGHBOUR: 'it returns false'. Refute it at one input. -/
def codeTellsWrong : ChangeSpec := { name := "codeTells", fn := fun _ => fun
  | [d1, d2, d3, d4, d5, d6] => { results := [.lit (.bool false)], args := [d1, d2, d3, d4, d5, d6] }
  | _ => none }
def CodeTellsWrongFalsely : Prop := codeTellsRow.holds Try.pinned (OpenSpec.ofChange codeTellsWrong)

/-- 'treadwheellaw14.CodeBytes': WHATEVER THE INPUT: true; the input reads as it did. -/
def codeBytesSpec : ChangeSpec := { name := "codeBytes", fn := fun _ => fun
  | [d1, d2] => { results := [.lit (.bool true)], args := [d1, d2] }
  | _ => none }
def codeBytesRow : OpenClaim := { program := "ytlbjdkhpabpmiaa", sum := "deb355a680764f6bea825a4d29886585cde4025de59fa34ae7ddcbac55facdf6", func := "treadwheel/treadwheellaw14.CodeBytes", spec := "codeBytes", unfollowed := true, recurses := true, apart := false }
def CodeBytesSaid : Prop := codeBytesRow.holds Try.pinned (OpenSpec.ofChange codeBytesSpec)

/-- ITS FALSE NEIGHBOUR: 'it returns false'. Refute it at one input. -/
def codeBytesWrong : ChangeSpec := { name := "codeBytes", fn := fun _ => fun
  | [d1, d2] => { results := [.lit (.bool false)], args := [d1, d2] }
  | _ => none }
def CodeBytesWrongFalsely : Prop := codeBytesRow.holds Try.pinned (OpenSpec.ofChange codeBytesWrong)

/-- 'treadwheellaw14.CodeEnds': WHATEVER THE INPUT: true; the input reads as it did. -/
def codeEndsSpec : ChangeSpec := { name := "codeEnds", fn := fun _ => fun
  | [d1, d2, d3] => { results := [.lit (.bool true)], args := [d1, d2, d3] }
  | _ => none }
def codeEndsRow : OpenClaim := { program := "ytlbjdkhpabpmiaa", sum := "deb355a680764f6bea825a4d29886585cde4025de59fa34ae7ddcbac55facdf6", func := "treadwheel/treadwheellaw14.CodeEnds", spec := "codeEnds", unfollowed := true, recurses := true, apart := false }
def CodeEndsSaid : Prop := codeEndsRow.holds Try.pinned (OpenSpec.ofChange codeEndsSpec)

/-- ITS FALSE NEIGHBOUR: 'it returns false'. Refute it at one input. -/
def codeEndsWrong : ChangeSpec := { name := "codeEnds", fn := fun _ => fun
  | [d1, d2, d3] => { results := [.lit (.bool false)], args := [d1, d2, d3] }
  | _ => none }
def CodeEndsWrongFalsely : Prop := codeEndsRow.holds Try.pinned (OpenSpec.ofChange codeEndsWrong)

/-- 'treadwheellaw14.CodeLits': WHATEVER THE INPUT: true; the input reads as it did. -/
def codeLitsSpec : ChangeSpec := { name := "codeLits", fn := fun _ => fun
  | [d1, d2, d3] => { results := [.lit (.bool true)], args := [d1, d2, d3] }
  | _ => none }
def codeLitsRow : OpenClaim := { program := "ytlbjdkhpabpmiaa", sum := "deb355a680764f6bea825a4d29886585cde4025de59fa34ae7ddcbac55facdf6", func := "treadwheel/treadwheellaw14.CodeLits", spec := "codeLits", unfollowed := true, recurses := true, apart := false }
def CodeLitsSaid : Prop := codeLitsRow.holds Try.pinned (OpenSpec.ofChange codeLitsSpec)

/-- ITS FALSE NEIGHBOUR: 'it returns false'. Refute it at one input. -/
def codeLitsWrong : ChangeSpec := { name := "codeLits", fn := fun _ => fun
  | [d1, d2, d3] => { results := [.lit (.bool false)], args := [d1, d2, d3] }
  | _ => none }
def CodeLitsWrongFalsely : Prop := codeLitsRow.holds Try.pinned (OpenSpec.ofChange codeLitsWrong)

/- THE SECOND FORM. 'bulk': how many values and letters a reading holds, each counted each time it is reached (what is shared counts as often as it is met; a slice's spare places count too). A statement '..UptoSaid' is the law's where the arguments, and the package variables that the reading takes, are together of bulk at most 1048576: NARROWER than '..Said'. Prove '..Said' where nothing that the law and all that it calls make is longer than what came in: it says more and counts as full. Else prove '..UptoSaid'. A law counts once. -/
mutual
def uptoBulk {H : Type} : DataW H → Nat
  | .lit (.string bytes) => bytes.length + 1
  | .lit _ => 1
  | .nil => 1
  | .ptr d => uptoBulk d + 1
  | .slice elems spare => uptoBulkAll elems + uptoBulkAll spare + 1
  | .agg parts => uptoBulkAll parts + 1
  | .iface _ d => uptoBulk d + 1
  | .map entries => uptoBulkEntries entries + 1
  | .held _ => 1
def uptoBulkAll {H : Type} : List (DataW H) → Nat
  | [] => 0
  | d :: r => uptoBulk d + uptoBulkAll r
def uptoBulkEntries {H : Type} : List (Lit × DataW H) → Nat
  | [] => 0
  | x :: r => uptoBulkEntry x + uptoBulkEntries r
def uptoBulkEntry {H : Type} : Lit × DataW H → Nat
  | (.string bytes, d) => bytes.length + uptoBulk d + 1
  | (_, d) => uptoBulk d + 1
 end
def uptoSmall : (H : Type) → List (DataW H) → Bool := fun _ ds => decide (uptoBulkAll ds ≤ 1048576)
def OpenSpec.upto (s : _root_.Go.ChangeSpec) : _root_.Go.OpenSpec := { _root_.Go.OpenSpec.ofChange s with cond := some uptoSmall }

/-- 'treadwheellaw14.CodeNumbers', WHERE WHAT IT READS IS OF BULK AT MOST 1048576: true; the input reads as it did. -/
def codeNumbersUptoRow : OpenClaim := { program := "ytlbjdkhpabpmiaa", sum := "deb355a680764f6bea825a4d29886585cde4025de59fa34ae7ddcbac55facdf6", func := "treadwheel/treadwheellaw14.CodeNumbers", spec := "codeNumbers", unfollowed := true, recurses := true, apart := false, narrowed := true }
def CodeNumbersUptoSaid : Prop := codeNumbersUptoRow.holds Try.pinned (OpenSpec.upto codeNumbersSpec)

/-- 'treadwheellaw14.CodeTells', WHERE WHAT IT READS IS OF BULK AT MOST 1048576: true; the input reads as it did. -/
def codeTellsUptoRow : OpenClaim := { program := "ytlbjdkhpabpmiaa", sum := "deb355a680764f6bea825a4d29886585cde4025de59fa34ae7ddcbac55facdf6", func := "treadwheel/treadwheellaw14.CodeTells", spec := "codeTells", unfollowed := true, recurses := true, apart := false, narrowed := true }
def CodeTellsUptoSaid : Prop := codeTellsUptoRow.holds Try.pinned (OpenSpec.upto codeTellsSpec)

/-- 'treadwheellaw14.CodeBytes', WHERE WHAT IT READS IS OF BULK AT MOST 1048576: true; the input reads as it did. -/
def codeBytesUptoRow : OpenClaim := { program := "ytlbjdkhpabpmiaa", sum := "deb355a680764f6bea825a4d29886585cde4025de59fa34ae7ddcbac55facdf6", func := "treadwheel/treadwheellaw14.CodeBytes", spec := "codeBytes", unfollowed := true, recurses := true, apart := false, narrowed := true }
def CodeBytesUptoSaid : Prop := codeBytesUptoRow.holds Try.pinned (OpenSpec.upto codeBytesSpec)

/-- 'treadwheellaw14.CodeEnds', WHERE WHAT IT READS IS OF BULK AT MOST 1048576: true; the input reads as it did. -/
def codeEndsUptoRow : OpenClaim := { program := "ytlbjdkhpabpmiaa", sum := "deb355a680764f6bea825a4d29886585cde4025de59fa34ae7ddcbac55facdf6", func := "treadwheel/treadwheellaw14.CodeEnds", spec := "codeEnds", unfollowed := true, recurses := true, apart := false, narrowed := true }
def CodeEndsUptoSaid : Prop := codeEndsUptoRow.holds Try.pinned (OpenSpec.upto codeEndsSpec)

/-- 'treadwheellaw14.CodeLits', WHERE WHAT IT READS IS OF BULK AT MOST 1048576: true; the input reads as it did. -/
def codeLitsUptoRow : OpenClaim := { program := "ytlbjdkhpabpmiaa", sum := "deb355a680764f6bea825a4d29886585cde4025de59fa34ae7ddcbac55facdf6", func := "treadwheel/treadwheellaw14.CodeLits", spec := "codeLits", unfollowed := true, recurses := true, apart := false, narrowed := true }
def CodeLitsUptoSaid : Prop := codeLitsUptoRow.holds Try.pinned (OpenSpec.upto codeLitsSpec)

end Rows
end Go.Proofs.Ytlbjdkhpabpmiaa
