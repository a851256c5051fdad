/-
  No cell of these rows narrows 'for every input' (looked for: loops, veiled, ifaces, maps, wideKeys, modest, calm, conditions, laid).
  DERIVED. THE GIVEN ROWS OF THIS SEAT. 5 by the template 'for every input the law returns true; each argument reads behind the call as it read before'; 0 by the template 'total and deterministic' (their statements: YtahjkhmoojobgaaTotals.lean).
  GIVEN WITH THE SEED: the statements are not yours to turn. If you find one false, say at which input.
  Laid BY PROGRAM, IN A SANDBOX (cutbox-rows.mjs): the forced cells as the released guide's own fill.sh prints them over the translation 5d8c475e3bd556c5… (all of the seat's roots in one cut). By AI agents, Wed Nov 11 2026. No macro, syntax, notation, axiom, sorry.
-/
import Derived.Test.YtahjkhmoojobgaaChecked
import GoSem.Claim
import GoSem.ClaimJoined
import GoSem.ClaimMapViews
import Derived.JoinedTies
import Derived.KernelRfl
namespace Go.Proofs.Ytahjkhmoojobgaa
/- THE CELL 'sum', in the pinned program and in every row, IS THE sha256 OF THE DUMP (.gsa) THAT YtahjkhmoojobgaaProg.lean LOADS. Nothing in Lean hashes anything: it is a label: what it is worth is what the hold of that sum in a sandbox is worth. -/
noncomputable def Try.pinned : Pinned := { name := "ytahjkhmoojobgaa", sum := "5d8c475e3bd556c585311699b1fafa42180d01ba3da448f2363c5c0fc2e4e77c", checked := Try.checked }
namespace Rows
def none {H : Type} : Left H := { results := [], args := [] }

/-- 'treadwheellaw10.ShapeNumbers': WHATEVER THE INPUT: true; the input reads as it did. -/
def shapeNumbersSpec : ChangeSpec := { name := "shapeNumbers", fn := fun _ => fun
  | [] => { results := [.lit (.bool true)], args := [] }
  | _ => none }
def shapeNumbersRow : OpenClaim := { program := "ytahjkhmoojobgaa", sum := "5d8c475e3bd556c585311699b1fafa42180d01ba3da448f2363c5c0fc2e4e77c", func := "treadwheel/treadwheellaw10.ShapeNumbers", spec := "shapeNumbers", unfollowed := true, recurses := true, apart := false }
def ShapeNumbersSaid : Prop := shapeNumbersRow.holds Try.pinned (OpenSpec.ofChange shapeNumbersSpec)

/-- ITS FALSE NEIGHBOUR: 'it returns false'. Refute it at one input. -/
def shapeNumbersWrong : ChangeSpec := { name := "shapeNumbers", fn := fun _ => fun
  | [] => { results := [.lit (.bool false)], args := [] }
  | _ => none }
def ShapeNumbersWrongFalsely : Prop := shapeNumbersRow.holds Try.pinned (OpenSpec.ofChange shapeNumbersWrong)

/-- 'treadwheellaw10.ShapeTells': WHATEVER THE INPUT: true; the input reads as it did. -/
def shapeTellsSpec : ChangeSpec := { name := "shapeTells", fn := fun _ => fun
  | [d1, d2, d3, d4, d5, d6, d7] => { results := [.lit (.bool true)], args := [d1, d2, d3, d4, d5, d6, d7] }
  | _ => none }
def shapeTellsRow : OpenClaim := { program := "ytahjkhmoojobgaa", sum := "5d8c475e3bd556c585311699b1fafa42180d01ba3da448f2363c5c0fc2e4e77c", func := "treadwheel/treadwheellaw10.ShapeTells", spec := "shapeTells", unfollowed := true, recurses := true, apart := false }
def ShapeTellsSaid : Prop := shapeTellsRow.holds Try.pinned (OpenSpec.ofChange shapeTellsSpec)

/-- ITS FALSE NEIGHBOUR: 'it returns false'. Refute it at one input. -/
def shapeTellsWrong : ChangeSpec := { name := "shapeTells", fn := fun _ => fun
  | [d1, d2, d3, d4, d5, d6, d7] => { results := [.lit (.bool false)], args := [d1, d2, d3, d4, d5, d6, d7] }
  | _ => none }
def ShapeTellsWrongFalsely : Prop := shapeTellsRow.holds Try.pinned (OpenSpec.ofChange shapeTellsWrong)

/-- 'treadwheellaw10.ShapeChains': WHATEVER THE INPUT: true; the input reads as it did. -/
def shapeChainsSpec : ChangeSpec := { name := "shapeChains", fn := fun _ => fun
  | [d1, d2] => { results := [.lit (.bool true)], args := [d1, d2] }
  | _ => none }
def shapeChainsRow : OpenClaim := { program := "ytahjkhmoojobgaa", sum := "5d8c475e3bd556c585311699b1fafa42180d01ba3da448f2363c5c0fc2e4e77c", func := "treadwheel/treadwheellaw10.ShapeChains", spec := "shapeChains", unfollowed := true, recurses := true, apart := false }
def ShapeChainsSaid : Prop := shapeChainsRow.holds Try.pinned (OpenSpec.ofChange shapeChainsSpec)

/-- ITS FALSE NEIGHBOUR: 'it returns false'. Refute it at one input. -/
def shapeChainsWrong : ChangeSpec := { name := "shapeChains", fn := fun _ => fun
  | [d1, d2] => { results := [.lit (.bool false)], args := [d1, d2] }
  | _ => none }
def ShapeChainsWrongFalsely : Prop := shapeChainsRow.holds Try.pinned (OpenSpec.ofChange shapeChainsWrong)

/-- 'treadwheellaw10.ShapeFields': WHATEVER THE INPUT: true; the input reads as it did. -/
def shapeFieldsSpec : ChangeSpec := { name := "shapeFields", fn := fun _ => fun
  | [d1, d2] => { results := [.lit (.bool true)], args := [d1, d2] }
  | _ => none }
def shapeFieldsRow : OpenClaim := { program := "ytahjkhmoojobgaa", sum := "5d8c475e3bd556c585311699b1fafa42180d01ba3da448f2363c5c0fc2e4e77c", func := "treadwheel/treadwheellaw10.ShapeFields", spec := "shapeFields", unfollowed := true, recurses := true, apart := false }
def ShapeFieldsSaid : Prop := shapeFieldsRow.holds Try.pinned (OpenSpec.ofChange shapeFieldsSpec)

/-- ITS FALSE NEIGHBOUR: 'it returns false'. Refute it at one input. -/
def shapeFieldsWrong : ChangeSpec := { name := "shapeFields", fn := fun _ => fun
  | [d1, d2] => { results := [.lit (.bool false)], args := [d1, d2] }
  | _ => none }
def ShapeFieldsWrongFalsely : Prop := shapeFieldsRow.holds Try.pinned (OpenSpec.ofChange shapeFieldsWrong)

/-- 'treadwheellaw10.ShapeCut': WHATEVER THE INPUT: true; the input reads as it did. -/
def shapeCutSpec : ChangeSpec := { name := "shapeCut", fn := fun _ => fun
  | [d1, d2] => { results := [.lit (.bool true)], args := [d1, d2] }
  | _ => none }
def shapeCutRow : OpenClaim := { program := "ytahjkhmoojobgaa", sum := "5d8c475e3bd556c585311699b1fafa42180d01ba3da448f2363c5c0fc2e4e77c", func := "treadwheel/treadwheellaw10.ShapeCut", spec := "shapeCut", unfollowed := true, recurses := true, apart := false }
def ShapeCutSaid : Prop := shapeCutRow.holds Try.pinned (OpenSpec.ofChange shapeCutSpec)

/-- ITS FALSE NEIGHBOUR: 'it returns false'. Refute it at one input. -/
def shapeCutWrong : ChangeSpec := { name := "shapeCut", fn := fun _ => fun
  | [d1, d2] => { results := [.lit (.bool false)], args := [d1, d2] }
  | _ => none }
def ShapeCutWrongFalsely : Prop := shapeCutRow.holds Try.pinned (OpenSpec.ofChange shapeCutWrong)

/- THE SECOND FORM. 'bulk': how many values and letters a reading holds, each counted each time it is reached (what is shared counts as often as it is met; a slice's spare places count too). A statement '..UptoSaid' is the law's where the arguments, and the package variables that the reading takes, are together of bulk at most 1048576: NARROWER than '..Said'. Prove '..Said' where nothing that the law and all that it calls make is longer than what came in: it says more and counts as full. Else prove '..UptoSaid'. A law counts once. -/
mutual
def uptoBulk {H : Type} : DataW H → Nat
  | .lit (.string bytes) => bytes.length + 1
  | .lit _ => 1
  | .nil => 1
  | .ptr d => uptoBulk d + 1
  | .slice elems spare => uptoBulkAll elems + uptoBulkAll spare + 1
  | .agg parts => uptoBulkAll parts + 1
  | .iface _ d => uptoBulk d + 1
  | .map entries => uptoBulkEntries entries + 1
  | .held _ => 1
def uptoBulkAll {H : Type} : List (DataW H) → Nat
  | [] => 0
  | d :: r => uptoBulk d + uptoBulkAll r
def uptoBulkEntries {H : Type} : List (Lit × DataW H) → Nat
  | [] => 0
  | x :: r => uptoBulkEntry x + uptoBulkEntries r
def uptoBulkEntry {H : Type} : Lit × DataW H → Nat
  | (.string bytes, d) => bytes.length + uptoBulk d + 1
  | (_, d) => uptoBulk d + 1
 end
def uptoSmall : (H : Type) → List (DataW H) → Bool := fun _ ds => decide (uptoBulkAll ds ≤ 1048576)
def OpenSpec.upto (s : _root_.Go.ChangeSpec) : _root_.Go.OpenSpec := { _root_.Go.OpenSpec.ofChange s with cond := some uptoSmall }

/-- 'treadwheellaw10.ShapeNumbers', WHERE WHAT IT READS IS OF BULK AT MOST 1048576: true; the input reads as it did. -/
def shapeNumbersUptoRow : OpenClaim := { program := "ytahjkhmoojobgaa", sum := "5d8c475e3bd556c585311699b1fafa42180d01ba3da448f2363c5c0fc2e4e77c", func := "treadwheel/treadwheellaw10.ShapeNumbers", spec := "shapeNumbers", unfollowed := true, recurses := true, apart := false, narrowed := true }
def ShapeNumbersUptoSaid : Prop := shapeNumbersUptoRow.holds Try.pinned (OpenSpec.upto shapeNumbersSpec)

/-- 'treadwheellaw10.ShapeTells', WHERE WHAT IT READS IS OF BULK AT MOST 1048576: true; the input reads as it did. -/
def shapeTellsUptoRow : OpenClaim := { program := "ytahjkhmoojobgaa", sum := "5d8c475e3bd556c585311699b1fafa42180d01ba3da448f2363c5c0fc2e4e77c", func := "treadwheel/treadwheellaw10.ShapeTells", spec := "shapeTells", unfollowed := true, recurses := true, apart := false, narrowed := true }
def ShapeTellsUptoSaid : Prop := shapeTellsUptoRow.holds Try.pinned (OpenSpec.upto shapeTellsSpec)

/-- 'treadwheellaw10.ShapeChains', WHERE WHAT IT READS IS OF BULK AT MOST 1048576: true; the input reads as it did. -/
def shapeChainsUptoRow : OpenClaim := { program := "ytahjkhmoojobgaa", sum := "5d8c475e3bd556c585311699b1fafa42180d01ba3da448f2363c5c0fc2e4e77c", func := "treadwheel/treadwheellaw10.ShapeChains", spec := "shapeChains", unfollowed := true, recurses := true, apart := false, narrowed := true }
def ShapeChainsUptoSaid : Prop := shapeChainsUptoRow.holds Try.pinned (OpenSpec.upto shapeChainsSpec)

/-- 'treadwheellaw10.ShapeFields', WHERE WHAT IT READS IS OF BULK AT MOST 1048576: true; the input reads as it did. -/
def shapeFieldsUptoRow : OpenClaim := { program := "ytahjkhmoojobgaa", sum := "5d8c475e3bd556c585311699b1fafa42180d01ba3da448f2363c5c0fc2e4e77c", func := "treadwheel/treadwheellaw10.ShapeFields", spec := "shapeFields", unfollowed := true, recurses := true, apart := false, narrowed := true }
def ShapeFieldsUptoSaid : Prop := shapeFieldsUptoRow.holds Try.pinned (OpenSpec.upto shapeFieldsSpec)

/-- 'treadwheellaw10.ShapeCut', WHERE WHAT IT READS IS OF BULK AT MOST 1048576: true; the input reads as it did. -/
def shapeCutUptoRow : OpenClaim := { program := "ytahjkhmoojobgaa", sum := "5d8c475e3bd556c585311699b1fafa42180d01ba3da448f2363c5c0fc2e4e77c", func := "treadwheel/treadwheellaw10.ShapeCut", spec := "shapeCut", unfollowed := true, recurses := true, apart := false, narrowed := true }
def ShapeCutUptoSaid : Prop := shapeCutUptoRow.holds Try.pinned (OpenSpec.upto shapeCutSpec)

end Rows
end Go.Proofs.Ytahjkhmoojobgaa
