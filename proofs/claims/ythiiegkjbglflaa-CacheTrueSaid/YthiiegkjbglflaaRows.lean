/-
  No cell of these rows narrows 'for every input' (looked for: loops, veiled, ifaces, maps, wideKeys, modest, calm, conditions, laid).
  DERIVED. THE GIVEN ROWS OF THIS SEAT. 4 by the template 'for every input the law returns true; each argument reads behind the call as it read before'; 0 by the template 'total and deterministic' (their statements: YthiiegkjbglflaaTotals.lean).
  GIVEN WITH THE SEED: the statements are not yours to turn. If you find one false, say at which input.
  Laid BY PROGRAM, IN A SANDBOX (cutbox-rows.mjs): the forced cells as the released guide's own fill.sh prints them over the translation cf593e73ef560988… (all of the seat's roots in one cut). By AI agents, Wed Nov 11 2026. No macro, syntax, notation, axiom, sorry.
-/
import Derived.Test.YthiiegkjbglflaaChecked
import GoSem.Claim
import GoSem.ClaimJoined
import GoSem.ClaimMapViews
import Derived.JoinedTies
import Derived.KernelRfl
namespace Go.Proofs.Ythiiegkjbglflaa
/- THE CELL 'sum', in the pinned program and in every row, IS THE sha256 OF THE DUMP (.gsa) THAT YthiiegkjbglflaaProg.lean LOADS. Nothing in Lean hashes anything: it is a label: what it is worth is what the hold of that sum in a sandbox is worth. -/
noncomputable def Try.pinned : Pinned := { name := "ythiiegkjbglflaa", sum := "cf593e73ef56098802a479ae9f8e1f88b0328694f97db00777b836671da7a255", checked := Try.checked }
namespace Rows
def none {H : Type} : Left H := { results := [], args := [] }

/-- 'treadwheellaw13.CacheNumbers': WHATEVER THE INPUT: true; the input reads as it did. -/
def cacheNumbersSpec : ChangeSpec := { name := "cacheNumbers", fn := fun _ => fun
  | [] => { results := [.lit (.bool true)], args := [] }
  | _ => none }
def cacheNumbersRow : OpenClaim := { program := "ythiiegkjbglflaa", sum := "cf593e73ef56098802a479ae9f8e1f88b0328694f97db00777b836671da7a255", func := "treadwheel/treadwheellaw13.CacheNumbers", spec := "cacheNumbers", plainKeys := false, apart := false }
def CacheNumbersSaid : Prop := cacheNumbersRow.holds Try.pinned (OpenSpec.ofChange cacheNumbersSpec)

/-- ITS FALSE NEIGHBOUR: 'it returns false'. Refute it at one input. -/
def cacheNumbersWrong : ChangeSpec := { name := "cacheNumbers", fn := fun _ => fun
  | [] => { results := [.lit (.bool false)], args := [] }
  | _ => none }
def CacheNumbersWrongFalsely : Prop := cacheNumbersRow.holds Try.pinned (OpenSpec.ofChange cacheNumbersWrong)

/-- 'treadwheellaw13.CachePlays': WHATEVER THE INPUT: true; the input reads as it did. -/
def cachePlaysSpec : ChangeSpec := { name := "cachePlays", fn := fun _ => fun
  | [d] => { results := [.lit (.bool true)], args := [d] }
  | _ => none }
def cachePlaysRow : OpenClaim := { program := "ythiiegkjbglflaa", sum := "cf593e73ef56098802a479ae9f8e1f88b0328694f97db00777b836671da7a255", func := "treadwheel/treadwheellaw13.CachePlays", spec := "cachePlays", plainKeys := false, apart := false }
def CachePlaysSaid : Prop := cachePlaysRow.holds Try.pinned (OpenSpec.ofChange cachePlaysSpec)

/-- ITS FALSE NEIGHBOUR: 'it returns false'. Refute it at one input. -/
def cachePlaysWrong : ChangeSpec := { name := "cachePlays", fn := fun _ => fun
  | [d] => { results := [.lit (.bool false)], args := [d] }
  | _ => none }
def CachePlaysWrongFalsely : Prop := cachePlaysRow.holds Try.pinned (OpenSpec.ofChange cachePlaysWrong)

/-- 'treadwheellaw13.CacheTrue': WHATEVER THE INPUT: true; the input reads as it did. -/
def cacheTrueSpec : ChangeSpec := { name := "cacheTrue", fn := fun _ => fun
  | [d] => { results := [.lit (.bool true)], args := [d] }
  | _ => none }
def cacheTrueRow : OpenClaim := { program := "ythiiegkjbglflaa", sum := "cf593e73ef56098802a479ae9f8e1f88b0328694f97db00777b836671da7a255", func := "treadwheel/treadwheellaw13.CacheTrue", spec := "cacheTrue", plainKeys := false, apart := false }
def CacheTrueSaid : Prop := cacheTrueRow.holds Try.pinned (OpenSpec.ofChange cacheTrueSpec)

/-- ITS FALSE NEIGHBOUR: 'it returns false'. Refute it at one input. -/
def cacheTrueWrong : ChangeSpec := { name := "cacheTrue", fn := fun _ => fun
  | [d] => { results := [.lit (.bool false)], args := [d] }
  | _ => none }
def CacheTrueWrongFalsely : Prop := cacheTrueRow.holds Try.pinned (OpenSpec.ofChange cacheTrueWrong)

/-- 'treadwheellaw13.CacheLines': WHATEVER THE INPUT: true; the input reads as it did. -/
def cacheLinesSpec : ChangeSpec := { name := "cacheLines", fn := fun _ => fun
  | [d1, d2, d3, d4] => { results := [.lit (.bool true)], args := [d1, d2, d3, d4] }
  | _ => none }
def cacheLinesRow : OpenClaim := { program := "ythiiegkjbglflaa", sum := "cf593e73ef56098802a479ae9f8e1f88b0328694f97db00777b836671da7a255", func := "treadwheel/treadwheellaw13.CacheLines", spec := "cacheLines", plainKeys := false, apart := false }
def CacheLinesSaid : Prop := cacheLinesRow.holds Try.pinned (OpenSpec.ofChange cacheLinesSpec)

/-- ITS FALSE NEIGHBOUR: 'it returns false'. Refute it at one input. -/
def cacheLinesWrong : ChangeSpec := { name := "cacheLines", fn := fun _ => fun
  | [d1, d2, d3, d4] => { results := [.lit (.bool false)], args := [d1, d2, d3, d4] }
  | _ => none }
def CacheLinesWrongFalsely : Prop := cacheLinesRow.holds Try.pinned (OpenSpec.ofChange cacheLinesWrong)

/- THE SECOND FORM. 'bulk': how many values and letters a reading holds, each counted each time it is reached (what is shared counts as often as it is met; a slice's spare places count too). A statement '..UptoSaid' is the law's where the arguments, and the package variables that the reading takes, are together of bulk at most 1048576: NARROWER than '..Said'. Prove '..Said' where nothing that the law and all that it calls make is longer than what came in: it says more and counts as full. Else prove '..UptoSaid'. A law counts once. -/
mutual
def uptoBulk {H : Type} : DataW H → Nat
  | .lit (.string bytes) => bytes.length + 1
  | .lit _ => 1
  | .nil => 1
  | .ptr d => uptoBulk d + 1
  | .slice elems spare => uptoBulkAll elems + uptoBulkAll spare + 1
  | .agg parts => uptoBulkAll parts + 1
  | .iface _ d => uptoBulk d + 1
  | .map entries => uptoBulkEntries entries + 1
  | .held _ => 1
def uptoBulkAll {H : Type} : List (DataW H) → Nat
  | [] => 0
  | d :: r => uptoBulk d + uptoBulkAll r
def uptoBulkEntries {H : Type} : List (Lit × DataW H) → Nat
  | [] => 0
  | x :: r => uptoBulkEntry x + uptoBulkEntries r
def uptoBulkEntry {H : Type} : Lit × DataW H → Nat
  | (.string bytes, d) => bytes.length + uptoBulk d + 1
  | (_, d) => uptoBulk d + 1
 end
def uptoSmall : (H : Type) → List (DataW H) → Bool := fun _ ds => decide (uptoBulkAll ds ≤ 1048576)
def OpenSpec.upto (s : _root_.Go.ChangeSpec) : _root_.Go.OpenSpec := { _root_.Go.OpenSpec.ofChange s with cond := some uptoSmall }

/-- 'treadwheellaw13.CacheNumbers', WHERE WHAT IT READS IS OF BULK AT MOST 1048576: true; the input reads as it did. -/
def cacheNumbersUptoRow : OpenClaim := { program := "ythiiegkjbglflaa", sum := "cf593e73ef56098802a479ae9f8e1f88b0328694f97db00777b836671da7a255", func := "treadwheel/treadwheellaw13.CacheNumbers", spec := "cacheNumbers", plainKeys := false, apart := false, narrowed := true }
def CacheNumbersUptoSaid : Prop := cacheNumbersUptoRow.holds Try.pinned (OpenSpec.upto cacheNumbersSpec)

/-- 'treadwheellaw13.CachePlays', WHERE WHAT IT READS IS OF BULK AT MOST 1048576: true; the input reads as it did. -/
def cachePlaysUptoRow : OpenClaim := { program := "ythiiegkjbglflaa", sum := "cf593e73ef56098802a479ae9f8e1f88b0328694f97db00777b836671da7a255", func := "treadwheel/treadwheellaw13.CachePlays", spec := "cachePlays", plainKeys := false, apart := false, narrowed := true }
def CachePlaysUptoSaid : Prop := cachePlaysUptoRow.holds Try.pinned (OpenSpec.upto cachePlaysSpec)

/-- 'treadwheellaw13.CacheTrue', WHERE WHAT IT READS IS OF BULK AT MOST 1048576: true; the input reads as it did. -/
def cacheTrueUptoRow : OpenClaim := { program := "ythiiegkjbglflaa", sum := "cf593e73ef56098802a479ae9f8e1f88b0328694f97db00777b836671da7a255", func := "treadwheel/treadwheellaw13.CacheTrue", spec := "cacheTrue", plainKeys := false, apart := false, narrowed := true }
def CacheTrueUptoSaid : Prop := cacheTrueUptoRow.holds Try.pinned (OpenSpec.upto cacheTrueSpec)

/-- 'treadwheellaw13.CacheLines', WHERE WHAT IT READS IS OF BULK AT MOST 1048576: true; the input reads as it did. -/
def cacheLinesUptoRow : OpenClaim := { program := "ythiiegkjbglflaa", sum := "cf593e73ef56098802a479ae9f8e1f88b0328694f97db00777b836671da7a255", func := "treadwheel/treadwheellaw13.CacheLines", spec := "cacheLines", plainKeys := false, apart := false, narrowed := true }
def CacheLinesUptoSaid : Prop := cacheLinesUptoRow.holds Try.pinned (OpenSpec.upto cacheLinesSpec)

end Rows
end Go.Proofs.Ythiiegkjbglflaa
