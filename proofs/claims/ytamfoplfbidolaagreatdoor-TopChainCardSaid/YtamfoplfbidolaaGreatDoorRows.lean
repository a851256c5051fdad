/-
  NARROWER THAN 'FOR EVERY INPUT', by the rows' own cells (each row's printed sentence says how): TopSupers: laid · TopDeep: laid · TopTurns: laid · TopChain: laid.
  DERIVED. THE GIVEN ROWS OF THIS SEAT. 4 by the template 'for every input the law returns true; each argument reads behind the call as it read before'; 0 by the template 'total and deterministic' (their statements: YtamfoplfbidolaaGreatDoorTotals.lean).
  GIVEN WITH THE SEED: the statements are not yours to turn. If you find one false, say at which input.
  Laid BY PROGRAM, IN A SANDBOX (cutbox-rows.mjs): the forced cells as the released guide's own fill.sh prints them over the translation 042ce854fc90ee39… (all of the seat's roots in one cut). By AI agents, Wed Nov 11 2026. No macro, syntax, notation, axiom, sorry.
-/
import Derived.Test.YtamfoplfbidolaaGreatDoorChecked
import GoSem.PinnedTables
import GoSem.Claim
import GoSem.ClaimJoined
import GoSem.ClaimMapViews
import Derived.JoinedTies
import Derived.KernelRfl
namespace Go.Proofs.YtamfoplfbidolaaGreatDoor
/- THE CELL 'sum', in the pinned program and in every row, IS THE sha256 OF THE DUMP (.gsa) THAT YtamfoplfbidolaaGreatDoorProg.lean LOADS. Nothing in Lean hashes anything: it is a label: what it is worth is what the hold of that sum in a sandbox is worth. -/
noncomputable def Tryz.pinned : Pinned := { name := "ytamfoplfbidolaagreatdoor", sum := "042ce854fc90ee3927c7a64a3df238e433e7ab3a76014bce3bd1e37ef92e1e0c", checked := Tryz.checked }
namespace Rows
def none {H : Type} : Left H := { results := [], args := [] }

/- WHAT THE LISTED PACKAGE-LEVEL VARIABLES READ AS WHEN THE CALL BEGINS. Each datum BY PROGRAM (the guide's laid-datum.mjs) off the statement by which the dump's own 'gosem.cut.vars' lays the variable. In a bare row this is a premise. The card (YtamfoplfbidolaaGreatDoorCards.lean) ties it to the program's text. -/
def laid_unicode_utf8_acceptRanges {H : Type} : DataW H := .agg [.agg [.lit (.int .u8 128), .lit (.int .u8 191)], .agg [.lit (.int .u8 160), .lit (.int .u8 191)], .agg [.lit (.int .u8 128), .lit (.int .u8 159)], .agg [.lit (.int .u8 144), .lit (.int .u8 191)], .agg [.lit (.int .u8 128), .lit (.int .u8 143)], .agg [.lit (.int .u8 0), .lit (.int .u8 0)], .agg [.lit (.int .u8 0), .lit (.int .u8 0)], .agg [.lit (.int .u8 0), .lit (.int .u8 0)], .agg [.lit (.int .u8 0), .lit (.int .u8 0)], .agg [.lit (.int .u8 0), .lit (.int .u8 0)], .agg [.lit (.int .u8 0), .lit (.int .u8 0)], .agg [.lit (.int .u8 0), .lit (.int .u8 0)], .agg [.lit (.int .u8 0), .lit (.int .u8 0)], .agg [.lit (.int .u8 0), .lit (.int .u8 0)], .agg [.lit (.int .u8 0), .lit (.int .u8 0)], .agg [.lit (.int .u8 0), .lit (.int .u8 0)]]
/-- One of Go's own tables, pinned by name: the form's constant. -/
def laid_unicode_utf8_first : DataW Unit := Go.Pinned.utf8First

/-- 'treadwheeltop.TopSupers': WHATEVER THE INPUT: true; the input reads as it did. -/
def topSupersSpec : ChangeSpec := { name := "topSupers", fn := fun _ => fun
  | [d1, d2] => { results := [.lit (.bool true)], args := [d1, d2] }
  | _ => none }
def topSupersRow : OpenClaim := { program := "ytamfoplfbidolaagreatdoor", sum := "042ce854fc90ee3927c7a64a3df238e433e7ab3a76014bce3bd1e37ef92e1e0c", func := "treadwheel/treadwheeltop.TopSupers", spec := "topSupers", inPlace := ["internal/bytealg.IndexByteString", "internal/bytealg.IndexString", "internal/bytealg.CountString"], unfollowed := true, recurses := true, named := ["unicode/utf8.first", "unicode/utf8.acceptRanges", "internal/bytealg.MaxLen"], plainKeys := false, apart := false, laid := [("unicode/utf8.acceptRanges", laid_unicode_utf8_acceptRanges), ("unicode/utf8.first", laid_unicode_utf8_first)] }
def TopSupersSaid : Prop := topSupersRow.holds Tryz.pinned (OpenSpec.ofChange topSupersSpec)

/-- ITS FALSE NEIGHBOUR: 'it returns false'. Refute it at one input. -/
def topSupersWrong : ChangeSpec := { name := "topSupers", fn := fun _ => fun
  | [d1, d2] => { results := [.lit (.bool false)], args := [d1, d2] }
  | _ => none }
def TopSupersWrongFalsely : Prop := topSupersRow.holds Tryz.pinned (OpenSpec.ofChange topSupersWrong)

/-- 'treadwheeltop.TopDeep': WHATEVER THE INPUT: true; the input reads as it did. -/
def topDeepSpec : ChangeSpec := { name := "topDeep", fn := fun _ => fun
  | [d] => { results := [.lit (.bool true)], args := [d] }
  | _ => none }
def topDeepRow : OpenClaim := { program := "ytamfoplfbidolaagreatdoor", sum := "042ce854fc90ee3927c7a64a3df238e433e7ab3a76014bce3bd1e37ef92e1e0c", func := "treadwheel/treadwheeltop.TopDeep", spec := "topDeep", inPlace := ["internal/bytealg.IndexByteString", "internal/bytealg.IndexString", "internal/bytealg.CountString"], unfollowed := true, recurses := true, named := ["unicode/utf8.first", "unicode/utf8.acceptRanges", "internal/bytealg.MaxLen"], plainKeys := false, apart := false, laid := [("unicode/utf8.acceptRanges", laid_unicode_utf8_acceptRanges), ("unicode/utf8.first", laid_unicode_utf8_first)] }
def TopDeepSaid : Prop := topDeepRow.holds Tryz.pinned (OpenSpec.ofChange topDeepSpec)

/-- ITS FALSE NEIGHBOUR: 'it returns false'. Refute it at one input. -/
def topDeepWrong : ChangeSpec := { name := "topDeep", fn := fun _ => fun
  | [d] => { results := [.lit (.bool false)], args := [d] }
  | _ => none }
def TopDeepWrongFalsely : Prop := topDeepRow.holds Tryz.pinned (OpenSpec.ofChange topDeepWrong)

/-- 'treadwheeltop.TopTurns': WHATEVER THE INPUT: true; the input reads as it did. -/
def topTurnsSpec : ChangeSpec := { name := "topTurns", fn := fun _ => fun
  | [d] => { results := [.lit (.bool true)], args := [d] }
  | _ => none }
def topTurnsRow : OpenClaim := { program := "ytamfoplfbidolaagreatdoor", sum := "042ce854fc90ee3927c7a64a3df238e433e7ab3a76014bce3bd1e37ef92e1e0c", func := "treadwheel/treadwheeltop.TopTurns", spec := "topTurns", inPlace := ["internal/bytealg.IndexByteString", "internal/bytealg.IndexString", "internal/bytealg.CountString"], unfollowed := true, recurses := true, named := ["unicode/utf8.first", "unicode/utf8.acceptRanges", "internal/bytealg.MaxLen"], plainKeys := false, apart := false, laid := [("unicode/utf8.acceptRanges", laid_unicode_utf8_acceptRanges), ("unicode/utf8.first", laid_unicode_utf8_first)] }
def TopTurnsSaid : Prop := topTurnsRow.holds Tryz.pinned (OpenSpec.ofChange topTurnsSpec)

/-- ITS FALSE NEIGHBOUR: 'it returns false'. Refute it at one input. -/
def topTurnsWrong : ChangeSpec := { name := "topTurns", fn := fun _ => fun
  | [d] => { results := [.lit (.bool false)], args := [d] }
  | _ => none }
def TopTurnsWrongFalsely : Prop := topTurnsRow.holds Tryz.pinned (OpenSpec.ofChange topTurnsWrong)

/-- 'treadwheeltop.TopChain': WHATEVER THE INPUT: true; the input reads as it did. -/
def topChainSpec : ChangeSpec := { name := "topChain", fn := fun _ => fun
  | [d] => { results := [.lit (.bool true)], args := [d] }
  | _ => none }
def topChainRow : OpenClaim := { program := "ytamfoplfbidolaagreatdoor", sum := "042ce854fc90ee3927c7a64a3df238e433e7ab3a76014bce3bd1e37ef92e1e0c", func := "treadwheel/treadwheeltop.TopChain", spec := "topChain", inPlace := ["internal/bytealg.IndexByteString", "internal/bytealg.IndexString", "internal/bytealg.CountString"], unfollowed := true, recurses := true, named := ["unicode/utf8.first", "unicode/utf8.acceptRanges", "internal/bytealg.MaxLen"], plainKeys := false, apart := false, laid := [("unicode/utf8.acceptRanges", laid_unicode_utf8_acceptRanges), ("unicode/utf8.first", laid_unicode_utf8_first)] }
def TopChainSaid : Prop := topChainRow.holds Tryz.pinned (OpenSpec.ofChange topChainSpec)

/-- ITS FALSE NEIGHBOUR: 'it returns false'. Refute it at one input. -/
def topChainWrong : ChangeSpec := { name := "topChain", fn := fun _ => fun
  | [d] => { results := [.lit (.bool false)], args := [d] }
  | _ => none }
def TopChainWrongFalsely : Prop := topChainRow.holds Tryz.pinned (OpenSpec.ofChange topChainWrong)

/- THE SECOND FORM. 'bulk': how many values and letters a reading holds, each counted each time it is reached (what is shared counts as often as it is met; a slice's spare places count too). A statement '..UptoSaid' is the law's where the arguments, and the package variables that the reading takes, are together of bulk at most 1048576: NARROWER than '..Said'. Prove '..Said' where nothing that the law and all that it calls make is longer than what came in: it says more and counts as full. Else prove '..UptoSaid'. A law counts once. -/
mutual
def uptoBulk {H : Type} : DataW H → Nat
  | .lit (.string bytes) => bytes.length + 1
  | .lit _ => 1
  | .nil => 1
  | .ptr d => uptoBulk d + 1
  | .slice elems spare => uptoBulkAll elems + uptoBulkAll spare + 1
  | .agg parts => uptoBulkAll parts + 1
  | .iface _ d => uptoBulk d + 1
  | .map entries => uptoBulkEntries entries + 1
  | .held _ => 1
def uptoBulkAll {H : Type} : List (DataW H) → Nat
  | [] => 0
  | d :: r => uptoBulk d + uptoBulkAll r
def uptoBulkEntries {H : Type} : List (Lit × DataW H) → Nat
  | [] => 0
  | x :: r => uptoBulkEntry x + uptoBulkEntries r
def uptoBulkEntry {H : Type} : Lit × DataW H → Nat
  | (.string bytes, d) => bytes.length + uptoBulk d + 1
  | (_, d) => uptoBulk d + 1
 end
def uptoSmall : (H : Type) → List (DataW H) → Bool := fun _ ds => decide (uptoBulkAll ds ≤ 1048576)
def OpenSpec.upto (s : _root_.Go.ChangeSpec) : _root_.Go.OpenSpec := { _root_.Go.OpenSpec.ofChange s with cond := some uptoSmall }

/-- 'treadwheeltop.TopSupers', WHERE WHAT IT READS IS OF BULK AT MOST 1048576: true; the input reads as it did. -/
def topSupersUptoRow : OpenClaim := { program := "ytamfoplfbidolaagreatdoor", sum := "042ce854fc90ee3927c7a64a3df238e433e7ab3a76014bce3bd1e37ef92e1e0c", func := "treadwheel/treadwheeltop.TopSupers", spec := "topSupers", inPlace := ["internal/bytealg.IndexByteString", "internal/bytealg.IndexString", "internal/bytealg.CountString"], unfollowed := true, recurses := true, named := ["unicode/utf8.first", "unicode/utf8.acceptRanges", "internal/bytealg.MaxLen"], plainKeys := false, apart := false, laid := [("unicode/utf8.acceptRanges", laid_unicode_utf8_acceptRanges), ("unicode/utf8.first", laid_unicode_utf8_first)], narrowed := true }
def TopSupersUptoSaid : Prop := topSupersUptoRow.holds Tryz.pinned (OpenSpec.upto topSupersSpec)

/-- 'treadwheeltop.TopDeep', WHERE WHAT IT READS IS OF BULK AT MOST 1048576: true; the input reads as it did. -/
def topDeepUptoRow : OpenClaim := { program := "ytamfoplfbidolaagreatdoor", sum := "042ce854fc90ee3927c7a64a3df238e433e7ab3a76014bce3bd1e37ef92e1e0c", func := "treadwheel/treadwheeltop.TopDeep", spec := "topDeep", inPlace := ["internal/bytealg.IndexByteString", "internal/bytealg.IndexString", "internal/bytealg.CountString"], unfollowed := true, recurses := true, named := ["unicode/utf8.first", "unicode/utf8.acceptRanges", "internal/bytealg.MaxLen"], plainKeys := false, apart := false, laid := [("unicode/utf8.acceptRanges", laid_unicode_utf8_acceptRanges), ("unicode/utf8.first", laid_unicode_utf8_first)], narrowed := true }
def TopDeepUptoSaid : Prop := topDeepUptoRow.holds Tryz.pinned (OpenSpec.upto topDeepSpec)

/-- 'treadwheeltop.TopTurns', WHERE WHAT IT READS IS OF BULK AT MOST 1048576: true; the input reads as it did. -/
def topTurnsUptoRow : OpenClaim := { program := "ytamfoplfbidolaagreatdoor", sum := "042ce854fc90ee3927c7a64a3df238e433e7ab3a76014bce3bd1e37ef92e1e0c", func := "treadwheel/treadwheeltop.TopTurns", spec := "topTurns", inPlace := ["internal/bytealg.IndexByteString", "internal/bytealg.IndexString", "internal/bytealg.CountString"], unfollowed := true, recurses := true, named := ["unicode/utf8.first", "unicode/utf8.acceptRanges", "internal/bytealg.MaxLen"], plainKeys := false, apart := false, laid := [("unicode/utf8.acceptRanges", laid_unicode_utf8_acceptRanges), ("unicode/utf8.first", laid_unicode_utf8_first)], narrowed := true }
def TopTurnsUptoSaid : Prop := topTurnsUptoRow.holds Tryz.pinned (OpenSpec.upto topTurnsSpec)

/-- 'treadwheeltop.TopChain', WHERE WHAT IT READS IS OF BULK AT MOST 1048576: true; the input reads as it did. -/
def topChainUptoRow : OpenClaim := { program := "ytamfoplfbidolaagreatdoor", sum := "042ce854fc90ee3927c7a64a3df238e433e7ab3a76014bce3bd1e37ef92e1e0c", func := "treadwheel/treadwheeltop.TopChain", spec := "topChain", inPlace := ["internal/bytealg.IndexByteString", "internal/bytealg.IndexString", "internal/bytealg.CountString"], unfollowed := true, recurses := true, named := ["unicode/utf8.first", "unicode/utf8.acceptRanges", "internal/bytealg.MaxLen"], plainKeys := false, apart := false, laid := [("unicode/utf8.acceptRanges", laid_unicode_utf8_acceptRanges), ("unicode/utf8.first", laid_unicode_utf8_first)], narrowed := true }
def TopChainUptoSaid : Prop := topChainUptoRow.holds Tryz.pinned (OpenSpec.upto topChainSpec)

end Rows
end Go.Proofs.YtamfoplfbidolaaGreatDoor
