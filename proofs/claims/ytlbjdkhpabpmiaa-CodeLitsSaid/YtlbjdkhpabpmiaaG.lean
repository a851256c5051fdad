/- The functions of the program as the engine has them, printed out of the given program by the kernel's own reckoning (mkT.py), and the kernel's word that each is that. -/
import Derived.Test.YtlbjdkhpabpmiaaT
import Derived.Test.YtlbjdkhpabpmiaaE34
import Derived.KernelRfl
namespace Go.Proofs.YtlbjdkhpabpmiaaT
open Go Go.Proofs.YtlbjdkhpabpmiaaE
set_option linter.unusedVariables false
set_option maxRecDepth 100000

def D7_0 : AC := (.reg [(.mk (.some 6) .none (.mov (.c (.bool false))))] false [])
def D7_1 : AC := (.reg [(.mk (.some 14) .none (.build [.nils, (.int .i64 0)] [])), (.mk (.some 15) .none (.box 32 2 (.t 14))), (.mk (.some 16) .none (.call 9 [(.t 15)])), (.mk (.some 7) .none (.alloc 27 5 [.nils, .nils, .nils, .nils, (.int .i64 0)])), (.mk .none .none (.store 5 (.t 7) (.t 16)))] false [])
def D7_2 : AC := (.reg [(.mk (.some 17) .none (.mov (.t 0))), (.mk (.some 18) .none (.call 13 [(.t 17), (.c (.int .i64 3)), (.c (.int .i64 7))])), (.mk (.some 8) .none (.mov (.t 18)))] false [])
def D7_3 : AC := (.reg [(.mk (.some 19) .none (.mov (.t 8))), (.mk (.some 20) .none (.build [(.int .i64 0), (.int .i64 0)] [(0, (1, (.t 19))), (1, (1, (.c (.int .i64 2))))])), (.mk (.some 9) .none (.alloc 41 2 [(.int .i64 0), (.int .i64 0)])), (.mk .none .none (.store 2 (.t 9) (.t 20)))] false [])
def D7_4 : AC := (.seq (.reg [(.mk (.some 21) .none (.mov (.t 8))), (.mk (.some 22) .none (.bin .eql (.t 21) (.c (.int .i64 4))))] false []) (.cond (.t 22) (.reg [(.mk (.some 23) .none (.mov (.t 2))), (.mk (.some 24) .none (.bin .rem (.t 23) (.c (.int .i64 1073741824)))), (.mk (.some 25) .none (.build [(.int .i64 0), (.int .i64 0)] [(0, (1, (.c (.int .i64 3)))), (1, (1, (.t 24)))])), (.mk .none .none (.store 2 (.t 9) (.t 25)))] false []) .skip))
def D7_5 : AC := (.reg [(.mk (.some 26) .none (.mov (.t 1))), (.mk (.some 27) .none (.call 13 [(.t 26), (.c (.int .i64 0)), (.c (.int .i64 3))])), (.mk (.some 10) .none (.mov (.t 27)))] false [])
def P7_0 : List AR := [(.mk (.some 28) .none .mkm), (.mk .none .none (.mput .i (.t 28) (.c (.int .i64 2)) (.c (.int .i64 3)))), (.mk .none .none (.mput .i (.t 28) (.c (.int .i64 12)) (.c (.int .i64 5)))), (.mk .none .none (.mput .i (.t 28) (.c (.int .i64 13)) (.c (.int .i64 5)))), (.mk .none .none (.mput .i (.t 28) (.c (.int .i64 20)) (.c (.int .i64 6)))), (.mk .none .none (.mput .i (.t 28) (.c (.int .i64 18)) (.c (.int .i64 7)))), (.mk (.some 29) .none (.mov (.t 28)))]
def E7_0 : List AR := [(.mk (.some 34) .none (.ext (.t 33) 0)), (.mk (.some 35) .none (.ext (.t 33) 1)), (.mk (.some 11) .none (.mov (.t 34))), (.mk (.some 12) .none (.mov (.t 35)))]
def B7_0 : AC := (.seq (.reg [(.mk (.some 36) .none (.load (.some 2) (.t 9))), (.mk (.some 37) .none (.load (.some 2) (.t 9))), (.mk (.some 38) .none (.bslice 41 2 2 [(.int .i64 0), (.int .i64 0)] [(0, (2, (.t 36))), (2, (2, (.t 37)))])), (.mk (.some 39) .none (.mov (.t 11))), (.mk (.some 40) .none (.conv .u8 (.t 39))), (.mk (.some 41) .none (.mov (.t 10))), (.mk (.some 42) .none (.conv .u8 (.t 41))), (.mk (.some 43) .none (.bslice 5 1 4 [(.int .u8 0)] [(0, (1, (.t 40))), (1, (1, (.t 42))), (2, (1, (.c (.int .u8 14)))), (3, (1, (.c (.int .u8 0))))])), (.mk (.some 44) .none (.build [(.int .i64 0), (.int .i64 0), .nils, .nils] [(2, (1, (.t 38))), (3, (1, (.t 43)))])), (.mk (.some 45) .none (.load (.some 5) (.t 7))), (.mk (.some 46) .none (.call 18 [(.t 44), (.t 45)])), (.mk (.some 13) .none (.mov (.t 46)))] false []) (.seq (.reg [(.mk (.some 47) .none (.mov (.t 13))), (.mk (.some 48) .none (.bin .eql (.t 47) (.c (.int .i64 0)))), (.mk (.some 49) .none (.mov (.t 10))), (.mk (.some 50) .none (.bin .lss (.t 49) (.c (.int .i64 2)))), (.mk (.some 51) .none (.mov (.t 50))), (.mk (.some 52) (.some (51, true)) (.faddr 0 (.t 9))), (.mk (.some 53) (.some (51, true)) (.load .none (.t 52))), (.mk (.some 54) (.some (51, true)) (.mov (.t 12))), (.mk (.some 55) (.some (51, true)) (.bin .eql (.t 53) (.t 54))), (.mk (.some 56) .none (.pick (.t 51) (.t 55) (.c (.bool false)))), (.mk (.some 57) .none (.eq true .b (.t 48) (.t 56)))] false []) (.cond (.t 57) (.seq (.reg [(.mk (.some 6) .none (.mov (.c (.bool false))))] false []) .ret) .skip)))
def D7_6 : AC := (.seq (.reg [(.mk (.some 58) .none (.call 12 [])), (.mk (.some 6) .none (.mov (.t 58)))] false []) .ret)
/-- treadwheel/treadwheellaw14.CodeLits -/
def G7 : RC := (.seq (.det D7_0) (.seq (.det D7_1) (.seq (.det D7_2) (.seq (.det D7_3) (.seq (.det D7_4) (.seq (.det D7_5) (.seq (.rng P7_0 (.t 29) 30 0 31 32 1 33 E7_0 B7_0) (.det D7_6))))))))
theorem G7_ok : compG Try.prog 7 = some (59, 6, G7) := by kernel_rfl

end Go.Proofs.YtlbjdkhpabpmiaaT
