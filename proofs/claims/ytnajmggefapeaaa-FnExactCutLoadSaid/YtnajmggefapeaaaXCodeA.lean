import Derived.Test.YtnajmggefapeaaaXTab
import Derived.Test.YtnajmggefapeaaaProg
import Derived.KernelRfl
namespace Go.Proofs.Ytnajmggefapeaaa.X
open Go

def md0 : FuncId → Bool := fun f => f == 20 || f == 21 || f == 49 || f == 79
/-- laws.FnExactIsLanes -/
theorem md_3 : md0 3 = false := rfl
def c3 : XC :=
  .op (some 1) (.box 25 (.tmp 0)) none <|
  .op (some 2) (.assign (.const (.bool false))) none <|
  .op (some 3) (.assign (.const (.int .i64 1048576))) none <|
  .op (some 7) (.load 25 (.tmp 1)) none <|
  .op (some 8) (.move (.tmp 3)) none <|
  .op (some 9) (.call ⟨.value (.func 9), ⟨[.tmp 7, .tmp 8]⟩, ⟨[25, 3]⟩⟩) none <|
  .op (some 3) (.assign (.tmp 9)) none <|
  .op (some 10) (.move (.tmp 3)) none <|
  .op (some 11) (.binOp .lss 3 (.tmp 10) (.const (.int .i64 0)) 3) none <|
  .cond (.tmp 11)
    (.op (some 2) (.assign (.const (.bool true))) none <|
      .ret)
    (.done) <|
  .op (some 12) (.load 25 (.tmp 1)) none <|
  .op (some 13) (.call ⟨.value (.func 11), ⟨[.tmp 12]⟩, ⟨[25]⟩⟩) none <|
  .op (some 14) (.call ⟨.value (.func 10), ⟨[.tmp 13]⟩, ⟨[30]⟩⟩) none <|
  .op (some 4) (.assign (.tmp 14)) none <|
  .op (some 15) (.load 25 (.tmp 1)) none <|
  .op (some 16) (.call ⟨.value (.func 11), ⟨[.tmp 15]⟩, ⟨[25]⟩⟩) none <|
  .op (some 5) (.alloc 30) none <|
  .op none (.store 30 (.tmp 5) (.tmp 16)) none <|
  .op (some 17) (.load 30 (.tmp 5)) none <|
  .op (some 18) (.call ⟨.value (.func 12), ⟨[.tmp 17]⟩, ⟨[30]⟩⟩) none <|
  .op (some 6) (.assign (.tmp 18)) none <|
  .op (some 19) (.move (.tmp 6)) none <|
  .op (some 20) (.move (.tmp 4)) none <|
  .op (some 21) (.binOp .neq 4 (.tmp 19) (.tmp 20) 4) none <|
  .cond (.tmp 21)
    (.op (some 2) (.assign (.const (.bool false))) none <|
      .ret)
    (.done) <|
  .op (some 22) (.load 30 (.tmp 5)) none <|
  .op (some 23) (.load 25 (.tmp 1)) none <|
  .op (some 24) (.call ⟨.value (.func 11), ⟨[.tmp 23]⟩, ⟨[25]⟩⟩) none <|
  .op (some 25) (.call ⟨.value (.func 13), ⟨[.tmp 22, .tmp 24]⟩, ⟨[30, 30]⟩⟩) none <|
  .op (some 26) (.unOp .not 4 (.tmp 25)) none <|
  .cond (.tmp 26)
    (.op (some 2) (.assign (.const (.bool false))) none <|
      .ret)
    (.done) <|
  .op (some 2) (.assign (.const (.bool true))) none <|
  .ret
theorem h3 : compF md0 Try.f3 = c3 := by kernel_rfl
theorem r3 : Try.f3.results.toList = [.tmp 2] := _root_.id (by kernel_rfl)
theorem nt3 : Try.f3.ntmps = 27 := by kernel_rfl
/-- laws.FnExactChancesAfter -/
theorem md_4 : md0 4 = false := rfl
def c4 : XC :=
  .op (some 3) (.box 36 (.tmp 0)) none <|
  .op (some 6) (.assign (.const (.bool false))) none <|
  .op (some 7) (.assign (.const (.int .i64 1048576))) none <|
  .op (some 18) (.load 36 (.tmp 3)) none <|
  .op (some 19) (.move (.tmp 7)) none <|
  .op (some 20) (.call ⟨.value (.func 14), ⟨[.tmp 18, .tmp 19]⟩, ⟨[36, 3]⟩⟩) none <|
  .op (some 7) (.assign (.tmp 20)) none <|
  .op (some 21) (.move (.tmp 7)) none <|
  .op (some 22) (.binOp .lss 3 (.tmp 21) (.const (.int .i64 0)) 3) none <|
  .cond (.tmp 22)
    (.op (some 6) (.assign (.const (.bool true))) none <|
      .ret)
    (.done) <|
  .op (some 24) (.load 36 (.tmp 3)) none <|
  .op (some 25) (.call ⟨.value (.func 16), ⟨[.tmp 24]⟩, ⟨[36]⟩⟩) none <|
  .op (some 26) (.move (.tmp 1)) none <|
  .op (some 27) (.move (.tmp 2)) none <|
  .op (some 28) (.call ⟨.value (.func 15), ⟨[.tmp 25, .tmp 26, .tmp 27]⟩, ⟨[40, 3, 3]⟩⟩) none <|
  .op (some 23) (.move (.tmp 28)) none <|
  .op (some 29) (.extract (.tmp 23) 0) none <|
  .op (some 30) (.extract (.tmp 23) 1) none <|
  .op (some 8) (.assign (.tmp 29)) none <|
  .op (some 9) (.assign (.tmp 30)) none <|
  .op (some 31) (.load 36 (.tmp 3)) none <|
  .op (some 32) (.call ⟨.value (.func 16), ⟨[.tmp 31]⟩, ⟨[36]⟩⟩) none <|
  .op (some 10) (.alloc 40) none <|
  .op none (.store 40 (.tmp 10) (.tmp 32)) none <|
  .op (some 34) (.load 40 (.tmp 10)) none <|
  .op (some 35) (.move (.tmp 1)) none <|
  .op (some 36) (.move (.tmp 2)) none <|
  .op (some 37) (.call ⟨.value (.func 17), ⟨[.tmp 34, .tmp 35, .tmp 36]⟩, ⟨[40, 3, 3]⟩⟩) none <|
  .op (some 33) (.move (.tmp 37)) none <|
  .op (some 38) (.extract (.tmp 33) 0) none <|
  .op (some 39) (.extract (.tmp 33) 1) none <|
  .op (some 11) (.assign (.tmp 38)) none <|
  .op (some 12) (.assign (.tmp 39)) none <|
  .op (some 40) (.move (.tmp 11)) none <|
  .op (some 41) (.move (.tmp 8)) none <|
  .op (some 42) (.call ⟨.value (.func 18), ⟨[.tmp 40, .tmp 41]⟩, ⟨[23, 23]⟩⟩) none <|
  .op (some 43) (.unOp .not 4 (.tmp 42)) none <|
  .op (some 44) (.move (.tmp 43)) none <|
  .op (some 45) (.move (.tmp 12)) (some (44, false)) <|
  .op (some 46) (.move (.tmp 9)) (some (44, false)) <|
  .op (some 47) (.binOp .neq 4 (.tmp 45) (.tmp 46) 4) (some (44, false)) <|
  .op (some 48) (.pick (.tmp 44) (.const (.bool true)) (.tmp 47)) none <|
  .cond (.tmp 48)
    (.op (some 6) (.assign (.const (.bool false))) none <|
      .ret)
    (.done) <|
  .op (some 49) (.load 40 (.tmp 10)) none <|
  .op (some 50) (.load 36 (.tmp 3)) none <|
  .op (some 51) (.call ⟨.value (.func 16), ⟨[.tmp 50]⟩, ⟨[36]⟩⟩) none <|
  .op (some 52) (.call ⟨.value (.func 19), ⟨[.tmp 49, .tmp 51]⟩, ⟨[40, 40]⟩⟩) none <|
  .op (some 53) (.unOp .not 4 (.tmp 52)) none <|
  .cond (.tmp 53)
    (.op (some 6) (.assign (.const (.bool false))) none <|
      .ret)
    (.done) <|
  .op (some 13) (.assign (.const (.int .i64 1))) none <|
  .op (some 54) (.load 40 (.tmp 10)) none <|
  .op (some 55) (.move (.tmp 13)) none <|
  .op (some 56) (.call ⟨.value (.func 20), ⟨[.tmp 54, .tmp 55]⟩, ⟨[40, 3]⟩⟩) none <|
  .op (some 13) (.assign (.tmp 56)) none <|
  .op (some 57) (.move (.tmp 13)) none <|
  .op (some 58) (.binOp .lss 3 (.tmp 57) (.const (.int .i64 0)) 3) none <|
  .op (some 59) (.move (.tmp 58)) none <|
  .op (some 60) (.move (.tmp 11)) (some (59, false)) <|
  .op (some 61) (.move (.tmp 8)) (some (59, false)) <|
  .op (some 62) (.call ⟨.value (.func 18), ⟨[.tmp 60, .tmp 61]⟩, ⟨[23, 23]⟩⟩) (some (59, false)) <|
  .op (some 63) (.unOp .not 4 (.tmp 62)) (some (59, false)) <|
  .op (some 64) (.pick (.tmp 59) (.const (.bool true)) (.tmp 63)) none <|
  .op (some 65) (.move (.tmp 64)) none <|
  .op (some 66) (.move (.tmp 12)) (some (65, false)) <|
  .op (some 67) (.move (.tmp 9)) (some (65, false)) <|
  .op (some 68) (.binOp .neq 4 (.tmp 66) (.tmp 67) 4) (some (65, false)) <|
  .op (some 69) (.pick (.tmp 65) (.const (.bool true)) (.tmp 68)) none <|
  .cond (.tmp 69)
    (.op (some 6) (.assign (.const (.bool false))) none <|
      .ret)
    (.done) <|
  .op (some 14) (.assign (.const (.int .i64 1))) none <|
  .op (some 70) (.move (.tmp 11)) none <|
  .op (some 71) (.move (.tmp 14)) none <|
  .op (some 72) (.call ⟨.value (.func 21), ⟨[.tmp 70, .tmp 71]⟩, ⟨[23, 3]⟩⟩) none <|
  .op (some 14) (.assign (.tmp 72)) none <|
  .op (some 15) (.assign (.const (.int .i64 1))) none <|
  .op (some 73) (.move (.tmp 11)) none <|
  .op (some 74) (.move (.tmp 15)) none <|
  .op (some 75) (.call ⟨.value (.func 22), ⟨[.tmp 73, .tmp 74]⟩, ⟨[23, 3]⟩⟩) none <|
  .op (some 15) (.assign (.tmp 75)) none <|
  .op (some 76) (.move (.tmp 15)) none <|
  .op (some 77) (.binOp .lss 3 (.tmp 76) (.const (.int .i64 0)) 3) none <|
  .cond (.tmp 77)
    (.op (some 6) (.assign (.const (.bool false))) none <|
      .ret)
    (.done) <|
  .op (some 78) (.move (.tmp 15)) none <|
  .op (some 79) (.move (.tmp 14)) none <|
  .op (some 80) (.binOp .neq 3 (.tmp 78) (.tmp 79) 3) none <|
  .cond (.tmp 80)
    (.op (some 6) (.assign (.const (.bool false))) none <|
      .ret)
    (.done) <|
  .op (some 82) (.load 36 (.tmp 3)) none <|
  .op (some 83) (.call ⟨.value (.func 16), ⟨[.tmp 82]⟩, ⟨[36]⟩⟩) none <|
  .op (some 84) (.move (.tmp 1)) none <|
  .op (some 85) (.move (.tmp 2)) none <|
  .op (some 86) (.call ⟨.value (.func 17), ⟨[.tmp 83, .tmp 84, .tmp 85]⟩, ⟨[40, 3, 3]⟩⟩) none <|
  .op (some 81) (.move (.tmp 86)) none <|
  .op (some 87) (.extract (.tmp 81) 0) none <|
  .op (some 88) (.extract (.tmp 81) 1) none <|
  .op (some 16) (.assign (.tmp 87)) none <|
  .op (some 17) (.assign (.tmp 88)) none <|
  .op (some 89) (.move (.tmp 16)) none <|
  .op (some 90) (.move (.tmp 8)) none <|
  .op (some 91) (.call ⟨.value (.func 18), ⟨[.tmp 89, .tmp 90]⟩, ⟨[23, 23]⟩⟩) none <|
  .op (some 92) (.unOp .not 4 (.tmp 91)) none <|
  .op (some 93) (.move (.tmp 92)) none <|
  .op (some 94) (.move (.tmp 17)) (some (93, false)) <|
  .op (some 95) (.move (.tmp 9)) (some (93, false)) <|
  .op (some 96) (.binOp .neq 4 (.tmp 94) (.tmp 95) 4) (some (93, false)) <|
  .op (some 97) (.pick (.tmp 93) (.const (.bool true)) (.tmp 96)) none <|
  .cond (.tmp 97)
    (.op (some 6) (.assign (.const (.bool false))) none <|
      .ret)
    (.done) <|
  .op (some 15) (.assign (.const (.int .i64 1))) none <|
  .op (some 98) (.move (.tmp 11)) none <|
  .op (some 99) (.move (.tmp 15)) none <|
  .op (some 100) (.call ⟨.value (.func 22), ⟨[.tmp 98, .tmp 99]⟩, ⟨[23, 3]⟩⟩) none <|
  .op (some 15) (.assign (.tmp 100)) none <|
  .op (some 101) (.move (.tmp 15)) none <|
  .op (some 102) (.binOp .lss 3 (.tmp 101) (.const (.int .i64 0)) 3) none <|
  .cond (.tmp 102)
    (.op (some 6) (.assign (.const (.bool false))) none <|
      .ret)
    (.done) <|
  .op (some 103) (.move (.tmp 15)) none <|
  .op (some 104) (.move (.tmp 14)) none <|
  .op (some 105) (.binOp .neq 3 (.tmp 103) (.tmp 104) 3) none <|
  .cond (.tmp 105)
    (.op (some 6) (.assign (.const (.bool false))) none <|
      .ret)
    (.done) <|
  .op (some 6) (.assign (.const (.bool true))) none <|
  .ret
theorem h4 : compF md0 Try.f4 = c4 := by kernel_rfl
theorem r4 : Try.f4.results.toList = [.tmp 6] := _root_.id (by kernel_rfl)
theorem nt4 : Try.f4.ntmps = 106 := by kernel_rfl
/-- laws.FnExactNextWeather -/
theorem md_5 : md0 5 = false := rfl
def c5 : XC :=
  .op (some 4) (.box 36 (.tmp 0)) none <|
  .op (some 8) (.assign (.const (.bool false))) none <|
  .op (some 9) (.assign (.const (.int .i64 1048576))) none <|
  .op (some 15) (.load 36 (.tmp 4)) none <|
  .op (some 16) (.move (.tmp 9)) none <|
  .op (some 17) (.call ⟨.value (.func 14), ⟨[.tmp 15, .tmp 16]⟩, ⟨[36, 3]⟩⟩) none <|
  .op (some 9) (.assign (.tmp 17)) none <|
  .op (some 18) (.move (.tmp 9)) none <|
  .op (some 19) (.binOp .lss 3 (.tmp 18) (.const (.int .i64 0)) 3) none <|
  .cond (.tmp 19)
    (.op (some 8) (.assign (.const (.bool true))) none <|
      .ret)
    (.done) <|
  .op (some 21) (.load 36 (.tmp 4)) none <|
  .op (some 22) (.call ⟨.value (.func 16), ⟨[.tmp 21]⟩, ⟨[36]⟩⟩) none <|
  .op (some 23) (.move (.tmp 1)) none <|
  .op (some 24) (.move (.tmp 2)) none <|
  .op (some 25) (.move (.tmp 3)) none <|
  .op (some 26) (.call ⟨.value (.func 23), ⟨[.tmp 22, .tmp 23, .tmp 24, .tmp 25]⟩, ⟨[40, 3, 3, 3]⟩⟩) none <|
  .op (some 20) (.move (.tmp 26)) none <|
  .op (some 27) (.extract (.tmp 20) 0) none <|
  .op (some 28) (.extract (.tmp 20) 1) none <|
  .op (some 10) (.assign (.tmp 27)) none <|
  .op (some 11) (.assign (.tmp 28)) none <|
  .op (some 29) (.load 36 (.tmp 4)) none <|
  .op (some 30) (.call ⟨.value (.func 16), ⟨[.tmp 29]⟩, ⟨[36]⟩⟩) none <|
  .op (some 12) (.alloc 40) none <|
  .op none (.store 40 (.tmp 12) (.tmp 30)) none <|
  .op (some 32) (.load 40 (.tmp 12)) none <|
  .op (some 33) (.move (.tmp 1)) none <|
  .op (some 34) (.move (.tmp 2)) none <|
  .op (some 35) (.move (.tmp 3)) none <|
  .op (some 36) (.call ⟨.value (.func 24), ⟨[.tmp 32, .tmp 33, .tmp 34, .tmp 35]⟩, ⟨[40, 3, 3, 3]⟩⟩) none <|
  .op (some 31) (.move (.tmp 36)) none <|
  .op (some 37) (.extract (.tmp 31) 0) none <|
  .op (some 38) (.extract (.tmp 31) 1) none <|
  .op (some 13) (.assign (.tmp 37)) none <|
  .op (some 14) (.assign (.tmp 38)) none <|
  .op (some 39) (.move (.tmp 13)) none <|
  .op (some 40) (.move (.tmp 10)) none <|
  .op (some 41) (.binOp .neq 3 (.tmp 39) (.tmp 40) 3) none <|
  .op (some 42) (.move (.tmp 41)) none <|
  .op (some 43) (.move (.tmp 14)) (some (42, false)) <|
  .op (some 44) (.move (.tmp 11)) (some (42, false)) <|
  .op (some 45) (.binOp .neq 4 (.tmp 43) (.tmp 44) 4) (some (42, false)) <|
  .op (some 46) (.pick (.tmp 42) (.const (.bool true)) (.tmp 45)) none <|
  .cond (.tmp 46)
    (.op (some 8) (.assign (.const (.bool false))) none <|
      .ret)
    (.done) <|
  .op (some 47) (.load 40 (.tmp 12)) none <|
  .op (some 48) (.load 36 (.tmp 4)) none <|
  .op (some 49) (.call ⟨.value (.func 16), ⟨[.tmp 48]⟩, ⟨[36]⟩⟩) none <|
  .op (some 50) (.call ⟨.value (.func 19), ⟨[.tmp 47, .tmp 49]⟩, ⟨[40, 40]⟩⟩) none <|
  .op (some 51) (.unOp .not 4 (.tmp 50)) none <|
  .cond (.tmp 51)
    (.op (some 8) (.assign (.const (.bool false))) none <|
      .ret)
    (.done) <|
  .op (some 8) (.assign (.const (.bool true))) none <|
  .ret
theorem h5 : compF md0 Try.f5 = c5 := by kernel_rfl
theorem r5 : Try.f5.results.toList = [.tmp 8] := _root_.id (by kernel_rfl)
theorem nt5 : Try.f5.ntmps = 52 := by kernel_rfl
/-- laws.FnExactMostLikely -/
theorem md_6 : md0 6 = false := rfl
def c6 : XC :=
  .op (some 3) (.box 36 (.tmp 0)) none <|
  .op (some 6) (.assign (.const (.bool false))) none <|
  .op (some 7) (.assign (.const (.int .i64 1048576))) none <|
  .op (some 18) (.load 36 (.tmp 3)) none <|
  .op (some 19) (.move (.tmp 7)) none <|
  .op (some 20) (.call ⟨.value (.func 14), ⟨[.tmp 18, .tmp 19]⟩, ⟨[36, 3]⟩⟩) none <|
  .op (some 7) (.assign (.tmp 20)) none <|
  .op (some 21) (.move (.tmp 7)) none <|
  .op (some 22) (.binOp .lss 3 (.tmp 21) (.const (.int .i64 0)) 3) none <|
  .cond (.tmp 22)
    (.op (some 6) (.assign (.const (.bool true))) none <|
      .ret)
    (.done) <|
  .op (some 24) (.load 36 (.tmp 3)) none <|
  .op (some 25) (.call ⟨.value (.func 16), ⟨[.tmp 24]⟩, ⟨[36]⟩⟩) none <|
  .op (some 26) (.move (.tmp 1)) none <|
  .op (some 27) (.move (.tmp 2)) none <|
  .op (some 28) (.call ⟨.value (.func 25), ⟨[.tmp 25, .tmp 26, .tmp 27]⟩, ⟨[40, 3, 3]⟩⟩) none <|
  .op (some 23) (.move (.tmp 28)) none <|
  .op (some 29) (.extract (.tmp 23) 0) none <|
  .op (some 30) (.extract (.tmp 23) 1) none <|
  .op (some 8) (.assign (.tmp 29)) none <|
  .op (some 9) (.assign (.tmp 30)) none <|
  .op (some 31) (.load 36 (.tmp 3)) none <|
  .op (some 32) (.call ⟨.value (.func 16), ⟨[.tmp 31]⟩, ⟨[36]⟩⟩) none <|
  .op (some 10) (.alloc 40) none <|
  .op none (.store 40 (.tmp 10) (.tmp 32)) none <|
  .op (some 34) (.load 40 (.tmp 10)) none <|
  .op (some 35) (.move (.tmp 1)) none <|
  .op (some 36) (.move (.tmp 2)) none <|
  .op (some 37) (.call ⟨.value (.func 26), ⟨[.tmp 34, .tmp 35, .tmp 36]⟩, ⟨[40, 3, 3]⟩⟩) none <|
  .op (some 33) (.move (.tmp 37)) none <|
  .op (some 38) (.extract (.tmp 33) 0) none <|
  .op (some 39) (.extract (.tmp 33) 1) none <|
  .op (some 11) (.assign (.tmp 38)) none <|
  .op (some 12) (.assign (.tmp 39)) none <|
  .op (some 40) (.move (.tmp 11)) none <|
  .op (some 41) (.move (.tmp 8)) none <|
  .op (some 42) (.call ⟨.value (.func 18), ⟨[.tmp 40, .tmp 41]⟩, ⟨[23, 23]⟩⟩) none <|
  .op (some 43) (.unOp .not 4 (.tmp 42)) none <|
  .op (some 44) (.move (.tmp 43)) none <|
  .op (some 45) (.move (.tmp 12)) (some (44, false)) <|
  .op (some 46) (.move (.tmp 9)) (some (44, false)) <|
  .op (some 47) (.binOp .neq 4 (.tmp 45) (.tmp 46) 4) (some (44, false)) <|
  .op (some 48) (.pick (.tmp 44) (.const (.bool true)) (.tmp 47)) none <|
  .cond (.tmp 48)
    (.op (some 6) (.assign (.const (.bool false))) none <|
      .ret)
    (.done) <|
  .op (some 49) (.load 40 (.tmp 10)) none <|
  .op (some 50) (.load 36 (.tmp 3)) none <|
  .op (some 51) (.call ⟨.value (.func 16), ⟨[.tmp 50]⟩, ⟨[36]⟩⟩) none <|
  .op (some 52) (.call ⟨.value (.func 19), ⟨[.tmp 49, .tmp 51]⟩, ⟨[40, 40]⟩⟩) none <|
  .op (some 53) (.unOp .not 4 (.tmp 52)) none <|
  .cond (.tmp 53)
    (.op (some 6) (.assign (.const (.bool false))) none <|
      .ret)
    (.done) <|
  .op (some 13) (.assign (.const (.int .i64 1))) none <|
  .op (some 54) (.load 40 (.tmp 10)) none <|
  .op (some 55) (.move (.tmp 13)) none <|
  .op (some 56) (.call ⟨.value (.func 20), ⟨[.tmp 54, .tmp 55]⟩, ⟨[40, 3]⟩⟩) none <|
  .op (some 13) (.assign (.tmp 56)) none <|
  .op (some 57) (.move (.tmp 13)) none <|
  .op (some 58) (.binOp .lss 3 (.tmp 57) (.const (.int .i64 0)) 3) none <|
  .op (some 59) (.move (.tmp 58)) none <|
  .op (some 60) (.move (.tmp 11)) (some (59, false)) <|
  .op (some 61) (.move (.tmp 8)) (some (59, false)) <|
  .op (some 62) (.call ⟨.value (.func 18), ⟨[.tmp 60, .tmp 61]⟩, ⟨[23, 23]⟩⟩) (some (59, false)) <|
  .op (some 63) (.unOp .not 4 (.tmp 62)) (some (59, false)) <|
  .op (some 64) (.pick (.tmp 59) (.const (.bool true)) (.tmp 63)) none <|
  .op (some 65) (.move (.tmp 64)) none <|
  .op (some 66) (.move (.tmp 12)) (some (65, false)) <|
  .op (some 67) (.move (.tmp 9)) (some (65, false)) <|
  .op (some 68) (.binOp .neq 4 (.tmp 66) (.tmp 67) 4) (some (65, false)) <|
  .op (some 69) (.pick (.tmp 65) (.const (.bool true)) (.tmp 68)) none <|
  .cond (.tmp 69)
    (.op (some 6) (.assign (.const (.bool false))) none <|
      .ret)
    (.done) <|
  .op (some 14) (.assign (.const (.int .i64 1))) none <|
  .op (some 70) (.move (.tmp 11)) none <|
  .op (some 71) (.move (.tmp 14)) none <|
  .op (some 72) (.call ⟨.value (.func 21), ⟨[.tmp 70, .tmp 71]⟩, ⟨[23, 3]⟩⟩) none <|
  .op (some 14) (.assign (.tmp 72)) none <|
  .op (some 15) (.assign (.const (.int .i64 1))) none <|
  .op (some 73) (.move (.tmp 11)) none <|
  .op (some 74) (.move (.tmp 15)) none <|
  .op (some 75) (.call ⟨.value (.func 22), ⟨[.tmp 73, .tmp 74]⟩, ⟨[23, 3]⟩⟩) none <|
  .op (some 15) (.assign (.tmp 75)) none <|
  .op (some 76) (.move (.tmp 15)) none <|
  .op (some 77) (.binOp .lss 3 (.tmp 76) (.const (.int .i64 0)) 3) none <|
  .cond (.tmp 77)
    (.op (some 6) (.assign (.const (.bool false))) none <|
      .ret)
    (.done) <|
  .op (some 78) (.move (.tmp 15)) none <|
  .op (some 79) (.move (.tmp 14)) none <|
  .op (some 80) (.binOp .neq 3 (.tmp 78) (.tmp 79) 3) none <|
  .cond (.tmp 80)
    (.op (some 6) (.assign (.const (.bool false))) none <|
      .ret)
    (.done) <|
  .op (some 82) (.load 36 (.tmp 3)) none <|
  .op (some 83) (.call ⟨.value (.func 16), ⟨[.tmp 82]⟩, ⟨[36]⟩⟩) none <|
  .op (some 84) (.move (.tmp 1)) none <|
  .op (some 85) (.move (.tmp 2)) none <|
  .op (some 86) (.call ⟨.value (.func 26), ⟨[.tmp 83, .tmp 84, .tmp 85]⟩, ⟨[40, 3, 3]⟩⟩) none <|
  .op (some 81) (.move (.tmp 86)) none <|
  .op (some 87) (.extract (.tmp 81) 0) none <|
  .op (some 88) (.extract (.tmp 81) 1) none <|
  .op (some 16) (.assign (.tmp 87)) none <|
  .op (some 17) (.assign (.tmp 88)) none <|
  .op (some 89) (.move (.tmp 16)) none <|
  .op (some 90) (.move (.tmp 8)) none <|
  .op (some 91) (.call ⟨.value (.func 18), ⟨[.tmp 89, .tmp 90]⟩, ⟨[23, 23]⟩⟩) none <|
  .op (some 92) (.unOp .not 4 (.tmp 91)) none <|
  .op (some 93) (.move (.tmp 92)) none <|
  .op (some 94) (.move (.tmp 17)) (some (93, false)) <|
  .op (some 95) (.move (.tmp 9)) (some (93, false)) <|
  .op (some 96) (.binOp .neq 4 (.tmp 94) (.tmp 95) 4) (some (93, false)) <|
  .op (some 97) (.pick (.tmp 93) (.const (.bool true)) (.tmp 96)) none <|
  .cond (.tmp 97)
    (.op (some 6) (.assign (.const (.bool false))) none <|
      .ret)
    (.done) <|
  .op (some 15) (.assign (.const (.int .i64 1))) none <|
  .op (some 98) (.move (.tmp 11)) none <|
  .op (some 99) (.move (.tmp 15)) none <|
  .op (some 100) (.call ⟨.value (.func 22), ⟨[.tmp 98, .tmp 99]⟩, ⟨[23, 3]⟩⟩) none <|
  .op (some 15) (.assign (.tmp 100)) none <|
  .op (some 101) (.move (.tmp 15)) none <|
  .op (some 102) (.binOp .lss 3 (.tmp 101) (.const (.int .i64 0)) 3) none <|
  .cond (.tmp 102)
    (.op (some 6) (.assign (.const (.bool false))) none <|
      .ret)
    (.done) <|
  .op (some 103) (.move (.tmp 15)) none <|
  .op (some 104) (.move (.tmp 14)) none <|
  .op (some 105) (.binOp .neq 3 (.tmp 103) (.tmp 104) 3) none <|
  .cond (.tmp 105)
    (.op (some 6) (.assign (.const (.bool false))) none <|
      .ret)
    (.done) <|
  .op (some 6) (.assign (.const (.bool true))) none <|
  .ret
theorem h6 : compF md0 Try.f6 = c6 := by kernel_rfl
theorem r6 : Try.f6.results.toList = [.tmp 6] := _root_.id (by kernel_rfl)
theorem nt6 : Try.f6.ntmps = 106 := by kernel_rfl
/-- laws.FnExactWeatherFrom -/
theorem md_7 : md0 7 = false := rfl
def c7 : XC :=
  .op (some 4) (.box 36 (.tmp 0)) none <|
  .op (some 8) (.assign (.const (.bool false))) none <|
  .op (some 9) (.assign (.const (.int .i64 1048576))) none <|
  .op (some 20) (.load 36 (.tmp 4)) none <|
  .op (some 21) (.move (.tmp 9)) none <|
  .op (some 22) (.call ⟨.value (.func 14), ⟨[.tmp 20, .tmp 21]⟩, ⟨[36, 3]⟩⟩) none <|
  .op (some 9) (.assign (.tmp 22)) none <|
  .op (some 23) (.move (.tmp 9)) none <|
  .op (some 24) (.binOp .lss 3 (.tmp 23) (.const (.int .i64 0)) 3) none <|
  .cond (.tmp 24)
    (.op (some 8) (.assign (.const (.bool true))) none <|
      .ret)
    (.done) <|
  .op (some 26) (.load 36 (.tmp 4)) none <|
  .op (some 27) (.call ⟨.value (.func 16), ⟨[.tmp 26]⟩, ⟨[36]⟩⟩) none <|
  .op (some 28) (.move (.tmp 1)) none <|
  .op (some 29) (.move (.tmp 2)) none <|
  .op (some 30) (.move (.tmp 3)) none <|
  .op (some 31) (.call ⟨.value (.func 27), ⟨[.tmp 27, .tmp 28, .tmp 29, .tmp 30]⟩, ⟨[40, 3, 3, 3]⟩⟩) none <|
  .op (some 25) (.move (.tmp 31)) none <|
  .op (some 32) (.extract (.tmp 25) 0) none <|
  .op (some 33) (.extract (.tmp 25) 1) none <|
  .op (some 10) (.assign (.tmp 32)) none <|
  .op (some 11) (.assign (.tmp 33)) none <|
  .op (some 34) (.load 36 (.tmp 4)) none <|
  .op (some 35) (.call ⟨.value (.func 16), ⟨[.tmp 34]⟩, ⟨[36]⟩⟩) none <|
  .op (some 12) (.alloc 40) none <|
  .op none (.store 40 (.tmp 12) (.tmp 35)) none <|
  .op (some 37) (.load 40 (.tmp 12)) none <|
  .op (some 38) (.move (.tmp 1)) none <|
  .op (some 39) (.move (.tmp 2)) none <|
  .op (some 40) (.move (.tmp 3)) none <|
  .op (some 41) (.call ⟨.value (.func 28), ⟨[.tmp 37, .tmp 38, .tmp 39, .tmp 40]⟩, ⟨[40, 3, 3, 3]⟩⟩) none <|
  .op (some 36) (.move (.tmp 41)) none <|
  .op (some 42) (.extract (.tmp 36) 0) none <|
  .op (some 43) (.extract (.tmp 36) 1) none <|
  .op (some 13) (.assign (.tmp 42)) none <|
  .op (some 14) (.assign (.tmp 43)) none <|
  .op (some 44) (.move (.tmp 13)) none <|
  .op (some 45) (.move (.tmp 10)) none <|
  .op (some 46) (.call ⟨.value (.func 18), ⟨[.tmp 44, .tmp 45]⟩, ⟨[23, 23]⟩⟩) none <|
  .op (some 47) (.unOp .not 4 (.tmp 46)) none <|
  .op (some 48) (.move (.tmp 47)) none <|
  .op (some 49) (.move (.tmp 14)) (some (48, false)) <|
  .op (some 50) (.move (.tmp 11)) (some (48, false)) <|
  .op (some 51) (.binOp .neq 4 (.tmp 49) (.tmp 50) 4) (some (48, false)) <|
  .op (some 52) (.pick (.tmp 48) (.const (.bool true)) (.tmp 51)) none <|
  .cond (.tmp 52)
    (.op (some 8) (.assign (.const (.bool false))) none <|
      .ret)
    (.done) <|
  .op (some 53) (.load 40 (.tmp 12)) none <|
  .op (some 54) (.load 36 (.tmp 4)) none <|
  .op (some 55) (.call ⟨.value (.func 16), ⟨[.tmp 54]⟩, ⟨[36]⟩⟩) none <|
  .op (some 56) (.call ⟨.value (.func 19), ⟨[.tmp 53, .tmp 55]⟩, ⟨[40, 40]⟩⟩) none <|
  .op (some 57) (.unOp .not 4 (.tmp 56)) none <|
  .cond (.tmp 57)
    (.op (some 8) (.assign (.const (.bool false))) none <|
      .ret)
    (.done) <|
  .op (some 15) (.assign (.const (.int .i64 1))) none <|
  .op (some 58) (.load 40 (.tmp 12)) none <|
  .op (some 59) (.move (.tmp 15)) none <|
  .op (some 60) (.call ⟨.value (.func 20), ⟨[.tmp 58, .tmp 59]⟩, ⟨[40, 3]⟩⟩) none <|
  .op (some 15) (.assign (.tmp 60)) none <|
  .op (some 61) (.move (.tmp 15)) none <|
  .op (some 62) (.binOp .lss 3 (.tmp 61) (.const (.int .i64 0)) 3) none <|
  .op (some 63) (.move (.tmp 62)) none <|
  .op (some 64) (.move (.tmp 13)) (some (63, false)) <|
  .op (some 65) (.move (.tmp 10)) (some (63, false)) <|
  .op (some 66) (.call ⟨.value (.func 18), ⟨[.tmp 64, .tmp 65]⟩, ⟨[23, 23]⟩⟩) (some (63, false)) <|
  .op (some 67) (.unOp .not 4 (.tmp 66)) (some (63, false)) <|
  .op (some 68) (.pick (.tmp 63) (.const (.bool true)) (.tmp 67)) none <|
  .op (some 69) (.move (.tmp 68)) none <|
  .op (some 70) (.move (.tmp 14)) (some (69, false)) <|
  .op (some 71) (.move (.tmp 11)) (some (69, false)) <|
  .op (some 72) (.binOp .neq 4 (.tmp 70) (.tmp 71) 4) (some (69, false)) <|
  .op (some 73) (.pick (.tmp 69) (.const (.bool true)) (.tmp 72)) none <|
  .cond (.tmp 73)
    (.op (some 8) (.assign (.const (.bool false))) none <|
      .ret)
    (.done) <|
  .op (some 16) (.assign (.const (.int .i64 1))) none <|
  .op (some 74) (.move (.tmp 13)) none <|
  .op (some 75) (.move (.tmp 16)) none <|
  .op (some 76) (.call ⟨.value (.func 21), ⟨[.tmp 74, .tmp 75]⟩, ⟨[23, 3]⟩⟩) none <|
  .op (some 16) (.assign (.tmp 76)) none <|
  .op (some 17) (.assign (.const (.int .i64 1))) none <|
  .op (some 77) (.move (.tmp 13)) none <|
  .op (some 78) (.move (.tmp 17)) none <|
  .op (some 79) (.call ⟨.value (.func 22), ⟨[.tmp 77, .tmp 78]⟩, ⟨[23, 3]⟩⟩) none <|
  .op (some 17) (.assign (.tmp 79)) none <|
  .op (some 80) (.move (.tmp 17)) none <|
  .op (some 81) (.binOp .lss 3 (.tmp 80) (.const (.int .i64 0)) 3) none <|
  .cond (.tmp 81)
    (.op (some 8) (.assign (.const (.bool false))) none <|
      .ret)
    (.done) <|
  .op (some 82) (.move (.tmp 17)) none <|
  .op (some 83) (.move (.tmp 16)) none <|
  .op (some 84) (.binOp .neq 3 (.tmp 82) (.tmp 83) 3) none <|
  .cond (.tmp 84)
    (.op (some 8) (.assign (.const (.bool false))) none <|
      .ret)
    (.done) <|
  .op (some 86) (.load 36 (.tmp 4)) none <|
  .op (some 87) (.call ⟨.value (.func 16), ⟨[.tmp 86]⟩, ⟨[36]⟩⟩) none <|
  .op (some 88) (.move (.tmp 1)) none <|
  .op (some 89) (.move (.tmp 2)) none <|
  .op (some 90) (.move (.tmp 3)) none <|
  .op (some 91) (.call ⟨.value (.func 28), ⟨[.tmp 87, .tmp 88, .tmp 89, .tmp 90]⟩, ⟨[40, 3, 3, 3]⟩⟩) none <|
  .op (some 85) (.move (.tmp 91)) none <|
  .op (some 92) (.extract (.tmp 85) 0) none <|
  .op (some 93) (.extract (.tmp 85) 1) none <|
  .op (some 18) (.assign (.tmp 92)) none <|
  .op (some 19) (.assign (.tmp 93)) none <|
  .op (some 94) (.move (.tmp 18)) none <|
  .op (some 95) (.move (.tmp 10)) none <|
  .op (some 96) (.call ⟨.value (.func 18), ⟨[.tmp 94, .tmp 95]⟩, ⟨[23, 23]⟩⟩) none <|
  .op (some 97) (.unOp .not 4 (.tmp 96)) none <|
  .op (some 98) (.move (.tmp 97)) none <|
  .op (some 99) (.move (.tmp 19)) (some (98, false)) <|
  .op (some 100) (.move (.tmp 11)) (some (98, false)) <|
  .op (some 101) (.binOp .neq 4 (.tmp 99) (.tmp 100) 4) (some (98, false)) <|
  .op (some 102) (.pick (.tmp 98) (.const (.bool true)) (.tmp 101)) none <|
  .cond (.tmp 102)
    (.op (some 8) (.assign (.const (.bool false))) none <|
      .ret)
    (.done) <|
  .op (some 17) (.assign (.const (.int .i64 1))) none <|
  .op (some 103) (.move (.tmp 13)) none <|
  .op (some 104) (.move (.tmp 17)) none <|
  .op (some 105) (.call ⟨.value (.func 22), ⟨[.tmp 103, .tmp 104]⟩, ⟨[23, 3]⟩⟩) none <|
  .op (some 17) (.assign (.tmp 105)) none <|
  .op (some 106) (.move (.tmp 17)) none <|
  .op (some 107) (.binOp .lss 3 (.tmp 106) (.const (.int .i64 0)) 3) none <|
  .cond (.tmp 107)
    (.op (some 8) (.assign (.const (.bool false))) none <|
      .ret)
    (.done) <|
  .op (some 108) (.move (.tmp 17)) none <|
  .op (some 109) (.move (.tmp 16)) none <|
  .op (some 110) (.binOp .neq 3 (.tmp 108) (.tmp 109) 3) none <|
  .cond (.tmp 110)
    (.op (some 8) (.assign (.const (.bool false))) none <|
      .ret)
    (.done) <|
  .op (some 8) (.assign (.const (.bool true))) none <|
  .ret
theorem h7 : compF md0 Try.f7 = c7 := by kernel_rfl
theorem r7 : Try.f7.results.toList = [.tmp 8] := _root_.id (by kernel_rfl)
theorem nt7 : Try.f7.ntmps = 111 := by kernel_rfl
/-- laws.FnExactCutLoad -/
theorem md_8 : md0 8 = false := rfl
def c8 : XC :=
  .op (some 3) (.box 25 (.tmp 0)) none <|
  .op (some 6) (.assign (.const (.bool false))) none <|
  .op (some 14) (.move (.tmp 2)) none <|
  .op (some 15) (.call ⟨.builtin .len, ⟨[.tmp 14]⟩, ⟨[23]⟩⟩) none <|
  .op (some 16) (.binOp .gtr 3 (.tmp 15) (.const (.int .i64 1048576)) 3) none <|
  .cond (.tmp 16)
    (.op (some 6) (.assign (.const (.bool true))) none <|
      .ret)
    (.done) <|
  .op (some 7) (.assign (.const (.int .i64 1048576))) none <|
  .op (some 17) (.load 25 (.tmp 3)) none <|
  .op (some 18) (.move (.tmp 7)) none <|
  .op (some 19) (.call ⟨.value (.func 9), ⟨[.tmp 17, .tmp 18]⟩, ⟨[25, 3]⟩⟩) none <|
  .op (some 7) (.assign (.tmp 19)) none <|
  .op (some 20) (.move (.tmp 7)) none <|
  .op (some 21) (.binOp .lss 3 (.tmp 20) (.const (.int .i64 0)) 3) none <|
  .cond (.tmp 21)
    (.op (some 6) (.assign (.const (.bool true))) none <|
      .ret)
    (.done) <|
  .op (some 23) (.load 25 (.tmp 3)) none <|
  .op (some 24) (.call ⟨.value (.func 11), ⟨[.tmp 23]⟩, ⟨[25]⟩⟩) none <|
  .op (some 25) (.move (.tmp 1)) none <|
  .op (some 26) (.move (.tmp 2)) none <|
  .op (some 27) (.call ⟨.value (.func 30), ⟨[.tmp 26]⟩, ⟨[23]⟩⟩) none <|
  .op (some 28) (.call ⟨.value (.func 29), ⟨[.tmp 24, .tmp 25, .tmp 27]⟩, ⟨[30, 3, 23]⟩⟩) none <|
  .op (some 22) (.move (.tmp 28)) none <|
  .op (some 29) (.extract (.tmp 22) 0) none <|
  .op (some 30) (.extract (.tmp 22) 1) none <|
  .op (some 8) (.assign (.tmp 29)) none <|
  .op (some 9) (.assign (.tmp 30)) none <|
  .op (some 31) (.load 25 (.tmp 3)) none <|
  .op (some 32) (.call ⟨.value (.func 11), ⟨[.tmp 31]⟩, ⟨[25]⟩⟩) none <|
  .op (some 10) (.alloc 30) none <|
  .op none (.store 30 (.tmp 10) (.tmp 32)) none <|
  .op (some 33) (.move (.tmp 2)) none <|
  .op (some 34) (.call ⟨.value (.func 30), ⟨[.tmp 33]⟩, ⟨[23]⟩⟩) none <|
  .op (some 11) (.assign (.tmp 34)) none <|
  .op (some 36) (.load 30 (.tmp 10)) none <|
  .op (some 37) (.move (.tmp 1)) none <|
  .op (some 38) (.move (.tmp 11)) none <|
  .op (some 39) (.call ⟨.value (.func 31), ⟨[.tmp 36, .tmp 37, .tmp 38]⟩, ⟨[30, 3, 23]⟩⟩) none <|
  .op (some 35) (.move (.tmp 39)) none <|
  .op (some 40) (.extract (.tmp 35) 0) none <|
  .op (some 41) (.extract (.tmp 35) 1) none <|
  .op (some 12) (.assign (.tmp 40)) none <|
  .op (some 13) (.assign (.tmp 41)) none <|
  .op (some 42) (.move (.tmp 12)) none <|
  .op (some 43) (.move (.tmp 8)) none <|
  .op (some 44) (.binOp .neq 3 (.tmp 42) (.tmp 43) 3) none <|
  .op (some 45) (.move (.tmp 44)) none <|
  .op (some 46) (.move (.tmp 13)) (some (45, false)) <|
  .op (some 47) (.move (.tmp 9)) (some (45, false)) <|
  .op (some 48) (.binOp .neq 4 (.tmp 46) (.tmp 47) 4) (some (45, false)) <|
  .op (some 49) (.pick (.tmp 45) (.const (.bool true)) (.tmp 48)) none <|
  .cond (.tmp 49)
    (.op (some 6) (.assign (.const (.bool false))) none <|
      .ret)
    (.done) <|
  .op (some 50) (.load 30 (.tmp 10)) none <|
  .op (some 51) (.load 25 (.tmp 3)) none <|
  .op (some 52) (.call ⟨.value (.func 11), ⟨[.tmp 51]⟩, ⟨[25]⟩⟩) none <|
  .op (some 53) (.call ⟨.value (.func 13), ⟨[.tmp 50, .tmp 52]⟩, ⟨[30, 30]⟩⟩) none <|
  .op (some 54) (.unOp .not 4 (.tmp 53)) none <|
  .cond (.tmp 54)
    (.op (some 6) (.assign (.const (.bool false))) none <|
      .ret)
    (.done) <|
  .op (some 55) (.move (.tmp 11)) none <|
  .op (some 56) (.move (.tmp 2)) none <|
  .op (some 57) (.call ⟨.value (.func 30), ⟨[.tmp 56]⟩, ⟨[23]⟩⟩) none <|
  .op (some 58) (.call ⟨.value (.func 18), ⟨[.tmp 55, .tmp 57]⟩, ⟨[23, 23]⟩⟩) none <|
  .op (some 59) (.unOp .not 4 (.tmp 58)) none <|
  .cond (.tmp 59)
    (.op (some 6) (.assign (.const (.bool false))) none <|
      .ret)
    (.done) <|
  .op (some 6) (.assign (.const (.bool true))) none <|
  .ret
theorem h8 : compF md0 Try.f8 = c8 := by kernel_rfl
theorem r8 : Try.f8.results.toList = [.tmp 6] := _root_.id (by kernel_rfl)
theorem nt8 : Try.f8.ntmps = 60 := by kernel_rfl
/-- laws.szLanes -/
theorem md_9 : md0 9 = false := rfl
def c9 : XC :=
  .op (some 2) (.box 25 (.tmp 0)) none <|
  .op (some 4) (.assign (.const (.int .i64 0))) none <|
  .op (some 5) (.fieldAddr 25 (.tmp 2) 1) none <|
  .op (some 6) (.load 22 (.tmp 5)) none <|
  .op (some 7) (.move (.tmp 1)) none <|
  .op (some 8) (.call ⟨.value (.func 32), ⟨[.tmp 6, .tmp 7]⟩, ⟨[22, 3]⟩⟩) none <|
  .op (some 1) (.assign (.tmp 8)) none <|
  .op (some 9) (.move (.tmp 1)) none <|
  .op (some 10) (.binOp .lss 3 (.tmp 9) (.const (.int .i64 0)) 3) none <|
  .cond (.tmp 10)
    (.op (some 4) (.assign (.const (.int .i64 (-1)))) none <|
      .ret)
    (.done) <|
  .op (some 11) (.fieldAddr 25 (.tmp 2) 2) none <|
  .op (some 12) (.load 23 (.tmp 11)) none <|
  .op (some 13) (.move (.tmp 1)) none <|
  .op (some 14) (.call ⟨.value (.func 33), ⟨[.tmp 12, .tmp 13]⟩, ⟨[23, 3]⟩⟩) none <|
  .op (some 1) (.assign (.tmp 14)) none <|
  .op (some 15) (.move (.tmp 1)) none <|
  .op (some 16) (.binOp .lss 3 (.tmp 15) (.const (.int .i64 0)) 3) none <|
  .cond (.tmp 16)
    (.op (some 4) (.assign (.const (.int .i64 (-1)))) none <|
      .ret)
    (.done) <|
  .op (some 17) (.move (.tmp 1)) none <|
  .op (some 4) (.assign (.tmp 17)) none <|
  .ret
theorem h9 : compF md0 Try.f9 = c9 := by kernel_rfl
theorem r9 : Try.f9.results.toList = [.tmp 4] := _root_.id (by kernel_rfl)
theorem nt9 : Try.f9.ntmps = 18 := by kernel_rfl
/-- spec.IsLanes -/
theorem md_10 : md0 10 = false := rfl
def c10 : XC :=
  .op (some 1) (.box 30 (.tmp 0)) none <|
  .op (some 2) (.assign (.const (.bool false))) none <|
  .op (some 3) (.load 30 (.tmp 1)) none <|
  .op (some 4) (.call ⟨.value (.func 34), ⟨[.tmp 3]⟩, ⟨[30]⟩⟩) none <|
  .op (some 2) (.assign (.tmp 4)) none <|
  .ret
theorem h10 : compF md0 Try.f10 = c10 := by kernel_rfl
theorem r10 : Try.f10.results.toList = [.tmp 2] := _root_.id (by kernel_rfl)
theorem nt10 : Try.f10.ntmps = 5 := by kernel_rfl
/-- laws.toLanes -/
theorem md_11 : md0 11 = false := rfl
def c11 : XC :=
  .op (some 1) (.box 25 (.tmp 0)) none <|
  .op (some 2) (.alloc 30) none <|
  .op (some 3) (.alloc 30) none <|
  .op (some 4) (.fieldAddr 25 (.tmp 1) 0) none <|
  .op (some 5) (.load 3 (.tmp 4)) none <|
  .op (some 6) (.fieldAddr 30 (.tmp 3) 0) none <|
  .op none (.store 3 (.tmp 6) (.tmp 5)) none <|
  .op (some 7) (.fieldAddr 25 (.tmp 1) 1) none <|
  .op (some 8) (.load 22 (.tmp 7)) none <|
  .op (some 9) (.call ⟨.value (.func 35), ⟨[.tmp 8]⟩, ⟨[22]⟩⟩) none <|
  .op (some 10) (.fieldAddr 30 (.tmp 3) 1) none <|
  .op none (.store 28 (.tmp 10) (.tmp 9)) none <|
  .op (some 11) (.fieldAddr 25 (.tmp 1) 2) none <|
  .op (some 12) (.load 23 (.tmp 11)) none <|
  .op (some 13) (.call ⟨.value (.func 30), ⟨[.tmp 12]⟩, ⟨[23]⟩⟩) none <|
  .op (some 14) (.fieldAddr 30 (.tmp 3) 2) none <|
  .op none (.store 23 (.tmp 14) (.tmp 13)) none <|
  .op (some 15) (.load 30 (.tmp 3)) none <|
  .op none (.store 30 (.tmp 2) (.tmp 15)) none <|
  .ret
theorem h11 : compF md0 Try.f11 = c11 := by kernel_rfl
theorem r11 : Try.f11.results.toList = [.cell 2 30] := _root_.id (by kernel_rfl)
theorem nt11 : Try.f11.ntmps = 16 := by kernel_rfl
/-- impl.IsLanes -/
theorem md_12 : md0 12 = false := rfl
def c12 : XC :=
  .op (some 1) (.box 30 (.tmp 0)) none <|
  .op (some 2) (.assign (.const (.bool false))) none <|
  .op (some 5) (.fieldAddr 30 (.tmp 1) 0) none <|
  .op (some 6) (.load 3 (.tmp 5)) none <|
  .op (some 7) (.call ⟨.value (.func 36), ⟨[.tmp 6, .const (.int .i64 2), .const (.int .i64 6)]⟩, ⟨[3, 3, 3]⟩⟩) none <|
  .op (some 8) (.unOp .not 4 (.tmp 7)) none <|
  .op (some 9) (.move (.tmp 8)) none <|
  .op (some 10) (.fieldAddr 30 (.tmp 1) 1) (some (9, false)) <|
  .op (some 11) (.load 28 (.tmp 10)) (some (9, false)) <|
  .op (some 12) (.call ⟨.builtin .len, ⟨[.tmp 11]⟩, ⟨[28]⟩⟩) (some (9, false)) <|
  .op (some 13) (.binOp .gtr 3 (.tmp 12) (.const (.int .i64 15)) 3) (some (9, false)) <|
  .op (some 14) (.pick (.tmp 9) (.const (.bool true)) (.tmp 13)) none <|
  .op (some 15) (.move (.tmp 14)) none <|
  .op (some 16) (.fieldAddr 30 (.tmp 1) 2) (some (15, false)) <|
  .op (some 17) (.load 23 (.tmp 16)) (some (15, false)) <|
  .op (some 18) (.call ⟨.builtin .len, ⟨[.tmp 17]⟩, ⟨[23]⟩⟩) (some (15, false)) <|
  .op (some 19) (.fieldAddr 30 (.tmp 1) 0) (some (15, false)) <|
  .op (some 20) (.load 3 (.tmp 19)) (some (15, false)) <|
  .op (some 21) (.binOp .neq 3 (.tmp 18) (.tmp 20) 3) (some (15, false)) <|
  .op (some 22) (.pick (.tmp 15) (.const (.bool true)) (.tmp 21)) none <|
  .cond (.tmp 22)
    (.op (some 2) (.assign (.const (.bool false))) none <|
      .ret)
    (.done) <|
  .op (some 23) (.fieldAddr 30 (.tmp 1) 1) none <|
  .op (some 24) (.load 28 (.tmp 23)) none <|
  .op (some 25) (.call ⟨.builtin .len, ⟨[.tmp 24]⟩, ⟨[28]⟩⟩) none <|
  .op (some 26) (.move (.const (.int .i64 0))) none <|
  .block 0
    (.loop <|
      .op (some 27) (.binOp .lss 3 (.tmp 26) (.tmp 25) 3) none <|
      .cond (.tmp 27)
        (.done)
        (.exit 0) <|
      .block 1
        (.op (some 28) (.indexAddr 28 (.tmp 24) (.tmp 26)) none <|
          .op (some 29) (.load 58 (.tmp 28)) none <|
          .op (some 4) (.alloc 58) none <|
          .op none (.store 58 (.tmp 4) (.tmp 29)) none <|
          .op (some 30) (.fieldAddr 58 (.tmp 4) 0) none <|
          .op (some 31) (.load 3 (.tmp 30)) none <|
          .op (some 32) (.fieldAddr 30 (.tmp 1) 0) none <|
          .op (some 33) (.load 3 (.tmp 32)) none <|
          .op (some 34) (.call ⟨.value (.func 37), ⟨[.tmp 31, .tmp 33]⟩, ⟨[3, 3]⟩⟩) none <|
          .op (some 35) (.unOp .not 4 (.tmp 34)) none <|
          .op (some 36) (.move (.tmp 35)) none <|
          .op (some 37) (.fieldAddr 58 (.tmp 4) 1) (some (36, false)) <|
          .op (some 38) (.load 3 (.tmp 37)) (some (36, false)) <|
          .op (some 39) (.fieldAddr 30 (.tmp 1) 0) (some (36, false)) <|
          .op (some 40) (.load 3 (.tmp 39)) (some (36, false)) <|
          .op (some 41) (.call ⟨.value (.func 37), ⟨[.tmp 38, .tmp 40]⟩, ⟨[3, 3]⟩⟩) (some (36, false)) <|
          .op (some 42) (.unOp .not 4 (.tmp 41)) (some (36, false)) <|
          .op (some 43) (.pick (.tmp 36) (.const (.bool true)) (.tmp 42)) none <|
          .op (some 44) (.move (.tmp 43)) none <|
          .op (some 45) (.fieldAddr 58 (.tmp 4) 0) (some (44, false)) <|
          .op (some 46) (.load 3 (.tmp 45)) (some (44, false)) <|
          .op (some 47) (.fieldAddr 58 (.tmp 4) 1) (some (44, false)) <|
          .op (some 48) (.load 3 (.tmp 47)) (some (44, false)) <|
          .op (some 49) (.binOp .eql 3 (.tmp 46) (.tmp 48) 3) (some (44, false)) <|
          .op (some 50) (.pick (.tmp 44) (.const (.bool true)) (.tmp 49)) none <|
          .op (some 51) (.move (.tmp 50)) none <|
          .op (some 52) (.fieldAddr 58 (.tmp 4) 2) (some (51, false)) <|
          .op (some 53) (.load 3 (.tmp 52)) (some (51, false)) <|
          .op (some 54) (.call ⟨.value (.func 36), ⟨[.tmp 53, .const (.int .i64 0), .const (.int .i64 1000)]⟩, ⟨[3, 3, 3]⟩⟩) (some (51, false)) <|
          .op (some 55) (.unOp .not 4 (.tmp 54)) (some (51, false)) <|
          .op (some 56) (.pick (.tmp 51) (.const (.bool true)) (.tmp 55)) none <|
          .cond (.tmp 56)
            (.op (some 2) (.assign (.const (.bool false))) none <|
            .ret)
            (.done) <|
          .done) <|
      .op (some 57) (.binOp .add 3 (.tmp 26) (.const (.int .i64 1)) 3) none <|
      .op (some 26) (.move (.tmp 57)) none <|
      .done) <|
  .op (some 58) (.fieldAddr 30 (.tmp 1) 2) none <|
  .op (some 59) (.load 23 (.tmp 58)) none <|
  .op (some 60) (.call ⟨.value (.func 38), ⟨[.tmp 59, .func 39]⟩, ⟨[23, 61]⟩⟩) none <|
  .op (some 61) (.unOp .not 4 (.tmp 60)) none <|
  .op (some 2) (.assign (.tmp 61)) none <|
  .ret
theorem h12 : compF md0 Try.f12 = c12 := by kernel_rfl
theorem r12 : Try.f12.results.toList = [.tmp 2] := _root_.id (by kernel_rfl)
theorem nt12 : Try.f12.ntmps = 62 := by kernel_rfl
/-- laws.eqLanes -/
theorem md_13 : md0 13 = false := rfl
def c13 : XC :=
  .op (some 2) (.box 30 (.tmp 0)) none <|
  .op (some 3) (.box 30 (.tmp 1)) none <|
  .op (some 4) (.assign (.const (.bool false))) none <|
  .op (some 5) (.fieldAddr 30 (.tmp 2) 0) none <|
  .op (some 6) (.load 3 (.tmp 5)) none <|
  .op (some 7) (.fieldAddr 30 (.tmp 3) 0) none <|
  .op (some 8) (.load 3 (.tmp 7)) none <|
  .op (some 9) (.binOp .neq 3 (.tmp 6) (.tmp 8) 3) none <|
  .cond (.tmp 9)
    (.op (some 4) (.assign (.const (.bool false))) none <|
      .ret)
    (.done) <|
  .op (some 10) (.fieldAddr 30 (.tmp 2) 1) none <|
  .op (some 11) (.load 28 (.tmp 10)) none <|
  .op (some 12) (.fieldAddr 30 (.tmp 3) 1) none <|
  .op (some 13) (.load 28 (.tmp 12)) none <|
  .op (some 14) (.call ⟨.value (.func 40), ⟨[.tmp 11, .tmp 13]⟩, ⟨[28, 28]⟩⟩) none <|
  .op (some 15) (.unOp .not 4 (.tmp 14)) none <|
  .cond (.tmp 15)
    (.op (some 4) (.assign (.const (.bool false))) none <|
      .ret)
    (.done) <|
  .op (some 16) (.fieldAddr 30 (.tmp 2) 2) none <|
  .op (some 17) (.load 23 (.tmp 16)) none <|
  .op (some 18) (.fieldAddr 30 (.tmp 3) 2) none <|
  .op (some 19) (.load 23 (.tmp 18)) none <|
  .op (some 20) (.call ⟨.value (.func 18), ⟨[.tmp 17, .tmp 19]⟩, ⟨[23, 23]⟩⟩) none <|
  .op (some 21) (.unOp .not 4 (.tmp 20)) none <|
  .cond (.tmp 21)
    (.op (some 4) (.assign (.const (.bool false))) none <|
      .ret)
    (.done) <|
  .op (some 4) (.assign (.const (.bool true))) none <|
  .ret
theorem h13 : compF md0 Try.f13 = c13 := by kernel_rfl
theorem r13 : Try.f13.results.toList = [.tmp 4] := _root_.id (by kernel_rfl)
theorem nt13 : Try.f13.ntmps = 22 := by kernel_rfl
/-- laws.szClimate -/
theorem md_14 : md0 14 = false := rfl
def c14 : XC :=
  .op (some 2) (.box 36 (.tmp 0)) none <|
  .op (some 4) (.assign (.const (.int .i64 0))) none <|
  .op (some 5) (.fieldAddr 36 (.tmp 2) 0) none <|
  .op (some 6) (.load 34 (.tmp 5)) none <|
  .op (some 7) (.move (.tmp 1)) none <|
  .op (some 8) (.call ⟨.value (.func 41), ⟨[.tmp 6, .tmp 7]⟩, ⟨[34, 3]⟩⟩) none <|
  .op (some 1) (.assign (.tmp 8)) none <|
  .op (some 9) (.move (.tmp 1)) none <|
  .op (some 10) (.binOp .lss 3 (.tmp 9) (.const (.int .i64 0)) 3) none <|
  .cond (.tmp 10)
    (.op (some 4) (.assign (.const (.int .i64 (-1)))) none <|
      .ret)
    (.done) <|
  .op (some 11) (.move (.tmp 1)) none <|
  .op (some 4) (.assign (.tmp 11)) none <|
  .ret
theorem h14 : compF md0 Try.f14 = c14 := by kernel_rfl
theorem r14 : Try.f14.results.toList = [.tmp 4] := _root_.id (by kernel_rfl)
theorem nt14 : Try.f14.ntmps = 12 := by kernel_rfl
/-- spec.ChancesAfter -/
theorem md_15 : md0 15 = false := rfl
def c15 : XC :=
  .op (some 3) (.box 40 (.tmp 0)) none <|
  .op (some 6) (.assign (.const (.slice none 0 0))) none <|
  .op (some 7) (.assign (.const (.bool false))) none <|
  .op (some 8) (.load 40 (.tmp 3)) none <|
  .op (some 9) (.move (.tmp 1)) none <|
  .op (some 10) (.call ⟨.value (.func 42), ⟨[.tmp 8, .tmp 9]⟩, ⟨[40, 3]⟩⟩) none <|
  .op (some 11) (.unOp .not 4 (.tmp 10)) none <|
  .op (some 12) (.move (.tmp 11)) none <|
  .op (some 13) (.move (.tmp 2)) (some (12, false)) <|
  .op (some 14) (.call ⟨.value (.func 43), ⟨[.tmp 13, .const (.int .i64 0), .const (.int .i64 6)]⟩, ⟨[3, 3, 3]⟩⟩) (some (12, false)) <|
  .op (some 15) (.unOp .not 4 (.tmp 14)) (some (12, false)) <|
  .op (some 16) (.pick (.tmp 12) (.const (.bool true)) (.tmp 15)) none <|
  .cond (.tmp 16)
    (.op (some 6) (.assign (.const (.slice none 0 0))) none <|
      .op (some 7) (.assign (.const (.bool false))) none <|
      .ret)
    (.done) <|
  .op (some 17) (.load 40 (.tmp 3)) none <|
  .op (some 18) (.move (.tmp 1)) none <|
  .op (some 19) (.move (.tmp 2)) none <|
  .op (some 20) (.call ⟨.value (.func 44), ⟨[.tmp 17, .tmp 18, .tmp 19]⟩, ⟨[40, 3, 3]⟩⟩) none <|
  .op (some 6) (.assign (.tmp 20)) none <|
  .op (some 7) (.assign (.const (.bool true))) none <|
  .ret
theorem h15 : compF md0 Try.f15 = c15 := by kernel_rfl
theorem r15 : Try.f15.results.toList = [.tmp 6, .tmp 7] := _root_.id (by kernel_rfl)
theorem nt15 : Try.f15.ntmps = 21 := by kernel_rfl
/-- laws.toClimate -/
theorem md_16 : md0 16 = false := rfl
def c16 : XC :=
  .op (some 1) (.box 36 (.tmp 0)) none <|
  .op (some 2) (.alloc 40) none <|
  .op (some 3) (.alloc 40) none <|
  .op (some 4) (.fieldAddr 36 (.tmp 1) 0) none <|
  .op (some 5) (.load 34 (.tmp 4)) none <|
  .op (some 6) (.call ⟨.value (.func 45), ⟨[.tmp 5]⟩, ⟨[34]⟩⟩) none <|
  .op (some 7) (.fieldAddr 40 (.tmp 3) 0) none <|
  .op none (.store 34 (.tmp 7) (.tmp 6)) none <|
  .op (some 8) (.load 40 (.tmp 3)) none <|
  .op none (.store 40 (.tmp 2) (.tmp 8)) none <|
  .ret
theorem h16 : compF md0 Try.f16 = c16 := by kernel_rfl
theorem r16 : Try.f16.results.toList = [.cell 2 40] := _root_.id (by kernel_rfl)
theorem nt16 : Try.f16.ntmps = 9 := by kernel_rfl
/-- impl.ChancesAfter -/
theorem md_17 : md0 17 = false := rfl
def c17 : XC :=
  .op (some 3) (.box 40 (.tmp 0)) none <|
  .op (some 6) (.assign (.const (.slice none 0 0))) none <|
  .op (some 7) (.assign (.const (.bool false))) none <|
  .op (some 8) (.load 40 (.tmp 3)) none <|
  .op (some 9) (.move (.tmp 1)) none <|
  .op (some 10) (.call ⟨.value (.func 46), ⟨[.tmp 8, .tmp 9]⟩, ⟨[40, 3]⟩⟩) none <|
  .op (some 11) (.unOp .not 4 (.tmp 10)) none <|
  .op (some 12) (.move (.tmp 11)) none <|
  .op (some 13) (.move (.tmp 2)) (some (12, false)) <|
  .op (some 14) (.call ⟨.value (.func 36), ⟨[.tmp 13, .const (.int .i64 0), .const (.int .i64 6)]⟩, ⟨[3, 3, 3]⟩⟩) (some (12, false)) <|
  .op (some 15) (.unOp .not 4 (.tmp 14)) (some (12, false)) <|
  .op (some 16) (.pick (.tmp 12) (.const (.bool true)) (.tmp 15)) none <|
  .cond (.tmp 16)
    (.op (some 6) (.assign (.const (.slice none 0 0))) none <|
      .op (some 7) (.assign (.const (.bool false))) none <|
      .ret)
    (.done) <|
  .op (some 17) (.load 40 (.tmp 3)) none <|
  .op (some 18) (.move (.tmp 1)) none <|
  .op (some 19) (.move (.tmp 2)) none <|
  .op (some 20) (.call ⟨.value (.func 47), ⟨[.tmp 17, .tmp 18, .tmp 19]⟩, ⟨[40, 3, 3]⟩⟩) none <|
  .op (some 6) (.assign (.tmp 20)) none <|
  .op (some 7) (.assign (.const (.bool true))) none <|
  .ret
theorem h17 : compF md0 Try.f17 = c17 := by kernel_rfl
theorem r17 : Try.f17.results.toList = [.tmp 6, .tmp 7] := _root_.id (by kernel_rfl)
theorem nt17 : Try.f17.ntmps = 21 := by kernel_rfl
/-- laws.eqIntS -/
theorem md_18 : md0 18 = false := rfl
def c18 : XC :=
  .op (some 4) (.assign (.const (.bool false))) none <|
  .op (some 6) (.move (.tmp 0)) none <|
  .op (some 7) (.call ⟨.builtin .len, ⟨[.tmp 6]⟩, ⟨[23]⟩⟩) none <|
  .op (some 8) (.move (.tmp 1)) none <|
  .op (some 9) (.call ⟨.builtin .len, ⟨[.tmp 8]⟩, ⟨[23]⟩⟩) none <|
  .op (some 10) (.binOp .neq 3 (.tmp 7) (.tmp 9) 3) none <|
  .cond (.tmp 10)
    (.op (some 4) (.assign (.const (.bool false))) none <|
      .ret)
    (.done) <|
  .op (some 5) (.assign (.const (.int .i64 0))) none <|
  .block 0
    (.loop <|
      .op (some 11) (.move (.tmp 5)) none <|
      .op (some 12) (.move (.tmp 0)) none <|
      .op (some 13) (.call ⟨.builtin .len, ⟨[.tmp 12]⟩, ⟨[23]⟩⟩) none <|
      .op (some 14) (.binOp .lss 3 (.tmp 11) (.tmp 13) 3) none <|
      .cond (.tmp 14)
        (.done)
        (.exit 0) <|
      .block 1
        (.op (some 17) (.move (.tmp 0)) none <|
          .op (some 18) (.move (.tmp 5)) none <|
          .op (some 19) (.indexAddr 23 (.tmp 17) (.tmp 18)) none <|
          .op (some 20) (.load 3 (.tmp 19)) none <|
          .op (some 21) (.move (.tmp 1)) none <|
          .op (some 22) (.move (.tmp 5)) none <|
          .op (some 23) (.indexAddr 23 (.tmp 21) (.tmp 22)) none <|
          .op (some 24) (.load 3 (.tmp 23)) none <|
          .op (some 25) (.binOp .neq 3 (.tmp 20) (.tmp 24) 3) none <|
          .cond (.tmp 25)
            (.op (some 4) (.assign (.const (.bool false))) none <|
            .ret)
            (.done) <|
          .done) <|
      .op (some 15) (.move (.tmp 5)) none <|
      .op (some 16) (.binOp .add 3 (.tmp 15) (.const (.int .i64 1)) 3) none <|
      .op (some 5) (.assign (.tmp 16)) none <|
      .done) <|
  .op (some 4) (.assign (.const (.bool true))) none <|
  .ret
theorem h18 : compF md0 Try.f18 = c18 := by kernel_rfl
theorem r18 : Try.f18.results.toList = [.tmp 4] := _root_.id (by kernel_rfl)
theorem nt18 : Try.f18.ntmps = 26 := by kernel_rfl
/-- laws.eqClimate -/
theorem md_19 : md0 19 = false := rfl
def c19 : XC :=
  .op (some 2) (.box 40 (.tmp 0)) none <|
  .op (some 3) (.box 40 (.tmp 1)) none <|
  .op (some 4) (.assign (.const (.bool false))) none <|
  .op (some 5) (.fieldAddr 40 (.tmp 2) 0) none <|
  .op (some 6) (.load 34 (.tmp 5)) none <|
  .op (some 7) (.fieldAddr 40 (.tmp 3) 0) none <|
  .op (some 8) (.load 34 (.tmp 7)) none <|
  .op (some 9) (.call ⟨.value (.func 48), ⟨[.tmp 6, .tmp 8]⟩, ⟨[34, 34]⟩⟩) none <|
  .op (some 10) (.unOp .not 4 (.tmp 9)) none <|
  .cond (.tmp 10)
    (.op (some 4) (.assign (.const (.bool false))) none <|
      .ret)
    (.done) <|
  .op (some 4) (.assign (.const (.bool true))) none <|
  .ret
theorem h19 : compF md0 Try.f19 = c19 := by kernel_rfl
theorem r19 : Try.f19.results.toList = [.tmp 4] := _root_.id (by kernel_rfl)
theorem nt19 : Try.f19.ntmps = 11 := by kernel_rfl
/-- laws.markClimate -/
theorem md_20 : md0 20 = true := rfl
def c20 : XC :=
  .op (some 2) (.box 40 (.tmp 0)) none <|
  .op (some 4) (.assign (.const (.int .i64 0))) none <|
  .op (some 5) (.fieldAddr 40 (.tmp 2) 0) none <|
  .op (some 6) (.load 34 (.tmp 5)) none <|
  .op (some 7) (.move (.tmp 1)) none <|
  .op (some 8) (.call ⟨.value (.func 49), ⟨[.tmp 6, .tmp 7]⟩, ⟨[34, 3]⟩⟩) none <|
  .op (some 1) (.assign (.tmp 8)) none <|
  .op (some 9) (.move (.tmp 1)) none <|
  .op (some 4) (.assign (.tmp 9)) none <|
  .ret
theorem h20 : compF md0 Try.f20 = c20 := by kernel_rfl
theorem r20 : Try.f20.results.toList = [.tmp 4] := _root_.id (by kernel_rfl)
theorem nt20 : Try.f20.ntmps = 10 := by kernel_rfl
/-- laws.markIntS -/
theorem md_21 : md0 21 = true := rfl
def c21 : XC :=
  .op (some 4) (.assign (.const (.int .i64 0))) none <|
  .op (some 5) (.assign (.const (.int .i64 0))) none <|
  .block 0
    (.loop <|
      .op (some 6) (.move (.tmp 5)) none <|
      .op (some 7) (.move (.tmp 0)) none <|
      .op (some 8) (.call ⟨.builtin .len, ⟨[.tmp 7]⟩, ⟨[23]⟩⟩) none <|
      .op (some 9) (.binOp .lss 3 (.tmp 6) (.tmp 8) 3) none <|
      .cond (.tmp 9)
        (.done)
        (.exit 0) <|
      .block 1
        (.op (some 12) (.move (.tmp 0)) none <|
          .op (some 13) (.move (.tmp 5)) none <|
          .op (some 14) (.move (.tmp 1)) none <|
          .op (some 15) (.indexAddr 23 (.tmp 12) (.tmp 13)) none <|
          .op none (.store 3 (.tmp 15) (.tmp 14)) none <|
          .op (some 16) (.move (.tmp 1)) none <|
          .op (some 17) (.binOp .add 3 (.tmp 16) (.const (.int .i64 1)) 3) none <|
          .op (some 1) (.assign (.tmp 17)) none <|
          .done) <|
      .op (some 10) (.move (.tmp 5)) none <|
      .op (some 11) (.binOp .add 3 (.tmp 10) (.const (.int .i64 1)) 3) none <|
      .op (some 5) (.assign (.tmp 11)) none <|
      .done) <|
  .op (some 18) (.move (.tmp 1)) none <|
  .op (some 4) (.assign (.tmp 18)) none <|
  .ret
theorem h21 : compF md0 Try.f21 = c21 := by kernel_rfl
theorem r21 : Try.f21.results.toList = [.tmp 4] := _root_.id (by kernel_rfl)
theorem nt21 : Try.f21.ntmps = 19 := by kernel_rfl
/-- laws.heldIntS -/
theorem md_22 : md0 22 = false := rfl
def c22 : XC :=
  .op (some 4) (.assign (.const (.int .i64 0))) none <|
  .op (some 5) (.assign (.const (.int .i64 0))) none <|
  .block 0
    (.loop <|
      .op (some 6) (.move (.tmp 5)) none <|
      .op (some 7) (.move (.tmp 0)) none <|
      .op (some 8) (.call ⟨.builtin .len, ⟨[.tmp 7]⟩, ⟨[23]⟩⟩) none <|
      .op (some 9) (.binOp .lss 3 (.tmp 6) (.tmp 8) 3) none <|
      .cond (.tmp 9)
        (.done)
        (.exit 0) <|
      .block 1
        (.op (some 12) (.move (.tmp 0)) none <|
          .op (some 13) (.move (.tmp 5)) none <|
          .op (some 14) (.indexAddr 23 (.tmp 12) (.tmp 13)) none <|
          .op (some 15) (.load 3 (.tmp 14)) none <|
          .op (some 16) (.move (.tmp 1)) none <|
          .op (some 17) (.binOp .neq 3 (.tmp 15) (.tmp 16) 3) none <|
          .cond (.tmp 17)
            (.op (some 4) (.assign (.const (.int .i64 (-1)))) none <|
            .ret)
            (.done) <|
          .op (some 18) (.move (.tmp 1)) none <|
          .op (some 19) (.binOp .add 3 (.tmp 18) (.const (.int .i64 1)) 3) none <|
          .op (some 1) (.assign (.tmp 19)) none <|
          .done) <|
      .op (some 10) (.move (.tmp 5)) none <|
      .op (some 11) (.binOp .add 3 (.tmp 10) (.const (.int .i64 1)) 3) none <|
      .op (some 5) (.assign (.tmp 11)) none <|
      .done) <|
  .op (some 20) (.move (.tmp 1)) none <|
  .op (some 4) (.assign (.tmp 20)) none <|
  .ret
theorem h22 : compF md0 Try.f22 = c22 := by kernel_rfl
theorem r22 : Try.f22.results.toList = [.tmp 4] := _root_.id (by kernel_rfl)
theorem nt22 : Try.f22.ntmps = 21 := by kernel_rfl
/-- spec.NextWeather -/
theorem md_23 : md0 23 = false := rfl
def c23 : XC :=
  .op (some 4) (.box 40 (.tmp 0)) none <|
  .op (some 8) (.assign (.const (.int .i64 0))) none <|
  .op (some 9) (.assign (.const (.bool false))) none <|
  .op (some 10) (.load 40 (.tmp 4)) none <|
  .op (some 11) (.move (.tmp 1)) none <|
  .op (some 12) (.call ⟨.value (.func 42), ⟨[.tmp 10, .tmp 11]⟩, ⟨[40, 3]⟩⟩) none <|
  .op (some 13) (.unOp .not 4 (.tmp 12)) none <|
  .op (some 14) (.move (.tmp 13)) none <|
  .op (some 15) (.move (.tmp 2)) (some (14, false)) <|
  .op (some 16) (.call ⟨.value (.func 50), ⟨[.tmp 15]⟩, ⟨[3]⟩⟩) (some (14, false)) <|
  .op (some 17) (.unOp .not 4 (.tmp 16)) (some (14, false)) <|
  .op (some 18) (.pick (.tmp 14) (.const (.bool true)) (.tmp 17)) none <|
  .op (some 19) (.move (.tmp 18)) none <|
  .op (some 20) (.move (.tmp 3)) (some (19, false)) <|
  .op (some 21) (.call ⟨.value (.func 43), ⟨[.tmp 20, .const (.int .i64 0), .const (.int .i64 30)]⟩, ⟨[3, 3, 3]⟩⟩) (some (19, false)) <|
  .op (some 22) (.unOp .not 4 (.tmp 21)) (some (19, false)) <|
  .op (some 23) (.pick (.tmp 19) (.const (.bool true)) (.tmp 22)) none <|
  .cond (.tmp 23)
    (.op (some 8) (.assign (.const (.int .i64 0))) none <|
      .op (some 9) (.assign (.const (.bool false))) none <|
      .ret)
    (.done) <|
  .op (some 24) (.load 40 (.tmp 4)) none <|
  .op (some 25) (.move (.tmp 1)) none <|
  .op (some 26) (.move (.tmp 2)) none <|
  .op (some 27) (.move (.tmp 3)) none <|
  .op (some 28) (.call ⟨.value (.func 51), ⟨[.tmp 24, .tmp 25, .tmp 26, .tmp 27]⟩, ⟨[40, 3, 3, 3]⟩⟩) none <|
  .op (some 8) (.assign (.tmp 28)) none <|
  .op (some 9) (.assign (.const (.bool true))) none <|
  .ret
theorem h23 : compF md0 Try.f23 = c23 := by kernel_rfl
theorem r23 : Try.f23.results.toList = [.tmp 8, .tmp 9] := _root_.id (by kernel_rfl)
theorem nt23 : Try.f23.ntmps = 29 := by kernel_rfl
/-- impl.NextWeather -/
theorem md_24 : md0 24 = false := rfl
def c24 : XC :=
  .op (some 4) (.box 40 (.tmp 0)) none <|
  .op (some 8) (.assign (.const (.int .i64 0))) none <|
  .op (some 9) (.assign (.const (.bool false))) none <|
  .op (some 10) (.load 40 (.tmp 4)) none <|
  .op (some 11) (.move (.tmp 1)) none <|
  .op (some 12) (.call ⟨.value (.func 46), ⟨[.tmp 10, .tmp 11]⟩, ⟨[40, 3]⟩⟩) none <|
  .op (some 13) (.unOp .not 4 (.tmp 12)) none <|
  .op (some 14) (.move (.tmp 13)) none <|
  .op (some 15) (.move (.tmp 2)) (some (14, false)) <|
  .op (some 16) (.call ⟨.value (.func 52), ⟨[.tmp 15]⟩, ⟨[3]⟩⟩) (some (14, false)) <|
  .op (some 17) (.unOp .not 4 (.tmp 16)) (some (14, false)) <|
  .op (some 18) (.pick (.tmp 14) (.const (.bool true)) (.tmp 17)) none <|
  .op (some 19) (.move (.tmp 18)) none <|
  .op (some 20) (.move (.tmp 3)) (some (19, false)) <|
  .op (some 21) (.call ⟨.value (.func 53), ⟨[.tmp 20]⟩, ⟨[3]⟩⟩) (some (19, false)) <|
  .op (some 22) (.unOp .not 4 (.tmp 21)) (some (19, false)) <|
  .op (some 23) (.pick (.tmp 19) (.const (.bool true)) (.tmp 22)) none <|
  .cond (.tmp 23)
    (.op (some 8) (.assign (.const (.int .i64 0))) none <|
      .op (some 9) (.assign (.const (.bool false))) none <|
      .ret)
    (.done) <|
  .op (some 24) (.load 40 (.tmp 4)) none <|
  .op (some 25) (.move (.tmp 1)) none <|
  .op (some 26) (.move (.tmp 2)) none <|
  .op (some 27) (.move (.tmp 3)) none <|
  .op (some 28) (.call ⟨.value (.func 54), ⟨[.tmp 24, .tmp 25, .tmp 26, .tmp 27]⟩, ⟨[40, 3, 3, 3]⟩⟩) none <|
  .op (some 8) (.assign (.tmp 28)) none <|
  .op (some 9) (.assign (.const (.bool true))) none <|
  .ret
theorem h24 : compF md0 Try.f24 = c24 := by kernel_rfl
theorem r24 : Try.f24.results.toList = [.tmp 8, .tmp 9] := _root_.id (by kernel_rfl)
theorem nt24 : Try.f24.ntmps = 29 := by kernel_rfl
/-- spec.MostLikely -/
theorem md_25 : md0 25 = false := rfl
def c25 : XC :=
  .op (some 3) (.box 40 (.tmp 0)) none <|
  .op (some 6) (.assign (.const (.slice none 0 0))) none <|
  .op (some 7) (.assign (.const (.bool false))) none <|
  .op (some 17) (.load 40 (.tmp 3)) none <|
  .op (some 18) (.move (.tmp 1)) none <|
  .op (some 19) (.call ⟨.value (.func 42), ⟨[.tmp 17, .tmp 18]⟩, ⟨[40, 3]⟩⟩) none <|
  .op (some 20) (.unOp .not 4 (.tmp 19)) none <|
  .op (some 21) (.move (.tmp 20)) none <|
  .op (some 22) (.move (.tmp 2)) (some (21, false)) <|
  .op (some 23) (.call ⟨.value (.func 43), ⟨[.tmp 22, .const (.int .i64 0), .const (.int .i64 6)]⟩, ⟨[3, 3, 3]⟩⟩) (some (21, false)) <|
  .op (some 24) (.unOp .not 4 (.tmp 23)) (some (21, false)) <|
  .op (some 25) (.pick (.tmp 21) (.const (.bool true)) (.tmp 24)) none <|
  .cond (.tmp 25)
    (.op (some 6) (.assign (.const (.slice none 0 0))) none <|
      .op (some 7) (.assign (.const (.bool false))) none <|
      .ret)
    (.done) <|
  .op (some 8) (.assign (.const (.int .i64 1))) none <|
  .op (some 9) (.assign (.const (.int .i64 0))) none <|
  .block 0
    (.loop <|
      .op (some 26) (.move (.tmp 9)) none <|
      .op (some 27) (.move (.tmp 2)) none <|
      .op (some 28) (.binOp .lss 3 (.tmp 26) (.tmp 27) 3) none <|
      .cond (.tmp 28)
        (.done)
        (.exit 0) <|
      .block 1
        (.op (some 31) (.move (.tmp 8)) none <|
          .op (some 32) (.binOp .mul 3 (.tmp 31) (.const (.int .i64 3)) 3) none <|
          .op (some 8) (.assign (.tmp 32)) none <|
          .done) <|
      .op (some 29) (.move (.tmp 9)) none <|
      .op (some 30) (.binOp .add 3 (.tmp 29) (.const (.int .i64 1)) 3) none <|
      .op (some 9) (.assign (.tmp 30)) none <|
      .done) <|
  .op (some 10) (.assign (.const (.slice none 0 0))) none <|
  .op (some 11) (.assign (.const (.int .i64 (-1)))) none <|
  .op (some 12) (.assign (.const (.int .i64 0))) none <|
  .block 2
    (.loop <|
      .op (some 33) (.move (.tmp 12)) none <|
      .op (some 34) (.move (.tmp 8)) none <|
      .op (some 35) (.binOp .lss 3 (.tmp 33) (.tmp 34) 3) none <|
      .cond (.tmp 35)
        (.done)
        (.exit 2) <|
      .block 3
        (.op (some 38) (.move (.tmp 2)) none <|
          .op (some 39) (.makeSlice 23 (.tmp 38) (.tmp 38)) none <|
          .op (some 13) (.assign (.tmp 39)) none <|
          .op (some 40) (.move (.tmp 12)) none <|
          .op (some 14) (.assign (.tmp 40)) none <|
          .op (some 41) (.move (.tmp 2)) none <|
          .op (some 42) (.binOp .sub 3 (.tmp 41) (.const (.int .i64 1)) 3) none <|
          .op (some 15) (.assign (.tmp 42)) none <|
          .block 4
            (.loop <|
            .op (some 43) (.move (.tmp 15)) none <|
            .op (some 44) (.binOp .geq 3 (.tmp 43) (.const (.int .i64 0)) 3) none <|
            .cond (.tmp 44)
              (.done)
              (.exit 4) <|
            .block 5
              (.op (some 47) (.move (.tmp 13)) none <|
            .op (some 48) (.move (.tmp 15)) none <|
            .op (some 49) (.move (.tmp 14)) none <|
            .op (some 50) (.binOp .rem 3 (.tmp 49) (.const (.int .i64 3)) 3) none <|
            .op (some 51) (.indexAddr 23 (.tmp 47) (.tmp 48)) none <|
            .op none (.store 3 (.tmp 51) (.tmp 50)) none <|
            .op (some 52) (.move (.tmp 14)) none <|
            .op (some 53) (.binOp .quo 3 (.tmp 52) (.const (.int .i64 3)) 3) none <|
            .op (some 14) (.assign (.tmp 53)) none <|
            .done) <|
            .op (some 45) (.move (.tmp 15)) none <|
            .op (some 46) (.binOp .sub 3 (.tmp 45) (.const (.int .i64 1)) 3) none <|
            .op (some 15) (.assign (.tmp 46)) none <|
            .done) <|
          .op (some 55) (.move (.tmp 1)) none <|
          .op (some 57) (.move (.tmp 13)) none <|
          .fork
            (.op (some 54) (.load 40 (.tmp 3)) none <|
            .op (some 56) (.buildSlice 23 1 ⟨[(0, .tmp 55)]⟩) none <|
            .op (some 58) (.call ⟨.builtin .append, ⟨[.tmp 56, .tmp 57]⟩, ⟨[23, 23]⟩⟩) none <|
            .op (some 59) (.call ⟨.value (.func 55), ⟨[.tmp 54, .tmp 58]⟩, ⟨[40, 23]⟩⟩) none <|
            .op (some 16) (.assign (.tmp 59)) none <|
            .done)
            (.op (some 56) (.buildSlice 23 1 ⟨[(0, .tmp 55)]⟩) none <|
            .fork
              (.op (some 54) (.load 40 (.tmp 3)) none <|
            .op (some 58) (.call ⟨.builtin .append, ⟨[.tmp 56, .tmp 57]⟩, ⟨[23, 23]⟩⟩) none <|
            .op (some 59) (.call ⟨.value (.func 55), ⟨[.tmp 54, .tmp 58]⟩, ⟨[40, 23]⟩⟩) none <|
            .op (some 16) (.assign (.tmp 59)) none <|
            .done)
              (.op (some 58) (.call ⟨.builtin .append, ⟨[.tmp 56, .tmp 57]⟩, ⟨[23, 23]⟩⟩) none <|
            .op (some 54) (.load 40 (.tmp 3)) none <|
            .op (some 59) (.call ⟨.value (.func 55), ⟨[.tmp 54, .tmp 58]⟩, ⟨[40, 23]⟩⟩) none <|
            .op (some 16) (.assign (.tmp 59)) none <|
            .done) <|
            .done) <|
          .op (some 60) (.move (.tmp 16)) none <|
          .op (some 61) (.move (.tmp 11)) none <|
          .op (some 62) (.binOp .gtr 3 (.tmp 60) (.tmp 61) 3) none <|
          .cond (.tmp 62)
            (.op (some 63) (.move (.tmp 13)) none <|
            .op (some 10) (.assign (.tmp 63)) none <|
            .op (some 64) (.move (.tmp 16)) none <|
            .op (some 11) (.assign (.tmp 64)) none <|
            .done)
            (.done) <|
          .done) <|
      .op (some 36) (.move (.tmp 12)) none <|
      .op (some 37) (.binOp .add 3 (.tmp 36) (.const (.int .i64 1)) 3) none <|
      .op (some 12) (.assign (.tmp 37)) none <|
      .done) <|
  .op (some 65) (.move (.tmp 10)) none <|
  .op (some 6) (.assign (.tmp 65)) none <|
  .op (some 7) (.assign (.const (.bool true))) none <|
  .ret
theorem h25 : compF md0 Try.f25 = c25 := by kernel_rfl
theorem r25 : Try.f25.results.toList = [.tmp 6, .tmp 7] := _root_.id (by kernel_rfl)
theorem nt25 : Try.f25.ntmps = 66 := by kernel_rfl
/-- impl.MostLikely -/
theorem md_26 : md0 26 = false := rfl
def c26 : XC :=
  .op (some 3) (.box 40 (.tmp 0)) none <|
  .op (some 6) (.assign (.const (.slice none 0 0))) none <|
  .op (some 7) (.assign (.const (.bool false))) none <|
  .op (some 16) (.load 40 (.tmp 3)) none <|
  .op (some 17) (.move (.tmp 1)) none <|
  .op (some 18) (.call ⟨.value (.func 46), ⟨[.tmp 16, .tmp 17]⟩, ⟨[40, 3]⟩⟩) none <|
  .op (some 19) (.unOp .not 4 (.tmp 18)) none <|
  .op (some 20) (.move (.tmp 19)) none <|
  .op (some 21) (.move (.tmp 2)) (some (20, false)) <|
  .op (some 22) (.call ⟨.value (.func 36), ⟨[.tmp 21, .const (.int .i64 0), .const (.int .i64 6)]⟩, ⟨[3, 3, 3]⟩⟩) (some (20, false)) <|
  .op (some 23) (.unOp .not 4 (.tmp 22)) (some (20, false)) <|
  .op (some 24) (.pick (.tmp 20) (.const (.bool true)) (.tmp 23)) none <|
  .cond (.tmp 24)
    (.op (some 6) (.assign (.const (.slice none 0 0))) none <|
      .op (some 7) (.assign (.const (.bool false))) none <|
      .ret)
    (.done) <|
  .op (some 8) (.assign (.const (.int .i64 1))) none <|
  .op (some 25) (.move (.tmp 2)) none <|
  .op (some 26) (.move (.const (.int .i64 0))) none <|
  .block 0
    (.loop <|
      .op (some 27) (.binOp .lss 3 (.tmp 26) (.tmp 25) 3) none <|
      .cond (.tmp 27)
        (.done)
        (.exit 0) <|
      .block 1
        (.op (some 28) (.move (.tmp 8)) none <|
          .op (some 29) (.binOp .mul 3 (.tmp 28) (.const (.int .i64 3)) 3) none <|
          .op (some 8) (.assign (.tmp 29)) none <|
          .done) <|
      .op (some 30) (.binOp .add 3 (.tmp 26) (.const (.int .i64 1)) 3) none <|
      .op (some 26) (.move (.tmp 30)) none <|
      .done) <|
  .op (some 31) (.buildSlice 23 0 ⟨[]⟩) none <|
  .op (some 9) (.assign (.tmp 31)) none <|
  .op (some 10) (.assign (.const (.int .i64 (-1)))) none <|
  .op (some 32) (.move (.tmp 8)) none <|
  .op (some 33) (.move (.const (.int .i64 0))) none <|
  .block 2
    (.loop <|
      .op (some 34) (.binOp .lss 3 (.tmp 33) (.tmp 32) 3) none <|
      .cond (.tmp 34)
        (.done)
        (.exit 2) <|
      .block 3
        (.op (some 35) (.move (.tmp 33)) none <|
          .op (some 11) (.assign (.tmp 35)) none <|
          .op (some 36) (.move (.tmp 2)) none <|
          .op (some 37) (.binOp .add 3 (.tmp 36) (.const (.int .i64 1)) 3) none <|
          .op (some 38) (.makeSlice 23 (.tmp 37) (.tmp 37)) none <|
          .op (some 39) (.move (.tmp 11)) none <|
          .op (some 12) (.assign (.tmp 38)) none <|
          .op (some 13) (.assign (.tmp 39)) none <|
          .op (some 40) (.move (.tmp 12)) none <|
          .op (some 41) (.move (.tmp 1)) none <|
          .op (some 42) (.indexAddr 23 (.tmp 40) (.const (.int .i64 0))) none <|
          .op none (.store 3 (.tmp 42) (.tmp 41)) none <|
          .op (some 43) (.move (.tmp 2)) none <|
          .op (some 14) (.assign (.tmp 43)) none <|
          .block 4
            (.loop <|
            .op (some 44) (.move (.tmp 14)) none <|
            .op (some 45) (.binOp .geq 3 (.tmp 44) (.const (.int .i64 1)) 3) none <|
            .cond (.tmp 45)
              (.done)
              (.exit 4) <|
            .block 5
              (.op (some 48) (.move (.tmp 12)) none <|
            .op (some 49) (.move (.tmp 14)) none <|
            .op (some 50) (.move (.tmp 13)) none <|
            .op (some 51) (.binOp .rem 3 (.tmp 50) (.const (.int .i64 3)) 3) none <|
            .op (some 52) (.indexAddr 23 (.tmp 48) (.tmp 49)) none <|
            .op none (.store 3 (.tmp 52) (.tmp 51)) none <|
            .op (some 53) (.move (.tmp 13)) none <|
            .op (some 54) (.binOp .quo 3 (.tmp 53) (.const (.int .i64 3)) 3) none <|
            .op (some 13) (.assign (.tmp 54)) none <|
            .done) <|
            .op (some 46) (.move (.tmp 14)) none <|
            .op (some 47) (.binOp .sub 3 (.tmp 46) (.const (.int .i64 1)) 3) none <|
            .op (some 14) (.assign (.tmp 47)) none <|
            .done) <|
          .op (some 55) (.load 40 (.tmp 3)) none <|
          .op (some 56) (.move (.tmp 12)) none <|
          .op (some 57) (.call ⟨.value (.func 56), ⟨[.tmp 55, .tmp 56]⟩, ⟨[40, 23]⟩⟩) none <|
          .op (some 15) (.assign (.tmp 57)) none <|
          .op (some 58) (.move (.tmp 15)) none <|
          .op (some 59) (.move (.tmp 10)) none <|
          .op (some 60) (.binOp .gtr 3 (.tmp 58) (.tmp 59) 3) none <|
          .cond (.tmp 60)
            (.op (some 61) (.move (.tmp 12)) none <|
            .op (some 62) (.slice 23 (.tmp 61) (some (.const (.int .i64 1))) none none) none <|
            .op (some 63) (.move (.tmp 15)) none <|
            .op (some 9) (.assign (.tmp 62)) none <|
            .op (some 10) (.assign (.tmp 63)) none <|
            .done)
            (.done) <|
          .done) <|
      .op (some 64) (.binOp .add 3 (.tmp 33) (.const (.int .i64 1)) 3) none <|
      .op (some 33) (.move (.tmp 64)) none <|
      .done) <|
  .op (some 65) (.move (.tmp 9)) none <|
  .op (some 66) (.call ⟨.value (.func 57), ⟨[.tmp 65]⟩, ⟨[23]⟩⟩) none <|
  .op (some 6) (.assign (.tmp 66)) none <|
  .op (some 7) (.assign (.const (.bool true))) none <|
  .ret
theorem h26 : compF md0 Try.f26 = c26 := by kernel_rfl
theorem r26 : Try.f26.results.toList = [.tmp 6, .tmp 7] := _root_.id (by kernel_rfl)
theorem nt26 : Try.f26.ntmps = 67 := by kernel_rfl
/-- spec.WeatherFrom -/
theorem md_27 : md0 27 = false := rfl
def c27 : XC :=
  .op (some 4) (.box 40 (.tmp 0)) none <|
  .op (some 8) (.assign (.const (.slice none 0 0))) none <|
  .op (some 9) (.assign (.const (.bool false))) none <|
  .op (some 12) (.load 40 (.tmp 4)) none <|
  .op (some 13) (.move (.tmp 1)) none <|
  .op (some 14) (.call ⟨.value (.func 42), ⟨[.tmp 12, .tmp 13]⟩, ⟨[40, 3]⟩⟩) none <|
  .op (some 15) (.unOp .not 4 (.tmp 14)) none <|
  .op (some 16) (.move (.tmp 15)) none <|
  .op (some 17) (.move (.tmp 2)) (some (16, false)) <|
  .op (some 18) (.call ⟨.value (.func 50), ⟨[.tmp 17]⟩, ⟨[3]⟩⟩) (some (16, false)) <|
  .op (some 19) (.unOp .not 4 (.tmp 18)) (some (16, false)) <|
  .op (some 20) (.pick (.tmp 16) (.const (.bool true)) (.tmp 19)) none <|
  .op (some 21) (.move (.tmp 20)) none <|
  .op (some 22) (.move (.tmp 3)) (some (21, false)) <|
  .op (some 23) (.call ⟨.value (.func 43), ⟨[.tmp 22, .const (.int .i64 0), .const (.int .i64 30)]⟩, ⟨[3, 3, 3]⟩⟩) (some (21, false)) <|
  .op (some 24) (.unOp .not 4 (.tmp 23)) (some (21, false)) <|
  .op (some 25) (.pick (.tmp 21) (.const (.bool true)) (.tmp 24)) none <|
  .cond (.tmp 25)
    (.op (some 8) (.assign (.const (.slice none 0 0))) none <|
      .op (some 9) (.assign (.const (.bool false))) none <|
      .ret)
    (.done) <|
  .op (some 10) (.assign (.const (.slice none 0 0))) none <|
  .op (some 11) (.assign (.const (.int .i64 0))) none <|
  .block 0
    (.loop <|
      .op (some 26) (.move (.tmp 11)) none <|
      .op (some 27) (.move (.tmp 3)) none <|
      .op (some 28) (.binOp .lss 3 (.tmp 26) (.tmp 27) 3) none <|
      .cond (.tmp 28)
        (.done)
        (.exit 0) <|
      .block 1
        (.op (some 31) (.load 40 (.tmp 4)) none <|
          .op (some 32) (.move (.tmp 1)) none <|
          .op (some 33) (.move (.tmp 2)) none <|
          .op (some 34) (.move (.tmp 11)) none <|
          .op (some 35) (.call ⟨.value (.func 51), ⟨[.tmp 31, .tmp 32, .tmp 33, .tmp 34]⟩, ⟨[40, 3, 3, 3]⟩⟩) none <|
          .op (some 1) (.assign (.tmp 35)) none <|
          .op (some 36) (.move (.tmp 10)) none <|
          .op (some 37) (.move (.tmp 1)) none <|
          .op (some 38) (.buildSlice 23 1 ⟨[(0, .tmp 37)]⟩) none <|
          .op (some 39) (.call ⟨.builtin .append, ⟨[.tmp 36, .tmp 38]⟩, ⟨[23, 23]⟩⟩) none <|
          .op (some 10) (.assign (.tmp 39)) none <|
          .done) <|
      .op (some 29) (.move (.tmp 11)) none <|
      .op (some 30) (.binOp .add 3 (.tmp 29) (.const (.int .i64 1)) 3) none <|
      .op (some 11) (.assign (.tmp 30)) none <|
      .done) <|
  .op (some 40) (.move (.tmp 10)) none <|
  .op (some 8) (.assign (.tmp 40)) none <|
  .op (some 9) (.assign (.const (.bool true))) none <|
  .ret
theorem h27 : compF md0 Try.f27 = c27 := by kernel_rfl
theorem r27 : Try.f27.results.toList = [.tmp 8, .tmp 9] := _root_.id (by kernel_rfl)
theorem nt27 : Try.f27.ntmps = 41 := by kernel_rfl
/-- impl.WeatherFrom -/
theorem md_28 : md0 28 = false := rfl
def c28 : XC :=
  .op (some 4) (.box 40 (.tmp 0)) none <|
  .op (some 8) (.assign (.const (.slice none 0 0))) none <|
  .op (some 9) (.assign (.const (.bool false))) none <|
  .op (some 12) (.load 40 (.tmp 4)) none <|
  .op (some 13) (.move (.tmp 1)) none <|
  .op (some 14) (.call ⟨.value (.func 46), ⟨[.tmp 12, .tmp 13]⟩, ⟨[40, 3]⟩⟩) none <|
  .op (some 15) (.unOp .not 4 (.tmp 14)) none <|
  .op (some 16) (.move (.tmp 15)) none <|
  .op (some 17) (.move (.tmp 2)) (some (16, false)) <|
  .op (some 18) (.call ⟨.value (.func 52), ⟨[.tmp 17]⟩, ⟨[3]⟩⟩) (some (16, false)) <|
  .op (some 19) (.unOp .not 4 (.tmp 18)) (some (16, false)) <|
  .op (some 20) (.pick (.tmp 16) (.const (.bool true)) (.tmp 19)) none <|
  .op (some 21) (.move (.tmp 20)) none <|
  .op (some 22) (.move (.tmp 3)) (some (21, false)) <|
  .op (some 23) (.call ⟨.value (.func 53), ⟨[.tmp 22]⟩, ⟨[3]⟩⟩) (some (21, false)) <|
  .op (some 24) (.unOp .not 4 (.tmp 23)) (some (21, false)) <|
  .op (some 25) (.pick (.tmp 21) (.const (.bool true)) (.tmp 24)) none <|
  .cond (.tmp 25)
    (.op (some 8) (.assign (.const (.slice none 0 0))) none <|
      .op (some 9) (.assign (.const (.bool false))) none <|
      .ret)
    (.done) <|
  .op (some 26) (.buildSlice 23 0 ⟨[]⟩) none <|
  .op (some 10) (.assign (.tmp 26)) none <|
  .op (some 27) (.move (.tmp 3)) none <|
  .op (some 28) (.move (.const (.int .i64 0))) none <|
  .block 0
    (.loop <|
      .op (some 29) (.binOp .lss 3 (.tmp 28) (.tmp 27) 3) none <|
      .cond (.tmp 29)
        (.done)
        (.exit 0) <|
      .block 1
        (.op (some 30) (.move (.tmp 28)) none <|
          .op (some 11) (.assign (.tmp 30)) none <|
          .op (some 31) (.load 40 (.tmp 4)) none <|
          .op (some 32) (.move (.tmp 1)) none <|
          .op (some 33) (.move (.tmp 2)) none <|
          .op (some 34) (.move (.tmp 11)) none <|
          .op (some 35) (.call ⟨.value (.func 54), ⟨[.tmp 31, .tmp 32, .tmp 33, .tmp 34]⟩, ⟨[40, 3, 3, 3]⟩⟩) none <|
          .op (some 1) (.assign (.tmp 35)) none <|
          .op (some 36) (.move (.tmp 10)) none <|
          .op (some 37) (.move (.tmp 1)) none <|
          .op (some 38) (.buildSlice 23 1 ⟨[(0, .tmp 37)]⟩) none <|
          .op (some 39) (.call ⟨.builtin .append, ⟨[.tmp 36, .tmp 38]⟩, ⟨[23, 23]⟩⟩) none <|
          .op (some 10) (.assign (.tmp 39)) none <|
          .done) <|
      .op (some 40) (.binOp .add 3 (.tmp 28) (.const (.int .i64 1)) 3) none <|
      .op (some 28) (.move (.tmp 40)) none <|
      .done) <|
  .op (some 41) (.move (.tmp 10)) none <|
  .op (some 8) (.assign (.tmp 41)) none <|
  .op (some 9) (.assign (.const (.bool true))) none <|
  .ret
theorem h28 : compF md0 Try.f28 = c28 := by kernel_rfl
theorem r28 : Try.f28.results.toList = [.tmp 8, .tmp 9] := _root_.id (by kernel_rfl)
theorem nt28 : Try.f28.ntmps = 42 := by kernel_rfl
/-- spec.CutLoad -/
theorem md_29 : md0 29 = false := rfl
def c29 : XC :=
  .op (some 3) (.box 30 (.tmp 0)) none <|
  .op (some 6) (.assign (.const (.int .i64 0))) none <|
  .op (some 7) (.assign (.const (.bool false))) none <|
  .op (some 11) (.load 30 (.tmp 3)) none <|
  .op (some 12) (.call ⟨.value (.func 34), ⟨[.tmp 11]⟩, ⟨[30]⟩⟩) none <|
  .op (some 13) (.unOp .not 4 (.tmp 12)) none <|
  .op (some 14) (.move (.tmp 13)) none <|
  .op (some 15) (.move (.tmp 1)) (some (14, false)) <|
  .op (some 16) (.call ⟨.value (.func 43), ⟨[.tmp 15, .const (.int .i64 0), .const (.int .i64 6)]⟩, ⟨[3, 3, 3]⟩⟩) (some (14, false)) <|
  .op (some 17) (.unOp .not 4 (.tmp 16)) (some (14, false)) <|
  .op (some 18) (.pick (.tmp 14) (.const (.bool true)) (.tmp 17)) none <|
  .op (some 19) (.move (.tmp 18)) none <|
  .op (some 20) (.move (.tmp 2)) (some (19, false)) <|
  .op (some 21) (.move (.tmp 1)) (some (19, false)) <|
  .op (some 22) (.binOp .add 3 (.tmp 21) (.const (.int .i64 1)) 3) (some (19, false)) <|
  .op (some 23) (.fieldAddr 30 (.tmp 3) 0) (some (19, false)) <|
  .op (some 24) (.load 3 (.tmp 23)) (some (19, false)) <|
  .op (some 25) (.binOp .mul 3 (.tmp 22) (.tmp 24) 3) (some (19, false)) <|
  .op (some 26) (.binOp .sub 3 (.tmp 25) (.const (.int .i64 1)) 3) (some (19, false)) <|
  .op (some 27) (.call ⟨.value (.func 58), ⟨[.tmp 20, .const (.int .i64 0), .tmp 26]⟩, ⟨[23, 3, 3]⟩⟩) (some (19, false)) <|
  .op (some 28) (.unOp .not 4 (.tmp 27)) (some (19, false)) <|
  .op (some 29) (.pick (.tmp 19) (.const (.bool true)) (.tmp 28)) none <|
  .cond (.tmp 29)
    (.op (some 6) (.assign (.const (.int .i64 0))) none <|
      .op (some 7) (.assign (.const (.bool false))) none <|
      .ret)
    (.done) <|
  .op (some 8) (.assign (.const (.int .i64 0))) none <|
  .op (some 30) (.load 30 (.tmp 3)) none <|
  .op (some 31) (.move (.tmp 1)) none <|
  .op (some 32) (.call ⟨.value (.func 59), ⟨[.tmp 30, .const (.int .i64 (-1)), .const (.int .i64 (-1)), .tmp 31]⟩, ⟨[30, 3, 3, 3]⟩⟩) none <|
  .op (some 33) (.nilCheck (.tmp 32)) none <|
  .op (some 34) (.fieldAddr 73 (.tmp 33) 0) none <|
  .op (some 35) (.load 71 (.tmp 34)) none <|
  .op (some 36) (.call ⟨.builtin .len, ⟨[.tmp 35]⟩, ⟨[71]⟩⟩) none <|
  .op (some 37) (.move (.const (.int .i64 0))) none <|
  .block 0
    (.loop <|
      .op (some 38) (.binOp .lss 3 (.tmp 37) (.tmp 36) 3) none <|
      .cond (.tmp 38)
        (.done)
        (.exit 0) <|
      .block 1
        (.op (some 39) (.indexAddr 71 (.tmp 35) (.tmp 37)) none <|
          .op (some 40) (.load 77 (.tmp 39)) none <|
          .op (some 10) (.alloc 77) none <|
          .op none (.store 77 (.tmp 10) (.tmp 40)) none <|
          .op (some 41) (.move (.tmp 2)) none <|
          .op (some 42) (.fieldAddr 77 (.tmp 10) 0) none <|
          .op (some 43) (.load 3 (.tmp 42)) none <|
          .op (some 44) (.call ⟨.value (.func 60), ⟨[.tmp 41, .tmp 43]⟩, ⟨[23, 3]⟩⟩) none <|
          .op (some 45) (.move (.tmp 44)) none <|
          .op (some 46) (.move (.tmp 2)) (some (45, true)) <|
          .op (some 47) (.fieldAddr 77 (.tmp 10) 1) (some (45, true)) <|
          .op (some 48) (.load 3 (.tmp 47)) (some (45, true)) <|
          .op (some 49) (.call ⟨.value (.func 60), ⟨[.tmp 46, .tmp 48]⟩, ⟨[23, 3]⟩⟩) (some (45, true)) <|
          .op (some 50) (.unOp .not 4 (.tmp 49)) (some (45, true)) <|
          .op (some 51) (.pick (.tmp 45) (.tmp 50) (.const (.bool false))) none <|
          .cond (.tmp 51)
            (.op (some 52) (.move (.tmp 8)) none <|
            .op (some 53) (.fieldAddr 77 (.tmp 10) 2) none <|
            .op (some 54) (.load 3 (.tmp 53)) none <|
            .op (some 55) (.binOp .add 3 (.tmp 52) (.tmp 54) 3) none <|
            .op (some 8) (.assign (.tmp 55)) none <|
            .done)
            (.done) <|
          .done) <|
      .op (some 56) (.binOp .add 3 (.tmp 37) (.const (.int .i64 1)) 3) none <|
      .op (some 37) (.move (.tmp 56)) none <|
      .done) <|
  .op (some 57) (.move (.tmp 8)) none <|
  .op (some 6) (.assign (.tmp 57)) none <|
  .op (some 7) (.assign (.const (.bool true))) none <|
  .ret
theorem h29 : compF md0 Try.f29 = c29 := by kernel_rfl
theorem r29 : Try.f29.results.toList = [.tmp 6, .tmp 7] := _root_.id (by kernel_rfl)
theorem nt29 : Try.f29.ntmps = 58 := by kernel_rfl
/-- laws.toIntS -/
theorem md_30 : md0 30 = false := rfl
def c30 : XC :=
  .op (some 2) (.assign (.const (.slice none 0 0))) none <|
  .op (some 5) (.move (.tmp 0)) none <|
  .op (some 6) (.call ⟨.builtin .len, ⟨[.tmp 5]⟩, ⟨[23]⟩⟩) none <|
  .op (some 7) (.makeSlice 23 (.tmp 6) (.tmp 6)) none <|
  .op (some 3) (.assign (.tmp 7)) none <|
  .op (some 4) (.assign (.const (.int .i64 0))) none <|
  .block 0
    (.loop <|
      .op (some 8) (.move (.tmp 4)) none <|
      .op (some 9) (.move (.tmp 0)) none <|
      .op (some 10) (.call ⟨.builtin .len, ⟨[.tmp 9]⟩, ⟨[23]⟩⟩) none <|
      .op (some 11) (.binOp .lss 3 (.tmp 8) (.tmp 10) 3) none <|
      .cond (.tmp 11)
        (.done)
        (.exit 0) <|
      .block 1
        (.op (some 14) (.move (.tmp 3)) none <|
          .op (some 15) (.move (.tmp 4)) none <|
          .op (some 16) (.move (.tmp 0)) none <|
          .op (some 17) (.move (.tmp 4)) none <|
          .op (some 18) (.indexAddr 23 (.tmp 16) (.tmp 17)) none <|
          .op (some 19) (.load 3 (.tmp 18)) none <|
          .op (some 20) (.indexAddr 23 (.tmp 14) (.tmp 15)) none <|
          .op none (.store 3 (.tmp 20) (.tmp 19)) none <|
          .done) <|
      .op (some 12) (.move (.tmp 4)) none <|
      .op (some 13) (.binOp .add 3 (.tmp 12) (.const (.int .i64 1)) 3) none <|
      .op (some 4) (.assign (.tmp 13)) none <|
      .done) <|
  .op (some 21) (.move (.tmp 3)) none <|
  .op (some 2) (.assign (.tmp 21)) none <|
  .ret
theorem h30 : compF md0 Try.f30 = c30 := by kernel_rfl
theorem r30 : Try.f30.results.toList = [.tmp 2] := _root_.id (by kernel_rfl)
theorem nt30 : Try.f30.ntmps = 22 := by kernel_rfl
/-- impl.CutLoad -/
theorem md_31 : md0 31 = false := rfl
def c31 : XC :=
  .op (some 3) (.box 30 (.tmp 0)) none <|
  .op (some 4) (.box 3 (.tmp 1)) none <|
  .op (some 6) (.assign (.const (.int .i64 0))) none <|
  .op (some 7) (.assign (.const (.bool false))) none <|
  .op (some 11) (.load 30 (.tmp 3)) none <|
  .op (some 12) (.call ⟨.value (.func 12), ⟨[.tmp 11]⟩, ⟨[30]⟩⟩) none <|
  .op (some 13) (.unOp .not 4 (.tmp 12)) none <|
  .op (some 14) (.move (.tmp 13)) none <|
  .op (some 15) (.load 3 (.tmp 4)) (some (14, false)) <|
  .op (some 16) (.call ⟨.value (.func 36), ⟨[.tmp 15, .const (.int .i64 0), .const (.int .i64 6)]⟩, ⟨[3, 3, 3]⟩⟩) (some (14, false)) <|
  .op (some 17) (.unOp .not 4 (.tmp 16)) (some (14, false)) <|
  .op (some 18) (.pick (.tmp 14) (.const (.bool true)) (.tmp 17)) none <|
  .op (some 19) (.move (.tmp 18)) none <|
  .op (some 20) (.move (.tmp 2)) (some (19, false)) <|
  .op (some 21) (.call ⟨.value (.func 61), ⟨[.tmp 20]⟩, ⟨[23]⟩⟩) (some (19, false)) <|
  .op (some 22) (.unOp .not 4 (.tmp 21)) (some (19, false)) <|
  .op (some 23) (.pick (.tmp 19) (.const (.bool true)) (.tmp 22)) none <|
  .op (some 24) (.move (.tmp 23)) none <|
  .op (some 25) (.move (.tmp 2)) (some (24, false)) <|
  .op (some 26) (.makeFunc (.func 62) ⟨[]⟩ ⟨[.tmp 4, .tmp 3]⟩) (some (24, false)) <|
  .op (some 27) (.call ⟨.value (.func 38), ⟨[.tmp 25, .tmp 26]⟩, ⟨[23, 61]⟩⟩) (some (24, false)) <|
  .op (some 28) (.pick (.tmp 24) (.const (.bool true)) (.tmp 27)) none <|
  .cond (.tmp 28)
    (.op (some 6) (.assign (.const (.int .i64 0))) none <|
      .op (some 7) (.assign (.const (.bool false))) none <|
      .ret)
    (.done) <|
  .op (some 8) (.assign (.const (.int .i64 0))) none <|
  .op (some 29) (.load 30 (.tmp 3)) none <|
  .op (some 30) (.load 3 (.tmp 4)) none <|
  .op (some 31) (.call ⟨.value (.func 63), ⟨[.tmp 29, .const (.int .i64 (-1)), .const (.int .i64 (-1)), .tmp 30]⟩, ⟨[30, 3, 3, 3]⟩⟩) none <|
  .op (some 32) (.nilCheck (.tmp 31)) none <|
  .op (some 33) (.fieldAddr 82 (.tmp 32) 1) none <|
  .op (some 34) (.load 80 (.tmp 33)) none <|
  .op (some 35) (.call ⟨.builtin .len, ⟨[.tmp 34]⟩, ⟨[80]⟩⟩) none <|
  .op (some 36) (.move (.const (.int .i64 0))) none <|
  .block 0
    (.loop <|
      .op (some 37) (.binOp .lss 3 (.tmp 36) (.tmp 35) 3) none <|
      .cond (.tmp 37)
        (.done)
        (.exit 0) <|
      .block 1
        (.op (some 38) (.indexAddr 80 (.tmp 34) (.tmp 36)) none <|
          .op (some 39) (.load 86 (.tmp 38)) none <|
          .op (some 10) (.alloc 86) none <|
          .op none (.store 86 (.tmp 10) (.tmp 39)) none <|
          .op (some 40) (.move (.tmp 2)) none <|
          .op (some 41) (.fieldAddr 86 (.tmp 10) 0) none <|
          .op (some 42) (.load 3 (.tmp 41)) none <|
          .op (some 43) (.call ⟨.value (.func 64), ⟨[.tmp 40, .tmp 42]⟩, ⟨[23, 3]⟩⟩) none <|
          .op (some 44) (.move (.tmp 43)) none <|
          .op (some 45) (.move (.tmp 2)) (some (44, true)) <|
          .op (some 46) (.fieldAddr 86 (.tmp 10) 1) (some (44, true)) <|
          .op (some 47) (.load 3 (.tmp 46)) (some (44, true)) <|
          .op (some 48) (.call ⟨.value (.func 64), ⟨[.tmp 45, .tmp 47]⟩, ⟨[23, 3]⟩⟩) (some (44, true)) <|
          .op (some 49) (.unOp .not 4 (.tmp 48)) (some (44, true)) <|
          .op (some 50) (.pick (.tmp 44) (.tmp 49) (.const (.bool false))) none <|
          .cond (.tmp 50)
            (.op (some 51) (.move (.tmp 8)) none <|
            .op (some 52) (.fieldAddr 86 (.tmp 10) 2) none <|
            .op (some 53) (.load 3 (.tmp 52)) none <|
            .op (some 54) (.binOp .add 3 (.tmp 51) (.tmp 53) 3) none <|
            .op (some 8) (.assign (.tmp 54)) none <|
            .done)
            (.done) <|
          .done) <|
      .op (some 55) (.binOp .add 3 (.tmp 36) (.const (.int .i64 1)) 3) none <|
      .op (some 36) (.move (.tmp 55)) none <|
      .done) <|
  .op (some 56) (.move (.tmp 8)) none <|
  .op (some 6) (.assign (.tmp 56)) none <|
  .op (some 7) (.assign (.const (.bool true))) none <|
  .ret
theorem h31 : compF md0 Try.f31 = c31 := by kernel_rfl
theorem r31 : Try.f31.results.toList = [.tmp 6, .tmp 7] := _root_.id (by kernel_rfl)
theorem nt31 : Try.f31.ntmps = 57 := by kernel_rfl
/-- laws.szLaneS -/
theorem md_32 : md0 32 = false := rfl
def c32 : XC :=
  .op (some 4) (.assign (.const (.int .i64 0))) none <|
  .op (some 5) (.move (.tmp 1)) none <|
  .op (some 6) (.move (.tmp 0)) none <|
  .op (some 7) (.call ⟨.builtin .len, ⟨[.tmp 6]⟩, ⟨[22]⟩⟩) none <|
  .op (some 8) (.binOp .sub 3 (.tmp 5) (.tmp 7) 3) none <|
  .op (some 1) (.assign (.tmp 8)) none <|
  .op (some 9) (.move (.tmp 1)) none <|
  .op (some 10) (.binOp .lss 3 (.tmp 9) (.const (.int .i64 0)) 3) none <|
  .cond (.tmp 10)
    (.op (some 4) (.assign (.const (.int .i64 (-1)))) none <|
      .ret)
    (.done) <|
  .op (some 11) (.move (.tmp 1)) none <|
  .op (some 4) (.assign (.tmp 11)) none <|
  .ret
theorem h32 : compF md0 Try.f32 = c32 := by kernel_rfl
theorem r32 : Try.f32.results.toList = [.tmp 4] := _root_.id (by kernel_rfl)
theorem nt32 : Try.f32.ntmps = 12 := by kernel_rfl
/-- laws.szIntS -/
theorem md_33 : md0 33 = false := rfl
def c33 : XC :=
  .op (some 4) (.assign (.const (.int .i64 0))) none <|
  .op (some 5) (.move (.tmp 1)) none <|
  .op (some 6) (.move (.tmp 0)) none <|
  .op (some 7) (.call ⟨.builtin .len, ⟨[.tmp 6]⟩, ⟨[23]⟩⟩) none <|
  .op (some 8) (.binOp .sub 3 (.tmp 5) (.tmp 7) 3) none <|
  .op (some 1) (.assign (.tmp 8)) none <|
  .op (some 9) (.move (.tmp 1)) none <|
  .op (some 10) (.binOp .lss 3 (.tmp 9) (.const (.int .i64 0)) 3) none <|
  .cond (.tmp 10)
    (.op (some 4) (.assign (.const (.int .i64 (-1)))) none <|
      .ret)
    (.done) <|
  .op (some 11) (.move (.tmp 1)) none <|
  .op (some 4) (.assign (.tmp 11)) none <|
  .ret
theorem h33 : compF md0 Try.f33 = c33 := by kernel_rfl
theorem r33 : Try.f33.results.toList = [.tmp 4] := _root_.id (by kernel_rfl)
theorem nt33 : Try.f33.ntmps = 12 := by kernel_rfl
/-- spec.qGood -/
theorem md_34 : md0 34 = false := rfl
def c34 : XC :=
  .op (some 1) (.box 30 (.tmp 0)) none <|
  .op (some 2) (.assign (.const (.bool false))) none <|
  .op (some 5) (.fieldAddr 30 (.tmp 1) 0) none <|
  .op (some 6) (.load 3 (.tmp 5)) none <|
  .op (some 7) (.call ⟨.value (.func 43), ⟨[.tmp 6, .const (.int .i64 2), .const (.int .i64 6)]⟩, ⟨[3, 3, 3]⟩⟩) none <|
  .op (some 8) (.unOp .not 4 (.tmp 7)) none <|
  .op (some 9) (.move (.tmp 8)) none <|
  .op (some 10) (.fieldAddr 30 (.tmp 1) 1) (some (9, false)) <|
  .op (some 11) (.load 28 (.tmp 10)) (some (9, false)) <|
  .op (some 12) (.call ⟨.builtin .len, ⟨[.tmp 11]⟩, ⟨[28]⟩⟩) (some (9, false)) <|
  .op (some 13) (.binOp .gtr 3 (.tmp 12) (.const (.int .i64 15)) 3) (some (9, false)) <|
  .op (some 14) (.pick (.tmp 9) (.const (.bool true)) (.tmp 13)) none <|
  .op (some 15) (.move (.tmp 14)) none <|
  .op (some 16) (.fieldAddr 30 (.tmp 1) 2) (some (15, false)) <|
  .op (some 17) (.load 23 (.tmp 16)) (some (15, false)) <|
  .op (some 18) (.call ⟨.builtin .len, ⟨[.tmp 17]⟩, ⟨[23]⟩⟩) (some (15, false)) <|
  .op (some 19) (.fieldAddr 30 (.tmp 1) 0) (some (15, false)) <|
  .op (some 20) (.load 3 (.tmp 19)) (some (15, false)) <|
  .op (some 21) (.binOp .neq 3 (.tmp 18) (.tmp 20) 3) (some (15, false)) <|
  .op (some 22) (.pick (.tmp 15) (.const (.bool true)) (.tmp 21)) none <|
  .op (some 23) (.move (.tmp 22)) none <|
  .op (some 24) (.fieldAddr 30 (.tmp 1) 2) (some (23, false)) <|
  .op (some 25) (.load 23 (.tmp 24)) (some (23, false)) <|
  .op (some 26) (.call ⟨.value (.func 65), ⟨[.tmp 25, .const (.int .i64 0), .const (.int .i64 1000)]⟩, ⟨[23, 3, 3]⟩⟩) (some (23, false)) <|
  .op (some 27) (.unOp .not 4 (.tmp 26)) (some (23, false)) <|
  .op (some 28) (.pick (.tmp 23) (.const (.bool true)) (.tmp 27)) none <|
  .cond (.tmp 28)
    (.op (some 2) (.assign (.const (.bool false))) none <|
      .ret)
    (.done) <|
  .op (some 29) (.fieldAddr 30 (.tmp 1) 1) none <|
  .op (some 30) (.load 28 (.tmp 29)) none <|
  .op (some 31) (.call ⟨.builtin .len, ⟨[.tmp 30]⟩, ⟨[28]⟩⟩) none <|
  .op (some 32) (.move (.const (.int .i64 0))) none <|
  .block 0
    (.loop <|
      .op (some 33) (.binOp .lss 3 (.tmp 32) (.tmp 31) 3) none <|
      .cond (.tmp 33)
        (.done)
        (.exit 0) <|
      .block 1
        (.op (some 34) (.indexAddr 28 (.tmp 30) (.tmp 32)) none <|
          .op (some 35) (.load 58 (.tmp 34)) none <|
          .op (some 4) (.alloc 58) none <|
          .op none (.store 58 (.tmp 4) (.tmp 35)) none <|
          .op (some 36) (.fieldAddr 58 (.tmp 4) 0) none <|
          .op (some 37) (.load 3 (.tmp 36)) none <|
          .op (some 38) (.fieldAddr 30 (.tmp 1) 0) none <|
          .op (some 39) (.load 3 (.tmp 38)) none <|
          .op (some 40) (.binOp .sub 3 (.tmp 39) (.const (.int .i64 1)) 3) none <|
          .op (some 41) (.call ⟨.value (.func 43), ⟨[.tmp 37, .const (.int .i64 0), .tmp 40]⟩, ⟨[3, 3, 3]⟩⟩) none <|
          .op (some 42) (.unOp .not 4 (.tmp 41)) none <|
          .op (some 43) (.move (.tmp 42)) none <|
          .op (some 44) (.fieldAddr 58 (.tmp 4) 1) (some (43, false)) <|
          .op (some 45) (.load 3 (.tmp 44)) (some (43, false)) <|
          .op (some 46) (.fieldAddr 30 (.tmp 1) 0) (some (43, false)) <|
          .op (some 47) (.load 3 (.tmp 46)) (some (43, false)) <|
          .op (some 48) (.binOp .sub 3 (.tmp 47) (.const (.int .i64 1)) 3) (some (43, false)) <|
          .op (some 49) (.call ⟨.value (.func 43), ⟨[.tmp 45, .const (.int .i64 0), .tmp 48]⟩, ⟨[3, 3, 3]⟩⟩) (some (43, false)) <|
          .op (some 50) (.unOp .not 4 (.tmp 49)) (some (43, false)) <|
          .op (some 51) (.pick (.tmp 43) (.const (.bool true)) (.tmp 50)) none <|
          .op (some 52) (.move (.tmp 51)) none <|
          .op (some 53) (.fieldAddr 58 (.tmp 4) 0) (some (52, false)) <|
          .op (some 54) (.load 3 (.tmp 53)) (some (52, false)) <|
          .op (some 55) (.fieldAddr 58 (.tmp 4) 1) (some (52, false)) <|
          .op (some 56) (.load 3 (.tmp 55)) (some (52, false)) <|
          .op (some 57) (.binOp .eql 3 (.tmp 54) (.tmp 56) 3) (some (52, false)) <|
          .op (some 58) (.pick (.tmp 52) (.const (.bool true)) (.tmp 57)) none <|
          .op (some 59) (.move (.tmp 58)) none <|
          .op (some 60) (.fieldAddr 58 (.tmp 4) 2) (some (59, false)) <|
          .op (some 61) (.load 3 (.tmp 60)) (some (59, false)) <|
          .op (some 62) (.call ⟨.value (.func 43), ⟨[.tmp 61, .const (.int .i64 0), .const (.int .i64 1000)]⟩, ⟨[3, 3, 3]⟩⟩) (some (59, false)) <|
          .op (some 63) (.unOp .not 4 (.tmp 62)) (some (59, false)) <|
          .op (some 64) (.pick (.tmp 59) (.const (.bool true)) (.tmp 63)) none <|
          .cond (.tmp 64)
            (.op (some 2) (.assign (.const (.bool false))) none <|
            .ret)
            (.done) <|
          .done) <|
      .op (some 65) (.binOp .add 3 (.tmp 32) (.const (.int .i64 1)) 3) none <|
      .op (some 32) (.move (.tmp 65)) none <|
      .done) <|
  .op (some 2) (.assign (.const (.bool true))) none <|
  .ret
theorem h34 : compF md0 Try.f34 = c34 := by kernel_rfl
theorem r34 : Try.f34.results.toList = [.tmp 2] := _root_.id (by kernel_rfl)
theorem nt34 : Try.f34.ntmps = 66 := by kernel_rfl
/-- laws.toLaneS -/
theorem md_35 : md0 35 = false := rfl
def c35 : XC :=
  .op (some 2) (.assign (.const (.slice none 0 0))) none <|
  .op (some 5) (.move (.tmp 0)) none <|
  .op (some 6) (.call ⟨.builtin .len, ⟨[.tmp 5]⟩, ⟨[22]⟩⟩) none <|
  .op (some 7) (.makeSlice 28 (.tmp 6) (.tmp 6)) none <|
  .op (some 3) (.assign (.tmp 7)) none <|
  .op (some 4) (.assign (.const (.int .i64 0))) none <|
  .block 0
    (.loop <|
      .op (some 8) (.move (.tmp 4)) none <|
      .op (some 9) (.move (.tmp 0)) none <|
      .op (some 10) (.call ⟨.builtin .len, ⟨[.tmp 9]⟩, ⟨[22]⟩⟩) none <|
      .op (some 11) (.binOp .lss 3 (.tmp 8) (.tmp 10) 3) none <|
      .cond (.tmp 11)
        (.done)
        (.exit 0) <|
      .block 1
        (.op (some 14) (.move (.tmp 3)) none <|
          .op (some 15) (.move (.tmp 4)) none <|
          .op (some 16) (.move (.tmp 0)) none <|
          .op (some 17) (.move (.tmp 4)) none <|
          .op (some 18) (.indexAddr 22 (.tmp 16) (.tmp 17)) none <|
          .op (some 19) (.load 88 (.tmp 18)) none <|
          .op (some 20) (.call ⟨.value (.func 66), ⟨[.tmp 19]⟩, ⟨[88]⟩⟩) none <|
          .op (some 21) (.indexAddr 28 (.tmp 14) (.tmp 15)) none <|
          .op none (.store 58 (.tmp 21) (.tmp 20)) none <|
          .done) <|
      .op (some 12) (.move (.tmp 4)) none <|
      .op (some 13) (.binOp .add 3 (.tmp 12) (.const (.int .i64 1)) 3) none <|
      .op (some 4) (.assign (.tmp 13)) none <|
      .done) <|
  .op (some 22) (.move (.tmp 3)) none <|
  .op (some 2) (.assign (.tmp 22)) none <|
  .ret
theorem h35 : compF md0 Try.f35 = c35 := by kernel_rfl
theorem r35 : Try.f35.results.toList = [.tmp 2] := _root_.id (by kernel_rfl)
theorem nt35 : Try.f35.ntmps = 23 := by kernel_rfl
/-- impl.inRange -/
theorem md_36 : md0 36 = false := rfl
def c36 : XC :=
  .op (some 6) (.assign (.const (.bool false))) none <|
  .op (some 7) (.move (.tmp 1)) none <|
  .op (some 8) (.move (.tmp 0)) none <|
  .op (some 9) (.binOp .leq 3 (.tmp 7) (.tmp 8) 3) none <|
  .op (some 10) (.move (.tmp 9)) none <|
  .op (some 11) (.move (.tmp 0)) (some (10, true)) <|
  .op (some 12) (.move (.tmp 2)) (some (10, true)) <|
  .op (some 13) (.binOp .leq 3 (.tmp 11) (.tmp 12) 3) (some (10, true)) <|
  .op (some 14) (.pick (.tmp 10) (.tmp 13) (.const (.bool false))) none <|
  .op (some 6) (.assign (.tmp 14)) none <|
  .ret
theorem h36 : compF md0 Try.f36 = c36 := by kernel_rfl
theorem r36 : Try.f36.results.toList = [.tmp 6] := _root_.id (by kernel_rfl)
theorem nt36 : Try.f36.ntmps = 15 := by kernel_rfl
/-- impl.isIndex -/
theorem md_37 : md0 37 = false := rfl
def c37 : XC :=
  .op (some 4) (.assign (.const (.bool false))) none <|
  .op (some 5) (.move (.tmp 0)) none <|
  .op (some 6) (.move (.tmp 1)) none <|
  .op (some 7) (.binOp .sub 3 (.tmp 6) (.const (.int .i64 1)) 3) none <|
  .op (some 8) (.call ⟨.value (.func 36), ⟨[.tmp 5, .const (.int .i64 0), .tmp 7]⟩, ⟨[3, 3, 3]⟩⟩) none <|
  .op (some 4) (.assign (.tmp 8)) none <|
  .ret
theorem h37 : compF md0 Try.f37 = c37 := by kernel_rfl
theorem r37 : Try.f37.results.toList = [.tmp 4] := _root_.id (by kernel_rfl)
theorem nt37 : Try.f37.ntmps = 9 := by kernel_rfl
/-- slices.ContainsFunc[[]int,int] -/
theorem md_38 : md0 38 = false := rfl
def c38 : XC :=
  .op (some 4) (.assign (.const (.bool false))) none <|
  .op (some 5) (.move (.tmp 0)) none <|
  .op (some 6) (.move (.tmp 1)) none <|
  .op (some 7) (.call ⟨.value (.func 67), ⟨[.tmp 5, .tmp 6]⟩, ⟨[23, 61]⟩⟩) none <|
  .op (some 8) (.binOp .geq 3 (.tmp 7) (.const (.int .i64 0)) 3) none <|
  .op (some 4) (.assign (.tmp 8)) none <|
  .ret
theorem h38 : compF md0 Try.f38 = c38 := by kernel_rfl
theorem r38 : Try.f38.results.toList = [.tmp 4] := _root_.id (by kernel_rfl)
theorem nt38 : Try.f38.ntmps = 9 := by kernel_rfl
/-- impl.IsLanes$1 -/
theorem md_39 : md0 39 = false := rfl
def c39 : XC :=
  .op (some 2) (.assign (.const (.bool false))) none <|
  .op (some 3) (.move (.tmp 0)) none <|
  .op (some 4) (.call ⟨.value (.func 36), ⟨[.tmp 3, .const (.int .i64 0), .const (.int .i64 1000)]⟩, ⟨[3, 3, 3]⟩⟩) none <|
  .op (some 5) (.unOp .not 4 (.tmp 4)) none <|
  .op (some 2) (.assign (.tmp 5)) none <|
  .ret
theorem h39 : compF md0 Try.f39 = c39 := by kernel_rfl
theorem r39 : Try.f39.results.toList = [.tmp 2] := _root_.id (by kernel_rfl)
theorem nt39 : Try.f39.ntmps = 6 := by kernel_rfl
/-- laws.eqLaneS -/
theorem md_40 : md0 40 = false := rfl
def c40 : XC :=
  .op (some 4) (.assign (.const (.bool false))) none <|
  .op (some 6) (.move (.tmp 0)) none <|
  .op (some 7) (.call ⟨.builtin .len, ⟨[.tmp 6]⟩, ⟨[28]⟩⟩) none <|
  .op (some 8) (.move (.tmp 1)) none <|
  .op (some 9) (.call ⟨.builtin .len, ⟨[.tmp 8]⟩, ⟨[28]⟩⟩) none <|
  .op (some 10) (.binOp .neq 3 (.tmp 7) (.tmp 9) 3) none <|
  .cond (.tmp 10)
    (.op (some 4) (.assign (.const (.bool false))) none <|
      .ret)
    (.done) <|
  .op (some 5) (.assign (.const (.int .i64 0))) none <|
  .block 0
    (.loop <|
      .op (some 11) (.move (.tmp 5)) none <|
      .op (some 12) (.move (.tmp 0)) none <|
      .op (some 13) (.call ⟨.builtin .len, ⟨[.tmp 12]⟩, ⟨[28]⟩⟩) none <|
      .op (some 14) (.binOp .lss 3 (.tmp 11) (.tmp 13) 3) none <|
      .cond (.tmp 14)
        (.done)
        (.exit 0) <|
      .block 1
        (.op (some 17) (.move (.tmp 0)) none <|
          .op (some 18) (.move (.tmp 5)) none <|
          .op (some 19) (.indexAddr 28 (.tmp 17) (.tmp 18)) none <|
          .op (some 20) (.load 58 (.tmp 19)) none <|
          .op (some 21) (.move (.tmp 1)) none <|
          .op (some 22) (.move (.tmp 5)) none <|
          .op (some 23) (.indexAddr 28 (.tmp 21) (.tmp 22)) none <|
          .op (some 24) (.load 58 (.tmp 23)) none <|
          .op (some 25) (.call ⟨.value (.func 68), ⟨[.tmp 20, .tmp 24]⟩, ⟨[58, 58]⟩⟩) none <|
          .op (some 26) (.unOp .not 4 (.tmp 25)) none <|
          .cond (.tmp 26)
            (.op (some 4) (.assign (.const (.bool false))) none <|
            .ret)
            (.done) <|
          .done) <|
      .op (some 15) (.move (.tmp 5)) none <|
      .op (some 16) (.binOp .add 3 (.tmp 15) (.const (.int .i64 1)) 3) none <|
      .op (some 5) (.assign (.tmp 16)) none <|
      .done) <|
  .op (some 4) (.assign (.const (.bool true))) none <|
  .ret
theorem h40 : compF md0 Try.f40 = c40 := by kernel_rfl
theorem r40 : Try.f40.results.toList = [.tmp 4] := _root_.id (by kernel_rfl)
theorem nt40 : Try.f40.ntmps = 27 := by kernel_rfl
/-- laws.szIntSS -/
theorem md_41 : md0 41 = false := rfl
def c41 : XC :=
  .op (some 4) (.assign (.const (.int .i64 0))) none <|
  .op (some 6) (.move (.tmp 1)) none <|
  .op (some 7) (.move (.tmp 0)) none <|
  .op (some 8) (.call ⟨.builtin .len, ⟨[.tmp 7]⟩, ⟨[34]⟩⟩) none <|
  .op (some 9) (.binOp .sub 3 (.tmp 6) (.tmp 8) 3) none <|
  .op (some 1) (.assign (.tmp 9)) none <|
  .op (some 10) (.move (.tmp 1)) none <|
  .op (some 11) (.binOp .lss 3 (.tmp 10) (.const (.int .i64 0)) 3) none <|
  .cond (.tmp 11)
    (.op (some 4) (.assign (.const (.int .i64 (-1)))) none <|
      .ret)
    (.done) <|
  .op (some 5) (.assign (.const (.int .i64 0))) none <|
  .block 0
    (.loop <|
      .op (some 12) (.move (.tmp 5)) none <|
      .op (some 13) (.move (.tmp 0)) none <|
      .op (some 14) (.call ⟨.builtin .len, ⟨[.tmp 13]⟩, ⟨[34]⟩⟩) none <|
      .op (some 15) (.binOp .lss 3 (.tmp 12) (.tmp 14) 3) none <|
      .cond (.tmp 15)
        (.done)
        (.exit 0) <|
      .block 1
        (.op (some 18) (.move (.tmp 0)) none <|
          .op (some 19) (.move (.tmp 5)) none <|
          .op (some 20) (.indexAddr 34 (.tmp 18) (.tmp 19)) none <|
          .op (some 21) (.load 23 (.tmp 20)) none <|
          .op (some 22) (.move (.tmp 1)) none <|
          .op (some 23) (.call ⟨.value (.func 33), ⟨[.tmp 21, .tmp 22]⟩, ⟨[23, 3]⟩⟩) none <|
          .op (some 1) (.assign (.tmp 23)) none <|
          .op (some 24) (.move (.tmp 1)) none <|
          .op (some 25) (.binOp .lss 3 (.tmp 24) (.const (.int .i64 0)) 3) none <|
          .cond (.tmp 25)
            (.op (some 4) (.assign (.const (.int .i64 (-1)))) none <|
            .ret)
            (.done) <|
          .done) <|
      .op (some 16) (.move (.tmp 5)) none <|
      .op (some 17) (.binOp .add 3 (.tmp 16) (.const (.int .i64 1)) 3) none <|
      .op (some 5) (.assign (.tmp 17)) none <|
      .done) <|
  .op (some 26) (.move (.tmp 1)) none <|
  .op (some 4) (.assign (.tmp 26)) none <|
  .ret
theorem h41 : compF md0 Try.f41 = c41 := by kernel_rfl
theorem r41 : Try.f41.results.toList = [.tmp 4] := _root_.id (by kernel_rfl)
theorem nt41 : Try.f41.ntmps = 27 := by kernel_rfl
/-- spec.wAsked -/
theorem md_42 : md0 42 = false := rfl
def c42 : XC :=
  .op (some 2) (.box 40 (.tmp 0)) none <|
  .op (some 4) (.assign (.const (.bool false))) none <|
  .op (some 5) (.load 40 (.tmp 2)) none <|
  .op (some 6) (.call ⟨.value (.func 69), ⟨[.tmp 5]⟩, ⟨[40]⟩⟩) none <|
  .op (some 7) (.move (.tmp 6)) none <|
  .op (some 8) (.move (.tmp 1)) (some (7, true)) <|
  .op (some 9) (.call ⟨.value (.func 43), ⟨[.tmp 8, .const (.int .i64 0), .const (.int .i64 2)]⟩, ⟨[3, 3, 3]⟩⟩) (some (7, true)) <|
  .op (some 10) (.pick (.tmp 7) (.tmp 9) (.const (.bool false))) none <|
  .op (some 4) (.assign (.tmp 10)) none <|
  .ret
theorem h42 : compF md0 Try.f42 = c42 := by kernel_rfl
theorem r42 : Try.f42.results.toList = [.tmp 4] := _root_.id (by kernel_rfl)
theorem nt42 : Try.f42.ntmps = 11 := by kernel_rfl
/-- spec.l1In -/
theorem md_43 : md0 43 = false := rfl
def c43 : XC :=
  .op (some 6) (.assign (.const (.bool false))) none <|
  .op (some 7) (.move (.tmp 0)) none <|
  .op (some 8) (.move (.tmp 1)) none <|
  .op (some 9) (.binOp .geq 3 (.tmp 7) (.tmp 8) 3) none <|
  .op (some 10) (.move (.tmp 9)) none <|
  .op (some 11) (.move (.tmp 0)) (some (10, true)) <|
  .op (some 12) (.move (.tmp 2)) (some (10, true)) <|
  .op (some 13) (.binOp .leq 3 (.tmp 11) (.tmp 12) 3) (some (10, true)) <|
  .op (some 14) (.pick (.tmp 10) (.tmp 13) (.const (.bool false))) none <|
  .op (some 6) (.assign (.tmp 14)) none <|
  .ret
theorem h43 : compF md0 Try.f43 = c43 := by kernel_rfl
theorem r43 : Try.f43.results.toList = [.tmp 6] := _root_.id (by kernel_rfl)
theorem nt43 : Try.f43.ntmps = 15 := by kernel_rfl
/-- spec.wChances -/
theorem md_44 : md0 44 = false := rfl
def c44 : XC :=
  .op (some 3) (.box 40 (.tmp 0)) none <|
  .op (some 6) (.assign (.const (.slice none 0 0))) none <|
  .op (some 13) (.makeSlice 23 (.const (.int .i64 3)) (.const (.int .i64 3))) none <|
  .op (some 7) (.assign (.tmp 13)) none <|
  .op (some 14) (.move (.tmp 7)) none <|
  .op (some 15) (.move (.tmp 1)) none <|
  .op (some 16) (.indexAddr 23 (.tmp 14) (.tmp 15)) none <|
  .op none (.store 3 (.tmp 16) (.const (.int .i64 1))) none <|
  .block 0
    (.loop <|
      .op (some 17) (.move (.tmp 2)) none <|
      .op (some 18) (.binOp .gtr 3 (.tmp 17) (.const (.int .i64 0)) 3) none <|
      .cond (.tmp 18)
        (.done)
        (.exit 0) <|
      .block 1
        (.op (some 21) (.makeSlice 23 (.const (.int .i64 3)) (.const (.int .i64 3))) none <|
          .op (some 8) (.assign (.tmp 21)) none <|
          .op (some 22) (.move (.tmp 7)) none <|
          .op (some 23) (.call ⟨.builtin .len, ⟨[.tmp 22]⟩, ⟨[23]⟩⟩) none <|
          .op (some 24) (.move (.const (.int .i64 0))) none <|
          .block 2
            (.loop <|
            .op (some 25) (.binOp .lss 3 (.tmp 24) (.tmp 23) 3) none <|
            .cond (.tmp 25)
              (.done)
              (.exit 2) <|
            .block 3
              (.op (some 26) (.move (.tmp 24)) none <|
            .op (some 27) (.indexAddr 23 (.tmp 22) (.tmp 24)) none <|
            .op (some 28) (.load 3 (.tmp 27)) none <|
            .op (some 9) (.assign (.tmp 26)) none <|
            .op (some 10) (.assign (.tmp 28)) none <|
            .op (some 29) (.fieldAddr 40 (.tmp 3) 0) none <|
            .op (some 30) (.load 34 (.tmp 29)) none <|
            .op (some 31) (.move (.tmp 9)) none <|
            .op (some 32) (.indexAddr 34 (.tmp 30) (.tmp 31)) none <|
            .op (some 33) (.load 23 (.tmp 32)) none <|
            .op (some 34) (.call ⟨.builtin .len, ⟨[.tmp 33]⟩, ⟨[23]⟩⟩) none <|
            .op (some 35) (.move (.const (.int .i64 0))) none <|
            .block 4
              (.loop <|
            .op (some 36) (.binOp .lss 3 (.tmp 35) (.tmp 34) 3) none <|
            .cond (.tmp 36)
              (.done)
              (.exit 4) <|
            .block 5
              (.op (some 37) (.move (.tmp 35)) none <|
            .op (some 38) (.indexAddr 23 (.tmp 33) (.tmp 35)) none <|
            .op (some 39) (.load 3 (.tmp 38)) none <|
            .op (some 11) (.assign (.tmp 37)) none <|
            .op (some 12) (.assign (.tmp 39)) none <|
            .op (some 40) (.move (.tmp 8)) none <|
            .op (some 41) (.move (.tmp 11)) none <|
            .op (some 42) (.indexAddr 23 (.tmp 40) (.tmp 41)) none <|
            .op (some 43) (.load 3 (.tmp 42)) none <|
            .op (some 44) (.move (.tmp 10)) none <|
            .op (some 45) (.move (.tmp 12)) none <|
            .op (some 46) (.binOp .mul 3 (.tmp 44) (.tmp 45) 3) none <|
            .op (some 47) (.binOp .add 3 (.tmp 43) (.tmp 46) 3) none <|
            .op (some 48) (.indexAddr 23 (.tmp 40) (.tmp 41)) none <|
            .op none (.store 3 (.tmp 48) (.tmp 47)) none <|
            .done) <|
            .op (some 49) (.binOp .add 3 (.tmp 35) (.const (.int .i64 1)) 3) none <|
            .op (some 35) (.move (.tmp 49)) none <|
            .done) <|
            .done) <|
            .op (some 50) (.binOp .add 3 (.tmp 24) (.const (.int .i64 1)) 3) none <|
            .op (some 24) (.move (.tmp 50)) none <|
            .done) <|
          .op (some 51) (.move (.tmp 8)) none <|
          .op (some 7) (.assign (.tmp 51)) none <|
          .done) <|
      .op (some 19) (.move (.tmp 2)) none <|
      .op (some 20) (.binOp .sub 3 (.tmp 19) (.const (.int .i64 1)) 3) none <|
      .op (some 2) (.assign (.tmp 20)) none <|
      .done) <|
  .op (some 52) (.move (.tmp 7)) none <|
  .op (some 6) (.assign (.tmp 52)) none <|
  .ret
theorem h44 : compF md0 Try.f44 = c44 := by kernel_rfl
theorem r44 : Try.f44.results.toList = [.tmp 6] := _root_.id (by kernel_rfl)
theorem nt44 : Try.f44.ntmps = 53 := by kernel_rfl
/-- laws.toIntSS -/
theorem md_45 : md0 45 = false := rfl
def c45 : XC :=
  .op (some 2) (.assign (.const (.slice none 0 0))) none <|
  .op (some 5) (.move (.tmp 0)) none <|
  .op (some 6) (.call ⟨.builtin .len, ⟨[.tmp 5]⟩, ⟨[34]⟩⟩) none <|
  .op (some 7) (.makeSlice 34 (.tmp 6) (.tmp 6)) none <|
  .op (some 3) (.assign (.tmp 7)) none <|
  .op (some 4) (.assign (.const (.int .i64 0))) none <|
  .block 0
    (.loop <|
      .op (some 8) (.move (.tmp 4)) none <|
      .op (some 9) (.move (.tmp 0)) none <|
      .op (some 10) (.call ⟨.builtin .len, ⟨[.tmp 9]⟩, ⟨[34]⟩⟩) none <|
      .op (some 11) (.binOp .lss 3 (.tmp 8) (.tmp 10) 3) none <|
      .cond (.tmp 11)
        (.done)
        (.exit 0) <|
      .block 1
        (.op (some 14) (.move (.tmp 3)) none <|
          .op (some 15) (.move (.tmp 4)) none <|
          .op (some 16) (.move (.tmp 0)) none <|
          .op (some 17) (.move (.tmp 4)) none <|
          .op (some 18) (.indexAddr 34 (.tmp 16) (.tmp 17)) none <|
          .op (some 19) (.load 23 (.tmp 18)) none <|
          .op (some 20) (.call ⟨.value (.func 30), ⟨[.tmp 19]⟩, ⟨[23]⟩⟩) none <|
          .op (some 21) (.indexAddr 34 (.tmp 14) (.tmp 15)) none <|
          .op none (.store 23 (.tmp 21) (.tmp 20)) none <|
          .done) <|
      .op (some 12) (.move (.tmp 4)) none <|
      .op (some 13) (.binOp .add 3 (.tmp 12) (.const (.int .i64 1)) 3) none <|
      .op (some 4) (.assign (.tmp 13)) none <|
      .done) <|
  .op (some 22) (.move (.tmp 3)) none <|
  .op (some 2) (.assign (.tmp 22)) none <|
  .ret
theorem h45 : compF md0 Try.f45 = c45 := by kernel_rfl
theorem r45 : Try.f45.results.toList = [.tmp 2] := _root_.id (by kernel_rfl)
theorem nt45 : Try.f45.ntmps = 23 := by kernel_rfl
/-- impl.isWeatherOf -/
theorem md_46 : md0 46 = false := rfl
def c46 : XC :=
  .op (some 2) (.box 40 (.tmp 0)) none <|
  .op (some 4) (.assign (.const (.bool false))) none <|
  .op (some 5) (.load 40 (.tmp 2)) none <|
  .op (some 6) (.call ⟨.value (.func 70), ⟨[.tmp 5]⟩, ⟨[40]⟩⟩) none <|
  .op (some 7) (.move (.tmp 6)) none <|
  .op (some 8) (.move (.tmp 1)) (some (7, true)) <|
  .op (some 9) (.call ⟨.value (.func 71), ⟨[.tmp 8]⟩, ⟨[3]⟩⟩) (some (7, true)) <|
  .op (some 10) (.pick (.tmp 7) (.tmp 9) (.const (.bool false))) none <|
  .op (some 4) (.assign (.tmp 10)) none <|
  .ret
theorem h46 : compF md0 Try.f46 = c46 := by kernel_rfl
theorem r46 : Try.f46.results.toList = [.tmp 4] := _root_.id (by kernel_rfl)
theorem nt46 : Try.f46.ntmps = 11 := by kernel_rfl
/-- impl.chancesAfter -/
theorem md_47 : md0 47 = false := rfl
def c47 : XC :=
  .op (some 3) (.box 40 (.tmp 0)) none <|
  .op (some 6) (.assign (.const (.slice none 0 0))) none <|
  .op (some 13) (.makeSlice 23 (.const (.int .i64 3)) (.const (.int .i64 3))) none <|
  .op (some 7) (.assign (.tmp 13)) none <|
  .op (some 14) (.move (.tmp 7)) none <|
  .op (some 15) (.move (.tmp 1)) none <|
  .op (some 16) (.indexAddr 23 (.tmp 14) (.tmp 15)) none <|
  .op none (.store 3 (.tmp 16) (.const (.int .i64 1))) none <|
  .op (some 17) (.move (.tmp 2)) none <|
  .op (some 18) (.move (.const (.int .i64 0))) none <|
  .block 0
    (.loop <|
      .op (some 19) (.binOp .lss 3 (.tmp 18) (.tmp 17) 3) none <|
      .cond (.tmp 19)
        (.done)
        (.exit 0) <|
      .block 1
        (.op (some 20) (.makeSlice 23 (.const (.int .i64 3)) (.const (.int .i64 3))) none <|
          .op (some 8) (.assign (.tmp 20)) none <|
          .op (some 21) (.move (.tmp 7)) none <|
          .op (some 22) (.call ⟨.builtin .len, ⟨[.tmp 21]⟩, ⟨[23]⟩⟩) none <|
          .op (some 23) (.move (.const (.int .i64 0))) none <|
          .block 2
            (.loop <|
            .op (some 24) (.binOp .lss 3 (.tmp 23) (.tmp 22) 3) none <|
            .cond (.tmp 24)
              (.done)
              (.exit 2) <|
            .block 3
              (.op (some 25) (.move (.tmp 23)) none <|
            .op (some 26) (.indexAddr 23 (.tmp 21) (.tmp 23)) none <|
            .op (some 27) (.load 3 (.tmp 26)) none <|
            .op (some 9) (.assign (.tmp 25)) none <|
            .op (some 10) (.assign (.tmp 27)) none <|
            .op (some 28) (.fieldAddr 40 (.tmp 3) 0) none <|
            .op (some 29) (.load 34 (.tmp 28)) none <|
            .op (some 30) (.move (.tmp 9)) none <|
            .op (some 31) (.indexAddr 34 (.tmp 29) (.tmp 30)) none <|
            .op (some 32) (.load 23 (.tmp 31)) none <|
            .op (some 33) (.call ⟨.builtin .len, ⟨[.tmp 32]⟩, ⟨[23]⟩⟩) none <|
            .op (some 34) (.move (.const (.int .i64 0))) none <|
            .block 4
              (.loop <|
            .op (some 35) (.binOp .lss 3 (.tmp 34) (.tmp 33) 3) none <|
            .cond (.tmp 35)
              (.done)
              (.exit 4) <|
            .block 5
              (.op (some 36) (.move (.tmp 34)) none <|
            .op (some 37) (.indexAddr 23 (.tmp 32) (.tmp 34)) none <|
            .op (some 38) (.load 3 (.tmp 37)) none <|
            .op (some 11) (.assign (.tmp 36)) none <|
            .op (some 12) (.assign (.tmp 38)) none <|
            .op (some 39) (.move (.tmp 8)) none <|
            .op (some 40) (.move (.tmp 11)) none <|
            .op (some 41) (.indexAddr 23 (.tmp 39) (.tmp 40)) none <|
            .op (some 42) (.load 3 (.tmp 41)) none <|
            .op (some 43) (.move (.tmp 10)) none <|
            .op (some 44) (.move (.tmp 12)) none <|
            .op (some 45) (.binOp .mul 3 (.tmp 43) (.tmp 44) 3) none <|
            .op (some 46) (.binOp .add 3 (.tmp 42) (.tmp 45) 3) none <|
            .op (some 47) (.indexAddr 23 (.tmp 39) (.tmp 40)) none <|
            .op none (.store 3 (.tmp 47) (.tmp 46)) none <|
            .done) <|
            .op (some 48) (.binOp .add 3 (.tmp 34) (.const (.int .i64 1)) 3) none <|
            .op (some 34) (.move (.tmp 48)) none <|
            .done) <|
            .done) <|
            .op (some 49) (.binOp .add 3 (.tmp 23) (.const (.int .i64 1)) 3) none <|
            .op (some 23) (.move (.tmp 49)) none <|
            .done) <|
          .op (some 50) (.move (.tmp 8)) none <|
          .op (some 7) (.assign (.tmp 50)) none <|
          .done) <|
      .op (some 51) (.binOp .add 3 (.tmp 18) (.const (.int .i64 1)) 3) none <|
      .op (some 18) (.move (.tmp 51)) none <|
      .done) <|
  .op (some 52) (.move (.tmp 7)) none <|
  .op (some 6) (.assign (.tmp 52)) none <|
  .ret
theorem h47 : compF md0 Try.f47 = c47 := by kernel_rfl
theorem r47 : Try.f47.results.toList = [.tmp 6] := _root_.id (by kernel_rfl)
theorem nt47 : Try.f47.ntmps = 53 := by kernel_rfl
/-- laws.eqIntSS -/
theorem md_48 : md0 48 = false := rfl
def c48 : XC :=
  .op (some 4) (.assign (.const (.bool false))) none <|
  .op (some 6) (.move (.tmp 0)) none <|
  .op (some 7) (.call ⟨.builtin .len, ⟨[.tmp 6]⟩, ⟨[34]⟩⟩) none <|
  .op (some 8) (.move (.tmp 1)) none <|
  .op (some 9) (.call ⟨.builtin .len, ⟨[.tmp 8]⟩, ⟨[34]⟩⟩) none <|
  .op (some 10) (.binOp .neq 3 (.tmp 7) (.tmp 9) 3) none <|
  .cond (.tmp 10)
    (.op (some 4) (.assign (.const (.bool false))) none <|
      .ret)
    (.done) <|
  .op (some 5) (.assign (.const (.int .i64 0))) none <|
  .block 0
    (.loop <|
      .op (some 11) (.move (.tmp 5)) none <|
      .op (some 12) (.move (.tmp 0)) none <|
      .op (some 13) (.call ⟨.builtin .len, ⟨[.tmp 12]⟩, ⟨[34]⟩⟩) none <|
      .op (some 14) (.binOp .lss 3 (.tmp 11) (.tmp 13) 3) none <|
      .cond (.tmp 14)
        (.done)
        (.exit 0) <|
      .block 1
        (.op (some 17) (.move (.tmp 0)) none <|
          .op (some 18) (.move (.tmp 5)) none <|
          .op (some 19) (.indexAddr 34 (.tmp 17) (.tmp 18)) none <|
          .op (some 20) (.load 23 (.tmp 19)) none <|
          .op (some 21) (.move (.tmp 1)) none <|
          .op (some 22) (.move (.tmp 5)) none <|
          .op (some 23) (.indexAddr 34 (.tmp 21) (.tmp 22)) none <|
          .op (some 24) (.load 23 (.tmp 23)) none <|
          .op (some 25) (.call ⟨.value (.func 18), ⟨[.tmp 20, .tmp 24]⟩, ⟨[23, 23]⟩⟩) none <|
          .op (some 26) (.unOp .not 4 (.tmp 25)) none <|
          .cond (.tmp 26)
            (.op (some 4) (.assign (.const (.bool false))) none <|
            .ret)
            (.done) <|
          .done) <|
      .op (some 15) (.move (.tmp 5)) none <|
      .op (some 16) (.binOp .add 3 (.tmp 15) (.const (.int .i64 1)) 3) none <|
      .op (some 5) (.assign (.tmp 16)) none <|
      .done) <|
  .op (some 4) (.assign (.const (.bool true))) none <|
  .ret
theorem h48 : compF md0 Try.f48 = c48 := by kernel_rfl
theorem r48 : Try.f48.results.toList = [.tmp 4] := _root_.id (by kernel_rfl)
theorem nt48 : Try.f48.ntmps = 27 := by kernel_rfl
/-- laws.markIntSS -/
theorem md_49 : md0 49 = true := rfl
def c49 : XC :=
  .op (some 4) (.assign (.const (.int .i64 0))) none <|
  .op (some 5) (.assign (.const (.int .i64 0))) none <|
  .block 0
    (.loop <|
      .op (some 6) (.move (.tmp 5)) none <|
      .op (some 7) (.move (.tmp 0)) none <|
      .op (some 8) (.call ⟨.builtin .len, ⟨[.tmp 7]⟩, ⟨[34]⟩⟩) none <|
      .op (some 9) (.binOp .lss 3 (.tmp 6) (.tmp 8) 3) none <|
      .cond (.tmp 9)
        (.done)
        (.exit 0) <|
      .block 1
        (.op (some 12) (.move (.tmp 0)) none <|
          .op (some 13) (.move (.tmp 5)) none <|
          .op (some 14) (.indexAddr 34 (.tmp 12) (.tmp 13)) none <|
          .op (some 15) (.load 23 (.tmp 14)) none <|
          .op (some 16) (.move (.tmp 1)) none <|
          .op (some 17) (.call ⟨.value (.func 21), ⟨[.tmp 15, .tmp 16]⟩, ⟨[23, 3]⟩⟩) none <|
          .op (some 1) (.assign (.tmp 17)) none <|
          .done) <|
      .op (some 10) (.move (.tmp 5)) none <|
      .op (some 11) (.binOp .add 3 (.tmp 10) (.const (.int .i64 1)) 3) none <|
      .op (some 5) (.assign (.tmp 11)) none <|
      .done) <|
  .op (some 18) (.move (.tmp 1)) none <|
  .op (some 4) (.assign (.tmp 18)) none <|
  .ret
theorem h49 : compF md0 Try.f49 = c49 := by kernel_rfl
theorem r49 : Try.f49.results.toList = [.tmp 4] := _root_.id (by kernel_rfl)
theorem nt49 : Try.f49.ntmps = 19 := by kernel_rfl
/-- spec.dSeed -/
theorem md_50 : md0 50 = false := rfl
def c50 : XC :=
  .op (some 2) (.assign (.const (.bool false))) none <|
  .op (some 3) (.move (.tmp 0)) none <|
  .op (some 4) (.call ⟨.value (.func 43), ⟨[.tmp 3, .const (.int .i64 0), .const (.int .i64 4611686016279904236)]⟩, ⟨[3, 3, 3]⟩⟩) none <|
  .op (some 2) (.assign (.tmp 4)) none <|
  .ret
theorem h50 : compF md0 Try.f50 = c50 := by kernel_rfl
theorem r50 : Try.f50.results.toList = [.tmp 2] := _root_.id (by kernel_rfl)
theorem nt50 : Try.f50.ntmps = 5 := by kernel_rfl
/-- spec.wNext -/
theorem md_51 : md0 51 = false := rfl
def c51 : XC :=
  .op (some 4) (.box 40 (.tmp 0)) none <|
  .op (some 8) (.assign (.const (.int .i64 0))) none <|
  .op (some 12) (.move (.tmp 2)) none <|
  .op (some 13) (.move (.tmp 3)) none <|
  .op (some 14) (.call ⟨.value (.func 72), ⟨[.tmp 12, .tmp 13, .const (.int .i64 36)]⟩, ⟨[3, 3, 3]⟩⟩) none <|
  .op (some 9) (.assign (.tmp 14)) none <|
  .op (some 15) (.fieldAddr 40 (.tmp 4) 0) none <|
  .op (some 16) (.load 34 (.tmp 15)) none <|
  .op (some 17) (.move (.tmp 1)) none <|
  .op (some 18) (.indexAddr 34 (.tmp 16) (.tmp 17)) none <|
  .op (some 19) (.load 23 (.tmp 18)) none <|
  .op (some 20) (.call ⟨.builtin .len, ⟨[.tmp 19]⟩, ⟨[23]⟩⟩) none <|
  .op (some 21) (.move (.const (.int .i64 0))) none <|
  .block 0
    (.loop <|
      .op (some 22) (.binOp .lss 3 (.tmp 21) (.tmp 20) 3) none <|
      .cond (.tmp 22)
        (.done)
        (.exit 0) <|
      .block 1
        (.op (some 23) (.move (.tmp 21)) none <|
          .op (some 24) (.indexAddr 23 (.tmp 19) (.tmp 21)) none <|
          .op (some 25) (.load 3 (.tmp 24)) none <|
          .op (some 10) (.assign (.tmp 23)) none <|
          .op (some 11) (.assign (.tmp 25)) none <|
          .op (some 26) (.move (.tmp 9)) none <|
          .op (some 27) (.move (.tmp 11)) none <|
          .op (some 28) (.binOp .lss 3 (.tmp 26) (.tmp 27) 3) none <|
          .cond (.tmp 28)
            (.op (some 29) (.move (.tmp 10)) none <|
            .op (some 8) (.assign (.tmp 29)) none <|
            .ret)
            (.done) <|
          .op (some 30) (.move (.tmp 9)) none <|
          .op (some 31) (.move (.tmp 11)) none <|
          .op (some 32) (.binOp .sub 3 (.tmp 30) (.tmp 31) 3) none <|
          .op (some 9) (.assign (.tmp 32)) none <|
          .done) <|
      .op (some 33) (.binOp .add 3 (.tmp 21) (.const (.int .i64 1)) 3) none <|
      .op (some 21) (.move (.tmp 33)) none <|
      .done) <|
  .op (some 8) (.assign (.const (.int .i64 0))) none <|
  .ret
theorem h51 : compF md0 Try.f51 = c51 := by kernel_rfl
theorem r51 : Try.f51.results.toList = [.tmp 8] := _root_.id (by kernel_rfl)
theorem nt51 : Try.f51.ntmps = 34 := by kernel_rfl
/-- impl.isSeed -/
theorem md_52 : md0 52 = false := rfl
def c52 : XC :=
  .op (some 2) (.assign (.const (.bool false))) none <|
  .op (some 3) (.move (.tmp 0)) none <|
  .op (some 4) (.call ⟨.value (.func 36), ⟨[.tmp 3, .const (.int .i64 0), .const (.int .i64 4611686016279904236)]⟩, ⟨[3, 3, 3]⟩⟩) none <|
  .op (some 2) (.assign (.tmp 4)) none <|
  .ret
theorem h52 : compF md0 Try.f52 = c52 := by kernel_rfl
theorem r52 : Try.f52.results.toList = [.tmp 2] := _root_.id (by kernel_rfl)
theorem nt52 : Try.f52.ntmps = 5 := by kernel_rfl
/-- impl.isTurn -/
theorem md_53 : md0 53 = false := rfl
def c53 : XC :=
  .op (some 2) (.assign (.const (.bool false))) none <|
  .op (some 3) (.move (.tmp 0)) none <|
  .op (some 4) (.call ⟨.value (.func 36), ⟨[.tmp 3, .const (.int .i64 0), .const (.int .i64 30)]⟩, ⟨[3, 3, 3]⟩⟩) none <|
  .op (some 2) (.assign (.tmp 4)) none <|
  .ret
theorem h53 : compF md0 Try.f53 = c53 := by kernel_rfl
theorem r53 : Try.f53.results.toList = [.tmp 2] := _root_.id (by kernel_rfl)
theorem nt53 : Try.f53.ntmps = 5 := by kernel_rfl
/-- impl.nextWeather -/
theorem md_54 : md0 54 = false := rfl
def c54 : XC :=
  .op (some 4) (.box 40 (.tmp 0)) none <|
  .op (some 8) (.assign (.const (.int .i64 0))) none <|
  .op (some 13) (.move (.tmp 2)) none <|
  .op (some 14) (.move (.tmp 3)) none <|
  .op (some 15) (.call ⟨.value (.func 73), ⟨[.tmp 13, .tmp 14, .const (.int .i64 36)]⟩, ⟨[3, 3, 3]⟩⟩) none <|
  .op (some 9) (.assign (.tmp 15)) none <|
  .op (some 10) (.assign (.const (.int .i64 0))) none <|
  .op (some 16) (.fieldAddr 40 (.tmp 4) 0) none <|
  .op (some 17) (.load 34 (.tmp 16)) none <|
  .op (some 18) (.move (.tmp 1)) none <|
  .op (some 19) (.indexAddr 34 (.tmp 17) (.tmp 18)) none <|
  .op (some 20) (.load 23 (.tmp 19)) none <|
  .op (some 21) (.call ⟨.builtin .len, ⟨[.tmp 20]⟩, ⟨[23]⟩⟩) none <|
  .op (some 22) (.move (.const (.int .i64 0))) none <|
  .block 0
    (.loop <|
      .op (some 23) (.binOp .lss 3 (.tmp 22) (.tmp 21) 3) none <|
      .cond (.tmp 23)
        (.done)
        (.exit 0) <|
      .block 1
        (.op (some 24) (.move (.tmp 22)) none <|
          .op (some 25) (.indexAddr 23 (.tmp 20) (.tmp 22)) none <|
          .op (some 26) (.load 3 (.tmp 25)) none <|
          .op (some 11) (.assign (.tmp 24)) none <|
          .op (some 12) (.assign (.tmp 26)) none <|
          .op (some 27) (.move (.tmp 10)) none <|
          .op (some 28) (.move (.tmp 12)) none <|
          .op (some 29) (.binOp .add 3 (.tmp 27) (.tmp 28) 3) none <|
          .op (some 10) (.assign (.tmp 29)) none <|
          .op (some 30) (.move (.tmp 10)) none <|
          .op (some 31) (.move (.tmp 9)) none <|
          .op (some 32) (.binOp .gtr 3 (.tmp 30) (.tmp 31) 3) none <|
          .cond (.tmp 32)
            (.op (some 33) (.move (.tmp 11)) none <|
            .op (some 8) (.assign (.tmp 33)) none <|
            .ret)
            (.done) <|
          .done) <|
      .op (some 34) (.binOp .add 3 (.tmp 22) (.const (.int .i64 1)) 3) none <|
      .op (some 22) (.move (.tmp 34)) none <|
      .done) <|
  .op (some 8) (.assign (.const (.int .i64 2))) none <|
  .ret
theorem h54 : compF md0 Try.f54 = c54 := by kernel_rfl
theorem r54 : Try.f54.results.toList = [.tmp 8] := _root_.id (by kernel_rfl)
theorem nt54 : Try.f54.ntmps = 35 := by kernel_rfl
/-- spec.wLikelihood -/
theorem md_55 : md0 55 = false := rfl
def c55 : XC :=
  .op (some 2) (.box 40 (.tmp 0)) none <|
  .op (some 4) (.assign (.const (.int .i64 0))) none <|
  .op (some 5) (.assign (.const (.int .i64 1))) none <|
  .op (some 6) (.assign (.const (.int .i64 1))) none <|
  .block 0
    (.loop <|
      .op (some 7) (.move (.tmp 6)) none <|
      .op (some 8) (.move (.tmp 1)) none <|
      .op (some 9) (.call ⟨.builtin .len, ⟨[.tmp 8]⟩, ⟨[23]⟩⟩) none <|
      .op (some 10) (.binOp .lss 3 (.tmp 7) (.tmp 9) 3) none <|
      .cond (.tmp 10)
        (.done)
        (.exit 0) <|
      .block 1
        (.op (some 13) (.move (.tmp 5)) none <|
          .op (some 14) (.fieldAddr 40 (.tmp 2) 0) none <|
          .op (some 15) (.load 34 (.tmp 14)) none <|
          .op (some 16) (.move (.tmp 1)) none <|
          .op (some 17) (.move (.tmp 6)) none <|
          .op (some 18) (.binOp .sub 3 (.tmp 17) (.const (.int .i64 1)) 3) none <|
          .op (some 19) (.indexAddr 23 (.tmp 16) (.tmp 18)) none <|
          .op (some 20) (.load 3 (.tmp 19)) none <|
          .op (some 21) (.indexAddr 34 (.tmp 15) (.tmp 20)) none <|
          .op (some 22) (.load 23 (.tmp 21)) none <|
          .op (some 23) (.move (.tmp 1)) none <|
          .op (some 24) (.move (.tmp 6)) none <|
          .op (some 25) (.indexAddr 23 (.tmp 23) (.tmp 24)) none <|
          .op (some 26) (.load 3 (.tmp 25)) none <|
          .op (some 27) (.indexAddr 23 (.tmp 22) (.tmp 26)) none <|
          .op (some 28) (.load 3 (.tmp 27)) none <|
          .op (some 29) (.binOp .mul 3 (.tmp 13) (.tmp 28) 3) none <|
          .op (some 5) (.assign (.tmp 29)) none <|
          .done) <|
      .op (some 11) (.move (.tmp 6)) none <|
      .op (some 12) (.binOp .add 3 (.tmp 11) (.const (.int .i64 1)) 3) none <|
      .op (some 6) (.assign (.tmp 12)) none <|
      .done) <|
  .op (some 30) (.move (.tmp 5)) none <|
  .op (some 4) (.assign (.tmp 30)) none <|
  .ret
theorem h55 : compF md0 Try.f55 = c55 := by kernel_rfl
theorem r55 : Try.f55.results.toList = [.tmp 4] := _root_.id (by kernel_rfl)
theorem nt55 : Try.f55.ntmps = 31 := by kernel_rfl
/-- impl.likelihood -/
theorem md_56 : md0 56 = false := rfl
def c56 : XC :=
  .op (some 2) (.box 40 (.tmp 0)) none <|
  .op (some 4) (.assign (.const (.int .i64 0))) none <|
  .op (some 5) (.assign (.const (.int .i64 1))) none <|
  .op (some 6) (.assign (.const (.int .i64 1))) none <|
  .block 0
    (.loop <|
      .op (some 7) (.move (.tmp 6)) none <|
      .op (some 8) (.move (.tmp 1)) none <|
      .op (some 9) (.call ⟨.builtin .len, ⟨[.tmp 8]⟩, ⟨[23]⟩⟩) none <|
      .op (some 10) (.binOp .lss 3 (.tmp 7) (.tmp 9) 3) none <|
      .cond (.tmp 10)
        (.done)
        (.exit 0) <|
      .block 1
        (.op (some 13) (.move (.tmp 5)) none <|
          .op (some 14) (.fieldAddr 40 (.tmp 2) 0) none <|
          .op (some 15) (.load 34 (.tmp 14)) none <|
          .op (some 16) (.move (.tmp 1)) none <|
          .op (some 17) (.move (.tmp 6)) none <|
          .op (some 18) (.binOp .sub 3 (.tmp 17) (.const (.int .i64 1)) 3) none <|
          .op (some 19) (.indexAddr 23 (.tmp 16) (.tmp 18)) none <|
          .op (some 20) (.load 3 (.tmp 19)) none <|
          .op (some 21) (.indexAddr 34 (.tmp 15) (.tmp 20)) none <|
          .op (some 22) (.load 23 (.tmp 21)) none <|
          .op (some 23) (.move (.tmp 1)) none <|
          .op (some 24) (.move (.tmp 6)) none <|
          .op (some 25) (.indexAddr 23 (.tmp 23) (.tmp 24)) none <|
          .op (some 26) (.load 3 (.tmp 25)) none <|
          .op (some 27) (.indexAddr 23 (.tmp 22) (.tmp 26)) none <|
          .op (some 28) (.load 3 (.tmp 27)) none <|
          .op (some 29) (.binOp .mul 3 (.tmp 13) (.tmp 28) 3) none <|
          .op (some 5) (.assign (.tmp 29)) none <|
          .done) <|
      .op (some 11) (.move (.tmp 6)) none <|
      .op (some 12) (.binOp .add 3 (.tmp 11) (.const (.int .i64 1)) 3) none <|
      .op (some 6) (.assign (.tmp 12)) none <|
      .done) <|
  .op (some 30) (.move (.tmp 5)) none <|
  .op (some 4) (.assign (.tmp 30)) none <|
  .ret
theorem h56 : compF md0 Try.f56 = c56 := by kernel_rfl
theorem r56 : Try.f56.results.toList = [.tmp 4] := _root_.id (by kernel_rfl)
theorem nt56 : Try.f56.ntmps = 31 := by kernel_rfl
/-- slices.Clone[[]int,int] -/
theorem md_57 : md0 57 = false := rfl
def c57 : XC :=
  .op (some 2) (.assign (.const (.slice none 0 0))) none <|
  .op (some 3) (.move (.tmp 0)) none <|
  .op (some 4) (.binOp .eql 23 (.tmp 3) (.const (.slice none 0 0)) 23) none <|
  .cond (.tmp 4)
    (.op (some 2) (.assign (.const (.slice none 0 0))) none <|
      .ret)
    (.done) <|
  .op (some 5) (.buildSlice 23 0 ⟨[]⟩) none <|
  .op (some 6) (.move (.tmp 0)) none <|
  .op (some 7) (.call ⟨.builtin .append, ⟨[.tmp 5, .tmp 6]⟩, ⟨[23, 23]⟩⟩) none <|
  .op (some 2) (.assign (.tmp 7)) none <|
  .ret
theorem h57 : compF md0 Try.f57 = c57 := by kernel_rfl
theorem r57 : Try.f57.results.toList = [.tmp 2] := _root_.id (by kernel_rfl)
theorem nt57 : Try.f57.ntmps = 8 := by kernel_rfl
/-- spec.l1Rising -/
theorem md_58 : md0 58 = false := rfl
def c58 : XC :=
  .op (some 6) (.assign (.const (.bool false))) none <|
  .op (some 9) (.move (.tmp 0)) none <|
  .op (some 10) (.call ⟨.builtin .len, ⟨[.tmp 9]⟩, ⟨[23]⟩⟩) none <|
  .op (some 11) (.move (.const (.int .i64 0))) none <|
  .block 0
    (.loop <|
      .op (some 12) (.binOp .lss 3 (.tmp 11) (.tmp 10) 3) none <|
      .cond (.tmp 12)
        (.done)
        (.exit 0) <|
      .block 1
        (.op (some 13) (.move (.tmp 11)) none <|
          .op (some 14) (.indexAddr 23 (.tmp 9) (.tmp 11)) none <|
          .op (some 15) (.load 3 (.tmp 14)) none <|
          .op (some 7) (.assign (.tmp 13)) none <|
          .op (some 8) (.assign (.tmp 15)) none <|
          .op (some 16) (.move (.tmp 8)) none <|
          .op (some 17) (.move (.tmp 1)) none <|
          .op (some 18) (.move (.tmp 2)) none <|
          .op (some 19) (.call ⟨.value (.func 43), ⟨[.tmp 16, .tmp 17, .tmp 18]⟩, ⟨[3, 3, 3]⟩⟩) none <|
          .op (some 20) (.unOp .not 4 (.tmp 19)) none <|
          .op (some 21) (.move (.tmp 20)) none <|
          .op (some 22) (.move (.tmp 7)) (some (21, false)) <|
          .op (some 23) (.binOp .gtr 3 (.tmp 22) (.const (.int .i64 0)) 3) (some (21, false)) <|
          .op (some 24) (.move (.tmp 23)) (some (21, false)) <|
          .op (some 25) (.move (.tmp 0)) (some (24, true)) <|
          .op (some 26) (.move (.tmp 7)) (some (24, true)) <|
          .op (some 27) (.binOp .sub 3 (.tmp 26) (.const (.int .i64 1)) 3) (some (24, true)) <|
          .op (some 28) (.indexAddr 23 (.tmp 25) (.tmp 27)) (some (24, true)) <|
          .op (some 29) (.load 3 (.tmp 28)) (some (24, true)) <|
          .op (some 30) (.move (.tmp 8)) (some (24, true)) <|
          .op (some 31) (.binOp .geq 3 (.tmp 29) (.tmp 30) 3) (some (24, true)) <|
          .op (some 32) (.pick (.tmp 24) (.tmp 31) (.const (.bool false))) (some (21, false)) <|
          .op (some 33) (.pick (.tmp 21) (.const (.bool true)) (.tmp 32)) none <|
          .cond (.tmp 33)
            (.op (some 6) (.assign (.const (.bool false))) none <|
            .ret)
            (.done) <|
          .done) <|
      .op (some 34) (.binOp .add 3 (.tmp 11) (.const (.int .i64 1)) 3) none <|
      .op (some 11) (.move (.tmp 34)) none <|
      .done) <|
  .op (some 6) (.assign (.const (.bool true))) none <|
  .ret
theorem h58 : compF md0 Try.f58 = c58 := by kernel_rfl
theorem r58 : Try.f58.results.toList = [.tmp 6] := _root_.id (by kernel_rfl)
theorem nt58 : Try.f58.ntmps = 35 := by kernel_rfl
/-- spec.qNetOf -/
theorem md_59 : md0 59 = false := rfl
def c59 : XC :=
  .op (some 4) (.box 30 (.tmp 0)) none <|
  .op (some 8) (.assign (.const (.pointer none))) none <|
  .op (some 17) (.move (.tmp 3)) none <|
  .op (some 18) (.binOp .add 3 (.tmp 17) (.const (.int .i64 1)) 3) none <|
  .op (some 19) (.fieldAddr 30 (.tmp 4) 0) none <|
  .op (some 20) (.load 3 (.tmp 19)) none <|
  .op (some 21) (.binOp .mul 3 (.tmp 18) (.tmp 20) 3) none <|
  .op (some 22) (.build 73 ⟨[(1, .tmp 21)]⟩) none <|
  .op (some 23) (.box 73 (.tmp 22)) none <|
  .op (some 9) (.assign (.tmp 23)) none <|
  .op (some 10) (.assign (.const (.int .i64 0))) none <|
  .block 0
    (.loop <|
      .op (some 24) (.move (.tmp 10)) none <|
      .op (some 25) (.move (.tmp 3)) none <|
      .op (some 26) (.binOp .lss 3 (.tmp 24) (.tmp 25) 3) none <|
      .cond (.tmp 26)
        (.done)
        (.exit 0) <|
      .block 1
        (.op (some 29) (.move (.tmp 10)) none <|
          .op (some 30) (.fieldAddr 30 (.tmp 4) 0) none <|
          .op (some 31) (.load 3 (.tmp 30)) none <|
          .op (some 32) (.binOp .mul 3 (.tmp 29) (.tmp 31) 3) none <|
          .op (some 33) (.move (.tmp 10)) none <|
          .op (some 34) (.binOp .add 3 (.tmp 33) (.const (.int .i64 1)) 3) none <|
          .op (some 35) (.fieldAddr 30 (.tmp 4) 0) none <|
          .op (some 36) (.load 3 (.tmp 35)) none <|
          .op (some 37) (.binOp .mul 3 (.tmp 34) (.tmp 36) 3) none <|
          .op (some 11) (.assign (.tmp 32)) none <|
          .op (some 12) (.assign (.tmp 37)) none <|
          .op (some 38) (.fieldAddr 30 (.tmp 4) 1) none <|
          .op (some 39) (.load 28 (.tmp 38)) none <|
          .op (some 40) (.call ⟨.builtin .len, ⟨[.tmp 39]⟩, ⟨[28]⟩⟩) none <|
          .op (some 41) (.move (.const (.int .i64 0))) none <|
          .block 2
            (.loop <|
            .op (some 42) (.binOp .lss 3 (.tmp 41) (.tmp 40) 3) none <|
            .cond (.tmp 42)
              (.done)
              (.exit 2) <|
            .block 3
              (.op (some 43) (.indexAddr 28 (.tmp 39) (.tmp 41)) none <|
            .op (some 44) (.load 58 (.tmp 43)) none <|
            .op (some 14) (.alloc 58) none <|
            .op none (.store 58 (.tmp 14) (.tmp 44)) none <|
            .op (some 45) (.move (.tmp 9)) none <|
            .op (some 46) (.move (.tmp 9)) none <|
            .op (some 47) (.nilCheck (.tmp 46)) none <|
            .op (some 48) (.fieldAddr 73 (.tmp 47) 0) none <|
            .op (some 49) (.load 71 (.tmp 48)) none <|
            .op (some 50) (.move (.tmp 11)) none <|
            .op (some 51) (.fieldAddr 58 (.tmp 14) 0) none <|
            .op (some 52) (.load 3 (.tmp 51)) none <|
            .op (some 53) (.binOp .add 3 (.tmp 50) (.tmp 52) 3) none <|
            .op (some 54) (.move (.tmp 12)) none <|
            .op (some 55) (.fieldAddr 58 (.tmp 14) 1) none <|
            .op (some 56) (.load 3 (.tmp 55)) none <|
            .op (some 57) (.binOp .add 3 (.tmp 54) (.tmp 56) 3) none <|
            .op (some 58) (.fieldAddr 58 (.tmp 14) 2) none <|
            .op (some 59) (.load 3 (.tmp 58)) none <|
            .op (some 60) (.build 77 ⟨[(0, .tmp 53), (1, .tmp 57), (2, .tmp 59)]⟩) none <|
            .op (some 61) (.buildSlice 71 1 ⟨[(0, .tmp 60)]⟩) none <|
            .op (some 62) (.call ⟨.builtin .append, ⟨[.tmp 49, .tmp 61]⟩, ⟨[71, 71]⟩⟩) none <|
            .op (some 63) (.nilCheck (.tmp 45)) none <|
            .op (some 64) (.fieldAddr 73 (.tmp 63) 0) none <|
            .op none (.store 71 (.tmp 64) (.tmp 62)) none <|
            .done) <|
            .op (some 65) (.binOp .add 3 (.tmp 41) (.const (.int .i64 1)) 3) none <|
            .op (some 41) (.move (.tmp 65)) none <|
            .done) <|
          .op (some 66) (.fieldAddr 30 (.tmp 4) 2) none <|
          .op (some 67) (.load 23 (.tmp 66)) none <|
          .op (some 68) (.call ⟨.builtin .len, ⟨[.tmp 67]⟩, ⟨[23]⟩⟩) none <|
          .op (some 69) (.move (.const (.int .i64 0))) none <|
          .block 4
            (.loop <|
            .op (some 70) (.binOp .lss 3 (.tmp 69) (.tmp 68) 3) none <|
            .cond (.tmp 70)
              (.done)
              (.exit 4) <|
            .block 5
              (.op (some 71) (.move (.tmp 69)) none <|
            .op (some 72) (.indexAddr 23 (.tmp 67) (.tmp 69)) none <|
            .op (some 73) (.load 3 (.tmp 72)) none <|
            .op (some 15) (.assign (.tmp 71)) none <|
            .op (some 16) (.assign (.tmp 73)) none <|
            .op (some 74) (.move (.tmp 15)) none <|
            .op (some 75) (.move (.tmp 1)) none <|
            .op (some 76) (.binOp .eql 3 (.tmp 74) (.tmp 75) 3) none <|
            .op (some 77) (.move (.tmp 76)) none <|
            .op (some 78) (.move (.tmp 15)) (some (77, false)) <|
            .op (some 79) (.move (.tmp 2)) (some (77, false)) <|
            .op (some 80) (.binOp .eql 3 (.tmp 78) (.tmp 79) 3) (some (77, false)) <|
            .op (some 81) (.pick (.tmp 77) (.const (.bool true)) (.tmp 80)) none <|
            .cond (.tmp 81)
              (.op (some 16) (.assign (.const (.int .i64 1000000))) none <|
            .done)
              (.done) <|
            .op (some 82) (.move (.tmp 9)) none <|
            .op (some 83) (.move (.tmp 9)) none <|
            .op (some 84) (.nilCheck (.tmp 83)) none <|
            .op (some 85) (.fieldAddr 73 (.tmp 84) 0) none <|
            .op (some 86) (.load 71 (.tmp 85)) none <|
            .op (some 87) (.move (.tmp 11)) none <|
            .op (some 88) (.move (.tmp 15)) none <|
            .op (some 89) (.binOp .add 3 (.tmp 87) (.tmp 88) 3) none <|
            .op (some 90) (.move (.tmp 12)) none <|
            .op (some 91) (.move (.tmp 15)) none <|
            .op (some 92) (.binOp .add 3 (.tmp 90) (.tmp 91) 3) none <|
            .op (some 93) (.move (.tmp 16)) none <|
            .op (some 94) (.build 77 ⟨[(0, .tmp 89), (1, .tmp 92), (2, .tmp 93)]⟩) none <|
            .op (some 95) (.buildSlice 71 1 ⟨[(0, .tmp 94)]⟩) none <|
            .op (some 96) (.call ⟨.builtin .append, ⟨[.tmp 86, .tmp 95]⟩, ⟨[71, 71]⟩⟩) none <|
            .op (some 97) (.nilCheck (.tmp 82)) none <|
            .op (some 98) (.fieldAddr 73 (.tmp 97) 0) none <|
            .op none (.store 71 (.tmp 98) (.tmp 96)) none <|
            .done) <|
            .op (some 99) (.binOp .add 3 (.tmp 69) (.const (.int .i64 1)) 3) none <|
            .op (some 69) (.move (.tmp 99)) none <|
            .done) <|
          .done) <|
      .op (some 27) (.move (.tmp 10)) none <|
      .op (some 28) (.binOp .add 3 (.tmp 27) (.const (.int .i64 1)) 3) none <|
      .op (some 10) (.assign (.tmp 28)) none <|
      .done) <|
  .op (some 100) (.move (.tmp 9)) none <|
  .op (some 8) (.assign (.tmp 100)) none <|
  .ret
theorem h59 : compF md0 Try.f59 = c59 := by kernel_rfl
theorem r59 : Try.f59.results.toList = [.tmp 8] := _root_.id (by kernel_rfl)
theorem nt59 : Try.f59.ntmps = 101 := by kernel_rfl
/-- spec.l1Has -/
theorem md_60 : md0 60 = false := rfl
def c60 : XC :=
  .op (some 4) (.assign (.const (.bool false))) none <|
  .op (some 7) (.move (.tmp 0)) none <|
  .op (some 8) (.call ⟨.builtin .len, ⟨[.tmp 7]⟩, ⟨[23]⟩⟩) none <|
  .op (some 9) (.move (.const (.int .i64 0))) none <|
  .block 0
    (.loop <|
      .op (some 10) (.binOp .lss 3 (.tmp 9) (.tmp 8) 3) none <|
      .cond (.tmp 10)
        (.done)
        (.exit 0) <|
      .block 1
        (.op (some 11) (.indexAddr 23 (.tmp 7) (.tmp 9)) none <|
          .op (some 12) (.load 3 (.tmp 11)) none <|
          .op (some 6) (.assign (.tmp 12)) none <|
          .op (some 13) (.move (.tmp 6)) none <|
          .op (some 14) (.move (.tmp 1)) none <|
          .op (some 15) (.binOp .eql 3 (.tmp 13) (.tmp 14) 3) none <|
          .cond (.tmp 15)
            (.op (some 4) (.assign (.const (.bool true))) none <|
            .ret)
            (.done) <|
          .done) <|
      .op (some 16) (.binOp .add 3 (.tmp 9) (.const (.int .i64 1)) 3) none <|
      .op (some 9) (.move (.tmp 16)) none <|
      .done) <|
  .op (some 4) (.assign (.const (.bool false))) none <|
  .ret
theorem h60 : compF md0 Try.f60 = c60 := by kernel_rfl
theorem r60 : Try.f60.results.toList = [.tmp 4] := _root_.id (by kernel_rfl)
theorem nt60 : Try.f60.ntmps = 17 := by kernel_rfl
/-- impl.increasing -/
theorem md_61 : md0 61 = false := rfl
def c61 : XC :=
  .op (some 2) (.assign (.const (.bool false))) none <|
  .op (some 3) (.assign (.const (.int .i64 1))) none <|
  .block 0
    (.loop <|
      .op (some 4) (.move (.tmp 3)) none <|
      .op (some 5) (.move (.tmp 0)) none <|
      .op (some 6) (.call ⟨.builtin .len, ⟨[.tmp 5]⟩, ⟨[23]⟩⟩) none <|
      .op (some 7) (.binOp .lss 3 (.tmp 4) (.tmp 6) 3) none <|
      .cond (.tmp 7)
        (.done)
        (.exit 0) <|
      .block 1
        (.op (some 10) (.move (.tmp 0)) none <|
          .op (some 11) (.move (.tmp 3)) none <|
          .op (some 12) (.binOp .sub 3 (.tmp 11) (.const (.int .i64 1)) 3) none <|
          .op (some 13) (.indexAddr 23 (.tmp 10) (.tmp 12)) none <|
          .op (some 14) (.load 3 (.tmp 13)) none <|
          .op (some 15) (.move (.tmp 0)) none <|
          .op (some 16) (.move (.tmp 3)) none <|
          .op (some 17) (.indexAddr 23 (.tmp 15) (.tmp 16)) none <|
          .op (some 18) (.load 3 (.tmp 17)) none <|
          .op (some 19) (.binOp .geq 3 (.tmp 14) (.tmp 18) 3) none <|
          .cond (.tmp 19)
            (.op (some 2) (.assign (.const (.bool false))) none <|
            .ret)
            (.done) <|
          .done) <|
      .op (some 8) (.move (.tmp 3)) none <|
      .op (some 9) (.binOp .add 3 (.tmp 8) (.const (.int .i64 1)) 3) none <|
      .op (some 3) (.assign (.tmp 9)) none <|
      .done) <|
  .op (some 2) (.assign (.const (.bool true))) none <|
  .ret
theorem h61 : compF md0 Try.f61 = c61 := by kernel_rfl
theorem r61 : Try.f61.results.toList = [.tmp 2] := _root_.id (by kernel_rfl)
theorem nt61 : Try.f61.ntmps = 20 := by kernel_rfl
/-- impl.CutLoad$1 -/
theorem md_62 : md0 62 = false := rfl
def c62 : XC :=
  .op (some 4) (.assign (.const (.bool false))) none <|
  .op (some 5) (.move (.tmp 0)) none <|
  .op (some 6) (.load 3 (.tmp 1)) none <|
  .op (some 7) (.binOp .add 3 (.tmp 6) (.const (.int .i64 1)) 3) none <|
  .op (some 8) (.fieldAddr 30 (.tmp 2) 0) none <|
  .op (some 9) (.load 3 (.tmp 8)) none <|
  .op (some 10) (.binOp .mul 3 (.tmp 7) (.tmp 9) 3) none <|
  .op (some 11) (.call ⟨.value (.func 37), ⟨[.tmp 5, .tmp 10]⟩, ⟨[3, 3]⟩⟩) none <|
  .op (some 12) (.unOp .not 4 (.tmp 11)) none <|
  .op (some 4) (.assign (.tmp 12)) none <|
  .ret
theorem h62 : compF md0 Try.f62 = c62 := by kernel_rfl
theorem r62 : Try.f62.results.toList = [.tmp 4] := _root_.id (by kernel_rfl)
theorem nt62 : Try.f62.ntmps = 13 := by kernel_rfl
/-- impl.networkOf -/
theorem md_63 : md0 63 = false := rfl
def c63 : XC :=
  .op (some 4) (.box 30 (.tmp 0)) none <|
  .op (some 8) (.assign (.const (.pointer none))) none <|
  .op (some 16) (.move (.tmp 3)) none <|
  .op (some 17) (.binOp .add 3 (.tmp 16) (.const (.int .i64 1)) 3) none <|
  .op (some 18) (.fieldAddr 30 (.tmp 4) 0) none <|
  .op (some 19) (.load 3 (.tmp 18)) none <|
  .op (some 20) (.binOp .mul 3 (.tmp 17) (.tmp 19) 3) none <|
  .op (some 21) (.build 82 ⟨[(0, .tmp 20)]⟩) none <|
  .op (some 22) (.box 82 (.tmp 21)) none <|
  .op (some 9) (.assign (.tmp 22)) none <|
  .op (some 23) (.move (.tmp 3)) none <|
  .op (some 24) (.move (.const (.int .i64 0))) none <|
  .block 0
    (.loop <|
      .op (some 25) (.binOp .lss 3 (.tmp 24) (.tmp 23) 3) none <|
      .cond (.tmp 25)
        (.done)
        (.exit 0) <|
      .block 1
        (.op (some 26) (.move (.tmp 24)) none <|
          .op (some 10) (.assign (.tmp 26)) none <|
          .op (some 27) (.fieldAddr 30 (.tmp 4) 1) none <|
          .op (some 28) (.load 28 (.tmp 27)) none <|
          .op (some 29) (.call ⟨.builtin .len, ⟨[.tmp 28]⟩, ⟨[28]⟩⟩) none <|
          .op (some 30) (.move (.const (.int .i64 0))) none <|
          .block 2
            (.loop <|
            .op (some 31) (.binOp .lss 3 (.tmp 30) (.tmp 29) 3) none <|
            .cond (.tmp 31)
              (.done)
              (.exit 2) <|
            .block 3
              (.op (some 32) (.indexAddr 28 (.tmp 28) (.tmp 30)) none <|
            .op (some 33) (.load 58 (.tmp 32)) none <|
            .op (some 12) (.alloc 58) none <|
            .op none (.store 58 (.tmp 12) (.tmp 33)) none <|
            .op (some 34) (.move (.tmp 9)) none <|
            .op (some 35) (.move (.tmp 9)) none <|
            .op (some 36) (.nilCheck (.tmp 35)) none <|
            .op (some 37) (.fieldAddr 82 (.tmp 36) 1) none <|
            .op (some 38) (.load 80 (.tmp 37)) none <|
            .op (some 39) (.move (.tmp 10)) none <|
            .op (some 40) (.fieldAddr 30 (.tmp 4) 0) none <|
            .op (some 41) (.load 3 (.tmp 40)) none <|
            .op (some 42) (.binOp .mul 3 (.tmp 39) (.tmp 41) 3) none <|
            .op (some 43) (.fieldAddr 58 (.tmp 12) 0) none <|
            .op (some 44) (.load 3 (.tmp 43)) none <|
            .op (some 45) (.binOp .add 3 (.tmp 42) (.tmp 44) 3) none <|
            .op (some 46) (.move (.tmp 10)) none <|
            .op (some 47) (.binOp .add 3 (.tmp 46) (.const (.int .i64 1)) 3) none <|
            .op (some 48) (.fieldAddr 30 (.tmp 4) 0) none <|
            .op (some 49) (.load 3 (.tmp 48)) none <|
            .op (some 50) (.binOp .mul 3 (.tmp 47) (.tmp 49) 3) none <|
            .op (some 51) (.fieldAddr 58 (.tmp 12) 1) none <|
            .op (some 52) (.load 3 (.tmp 51)) none <|
            .op (some 53) (.binOp .add 3 (.tmp 50) (.tmp 52) 3) none <|
            .op (some 54) (.fieldAddr 58 (.tmp 12) 2) none <|
            .op (some 55) (.load 3 (.tmp 54)) none <|
            .op (some 56) (.build 86 ⟨[(0, .tmp 45), (1, .tmp 53), (2, .tmp 55)]⟩) none <|
            .op (some 57) (.buildSlice 80 1 ⟨[(0, .tmp 56)]⟩) none <|
            .op (some 58) (.call ⟨.builtin .append, ⟨[.tmp 38, .tmp 57]⟩, ⟨[80, 80]⟩⟩) none <|
            .op (some 59) (.nilCheck (.tmp 34)) none <|
            .op (some 60) (.fieldAddr 82 (.tmp 59) 1) none <|
            .op none (.store 80 (.tmp 60) (.tmp 58)) none <|
            .done) <|
            .op (some 61) (.binOp .add 3 (.tmp 30) (.const (.int .i64 1)) 3) none <|
            .op (some 30) (.move (.tmp 61)) none <|
            .done) <|
          .done) <|
      .op (some 62) (.binOp .add 3 (.tmp 24) (.const (.int .i64 1)) 3) none <|
      .op (some 24) (.move (.tmp 62)) none <|
      .done) <|
  .op (some 63) (.move (.tmp 3)) none <|
  .op (some 64) (.move (.const (.int .i64 0))) none <|
  .block 4
    (.loop <|
      .op (some 65) (.binOp .lss 3 (.tmp 64) (.tmp 63) 3) none <|
      .cond (.tmp 65)
        (.done)
        (.exit 4) <|
      .block 5
        (.op (some 66) (.move (.tmp 64)) none <|
          .op (some 13) (.assign (.tmp 66)) none <|
          .op (some 67) (.fieldAddr 30 (.tmp 4) 2) none <|
          .op (some 68) (.load 23 (.tmp 67)) none <|
          .op (some 69) (.call ⟨.builtin .len, ⟨[.tmp 68]⟩, ⟨[23]⟩⟩) none <|
          .op (some 70) (.move (.const (.int .i64 0))) none <|
          .block 6
            (.loop <|
            .op (some 71) (.binOp .lss 3 (.tmp 70) (.tmp 69) 3) none <|
            .cond (.tmp 71)
              (.done)
              (.exit 6) <|
            .block 7
              (.op (some 72) (.move (.tmp 70)) none <|
            .op (some 73) (.indexAddr 23 (.tmp 68) (.tmp 70)) none <|
            .op (some 74) (.load 3 (.tmp 73)) none <|
            .op (some 14) (.assign (.tmp 72)) none <|
            .op (some 15) (.assign (.tmp 74)) none <|
            .op (some 75) (.move (.tmp 14)) none <|
            .op (some 76) (.move (.tmp 1)) none <|
            .op (some 77) (.binOp .eql 3 (.tmp 75) (.tmp 76) 3) none <|
            .op (some 78) (.move (.tmp 77)) none <|
            .op (some 79) (.move (.tmp 14)) (some (78, false)) <|
            .op (some 80) (.move (.tmp 2)) (some (78, false)) <|
            .op (some 81) (.binOp .eql 3 (.tmp 79) (.tmp 80) 3) (some (78, false)) <|
            .op (some 82) (.pick (.tmp 78) (.const (.bool true)) (.tmp 81)) none <|
            .cond (.tmp 82)
              (.op (some 15) (.assign (.const (.int .i64 1000000000))) none <|
            .done)
              (.done) <|
            .op (some 83) (.move (.tmp 9)) none <|
            .op (some 84) (.move (.tmp 9)) none <|
            .op (some 85) (.nilCheck (.tmp 84)) none <|
            .op (some 86) (.fieldAddr 82 (.tmp 85) 1) none <|
            .op (some 87) (.load 80 (.tmp 86)) none <|
            .op (some 88) (.move (.tmp 13)) none <|
            .op (some 89) (.fieldAddr 30 (.tmp 4) 0) none <|
            .op (some 90) (.load 3 (.tmp 89)) none <|
            .op (some 91) (.binOp .mul 3 (.tmp 88) (.tmp 90) 3) none <|
            .op (some 92) (.move (.tmp 14)) none <|
            .op (some 93) (.binOp .add 3 (.tmp 91) (.tmp 92) 3) none <|
            .op (some 94) (.move (.tmp 13)) none <|
            .op (some 95) (.binOp .add 3 (.tmp 94) (.const (.int .i64 1)) 3) none <|
            .op (some 96) (.fieldAddr 30 (.tmp 4) 0) none <|
            .op (some 97) (.load 3 (.tmp 96)) none <|
            .op (some 98) (.binOp .mul 3 (.tmp 95) (.tmp 97) 3) none <|
            .op (some 99) (.move (.tmp 14)) none <|
            .op (some 100) (.binOp .add 3 (.tmp 98) (.tmp 99) 3) none <|
            .op (some 101) (.move (.tmp 15)) none <|
            .op (some 102) (.build 86 ⟨[(0, .tmp 93), (1, .tmp 100), (2, .tmp 101)]⟩) none <|
            .op (some 103) (.buildSlice 80 1 ⟨[(0, .tmp 102)]⟩) none <|
            .op (some 104) (.call ⟨.builtin .append, ⟨[.tmp 87, .tmp 103]⟩, ⟨[80, 80]⟩⟩) none <|
            .op (some 105) (.nilCheck (.tmp 83)) none <|
            .op (some 106) (.fieldAddr 82 (.tmp 105) 1) none <|
            .op none (.store 80 (.tmp 106) (.tmp 104)) none <|
            .done) <|
            .op (some 107) (.binOp .add 3 (.tmp 70) (.const (.int .i64 1)) 3) none <|
            .op (some 70) (.move (.tmp 107)) none <|
            .done) <|
          .done) <|
      .op (some 108) (.binOp .add 3 (.tmp 64) (.const (.int .i64 1)) 3) none <|
      .op (some 64) (.move (.tmp 108)) none <|
      .done) <|
  .op (some 109) (.move (.tmp 9)) none <|
  .op (some 8) (.assign (.tmp 109)) none <|
  .ret
theorem h63 : compF md0 Try.f63 = c63 := by kernel_rfl
theorem r63 : Try.f63.results.toList = [.tmp 8] := _root_.id (by kernel_rfl)
theorem nt63 : Try.f63.ntmps = 110 := by kernel_rfl
/-- slices.Contains[[]int,int] -/
theorem md_64 : md0 64 = false := rfl
def c64 : XC :=
  .op (some 4) (.assign (.const (.bool false))) none <|
  .op (some 5) (.move (.tmp 0)) none <|
  .op (some 6) (.move (.tmp 1)) none <|
  .op (some 7) (.call ⟨.value (.func 74), ⟨[.tmp 5, .tmp 6]⟩, ⟨[23, 3]⟩⟩) none <|
  .op (some 8) (.binOp .geq 3 (.tmp 7) (.const (.int .i64 0)) 3) none <|
  .op (some 4) (.assign (.tmp 8)) none <|
  .ret
theorem h64 : compF md0 Try.f64 = c64 := by kernel_rfl
theorem r64 : Try.f64.results.toList = [.tmp 4] := _root_.id (by kernel_rfl)
theorem nt64 : Try.f64.ntmps = 9 := by kernel_rfl
/-- spec.l1All -/
theorem md_65 : md0 65 = false := rfl
def c65 : XC :=
  .op (some 6) (.assign (.const (.bool false))) none <|
  .op (some 9) (.move (.tmp 0)) none <|
  .op (some 10) (.call ⟨.builtin .len, ⟨[.tmp 9]⟩, ⟨[23]⟩⟩) none <|
  .op (some 11) (.move (.const (.int .i64 0))) none <|
  .block 0
    (.loop <|
      .op (some 12) (.binOp .lss 3 (.tmp 11) (.tmp 10) 3) none <|
      .cond (.tmp 12)
        (.done)
        (.exit 0) <|
      .block 1
        (.op (some 13) (.indexAddr 23 (.tmp 9) (.tmp 11)) none <|
          .op (some 14) (.load 3 (.tmp 13)) none <|
          .op (some 8) (.assign (.tmp 14)) none <|
          .op (some 15) (.move (.tmp 8)) none <|
          .op (some 16) (.move (.tmp 1)) none <|
          .op (some 17) (.move (.tmp 2)) none <|
          .op (some 18) (.call ⟨.value (.func 43), ⟨[.tmp 15, .tmp 16, .tmp 17]⟩, ⟨[3, 3, 3]⟩⟩) none <|
          .op (some 19) (.unOp .not 4 (.tmp 18)) none <|
          .cond (.tmp 19)
            (.op (some 6) (.assign (.const (.bool false))) none <|
            .ret)
            (.done) <|
          .done) <|
      .op (some 20) (.binOp .add 3 (.tmp 11) (.const (.int .i64 1)) 3) none <|
      .op (some 11) (.move (.tmp 20)) none <|
      .done) <|
  .op (some 6) (.assign (.const (.bool true))) none <|
  .ret
theorem h65 : compF md0 Try.f65 = c65 := by kernel_rfl
theorem r65 : Try.f65.results.toList = [.tmp 6] := _root_.id (by kernel_rfl)
theorem nt65 : Try.f65.ntmps = 21 := by kernel_rfl
/-- laws.toLane -/
theorem md_66 : md0 66 = false := rfl
def c66 : XC :=
  .op (some 1) (.box 88 (.tmp 0)) none <|
  .op (some 2) (.alloc 58) none <|
  .op (some 3) (.alloc 58) none <|
  .op (some 4) (.fieldAddr 88 (.tmp 1) 0) none <|
  .op (some 5) (.load 3 (.tmp 4)) none <|
  .op (some 6) (.fieldAddr 58 (.tmp 3) 0) none <|
  .op none (.store 3 (.tmp 6) (.tmp 5)) none <|
  .op (some 7) (.fieldAddr 88 (.tmp 1) 1) none <|
  .op (some 8) (.load 3 (.tmp 7)) none <|
  .op (some 9) (.fieldAddr 58 (.tmp 3) 1) none <|
  .op none (.store 3 (.tmp 9) (.tmp 8)) none <|
  .op (some 10) (.fieldAddr 88 (.tmp 1) 2) none <|
  .op (some 11) (.load 3 (.tmp 10)) none <|
  .op (some 12) (.fieldAddr 58 (.tmp 3) 2) none <|
  .op none (.store 3 (.tmp 12) (.tmp 11)) none <|
  .op (some 13) (.load 58 (.tmp 3)) none <|
  .op none (.store 58 (.tmp 2) (.tmp 13)) none <|
  .ret
theorem h66 : compF md0 Try.f66 = c66 := by kernel_rfl
theorem r66 : Try.f66.results.toList = [.cell 2 58] := _root_.id (by kernel_rfl)
theorem nt66 : Try.f66.ntmps = 14 := by kernel_rfl
/-- slices.IndexFunc[[]int,int] -/
theorem md_67 : md0 67 = false := rfl
def c67 : XC :=
  .op (some 4) (.assign (.const (.int .i64 0))) none <|
  .op (some 6) (.move (.tmp 0)) none <|
  .op (some 7) (.call ⟨.builtin .len, ⟨[.tmp 6]⟩, ⟨[23]⟩⟩) none <|
  .op (some 8) (.move (.const (.int .i64 0))) none <|
  .block 0
    (.loop <|
      .op (some 9) (.binOp .lss 3 (.tmp 8) (.tmp 7) 3) none <|
      .cond (.tmp 9)
        (.done)
        (.exit 0) <|
      .block 1
        (.op (some 10) (.move (.tmp 8)) none <|
          .op (some 5) (.assign (.tmp 10)) none <|
          .op (some 11) (.move (.tmp 1)) none <|
          .op (some 12) (.move (.tmp 0)) none <|
          .op (some 13) (.move (.tmp 5)) none <|
          .op (some 14) (.indexAddr 23 (.tmp 12) (.tmp 13)) none <|
          .op (some 15) (.load 3 (.tmp 14)) none <|
          .op (some 16) (.call ⟨.value (.tmp 11), ⟨[.tmp 15]⟩, ⟨[3]⟩⟩) none <|
          .cond (.tmp 16)
            (.op (some 17) (.move (.tmp 5)) none <|
            .op (some 4) (.assign (.tmp 17)) none <|
            .ret)
            (.done) <|
          .done) <|
      .op (some 18) (.binOp .add 3 (.tmp 8) (.const (.int .i64 1)) 3) none <|
      .op (some 8) (.move (.tmp 18)) none <|
      .done) <|
  .op (some 4) (.assign (.const (.int .i64 (-1)))) none <|
  .ret
theorem h67 : compF md0 Try.f67 = c67 := by kernel_rfl
theorem r67 : Try.f67.results.toList = [.tmp 4] := _root_.id (by kernel_rfl)
theorem nt67 : Try.f67.ntmps = 19 := by kernel_rfl
/-- laws.eqLane -/
theorem md_68 : md0 68 = false := rfl
def c68 : XC :=
  .op (some 2) (.box 58 (.tmp 0)) none <|
  .op (some 3) (.box 58 (.tmp 1)) none <|
  .op (some 4) (.assign (.const (.bool false))) none <|
  .op (some 5) (.fieldAddr 58 (.tmp 2) 0) none <|
  .op (some 6) (.load 3 (.tmp 5)) none <|
  .op (some 7) (.fieldAddr 58 (.tmp 3) 0) none <|
  .op (some 8) (.load 3 (.tmp 7)) none <|
  .op (some 9) (.binOp .neq 3 (.tmp 6) (.tmp 8) 3) none <|
  .cond (.tmp 9)
    (.op (some 4) (.assign (.const (.bool false))) none <|
      .ret)
    (.done) <|
  .op (some 10) (.fieldAddr 58 (.tmp 2) 1) none <|
  .op (some 11) (.load 3 (.tmp 10)) none <|
  .op (some 12) (.fieldAddr 58 (.tmp 3) 1) none <|
  .op (some 13) (.load 3 (.tmp 12)) none <|
  .op (some 14) (.binOp .neq 3 (.tmp 11) (.tmp 13) 3) none <|
  .cond (.tmp 14)
    (.op (some 4) (.assign (.const (.bool false))) none <|
      .ret)
    (.done) <|
  .op (some 15) (.fieldAddr 58 (.tmp 2) 2) none <|
  .op (some 16) (.load 3 (.tmp 15)) none <|
  .op (some 17) (.fieldAddr 58 (.tmp 3) 2) none <|
  .op (some 18) (.load 3 (.tmp 17)) none <|
  .op (some 19) (.binOp .neq 3 (.tmp 16) (.tmp 18) 3) none <|
  .cond (.tmp 19)
    (.op (some 4) (.assign (.const (.bool false))) none <|
      .ret)
    (.done) <|
  .op (some 4) (.assign (.const (.bool true))) none <|
  .ret
theorem h68 : compF md0 Try.f68 = c68 := by kernel_rfl
theorem r68 : Try.f68.results.toList = [.tmp 4] := _root_.id (by kernel_rfl)
theorem nt68 : Try.f68.ntmps = 20 := by kernel_rfl
/-- spec.wGood -/
theorem md_69 : md0 69 = false := rfl
def c69 : XC :=
  .op (some 1) (.box 40 (.tmp 0)) none <|
  .op (some 2) (.assign (.const (.bool false))) none <|
  .op (some 5) (.fieldAddr 40 (.tmp 1) 0) none <|
  .op (some 6) (.load 34 (.tmp 5)) none <|
  .op (some 7) (.call ⟨.builtin .len, ⟨[.tmp 6]⟩, ⟨[34]⟩⟩) none <|
  .op (some 8) (.binOp .neq 3 (.tmp 7) (.const (.int .i64 3)) 3) none <|
  .cond (.tmp 8)
    (.op (some 2) (.assign (.const (.bool false))) none <|
      .ret)
    (.done) <|
  .op (some 9) (.fieldAddr 40 (.tmp 1) 0) none <|
  .op (some 10) (.load 34 (.tmp 9)) none <|
  .op (some 11) (.call ⟨.builtin .len, ⟨[.tmp 10]⟩, ⟨[34]⟩⟩) none <|
  .op (some 12) (.move (.const (.int .i64 0))) none <|
  .block 0
    (.loop <|
      .op (some 13) (.binOp .lss 3 (.tmp 12) (.tmp 11) 3) none <|
      .cond (.tmp 13)
        (.done)
        (.exit 0) <|
      .block 1
        (.op (some 14) (.indexAddr 34 (.tmp 10) (.tmp 12)) none <|
          .op (some 15) (.load 23 (.tmp 14)) none <|
          .op (some 4) (.assign (.tmp 15)) none <|
          .op (some 16) (.move (.tmp 4)) none <|
          .op (some 17) (.call ⟨.builtin .len, ⟨[.tmp 16]⟩, ⟨[23]⟩⟩) none <|
          .op (some 18) (.binOp .neq 3 (.tmp 17) (.const (.int .i64 3)) 3) none <|
          .op (some 19) (.move (.tmp 18)) none <|
          .op (some 20) (.move (.tmp 4)) (some (19, false)) <|
          .op (some 21) (.call ⟨.value (.func 65), ⟨[.tmp 20, .const (.int .i64 0), .const (.int .i64 36)]⟩, ⟨[23, 3, 3]⟩⟩) (some (19, false)) <|
          .op (some 22) (.unOp .not 4 (.tmp 21)) (some (19, false)) <|
          .op (some 23) (.pick (.tmp 19) (.const (.bool true)) (.tmp 22)) none <|
          .op (some 24) (.move (.tmp 23)) none <|
          .op (some 25) (.move (.tmp 4)) (some (24, false)) <|
          .op (some 26) (.indexAddr 23 (.tmp 25) (.const (.int .i64 0))) (some (24, false)) <|
          .op (some 27) (.load 3 (.tmp 26)) (some (24, false)) <|
          .op (some 28) (.move (.tmp 4)) (some (24, false)) <|
          .op (some 29) (.indexAddr 23 (.tmp 28) (.const (.int .i64 1))) (some (24, false)) <|
          .op (some 30) (.load 3 (.tmp 29)) (some (24, false)) <|
          .op (some 31) (.binOp .add 3 (.tmp 27) (.tmp 30) 3) (some (24, false)) <|
          .op (some 32) (.move (.tmp 4)) (some (24, false)) <|
          .op (some 33) (.indexAddr 23 (.tmp 32) (.const (.int .i64 2))) (some (24, false)) <|
          .op (some 34) (.load 3 (.tmp 33)) (some (24, false)) <|
          .op (some 35) (.binOp .add 3 (.tmp 31) (.tmp 34) 3) (some (24, false)) <|
          .op (some 36) (.binOp .neq 3 (.tmp 35) (.const (.int .i64 36)) 3) (some (24, false)) <|
          .op (some 37) (.pick (.tmp 24) (.const (.bool true)) (.tmp 36)) none <|
          .cond (.tmp 37)
            (.op (some 2) (.assign (.const (.bool false))) none <|
            .ret)
            (.done) <|
          .done) <|
      .op (some 38) (.binOp .add 3 (.tmp 12) (.const (.int .i64 1)) 3) none <|
      .op (some 12) (.move (.tmp 38)) none <|
      .done) <|
  .op (some 2) (.assign (.const (.bool true))) none <|
  .ret
theorem h69 : compF md0 Try.f69 = c69 := by kernel_rfl
theorem r69 : Try.f69.results.toList = [.tmp 2] := _root_.id (by kernel_rfl)
theorem nt69 : Try.f69.ntmps = 39 := by kernel_rfl
/-- impl.IsClimate -/
theorem md_70 : md0 70 = false := rfl
def c70 : XC :=
  .op (some 1) (.box 40 (.tmp 0)) none <|
  .op (some 2) (.assign (.const (.bool false))) none <|
  .op (some 7) (.fieldAddr 40 (.tmp 1) 0) none <|
  .op (some 8) (.load 34 (.tmp 7)) none <|
  .op (some 9) (.call ⟨.builtin .len, ⟨[.tmp 8]⟩, ⟨[34]⟩⟩) none <|
  .op (some 10) (.binOp .neq 3 (.tmp 9) (.const (.int .i64 3)) 3) none <|
  .cond (.tmp 10)
    (.op (some 2) (.assign (.const (.bool false))) none <|
      .ret)
    (.done) <|
  .op (some 11) (.fieldAddr 40 (.tmp 1) 0) none <|
  .op (some 12) (.load 34 (.tmp 11)) none <|
  .op (some 13) (.call ⟨.builtin .len, ⟨[.tmp 12]⟩, ⟨[34]⟩⟩) none <|
  .op (some 14) (.move (.const (.int .i64 0))) none <|
  .block 0
    (.loop <|
      .op (some 15) (.binOp .lss 3 (.tmp 14) (.tmp 13) 3) none <|
      .cond (.tmp 15)
        (.done)
        (.exit 0) <|
      .block 1
        (.op (some 16) (.indexAddr 34 (.tmp 12) (.tmp 14)) none <|
          .op (some 17) (.load 23 (.tmp 16)) none <|
          .op (some 4) (.assign (.tmp 17)) none <|
          .op (some 18) (.move (.tmp 4)) none <|
          .op (some 19) (.call ⟨.builtin .len, ⟨[.tmp 18]⟩, ⟨[23]⟩⟩) none <|
          .op (some 20) (.binOp .neq 3 (.tmp 19) (.const (.int .i64 3)) 3) none <|
          .op (some 21) (.move (.tmp 20)) none <|
          .op (some 22) (.move (.tmp 4)) (some (21, false)) <|
          .op (some 23) (.call ⟨.value (.func 75), ⟨[.tmp 22]⟩, ⟨[23]⟩⟩) (some (21, false)) <|
          .op (some 24) (.binOp .neq 3 (.tmp 23) (.const (.int .i64 36)) 3) (some (21, false)) <|
          .op (some 25) (.pick (.tmp 21) (.const (.bool true)) (.tmp 24)) none <|
          .cond (.tmp 25)
            (.op (some 2) (.assign (.const (.bool false))) none <|
            .ret)
            (.done) <|
          .op (some 26) (.move (.tmp 4)) none <|
          .op (some 27) (.call ⟨.builtin .len, ⟨[.tmp 26]⟩, ⟨[23]⟩⟩) none <|
          .op (some 28) (.move (.const (.int .i64 0))) none <|
          .block 2
            (.loop <|
            .op (some 29) (.binOp .lss 3 (.tmp 28) (.tmp 27) 3) none <|
            .cond (.tmp 29)
              (.done)
              (.exit 2) <|
            .block 3
              (.op (some 30) (.indexAddr 23 (.tmp 26) (.tmp 28)) none <|
            .op (some 31) (.load 3 (.tmp 30)) none <|
            .op (some 6) (.assign (.tmp 31)) none <|
            .op (some 32) (.move (.tmp 6)) none <|
            .op (some 33) (.call ⟨.value (.func 36), ⟨[.tmp 32, .const (.int .i64 0), .const (.int .i64 36)]⟩, ⟨[3, 3, 3]⟩⟩) none <|
            .op (some 34) (.unOp .not 4 (.tmp 33)) none <|
            .cond (.tmp 34)
              (.op (some 2) (.assign (.const (.bool false))) none <|
            .ret)
              (.done) <|
            .done) <|
            .op (some 35) (.binOp .add 3 (.tmp 28) (.const (.int .i64 1)) 3) none <|
            .op (some 28) (.move (.tmp 35)) none <|
            .done) <|
          .done) <|
      .op (some 36) (.binOp .add 3 (.tmp 14) (.const (.int .i64 1)) 3) none <|
      .op (some 14) (.move (.tmp 36)) none <|
      .done) <|
  .op (some 2) (.assign (.const (.bool true))) none <|
  .ret
theorem h70 : compF md0 Try.f70 = c70 := by kernel_rfl
theorem r70 : Try.f70.results.toList = [.tmp 2] := _root_.id (by kernel_rfl)
theorem nt70 : Try.f70.ntmps = 37 := by kernel_rfl
/-- impl.isWeather -/
theorem md_71 : md0 71 = false := rfl
def c71 : XC :=
  .op (some 2) (.assign (.const (.bool false))) none <|
  .op (some 3) (.move (.tmp 0)) none <|
  .op (some 4) (.call ⟨.value (.func 36), ⟨[.tmp 3, .const (.int .i64 0), .const (.int .i64 2)]⟩, ⟨[3, 3, 3]⟩⟩) none <|
  .op (some 2) (.assign (.tmp 4)) none <|
  .ret
theorem h71 : compF md0 Try.f71 = c71 := by kernel_rfl
theorem r71 : Try.f71.results.toList = [.tmp 2] := _root_.id (by kernel_rfl)
theorem nt71 : Try.f71.ntmps = 5 := by kernel_rfl
/-- spec.dBelow -/
theorem md_72 : md0 72 = false := rfl
def c72 : XC :=
  .op (some 6) (.assign (.const (.int .i64 0))) none <|
  .op (some 10) (.move (.tmp 0)) none <|
  .op (some 11) (.move (.tmp 1)) none <|
  .op (some 12) (.move (.tmp 2)) none <|
  .op (some 13) (.buildSlice 23 3 ⟨[(0, .tmp 10), (1, .tmp 11), (2, .tmp 12)]⟩) none <|
  .op (some 14) (.call ⟨.value (.func 76), ⟨[.tmp 13]⟩, ⟨[23]⟩⟩) none <|
  .op (some 9) (.move (.tmp 14)) none <|
  .op (some 15) (.extract (.tmp 9) 0) none <|
  .op (some 16) (.extract (.tmp 9) 1) none <|
  .op (some 7) (.assign (.tmp 15)) none <|
  .op (some 8) (.assign (.tmp 16)) none <|
  .op (some 17) (.move (.tmp 7)) none <|
  .op (some 18) (.move (.tmp 2)) none <|
  .op (some 19) (.binOp .rem 3 (.tmp 17) (.tmp 18) 3) none <|
  .op (some 6) (.assign (.tmp 19)) none <|
  .ret
theorem h72 : compF md0 Try.f72 = c72 := by kernel_rfl
theorem r72 : Try.f72.results.toList = [.tmp 6] := _root_.id (by kernel_rfl)
theorem nt72 : Try.f72.ntmps = 20 := by kernel_rfl
/-- impl.numberBelow -/
theorem md_73 : md0 73 = false := rfl
def c73 : XC :=
  .op (some 6) (.assign (.const (.int .i64 0))) none <|
  .op (some 10) (.move (.tmp 0)) none <|
  .op (some 11) (.move (.tmp 1)) none <|
  .op (some 12) (.move (.tmp 2)) none <|
  .op (some 13) (.buildSlice 23 3 ⟨[(0, .tmp 10), (1, .tmp 11), (2, .tmp 12)]⟩) none <|
  .op (some 14) (.call ⟨.value (.func 77), ⟨[.tmp 13]⟩, ⟨[23]⟩⟩) none <|
  .op (some 9) (.move (.tmp 14)) none <|
  .op (some 15) (.extract (.tmp 9) 0) none <|
  .op (some 16) (.extract (.tmp 9) 1) none <|
  .op (some 7) (.assign (.tmp 15)) none <|
  .op (some 8) (.assign (.tmp 16)) none <|
  .op (some 17) (.move (.tmp 7)) none <|
  .op (some 18) (.move (.tmp 2)) none <|
  .op (some 19) (.binOp .rem 3 (.tmp 17) (.tmp 18) 3) none <|
  .op (some 6) (.assign (.tmp 19)) none <|
  .ret
theorem h73 : compF md0 Try.f73 = c73 := by kernel_rfl
theorem r73 : Try.f73.results.toList = [.tmp 6] := _root_.id (by kernel_rfl)
theorem nt73 : Try.f73.ntmps = 20 := by kernel_rfl
/-- slices.Index[[]int,int] -/
theorem md_74 : md0 74 = false := rfl
def c74 : XC :=
  .op (some 4) (.assign (.const (.int .i64 0))) none <|
  .op (some 6) (.move (.tmp 0)) none <|
  .op (some 7) (.call ⟨.builtin .len, ⟨[.tmp 6]⟩, ⟨[23]⟩⟩) none <|
  .op (some 8) (.move (.const (.int .i64 0))) none <|
  .block 0
    (.loop <|
      .op (some 9) (.binOp .lss 3 (.tmp 8) (.tmp 7) 3) none <|
      .cond (.tmp 9)
        (.done)
        (.exit 0) <|
      .block 1
        (.op (some 10) (.move (.tmp 8)) none <|
          .op (some 5) (.assign (.tmp 10)) none <|
          .op (some 11) (.move (.tmp 1)) none <|
          .op (some 12) (.move (.tmp 0)) none <|
          .op (some 13) (.move (.tmp 5)) none <|
          .op (some 14) (.indexAddr 23 (.tmp 12) (.tmp 13)) none <|
          .op (some 15) (.load 3 (.tmp 14)) none <|
          .op (some 16) (.binOp .eql 3 (.tmp 11) (.tmp 15) 3) none <|
          .cond (.tmp 16)
            (.op (some 17) (.move (.tmp 5)) none <|
            .op (some 4) (.assign (.tmp 17)) none <|
            .ret)
            (.done) <|
          .done) <|
      .op (some 18) (.binOp .add 3 (.tmp 8) (.const (.int .i64 1)) 3) none <|
      .op (some 8) (.move (.tmp 18)) none <|
      .done) <|
  .op (some 4) (.assign (.const (.int .i64 (-1)))) none <|
  .ret
theorem h74 : compF md0 Try.f74 = c74 := by kernel_rfl
theorem r74 : Try.f74.results.toList = [.tmp 4] := _root_.id (by kernel_rfl)
theorem nt74 : Try.f74.ntmps = 19 := by kernel_rfl
/-- impl.sumOf -/
theorem md_75 : md0 75 = false := rfl
def c75 : XC :=
  .op (some 2) (.assign (.const (.int .i64 0))) none <|
  .op (some 3) (.assign (.const (.int .i64 0))) none <|
  .op (some 6) (.move (.tmp 0)) none <|
  .op (some 7) (.call ⟨.builtin .len, ⟨[.tmp 6]⟩, ⟨[23]⟩⟩) none <|
  .op (some 8) (.move (.const (.int .i64 0))) none <|
  .block 0
    (.loop <|
      .op (some 9) (.binOp .lss 3 (.tmp 8) (.tmp 7) 3) none <|
      .cond (.tmp 9)
        (.done)
        (.exit 0) <|
      .block 1
        (.op (some 10) (.indexAddr 23 (.tmp 6) (.tmp 8)) none <|
          .op (some 11) (.load 3 (.tmp 10)) none <|
          .op (some 5) (.assign (.tmp 11)) none <|
          .op (some 12) (.move (.tmp 3)) none <|
          .op (some 13) (.move (.tmp 5)) none <|
          .op (some 14) (.binOp .add 3 (.tmp 12) (.tmp 13) 3) none <|
          .op (some 3) (.assign (.tmp 14)) none <|
          .done) <|
      .op (some 15) (.binOp .add 3 (.tmp 8) (.const (.int .i64 1)) 3) none <|
      .op (some 8) (.move (.tmp 15)) none <|
      .done) <|
  .op (some 16) (.move (.tmp 3)) none <|
  .op (some 2) (.assign (.tmp 16)) none <|
  .ret
theorem h75 : compF md0 Try.f75 = c75 := by kernel_rfl
theorem r75 : Try.f75.results.toList = [.tmp 2] := _root_.id (by kernel_rfl)
theorem nt75 : Try.f75.ntmps = 17 := by kernel_rfl
/-- spec.dMix -/
theorem md_76 : md0 76 = false := rfl
def c76 : XC :=
  .op (some 2) (.assign (.const (.int .i64 0))) none <|
  .op (some 3) (.assign (.const (.int .i64 0))) none <|
  .op (some 8) (.move (.tmp 0)) none <|
  .op (some 9) (.call ⟨.builtin .len, ⟨[.tmp 8]⟩, ⟨[23]⟩⟩) none <|
  .op (some 10) (.binOp .add 3 (.tmp 9) (.const (.int .i64 1)) 3) none <|
  .op (some 4) (.assign (.const (.int .i64 7))) none <|
  .op (some 5) (.assign (.tmp 10)) none <|
  .op (some 6) (.assign (.const (.int .i64 0))) none <|
  .block 0
    (.loop <|
      .op (some 11) (.move (.tmp 6)) none <|
      .op (some 12) (.move (.tmp 0)) none <|
      .op (some 13) (.call ⟨.builtin .len, ⟨[.tmp 12]⟩, ⟨[23]⟩⟩) none <|
      .op (some 14) (.binOp .add 3 (.tmp 13) (.const (.int .i64 3)) 3) none <|
      .op (some 15) (.binOp .lss 3 (.tmp 11) (.tmp 14) 3) none <|
      .cond (.tmp 15)
        (.done)
        (.exit 0) <|
      .block 1
        (.op (some 7) (.assign (.const (.int .i64 1))) none <|
          .op (some 18) (.move (.tmp 6)) none <|
          .op (some 19) (.move (.tmp 0)) none <|
          .op (some 20) (.call ⟨.builtin .len, ⟨[.tmp 19]⟩, ⟨[23]⟩⟩) none <|
          .op (some 21) (.binOp .lss 3 (.tmp 18) (.tmp 20) 3) none <|
          .cond (.tmp 21)
            (.op (some 22) (.move (.tmp 0)) none <|
            .op (some 23) (.move (.tmp 6)) none <|
            .op (some 24) (.indexAddr 23 (.tmp 22) (.tmp 23)) none <|
            .op (some 25) (.load 3 (.tmp 24)) none <|
            .op (some 7) (.assign (.tmp 25)) none <|
            .done)
            (.done) <|
          .op (some 26) (.move (.tmp 4)) none <|
          .op (some 27) (.binOp .mul 3 (.const (.int .i64 16807)) (.tmp 26) 3) none <|
          .op (some 28) (.move (.tmp 7)) none <|
          .op (some 29) (.call ⟨.value (.func 78), ⟨[.tmp 28, .const (.int .i64 2147483647)]⟩, ⟨[3, 3]⟩⟩) none <|
          .op (some 30) (.binOp .add 3 (.tmp 27) (.tmp 29) 3) none <|
          .op (some 31) (.move (.tmp 5)) none <|
          .op (some 32) (.binOp .add 3 (.tmp 30) (.tmp 31) 3) none <|
          .op (some 33) (.binOp .rem 3 (.tmp 32) (.const (.int .i64 2147483647)) 3) none <|
          .op (some 4) (.assign (.tmp 33)) none <|
          .op (some 34) (.move (.tmp 5)) none <|
          .op (some 35) (.binOp .mul 3 (.const (.int .i64 39373)) (.tmp 34) 3) none <|
          .op (some 36) (.move (.tmp 7)) none <|
          .op (some 37) (.call ⟨.value (.func 78), ⟨[.tmp 36, .const (.int .i64 2147483629)]⟩, ⟨[3, 3]⟩⟩) none <|
          .op (some 38) (.binOp .add 3 (.tmp 35) (.tmp 37) 3) none <|
          .op (some 39) (.move (.tmp 4)) none <|
          .op (some 40) (.binOp .add 3 (.tmp 38) (.tmp 39) 3) none <|
          .op (some 41) (.binOp .rem 3 (.tmp 40) (.const (.int .i64 2147483629)) 3) none <|
          .op (some 5) (.assign (.tmp 41)) none <|
          .done) <|
      .op (some 16) (.move (.tmp 6)) none <|
      .op (some 17) (.binOp .add 3 (.tmp 16) (.const (.int .i64 1)) 3) none <|
      .op (some 6) (.assign (.tmp 17)) none <|
      .done) <|
  .op (some 42) (.move (.tmp 4)) none <|
  .op (some 43) (.move (.tmp 5)) none <|
  .op (some 2) (.assign (.tmp 42)) none <|
  .op (some 3) (.assign (.tmp 43)) none <|
  .ret
theorem h76 : compF md0 Try.f76 = c76 := by kernel_rfl
theorem r76 : Try.f76.results.toList = [.tmp 2, .tmp 3] := _root_.id (by kernel_rfl)
theorem nt76 : Try.f76.ntmps = 44 := by kernel_rfl
/-- impl.mixParts -/
theorem md_77 : md0 77 = false := rfl
def c77 : XC :=
  .op (some 2) (.assign (.const (.int .i64 0))) none <|
  .op (some 3) (.assign (.const (.int .i64 0))) none <|
  .op (some 9) (.move (.tmp 0)) none <|
  .op (some 10) (.call ⟨.builtin .len, ⟨[.tmp 9]⟩, ⟨[23]⟩⟩) none <|
  .op (some 11) (.binOp .add 3 (.tmp 10) (.const (.int .i64 1)) 3) none <|
  .op (some 4) (.alloc 3) none <|
  .op (some 5) (.alloc 3) none <|
  .op none (.store 3 (.tmp 4) (.const (.int .i64 7))) none <|
  .op none (.store 3 (.tmp 5) (.tmp 11)) none <|
  .op (some 12) (.makeFunc (.func 79) ⟨[]⟩ ⟨[.tmp 4, .tmp 5]⟩) none <|
  .op (some 6) (.assign (.tmp 12)) none <|
  .op (some 13) (.move (.tmp 0)) none <|
  .op (some 14) (.call ⟨.builtin .len, ⟨[.tmp 13]⟩, ⟨[23]⟩⟩) none <|
  .op (some 15) (.move (.const (.int .i64 0))) none <|
  .block 0
    (.loop <|
      .op (some 16) (.binOp .lss 3 (.tmp 15) (.tmp 14) 3) none <|
      .cond (.tmp 16)
        (.done)
        (.exit 0) <|
      .block 1
        (.op (some 17) (.indexAddr 23 (.tmp 13) (.tmp 15)) none <|
          .op (some 18) (.load 3 (.tmp 17)) none <|
          .op (some 8) (.assign (.tmp 18)) none <|
          .op (some 19) (.move (.tmp 6)) none <|
          .op (some 20) (.move (.tmp 8)) none <|
          .op (some 21) (.call ⟨.value (.tmp 19), ⟨[.tmp 20]⟩, ⟨[3]⟩⟩) none <|
          .done) <|
      .op (some 22) (.binOp .add 3 (.tmp 15) (.const (.int .i64 1)) 3) none <|
      .op (some 15) (.move (.tmp 22)) none <|
      .done) <|
  .op (some 23) (.move (.const (.int .i64 0))) none <|
  .block 2
    (.loop <|
      .op (some 24) (.binOp .lss 3 (.tmp 23) (.const (.int .i64 3)) 3) none <|
      .cond (.tmp 24)
        (.done)
        (.exit 2) <|
      .block 3
        (.op (some 25) (.move (.tmp 6)) none <|
          .op (some 26) (.call ⟨.value (.tmp 25), ⟨[.const (.int .i64 1)]⟩, ⟨[3]⟩⟩) none <|
          .done) <|
      .op (some 27) (.binOp .add 3 (.tmp 23) (.const (.int .i64 1)) 3) none <|
      .op (some 23) (.move (.tmp 27)) none <|
      .done) <|
  .op (some 28) (.load 3 (.tmp 4)) none <|
  .op (some 29) (.load 3 (.tmp 5)) none <|
  .op (some 2) (.assign (.tmp 28)) none <|
  .op (some 3) (.assign (.tmp 29)) none <|
  .ret
theorem h77 : compF md0 Try.f77 = c77 := by kernel_rfl
theorem r77 : Try.f77.results.toList = [.tmp 2, .tmp 3] := _root_.id (by kernel_rfl)
theorem nt77 : Try.f77.ntmps = 30 := by kernel_rfl
/-- spec.dMod -/
theorem md_78 : md0 78 = false := rfl
def c78 : XC :=
  .op (some 4) (.assign (.const (.int .i64 0))) none <|
  .op (some 5) (.move (.tmp 0)) none <|
  .op (some 6) (.move (.tmp 1)) none <|
  .op (some 7) (.binOp .rem 3 (.tmp 5) (.tmp 6) 3) none <|
  .op (some 8) (.move (.tmp 1)) none <|
  .op (some 9) (.binOp .add 3 (.tmp 7) (.tmp 8) 3) none <|
  .op (some 10) (.move (.tmp 1)) none <|
  .op (some 11) (.binOp .rem 3 (.tmp 9) (.tmp 10) 3) none <|
  .op (some 4) (.assign (.tmp 11)) none <|
  .ret
theorem h78 : compF md0 Try.f78 = c78 := by kernel_rfl
theorem r78 : Try.f78.results.toList = [.tmp 4] := _root_.id (by kernel_rfl)
theorem nt78 : Try.f78.ntmps = 12 := by kernel_rfl
/-- impl.mixParts$1 -/
theorem md_79 : md0 79 = true := rfl
def c79 : XC :=
  .op (some 4) (.load 3 (.tmp 1)) none <|
  .op (some 5) (.binOp .mul 3 (.const (.int .i64 16807)) (.tmp 4) 3) none <|
  .op (some 6) (.move (.tmp 0)) none <|
  .op (some 9) (.load 3 (.tmp 2)) none <|
  .op (some 7) (.call ⟨.value (.func 80), ⟨[.tmp 6, .const (.int .i64 2147483647)]⟩, ⟨[3, 3]⟩⟩) none <|
  .op (some 8) (.binOp .add 3 (.tmp 5) (.tmp 7) 3) none <|
  .op (some 10) (.binOp .add 3 (.tmp 8) (.tmp 9) 3) none <|
  .op (some 11) (.binOp .rem 3 (.tmp 10) (.const (.int .i64 2147483647)) 3) none <|
  .op none (.store 3 (.tmp 1) (.tmp 11)) none <|
  .op (some 12) (.load 3 (.tmp 2)) none <|
  .op (some 13) (.binOp .mul 3 (.const (.int .i64 39373)) (.tmp 12) 3) none <|
  .op (some 14) (.move (.tmp 0)) none <|
  .op (some 17) (.load 3 (.tmp 1)) none <|
  .op (some 15) (.call ⟨.value (.func 80), ⟨[.tmp 14, .const (.int .i64 2147483629)]⟩, ⟨[3, 3]⟩⟩) none <|
  .op (some 16) (.binOp .add 3 (.tmp 13) (.tmp 15) 3) none <|
  .op (some 18) (.binOp .add 3 (.tmp 16) (.tmp 17) 3) none <|
  .op (some 19) (.binOp .rem 3 (.tmp 18) (.const (.int .i64 2147483629)) 3) none <|
  .op none (.store 3 (.tmp 2) (.tmp 19)) none <|
  .done
theorem h79 : compF md0 Try.f79 = c79 := by kernel_rfl
theorem r79 : Try.f79.results.toList = [] := _root_.id (by kernel_rfl)
theorem nt79 : Try.f79.ntmps = 20 := by kernel_rfl
/-- impl.residue -/
theorem md_80 : md0 80 = false := rfl
def c80 : XC :=
  .op (some 4) (.assign (.const (.int .i64 0))) none <|
  .op (some 5) (.move (.tmp 0)) none <|
  .op (some 6) (.move (.tmp 1)) none <|
  .op (some 7) (.binOp .rem 3 (.tmp 5) (.tmp 6) 3) none <|
  .op (some 8) (.move (.tmp 1)) none <|
  .op (some 9) (.binOp .add 3 (.tmp 7) (.tmp 8) 3) none <|
  .op (some 10) (.move (.tmp 1)) none <|
  .op (some 11) (.binOp .rem 3 (.tmp 9) (.tmp 10) 3) none <|
  .op (some 4) (.assign (.tmp 11)) none <|
  .ret
theorem h80 : compF md0 Try.f80 = c80 := by kernel_rfl
theorem r80 : Try.f80.results.toList = [.tmp 4] := _root_.id (by kernel_rfl)
theorem nt80 : Try.f80.ntmps = 12 := by kernel_rfl
/-- spec.qNet).other -/
theorem md_96 : md0 96 = false := rfl
def c96 : XC :=
  .fail
theorem h96 : compF md0 Try.f96 = c96 := by kernel_rfl
theorem r96 : Try.f96.results.toList = [] := _root_.id (by kernel_rfl)
theorem nt96 : Try.f96.ntmps = 3 := by kernel_rfl
/-- impl.network).push -/
theorem md_97 : md0 97 = false := rfl
def c97 : XC :=
  .fail
theorem h97 : compF md0 Try.f97 = c97 := by kernel_rfl
theorem r97 : Try.f97.results.toList = [] := _root_.id (by kernel_rfl)
theorem nt97 : Try.f97.ntmps = 4 := by kernel_rfl
theorem tk_3 : tk Try.prog 3 = .int .i64 := _root_.id (by kernel_rfl)
theorem sz_3 : szOf Try.prog 3 = 1 := _root_.id (by kernel_rfl)
theorem by_3 : byOf Try.prog 3 = 8 := _root_.id (by kernel_rfl)
theorem ag_3 : agT Try.prog 3 = some none := _root_.id (by kernel_rfl)
theorem ce_3 : Program.cellsOf Try.prog 3 = 1 := _root_.id (by kernel_rfl)
theorem bo_3 : Program.bytesOf Try.prog 3 = 8 := _root_.id (by kernel_rfl)
theorem zc_3 : zeroCells Try.prog 3 = some [.int .i64 0] := _root_.id (by kernel_rfl)
theorem tk_4 : tk Try.prog 4 = .bool := _root_.id (by kernel_rfl)
theorem sz_4 : szOf Try.prog 4 = 1 := _root_.id (by kernel_rfl)
theorem by_4 : byOf Try.prog 4 = 1 := _root_.id (by kernel_rfl)
theorem ag_4 : agT Try.prog 4 = some none := _root_.id (by kernel_rfl)
theorem ce_4 : Program.cellsOf Try.prog 4 = 1 := _root_.id (by kernel_rfl)
theorem bo_4 : Program.bytesOf Try.prog 4 = 1 := _root_.id (by kernel_rfl)
theorem zc_4 : zeroCells Try.prog 4 = some [.bool false] := _root_.id (by kernel_rfl)
theorem tk_22 : tk Try.prog 22 = .slice 88 := _root_.id (by kernel_rfl)
theorem sz_22 : szOf Try.prog 22 = 1 := _root_.id (by kernel_rfl)
theorem by_22 : byOf Try.prog 22 = 24 := _root_.id (by kernel_rfl)
theorem ag_22 : agT Try.prog 22 = some none := _root_.id (by kernel_rfl)
theorem ce_22 : Program.cellsOf Try.prog 22 = 1 := _root_.id (by kernel_rfl)
theorem bo_22 : Program.bytesOf Try.prog 22 = 24 := _root_.id (by kernel_rfl)
theorem zc_22 : zeroCells Try.prog 22 = some [.nil] := _root_.id (by kernel_rfl)
theorem tk_23 : tk Try.prog 23 = .slice 3 := _root_.id (by kernel_rfl)
theorem sz_23 : szOf Try.prog 23 = 1 := _root_.id (by kernel_rfl)
theorem by_23 : byOf Try.prog 23 = 24 := _root_.id (by kernel_rfl)
theorem ag_23 : agT Try.prog 23 = some none := _root_.id (by kernel_rfl)
theorem ce_23 : Program.cellsOf Try.prog 23 = 1 := _root_.id (by kernel_rfl)
theorem bo_23 : Program.bytesOf Try.prog 23 = 24 := _root_.id (by kernel_rfl)
theorem zc_23 : zeroCells Try.prog 23 = some [.nil] := _root_.id (by kernel_rfl)
theorem tk_25 : tk Try.prog 25 = .struct [(0, 1), (1, 1), (2, 1)] := _root_.id (by kernel_rfl)
theorem sz_25 : szOf Try.prog 25 = 3 := _root_.id (by kernel_rfl)
theorem by_25 : byOf Try.prog 25 = 56 := _root_.id (by kernel_rfl)
theorem ag_25 : agT Try.prog 25 = some (some 3) := _root_.id (by kernel_rfl)
theorem ce_25 : Program.cellsOf Try.prog 25 = 3 := _root_.id (by kernel_rfl)
theorem bo_25 : Program.bytesOf Try.prog 25 = 56 := _root_.id (by kernel_rfl)
theorem sty_25 : sty Try.prog 25 = some [3, 22, 23] := _root_.id (by kernel_rfl)
theorem zc_25 : zeroCells Try.prog 25 = some [.int .i64 0, .nil, .nil] := _root_.id (by kernel_rfl)
theorem pl_25 : places Try.prog 25 = some [(0, 1), (1, 1), (2, 1)] := _root_.id (by kernel_rfl)
theorem tk_28 : tk Try.prog 28 = .slice 58 := _root_.id (by kernel_rfl)
theorem sz_28 : szOf Try.prog 28 = 1 := _root_.id (by kernel_rfl)
theorem by_28 : byOf Try.prog 28 = 24 := _root_.id (by kernel_rfl)
theorem ag_28 : agT Try.prog 28 = some none := _root_.id (by kernel_rfl)
theorem ce_28 : Program.cellsOf Try.prog 28 = 1 := _root_.id (by kernel_rfl)
theorem bo_28 : Program.bytesOf Try.prog 28 = 24 := _root_.id (by kernel_rfl)
theorem zc_28 : zeroCells Try.prog 28 = some [.nil] := _root_.id (by kernel_rfl)
theorem tk_30 : tk Try.prog 30 = .struct [(0, 1), (1, 1), (2, 1)] := _root_.id (by kernel_rfl)
theorem sz_30 : szOf Try.prog 30 = 3 := _root_.id (by kernel_rfl)
theorem by_30 : byOf Try.prog 30 = 56 := _root_.id (by kernel_rfl)
theorem ag_30 : agT Try.prog 30 = some (some 3) := _root_.id (by kernel_rfl)
theorem ce_30 : Program.cellsOf Try.prog 30 = 3 := _root_.id (by kernel_rfl)
theorem bo_30 : Program.bytesOf Try.prog 30 = 56 := _root_.id (by kernel_rfl)
theorem sty_30 : sty Try.prog 30 = some [3, 28, 23] := _root_.id (by kernel_rfl)
theorem zc_30 : zeroCells Try.prog 30 = some [.int .i64 0, .nil, .nil] := _root_.id (by kernel_rfl)
theorem pl_30 : places Try.prog 30 = some [(0, 1), (1, 1), (2, 1)] := _root_.id (by kernel_rfl)
theorem tk_34 : tk Try.prog 34 = .slice 23 := _root_.id (by kernel_rfl)
theorem sz_34 : szOf Try.prog 34 = 1 := _root_.id (by kernel_rfl)
theorem by_34 : byOf Try.prog 34 = 24 := _root_.id (by kernel_rfl)
theorem ag_34 : agT Try.prog 34 = some none := _root_.id (by kernel_rfl)
theorem ce_34 : Program.cellsOf Try.prog 34 = 1 := _root_.id (by kernel_rfl)
theorem bo_34 : Program.bytesOf Try.prog 34 = 24 := _root_.id (by kernel_rfl)
theorem zc_34 : zeroCells Try.prog 34 = some [.nil] := _root_.id (by kernel_rfl)
theorem tk_36 : tk Try.prog 36 = .struct [(0, 1)] := _root_.id (by kernel_rfl)
theorem sz_36 : szOf Try.prog 36 = 1 := _root_.id (by kernel_rfl)
theorem by_36 : byOf Try.prog 36 = 24 := _root_.id (by kernel_rfl)
theorem ag_36 : agT Try.prog 36 = some (some 1) := _root_.id (by kernel_rfl)
theorem ce_36 : Program.cellsOf Try.prog 36 = 1 := _root_.id (by kernel_rfl)
theorem bo_36 : Program.bytesOf Try.prog 36 = 24 := _root_.id (by kernel_rfl)
theorem sty_36 : sty Try.prog 36 = some [34] := _root_.id (by kernel_rfl)
theorem zc_36 : zeroCells Try.prog 36 = some [.nil] := _root_.id (by kernel_rfl)
theorem pl_36 : places Try.prog 36 = some [(0, 1)] := _root_.id (by kernel_rfl)
theorem tk_40 : tk Try.prog 40 = .struct [(0, 1)] := _root_.id (by kernel_rfl)
theorem sz_40 : szOf Try.prog 40 = 1 := _root_.id (by kernel_rfl)
theorem by_40 : byOf Try.prog 40 = 24 := _root_.id (by kernel_rfl)
theorem ag_40 : agT Try.prog 40 = some (some 1) := _root_.id (by kernel_rfl)
theorem ce_40 : Program.cellsOf Try.prog 40 = 1 := _root_.id (by kernel_rfl)
theorem bo_40 : Program.bytesOf Try.prog 40 = 24 := _root_.id (by kernel_rfl)
theorem sty_40 : sty Try.prog 40 = some [34] := _root_.id (by kernel_rfl)
theorem zc_40 : zeroCells Try.prog 40 = some [.nil] := _root_.id (by kernel_rfl)
theorem pl_40 : places Try.prog 40 = some [(0, 1)] := _root_.id (by kernel_rfl)
theorem tk_58 : tk Try.prog 58 = .struct [(0, 1), (1, 1), (2, 1)] := _root_.id (by kernel_rfl)
theorem sz_58 : szOf Try.prog 58 = 3 := _root_.id (by kernel_rfl)
theorem by_58 : byOf Try.prog 58 = 24 := _root_.id (by kernel_rfl)
theorem ag_58 : agT Try.prog 58 = some (some 3) := _root_.id (by kernel_rfl)
theorem ce_58 : Program.cellsOf Try.prog 58 = 3 := _root_.id (by kernel_rfl)
theorem bo_58 : Program.bytesOf Try.prog 58 = 24 := _root_.id (by kernel_rfl)
theorem sty_58 : sty Try.prog 58 = some [3, 3, 3] := _root_.id (by kernel_rfl)
theorem zc_58 : zeroCells Try.prog 58 = some [.int .i64 0, .int .i64 0, .int .i64 0] := _root_.id (by kernel_rfl)
theorem pl_58 : places Try.prog 58 = some [(0, 1), (1, 1), (2, 1)] := _root_.id (by kernel_rfl)
theorem tk_61 : tk Try.prog 61 = .other := _root_.id (by kernel_rfl)
theorem sz_61 : szOf Try.prog 61 = 1 := _root_.id (by kernel_rfl)
theorem by_61 : byOf Try.prog 61 = 8 := _root_.id (by kernel_rfl)
theorem ag_61 : agT Try.prog 61 = some none := _root_.id (by kernel_rfl)
theorem ce_61 : Program.cellsOf Try.prog 61 = 1 := _root_.id (by kernel_rfl)
theorem bo_61 : Program.bytesOf Try.prog 61 = 8 := _root_.id (by kernel_rfl)
theorem zc_61 : zeroCells Try.prog 61 = some [.con .nilFunc] := _root_.id (by kernel_rfl)
theorem tk_71 : tk Try.prog 71 = .slice 77 := _root_.id (by kernel_rfl)
theorem sz_71 : szOf Try.prog 71 = 1 := _root_.id (by kernel_rfl)
theorem by_71 : byOf Try.prog 71 = 24 := _root_.id (by kernel_rfl)
theorem ag_71 : agT Try.prog 71 = some none := _root_.id (by kernel_rfl)
theorem ce_71 : Program.cellsOf Try.prog 71 = 1 := _root_.id (by kernel_rfl)
theorem bo_71 : Program.bytesOf Try.prog 71 = 24 := _root_.id (by kernel_rfl)
theorem zc_71 : zeroCells Try.prog 71 = some [.nil] := _root_.id (by kernel_rfl)
theorem tk_73 : tk Try.prog 73 = .struct [(0, 1), (1, 1)] := _root_.id (by kernel_rfl)
theorem sz_73 : szOf Try.prog 73 = 2 := _root_.id (by kernel_rfl)
theorem by_73 : byOf Try.prog 73 = 32 := _root_.id (by kernel_rfl)
theorem ag_73 : agT Try.prog 73 = some (some 2) := _root_.id (by kernel_rfl)
theorem ce_73 : Program.cellsOf Try.prog 73 = 2 := _root_.id (by kernel_rfl)
theorem bo_73 : Program.bytesOf Try.prog 73 = 32 := _root_.id (by kernel_rfl)
theorem sty_73 : sty Try.prog 73 = some [71, 3] := _root_.id (by kernel_rfl)
theorem zc_73 : zeroCells Try.prog 73 = some [.nil, .int .i64 0] := _root_.id (by kernel_rfl)
theorem pl_73 : places Try.prog 73 = some [(0, 1), (1, 1)] := _root_.id (by kernel_rfl)
theorem tk_77 : tk Try.prog 77 = .struct [(0, 1), (1, 1), (2, 1), (3, 1)] := _root_.id (by kernel_rfl)
theorem sz_77 : szOf Try.prog 77 = 4 := _root_.id (by kernel_rfl)
theorem by_77 : byOf Try.prog 77 = 32 := _root_.id (by kernel_rfl)
theorem ag_77 : agT Try.prog 77 = some (some 4) := _root_.id (by kernel_rfl)
theorem ce_77 : Program.cellsOf Try.prog 77 = 4 := _root_.id (by kernel_rfl)
theorem bo_77 : Program.bytesOf Try.prog 77 = 32 := _root_.id (by kernel_rfl)
theorem sty_77 : sty Try.prog 77 = some [3, 3, 3, 3] := _root_.id (by kernel_rfl)
theorem zc_77 : zeroCells Try.prog 77 = some [.int .i64 0, .int .i64 0, .int .i64 0, .int .i64 0] := _root_.id (by kernel_rfl)
theorem pl_77 : places Try.prog 77 = some [(0, 1), (1, 1), (2, 1), (3, 1)] := _root_.id (by kernel_rfl)
theorem tk_80 : tk Try.prog 80 = .slice 86 := _root_.id (by kernel_rfl)
theorem sz_80 : szOf Try.prog 80 = 1 := _root_.id (by kernel_rfl)
theorem by_80 : byOf Try.prog 80 = 24 := _root_.id (by kernel_rfl)
theorem ag_80 : agT Try.prog 80 = some none := _root_.id (by kernel_rfl)
theorem ce_80 : Program.cellsOf Try.prog 80 = 1 := _root_.id (by kernel_rfl)
theorem bo_80 : Program.bytesOf Try.prog 80 = 24 := _root_.id (by kernel_rfl)
theorem zc_80 : zeroCells Try.prog 80 = some [.nil] := _root_.id (by kernel_rfl)
theorem tk_82 : tk Try.prog 82 = .struct [(0, 1), (1, 1)] := _root_.id (by kernel_rfl)
theorem sz_82 : szOf Try.prog 82 = 2 := _root_.id (by kernel_rfl)
theorem by_82 : byOf Try.prog 82 = 32 := _root_.id (by kernel_rfl)
theorem ag_82 : agT Try.prog 82 = some (some 2) := _root_.id (by kernel_rfl)
theorem ce_82 : Program.cellsOf Try.prog 82 = 2 := _root_.id (by kernel_rfl)
theorem bo_82 : Program.bytesOf Try.prog 82 = 32 := _root_.id (by kernel_rfl)
theorem sty_82 : sty Try.prog 82 = some [3, 80] := _root_.id (by kernel_rfl)
theorem zc_82 : zeroCells Try.prog 82 = some [.int .i64 0, .nil] := _root_.id (by kernel_rfl)
theorem pl_82 : places Try.prog 82 = some [(0, 1), (1, 1)] := _root_.id (by kernel_rfl)
theorem tk_86 : tk Try.prog 86 = .struct [(0, 1), (1, 1), (2, 1), (3, 1), (4, 1)] := _root_.id (by kernel_rfl)
theorem sz_86 : szOf Try.prog 86 = 5 := _root_.id (by kernel_rfl)
theorem by_86 : byOf Try.prog 86 = 40 := _root_.id (by kernel_rfl)
theorem ag_86 : agT Try.prog 86 = some (some 5) := _root_.id (by kernel_rfl)
theorem ce_86 : Program.cellsOf Try.prog 86 = 5 := _root_.id (by kernel_rfl)
theorem bo_86 : Program.bytesOf Try.prog 86 = 40 := _root_.id (by kernel_rfl)
theorem sty_86 : sty Try.prog 86 = some [3, 3, 3, 3, 4] := _root_.id (by kernel_rfl)
theorem zc_86 : zeroCells Try.prog 86 = some [.int .i64 0, .int .i64 0, .int .i64 0, .int .i64 0, .bool false] := _root_.id (by kernel_rfl)
theorem pl_86 : places Try.prog 86 = some [(0, 1), (1, 1), (2, 1), (3, 1), (4, 1)] := _root_.id (by kernel_rfl)
theorem tk_88 : tk Try.prog 88 = .struct [(0, 1), (1, 1), (2, 1)] := _root_.id (by kernel_rfl)
theorem sz_88 : szOf Try.prog 88 = 3 := _root_.id (by kernel_rfl)
theorem by_88 : byOf Try.prog 88 = 24 := _root_.id (by kernel_rfl)
theorem ag_88 : agT Try.prog 88 = some (some 3) := _root_.id (by kernel_rfl)
theorem ce_88 : Program.cellsOf Try.prog 88 = 3 := _root_.id (by kernel_rfl)
theorem bo_88 : Program.bytesOf Try.prog 88 = 24 := _root_.id (by kernel_rfl)
theorem sty_88 : sty Try.prog 88 = some [3, 3, 3] := _root_.id (by kernel_rfl)
theorem zc_88 : zeroCells Try.prog 88 = some [.int .i64 0, .int .i64 0, .int .i64 0] := _root_.id (by kernel_rfl)
theorem pl_88 : places Try.prog 88 = some [(0, 1), (1, 1), (2, 1)] := _root_.id (by kernel_rfl)
attribute [push_cast] md_3 md_4 md_5 md_6 md_7 md_8 md_9 md_10 md_11 md_12 md_13 md_14 md_15 md_16 md_17 md_18
attribute [push_cast] md_19 md_20 md_21 md_22 md_23 md_24 md_25 md_26 md_27 md_28 md_29 md_30 md_31 md_32 md_33 md_34
attribute [push_cast] md_35 md_36 md_37 md_38 md_39 md_40 md_41 md_42 md_43 md_44 md_45 md_46 md_47 md_48 md_49 md_50
attribute [push_cast] md_51 md_52 md_53 md_54 md_55 md_56 md_57 md_58 md_59 md_60 md_61 md_62 md_63 md_64 md_65 md_66
attribute [push_cast] md_67 md_68 md_69 md_70 md_71 md_72 md_73 md_74 md_75 md_76 md_77 md_78 md_79 md_80 md_96 md_97
attribute [push_cast] tk_3 sz_3 by_3 ag_3 zc_3 tk_4 sz_4 by_4 ag_4 zc_4 tk_22 sz_22 by_22 ag_22 zc_22 tk_23
attribute [push_cast] sz_23 by_23 ag_23 zc_23 tk_25 sz_25 by_25 ag_25 zc_25 pl_25 tk_28 sz_28 by_28 ag_28 zc_28 tk_30
attribute [push_cast] sz_30 by_30 ag_30 zc_30 pl_30 tk_34 sz_34 by_34 ag_34 zc_34 tk_36 sz_36 by_36 ag_36 zc_36 pl_36
attribute [push_cast] tk_40 sz_40 by_40 ag_40 zc_40 pl_40 tk_58 sz_58 by_58 ag_58 zc_58 pl_58 tk_61 sz_61 by_61 ag_61
attribute [push_cast] zc_61 tk_71 sz_71 by_71 ag_71 zc_71 tk_73 sz_73 by_73 ag_73 zc_73 pl_73 tk_77 sz_77 by_77 ag_77
attribute [push_cast] zc_77 pl_77 tk_80 sz_80 by_80 ag_80 zc_80 tk_82 sz_82 by_82 ag_82 zc_82 pl_82 tk_86 sz_86 by_86
attribute [push_cast] ag_86 zc_86 pl_86 tk_88 sz_88 by_88 ag_88 zc_88 pl_88
end Go.Proofs.Ytnajmggefapeaaa.X
