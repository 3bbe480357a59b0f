import Derived.Test.YtlddjlchgibdfaaDoorXCCodeA
import Derived.Test.YtlddjlchgibdfaaDoorProg
import Derived.KernelRfl
namespace Go.Proofs.YtlddjlchgibdfaaDoor.X
open Go

/-- laws.FnExactAreWorks -/
theorem md_5 : md0 5 = false := rfl
def c5 : XC :=
  .op (some 2) (.box 40 (.tmp 0)) none <|
  .op (some 3) (.box 55 (.tmp 1)) none <|
  .op (some 4) (.assign (.const (.bool false))) none <|
  .op (some 5) (.assign (.const (.int .i64 1048576))) none <|
  .op (some 12) (.load 40 (.tmp 2)) none <|
  .op (some 13) (.move (.tmp 5)) none <|
  .op (some 14) (.call ⟨.value (.func 17), ⟨[.tmp 12, .tmp 13]⟩, ⟨[40, 3]⟩⟩) none <|
  .op (some 5) (.assign (.tmp 14)) none <|
  .op (some 15) (.move (.tmp 5)) none <|
  .op (some 16) (.binOp .lss 3 (.tmp 15) (.const (.int .i64 0)) 3) none <|
  .cond (.tmp 16)
    (.op (some 4) (.assign (.const (.bool true))) none <|
      .ret)
    (.done) <|
  .op (some 17) (.load 55 (.tmp 3)) none <|
  .op (some 18) (.move (.tmp 5)) none <|
  .op (some 19) (.call ⟨.value (.func 22), ⟨[.tmp 17, .tmp 18]⟩, ⟨[55, 3]⟩⟩) none <|
  .op (some 5) (.assign (.tmp 19)) none <|
  .op (some 20) (.move (.tmp 5)) none <|
  .op (some 21) (.binOp .lss 3 (.tmp 20) (.const (.int .i64 0)) 3) none <|
  .cond (.tmp 21)
    (.op (some 4) (.assign (.const (.bool true))) none <|
      .ret)
    (.done) <|
  .op (some 23) (.load 40 (.tmp 2)) none <|
  .op (some 25) (.load 55 (.tmp 3)) none <|
  .op (some 24) (.call ⟨.value (.func 19), ⟨[.tmp 23]⟩, ⟨[40]⟩⟩) none <|
  .op (some 26) (.call ⟨.value (.func 24), ⟨[.tmp 25]⟩, ⟨[55]⟩⟩) none <|
  .op (some 27) (.call ⟨.value (.func 23), ⟨[.tmp 24, .tmp 26]⟩, ⟨[50, 59]⟩⟩) none <|
  .op (some 22) (.move (.tmp 27)) none <|
  .op (some 28) (.extract (.tmp 22) 0) none <|
  .op (some 29) (.extract (.tmp 22) 1) none <|
  .op (some 6) (.assign (.tmp 28)) none <|
  .op (some 7) (.assign (.tmp 29)) none <|
  .op (some 30) (.load 40 (.tmp 2)) none <|
  .op (some 31) (.call ⟨.value (.func 19), ⟨[.tmp 30]⟩, ⟨[40]⟩⟩) none <|
  .op (some 8) (.alloc 50) none <|
  .op none (.store 50 (.tmp 8) (.tmp 31)) none <|
  .op (some 32) (.load 55 (.tmp 3)) none <|
  .op (some 33) (.call ⟨.value (.func 24), ⟨[.tmp 32]⟩, ⟨[55]⟩⟩) none <|
  .op (some 9) (.alloc 59) none <|
  .op none (.store 59 (.tmp 9) (.tmp 33)) none <|
  .op (some 35) (.load 50 (.tmp 8)) none <|
  .op (some 36) (.load 59 (.tmp 9)) none <|
  .op (some 37) (.call ⟨.value (.func 25), ⟨[.tmp 35, .tmp 36]⟩, ⟨[50, 59]⟩⟩) none <|
  .op (some 34) (.move (.tmp 37)) none <|
  .op (some 38) (.extract (.tmp 34) 0) none <|
  .op (some 39) (.extract (.tmp 34) 1) none <|
  .op (some 10) (.assign (.tmp 38)) none <|
  .op (some 11) (.assign (.tmp 39)) none <|
  .op (some 40) (.move (.tmp 10)) none <|
  .op (some 41) (.move (.tmp 6)) none <|
  .op (some 42) (.binOp .neq 4 (.tmp 40) (.tmp 41) 4) none <|
  .op (some 43) (.move (.tmp 42)) none <|
  .op (some 44) (.move (.tmp 11)) (some (43, false)) <|
  .op (some 45) (.move (.tmp 7)) (some (43, false)) <|
  .op (some 46) (.binOp .neq 4 (.tmp 44) (.tmp 45) 4) (some (43, false)) <|
  .op (some 47) (.pick (.tmp 43) (.const (.bool true)) (.tmp 46)) none <|
  .cond (.tmp 47)
    (.op (some 4) (.assign (.const (.bool false))) none <|
      .ret)
    (.done) <|
  .op (some 48) (.load 50 (.tmp 8)) none <|
  .op (some 49) (.load 40 (.tmp 2)) none <|
  .op (some 50) (.call ⟨.value (.func 19), ⟨[.tmp 49]⟩, ⟨[40]⟩⟩) none <|
  .op (some 51) (.call ⟨.value (.func 21), ⟨[.tmp 48, .tmp 50]⟩, ⟨[50, 50]⟩⟩) none <|
  .op (some 52) (.unOp .not 4 (.tmp 51)) none <|
  .cond (.tmp 52)
    (.op (some 4) (.assign (.const (.bool false))) none <|
      .ret)
    (.done) <|
  .op (some 53) (.load 59 (.tmp 9)) none <|
  .op (some 54) (.load 55 (.tmp 3)) none <|
  .op (some 55) (.call ⟨.value (.func 24), ⟨[.tmp 54]⟩, ⟨[55]⟩⟩) none <|
  .op (some 56) (.call ⟨.value (.func 26), ⟨[.tmp 53, .tmp 55]⟩, ⟨[59, 59]⟩⟩) none <|
  .op (some 57) (.unOp .not 4 (.tmp 56)) none <|
  .cond (.tmp 57)
    (.op (some 4) (.assign (.const (.bool false))) none <|
      .ret)
    (.done) <|
  .op (some 4) (.assign (.const (.bool true))) none <|
  .ret
theorem h5 : compF md0 Tryd.f5 = c5 := by kernel_rfl
theorem r5 : Tryd.f5.results.toList = [.tmp 4] := _root_.id (by kernel_rfl)
theorem nt5 : Tryd.f5.ntmps = 58 := by kernel_rfl
/-- laws.FnExactQueuePrice -/
theorem md_6 : md0 6 = false := rfl
def c6 : XC :=
  .op (some 2) (.box 40 (.tmp 0)) none <|
  .op (some 3) (.box 55 (.tmp 1)) none <|
  .op (some 4) (.assign (.const (.bool false))) none <|
  .op (some 5) (.assign (.const (.int .i64 1048576))) none <|
  .op (some 12) (.load 40 (.tmp 2)) none <|
  .op (some 13) (.move (.tmp 5)) none <|
  .op (some 14) (.call ⟨.value (.func 17), ⟨[.tmp 12, .tmp 13]⟩, ⟨[40, 3]⟩⟩) none <|
  .op (some 5) (.assign (.tmp 14)) none <|
  .op (some 15) (.move (.tmp 5)) none <|
  .op (some 16) (.binOp .lss 3 (.tmp 15) (.const (.int .i64 0)) 3) none <|
  .cond (.tmp 16)
    (.op (some 4) (.assign (.const (.bool true))) none <|
      .ret)
    (.done) <|
  .op (some 17) (.load 55 (.tmp 3)) none <|
  .op (some 18) (.move (.tmp 5)) none <|
  .op (some 19) (.call ⟨.value (.func 22), ⟨[.tmp 17, .tmp 18]⟩, ⟨[55, 3]⟩⟩) none <|
  .op (some 5) (.assign (.tmp 19)) none <|
  .op (some 20) (.move (.tmp 5)) none <|
  .op (some 21) (.binOp .lss 3 (.tmp 20) (.const (.int .i64 0)) 3) none <|
  .cond (.tmp 21)
    (.op (some 4) (.assign (.const (.bool true))) none <|
      .ret)
    (.done) <|
  .op (some 23) (.load 40 (.tmp 2)) none <|
  .op (some 25) (.load 55 (.tmp 3)) none <|
  .op (some 24) (.call ⟨.value (.func 19), ⟨[.tmp 23]⟩, ⟨[40]⟩⟩) none <|
  .op (some 26) (.call ⟨.value (.func 24), ⟨[.tmp 25]⟩, ⟨[55]⟩⟩) none <|
  .op (some 27) (.call ⟨.value (.func 27), ⟨[.tmp 24, .tmp 26]⟩, ⟨[50, 59]⟩⟩) none <|
  .op (some 22) (.move (.tmp 27)) none <|
  .op (some 28) (.extract (.tmp 22) 0) none <|
  .op (some 29) (.extract (.tmp 22) 1) none <|
  .op (some 6) (.assign (.tmp 28)) none <|
  .op (some 7) (.assign (.tmp 29)) none <|
  .op (some 30) (.load 40 (.tmp 2)) none <|
  .op (some 31) (.call ⟨.value (.func 19), ⟨[.tmp 30]⟩, ⟨[40]⟩⟩) none <|
  .op (some 8) (.alloc 50) none <|
  .op none (.store 50 (.tmp 8) (.tmp 31)) none <|
  .op (some 32) (.load 55 (.tmp 3)) none <|
  .op (some 33) (.call ⟨.value (.func 24), ⟨[.tmp 32]⟩, ⟨[55]⟩⟩) none <|
  .op (some 9) (.alloc 59) none <|
  .op none (.store 59 (.tmp 9) (.tmp 33)) none <|
  .op (some 35) (.load 50 (.tmp 8)) none <|
  .op (some 36) (.load 59 (.tmp 9)) none <|
  .op (some 37) (.call ⟨.value (.func 28), ⟨[.tmp 35, .tmp 36]⟩, ⟨[50, 59]⟩⟩) none <|
  .op (some 34) (.move (.tmp 37)) none <|
  .op (some 38) (.extract (.tmp 34) 0) none <|
  .op (some 39) (.extract (.tmp 34) 1) none <|
  .op (some 10) (.assign (.tmp 38)) none <|
  .op (some 11) (.assign (.tmp 39)) none <|
  .op (some 40) (.move (.tmp 10)) none <|
  .op (some 41) (.move (.tmp 6)) none <|
  .op (some 42) (.binOp .neq 3 (.tmp 40) (.tmp 41) 3) none <|
  .op (some 43) (.move (.tmp 42)) none <|
  .op (some 44) (.move (.tmp 11)) (some (43, false)) <|
  .op (some 45) (.move (.tmp 7)) (some (43, false)) <|
  .op (some 46) (.binOp .neq 4 (.tmp 44) (.tmp 45) 4) (some (43, false)) <|
  .op (some 47) (.pick (.tmp 43) (.const (.bool true)) (.tmp 46)) none <|
  .cond (.tmp 47)
    (.op (some 4) (.assign (.const (.bool false))) none <|
      .ret)
    (.done) <|
  .op (some 48) (.load 50 (.tmp 8)) none <|
  .op (some 49) (.load 40 (.tmp 2)) none <|
  .op (some 50) (.call ⟨.value (.func 19), ⟨[.tmp 49]⟩, ⟨[40]⟩⟩) none <|
  .op (some 51) (.call ⟨.value (.func 21), ⟨[.tmp 48, .tmp 50]⟩, ⟨[50, 50]⟩⟩) none <|
  .op (some 52) (.unOp .not 4 (.tmp 51)) none <|
  .cond (.tmp 52)
    (.op (some 4) (.assign (.const (.bool false))) none <|
      .ret)
    (.done) <|
  .op (some 53) (.load 59 (.tmp 9)) none <|
  .op (some 54) (.load 55 (.tmp 3)) none <|
  .op (some 55) (.call ⟨.value (.func 24), ⟨[.tmp 54]⟩, ⟨[55]⟩⟩) none <|
  .op (some 56) (.call ⟨.value (.func 26), ⟨[.tmp 53, .tmp 55]⟩, ⟨[59, 59]⟩⟩) none <|
  .op (some 57) (.unOp .not 4 (.tmp 56)) none <|
  .cond (.tmp 57)
    (.op (some 4) (.assign (.const (.bool false))) none <|
      .ret)
    (.done) <|
  .op (some 4) (.assign (.const (.bool true))) none <|
  .ret
theorem h6 : compF md0 Tryd.f6 = c6 := by kernel_rfl
theorem r6 : Tryd.f6.results.toList = [.tmp 4] := _root_.id (by kernel_rfl)
theorem nt6 : Tryd.f6.ntmps = 58 := by kernel_rfl
/-- laws.FnExactTurnsUntil -/
theorem md_7 : md0 7 = false := rfl
def c7 : XC :=
  .op (some 4) (.box 40 (.tmp 0)) none <|
  .op (some 5) (.box 55 (.tmp 1)) none <|
  .op (some 8) (.assign (.const (.bool false))) none <|
  .op (some 9) (.assign (.const (.int .i64 1048576))) none <|
  .op (some 16) (.load 40 (.tmp 4)) none <|
  .op (some 17) (.move (.tmp 9)) none <|
  .op (some 18) (.call ⟨.value (.func 17), ⟨[.tmp 16, .tmp 17]⟩, ⟨[40, 3]⟩⟩) none <|
  .op (some 9) (.assign (.tmp 18)) none <|
  .op (some 19) (.move (.tmp 9)) none <|
  .op (some 20) (.binOp .lss 3 (.tmp 19) (.const (.int .i64 0)) 3) none <|
  .cond (.tmp 20)
    (.op (some 8) (.assign (.const (.bool true))) none <|
      .ret)
    (.done) <|
  .op (some 21) (.load 55 (.tmp 5)) none <|
  .op (some 22) (.move (.tmp 9)) none <|
  .op (some 23) (.call ⟨.value (.func 22), ⟨[.tmp 21, .tmp 22]⟩, ⟨[55, 3]⟩⟩) none <|
  .op (some 9) (.assign (.tmp 23)) none <|
  .op (some 24) (.move (.tmp 9)) none <|
  .op (some 25) (.binOp .lss 3 (.tmp 24) (.const (.int .i64 0)) 3) none <|
  .cond (.tmp 25)
    (.op (some 8) (.assign (.const (.bool true))) none <|
      .ret)
    (.done) <|
  .op (some 27) (.load 40 (.tmp 4)) none <|
  .op (some 29) (.load 55 (.tmp 5)) none <|
  .op (some 31) (.move (.tmp 2)) none <|
  .op (some 32) (.move (.tmp 3)) none <|
  .op (some 28) (.call ⟨.value (.func 19), ⟨[.tmp 27]⟩, ⟨[40]⟩⟩) none <|
  .op (some 30) (.call ⟨.value (.func 24), ⟨[.tmp 29]⟩, ⟨[55]⟩⟩) none <|
  .op (some 33) (.call ⟨.value (.func 29), ⟨[.tmp 28, .tmp 30, .tmp 31, .tmp 32]⟩, ⟨[50, 59, 3, 3]⟩⟩) none <|
  .op (some 26) (.move (.tmp 33)) none <|
  .op (some 34) (.extract (.tmp 26) 0) none <|
  .op (some 35) (.extract (.tmp 26) 1) none <|
  .op (some 10) (.assign (.tmp 34)) none <|
  .op (some 11) (.assign (.tmp 35)) none <|
  .op (some 36) (.load 40 (.tmp 4)) none <|
  .op (some 37) (.call ⟨.value (.func 19), ⟨[.tmp 36]⟩, ⟨[40]⟩⟩) none <|
  .op (some 12) (.alloc 50) none <|
  .op none (.store 50 (.tmp 12) (.tmp 37)) none <|
  .op (some 38) (.load 55 (.tmp 5)) none <|
  .op (some 39) (.call ⟨.value (.func 24), ⟨[.tmp 38]⟩, ⟨[55]⟩⟩) none <|
  .op (some 13) (.alloc 59) none <|
  .op none (.store 59 (.tmp 13) (.tmp 39)) none <|
  .op (some 41) (.load 50 (.tmp 12)) none <|
  .op (some 42) (.load 59 (.tmp 13)) none <|
  .op (some 43) (.move (.tmp 2)) none <|
  .op (some 44) (.move (.tmp 3)) none <|
  .op (some 45) (.call ⟨.value (.func 30), ⟨[.tmp 41, .tmp 42, .tmp 43, .tmp 44]⟩, ⟨[50, 59, 3, 3]⟩⟩) none <|
  .op (some 40) (.move (.tmp 45)) none <|
  .op (some 46) (.extract (.tmp 40) 0) none <|
  .op (some 47) (.extract (.tmp 40) 1) none <|
  .op (some 14) (.assign (.tmp 46)) none <|
  .op (some 15) (.assign (.tmp 47)) none <|
  .op (some 48) (.move (.tmp 14)) none <|
  .op (some 49) (.move (.tmp 10)) none <|
  .op (some 50) (.binOp .neq 3 (.tmp 48) (.tmp 49) 3) none <|
  .op (some 51) (.move (.tmp 50)) none <|
  .op (some 52) (.move (.tmp 15)) (some (51, false)) <|
  .op (some 53) (.move (.tmp 11)) (some (51, false)) <|
  .op (some 54) (.binOp .neq 4 (.tmp 52) (.tmp 53) 4) (some (51, false)) <|
  .op (some 55) (.pick (.tmp 51) (.const (.bool true)) (.tmp 54)) none <|
  .cond (.tmp 55)
    (.op (some 8) (.assign (.const (.bool false))) none <|
      .ret)
    (.done) <|
  .op (some 56) (.load 50 (.tmp 12)) none <|
  .op (some 57) (.load 40 (.tmp 4)) none <|
  .op (some 58) (.call ⟨.value (.func 19), ⟨[.tmp 57]⟩, ⟨[40]⟩⟩) none <|
  .op (some 59) (.call ⟨.value (.func 21), ⟨[.tmp 56, .tmp 58]⟩, ⟨[50, 50]⟩⟩) none <|
  .op (some 60) (.unOp .not 4 (.tmp 59)) none <|
  .cond (.tmp 60)
    (.op (some 8) (.assign (.const (.bool false))) none <|
      .ret)
    (.done) <|
  .op (some 61) (.load 59 (.tmp 13)) none <|
  .op (some 62) (.load 55 (.tmp 5)) none <|
  .op (some 63) (.call ⟨.value (.func 24), ⟨[.tmp 62]⟩, ⟨[55]⟩⟩) none <|
  .op (some 64) (.call ⟨.value (.func 26), ⟨[.tmp 61, .tmp 63]⟩, ⟨[59, 59]⟩⟩) none <|
  .op (some 65) (.unOp .not 4 (.tmp 64)) none <|
  .cond (.tmp 65)
    (.op (some 8) (.assign (.const (.bool false))) none <|
      .ret)
    (.done) <|
  .op (some 8) (.assign (.const (.bool true))) none <|
  .ret
theorem h7 : compF md0 Tryd.f7 = c7 := by kernel_rfl
theorem r7 : Tryd.f7.results.toList = [.tmp 8] := _root_.id (by kernel_rfl)
theorem nt7 : Tryd.f7.ntmps = 66 := by kernel_rfl
/-- laws.szWorks -/
theorem md_22 : md0 22 = false := rfl
def c22 : XC :=
  .op (some 2) (.box 55 (.tmp 0)) none <|
  .op (some 4) (.assign (.const (.int .i64 0))) none <|
  .op (some 5) (.fieldAddr 55 (.tmp 2) 3) none <|
  .op (some 6) (.load 36 (.tmp 5)) none <|
  .op (some 7) (.move (.tmp 1)) none <|
  .op (some 8) (.call ⟨.value (.func 65), ⟨[.tmp 6, .tmp 7]⟩, ⟨[36, 3]⟩⟩) none <|
  .op (some 1) (.assign (.tmp 8)) none <|
  .op (some 9) (.move (.tmp 1)) none <|
  .op (some 10) (.binOp .lss 3 (.tmp 9) (.const (.int .i64 0)) 3) none <|
  .cond (.tmp 10)
    (.op (some 4) (.assign (.const (.int .i64 (-1)))) none <|
      .ret)
    (.done) <|
  .op (some 11) (.move (.tmp 1)) none <|
  .op (some 4) (.assign (.tmp 11)) none <|
  .ret
theorem h22 : compF md0 Tryd.f22 = c22 := by kernel_rfl
theorem r22 : Tryd.f22.results.toList = [.tmp 4] := _root_.id (by kernel_rfl)
theorem nt22 : Tryd.f22.ntmps = 12 := by kernel_rfl
/-- spec.AreWorks -/
theorem md_23 : md0 23 = false := rfl
def c23 : XC :=
  .op (some 2) (.box 50 (.tmp 0)) none <|
  .op (some 3) (.box 59 (.tmp 1)) none <|
  .op (some 4) (.assign (.const (.bool false))) none <|
  .op (some 5) (.assign (.const (.bool false))) none <|
  .op (some 6) (.load 50 (.tmp 2)) none <|
  .op (some 7) (.call ⟨.value (.func 66), ⟨[.tmp 6]⟩, ⟨[50]⟩⟩) none <|
  .op (some 8) (.unOp .not 4 (.tmp 7)) none <|
  .cond (.tmp 8)
    (.op (some 4) (.assign (.const (.bool false))) none <|
      .op (some 5) (.assign (.const (.bool false))) none <|
      .ret)
    (.done) <|
  .op (some 9) (.load 50 (.tmp 2)) none <|
  .op (some 10) (.load 59 (.tmp 3)) none <|
  .op (some 11) (.call ⟨.value (.func 67), ⟨[.tmp 9, .tmp 10]⟩, ⟨[50, 59]⟩⟩) none <|
  .op (some 4) (.assign (.tmp 11)) none <|
  .op (some 5) (.assign (.const (.bool true))) none <|
  .ret
theorem h23 : compF md0 Tryd.f23 = c23 := by kernel_rfl
theorem r23 : Tryd.f23.results.toList = [.tmp 4, .tmp 5] := _root_.id (by kernel_rfl)
theorem nt23 : Tryd.f23.ntmps = 12 := by kernel_rfl
/-- laws.toWorks -/
theorem md_24 : md0 24 = false := rfl
def c24 : XC :=
  .op (some 1) (.box 55 (.tmp 0)) none <|
  .op (some 2) (.alloc 59) none <|
  .op (some 3) (.alloc 59) none <|
  .op (some 4) (.fieldAddr 55 (.tmp 1) 0) none <|
  .op (some 5) (.load 3 (.tmp 4)) none <|
  .op (some 6) (.fieldAddr 59 (.tmp 3) 0) none <|
  .op none (.store 3 (.tmp 6) (.tmp 5)) none <|
  .op (some 7) (.fieldAddr 55 (.tmp 1) 1) none <|
  .op (some 8) (.load 3 (.tmp 7)) none <|
  .op (some 9) (.fieldAddr 59 (.tmp 3) 1) none <|
  .op none (.store 3 (.tmp 9) (.tmp 8)) none <|
  .op (some 10) (.fieldAddr 55 (.tmp 1) 2) none <|
  .op (some 11) (.load 3 (.tmp 10)) none <|
  .op (some 12) (.fieldAddr 59 (.tmp 3) 2) none <|
  .op none (.store 3 (.tmp 12) (.tmp 11)) none <|
  .op (some 13) (.fieldAddr 55 (.tmp 1) 3) none <|
  .op (some 14) (.load 36 (.tmp 13)) none <|
  .op (some 15) (.call ⟨.value (.func 68), ⟨[.tmp 14]⟩, ⟨[36]⟩⟩) none <|
  .op (some 16) (.fieldAddr 59 (.tmp 3) 3) none <|
  .op none (.store 36 (.tmp 16) (.tmp 15)) none <|
  .op (some 17) (.load 59 (.tmp 3)) none <|
  .op none (.store 59 (.tmp 2) (.tmp 17)) none <|
  .ret
theorem h24 : compF md0 Tryd.f24 = c24 := by kernel_rfl
theorem r24 : Tryd.f24.results.toList = [.cell 2 59] := _root_.id (by kernel_rfl)
theorem nt24 : Tryd.f24.ntmps = 18 := by kernel_rfl
/-- impl.AreWorks -/
theorem md_25 : md0 25 = false := rfl
def c25 : XC :=
  .op (some 2) (.box 50 (.tmp 0)) none <|
  .op (some 3) (.box 59 (.tmp 1)) none <|
  .op (some 4) (.assign (.const (.bool false))) none <|
  .op (some 5) (.assign (.const (.bool false))) none <|
  .op (some 6) (.load 50 (.tmp 2)) none <|
  .op (some 7) (.call ⟨.value (.func 69), ⟨[.tmp 6]⟩, ⟨[50]⟩⟩) none <|
  .op (some 8) (.unOp .not 4 (.tmp 7)) none <|
  .cond (.tmp 8)
    (.op (some 4) (.assign (.const (.bool false))) none <|
      .op (some 5) (.assign (.const (.bool false))) none <|
      .ret)
    (.done) <|
  .op (some 9) (.load 50 (.tmp 2)) none <|
  .op (some 10) (.load 59 (.tmp 3)) none <|
  .op (some 11) (.call ⟨.value (.func 70), ⟨[.tmp 9, .tmp 10]⟩, ⟨[50, 59]⟩⟩) none <|
  .op (some 4) (.assign (.tmp 11)) none <|
  .op (some 5) (.assign (.const (.bool true))) none <|
  .ret
theorem h25 : compF md0 Tryd.f25 = c25 := by kernel_rfl
theorem r25 : Tryd.f25.results.toList = [.tmp 4, .tmp 5] := _root_.id (by kernel_rfl)
theorem nt25 : Tryd.f25.ntmps = 12 := by kernel_rfl
/-- laws.eqWorks -/
theorem md_26 : md0 26 = false := rfl
def c26 : XC :=
  .op (some 2) (.box 59 (.tmp 0)) none <|
  .op (some 3) (.box 59 (.tmp 1)) none <|
  .op (some 4) (.assign (.const (.bool false))) none <|
  .op (some 5) (.fieldAddr 59 (.tmp 2) 0) none <|
  .op (some 6) (.load 3 (.tmp 5)) none <|
  .op (some 7) (.fieldAddr 59 (.tmp 3) 0) none <|
  .op (some 8) (.load 3 (.tmp 7)) none <|
  .op (some 9) (.binOp .neq 3 (.tmp 6) (.tmp 8) 3) none <|
  .cond (.tmp 9)
    (.op (some 4) (.assign (.const (.bool false))) none <|
      .ret)
    (.done) <|
  .op (some 10) (.fieldAddr 59 (.tmp 2) 1) none <|
  .op (some 11) (.load 3 (.tmp 10)) none <|
  .op (some 12) (.fieldAddr 59 (.tmp 3) 1) none <|
  .op (some 13) (.load 3 (.tmp 12)) none <|
  .op (some 14) (.binOp .neq 3 (.tmp 11) (.tmp 13) 3) none <|
  .cond (.tmp 14)
    (.op (some 4) (.assign (.const (.bool false))) none <|
      .ret)
    (.done) <|
  .op (some 15) (.fieldAddr 59 (.tmp 2) 2) none <|
  .op (some 16) (.load 3 (.tmp 15)) none <|
  .op (some 17) (.fieldAddr 59 (.tmp 3) 2) none <|
  .op (some 18) (.load 3 (.tmp 17)) none <|
  .op (some 19) (.binOp .neq 3 (.tmp 16) (.tmp 18) 3) none <|
  .cond (.tmp 19)
    (.op (some 4) (.assign (.const (.bool false))) none <|
      .ret)
    (.done) <|
  .op (some 20) (.fieldAddr 59 (.tmp 2) 3) none <|
  .op (some 21) (.load 36 (.tmp 20)) none <|
  .op (some 22) (.fieldAddr 59 (.tmp 3) 3) none <|
  .op (some 23) (.load 36 (.tmp 22)) none <|
  .op (some 24) (.call ⟨.value (.func 71), ⟨[.tmp 21, .tmp 23]⟩, ⟨[36, 36]⟩⟩) none <|
  .op (some 25) (.unOp .not 4 (.tmp 24)) none <|
  .cond (.tmp 25)
    (.op (some 4) (.assign (.const (.bool false))) none <|
      .ret)
    (.done) <|
  .op (some 4) (.assign (.const (.bool true))) none <|
  .ret
theorem h26 : compF md0 Tryd.f26 = c26 := by kernel_rfl
theorem r26 : Tryd.f26.results.toList = [.tmp 4] := _root_.id (by kernel_rfl)
theorem nt26 : Tryd.f26.ntmps = 26 := by kernel_rfl
/-- spec.QueuePrice -/
theorem md_27 : md0 27 = false := rfl
def c27 : XC :=
  .op (some 2) (.box 50 (.tmp 0)) none <|
  .op (some 3) (.box 59 (.tmp 1)) none <|
  .op (some 4) (.assign (.const (.int .i64 0))) none <|
  .op (some 5) (.assign (.const (.bool false))) none <|
  .op (some 6) (.load 50 (.tmp 2)) none <|
  .op (some 7) (.load 59 (.tmp 3)) none <|
  .op (some 8) (.call ⟨.value (.func 67), ⟨[.tmp 6, .tmp 7]⟩, ⟨[50, 59]⟩⟩) none <|
  .op (some 9) (.unOp .not 4 (.tmp 8)) none <|
  .cond (.tmp 9)
    (.op (some 4) (.assign (.const (.int .i64 0))) none <|
      .op (some 5) (.assign (.const (.bool false))) none <|
      .ret)
    (.done) <|
  .op (some 10) (.load 50 (.tmp 2)) none <|
  .op (some 11) (.fieldAddr 59 (.tmp 3) 3) none <|
  .op (some 12) (.load 36 (.tmp 11)) none <|
  .op (some 13) (.call ⟨.value (.func 72), ⟨[.tmp 10, .tmp 12]⟩, ⟨[50, 36]⟩⟩) none <|
  .op (some 4) (.assign (.tmp 13)) none <|
  .op (some 5) (.assign (.const (.bool true))) none <|
  .ret
theorem h27 : compF md0 Tryd.f27 = c27 := by kernel_rfl
theorem r27 : Tryd.f27.results.toList = [.tmp 4, .tmp 5] := _root_.id (by kernel_rfl)
theorem nt27 : Tryd.f27.ntmps = 14 := by kernel_rfl
/-- impl.QueuePrice -/
theorem md_28 : md0 28 = false := rfl
def c28 : XC :=
  .op (some 2) (.box 50 (.tmp 0)) none <|
  .op (some 3) (.box 59 (.tmp 1)) none <|
  .op (some 4) (.assign (.const (.int .i64 0))) none <|
  .op (some 5) (.assign (.const (.bool false))) none <|
  .op (some 6) (.load 50 (.tmp 2)) none <|
  .op (some 7) (.load 59 (.tmp 3)) none <|
  .op (some 8) (.call ⟨.value (.func 73), ⟨[.tmp 6, .tmp 7]⟩, ⟨[50, 59]⟩⟩) none <|
  .op (some 9) (.unOp .not 4 (.tmp 8)) none <|
  .cond (.tmp 9)
    (.op (some 4) (.assign (.const (.int .i64 0))) none <|
      .op (some 5) (.assign (.const (.bool false))) none <|
      .ret)
    (.done) <|
  .op (some 10) (.load 50 (.tmp 2)) none <|
  .op (some 11) (.fieldAddr 59 (.tmp 3) 3) none <|
  .op (some 12) (.load 36 (.tmp 11)) none <|
  .op (some 13) (.call ⟨.value (.func 74), ⟨[.tmp 10, .tmp 12]⟩, ⟨[50, 36]⟩⟩) none <|
  .op (some 4) (.assign (.tmp 13)) none <|
  .op (some 5) (.assign (.const (.bool true))) none <|
  .ret
theorem h28 : compF md0 Tryd.f28 = c28 := by kernel_rfl
theorem r28 : Tryd.f28.results.toList = [.tmp 4, .tmp 5] := _root_.id (by kernel_rfl)
theorem nt28 : Tryd.f28.ntmps = 14 := by kernel_rfl
/-- spec.TurnsUntil -/
theorem md_29 : md0 29 = false := rfl
def c29 : XC :=
  .op (some 4) (.box 50 (.tmp 0)) none <|
  .op (some 5) (.box 59 (.tmp 1)) none <|
  .op (some 8) (.assign (.const (.int .i64 0))) none <|
  .op (some 9) (.assign (.const (.bool false))) none <|
  .op (some 11) (.load 50 (.tmp 4)) none <|
  .op (some 12) (.load 59 (.tmp 5)) none <|
  .op (some 13) (.call ⟨.value (.func 67), ⟨[.tmp 11, .tmp 12]⟩, ⟨[50, 59]⟩⟩) none <|
  .op (some 14) (.unOp .not 4 (.tmp 13)) none <|
  .op (some 15) (.move (.tmp 14)) none <|
  .op (some 16) (.move (.tmp 2)) (some (15, false)) <|
  .op (some 17) (.fieldAddr 59 (.tmp 5) 3) (some (15, false)) <|
  .op (some 18) (.load 36 (.tmp 17)) (some (15, false)) <|
  .op (some 19) (.call ⟨.builtin .len, ⟨[.tmp 18]⟩, ⟨[36]⟩⟩) (some (15, false)) <|
  .op (some 20) (.binOp .sub 3 (.tmp 19) (.const (.int .i64 1)) 3) (some (15, false)) <|
  .op (some 21) (.call ⟨.value (.func 75), ⟨[.tmp 16, .const (.int .i64 0), .tmp 20]⟩, ⟨[3, 3, 3]⟩⟩) (some (15, false)) <|
  .op (some 22) (.unOp .not 4 (.tmp 21)) (some (15, false)) <|
  .op (some 23) (.pick (.tmp 15) (.const (.bool true)) (.tmp 22)) none <|
  .op (some 24) (.move (.tmp 23)) none <|
  .op (some 25) (.move (.tmp 3)) (some (24, false)) <|
  .op (some 26) (.call ⟨.value (.func 75), ⟨[.tmp 25, .const (.int .i64 0), .const (.int .i64 50)]⟩, ⟨[3, 3, 3]⟩⟩) (some (24, false)) <|
  .op (some 27) (.unOp .not 4 (.tmp 26)) (some (24, false)) <|
  .op (some 28) (.pick (.tmp 24) (.const (.bool true)) (.tmp 27)) none <|
  .cond (.tmp 28)
    (.op (some 8) (.assign (.const (.int .i64 0))) none <|
      .op (some 9) (.assign (.const (.bool false))) none <|
      .ret)
    (.done) <|
  .op (some 30) (.fieldAddr 59 (.tmp 5) 3) none <|
  .op (some 31) (.load 36 (.tmp 30)) none <|
  .op (some 32) (.move (.tmp 2)) none <|
  .op (some 33) (.binOp .add 3 (.tmp 32) (.const (.int .i64 1)) 3) none <|
  .op (some 36) (.fieldAddr 59 (.tmp 5) 2) none <|
  .fork
    (.op (some 29) (.load 50 (.tmp 4)) none <|
      .fork
        (.op (some 34) (.slice 36 (.tmp 31) none (some (.tmp 33)) none) none <|
          .op (some 37) (.load 3 (.tmp 36)) none <|
          .op (some 35) (.call ⟨.value (.func 72), ⟨[.tmp 29, .tmp 34]⟩, ⟨[50, 36]⟩⟩) none <|
          .op (some 38) (.binOp .sub 3 (.tmp 35) (.tmp 37) 3) none <|
          .op (some 10) (.assign (.tmp 38)) none <|
          .done)
        (.op (some 37) (.load 3 (.tmp 36)) none <|
          .op (some 34) (.slice 36 (.tmp 31) none (some (.tmp 33)) none) none <|
          .op (some 35) (.call ⟨.value (.func 72), ⟨[.tmp 29, .tmp 34]⟩, ⟨[50, 36]⟩⟩) none <|
          .op (some 38) (.binOp .sub 3 (.tmp 35) (.tmp 37) 3) none <|
          .op (some 10) (.assign (.tmp 38)) none <|
          .done) <|
      .done)
    (.fork
        (.op (some 34) (.slice 36 (.tmp 31) none (some (.tmp 33)) none) none <|
          .op (some 29) (.load 50 (.tmp 4)) none <|
          .op (some 37) (.load 3 (.tmp 36)) none <|
          .op (some 35) (.call ⟨.value (.func 72), ⟨[.tmp 29, .tmp 34]⟩, ⟨[50, 36]⟩⟩) none <|
          .op (some 38) (.binOp .sub 3 (.tmp 35) (.tmp 37) 3) none <|
          .op (some 10) (.assign (.tmp 38)) none <|
          .done)
        (.op (some 37) (.load 3 (.tmp 36)) none <|
          .fork
            (.op (some 29) (.load 50 (.tmp 4)) none <|
            .op (some 34) (.slice 36 (.tmp 31) none (some (.tmp 33)) none) none <|
            .op (some 35) (.call ⟨.value (.func 72), ⟨[.tmp 29, .tmp 34]⟩, ⟨[50, 36]⟩⟩) none <|
            .op (some 38) (.binOp .sub 3 (.tmp 35) (.tmp 37) 3) none <|
            .op (some 10) (.assign (.tmp 38)) none <|
            .done)
            (.op (some 34) (.slice 36 (.tmp 31) none (some (.tmp 33)) none) none <|
            .op (some 29) (.load 50 (.tmp 4)) none <|
            .op (some 35) (.call ⟨.value (.func 72), ⟨[.tmp 29, .tmp 34]⟩, ⟨[50, 36]⟩⟩) none <|
            .op (some 38) (.binOp .sub 3 (.tmp 35) (.tmp 37) 3) none <|
            .op (some 10) (.assign (.tmp 38)) none <|
            .done) <|
          .done) <|
      .done) <|
  .block 0
    (.op (some 40) (.move (.tmp 10)) none <|
      .op (some 41) (.binOp .leq 3 (.tmp 40) (.const (.int .i64 0)) 3) none <|
      .op (some 39) (.assign (.tmp 41)) none <|
      .cond (.tmp 39)
        (.op (some 8) (.assign (.const (.int .i64 0))) none <|
          .op (some 9) (.assign (.const (.bool true))) none <|
          .ret)
        (.op (some 43) (.move (.tmp 3)) none <|
          .op (some 44) (.binOp .eql 3 (.tmp 43) (.const (.int .i64 0)) 3) none <|
          .op (some 42) (.assign (.tmp 44)) none <|
          .cond (.tmp 42)
            (.op (some 8) (.assign (.const (.int .i64 0))) none <|
            .op (some 9) (.assign (.const (.bool false))) none <|
            .ret)
            (.done) <|
          .done) <|
      .done) <|
  .op (some 45) (.move (.tmp 10)) none <|
  .op (some 46) (.move (.tmp 3)) none <|
  .op (some 47) (.binOp .add 3 (.tmp 45) (.tmp 46) 3) none <|
  .op (some 48) (.binOp .sub 3 (.tmp 47) (.const (.int .i64 1)) 3) none <|
  .op (some 49) (.move (.tmp 3)) none <|
  .op (some 50) (.binOp .quo 3 (.tmp 48) (.tmp 49) 3) none <|
  .op (some 8) (.assign (.tmp 50)) none <|
  .op (some 9) (.assign (.const (.bool true))) none <|
  .ret
theorem h29 : compF md0 Tryd.f29 = c29 := by kernel_rfl
theorem r29 : Tryd.f29.results.toList = [.tmp 8, .tmp 9] := _root_.id (by kernel_rfl)
theorem nt29 : Tryd.f29.ntmps = 51 := by kernel_rfl
/-- impl.TurnsUntil -/
theorem md_30 : md0 30 = false := rfl
def c30 : XC :=
  .op (some 4) (.box 50 (.tmp 0)) none <|
  .op (some 5) (.box 59 (.tmp 1)) none <|
  .op (some 8) (.assign (.const (.int .i64 0))) none <|
  .op (some 9) (.assign (.const (.bool false))) none <|
  .op (some 11) (.load 50 (.tmp 4)) none <|
  .op (some 12) (.load 59 (.tmp 5)) none <|
  .op (some 13) (.call ⟨.value (.func 73), ⟨[.tmp 11, .tmp 12]⟩, ⟨[50, 59]⟩⟩) none <|
  .op (some 14) (.unOp .not 4 (.tmp 13)) none <|
  .op (some 15) (.move (.tmp 14)) none <|
  .op (some 16) (.move (.tmp 2)) (some (15, false)) <|
  .op (some 17) (.fieldAddr 59 (.tmp 5) 3) (some (15, false)) <|
  .op (some 18) (.load 36 (.tmp 17)) (some (15, false)) <|
  .op (some 19) (.call ⟨.builtin .len, ⟨[.tmp 18]⟩, ⟨[36]⟩⟩) (some (15, false)) <|
  .op (some 20) (.call ⟨.value (.func 76), ⟨[.tmp 16, .tmp 19]⟩, ⟨[3, 3]⟩⟩) (some (15, false)) <|
  .op (some 21) (.unOp .not 4 (.tmp 20)) (some (15, false)) <|
  .op (some 22) (.pick (.tmp 15) (.const (.bool true)) (.tmp 21)) none <|
  .op (some 23) (.move (.tmp 22)) none <|
  .op (some 24) (.move (.tmp 3)) (some (23, false)) <|
  .op (some 25) (.call ⟨.value (.func 77), ⟨[.tmp 24]⟩, ⟨[3]⟩⟩) (some (23, false)) <|
  .op (some 26) (.unOp .not 4 (.tmp 25)) (some (23, false)) <|
  .op (some 27) (.pick (.tmp 23) (.const (.bool true)) (.tmp 26)) none <|
  .cond (.tmp 27)
    (.op (some 8) (.assign (.const (.int .i64 0))) none <|
      .op (some 9) (.assign (.const (.bool false))) none <|
      .ret)
    (.done) <|
  .op (some 29) (.fieldAddr 59 (.tmp 5) 3) none <|
  .op (some 30) (.load 36 (.tmp 29)) none <|
  .op (some 31) (.move (.tmp 2)) none <|
  .op (some 32) (.binOp .add 3 (.tmp 31) (.const (.int .i64 1)) 3) none <|
  .op (some 35) (.fieldAddr 59 (.tmp 5) 2) none <|
  .fork
    (.op (some 28) (.load 50 (.tmp 4)) none <|
      .fork
        (.op (some 33) (.slice 36 (.tmp 30) none (some (.tmp 32)) none) none <|
          .op (some 36) (.load 3 (.tmp 35)) none <|
          .op (some 34) (.call ⟨.value (.func 74), ⟨[.tmp 28, .tmp 33]⟩, ⟨[50, 36]⟩⟩) none <|
          .op (some 37) (.binOp .sub 3 (.tmp 34) (.tmp 36) 3) none <|
          .op (some 38) (.call ⟨.builtin .max, ⟨[.const (.int .i64 0), .tmp 37]⟩, ⟨[3, 3]⟩⟩) none <|
          .op (some 10) (.assign (.tmp 38)) none <|
          .done)
        (.op (some 36) (.load 3 (.tmp 35)) none <|
          .op (some 33) (.slice 36 (.tmp 30) none (some (.tmp 32)) none) none <|
          .op (some 34) (.call ⟨.value (.func 74), ⟨[.tmp 28, .tmp 33]⟩, ⟨[50, 36]⟩⟩) none <|
          .op (some 37) (.binOp .sub 3 (.tmp 34) (.tmp 36) 3) none <|
          .op (some 38) (.call ⟨.builtin .max, ⟨[.const (.int .i64 0), .tmp 37]⟩, ⟨[3, 3]⟩⟩) none <|
          .op (some 10) (.assign (.tmp 38)) none <|
          .done) <|
      .done)
    (.fork
        (.op (some 33) (.slice 36 (.tmp 30) none (some (.tmp 32)) none) none <|
          .op (some 28) (.load 50 (.tmp 4)) none <|
          .op (some 36) (.load 3 (.tmp 35)) none <|
          .op (some 34) (.call ⟨.value (.func 74), ⟨[.tmp 28, .tmp 33]⟩, ⟨[50, 36]⟩⟩) none <|
          .op (some 37) (.binOp .sub 3 (.tmp 34) (.tmp 36) 3) none <|
          .op (some 38) (.call ⟨.builtin .max, ⟨[.const (.int .i64 0), .tmp 37]⟩, ⟨[3, 3]⟩⟩) none <|
          .op (some 10) (.assign (.tmp 38)) none <|
          .done)
        (.op (some 36) (.load 3 (.tmp 35)) none <|
          .fork
            (.op (some 28) (.load 50 (.tmp 4)) none <|
            .op (some 33) (.slice 36 (.tmp 30) none (some (.tmp 32)) none) none <|
            .op (some 34) (.call ⟨.value (.func 74), ⟨[.tmp 28, .tmp 33]⟩, ⟨[50, 36]⟩⟩) none <|
            .op (some 37) (.binOp .sub 3 (.tmp 34) (.tmp 36) 3) none <|
            .op (some 38) (.call ⟨.builtin .max, ⟨[.const (.int .i64 0), .tmp 37]⟩, ⟨[3, 3]⟩⟩) none <|
            .op (some 10) (.assign (.tmp 38)) none <|
            .done)
            (.op (some 33) (.slice 36 (.tmp 30) none (some (.tmp 32)) none) none <|
            .op (some 28) (.load 50 (.tmp 4)) none <|
            .op (some 34) (.call ⟨.value (.func 74), ⟨[.tmp 28, .tmp 33]⟩, ⟨[50, 36]⟩⟩) none <|
            .op (some 37) (.binOp .sub 3 (.tmp 34) (.tmp 36) 3) none <|
            .op (some 38) (.call ⟨.builtin .max, ⟨[.const (.int .i64 0), .tmp 37]⟩, ⟨[3, 3]⟩⟩) none <|
            .op (some 10) (.assign (.tmp 38)) none <|
            .done) <|
          .done) <|
      .done) <|
  .op (some 39) (.move (.tmp 10)) none <|
  .op (some 40) (.binOp .eql 3 (.tmp 39) (.const (.int .i64 0)) 3) none <|
  .cond (.tmp 40)
    (.op (some 8) (.assign (.const (.int .i64 0))) none <|
      .op (some 9) (.assign (.const (.bool true))) none <|
      .ret)
    (.done) <|
  .op (some 41) (.move (.tmp 3)) none <|
  .op (some 42) (.binOp .eql 3 (.tmp 41) (.const (.int .i64 0)) 3) none <|
  .cond (.tmp 42)
    (.op (some 8) (.assign (.const (.int .i64 0))) none <|
      .op (some 9) (.assign (.const (.bool false))) none <|
      .ret)
    (.done) <|
  .op (some 43) (.move (.tmp 10)) none <|
  .op (some 44) (.move (.tmp 3)) none <|
  .op (some 45) (.binOp .add 3 (.tmp 43) (.tmp 44) 3) none <|
  .op (some 46) (.binOp .sub 3 (.tmp 45) (.const (.int .i64 1)) 3) none <|
  .op (some 47) (.move (.tmp 3)) none <|
  .op (some 48) (.binOp .quo 3 (.tmp 46) (.tmp 47) 3) none <|
  .op (some 8) (.assign (.tmp 48)) none <|
  .op (some 9) (.assign (.const (.bool true))) none <|
  .ret
theorem h30 : compF md0 Tryd.f30 = c30 := by kernel_rfl
theorem r30 : Tryd.f30.results.toList = [.tmp 8, .tmp 9] := _root_.id (by kernel_rfl)
theorem nt30 : Tryd.f30.ntmps = 49 := by kernel_rfl
/-- spec.pdGood -/
theorem md_67 : md0 67 = false := rfl
def c67 : XC :=
  .op (some 2) (.box 50 (.tmp 0)) none <|
  .op (some 3) (.box 59 (.tmp 1)) none <|
  .op (some 4) (.assign (.const (.bool false))) none <|
  .op (some 5) (.load 50 (.tmp 2)) none <|
  .op (some 6) (.call ⟨.value (.func 66), ⟨[.tmp 5]⟩, ⟨[50]⟩⟩) none <|
  .op (some 7) (.move (.tmp 6)) none <|
  .op (some 8) (.fieldAddr 59 (.tmp 3) 0) (some (7, true)) <|
  .op (some 9) (.load 3 (.tmp 8)) (some (7, true)) <|
  .op (some 10) (.call ⟨.value (.func 75), ⟨[.tmp 9, .const (.int .i64 0), .const (.int .i64 1)]⟩, ⟨[3, 3, 3]⟩⟩) (some (7, true)) <|
  .op (some 11) (.pick (.tmp 7) (.tmp 10) (.const (.bool false))) none <|
  .op (some 12) (.move (.tmp 11)) none <|
  .op (some 13) (.fieldAddr 59 (.tmp 3) 1) (some (12, true)) <|
  .op (some 14) (.load 3 (.tmp 13)) (some (12, true)) <|
  .op (some 15) (.fieldAddr 50 (.tmp 2) 1) (some (12, true)) <|
  .op (some 16) (.load 48 (.tmp 15)) (some (12, true)) <|
  .op (some 17) (.call ⟨.value (.func 107), ⟨[.tmp 16]⟩, ⟨[48]⟩⟩) (some (12, true)) <|
  .op (some 18) (.binOp .sub 3 (.tmp 17) (.const (.int .i64 1)) 3) (some (12, true)) <|
  .op (some 19) (.call ⟨.value (.func 75), ⟨[.tmp 14, .const (.int .i64 0), .tmp 18]⟩, ⟨[3, 3, 3]⟩⟩) (some (12, true)) <|
  .op (some 20) (.pick (.tmp 12) (.tmp 19) (.const (.bool false))) none <|
  .op (some 21) (.move (.tmp 20)) none <|
  .op (some 22) (.fieldAddr 59 (.tmp 3) 2) (some (21, true)) <|
  .op (some 23) (.load 3 (.tmp 22)) (some (21, true)) <|
  .op (some 24) (.call ⟨.value (.func 75), ⟨[.tmp 23, .const (.int .i64 0), .const (.int .i64 200)]⟩, ⟨[3, 3, 3]⟩⟩) (some (21, true)) <|
  .op (some 25) (.pick (.tmp 21) (.tmp 24) (.const (.bool false))) none <|
  .op (some 26) (.move (.tmp 25)) none <|
  .op (some 27) (.fieldAddr 59 (.tmp 3) 3) (some (26, true)) <|
  .op (some 28) (.load 36 (.tmp 27)) (some (26, true)) <|
  .op (some 29) (.call ⟨.builtin .len, ⟨[.tmp 28]⟩, ⟨[36]⟩⟩) (some (26, true)) <|
  .op (some 30) (.binOp .leq 3 (.tmp 29) (.const (.int .i64 8)) 3) (some (26, true)) <|
  .op (some 31) (.pick (.tmp 26) (.tmp 30) (.const (.bool false))) none <|
  .op (some 32) (.move (.tmp 31)) none <|
  .op (some 33) (.fieldAddr 59 (.tmp 3) 3) (some (32, true)) <|
  .op (some 34) (.load 36 (.tmp 33)) (some (32, true)) <|
  .op (some 35) (.fieldAddr 50 (.tmp 2) 0) (some (32, true)) <|
  .op (some 36) (.fieldAddr 47 (.tmp 35) 1) (some (32, true)) <|
  .op (some 37) (.load 45 (.tmp 36)) (some (32, true)) <|
  .op (some 38) (.call ⟨.builtin .len, ⟨[.tmp 37]⟩, ⟨[45]⟩⟩) (some (32, true)) <|
  .op (some 39) (.binOp .sub 3 (.tmp 38) (.const (.int .i64 1)) 3) (some (32, true)) <|
  .op (some 40) (.call ⟨.value (.func 98), ⟨[.tmp 34, .const (.int .i64 0), .tmp 39]⟩, ⟨[36, 3, 3]⟩⟩) (some (32, true)) <|
  .op (some 41) (.pick (.tmp 32) (.tmp 40) (.const (.bool false))) none <|
  .op (some 4) (.assign (.tmp 41)) none <|
  .ret
theorem h67 : compF md0 Tryd.f67 = c67 := by kernel_rfl
theorem r67 : Tryd.f67.results.toList = [.tmp 4] := _root_.id (by kernel_rfl)
theorem nt67 : Tryd.f67.ntmps = 42 := by kernel_rfl
/-- impl.goodWorks -/
theorem md_70 : md0 70 = false := rfl
def c70 : XC :=
  .op (some 2) (.box 50 (.tmp 0)) none <|
  .op (some 3) (.box 59 (.tmp 1)) none <|
  .op (some 4) (.assign (.const (.bool false))) none <|
  .op (some 5) (.fieldAddr 59 (.tmp 3) 0) none <|
  .op (some 6) (.load 3 (.tmp 5)) none <|
  .op (some 7) (.call ⟨.value (.func 118), ⟨[.tmp 6]⟩, ⟨[3]⟩⟩) none <|
  .op (some 8) (.unOp .not 4 (.tmp 7)) none <|
  .op (some 9) (.move (.tmp 8)) none <|
  .op (some 10) (.fieldAddr 59 (.tmp 3) 1) (some (9, false)) <|
  .op (some 11) (.load 3 (.tmp 10)) (some (9, false)) <|
  .op (some 12) (.load 50 (.tmp 2)) (some (9, false)) <|
  .op (some 13) (.call ⟨.value (.func 119), ⟨[.tmp 12]⟩, ⟨[50]⟩⟩) (some (9, false)) <|
  .op (some 14) (.call ⟨.value (.func 76), ⟨[.tmp 11, .tmp 13]⟩, ⟨[3, 3]⟩⟩) (some (9, false)) <|
  .op (some 15) (.unOp .not 4 (.tmp 14)) (some (9, false)) <|
  .op (some 16) (.pick (.tmp 9) (.const (.bool true)) (.tmp 15)) none <|
  .op (some 17) (.move (.tmp 16)) none <|
  .op (some 18) (.fieldAddr 59 (.tmp 3) 2) (some (17, false)) <|
  .op (some 19) (.load 3 (.tmp 18)) (some (17, false)) <|
  .op (some 20) (.call ⟨.value (.func 101), ⟨[.tmp 19, .const (.int .i64 0), .const (.int .i64 200)]⟩, ⟨[3, 3, 3]⟩⟩) (some (17, false)) <|
  .op (some 21) (.unOp .not 4 (.tmp 20)) (some (17, false)) <|
  .op (some 22) (.pick (.tmp 17) (.const (.bool true)) (.tmp 21)) none <|
  .op (some 23) (.move (.tmp 22)) none <|
  .op (some 24) (.fieldAddr 59 (.tmp 3) 3) (some (23, false)) <|
  .op (some 25) (.load 36 (.tmp 24)) (some (23, false)) <|
  .op (some 26) (.call ⟨.builtin .len, ⟨[.tmp 25]⟩, ⟨[36]⟩⟩) (some (23, false)) <|
  .op (some 27) (.binOp .gtr 3 (.tmp 26) (.const (.int .i64 8)) 3) (some (23, false)) <|
  .op (some 28) (.pick (.tmp 23) (.const (.bool true)) (.tmp 27)) none <|
  .cond (.tmp 28)
    (.op (some 4) (.assign (.const (.bool false))) none <|
      .ret)
    (.done) <|
  .op (some 29) (.fieldAddr 59 (.tmp 3) 3) none <|
  .op (some 30) (.load 36 (.tmp 29)) none <|
  .op (some 31) (.makeFunc (.func 120) ⟨[]⟩ ⟨[.tmp 2]⟩) none <|
  .op (some 32) (.call ⟨.value (.func 116), ⟨[.tmp 30, .tmp 31]⟩, ⟨[36, 118]⟩⟩) none <|
  .op (some 33) (.unOp .not 4 (.tmp 32)) none <|
  .op (some 4) (.assign (.tmp 33)) none <|
  .ret
theorem h70 : compF md0 Tryd.f70 = c70 := by kernel_rfl
theorem r70 : Tryd.f70.results.toList = [.tmp 4] := _root_.id (by kernel_rfl)
theorem nt70 : Tryd.f70.ntmps = 34 := by kernel_rfl
/-- spec.pdSum -/
theorem md_72 : md0 72 = false := rfl
def c72 : XC :=
  .op (some 2) (.box 50 (.tmp 0)) none <|
  .op (some 4) (.assign (.const (.int .i64 0))) none <|
  .op (some 5) (.assign (.const (.int .i64 0))) none <|
  .op (some 8) (.move (.tmp 1)) none <|
  .op (some 9) (.call ⟨.builtin .len, ⟨[.tmp 8]⟩, ⟨[36]⟩⟩) none <|
  .op (some 10) (.move (.const (.int .i64 0))) none <|
  .block 0
    (.loop <|
      .op (some 11) (.binOp .lss 3 (.tmp 10) (.tmp 9) 3) none <|
      .cond (.tmp 11)
        (.done)
        (.exit 0) <|
      .block 1
        (.op (some 12) (.indexAddr 36 (.tmp 8) (.tmp 10)) none <|
          .op (some 13) (.load 3 (.tmp 12)) none <|
          .op (some 7) (.assign (.tmp 13)) none <|
          .op (some 14) (.move (.tmp 5)) none <|
          .op (some 15) (.load 50 (.tmp 2)) none <|
          .op (some 16) (.move (.tmp 7)) none <|
          .op (some 17) (.call ⟨.value (.func 58), ⟨[.tmp 15, .tmp 16]⟩, ⟨[50, 3]⟩⟩) none <|
          .op (some 18) (.binOp .add 3 (.tmp 14) (.tmp 17) 3) none <|
          .op (some 5) (.assign (.tmp 18)) none <|
          .done) <|
      .op (some 19) (.binOp .add 3 (.tmp 10) (.const (.int .i64 1)) 3) none <|
      .op (some 10) (.move (.tmp 19)) none <|
      .done) <|
  .op (some 20) (.move (.tmp 5)) none <|
  .op (some 4) (.assign (.tmp 20)) none <|
  .ret
theorem h72 : compF md0 Tryd.f72 = c72 := by kernel_rfl
theorem r72 : Tryd.f72.results.toList = [.tmp 4] := _root_.id (by kernel_rfl)
theorem nt72 : Tryd.f72.ntmps = 21 := by kernel_rfl
/-- impl.hasWorks -/
theorem md_73 : md0 73 = false := rfl
def c73 : XC :=
  .op (some 2) (.box 50 (.tmp 0)) none <|
  .op (some 3) (.box 59 (.tmp 1)) none <|
  .op (some 4) (.assign (.const (.bool false))) none <|
  .op (some 5) (.load 50 (.tmp 2)) none <|
  .op (some 6) (.call ⟨.value (.func 69), ⟨[.tmp 5]⟩, ⟨[50]⟩⟩) none <|
  .op (some 7) (.move (.tmp 6)) none <|
  .op (some 8) (.load 50 (.tmp 2)) (some (7, true)) <|
  .op (some 9) (.load 59 (.tmp 3)) (some (7, true)) <|
  .op (some 10) (.call ⟨.value (.func 70), ⟨[.tmp 8, .tmp 9]⟩, ⟨[50, 59]⟩⟩) (some (7, true)) <|
  .op (some 11) (.pick (.tmp 7) (.tmp 10) (.const (.bool false))) none <|
  .op (some 4) (.assign (.tmp 11)) none <|
  .ret
theorem h73 : compF md0 Tryd.f73 = c73 := by kernel_rfl
theorem r73 : Tryd.f73.results.toList = [.tmp 4] := _root_.id (by kernel_rfl)
theorem nt73 : Tryd.f73.ntmps = 12 := by kernel_rfl
/-- impl.pricesOf -/
theorem md_74 : md0 74 = false := rfl
def c74 : XC :=
  .op (some 2) (.box 50 (.tmp 0)) none <|
  .op (some 4) (.assign (.const (.int .i64 0))) none <|
  .op (some 5) (.assign (.const (.int .i64 0))) none <|
  .op (some 8) (.move (.tmp 1)) none <|
  .op (some 9) (.call ⟨.builtin .len, ⟨[.tmp 8]⟩, ⟨[36]⟩⟩) none <|
  .op (some 10) (.move (.const (.int .i64 0))) none <|
  .block 0
    (.loop <|
      .op (some 11) (.binOp .lss 3 (.tmp 10) (.tmp 9) 3) none <|
      .cond (.tmp 11)
        (.done)
        (.exit 0) <|
      .block 1
        (.op (some 12) (.indexAddr 36 (.tmp 8) (.tmp 10)) none <|
          .op (some 13) (.load 3 (.tmp 12)) none <|
          .op (some 7) (.assign (.tmp 13)) none <|
          .op (some 14) (.move (.tmp 5)) none <|
          .op (some 15) (.load 50 (.tmp 2)) none <|
          .op (some 16) (.move (.tmp 7)) none <|
          .op (some 17) (.call ⟨.value (.func 62), ⟨[.tmp 15, .tmp 16]⟩, ⟨[50, 3]⟩⟩) none <|
          .op (some 18) (.binOp .add 3 (.tmp 14) (.tmp 17) 3) none <|
          .op (some 5) (.assign (.tmp 18)) none <|
          .done) <|
      .op (some 19) (.binOp .add 3 (.tmp 10) (.const (.int .i64 1)) 3) none <|
      .op (some 10) (.move (.tmp 19)) none <|
      .done) <|
  .op (some 20) (.move (.tmp 5)) none <|
  .op (some 4) (.assign (.tmp 20)) none <|
  .ret
theorem h74 : compF md0 Tryd.f74 = c74 := by kernel_rfl
theorem r74 : Tryd.f74.results.toList = [.tmp 4] := _root_.id (by kernel_rfl)
theorem nt74 : Tryd.f74.ntmps = 21 := by kernel_rfl
/-- impl.isIncome -/
theorem md_77 : md0 77 = false := rfl
def c77 : XC :=
  .op (some 2) (.assign (.const (.bool false))) none <|
  .op (some 3) (.move (.tmp 0)) none <|
  .op (some 4) (.call ⟨.value (.func 101), ⟨[.tmp 3, .const (.int .i64 0), .const (.int .i64 50)]⟩, ⟨[3, 3, 3]⟩⟩) none <|
  .op (some 2) (.assign (.tmp 4)) none <|
  .ret
theorem h77 : compF md0 Tryd.f77 = c77 := by kernel_rfl
theorem r77 : Tryd.f77.results.toList = [.tmp 2] := _root_.id (by kernel_rfl)
theorem nt77 : Tryd.f77.ntmps = 5 := by kernel_rfl
/-- impl.isSide -/
theorem md_118 : md0 118 = false := rfl
def c118 : XC :=
  .op (some 2) (.assign (.const (.bool false))) none <|
  .op (some 3) (.move (.tmp 0)) none <|
  .op (some 4) (.call ⟨.value (.func 101), ⟨[.tmp 3, .const (.int .i64 0), .const (.int .i64 1)]⟩, ⟨[3, 3, 3]⟩⟩) none <|
  .op (some 2) (.assign (.tmp 4)) none <|
  .ret
theorem h118 : compF md0 Tryd.f118 = c118 := by kernel_rfl
theorem r118 : Tryd.f118.results.toList = [.tmp 2] := _root_.id (by kernel_rfl)
theorem nt118 : Tryd.f118.ntmps = 5 := by kernel_rfl
/-- impl.goodWorks$1 -/
theorem md_120 : md0 120 = false := rfl
def c120 : XC :=
  .op (some 3) (.assign (.const (.bool false))) none <|
  .op (some 4) (.move (.tmp 0)) none <|
  .op (some 5) (.fieldAddr 50 (.tmp 1) 0) none <|
  .op (some 6) (.fieldAddr 47 (.tmp 5) 1) none <|
  .op (some 7) (.load 45 (.tmp 6)) none <|
  .op (some 8) (.call ⟨.builtin .len, ⟨[.tmp 7]⟩, ⟨[45]⟩⟩) none <|
  .op (some 9) (.call ⟨.value (.func 76), ⟨[.tmp 4, .tmp 8]⟩, ⟨[3, 3]⟩⟩) none <|
  .op (some 10) (.unOp .not 4 (.tmp 9)) none <|
  .op (some 3) (.assign (.tmp 10)) none <|
  .ret
theorem h120 : compF md0 Tryd.f120 = c120 := by kernel_rfl
theorem r120 : Tryd.f120.results.toList = [.tmp 3] := _root_.id (by kernel_rfl)
theorem nt120 : Tryd.f120.ntmps = 11 := by kernel_rfl
theorem tk_55 : tk Tryd.prog 55 = .struct [(0, 1), (1, 1), (2, 1), (3, 1)] := _root_.id (by kernel_rfl)
theorem sz_55 : szOf Tryd.prog 55 = 4 := _root_.id (by kernel_rfl)
theorem by_55 : byOf Tryd.prog 55 = 48 := _root_.id (by kernel_rfl)
theorem ag_55 : agT Tryd.prog 55 = some (some 4) := _root_.id (by kernel_rfl)
theorem ce_55 : Program.cellsOf Tryd.prog 55 = 4 := _root_.id (by kernel_rfl)
theorem bo_55 : Program.bytesOf Tryd.prog 55 = 48 := _root_.id (by kernel_rfl)
theorem sty_55 : sty Tryd.prog 55 = some [3, 3, 3, 36] := _root_.id (by kernel_rfl)
theorem zc_55 : zeroCells Tryd.prog 55 = some [.int .i64 0, .int .i64 0, .int .i64 0, .nil] := _root_.id (by kernel_rfl)
theorem pl_55 : places Tryd.prog 55 = some [(0, 1), (1, 1), (2, 1), (3, 1)] := _root_.id (by kernel_rfl)
theorem tk_59 : tk Tryd.prog 59 = .struct [(0, 1), (1, 1), (2, 1), (3, 1)] := _root_.id (by kernel_rfl)
theorem sz_59 : szOf Tryd.prog 59 = 4 := _root_.id (by kernel_rfl)
theorem by_59 : byOf Tryd.prog 59 = 48 := _root_.id (by kernel_rfl)
theorem ag_59 : agT Tryd.prog 59 = some (some 4) := _root_.id (by kernel_rfl)
theorem ce_59 : Program.cellsOf Tryd.prog 59 = 4 := _root_.id (by kernel_rfl)
theorem bo_59 : Program.bytesOf Tryd.prog 59 = 48 := _root_.id (by kernel_rfl)
theorem sty_59 : sty Tryd.prog 59 = some [3, 3, 3, 36] := _root_.id (by kernel_rfl)
theorem zc_59 : zeroCells Tryd.prog 59 = some [.int .i64 0, .int .i64 0, .int .i64 0, .nil] := _root_.id (by kernel_rfl)
theorem pl_59 : places Tryd.prog 59 = some [(0, 1), (1, 1), (2, 1), (3, 1)] := _root_.id (by kernel_rfl)
attribute [push_cast] md_5 md_6 md_7 md_22 md_23 md_24 md_25 md_26 md_27 md_28 md_29 md_30 md_67 md_70 md_72 md_73
attribute [push_cast] md_74 md_77 md_118 md_120 tk_55 sz_55 by_55 ag_55 zc_55 pl_55 tk_59 sz_59 by_59 ag_59 zc_59 pl_59
end Go.Proofs.YtlddjlchgibdfaaDoor.X
