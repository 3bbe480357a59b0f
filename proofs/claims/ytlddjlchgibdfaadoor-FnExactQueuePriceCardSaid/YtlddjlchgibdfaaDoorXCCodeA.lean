import Derived.Test.YtlddjlchgibdfaaDoorXStr
import Derived.Test.YtlddjlchgibdfaaDoorProg
import Derived.KernelRfl
namespace Go.Proofs.YtlddjlchgibdfaaDoor.X
open Go

def md0 : FuncId → Bool := fun f => f == 38 || f == 39 || f == 86 || f == 87 || f == 88 || f == 127 || f == 128 || f == 160 || f == 91
/-- laws.szBoard -/
theorem md_17 : md0 17 = false := rfl
def c17 : XC :=
  .op (some 2) (.box 40 (.tmp 0)) none <|
  .op (some 4) (.assign (.const (.int .i64 0))) none <|
  .op (some 5) (.fieldAddr 40 (.tmp 2) 0) none <|
  .op (some 6) (.load 35 (.tmp 5)) none <|
  .op (some 7) (.move (.tmp 1)) none <|
  .op (some 8) (.call ⟨.value (.func 55), ⟨[.tmp 6, .tmp 7]⟩, ⟨[35, 3]⟩⟩) none <|
  .op (some 1) (.assign (.tmp 8)) none <|
  .op (some 9) (.move (.tmp 1)) none <|
  .op (some 10) (.binOp .lss 3 (.tmp 9) (.const (.int .i64 0)) 3) none <|
  .cond (.tmp 10)
    (.op (some 4) (.assign (.const (.int .i64 (-1)))) none <|
      .ret)
    (.done) <|
  .op (some 11) (.fieldAddr 40 (.tmp 2) 1) none <|
  .op (some 12) (.load 38 (.tmp 11)) none <|
  .op (some 13) (.move (.tmp 1)) none <|
  .op (some 14) (.call ⟨.value (.func 56), ⟨[.tmp 12, .tmp 13]⟩, ⟨[38, 3]⟩⟩) none <|
  .op (some 1) (.assign (.tmp 14)) none <|
  .op (some 15) (.move (.tmp 1)) none <|
  .op (some 16) (.binOp .lss 3 (.tmp 15) (.const (.int .i64 0)) 3) none <|
  .cond (.tmp 16)
    (.op (some 4) (.assign (.const (.int .i64 (-1)))) none <|
      .ret)
    (.done) <|
  .op (some 17) (.move (.tmp 1)) none <|
  .op (some 4) (.assign (.tmp 17)) none <|
  .ret
theorem h17 : compF md0 Tryd.f17 = c17 := by kernel_rfl
theorem r17 : Tryd.f17.results.toList = [.tmp 4] := _root_.id (by kernel_rfl)
theorem nt17 : Tryd.f17.ntmps = 18 := by kernel_rfl
/-- laws.toBoard -/
theorem md_19 : md0 19 = false := rfl
def c19 : XC :=
  .op (some 1) (.box 40 (.tmp 0)) none <|
  .op (some 2) (.alloc 50) none <|
  .op (some 3) (.alloc 50) none <|
  .op (some 4) (.fieldAddr 40 (.tmp 1) 0) none <|
  .op (some 5) (.load 35 (.tmp 4)) none <|
  .op (some 6) (.call ⟨.value (.func 59), ⟨[.tmp 5]⟩, ⟨[35]⟩⟩) none <|
  .op (some 7) (.fieldAddr 50 (.tmp 3) 0) none <|
  .op none (.store 47 (.tmp 7) (.tmp 6)) none <|
  .op (some 8) (.fieldAddr 40 (.tmp 1) 1) none <|
  .op (some 9) (.load 38 (.tmp 8)) none <|
  .op (some 10) (.call ⟨.value (.func 60), ⟨[.tmp 9]⟩, ⟨[38]⟩⟩) none <|
  .op (some 11) (.fieldAddr 50 (.tmp 3) 1) none <|
  .op none (.store 48 (.tmp 11) (.tmp 10)) none <|
  .op (some 12) (.load 50 (.tmp 3)) none <|
  .op none (.store 50 (.tmp 2) (.tmp 12)) none <|
  .ret
theorem h19 : compF md0 Tryd.f19 = c19 := by kernel_rfl
theorem r19 : Tryd.f19.results.toList = [.cell 2 50] := _root_.id (by kernel_rfl)
theorem nt19 : Tryd.f19.ntmps = 13 := by kernel_rfl
/-- laws.eqBoard -/
theorem md_21 : md0 21 = false := rfl
def c21 : XC :=
  .op (some 2) (.box 50 (.tmp 0)) none <|
  .op (some 3) (.box 50 (.tmp 1)) none <|
  .op (some 4) (.assign (.const (.bool false))) none <|
  .op (some 5) (.fieldAddr 50 (.tmp 2) 0) none <|
  .op (some 6) (.load 47 (.tmp 5)) none <|
  .op (some 7) (.fieldAddr 50 (.tmp 3) 0) none <|
  .op (some 8) (.load 47 (.tmp 7)) none <|
  .op (some 9) (.call ⟨.value (.func 63), ⟨[.tmp 6, .tmp 8]⟩, ⟨[47, 47]⟩⟩) none <|
  .op (some 10) (.unOp .not 4 (.tmp 9)) none <|
  .cond (.tmp 10)
    (.op (some 4) (.assign (.const (.bool false))) none <|
      .ret)
    (.done) <|
  .op (some 11) (.fieldAddr 50 (.tmp 2) 1) none <|
  .op (some 12) (.load 48 (.tmp 11)) none <|
  .op (some 13) (.fieldAddr 50 (.tmp 3) 1) none <|
  .op (some 14) (.load 48 (.tmp 13)) none <|
  .op (some 15) (.call ⟨.value (.func 64), ⟨[.tmp 12, .tmp 14]⟩, ⟨[48, 48]⟩⟩) none <|
  .op (some 16) (.unOp .not 4 (.tmp 15)) none <|
  .cond (.tmp 16)
    (.op (some 4) (.assign (.const (.bool false))) none <|
      .ret)
    (.done) <|
  .op (some 4) (.assign (.const (.bool true))) none <|
  .ret
theorem h21 : compF md0 Tryd.f21 = c21 := by kernel_rfl
theorem r21 : Tryd.f21.results.toList = [.tmp 4] := _root_.id (by kernel_rfl)
theorem nt21 : Tryd.f21.ntmps = 17 := by kernel_rfl
/-- laws.szRules -/
theorem md_55 : md0 55 = false := rfl
def c55 : XC :=
  .op (some 2) (.box 35 (.tmp 0)) none <|
  .op (some 4) (.assign (.const (.int .i64 0))) none <|
  .op (some 5) (.fieldAddr 35 (.tmp 2) 0) none <|
  .op (some 6) (.load 32 (.tmp 5)) none <|
  .op (some 7) (.move (.tmp 1)) none <|
  .op (some 8) (.call ⟨.value (.func 105), ⟨[.tmp 6, .tmp 7]⟩, ⟨[32, 3]⟩⟩) none <|
  .op (some 1) (.assign (.tmp 8)) none <|
  .op (some 9) (.move (.tmp 1)) none <|
  .op (some 10) (.binOp .lss 3 (.tmp 9) (.const (.int .i64 0)) 3) none <|
  .cond (.tmp 10)
    (.op (some 4) (.assign (.const (.int .i64 (-1)))) none <|
      .ret)
    (.done) <|
  .op (some 11) (.fieldAddr 35 (.tmp 2) 1) none <|
  .op (some 12) (.load 33 (.tmp 11)) none <|
  .op (some 13) (.move (.tmp 1)) none <|
  .op (some 14) (.call ⟨.value (.func 106), ⟨[.tmp 12, .tmp 13]⟩, ⟨[33, 3]⟩⟩) none <|
  .op (some 1) (.assign (.tmp 14)) none <|
  .op (some 15) (.move (.tmp 1)) none <|
  .op (some 16) (.binOp .lss 3 (.tmp 15) (.const (.int .i64 0)) 3) none <|
  .cond (.tmp 16)
    (.op (some 4) (.assign (.const (.int .i64 (-1)))) none <|
      .ret)
    (.done) <|
  .op (some 17) (.move (.tmp 1)) none <|
  .op (some 4) (.assign (.tmp 17)) none <|
  .ret
theorem h55 : compF md0 Tryd.f55 = c55 := by kernel_rfl
theorem r55 : Tryd.f55.results.toList = [.tmp 4] := _root_.id (by kernel_rfl)
theorem nt55 : Tryd.f55.ntmps = 18 := by kernel_rfl
/-- laws.szMap -/
theorem md_56 : md0 56 = false := rfl
def c56 : XC :=
  .op (some 2) (.box 38 (.tmp 0)) none <|
  .op (some 4) (.assign (.const (.int .i64 0))) none <|
  .op (some 5) (.fieldAddr 38 (.tmp 2) 2) none <|
  .op (some 6) (.load 36 (.tmp 5)) none <|
  .op (some 7) (.move (.tmp 1)) none <|
  .op (some 8) (.call ⟨.value (.func 65), ⟨[.tmp 6, .tmp 7]⟩, ⟨[36, 3]⟩⟩) none <|
  .op (some 1) (.assign (.tmp 8)) none <|
  .op (some 9) (.move (.tmp 1)) none <|
  .op (some 10) (.binOp .lss 3 (.tmp 9) (.const (.int .i64 0)) 3) none <|
  .cond (.tmp 10)
    (.op (some 4) (.assign (.const (.int .i64 (-1)))) none <|
      .ret)
    (.done) <|
  .op (some 11) (.fieldAddr 38 (.tmp 2) 3) none <|
  .op (some 12) (.load 36 (.tmp 11)) none <|
  .op (some 13) (.move (.tmp 1)) none <|
  .op (some 14) (.call ⟨.value (.func 65), ⟨[.tmp 12, .tmp 13]⟩, ⟨[36, 3]⟩⟩) none <|
  .op (some 1) (.assign (.tmp 14)) none <|
  .op (some 15) (.move (.tmp 1)) none <|
  .op (some 16) (.binOp .lss 3 (.tmp 15) (.const (.int .i64 0)) 3) none <|
  .cond (.tmp 16)
    (.op (some 4) (.assign (.const (.int .i64 (-1)))) none <|
      .ret)
    (.done) <|
  .op (some 17) (.fieldAddr 38 (.tmp 2) 4) none <|
  .op (some 18) (.load 36 (.tmp 17)) none <|
  .op (some 19) (.move (.tmp 1)) none <|
  .op (some 20) (.call ⟨.value (.func 65), ⟨[.tmp 18, .tmp 19]⟩, ⟨[36, 3]⟩⟩) none <|
  .op (some 1) (.assign (.tmp 20)) none <|
  .op (some 21) (.move (.tmp 1)) none <|
  .op (some 22) (.binOp .lss 3 (.tmp 21) (.const (.int .i64 0)) 3) none <|
  .cond (.tmp 22)
    (.op (some 4) (.assign (.const (.int .i64 (-1)))) none <|
      .ret)
    (.done) <|
  .op (some 23) (.move (.tmp 1)) none <|
  .op (some 4) (.assign (.tmp 23)) none <|
  .ret
theorem h56 : compF md0 Tryd.f56 = c56 := by kernel_rfl
theorem r56 : Tryd.f56.results.toList = [.tmp 4] := _root_.id (by kernel_rfl)
theorem nt56 : Tryd.f56.ntmps = 24 := by kernel_rfl
/-- laws.toRules -/
theorem md_59 : md0 59 = false := rfl
def c59 : XC :=
  .op (some 1) (.box 35 (.tmp 0)) none <|
  .op (some 2) (.alloc 47) none <|
  .op (some 3) (.alloc 47) none <|
  .op (some 4) (.fieldAddr 35 (.tmp 1) 0) none <|
  .op (some 5) (.load 32 (.tmp 4)) none <|
  .op (some 6) (.call ⟨.value (.func 108), ⟨[.tmp 5]⟩, ⟨[32]⟩⟩) none <|
  .op (some 7) (.fieldAddr 47 (.tmp 3) 0) none <|
  .op none (.store 44 (.tmp 7) (.tmp 6)) none <|
  .op (some 8) (.fieldAddr 35 (.tmp 1) 1) none <|
  .op (some 9) (.load 33 (.tmp 8)) none <|
  .op (some 10) (.call ⟨.value (.func 109), ⟨[.tmp 9]⟩, ⟨[33]⟩⟩) none <|
  .op (some 11) (.fieldAddr 47 (.tmp 3) 1) none <|
  .op none (.store 45 (.tmp 11) (.tmp 10)) none <|
  .op (some 12) (.fieldAddr 35 (.tmp 1) 2) none <|
  .op (some 13) (.load 3 (.tmp 12)) none <|
  .op (some 14) (.fieldAddr 47 (.tmp 3) 2) none <|
  .op none (.store 3 (.tmp 14) (.tmp 13)) none <|
  .op (some 15) (.fieldAddr 35 (.tmp 1) 3) none <|
  .op (some 16) (.load 3 (.tmp 15)) none <|
  .op (some 17) (.fieldAddr 47 (.tmp 3) 3) none <|
  .op none (.store 3 (.tmp 17) (.tmp 16)) none <|
  .op (some 18) (.fieldAddr 35 (.tmp 1) 4) none <|
  .op (some 19) (.load 3 (.tmp 18)) none <|
  .op (some 20) (.fieldAddr 47 (.tmp 3) 4) none <|
  .op none (.store 3 (.tmp 20) (.tmp 19)) none <|
  .op (some 21) (.fieldAddr 35 (.tmp 1) 5) none <|
  .op (some 22) (.load 3 (.tmp 21)) none <|
  .op (some 23) (.fieldAddr 47 (.tmp 3) 5) none <|
  .op none (.store 3 (.tmp 23) (.tmp 22)) none <|
  .op (some 24) (.fieldAddr 35 (.tmp 1) 6) none <|
  .op (some 25) (.load 3 (.tmp 24)) none <|
  .op (some 26) (.fieldAddr 47 (.tmp 3) 6) none <|
  .op none (.store 3 (.tmp 26) (.tmp 25)) none <|
  .op (some 27) (.load 47 (.tmp 3)) none <|
  .op none (.store 47 (.tmp 2) (.tmp 27)) none <|
  .ret
theorem h59 : compF md0 Tryd.f59 = c59 := by kernel_rfl
theorem r59 : Tryd.f59.results.toList = [.cell 2 47] := _root_.id (by kernel_rfl)
theorem nt59 : Tryd.f59.ntmps = 28 := by kernel_rfl
/-- laws.toMap -/
theorem md_60 : md0 60 = false := rfl
def c60 : XC :=
  .op (some 1) (.box 38 (.tmp 0)) none <|
  .op (some 2) (.alloc 48) none <|
  .op (some 3) (.alloc 48) none <|
  .op (some 4) (.fieldAddr 38 (.tmp 1) 0) none <|
  .op (some 5) (.load 3 (.tmp 4)) none <|
  .op (some 6) (.fieldAddr 48 (.tmp 3) 0) none <|
  .op none (.store 3 (.tmp 6) (.tmp 5)) none <|
  .op (some 7) (.fieldAddr 38 (.tmp 1) 1) none <|
  .op (some 8) (.load 3 (.tmp 7)) none <|
  .op (some 9) (.fieldAddr 48 (.tmp 3) 1) none <|
  .op none (.store 3 (.tmp 9) (.tmp 8)) none <|
  .op (some 10) (.fieldAddr 38 (.tmp 1) 2) none <|
  .op (some 11) (.load 36 (.tmp 10)) none <|
  .op (some 12) (.call ⟨.value (.func 68), ⟨[.tmp 11]⟩, ⟨[36]⟩⟩) none <|
  .op (some 13) (.fieldAddr 48 (.tmp 3) 2) none <|
  .op none (.store 36 (.tmp 13) (.tmp 12)) none <|
  .op (some 14) (.fieldAddr 38 (.tmp 1) 3) none <|
  .op (some 15) (.load 36 (.tmp 14)) none <|
  .op (some 16) (.call ⟨.value (.func 68), ⟨[.tmp 15]⟩, ⟨[36]⟩⟩) none <|
  .op (some 17) (.fieldAddr 48 (.tmp 3) 3) none <|
  .op none (.store 36 (.tmp 17) (.tmp 16)) none <|
  .op (some 18) (.fieldAddr 38 (.tmp 1) 4) none <|
  .op (some 19) (.load 36 (.tmp 18)) none <|
  .op (some 20) (.call ⟨.value (.func 68), ⟨[.tmp 19]⟩, ⟨[36]⟩⟩) none <|
  .op (some 21) (.fieldAddr 48 (.tmp 3) 4) none <|
  .op none (.store 36 (.tmp 21) (.tmp 20)) none <|
  .op (some 22) (.load 48 (.tmp 3)) none <|
  .op none (.store 48 (.tmp 2) (.tmp 22)) none <|
  .ret
theorem h60 : compF md0 Tryd.f60 = c60 := by kernel_rfl
theorem r60 : Tryd.f60.results.toList = [.cell 2 48] := _root_.id (by kernel_rfl)
theorem nt60 : Tryd.f60.ntmps = 23 := by kernel_rfl
/-- laws.eqRules -/
theorem md_63 : md0 63 = false := rfl
def c63 : XC :=
  .op (some 2) (.box 47 (.tmp 0)) none <|
  .op (some 3) (.box 47 (.tmp 1)) none <|
  .op (some 4) (.assign (.const (.bool false))) none <|
  .op (some 5) (.fieldAddr 47 (.tmp 2) 0) none <|
  .op (some 6) (.load 44 (.tmp 5)) none <|
  .op (some 7) (.fieldAddr 47 (.tmp 3) 0) none <|
  .op (some 8) (.load 44 (.tmp 7)) none <|
  .op (some 9) (.call ⟨.value (.func 110), ⟨[.tmp 6, .tmp 8]⟩, ⟨[44, 44]⟩⟩) none <|
  .op (some 10) (.unOp .not 4 (.tmp 9)) none <|
  .cond (.tmp 10)
    (.op (some 4) (.assign (.const (.bool false))) none <|
      .ret)
    (.done) <|
  .op (some 11) (.fieldAddr 47 (.tmp 2) 1) none <|
  .op (some 12) (.load 45 (.tmp 11)) none <|
  .op (some 13) (.fieldAddr 47 (.tmp 3) 1) none <|
  .op (some 14) (.load 45 (.tmp 13)) none <|
  .op (some 15) (.call ⟨.value (.func 111), ⟨[.tmp 12, .tmp 14]⟩, ⟨[45, 45]⟩⟩) none <|
  .op (some 16) (.unOp .not 4 (.tmp 15)) none <|
  .cond (.tmp 16)
    (.op (some 4) (.assign (.const (.bool false))) none <|
      .ret)
    (.done) <|
  .op (some 17) (.fieldAddr 47 (.tmp 2) 2) none <|
  .op (some 18) (.load 3 (.tmp 17)) none <|
  .op (some 19) (.fieldAddr 47 (.tmp 3) 2) none <|
  .op (some 20) (.load 3 (.tmp 19)) none <|
  .op (some 21) (.binOp .neq 3 (.tmp 18) (.tmp 20) 3) none <|
  .cond (.tmp 21)
    (.op (some 4) (.assign (.const (.bool false))) none <|
      .ret)
    (.done) <|
  .op (some 22) (.fieldAddr 47 (.tmp 2) 3) none <|
  .op (some 23) (.load 3 (.tmp 22)) none <|
  .op (some 24) (.fieldAddr 47 (.tmp 3) 3) none <|
  .op (some 25) (.load 3 (.tmp 24)) none <|
  .op (some 26) (.binOp .neq 3 (.tmp 23) (.tmp 25) 3) none <|
  .cond (.tmp 26)
    (.op (some 4) (.assign (.const (.bool false))) none <|
      .ret)
    (.done) <|
  .op (some 27) (.fieldAddr 47 (.tmp 2) 4) none <|
  .op (some 28) (.load 3 (.tmp 27)) none <|
  .op (some 29) (.fieldAddr 47 (.tmp 3) 4) none <|
  .op (some 30) (.load 3 (.tmp 29)) none <|
  .op (some 31) (.binOp .neq 3 (.tmp 28) (.tmp 30) 3) none <|
  .cond (.tmp 31)
    (.op (some 4) (.assign (.const (.bool false))) none <|
      .ret)
    (.done) <|
  .op (some 32) (.fieldAddr 47 (.tmp 2) 5) none <|
  .op (some 33) (.load 3 (.tmp 32)) none <|
  .op (some 34) (.fieldAddr 47 (.tmp 3) 5) none <|
  .op (some 35) (.load 3 (.tmp 34)) none <|
  .op (some 36) (.binOp .neq 3 (.tmp 33) (.tmp 35) 3) none <|
  .cond (.tmp 36)
    (.op (some 4) (.assign (.const (.bool false))) none <|
      .ret)
    (.done) <|
  .op (some 37) (.fieldAddr 47 (.tmp 2) 6) none <|
  .op (some 38) (.load 3 (.tmp 37)) none <|
  .op (some 39) (.fieldAddr 47 (.tmp 3) 6) none <|
  .op (some 40) (.load 3 (.tmp 39)) none <|
  .op (some 41) (.binOp .neq 3 (.tmp 38) (.tmp 40) 3) none <|
  .cond (.tmp 41)
    (.op (some 4) (.assign (.const (.bool false))) none <|
      .ret)
    (.done) <|
  .op (some 4) (.assign (.const (.bool true))) none <|
  .ret
theorem h63 : compF md0 Tryd.f63 = c63 := by kernel_rfl
theorem r63 : Tryd.f63.results.toList = [.tmp 4] := _root_.id (by kernel_rfl)
theorem nt63 : Tryd.f63.ntmps = 42 := by kernel_rfl
/-- laws.eqMap -/
theorem md_64 : md0 64 = false := rfl
def c64 : XC :=
  .op (some 2) (.box 48 (.tmp 0)) none <|
  .op (some 3) (.box 48 (.tmp 1)) none <|
  .op (some 4) (.assign (.const (.bool false))) none <|
  .op (some 5) (.fieldAddr 48 (.tmp 2) 0) none <|
  .op (some 6) (.load 3 (.tmp 5)) none <|
  .op (some 7) (.fieldAddr 48 (.tmp 3) 0) none <|
  .op (some 8) (.load 3 (.tmp 7)) none <|
  .op (some 9) (.binOp .neq 3 (.tmp 6) (.tmp 8) 3) none <|
  .cond (.tmp 9)
    (.op (some 4) (.assign (.const (.bool false))) none <|
      .ret)
    (.done) <|
  .op (some 10) (.fieldAddr 48 (.tmp 2) 1) none <|
  .op (some 11) (.load 3 (.tmp 10)) none <|
  .op (some 12) (.fieldAddr 48 (.tmp 3) 1) none <|
  .op (some 13) (.load 3 (.tmp 12)) none <|
  .op (some 14) (.binOp .neq 3 (.tmp 11) (.tmp 13) 3) none <|
  .cond (.tmp 14)
    (.op (some 4) (.assign (.const (.bool false))) none <|
      .ret)
    (.done) <|
  .op (some 15) (.fieldAddr 48 (.tmp 2) 2) none <|
  .op (some 16) (.load 36 (.tmp 15)) none <|
  .op (some 17) (.fieldAddr 48 (.tmp 3) 2) none <|
  .op (some 18) (.load 36 (.tmp 17)) none <|
  .op (some 19) (.call ⟨.value (.func 71), ⟨[.tmp 16, .tmp 18]⟩, ⟨[36, 36]⟩⟩) none <|
  .op (some 20) (.unOp .not 4 (.tmp 19)) none <|
  .cond (.tmp 20)
    (.op (some 4) (.assign (.const (.bool false))) none <|
      .ret)
    (.done) <|
  .op (some 21) (.fieldAddr 48 (.tmp 2) 3) none <|
  .op (some 22) (.load 36 (.tmp 21)) none <|
  .op (some 23) (.fieldAddr 48 (.tmp 3) 3) none <|
  .op (some 24) (.load 36 (.tmp 23)) none <|
  .op (some 25) (.call ⟨.value (.func 71), ⟨[.tmp 22, .tmp 24]⟩, ⟨[36, 36]⟩⟩) none <|
  .op (some 26) (.unOp .not 4 (.tmp 25)) none <|
  .cond (.tmp 26)
    (.op (some 4) (.assign (.const (.bool false))) none <|
      .ret)
    (.done) <|
  .op (some 27) (.fieldAddr 48 (.tmp 2) 4) none <|
  .op (some 28) (.load 36 (.tmp 27)) none <|
  .op (some 29) (.fieldAddr 48 (.tmp 3) 4) none <|
  .op (some 30) (.load 36 (.tmp 29)) none <|
  .op (some 31) (.call ⟨.value (.func 71), ⟨[.tmp 28, .tmp 30]⟩, ⟨[36, 36]⟩⟩) none <|
  .op (some 32) (.unOp .not 4 (.tmp 31)) none <|
  .cond (.tmp 32)
    (.op (some 4) (.assign (.const (.bool false))) none <|
      .ret)
    (.done) <|
  .op (some 4) (.assign (.const (.bool true))) none <|
  .ret
theorem h64 : compF md0 Tryd.f64 = c64 := by kernel_rfl
theorem r64 : Tryd.f64.results.toList = [.tmp 4] := _root_.id (by kernel_rfl)
theorem nt64 : Tryd.f64.ntmps = 33 := by kernel_rfl
/-- laws.szIntS -/
theorem md_65 : md0 65 = false := rfl
def c65 : XC :=
  .op (some 4) (.assign (.const (.int .i64 0))) none <|
  .op (some 5) (.move (.tmp 1)) none <|
  .op (some 6) (.move (.tmp 0)) none <|
  .op (some 7) (.call ⟨.builtin .len, ⟨[.tmp 6]⟩, ⟨[36]⟩⟩) none <|
  .op (some 8) (.binOp .sub 3 (.tmp 5) (.tmp 7) 3) none <|
  .op (some 1) (.assign (.tmp 8)) none <|
  .op (some 9) (.move (.tmp 1)) none <|
  .op (some 10) (.binOp .lss 3 (.tmp 9) (.const (.int .i64 0)) 3) none <|
  .cond (.tmp 10)
    (.op (some 4) (.assign (.const (.int .i64 (-1)))) none <|
      .ret)
    (.done) <|
  .op (some 11) (.move (.tmp 1)) none <|
  .op (some 4) (.assign (.tmp 11)) none <|
  .ret
theorem h65 : compF md0 Tryd.f65 = c65 := by kernel_rfl
theorem r65 : Tryd.f65.results.toList = [.tmp 4] := _root_.id (by kernel_rfl)
theorem nt65 : Tryd.f65.ntmps = 12 := by kernel_rfl
/-- spec.bGood -/
theorem md_66 : md0 66 = false := rfl
def c66 : XC :=
  .op (some 1) (.box 50 (.tmp 0)) none <|
  .op (some 2) (.assign (.const (.bool false))) none <|
  .op (some 3) (.fieldAddr 50 (.tmp 1) 0) none <|
  .op (some 4) (.load 47 (.tmp 3)) none <|
  .op (some 5) (.call ⟨.value (.func 112), ⟨[.tmp 4]⟩, ⟨[47]⟩⟩) none <|
  .op (some 6) (.move (.tmp 5)) none <|
  .op (some 7) (.fieldAddr 50 (.tmp 1) 1) (some (6, true)) <|
  .op (some 8) (.load 48 (.tmp 7)) (some (6, true)) <|
  .op (some 9) (.call ⟨.value (.func 113), ⟨[.tmp 8]⟩, ⟨[48]⟩⟩) (some (6, true)) <|
  .op (some 10) (.pick (.tmp 6) (.tmp 9) (.const (.bool false))) none <|
  .op (some 11) (.move (.tmp 10)) none <|
  .op (some 12) (.fieldAddr 50 (.tmp 1) 1) (some (11, true)) <|
  .op (some 13) (.fieldAddr 48 (.tmp 12) 2) (some (11, true)) <|
  .op (some 14) (.load 36 (.tmp 13)) (some (11, true)) <|
  .op (some 15) (.fieldAddr 50 (.tmp 1) 0) (some (11, true)) <|
  .op (some 16) (.fieldAddr 47 (.tmp 15) 0) (some (11, true)) <|
  .op (some 17) (.load 44 (.tmp 16)) (some (11, true)) <|
  .op (some 18) (.call ⟨.builtin .len, ⟨[.tmp 17]⟩, ⟨[44]⟩⟩) (some (11, true)) <|
  .op (some 19) (.binOp .sub 3 (.tmp 18) (.const (.int .i64 1)) 3) (some (11, true)) <|
  .op (some 20) (.call ⟨.value (.func 98), ⟨[.tmp 14, .const (.int .i64 0), .tmp 19]⟩, ⟨[36, 3, 3]⟩⟩) (some (11, true)) <|
  .op (some 21) (.pick (.tmp 11) (.tmp 20) (.const (.bool false))) none <|
  .op (some 2) (.assign (.tmp 21)) none <|
  .ret
theorem h66 : compF md0 Tryd.f66 = c66 := by kernel_rfl
theorem r66 : Tryd.f66.results.toList = [.tmp 2] := _root_.id (by kernel_rfl)
theorem nt66 : Tryd.f66.ntmps = 22 := by kernel_rfl
/-- laws.toIntS -/
theorem md_68 : md0 68 = false := rfl
def c68 : XC :=
  .op (some 2) (.assign (.const (.slice none 0 0))) none <|
  .op (some 5) (.move (.tmp 0)) none <|
  .op (some 6) (.call ⟨.builtin .len, ⟨[.tmp 5]⟩, ⟨[36]⟩⟩) none <|
  .op (some 7) (.makeSlice 36 (.tmp 6) (.tmp 6)) none <|
  .op (some 3) (.assign (.tmp 7)) none <|
  .op (some 4) (.assign (.const (.int .i64 0))) none <|
  .block 0
    (.loop <|
      .op (some 8) (.move (.tmp 4)) none <|
      .op (some 9) (.move (.tmp 0)) none <|
      .op (some 10) (.call ⟨.builtin .len, ⟨[.tmp 9]⟩, ⟨[36]⟩⟩) none <|
      .op (some 11) (.binOp .lss 3 (.tmp 8) (.tmp 10) 3) none <|
      .cond (.tmp 11)
        (.done)
        (.exit 0) <|
      .block 1
        (.op (some 14) (.move (.tmp 3)) none <|
          .op (some 15) (.move (.tmp 4)) none <|
          .op (some 16) (.move (.tmp 0)) none <|
          .op (some 17) (.move (.tmp 4)) none <|
          .op (some 18) (.indexAddr 36 (.tmp 16) (.tmp 17)) none <|
          .op (some 19) (.load 3 (.tmp 18)) none <|
          .op (some 20) (.indexAddr 36 (.tmp 14) (.tmp 15)) none <|
          .op none (.store 3 (.tmp 20) (.tmp 19)) none <|
          .done) <|
      .op (some 12) (.move (.tmp 4)) none <|
      .op (some 13) (.binOp .add 3 (.tmp 12) (.const (.int .i64 1)) 3) none <|
      .op (some 4) (.assign (.tmp 13)) none <|
      .done) <|
  .op (some 21) (.move (.tmp 3)) none <|
  .op (some 2) (.assign (.tmp 21)) none <|
  .ret
theorem h68 : compF md0 Tryd.f68 = c68 := by kernel_rfl
theorem r68 : Tryd.f68.results.toList = [.tmp 2] := _root_.id (by kernel_rfl)
theorem nt68 : Tryd.f68.ntmps = 22 := by kernel_rfl
/-- impl.IsBoard -/
theorem md_69 : md0 69 = false := rfl
def c69 : XC :=
  .op (some 1) (.box 50 (.tmp 0)) none <|
  .op (some 2) (.assign (.const (.bool false))) none <|
  .op (some 3) (.fieldAddr 50 (.tmp 1) 0) none <|
  .op (some 4) (.load 47 (.tmp 3)) none <|
  .op (some 5) (.call ⟨.value (.func 114), ⟨[.tmp 4]⟩, ⟨[47]⟩⟩) none <|
  .op (some 6) (.unOp .not 4 (.tmp 5)) none <|
  .op (some 7) (.move (.tmp 6)) none <|
  .op (some 8) (.fieldAddr 50 (.tmp 1) 1) (some (7, false)) <|
  .op (some 9) (.load 48 (.tmp 8)) (some (7, false)) <|
  .op (some 10) (.call ⟨.value (.func 115), ⟨[.tmp 9]⟩, ⟨[48]⟩⟩) (some (7, false)) <|
  .op (some 11) (.unOp .not 4 (.tmp 10)) (some (7, false)) <|
  .op (some 12) (.pick (.tmp 7) (.const (.bool true)) (.tmp 11)) none <|
  .cond (.tmp 12)
    (.op (some 2) (.assign (.const (.bool false))) none <|
      .ret)
    (.done) <|
  .op (some 13) (.fieldAddr 50 (.tmp 1) 1) none <|
  .op (some 14) (.fieldAddr 48 (.tmp 13) 2) none <|
  .op (some 15) (.load 36 (.tmp 14)) none <|
  .op (some 16) (.makeFunc (.func 117) ⟨[]⟩ ⟨[.tmp 1]⟩) none <|
  .op (some 17) (.call ⟨.value (.func 116), ⟨[.tmp 15, .tmp 16]⟩, ⟨[36, 118]⟩⟩) none <|
  .op (some 18) (.unOp .not 4 (.tmp 17)) none <|
  .op (some 2) (.assign (.tmp 18)) none <|
  .ret
theorem h69 : compF md0 Tryd.f69 = c69 := by kernel_rfl
theorem r69 : Tryd.f69.results.toList = [.tmp 2] := _root_.id (by kernel_rfl)
theorem nt69 : Tryd.f69.ntmps = 19 := by kernel_rfl
/-- laws.eqIntS -/
theorem md_71 : md0 71 = false := rfl
def c71 : XC :=
  .op (some 4) (.assign (.const (.bool false))) none <|
  .op (some 6) (.move (.tmp 0)) none <|
  .op (some 7) (.call ⟨.builtin .len, ⟨[.tmp 6]⟩, ⟨[36]⟩⟩) none <|
  .op (some 8) (.move (.tmp 1)) none <|
  .op (some 9) (.call ⟨.builtin .len, ⟨[.tmp 8]⟩, ⟨[36]⟩⟩) none <|
  .op (some 10) (.binOp .neq 3 (.tmp 7) (.tmp 9) 3) none <|
  .cond (.tmp 10)
    (.op (some 4) (.assign (.const (.bool false))) none <|
      .ret)
    (.done) <|
  .op (some 5) (.assign (.const (.int .i64 0))) none <|
  .block 0
    (.loop <|
      .op (some 11) (.move (.tmp 5)) none <|
      .op (some 12) (.move (.tmp 0)) none <|
      .op (some 13) (.call ⟨.builtin .len, ⟨[.tmp 12]⟩, ⟨[36]⟩⟩) none <|
      .op (some 14) (.binOp .lss 3 (.tmp 11) (.tmp 13) 3) none <|
      .cond (.tmp 14)
        (.done)
        (.exit 0) <|
      .block 1
        (.op (some 17) (.move (.tmp 0)) none <|
          .op (some 18) (.move (.tmp 5)) none <|
          .op (some 19) (.indexAddr 36 (.tmp 17) (.tmp 18)) none <|
          .op (some 20) (.load 3 (.tmp 19)) none <|
          .op (some 21) (.move (.tmp 1)) none <|
          .op (some 22) (.move (.tmp 5)) none <|
          .op (some 23) (.indexAddr 36 (.tmp 21) (.tmp 22)) none <|
          .op (some 24) (.load 3 (.tmp 23)) none <|
          .op (some 25) (.binOp .neq 3 (.tmp 20) (.tmp 24) 3) none <|
          .cond (.tmp 25)
            (.op (some 4) (.assign (.const (.bool false))) none <|
            .ret)
            (.done) <|
          .done) <|
      .op (some 15) (.move (.tmp 5)) none <|
      .op (some 16) (.binOp .add 3 (.tmp 15) (.const (.int .i64 1)) 3) none <|
      .op (some 5) (.assign (.tmp 16)) none <|
      .done) <|
  .op (some 4) (.assign (.const (.bool true))) none <|
  .ret
theorem h71 : compF md0 Tryd.f71 = c71 := by kernel_rfl
theorem r71 : Tryd.f71.results.toList = [.tmp 4] := _root_.id (by kernel_rfl)
theorem nt71 : Tryd.f71.ntmps = 26 := by kernel_rfl
/-- spec.l1In -/
theorem md_75 : md0 75 = false := rfl
def c75 : XC :=
  .op (some 6) (.assign (.const (.bool false))) none <|
  .op (some 7) (.move (.tmp 0)) none <|
  .op (some 8) (.move (.tmp 1)) none <|
  .op (some 9) (.binOp .geq 3 (.tmp 7) (.tmp 8) 3) none <|
  .op (some 10) (.move (.tmp 9)) none <|
  .op (some 11) (.move (.tmp 0)) (some (10, true)) <|
  .op (some 12) (.move (.tmp 2)) (some (10, true)) <|
  .op (some 13) (.binOp .leq 3 (.tmp 11) (.tmp 12) 3) (some (10, true)) <|
  .op (some 14) (.pick (.tmp 10) (.tmp 13) (.const (.bool false))) none <|
  .op (some 6) (.assign (.tmp 14)) none <|
  .ret
theorem h75 : compF md0 Tryd.f75 = c75 := by kernel_rfl
theorem r75 : Tryd.f75.results.toList = [.tmp 6] := _root_.id (by kernel_rfl)
theorem nt75 : Tryd.f75.ntmps = 15 := by kernel_rfl
/-- impl.isIndex -/
theorem md_76 : md0 76 = false := rfl
def c76 : XC :=
  .op (some 4) (.assign (.const (.bool false))) none <|
  .op (some 5) (.move (.tmp 0)) none <|
  .op (some 6) (.move (.tmp 1)) none <|
  .op (some 7) (.binOp .sub 3 (.tmp 6) (.const (.int .i64 1)) 3) none <|
  .op (some 8) (.call ⟨.value (.func 101), ⟨[.tmp 5, .const (.int .i64 0), .tmp 7]⟩, ⟨[3, 3, 3]⟩⟩) none <|
  .op (some 4) (.assign (.tmp 8)) none <|
  .ret
theorem h76 : compF md0 Tryd.f76 = c76 := by kernel_rfl
theorem r76 : Tryd.f76.results.toList = [.tmp 4] := _root_.id (by kernel_rfl)
theorem nt76 : Tryd.f76.ntmps = 9 := by kernel_rfl
/-- spec.l1All -/
theorem md_98 : md0 98 = false := rfl
def c98 : XC :=
  .op (some 6) (.assign (.const (.bool false))) none <|
  .op (some 9) (.move (.tmp 0)) none <|
  .op (some 10) (.call ⟨.builtin .len, ⟨[.tmp 9]⟩, ⟨[36]⟩⟩) none <|
  .op (some 11) (.move (.const (.int .i64 0))) none <|
  .block 0
    (.loop <|
      .op (some 12) (.binOp .lss 3 (.tmp 11) (.tmp 10) 3) none <|
      .cond (.tmp 12)
        (.done)
        (.exit 0) <|
      .block 1
        (.op (some 13) (.indexAddr 36 (.tmp 9) (.tmp 11)) none <|
          .op (some 14) (.load 3 (.tmp 13)) none <|
          .op (some 8) (.assign (.tmp 14)) none <|
          .op (some 15) (.move (.tmp 8)) none <|
          .op (some 16) (.move (.tmp 1)) none <|
          .op (some 17) (.move (.tmp 2)) none <|
          .op (some 18) (.call ⟨.value (.func 75), ⟨[.tmp 15, .tmp 16, .tmp 17]⟩, ⟨[3, 3, 3]⟩⟩) none <|
          .op (some 19) (.unOp .not 4 (.tmp 18)) none <|
          .cond (.tmp 19)
            (.op (some 6) (.assign (.const (.bool false))) none <|
            .ret)
            (.done) <|
          .done) <|
      .op (some 20) (.binOp .add 3 (.tmp 11) (.const (.int .i64 1)) 3) none <|
      .op (some 11) (.move (.tmp 20)) none <|
      .done) <|
  .op (some 6) (.assign (.const (.bool true))) none <|
  .ret
theorem h98 : compF md0 Tryd.f98 = c98 := by kernel_rfl
theorem r98 : Tryd.f98.results.toList = [.tmp 6] := _root_.id (by kernel_rfl)
theorem nt98 : Tryd.f98.ntmps = 21 := by kernel_rfl
/-- impl.inRange -/
theorem md_101 : md0 101 = false := rfl
def c101 : XC :=
  .op (some 6) (.assign (.const (.bool false))) none <|
  .op (some 7) (.move (.tmp 1)) none <|
  .op (some 8) (.move (.tmp 0)) none <|
  .op (some 9) (.binOp .leq 3 (.tmp 7) (.tmp 8) 3) none <|
  .op (some 10) (.move (.tmp 9)) none <|
  .op (some 11) (.move (.tmp 0)) (some (10, true)) <|
  .op (some 12) (.move (.tmp 2)) (some (10, true)) <|
  .op (some 13) (.binOp .leq 3 (.tmp 11) (.tmp 12) 3) (some (10, true)) <|
  .op (some 14) (.pick (.tmp 10) (.tmp 13) (.const (.bool false))) none <|
  .op (some 6) (.assign (.tmp 14)) none <|
  .ret
theorem h101 : compF md0 Tryd.f101 = c101 := by kernel_rfl
theorem r101 : Tryd.f101.results.toList = [.tmp 6] := _root_.id (by kernel_rfl)
theorem nt101 : Tryd.f101.ntmps = 15 := by kernel_rfl
/-- laws.szTerrainS -/
theorem md_105 : md0 105 = false := rfl
def c105 : XC :=
  .op (some 4) (.assign (.const (.int .i64 0))) none <|
  .op (some 6) (.move (.tmp 1)) none <|
  .op (some 7) (.move (.tmp 0)) none <|
  .op (some 8) (.call ⟨.builtin .len, ⟨[.tmp 7]⟩, ⟨[32]⟩⟩) none <|
  .op (some 9) (.binOp .sub 3 (.tmp 6) (.tmp 8) 3) none <|
  .op (some 1) (.assign (.tmp 9)) none <|
  .op (some 10) (.move (.tmp 1)) none <|
  .op (some 11) (.binOp .lss 3 (.tmp 10) (.const (.int .i64 0)) 3) none <|
  .cond (.tmp 11)
    (.op (some 4) (.assign (.const (.int .i64 (-1)))) none <|
      .ret)
    (.done) <|
  .op (some 5) (.assign (.const (.int .i64 0))) none <|
  .block 0
    (.loop <|
      .op (some 12) (.move (.tmp 5)) none <|
      .op (some 13) (.move (.tmp 0)) none <|
      .op (some 14) (.call ⟨.builtin .len, ⟨[.tmp 13]⟩, ⟨[32]⟩⟩) none <|
      .op (some 15) (.binOp .lss 3 (.tmp 12) (.tmp 14) 3) none <|
      .cond (.tmp 15)
        (.done)
        (.exit 0) <|
      .block 1
        (.op (some 18) (.move (.tmp 0)) none <|
          .op (some 19) (.move (.tmp 5)) none <|
          .op (some 20) (.indexAddr 32 (.tmp 18) (.tmp 19)) none <|
          .op (some 21) (.load 173 (.tmp 20)) none <|
          .op (some 22) (.move (.tmp 1)) none <|
          .op (some 23) (.call ⟨.value (.func 142), ⟨[.tmp 21, .tmp 22]⟩, ⟨[173, 3]⟩⟩) none <|
          .op (some 1) (.assign (.tmp 23)) none <|
          .op (some 24) (.move (.tmp 1)) none <|
          .op (some 25) (.binOp .lss 3 (.tmp 24) (.const (.int .i64 0)) 3) none <|
          .cond (.tmp 25)
            (.op (some 4) (.assign (.const (.int .i64 (-1)))) none <|
            .ret)
            (.done) <|
          .done) <|
      .op (some 16) (.move (.tmp 5)) none <|
      .op (some 17) (.binOp .add 3 (.tmp 16) (.const (.int .i64 1)) 3) none <|
      .op (some 5) (.assign (.tmp 17)) none <|
      .done) <|
  .op (some 26) (.move (.tmp 1)) none <|
  .op (some 4) (.assign (.tmp 26)) none <|
  .ret
theorem h105 : compF md0 Tryd.f105 = c105 := by kernel_rfl
theorem r105 : Tryd.f105.results.toList = [.tmp 4] := _root_.id (by kernel_rfl)
theorem nt105 : Tryd.f105.ntmps = 27 := by kernel_rfl
/-- laws.szKindS -/
theorem md_106 : md0 106 = false := rfl
def c106 : XC :=
  .op (some 4) (.assign (.const (.int .i64 0))) none <|
  .op (some 6) (.move (.tmp 1)) none <|
  .op (some 7) (.move (.tmp 0)) none <|
  .op (some 8) (.call ⟨.builtin .len, ⟨[.tmp 7]⟩, ⟨[33]⟩⟩) none <|
  .op (some 9) (.binOp .sub 3 (.tmp 6) (.tmp 8) 3) none <|
  .op (some 1) (.assign (.tmp 9)) none <|
  .op (some 10) (.move (.tmp 1)) none <|
  .op (some 11) (.binOp .lss 3 (.tmp 10) (.const (.int .i64 0)) 3) none <|
  .cond (.tmp 11)
    (.op (some 4) (.assign (.const (.int .i64 (-1)))) none <|
      .ret)
    (.done) <|
  .op (some 5) (.assign (.const (.int .i64 0))) none <|
  .block 0
    (.loop <|
      .op (some 12) (.move (.tmp 5)) none <|
      .op (some 13) (.move (.tmp 0)) none <|
      .op (some 14) (.call ⟨.builtin .len, ⟨[.tmp 13]⟩, ⟨[33]⟩⟩) none <|
      .op (some 15) (.binOp .lss 3 (.tmp 12) (.tmp 14) 3) none <|
      .cond (.tmp 15)
        (.done)
        (.exit 0) <|
      .block 1
        (.op (some 18) (.move (.tmp 0)) none <|
          .op (some 19) (.move (.tmp 5)) none <|
          .op (some 20) (.indexAddr 33 (.tmp 18) (.tmp 19)) none <|
          .op (some 21) (.load 175 (.tmp 20)) none <|
          .op (some 22) (.move (.tmp 1)) none <|
          .op (some 23) (.call ⟨.value (.func 143), ⟨[.tmp 21, .tmp 22]⟩, ⟨[175, 3]⟩⟩) none <|
          .op (some 1) (.assign (.tmp 23)) none <|
          .op (some 24) (.move (.tmp 1)) none <|
          .op (some 25) (.binOp .lss 3 (.tmp 24) (.const (.int .i64 0)) 3) none <|
          .cond (.tmp 25)
            (.op (some 4) (.assign (.const (.int .i64 (-1)))) none <|
            .ret)
            (.done) <|
          .done) <|
      .op (some 16) (.move (.tmp 5)) none <|
      .op (some 17) (.binOp .add 3 (.tmp 16) (.const (.int .i64 1)) 3) none <|
      .op (some 5) (.assign (.tmp 17)) none <|
      .done) <|
  .op (some 26) (.move (.tmp 1)) none <|
  .op (some 4) (.assign (.tmp 26)) none <|
  .ret
theorem h106 : compF md0 Tryd.f106 = c106 := by kernel_rfl
theorem r106 : Tryd.f106.results.toList = [.tmp 4] := _root_.id (by kernel_rfl)
theorem nt106 : Tryd.f106.ntmps = 27 := by kernel_rfl
/-- spec.mSize -/
theorem md_107 : md0 107 = false := rfl
def c107 : XC :=
  .op (some 1) (.box 48 (.tmp 0)) none <|
  .op (some 2) (.assign (.const (.int .i64 0))) none <|
  .op (some 3) (.fieldAddr 48 (.tmp 1) 0) none <|
  .op (some 4) (.load 3 (.tmp 3)) none <|
  .op (some 5) (.fieldAddr 48 (.tmp 1) 1) none <|
  .op (some 6) (.load 3 (.tmp 5)) none <|
  .op (some 7) (.binOp .mul 3 (.tmp 4) (.tmp 6) 3) none <|
  .op (some 2) (.assign (.tmp 7)) none <|
  .ret
theorem h107 : compF md0 Tryd.f107 = c107 := by kernel_rfl
theorem r107 : Tryd.f107.results.toList = [.tmp 2] := _root_.id (by kernel_rfl)
theorem nt107 : Tryd.f107.ntmps = 8 := by kernel_rfl
/-- laws.toTerrainS -/
theorem md_108 : md0 108 = false := rfl
def c108 : XC :=
  .op (some 2) (.assign (.const (.slice none 0 0))) none <|
  .op (some 5) (.move (.tmp 0)) none <|
  .op (some 6) (.call ⟨.builtin .len, ⟨[.tmp 5]⟩, ⟨[32]⟩⟩) none <|
  .op (some 7) (.makeSlice 44 (.tmp 6) (.tmp 6)) none <|
  .op (some 3) (.assign (.tmp 7)) none <|
  .op (some 4) (.assign (.const (.int .i64 0))) none <|
  .block 0
    (.loop <|
      .op (some 8) (.move (.tmp 4)) none <|
      .op (some 9) (.move (.tmp 0)) none <|
      .op (some 10) (.call ⟨.builtin .len, ⟨[.tmp 9]⟩, ⟨[32]⟩⟩) none <|
      .op (some 11) (.binOp .lss 3 (.tmp 8) (.tmp 10) 3) none <|
      .cond (.tmp 11)
        (.done)
        (.exit 0) <|
      .block 1
        (.op (some 14) (.move (.tmp 3)) none <|
          .op (some 15) (.move (.tmp 4)) none <|
          .op (some 16) (.move (.tmp 0)) none <|
          .op (some 17) (.move (.tmp 4)) none <|
          .op (some 18) (.indexAddr 32 (.tmp 16) (.tmp 17)) none <|
          .op (some 19) (.load 173 (.tmp 18)) none <|
          .op (some 20) (.call ⟨.value (.func 144), ⟨[.tmp 19]⟩, ⟨[173]⟩⟩) none <|
          .op (some 21) (.indexAddr 44 (.tmp 14) (.tmp 15)) none <|
          .op none (.store 176 (.tmp 21) (.tmp 20)) none <|
          .done) <|
      .op (some 12) (.move (.tmp 4)) none <|
      .op (some 13) (.binOp .add 3 (.tmp 12) (.const (.int .i64 1)) 3) none <|
      .op (some 4) (.assign (.tmp 13)) none <|
      .done) <|
  .op (some 22) (.move (.tmp 3)) none <|
  .op (some 2) (.assign (.tmp 22)) none <|
  .ret
theorem h108 : compF md0 Tryd.f108 = c108 := by kernel_rfl
theorem r108 : Tryd.f108.results.toList = [.tmp 2] := _root_.id (by kernel_rfl)
theorem nt108 : Tryd.f108.ntmps = 23 := by kernel_rfl
/-- laws.toKindS -/
theorem md_109 : md0 109 = false := rfl
def c109 : XC :=
  .op (some 2) (.assign (.const (.slice none 0 0))) none <|
  .op (some 5) (.move (.tmp 0)) none <|
  .op (some 6) (.call ⟨.builtin .len, ⟨[.tmp 5]⟩, ⟨[33]⟩⟩) none <|
  .op (some 7) (.makeSlice 45 (.tmp 6) (.tmp 6)) none <|
  .op (some 3) (.assign (.tmp 7)) none <|
  .op (some 4) (.assign (.const (.int .i64 0))) none <|
  .block 0
    (.loop <|
      .op (some 8) (.move (.tmp 4)) none <|
      .op (some 9) (.move (.tmp 0)) none <|
      .op (some 10) (.call ⟨.builtin .len, ⟨[.tmp 9]⟩, ⟨[33]⟩⟩) none <|
      .op (some 11) (.binOp .lss 3 (.tmp 8) (.tmp 10) 3) none <|
      .cond (.tmp 11)
        (.done)
        (.exit 0) <|
      .block 1
        (.op (some 14) (.move (.tmp 3)) none <|
          .op (some 15) (.move (.tmp 4)) none <|
          .op (some 16) (.move (.tmp 0)) none <|
          .op (some 17) (.move (.tmp 4)) none <|
          .op (some 18) (.indexAddr 33 (.tmp 16) (.tmp 17)) none <|
          .op (some 19) (.load 175 (.tmp 18)) none <|
          .op (some 20) (.call ⟨.value (.func 145), ⟨[.tmp 19]⟩, ⟨[175]⟩⟩) none <|
          .op (some 21) (.indexAddr 45 (.tmp 14) (.tmp 15)) none <|
          .op none (.store 122 (.tmp 21) (.tmp 20)) none <|
          .done) <|
      .op (some 12) (.move (.tmp 4)) none <|
      .op (some 13) (.binOp .add 3 (.tmp 12) (.const (.int .i64 1)) 3) none <|
      .op (some 4) (.assign (.tmp 13)) none <|
      .done) <|
  .op (some 22) (.move (.tmp 3)) none <|
  .op (some 2) (.assign (.tmp 22)) none <|
  .ret
theorem h109 : compF md0 Tryd.f109 = c109 := by kernel_rfl
theorem r109 : Tryd.f109.results.toList = [.tmp 2] := _root_.id (by kernel_rfl)
theorem nt109 : Tryd.f109.ntmps = 23 := by kernel_rfl
/-- laws.eqTerrainS -/
theorem md_110 : md0 110 = false := rfl
def c110 : XC :=
  .op (some 4) (.assign (.const (.bool false))) none <|
  .op (some 6) (.move (.tmp 0)) none <|
  .op (some 7) (.call ⟨.builtin .len, ⟨[.tmp 6]⟩, ⟨[44]⟩⟩) none <|
  .op (some 8) (.move (.tmp 1)) none <|
  .op (some 9) (.call ⟨.builtin .len, ⟨[.tmp 8]⟩, ⟨[44]⟩⟩) none <|
  .op (some 10) (.binOp .neq 3 (.tmp 7) (.tmp 9) 3) none <|
  .cond (.tmp 10)
    (.op (some 4) (.assign (.const (.bool false))) none <|
      .ret)
    (.done) <|
  .op (some 5) (.assign (.const (.int .i64 0))) none <|
  .block 0
    (.loop <|
      .op (some 11) (.move (.tmp 5)) none <|
      .op (some 12) (.move (.tmp 0)) none <|
      .op (some 13) (.call ⟨.builtin .len, ⟨[.tmp 12]⟩, ⟨[44]⟩⟩) none <|
      .op (some 14) (.binOp .lss 3 (.tmp 11) (.tmp 13) 3) none <|
      .cond (.tmp 14)
        (.done)
        (.exit 0) <|
      .block 1
        (.op (some 17) (.move (.tmp 0)) none <|
          .op (some 18) (.move (.tmp 5)) none <|
          .op (some 19) (.indexAddr 44 (.tmp 17) (.tmp 18)) none <|
          .op (some 20) (.load 176 (.tmp 19)) none <|
          .op (some 21) (.move (.tmp 1)) none <|
          .op (some 22) (.move (.tmp 5)) none <|
          .op (some 23) (.indexAddr 44 (.tmp 21) (.tmp 22)) none <|
          .op (some 24) (.load 176 (.tmp 23)) none <|
          .op (some 25) (.call ⟨.value (.func 146), ⟨[.tmp 20, .tmp 24]⟩, ⟨[176, 176]⟩⟩) none <|
          .op (some 26) (.unOp .not 4 (.tmp 25)) none <|
          .cond (.tmp 26)
            (.op (some 4) (.assign (.const (.bool false))) none <|
            .ret)
            (.done) <|
          .done) <|
      .op (some 15) (.move (.tmp 5)) none <|
      .op (some 16) (.binOp .add 3 (.tmp 15) (.const (.int .i64 1)) 3) none <|
      .op (some 5) (.assign (.tmp 16)) none <|
      .done) <|
  .op (some 4) (.assign (.const (.bool true))) none <|
  .ret
theorem h110 : compF md0 Tryd.f110 = c110 := by kernel_rfl
theorem r110 : Tryd.f110.results.toList = [.tmp 4] := _root_.id (by kernel_rfl)
theorem nt110 : Tryd.f110.ntmps = 27 := by kernel_rfl
/-- laws.eqKindS -/
theorem md_111 : md0 111 = false := rfl
def c111 : XC :=
  .op (some 4) (.assign (.const (.bool false))) none <|
  .op (some 6) (.move (.tmp 0)) none <|
  .op (some 7) (.call ⟨.builtin .len, ⟨[.tmp 6]⟩, ⟨[45]⟩⟩) none <|
  .op (some 8) (.move (.tmp 1)) none <|
  .op (some 9) (.call ⟨.builtin .len, ⟨[.tmp 8]⟩, ⟨[45]⟩⟩) none <|
  .op (some 10) (.binOp .neq 3 (.tmp 7) (.tmp 9) 3) none <|
  .cond (.tmp 10)
    (.op (some 4) (.assign (.const (.bool false))) none <|
      .ret)
    (.done) <|
  .op (some 5) (.assign (.const (.int .i64 0))) none <|
  .block 0
    (.loop <|
      .op (some 11) (.move (.tmp 5)) none <|
      .op (some 12) (.move (.tmp 0)) none <|
      .op (some 13) (.call ⟨.builtin .len, ⟨[.tmp 12]⟩, ⟨[45]⟩⟩) none <|
      .op (some 14) (.binOp .lss 3 (.tmp 11) (.tmp 13) 3) none <|
      .cond (.tmp 14)
        (.done)
        (.exit 0) <|
      .block 1
        (.op (some 17) (.move (.tmp 0)) none <|
          .op (some 18) (.move (.tmp 5)) none <|
          .op (some 19) (.indexAddr 45 (.tmp 17) (.tmp 18)) none <|
          .op (some 20) (.load 122 (.tmp 19)) none <|
          .op (some 21) (.move (.tmp 1)) none <|
          .op (some 22) (.move (.tmp 5)) none <|
          .op (some 23) (.indexAddr 45 (.tmp 21) (.tmp 22)) none <|
          .op (some 24) (.load 122 (.tmp 23)) none <|
          .op (some 25) (.call ⟨.value (.func 147), ⟨[.tmp 20, .tmp 24]⟩, ⟨[122, 122]⟩⟩) none <|
          .op (some 26) (.unOp .not 4 (.tmp 25)) none <|
          .cond (.tmp 26)
            (.op (some 4) (.assign (.const (.bool false))) none <|
            .ret)
            (.done) <|
          .done) <|
      .op (some 15) (.move (.tmp 5)) none <|
      .op (some 16) (.binOp .add 3 (.tmp 15) (.const (.int .i64 1)) 3) none <|
      .op (some 5) (.assign (.tmp 16)) none <|
      .done) <|
  .op (some 4) (.assign (.const (.bool true))) none <|
  .ret
theorem h111 : compF md0 Tryd.f111 = c111 := by kernel_rfl
theorem r111 : Tryd.f111.results.toList = [.tmp 4] := _root_.id (by kernel_rfl)
theorem nt111 : Tryd.f111.ntmps = 27 := by kernel_rfl
/-- spec.rGood -/
theorem md_112 : md0 112 = false := rfl
def c112 : XC :=
  .op (some 1) (.box 47 (.tmp 0)) none <|
  .op (some 2) (.assign (.const (.bool false))) none <|
  .op (some 7) (.fieldAddr 47 (.tmp 1) 0) none <|
  .op (some 8) (.load 44 (.tmp 7)) none <|
  .op (some 9) (.call ⟨.builtin .len, ⟨[.tmp 8]⟩, ⟨[44]⟩⟩) none <|
  .op (some 10) (.call ⟨.value (.func 75), ⟨[.tmp 9, .const (.int .i64 1), .const (.int .i64 6)]⟩, ⟨[3, 3, 3]⟩⟩) none <|
  .op (some 11) (.unOp .not 4 (.tmp 10)) none <|
  .op (some 12) (.move (.tmp 11)) none <|
  .op (some 13) (.fieldAddr 47 (.tmp 1) 1) (some (12, false)) <|
  .op (some 14) (.load 45 (.tmp 13)) (some (12, false)) <|
  .op (some 15) (.call ⟨.builtin .len, ⟨[.tmp 14]⟩, ⟨[45]⟩⟩) (some (12, false)) <|
  .op (some 16) (.call ⟨.value (.func 75), ⟨[.tmp 15, .const (.int .i64 1), .const (.int .i64 4)]⟩, ⟨[3, 3, 3]⟩⟩) (some (12, false)) <|
  .op (some 17) (.unOp .not 4 (.tmp 16)) (some (12, false)) <|
  .op (some 18) (.pick (.tmp 12) (.const (.bool true)) (.tmp 17)) none <|
  .cond (.tmp 18)
    (.op (some 2) (.assign (.const (.bool false))) none <|
      .ret)
    (.done) <|
  .op (some 19) (.fieldAddr 47 (.tmp 1) 0) none <|
  .op (some 20) (.load 44 (.tmp 19)) none <|
  .op (some 21) (.call ⟨.builtin .len, ⟨[.tmp 20]⟩, ⟨[44]⟩⟩) none <|
  .op (some 22) (.move (.const (.int .i64 0))) none <|
  .block 0
    (.loop <|
      .op (some 23) (.binOp .lss 3 (.tmp 22) (.tmp 21) 3) none <|
      .cond (.tmp 23)
        (.done)
        (.exit 0) <|
      .block 1
        (.op (some 24) (.move (.tmp 22)) none <|
          .op (some 25) (.indexAddr 44 (.tmp 20) (.tmp 22)) none <|
          .op (some 26) (.load 176 (.tmp 25)) none <|
          .op (some 4) (.alloc 176) none <|
          .op (some 3) (.assign (.tmp 24)) none <|
          .op none (.store 176 (.tmp 4) (.tmp 26)) none <|
          .op (some 27) (.fieldAddr 176 (.tmp 4) 0) none <|
          .op (some 28) (.load 9 (.tmp 27)) none <|
          .op (some 29) (.call ⟨.value (.func 148), ⟨[.tmp 28]⟩, ⟨[9]⟩⟩) none <|
          .op (some 30) (.unOp .not 4 (.tmp 29)) none <|
          .op (some 31) (.move (.tmp 30)) none <|
          .op (some 32) (.fieldAddr 47 (.tmp 1) 0) (some (31, false)) <|
          .op (some 33) (.load 44 (.tmp 32)) (some (31, false)) <|
          .op (some 34) (.fieldAddr 176 (.tmp 4) 0) (some (31, false)) <|
          .op (some 35) (.load 9 (.tmp 34)) (some (31, false)) <|
          .op (some 36) (.call ⟨.value (.func 149), ⟨[.tmp 33, .tmp 35]⟩, ⟨[44, 9]⟩⟩) (some (31, false)) <|
          .op (some 37) (.move (.tmp 3)) (some (31, false)) <|
          .op (some 38) (.binOp .neq 3 (.tmp 36) (.tmp 37) 3) (some (31, false)) <|
          .op (some 39) (.pick (.tmp 31) (.const (.bool true)) (.tmp 38)) none <|
          .op (some 40) (.move (.tmp 39)) none <|
          .op (some 41) (.fieldAddr 176 (.tmp 4) 1) (some (40, false)) <|
          .op (some 42) (.load 36 (.tmp 41)) (some (40, false)) <|
          .op (some 43) (.call ⟨.builtin .len, ⟨[.tmp 42]⟩, ⟨[36]⟩⟩) (some (40, false)) <|
          .op (some 44) (.fieldAddr 47 (.tmp 1) 1) (some (40, false)) <|
          .op (some 45) (.load 45 (.tmp 44)) (some (40, false)) <|
          .op (some 46) (.call ⟨.builtin .len, ⟨[.tmp 45]⟩, ⟨[45]⟩⟩) (some (40, false)) <|
          .op (some 47) (.binOp .neq 3 (.tmp 43) (.tmp 46) 3) (some (40, false)) <|
          .op (some 48) (.pick (.tmp 40) (.const (.bool true)) (.tmp 47)) none <|
          .op (some 49) (.move (.tmp 48)) none <|
          .op (some 50) (.fieldAddr 176 (.tmp 4) 1) (some (49, false)) <|
          .op (some 51) (.load 36 (.tmp 50)) (some (49, false)) <|
          .op (some 52) (.call ⟨.value (.func 98), ⟨[.tmp 51, .const (.int .i64 0), .const (.int .i64 9)]⟩, ⟨[36, 3, 3]⟩⟩) (some (49, false)) <|
          .op (some 53) (.unOp .not 4 (.tmp 52)) (some (49, false)) <|
          .op (some 54) (.pick (.tmp 49) (.const (.bool true)) (.tmp 53)) none <|
          .op (some 55) (.move (.tmp 54)) none <|
          .op (some 56) (.fieldAddr 176 (.tmp 4) 2) (some (55, false)) <|
          .op (some 57) (.load 3 (.tmp 56)) (some (55, false)) <|
          .op (some 58) (.call ⟨.value (.func 75), ⟨[.tmp 57, .const (.int .i64 (-3)), .const (.int .i64 3)]⟩, ⟨[3, 3, 3]⟩⟩) (some (55, false)) <|
          .op (some 59) (.unOp .not 4 (.tmp 58)) (some (55, false)) <|
          .op (some 60) (.pick (.tmp 55) (.const (.bool true)) (.tmp 59)) none <|
          .op (some 61) (.move (.tmp 60)) none <|
          .op (some 62) (.fieldAddr 176 (.tmp 4) 3) (some (61, false)) <|
          .op (some 63) (.load 3 (.tmp 62)) (some (61, false)) <|
          .op (some 64) (.call ⟨.value (.func 75), ⟨[.tmp 63, .const (.int .i64 0), .const (.int .i64 3)]⟩, ⟨[3, 3, 3]⟩⟩) (some (61, false)) <|
          .op (some 65) (.unOp .not 4 (.tmp 64)) (some (61, false)) <|
          .op (some 66) (.pick (.tmp 61) (.const (.bool true)) (.tmp 65)) none <|
          .cond (.tmp 66)
            (.op (some 2) (.assign (.const (.bool false))) none <|
            .ret)
            (.done) <|
          .done) <|
      .op (some 67) (.binOp .add 3 (.tmp 22) (.const (.int .i64 1)) 3) none <|
      .op (some 22) (.move (.tmp 67)) none <|
      .done) <|
  .op (some 68) (.fieldAddr 47 (.tmp 1) 1) none <|
  .op (some 69) (.load 45 (.tmp 68)) none <|
  .op (some 70) (.call ⟨.builtin .len, ⟨[.tmp 69]⟩, ⟨[45]⟩⟩) none <|
  .op (some 71) (.move (.const (.int .i64 0))) none <|
  .block 2
    (.loop <|
      .op (some 72) (.binOp .lss 3 (.tmp 71) (.tmp 70) 3) none <|
      .cond (.tmp 72)
        (.done)
        (.exit 2) <|
      .block 3
        (.op (some 73) (.move (.tmp 71)) none <|
          .op (some 74) (.indexAddr 45 (.tmp 69) (.tmp 71)) none <|
          .op (some 75) (.load 122 (.tmp 74)) none <|
          .op (some 6) (.alloc 122) none <|
          .op (some 5) (.assign (.tmp 73)) none <|
          .op none (.store 122 (.tmp 6) (.tmp 75)) none <|
          .op (some 76) (.fieldAddr 122 (.tmp 6) 0) none <|
          .op (some 77) (.load 9 (.tmp 76)) none <|
          .op (some 78) (.call ⟨.value (.func 148), ⟨[.tmp 77]⟩, ⟨[9]⟩⟩) none <|
          .op (some 79) (.unOp .not 4 (.tmp 78)) none <|
          .op (some 80) (.move (.tmp 79)) none <|
          .op (some 81) (.fieldAddr 47 (.tmp 1) 1) (some (80, false)) <|
          .op (some 82) (.load 45 (.tmp 81)) (some (80, false)) <|
          .op (some 83) (.fieldAddr 122 (.tmp 6) 0) (some (80, false)) <|
          .op (some 84) (.load 9 (.tmp 83)) (some (80, false)) <|
          .op (some 85) (.call ⟨.value (.func 150), ⟨[.tmp 82, .tmp 84]⟩, ⟨[45, 9]⟩⟩) (some (80, false)) <|
          .op (some 86) (.move (.tmp 5)) (some (80, false)) <|
          .op (some 87) (.binOp .neq 3 (.tmp 85) (.tmp 86) 3) (some (80, false)) <|
          .op (some 88) (.pick (.tmp 80) (.const (.bool true)) (.tmp 87)) none <|
          .op (some 89) (.move (.tmp 88)) none <|
          .op (some 90) (.fieldAddr 122 (.tmp 6) 1) (some (89, false)) <|
          .op (some 91) (.load 3 (.tmp 90)) (some (89, false)) <|
          .op (some 92) (.call ⟨.value (.func 75), ⟨[.tmp 91, .const (.int .i64 1), .const (.int .i64 9)]⟩, ⟨[3, 3, 3]⟩⟩) (some (89, false)) <|
          .op (some 93) (.unOp .not 4 (.tmp 92)) (some (89, false)) <|
          .op (some 94) (.pick (.tmp 89) (.const (.bool true)) (.tmp 93)) none <|
          .op (some 95) (.move (.tmp 94)) none <|
          .op (some 96) (.fieldAddr 122 (.tmp 6) 2) (some (95, false)) <|
          .op (some 97) (.load 3 (.tmp 96)) (some (95, false)) <|
          .op (some 98) (.call ⟨.value (.func 75), ⟨[.tmp 97, .const (.int .i64 0), .const (.int .i64 9)]⟩, ⟨[3, 3, 3]⟩⟩) (some (95, false)) <|
          .op (some 99) (.unOp .not 4 (.tmp 98)) (some (95, false)) <|
          .op (some 100) (.pick (.tmp 95) (.const (.bool true)) (.tmp 99)) none <|
          .op (some 101) (.move (.tmp 100)) none <|
          .op (some 102) (.fieldAddr 122 (.tmp 6) 3) (some (101, false)) <|
          .op (some 103) (.load 3 (.tmp 102)) (some (101, false)) <|
          .op (some 104) (.call ⟨.value (.func 75), ⟨[.tmp 103, .const (.int .i64 1), .const (.int .i64 4)]⟩, ⟨[3, 3, 3]⟩⟩) (some (101, false)) <|
          .op (some 105) (.unOp .not 4 (.tmp 104)) (some (101, false)) <|
          .op (some 106) (.pick (.tmp 101) (.const (.bool true)) (.tmp 105)) none <|
          .op (some 107) (.move (.tmp 106)) none <|
          .op (some 108) (.fieldAddr 122 (.tmp 6) 5) (some (107, false)) <|
          .op (some 109) (.load 3 (.tmp 108)) (some (107, false)) <|
          .op (some 110) (.call ⟨.value (.func 75), ⟨[.tmp 109, .const (.int .i64 0), .const (.int .i64 4)]⟩, ⟨[3, 3, 3]⟩⟩) (some (107, false)) <|
          .op (some 111) (.unOp .not 4 (.tmp 110)) (some (107, false)) <|
          .op (some 112) (.pick (.tmp 107) (.const (.bool true)) (.tmp 111)) none <|
          .cond (.tmp 112)
            (.op (some 2) (.assign (.const (.bool false))) none <|
            .ret)
            (.done) <|
          .done) <|
      .op (some 113) (.binOp .add 3 (.tmp 71) (.const (.int .i64 1)) 3) none <|
      .op (some 71) (.move (.tmp 113)) none <|
      .done) <|
  .op (some 114) (.fieldAddr 47 (.tmp 1) 2) none <|
  .op (some 115) (.load 3 (.tmp 114)) none <|
  .op (some 116) (.call ⟨.value (.func 75), ⟨[.tmp 115, .const (.int .i64 1), .const (.int .i64 4)]⟩, ⟨[3, 3, 3]⟩⟩) none <|
  .op (some 117) (.move (.tmp 116)) none <|
  .op (some 118) (.fieldAddr 47 (.tmp 1) 3) (some (117, true)) <|
  .op (some 119) (.load 3 (.tmp 118)) (some (117, true)) <|
  .op (some 120) (.call ⟨.value (.func 75), ⟨[.tmp 119, .const (.int .i64 0), .const (.int .i64 9)]⟩, ⟨[3, 3, 3]⟩⟩) (some (117, true)) <|
  .op (some 121) (.pick (.tmp 117) (.tmp 120) (.const (.bool false))) none <|
  .op (some 122) (.move (.tmp 121)) none <|
  .op (some 123) (.fieldAddr 47 (.tmp 1) 4) (some (122, true)) <|
  .op (some 124) (.load 3 (.tmp 123)) (some (122, true)) <|
  .op (some 125) (.call ⟨.value (.func 75), ⟨[.tmp 124, .const (.int .i64 1), .const (.int .i64 9)]⟩, ⟨[3, 3, 3]⟩⟩) (some (122, true)) <|
  .op (some 126) (.pick (.tmp 122) (.tmp 125) (.const (.bool false))) none <|
  .op (some 127) (.move (.tmp 126)) none <|
  .op (some 128) (.fieldAddr 47 (.tmp 1) 5) (some (127, true)) <|
  .op (some 129) (.load 3 (.tmp 128)) (some (127, true)) <|
  .op (some 130) (.call ⟨.value (.func 75), ⟨[.tmp 129, .const (.int .i64 0), .const (.int .i64 20)]⟩, ⟨[3, 3, 3]⟩⟩) (some (127, true)) <|
  .op (some 131) (.pick (.tmp 127) (.tmp 130) (.const (.bool false))) none <|
  .op (some 132) (.move (.tmp 131)) none <|
  .op (some 133) (.fieldAddr 47 (.tmp 1) 6) (some (132, true)) <|
  .op (some 134) (.load 3 (.tmp 133)) (some (132, true)) <|
  .op (some 135) (.call ⟨.value (.func 75), ⟨[.tmp 134, .const (.int .i64 1), .const (.int .i64 30)]⟩, ⟨[3, 3, 3]⟩⟩) (some (132, true)) <|
  .op (some 136) (.pick (.tmp 132) (.tmp 135) (.const (.bool false))) none <|
  .op (some 2) (.assign (.tmp 136)) none <|
  .ret
theorem h112 : compF md0 Tryd.f112 = c112 := by kernel_rfl
theorem r112 : Tryd.f112.results.toList = [.tmp 2] := _root_.id (by kernel_rfl)
theorem nt112 : Tryd.f112.ntmps = 137 := by kernel_rfl
/-- spec.mGood -/
theorem md_113 : md0 113 = false := rfl
def c113 : XC :=
  .op (some 1) (.box 48 (.tmp 0)) none <|
  .op (some 2) (.assign (.const (.bool false))) none <|
  .op (some 3) (.fieldAddr 48 (.tmp 1) 0) none <|
  .op (some 4) (.load 3 (.tmp 3)) none <|
  .op (some 5) (.call ⟨.value (.func 75), ⟨[.tmp 4, .const (.int .i64 1), .const (.int .i64 10)]⟩, ⟨[3, 3, 3]⟩⟩) none <|
  .op (some 6) (.move (.tmp 5)) none <|
  .op (some 7) (.fieldAddr 48 (.tmp 1) 1) (some (6, true)) <|
  .op (some 8) (.load 3 (.tmp 7)) (some (6, true)) <|
  .op (some 9) (.call ⟨.value (.func 75), ⟨[.tmp 8, .const (.int .i64 1), .const (.int .i64 10)]⟩, ⟨[3, 3, 3]⟩⟩) (some (6, true)) <|
  .op (some 10) (.pick (.tmp 6) (.tmp 9) (.const (.bool false))) none <|
  .op (some 11) (.move (.tmp 10)) none <|
  .op (some 12) (.fieldAddr 48 (.tmp 1) 2) (some (11, true)) <|
  .op (some 13) (.load 36 (.tmp 12)) (some (11, true)) <|
  .op (some 14) (.call ⟨.builtin .len, ⟨[.tmp 13]⟩, ⟨[36]⟩⟩) (some (11, true)) <|
  .op (some 15) (.load 48 (.tmp 1)) (some (11, true)) <|
  .op (some 16) (.call ⟨.value (.func 107), ⟨[.tmp 15]⟩, ⟨[48]⟩⟩) (some (11, true)) <|
  .op (some 17) (.binOp .eql 3 (.tmp 14) (.tmp 16) 3) (some (11, true)) <|
  .op (some 18) (.pick (.tmp 11) (.tmp 17) (.const (.bool false))) none <|
  .op (some 19) (.move (.tmp 18)) none <|
  .op (some 20) (.fieldAddr 48 (.tmp 1) 2) (some (19, true)) <|
  .op (some 21) (.load 36 (.tmp 20)) (some (19, true)) <|
  .op (some 22) (.call ⟨.value (.func 98), ⟨[.tmp 21, .const (.int .i64 0), .const (.int .i64 5)]⟩, ⟨[36, 3, 3]⟩⟩) (some (19, true)) <|
  .op (some 23) (.pick (.tmp 19) (.tmp 22) (.const (.bool false))) none <|
  .op (some 24) (.move (.tmp 23)) none <|
  .op (some 25) (.load 48 (.tmp 1)) (some (24, true)) <|
  .op (some 26) (.fieldAddr 48 (.tmp 1) 3) (some (24, true)) <|
  .op (some 27) (.load 36 (.tmp 26)) (some (24, true)) <|
  .op (some 28) (.call ⟨.value (.func 151), ⟨[.tmp 25, .tmp 27]⟩, ⟨[48, 36]⟩⟩) (some (24, true)) <|
  .op (some 29) (.pick (.tmp 24) (.tmp 28) (.const (.bool false))) none <|
  .op (some 30) (.move (.tmp 29)) none <|
  .op (some 31) (.load 48 (.tmp 1)) (some (30, true)) <|
  .op (some 32) (.fieldAddr 48 (.tmp 1) 4) (some (30, true)) <|
  .op (some 33) (.load 36 (.tmp 32)) (some (30, true)) <|
  .op (some 34) (.call ⟨.value (.func 151), ⟨[.tmp 31, .tmp 33]⟩, ⟨[48, 36]⟩⟩) (some (30, true)) <|
  .op (some 35) (.pick (.tmp 30) (.tmp 34) (.const (.bool false))) none <|
  .op (some 2) (.assign (.tmp 35)) none <|
  .ret
theorem h113 : compF md0 Tryd.f113 = c113 := by kernel_rfl
theorem r113 : Tryd.f113.results.toList = [.tmp 2] := _root_.id (by kernel_rfl)
theorem nt113 : Tryd.f113.ntmps = 36 := by kernel_rfl
/-- impl.IsRules -/
theorem md_114 : md0 114 = false := rfl
def c114 : XC :=
  .op (some 1) (.box 47 (.tmp 0)) none <|
  .op (some 2) (.assign (.const (.bool false))) none <|
  .op (some 7) (.fieldAddr 47 (.tmp 1) 0) none <|
  .op (some 8) (.load 44 (.tmp 7)) none <|
  .op (some 9) (.call ⟨.builtin .len, ⟨[.tmp 8]⟩, ⟨[44]⟩⟩) none <|
  .op (some 10) (.call ⟨.value (.func 101), ⟨[.tmp 9, .const (.int .i64 1), .const (.int .i64 6)]⟩, ⟨[3, 3, 3]⟩⟩) none <|
  .op (some 11) (.unOp .not 4 (.tmp 10)) none <|
  .op (some 12) (.move (.tmp 11)) none <|
  .op (some 13) (.fieldAddr 47 (.tmp 1) 1) (some (12, false)) <|
  .op (some 14) (.load 45 (.tmp 13)) (some (12, false)) <|
  .op (some 15) (.call ⟨.builtin .len, ⟨[.tmp 14]⟩, ⟨[45]⟩⟩) (some (12, false)) <|
  .op (some 16) (.call ⟨.value (.func 101), ⟨[.tmp 15, .const (.int .i64 1), .const (.int .i64 4)]⟩, ⟨[3, 3, 3]⟩⟩) (some (12, false)) <|
  .op (some 17) (.unOp .not 4 (.tmp 16)) (some (12, false)) <|
  .op (some 18) (.pick (.tmp 12) (.const (.bool true)) (.tmp 17)) none <|
  .cond (.tmp 18)
    (.op (some 2) (.assign (.const (.bool false))) none <|
      .ret)
    (.done) <|
  .op (some 19) (.fieldAddr 47 (.tmp 1) 0) none <|
  .op (some 20) (.load 44 (.tmp 19)) none <|
  .op (some 21) (.call ⟨.builtin .len, ⟨[.tmp 20]⟩, ⟨[44]⟩⟩) none <|
  .op (some 22) (.move (.const (.int .i64 0))) none <|
  .block 0
    (.loop <|
      .op (some 23) (.binOp .lss 3 (.tmp 22) (.tmp 21) 3) none <|
      .cond (.tmp 23)
        (.done)
        (.exit 0) <|
      .block 1
        (.op (some 24) (.move (.tmp 22)) none <|
          .op (some 25) (.indexAddr 44 (.tmp 20) (.tmp 22)) none <|
          .op (some 26) (.load 176 (.tmp 25)) none <|
          .op (some 4) (.alloc 176) none <|
          .op (some 3) (.assign (.tmp 24)) none <|
          .op none (.store 176 (.tmp 4) (.tmp 26)) none <|
          .op (some 27) (.load 176 (.tmp 4)) none <|
          .op (some 28) (.fieldAddr 47 (.tmp 1) 1) none <|
          .op (some 29) (.load 45 (.tmp 28)) none <|
          .op (some 30) (.call ⟨.builtin .len, ⟨[.tmp 29]⟩, ⟨[45]⟩⟩) none <|
          .op (some 31) (.call ⟨.value (.func 152), ⟨[.tmp 27, .tmp 30]⟩, ⟨[176, 3]⟩⟩) none <|
          .op (some 32) (.unOp .not 4 (.tmp 31)) none <|
          .op (some 33) (.move (.tmp 32)) none <|
          .op (some 34) (.fieldAddr 47 (.tmp 1) 0) (some (33, false)) <|
          .op (some 35) (.load 44 (.tmp 34)) (some (33, false)) <|
          .op (some 36) (.fieldAddr 176 (.tmp 4) 0) (some (33, false)) <|
          .op (some 37) (.load 9 (.tmp 36)) (some (33, false)) <|
          .op (some 38) (.call ⟨.value (.func 153), ⟨[.tmp 35, .tmp 37]⟩, ⟨[44, 9]⟩⟩) (some (33, false)) <|
          .op (some 39) (.move (.tmp 3)) (some (33, false)) <|
          .op (some 40) (.binOp .neq 3 (.tmp 38) (.tmp 39) 3) (some (33, false)) <|
          .op (some 41) (.pick (.tmp 33) (.const (.bool true)) (.tmp 40)) none <|
          .cond (.tmp 41)
            (.op (some 2) (.assign (.const (.bool false))) none <|
            .ret)
            (.done) <|
          .done) <|
      .op (some 42) (.binOp .add 3 (.tmp 22) (.const (.int .i64 1)) 3) none <|
      .op (some 22) (.move (.tmp 42)) none <|
      .done) <|
  .op (some 43) (.fieldAddr 47 (.tmp 1) 1) none <|
  .op (some 44) (.load 45 (.tmp 43)) none <|
  .op (some 45) (.call ⟨.builtin .len, ⟨[.tmp 44]⟩, ⟨[45]⟩⟩) none <|
  .op (some 46) (.move (.const (.int .i64 0))) none <|
  .block 2
    (.loop <|
      .op (some 47) (.binOp .lss 3 (.tmp 46) (.tmp 45) 3) none <|
      .cond (.tmp 47)
        (.done)
        (.exit 2) <|
      .block 3
        (.op (some 48) (.move (.tmp 46)) none <|
          .op (some 49) (.indexAddr 45 (.tmp 44) (.tmp 46)) none <|
          .op (some 50) (.load 122 (.tmp 49)) none <|
          .op (some 6) (.alloc 122) none <|
          .op (some 5) (.assign (.tmp 48)) none <|
          .op none (.store 122 (.tmp 6) (.tmp 50)) none <|
          .op (some 51) (.load 122 (.tmp 6)) none <|
          .op (some 52) (.call ⟨.value (.func 154), ⟨[.tmp 51]⟩, ⟨[122]⟩⟩) none <|
          .op (some 53) (.unOp .not 4 (.tmp 52)) none <|
          .op (some 54) (.move (.tmp 53)) none <|
          .op (some 55) (.fieldAddr 47 (.tmp 1) 1) (some (54, false)) <|
          .op (some 56) (.load 45 (.tmp 55)) (some (54, false)) <|
          .op (some 57) (.fieldAddr 122 (.tmp 6) 0) (some (54, false)) <|
          .op (some 58) (.load 9 (.tmp 57)) (some (54, false)) <|
          .op (some 59) (.call ⟨.value (.func 155), ⟨[.tmp 56, .tmp 58]⟩, ⟨[45, 9]⟩⟩) (some (54, false)) <|
          .op (some 60) (.move (.tmp 5)) (some (54, false)) <|
          .op (some 61) (.binOp .neq 3 (.tmp 59) (.tmp 60) 3) (some (54, false)) <|
          .op (some 62) (.pick (.tmp 54) (.const (.bool true)) (.tmp 61)) none <|
          .cond (.tmp 62)
            (.op (some 2) (.assign (.const (.bool false))) none <|
            .ret)
            (.done) <|
          .done) <|
      .op (some 63) (.binOp .add 3 (.tmp 46) (.const (.int .i64 1)) 3) none <|
      .op (some 46) (.move (.tmp 63)) none <|
      .done) <|
  .op (some 64) (.fieldAddr 47 (.tmp 1) 2) none <|
  .op (some 65) (.load 3 (.tmp 64)) none <|
  .op (some 66) (.call ⟨.value (.func 101), ⟨[.tmp 65, .const (.int .i64 1), .const (.int .i64 4)]⟩, ⟨[3, 3, 3]⟩⟩) none <|
  .op (some 67) (.move (.tmp 66)) none <|
  .op (some 68) (.fieldAddr 47 (.tmp 1) 3) (some (67, true)) <|
  .op (some 69) (.load 3 (.tmp 68)) (some (67, true)) <|
  .op (some 70) (.call ⟨.value (.func 101), ⟨[.tmp 69, .const (.int .i64 0), .const (.int .i64 9)]⟩, ⟨[3, 3, 3]⟩⟩) (some (67, true)) <|
  .op (some 71) (.pick (.tmp 67) (.tmp 70) (.const (.bool false))) none <|
  .op (some 72) (.move (.tmp 71)) none <|
  .op (some 73) (.fieldAddr 47 (.tmp 1) 4) (some (72, true)) <|
  .op (some 74) (.load 3 (.tmp 73)) (some (72, true)) <|
  .op (some 75) (.call ⟨.value (.func 101), ⟨[.tmp 74, .const (.int .i64 1), .const (.int .i64 9)]⟩, ⟨[3, 3, 3]⟩⟩) (some (72, true)) <|
  .op (some 76) (.pick (.tmp 72) (.tmp 75) (.const (.bool false))) none <|
  .op (some 77) (.move (.tmp 76)) none <|
  .op (some 78) (.fieldAddr 47 (.tmp 1) 5) (some (77, true)) <|
  .op (some 79) (.load 3 (.tmp 78)) (some (77, true)) <|
  .op (some 80) (.call ⟨.value (.func 101), ⟨[.tmp 79, .const (.int .i64 0), .const (.int .i64 20)]⟩, ⟨[3, 3, 3]⟩⟩) (some (77, true)) <|
  .op (some 81) (.pick (.tmp 77) (.tmp 80) (.const (.bool false))) none <|
  .op (some 82) (.move (.tmp 81)) none <|
  .op (some 83) (.fieldAddr 47 (.tmp 1) 6) (some (82, true)) <|
  .op (some 84) (.load 3 (.tmp 83)) (some (82, true)) <|
  .op (some 85) (.call ⟨.value (.func 101), ⟨[.tmp 84, .const (.int .i64 1), .const (.int .i64 30)]⟩, ⟨[3, 3, 3]⟩⟩) (some (82, true)) <|
  .op (some 86) (.pick (.tmp 82) (.tmp 85) (.const (.bool false))) none <|
  .op (some 2) (.assign (.tmp 86)) none <|
  .ret
theorem h114 : compF md0 Tryd.f114 = c114 := by kernel_rfl
theorem r114 : Tryd.f114.results.toList = [.tmp 2] := _root_.id (by kernel_rfl)
theorem nt114 : Tryd.f114.ntmps = 87 := by kernel_rfl
/-- impl.IsMap -/
theorem md_115 : md0 115 = false := rfl
def c115 : XC :=
  .op (some 1) (.box 48 (.tmp 0)) none <|
  .op (some 2) (.assign (.const (.bool false))) none <|
  .op (some 9) (.fieldAddr 48 (.tmp 1) 0) none <|
  .op (some 10) (.load 3 (.tmp 9)) none <|
  .op (some 11) (.call ⟨.value (.func 101), ⟨[.tmp 10, .const (.int .i64 1), .const (.int .i64 10)]⟩, ⟨[3, 3, 3]⟩⟩) none <|
  .op (some 12) (.unOp .not 4 (.tmp 11)) none <|
  .op (some 13) (.move (.tmp 12)) none <|
  .op (some 14) (.fieldAddr 48 (.tmp 1) 1) (some (13, false)) <|
  .op (some 15) (.load 3 (.tmp 14)) (some (13, false)) <|
  .op (some 16) (.call ⟨.value (.func 101), ⟨[.tmp 15, .const (.int .i64 1), .const (.int .i64 10)]⟩, ⟨[3, 3, 3]⟩⟩) (some (13, false)) <|
  .op (some 17) (.unOp .not 4 (.tmp 16)) (some (13, false)) <|
  .op (some 18) (.pick (.tmp 13) (.const (.bool true)) (.tmp 17)) none <|
  .op (some 19) (.move (.tmp 18)) none <|
  .op (some 20) (.fieldAddr 48 (.tmp 1) 2) (some (19, false)) <|
  .op (some 21) (.load 36 (.tmp 20)) (some (19, false)) <|
  .op (some 22) (.call ⟨.builtin .len, ⟨[.tmp 21]⟩, ⟨[36]⟩⟩) (some (19, false)) <|
  .op (some 23) (.fieldAddr 48 (.tmp 1) 0) (some (19, false)) <|
  .op (some 24) (.load 3 (.tmp 23)) (some (19, false)) <|
  .op (some 25) (.fieldAddr 48 (.tmp 1) 1) (some (19, false)) <|
  .op (some 26) (.load 3 (.tmp 25)) (some (19, false)) <|
  .op (some 27) (.binOp .mul 3 (.tmp 24) (.tmp 26) 3) (some (19, false)) <|
  .op (some 28) (.binOp .neq 3 (.tmp 22) (.tmp 27) 3) (some (19, false)) <|
  .op (some 29) (.pick (.tmp 19) (.const (.bool true)) (.tmp 28)) none <|
  .cond (.tmp 29)
    (.op (some 2) (.assign (.const (.bool false))) none <|
      .ret)
    (.done) <|
  .op (some 30) (.fieldAddr 48 (.tmp 1) 2) none <|
  .op (some 31) (.load 36 (.tmp 30)) none <|
  .op (some 32) (.call ⟨.builtin .len, ⟨[.tmp 31]⟩, ⟨[36]⟩⟩) none <|
  .op (some 33) (.move (.const (.int .i64 0))) none <|
  .block 0
    (.loop <|
      .op (some 34) (.binOp .lss 3 (.tmp 33) (.tmp 32) 3) none <|
      .cond (.tmp 34)
        (.done)
        (.exit 0) <|
      .block 1
        (.op (some 35) (.indexAddr 36 (.tmp 31) (.tmp 33)) none <|
          .op (some 36) (.load 3 (.tmp 35)) none <|
          .op (some 4) (.assign (.tmp 36)) none <|
          .op (some 37) (.move (.tmp 4)) none <|
          .op (some 38) (.call ⟨.value (.func 76), ⟨[.tmp 37, .const (.int .i64 6)]⟩, ⟨[3, 3]⟩⟩) none <|
          .op (some 39) (.unOp .not 4 (.tmp 38)) none <|
          .cond (.tmp 39)
            (.op (some 2) (.assign (.const (.bool false))) none <|
            .ret)
            (.done) <|
          .done) <|
      .op (some 40) (.binOp .add 3 (.tmp 33) (.const (.int .i64 1)) 3) none <|
      .op (some 33) (.move (.tmp 40)) none <|
      .done) <|
  .op (some 41) (.fieldAddr 48 (.tmp 1) 3) none <|
  .op (some 42) (.load 36 (.tmp 41)) none <|
  .op (some 43) (.fieldAddr 48 (.tmp 1) 4) none <|
  .op (some 44) (.load 36 (.tmp 43)) none <|
  .op (some 45) (.buildSlice 22 2 ⟨[(0, .tmp 42), (1, .tmp 44)]⟩) none <|
  .op (some 46) (.call ⟨.builtin .len, ⟨[.tmp 45]⟩, ⟨[22]⟩⟩) none <|
  .op (some 47) (.move (.const (.int .i64 0))) none <|
  .block 2
    (.loop <|
      .op (some 48) (.binOp .lss 3 (.tmp 47) (.tmp 46) 3) none <|
      .cond (.tmp 48)
        (.done)
        (.exit 2) <|
      .block 3
        (.op (some 49) (.indexAddr 22 (.tmp 45) (.tmp 47)) none <|
          .op (some 50) (.load 36 (.tmp 49)) none <|
          .op (some 6) (.assign (.tmp 50)) none <|
          .op (some 51) (.move (.tmp 6)) none <|
          .op (some 52) (.call ⟨.value (.func 135), ⟨[.tmp 51]⟩, ⟨[36]⟩⟩) none <|
          .op (some 53) (.unOp .not 4 (.tmp 52)) none <|
          .cond (.tmp 53)
            (.op (some 2) (.assign (.const (.bool false))) none <|
            .ret)
            (.done) <|
          .op (some 54) (.move (.tmp 6)) none <|
          .op (some 55) (.call ⟨.builtin .len, ⟨[.tmp 54]⟩, ⟨[36]⟩⟩) none <|
          .op (some 56) (.move (.const (.int .i64 0))) none <|
          .block 4
            (.loop <|
            .op (some 57) (.binOp .lss 3 (.tmp 56) (.tmp 55) 3) none <|
            .cond (.tmp 57)
              (.done)
              (.exit 4) <|
            .block 5
              (.op (some 58) (.indexAddr 36 (.tmp 54) (.tmp 56)) none <|
            .op (some 59) (.load 3 (.tmp 58)) none <|
            .op (some 8) (.assign (.tmp 59)) none <|
            .op (some 60) (.load 48 (.tmp 1)) none <|
            .op (some 61) (.move (.tmp 8)) none <|
            .op (some 62) (.call ⟨.value (.func 156), ⟨[.tmp 60, .tmp 61]⟩, ⟨[48, 3]⟩⟩) none <|
            .op (some 63) (.unOp .not 4 (.tmp 62)) none <|
            .cond (.tmp 63)
              (.op (some 2) (.assign (.const (.bool false))) none <|
            .ret)
              (.done) <|
            .done) <|
            .op (some 64) (.binOp .add 3 (.tmp 56) (.const (.int .i64 1)) 3) none <|
            .op (some 56) (.move (.tmp 64)) none <|
            .done) <|
          .done) <|
      .op (some 65) (.binOp .add 3 (.tmp 47) (.const (.int .i64 1)) 3) none <|
      .op (some 47) (.move (.tmp 65)) none <|
      .done) <|
  .op (some 2) (.assign (.const (.bool true))) none <|
  .ret
theorem h115 : compF md0 Tryd.f115 = c115 := by kernel_rfl
theorem r115 : Tryd.f115.results.toList = [.tmp 2] := _root_.id (by kernel_rfl)
theorem nt115 : Tryd.f115.ntmps = 66 := by kernel_rfl
/-- slices.ContainsFunc[[]int,int] -/
theorem md_116 : md0 116 = false := rfl
def c116 : XC :=
  .op (some 4) (.assign (.const (.bool false))) none <|
  .op (some 5) (.move (.tmp 0)) none <|
  .op (some 6) (.move (.tmp 1)) none <|
  .op (some 7) (.call ⟨.value (.func 157), ⟨[.tmp 5, .tmp 6]⟩, ⟨[36, 118]⟩⟩) none <|
  .op (some 8) (.binOp .geq 3 (.tmp 7) (.const (.int .i64 0)) 3) none <|
  .op (some 4) (.assign (.tmp 8)) none <|
  .ret
theorem h116 : compF md0 Tryd.f116 = c116 := by kernel_rfl
theorem r116 : Tryd.f116.results.toList = [.tmp 4] := _root_.id (by kernel_rfl)
theorem nt116 : Tryd.f116.ntmps = 9 := by kernel_rfl
/-- impl.IsBoard$1 -/
theorem md_117 : md0 117 = false := rfl
def c117 : XC :=
  .op (some 3) (.assign (.const (.bool false))) none <|
  .op (some 4) (.move (.tmp 0)) none <|
  .op (some 5) (.fieldAddr 50 (.tmp 1) 0) none <|
  .op (some 6) (.fieldAddr 47 (.tmp 5) 0) none <|
  .op (some 7) (.load 44 (.tmp 6)) none <|
  .op (some 8) (.call ⟨.builtin .len, ⟨[.tmp 7]⟩, ⟨[44]⟩⟩) none <|
  .op (some 9) (.binOp .geq 3 (.tmp 4) (.tmp 8) 3) none <|
  .op (some 3) (.assign (.tmp 9)) none <|
  .ret
theorem h117 : compF md0 Tryd.f117 = c117 := by kernel_rfl
theorem r117 : Tryd.f117.results.toList = [.tmp 3] := _root_.id (by kernel_rfl)
theorem nt117 : Tryd.f117.ntmps = 10 := by kernel_rfl
/-- impl.sizeOf -/
theorem md_119 : md0 119 = false := rfl
def c119 : XC :=
  .op (some 1) (.box 50 (.tmp 0)) none <|
  .op (some 2) (.assign (.const (.int .i64 0))) none <|
  .op (some 3) (.fieldAddr 50 (.tmp 1) 1) none <|
  .op (some 4) (.fieldAddr 48 (.tmp 3) 2) none <|
  .op (some 5) (.load 36 (.tmp 4)) none <|
  .op (some 6) (.call ⟨.builtin .len, ⟨[.tmp 5]⟩, ⟨[36]⟩⟩) none <|
  .op (some 2) (.assign (.tmp 6)) none <|
  .ret
theorem h119 : compF md0 Tryd.f119 = c119 := by kernel_rfl
theorem r119 : Tryd.f119.results.toList = [.tmp 2] := _root_.id (by kernel_rfl)
theorem nt119 : Tryd.f119.ntmps = 7 := by kernel_rfl
/-- impl.increasing -/
theorem md_135 : md0 135 = false := rfl
def c135 : XC :=
  .op (some 2) (.assign (.const (.bool false))) none <|
  .op (some 3) (.assign (.const (.int .i64 1))) none <|
  .block 0
    (.loop <|
      .op (some 4) (.move (.tmp 3)) none <|
      .op (some 5) (.move (.tmp 0)) none <|
      .op (some 6) (.call ⟨.builtin .len, ⟨[.tmp 5]⟩, ⟨[36]⟩⟩) none <|
      .op (some 7) (.binOp .lss 3 (.tmp 4) (.tmp 6) 3) none <|
      .cond (.tmp 7)
        (.done)
        (.exit 0) <|
      .block 1
        (.op (some 10) (.move (.tmp 0)) none <|
          .op (some 11) (.move (.tmp 3)) none <|
          .op (some 12) (.binOp .sub 3 (.tmp 11) (.const (.int .i64 1)) 3) none <|
          .op (some 13) (.indexAddr 36 (.tmp 10) (.tmp 12)) none <|
          .op (some 14) (.load 3 (.tmp 13)) none <|
          .op (some 15) (.move (.tmp 0)) none <|
          .op (some 16) (.move (.tmp 3)) none <|
          .op (some 17) (.indexAddr 36 (.tmp 15) (.tmp 16)) none <|
          .op (some 18) (.load 3 (.tmp 17)) none <|
          .op (some 19) (.binOp .geq 3 (.tmp 14) (.tmp 18) 3) none <|
          .cond (.tmp 19)
            (.op (some 2) (.assign (.const (.bool false))) none <|
            .ret)
            (.done) <|
          .done) <|
      .op (some 8) (.move (.tmp 3)) none <|
      .op (some 9) (.binOp .add 3 (.tmp 8) (.const (.int .i64 1)) 3) none <|
      .op (some 3) (.assign (.tmp 9)) none <|
      .done) <|
  .op (some 2) (.assign (.const (.bool true))) none <|
  .ret
theorem h135 : compF md0 Tryd.f135 = c135 := by kernel_rfl
theorem r135 : Tryd.f135.results.toList = [.tmp 2] := _root_.id (by kernel_rfl)
theorem nt135 : Tryd.f135.ntmps = 20 := by kernel_rfl
/-- laws.szTerrain -/
theorem md_142 : md0 142 = false := rfl
def c142 : XC :=
  .op (some 2) (.box 173 (.tmp 0)) none <|
  .op (some 4) (.assign (.const (.int .i64 0))) none <|
  .op (some 5) (.move (.tmp 1)) none <|
  .op (some 6) (.fieldAddr 173 (.tmp 2) 0) none <|
  .op (some 7) (.load 9 (.tmp 6)) none <|
  .op (some 8) (.call ⟨.builtin .len, ⟨[.tmp 7]⟩, ⟨[9]⟩⟩) none <|
  .op (some 9) (.binOp .sub 3 (.tmp 5) (.tmp 8) 3) none <|
  .op (some 1) (.assign (.tmp 9)) none <|
  .op (some 10) (.move (.tmp 1)) none <|
  .op (some 11) (.binOp .lss 3 (.tmp 10) (.const (.int .i64 0)) 3) none <|
  .cond (.tmp 11)
    (.op (some 4) (.assign (.const (.int .i64 (-1)))) none <|
      .ret)
    (.done) <|
  .op (some 12) (.fieldAddr 173 (.tmp 2) 1) none <|
  .op (some 13) (.load 36 (.tmp 12)) none <|
  .op (some 14) (.move (.tmp 1)) none <|
  .op (some 15) (.call ⟨.value (.func 65), ⟨[.tmp 13, .tmp 14]⟩, ⟨[36, 3]⟩⟩) none <|
  .op (some 1) (.assign (.tmp 15)) none <|
  .op (some 16) (.move (.tmp 1)) none <|
  .op (some 17) (.binOp .lss 3 (.tmp 16) (.const (.int .i64 0)) 3) none <|
  .cond (.tmp 17)
    (.op (some 4) (.assign (.const (.int .i64 (-1)))) none <|
      .ret)
    (.done) <|
  .op (some 18) (.move (.tmp 1)) none <|
  .op (some 4) (.assign (.tmp 18)) none <|
  .ret
theorem h142 : compF md0 Tryd.f142 = c142 := by kernel_rfl
theorem r142 : Tryd.f142.results.toList = [.tmp 4] := _root_.id (by kernel_rfl)
theorem nt142 : Tryd.f142.ntmps = 19 := by kernel_rfl
/-- laws.szKind -/
theorem md_143 : md0 143 = false := rfl
def c143 : XC :=
  .op (some 2) (.box 175 (.tmp 0)) none <|
  .op (some 4) (.assign (.const (.int .i64 0))) none <|
  .op (some 5) (.move (.tmp 1)) none <|
  .op (some 6) (.fieldAddr 175 (.tmp 2) 0) none <|
  .op (some 7) (.load 9 (.tmp 6)) none <|
  .op (some 8) (.call ⟨.builtin .len, ⟨[.tmp 7]⟩, ⟨[9]⟩⟩) none <|
  .op (some 9) (.binOp .sub 3 (.tmp 5) (.tmp 8) 3) none <|
  .op (some 1) (.assign (.tmp 9)) none <|
  .op (some 10) (.move (.tmp 1)) none <|
  .op (some 11) (.binOp .lss 3 (.tmp 10) (.const (.int .i64 0)) 3) none <|
  .cond (.tmp 11)
    (.op (some 4) (.assign (.const (.int .i64 (-1)))) none <|
      .ret)
    (.done) <|
  .op (some 12) (.move (.tmp 1)) none <|
  .op (some 4) (.assign (.tmp 12)) none <|
  .ret
theorem h143 : compF md0 Tryd.f143 = c143 := by kernel_rfl
theorem r143 : Tryd.f143.results.toList = [.tmp 4] := _root_.id (by kernel_rfl)
theorem nt143 : Tryd.f143.ntmps = 13 := by kernel_rfl
/-- laws.toTerrain -/
theorem md_144 : md0 144 = false := rfl
def c144 : XC :=
  .op (some 1) (.box 173 (.tmp 0)) none <|
  .op (some 2) (.alloc 176) none <|
  .op (some 3) (.alloc 176) none <|
  .op (some 4) (.fieldAddr 173 (.tmp 1) 0) none <|
  .op (some 5) (.load 9 (.tmp 4)) none <|
  .op (some 6) (.fieldAddr 176 (.tmp 3) 0) none <|
  .op none (.store 9 (.tmp 6) (.tmp 5)) none <|
  .op (some 7) (.fieldAddr 173 (.tmp 1) 1) none <|
  .op (some 8) (.load 36 (.tmp 7)) none <|
  .op (some 9) (.call ⟨.value (.func 68), ⟨[.tmp 8]⟩, ⟨[36]⟩⟩) none <|
  .op (some 10) (.fieldAddr 176 (.tmp 3) 1) none <|
  .op none (.store 36 (.tmp 10) (.tmp 9)) none <|
  .op (some 11) (.fieldAddr 173 (.tmp 1) 2) none <|
  .op (some 12) (.load 3 (.tmp 11)) none <|
  .op (some 13) (.fieldAddr 176 (.tmp 3) 2) none <|
  .op none (.store 3 (.tmp 13) (.tmp 12)) none <|
  .op (some 14) (.fieldAddr 173 (.tmp 1) 3) none <|
  .op (some 15) (.load 3 (.tmp 14)) none <|
  .op (some 16) (.fieldAddr 176 (.tmp 3) 3) none <|
  .op none (.store 3 (.tmp 16) (.tmp 15)) none <|
  .op (some 17) (.fieldAddr 173 (.tmp 1) 4) none <|
  .op (some 18) (.load 4 (.tmp 17)) none <|
  .op (some 19) (.fieldAddr 176 (.tmp 3) 4) none <|
  .op none (.store 4 (.tmp 19) (.tmp 18)) none <|
  .op (some 20) (.load 176 (.tmp 3)) none <|
  .op none (.store 176 (.tmp 2) (.tmp 20)) none <|
  .ret
theorem h144 : compF md0 Tryd.f144 = c144 := by kernel_rfl
theorem r144 : Tryd.f144.results.toList = [.cell 2 176] := _root_.id (by kernel_rfl)
theorem nt144 : Tryd.f144.ntmps = 21 := by kernel_rfl
/-- laws.toKind -/
theorem md_145 : md0 145 = false := rfl
def c145 : XC :=
  .op (some 1) (.box 175 (.tmp 0)) none <|
  .op (some 2) (.alloc 122) none <|
  .op (some 3) (.alloc 122) none <|
  .op (some 4) (.fieldAddr 175 (.tmp 1) 0) none <|
  .op (some 5) (.load 9 (.tmp 4)) none <|
  .op (some 6) (.fieldAddr 122 (.tmp 3) 0) none <|
  .op none (.store 9 (.tmp 6) (.tmp 5)) none <|
  .op (some 7) (.fieldAddr 175 (.tmp 1) 1) none <|
  .op (some 8) (.load 3 (.tmp 7)) none <|
  .op (some 9) (.fieldAddr 122 (.tmp 3) 1) none <|
  .op none (.store 3 (.tmp 9) (.tmp 8)) none <|
  .op (some 10) (.fieldAddr 175 (.tmp 1) 2) none <|
  .op (some 11) (.load 3 (.tmp 10)) none <|
  .op (some 12) (.fieldAddr 122 (.tmp 3) 2) none <|
  .op none (.store 3 (.tmp 12) (.tmp 11)) none <|
  .op (some 13) (.fieldAddr 175 (.tmp 1) 3) none <|
  .op (some 14) (.load 3 (.tmp 13)) none <|
  .op (some 15) (.fieldAddr 122 (.tmp 3) 3) none <|
  .op none (.store 3 (.tmp 15) (.tmp 14)) none <|
  .op (some 16) (.fieldAddr 175 (.tmp 1) 4) none <|
  .op (some 17) (.load 4 (.tmp 16)) none <|
  .op (some 18) (.fieldAddr 122 (.tmp 3) 4) none <|
  .op none (.store 4 (.tmp 18) (.tmp 17)) none <|
  .op (some 19) (.fieldAddr 175 (.tmp 1) 5) none <|
  .op (some 20) (.load 3 (.tmp 19)) none <|
  .op (some 21) (.fieldAddr 122 (.tmp 3) 5) none <|
  .op none (.store 3 (.tmp 21) (.tmp 20)) none <|
  .op (some 22) (.load 122 (.tmp 3)) none <|
  .op none (.store 122 (.tmp 2) (.tmp 22)) none <|
  .ret
theorem h145 : compF md0 Tryd.f145 = c145 := by kernel_rfl
theorem r145 : Tryd.f145.results.toList = [.cell 2 122] := _root_.id (by kernel_rfl)
theorem nt145 : Tryd.f145.ntmps = 23 := by kernel_rfl
/-- laws.eqTerrain -/
theorem md_146 : md0 146 = false := rfl
def c146 : XC :=
  .op (some 2) (.box 176 (.tmp 0)) none <|
  .op (some 3) (.box 176 (.tmp 1)) none <|
  .op (some 4) (.assign (.const (.bool false))) none <|
  .op (some 5) (.fieldAddr 176 (.tmp 2) 0) none <|
  .op (some 6) (.load 9 (.tmp 5)) none <|
  .op (some 7) (.fieldAddr 176 (.tmp 3) 0) none <|
  .op (some 8) (.load 9 (.tmp 7)) none <|
  .op (some 9) (.binOp .neq 9 (.tmp 6) (.tmp 8) 9) none <|
  .cond (.tmp 9)
    (.op (some 4) (.assign (.const (.bool false))) none <|
      .ret)
    (.done) <|
  .op (some 10) (.fieldAddr 176 (.tmp 2) 1) none <|
  .op (some 11) (.load 36 (.tmp 10)) none <|
  .op (some 12) (.fieldAddr 176 (.tmp 3) 1) none <|
  .op (some 13) (.load 36 (.tmp 12)) none <|
  .op (some 14) (.call ⟨.value (.func 71), ⟨[.tmp 11, .tmp 13]⟩, ⟨[36, 36]⟩⟩) none <|
  .op (some 15) (.unOp .not 4 (.tmp 14)) none <|
  .cond (.tmp 15)
    (.op (some 4) (.assign (.const (.bool false))) none <|
      .ret)
    (.done) <|
  .op (some 16) (.fieldAddr 176 (.tmp 2) 2) none <|
  .op (some 17) (.load 3 (.tmp 16)) none <|
  .op (some 18) (.fieldAddr 176 (.tmp 3) 2) none <|
  .op (some 19) (.load 3 (.tmp 18)) none <|
  .op (some 20) (.binOp .neq 3 (.tmp 17) (.tmp 19) 3) none <|
  .cond (.tmp 20)
    (.op (some 4) (.assign (.const (.bool false))) none <|
      .ret)
    (.done) <|
  .op (some 21) (.fieldAddr 176 (.tmp 2) 3) none <|
  .op (some 22) (.load 3 (.tmp 21)) none <|
  .op (some 23) (.fieldAddr 176 (.tmp 3) 3) none <|
  .op (some 24) (.load 3 (.tmp 23)) none <|
  .op (some 25) (.binOp .neq 3 (.tmp 22) (.tmp 24) 3) none <|
  .cond (.tmp 25)
    (.op (some 4) (.assign (.const (.bool false))) none <|
      .ret)
    (.done) <|
  .op (some 26) (.fieldAddr 176 (.tmp 2) 4) none <|
  .op (some 27) (.load 4 (.tmp 26)) none <|
  .op (some 28) (.fieldAddr 176 (.tmp 3) 4) none <|
  .op (some 29) (.load 4 (.tmp 28)) none <|
  .op (some 30) (.binOp .neq 4 (.tmp 27) (.tmp 29) 4) none <|
  .cond (.tmp 30)
    (.op (some 4) (.assign (.const (.bool false))) none <|
      .ret)
    (.done) <|
  .op (some 4) (.assign (.const (.bool true))) none <|
  .ret
theorem h146 : compF md0 Tryd.f146 = c146 := by kernel_rfl
theorem r146 : Tryd.f146.results.toList = [.tmp 4] := _root_.id (by kernel_rfl)
theorem nt146 : Tryd.f146.ntmps = 31 := by kernel_rfl
/-- laws.eqKind -/
theorem md_147 : md0 147 = false := rfl
def c147 : XC :=
  .op (some 2) (.box 122 (.tmp 0)) none <|
  .op (some 3) (.box 122 (.tmp 1)) none <|
  .op (some 4) (.assign (.const (.bool false))) none <|
  .op (some 5) (.fieldAddr 122 (.tmp 2) 0) none <|
  .op (some 6) (.load 9 (.tmp 5)) none <|
  .op (some 7) (.fieldAddr 122 (.tmp 3) 0) none <|
  .op (some 8) (.load 9 (.tmp 7)) none <|
  .op (some 9) (.binOp .neq 9 (.tmp 6) (.tmp 8) 9) none <|
  .cond (.tmp 9)
    (.op (some 4) (.assign (.const (.bool false))) none <|
      .ret)
    (.done) <|
  .op (some 10) (.fieldAddr 122 (.tmp 2) 1) none <|
  .op (some 11) (.load 3 (.tmp 10)) none <|
  .op (some 12) (.fieldAddr 122 (.tmp 3) 1) none <|
  .op (some 13) (.load 3 (.tmp 12)) none <|
  .op (some 14) (.binOp .neq 3 (.tmp 11) (.tmp 13) 3) none <|
  .cond (.tmp 14)
    (.op (some 4) (.assign (.const (.bool false))) none <|
      .ret)
    (.done) <|
  .op (some 15) (.fieldAddr 122 (.tmp 2) 2) none <|
  .op (some 16) (.load 3 (.tmp 15)) none <|
  .op (some 17) (.fieldAddr 122 (.tmp 3) 2) none <|
  .op (some 18) (.load 3 (.tmp 17)) none <|
  .op (some 19) (.binOp .neq 3 (.tmp 16) (.tmp 18) 3) none <|
  .cond (.tmp 19)
    (.op (some 4) (.assign (.const (.bool false))) none <|
      .ret)
    (.done) <|
  .op (some 20) (.fieldAddr 122 (.tmp 2) 3) none <|
  .op (some 21) (.load 3 (.tmp 20)) none <|
  .op (some 22) (.fieldAddr 122 (.tmp 3) 3) none <|
  .op (some 23) (.load 3 (.tmp 22)) none <|
  .op (some 24) (.binOp .neq 3 (.tmp 21) (.tmp 23) 3) none <|
  .cond (.tmp 24)
    (.op (some 4) (.assign (.const (.bool false))) none <|
      .ret)
    (.done) <|
  .op (some 25) (.fieldAddr 122 (.tmp 2) 4) none <|
  .op (some 26) (.load 4 (.tmp 25)) none <|
  .op (some 27) (.fieldAddr 122 (.tmp 3) 4) none <|
  .op (some 28) (.load 4 (.tmp 27)) none <|
  .op (some 29) (.binOp .neq 4 (.tmp 26) (.tmp 28) 4) none <|
  .cond (.tmp 29)
    (.op (some 4) (.assign (.const (.bool false))) none <|
      .ret)
    (.done) <|
  .op (some 30) (.fieldAddr 122 (.tmp 2) 5) none <|
  .op (some 31) (.load 3 (.tmp 30)) none <|
  .op (some 32) (.fieldAddr 122 (.tmp 3) 5) none <|
  .op (some 33) (.load 3 (.tmp 32)) none <|
  .op (some 34) (.binOp .neq 3 (.tmp 31) (.tmp 33) 3) none <|
  .cond (.tmp 34)
    (.op (some 4) (.assign (.const (.bool false))) none <|
      .ret)
    (.done) <|
  .op (some 4) (.assign (.const (.bool true))) none <|
  .ret
theorem h147 : compF md0 Tryd.f147 = c147 := by kernel_rfl
theorem r147 : Tryd.f147.results.toList = [.tmp 4] := _root_.id (by kernel_rfl)
theorem nt147 : Tryd.f147.ntmps = 35 := by kernel_rfl
/-- spec.rName -/
theorem md_148 : md0 148 = false := rfl
def c148 : XC :=
  .op (some 2) (.assign (.const (.bool false))) none <|
  .op (some 3) (.assign (.const (.int .i64 0))) none <|
  .block 0
    (.loop <|
      .op (some 4) (.move (.tmp 3)) none <|
      .op (some 5) (.move (.tmp 0)) none <|
      .op (some 6) (.call ⟨.builtin .len, ⟨[.tmp 5]⟩, ⟨[9]⟩⟩) none <|
      .op (some 7) (.binOp .lss 3 (.tmp 4) (.tmp 6) 3) none <|
      .cond (.tmp 7)
        (.done)
        (.exit 0) <|
      .block 1
        (.op (some 10) (.move (.tmp 0)) none <|
          .op (some 11) (.move (.tmp 3)) none <|
          .op (some 12) (.index 9 (.tmp 10) (.tmp 11)) none <|
          .op (some 13) (.binOp .lss 5 (.tmp 12) (.const (.int .u8 97)) 5) none <|
          .op (some 14) (.move (.tmp 13)) none <|
          .op (some 15) (.move (.tmp 0)) (some (14, false)) <|
          .op (some 16) (.move (.tmp 3)) (some (14, false)) <|
          .op (some 17) (.index 9 (.tmp 15) (.tmp 16)) (some (14, false)) <|
          .op (some 18) (.binOp .gtr 5 (.tmp 17) (.const (.int .u8 122)) 5) (some (14, false)) <|
          .op (some 19) (.pick (.tmp 14) (.const (.bool true)) (.tmp 18)) none <|
          .cond (.tmp 19)
            (.op (some 2) (.assign (.const (.bool false))) none <|
            .ret)
            (.done) <|
          .done) <|
      .op (some 8) (.move (.tmp 3)) none <|
      .op (some 9) (.binOp .add 3 (.tmp 8) (.const (.int .i64 1)) 3) none <|
      .op (some 3) (.assign (.tmp 9)) none <|
      .done) <|
  .op (some 20) (.move (.tmp 0)) none <|
  .op (some 21) (.call ⟨.builtin .len, ⟨[.tmp 20]⟩, ⟨[9]⟩⟩) none <|
  .op (some 22) (.call ⟨.value (.func 75), ⟨[.tmp 21, .const (.int .i64 1), .const (.int .i64 8)]⟩, ⟨[3, 3, 3]⟩⟩) none <|
  .op (some 2) (.assign (.tmp 22)) none <|
  .ret
theorem h148 : compF md0 Tryd.f148 = c148 := by kernel_rfl
theorem r148 : Tryd.f148.results.toList = [.tmp 2] := _root_.id (by kernel_rfl)
theorem nt148 : Tryd.f148.ntmps = 23 := by kernel_rfl
/-- spec.rTerrain -/
theorem md_149 : md0 149 = false := rfl
def c149 : XC :=
  .op (some 4) (.assign (.const (.int .i64 0))) none <|
  .op (some 7) (.move (.tmp 0)) none <|
  .op (some 8) (.call ⟨.builtin .len, ⟨[.tmp 7]⟩, ⟨[44]⟩⟩) none <|
  .op (some 9) (.move (.const (.int .i64 0))) none <|
  .block 0
    (.loop <|
      .op (some 10) (.binOp .lss 3 (.tmp 9) (.tmp 8) 3) none <|
      .cond (.tmp 10)
        (.done)
        (.exit 0) <|
      .block 1
        (.op (some 11) (.move (.tmp 9)) none <|
          .op (some 12) (.indexAddr 44 (.tmp 7) (.tmp 9)) none <|
          .op (some 13) (.load 176 (.tmp 12)) none <|
          .op (some 6) (.alloc 176) none <|
          .op (some 5) (.assign (.tmp 11)) none <|
          .op none (.store 176 (.tmp 6) (.tmp 13)) none <|
          .op (some 14) (.fieldAddr 176 (.tmp 6) 0) none <|
          .op (some 15) (.load 9 (.tmp 14)) none <|
          .op (some 16) (.move (.tmp 1)) none <|
          .op (some 17) (.binOp .eql 9 (.tmp 15) (.tmp 16) 9) none <|
          .cond (.tmp 17)
            (.op (some 18) (.move (.tmp 5)) none <|
            .op (some 4) (.assign (.tmp 18)) none <|
            .ret)
            (.done) <|
          .done) <|
      .op (some 19) (.binOp .add 3 (.tmp 9) (.const (.int .i64 1)) 3) none <|
      .op (some 9) (.move (.tmp 19)) none <|
      .done) <|
  .op (some 4) (.assign (.const (.int .i64 (-1)))) none <|
  .ret
theorem h149 : compF md0 Tryd.f149 = c149 := by kernel_rfl
theorem r149 : Tryd.f149.results.toList = [.tmp 4] := _root_.id (by kernel_rfl)
theorem nt149 : Tryd.f149.ntmps = 20 := by kernel_rfl
/-- spec.rKind -/
theorem md_150 : md0 150 = false := rfl
def c150 : XC :=
  .op (some 4) (.assign (.const (.int .i64 0))) none <|
  .op (some 7) (.move (.tmp 0)) none <|
  .op (some 8) (.call ⟨.builtin .len, ⟨[.tmp 7]⟩, ⟨[45]⟩⟩) none <|
  .op (some 9) (.move (.const (.int .i64 0))) none <|
  .block 0
    (.loop <|
      .op (some 10) (.binOp .lss 3 (.tmp 9) (.tmp 8) 3) none <|
      .cond (.tmp 10)
        (.done)
        (.exit 0) <|
      .block 1
        (.op (some 11) (.move (.tmp 9)) none <|
          .op (some 12) (.indexAddr 45 (.tmp 7) (.tmp 9)) none <|
          .op (some 13) (.load 122 (.tmp 12)) none <|
          .op (some 6) (.alloc 122) none <|
          .op (some 5) (.assign (.tmp 11)) none <|
          .op none (.store 122 (.tmp 6) (.tmp 13)) none <|
          .op (some 14) (.fieldAddr 122 (.tmp 6) 0) none <|
          .op (some 15) (.load 9 (.tmp 14)) none <|
          .op (some 16) (.move (.tmp 1)) none <|
          .op (some 17) (.binOp .eql 9 (.tmp 15) (.tmp 16) 9) none <|
          .cond (.tmp 17)
            (.op (some 18) (.move (.tmp 5)) none <|
            .op (some 4) (.assign (.tmp 18)) none <|
            .ret)
            (.done) <|
          .done) <|
      .op (some 19) (.binOp .add 3 (.tmp 9) (.const (.int .i64 1)) 3) none <|
      .op (some 9) (.move (.tmp 19)) none <|
      .done) <|
  .op (some 4) (.assign (.const (.int .i64 (-1)))) none <|
  .ret
theorem h150 : compF md0 Tryd.f150 = c150 := by kernel_rfl
theorem r150 : Tryd.f150.results.toList = [.tmp 4] := _root_.id (by kernel_rfl)
theorem nt150 : Tryd.f150.ntmps = 20 := by kernel_rfl
/-- spec.mEdges -/
theorem md_151 : md0 151 = false := rfl
def c151 : XC :=
  .op (some 2) (.box 48 (.tmp 0)) none <|
  .op (some 4) (.assign (.const (.bool false))) none <|
  .op (some 7) (.move (.tmp 1)) none <|
  .op (some 8) (.call ⟨.builtin .len, ⟨[.tmp 7]⟩, ⟨[36]⟩⟩) none <|
  .op (some 9) (.move (.const (.int .i64 0))) none <|
  .block 0
    (.loop <|
      .op (some 10) (.binOp .lss 3 (.tmp 9) (.tmp 8) 3) none <|
      .cond (.tmp 10)
        (.done)
        (.exit 0) <|
      .block 1
        (.op (some 11) (.indexAddr 36 (.tmp 7) (.tmp 9)) none <|
          .op (some 12) (.load 3 (.tmp 11)) none <|
          .op (some 6) (.assign (.tmp 12)) none <|
          .op (some 13) (.move (.tmp 6)) none <|
          .op (some 14) (.load 48 (.tmp 2)) none <|
          .op (some 15) (.call ⟨.value (.func 107), ⟨[.tmp 14]⟩, ⟨[48]⟩⟩) none <|
          .op (some 16) (.binOp .mul 3 (.const (.int .i64 3)) (.tmp 15) 3) none <|
          .op (some 17) (.binOp .sub 3 (.tmp 16) (.const (.int .i64 1)) 3) none <|
          .op (some 18) (.call ⟨.value (.func 75), ⟨[.tmp 13, .const (.int .i64 0), .tmp 17]⟩, ⟨[3, 3, 3]⟩⟩) none <|
          .op (some 19) (.unOp .not 4 (.tmp 18)) none <|
          .op (some 20) (.move (.tmp 19)) none <|
          .op (some 21) (.load 48 (.tmp 2)) (some (20, false)) <|
          .op (some 22) (.move (.tmp 6)) (some (20, false)) <|
          .op (some 23) (.binOp .quo 3 (.tmp 22) (.const (.int .i64 3)) 3) (some (20, false)) <|
          .op (some 24) (.move (.tmp 6)) (some (20, false)) <|
          .op (some 25) (.binOp .rem 3 (.tmp 24) (.const (.int .i64 3)) 3) (some (20, false)) <|
          .op (some 26) (.call ⟨.value (.func 170), ⟨[.tmp 21, .tmp 23, .tmp 25]⟩, ⟨[48, 3, 3]⟩⟩) (some (20, false)) <|
          .op (some 27) (.binOp .lss 3 (.tmp 26) (.const (.int .i64 0)) 3) (some (20, false)) <|
          .op (some 28) (.pick (.tmp 20) (.const (.bool true)) (.tmp 27)) none <|
          .cond (.tmp 28)
            (.op (some 4) (.assign (.const (.bool false))) none <|
            .ret)
            (.done) <|
          .done) <|
      .op (some 29) (.binOp .add 3 (.tmp 9) (.const (.int .i64 1)) 3) none <|
      .op (some 9) (.move (.tmp 29)) none <|
      .done) <|
  .op (some 30) (.move (.tmp 1)) none <|
  .op (some 31) (.load 48 (.tmp 2)) none <|
  .op (some 32) (.call ⟨.value (.func 107), ⟨[.tmp 31]⟩, ⟨[48]⟩⟩) none <|
  .op (some 33) (.binOp .mul 3 (.const (.int .i64 3)) (.tmp 32) 3) none <|
  .op (some 34) (.binOp .sub 3 (.tmp 33) (.const (.int .i64 1)) 3) none <|
  .op (some 35) (.call ⟨.value (.func 162), ⟨[.tmp 30, .const (.int .i64 0), .tmp 34]⟩, ⟨[36, 3, 3]⟩⟩) none <|
  .op (some 4) (.assign (.tmp 35)) none <|
  .ret
theorem h151 : compF md0 Tryd.f151 = c151 := by kernel_rfl
theorem r151 : Tryd.f151.results.toList = [.tmp 4] := _root_.id (by kernel_rfl)
theorem nt151 : Tryd.f151.ntmps = 36 := by kernel_rfl
/-- impl.goodTerrain -/
theorem md_152 : md0 152 = false := rfl
def c152 : XC :=
  .op (some 2) (.box 176 (.tmp 0)) none <|
  .op (some 4) (.assign (.const (.bool false))) none <|
  .op (some 5) (.fieldAddr 176 (.tmp 2) 0) none <|
  .op (some 6) (.load 9 (.tmp 5)) none <|
  .op (some 7) (.call ⟨.value (.func 171), ⟨[.tmp 6]⟩, ⟨[9]⟩⟩) none <|
  .op (some 8) (.unOp .not 4 (.tmp 7)) none <|
  .op (some 9) (.move (.tmp 8)) none <|
  .op (some 10) (.fieldAddr 176 (.tmp 2) 1) (some (9, false)) <|
  .op (some 11) (.load 36 (.tmp 10)) (some (9, false)) <|
  .op (some 12) (.call ⟨.builtin .len, ⟨[.tmp 11]⟩, ⟨[36]⟩⟩) (some (9, false)) <|
  .op (some 13) (.move (.tmp 1)) (some (9, false)) <|
  .op (some 14) (.binOp .neq 3 (.tmp 12) (.tmp 13) 3) (some (9, false)) <|
  .op (some 15) (.pick (.tmp 9) (.const (.bool true)) (.tmp 14)) none <|
  .op (some 16) (.move (.tmp 15)) none <|
  .op (some 17) (.fieldAddr 176 (.tmp 2) 2) (some (16, false)) <|
  .op (some 18) (.load 3 (.tmp 17)) (some (16, false)) <|
  .op (some 19) (.call ⟨.value (.func 101), ⟨[.tmp 18, .const (.int .i64 (-3)), .const (.int .i64 3)]⟩, ⟨[3, 3, 3]⟩⟩) (some (16, false)) <|
  .op (some 20) (.unOp .not 4 (.tmp 19)) (some (16, false)) <|
  .op (some 21) (.pick (.tmp 16) (.const (.bool true)) (.tmp 20)) none <|
  .op (some 22) (.move (.tmp 21)) none <|
  .op (some 23) (.fieldAddr 176 (.tmp 2) 3) (some (22, false)) <|
  .op (some 24) (.load 3 (.tmp 23)) (some (22, false)) <|
  .op (some 25) (.call ⟨.value (.func 101), ⟨[.tmp 24, .const (.int .i64 0), .const (.int .i64 3)]⟩, ⟨[3, 3, 3]⟩⟩) (some (22, false)) <|
  .op (some 26) (.unOp .not 4 (.tmp 25)) (some (22, false)) <|
  .op (some 27) (.pick (.tmp 22) (.const (.bool true)) (.tmp 26)) none <|
  .cond (.tmp 27)
    (.op (some 4) (.assign (.const (.bool false))) none <|
      .ret)
    (.done) <|
  .op (some 28) (.fieldAddr 176 (.tmp 2) 1) none <|
  .op (some 29) (.load 36 (.tmp 28)) none <|
  .op (some 30) (.call ⟨.value (.func 116), ⟨[.tmp 29, .func 172]⟩, ⟨[36, 118]⟩⟩) none <|
  .op (some 31) (.unOp .not 4 (.tmp 30)) none <|
  .op (some 4) (.assign (.tmp 31)) none <|
  .ret
theorem h152 : compF md0 Tryd.f152 = c152 := by kernel_rfl
theorem r152 : Tryd.f152.results.toList = [.tmp 4] := _root_.id (by kernel_rfl)
theorem nt152 : Tryd.f152.ntmps = 32 := by kernel_rfl
/-- impl.terrainIndex -/
theorem md_153 : md0 153 = false := rfl
def c153 : XC :=
  .op (some 3) (.box 9 (.tmp 1)) none <|
  .op (some 4) (.assign (.const (.int .i64 0))) none <|
  .op (some 5) (.move (.tmp 0)) none <|
  .op (some 6) (.makeFunc (.func 174) ⟨[]⟩ ⟨[.tmp 3]⟩) none <|
  .op (some 7) (.call ⟨.value (.func 173), ⟨[.tmp 5, .tmp 6]⟩, ⟨[44, 205]⟩⟩) none <|
  .op (some 4) (.assign (.tmp 7)) none <|
  .ret
theorem h153 : compF md0 Tryd.f153 = c153 := by kernel_rfl
theorem r153 : Tryd.f153.results.toList = [.tmp 4] := _root_.id (by kernel_rfl)
theorem nt153 : Tryd.f153.ntmps = 8 := by kernel_rfl
/-- impl.goodKind -/
theorem md_154 : md0 154 = false := rfl
def c154 : XC :=
  .op (some 1) (.box 122 (.tmp 0)) none <|
  .op (some 2) (.assign (.const (.bool false))) none <|
  .op (some 3) (.fieldAddr 122 (.tmp 1) 0) none <|
  .op (some 4) (.load 9 (.tmp 3)) none <|
  .op (some 5) (.call ⟨.value (.func 171), ⟨[.tmp 4]⟩, ⟨[9]⟩⟩) none <|
  .op (some 6) (.move (.tmp 5)) none <|
  .op (some 7) (.fieldAddr 122 (.tmp 1) 1) (some (6, true)) <|
  .op (some 8) (.load 3 (.tmp 7)) (some (6, true)) <|
  .op (some 9) (.call ⟨.value (.func 101), ⟨[.tmp 8, .const (.int .i64 1), .const (.int .i64 9)]⟩, ⟨[3, 3, 3]⟩⟩) (some (6, true)) <|
  .op (some 10) (.pick (.tmp 6) (.tmp 9) (.const (.bool false))) none <|
  .op (some 11) (.move (.tmp 10)) none <|
  .op (some 12) (.fieldAddr 122 (.tmp 1) 2) (some (11, true)) <|
  .op (some 13) (.load 3 (.tmp 12)) (some (11, true)) <|
  .op (some 14) (.call ⟨.value (.func 101), ⟨[.tmp 13, .const (.int .i64 0), .const (.int .i64 9)]⟩, ⟨[3, 3, 3]⟩⟩) (some (11, true)) <|
  .op (some 15) (.pick (.tmp 11) (.tmp 14) (.const (.bool false))) none <|
  .op (some 16) (.move (.tmp 15)) none <|
  .op (some 17) (.fieldAddr 122 (.tmp 1) 3) (some (16, true)) <|
  .op (some 18) (.load 3 (.tmp 17)) (some (16, true)) <|
  .op (some 19) (.call ⟨.value (.func 101), ⟨[.tmp 18, .const (.int .i64 1), .const (.int .i64 4)]⟩, ⟨[3, 3, 3]⟩⟩) (some (16, true)) <|
  .op (some 20) (.pick (.tmp 16) (.tmp 19) (.const (.bool false))) none <|
  .op (some 21) (.move (.tmp 20)) none <|
  .op (some 22) (.fieldAddr 122 (.tmp 1) 5) (some (21, true)) <|
  .op (some 23) (.load 3 (.tmp 22)) (some (21, true)) <|
  .op (some 24) (.call ⟨.value (.func 101), ⟨[.tmp 23, .const (.int .i64 0), .const (.int .i64 4)]⟩, ⟨[3, 3, 3]⟩⟩) (some (21, true)) <|
  .op (some 25) (.pick (.tmp 21) (.tmp 24) (.const (.bool false))) none <|
  .op (some 2) (.assign (.tmp 25)) none <|
  .ret
theorem h154 : compF md0 Tryd.f154 = c154 := by kernel_rfl
theorem r154 : Tryd.f154.results.toList = [.tmp 2] := _root_.id (by kernel_rfl)
theorem nt154 : Tryd.f154.ntmps = 26 := by kernel_rfl
/-- impl.kindIndex -/
theorem md_155 : md0 155 = false := rfl
def c155 : XC :=
  .op (some 3) (.box 9 (.tmp 1)) none <|
  .op (some 4) (.assign (.const (.int .i64 0))) none <|
  .op (some 5) (.move (.tmp 0)) none <|
  .op (some 6) (.makeFunc (.func 176) ⟨[]⟩ ⟨[.tmp 3]⟩) none <|
  .op (some 7) (.call ⟨.value (.func 175), ⟨[.tmp 5, .tmp 6]⟩, ⟨[45, 186]⟩⟩) none <|
  .op (some 4) (.assign (.tmp 7)) none <|
  .ret
theorem h155 : compF md0 Tryd.f155 = c155 := by kernel_rfl
theorem r155 : Tryd.f155.results.toList = [.tmp 4] := _root_.id (by kernel_rfl)
theorem nt155 : Tryd.f155.ntmps = 8 := by kernel_rfl
/-- impl.isEdge -/
theorem md_156 : md0 156 = false := rfl
def c156 : XC :=
  .op (some 2) (.box 48 (.tmp 0)) none <|
  .op (some 4) (.assign (.const (.bool false))) none <|
  .op (some 5) (.move (.tmp 1)) none <|
  .op (some 6) (.fieldAddr 48 (.tmp 2) 0) none <|
  .op (some 7) (.load 3 (.tmp 6)) none <|
  .op (some 8) (.binOp .mul 3 (.const (.int .i64 3)) (.tmp 7) 3) none <|
  .op (some 9) (.fieldAddr 48 (.tmp 2) 1) none <|
  .op (some 10) (.load 3 (.tmp 9)) none <|
  .op (some 11) (.binOp .mul 3 (.tmp 8) (.tmp 10) 3) none <|
  .op (some 12) (.binOp .sub 3 (.tmp 11) (.const (.int .i64 1)) 3) none <|
  .op (some 13) (.call ⟨.value (.func 101), ⟨[.tmp 5, .const (.int .i64 0), .tmp 12]⟩, ⟨[3, 3, 3]⟩⟩) none <|
  .op (some 14) (.move (.tmp 13)) none <|
  .op (some 15) (.load 48 (.tmp 2)) (some (14, true)) <|
  .op (some 16) (.move (.tmp 1)) (some (14, true)) <|
  .op (some 17) (.binOp .quo 3 (.tmp 16) (.const (.int .i64 3)) 3) (some (14, true)) <|
  .op (some 18) (.move (.tmp 1)) (some (14, true)) <|
  .op (some 19) (.binOp .rem 3 (.tmp 18) (.const (.int .i64 3)) 3) (some (14, true)) <|
  .op (some 20) (.call ⟨.value (.func 177), ⟨[.tmp 15, .tmp 17, .tmp 19]⟩, ⟨[48, 3, 3]⟩⟩) (some (14, true)) <|
  .op (some 21) (.binOp .geq 3 (.tmp 20) (.const (.int .i64 0)) 3) (some (14, true)) <|
  .op (some 22) (.pick (.tmp 14) (.tmp 21) (.const (.bool false))) none <|
  .op (some 4) (.assign (.tmp 22)) none <|
  .ret
theorem h156 : compF md0 Tryd.f156 = c156 := by kernel_rfl
theorem r156 : Tryd.f156.results.toList = [.tmp 4] := _root_.id (by kernel_rfl)
theorem nt156 : Tryd.f156.ntmps = 23 := by kernel_rfl
/-- slices.IndexFunc[[]int,int] -/
theorem md_157 : md0 157 = false := rfl
def c157 : XC :=
  .op (some 4) (.assign (.const (.int .i64 0))) none <|
  .op (some 6) (.move (.tmp 0)) none <|
  .op (some 7) (.call ⟨.builtin .len, ⟨[.tmp 6]⟩, ⟨[36]⟩⟩) none <|
  .op (some 8) (.move (.const (.int .i64 0))) none <|
  .block 0
    (.loop <|
      .op (some 9) (.binOp .lss 3 (.tmp 8) (.tmp 7) 3) none <|
      .cond (.tmp 9)
        (.done)
        (.exit 0) <|
      .block 1
        (.op (some 10) (.move (.tmp 8)) none <|
          .op (some 5) (.assign (.tmp 10)) none <|
          .op (some 11) (.move (.tmp 1)) none <|
          .op (some 12) (.move (.tmp 0)) none <|
          .op (some 13) (.move (.tmp 5)) none <|
          .op (some 14) (.indexAddr 36 (.tmp 12) (.tmp 13)) none <|
          .op (some 15) (.load 3 (.tmp 14)) none <|
          .op (some 16) (.call ⟨.value (.tmp 11), ⟨[.tmp 15]⟩, ⟨[3]⟩⟩) none <|
          .cond (.tmp 16)
            (.op (some 17) (.move (.tmp 5)) none <|
            .op (some 4) (.assign (.tmp 17)) none <|
            .ret)
            (.done) <|
          .done) <|
      .op (some 18) (.binOp .add 3 (.tmp 8) (.const (.int .i64 1)) 3) none <|
      .op (some 8) (.move (.tmp 18)) none <|
      .done) <|
  .op (some 4) (.assign (.const (.int .i64 (-1)))) none <|
  .ret
theorem h157 : compF md0 Tryd.f157 = c157 := by kernel_rfl
theorem r157 : Tryd.f157.results.toList = [.tmp 4] := _root_.id (by kernel_rfl)
theorem nt157 : Tryd.f157.ntmps = 19 := by kernel_rfl
/-- spec.l1Rising -/
theorem md_162 : md0 162 = false := rfl
def c162 : XC :=
  .op (some 6) (.assign (.const (.bool false))) none <|
  .op (some 9) (.move (.tmp 0)) none <|
  .op (some 10) (.call ⟨.builtin .len, ⟨[.tmp 9]⟩, ⟨[36]⟩⟩) none <|
  .op (some 11) (.move (.const (.int .i64 0))) none <|
  .block 0
    (.loop <|
      .op (some 12) (.binOp .lss 3 (.tmp 11) (.tmp 10) 3) none <|
      .cond (.tmp 12)
        (.done)
        (.exit 0) <|
      .block 1
        (.op (some 13) (.move (.tmp 11)) none <|
          .op (some 14) (.indexAddr 36 (.tmp 9) (.tmp 11)) none <|
          .op (some 15) (.load 3 (.tmp 14)) none <|
          .op (some 7) (.assign (.tmp 13)) none <|
          .op (some 8) (.assign (.tmp 15)) none <|
          .op (some 16) (.move (.tmp 8)) none <|
          .op (some 17) (.move (.tmp 1)) none <|
          .op (some 18) (.move (.tmp 2)) none <|
          .op (some 19) (.call ⟨.value (.func 75), ⟨[.tmp 16, .tmp 17, .tmp 18]⟩, ⟨[3, 3, 3]⟩⟩) none <|
          .op (some 20) (.unOp .not 4 (.tmp 19)) none <|
          .op (some 21) (.move (.tmp 20)) none <|
          .op (some 22) (.move (.tmp 7)) (some (21, false)) <|
          .op (some 23) (.binOp .gtr 3 (.tmp 22) (.const (.int .i64 0)) 3) (some (21, false)) <|
          .op (some 24) (.move (.tmp 23)) (some (21, false)) <|
          .op (some 25) (.move (.tmp 0)) (some (24, true)) <|
          .op (some 26) (.move (.tmp 7)) (some (24, true)) <|
          .op (some 27) (.binOp .sub 3 (.tmp 26) (.const (.int .i64 1)) 3) (some (24, true)) <|
          .op (some 28) (.indexAddr 36 (.tmp 25) (.tmp 27)) (some (24, true)) <|
          .op (some 29) (.load 3 (.tmp 28)) (some (24, true)) <|
          .op (some 30) (.move (.tmp 8)) (some (24, true)) <|
          .op (some 31) (.binOp .geq 3 (.tmp 29) (.tmp 30) 3) (some (24, true)) <|
          .op (some 32) (.pick (.tmp 24) (.tmp 31) (.const (.bool false))) (some (21, false)) <|
          .op (some 33) (.pick (.tmp 21) (.const (.bool true)) (.tmp 32)) none <|
          .cond (.tmp 33)
            (.op (some 6) (.assign (.const (.bool false))) none <|
            .ret)
            (.done) <|
          .done) <|
      .op (some 34) (.binOp .add 3 (.tmp 11) (.const (.int .i64 1)) 3) none <|
      .op (some 11) (.move (.tmp 34)) none <|
      .done) <|
  .op (some 6) (.assign (.const (.bool true))) none <|
  .ret
theorem h162 : compF md0 Tryd.f162 = c162 := by kernel_rfl
theorem r162 : Tryd.f162.results.toList = [.tmp 6] := _root_.id (by kernel_rfl)
theorem nt162 : Tryd.f162.ntmps = 35 := by kernel_rfl
/-- spec.mNext -/
theorem md_170 : md0 170 = false := rfl
def c170 : XC :=
  .op (some 3) (.box 48 (.tmp 0)) none <|
  .op (some 6) (.assign (.const (.int .i64 0))) none <|
  .op (some 7) (.load 48 (.tmp 3)) none <|
  .op (some 8) (.load 48 (.tmp 3)) none <|
  .op (some 9) (.move (.tmp 1)) none <|
  .op (some 11) (.move (.tmp 2)) none <|
  .op (some 10) (.call ⟨.value (.func 186), ⟨[.tmp 8, .tmp 9]⟩, ⟨[48, 3]⟩⟩) none <|
  .op (some 12) (.call ⟨.value (.func 185), ⟨[.tmp 10, .tmp 11]⟩, ⟨[214, 3]⟩⟩) none <|
  .op (some 13) (.call ⟨.value (.func 184), ⟨[.tmp 7, .tmp 12]⟩, ⟨[48, 214]⟩⟩) none <|
  .op (some 6) (.assign (.tmp 13)) none <|
  .ret
theorem h170 : compF md0 Tryd.f170 = c170 := by kernel_rfl
theorem r170 : Tryd.f170.results.toList = [.tmp 6] := _root_.id (by kernel_rfl)
theorem nt170 : Tryd.f170.ntmps = 14 := by kernel_rfl
/-- impl.isName -/
theorem md_171 : md0 171 = false := rfl
def c171 : XC :=
  .op (some 2) (.assign (.const (.bool false))) none <|
  .op (some 3) (.assign (.const (.int .i64 0))) none <|
  .block 0
    (.loop <|
      .op (some 4) (.move (.tmp 3)) none <|
      .op (some 5) (.move (.tmp 0)) none <|
      .op (some 6) (.call ⟨.builtin .len, ⟨[.tmp 5]⟩, ⟨[9]⟩⟩) none <|
      .op (some 7) (.binOp .lss 3 (.tmp 4) (.tmp 6) 3) none <|
      .cond (.tmp 7)
        (.done)
        (.exit 0) <|
      .block 1
        (.op (some 10) (.move (.tmp 0)) none <|
          .op (some 11) (.move (.tmp 3)) none <|
          .op (some 12) (.index 9 (.tmp 10) (.tmp 11)) none <|
          .op (some 13) (.binOp .lss 5 (.tmp 12) (.const (.int .u8 97)) 5) none <|
          .op (some 14) (.move (.tmp 13)) none <|
          .op (some 15) (.move (.tmp 0)) (some (14, false)) <|
          .op (some 16) (.move (.tmp 3)) (some (14, false)) <|
          .op (some 17) (.index 9 (.tmp 15) (.tmp 16)) (some (14, false)) <|
          .op (some 18) (.binOp .gtr 5 (.tmp 17) (.const (.int .u8 122)) 5) (some (14, false)) <|
          .op (some 19) (.pick (.tmp 14) (.const (.bool true)) (.tmp 18)) none <|
          .cond (.tmp 19)
            (.op (some 2) (.assign (.const (.bool false))) none <|
            .ret)
            (.done) <|
          .done) <|
      .op (some 8) (.move (.tmp 3)) none <|
      .op (some 9) (.binOp .add 3 (.tmp 8) (.const (.int .i64 1)) 3) none <|
      .op (some 3) (.assign (.tmp 9)) none <|
      .done) <|
  .op (some 20) (.move (.tmp 0)) none <|
  .op (some 21) (.call ⟨.builtin .len, ⟨[.tmp 20]⟩, ⟨[9]⟩⟩) none <|
  .op (some 22) (.call ⟨.value (.func 101), ⟨[.tmp 21, .const (.int .i64 1), .const (.int .i64 8)]⟩, ⟨[3, 3, 3]⟩⟩) none <|
  .op (some 2) (.assign (.tmp 22)) none <|
  .ret
theorem h171 : compF md0 Tryd.f171 = c171 := by kernel_rfl
theorem r171 : Tryd.f171.results.toList = [.tmp 2] := _root_.id (by kernel_rfl)
theorem nt171 : Tryd.f171.ntmps = 23 := by kernel_rfl
/-- impl.goodTerrain$1 -/
theorem md_172 : md0 172 = false := rfl
def c172 : XC :=
  .op (some 2) (.assign (.const (.bool false))) none <|
  .op (some 3) (.move (.tmp 0)) none <|
  .op (some 4) (.call ⟨.value (.func 101), ⟨[.tmp 3, .const (.int .i64 0), .const (.int .i64 9)]⟩, ⟨[3, 3, 3]⟩⟩) none <|
  .op (some 5) (.unOp .not 4 (.tmp 4)) none <|
  .op (some 2) (.assign (.tmp 5)) none <|
  .ret
theorem h172 : compF md0 Tryd.f172 = c172 := by kernel_rfl
theorem r172 : Tryd.f172.results.toList = [.tmp 2] := _root_.id (by kernel_rfl)
theorem nt172 : Tryd.f172.ntmps = 6 := by kernel_rfl
/-- impl.Terrain] -/
theorem md_173 : md0 173 = false := rfl
def c173 : XC :=
  .op (some 4) (.assign (.const (.int .i64 0))) none <|
  .op (some 6) (.move (.tmp 0)) none <|
  .op (some 7) (.call ⟨.builtin .len, ⟨[.tmp 6]⟩, ⟨[44]⟩⟩) none <|
  .op (some 8) (.move (.const (.int .i64 0))) none <|
  .block 0
    (.loop <|
      .op (some 9) (.binOp .lss 3 (.tmp 8) (.tmp 7) 3) none <|
      .cond (.tmp 9)
        (.done)
        (.exit 0) <|
      .block 1
        (.op (some 10) (.move (.tmp 8)) none <|
          .op (some 5) (.assign (.tmp 10)) none <|
          .op (some 11) (.move (.tmp 1)) none <|
          .op (some 12) (.move (.tmp 0)) none <|
          .op (some 13) (.move (.tmp 5)) none <|
          .op (some 14) (.indexAddr 44 (.tmp 12) (.tmp 13)) none <|
          .op (some 15) (.load 176 (.tmp 14)) none <|
          .op (some 16) (.call ⟨.value (.tmp 11), ⟨[.tmp 15]⟩, ⟨[176]⟩⟩) none <|
          .cond (.tmp 16)
            (.op (some 17) (.move (.tmp 5)) none <|
            .op (some 4) (.assign (.tmp 17)) none <|
            .ret)
            (.done) <|
          .done) <|
      .op (some 18) (.binOp .add 3 (.tmp 8) (.const (.int .i64 1)) 3) none <|
      .op (some 8) (.move (.tmp 18)) none <|
      .done) <|
  .op (some 4) (.assign (.const (.int .i64 (-1)))) none <|
  .ret
theorem h173 : compF md0 Tryd.f173 = c173 := by kernel_rfl
theorem r173 : Tryd.f173.results.toList = [.tmp 4] := _root_.id (by kernel_rfl)
theorem nt173 : Tryd.f173.ntmps = 19 := by kernel_rfl
/-- impl.terrainIndex$1 -/
theorem md_174 : md0 174 = false := rfl
def c174 : XC :=
  .op (some 2) (.box 176 (.tmp 0)) none <|
  .op (some 3) (.assign (.const (.bool false))) none <|
  .op (some 4) (.fieldAddr 176 (.tmp 2) 0) none <|
  .op (some 5) (.load 9 (.tmp 4)) none <|
  .op (some 6) (.load 9 (.tmp 1)) none <|
  .op (some 7) (.binOp .eql 9 (.tmp 5) (.tmp 6) 9) none <|
  .op (some 3) (.assign (.tmp 7)) none <|
  .ret
theorem h174 : compF md0 Tryd.f174 = c174 := by kernel_rfl
theorem r174 : Tryd.f174.results.toList = [.tmp 3] := _root_.id (by kernel_rfl)
theorem nt174 : Tryd.f174.ntmps = 8 := by kernel_rfl
/-- impl.Kind] -/
theorem md_175 : md0 175 = false := rfl
def c175 : XC :=
  .op (some 4) (.assign (.const (.int .i64 0))) none <|
  .op (some 6) (.move (.tmp 0)) none <|
  .op (some 7) (.call ⟨.builtin .len, ⟨[.tmp 6]⟩, ⟨[45]⟩⟩) none <|
  .op (some 8) (.move (.const (.int .i64 0))) none <|
  .block 0
    (.loop <|
      .op (some 9) (.binOp .lss 3 (.tmp 8) (.tmp 7) 3) none <|
      .cond (.tmp 9)
        (.done)
        (.exit 0) <|
      .block 1
        (.op (some 10) (.move (.tmp 8)) none <|
          .op (some 5) (.assign (.tmp 10)) none <|
          .op (some 11) (.move (.tmp 1)) none <|
          .op (some 12) (.move (.tmp 0)) none <|
          .op (some 13) (.move (.tmp 5)) none <|
          .op (some 14) (.indexAddr 45 (.tmp 12) (.tmp 13)) none <|
          .op (some 15) (.load 122 (.tmp 14)) none <|
          .op (some 16) (.call ⟨.value (.tmp 11), ⟨[.tmp 15]⟩, ⟨[122]⟩⟩) none <|
          .cond (.tmp 16)
            (.op (some 17) (.move (.tmp 5)) none <|
            .op (some 4) (.assign (.tmp 17)) none <|
            .ret)
            (.done) <|
          .done) <|
      .op (some 18) (.binOp .add 3 (.tmp 8) (.const (.int .i64 1)) 3) none <|
      .op (some 8) (.move (.tmp 18)) none <|
      .done) <|
  .op (some 4) (.assign (.const (.int .i64 (-1)))) none <|
  .ret
theorem h175 : compF md0 Tryd.f175 = c175 := by kernel_rfl
theorem r175 : Tryd.f175.results.toList = [.tmp 4] := _root_.id (by kernel_rfl)
theorem nt175 : Tryd.f175.ntmps = 19 := by kernel_rfl
/-- impl.kindIndex$1 -/
theorem md_176 : md0 176 = false := rfl
def c176 : XC :=
  .op (some 2) (.box 122 (.tmp 0)) none <|
  .op (some 3) (.assign (.const (.bool false))) none <|
  .op (some 4) (.fieldAddr 122 (.tmp 2) 0) none <|
  .op (some 5) (.load 9 (.tmp 4)) none <|
  .op (some 6) (.load 9 (.tmp 1)) none <|
  .op (some 7) (.binOp .eql 9 (.tmp 5) (.tmp 6) 9) none <|
  .op (some 3) (.assign (.tmp 7)) none <|
  .ret
theorem h176 : compF md0 Tryd.f176 = c176 := by kernel_rfl
theorem r176 : Tryd.f176.results.toList = [.tmp 3] := _root_.id (by kernel_rfl)
theorem nt176 : Tryd.f176.ntmps = 8 := by kernel_rfl
/-- impl.nextTo -/
theorem md_177 : md0 177 = false := rfl
def c177 : XC :=
  .op (some 3) (.box 48 (.tmp 0)) none <|
  .op (some 6) (.assign (.const (.int .i64 0))) none <|
  .op (some 7) (.load 48 (.tmp 3)) none <|
  .op (some 8) (.load 48 (.tmp 3)) none <|
  .op (some 9) (.move (.tmp 1)) none <|
  .op (some 11) (.move (.tmp 2)) none <|
  .op (some 10) (.call ⟨.value (.func 189), ⟨[.tmp 8, .tmp 9]⟩, ⟨[48, 3]⟩⟩) none <|
  .op (some 12) (.call ⟨.value (.func 188), ⟨[.tmp 10, .tmp 11, .const (.int .i64 1)]⟩, ⟨[214, 3, 3]⟩⟩) none <|
  .op (some 13) (.call ⟨.value (.func 187), ⟨[.tmp 7, .tmp 12]⟩, ⟨[48, 214]⟩⟩) none <|
  .op (some 6) (.assign (.tmp 13)) none <|
  .ret
theorem h177 : compF md0 Tryd.f177 = c177 := by kernel_rfl
theorem r177 : Tryd.f177.results.toList = [.tmp 6] := _root_.id (by kernel_rfl)
theorem nt177 : Tryd.f177.ntmps = 14 := by kernel_rfl
/-- spec.mIndex -/
theorem md_184 : md0 184 = false := rfl
def c184 : XC :=
  .op (some 2) (.box 48 (.tmp 0)) none <|
  .op (some 3) (.box 214 (.tmp 1)) none <|
  .op (some 4) (.assign (.const (.int .i64 0))) none <|
  .op (some 5) (.fieldAddr 214 (.tmp 3) 0) none <|
  .op (some 6) (.load 3 (.tmp 5)) none <|
  .op (some 7) (.fieldAddr 48 (.tmp 2) 0) none <|
  .op (some 8) (.load 3 (.tmp 7)) none <|
  .op (some 9) (.binOp .sub 3 (.tmp 8) (.const (.int .i64 1)) 3) none <|
  .op (some 10) (.call ⟨.value (.func 75), ⟨[.tmp 6, .const (.int .i64 0), .tmp 9]⟩, ⟨[3, 3, 3]⟩⟩) none <|
  .op (some 11) (.unOp .not 4 (.tmp 10)) none <|
  .op (some 12) (.move (.tmp 11)) none <|
  .op (some 13) (.fieldAddr 214 (.tmp 3) 1) (some (12, false)) <|
  .op (some 14) (.load 3 (.tmp 13)) (some (12, false)) <|
  .op (some 15) (.fieldAddr 48 (.tmp 2) 1) (some (12, false)) <|
  .op (some 16) (.load 3 (.tmp 15)) (some (12, false)) <|
  .op (some 17) (.binOp .sub 3 (.tmp 16) (.const (.int .i64 1)) 3) (some (12, false)) <|
  .op (some 18) (.call ⟨.value (.func 75), ⟨[.tmp 14, .const (.int .i64 0), .tmp 17]⟩, ⟨[3, 3, 3]⟩⟩) (some (12, false)) <|
  .op (some 19) (.unOp .not 4 (.tmp 18)) (some (12, false)) <|
  .op (some 20) (.pick (.tmp 12) (.const (.bool true)) (.tmp 19)) none <|
  .cond (.tmp 20)
    (.op (some 4) (.assign (.const (.int .i64 (-1)))) none <|
      .ret)
    (.done) <|
  .op (some 21) (.fieldAddr 214 (.tmp 3) 1) none <|
  .op (some 22) (.load 3 (.tmp 21)) none <|
  .op (some 23) (.fieldAddr 48 (.tmp 2) 0) none <|
  .op (some 24) (.load 3 (.tmp 23)) none <|
  .op (some 25) (.binOp .mul 3 (.tmp 22) (.tmp 24) 3) none <|
  .op (some 26) (.fieldAddr 214 (.tmp 3) 0) none <|
  .op (some 27) (.load 3 (.tmp 26)) none <|
  .op (some 28) (.binOp .add 3 (.tmp 25) (.tmp 27) 3) none <|
  .op (some 4) (.assign (.tmp 28)) none <|
  .ret
theorem h184 : compF md0 Tryd.f184 = c184 := by kernel_rfl
theorem r184 : Tryd.f184.results.toList = [.tmp 4] := _root_.id (by kernel_rfl)
theorem nt184 : Tryd.f184.ntmps = 29 := by kernel_rfl
/-- spec.hStep -/
theorem md_185 : md0 185 = false := rfl
def c185 : XC :=
  .op (some 2) (.box 214 (.tmp 0)) none <|
  .op (some 4) (.alloc 214) none <|
  .op (some 5) (.fieldAddr 214 (.tmp 2) 0) none <|
  .op (some 6) (.load 3 (.tmp 5)) none <|
  .op (some 8) (.move (.tmp 1)) none <|
  .op (some 12) (.fieldAddr 214 (.tmp 2) 1) none <|
  .op (some 13) (.load 3 (.tmp 12)) none <|
  .op (some 15) (.move (.tmp 1)) none <|
  .fork
    (.op (some 7) (.buildSlice 36 6 ⟨[(0, .const (.int .i64 1)), (1, .const (.int .i64 1)), (2, .const (.int .i64 0)), (3, .const (.int .i64 (-1))), (4, .const (.int .i64 (-1))), (5, .const (.int .i64 0))]⟩) none <|
      .op (some 9) (.indexAddr 36 (.tmp 7) (.tmp 8)) none <|
      .op (some 10) (.load 3 (.tmp 9)) none <|
      .op (some 11) (.binOp .add 3 (.tmp 6) (.tmp 10) 3) none <|
      .op (some 14) (.buildSlice 36 6 ⟨[(0, .const (.int .i64 0)), (1, .const (.int .i64 (-1))), (2, .const (.int .i64 (-1))), (3, .const (.int .i64 0)), (4, .const (.int .i64 1)), (5, .const (.int .i64 1))]⟩) none <|
      .op (some 16) (.indexAddr 36 (.tmp 14) (.tmp 15)) none <|
      .op (some 17) (.load 3 (.tmp 16)) none <|
      .op (some 18) (.binOp .add 3 (.tmp 13) (.tmp 17) 3) none <|
      .op (some 19) (.build 214 ⟨[(0, .tmp 11), (1, .tmp 18)]⟩) none <|
      .op none (.store 214 (.tmp 4) (.tmp 19)) none <|
      .done)
    (.op (some 14) (.buildSlice 36 6 ⟨[(0, .const (.int .i64 0)), (1, .const (.int .i64 (-1))), (2, .const (.int .i64 (-1))), (3, .const (.int .i64 0)), (4, .const (.int .i64 1)), (5, .const (.int .i64 1))]⟩) none <|
      .op (some 16) (.indexAddr 36 (.tmp 14) (.tmp 15)) none <|
      .op (some 17) (.load 3 (.tmp 16)) none <|
      .op (some 18) (.binOp .add 3 (.tmp 13) (.tmp 17) 3) none <|
      .op (some 7) (.buildSlice 36 6 ⟨[(0, .const (.int .i64 1)), (1, .const (.int .i64 1)), (2, .const (.int .i64 0)), (3, .const (.int .i64 (-1))), (4, .const (.int .i64 (-1))), (5, .const (.int .i64 0))]⟩) none <|
      .op (some 9) (.indexAddr 36 (.tmp 7) (.tmp 8)) none <|
      .op (some 10) (.load 3 (.tmp 9)) none <|
      .op (some 11) (.binOp .add 3 (.tmp 6) (.tmp 10) 3) none <|
      .op (some 19) (.build 214 ⟨[(0, .tmp 11), (1, .tmp 18)]⟩) none <|
      .op none (.store 214 (.tmp 4) (.tmp 19)) none <|
      .done) <|
  .ret
theorem h185 : compF md0 Tryd.f185 = c185 := by kernel_rfl
theorem r185 : Tryd.f185.results.toList = [.cell 4 214] := _root_.id (by kernel_rfl)
theorem nt185 : Tryd.f185.ntmps = 20 := by kernel_rfl
/-- spec.mHex -/
theorem md_186 : md0 186 = false := rfl
def c186 : XC :=
  .op (some 2) (.box 48 (.tmp 0)) none <|
  .op (some 4) (.alloc 214) none <|
  .op (some 5) (.move (.tmp 1)) none <|
  .op (some 6) (.fieldAddr 48 (.tmp 2) 0) none <|
  .op (some 7) (.load 3 (.tmp 6)) none <|
  .op (some 8) (.binOp .rem 3 (.tmp 5) (.tmp 7) 3) none <|
  .op (some 9) (.move (.tmp 1)) none <|
  .op (some 10) (.fieldAddr 48 (.tmp 2) 0) none <|
  .op (some 11) (.load 3 (.tmp 10)) none <|
  .op (some 12) (.binOp .quo 3 (.tmp 9) (.tmp 11) 3) none <|
  .op (some 13) (.build 214 ⟨[(0, .tmp 8), (1, .tmp 12)]⟩) none <|
  .op none (.store 214 (.tmp 4) (.tmp 13)) none <|
  .ret
theorem h186 : compF md0 Tryd.f186 = c186 := by kernel_rfl
theorem r186 : Tryd.f186.results.toList = [.cell 4 214] := _root_.id (by kernel_rfl)
theorem nt186 : Tryd.f186.ntmps = 14 := by kernel_rfl
/-- impl.indexOf -/
theorem md_187 : md0 187 = false := rfl
def c187 : XC :=
  .op (some 2) (.box 48 (.tmp 0)) none <|
  .op (some 3) (.box 214 (.tmp 1)) none <|
  .op (some 4) (.assign (.const (.int .i64 0))) none <|
  .op (some 5) (.fieldAddr 214 (.tmp 3) 0) none <|
  .op (some 6) (.load 3 (.tmp 5)) none <|
  .op (some 7) (.fieldAddr 48 (.tmp 2) 0) none <|
  .op (some 8) (.load 3 (.tmp 7)) none <|
  .op (some 9) (.call ⟨.value (.func 76), ⟨[.tmp 6, .tmp 8]⟩, ⟨[3, 3]⟩⟩) none <|
  .op (some 10) (.unOp .not 4 (.tmp 9)) none <|
  .op (some 11) (.move (.tmp 10)) none <|
  .op (some 12) (.fieldAddr 214 (.tmp 3) 1) (some (11, false)) <|
  .op (some 13) (.load 3 (.tmp 12)) (some (11, false)) <|
  .op (some 14) (.fieldAddr 48 (.tmp 2) 1) (some (11, false)) <|
  .op (some 15) (.load 3 (.tmp 14)) (some (11, false)) <|
  .op (some 16) (.call ⟨.value (.func 76), ⟨[.tmp 13, .tmp 15]⟩, ⟨[3, 3]⟩⟩) (some (11, false)) <|
  .op (some 17) (.unOp .not 4 (.tmp 16)) (some (11, false)) <|
  .op (some 18) (.pick (.tmp 11) (.const (.bool true)) (.tmp 17)) none <|
  .cond (.tmp 18)
    (.op (some 4) (.assign (.const (.int .i64 (-1)))) none <|
      .ret)
    (.done) <|
  .op (some 19) (.fieldAddr 214 (.tmp 3) 1) none <|
  .op (some 20) (.load 3 (.tmp 19)) none <|
  .op (some 21) (.fieldAddr 48 (.tmp 2) 0) none <|
  .op (some 22) (.load 3 (.tmp 21)) none <|
  .op (some 23) (.binOp .mul 3 (.tmp 20) (.tmp 22) 3) none <|
  .op (some 24) (.fieldAddr 214 (.tmp 3) 0) none <|
  .op (some 25) (.load 3 (.tmp 24)) none <|
  .op (some 26) (.binOp .add 3 (.tmp 23) (.tmp 25) 3) none <|
  .op (some 4) (.assign (.tmp 26)) none <|
  .ret
theorem h187 : compF md0 Tryd.f187 = c187 := by kernel_rfl
theorem r187 : Tryd.f187.results.toList = [.tmp 4] := _root_.id (by kernel_rfl)
theorem nt187 : Tryd.f187.ntmps = 27 := by kernel_rfl
/-- impl.stepBy -/
theorem md_188 : md0 188 = false := rfl
def c188 : XC :=
  .op (some 3) (.box 214 (.tmp 0)) none <|
  .op (some 6) (.alloc 214) none <|
  .op (some 7) (.fieldAddr 214 (.tmp 3) 0) none <|
  .op (some 8) (.load 3 (.tmp 7)) none <|
  .op (some 9) (.move (.tmp 2)) none <|
  .op (some 10) (.move (.tmp 1)) none <|
  .op (some 11) (.indexAddr 228 (.global 0) (.tmp 10)) none <|
  .op (some 12) (.fieldAddr 214 (.tmp 11) 0) none <|
  .op (some 13) (.load 3 (.tmp 12)) none <|
  .op (some 14) (.binOp .mul 3 (.tmp 9) (.tmp 13) 3) none <|
  .op (some 15) (.binOp .add 3 (.tmp 8) (.tmp 14) 3) none <|
  .op (some 16) (.fieldAddr 214 (.tmp 3) 1) none <|
  .op (some 17) (.load 3 (.tmp 16)) none <|
  .op (some 18) (.move (.tmp 2)) none <|
  .op (some 19) (.move (.tmp 1)) none <|
  .op (some 20) (.indexAddr 228 (.global 0) (.tmp 19)) none <|
  .op (some 21) (.fieldAddr 214 (.tmp 20) 1) none <|
  .op (some 22) (.load 3 (.tmp 21)) none <|
  .op (some 23) (.binOp .mul 3 (.tmp 18) (.tmp 22) 3) none <|
  .op (some 24) (.binOp .add 3 (.tmp 17) (.tmp 23) 3) none <|
  .op (some 25) (.build 214 ⟨[(0, .tmp 15), (1, .tmp 24)]⟩) none <|
  .op none (.store 214 (.tmp 6) (.tmp 25)) none <|
  .ret
theorem h188 : compF md0 Tryd.f188 = c188 := by kernel_rfl
theorem r188 : Tryd.f188.results.toList = [.cell 6 214] := _root_.id (by kernel_rfl)
theorem nt188 : Tryd.f188.ntmps = 26 := by kernel_rfl
/-- impl.hexOf -/
theorem md_189 : md0 189 = false := rfl
def c189 : XC :=
  .op (some 2) (.box 48 (.tmp 0)) none <|
  .op (some 4) (.alloc 214) none <|
  .op (some 5) (.move (.tmp 1)) none <|
  .op (some 6) (.fieldAddr 48 (.tmp 2) 0) none <|
  .op (some 7) (.load 3 (.tmp 6)) none <|
  .op (some 8) (.binOp .rem 3 (.tmp 5) (.tmp 7) 3) none <|
  .op (some 9) (.move (.tmp 1)) none <|
  .op (some 10) (.fieldAddr 48 (.tmp 2) 0) none <|
  .op (some 11) (.load 3 (.tmp 10)) none <|
  .op (some 12) (.binOp .quo 3 (.tmp 9) (.tmp 11) 3) none <|
  .op (some 13) (.build 214 ⟨[(0, .tmp 8), (1, .tmp 12)]⟩) none <|
  .op none (.store 214 (.tmp 4) (.tmp 13)) none <|
  .ret
theorem h189 : compF md0 Tryd.f189 = c189 := by kernel_rfl
theorem r189 : Tryd.f189.results.toList = [.cell 4 214] := _root_.id (by kernel_rfl)
theorem nt189 : Tryd.f189.ntmps = 14 := by kernel_rfl
/-- laws.FnExactKindPrice -/
theorem md_4 : md0 4 = false := rfl
def c4 : XC :=
  .op (some 2) (.box 40 (.tmp 0)) none <|
  .op (some 4) (.assign (.const (.bool false))) none <|
  .op (some 5) (.assign (.const (.int .i64 1048576))) none <|
  .op (some 11) (.load 40 (.tmp 2)) none <|
  .op (some 12) (.move (.tmp 5)) none <|
  .op (some 13) (.call ⟨.value (.func 17), ⟨[.tmp 11, .tmp 12]⟩, ⟨[40, 3]⟩⟩) none <|
  .op (some 5) (.assign (.tmp 13)) none <|
  .op (some 14) (.move (.tmp 5)) none <|
  .op (some 15) (.binOp .lss 3 (.tmp 14) (.const (.int .i64 0)) 3) none <|
  .cond (.tmp 15)
    (.op (some 4) (.assign (.const (.bool true))) none <|
      .ret)
    (.done) <|
  .op (some 17) (.load 40 (.tmp 2)) none <|
  .op (some 18) (.call ⟨.value (.func 19), ⟨[.tmp 17]⟩, ⟨[40]⟩⟩) none <|
  .op (some 19) (.move (.tmp 1)) none <|
  .op (some 20) (.call ⟨.value (.func 18), ⟨[.tmp 18, .tmp 19]⟩, ⟨[50, 3]⟩⟩) none <|
  .op (some 16) (.move (.tmp 20)) none <|
  .op (some 21) (.extract (.tmp 16) 0) none <|
  .op (some 22) (.extract (.tmp 16) 1) none <|
  .op (some 6) (.assign (.tmp 21)) none <|
  .op (some 7) (.assign (.tmp 22)) none <|
  .op (some 23) (.load 40 (.tmp 2)) none <|
  .op (some 24) (.call ⟨.value (.func 19), ⟨[.tmp 23]⟩, ⟨[40]⟩⟩) none <|
  .op (some 8) (.alloc 50) none <|
  .op none (.store 50 (.tmp 8) (.tmp 24)) none <|
  .op (some 26) (.load 50 (.tmp 8)) none <|
  .op (some 27) (.move (.tmp 1)) none <|
  .op (some 28) (.call ⟨.value (.func 20), ⟨[.tmp 26, .tmp 27]⟩, ⟨[50, 3]⟩⟩) none <|
  .op (some 25) (.move (.tmp 28)) none <|
  .op (some 29) (.extract (.tmp 25) 0) none <|
  .op (some 30) (.extract (.tmp 25) 1) none <|
  .op (some 9) (.assign (.tmp 29)) none <|
  .op (some 10) (.assign (.tmp 30)) none <|
  .op (some 31) (.move (.tmp 9)) none <|
  .op (some 32) (.move (.tmp 6)) none <|
  .op (some 33) (.binOp .neq 3 (.tmp 31) (.tmp 32) 3) none <|
  .op (some 34) (.move (.tmp 33)) none <|
  .op (some 35) (.move (.tmp 10)) (some (34, false)) <|
  .op (some 36) (.move (.tmp 7)) (some (34, false)) <|
  .op (some 37) (.binOp .neq 4 (.tmp 35) (.tmp 36) 4) (some (34, false)) <|
  .op (some 38) (.pick (.tmp 34) (.const (.bool true)) (.tmp 37)) none <|
  .cond (.tmp 38)
    (.op (some 4) (.assign (.const (.bool false))) none <|
      .ret)
    (.done) <|
  .op (some 39) (.load 50 (.tmp 8)) none <|
  .op (some 40) (.load 40 (.tmp 2)) none <|
  .op (some 41) (.call ⟨.value (.func 19), ⟨[.tmp 40]⟩, ⟨[40]⟩⟩) none <|
  .op (some 42) (.call ⟨.value (.func 21), ⟨[.tmp 39, .tmp 41]⟩, ⟨[50, 50]⟩⟩) none <|
  .op (some 43) (.unOp .not 4 (.tmp 42)) none <|
  .cond (.tmp 43)
    (.op (some 4) (.assign (.const (.bool false))) none <|
      .ret)
    (.done) <|
  .op (some 4) (.assign (.const (.bool true))) none <|
  .ret
theorem h4 : compF md0 Tryd.f4 = c4 := by kernel_rfl
theorem r4 : Tryd.f4.results.toList = [.tmp 4] := _root_.id (by kernel_rfl)
theorem nt4 : Tryd.f4.ntmps = 44 := by kernel_rfl
/-- spec.KindPrice -/
theorem md_18 : md0 18 = false := rfl
def c18 : XC :=
  .op (some 2) (.box 50 (.tmp 0)) none <|
  .op (some 4) (.assign (.const (.int .i64 0))) none <|
  .op (some 5) (.assign (.const (.bool false))) none <|
  .op (some 6) (.load 50 (.tmp 2)) none <|
  .op (some 7) (.move (.tmp 1)) none <|
  .op (some 8) (.call ⟨.value (.func 57), ⟨[.tmp 6, .tmp 7, .const (.int .i64 0)]⟩, ⟨[50, 3, 3]⟩⟩) none <|
  .op (some 9) (.unOp .not 4 (.tmp 8)) none <|
  .cond (.tmp 9)
    (.op (some 4) (.assign (.const (.int .i64 0))) none <|
      .op (some 5) (.assign (.const (.bool false))) none <|
      .ret)
    (.done) <|
  .op (some 10) (.load 50 (.tmp 2)) none <|
  .op (some 11) (.move (.tmp 1)) none <|
  .op (some 12) (.call ⟨.value (.func 58), ⟨[.tmp 10, .tmp 11]⟩, ⟨[50, 3]⟩⟩) none <|
  .op (some 4) (.assign (.tmp 12)) none <|
  .op (some 5) (.assign (.const (.bool true))) none <|
  .ret
theorem h18 : compF md0 Tryd.f18 = c18 := by kernel_rfl
theorem r18 : Tryd.f18.results.toList = [.tmp 4, .tmp 5] := _root_.id (by kernel_rfl)
theorem nt18 : Tryd.f18.ntmps = 13 := by kernel_rfl
/-- impl.KindPrice -/
theorem md_20 : md0 20 = false := rfl
def c20 : XC :=
  .op (some 2) (.box 50 (.tmp 0)) none <|
  .op (some 4) (.assign (.const (.int .i64 0))) none <|
  .op (some 5) (.assign (.const (.bool false))) none <|
  .op (some 6) (.load 50 (.tmp 2)) none <|
  .op (some 7) (.move (.tmp 1)) none <|
  .op (some 8) (.call ⟨.value (.func 61), ⟨[.tmp 6, .tmp 7]⟩, ⟨[50, 3]⟩⟩) none <|
  .op (some 9) (.unOp .not 4 (.tmp 8)) none <|
  .cond (.tmp 9)
    (.op (some 4) (.assign (.const (.int .i64 0))) none <|
      .op (some 5) (.assign (.const (.bool false))) none <|
      .ret)
    (.done) <|
  .op (some 10) (.load 50 (.tmp 2)) none <|
  .op (some 11) (.move (.tmp 1)) none <|
  .op (some 12) (.call ⟨.value (.func 62), ⟨[.tmp 10, .tmp 11]⟩, ⟨[50, 3]⟩⟩) none <|
  .op (some 4) (.assign (.tmp 12)) none <|
  .op (some 5) (.assign (.const (.bool true))) none <|
  .ret
theorem h20 : compF md0 Tryd.f20 = c20 := by kernel_rfl
theorem r20 : Tryd.f20.results.toList = [.tmp 4, .tmp 5] := _root_.id (by kernel_rfl)
theorem nt20 : Tryd.f20.ntmps = 13 := by kernel_rfl
/-- spec.bAt -/
theorem md_57 : md0 57 = false := rfl
def c57 : XC :=
  .op (some 3) (.box 50 (.tmp 0)) none <|
  .op (some 6) (.assign (.const (.bool false))) none <|
  .op (some 7) (.load 50 (.tmp 3)) none <|
  .op (some 8) (.call ⟨.value (.func 66), ⟨[.tmp 7]⟩, ⟨[50]⟩⟩) none <|
  .op (some 9) (.move (.tmp 8)) none <|
  .op (some 10) (.move (.tmp 1)) (some (9, true)) <|
  .op (some 11) (.fieldAddr 50 (.tmp 3) 0) (some (9, true)) <|
  .op (some 12) (.fieldAddr 47 (.tmp 11) 1) (some (9, true)) <|
  .op (some 13) (.load 45 (.tmp 12)) (some (9, true)) <|
  .op (some 14) (.call ⟨.builtin .len, ⟨[.tmp 13]⟩, ⟨[45]⟩⟩) (some (9, true)) <|
  .op (some 15) (.binOp .sub 3 (.tmp 14) (.const (.int .i64 1)) 3) (some (9, true)) <|
  .op (some 16) (.call ⟨.value (.func 75), ⟨[.tmp 10, .const (.int .i64 0), .tmp 15]⟩, ⟨[3, 3, 3]⟩⟩) (some (9, true)) <|
  .op (some 17) (.pick (.tmp 9) (.tmp 16) (.const (.bool false))) none <|
  .op (some 18) (.move (.tmp 17)) none <|
  .op (some 19) (.move (.tmp 2)) (some (18, true)) <|
  .op (some 20) (.fieldAddr 50 (.tmp 3) 1) (some (18, true)) <|
  .op (some 21) (.load 48 (.tmp 20)) (some (18, true)) <|
  .op (some 22) (.call ⟨.value (.func 107), ⟨[.tmp 21]⟩, ⟨[48]⟩⟩) (some (18, true)) <|
  .op (some 23) (.binOp .sub 3 (.tmp 22) (.const (.int .i64 1)) 3) (some (18, true)) <|
  .op (some 24) (.call ⟨.value (.func 75), ⟨[.tmp 19, .const (.int .i64 0), .tmp 23]⟩, ⟨[3, 3, 3]⟩⟩) (some (18, true)) <|
  .op (some 25) (.pick (.tmp 18) (.tmp 24) (.const (.bool false))) none <|
  .op (some 6) (.assign (.tmp 25)) none <|
  .ret
theorem h57 : compF md0 Tryd.f57 = c57 := by kernel_rfl
theorem r57 : Tryd.f57.results.toList = [.tmp 6] := _root_.id (by kernel_rfl)
theorem nt57 : Tryd.f57.ntmps = 26 := by kernel_rfl
/-- spec.pdPrice -/
theorem md_58 : md0 58 = false := rfl
def c58 : XC :=
  .op (some 2) (.box 50 (.tmp 0)) none <|
  .op (some 4) (.assign (.const (.int .i64 0))) none <|
  .op (some 5) (.fieldAddr 50 (.tmp 2) 0) none <|
  .op (some 6) (.fieldAddr 47 (.tmp 5) 1) none <|
  .op (some 7) (.load 45 (.tmp 6)) none <|
  .op (some 8) (.move (.tmp 1)) none <|
  .op (some 9) (.indexAddr 45 (.tmp 7) (.tmp 8)) none <|
  .op (some 10) (.fieldAddr 122 (.tmp 9) 1) none <|
  .op (some 11) (.load 3 (.tmp 10)) none <|
  .op (some 12) (.fieldAddr 50 (.tmp 2) 0) none <|
  .op (some 13) (.fieldAddr 47 (.tmp 12) 1) none <|
  .op (some 14) (.load 45 (.tmp 13)) none <|
  .op (some 15) (.move (.tmp 1)) none <|
  .op (some 16) (.indexAddr 45 (.tmp 14) (.tmp 15)) none <|
  .op (some 17) (.fieldAddr 122 (.tmp 16) 3) none <|
  .op (some 18) (.load 3 (.tmp 17)) none <|
  .op (some 19) (.binOp .mul 3 (.tmp 11) (.tmp 18) 3) none <|
  .op (some 4) (.assign (.tmp 19)) none <|
  .ret
theorem h58 : compF md0 Tryd.f58 = c58 := by kernel_rfl
theorem r58 : Tryd.f58.results.toList = [.tmp 4] := _root_.id (by kernel_rfl)
theorem nt58 : Tryd.f58.ntmps = 20 := by kernel_rfl
/-- impl.isKindOf -/
theorem md_61 : md0 61 = false := rfl
def c61 : XC :=
  .op (some 2) (.box 50 (.tmp 0)) none <|
  .op (some 4) (.assign (.const (.bool false))) none <|
  .op (some 5) (.load 50 (.tmp 2)) none <|
  .op (some 6) (.call ⟨.value (.func 69), ⟨[.tmp 5]⟩, ⟨[50]⟩⟩) none <|
  .op (some 7) (.move (.tmp 6)) none <|
  .op (some 8) (.move (.tmp 1)) (some (7, true)) <|
  .op (some 9) (.fieldAddr 50 (.tmp 2) 0) (some (7, true)) <|
  .op (some 10) (.fieldAddr 47 (.tmp 9) 1) (some (7, true)) <|
  .op (some 11) (.load 45 (.tmp 10)) (some (7, true)) <|
  .op (some 12) (.call ⟨.builtin .len, ⟨[.tmp 11]⟩, ⟨[45]⟩⟩) (some (7, true)) <|
  .op (some 13) (.call ⟨.value (.func 76), ⟨[.tmp 8, .tmp 12]⟩, ⟨[3, 3]⟩⟩) (some (7, true)) <|
  .op (some 14) (.pick (.tmp 7) (.tmp 13) (.const (.bool false))) none <|
  .op (some 4) (.assign (.tmp 14)) none <|
  .ret
theorem h61 : compF md0 Tryd.f61 = c61 := by kernel_rfl
theorem r61 : Tryd.f61.results.toList = [.tmp 4] := _root_.id (by kernel_rfl)
theorem nt61 : Tryd.f61.ntmps = 15 := by kernel_rfl
/-- impl.kindPrice -/
theorem md_62 : md0 62 = false := rfl
def c62 : XC :=
  .op (some 2) (.box 50 (.tmp 0)) none <|
  .op (some 4) (.assign (.const (.int .i64 0))) none <|
  .op (some 5) (.fieldAddr 50 (.tmp 2) 0) none <|
  .op (some 6) (.fieldAddr 47 (.tmp 5) 1) none <|
  .op (some 7) (.load 45 (.tmp 6)) none <|
  .op (some 8) (.move (.tmp 1)) none <|
  .op (some 9) (.indexAddr 45 (.tmp 7) (.tmp 8)) none <|
  .op (some 10) (.fieldAddr 122 (.tmp 9) 1) none <|
  .op (some 11) (.load 3 (.tmp 10)) none <|
  .op (some 12) (.fieldAddr 50 (.tmp 2) 0) none <|
  .op (some 13) (.fieldAddr 47 (.tmp 12) 1) none <|
  .op (some 14) (.load 45 (.tmp 13)) none <|
  .op (some 15) (.move (.tmp 1)) none <|
  .op (some 16) (.indexAddr 45 (.tmp 14) (.tmp 15)) none <|
  .op (some 17) (.fieldAddr 122 (.tmp 16) 3) none <|
  .op (some 18) (.load 3 (.tmp 17)) none <|
  .op (some 19) (.binOp .mul 3 (.tmp 11) (.tmp 18) 3) none <|
  .op (some 4) (.assign (.tmp 19)) none <|
  .ret
theorem h62 : compF md0 Tryd.f62 = c62 := by kernel_rfl
theorem r62 : Tryd.f62.results.toList = [.tmp 4] := _root_.id (by kernel_rfl)
theorem nt62 : Tryd.f62.ntmps = 20 := by kernel_rfl
theorem tk_3 : tk Tryd.prog 3 = .int .i64 := _root_.id (by kernel_rfl)
theorem sz_3 : szOf Tryd.prog 3 = 1 := _root_.id (by kernel_rfl)
theorem by_3 : byOf Tryd.prog 3 = 8 := _root_.id (by kernel_rfl)
theorem ag_3 : agT Tryd.prog 3 = some none := _root_.id (by kernel_rfl)
theorem ce_3 : Program.cellsOf Tryd.prog 3 = 1 := _root_.id (by kernel_rfl)
theorem bo_3 : Program.bytesOf Tryd.prog 3 = 8 := _root_.id (by kernel_rfl)
theorem zc_3 : zeroCells Tryd.prog 3 = some [.int .i64 0] := _root_.id (by kernel_rfl)
theorem tk_4 : tk Tryd.prog 4 = .bool := _root_.id (by kernel_rfl)
theorem sz_4 : szOf Tryd.prog 4 = 1 := _root_.id (by kernel_rfl)
theorem by_4 : byOf Tryd.prog 4 = 1 := _root_.id (by kernel_rfl)
theorem ag_4 : agT Tryd.prog 4 = some none := _root_.id (by kernel_rfl)
theorem ce_4 : Program.cellsOf Tryd.prog 4 = 1 := _root_.id (by kernel_rfl)
theorem bo_4 : Program.bytesOf Tryd.prog 4 = 1 := _root_.id (by kernel_rfl)
theorem zc_4 : zeroCells Tryd.prog 4 = some [.bool false] := _root_.id (by kernel_rfl)
theorem tk_5 : tk Tryd.prog 5 = .int .u8 := _root_.id (by kernel_rfl)
theorem sz_5 : szOf Tryd.prog 5 = 1 := _root_.id (by kernel_rfl)
theorem by_5 : byOf Tryd.prog 5 = 1 := _root_.id (by kernel_rfl)
theorem ag_5 : agT Tryd.prog 5 = some none := _root_.id (by kernel_rfl)
theorem ce_5 : Program.cellsOf Tryd.prog 5 = 1 := _root_.id (by kernel_rfl)
theorem bo_5 : Program.bytesOf Tryd.prog 5 = 1 := _root_.id (by kernel_rfl)
theorem zc_5 : zeroCells Tryd.prog 5 = some [.int .u8 0] := _root_.id (by kernel_rfl)
theorem tk_9 : tk Tryd.prog 9 = .str := _root_.id (by kernel_rfl)
theorem sz_9 : szOf Tryd.prog 9 = 1 := _root_.id (by kernel_rfl)
theorem by_9 : byOf Tryd.prog 9 = 16 := _root_.id (by kernel_rfl)
theorem ag_9 : agT Tryd.prog 9 = some none := _root_.id (by kernel_rfl)
theorem ce_9 : Program.cellsOf Tryd.prog 9 = 1 := _root_.id (by kernel_rfl)
theorem bo_9 : Program.bytesOf Tryd.prog 9 = 16 := _root_.id (by kernel_rfl)
theorem zc_9 : zeroCells Tryd.prog 9 = some [.str ⟨⟨[]⟩⟩] := _root_.id (by kernel_rfl)
theorem tk_22 : tk Tryd.prog 22 = .slice 36 := _root_.id (by kernel_rfl)
theorem sz_22 : szOf Tryd.prog 22 = 1 := _root_.id (by kernel_rfl)
theorem by_22 : byOf Tryd.prog 22 = 24 := _root_.id (by kernel_rfl)
theorem ag_22 : agT Tryd.prog 22 = some none := _root_.id (by kernel_rfl)
theorem ce_22 : Program.cellsOf Tryd.prog 22 = 1 := _root_.id (by kernel_rfl)
theorem bo_22 : Program.bytesOf Tryd.prog 22 = 24 := _root_.id (by kernel_rfl)
theorem zc_22 : zeroCells Tryd.prog 22 = some [.nil] := _root_.id (by kernel_rfl)
theorem tk_32 : tk Tryd.prog 32 = .slice 173 := _root_.id (by kernel_rfl)
theorem sz_32 : szOf Tryd.prog 32 = 1 := _root_.id (by kernel_rfl)
theorem by_32 : byOf Tryd.prog 32 = 24 := _root_.id (by kernel_rfl)
theorem ag_32 : agT Tryd.prog 32 = some none := _root_.id (by kernel_rfl)
theorem ce_32 : Program.cellsOf Tryd.prog 32 = 1 := _root_.id (by kernel_rfl)
theorem bo_32 : Program.bytesOf Tryd.prog 32 = 24 := _root_.id (by kernel_rfl)
theorem zc_32 : zeroCells Tryd.prog 32 = some [.nil] := _root_.id (by kernel_rfl)
theorem tk_33 : tk Tryd.prog 33 = .slice 175 := _root_.id (by kernel_rfl)
theorem sz_33 : szOf Tryd.prog 33 = 1 := _root_.id (by kernel_rfl)
theorem by_33 : byOf Tryd.prog 33 = 24 := _root_.id (by kernel_rfl)
theorem ag_33 : agT Tryd.prog 33 = some none := _root_.id (by kernel_rfl)
theorem ce_33 : Program.cellsOf Tryd.prog 33 = 1 := _root_.id (by kernel_rfl)
theorem bo_33 : Program.bytesOf Tryd.prog 33 = 24 := _root_.id (by kernel_rfl)
theorem zc_33 : zeroCells Tryd.prog 33 = some [.nil] := _root_.id (by kernel_rfl)
theorem tk_35 : tk Tryd.prog 35 = .struct [(0, 1), (1, 1), (2, 1), (3, 1), (4, 1), (5, 1), (6, 1)] := _root_.id (by kernel_rfl)
theorem sz_35 : szOf Tryd.prog 35 = 7 := _root_.id (by kernel_rfl)
theorem by_35 : byOf Tryd.prog 35 = 88 := _root_.id (by kernel_rfl)
theorem ag_35 : agT Tryd.prog 35 = some (some 7) := _root_.id (by kernel_rfl)
theorem ce_35 : Program.cellsOf Tryd.prog 35 = 7 := _root_.id (by kernel_rfl)
theorem bo_35 : Program.bytesOf Tryd.prog 35 = 88 := _root_.id (by kernel_rfl)
theorem sty_35 : sty Tryd.prog 35 = some [32, 33, 3, 3, 3, 3, 3] := _root_.id (by kernel_rfl)
theorem zc_35 : zeroCells Tryd.prog 35 = some [.nil, .nil, .int .i64 0, .int .i64 0, .int .i64 0, .int .i64 0, .int .i64 0] := _root_.id (by kernel_rfl)
theorem pl_35 : places Tryd.prog 35 = some [(0, 1), (1, 1), (2, 1), (3, 1), (4, 1), (5, 1), (6, 1)] := _root_.id (by kernel_rfl)
theorem tk_36 : tk Tryd.prog 36 = .slice 3 := _root_.id (by kernel_rfl)
theorem sz_36 : szOf Tryd.prog 36 = 1 := _root_.id (by kernel_rfl)
theorem by_36 : byOf Tryd.prog 36 = 24 := _root_.id (by kernel_rfl)
theorem ag_36 : agT Tryd.prog 36 = some none := _root_.id (by kernel_rfl)
theorem ce_36 : Program.cellsOf Tryd.prog 36 = 1 := _root_.id (by kernel_rfl)
theorem bo_36 : Program.bytesOf Tryd.prog 36 = 24 := _root_.id (by kernel_rfl)
theorem zc_36 : zeroCells Tryd.prog 36 = some [.nil] := _root_.id (by kernel_rfl)
theorem tk_38 : tk Tryd.prog 38 = .struct [(0, 1), (1, 1), (2, 1), (3, 1), (4, 1)] := _root_.id (by kernel_rfl)
theorem sz_38 : szOf Tryd.prog 38 = 5 := _root_.id (by kernel_rfl)
theorem by_38 : byOf Tryd.prog 38 = 88 := _root_.id (by kernel_rfl)
theorem ag_38 : agT Tryd.prog 38 = some (some 5) := _root_.id (by kernel_rfl)
theorem ce_38 : Program.cellsOf Tryd.prog 38 = 5 := _root_.id (by kernel_rfl)
theorem bo_38 : Program.bytesOf Tryd.prog 38 = 88 := _root_.id (by kernel_rfl)
theorem sty_38 : sty Tryd.prog 38 = some [3, 3, 36, 36, 36] := _root_.id (by kernel_rfl)
theorem zc_38 : zeroCells Tryd.prog 38 = some [.int .i64 0, .int .i64 0, .nil, .nil, .nil] := _root_.id (by kernel_rfl)
theorem pl_38 : places Tryd.prog 38 = some [(0, 1), (1, 1), (2, 1), (3, 1), (4, 1)] := _root_.id (by kernel_rfl)
theorem tk_40 : tk Tryd.prog 40 = .struct [(0, 7), (7, 5)] := _root_.id (by kernel_rfl)
theorem sz_40 : szOf Tryd.prog 40 = 12 := _root_.id (by kernel_rfl)
theorem by_40 : byOf Tryd.prog 40 = 176 := _root_.id (by kernel_rfl)
theorem ag_40 : agT Tryd.prog 40 = some (some 12) := _root_.id (by kernel_rfl)
theorem ce_40 : Program.cellsOf Tryd.prog 40 = 12 := _root_.id (by kernel_rfl)
theorem bo_40 : Program.bytesOf Tryd.prog 40 = 176 := _root_.id (by kernel_rfl)
theorem sty_40 : sty Tryd.prog 40 = some [35, 38] := _root_.id (by kernel_rfl)
theorem zc_40 : zeroCells Tryd.prog 40 = some [.nil, .nil, .int .i64 0, .int .i64 0, .int .i64 0, .int .i64 0, .int .i64 0, .int .i64 0, .int .i64 0, .nil, .nil, .nil] := _root_.id (by kernel_rfl)
theorem pl_40 : places Tryd.prog 40 = some [(0, 7), (7, 5)] := _root_.id (by kernel_rfl)
theorem tk_44 : tk Tryd.prog 44 = .slice 176 := _root_.id (by kernel_rfl)
theorem sz_44 : szOf Tryd.prog 44 = 1 := _root_.id (by kernel_rfl)
theorem by_44 : byOf Tryd.prog 44 = 24 := _root_.id (by kernel_rfl)
theorem ag_44 : agT Tryd.prog 44 = some none := _root_.id (by kernel_rfl)
theorem ce_44 : Program.cellsOf Tryd.prog 44 = 1 := _root_.id (by kernel_rfl)
theorem bo_44 : Program.bytesOf Tryd.prog 44 = 24 := _root_.id (by kernel_rfl)
theorem zc_44 : zeroCells Tryd.prog 44 = some [.nil] := _root_.id (by kernel_rfl)
theorem tk_45 : tk Tryd.prog 45 = .slice 122 := _root_.id (by kernel_rfl)
theorem sz_45 : szOf Tryd.prog 45 = 1 := _root_.id (by kernel_rfl)
theorem by_45 : byOf Tryd.prog 45 = 24 := _root_.id (by kernel_rfl)
theorem ag_45 : agT Tryd.prog 45 = some none := _root_.id (by kernel_rfl)
theorem ce_45 : Program.cellsOf Tryd.prog 45 = 1 := _root_.id (by kernel_rfl)
theorem bo_45 : Program.bytesOf Tryd.prog 45 = 24 := _root_.id (by kernel_rfl)
theorem zc_45 : zeroCells Tryd.prog 45 = some [.nil] := _root_.id (by kernel_rfl)
theorem tk_47 : tk Tryd.prog 47 = .struct [(0, 1), (1, 1), (2, 1), (3, 1), (4, 1), (5, 1), (6, 1)] := _root_.id (by kernel_rfl)
theorem sz_47 : szOf Tryd.prog 47 = 7 := _root_.id (by kernel_rfl)
theorem by_47 : byOf Tryd.prog 47 = 88 := _root_.id (by kernel_rfl)
theorem ag_47 : agT Tryd.prog 47 = some (some 7) := _root_.id (by kernel_rfl)
theorem ce_47 : Program.cellsOf Tryd.prog 47 = 7 := _root_.id (by kernel_rfl)
theorem bo_47 : Program.bytesOf Tryd.prog 47 = 88 := _root_.id (by kernel_rfl)
theorem sty_47 : sty Tryd.prog 47 = some [44, 45, 3, 3, 3, 3, 3] := _root_.id (by kernel_rfl)
theorem zc_47 : zeroCells Tryd.prog 47 = some [.nil, .nil, .int .i64 0, .int .i64 0, .int .i64 0, .int .i64 0, .int .i64 0] := _root_.id (by kernel_rfl)
theorem pl_47 : places Tryd.prog 47 = some [(0, 1), (1, 1), (2, 1), (3, 1), (4, 1), (5, 1), (6, 1)] := _root_.id (by kernel_rfl)
theorem tk_48 : tk Tryd.prog 48 = .struct [(0, 1), (1, 1), (2, 1), (3, 1), (4, 1)] := _root_.id (by kernel_rfl)
theorem sz_48 : szOf Tryd.prog 48 = 5 := _root_.id (by kernel_rfl)
theorem by_48 : byOf Tryd.prog 48 = 88 := _root_.id (by kernel_rfl)
theorem ag_48 : agT Tryd.prog 48 = some (some 5) := _root_.id (by kernel_rfl)
theorem ce_48 : Program.cellsOf Tryd.prog 48 = 5 := _root_.id (by kernel_rfl)
theorem bo_48 : Program.bytesOf Tryd.prog 48 = 88 := _root_.id (by kernel_rfl)
theorem sty_48 : sty Tryd.prog 48 = some [3, 3, 36, 36, 36] := _root_.id (by kernel_rfl)
theorem zc_48 : zeroCells Tryd.prog 48 = some [.int .i64 0, .int .i64 0, .nil, .nil, .nil] := _root_.id (by kernel_rfl)
theorem pl_48 : places Tryd.prog 48 = some [(0, 1), (1, 1), (2, 1), (3, 1), (4, 1)] := _root_.id (by kernel_rfl)
theorem tk_50 : tk Tryd.prog 50 = .struct [(0, 7), (7, 5)] := _root_.id (by kernel_rfl)
theorem sz_50 : szOf Tryd.prog 50 = 12 := _root_.id (by kernel_rfl)
theorem by_50 : byOf Tryd.prog 50 = 176 := _root_.id (by kernel_rfl)
theorem ag_50 : agT Tryd.prog 50 = some (some 12) := _root_.id (by kernel_rfl)
theorem ce_50 : Program.cellsOf Tryd.prog 50 = 12 := _root_.id (by kernel_rfl)
theorem bo_50 : Program.bytesOf Tryd.prog 50 = 176 := _root_.id (by kernel_rfl)
theorem sty_50 : sty Tryd.prog 50 = some [47, 48] := _root_.id (by kernel_rfl)
theorem zc_50 : zeroCells Tryd.prog 50 = some [.nil, .nil, .int .i64 0, .int .i64 0, .int .i64 0, .int .i64 0, .int .i64 0, .int .i64 0, .int .i64 0, .nil, .nil, .nil] := _root_.id (by kernel_rfl)
theorem pl_50 : places Tryd.prog 50 = some [(0, 7), (7, 5)] := _root_.id (by kernel_rfl)
theorem tk_118 : tk Tryd.prog 118 = .other := _root_.id (by kernel_rfl)
theorem sz_118 : szOf Tryd.prog 118 = 1 := _root_.id (by kernel_rfl)
theorem by_118 : byOf Tryd.prog 118 = 8 := _root_.id (by kernel_rfl)
theorem ag_118 : agT Tryd.prog 118 = some none := _root_.id (by kernel_rfl)
theorem ce_118 : Program.cellsOf Tryd.prog 118 = 1 := _root_.id (by kernel_rfl)
theorem bo_118 : Program.bytesOf Tryd.prog 118 = 8 := _root_.id (by kernel_rfl)
theorem zc_118 : zeroCells Tryd.prog 118 = some [.con .nilFunc] := _root_.id (by kernel_rfl)
theorem tk_122 : tk Tryd.prog 122 = .struct [(0, 1), (1, 1), (2, 1), (3, 1), (4, 1), (5, 1)] := _root_.id (by kernel_rfl)
theorem sz_122 : szOf Tryd.prog 122 = 6 := _root_.id (by kernel_rfl)
theorem by_122 : byOf Tryd.prog 122 = 56 := _root_.id (by kernel_rfl)
theorem ag_122 : agT Tryd.prog 122 = some (some 6) := _root_.id (by kernel_rfl)
theorem ce_122 : Program.cellsOf Tryd.prog 122 = 6 := _root_.id (by kernel_rfl)
theorem bo_122 : Program.bytesOf Tryd.prog 122 = 56 := _root_.id (by kernel_rfl)
theorem sty_122 : sty Tryd.prog 122 = some [9, 3, 3, 3, 4, 3] := _root_.id (by kernel_rfl)
theorem zc_122 : zeroCells Tryd.prog 122 = some [.str ⟨⟨[]⟩⟩, .int .i64 0, .int .i64 0, .int .i64 0, .bool false, .int .i64 0] := _root_.id (by kernel_rfl)
theorem pl_122 : places Tryd.prog 122 = some [(0, 1), (1, 1), (2, 1), (3, 1), (4, 1), (5, 1)] := _root_.id (by kernel_rfl)
theorem tk_173 : tk Tryd.prog 173 = .struct [(0, 1), (1, 1), (2, 1), (3, 1), (4, 1)] := _root_.id (by kernel_rfl)
theorem sz_173 : szOf Tryd.prog 173 = 5 := _root_.id (by kernel_rfl)
theorem by_173 : byOf Tryd.prog 173 = 64 := _root_.id (by kernel_rfl)
theorem ag_173 : agT Tryd.prog 173 = some (some 5) := _root_.id (by kernel_rfl)
theorem ce_173 : Program.cellsOf Tryd.prog 173 = 5 := _root_.id (by kernel_rfl)
theorem bo_173 : Program.bytesOf Tryd.prog 173 = 64 := _root_.id (by kernel_rfl)
theorem sty_173 : sty Tryd.prog 173 = some [9, 36, 3, 3, 4] := _root_.id (by kernel_rfl)
theorem zc_173 : zeroCells Tryd.prog 173 = some [.str ⟨⟨[]⟩⟩, .nil, .int .i64 0, .int .i64 0, .bool false] := _root_.id (by kernel_rfl)
theorem pl_173 : places Tryd.prog 173 = some [(0, 1), (1, 1), (2, 1), (3, 1), (4, 1)] := _root_.id (by kernel_rfl)
theorem tk_175 : tk Tryd.prog 175 = .struct [(0, 1), (1, 1), (2, 1), (3, 1), (4, 1), (5, 1)] := _root_.id (by kernel_rfl)
theorem sz_175 : szOf Tryd.prog 175 = 6 := _root_.id (by kernel_rfl)
theorem by_175 : byOf Tryd.prog 175 = 56 := _root_.id (by kernel_rfl)
theorem ag_175 : agT Tryd.prog 175 = some (some 6) := _root_.id (by kernel_rfl)
theorem ce_175 : Program.cellsOf Tryd.prog 175 = 6 := _root_.id (by kernel_rfl)
theorem bo_175 : Program.bytesOf Tryd.prog 175 = 56 := _root_.id (by kernel_rfl)
theorem sty_175 : sty Tryd.prog 175 = some [9, 3, 3, 3, 4, 3] := _root_.id (by kernel_rfl)
theorem zc_175 : zeroCells Tryd.prog 175 = some [.str ⟨⟨[]⟩⟩, .int .i64 0, .int .i64 0, .int .i64 0, .bool false, .int .i64 0] := _root_.id (by kernel_rfl)
theorem pl_175 : places Tryd.prog 175 = some [(0, 1), (1, 1), (2, 1), (3, 1), (4, 1), (5, 1)] := _root_.id (by kernel_rfl)
theorem tk_176 : tk Tryd.prog 176 = .struct [(0, 1), (1, 1), (2, 1), (3, 1), (4, 1)] := _root_.id (by kernel_rfl)
theorem sz_176 : szOf Tryd.prog 176 = 5 := _root_.id (by kernel_rfl)
theorem by_176 : byOf Tryd.prog 176 = 64 := _root_.id (by kernel_rfl)
theorem ag_176 : agT Tryd.prog 176 = some (some 5) := _root_.id (by kernel_rfl)
theorem ce_176 : Program.cellsOf Tryd.prog 176 = 5 := _root_.id (by kernel_rfl)
theorem bo_176 : Program.bytesOf Tryd.prog 176 = 64 := _root_.id (by kernel_rfl)
theorem sty_176 : sty Tryd.prog 176 = some [9, 36, 3, 3, 4] := _root_.id (by kernel_rfl)
theorem zc_176 : zeroCells Tryd.prog 176 = some [.str ⟨⟨[]⟩⟩, .nil, .int .i64 0, .int .i64 0, .bool false] := _root_.id (by kernel_rfl)
theorem pl_176 : places Tryd.prog 176 = some [(0, 1), (1, 1), (2, 1), (3, 1), (4, 1)] := _root_.id (by kernel_rfl)
theorem tk_186 : tk Tryd.prog 186 = .other := _root_.id (by kernel_rfl)
theorem sz_186 : szOf Tryd.prog 186 = 1 := _root_.id (by kernel_rfl)
theorem by_186 : byOf Tryd.prog 186 = 8 := _root_.id (by kernel_rfl)
theorem ag_186 : agT Tryd.prog 186 = some none := _root_.id (by kernel_rfl)
theorem ce_186 : Program.cellsOf Tryd.prog 186 = 1 := _root_.id (by kernel_rfl)
theorem bo_186 : Program.bytesOf Tryd.prog 186 = 8 := _root_.id (by kernel_rfl)
theorem zc_186 : zeroCells Tryd.prog 186 = some [.con .nilFunc] := _root_.id (by kernel_rfl)
theorem tk_205 : tk Tryd.prog 205 = .other := _root_.id (by kernel_rfl)
theorem sz_205 : szOf Tryd.prog 205 = 1 := _root_.id (by kernel_rfl)
theorem by_205 : byOf Tryd.prog 205 = 8 := _root_.id (by kernel_rfl)
theorem ag_205 : agT Tryd.prog 205 = some none := _root_.id (by kernel_rfl)
theorem ce_205 : Program.cellsOf Tryd.prog 205 = 1 := _root_.id (by kernel_rfl)
theorem bo_205 : Program.bytesOf Tryd.prog 205 = 8 := _root_.id (by kernel_rfl)
theorem zc_205 : zeroCells Tryd.prog 205 = some [.con .nilFunc] := _root_.id (by kernel_rfl)
theorem tk_214 : tk Tryd.prog 214 = .struct [(0, 1), (1, 1)] := _root_.id (by kernel_rfl)
theorem sz_214 : szOf Tryd.prog 214 = 2 := _root_.id (by kernel_rfl)
theorem by_214 : byOf Tryd.prog 214 = 16 := _root_.id (by kernel_rfl)
theorem ag_214 : agT Tryd.prog 214 = some (some 2) := _root_.id (by kernel_rfl)
theorem ce_214 : Program.cellsOf Tryd.prog 214 = 2 := _root_.id (by kernel_rfl)
theorem bo_214 : Program.bytesOf Tryd.prog 214 = 16 := _root_.id (by kernel_rfl)
theorem sty_214 : sty Tryd.prog 214 = some [3, 3] := _root_.id (by kernel_rfl)
theorem zc_214 : zeroCells Tryd.prog 214 = some [.int .i64 0, .int .i64 0] := _root_.id (by kernel_rfl)
theorem pl_214 : places Tryd.prog 214 = some [(0, 1), (1, 1)] := _root_.id (by kernel_rfl)
theorem tk_228 : tk Tryd.prog 228 = .array 6 214 := _root_.id (by kernel_rfl)
theorem sz_228 : szOf Tryd.prog 228 = 12 := _root_.id (by kernel_rfl)
theorem by_228 : byOf Tryd.prog 228 = 96 := _root_.id (by kernel_rfl)
theorem ag_228 : agT Tryd.prog 228 = some (some 12) := _root_.id (by kernel_rfl)
theorem ce_228 : Program.cellsOf Tryd.prog 228 = 12 := _root_.id (by kernel_rfl)
theorem bo_228 : Program.bytesOf Tryd.prog 228 = 96 := _root_.id (by kernel_rfl)
theorem zc_228 : zeroCells Tryd.prog 228 = some [.int .i64 0, .int .i64 0, .int .i64 0, .int .i64 0, .int .i64 0, .int .i64 0, .int .i64 0, .int .i64 0, .int .i64 0, .int .i64 0, .int .i64 0, .int .i64 0] := _root_.id (by kernel_rfl)
attribute [push_cast] md_17 md_19 md_21 md_55 md_56 md_59 md_60 md_63 md_64 md_65 md_66 md_68 md_69 md_71 md_75 md_76
attribute [push_cast] md_98 md_101 md_105 md_106 md_107 md_108 md_109 md_110 md_111 md_112 md_113 md_114 md_115 md_116 md_117 md_119
attribute [push_cast] md_135 md_142 md_143 md_144 md_145 md_146 md_147 md_148 md_149 md_150 md_151 md_152 md_153 md_154 md_155 md_156
attribute [push_cast] md_157 md_162 md_170 md_171 md_172 md_173 md_174 md_175 md_176 md_177 md_184 md_185 md_186 md_187 md_188 md_189
attribute [push_cast] md_4 md_18 md_20 md_57 md_58 md_61 md_62 tk_3 sz_3 by_3 ag_3 zc_3 tk_4 sz_4 by_4 ag_4
attribute [push_cast] zc_4 tk_5 sz_5 by_5 ag_5 zc_5 tk_9 sz_9 by_9 ag_9 zc_9 tk_22 sz_22 by_22 ag_22 zc_22
attribute [push_cast] tk_32 sz_32 by_32 ag_32 zc_32 tk_33 sz_33 by_33 ag_33 zc_33 tk_35 sz_35 by_35 ag_35 zc_35 pl_35
attribute [push_cast] tk_36 sz_36 by_36 ag_36 zc_36 tk_38 sz_38 by_38 ag_38 zc_38 pl_38 tk_40 sz_40 by_40 ag_40 zc_40
attribute [push_cast] pl_40 tk_44 sz_44 by_44 ag_44 zc_44 tk_45 sz_45 by_45 ag_45 zc_45 tk_47 sz_47 by_47 ag_47 zc_47
attribute [push_cast] pl_47 tk_48 sz_48 by_48 ag_48 zc_48 pl_48 tk_50 sz_50 by_50 ag_50 zc_50 pl_50 tk_118 sz_118 by_118
attribute [push_cast] ag_118 zc_118 tk_122 sz_122 by_122 ag_122 zc_122 pl_122 tk_173 sz_173 by_173 ag_173 zc_173 pl_173 tk_175 sz_175
attribute [push_cast] by_175 ag_175 zc_175 pl_175 tk_176 sz_176 by_176 ag_176 zc_176 pl_176 tk_186 sz_186 by_186 ag_186 zc_186 tk_205
attribute [push_cast] sz_205 by_205 ag_205 zc_205 tk_214 sz_214 by_214 ag_214 zc_214 pl_214 tk_228 sz_228 by_228 ag_228 zc_228
end Go.Proofs.YtlddjlchgibdfaaDoor.X
