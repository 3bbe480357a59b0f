/- A part of the proof: lemmas on the functions that the law reaches. No condition of its own. -/
import Derived.Test.YtlddjlchgibdfaaDoorXCCodeB
import Derived.Test.YtlddjlchgibdfaaDoorProg
import Derived.KernelRfl
namespace Go.Proofs.YtlddjlchgibdfaaDoor.X
open Go

/-- laws.FnExactIsSetup -/
theorem md_11 : md0 11 = false := rfl
def c11 : XC :=
  .op (some 1) (.box 86 (.tmp 0)) none <|
  .op (some 2) (.assign (.const (.bool false))) none <|
  .op (some 3) (.assign (.const (.int .i64 1048576))) none <|
  .op (some 7) (.load 86 (.tmp 1)) none <|
  .op (some 8) (.move (.tmp 3)) none <|
  .op (some 9) (.call ⟨.value (.func 43), ⟨[.tmp 7, .tmp 8]⟩, ⟨[86, 3]⟩⟩) none <|
  .op (some 3) (.assign (.tmp 9)) none <|
  .op (some 10) (.move (.tmp 3)) none <|
  .op (some 11) (.binOp .lss 3 (.tmp 10) (.const (.int .i64 0)) 3) none <|
  .cond (.tmp 11)
    (.op (some 2) (.assign (.const (.bool true))) none <|
      .ret)
    (.done) <|
  .op (some 12) (.load 86 (.tmp 1)) none <|
  .op (some 13) (.call ⟨.value (.func 45), ⟨[.tmp 12]⟩, ⟨[86]⟩⟩) none <|
  .op (some 14) (.call ⟨.value (.func 44), ⟨[.tmp 13]⟩, ⟨[93]⟩⟩) none <|
  .op (some 4) (.assign (.tmp 14)) none <|
  .op (some 15) (.load 86 (.tmp 1)) none <|
  .op (some 16) (.call ⟨.value (.func 45), ⟨[.tmp 15]⟩, ⟨[86]⟩⟩) none <|
  .op (some 5) (.alloc 93) none <|
  .op none (.store 93 (.tmp 5) (.tmp 16)) none <|
  .op (some 17) (.load 93 (.tmp 5)) none <|
  .op (some 18) (.call ⟨.value (.func 46), ⟨[.tmp 17]⟩, ⟨[93]⟩⟩) none <|
  .op (some 6) (.assign (.tmp 18)) none <|
  .op (some 19) (.move (.tmp 6)) none <|
  .op (some 20) (.move (.tmp 4)) none <|
  .op (some 21) (.binOp .neq 4 (.tmp 19) (.tmp 20) 4) none <|
  .cond (.tmp 21)
    (.op (some 2) (.assign (.const (.bool false))) none <|
      .ret)
    (.done) <|
  .op (some 22) (.load 93 (.tmp 5)) none <|
  .op (some 23) (.load 86 (.tmp 1)) none <|
  .op (some 24) (.call ⟨.value (.func 45), ⟨[.tmp 23]⟩, ⟨[86]⟩⟩) none <|
  .op (some 25) (.call ⟨.value (.func 47), ⟨[.tmp 22, .tmp 24]⟩, ⟨[93, 93]⟩⟩) none <|
  .op (some 26) (.unOp .not 4 (.tmp 25)) none <|
  .cond (.tmp 26)
    (.op (some 2) (.assign (.const (.bool false))) none <|
      .ret)
    (.done) <|
  .op (some 2) (.assign (.const (.bool true))) none <|
  .ret
theorem h11 : compF md0 Tryd.f11 = c11 := by kernel_rfl
theorem r11 : Tryd.f11.results.toList = [.tmp 2] := _root_.id (by kernel_rfl)
theorem nt11 : Tryd.f11.ntmps = 27 := by kernel_rfl
/-- laws.szClimate -/
theorem md_12 : md0 12 = false := rfl
def c12 : XC :=
  .op (some 2) (.box 24 (.tmp 0)) none <|
  .op (some 4) (.assign (.const (.int .i64 0))) none <|
  .op (some 5) (.fieldAddr 24 (.tmp 2) 0) none <|
  .op (some 6) (.load 22 (.tmp 5)) none <|
  .op (some 7) (.move (.tmp 1)) none <|
  .op (some 8) (.call ⟨.value (.func 48), ⟨[.tmp 6, .tmp 7]⟩, ⟨[22, 3]⟩⟩) none <|
  .op (some 1) (.assign (.tmp 8)) none <|
  .op (some 9) (.move (.tmp 1)) none <|
  .op (some 10) (.binOp .lss 3 (.tmp 9) (.const (.int .i64 0)) 3) none <|
  .cond (.tmp 10)
    (.op (some 4) (.assign (.const (.int .i64 (-1)))) none <|
      .ret)
    (.done) <|
  .op (some 11) (.move (.tmp 1)) none <|
  .op (some 4) (.assign (.tmp 11)) none <|
  .ret
theorem h12 : compF md0 Tryd.f12 = c12 := by kernel_rfl
theorem r12 : Tryd.f12.results.toList = [.tmp 4] := _root_.id (by kernel_rfl)
theorem nt12 : Tryd.f12.ntmps = 12 := by kernel_rfl
/-- laws.toClimate -/
theorem md_14 : md0 14 = false := rfl
def c14 : XC :=
  .op (some 1) (.box 24 (.tmp 0)) none <|
  .op (some 2) (.alloc 28) none <|
  .op (some 3) (.alloc 28) none <|
  .op (some 4) (.fieldAddr 24 (.tmp 1) 0) none <|
  .op (some 5) (.load 22 (.tmp 4)) none <|
  .op (some 6) (.call ⟨.value (.func 51), ⟨[.tmp 5]⟩, ⟨[22]⟩⟩) none <|
  .op (some 7) (.fieldAddr 28 (.tmp 3) 0) none <|
  .op none (.store 22 (.tmp 7) (.tmp 6)) none <|
  .op (some 8) (.load 28 (.tmp 3)) none <|
  .op none (.store 28 (.tmp 2) (.tmp 8)) none <|
  .ret
theorem h14 : compF md0 Tryd.f14 = c14 := by kernel_rfl
theorem r14 : Tryd.f14.results.toList = [.cell 2 28] := _root_.id (by kernel_rfl)
theorem nt14 : Tryd.f14.ntmps = 9 := by kernel_rfl
/-- laws.eqClimate -/
theorem md_16 : md0 16 = false := rfl
def c16 : XC :=
  .op (some 2) (.box 28 (.tmp 0)) none <|
  .op (some 3) (.box 28 (.tmp 1)) none <|
  .op (some 4) (.assign (.const (.bool false))) none <|
  .op (some 5) (.fieldAddr 28 (.tmp 2) 0) none <|
  .op (some 6) (.load 22 (.tmp 5)) none <|
  .op (some 7) (.fieldAddr 28 (.tmp 3) 0) none <|
  .op (some 8) (.load 22 (.tmp 7)) none <|
  .op (some 9) (.call ⟨.value (.func 54), ⟨[.tmp 6, .tmp 8]⟩, ⟨[22, 22]⟩⟩) none <|
  .op (some 10) (.unOp .not 4 (.tmp 9)) none <|
  .cond (.tmp 10)
    (.op (some 4) (.assign (.const (.bool false))) none <|
      .ret)
    (.done) <|
  .op (some 4) (.assign (.const (.bool true))) none <|
  .ret
theorem h16 : compF md0 Tryd.f16 = c16 := by kernel_rfl
theorem r16 : Tryd.f16.results.toList = [.tmp 4] := _root_.id (by kernel_rfl)
theorem nt16 : Tryd.f16.ntmps = 11 := by kernel_rfl
/-- laws.szSetup -/
theorem md_43 : md0 43 = false := rfl
def c43 : XC :=
  .op (some 2) (.box 86 (.tmp 0)) none <|
  .op (some 4) (.assign (.const (.int .i64 0))) none <|
  .op (some 5) (.fieldAddr 86 (.tmp 2) 0) none <|
  .op (some 6) (.load 40 (.tmp 5)) none <|
  .op (some 7) (.move (.tmp 1)) none <|
  .op (some 8) (.call ⟨.value (.func 17), ⟨[.tmp 6, .tmp 7]⟩, ⟨[40, 3]⟩⟩) none <|
  .op (some 1) (.assign (.tmp 8)) none <|
  .op (some 9) (.move (.tmp 1)) none <|
  .op (some 10) (.binOp .lss 3 (.tmp 9) (.const (.int .i64 0)) 3) none <|
  .cond (.tmp 10)
    (.op (some 4) (.assign (.const (.int .i64 (-1)))) none <|
      .ret)
    (.done) <|
  .op (some 11) (.fieldAddr 86 (.tmp 2) 1) none <|
  .op (some 12) (.load 84 (.tmp 11)) none <|
  .op (some 13) (.move (.tmp 1)) none <|
  .op (some 14) (.call ⟨.value (.func 92), ⟨[.tmp 12, .tmp 13]⟩, ⟨[84, 3]⟩⟩) none <|
  .op (some 1) (.assign (.tmp 14)) none <|
  .op (some 15) (.move (.tmp 1)) none <|
  .op (some 16) (.binOp .lss 3 (.tmp 15) (.const (.int .i64 0)) 3) none <|
  .cond (.tmp 16)
    (.op (some 4) (.assign (.const (.int .i64 (-1)))) none <|
      .ret)
    (.done) <|
  .op (some 17) (.fieldAddr 86 (.tmp 2) 2) none <|
  .op (some 18) (.load 24 (.tmp 17)) none <|
  .op (some 19) (.move (.tmp 1)) none <|
  .op (some 20) (.call ⟨.value (.func 12), ⟨[.tmp 18, .tmp 19]⟩, ⟨[24, 3]⟩⟩) none <|
  .op (some 1) (.assign (.tmp 20)) none <|
  .op (some 21) (.move (.tmp 1)) none <|
  .op (some 22) (.binOp .lss 3 (.tmp 21) (.const (.int .i64 0)) 3) none <|
  .cond (.tmp 22)
    (.op (some 4) (.assign (.const (.int .i64 (-1)))) none <|
      .ret)
    (.done) <|
  .op (some 23) (.fieldAddr 86 (.tmp 2) 3) none <|
  .op (some 24) (.load 22 (.tmp 23)) none <|
  .op (some 25) (.move (.tmp 1)) none <|
  .op (some 26) (.call ⟨.value (.func 48), ⟨[.tmp 24, .tmp 25]⟩, ⟨[22, 3]⟩⟩) none <|
  .op (some 1) (.assign (.tmp 26)) none <|
  .op (some 27) (.move (.tmp 1)) none <|
  .op (some 28) (.binOp .lss 3 (.tmp 27) (.const (.int .i64 0)) 3) none <|
  .cond (.tmp 28)
    (.op (some 4) (.assign (.const (.int .i64 (-1)))) none <|
      .ret)
    (.done) <|
  .op (some 29) (.move (.tmp 1)) none <|
  .op (some 4) (.assign (.tmp 29)) none <|
  .ret
theorem h43 : compF md0 Tryd.f43 = c43 := by kernel_rfl
theorem r43 : Tryd.f43.results.toList = [.tmp 4] := _root_.id (by kernel_rfl)
theorem nt43 : Tryd.f43.ntmps = 30 := by kernel_rfl
/-- spec.IsSetup -/
theorem md_44 : md0 44 = false := rfl
def c44 : XC :=
  .op (some 1) (.box 93 (.tmp 0)) none <|
  .op (some 2) (.assign (.const (.bool false))) none <|
  .op (some 3) (.load 93 (.tmp 1)) none <|
  .op (some 4) (.call ⟨.value (.func 93), ⟨[.tmp 3]⟩, ⟨[93]⟩⟩) none <|
  .op (some 2) (.assign (.tmp 4)) none <|
  .ret
theorem h44 : compF md0 Tryd.f44 = c44 := by kernel_rfl
theorem r44 : Tryd.f44.results.toList = [.tmp 2] := _root_.id (by kernel_rfl)
theorem nt44 : Tryd.f44.ntmps = 5 := by kernel_rfl
/-- laws.toSetup -/
theorem md_45 : md0 45 = false := rfl
def c45 : XC :=
  .op (some 1) (.box 86 (.tmp 0)) none <|
  .op (some 2) (.alloc 93) none <|
  .op (some 3) (.alloc 93) none <|
  .op (some 4) (.fieldAddr 86 (.tmp 1) 0) none <|
  .op (some 5) (.load 40 (.tmp 4)) none <|
  .op (some 6) (.call ⟨.value (.func 19), ⟨[.tmp 5]⟩, ⟨[40]⟩⟩) none <|
  .op (some 7) (.fieldAddr 93 (.tmp 3) 0) none <|
  .op none (.store 50 (.tmp 7) (.tmp 6)) none <|
  .op (some 8) (.fieldAddr 86 (.tmp 1) 1) none <|
  .op (some 9) (.load 84 (.tmp 8)) none <|
  .op (some 10) (.call ⟨.value (.func 94), ⟨[.tmp 9]⟩, ⟨[84]⟩⟩) none <|
  .op (some 11) (.fieldAddr 93 (.tmp 3) 1) none <|
  .op none (.store 91 (.tmp 11) (.tmp 10)) none <|
  .op (some 12) (.fieldAddr 86 (.tmp 1) 2) none <|
  .op (some 13) (.load 24 (.tmp 12)) none <|
  .op (some 14) (.call ⟨.value (.func 14), ⟨[.tmp 13]⟩, ⟨[24]⟩⟩) none <|
  .op (some 15) (.fieldAddr 93 (.tmp 3) 2) none <|
  .op none (.store 28 (.tmp 15) (.tmp 14)) none <|
  .op (some 16) (.fieldAddr 86 (.tmp 1) 3) none <|
  .op (some 17) (.load 22 (.tmp 16)) none <|
  .op (some 18) (.call ⟨.value (.func 51), ⟨[.tmp 17]⟩, ⟨[22]⟩⟩) none <|
  .op (some 19) (.fieldAddr 93 (.tmp 3) 3) none <|
  .op none (.store 22 (.tmp 19) (.tmp 18)) none <|
  .op (some 20) (.load 93 (.tmp 3)) none <|
  .op none (.store 93 (.tmp 2) (.tmp 20)) none <|
  .ret
theorem h45 : compF md0 Tryd.f45 = c45 := by kernel_rfl
theorem r45 : Tryd.f45.results.toList = [.cell 2 93] := _root_.id (by kernel_rfl)
theorem nt45 : Tryd.f45.ntmps = 21 := by kernel_rfl
/-- impl.IsSetup -/
theorem md_46 : md0 46 = false := rfl
def c46 : XC :=
  .op (some 1) (.box 93 (.tmp 0)) none <|
  .op (some 2) (.assign (.const (.bool false))) none <|
  .op (some 3) (.fieldAddr 93 (.tmp 1) 0) none <|
  .op (some 4) (.load 50 (.tmp 3)) none <|
  .op (some 5) (.call ⟨.value (.func 69), ⟨[.tmp 4]⟩, ⟨[50]⟩⟩) none <|
  .op (some 6) (.unOp .not 4 (.tmp 5)) none <|
  .op (some 7) (.move (.tmp 6)) none <|
  .op (some 8) (.fieldAddr 93 (.tmp 1) 1) (some (7, false)) <|
  .op (some 9) (.load 91 (.tmp 8)) (some (7, false)) <|
  .op (some 10) (.call ⟨.value (.func 95), ⟨[.tmp 9]⟩, ⟨[91]⟩⟩) (some (7, false)) <|
  .op (some 11) (.unOp .not 4 (.tmp 10)) (some (7, false)) <|
  .op (some 12) (.pick (.tmp 7) (.const (.bool true)) (.tmp 11)) none <|
  .op (some 13) (.move (.tmp 12)) none <|
  .op (some 14) (.fieldAddr 93 (.tmp 1) 2) (some (13, false)) <|
  .op (some 15) (.load 28 (.tmp 14)) (some (13, false)) <|
  .op (some 16) (.call ⟨.value (.func 52), ⟨[.tmp 15]⟩, ⟨[28]⟩⟩) (some (13, false)) <|
  .op (some 17) (.unOp .not 4 (.tmp 16)) (some (13, false)) <|
  .op (some 18) (.pick (.tmp 13) (.const (.bool true)) (.tmp 17)) none <|
  .op (some 19) (.move (.tmp 18)) none <|
  .op (some 20) (.fieldAddr 93 (.tmp 1) 3) (some (19, false)) <|
  .op (some 21) (.load 22 (.tmp 20)) (some (19, false)) <|
  .op (some 22) (.call ⟨.builtin .len, ⟨[.tmp 21]⟩, ⟨[22]⟩⟩) (some (19, false)) <|
  .op (some 23) (.binOp .neq 3 (.tmp 22) (.const (.int .i64 2)) 3) (some (19, false)) <|
  .op (some 24) (.pick (.tmp 19) (.const (.bool true)) (.tmp 23)) none <|
  .cond (.tmp 24)
    (.op (some 2) (.assign (.const (.bool false))) none <|
      .ret)
    (.done) <|
  .op (some 25) (.fieldAddr 93 (.tmp 1) 0) none <|
  .op (some 26) (.load 50 (.tmp 25)) none <|
  .op (some 27) (.fieldAddr 93 (.tmp 1) 3) none <|
  .op (some 28) (.load 22 (.tmp 27)) none <|
  .op (some 29) (.indexAddr 22 (.tmp 28) (.const (.int .i64 0))) none <|
  .op (some 30) (.load 36 (.tmp 29)) none <|
  .op (some 31) (.call ⟨.value (.func 96), ⟨[.tmp 26, .tmp 30]⟩, ⟨[50, 36]⟩⟩) none <|
  .op (some 32) (.move (.tmp 31)) none <|
  .op (some 33) (.fieldAddr 93 (.tmp 1) 0) (some (32, true)) <|
  .op (some 34) (.load 50 (.tmp 33)) (some (32, true)) <|
  .op (some 35) (.fieldAddr 93 (.tmp 1) 3) (some (32, true)) <|
  .op (some 36) (.load 22 (.tmp 35)) (some (32, true)) <|
  .op (some 37) (.indexAddr 22 (.tmp 36) (.const (.int .i64 1))) (some (32, true)) <|
  .op (some 38) (.load 36 (.tmp 37)) (some (32, true)) <|
  .op (some 39) (.call ⟨.value (.func 96), ⟨[.tmp 34, .tmp 38]⟩, ⟨[50, 36]⟩⟩) (some (32, true)) <|
  .op (some 40) (.pick (.tmp 32) (.tmp 39) (.const (.bool false))) none <|
  .op (some 2) (.assign (.tmp 40)) none <|
  .ret
theorem h46 : compF md0 Tryd.f46 = c46 := by kernel_rfl
theorem r46 : Tryd.f46.results.toList = [.tmp 2] := _root_.id (by kernel_rfl)
theorem nt46 : Tryd.f46.ntmps = 41 := by kernel_rfl
/-- laws.eqSetup -/
theorem md_47 : md0 47 = false := rfl
def c47 : XC :=
  .op (some 2) (.box 93 (.tmp 0)) none <|
  .op (some 3) (.box 93 (.tmp 1)) none <|
  .op (some 4) (.assign (.const (.bool false))) none <|
  .op (some 5) (.fieldAddr 93 (.tmp 2) 0) none <|
  .op (some 6) (.load 50 (.tmp 5)) none <|
  .op (some 7) (.fieldAddr 93 (.tmp 3) 0) none <|
  .op (some 8) (.load 50 (.tmp 7)) none <|
  .op (some 9) (.call ⟨.value (.func 21), ⟨[.tmp 6, .tmp 8]⟩, ⟨[50, 50]⟩⟩) none <|
  .op (some 10) (.unOp .not 4 (.tmp 9)) none <|
  .cond (.tmp 10)
    (.op (some 4) (.assign (.const (.bool false))) none <|
      .ret)
    (.done) <|
  .op (some 11) (.fieldAddr 93 (.tmp 2) 1) none <|
  .op (some 12) (.load 91 (.tmp 11)) none <|
  .op (some 13) (.fieldAddr 93 (.tmp 3) 1) none <|
  .op (some 14) (.load 91 (.tmp 13)) none <|
  .op (some 15) (.call ⟨.value (.func 97), ⟨[.tmp 12, .tmp 14]⟩, ⟨[91, 91]⟩⟩) none <|
  .op (some 16) (.unOp .not 4 (.tmp 15)) none <|
  .cond (.tmp 16)
    (.op (some 4) (.assign (.const (.bool false))) none <|
      .ret)
    (.done) <|
  .op (some 17) (.fieldAddr 93 (.tmp 2) 2) none <|
  .op (some 18) (.load 28 (.tmp 17)) none <|
  .op (some 19) (.fieldAddr 93 (.tmp 3) 2) none <|
  .op (some 20) (.load 28 (.tmp 19)) none <|
  .op (some 21) (.call ⟨.value (.func 16), ⟨[.tmp 18, .tmp 20]⟩, ⟨[28, 28]⟩⟩) none <|
  .op (some 22) (.unOp .not 4 (.tmp 21)) none <|
  .cond (.tmp 22)
    (.op (some 4) (.assign (.const (.bool false))) none <|
      .ret)
    (.done) <|
  .op (some 23) (.fieldAddr 93 (.tmp 2) 3) none <|
  .op (some 24) (.load 22 (.tmp 23)) none <|
  .op (some 25) (.fieldAddr 93 (.tmp 3) 3) none <|
  .op (some 26) (.load 22 (.tmp 25)) none <|
  .op (some 27) (.call ⟨.value (.func 54), ⟨[.tmp 24, .tmp 26]⟩, ⟨[22, 22]⟩⟩) none <|
  .op (some 28) (.unOp .not 4 (.tmp 27)) none <|
  .cond (.tmp 28)
    (.op (some 4) (.assign (.const (.bool false))) none <|
      .ret)
    (.done) <|
  .op (some 4) (.assign (.const (.bool true))) none <|
  .ret
theorem h47 : compF md0 Tryd.f47 = c47 := by kernel_rfl
theorem r47 : Tryd.f47.results.toList = [.tmp 4] := _root_.id (by kernel_rfl)
theorem nt47 : Tryd.f47.ntmps = 29 := by kernel_rfl
/-- laws.szIntSS -/
theorem md_48 : md0 48 = false := rfl
def c48 : XC :=
  .op (some 4) (.assign (.const (.int .i64 0))) none <|
  .op (some 6) (.move (.tmp 1)) none <|
  .op (some 7) (.move (.tmp 0)) none <|
  .op (some 8) (.call ⟨.builtin .len, ⟨[.tmp 7]⟩, ⟨[22]⟩⟩) none <|
  .op (some 9) (.binOp .sub 3 (.tmp 6) (.tmp 8) 3) none <|
  .op (some 1) (.assign (.tmp 9)) none <|
  .op (some 10) (.move (.tmp 1)) none <|
  .op (some 11) (.binOp .lss 3 (.tmp 10) (.const (.int .i64 0)) 3) none <|
  .cond (.tmp 11)
    (.op (some 4) (.assign (.const (.int .i64 (-1)))) none <|
      .ret)
    (.done) <|
  .op (some 5) (.assign (.const (.int .i64 0))) none <|
  .block 0
    (.loop <|
      .op (some 12) (.move (.tmp 5)) none <|
      .op (some 13) (.move (.tmp 0)) none <|
      .op (some 14) (.call ⟨.builtin .len, ⟨[.tmp 13]⟩, ⟨[22]⟩⟩) none <|
      .op (some 15) (.binOp .lss 3 (.tmp 12) (.tmp 14) 3) none <|
      .cond (.tmp 15)
        (.done)
        (.exit 0) <|
      .block 1
        (.op (some 18) (.move (.tmp 0)) none <|
          .op (some 19) (.move (.tmp 5)) none <|
          .op (some 20) (.indexAddr 22 (.tmp 18) (.tmp 19)) none <|
          .op (some 21) (.load 36 (.tmp 20)) none <|
          .op (some 22) (.move (.tmp 1)) none <|
          .op (some 23) (.call ⟨.value (.func 65), ⟨[.tmp 21, .tmp 22]⟩, ⟨[36, 3]⟩⟩) none <|
          .op (some 1) (.assign (.tmp 23)) none <|
          .op (some 24) (.move (.tmp 1)) none <|
          .op (some 25) (.binOp .lss 3 (.tmp 24) (.const (.int .i64 0)) 3) none <|
          .cond (.tmp 25)
            (.op (some 4) (.assign (.const (.int .i64 (-1)))) none <|
            .ret)
            (.done) <|
          .done) <|
      .op (some 16) (.move (.tmp 5)) none <|
      .op (some 17) (.binOp .add 3 (.tmp 16) (.const (.int .i64 1)) 3) none <|
      .op (some 5) (.assign (.tmp 17)) none <|
      .done) <|
  .op (some 26) (.move (.tmp 1)) none <|
  .op (some 4) (.assign (.tmp 26)) none <|
  .ret
theorem h48 : compF md0 Tryd.f48 = c48 := by kernel_rfl
theorem r48 : Tryd.f48.results.toList = [.tmp 4] := _root_.id (by kernel_rfl)
theorem nt48 : Tryd.f48.ntmps = 27 := by kernel_rfl
/-- spec.wGood -/
theorem md_49 : md0 49 = false := rfl
def c49 : XC :=
  .op (some 1) (.box 28 (.tmp 0)) none <|
  .op (some 2) (.assign (.const (.bool false))) none <|
  .op (some 5) (.fieldAddr 28 (.tmp 1) 0) none <|
  .op (some 6) (.load 22 (.tmp 5)) none <|
  .op (some 7) (.call ⟨.builtin .len, ⟨[.tmp 6]⟩, ⟨[22]⟩⟩) none <|
  .op (some 8) (.binOp .neq 3 (.tmp 7) (.const (.int .i64 3)) 3) none <|
  .cond (.tmp 8)
    (.op (some 2) (.assign (.const (.bool false))) none <|
      .ret)
    (.done) <|
  .op (some 9) (.fieldAddr 28 (.tmp 1) 0) none <|
  .op (some 10) (.load 22 (.tmp 9)) none <|
  .op (some 11) (.call ⟨.builtin .len, ⟨[.tmp 10]⟩, ⟨[22]⟩⟩) none <|
  .op (some 12) (.move (.const (.int .i64 0))) none <|
  .block 0
    (.loop <|
      .op (some 13) (.binOp .lss 3 (.tmp 12) (.tmp 11) 3) none <|
      .cond (.tmp 13)
        (.done)
        (.exit 0) <|
      .block 1
        (.op (some 14) (.indexAddr 22 (.tmp 10) (.tmp 12)) none <|
          .op (some 15) (.load 36 (.tmp 14)) none <|
          .op (some 4) (.assign (.tmp 15)) none <|
          .op (some 16) (.move (.tmp 4)) none <|
          .op (some 17) (.call ⟨.builtin .len, ⟨[.tmp 16]⟩, ⟨[36]⟩⟩) none <|
          .op (some 18) (.binOp .neq 3 (.tmp 17) (.const (.int .i64 3)) 3) none <|
          .op (some 19) (.move (.tmp 18)) none <|
          .op (some 20) (.move (.tmp 4)) (some (19, false)) <|
          .op (some 21) (.call ⟨.value (.func 98), ⟨[.tmp 20, .const (.int .i64 0), .const (.int .i64 36)]⟩, ⟨[36, 3, 3]⟩⟩) (some (19, false)) <|
          .op (some 22) (.unOp .not 4 (.tmp 21)) (some (19, false)) <|
          .op (some 23) (.pick (.tmp 19) (.const (.bool true)) (.tmp 22)) none <|
          .op (some 24) (.move (.tmp 23)) none <|
          .op (some 25) (.move (.tmp 4)) (some (24, false)) <|
          .op (some 26) (.indexAddr 36 (.tmp 25) (.const (.int .i64 0))) (some (24, false)) <|
          .op (some 27) (.load 3 (.tmp 26)) (some (24, false)) <|
          .op (some 28) (.move (.tmp 4)) (some (24, false)) <|
          .op (some 29) (.indexAddr 36 (.tmp 28) (.const (.int .i64 1))) (some (24, false)) <|
          .op (some 30) (.load 3 (.tmp 29)) (some (24, false)) <|
          .op (some 31) (.binOp .add 3 (.tmp 27) (.tmp 30) 3) (some (24, false)) <|
          .op (some 32) (.move (.tmp 4)) (some (24, false)) <|
          .op (some 33) (.indexAddr 36 (.tmp 32) (.const (.int .i64 2))) (some (24, false)) <|
          .op (some 34) (.load 3 (.tmp 33)) (some (24, false)) <|
          .op (some 35) (.binOp .add 3 (.tmp 31) (.tmp 34) 3) (some (24, false)) <|
          .op (some 36) (.binOp .neq 3 (.tmp 35) (.const (.int .i64 36)) 3) (some (24, false)) <|
          .op (some 37) (.pick (.tmp 24) (.const (.bool true)) (.tmp 36)) none <|
          .cond (.tmp 37)
            (.op (some 2) (.assign (.const (.bool false))) none <|
            .ret)
            (.done) <|
          .done) <|
      .op (some 38) (.binOp .add 3 (.tmp 12) (.const (.int .i64 1)) 3) none <|
      .op (some 12) (.move (.tmp 38)) none <|
      .done) <|
  .op (some 2) (.assign (.const (.bool true))) none <|
  .ret
theorem h49 : compF md0 Tryd.f49 = c49 := by kernel_rfl
theorem r49 : Tryd.f49.results.toList = [.tmp 2] := _root_.id (by kernel_rfl)
theorem nt49 : Tryd.f49.ntmps = 39 := by kernel_rfl
/-- laws.toIntSS -/
theorem md_51 : md0 51 = false := rfl
def c51 : XC :=
  .op (some 2) (.assign (.const (.slice none 0 0))) none <|
  .op (some 5) (.move (.tmp 0)) none <|
  .op (some 6) (.call ⟨.builtin .len, ⟨[.tmp 5]⟩, ⟨[22]⟩⟩) none <|
  .op (some 7) (.makeSlice 22 (.tmp 6) (.tmp 6)) none <|
  .op (some 3) (.assign (.tmp 7)) none <|
  .op (some 4) (.assign (.const (.int .i64 0))) none <|
  .block 0
    (.loop <|
      .op (some 8) (.move (.tmp 4)) none <|
      .op (some 9) (.move (.tmp 0)) none <|
      .op (some 10) (.call ⟨.builtin .len, ⟨[.tmp 9]⟩, ⟨[22]⟩⟩) none <|
      .op (some 11) (.binOp .lss 3 (.tmp 8) (.tmp 10) 3) none <|
      .cond (.tmp 11)
        (.done)
        (.exit 0) <|
      .block 1
        (.op (some 14) (.move (.tmp 3)) none <|
          .op (some 15) (.move (.tmp 4)) none <|
          .op (some 16) (.move (.tmp 0)) none <|
          .op (some 17) (.move (.tmp 4)) none <|
          .op (some 18) (.indexAddr 22 (.tmp 16) (.tmp 17)) none <|
          .op (some 19) (.load 36 (.tmp 18)) none <|
          .op (some 20) (.call ⟨.value (.func 68), ⟨[.tmp 19]⟩, ⟨[36]⟩⟩) none <|
          .op (some 21) (.indexAddr 22 (.tmp 14) (.tmp 15)) none <|
          .op none (.store 36 (.tmp 21) (.tmp 20)) none <|
          .done) <|
      .op (some 12) (.move (.tmp 4)) none <|
      .op (some 13) (.binOp .add 3 (.tmp 12) (.const (.int .i64 1)) 3) none <|
      .op (some 4) (.assign (.tmp 13)) none <|
      .done) <|
  .op (some 22) (.move (.tmp 3)) none <|
  .op (some 2) (.assign (.tmp 22)) none <|
  .ret
theorem h51 : compF md0 Tryd.f51 = c51 := by kernel_rfl
theorem r51 : Tryd.f51.results.toList = [.tmp 2] := _root_.id (by kernel_rfl)
theorem nt51 : Tryd.f51.ntmps = 23 := by kernel_rfl
/-- impl.IsClimate -/
theorem md_52 : md0 52 = false := rfl
def c52 : XC :=
  .op (some 1) (.box 28 (.tmp 0)) none <|
  .op (some 2) (.assign (.const (.bool false))) none <|
  .op (some 7) (.fieldAddr 28 (.tmp 1) 0) none <|
  .op (some 8) (.load 22 (.tmp 7)) none <|
  .op (some 9) (.call ⟨.builtin .len, ⟨[.tmp 8]⟩, ⟨[22]⟩⟩) none <|
  .op (some 10) (.binOp .neq 3 (.tmp 9) (.const (.int .i64 3)) 3) none <|
  .cond (.tmp 10)
    (.op (some 2) (.assign (.const (.bool false))) none <|
      .ret)
    (.done) <|
  .op (some 11) (.fieldAddr 28 (.tmp 1) 0) none <|
  .op (some 12) (.load 22 (.tmp 11)) none <|
  .op (some 13) (.call ⟨.builtin .len, ⟨[.tmp 12]⟩, ⟨[22]⟩⟩) none <|
  .op (some 14) (.move (.const (.int .i64 0))) none <|
  .block 0
    (.loop <|
      .op (some 15) (.binOp .lss 3 (.tmp 14) (.tmp 13) 3) none <|
      .cond (.tmp 15)
        (.done)
        (.exit 0) <|
      .block 1
        (.op (some 16) (.indexAddr 22 (.tmp 12) (.tmp 14)) none <|
          .op (some 17) (.load 36 (.tmp 16)) none <|
          .op (some 4) (.assign (.tmp 17)) none <|
          .op (some 18) (.move (.tmp 4)) none <|
          .op (some 19) (.call ⟨.builtin .len, ⟨[.tmp 18]⟩, ⟨[36]⟩⟩) none <|
          .op (some 20) (.binOp .neq 3 (.tmp 19) (.const (.int .i64 3)) 3) none <|
          .op (some 21) (.move (.tmp 20)) none <|
          .op (some 22) (.move (.tmp 4)) (some (21, false)) <|
          .op (some 23) (.call ⟨.value (.func 100), ⟨[.tmp 22]⟩, ⟨[36]⟩⟩) (some (21, false)) <|
          .op (some 24) (.binOp .neq 3 (.tmp 23) (.const (.int .i64 36)) 3) (some (21, false)) <|
          .op (some 25) (.pick (.tmp 21) (.const (.bool true)) (.tmp 24)) none <|
          .cond (.tmp 25)
            (.op (some 2) (.assign (.const (.bool false))) none <|
            .ret)
            (.done) <|
          .op (some 26) (.move (.tmp 4)) none <|
          .op (some 27) (.call ⟨.builtin .len, ⟨[.tmp 26]⟩, ⟨[36]⟩⟩) none <|
          .op (some 28) (.move (.const (.int .i64 0))) none <|
          .block 2
            (.loop <|
            .op (some 29) (.binOp .lss 3 (.tmp 28) (.tmp 27) 3) none <|
            .cond (.tmp 29)
              (.done)
              (.exit 2) <|
            .block 3
              (.op (some 30) (.indexAddr 36 (.tmp 26) (.tmp 28)) none <|
            .op (some 31) (.load 3 (.tmp 30)) none <|
            .op (some 6) (.assign (.tmp 31)) none <|
            .op (some 32) (.move (.tmp 6)) none <|
            .op (some 33) (.call ⟨.value (.func 101), ⟨[.tmp 32, .const (.int .i64 0), .const (.int .i64 36)]⟩, ⟨[3, 3, 3]⟩⟩) none <|
            .op (some 34) (.unOp .not 4 (.tmp 33)) none <|
            .cond (.tmp 34)
              (.op (some 2) (.assign (.const (.bool false))) none <|
            .ret)
              (.done) <|
            .done) <|
            .op (some 35) (.binOp .add 3 (.tmp 28) (.const (.int .i64 1)) 3) none <|
            .op (some 28) (.move (.tmp 35)) none <|
            .done) <|
          .done) <|
      .op (some 36) (.binOp .add 3 (.tmp 14) (.const (.int .i64 1)) 3) none <|
      .op (some 14) (.move (.tmp 36)) none <|
      .done) <|
  .op (some 2) (.assign (.const (.bool true))) none <|
  .ret
theorem h52 : compF md0 Tryd.f52 = c52 := by kernel_rfl
theorem r52 : Tryd.f52.results.toList = [.tmp 2] := _root_.id (by kernel_rfl)
theorem nt52 : Tryd.f52.ntmps = 37 := by kernel_rfl
/-- laws.eqIntSS -/
theorem md_54 : md0 54 = false := rfl
def c54 : XC :=
  .op (some 4) (.assign (.const (.bool false))) none <|
  .op (some 6) (.move (.tmp 0)) none <|
  .op (some 7) (.call ⟨.builtin .len, ⟨[.tmp 6]⟩, ⟨[22]⟩⟩) none <|
  .op (some 8) (.move (.tmp 1)) none <|
  .op (some 9) (.call ⟨.builtin .len, ⟨[.tmp 8]⟩, ⟨[22]⟩⟩) none <|
  .op (some 10) (.binOp .neq 3 (.tmp 7) (.tmp 9) 3) none <|
  .cond (.tmp 10)
    (.op (some 4) (.assign (.const (.bool false))) none <|
      .ret)
    (.done) <|
  .op (some 5) (.assign (.const (.int .i64 0))) none <|
  .block 0
    (.loop <|
      .op (some 11) (.move (.tmp 5)) none <|
      .op (some 12) (.move (.tmp 0)) none <|
      .op (some 13) (.call ⟨.builtin .len, ⟨[.tmp 12]⟩, ⟨[22]⟩⟩) none <|
      .op (some 14) (.binOp .lss 3 (.tmp 11) (.tmp 13) 3) none <|
      .cond (.tmp 14)
        (.done)
        (.exit 0) <|
      .block 1
        (.op (some 17) (.move (.tmp 0)) none <|
          .op (some 18) (.move (.tmp 5)) none <|
          .op (some 19) (.indexAddr 22 (.tmp 17) (.tmp 18)) none <|
          .op (some 20) (.load 36 (.tmp 19)) none <|
          .op (some 21) (.move (.tmp 1)) none <|
          .op (some 22) (.move (.tmp 5)) none <|
          .op (some 23) (.indexAddr 22 (.tmp 21) (.tmp 22)) none <|
          .op (some 24) (.load 36 (.tmp 23)) none <|
          .op (some 25) (.call ⟨.value (.func 71), ⟨[.tmp 20, .tmp 24]⟩, ⟨[36, 36]⟩⟩) none <|
          .op (some 26) (.unOp .not 4 (.tmp 25)) none <|
          .cond (.tmp 26)
            (.op (some 4) (.assign (.const (.bool false))) none <|
            .ret)
            (.done) <|
          .done) <|
      .op (some 15) (.move (.tmp 5)) none <|
      .op (some 16) (.binOp .add 3 (.tmp 15) (.const (.int .i64 1)) 3) none <|
      .op (some 5) (.assign (.tmp 16)) none <|
      .done) <|
  .op (some 4) (.assign (.const (.bool true))) none <|
  .ret
theorem h54 : compF md0 Tryd.f54 = c54 := by kernel_rfl
theorem r54 : Tryd.f54.results.toList = [.tmp 4] := _root_.id (by kernel_rfl)
theorem nt54 : Tryd.f54.ntmps = 27 := by kernel_rfl
/-- laws.szCombatTable -/
theorem md_92 : md0 92 = false := rfl
def c92 : XC :=
  .op (some 2) (.box 84 (.tmp 0)) none <|
  .op (some 4) (.assign (.const (.int .i64 0))) none <|
  .op (some 5) (.fieldAddr 84 (.tmp 2) 0) none <|
  .op (some 6) (.load 82 (.tmp 5)) none <|
  .op (some 7) (.move (.tmp 1)) none <|
  .op (some 8) (.call ⟨.value (.func 129), ⟨[.tmp 6, .tmp 7]⟩, ⟨[82, 3]⟩⟩) none <|
  .op (some 1) (.assign (.tmp 8)) none <|
  .op (some 9) (.move (.tmp 1)) none <|
  .op (some 10) (.binOp .lss 3 (.tmp 9) (.const (.int .i64 0)) 3) none <|
  .cond (.tmp 10)
    (.op (some 4) (.assign (.const (.int .i64 (-1)))) none <|
      .ret)
    (.done) <|
  .op (some 11) (.fieldAddr 84 (.tmp 2) 2) none <|
  .op (some 12) (.load 22 (.tmp 11)) none <|
  .op (some 13) (.move (.tmp 1)) none <|
  .op (some 14) (.call ⟨.value (.func 48), ⟨[.tmp 12, .tmp 13]⟩, ⟨[22, 3]⟩⟩) none <|
  .op (some 1) (.assign (.tmp 14)) none <|
  .op (some 15) (.move (.tmp 1)) none <|
  .op (some 16) (.binOp .lss 3 (.tmp 15) (.const (.int .i64 0)) 3) none <|
  .cond (.tmp 16)
    (.op (some 4) (.assign (.const (.int .i64 (-1)))) none <|
      .ret)
    (.done) <|
  .op (some 17) (.move (.tmp 1)) none <|
  .op (some 4) (.assign (.tmp 17)) none <|
  .ret
theorem h92 : compF md0 Tryd.f92 = c92 := by kernel_rfl
theorem r92 : Tryd.f92.results.toList = [.tmp 4] := _root_.id (by kernel_rfl)
theorem nt92 : Tryd.f92.ntmps = 18 := by kernel_rfl
/-- spec.tGood -/
theorem md_93 : md0 93 = false := rfl
def c93 : XC :=
  .op (some 1) (.box 93 (.tmp 0)) none <|
  .op (some 2) (.assign (.const (.bool false))) none <|
  .op (some 3) (.fieldAddr 93 (.tmp 1) 0) none <|
  .op (some 4) (.load 50 (.tmp 3)) none <|
  .op (some 5) (.call ⟨.value (.func 66), ⟨[.tmp 4]⟩, ⟨[50]⟩⟩) none <|
  .op (some 6) (.move (.tmp 5)) none <|
  .op (some 7) (.fieldAddr 93 (.tmp 1) 1) (some (6, true)) <|
  .op (some 8) (.load 91 (.tmp 7)) (some (6, true)) <|
  .op (some 9) (.call ⟨.value (.func 130), ⟨[.tmp 8]⟩, ⟨[91]⟩⟩) (some (6, true)) <|
  .op (some 10) (.pick (.tmp 6) (.tmp 9) (.const (.bool false))) none <|
  .op (some 11) (.move (.tmp 10)) none <|
  .op (some 12) (.fieldAddr 93 (.tmp 1) 2) (some (11, true)) <|
  .op (some 13) (.load 28 (.tmp 12)) (some (11, true)) <|
  .op (some 14) (.call ⟨.value (.func 49), ⟨[.tmp 13]⟩, ⟨[28]⟩⟩) (some (11, true)) <|
  .op (some 15) (.pick (.tmp 11) (.tmp 14) (.const (.bool false))) none <|
  .op (some 16) (.move (.tmp 15)) none <|
  .op (some 17) (.fieldAddr 93 (.tmp 1) 3) (some (16, true)) <|
  .op (some 18) (.load 22 (.tmp 17)) (some (16, true)) <|
  .op (some 19) (.call ⟨.builtin .len, ⟨[.tmp 18]⟩, ⟨[22]⟩⟩) (some (16, true)) <|
  .op (some 20) (.binOp .eql 3 (.tmp 19) (.const (.int .i64 2)) 3) (some (16, true)) <|
  .op (some 21) (.pick (.tmp 16) (.tmp 20) (.const (.bool false))) none <|
  .op (some 22) (.move (.tmp 21)) none <|
  .op (some 23) (.fieldAddr 93 (.tmp 1) 0) (some (22, true)) <|
  .op (some 24) (.load 50 (.tmp 23)) (some (22, true)) <|
  .op (some 25) (.fieldAddr 93 (.tmp 1) 3) (some (22, true)) <|
  .op (some 26) (.load 22 (.tmp 25)) (some (22, true)) <|
  .op (some 27) (.indexAddr 22 (.tmp 26) (.const (.int .i64 0))) (some (22, true)) <|
  .op (some 28) (.load 36 (.tmp 27)) (some (22, true)) <|
  .op (some 29) (.call ⟨.value (.func 131), ⟨[.tmp 24, .tmp 28]⟩, ⟨[50, 36]⟩⟩) (some (22, true)) <|
  .op (some 30) (.pick (.tmp 22) (.tmp 29) (.const (.bool false))) none <|
  .op (some 31) (.move (.tmp 30)) none <|
  .op (some 32) (.fieldAddr 93 (.tmp 1) 0) (some (31, true)) <|
  .op (some 33) (.load 50 (.tmp 32)) (some (31, true)) <|
  .op (some 34) (.fieldAddr 93 (.tmp 1) 3) (some (31, true)) <|
  .op (some 35) (.load 22 (.tmp 34)) (some (31, true)) <|
  .op (some 36) (.indexAddr 22 (.tmp 35) (.const (.int .i64 1))) (some (31, true)) <|
  .op (some 37) (.load 36 (.tmp 36)) (some (31, true)) <|
  .op (some 38) (.call ⟨.value (.func 131), ⟨[.tmp 33, .tmp 37]⟩, ⟨[50, 36]⟩⟩) (some (31, true)) <|
  .op (some 39) (.pick (.tmp 31) (.tmp 38) (.const (.bool false))) none <|
  .op (some 2) (.assign (.tmp 39)) none <|
  .ret
theorem h93 : compF md0 Tryd.f93 = c93 := by kernel_rfl
theorem r93 : Tryd.f93.results.toList = [.tmp 2] := _root_.id (by kernel_rfl)
theorem nt93 : Tryd.f93.ntmps = 40 := by kernel_rfl
/-- laws.toCombatTable -/
theorem md_94 : md0 94 = false := rfl
def c94 : XC :=
  .op (some 1) (.box 84 (.tmp 0)) none <|
  .op (some 2) (.alloc 91) none <|
  .op (some 3) (.alloc 91) none <|
  .op (some 4) (.fieldAddr 84 (.tmp 1) 0) none <|
  .op (some 5) (.load 82 (.tmp 4)) none <|
  .op (some 6) (.call ⟨.value (.func 132), ⟨[.tmp 5]⟩, ⟨[82]⟩⟩) none <|
  .op (some 7) (.fieldAddr 91 (.tmp 3) 0) none <|
  .op none (.store 89 (.tmp 7) (.tmp 6)) none <|
  .op (some 8) (.fieldAddr 84 (.tmp 1) 1) none <|
  .op (some 9) (.load 3 (.tmp 8)) none <|
  .op (some 10) (.fieldAddr 91 (.tmp 3) 1) none <|
  .op none (.store 3 (.tmp 10) (.tmp 9)) none <|
  .op (some 11) (.fieldAddr 84 (.tmp 1) 2) none <|
  .op (some 12) (.load 22 (.tmp 11)) none <|
  .op (some 13) (.call ⟨.value (.func 51), ⟨[.tmp 12]⟩, ⟨[22]⟩⟩) none <|
  .op (some 14) (.fieldAddr 91 (.tmp 3) 2) none <|
  .op none (.store 22 (.tmp 14) (.tmp 13)) none <|
  .op (some 15) (.load 91 (.tmp 3)) none <|
  .op none (.store 91 (.tmp 2) (.tmp 15)) none <|
  .ret
theorem h94 : compF md0 Tryd.f94 = c94 := by kernel_rfl
theorem r94 : Tryd.f94.results.toList = [.cell 2 91] := _root_.id (by kernel_rfl)
theorem nt94 : Tryd.f94.ntmps = 16 := by kernel_rfl
/-- impl.IsCombatTable -/
theorem md_95 : md0 95 = false := rfl
def c95 : XC :=
  .op (some 1) (.box 91 (.tmp 0)) none <|
  .op (some 2) (.assign (.const (.bool false))) none <|
  .op (some 7) (.fieldAddr 91 (.tmp 1) 0) none <|
  .op (some 8) (.load 89 (.tmp 7)) none <|
  .op (some 9) (.call ⟨.builtin .len, ⟨[.tmp 8]⟩, ⟨[89]⟩⟩) none <|
  .op (some 10) (.call ⟨.value (.func 101), ⟨[.tmp 9, .const (.int .i64 1), .const (.int .i64 8)]⟩, ⟨[3, 3, 3]⟩⟩) none <|
  .op (some 11) (.unOp .not 4 (.tmp 10)) none <|
  .op (some 12) (.move (.tmp 11)) none <|
  .op (some 13) (.fieldAddr 91 (.tmp 1) 1) (some (12, false)) <|
  .op (some 14) (.load 3 (.tmp 13)) (some (12, false)) <|
  .op (some 15) (.call ⟨.value (.func 101), ⟨[.tmp 14, .const (.int .i64 1), .const (.int .i64 2)]⟩, ⟨[3, 3, 3]⟩⟩) (some (12, false)) <|
  .op (some 16) (.unOp .not 4 (.tmp 15)) (some (12, false)) <|
  .op (some 17) (.pick (.tmp 12) (.const (.bool true)) (.tmp 16)) none <|
  .op (some 18) (.move (.tmp 17)) none <|
  .op (some 19) (.fieldAddr 91 (.tmp 1) 2) (some (18, false)) <|
  .op (some 20) (.load 22 (.tmp 19)) (some (18, false)) <|
  .op (some 21) (.call ⟨.builtin .len, ⟨[.tmp 20]⟩, ⟨[22]⟩⟩) (some (18, false)) <|
  .op (some 22) (.fieldAddr 91 (.tmp 1) 1) (some (18, false)) <|
  .op (some 23) (.load 3 (.tmp 22)) (some (18, false)) <|
  .op (some 24) (.binOp .mul 3 (.const (.int .i64 5)) (.tmp 23) 3) (some (18, false)) <|
  .op (some 25) (.binOp .add 3 (.tmp 24) (.const (.int .i64 1)) 3) (some (18, false)) <|
  .op (some 26) (.binOp .neq 3 (.tmp 21) (.tmp 25) 3) (some (18, false)) <|
  .op (some 27) (.pick (.tmp 18) (.const (.bool true)) (.tmp 26)) none <|
  .cond (.tmp 27)
    (.op (some 2) (.assign (.const (.bool false))) none <|
      .ret)
    (.done) <|
  .op (some 28) (.fieldAddr 91 (.tmp 1) 0) none <|
  .op (some 29) (.load 89 (.tmp 28)) none <|
  .op (some 30) (.call ⟨.builtin .len, ⟨[.tmp 29]⟩, ⟨[89]⟩⟩) none <|
  .op (some 31) (.move (.const (.int .i64 0))) none <|
  .block 0
    (.loop <|
      .op (some 32) (.binOp .lss 3 (.tmp 31) (.tmp 30) 3) none <|
      .cond (.tmp 32)
        (.done)
        (.exit 0) <|
      .block 1
        (.op (some 33) (.move (.tmp 31)) none <|
          .op (some 34) (.indexAddr 89 (.tmp 29) (.tmp 31)) none <|
          .op (some 35) (.load 164 (.tmp 34)) none <|
          .op (some 4) (.alloc 164) none <|
          .op (some 3) (.assign (.tmp 33)) none <|
          .op none (.store 164 (.tmp 4) (.tmp 35)) none <|
          .op (some 36) (.fieldAddr 164 (.tmp 4) 0) none <|
          .op (some 37) (.load 3 (.tmp 36)) none <|
          .op (some 38) (.call ⟨.value (.func 101), ⟨[.tmp 37, .const (.int .i64 1), .const (.int .i64 20)]⟩, ⟨[3, 3, 3]⟩⟩) none <|
          .op (some 39) (.unOp .not 4 (.tmp 38)) none <|
          .op (some 40) (.move (.tmp 39)) none <|
          .op (some 41) (.fieldAddr 164 (.tmp 4) 1) (some (40, false)) <|
          .op (some 42) (.load 3 (.tmp 41)) (some (40, false)) <|
          .op (some 43) (.call ⟨.value (.func 101), ⟨[.tmp 42, .const (.int .i64 1), .const (.int .i64 20)]⟩, ⟨[3, 3, 3]⟩⟩) (some (40, false)) <|
          .op (some 44) (.unOp .not 4 (.tmp 43)) (some (40, false)) <|
          .op (some 45) (.pick (.tmp 40) (.const (.bool true)) (.tmp 44)) none <|
          .cond (.tmp 45)
            (.op (some 2) (.assign (.const (.bool false))) none <|
            .ret)
            (.done) <|
          .op (some 46) (.move (.tmp 3)) none <|
          .op (some 47) (.binOp .gtr 3 (.tmp 46) (.const (.int .i64 0)) 3) none <|
          .op (some 48) (.move (.tmp 47)) none <|
          .op (some 49) (.fieldAddr 91 (.tmp 1) 0) (some (48, true)) <|
          .op (some 50) (.load 89 (.tmp 49)) (some (48, true)) <|
          .op (some 51) (.move (.tmp 3)) (some (48, true)) <|
          .op (some 52) (.binOp .sub 3 (.tmp 51) (.const (.int .i64 1)) 3) (some (48, true)) <|
          .op (some 53) (.indexAddr 89 (.tmp 50) (.tmp 52)) (some (48, true)) <|
          .op (some 54) (.fieldAddr 164 (.tmp 53) 0) (some (48, true)) <|
          .op (some 55) (.load 3 (.tmp 54)) (some (48, true)) <|
          .op (some 56) (.fieldAddr 164 (.tmp 4) 1) (some (48, true)) <|
          .op (some 57) (.load 3 (.tmp 56)) (some (48, true)) <|
          .op (some 58) (.binOp .mul 3 (.tmp 55) (.tmp 57) 3) (some (48, true)) <|
          .op (some 59) (.fieldAddr 164 (.tmp 4) 0) (some (48, true)) <|
          .op (some 60) (.load 3 (.tmp 59)) (some (48, true)) <|
          .op (some 61) (.fieldAddr 91 (.tmp 1) 0) (some (48, true)) <|
          .op (some 62) (.load 89 (.tmp 61)) (some (48, true)) <|
          .op (some 63) (.move (.tmp 3)) (some (48, true)) <|
          .op (some 64) (.binOp .sub 3 (.tmp 63) (.const (.int .i64 1)) 3) (some (48, true)) <|
          .op (some 65) (.indexAddr 89 (.tmp 62) (.tmp 64)) (some (48, true)) <|
          .op (some 66) (.fieldAddr 164 (.tmp 65) 1) (some (48, true)) <|
          .op (some 67) (.load 3 (.tmp 66)) (some (48, true)) <|
          .op (some 68) (.binOp .mul 3 (.tmp 60) (.tmp 67) 3) (some (48, true)) <|
          .op (some 69) (.binOp .geq 3 (.tmp 58) (.tmp 68) 3) (some (48, true)) <|
          .op (some 70) (.pick (.tmp 48) (.tmp 69) (.const (.bool false))) none <|
          .cond (.tmp 70)
            (.op (some 2) (.assign (.const (.bool false))) none <|
            .ret)
            (.done) <|
          .done) <|
      .op (some 71) (.binOp .add 3 (.tmp 31) (.const (.int .i64 1)) 3) none <|
      .op (some 31) (.move (.tmp 71)) none <|
      .done) <|
  .op (some 72) (.fieldAddr 91 (.tmp 1) 2) none <|
  .op (some 73) (.load 22 (.tmp 72)) none <|
  .op (some 74) (.call ⟨.builtin .len, ⟨[.tmp 73]⟩, ⟨[22]⟩⟩) none <|
  .op (some 75) (.move (.const (.int .i64 0))) none <|
  .block 2
    (.loop <|
      .op (some 76) (.binOp .lss 3 (.tmp 75) (.tmp 74) 3) none <|
      .cond (.tmp 76)
        (.done)
        (.exit 2) <|
      .block 3
        (.op (some 77) (.indexAddr 22 (.tmp 73) (.tmp 75)) none <|
          .op (some 78) (.load 36 (.tmp 77)) none <|
          .op (some 6) (.assign (.tmp 78)) none <|
          .op (some 79) (.move (.tmp 6)) none <|
          .op (some 80) (.call ⟨.builtin .len, ⟨[.tmp 79]⟩, ⟨[36]⟩⟩) none <|
          .op (some 81) (.fieldAddr 91 (.tmp 1) 0) none <|
          .op (some 82) (.load 89 (.tmp 81)) none <|
          .op (some 83) (.call ⟨.builtin .len, ⟨[.tmp 82]⟩, ⟨[89]⟩⟩) none <|
          .op (some 84) (.binOp .neq 3 (.tmp 80) (.tmp 83) 3) none <|
          .op (some 85) (.move (.tmp 84)) none <|
          .op (some 86) (.move (.tmp 6)) (some (85, false)) <|
          .op (some 87) (.call ⟨.value (.func 116), ⟨[.tmp 86, .func 133]⟩, ⟨[36, 118]⟩⟩) (some (85, false)) <|
          .op (some 88) (.pick (.tmp 85) (.const (.bool true)) (.tmp 87)) none <|
          .cond (.tmp 88)
            (.op (some 2) (.assign (.const (.bool false))) none <|
            .ret)
            (.done) <|
          .done) <|
      .op (some 89) (.binOp .add 3 (.tmp 75) (.const (.int .i64 1)) 3) none <|
      .op (some 75) (.move (.tmp 89)) none <|
      .done) <|
  .op (some 2) (.assign (.const (.bool true))) none <|
  .ret
theorem h95 : compF md0 Tryd.f95 = c95 := by kernel_rfl
theorem r95 : Tryd.f95.results.toList = [.tmp 2] := _root_.id (by kernel_rfl)
theorem nt95 : Tryd.f95.ntmps = 90 := by kernel_rfl
/-- impl.areSources -/
theorem md_96 : md0 96 = false := rfl
def c96 : XC :=
  .op (some 2) (.box 50 (.tmp 0)) none <|
  .op (some 4) (.assign (.const (.bool false))) none <|
  .op (some 5) (.move (.tmp 1)) none <|
  .op (some 6) (.call ⟨.builtin .len, ⟨[.tmp 5]⟩, ⟨[36]⟩⟩) none <|
  .op (some 7) (.binOp .leq 3 (.tmp 6) (.const (.int .i64 6)) 3) none <|
  .op (some 8) (.move (.tmp 7)) none <|
  .op (some 9) (.move (.tmp 1)) (some (8, true)) <|
  .op (some 10) (.call ⟨.value (.func 135), ⟨[.tmp 9]⟩, ⟨[36]⟩⟩) (some (8, true)) <|
  .op (some 11) (.pick (.tmp 8) (.tmp 10) (.const (.bool false))) none <|
  .op (some 12) (.move (.tmp 11)) none <|
  .op (some 13) (.move (.tmp 1)) (some (12, true)) <|
  .op (some 14) (.makeFunc (.func 136) ⟨[]⟩ ⟨[.tmp 2]⟩) (some (12, true)) <|
  .op (some 15) (.call ⟨.value (.func 116), ⟨[.tmp 13, .tmp 14]⟩, ⟨[36, 118]⟩⟩) (some (12, true)) <|
  .op (some 16) (.unOp .not 4 (.tmp 15)) (some (12, true)) <|
  .op (some 17) (.pick (.tmp 12) (.tmp 16) (.const (.bool false))) none <|
  .op (some 4) (.assign (.tmp 17)) none <|
  .ret
theorem h96 : compF md0 Tryd.f96 = c96 := by kernel_rfl
theorem r96 : Tryd.f96.results.toList = [.tmp 4] := _root_.id (by kernel_rfl)
theorem nt96 : Tryd.f96.ntmps = 18 := by kernel_rfl
/-- laws.eqCombatTable -/
theorem md_97 : md0 97 = false := rfl
def c97 : XC :=
  .op (some 2) (.box 91 (.tmp 0)) none <|
  .op (some 3) (.box 91 (.tmp 1)) none <|
  .op (some 4) (.assign (.const (.bool false))) none <|
  .op (some 5) (.fieldAddr 91 (.tmp 2) 0) none <|
  .op (some 6) (.load 89 (.tmp 5)) none <|
  .op (some 7) (.fieldAddr 91 (.tmp 3) 0) none <|
  .op (some 8) (.load 89 (.tmp 7)) none <|
  .op (some 9) (.call ⟨.value (.func 137), ⟨[.tmp 6, .tmp 8]⟩, ⟨[89, 89]⟩⟩) none <|
  .op (some 10) (.unOp .not 4 (.tmp 9)) none <|
  .cond (.tmp 10)
    (.op (some 4) (.assign (.const (.bool false))) none <|
      .ret)
    (.done) <|
  .op (some 11) (.fieldAddr 91 (.tmp 2) 1) none <|
  .op (some 12) (.load 3 (.tmp 11)) none <|
  .op (some 13) (.fieldAddr 91 (.tmp 3) 1) none <|
  .op (some 14) (.load 3 (.tmp 13)) none <|
  .op (some 15) (.binOp .neq 3 (.tmp 12) (.tmp 14) 3) none <|
  .cond (.tmp 15)
    (.op (some 4) (.assign (.const (.bool false))) none <|
      .ret)
    (.done) <|
  .op (some 16) (.fieldAddr 91 (.tmp 2) 2) none <|
  .op (some 17) (.load 22 (.tmp 16)) none <|
  .op (some 18) (.fieldAddr 91 (.tmp 3) 2) none <|
  .op (some 19) (.load 22 (.tmp 18)) none <|
  .op (some 20) (.call ⟨.value (.func 54), ⟨[.tmp 17, .tmp 19]⟩, ⟨[22, 22]⟩⟩) none <|
  .op (some 21) (.unOp .not 4 (.tmp 20)) none <|
  .cond (.tmp 21)
    (.op (some 4) (.assign (.const (.bool false))) none <|
      .ret)
    (.done) <|
  .op (some 4) (.assign (.const (.bool true))) none <|
  .ret
theorem h97 : compF md0 Tryd.f97 = c97 := by kernel_rfl
theorem r97 : Tryd.f97.results.toList = [.tmp 4] := _root_.id (by kernel_rfl)
theorem nt97 : Tryd.f97.ntmps = 22 := by kernel_rfl
/-- impl.sumOf -/
theorem md_100 : md0 100 = false := rfl
def c100 : XC :=
  .op (some 2) (.assign (.const (.int .i64 0))) none <|
  .op (some 3) (.assign (.const (.int .i64 0))) none <|
  .op (some 6) (.move (.tmp 0)) none <|
  .op (some 7) (.call ⟨.builtin .len, ⟨[.tmp 6]⟩, ⟨[36]⟩⟩) none <|
  .op (some 8) (.move (.const (.int .i64 0))) none <|
  .block 0
    (.loop <|
      .op (some 9) (.binOp .lss 3 (.tmp 8) (.tmp 7) 3) none <|
      .cond (.tmp 9)
        (.done)
        (.exit 0) <|
      .block 1
        (.op (some 10) (.indexAddr 36 (.tmp 6) (.tmp 8)) none <|
          .op (some 11) (.load 3 (.tmp 10)) none <|
          .op (some 5) (.assign (.tmp 11)) none <|
          .op (some 12) (.move (.tmp 3)) none <|
          .op (some 13) (.move (.tmp 5)) none <|
          .op (some 14) (.binOp .add 3 (.tmp 12) (.tmp 13) 3) none <|
          .op (some 3) (.assign (.tmp 14)) none <|
          .done) <|
      .op (some 15) (.binOp .add 3 (.tmp 8) (.const (.int .i64 1)) 3) none <|
      .op (some 8) (.move (.tmp 15)) none <|
      .done) <|
  .op (some 16) (.move (.tmp 3)) none <|
  .op (some 2) (.assign (.tmp 16)) none <|
  .ret
theorem h100 : compF md0 Tryd.f100 = c100 := by kernel_rfl
theorem r100 : Tryd.f100.results.toList = [.tmp 2] := _root_.id (by kernel_rfl)
theorem nt100 : Tryd.f100.ntmps = 17 := by kernel_rfl
/-- laws.szOddsS -/
theorem md_129 : md0 129 = false := rfl
def c129 : XC :=
  .op (some 4) (.assign (.const (.int .i64 0))) none <|
  .op (some 5) (.move (.tmp 1)) none <|
  .op (some 6) (.move (.tmp 0)) none <|
  .op (some 7) (.call ⟨.builtin .len, ⟨[.tmp 6]⟩, ⟨[82]⟩⟩) none <|
  .op (some 8) (.binOp .sub 3 (.tmp 5) (.tmp 7) 3) none <|
  .op (some 1) (.assign (.tmp 8)) none <|
  .op (some 9) (.move (.tmp 1)) none <|
  .op (some 10) (.binOp .lss 3 (.tmp 9) (.const (.int .i64 0)) 3) none <|
  .cond (.tmp 10)
    (.op (some 4) (.assign (.const (.int .i64 (-1)))) none <|
      .ret)
    (.done) <|
  .op (some 11) (.move (.tmp 1)) none <|
  .op (some 4) (.assign (.tmp 11)) none <|
  .ret
theorem h129 : compF md0 Tryd.f129 = c129 := by kernel_rfl
theorem r129 : Tryd.f129.results.toList = [.tmp 4] := _root_.id (by kernel_rfl)
theorem nt129 : Tryd.f129.ntmps = 12 := by kernel_rfl
/-- spec.kGood -/
theorem md_130 : md0 130 = false := rfl
def c130 : XC :=
  .op (some 1) (.box 91 (.tmp 0)) none <|
  .op (some 2) (.assign (.const (.bool false))) none <|
  .op (some 7) (.fieldAddr 91 (.tmp 1) 0) none <|
  .op (some 8) (.load 89 (.tmp 7)) none <|
  .op (some 9) (.call ⟨.builtin .len, ⟨[.tmp 8]⟩, ⟨[89]⟩⟩) none <|
  .op (some 10) (.call ⟨.value (.func 75), ⟨[.tmp 9, .const (.int .i64 1), .const (.int .i64 8)]⟩, ⟨[3, 3, 3]⟩⟩) none <|
  .op (some 11) (.unOp .not 4 (.tmp 10)) none <|
  .op (some 12) (.move (.tmp 11)) none <|
  .op (some 13) (.fieldAddr 91 (.tmp 1) 1) (some (12, false)) <|
  .op (some 14) (.load 3 (.tmp 13)) (some (12, false)) <|
  .op (some 15) (.call ⟨.value (.func 75), ⟨[.tmp 14, .const (.int .i64 1), .const (.int .i64 2)]⟩, ⟨[3, 3, 3]⟩⟩) (some (12, false)) <|
  .op (some 16) (.unOp .not 4 (.tmp 15)) (some (12, false)) <|
  .op (some 17) (.pick (.tmp 12) (.const (.bool true)) (.tmp 16)) none <|
  .op (some 18) (.move (.tmp 17)) none <|
  .op (some 19) (.fieldAddr 91 (.tmp 1) 2) (some (18, false)) <|
  .op (some 20) (.load 22 (.tmp 19)) (some (18, false)) <|
  .op (some 21) (.call ⟨.builtin .len, ⟨[.tmp 20]⟩, ⟨[22]⟩⟩) (some (18, false)) <|
  .op (some 22) (.fieldAddr 91 (.tmp 1) 1) (some (18, false)) <|
  .op (some 23) (.load 3 (.tmp 22)) (some (18, false)) <|
  .op (some 24) (.call ⟨.value (.func 161), ⟨[.tmp 23]⟩, ⟨[3]⟩⟩) (some (18, false)) <|
  .op (some 25) (.binOp .neq 3 (.tmp 21) (.tmp 24) 3) (some (18, false)) <|
  .op (some 26) (.pick (.tmp 18) (.const (.bool true)) (.tmp 25)) none <|
  .cond (.tmp 26)
    (.op (some 2) (.assign (.const (.bool false))) none <|
      .ret)
    (.done) <|
  .op (some 27) (.fieldAddr 91 (.tmp 1) 0) none <|
  .op (some 28) (.load 89 (.tmp 27)) none <|
  .op (some 29) (.call ⟨.builtin .len, ⟨[.tmp 28]⟩, ⟨[89]⟩⟩) none <|
  .op (some 30) (.move (.const (.int .i64 0))) none <|
  .block 0
    (.loop <|
      .op (some 31) (.binOp .lss 3 (.tmp 30) (.tmp 29) 3) none <|
      .cond (.tmp 31)
        (.done)
        (.exit 0) <|
      .block 1
        (.op (some 32) (.move (.tmp 30)) none <|
          .op (some 33) (.indexAddr 89 (.tmp 28) (.tmp 30)) none <|
          .op (some 34) (.load 164 (.tmp 33)) none <|
          .op (some 4) (.alloc 164) none <|
          .op (some 3) (.assign (.tmp 32)) none <|
          .op none (.store 164 (.tmp 4) (.tmp 34)) none <|
          .op (some 35) (.fieldAddr 164 (.tmp 4) 0) none <|
          .op (some 36) (.load 3 (.tmp 35)) none <|
          .op (some 37) (.call ⟨.value (.func 75), ⟨[.tmp 36, .const (.int .i64 1), .const (.int .i64 20)]⟩, ⟨[3, 3, 3]⟩⟩) none <|
          .op (some 38) (.unOp .not 4 (.tmp 37)) none <|
          .op (some 39) (.move (.tmp 38)) none <|
          .op (some 40) (.fieldAddr 164 (.tmp 4) 1) (some (39, false)) <|
          .op (some 41) (.load 3 (.tmp 40)) (some (39, false)) <|
          .op (some 42) (.call ⟨.value (.func 75), ⟨[.tmp 41, .const (.int .i64 1), .const (.int .i64 20)]⟩, ⟨[3, 3, 3]⟩⟩) (some (39, false)) <|
          .op (some 43) (.unOp .not 4 (.tmp 42)) (some (39, false)) <|
          .op (some 44) (.pick (.tmp 39) (.const (.bool true)) (.tmp 43)) none <|
          .cond (.tmp 44)
            (.op (some 2) (.assign (.const (.bool false))) none <|
            .ret)
            (.done) <|
          .op (some 45) (.move (.tmp 3)) none <|
          .op (some 46) (.binOp .gtr 3 (.tmp 45) (.const (.int .i64 0)) 3) none <|
          .op (some 47) (.move (.tmp 46)) none <|
          .op (some 48) (.fieldAddr 91 (.tmp 1) 0) (some (47, true)) <|
          .op (some 49) (.load 89 (.tmp 48)) (some (47, true)) <|
          .op (some 50) (.move (.tmp 3)) (some (47, true)) <|
          .op (some 51) (.binOp .sub 3 (.tmp 50) (.const (.int .i64 1)) 3) (some (47, true)) <|
          .op (some 52) (.indexAddr 89 (.tmp 49) (.tmp 51)) (some (47, true)) <|
          .op (some 53) (.fieldAddr 164 (.tmp 52) 0) (some (47, true)) <|
          .op (some 54) (.load 3 (.tmp 53)) (some (47, true)) <|
          .op (some 55) (.fieldAddr 164 (.tmp 4) 1) (some (47, true)) <|
          .op (some 56) (.load 3 (.tmp 55)) (some (47, true)) <|
          .op (some 57) (.binOp .mul 3 (.tmp 54) (.tmp 56) 3) (some (47, true)) <|
          .op (some 58) (.fieldAddr 164 (.tmp 4) 0) (some (47, true)) <|
          .op (some 59) (.load 3 (.tmp 58)) (some (47, true)) <|
          .op (some 60) (.fieldAddr 91 (.tmp 1) 0) (some (47, true)) <|
          .op (some 61) (.load 89 (.tmp 60)) (some (47, true)) <|
          .op (some 62) (.move (.tmp 3)) (some (47, true)) <|
          .op (some 63) (.binOp .sub 3 (.tmp 62) (.const (.int .i64 1)) 3) (some (47, true)) <|
          .op (some 64) (.indexAddr 89 (.tmp 61) (.tmp 63)) (some (47, true)) <|
          .op (some 65) (.fieldAddr 164 (.tmp 64) 1) (some (47, true)) <|
          .op (some 66) (.load 3 (.tmp 65)) (some (47, true)) <|
          .op (some 67) (.binOp .mul 3 (.tmp 59) (.tmp 66) 3) (some (47, true)) <|
          .op (some 68) (.binOp .geq 3 (.tmp 57) (.tmp 67) 3) (some (47, true)) <|
          .op (some 69) (.pick (.tmp 47) (.tmp 68) (.const (.bool false))) none <|
          .cond (.tmp 69)
            (.op (some 2) (.assign (.const (.bool false))) none <|
            .ret)
            (.done) <|
          .done) <|
      .op (some 70) (.binOp .add 3 (.tmp 30) (.const (.int .i64 1)) 3) none <|
      .op (some 30) (.move (.tmp 70)) none <|
      .done) <|
  .op (some 71) (.fieldAddr 91 (.tmp 1) 2) none <|
  .op (some 72) (.load 22 (.tmp 71)) none <|
  .op (some 73) (.call ⟨.builtin .len, ⟨[.tmp 72]⟩, ⟨[22]⟩⟩) none <|
  .op (some 74) (.move (.const (.int .i64 0))) none <|
  .block 2
    (.loop <|
      .op (some 75) (.binOp .lss 3 (.tmp 74) (.tmp 73) 3) none <|
      .cond (.tmp 75)
        (.done)
        (.exit 2) <|
      .block 3
        (.op (some 76) (.indexAddr 22 (.tmp 72) (.tmp 74)) none <|
          .op (some 77) (.load 36 (.tmp 76)) none <|
          .op (some 6) (.assign (.tmp 77)) none <|
          .op (some 78) (.move (.tmp 6)) none <|
          .op (some 79) (.call ⟨.builtin .len, ⟨[.tmp 78]⟩, ⟨[36]⟩⟩) none <|
          .op (some 80) (.fieldAddr 91 (.tmp 1) 0) none <|
          .op (some 81) (.load 89 (.tmp 80)) none <|
          .op (some 82) (.call ⟨.builtin .len, ⟨[.tmp 81]⟩, ⟨[89]⟩⟩) none <|
          .op (some 83) (.binOp .neq 3 (.tmp 79) (.tmp 82) 3) none <|
          .op (some 84) (.move (.tmp 83)) none <|
          .op (some 85) (.move (.tmp 6)) (some (84, false)) <|
          .op (some 86) (.call ⟨.value (.func 98), ⟨[.tmp 85, .const (.int .i64 0), .const (.int .i64 7)]⟩, ⟨[36, 3, 3]⟩⟩) (some (84, false)) <|
          .op (some 87) (.unOp .not 4 (.tmp 86)) (some (84, false)) <|
          .op (some 88) (.pick (.tmp 84) (.const (.bool true)) (.tmp 87)) none <|
          .cond (.tmp 88)
            (.op (some 2) (.assign (.const (.bool false))) none <|
            .ret)
            (.done) <|
          .done) <|
      .op (some 89) (.binOp .add 3 (.tmp 74) (.const (.int .i64 1)) 3) none <|
      .op (some 74) (.move (.tmp 89)) none <|
      .done) <|
  .op (some 2) (.assign (.const (.bool true))) none <|
  .ret
theorem h130 : compF md0 Tryd.f130 = c130 := by kernel_rfl
theorem r130 : Tryd.f130.results.toList = [.tmp 2] := _root_.id (by kernel_rfl)
theorem nt130 : Tryd.f130.ntmps = 90 := by kernel_rfl
/-- spec.jSources -/
theorem md_131 : md0 131 = false := rfl
def c131 : XC :=
  .op (some 2) (.box 50 (.tmp 0)) none <|
  .op (some 4) (.assign (.const (.bool false))) none <|
  .op (some 5) (.move (.tmp 1)) none <|
  .op (some 6) (.call ⟨.builtin .len, ⟨[.tmp 5]⟩, ⟨[36]⟩⟩) none <|
  .op (some 7) (.binOp .leq 3 (.tmp 6) (.const (.int .i64 6)) 3) none <|
  .op (some 8) (.move (.tmp 7)) none <|
  .op (some 9) (.move (.tmp 1)) (some (8, true)) <|
  .op (some 10) (.fieldAddr 50 (.tmp 2) 1) (some (8, true)) <|
  .op (some 11) (.load 48 (.tmp 10)) (some (8, true)) <|
  .op (some 12) (.call ⟨.value (.func 107), ⟨[.tmp 11]⟩, ⟨[48]⟩⟩) (some (8, true)) <|
  .op (some 13) (.binOp .sub 3 (.tmp 12) (.const (.int .i64 1)) 3) (some (8, true)) <|
  .op (some 14) (.call ⟨.value (.func 162), ⟨[.tmp 9, .const (.int .i64 0), .tmp 13]⟩, ⟨[36, 3, 3]⟩⟩) (some (8, true)) <|
  .op (some 15) (.pick (.tmp 8) (.tmp 14) (.const (.bool false))) none <|
  .op (some 4) (.assign (.tmp 15)) none <|
  .ret
theorem h131 : compF md0 Tryd.f131 = c131 := by kernel_rfl
theorem r131 : Tryd.f131.results.toList = [.tmp 4] := _root_.id (by kernel_rfl)
theorem nt131 : Tryd.f131.ntmps = 16 := by kernel_rfl
/-- laws.toOddsS -/
theorem md_132 : md0 132 = false := rfl
def c132 : XC :=
  .op (some 2) (.assign (.const (.slice none 0 0))) none <|
  .op (some 5) (.move (.tmp 0)) none <|
  .op (some 6) (.call ⟨.builtin .len, ⟨[.tmp 5]⟩, ⟨[82]⟩⟩) none <|
  .op (some 7) (.makeSlice 89 (.tmp 6) (.tmp 6)) none <|
  .op (some 3) (.assign (.tmp 7)) none <|
  .op (some 4) (.assign (.const (.int .i64 0))) none <|
  .block 0
    (.loop <|
      .op (some 8) (.move (.tmp 4)) none <|
      .op (some 9) (.move (.tmp 0)) none <|
      .op (some 10) (.call ⟨.builtin .len, ⟨[.tmp 9]⟩, ⟨[82]⟩⟩) none <|
      .op (some 11) (.binOp .lss 3 (.tmp 8) (.tmp 10) 3) none <|
      .cond (.tmp 11)
        (.done)
        (.exit 0) <|
      .block 1
        (.op (some 14) (.move (.tmp 3)) none <|
          .op (some 15) (.move (.tmp 4)) none <|
          .op (some 16) (.move (.tmp 0)) none <|
          .op (some 17) (.move (.tmp 4)) none <|
          .op (some 18) (.indexAddr 82 (.tmp 16) (.tmp 17)) none <|
          .op (some 19) (.load 191 (.tmp 18)) none <|
          .op (some 20) (.call ⟨.value (.func 163), ⟨[.tmp 19]⟩, ⟨[191]⟩⟩) none <|
          .op (some 21) (.indexAddr 89 (.tmp 14) (.tmp 15)) none <|
          .op none (.store 164 (.tmp 21) (.tmp 20)) none <|
          .done) <|
      .op (some 12) (.move (.tmp 4)) none <|
      .op (some 13) (.binOp .add 3 (.tmp 12) (.const (.int .i64 1)) 3) none <|
      .op (some 4) (.assign (.tmp 13)) none <|
      .done) <|
  .op (some 22) (.move (.tmp 3)) none <|
  .op (some 2) (.assign (.tmp 22)) none <|
  .ret
theorem h132 : compF md0 Tryd.f132 = c132 := by kernel_rfl
theorem r132 : Tryd.f132.results.toList = [.tmp 2] := _root_.id (by kernel_rfl)
theorem nt132 : Tryd.f132.ntmps = 23 := by kernel_rfl
/-- impl.IsCombatTable$1 -/
theorem md_133 : md0 133 = false := rfl
def c133 : XC :=
  .op (some 2) (.assign (.const (.bool false))) none <|
  .op (some 3) (.move (.tmp 0)) none <|
  .op (some 4) (.call ⟨.value (.func 134), ⟨[.tmp 3]⟩, ⟨[3]⟩⟩) none <|
  .op (some 5) (.unOp .not 4 (.tmp 4)) none <|
  .op (some 2) (.assign (.tmp 5)) none <|
  .ret
theorem h133 : compF md0 Tryd.f133 = c133 := by kernel_rfl
theorem r133 : Tryd.f133.results.toList = [.tmp 2] := _root_.id (by kernel_rfl)
theorem nt133 : Tryd.f133.ntmps = 6 := by kernel_rfl
/-- impl.isResult -/
theorem md_134 : md0 134 = false := rfl
def c134 : XC :=
  .op (some 2) (.assign (.const (.bool false))) none <|
  .op (some 3) (.move (.tmp 0)) none <|
  .op (some 4) (.call ⟨.value (.func 101), ⟨[.tmp 3, .const (.int .i64 0), .const (.int .i64 7)]⟩, ⟨[3, 3, 3]⟩⟩) none <|
  .op (some 2) (.assign (.tmp 4)) none <|
  .ret
theorem h134 : compF md0 Tryd.f134 = c134 := by kernel_rfl
theorem r134 : Tryd.f134.results.toList = [.tmp 2] := _root_.id (by kernel_rfl)
theorem nt134 : Tryd.f134.ntmps = 5 := by kernel_rfl
/-- impl.areSources$1 -/
theorem md_136 : md0 136 = false := rfl
def c136 : XC :=
  .op (some 3) (.assign (.const (.bool false))) none <|
  .op (some 4) (.move (.tmp 0)) none <|
  .op (some 5) (.load 50 (.tmp 1)) none <|
  .op (some 6) (.call ⟨.value (.func 119), ⟨[.tmp 5]⟩, ⟨[50]⟩⟩) none <|
  .op (some 7) (.call ⟨.value (.func 76), ⟨[.tmp 4, .tmp 6]⟩, ⟨[3, 3]⟩⟩) none <|
  .op (some 8) (.unOp .not 4 (.tmp 7)) none <|
  .op (some 3) (.assign (.tmp 8)) none <|
  .ret
theorem h136 : compF md0 Tryd.f136 = c136 := by kernel_rfl
theorem r136 : Tryd.f136.results.toList = [.tmp 3] := _root_.id (by kernel_rfl)
theorem nt136 : Tryd.f136.ntmps = 9 := by kernel_rfl
/-- laws.eqOddsS -/
theorem md_137 : md0 137 = false := rfl
def c137 : XC :=
  .op (some 4) (.assign (.const (.bool false))) none <|
  .op (some 6) (.move (.tmp 0)) none <|
  .op (some 7) (.call ⟨.builtin .len, ⟨[.tmp 6]⟩, ⟨[89]⟩⟩) none <|
  .op (some 8) (.move (.tmp 1)) none <|
  .op (some 9) (.call ⟨.builtin .len, ⟨[.tmp 8]⟩, ⟨[89]⟩⟩) none <|
  .op (some 10) (.binOp .neq 3 (.tmp 7) (.tmp 9) 3) none <|
  .cond (.tmp 10)
    (.op (some 4) (.assign (.const (.bool false))) none <|
      .ret)
    (.done) <|
  .op (some 5) (.assign (.const (.int .i64 0))) none <|
  .block 0
    (.loop <|
      .op (some 11) (.move (.tmp 5)) none <|
      .op (some 12) (.move (.tmp 0)) none <|
      .op (some 13) (.call ⟨.builtin .len, ⟨[.tmp 12]⟩, ⟨[89]⟩⟩) none <|
      .op (some 14) (.binOp .lss 3 (.tmp 11) (.tmp 13) 3) none <|
      .cond (.tmp 14)
        (.done)
        (.exit 0) <|
      .block 1
        (.op (some 17) (.move (.tmp 0)) none <|
          .op (some 18) (.move (.tmp 5)) none <|
          .op (some 19) (.indexAddr 89 (.tmp 17) (.tmp 18)) none <|
          .op (some 20) (.load 164 (.tmp 19)) none <|
          .op (some 21) (.move (.tmp 1)) none <|
          .op (some 22) (.move (.tmp 5)) none <|
          .op (some 23) (.indexAddr 89 (.tmp 21) (.tmp 22)) none <|
          .op (some 24) (.load 164 (.tmp 23)) none <|
          .op (some 25) (.call ⟨.value (.func 164), ⟨[.tmp 20, .tmp 24]⟩, ⟨[164, 164]⟩⟩) none <|
          .op (some 26) (.unOp .not 4 (.tmp 25)) none <|
          .cond (.tmp 26)
            (.op (some 4) (.assign (.const (.bool false))) none <|
            .ret)
            (.done) <|
          .done) <|
      .op (some 15) (.move (.tmp 5)) none <|
      .op (some 16) (.binOp .add 3 (.tmp 15) (.const (.int .i64 1)) 3) none <|
      .op (some 5) (.assign (.tmp 16)) none <|
      .done) <|
  .op (some 4) (.assign (.const (.bool true))) none <|
  .ret
theorem h137 : compF md0 Tryd.f137 = c137 := by kernel_rfl
theorem r137 : Tryd.f137.results.toList = [.tmp 4] := _root_.id (by kernel_rfl)
theorem nt137 : Tryd.f137.ntmps = 27 := by kernel_rfl
/-- spec.kRows -/
theorem md_161 : md0 161 = false := rfl
def c161 : XC :=
  .op (some 2) (.assign (.const (.int .i64 0))) none <|
  .op (some 3) (.move (.tmp 0)) none <|
  .op (some 4) (.binOp .mul 3 (.const (.int .i64 5)) (.tmp 3) 3) none <|
  .op (some 5) (.binOp .add 3 (.tmp 4) (.const (.int .i64 1)) 3) none <|
  .op (some 2) (.assign (.tmp 5)) none <|
  .ret
theorem h161 : compF md0 Tryd.f161 = c161 := by kernel_rfl
theorem r161 : Tryd.f161.results.toList = [.tmp 2] := _root_.id (by kernel_rfl)
theorem nt161 : Tryd.f161.ntmps = 6 := by kernel_rfl
/-- laws.toOdds -/
theorem md_163 : md0 163 = false := rfl
def c163 : XC :=
  .op (some 1) (.box 191 (.tmp 0)) none <|
  .op (some 2) (.alloc 164) none <|
  .op (some 3) (.alloc 164) none <|
  .op (some 4) (.fieldAddr 191 (.tmp 1) 0) none <|
  .op (some 5) (.load 3 (.tmp 4)) none <|
  .op (some 6) (.fieldAddr 164 (.tmp 3) 0) none <|
  .op none (.store 3 (.tmp 6) (.tmp 5)) none <|
  .op (some 7) (.fieldAddr 191 (.tmp 1) 1) none <|
  .op (some 8) (.load 3 (.tmp 7)) none <|
  .op (some 9) (.fieldAddr 164 (.tmp 3) 1) none <|
  .op none (.store 3 (.tmp 9) (.tmp 8)) none <|
  .op (some 10) (.load 164 (.tmp 3)) none <|
  .op none (.store 164 (.tmp 2) (.tmp 10)) none <|
  .ret
theorem h163 : compF md0 Tryd.f163 = c163 := by kernel_rfl
theorem r163 : Tryd.f163.results.toList = [.cell 2 164] := _root_.id (by kernel_rfl)
theorem nt163 : Tryd.f163.ntmps = 11 := by kernel_rfl
/-- laws.eqOdds -/
theorem md_164 : md0 164 = false := rfl
def c164 : XC :=
  .op (some 2) (.box 164 (.tmp 0)) none <|
  .op (some 3) (.box 164 (.tmp 1)) none <|
  .op (some 4) (.assign (.const (.bool false))) none <|
  .op (some 5) (.fieldAddr 164 (.tmp 2) 0) none <|
  .op (some 6) (.load 3 (.tmp 5)) none <|
  .op (some 7) (.fieldAddr 164 (.tmp 3) 0) none <|
  .op (some 8) (.load 3 (.tmp 7)) none <|
  .op (some 9) (.binOp .neq 3 (.tmp 6) (.tmp 8) 3) none <|
  .cond (.tmp 9)
    (.op (some 4) (.assign (.const (.bool false))) none <|
      .ret)
    (.done) <|
  .op (some 10) (.fieldAddr 164 (.tmp 2) 1) none <|
  .op (some 11) (.load 3 (.tmp 10)) none <|
  .op (some 12) (.fieldAddr 164 (.tmp 3) 1) none <|
  .op (some 13) (.load 3 (.tmp 12)) none <|
  .op (some 14) (.binOp .neq 3 (.tmp 11) (.tmp 13) 3) none <|
  .cond (.tmp 14)
    (.op (some 4) (.assign (.const (.bool false))) none <|
      .ret)
    (.done) <|
  .op (some 4) (.assign (.const (.bool true))) none <|
  .ret
theorem h164 : compF md0 Tryd.f164 = c164 := by kernel_rfl
theorem r164 : Tryd.f164.results.toList = [.tmp 4] := _root_.id (by kernel_rfl)
theorem nt164 : Tryd.f164.ntmps = 15 := by kernel_rfl
theorem tk_24 : tk Tryd.prog 24 = .struct [(0, 1)] := _root_.id (by kernel_rfl)
theorem sz_24 : szOf Tryd.prog 24 = 1 := _root_.id (by kernel_rfl)
theorem by_24 : byOf Tryd.prog 24 = 24 := _root_.id (by kernel_rfl)
theorem ag_24 : agT Tryd.prog 24 = some (some 1) := _root_.id (by kernel_rfl)
theorem ce_24 : Program.cellsOf Tryd.prog 24 = 1 := _root_.id (by kernel_rfl)
theorem bo_24 : Program.bytesOf Tryd.prog 24 = 24 := _root_.id (by kernel_rfl)
theorem sty_24 : sty Tryd.prog 24 = some [22] := _root_.id (by kernel_rfl)
theorem zc_24 : zeroCells Tryd.prog 24 = some [.nil] := _root_.id (by kernel_rfl)
theorem pl_24 : places Tryd.prog 24 = some [(0, 1)] := _root_.id (by kernel_rfl)
theorem tk_28 : tk Tryd.prog 28 = .struct [(0, 1)] := _root_.id (by kernel_rfl)
theorem sz_28 : szOf Tryd.prog 28 = 1 := _root_.id (by kernel_rfl)
theorem by_28 : byOf Tryd.prog 28 = 24 := _root_.id (by kernel_rfl)
theorem ag_28 : agT Tryd.prog 28 = some (some 1) := _root_.id (by kernel_rfl)
theorem ce_28 : Program.cellsOf Tryd.prog 28 = 1 := _root_.id (by kernel_rfl)
theorem bo_28 : Program.bytesOf Tryd.prog 28 = 24 := _root_.id (by kernel_rfl)
theorem sty_28 : sty Tryd.prog 28 = some [22] := _root_.id (by kernel_rfl)
theorem zc_28 : zeroCells Tryd.prog 28 = some [.nil] := _root_.id (by kernel_rfl)
theorem pl_28 : places Tryd.prog 28 = some [(0, 1)] := _root_.id (by kernel_rfl)
theorem tk_82 : tk Tryd.prog 82 = .slice 191 := _root_.id (by kernel_rfl)
theorem sz_82 : szOf Tryd.prog 82 = 1 := _root_.id (by kernel_rfl)
theorem by_82 : byOf Tryd.prog 82 = 24 := _root_.id (by kernel_rfl)
theorem ag_82 : agT Tryd.prog 82 = some none := _root_.id (by kernel_rfl)
theorem ce_82 : Program.cellsOf Tryd.prog 82 = 1 := _root_.id (by kernel_rfl)
theorem bo_82 : Program.bytesOf Tryd.prog 82 = 24 := _root_.id (by kernel_rfl)
theorem zc_82 : zeroCells Tryd.prog 82 = some [.nil] := _root_.id (by kernel_rfl)
theorem tk_84 : tk Tryd.prog 84 = .struct [(0, 1), (1, 1), (2, 1)] := _root_.id (by kernel_rfl)
theorem sz_84 : szOf Tryd.prog 84 = 3 := _root_.id (by kernel_rfl)
theorem by_84 : byOf Tryd.prog 84 = 56 := _root_.id (by kernel_rfl)
theorem ag_84 : agT Tryd.prog 84 = some (some 3) := _root_.id (by kernel_rfl)
theorem ce_84 : Program.cellsOf Tryd.prog 84 = 3 := _root_.id (by kernel_rfl)
theorem bo_84 : Program.bytesOf Tryd.prog 84 = 56 := _root_.id (by kernel_rfl)
theorem sty_84 : sty Tryd.prog 84 = some [82, 3, 22] := _root_.id (by kernel_rfl)
theorem zc_84 : zeroCells Tryd.prog 84 = some [.nil, .int .i64 0, .nil] := _root_.id (by kernel_rfl)
theorem pl_84 : places Tryd.prog 84 = some [(0, 1), (1, 1), (2, 1)] := _root_.id (by kernel_rfl)
theorem tk_86 : tk Tryd.prog 86 = .struct [(0, 12), (12, 3), (15, 1), (16, 1)] := _root_.id (by kernel_rfl)
theorem sz_86 : szOf Tryd.prog 86 = 17 := _root_.id (by kernel_rfl)
theorem by_86 : byOf Tryd.prog 86 = 280 := _root_.id (by kernel_rfl)
theorem ag_86 : agT Tryd.prog 86 = some (some 17) := _root_.id (by kernel_rfl)
theorem ce_86 : Program.cellsOf Tryd.prog 86 = 17 := _root_.id (by kernel_rfl)
theorem bo_86 : Program.bytesOf Tryd.prog 86 = 280 := _root_.id (by kernel_rfl)
theorem sty_86 : sty Tryd.prog 86 = some [40, 84, 24, 22] := _root_.id (by kernel_rfl)
theorem zc_86 : zeroCells Tryd.prog 86 = some [.nil, .nil, .int .i64 0, .int .i64 0, .int .i64 0, .int .i64 0, .int .i64 0, .int .i64 0, .int .i64 0, .nil, .nil, .nil, .nil, .int .i64 0, .nil, .nil, .nil] := _root_.id (by kernel_rfl)
theorem pl_86 : places Tryd.prog 86 = some [(0, 12), (12, 3), (15, 1), (16, 1)] := _root_.id (by kernel_rfl)
theorem tk_89 : tk Tryd.prog 89 = .slice 164 := _root_.id (by kernel_rfl)
theorem sz_89 : szOf Tryd.prog 89 = 1 := _root_.id (by kernel_rfl)
theorem by_89 : byOf Tryd.prog 89 = 24 := _root_.id (by kernel_rfl)
theorem ag_89 : agT Tryd.prog 89 = some none := _root_.id (by kernel_rfl)
theorem ce_89 : Program.cellsOf Tryd.prog 89 = 1 := _root_.id (by kernel_rfl)
theorem bo_89 : Program.bytesOf Tryd.prog 89 = 24 := _root_.id (by kernel_rfl)
theorem zc_89 : zeroCells Tryd.prog 89 = some [.nil] := _root_.id (by kernel_rfl)
theorem tk_91 : tk Tryd.prog 91 = .struct [(0, 1), (1, 1), (2, 1)] := _root_.id (by kernel_rfl)
theorem sz_91 : szOf Tryd.prog 91 = 3 := _root_.id (by kernel_rfl)
theorem by_91 : byOf Tryd.prog 91 = 56 := _root_.id (by kernel_rfl)
theorem ag_91 : agT Tryd.prog 91 = some (some 3) := _root_.id (by kernel_rfl)
theorem ce_91 : Program.cellsOf Tryd.prog 91 = 3 := _root_.id (by kernel_rfl)
theorem bo_91 : Program.bytesOf Tryd.prog 91 = 56 := _root_.id (by kernel_rfl)
theorem sty_91 : sty Tryd.prog 91 = some [89, 3, 22] := _root_.id (by kernel_rfl)
theorem zc_91 : zeroCells Tryd.prog 91 = some [.nil, .int .i64 0, .nil] := _root_.id (by kernel_rfl)
theorem pl_91 : places Tryd.prog 91 = some [(0, 1), (1, 1), (2, 1)] := _root_.id (by kernel_rfl)
theorem tk_93 : tk Tryd.prog 93 = .struct [(0, 12), (12, 3), (15, 1), (16, 1)] := _root_.id (by kernel_rfl)
theorem sz_93 : szOf Tryd.prog 93 = 17 := _root_.id (by kernel_rfl)
theorem by_93 : byOf Tryd.prog 93 = 280 := _root_.id (by kernel_rfl)
theorem ag_93 : agT Tryd.prog 93 = some (some 17) := _root_.id (by kernel_rfl)
theorem ce_93 : Program.cellsOf Tryd.prog 93 = 17 := _root_.id (by kernel_rfl)
theorem bo_93 : Program.bytesOf Tryd.prog 93 = 280 := _root_.id (by kernel_rfl)
theorem sty_93 : sty Tryd.prog 93 = some [50, 91, 28, 22] := _root_.id (by kernel_rfl)
theorem zc_93 : zeroCells Tryd.prog 93 = some [.nil, .nil, .int .i64 0, .int .i64 0, .int .i64 0, .int .i64 0, .int .i64 0, .int .i64 0, .int .i64 0, .nil, .nil, .nil, .nil, .int .i64 0, .nil, .nil, .nil] := _root_.id (by kernel_rfl)
theorem pl_93 : places Tryd.prog 93 = some [(0, 12), (12, 3), (15, 1), (16, 1)] := _root_.id (by kernel_rfl)
theorem tk_164 : tk Tryd.prog 164 = .struct [(0, 1), (1, 1)] := _root_.id (by kernel_rfl)
theorem sz_164 : szOf Tryd.prog 164 = 2 := _root_.id (by kernel_rfl)
theorem by_164 : byOf Tryd.prog 164 = 16 := _root_.id (by kernel_rfl)
theorem ag_164 : agT Tryd.prog 164 = some (some 2) := _root_.id (by kernel_rfl)
theorem ce_164 : Program.cellsOf Tryd.prog 164 = 2 := _root_.id (by kernel_rfl)
theorem bo_164 : Program.bytesOf Tryd.prog 164 = 16 := _root_.id (by kernel_rfl)
theorem sty_164 : sty Tryd.prog 164 = some [3, 3] := _root_.id (by kernel_rfl)
theorem zc_164 : zeroCells Tryd.prog 164 = some [.int .i64 0, .int .i64 0] := _root_.id (by kernel_rfl)
theorem pl_164 : places Tryd.prog 164 = some [(0, 1), (1, 1)] := _root_.id (by kernel_rfl)
theorem tk_191 : tk Tryd.prog 191 = .struct [(0, 1), (1, 1)] := _root_.id (by kernel_rfl)
theorem sz_191 : szOf Tryd.prog 191 = 2 := _root_.id (by kernel_rfl)
theorem by_191 : byOf Tryd.prog 191 = 16 := _root_.id (by kernel_rfl)
theorem ag_191 : agT Tryd.prog 191 = some (some 2) := _root_.id (by kernel_rfl)
theorem ce_191 : Program.cellsOf Tryd.prog 191 = 2 := _root_.id (by kernel_rfl)
theorem bo_191 : Program.bytesOf Tryd.prog 191 = 16 := _root_.id (by kernel_rfl)
theorem sty_191 : sty Tryd.prog 191 = some [3, 3] := _root_.id (by kernel_rfl)
theorem zc_191 : zeroCells Tryd.prog 191 = some [.int .i64 0, .int .i64 0] := _root_.id (by kernel_rfl)
theorem pl_191 : places Tryd.prog 191 = some [(0, 1), (1, 1)] := _root_.id (by kernel_rfl)
attribute [push_cast] md_11 md_12 md_14 md_16 md_43 md_44 md_45 md_46 md_47 md_48 md_49 md_51 md_52 md_54 md_92 md_93
attribute [push_cast] md_94 md_95 md_96 md_97 md_100 md_129 md_130 md_131 md_132 md_133 md_134 md_136 md_137 md_161 md_163 md_164
attribute [push_cast] tk_24 sz_24 by_24 ag_24 zc_24 pl_24 tk_28 sz_28 by_28 ag_28 zc_28 pl_28 tk_82 sz_82 by_82 ag_82
attribute [push_cast] zc_82 tk_84 sz_84 by_84 ag_84 zc_84 pl_84 tk_86 sz_86 by_86 ag_86 zc_86 pl_86 tk_89 sz_89 by_89
attribute [push_cast] ag_89 zc_89 tk_91 sz_91 by_91 ag_91 zc_91 pl_91 tk_93 sz_93 by_93 ag_93 zc_93 pl_93 tk_164 sz_164
attribute [push_cast] by_164 ag_164 zc_164 pl_164 tk_191 sz_191 by_191 ag_191 zc_191 pl_191
end Go.Proofs.YtlddjlchgibdfaaDoor.X
