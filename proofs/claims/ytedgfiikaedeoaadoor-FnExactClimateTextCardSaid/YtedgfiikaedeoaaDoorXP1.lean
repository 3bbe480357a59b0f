/- A part of the proof: lemmas on the machine or on the functions that the law reaches. No condition of its own. -/
import Derived.Test.YtedgfiikaedeoaaDoorXM5
import Derived.Test.YtedgfiikaedeoaaDoorProg
import Derived.KernelRfl
namespace Go.Proofs.YtedgfiikaedeoaaDoor.X
open Go

def md0 : FuncId → Bool := fun f => f == 12 || f == 25 || f == 40
def c3 : XC := open K in
o 1 (x 24 0)<| o 2 (.assign b0)<| o 3 (.assign (z 1048576))<| o 9 (l 24 1)<| o 10 (m 3)<| o 11 (g 5 [t 9, t 10] [24, 3])<| o 3 (a 11)<| o 12 (m 3)<| o 13 (c .lss 3 12 0)<| k 13 (o 2 (.assign b1)<| .ret) (.done)<| o 15 (l 24 1)<| o 16 (g 7 [t 15] [24])<| o 17 (g 6 [t 16] [28])<| o 14 (m 17)<| o 18 (.extract (.tmp 14) 0)<| o 19 (.extract (.tmp 14) 1)<| o 4 (a 18)<| o 5 (a 19)<| o 20 (l 24 1)<| o 21 (g 7 [t 20] [24])<| o 6 (.alloc 28)<| s 28 6 21<| o 23 (l 28 6)<| o 24 (g 8 [t 23] [28])<| o 22 (m 24)<| o 25 (.extract (.tmp 22) 0)<| o 26 (.extract (.tmp 22) 1)<| o 7 (a 25)<| o 8 (a 26)<| o 27 (m 7)<| o 28 (m 4)<| o 29 (b .neq 9 27 28)<| o 30 (m 29)<| w 31 30 (m 8)<| w 32 30 (m 5)<| w 33 30 (b .neq 4 31 32)<| o 34 (p 30 b1 (t 33))<| k 34 (o 2 (.assign b0)<| .ret) (.done)<| o 35 (l 28 6)<| o 36 (l 24 1)<| o 37 (g 7 [t 36] [24])<| o 38 (g 9 [t 35, t 37] [28, 28])<| o 39 (q 4 38)<| k 39 (o 2 (.assign b0)<| .ret) (.done)<| o 2 (.assign b1)<| .ret
theorem Q3 : FnP Tryd.prog md0 3 c3 40 [.tmp 2] := .of Tryd.func3
def c5 : XC := open K in
o 2 (x 24 0)<| o 4 (.assign (z 0))<| o 5 (f 24 2 0)<| o 6 (l 22 5)<| o 7 (m 1)<| o 8 (g 14 [t 6, t 7] [22, 3])<| o 1 (a 8)<| o 9 (m 1)<| o 10 (c .lss 3 9 0)<| k 10 (o 4 (.assign (z (-1)))<| .ret) (.done)<| o 11 (m 1)<| o 4 (a 11)<| .ret
theorem Q5 : FnP Tryd.prog md0 5 c5 12 [.tmp 4] := .of Tryd.func5
def c6 : XC := open K in
o 1 (x 28 0)<| o 2 (.assign (.const (.string ⟨⟨[]⟩⟩)))<| o 3 (.assign b0)<| o 4 (l 28 1)<| o 5 (g 15 [t 4] [28])<| o 6 (q 4 5)<| k 6 (o 2 (.assign (.const (.string ⟨⟨[]⟩⟩)))<| o 3 (.assign b0)<| .ret) (.done)<| o 7 (l 28 1)<| o 8 (g 16 [t 7] [28])<| o 2 (a 8)<| o 3 (.assign b1)<| .ret
theorem Q6 : FnP Tryd.prog md0 6 c6 9 [.tmp 2, .tmp 3] := .of Tryd.func6
def c7 : XC := open K in
o 1 (x 24 0)<| o 2 (.alloc 28)<| o 3 (.alloc 28)<| o 4 (f 24 1 0)<| o 5 (l 22 4)<| o 6 (g 17 [t 5] [22])<| o 7 (f 28 3 0)<| s 22 7 6<| o 8 (l 28 3)<| s 28 2 8<| .ret
theorem Q7 : FnP Tryd.prog md0 7 c7 9 [.cell 2 28] := .of Tryd.func7
def c8 : XC := open K in
o 1 (x 28 0)<| o 2 (.assign (.const (.string ⟨⟨[]⟩⟩)))<| o 3 (.assign b0)<| o 4 (l 28 1)<| o 5 (g 18 [t 4] [28])<| o 6 (q 4 5)<| k 6 (o 2 (.assign (.const (.string ⟨⟨[]⟩⟩)))<| o 3 (.assign b0)<| .ret) (.done)<| o 7 (l 28 1)<| o 8 (g 19 [t 7] [28])<| o 2 (a 8)<| o 3 (.assign b1)<| .ret
theorem Q8 : FnP Tryd.prog md0 8 c8 9 [.tmp 2, .tmp 3] := .of Tryd.func8
def c9 : XC := open K in
o 2 (x 28 0)<| o 3 (x 28 1)<| o 4 (.assign b0)<| o 5 (f 28 2 0)<| o 6 (l 22 5)<| o 7 (f 28 3 0)<| o 8 (l 22 7)<| o 9 (g 20 [t 6, t 8] [22, 22])<| o 10 (q 4 9)<| k 10 (o 4 (.assign b0)<| .ret) (.done)<| o 4 (.assign b1)<| .ret
theorem Q9 : FnP Tryd.prog md0 9 c9 11 [.tmp 4] := .of Tryd.func9
def c14 : XC := open K in
o 4 (.assign (z 0))<| o 6 (m 1)<| o 7 (m 0)<| o 8 (n 7 22)<| o 9 (b .sub 3 6 8)<| o 1 (a 9)<| o 10 (m 1)<| o 11 (c .lss 3 10 0)<| k 11 (o 4 (.assign (z (-1)))<| .ret) (.done)<| o 5 (.assign (z 0))<| .block 0 (.loop<|o 12 (m 5)<| o 13 (m 0)<| o 14 (n 13 22)<| o 15 (b .lss 3 12 14)<| k 15 (.done) (.exit 0)<| .block 1 (o 18 (m 0)<| o 19 (m 5)<| o 20 (i 22 18 19)<| o 21 (l 44 20)<| o 22 (m 1)<| o 23 (g 27 [t 21, t 22] [44, 3])<| o 1 (a 23)<| o 24 (m 1)<| o 25 (c .lss 3 24 0)<| k 25 (o 4 (.assign (z (-1)))<| .ret) (.done)<| .done)<| o 16 (m 5)<| o 17 (c .add 3 16 1)<| o 5 (a 17)<| .done)<| o 26 (m 1)<| o 4 (a 26)<| .ret
theorem Q14 : FnP Tryd.prog md0 14 c14 27 [.tmp 4] := .of Tryd.func14
def c15 : XC := open K in
o 1 (x 28 0)<| o 2 (.assign b0)<| o 5 (f 28 1 0)<| o 6 (l 22 5)<| o 7 (n 6 22)<| o 8 (c .neq 3 7 3)<| k 8 (o 2 (.assign b0)<| .ret) (.done)<| o 9 (f 28 1 0)<| o 10 (l 22 9)<| o 11 (n 10 22)<| o 12 (.move (z 0))<| .block 0 (.loop<|o 13 (b .lss 3 12 11)<| k 13 (.done) (.exit 0)<| .block 1 (o 14 (i 22 10 12)<| o 15 (l 44 14)<| o 4 (a 15)<| o 16 (m 4)<| o 17 (n 16 44)<| o 18 (c .neq 3 17 3)<| o 19 (m 18)<| w 20 19 (m 4)<| w 21 19 (g 28 [t 20, z 0, z 36] [44, 3, 3])<| w 22 19 (q 4 21)<| o 23 (p 19 b1 (t 22))<| o 24 (m 23)<| w 25 24 (m 4)<| w 26 24 (.indexAddr 44 (.tmp 25) (.const (.int .i64 0)))<| w 27 24 (l 3 26)<| w 28 24 (m 4)<| w 29 24 (.indexAddr 44 (.tmp 28) (.const (.int .i64 1)))<| w 30 24 (l 3 29)<| w 31 24 (b .add 3 27 30)<| w 32 24 (m 4)<| w 33 24 (.indexAddr 44 (.tmp 32) (.const (.int .i64 2)))<| w 34 24 (l 3 33)<| w 35 24 (b .add 3 31 34)<| w 36 24 (c .neq 3 35 36)<| o 37 (p 24 b1 (t 36))<| k 37 (o 2 (.assign b0)<| .ret) (.done)<| .done)<| o 38 (c .add 3 12 1)<| o 12 (m 38)<| .done)<| o 2 (.assign b1)<| .ret
theorem Q15 : FnP Tryd.prog md0 15 c15 39 [.tmp 2] := .of Tryd.func15
def c16 : XC := open K in
o 1 (x 28 0)<| o 2 (.assign (.const (.string ⟨⟨[]⟩⟩)))<| o 3 (.assign (.const (.string ⟨⟨[]⟩⟩)))<| o 8 (f 28 1 0)<| o 9 (l 22 8)<| o 10 (n 9 22)<| o 11 (.move (z 0))<| .block 0 (.loop<|o 12 (b .lss 3 11 10)<| k 12 (.done) (.exit 0)<| .block 1 (o 13 (m 11)<| o 14 (i 22 9 11)<| o 15 (l 44 14)<| o 4 (a 13)<| o 5 (a 15)<| o 16 (m 5)<| o 17 (n 16 44)<| o 18 (.move (z 0))<| .block 2 (.loop<|o 19 (b .lss 3 18 17)<| k 19 (.done) (.exit 2)<| .block 3 (o 20 (m 18)<| o 21 (i 44 16 18)<| o 22 (l 3 21)<| o 6 (a 20)<| o 7 (a 22)<| o 23 (m 4)<| o 24 (m 6)<| o 25 (b .add 3 23 24)<| o 26 (c .gtr 3 25 0)<| k 26 (o 27 (m 3)<| o 28 (.binOp .add 9 (t 27) (.const (.string ⟨⟨[32]⟩⟩)) 9)<| o 3 (a 28)<| .done) (.done)<| o 29 (m 3)<| o 30 (m 7)<| o 31 (g 29 [t 30] [3])<| o 32 (b .add 9 29 31)<| o 3 (a 32)<| .done)<| o 33 (c .add 3 18 1)<| o 18 (m 33)<| .done)<| .done)<| o 34 (c .add 3 11 1)<| o 11 (m 34)<| .done)<| o 35 (m 3)<| o 2 (a 35)<| .ret
theorem Q16 : FnP Tryd.prog md0 16 c16 36 [.tmp 2] := .of Tryd.func16
def c17 : XC := open K in
o 2 (.assign (.const (.slice none 0 0)))<| o 5 (m 0)<| o 6 (n 5 22)<| o 7 (.makeSlice 22 (.tmp 6) (.tmp 6))<| o 3 (a 7)<| o 4 (.assign (z 0))<| .block 0 (.loop<|o 8 (m 4)<| o 9 (m 0)<| o 10 (n 9 22)<| o 11 (b .lss 3 8 10)<| k 11 (.done) (.exit 0)<| .block 1 (o 14 (m 3)<| o 15 (m 4)<| o 16 (m 0)<| o 17 (m 4)<| o 18 (i 22 16 17)<| o 19 (l 44 18)<| o 20 (g 30 [t 19] [44])<| o 21 (i 22 14 15)<| s 44 21 20<| .done)<| o 12 (m 4)<| o 13 (c .add 3 12 1)<| o 4 (a 13)<| .done)<| o 22 (m 3)<| o 2 (a 22)<| .ret
theorem Q17 : FnP Tryd.prog md0 17 c17 23 [.tmp 2] := .of Tryd.func17
def c18 : XC := open K in
o 1 (x 28 0)<| o 2 (.assign b0)<| o 7 (f 28 1 0)<| o 8 (l 22 7)<| o 9 (n 8 22)<| o 10 (c .neq 3 9 3)<| k 10 (o 2 (.assign b0)<| .ret) (.done)<| o 11 (f 28 1 0)<| o 12 (l 22 11)<| o 13 (n 12 22)<| o 14 (.move (z 0))<| .block 0 (.loop<|o 15 (b .lss 3 14 13)<| k 15 (.done) (.exit 0)<| .block 1 (o 16 (i 22 12 14)<| o 17 (l 44 16)<| o 4 (a 17)<| o 18 (m 4)<| o 19 (n 18 44)<| o 20 (c .neq 3 19 3)<| o 21 (m 20)<| w 22 21 (m 4)<| w 23 21 (g 31 [t 22] [44])<| w 24 21 (c .neq 3 23 36)<| o 25 (p 21 b1 (t 24))<| k 25 (o 2 (.assign b0)<| .ret) (.done)<| o 26 (m 4)<| o 27 (n 26 44)<| o 28 (.move (z 0))<| .block 2 (.loop<|o 29 (b .lss 3 28 27)<| k 29 (.done) (.exit 2)<| .block 3 (o 30 (i 44 26 28)<| o 31 (l 3 30)<| o 6 (a 31)<| o 32 (m 6)<| o 33 (g 32 [t 32, z 0, z 36] [3, 3, 3])<| o 34 (q 4 33)<| k 34 (o 2 (.assign b0)<| .ret) (.done)<| .done)<| o 35 (c .add 3 28 1)<| o 28 (m 35)<| .done)<| .done)<| o 36 (c .add 3 14 1)<| o 14 (m 36)<| .done)<| o 2 (.assign b1)<| .ret
theorem Q18 : FnP Tryd.prog md0 18 c18 37 [.tmp 2] := .of Tryd.func18
def c19 : XC := open K in
o 1 (x 28 0)<| o 2 (.assign (.const (.string ⟨⟨[]⟩⟩)))<| o 3 (f 28 1 0)<| o 4 (l 22 3)<| o 5 (g 35 [t 4] [22])<| o 6 (g 34 [.const (.string ⟨⟨[]⟩⟩), t 5] [9, 44])<| o 7 (g 33 [t 6, .const (.string ⟨⟨[32]⟩⟩)] [9, 9])<| o 2 (a 7)<| .ret
theorem Q19 : FnP Tryd.prog md0 19 c19 8 [.tmp 2] := .of Tryd.func19
def c20 : XC := open K in
o 4 (.assign b0)<| o 6 (m 0)<| o 7 (n 6 22)<| o 8 (m 1)<| o 9 (n 8 22)<| o 10 (b .neq 3 7 9)<| k 10 (o 4 (.assign b0)<| .ret) (.done)<| o 5 (.assign (z 0))<| .block 0 (.loop<|o 11 (m 5)<| o 12 (m 0)<| o 13 (n 12 22)<| o 14 (b .lss 3 11 13)<| k 14 (.done) (.exit 0)<| .block 1 (o 17 (m 0)<| o 18 (m 5)<| o 19 (i 22 17 18)<| o 20 (l 44 19)<| o 21 (m 1)<| o 22 (m 5)<| o 23 (i 22 21 22)<| o 24 (l 44 23)<| o 25 (g 36 [t 20, t 24] [44, 44])<| o 26 (q 4 25)<| k 26 (o 4 (.assign b0)<| .ret) (.done)<| .done)<| o 15 (m 5)<| o 16 (c .add 3 15 1)<| o 5 (a 16)<| .done)<| o 4 (.assign b1)<| .ret
theorem Q20 : FnP Tryd.prog md0 20 c20 27 [.tmp 4] := .of Tryd.func20
def c27 : XC := open K in
o 4 (.assign (z 0))<| o 5 (m 1)<| o 6 (m 0)<| o 7 (n 6 44)<| o 8 (b .sub 3 5 7)<| o 1 (a 8)<| o 9 (m 1)<| o 10 (c .lss 3 9 0)<| k 10 (o 4 (.assign (z (-1)))<| .ret) (.done)<| o 11 (m 1)<| o 4 (a 11)<| .ret
theorem Q27 : FnP Tryd.prog md0 27 c27 12 [.tmp 4] := .of Tryd.func27
def c28 : XC := open K in
o 6 (.assign b0)<| o 9 (m 0)<| o 10 (n 9 44)<| o 11 (.move (z 0))<| .block 0 (.loop<|o 12 (b .lss 3 11 10)<| k 12 (.done) (.exit 0)<| .block 1 (o 13 (i 44 9 11)<| o 14 (l 3 13)<| o 8 (a 14)<| o 15 (m 8)<| o 16 (m 1)<| o 17 (m 2)<| o 18 (g 37 [t 15, t 16, t 17] [3, 3, 3])<| o 19 (q 4 18)<| k 19 (o 6 (.assign b0)<| .ret) (.done)<| .done)<| o 20 (c .add 3 11 1)<| o 11 (m 20)<| .done)<| o 6 (.assign b1)<| .ret
theorem Q28 : FnP Tryd.prog md0 28 c28 21 [.tmp 6] := .of Tryd.func28
def c29 : XC := open K in
o 2 (.assign (.const (.string ⟨⟨[]⟩⟩)))<| o 3 (m 0)<| o 4 (c .lss 3 3 10)<| k 4 (o 5 (m 0)<| o 6 (.binOp .add 3 (z 48) (t 5) 3)<| o 7 (.convert 3 5 (.tmp 6))<| o 8 (.buildSlice 60 1 ⟨[(0, .tmp 7)]⟩)<| o 9 (.convert 60 9 (.tmp 8))<| o 2 (a 9)<| .ret) (.done)<| o 10 (m 0)<| o 11 (c .quo 3 10 10)<| o 13 (m 0)<| o 14 (c .rem 3 13 10)<| o 15 (.binOp .add 3 (z 48) (t 14) 3)<| o 16 (.convert 3 5 (.tmp 15))<| .fork (o 12 (g 29 [t 11] [3])<| o 17 (.buildSlice 60 1 ⟨[(0, .tmp 16)]⟩)<| o 18 (.convert 60 9 (.tmp 17))<| o 19 (b .add 9 12 18)<| o 2 (a 19)<| .done) (o 17 (.buildSlice 60 1 ⟨[(0, .tmp 16)]⟩)<| o 18 (.convert 60 9 (.tmp 17))<| o 12 (g 29 [t 11] [3])<| o 19 (b .add 9 12 18)<| o 2 (a 19)<| .done)<| .ret
theorem Q29 : FnP Tryd.prog md0 29 c29 20 [.tmp 2] := .of Tryd.func29
def c30 : XC := open K in
o 2 (.assign (.const (.slice none 0 0)))<| o 5 (m 0)<| o 6 (n 5 44)<| o 7 (.makeSlice 44 (.tmp 6) (.tmp 6))<| o 3 (a 7)<| o 4 (.assign (z 0))<| .block 0 (.loop<|o 8 (m 4)<| o 9 (m 0)<| o 10 (n 9 44)<| o 11 (b .lss 3 8 10)<| k 11 (.done) (.exit 0)<| .block 1 (o 14 (m 3)<| o 15 (m 4)<| o 16 (m 0)<| o 17 (m 4)<| o 18 (i 44 16 17)<| o 19 (l 3 18)<| o 20 (i 44 14 15)<| s 3 20 19<| .done)<| o 12 (m 4)<| o 13 (c .add 3 12 1)<| o 4 (a 13)<| .done)<| o 21 (m 3)<| o 2 (a 21)<| .ret
theorem Q30 : FnP Tryd.prog md0 30 c30 22 [.tmp 2] := .of Tryd.func30
def c31 : XC := open K in
o 2 (.assign (z 0))<| o 3 (.assign (z 0))<| o 6 (m 0)<| o 7 (n 6 44)<| o 8 (.move (z 0))<| .block 0 (.loop<|o 9 (b .lss 3 8 7)<| k 9 (.done) (.exit 0)<| .block 1 (o 10 (i 44 6 8)<| o 11 (l 3 10)<| o 5 (a 11)<| o 12 (m 3)<| o 13 (m 5)<| o 14 (b .add 3 12 13)<| o 3 (a 14)<| .done)<| o 15 (c .add 3 8 1)<| o 8 (m 15)<| .done)<| o 16 (m 3)<| o 2 (a 16)<| .ret
theorem Q31 : FnP Tryd.prog md0 31 c31 17 [.tmp 2] := .of Tryd.func31
def c32 : XC := open K in
o 6 (.assign b0)<| o 7 (m 1)<| o 8 (m 0)<| o 9 (b .leq 3 7 8)<| o 10 (m 9)<| y 11 10 (m 0)<| y 12 10 (m 2)<| y 13 10 (b .leq 3 11 12)<| o 14 (p 10 (t 13) b0)<| o 6 (a 14)<| .ret
theorem Q32 : FnP Tryd.prog md0 32 c32 15 [.tmp 6] := .of Tryd.func32
def c33 : XC := open K in
o 4 (.assign (.const (.string ⟨⟨[]⟩⟩)))<| o 5 (m 0)<| o 6 (m 1)<| o 7 (g 42 [t 5, t 6] [9, 9])<| o 4 (a 7)<| .ret
theorem Q33 : FnP Tryd.prog md0 33 c33 8 [.tmp 4] := .of Tryd.func33
def c34 : XC := open K in
o 4 (.assign (.const (.string ⟨⟨[]⟩⟩)))<| o 8 (m 0)<| o 9 (.buildSlice 41 1 ⟨[(0, .tmp 8)]⟩)<| o 5 (a 9)<| o 10 (m 1)<| o 11 (n 10 44)<| o 12 (.move (z 0))<| .block 0 (.loop<|o 13 (b .lss 3 12 11)<| k 13 (.done) (.exit 0)<| .block 1 (o 14 (i 44 10 12)<| o 15 (l 3 14)<| o 7 (a 15)<| o 16 (m 5)<| o 17 (m 7)<| o 18 (g 43 [t 17] [3])<| o 19 (.buildSlice 41 1 ⟨[(0, .tmp 18)]⟩)<| o 20 (.call ⟨.builtin .append, ⟨[.tmp 16, .tmp 19]⟩, ⟨[41, 41]⟩⟩)<| o 5 (a 20)<| .done)<| o 21 (c .add 3 12 1)<| o 12 (m 21)<| .done)<| o 22 (m 5)<| o 23 (g 44 [t 22, .const (.string ⟨⟨[32]⟩⟩)] [41, 9])<| o 4 (a 23)<| .ret
theorem Q34 : FnP Tryd.prog md0 34 c34 24 [.tmp 4] := .of Tryd.func34
def c35 : XC := open K in
o 2 (.assign (.const (.slice none 0 0)))<| o 3 (.assign (z 0))<| o 9 (m 0)<| o 10 (n 9 22)<| o 11 (.move (z 0))<| .block 0 (.loop<|o 12 (b .lss 3 11 10)<| k 12 (.done) (.exit 0)<| .block 1 (o 13 (i 22 9 11)<| o 14 (l 44 13)<| o 5 (a 14)<| o 15 (m 3)<| o 16 (m 5)<| o 17 (n 16 44)<| o 18 (b .add 3 15 17)<| o 3 (a 18)<| o 19 (m 3)<| o 20 (c .lss 3 19 0)<| k 20 (o 21 (.makeInterface 9 (.const (.string ⟨⟨[108, 101, 110, 32, 111, 117, 116, 32, 111, 102, 32, 114, 97, 110, 103, 101]⟩⟩)))<| .op none (.panic (.tmp 21)) none<| .done) (.done)<| .done)<| o 22 (c .add 3 11 1)<| o 11 (m 22)<| .done)<| o 23 (m 3)<| o 24 (g 45 [.const (.slice none 0 0), t 23] [44, 3])<| o 6 (a 24)<| o 25 (m 0)<| o 26 (n 25 22)<| o 27 (.move (z 0))<| .block 2 (.loop<|o 28 (b .lss 3 27 26)<| k 28 (.done) (.exit 2)<| .block 3 (o 29 (i 22 25 27)<| o 30 (l 44 29)<| o 8 (a 30)<| o 31 (m 6)<| o 32 (m 8)<| o 33 (.call ⟨.builtin .append, ⟨[.tmp 31, .tmp 32]⟩, ⟨[44, 44]⟩⟩)<| o 6 (a 33)<| .done)<| o 34 (c .add 3 27 1)<| o 27 (m 34)<| .done)<| o 35 (m 6)<| o 2 (a 35)<| .ret
theorem Q35 : FnP Tryd.prog md0 35 c35 36 [.tmp 2] := .of Tryd.func35
def c36 : XC := open K in
o 4 (.assign b0)<| o 6 (m 0)<| o 7 (n 6 44)<| o 8 (m 1)<| o 9 (n 8 44)<| o 10 (b .neq 3 7 9)<| k 10 (o 4 (.assign b0)<| .ret) (.done)<| o 5 (.assign (z 0))<| .block 0 (.loop<|o 11 (m 5)<| o 12 (m 0)<| o 13 (n 12 44)<| o 14 (b .lss 3 11 13)<| k 14 (.done) (.exit 0)<| .block 1 (o 17 (m 0)<| o 18 (m 5)<| o 19 (i 44 17 18)<| o 20 (l 3 19)<| o 21 (m 1)<| o 22 (m 5)<| o 23 (i 44 21 22)<| o 24 (l 3 23)<| o 25 (b .neq 3 20 24)<| k 25 (o 4 (.assign b0)<| .ret) (.done)<| .done)<| o 15 (m 5)<| o 16 (c .add 3 15 1)<| o 5 (a 16)<| .done)<| o 4 (.assign b1)<| .ret
theorem Q36 : FnP Tryd.prog md0 36 c36 26 [.tmp 4] := .of Tryd.func36
def c37 : XC := open K in
o 6 (.assign b0)<| o 7 (m 0)<| o 8 (m 1)<| o 9 (b .geq 3 7 8)<| o 10 (m 9)<| y 11 10 (m 0)<| y 12 10 (m 2)<| y 13 10 (b .leq 3 11 12)<| o 14 (p 10 (t 13) b0)<| o 6 (a 14)<| .ret
theorem Q37 : FnP Tryd.prog md0 37 c37 15 [.tmp 6] := .of Tryd.func37
def c42 : XC := open K in
o 4 (.assign (.const (.string ⟨⟨[]⟩⟩)))<| o 5 (m 0)<| o 6 (m 1)<| o 7 (g 48 [t 5, t 6] [9, 9])<| k 7 (o 8 (m 0)<| o 9 (m 1)<| o 10 (n 9 9)<| o 11 (.slice 9 (.tmp 8) (some (.tmp 10)) none none)<| o 4 (a 11)<| .ret) (.done)<| o 12 (m 0)<| o 4 (a 12)<| .ret
theorem Q42 : FnP Tryd.prog md0 42 c42 13 [.tmp 4] := .of Tryd.func42
def c48 : XC := open K in
o 4 (.assign b0)<| o 5 (m 0)<| o 6 (n 5 9)<| o 7 (m 1)<| o 8 (n 7 9)<| o 9 (b .geq 3 6 8)<| o 10 (m 9)<| y 11 10 (m 0)<| y 12 10 (m 1)<| y 13 10 (n 12 9)<| y 14 10 (.slice 9 (.tmp 11) none (some (.tmp 13)) none)<| y 15 10 (m 1)<| y 16 10 (b .eql 9 14 15)<| o 17 (p 10 (t 16) b0)<| o 4 (a 17)<| .ret
theorem Q48 : FnP Tryd.prog md0 48 c48 18 [.tmp 4] := .of Tryd.func48
theorem mdXMCodeAz_0 : md0 3 = false ∧ md0 5 = false ∧ md0 6 = false ∧ md0 7 = false ∧ md0 8 = false ∧ md0 9 = false ∧ md0 14 = false ∧ md0 15 = false ∧ md0 16 = false ∧ md0 17 = false ∧ md0 18 = false ∧ md0 19 = false ∧ md0 20 = false ∧ md0 27 = false ∧ md0 28 = false ∧ md0 29 = false ∧ md0 30 = false ∧ md0 31 = false ∧ md0 32 = false ∧ md0 33 = false := by decide
theorem mdXMCodeAz_20 : md0 34 = false ∧ md0 35 = false ∧ md0 36 = false ∧ md0 37 = false ∧ md0 42 = false ∧ md0 43 = false ∧ md0 44 = false ∧ md0 45 = false ∧ md0 48 = false := by decide
theorem ty_3 : tk Tryd.prog 3 = .int .i64 ∧ szOf Tryd.prog 3 = 1 ∧ byOf Tryd.prog 3 = 8 ∧ agT Tryd.prog 3 = some none ∧ zeroCells Tryd.prog 3 = some [.int .i64 0] := by and_intros <;> kernel_rfl
theorem tk_3 : tk Tryd.prog 3 = .int .i64 := ty_3.1
theorem bo_3 : Program.bytesOf Tryd.prog 3 = 8 := by kernel_rfl
theorem ty_4 : tk Tryd.prog 4 = .bool ∧ szOf Tryd.prog 4 = 1 ∧ byOf Tryd.prog 4 = 1 ∧ agT Tryd.prog 4 = some none ∧ zeroCells Tryd.prog 4 = some [.bool false] := by and_intros <;> kernel_rfl
theorem ty_5 : tk Tryd.prog 5 = .int .u8 ∧ szOf Tryd.prog 5 = 1 ∧ byOf Tryd.prog 5 = 1 ∧ agT Tryd.prog 5 = some none ∧ zeroCells Tryd.prog 5 = some [.int .u8 0] := by and_intros <;> kernel_rfl
theorem ty_9 : tk Tryd.prog 9 = .str ∧ szOf Tryd.prog 9 = 1 ∧ byOf Tryd.prog 9 = 16 ∧ agT Tryd.prog 9 = some none ∧ zeroCells Tryd.prog 9 = some [.str ⟨⟨[]⟩⟩] := by and_intros <;> kernel_rfl
theorem ty_22 : tk Tryd.prog 22 = .slice 44 ∧ szOf Tryd.prog 22 = 1 ∧ byOf Tryd.prog 22 = 24 ∧ agT Tryd.prog 22 = some none ∧ zeroCells Tryd.prog 22 = some [.nil] := by and_intros <;> kernel_rfl
theorem tk_22 : tk Tryd.prog 22 = .slice 44 := ty_22.1
theorem ty_24 : tk Tryd.prog 24 = .struct [(0, 1)] ∧ szOf Tryd.prog 24 = 1 ∧ byOf Tryd.prog 24 = 24 ∧ agT Tryd.prog 24 = some (some 1) ∧ zeroCells Tryd.prog 24 = some [.nil] ∧ places Tryd.prog 24 = some [(0, 1)] := by and_intros <;> kernel_rfl
theorem sty_24 : sty Tryd.prog 24 = some [22] := by kernel_rfl
theorem ty_28 : tk Tryd.prog 28 = .struct [(0, 1)] ∧ szOf Tryd.prog 28 = 1 ∧ byOf Tryd.prog 28 = 24 ∧ agT Tryd.prog 28 = some (some 1) ∧ zeroCells Tryd.prog 28 = some [.nil] ∧ places Tryd.prog 28 = some [(0, 1)] := by and_intros <;> kernel_rfl
theorem ty_41 : tk Tryd.prog 41 = .slice 9 ∧ szOf Tryd.prog 41 = 1 ∧ byOf Tryd.prog 41 = 24 ∧ agT Tryd.prog 41 = some none ∧ zeroCells Tryd.prog 41 = some [.nil] := by and_intros <;> kernel_rfl
theorem ty_44 : tk Tryd.prog 44 = .slice 3 ∧ szOf Tryd.prog 44 = 1 ∧ byOf Tryd.prog 44 = 24 ∧ agT Tryd.prog 44 = some none ∧ zeroCells Tryd.prog 44 = some [.nil] := by and_intros <;> kernel_rfl
theorem tk_44 : tk Tryd.prog 44 = .slice 3 := ty_44.1
theorem bo_44 : Program.bytesOf Tryd.prog 44 = 24 := by kernel_rfl
theorem ty_60 : tk Tryd.prog 60 = .slice 5 ∧ szOf Tryd.prog 60 = 1 ∧ byOf Tryd.prog 60 = 24 ∧ agT Tryd.prog 60 = some none ∧ zeroCells Tryd.prog 60 = some [.nil] := by and_intros <;> kernel_rfl
attribute [push_cast] mdXMCodeAz_0 mdXMCodeAz_20 ty_3 ty_4 ty_5 ty_9 ty_22 ty_24 ty_28 ty_41 ty_44 ty_60
end Go.Proofs.YtedgfiikaedeoaaDoor.X
