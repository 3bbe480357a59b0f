/- A part of the proof: lemmas on the machine or on the functions that the law reaches. No condition of its own. -/
import Derived.Test.YtedgfiikaedeoaaDoorXM5
import Derived.Test.YtedgfiikaedeoaaDoorXP1
import Derived.Shelf.Strings.Split
import Derived.Shelf.Strconv.Itoa3
import Derived.Shelf.Strconv.AtoiAll
import Derived.Lib.AtoiErrMem
import Derived.Lib.AppendIntMem
import Derived.WalkKit
import Derived.BigCall
import Derived.WalkSmall
import Derived.Shelf.Strings.OnBuilder
import Derived.Lib.AppendZerosOnto
import Derived.Lib.Walk
set_option linter.unusedVariables false
set_option maxRecDepth 8000
set_option linter.unusedSimpArgs false
open Nat renaming reduceBEq → N1, reduceAdd → N2, reduceSub → N3, reduceMul → N4, reduceEqDiff → N5, reduceLeDiff → N6, reduceLT → N7
open Int renaming reduceLE → I1, reduceLT → I2, reduceToNat → I3
namespace Go.Proofs.YtedgfiikaedeoaaDoor.X
open Go
section
open Go.Shelf Go.Proofs
def laysM171_ren : Go.Shelf.Ren := ⟨fun | 171 => 43 | 243 => 49 | 246 => 58 | 283 => 70 | 284 => 71 | 285 => 72 | 286 => 73 | 129 => 85 | 317 => 84 | 318 => 86 | 319 => 87 | 320 => 88 | 337 => 93 | 338 => 94 | n => n, fun | 3 => 3 | 9 => 9 | 2 => 2 | 4 => 4 | 171 => 88 | 0 => 0 | 53 => 89 | 37 => 60 | 5 => 5 | 173 => 92 | 212 => 106 | 51 => 107 | 20 => 20 | 213 => 108 | 46 => 98 | 232 => 122 | 233 => 123 | n => n, fun | 17 => 3 | 18 => 6 | 19 => 7 | n => n⟩
theorem laysM171 : Go.Proofs.LaysM.n171 Tryd.prog laysM171_ren := {
  mixed := by kernel_rfl
  f129 := Tryd.func85.trans (congrArg some (by kernel_rfl))
  f171 := Tryd.func43.trans (congrArg some (by kernel_rfl))
  f243 := Tryd.func49.trans (congrArg some (by kernel_rfl))
  f246 := Tryd.func58.trans (congrArg some (by kernel_rfl))
  f283 := Tryd.func70.trans (congrArg some (by kernel_rfl))
  f284 := Tryd.func71.trans (congrArg some (by kernel_rfl))
  f285 := Tryd.func72.trans (congrArg some (by kernel_rfl))
  f286 := Tryd.func73.trans (congrArg some (by kernel_rfl))
  f317 := Tryd.func84.trans (congrArg some (by kernel_rfl))
  f318 := Tryd.func86.trans (congrArg some (by kernel_rfl))
  f319 := Tryd.func87.trans (congrArg some (by kernel_rfl))
  f320 := Tryd.func88.trans (congrArg some (by kernel_rfl))
  f337 := Tryd.func93.trans (congrArg some (by kernel_rfl))
  f338 := Tryd.func94.trans (congrArg some (by kernel_rfl))
  t0 := Tryd.underlying0
  a0 := Tryd.isAgg0
  z0 := Tryd.sizeOf0
  v0 := Tryd.zeroValue0
  t2 := Tryd.underlying2
  a2 := Tryd.isAgg2
  z2 := Tryd.sizeOf2
  v2 := Tryd.zeroValue2
  t3 := Tryd.underlying3
  a3 := Tryd.isAgg3
  z3 := Tryd.sizeOf3
  v3 := Tryd.zeroValue3
  t4 := Tryd.underlying4
  a4 := Tryd.isAgg4
  z4 := Tryd.sizeOf4
  v4 := Tryd.zeroValue4
  t5 := Tryd.underlying5
  a5 := Tryd.isAgg5
  z5 := Tryd.sizeOf5
  v5 := Tryd.zeroValue5
  t9 := Tryd.underlying9
  a9 := Tryd.isAgg9
  z9 := Tryd.sizeOf9
  v9 := Tryd.zeroValue9
  t20 := Tryd.underlying20
  a20 := Tryd.isAgg20
  z20 := Tryd.sizeOf20
  v20 := Tryd.zeroValue20
  t37 := Tryd.underlying60
  a37 := Tryd.isAgg60
  z37 := Tryd.sizeOf60
  v37 := Tryd.zeroValue60
  t46 := Tryd.underlying98
  a46 := Tryd.isAgg98
  z46 := Tryd.sizeOf98
  v46 := Tryd.zeroValue98
  t51 := Tryd.underlying107
  a51 := Tryd.isAgg107
  z51 := Tryd.sizeOf107
  v51 := Tryd.zeroValue107
  t53 := Tryd.underlying89
  a53 := Tryd.isAgg89
  z53 := Tryd.sizeOf89
  v53 := Tryd.zeroValue89
  t171 := Tryd.underlying88
  a171 := Tryd.isAgg88
  z171 := Tryd.sizeOf88
  v171 := Tryd.zeroValue88
  t173 := Tryd.underlying92
  a173 := Tryd.isAgg92
  z173 := Tryd.sizeOf92
  v173 := Tryd.zeroValue92
  t212 := Tryd.underlying106
  a212 := Tryd.isAgg106
  z212 := Tryd.sizeOf106
  v212 := Tryd.zeroValue106
  t213 := Tryd.underlying108
  a213 := Tryd.isAgg108
  z213 := Tryd.sizeOf108
  t232 := Tryd.underlying122
  a232 := Tryd.isAgg122
  z232 := Tryd.sizeOf122
  v232 := Tryd.zeroValue122
  t233 := Tryd.underlying123
  a233 := Tryd.isAgg123
  z233 := Tryd.sizeOf123
  v233 := Tryd.zeroValue123
  g17 := by kernel_rfl
  g18 := by kernel_rfl
  g19 := by kernel_rfl
  i0 := by kernel_rfl
  i2 := by kernel_rfl
  i3 := by kernel_rfl
  i4 := by kernel_rfl
  i5 := by kernel_rfl
  i9 := by kernel_rfl
  i20 := by kernel_rfl
  i37 := by kernel_rfl
  i46 := by kernel_rfl
  i51 := by kernel_rfl
  i53 := by kernel_rfl
  i171 := by kernel_rfl
  i173 := by kernel_rfl
  i212 := by kernel_rfl
  i232 := by kernel_rfl
  i233 := by kernel_rfl
  m17 := by kernel_rfl
  m18 := by kernel_rfl
  m19 := by kernel_rfl }
open Go.RowKit Go.Sort Go.Lib in
theorem shItoaT (n : Int) (h0 : -9223372036854775808 ≤ n) (h1 : n ≤ 9223372036854775807) (w : World) (htab : Lib.TabIs Tryd.prog w "internal/strconv.uint64pow10" .u64 Lib.pow10Tab) :
    Calls Tryd.prog 43 #[.int .i64 n] w fun e w' => e = .returned (.string ⟨(Lib.itoa n).toArray⟩) ∧ ∃ k os, w' = grow (w.drewN k) os := Any.strconv_Itoa laysM171 n h0 h1 w htab
def lays146_ren : Go.Shelf.Ren := ⟨fun | 146 => 38 | 221 => 46 | 268 => 53 | 138 => 54 | 143 => 55 | 195 => 61 | 197 => 62 | 218 => 63 | 219 => 64 | 260 => 76 | 217 => 77 | 225 => 78 | 224 => 79 | 267 => 80 | 266 => 89 | 314 => 90 | n => n, fun | 9 => 9 | 31 => 41 | 3 => 3 | 4 => 4 | 0 => 0 | 105 => 79 | 21 => 21 | 5 => 5 | 46 => 98 | 119 => 111 | 139 => 114 | 138 => 113 | 146 => 115 | 51 => 107 | n => n, fun | 1 => 0 | 3 => 4 | 4 => 5 | n => n⟩
theorem lays146 : Go.Proofs.Lays.n146 Tryd.prog lays146_ren := {
  mixed := by kernel_rfl
  f138 := Tryd.func54.trans (congrArg some (by kernel_rfl))
  f143 := Tryd.func55.trans (congrArg some (by kernel_rfl))
  f146 := Tryd.func38.trans (congrArg some (by kernel_rfl))
  f195 := Tryd.func61.trans (congrArg some (by kernel_rfl))
  f197 := Tryd.func62.trans (congrArg some (by kernel_rfl))
  f217 := Tryd.func77.trans (congrArg some (by kernel_rfl))
  f218 := Tryd.func63.trans (congrArg some (by kernel_rfl))
  f219 := Tryd.func64.trans (congrArg some (by kernel_rfl))
  f221 := Tryd.func46.trans (congrArg some (by kernel_rfl))
  f224 := Tryd.func79.trans (congrArg some (by kernel_rfl))
  f225 := Tryd.func78.trans (congrArg some (by kernel_rfl))
  f260 := Tryd.func76.trans (congrArg some (by kernel_rfl))
  f266 := Tryd.func89.trans (congrArg some (by kernel_rfl))
  f267 := Tryd.func80.trans (congrArg some (by kernel_rfl))
  f268 := Tryd.func53.trans (congrArg some (by kernel_rfl))
  f314 := Tryd.func90.trans (congrArg some (by kernel_rfl))
  t0 := Tryd.underlying0
  a0 := Tryd.isAgg0
  z0 := Tryd.sizeOf0
  v0 := Tryd.zeroValue0
  t3 := Tryd.underlying3
  a3 := Tryd.isAgg3
  z3 := Tryd.sizeOf3
  v3 := Tryd.zeroValue3
  t4 := Tryd.underlying4
  a4 := Tryd.isAgg4
  z4 := Tryd.sizeOf4
  v4 := Tryd.zeroValue4
  t5 := Tryd.underlying5
  a5 := Tryd.isAgg5
  z5 := Tryd.sizeOf5
  v5 := Tryd.zeroValue5
  t9 := Tryd.underlying9
  a9 := Tryd.isAgg9
  z9 := Tryd.sizeOf9
  v9 := Tryd.zeroValue9
  t21 := Tryd.underlying21
  a21 := Tryd.isAgg21
  z21 := Tryd.sizeOf21
  v21 := Tryd.zeroValue21
  t31 := Tryd.underlying41
  a31 := Tryd.isAgg41
  z31 := Tryd.sizeOf41
  v31 := Tryd.zeroValue41
  t46 := Tryd.underlying98
  a46 := Tryd.isAgg98
  z46 := Tryd.sizeOf98
  v46 := Tryd.zeroValue98
  t51 := Tryd.underlying107
  a51 := Tryd.isAgg107
  z51 := Tryd.sizeOf107
  v51 := Tryd.zeroValue107
  t105 := Tryd.underlying79
  a105 := Tryd.isAgg79
  z105 := Tryd.sizeOf79
  v105 := Tryd.zeroValue79
  t119 := Tryd.underlying111
  a119 := Tryd.isAgg111
  z119 := Tryd.sizeOf111
  t138 := Tryd.underlying113
  a138 := Tryd.isAgg113
  z138 := Tryd.sizeOf113
  v138 := Tryd.zeroValue113
  t139 := Tryd.underlying114
  a139 := Tryd.isAgg114
  z139 := Tryd.sizeOf114
  v139 := Tryd.zeroValue114
  t146 := Tryd.underlying115
  a146 := Tryd.isAgg115
  z146 := Tryd.sizeOf115
  v146 := Tryd.zeroValue115
  g1 := by kernel_rfl
  g3 := by kernel_rfl
  g4 := by kernel_rfl }
open Go.RowKit Go.Lib in
theorem shSplit (s sep : ByteArray) (m : Int) (w : World) (hs : s.size < 4294967281) (hm : w.cell? ⟨0, 0, none⟩ = some (.int .i64 m)) (h1 : 1 ≤ sep.size) :
    Calls Tryd.prog 38 #[.string s, .string sep] w fun e w' =>
      e = .returned (.slice (some ⟨w.heap.size, 0, none⟩) (Lib.countB s sep + 1) (Lib.countB s sep + 1)) ∧ w' = w.alloc (.cells ((Lib.splitB sep 0 (Lib.countB s sep) s).map Value.string).toArray 9) := Any.strings_Split lays146 (by kernel_rfl) s sep m w hs hm h1
def laysC172_ren : Go.Shelf.Ren := ⟨fun | 172 => 47 | 244 => 56 | 245 => 57 | 247 => 65 | 279 => 66 | 280 => 67 | 281 => 68 | 282 => 69 | 287 => 81 | 316 => 82 | 171 => 43 | 205 => 83 | 321 => 91 | 322 => 92 | 243 => 49 | 246 => 58 | 283 => 70 | 284 => 71 | 285 => 72 | 286 => 73 | 129 => 85 | 317 => 84 | 318 => 86 | 319 => 87 | 320 => 88 | 337 => 93 | 338 => 94 | n => n, fun | 9 => 9 | 3 => 3 | 75 => 65 | 76 => 66 | 4 => 4 | 5 => 5 | 167 => 82 | 37 => 60 | 0 => 0 | 85 => 83 | 2 => 2 | 168 => 85 | 53 => 89 | 175 => 99 | 46 => 98 | 210 => 103 | 127 => 78 | 145 => 120 | 143 => 118 | 21 => 21 | 171 => 88 | 173 => 92 | 212 => 106 | 51 => 107 | 20 => 20 | 213 => 108 | 232 => 122 | 233 => 123 | 80 => 73 | n => n, fun | 15 => 1 | 16 => 2 | 17 => 3 | 18 => 6 | 19 => 7 | n => n⟩
theorem laysC172 : Go.Proofs.LaysC.n172 Tryd.prog laysC172_ren := {
  mixed := by kernel_rfl
  f129 := Tryd.func85.trans (congrArg some (by kernel_rfl))
  f171 := Tryd.func43.trans (congrArg some (by kernel_rfl))
  f172 := Tryd.func47.trans (congrArg some (by kernel_rfl))
  f205 := Tryd.func83.trans (congrArg some (by kernel_rfl))
  f243 := Tryd.func49.trans (congrArg some (by kernel_rfl))
  f244 := Tryd.func56.trans (congrArg some (by kernel_rfl))
  f245 := Tryd.func57.trans (congrArg some (by kernel_rfl))
  f246 := Tryd.func58.trans (congrArg some (by kernel_rfl))
  f247 := Tryd.func65.trans (congrArg some (by kernel_rfl))
  f279 := Tryd.func66.trans (congrArg some (by kernel_rfl))
  f280 := Tryd.func67.trans (congrArg some (by kernel_rfl))
  f281 := Tryd.func68.trans (congrArg some (by kernel_rfl))
  f282 := Tryd.func69.trans (congrArg some (by kernel_rfl))
  f283 := Tryd.func70.trans (congrArg some (by kernel_rfl))
  f284 := Tryd.func71.trans (congrArg some (by kernel_rfl))
  f285 := Tryd.func72.trans (congrArg some (by kernel_rfl))
  f286 := Tryd.func73.trans (congrArg some (by kernel_rfl))
  f287 := Tryd.func81.trans (congrArg some (by kernel_rfl))
  f316 := Tryd.func82.trans (congrArg some (by kernel_rfl))
  f317 := Tryd.func84.trans (congrArg some (by kernel_rfl))
  f318 := Tryd.func86.trans (congrArg some (by kernel_rfl))
  f319 := Tryd.func87.trans (congrArg some (by kernel_rfl))
  f320 := Tryd.func88.trans (congrArg some (by kernel_rfl))
  f321 := Tryd.func91.trans (congrArg some (by kernel_rfl))
  f322 := Tryd.func92.trans (congrArg some (by kernel_rfl))
  f337 := Tryd.func93.trans (congrArg some (by kernel_rfl))
  f338 := Tryd.func94.trans (congrArg some (by kernel_rfl))
  t0 := Tryd.underlying0
  a0 := Tryd.isAgg0
  z0 := Tryd.sizeOf0
  v0 := Tryd.zeroValue0
  t2 := Tryd.underlying2
  a2 := Tryd.isAgg2
  z2 := Tryd.sizeOf2
  v2 := Tryd.zeroValue2
  t3 := Tryd.underlying3
  a3 := Tryd.isAgg3
  z3 := Tryd.sizeOf3
  v3 := Tryd.zeroValue3
  t4 := Tryd.underlying4
  a4 := Tryd.isAgg4
  z4 := Tryd.sizeOf4
  v4 := Tryd.zeroValue4
  t5 := Tryd.underlying5
  a5 := Tryd.isAgg5
  z5 := Tryd.sizeOf5
  v5 := Tryd.zeroValue5
  t9 := Tryd.underlying9
  a9 := Tryd.isAgg9
  z9 := Tryd.sizeOf9
  v9 := Tryd.zeroValue9
  t20 := Tryd.underlying20
  a20 := Tryd.isAgg20
  z20 := Tryd.sizeOf20
  v20 := Tryd.zeroValue20
  t21 := Tryd.underlying21
  a21 := Tryd.isAgg21
  z21 := Tryd.sizeOf21
  v21 := Tryd.zeroValue21
  t37 := Tryd.underlying60
  a37 := Tryd.isAgg60
  z37 := Tryd.sizeOf60
  v37 := Tryd.zeroValue60
  t46 := Tryd.underlying98
  a46 := Tryd.isAgg98
  z46 := Tryd.sizeOf98
  v46 := Tryd.zeroValue98
  t51 := Tryd.underlying107
  a51 := Tryd.isAgg107
  z51 := Tryd.sizeOf107
  v51 := Tryd.zeroValue107
  t53 := Tryd.underlying89
  a53 := Tryd.isAgg89
  z53 := Tryd.sizeOf89
  v53 := Tryd.zeroValue89
  t75 := Tryd.underlying65
  a75 := Tryd.isAgg65
  z75 := Tryd.sizeOf65
  v75 := Tryd.zeroValue65
  t76 := Tryd.underlying66
  a76 := Tryd.isAgg66
  z76 := Tryd.sizeOf66
  v76 := Tryd.zeroValue66
  t85 := Tryd.underlying83
  a85 := Tryd.isAgg83
  z85 := Tryd.sizeOf83
  v85 := Tryd.zeroValue83
  t127 := Tryd.underlying78
  a127 := Tryd.isAgg78
  z127 := Tryd.sizeOf78
  v127 := Tryd.zeroValue78
  t143 := Tryd.underlying118
  a143 := Tryd.isAgg118
  z143 := Tryd.sizeOf118
  v143 := Tryd.zeroValue118
  t145 := Tryd.underlying120
  a145 := Tryd.isAgg120
  z145 := Tryd.sizeOf120
  v145 := Tryd.zeroValue120
  t167 := Tryd.underlying82
  a167 := Tryd.isAgg82
  z167 := Tryd.sizeOf82
  v167 := Tryd.zeroValue82
  t168 := Tryd.underlying85
  a168 := Tryd.isAgg85
  z168 := Tryd.sizeOf85
  v168 := Tryd.zeroValue85
  t171 := Tryd.underlying88
  a171 := Tryd.isAgg88
  z171 := Tryd.sizeOf88
  v171 := Tryd.zeroValue88
  t173 := Tryd.underlying92
  a173 := Tryd.isAgg92
  z173 := Tryd.sizeOf92
  v173 := Tryd.zeroValue92
  t175 := Tryd.underlying99
  a175 := Tryd.isAgg99
  z175 := Tryd.sizeOf99
  v175 := Tryd.zeroValue99
  t210 := Tryd.underlying103
  a210 := Tryd.isAgg103
  z210 := Tryd.sizeOf103
  v210 := Tryd.zeroValue103
  t212 := Tryd.underlying106
  a212 := Tryd.isAgg106
  z212 := Tryd.sizeOf106
  v212 := Tryd.zeroValue106
  t213 := Tryd.underlying108
  a213 := Tryd.isAgg108
  z213 := Tryd.sizeOf108
  t232 := Tryd.underlying122
  a232 := Tryd.isAgg122
  z232 := Tryd.sizeOf122
  v232 := Tryd.zeroValue122
  t233 := Tryd.underlying123
  a233 := Tryd.isAgg123
  z233 := Tryd.sizeOf123
  v233 := Tryd.zeroValue123
  g15 := by kernel_rfl
  g16 := by kernel_rfl
  g17 := by kernel_rfl
  g18 := by kernel_rfl
  g19 := by kernel_rfl
  t80 := Tryd.underlying73
  a80 := Tryd.isAgg73
  z80 := Tryd.sizeOf73
  v80 := Tryd.zeroValue73
  i0 := by kernel_rfl
  i2 := by kernel_rfl
  i3 := by kernel_rfl
  i4 := by kernel_rfl
  i5 := by kernel_rfl
  i9 := by kernel_rfl
  i20 := by kernel_rfl
  i21 := by kernel_rfl
  i37 := by kernel_rfl
  i46 := by kernel_rfl
  i51 := by kernel_rfl
  i53 := by kernel_rfl
  i75 := by kernel_rfl
  i76 := by kernel_rfl
  i80 := by kernel_rfl
  i85 := by kernel_rfl
  i127 := by kernel_rfl
  i143 := by kernel_rfl
  i145 := by kernel_rfl
  i167 := by kernel_rfl
  i168 := by kernel_rfl
  i171 := by kernel_rfl
  i173 := by kernel_rfl
  i175 := by kernel_rfl
  i210 := by kernel_rfl
  i212 := by kernel_rfl
  i232 := by kernel_rfl
  i233 := by kernel_rfl
  m15 := by kernel_rfl
  m16 := by kernel_rfl
  m17 := by kernel_rfl
  m18 := by kernel_rfl
  m19 := by kernel_rfl
  c0 := by kernel_rfl
  c2 := by kernel_rfl
  c3 := by kernel_rfl
  c4 := by kernel_rfl
  c5 := by kernel_rfl
  c9 := by kernel_rfl
  c20 := by kernel_rfl
  c21 := by kernel_rfl
  c37 := by kernel_rfl
  c46 := by kernel_rfl
  c51 := by kernel_rfl
  c53 := by kernel_rfl
  c75 := by kernel_rfl
  c76 := by kernel_rfl
  c80 := by kernel_rfl
  c85 := by kernel_rfl
  c127 := by kernel_rfl
  c143 := by kernel_rfl
  c145 := by kernel_rfl
  c167 := by kernel_rfl
  c168 := by kernel_rfl
  c171 := by kernel_rfl
  c173 := by kernel_rfl
  c175 := by kernel_rfl
  c210 := by kernel_rfl
  c212 := by kernel_rfl
  c213 := by kernel_rfl
  c232 := by kernel_rfl
  c233 := by kernel_rfl }
end
section
open Go.Shelf Go.RowKit Go.Proofs Go.Lib
theorem shAtoiOk (s : ByteArray) (hmax : s.size ≤ 9223372036854775806) (v : Int) (h : Lib.atoiAll s.data.toList = .ok v) (w : World) :
    Calls Tryd.prog 47 #[.string s] w fun e w' => e = .returned (.tuple #[.int .i64 v, .nilIface]) ∧ Below w.heap.size w w' :=
  (Any.strconv_Atoi_ok laysC172 s hmax v h w).mono fun e w' ⟨he, hw⟩ => ⟨he, by
    rcases hw with rfl | ⟨t, rfl⟩
    · exact Below.refl _ _
    · exact Lib.bytesWorld_below _ _ _⟩
theorem shAtoiBad (s : ByteArray) (hlim : s.size ≤ 281474976710656) (h : ∀ v, Lib.atoiAll s.data.toList ≠ .ok v) (e1 e2 : Value) (w : World) (hv1 : w.cell? ⟨1, 0, none⟩ = some e1) (he1 : ∃ te pe, e1 = .iface te pe) (hv2 : w.cell? ⟨2, 0, none⟩ = some e2) (he2 : ∃ te pe, e2 = .iface te pe) :
    Calls Tryd.prog 47 #[.string s] w fun e w' => (∃ n te pe, e = .returned (.tuple #[.int .i64 n, .iface te pe])) ∧ Below w.heap.size w w' := by
  cases hr : Lib.atoiAll s.data.toList with
  | ok v => exact absurd hr (h v)
  | «syntax» => exact (Any.strconv_Atoi_syntax laysC172 s hlim hr e1 w hv1 (.inr he1)).mono fun e w' ⟨N, he, _, _, hb⟩ => ⟨⟨_, _, _, he⟩, hb⟩
  | range => exact (Any.strconv_Atoi_range laysC172 s hlim hr e2 w hv2 (.inr he2)).mono fun e w' ⟨N, he, _, _, hb⟩ => ⟨⟨_, _, _, he⟩, hb⟩
theorem shItoa10 (n : Int) (h0 : -9223372036854775808 ≤ n) (h1 : n ≤ 9223372036854775807) (w : World) (htab : Lib.TabIs Tryd.prog w "internal/strconv.uint64pow10" .u64 Lib.pow10Tab) :
    Calls Tryd.prog 43 #[.int .i64 n] w fun e w' => e = .returned (.string ⟨(Lib.itoa n).toArray⟩) ∧ Below w.heap.size w w' :=
  (shItoaT n h0 h1 w htab).mono fun e w' ⟨he, k, os, hw⟩ => ⟨he, by rw [hw]; exact Lib.below_grow _ _ (Nat.le_refl _) _ _⟩
def rdI (s : ByteArray) : Option Int :=
  match Lib.atoiAll s.data.toList with
  | .ok n => if s.size ≤ 10 ∧ (⟨(Lib.itoa n).toArray⟩ : ByteArray) = s then some n else none
  | _ => none
end
end Go.Proofs.YtedgfiikaedeoaaDoor.X
set_option maxHeartbeats 4000000
set_option maxRecDepth 100000
set_option linter.unusedVariables false
set_option linter.unusedSimpArgs false
open Nat renaming reduceBEq → N1, reduceAdd → N2, reduceSub → N3, reduceMul → N4, reduceEqDiff → N5, reduceLeDiff → N6, reduceLT → N7
open Int renaming reduceLE → I1, reduceLT → I2, reduceToNat → I3
namespace Go.Proofs.YtedgfiikaedeoaaDoor.X
open Go
section
open Go.Shelf Go.RowKit Go.Proofs Go.Lib
theorem rdI_walk (s : ByteArray) (hlim : s.size ≤ 281474976710656) (e1 e2 : Value) (w : World) (hv1 : w.cell? ⟨1, 0, none⟩ = some e1) (he1 : ∃ te pe, e1 = .iface te pe) (hv2 : w.cell? ⟨2, 0, none⟩ = some e2) (he2 : ∃ te pe, e2 = .iface te pe)
    (htab : Lib.TabIs Tryd.prog w "internal/strconv.uint64pow10" .u64 Lib.pow10Tab) (h3 : ∃ g, Tryd.prog.globalNamed "internal/strconv.uint64pow10" = some g ∧ g < w.heap.size) :
    Calls Tryd.prog 39 #[.string s] w fun e w' => e = .returned (.tuple #[.int .i64 ((rdI s).getD 0), .bool (rdI s).isSome]) ∧ Below w.heap.size w w' := by
  by_cases hb : ∀ v, Lib.atoiAll s.data.toList ≠ .ok v
  · have hr : rdI s = none := by
      unfold rdI
      cases h : Lib.atoiAll s.data.toList with
      | ok v => exact absurd h (hb v)
      | «syntax» => rfl
      | range => rfl
    rw [hr]
    go_enter Tryd.func39, Tryd.ntmps39
    go_wp2_with (go_at_call 47; refine (shAtoiBad s hlim hb e1 e2 _ hv1 he1 hv2 he2).mono ?_)
    rintro e W1 ⟨⟨n, te, pe, rfl⟩, hw⟩
    go_wp2
    go_ret2
    exact ⟨rfl, hw⟩
  · obtain ⟨v, hv⟩ : ∃ v, Lib.atoiAll s.data.toList = .ok v := by simpa using hb
    obtain ⟨b0, b1⟩ := Lib.atoiAll_bounds hv
    obtain ⟨g, hg, hgl⟩ := h3
    by_cases hz : ((s.size : Nat) : Int) ≤ 10
    · go_enter Tryd.func39, Tryd.ntmps39
      go_wp2_with (go_at_call 47; refine (shAtoiOk s (by omega) v hv _).mono ?_)
      rintro e W1 ⟨rfl, hw⟩
      have ht1 : Lib.TabIs Tryd.prog W1 "internal/strconv.uint64pow10" .u64 Lib.pow10Tab := var?_below hw hg hgl htab
      go_wp2_with (go_at_call 43; refine (shItoa10 v b0 b1 _ ht1).mono ?_)
      rintro e W2 ⟨rfl, hw2⟩
      have hz2 : ¬ (10 : Int) < ((s.size : Nat) : Int) := by omega
      have hz3 : s.size ≤ 10 := by omega
      have e : (Lib.itoa v == s.toList) = decide ((⟨(Lib.itoa v).toArray⟩ : ByteArray) = s) := by
        rw [← str_eq]; simp
      go_wp2
      all_goals go_ret2
      · rename_i hc
        have hr : rdI s = none := by
          unfold rdI
          rw [hv]
          simp only
          rw [if_neg (fun h => ?_)]
          rcases hc with hc | hc
          · omega
          · rw [decide_eq_true h.2] at hc; cases hc
        rw [hr]
        exact ⟨rfl, hw.trans (hw2.mono hw.size)⟩
      · rename_i hc
        have hq : (⟨(Lib.itoa v).toArray⟩ : ByteArray) = s := by
          simpa using hc.2
        have hr : rdI s = some v := by
          unfold rdI
          rw [hv]
          simp only
          rw [if_pos ⟨hz3, hq⟩]
        rw [hr]
        exact ⟨rfl, hw.trans (hw2.mono hw.size)⟩
    · have hr : rdI s = none := by
        unfold rdI
        rw [hv]
        simp only
        rw [if_neg (fun h => hz (by omega))]
      rw [hr]
      have hz4 : 11 ≤ s.size := by omega
      clear hz hr
      go_enter Tryd.func39, Tryd.ntmps39
      go_wp2_with (go_at_call 47; refine (shAtoiOk s (by omega) v hv _).mono ?_)
      rintro e W1 ⟨rfl, hw⟩
      go_wp2_with (go_at_call 43; exfalso; omega)
      all_goals go_wp2
      all_goals go_ret2
      all_goals exact ⟨rfl, hw⟩
end
end Go.Proofs.YtedgfiikaedeoaaDoor.X
set_option linter.unusedVariables false
set_option linter.unusedSimpArgs false
open Nat renaming reduceBEq → N1, reduceAdd → N2, reduceSub → N3, reduceMul → N4, reduceEqDiff → N5, reduceLeDiff → N6, reduceLT → N7
open Int renaming reduceLE → I1, reduceLT → I2, reduceToNat → I3
namespace Go.Proofs.YtedgfiikaedeoaaDoor.X
open Go
section
open Go.Shelf Go.Proofs
def lays156_ren : Go.Shelf.Ren := ⟨fun | 156 => 44 | 165 => 50 | 166 => 51 | 169 => 52 | 240 => 59 | 241 => 60 | 276 => 74 | 277 => 75 | n => n, fun | 31 => 41 | 9 => 9 | 3 => 3 | 4 => 4 | 0 => 0 | 20 => 20 | 72 => 71 | 76 => 66 | 70 => 69 | 37 => 60 | 75 => 65 | 127 => 78 | 164 => 94 | 5 => 5 | 80 => 73 | n => n, fun | n => n⟩
theorem lays156 : Go.Proofs.Lays.n156 Tryd.prog lays156_ren := {
  mixed := by kernel_rfl
  f156 := Tryd.func44.trans (congrArg some (by kernel_rfl))
  f165 := Tryd.func50.trans (congrArg some (by kernel_rfl))
  f166 := Tryd.func51.trans (congrArg some (by kernel_rfl))
  f169 := Tryd.func52.trans (congrArg some (by kernel_rfl))
  f240 := Tryd.func59.trans (congrArg some (by kernel_rfl))
  f241 := Tryd.func60.trans (congrArg some (by kernel_rfl))
  f276 := Tryd.func74.trans (congrArg some (by kernel_rfl))
  f277 := Tryd.func75.trans (congrArg some (by kernel_rfl))
  t0 := Tryd.underlying0
  a0 := Tryd.isAgg0
  z0 := Tryd.sizeOf0
  v0 := Tryd.zeroValue0
  t3 := Tryd.underlying3
  a3 := Tryd.isAgg3
  z3 := Tryd.sizeOf3
  v3 := Tryd.zeroValue3
  t4 := Tryd.underlying4
  a4 := Tryd.isAgg4
  z4 := Tryd.sizeOf4
  v4 := Tryd.zeroValue4
  t9 := Tryd.underlying9
  a9 := Tryd.isAgg9
  z9 := Tryd.sizeOf9
  v9 := Tryd.zeroValue9
  t20 := Tryd.underlying20
  a20 := Tryd.isAgg20
  z20 := Tryd.sizeOf20
  v20 := Tryd.zeroValue20
  t31 := Tryd.underlying41
  a31 := Tryd.isAgg41
  z31 := Tryd.sizeOf41
  v31 := Tryd.zeroValue41
  t37 := Tryd.underlying60
  a37 := Tryd.isAgg60
  z37 := Tryd.sizeOf60
  v37 := Tryd.zeroValue60
  t70 := Tryd.underlying69
  a70 := Tryd.isAgg69
  z70 := Tryd.sizeOf69
  v70 := Tryd.zeroValue69
  t72 := Tryd.underlying71
  a72 := Tryd.isAgg71
  z72 := Tryd.sizeOf71
  v72 := Tryd.zeroValue71
  t75 := Tryd.underlying65
  a75 := Tryd.isAgg65
  z75 := Tryd.sizeOf65
  v75 := Tryd.zeroValue65
  t76 := Tryd.underlying66
  a76 := Tryd.isAgg66
  z76 := Tryd.sizeOf66
  v76 := Tryd.zeroValue66
  t127 := Tryd.underlying78
  a127 := Tryd.isAgg78
  z127 := Tryd.sizeOf78
  v127 := Tryd.zeroValue78
  t164 := Tryd.underlying94
  a164 := Tryd.isAgg94
  z164 := Tryd.sizeOf94
  v164 := Tryd.zeroValue94 }
theorem builderX : Builder.Extra Tryd.prog lays156_ren := {
  sizeBuilder := by kernel_rfl
  liesBuilder := by kernel_rfl
  t5 := Tryd.underlying5
  a5 := Tryd.isAgg5
  z5 := Tryd.sizeOf5
  v5 := Tryd.zeroValue5
  infoByte := by kernel_rfl
  cellsByte := by kernel_rfl
  sizeByte := by kernel_rfl
  neB5 := by decide }
open Go.RowKit in
theorem shJoin0 (a : Option Addr) (c : Nat) (sep : ByteArray) (w : World) :
    Calls Tryd.prog 44 #[.slice a 0 c, .string sep] w fun e w' => e = .returned (.string ⟨#[]⟩) ∧ w' = w := Any.strings_Join_none lays156 builderX a c sep w
open Go.RowKit in
theorem shJoin (bk o c : Nat) (xs : List ByteArray) (sep : ByteArray) (w : World) (hcells : ∀ (j : Nat) x, xs[j]? = some x → w.cell? ⟨bk, o + j, none⟩ = some (.string x)) (hbk : bk < w.heap.size) (hN : xs.length ≤ 140737488355328) (hcap : xs.length ≤ c) (hlen : (Lib.join (xs.map (·.data.toList)) sep.data.toList).length ≤ 140737488355328) :
    Calls Tryd.prog 44 #[.slice (some ⟨bk, o, none⟩) xs.length c, .string sep] w fun e w' => e = .returned (.string ⟨(Lib.join (xs.map (·.data.toList)) sep.data.toList).toArray⟩) ∧ Below w.heap.size w w' := Any.strings_Join lays156 builderX bk o c xs sep w hcells hbk hN hcap hlen
def lays171_ren : Go.Shelf.Ren := ⟨fun | 171 => 43 | 243 => 49 | 246 => 58 | 283 => 70 | 284 => 71 | 285 => 72 | 286 => 73 | 129 => 85 | 317 => 84 | 318 => 86 | 319 => 87 | 320 => 88 | 337 => 93 | 338 => 94 | n => n, fun | 3 => 3 | 9 => 9 | 2 => 2 | 4 => 4 | 171 => 88 | 0 => 0 | 53 => 89 | 37 => 60 | 5 => 5 | 173 => 92 | 212 => 106 | 51 => 107 | 20 => 20 | 213 => 108 | 46 => 98 | 232 => 122 | 233 => 123 | n => n, fun | 17 => 3 | 18 => 6 | 19 => 7 | n => n⟩
theorem lays171 : Go.Proofs.Lays.n171 Tryd.prog lays171_ren := {
  mixed := by kernel_rfl
  f129 := Tryd.func85.trans (congrArg some (by kernel_rfl))
  f171 := Tryd.func43.trans (congrArg some (by kernel_rfl))
  f243 := Tryd.func49.trans (congrArg some (by kernel_rfl))
  f246 := Tryd.func58.trans (congrArg some (by kernel_rfl))
  f283 := Tryd.func70.trans (congrArg some (by kernel_rfl))
  f284 := Tryd.func71.trans (congrArg some (by kernel_rfl))
  f285 := Tryd.func72.trans (congrArg some (by kernel_rfl))
  f286 := Tryd.func73.trans (congrArg some (by kernel_rfl))
  f317 := Tryd.func84.trans (congrArg some (by kernel_rfl))
  f318 := Tryd.func86.trans (congrArg some (by kernel_rfl))
  f319 := Tryd.func87.trans (congrArg some (by kernel_rfl))
  f320 := Tryd.func88.trans (congrArg some (by kernel_rfl))
  f337 := Tryd.func93.trans (congrArg some (by kernel_rfl))
  f338 := Tryd.func94.trans (congrArg some (by kernel_rfl))
  t0 := Tryd.underlying0
  a0 := Tryd.isAgg0
  z0 := Tryd.sizeOf0
  v0 := Tryd.zeroValue0
  t2 := Tryd.underlying2
  a2 := Tryd.isAgg2
  z2 := Tryd.sizeOf2
  v2 := Tryd.zeroValue2
  t3 := Tryd.underlying3
  a3 := Tryd.isAgg3
  z3 := Tryd.sizeOf3
  v3 := Tryd.zeroValue3
  t4 := Tryd.underlying4
  a4 := Tryd.isAgg4
  z4 := Tryd.sizeOf4
  v4 := Tryd.zeroValue4
  t5 := Tryd.underlying5
  a5 := Tryd.isAgg5
  z5 := Tryd.sizeOf5
  v5 := Tryd.zeroValue5
  t9 := Tryd.underlying9
  a9 := Tryd.isAgg9
  z9 := Tryd.sizeOf9
  v9 := Tryd.zeroValue9
  t20 := Tryd.underlying20
  a20 := Tryd.isAgg20
  z20 := Tryd.sizeOf20
  v20 := Tryd.zeroValue20
  t37 := Tryd.underlying60
  a37 := Tryd.isAgg60
  z37 := Tryd.sizeOf60
  v37 := Tryd.zeroValue60
  t46 := Tryd.underlying98
  a46 := Tryd.isAgg98
  z46 := Tryd.sizeOf98
  v46 := Tryd.zeroValue98
  t51 := Tryd.underlying107
  a51 := Tryd.isAgg107
  z51 := Tryd.sizeOf107
  v51 := Tryd.zeroValue107
  t53 := Tryd.underlying89
  a53 := Tryd.isAgg89
  z53 := Tryd.sizeOf89
  v53 := Tryd.zeroValue89
  t171 := Tryd.underlying88
  a171 := Tryd.isAgg88
  z171 := Tryd.sizeOf88
  v171 := Tryd.zeroValue88
  t173 := Tryd.underlying92
  a173 := Tryd.isAgg92
  z173 := Tryd.sizeOf92
  v173 := Tryd.zeroValue92
  t212 := Tryd.underlying106
  a212 := Tryd.isAgg106
  z212 := Tryd.sizeOf106
  v212 := Tryd.zeroValue106
  t213 := Tryd.underlying108
  a213 := Tryd.isAgg108
  z213 := Tryd.sizeOf108
  t232 := Tryd.underlying122
  a232 := Tryd.isAgg122
  z232 := Tryd.sizeOf122
  v232 := Tryd.zeroValue122
  t233 := Tryd.underlying123
  a233 := Tryd.isAgg123
  z233 := Tryd.sizeOf123
  v233 := Tryd.zeroValue123
  g17 := by kernel_rfl
  g18 := by kernel_rfl
  g19 := by kernel_rfl }
open Go.RowKit Go.Sort Go.Lib in
theorem shItoa (i : Nat) (hi : i < 100) (w : World) :
    Calls Tryd.prog 43 #[.int .i64 i] w fun e w' => e = .returned (.string ⟨(Lib.decDigits i).toArray⟩) ∧ w' = w := Any.strconv_Itoa_small lays171 i hi w
end
section
open Go.RowKit Go.Lib
set_option maxHeartbeats 4000000 in
set_option maxRecDepth 100000 in
theorem grow_walk (n : Nat) (hn : 0 < n) (hb : n ≤ 1000) (w : World) :
    Calls Tryd.prog 45 #[.slice none 0 0, .int .i64 n] w fun e w' =>
      e = .returned (.slice (some ⟨w.heap.size, 0, none⟩) 0 (grownCap w n 0 3)) ∧
      w' = w.drew.alloc (.cells (Builtin.zeroCells (Value.int .i64 0).cells n ++ Builtin.zeroCells (Value.int .i64 0).cells (grownCap w n 0 3 - n)) 3) := by
  have hinf : ∃ i0, Tryd.prog.info? 3 = some i0 ∧ i0.zero = some (.int .i64 0) ∧ i0.size = 1 ∧ i0.bytes = 8 := ⟨_, rfl, rfl, rfl, rfl⟩
  obtain ⟨i0, hi0, hz0, hs0, hb0⟩ := hinf
  have h1 : ¬ ((n : Int) < 0) := by omega
  have h3 : Go.RowKit.wrap64 ((n : Int) - 0) = (n : Int) := by unfold Go.RowKit.wrap64; omega
  have h2 : Go.RowKit.wrap64 (0 - 0) = 0 := by unfold Go.RowKit.wrap64; omega
  have h5 : Go.RowKit.wrap64 (n : Int) = (n : Int) := by unfold Go.RowKit.wrap64; omega
  have h4 : (n : Int) > 0 := by omega
  have hold : (Builtin.firstCells i0.size 0 (.slice none 0 0)).run Tryd.prog w.drew = .ok #[] w.drew := run_firstCells_none w.drew i0.size 0 0 0
  have hrz : ∀ ty, (Builtin.append_ #[44, 3] ty #[.slice none 0 0, .int .i64 (n : Int)]).run Tryd.prog w =
      .ok (.slice (some ⟨w.heap.size, 0, none⟩) n (grownCap w n 0 3)) (w.drew.alloc (.cells (Builtin.zeroCells (Value.int .i64 0).cells n ++ Builtin.zeroCells (Value.int .i64 0).cells (grownCap w n 0 3 - n)) 3)) := fun ty => by
    have h := Lib.run_append_grow_zeros w 44 3 ty 3 i0 (.int .i64 0) .i64 .i64 Tryd.underlying44 Tryd.underlying3 hi0 hz0 none 0 0 [] hold n (by omega) (by omega) (by omega) (by omega) (by rw [hb0]; omega)
      (by rw [Nat.zero_add]; exact growslice_fits (by omega) (by rw [hb0]; omega))
    simpa using h
  have hGn : n ≤ grownCap w n 0 3 := grownCap_ge w _ _ _
  obtain ⟨G, hG⟩ : ∃ G, G = grownCap w n 0 3 := ⟨_, rfl⟩
  rw [← hG] at hrz hGn ⊢
  have hG63 : G ≤ 9223372036854775807 := by
    have := grownCap_le_maxLen w n 0 3 (by unfold maxLen; omega)
    rw [← hG] at this
    unfold maxLen at this
    omega
  clear hG
  go_enter Tryd.func45, Tryd.ntmps45
  go_wp2_with (at_builtin; refine Lib.wpList_append_run _ rfl _ _ _ _ rfl _ _ rfl rfl _ _ (hrz _) ?_)
  all_goals (go_ret; exact ⟨rfl, rfl⟩)
end
end Go.Proofs.YtedgfiikaedeoaaDoor.X
set_option linter.unusedVariables false
open Nat renaming reduceBEq → N1, reduceAdd → N2, reduceSub → N3, reduceMul → N4, reduceEqDiff → N5, reduceLeDiff → N6, reduceLT → N7
open Int renaming reduceLE → I1, reduceLT → I2, reduceToNat → I3
namespace Go.Proofs.YtedgfiikaedeoaaDoor.X
open Go
def dirs : List AV := [.int .i64 1, .int .i64 0, .int .i64 1, .int .i64 (-1), .int .i64 0, .int .i64 (-1), .int .i64 (-1), .int .i64 0, .int .i64 (-1), .int .i64 1, .int .i64 0, .int .i64 1]
def G1 : Glo := fun g => if g = 0 then some dirs else none
theorem ev_dirs {s : St} : ev G1 s (.global 0) = .pf dirs := _root_.id rfl
attribute [push_cast] ev_dirs
end Go.Proofs.YtedgfiikaedeoaaDoor.X
set_option maxHeartbeats 1000000
set_option maxRecDepth 8000
set_option linter.unusedSimpArgs false
set_option linter.unusedSectionVars false
set_option linter.unusedVariables false
open Nat renaming reduceBEq → N1, reduceAdd → N2, reduceSub → N3, reduceMul → N4, reduceEqDiff → N5, reduceLeDiff → N6, reduceLT → N7
open Int renaming reduceLE → I1, reduceLT → I2, reduceToNat → I3
namespace Go.Proofs.YtedgfiikaedeoaaDoor.X
open Go
variable {mx : Int} {ev1 ev2 : Value}
def ints (l : List Int) : List (List AV) := l.map fun n => [.int .i64 n]
theorem own_ints (l : List Int) : ownR (.ow 1 (ints l)) = true := by
  simp only [ownR]
  unfold ints
  induction l with
  | nil => rfl
  | cons x l ih => simp only [List.map_cons, ownRLL, ownRL, ownR, Bool.and_true, Bool.true_and]; exact ih
section
variable {C : CT} (hC : Closed Tryd.prog (Gp mx ev1 ev2) md0 C)
include hC
theorem t37 (a b c : Int) : Ev C 37 [.int .i64 a, .int .i64 b, .int .i64 c] (.bool (decide (b ≤ a) && decide (a ≤ c))) := by
  refine rT hC Q37 ?_
  simp only [c37, push_cast, ↓J1, ↓J2, N1, N2, N3, reduceCtorEq, N4, N5, N6, reduceIte, N7, I1, I2, I3]
  grind [ifB]
theorem t32 (a b c : Int) : Ev C 32 [.int .i64 a, .int .i64 b, .int .i64 c] (.bool (decide (b ≤ a) && decide (a ≤ c))) := by
  refine rT hC Q32 ?_
  simp only [c32, push_cast, ↓J1, ↓J2, N1, N2, N3, reduceCtorEq, N4, N5, N6, reduceIte, N7, I1, I2, I3]
  grind [ifB]
theorem t27 (es : List (List AV)) (v : Int) (hv : -1 ≤ v ∧ v < 2^50) (he : es.length < 2^50) : Ev C 27 [.sl es, .int .i64 v] (.int .i64 (if v < es.length then -1 else v - es.length)) := by
  refine rT hC Q27 ?_
  simp only [c27, push_cast, ↓J1, ↓J2, N1, N2, N3, reduceCtorEq, N4, N5, N6, reduceIte, N7, I1, I2, I3]
  rw [wrap64 (by omega) (by omega)]
  grind [ifB]
theorem t36 (l m : List Int) (hl : l.length < 2^50) (hm : m.length < 2^50) : Ev C 36 [.sl (ints l), .sl (ints m)] (.bool (l == m)) := by
  refine rT hC Q36 ?_
  simp only [c36, ints, List.length_map, push_cast, ↓J1, ↓J2, N1, N2, N3, reduceCtorEq, N4, N5, N6, reduceIte, N7, I1, I2, I3]
  refine ifB_intro (fun h => ?_) (fun h => ?_)
  · have hlm : l.length = m.length := by simp at h; omega
    refine RL_count (fun i => ⟨tb 26 .any [(0, .sl (l.map fun n => [.int .i64 n])), (1, .sl (m.map fun n => [.int .i64 n])), (5, .int .i64 (i : Int))], [], 0⟩) (fun i => l.take i = m.take i) l.length 0 (hdA []) (by omega) rfl fun i hi ht J hJ => ?_
    by_cases h1 : i < l.length
    · have h2 : i < m.length := by omega
      simp only [List.length_map, Int.toNat_natCast, List.getElem?_map, List.getElem?_eq_getElem h1, List.getElem?_eq_getElem h2, push_cast, ↓J1, ↓J2, N1, N2, N3, reduceCtorEq, N4, N5, N6, reduceIte, N7, I1, I2, I3]
      refine ifB_intro (fun _ => ⟨by omega, by omega, ifB_intro (fun h => ?_) (fun h => ?_)⟩) (fun h => by simp at h; omega)
      · refine hJ h1 ?_ _ (hdA [])
        · rw [List.take_succ_eq_append_getElem h1, List.take_succ_eq_append_getElem h2, ht]
          have h' : l[i] = m[i] := by simpa using h
          rw [h']
      · have : ¬ l = m := by rintro rfl; simp at h
        simp [this]
    · simp only [List.length_map, Int.toNat_natCast, List.getElem?_map, push_cast, ↓J1, ↓J2, N1, N2, N3, reduceCtorEq, N4, N5, N6, reduceIte, N7, I1, I2, I3]
      refine ifB_intro (fun h => by simp at h; omega) (fun h => ?_)
      rw [List.take_of_length_le (by omega), List.take_of_length_le (by omega)] at ht
      simp [ht]
  · have : ¬ l = m := by rintro rfl; simp at h
    simp [this]
theorem t30 (l : List Int) (hl : l.length < 2^30) : Ev C 30 [.sl (ints l)] (.ow 1 (ints l)) := by
  refine rT hC Q30 ?_ (own_ints l)
  simp only [c30, ints, List.length_map, push_cast, ↓J1, ↓J2, N1, N2, N3, reduceCtorEq, N4, N5, N6, reduceIte, N7, I1, I2, I3]
  refine ⟨by omega, by omega, by omega, by omega, ?_⟩
  refine RL_count (fun i => ⟨tb 22 .any [(0, .sl (l.map fun n => [.int .i64 n])), (3, .ref 0 none 1 0 l.length), (4, .int .i64 (i : Int))], [(0, .slice 1 ((l.take i).map (fun n => [.int .i64 n]) ++ List.replicate (l.length - i) [.int .i64 0]))], 1⟩) (fun _ => True) l.length 0 (hdA [(0, 0)]) (by omega) trivial fun i hi _ J hJ => ?_
  by_cases h1 : i < l.length
  · rw [show l.length - i = (l.length - (i + 1)) + 1 by omega, List.replicate_succ]
    simp only [List.length_map, Int.toNat_natCast, List.getElem?_map, List.getElem?_eq_getElem h1, mid_get (show ((l.take i).map fun n => [AV.int .i64 n]).length = i by simp; omega), mid_set (show ((l.take i).map fun n => [AV.int .i64 n]).length = i by simp; omega), push_cast, ↓J1, ↓J2, N1, N2, N3, reduceCtorEq, N4, N5, N6, reduceIte, N7, I1, I2, I3]
    refine ifB_intro (fun _ => ⟨by omega, by omega, by omega, ?_⟩) (fun h => by simp at h; omega)
    refine hJ h1 trivial _ (hdA [(0, 0)] (hh := ?_))
    rw [List.take_succ_eq_append_getElem h1, List.map_append, List.append_assoc]
    simp only [canR, canB, renO, renL, ren, lkp, hget, N7, N5, Nat.not_lt_zero, if_false, if_true, reduceIte, List.append_nil, List.nil_append]
    rfl
  · simp only [List.length_map, Int.toNat_natCast, List.getElem?_map, push_cast, ↓J1, ↓J2, N1, N2, N3, reduceCtorEq, N4, N5, N6, reduceIte, N7, I1, I2, I3]
    refine ifB_intro (fun h => by simp at h; omega) (fun h => ?_)
    rw [List.take_of_length_le (by omega), show l.length - i = 0 by omega]
    exact RetTo_ow (by simp [hget]) (by simp)
end
end Go.Proofs.YtedgfiikaedeoaaDoor.X
set_option maxHeartbeats 1000000
set_option maxRecDepth 8000
set_option linter.unusedSimpArgs false
set_option linter.unusedSectionVars false
set_option linter.unusedVariables false
open Nat renaming reduceBEq → N1, reduceAdd → N2, reduceSub → N3, reduceMul → N4, reduceEqDiff → N5, reduceLeDiff → N6, reduceLT → N7
open Int renaming reduceLE → I1, reduceLT → I2, reduceToNat → I3
namespace Go.Proofs.YtedgfiikaedeoaaDoor.X
open Go
variable {mx : Int} {ev1 ev2 : Value}
structure Ln where
  a : Int
  b : Int
  c : Int
  deriving DecidableEq
def lnA (p : Ln) : List AV := [.int .i64 p.a, .int .i64 p.b, .int .i64 p.c]
def lns (l : List Ln) : List (List AV) := l.map lnA
def inR (lo hi n : Int) : Bool := decide (lo ≤ n) && decide (n ≤ hi)
theorem own_lns (l : List Ln) : ownR (.ow 3 (lns l)) = true := by
  simp only [ownR]
  unfold lns
  induction l with
  | nil => rfl
  | cons x l ih => simp only [List.map_cons, lnA, ownRLL, ownRL, ownR, Bool.and_true, Bool.true_and]; exact ih
def fidx (p : Int → Bool) (l : List Int) : Int := if l.findIdx p < l.length then (l.findIdx p : Int) else -1
theorem fidx_at {p : Int → Bool} {l : List Int} {i : Nat} (h : i < l.length) (hp : p l[i] = true) (hn : ∀ j (h : j < l.length), j < i → p l[j] = false) : fidx p l = i := by
  have : l.findIdx p = i := (List.findIdx_eq h).2 ⟨hp, fun j hj => hn j (by omega) hj⟩
  simp [fidx, this, h]
theorem fidx_no {p : Int → Bool} {l : List Int} (hn : ∀ j (h : j < l.length), p l[j] = false) : fidx p l = -1 := by
  have : ¬ l.findIdx p < l.length := fun h => by
    have := hn _ h
    rw [List.findIdx_getElem (w := h)] at this
    cases this
  simp only [fidx, this, if_false]
theorem fidx_any (p : Int → Bool) (l : List Int) : decide (0 ≤ fidx p l) = l.any p := by
  by_cases h : l.findIdx p < l.length
  · have h1 : fidx p l = l.findIdx p := if_pos h
    have h2 : l.any p = true := by
      obtain ⟨x, hx, hp⟩ := List.findIdx_lt_length.1 h
      exact List.any_eq_true.2 ⟨x, hx, hp⟩
    rw [h1, h2]
    exact decide_eq_true (by omega)
  · have h1 : fidx p l = -1 := if_neg h
    have h2 : l.any p = false := by
      rw [List.any_eq_false]
      intro x hx hp
      exact h (List.findIdx_lt_length.2 ⟨x, hx, hp⟩)
    rw [h1, h2]
    rfl
theorem frzA_F {h : Heap} {k : Nat} {x : AV} (hx : isF x = true) : frzA h k x = some x := by
  cases x <;> simp [isF] at hx <;> cases k <;> simp [frzA, isF]
theorem frzAL_F {h : Heap} {k : Nat} : ∀ {xs : List AV}, allF xs = true → frzAL h k xs = some xs
  | [], _ => by cases k <;> simp [frzAL]
  | x :: xs, hx => by
    simp only [allF, Bool.and_eq_true] at hx
    cases k <;> simp [frzAL, frzA_F hx.1, frzAL_F hx.2]
theorem ren_F {B : Nat} {ρ : List (Nat × Nat)} {x : AV} (hx : isF x = true) : ren B ρ x = x := by
  cases x <;> simp [isF] at hx <;> simp [ren]
theorem renL_F {B : Nat} {ρ : List (Nat × Nat)} : ∀ {xs : List AV}, allF xs = true → renL B ρ xs = xs
  | [], _ => by simp [renL]
  | x :: xs, hx => by
    simp only [allF, Bool.and_eq_true] at hx
    simp [renL, ren_F hx.1, renL_F hx.2]
theorem frzOkL_F : ∀ {xs : List AV}, allF xs = true → frzOkL xs = true
  | [], _ => by simp [frzOkL]
  | x :: xs, hx => by
    simp only [allF, Bool.and_eq_true] at hx
    simp only [frzOkL, frzOkL_F hx.2, Bool.and_true]
    have := hx.1
    cases x <;> simp [isF] at this <;> simp [frzOk]
section
variable {C : CT} (hC : Closed Tryd.prog (Gp mx ev1 ev2) md0 C)
include hC
theorem t28 (l : List Int) (lo hi : Int) (hl : l.length < 2^50) : Ev C 28 [.sl (ints l), .int .i64 lo, .int .i64 hi] (.bool (l.all (inR lo hi))) := by
  refine rT hC Q28 ?_
  simp only [c28, ints, List.length_map, push_cast, ↓J1, ↓J2, N1, N2, N3, reduceCtorEq, N4, N5, N6, reduceIte, N7, I1, I2, I3]
  refine RL_count (fun i => ⟨tb 21 .any [(1, .int .i64 lo), (2, .int .i64 hi), (9, .sl (l.map fun n => [.int .i64 n])), (10, .int .i64 (l.length : Int)), (11, .int .i64 (i : Int))], [], 0⟩) (fun i => l.all (inR lo hi) = (l.drop i).all (inR lo hi)) l.length 0 (hdA []) (by omega) rfl fun i hi' ht J hJ => ?_
  by_cases h1 : i < l.length
  · simp only [List.length_map, Int.toNat_natCast, List.getElem?_map, List.getElem?_eq_getElem h1, push_cast, ↓J1, ↓J2, N1, N2, N3, reduceCtorEq, N4, N5, N6, reduceIte, N7, I1, I2, I3]
    refine ifB_intro (fun _ => ⟨by omega, _, t37 hC _ _ _, ?_⟩) (fun h => by simp at h; omega)
    rw [List.drop_eq_getElem_cons h1, List.all_cons] at ht
    simp only [push_cast, ↓J1, ↓J2, N1, N2, N3, reduceCtorEq, N4, N5, N6, reduceIte, N7, I1, I2, I3]
    refine ifB_intro (fun h => ?_) (fun h => ?_)
    · refine hJ h1 ?_ _ (hdA [])
      · rw [ht]; simp only [inR] at h ⊢; rw [h]; rfl
    · rw [ht]; simp only [inR] at h ⊢; rw [h]; rfl
  · simp only [List.length_map, Int.toNat_natCast, List.getElem?_map, push_cast, ↓J1, ↓J2, N1, N2, N3, reduceCtorEq, N4, N5, N6, reduceIte, N7, I1, I2, I3]
    refine ifB_intro (fun h => by simp at h; omega) (fun h => ?_)
    rw [ht, List.drop_eq_nil_of_le (by omega)]
    rfl
end
end Go.Proofs.YtedgfiikaedeoaaDoor.X
set_option maxHeartbeats 2000000
set_option maxRecDepth 8000
set_option linter.unusedSimpArgs false
set_option linter.unusedVariables false
open Nat renaming reduceBEq → N1, reduceAdd → N2, reduceSub → N3, reduceMul → N4, reduceEqDiff → N5, reduceLeDiff → N6, reduceLT → N7
open Int renaming reduceLE → I1, reduceLT → I2, reduceToNat → I3
namespace Go.Proofs.YtedgfiikaedeoaaDoor.X
open Go
theorem ints_length (l : List Int) : (ints l).length = l.length := by simp [ints]
theorem frzLL_ints (l : List Int) : frzLL (ints l) = ints l := by
  unfold ints
  induction l with
  | nil => rfl
  | cons x l ih => simp only [List.map_cons, frzLL, frzL, frzT, ih]
theorem ints_get {v : List Int} {k : Nat} (h : k < v.length) : (ints v)[k]? = some [.int .i64 (v.getD k 0)] := by
  simp [ints, List.getD, h]
theorem ints_set {v : List Int} {k : Nat} {y : Int} : (ints v).set k [.int .i64 y] = ints (v.set k y) := by
  simp [ints, List.map_set]
/-! ### Sizes: what is left of a limit -/
def sub1 (v : Int) (n : Nat) : Int := if v < n then -1 else v - n
structure SzOk {α : Type} (f : α → Int → Int) (B : Int) (x : α) : Prop where
  le : ∀ v, 0 ≤ v → v ≤ B → -1 ≤ f x v ∧ f x v ≤ v
def szAll {α : Type} (f : α → Int → Int) : List α → Int → Int
  | [], v => v
  | x :: xs, v => if f x v < 0 then -1 else szAll f xs (f x v)
def leftAt {α : Type} (f : α → Int → Int) (l : List α) (v : Int) : Nat → Int
  | 0 => v
  | i + 1 => match l[i]? with | some x => f x (leftAt f l v i) | none => 0
theorem leftAt_succ {α : Type} {f : α → Int → Int} {l : List α} {v : Int} {i : Nat} (h : i < l.length) : leftAt f l v (i + 1) = f l[i] (leftAt f l v i) := by
  simp only [leftAt, List.getElem?_eq_getElem h]
theorem szAll_le {α : Type} {f : α → Int → Int} {B : Int} : ∀ {l : List α}, (∀ x ∈ l, SzOk f B x) → ∀ v, 0 ≤ v → v ≤ B → -1 ≤ szAll f l v ∧ szAll f l v ≤ v
  | [], _, v, h0, _ => ⟨by simp [szAll]; omega, by simp [szAll]⟩
  | x :: xs, h, v, h0, hB => by
    have hx := (h x (by simp)).le v h0 hB
    simp only [szAll]
    split
    · omega
    · have := szAll_le (l := xs) (fun y hy => h y (by simp [hy])) (f x v) (by omega) (by omega)
      omega
theorem szAll_each {α : Type} {f : α → Int → Int} {B : Int} : ∀ {l : List α}, (∀ x ∈ l, SzOk f B x) → ∀ v, 0 ≤ v → v ≤ B → 0 ≤ szAll f l v → ∀ x ∈ l, ∃ u, 0 ≤ u ∧ u ≤ v ∧ 0 ≤ f x u
  | [], _, v, _, _, _, x, hx => by simp at hx
  | y :: ys, h, v, h0, hB, hs, x, hx => by
    have hy := (h y (by simp)).le v h0 hB
    simp only [szAll] at hs
    split at hs
    · omega
    · rename_i hn
      rcases List.mem_cons.1 hx with rfl | hx
      · exact ⟨v, h0, by omega, by omega⟩
      · obtain ⟨u, h1, h2, h3⟩ := szAll_each (fun z hz => h z (by simp [hz])) (f y v) (by omega) (by omega) hs x hx
        exact ⟨u, h1, by omega, h3⟩
theorem sub1_le {v : Int} {n : Nat} (h : 0 ≤ v) : -1 ≤ sub1 v n ∧ sub1 v n ≤ v := by
  simp only [sub1]; split <;> omega
theorem sub1_pos {v : Int} {n : Nat} (h : 0 ≤ sub1 v n) : (n : Int) ≤ v := by
  simp only [sub1] at h; split at h <;> omega
/-! ### The parts of a board -/
structure Ter where
  n : ByteArray
  c : List Int
  s : Int
  h : Int
  b : Bool
  deriving DecidableEq
structure Kin where
  n : ByteArray
  st : Int
  mv : Int
  sp : Int
  z : Bool
  v : Int
  deriving DecidableEq
structure Rul where
  ts : List Ter
  ks : List Kin
  stack : Int
  river : Int
  road : Int
  supply : Int
  turns : Int
  deriving DecidableEq
structure Mp where
  w : Int
  h : Int
  t : List Int
  ri : List Int
  ro : List Int
  deriving DecidableEq
structure Brd where
  r : Rul
  m : Mp
  deriving DecidableEq
def terF (t : Ter) : List AV := [.str t.n, .sl (ints t.c), .int .i64 t.s, .int .i64 t.h, .bool t.b]
def terO (t : Ter) : List AV := [.str t.n, .ow 1 (ints t.c), .int .i64 t.s, .int .i64 t.h, .bool t.b]
def kinA (k : Kin) : List AV := [.str k.n, .int .i64 k.st, .int .i64 k.mv, .int .i64 k.sp, .bool k.z, .int .i64 k.v]
def tersF (l : List Ter) : List (List AV) := l.map terF
def tersO (l : List Ter) : List (List AV) := l.map terO
def kins (l : List Kin) : List (List AV) := l.map kinA
def rulF (r : Rul) : List AV := [.sl (tersF r.ts), .sl (kins r.ks), .int .i64 r.stack, .int .i64 r.river, .int .i64 r.road, .int .i64 r.supply, .int .i64 r.turns]
def rulO (r : Rul) : List AV := [.ow 5 (tersO r.ts), .ow 6 (kins r.ks), .int .i64 r.stack, .int .i64 r.river, .int .i64 r.road, .int .i64 r.supply, .int .i64 r.turns]
def mpF (m : Mp) : List AV := [.int .i64 m.w, .int .i64 m.h, .sl (ints m.t), .sl (ints m.ri), .sl (ints m.ro)]
def mpO (m : Mp) : List AV := [.int .i64 m.w, .int .i64 m.h, .ow 1 (ints m.t), .ow 1 (ints m.ri), .ow 1 (ints m.ro)]
theorem tersF_length (l : List Ter) : (tersF l).length = l.length := by simp [tersF]
theorem tersO_length (l : List Ter) : (tersO l).length = l.length := by simp [tersO]
theorem kins_length (l : List Kin) : (kins l).length = l.length := by simp [kins]
theorem frzLL_ters (l : List Ter) : frzLL (tersO l) = tersF l := by
  unfold tersO tersF
  induction l with
  | nil => rfl
  | cons x l ih => simp only [List.map_cons, frzLL, terO, terF, frzL, frzT, frzLL_ints, ih]
theorem frzLL_kins (l : List Kin) : frzLL (kins l) = kins l := by
  unfold kins
  induction l with
  | nil => rfl
  | cons x l ih => simp only [List.map_cons, frzLL, kinA, frzL, frzT, ih]
theorem own_ints1 (l : List Int) : ownRLL (ints l) = true := by have := own_ints l; simpa only [ownR] using this
theorem own_ters (l : List Ter) : ownRLL (tersO l) = true := by
  unfold tersO
  induction l with
  | nil => rfl
  | cons x l ih => simp only [List.map_cons, ownRLL, terO, ownRL, ownR, own_ints1, Bool.and_true, Bool.true_and]; exact ih
theorem own_kins (l : List Kin) : ownRLL (kins l) = true := by
  unfold kins
  induction l with
  | nil => rfl
  | cons x l ih => simp only [List.map_cons, ownRLL, kinA, ownRL, ownR, Bool.and_true, Bool.true_and]; exact ih
def szTer (t : Ter) (v : Int) : Int := if sub1 v t.n.size < 0 then -1 else sub1 (sub1 v t.n.size) t.c.length
def szTers (l : List Ter) (v : Int) : Int := if sub1 v l.length < 0 then -1 else szAll szTer l (sub1 v l.length)
def szKin (k : Kin) (v : Int) : Int := sub1 v k.n.size
def szKins (l : List Kin) (v : Int) : Int := if sub1 v l.length < 0 then -1 else szAll szKin l (sub1 v l.length)
theorem szTer_ok (B : Int) (t : Ter) : SzOk szTer B t := ⟨fun v h0 hB => by
  have h1 := sub1_le (n := t.n.size) h0
  simp only [szTer]
  split
  · omega
  · have h2 := sub1_le (v := sub1 v t.n.size) (n := t.c.length) (by omega); omega⟩
theorem szKin_ok (B : Int) (t : Kin) : SzOk szKin B t := ⟨fun v h0 hB => sub1_le h0⟩
theorem szTers_le {l : List Ter} {v : Int} (h0 : 0 ≤ v) (hB : v ≤ 2 ^ 50) : -1 ≤ szTers l v ∧ szTers l v ≤ v := by
  have h1 := sub1_le (n := l.length) h0
  simp only [szTers]
  split
  · omega
  · have := szAll_le (l := l) (fun x _ => szTer_ok (2 ^ 50) x) (sub1 v l.length) (by omega) (by omega); omega
theorem szKins_le {l : List Kin} {v : Int} (h0 : 0 ≤ v) (hB : v ≤ 2 ^ 50) : -1 ≤ szKins l v ∧ szKins l v ≤ v := by
  have h1 := sub1_le (n := l.length) h0
  simp only [szKins]
  split
  · omega
  · have := szAll_le (l := l) (fun x _ => szKin_ok (2 ^ 50) x) (sub1 v l.length) (by omega) (by omega); omega
theorem szTers_pos {l : List Ter} {v : Int} (h0 : 0 ≤ v) (hB : v ≤ 2 ^ 50) (h : 0 ≤ szTers l v) : (l.length : Int) ≤ v ∧ ∀ x ∈ l, (x.n.size : Int) ≤ v ∧ (x.c.length : Int) ≤ v := by
  have h1 := sub1_le (n := l.length) h0
  simp only [szTers] at h
  split at h
  · omega
  · have h2 := sub1_pos (v := v) (n := l.length) (by omega)
    refine ⟨h2, fun x hx => ?_⟩
    obtain ⟨u, u0, u1, u2⟩ := szAll_each (fun x _ => szTer_ok (2 ^ 50) x) (sub1 v l.length) (by omega) (by omega) h x hx
    have k1 := sub1_le (n := x.n.size) u0
    simp only [szTer] at u2
    split at u2
    · omega
    · have k2 := sub1_pos (v := u) (n := x.n.size) (by omega)
      have k3 := sub1_pos u2
      omega
theorem szKins_pos {l : List Kin} {v : Int} (h0 : 0 ≤ v) (hB : v ≤ 2 ^ 50) (h : 0 ≤ szKins l v) : (l.length : Int) ≤ v ∧ ∀ x ∈ l, (x.n.size : Int) ≤ v := by
  have h1 := sub1_le (n := l.length) h0
  simp only [szKins] at h
  split at h
  · omega
  · have h2 := sub1_pos (v := v) (n := l.length) (by omega)
    refine ⟨h2, fun x hx => ?_⟩
    obtain ⟨u, u0, u1, u2⟩ := szAll_each (fun x _ => szKin_ok (2 ^ 50) x) (sub1 v l.length) (by omega) (by omega) h x hx
    have k2 := sub1_pos u2
    omega
def andThen (f g : Int → Int) (v : Int) : Int := if f v < 0 then -1 else if g (f v) < 0 then -1 else g (f v)
def szRul (r : Rul) : Int → Int := andThen (szTers r.ts) (szKins r.ks)
def szMp (m : Mp) (v : Int) : Int := if sub1 v m.t.length < 0 then -1 else if sub1 (sub1 v m.t.length) m.ri.length < 0 then -1 else if sub1 (sub1 (sub1 v m.t.length) m.ri.length) m.ro.length < 0 then -1 else sub1 (sub1 (sub1 v m.t.length) m.ri.length) m.ro.length
def szBrd (b : Brd) : Int → Int := andThen (szRul b.r) (szMp b.m)
structure RulB (B : Nat) (r : Rul) : Prop where
  ts : r.ts.length < B
  ks : r.ks.length < B
  t : ∀ x ∈ r.ts, x.n.size < B ∧ x.c.length < B
  k : ∀ x ∈ r.ks, x.n.size < B
structure MpB (B : Nat) (m : Mp) : Prop where
  t : m.t.length < B
  ri : m.ri.length < B
  ro : m.ro.length < B
structure BrdB (B : Nat) (b : Brd) : Prop where
  r : RulB B b.r
  m : MpB B b.m
theorem szRul_le {r : Rul} {v : Int} (h0 : 0 ≤ v) (hB : v ≤ 2 ^ 50) : -1 ≤ szRul r v ∧ szRul r v ≤ v := by
  have h1 := szTers_le (l := r.ts) h0 hB
  simp only [szRul, andThen]
  split
  · omega
  · have h2 := szKins_le (l := r.ks) (v := szTers r.ts v) (by omega) (by omega)
    split <;> omega
theorem szMp_le {m : Mp} {v : Int} (h0 : 0 ≤ v) : -1 ≤ szMp m v ∧ szMp m v ≤ v := by
  have h1 := sub1_le (n := m.t.length) h0
  simp only [szMp]
  split
  · omega
  · have h2 := sub1_le (v := sub1 v m.t.length) (n := m.ri.length) (by omega)
    split
    · omega
    · have h3 := sub1_le (v := sub1 (sub1 v m.t.length) m.ri.length) (n := m.ro.length) (by omega)
      split <;> omega
theorem szBrd_pos {b : Brd} (h : 0 ≤ szBrd b 1048576) : BrdB (2 ^ 21) b := by
  have h1 := szRul_le (r := b.r) (v := 1048576) (by omega) (by omega)
  simp only [szBrd, andThen] at h
  split at h
  · omega
  rename_i n1
  split at h
  · omega
  have k1 := szTers_le (l := b.r.ts) (v := 1048576) (by omega) (by omega)
  have hr : 0 ≤ szTers b.r.ts 1048576 ∧ 0 ≤ szKins b.r.ks (szTers b.r.ts 1048576) := by
    simp only [szRul, andThen] at n1
    split at n1
    · omega
    · split at n1 <;> omega
  have p1 := szTers_pos (by omega) (by omega) hr.1
  have p2 := szKins_pos (by omega) (by omega) hr.2
  refine ⟨⟨by omega, by omega, fun x hx => ?_, fun x hx => ?_⟩, ?_⟩
  · have := p1.2 x hx; omega
  · have := p2.2 x hx; omega
  · generalize szRul b.r 1048576 = v at *
    have q1 := sub1_le (v := v) (n := b.m.t.length) (by omega)
    simp only [szMp] at h
    split at h
    · omega
    · have q2 := sub1_le (v := sub1 v b.m.t.length) (n := b.m.ri.length) (by omega)
      split at h
      · omega
      · split at h
        · omega
        · have r1 := sub1_pos (v := v) (n := b.m.t.length) (by omega)
          have r2 := sub1_pos (v := sub1 v b.m.t.length) (n := b.m.ri.length) (by omega)
          have r3 := sub1_pos h
          exact ⟨by omega, by omega, by omega⟩
def brdF (b : Brd) : AV := .agg (rulF b.r ++ mpF b.m)
def brdO (b : Brd) : AV := .agg (rulO b.r ++ mpO b.m)
end Go.Proofs.YtedgfiikaedeoaaDoor.X
