/- The contracts of the functions that are not walked, laid at this dump (by the kit's tool; mkx.py). -/
import Derived.BigCall
import Derived.Lib.AppendIntMem
import Derived.Shelf.Small.Strs
import Derived.Shelf.Strconv.ErrVarParseInt
import Derived.Shelf.Strconv.Itoa4
import Derived.Shelf.Strings.Builder2
import Derived.Shelf.Strings.Repeat
import Derived.WalkKit
import Derived.Test.YtimlnhpiddfbaaaGreatDoorProg
import Derived.Test.YtimlnhpiddfbaaaGreatDoorDenO
set_option linter.unusedSimpArgs false
set_option linter.unusedVariables false
namespace Go.Proofs
open Go.Shelf
def Tryz.lays213_ren : Go.Shelf.Ren := ⟨fun | 213 => 74 | 265 => 95 | n => n, fun | 9 => 9 | 3 => 3 | n => n, fun | n => n⟩
theorem Tryz.lays213 : Go.Proofs.Lays.n213 Tryz.prog Tryz.lays213_ren := {
  mixed := by kernel_rfl
  f213 := Tryz.func74.trans (congrArg some (by kernel_rfl))
  f265 := Tryz.func95.trans (congrArg some (by kernel_rfl))
  t3 := Tryz.underlying3
  a3 := Tryz.isAgg3
  z3 := Tryz.sizeOf3
  v3 := Tryz.zeroValue3
  t9 := Tryz.underlying9
  a9 := Tryz.isAgg9
  z9 := Tryz.sizeOf9
  v9 := Tryz.zeroValue9 }
def Tryz.laysM173_ren : Go.Shelf.Ren := ⟨fun | 173 => 33 | 246 => 60 | 283 => 82 | 284 => 83 | 285 => 84 | 286 => 85 | 129 => 102 | 317 => 101 | 318 => 103 | 319 => 104 | 320 => 105 | 337 => 113 | 338 => 114 | n => n, fun | 2 => 2 | 3 => 3 | 9 => 9 | 4 => 4 | 171 => 107 | 0 => 0 | 53 => 57 | 37 => 22 | 5 => 5 | 173 => 110 | 212 => 130 | 51 => 123 | 20 => 20 | 213 => 131 | 46 => 75 | 232 => 142 | 233 => 143 | n => n, fun | 17 => 1 | 18 => 4 | 19 => 5 | n => n⟩
theorem Tryz.laysM173 : Go.Proofs.LaysM.n173 Tryz.prog Tryz.laysM173_ren := {
  mixed := by kernel_rfl
  f129 := Tryz.func102.trans (congrArg some (by kernel_rfl))
  f173 := Tryz.func33.trans (congrArg some (by kernel_rfl))
  f246 := Tryz.func60.trans (congrArg some (by kernel_rfl))
  f283 := Tryz.func82.trans (congrArg some (by kernel_rfl))
  f284 := Tryz.func83.trans (congrArg some (by kernel_rfl))
  f285 := Tryz.func84.trans (congrArg some (by kernel_rfl))
  f286 := Tryz.func85.trans (congrArg some (by kernel_rfl))
  f317 := Tryz.func101.trans (congrArg some (by kernel_rfl))
  f318 := Tryz.func103.trans (congrArg some (by kernel_rfl))
  f319 := Tryz.func104.trans (congrArg some (by kernel_rfl))
  f320 := Tryz.func105.trans (congrArg some (by kernel_rfl))
  f337 := Tryz.func113.trans (congrArg some (by kernel_rfl))
  f338 := Tryz.func114.trans (congrArg some (by kernel_rfl))
  t0 := Tryz.underlying0
  a0 := Tryz.isAgg0
  z0 := Tryz.sizeOf0
  v0 := Tryz.zeroValue0
  t2 := Tryz.underlying2
  a2 := Tryz.isAgg2
  z2 := Tryz.sizeOf2
  v2 := Tryz.zeroValue2
  t3 := Tryz.underlying3
  a3 := Tryz.isAgg3
  z3 := Tryz.sizeOf3
  v3 := Tryz.zeroValue3
  t4 := Tryz.underlying4
  a4 := Tryz.isAgg4
  z4 := Tryz.sizeOf4
  v4 := Tryz.zeroValue4
  t5 := Tryz.underlying5
  a5 := Tryz.isAgg5
  z5 := Tryz.sizeOf5
  v5 := Tryz.zeroValue5
  t9 := Tryz.underlying9
  a9 := Tryz.isAgg9
  z9 := Tryz.sizeOf9
  v9 := Tryz.zeroValue9
  t20 := Tryz.underlying20
  a20 := Tryz.isAgg20
  z20 := Tryz.sizeOf20
  v20 := Tryz.zeroValue20
  t37 := Tryz.underlying22
  a37 := Tryz.isAgg22
  z37 := Tryz.sizeOf22
  v37 := Tryz.zeroValue22
  t46 := Tryz.underlying75
  a46 := Tryz.isAgg75
  z46 := Tryz.sizeOf75
  v46 := Tryz.zeroValue75
  t51 := Tryz.underlying123
  a51 := Tryz.isAgg123
  z51 := Tryz.sizeOf123
  v51 := Tryz.zeroValue123
  t53 := Tryz.underlying57
  a53 := Tryz.isAgg57
  z53 := Tryz.sizeOf57
  v53 := Tryz.zeroValue57
  t171 := Tryz.underlying107
  a171 := Tryz.isAgg107
  z171 := Tryz.sizeOf107
  v171 := Tryz.zeroValue107
  t173 := Tryz.underlying110
  a173 := Tryz.isAgg110
  z173 := Tryz.sizeOf110
  v173 := Tryz.zeroValue110
  t212 := Tryz.underlying130
  a212 := Tryz.isAgg130
  z212 := Tryz.sizeOf130
  v212 := Tryz.zeroValue130
  t213 := Tryz.underlying131
  a213 := Tryz.isAgg131
  z213 := Tryz.sizeOf131
  t232 := Tryz.underlying142
  a232 := Tryz.isAgg142
  z232 := Tryz.sizeOf142
  v232 := Tryz.zeroValue142
  t233 := Tryz.underlying143
  a233 := Tryz.isAgg143
  z233 := Tryz.sizeOf143
  v233 := Tryz.zeroValue143
  g17 := by kernel_rfl
  g18 := by kernel_rfl
  g19 := by kernel_rfl
  i0 := by kernel_rfl
  i2 := by kernel_rfl
  i3 := by kernel_rfl
  i4 := by kernel_rfl
  i5 := by kernel_rfl
  i9 := by kernel_rfl
  i20 := by kernel_rfl
  i37 := by kernel_rfl
  i46 := by kernel_rfl
  i51 := by kernel_rfl
  i53 := by kernel_rfl
  i171 := by kernel_rfl
  i173 := by kernel_rfl
  i212 := by kernel_rfl
  i232 := by kernel_rfl
  i233 := by kernel_rfl
  m17 := by kernel_rfl
  m18 := by kernel_rfl
  m19 := by kernel_rfl }
def Tryz.lays137_ren : Go.Shelf.Ren := ⟨fun | 137 => 67 | 217 => 89 | 266 => 106 | n => n, fun | 9 => 9 | 5 => 5 | 3 => 3 | n => n, fun | n => n⟩
theorem Tryz.lays137 : Go.Proofs.Lays.n137 Tryz.prog Tryz.lays137_ren := {
  mixed := by kernel_rfl
  f137 := Tryz.func67.trans (congrArg some (by kernel_rfl))
  f217 := Tryz.func89.trans (congrArg some (by kernel_rfl))
  f266 := Tryz.func106.trans (congrArg some (by kernel_rfl))
  t3 := Tryz.underlying3
  a3 := Tryz.isAgg3
  z3 := Tryz.sizeOf3
  v3 := Tryz.zeroValue3
  t5 := Tryz.underlying5
  a5 := Tryz.isAgg5
  z5 := Tryz.sizeOf5
  v5 := Tryz.zeroValue5
  t9 := Tryz.underlying9
  a9 := Tryz.isAgg9
  z9 := Tryz.sizeOf9
  v9 := Tryz.zeroValue9 }
def Tryz.laysC174_ren : Go.Shelf.Ren := ⟨fun | 174 => 43 | 247 => 69 | 245 => 70 | 287 => 90 | 279 => 91 | 280 => 92 | 281 => 93 | 282 => 94 | 321 => 107 | 322 => 108 | 316 => 109 | 171 => 111 | 205 => 110 | 243 => 115 | 246 => 60 | 283 => 82 | 284 => 83 | 285 => 84 | 286 => 85 | 129 => 102 | 317 => 101 | 318 => 103 | 319 => 104 | 320 => 105 | 337 => 113 | 338 => 114 | n => n, fun | 9 => 9 | 3 => 3 | 2 => 2 | 75 => 67 | 85 => 68 | 4 => 4 | 167 => 115 | 5 => 5 | 53 => 57 | 175 => 116 | 46 => 75 | 168 => 118 | 37 => 22 | 0 => 0 | 210 => 135 | 21 => 21 | 127 => 100 | 145 => 141 | 143 => 139 | 171 => 107 | 173 => 110 | 212 => 130 | 51 => 123 | 20 => 20 | 213 => 131 | 232 => 142 | 233 => 143 | 80 => 83 | n => n, fun | 15 => 2 | 16 => 3 | 17 => 1 | 18 => 4 | 19 => 5 | n => n⟩
theorem Tryz.laysC174 : Go.Proofs.LaysC.n174 Tryz.prog Tryz.laysC174_ren := {
  mixed := by kernel_rfl
  f129 := Tryz.func102.trans (congrArg some (by kernel_rfl))
  f171 := Tryz.func111.trans (congrArg some (by kernel_rfl))
  f174 := Tryz.func43.trans (congrArg some (by kernel_rfl))
  f205 := Tryz.func110.trans (congrArg some (by kernel_rfl))
  f243 := Tryz.func115.trans (congrArg some (by kernel_rfl))
  f245 := Tryz.func70.trans (congrArg some (by kernel_rfl))
  f246 := Tryz.func60.trans (congrArg some (by kernel_rfl))
  f247 := Tryz.func69.trans (congrArg some (by kernel_rfl))
  f279 := Tryz.func91.trans (congrArg some (by kernel_rfl))
  f280 := Tryz.func92.trans (congrArg some (by kernel_rfl))
  f281 := Tryz.func93.trans (congrArg some (by kernel_rfl))
  f282 := Tryz.func94.trans (congrArg some (by kernel_rfl))
  f283 := Tryz.func82.trans (congrArg some (by kernel_rfl))
  f284 := Tryz.func83.trans (congrArg some (by kernel_rfl))
  f285 := Tryz.func84.trans (congrArg some (by kernel_rfl))
  f286 := Tryz.func85.trans (congrArg some (by kernel_rfl))
  f287 := Tryz.func90.trans (congrArg some (by kernel_rfl))
  f316 := Tryz.func109.trans (congrArg some (by kernel_rfl))
  f317 := Tryz.func101.trans (congrArg some (by kernel_rfl))
  f318 := Tryz.func103.trans (congrArg some (by kernel_rfl))
  f319 := Tryz.func104.trans (congrArg some (by kernel_rfl))
  f320 := Tryz.func105.trans (congrArg some (by kernel_rfl))
  f321 := Tryz.func107.trans (congrArg some (by kernel_rfl))
  f322 := Tryz.func108.trans (congrArg some (by kernel_rfl))
  f337 := Tryz.func113.trans (congrArg some (by kernel_rfl))
  f338 := Tryz.func114.trans (congrArg some (by kernel_rfl))
  t0 := Tryz.underlying0
  a0 := Tryz.isAgg0
  z0 := Tryz.sizeOf0
  v0 := Tryz.zeroValue0
  t2 := Tryz.underlying2
  a2 := Tryz.isAgg2
  z2 := Tryz.sizeOf2
  v2 := Tryz.zeroValue2
  t3 := Tryz.underlying3
  a3 := Tryz.isAgg3
  z3 := Tryz.sizeOf3
  v3 := Tryz.zeroValue3
  t4 := Tryz.underlying4
  a4 := Tryz.isAgg4
  z4 := Tryz.sizeOf4
  v4 := Tryz.zeroValue4
  t5 := Tryz.underlying5
  a5 := Tryz.isAgg5
  z5 := Tryz.sizeOf5
  v5 := Tryz.zeroValue5
  t9 := Tryz.underlying9
  a9 := Tryz.isAgg9
  z9 := Tryz.sizeOf9
  v9 := Tryz.zeroValue9
  t20 := Tryz.underlying20
  a20 := Tryz.isAgg20
  z20 := Tryz.sizeOf20
  v20 := Tryz.zeroValue20
  t21 := Tryz.underlying21
  a21 := Tryz.isAgg21
  z21 := Tryz.sizeOf21
  v21 := Tryz.zeroValue21
  t37 := Tryz.underlying22
  a37 := Tryz.isAgg22
  z37 := Tryz.sizeOf22
  v37 := Tryz.zeroValue22
  t46 := Tryz.underlying75
  a46 := Tryz.isAgg75
  z46 := Tryz.sizeOf75
  v46 := Tryz.zeroValue75
  t51 := Tryz.underlying123
  a51 := Tryz.isAgg123
  z51 := Tryz.sizeOf123
  v51 := Tryz.zeroValue123
  t53 := Tryz.underlying57
  a53 := Tryz.isAgg57
  z53 := Tryz.sizeOf57
  v53 := Tryz.zeroValue57
  t75 := Tryz.underlying67
  a75 := Tryz.isAgg67
  z75 := Tryz.sizeOf67
  v75 := Tryz.zeroValue67
  t85 := Tryz.underlying68
  a85 := Tryz.isAgg68
  z85 := Tryz.sizeOf68
  v85 := Tryz.zeroValue68
  t127 := Tryz.underlying100
  a127 := Tryz.isAgg100
  z127 := Tryz.sizeOf100
  v127 := Tryz.zeroValue100
  t143 := Tryz.underlying139
  a143 := Tryz.isAgg139
  z143 := Tryz.sizeOf139
  v143 := Tryz.zeroValue139
  t145 := Tryz.underlying141
  a145 := Tryz.isAgg141
  z145 := Tryz.sizeOf141
  v145 := Tryz.zeroValue141
  t167 := Tryz.underlying115
  a167 := Tryz.isAgg115
  z167 := Tryz.sizeOf115
  v167 := Tryz.zeroValue115
  t168 := Tryz.underlying118
  a168 := Tryz.isAgg118
  z168 := Tryz.sizeOf118
  v168 := Tryz.zeroValue118
  t171 := Tryz.underlying107
  a171 := Tryz.isAgg107
  z171 := Tryz.sizeOf107
  v171 := Tryz.zeroValue107
  t173 := Tryz.underlying110
  a173 := Tryz.isAgg110
  z173 := Tryz.sizeOf110
  v173 := Tryz.zeroValue110
  t175 := Tryz.underlying116
  a175 := Tryz.isAgg116
  z175 := Tryz.sizeOf116
  v175 := Tryz.zeroValue116
  t210 := Tryz.underlying135
  a210 := Tryz.isAgg135
  z210 := Tryz.sizeOf135
  v210 := Tryz.zeroValue135
  t212 := Tryz.underlying130
  a212 := Tryz.isAgg130
  z212 := Tryz.sizeOf130
  v212 := Tryz.zeroValue130
  t213 := Tryz.underlying131
  a213 := Tryz.isAgg131
  z213 := Tryz.sizeOf131
  t232 := Tryz.underlying142
  a232 := Tryz.isAgg142
  z232 := Tryz.sizeOf142
  v232 := Tryz.zeroValue142
  t233 := Tryz.underlying143
  a233 := Tryz.isAgg143
  z233 := Tryz.sizeOf143
  v233 := Tryz.zeroValue143
  g15 := by kernel_rfl
  g16 := by kernel_rfl
  g17 := by kernel_rfl
  g18 := by kernel_rfl
  g19 := by kernel_rfl
  t80 := Tryz.underlying83
  a80 := Tryz.isAgg83
  z80 := Tryz.sizeOf83
  v80 := Tryz.zeroValue83
  i0 := by kernel_rfl
  i2 := by kernel_rfl
  i3 := by kernel_rfl
  i4 := by kernel_rfl
  i5 := by kernel_rfl
  i9 := by kernel_rfl
  i20 := by kernel_rfl
  i21 := by kernel_rfl
  i37 := by kernel_rfl
  i46 := by kernel_rfl
  i51 := by kernel_rfl
  i53 := by kernel_rfl
  i75 := by kernel_rfl
  i80 := by kernel_rfl
  i85 := by kernel_rfl
  i127 := by kernel_rfl
  i143 := by kernel_rfl
  i145 := by kernel_rfl
  i167 := by kernel_rfl
  i168 := by kernel_rfl
  i171 := by kernel_rfl
  i173 := by kernel_rfl
  i175 := by kernel_rfl
  i210 := by kernel_rfl
  i212 := by kernel_rfl
  i232 := by kernel_rfl
  i233 := by kernel_rfl
  m15 := by kernel_rfl
  m16 := by kernel_rfl
  m17 := by kernel_rfl
  m18 := by kernel_rfl
  m19 := by kernel_rfl
  c0 := by kernel_rfl
  c2 := by kernel_rfl
  c3 := by kernel_rfl
  c4 := by kernel_rfl
  c5 := by kernel_rfl
  c9 := by kernel_rfl
  c20 := by kernel_rfl
  c21 := by kernel_rfl
  c37 := by kernel_rfl
  c46 := by kernel_rfl
  c51 := by kernel_rfl
  c53 := by kernel_rfl
  c75 := by kernel_rfl
  c80 := by kernel_rfl
  c85 := by kernel_rfl
  c127 := by kernel_rfl
  c143 := by kernel_rfl
  c145 := by kernel_rfl
  c167 := by kernel_rfl
  c168 := by kernel_rfl
  c171 := by kernel_rfl
  c173 := by kernel_rfl
  c175 := by kernel_rfl
  c210 := by kernel_rfl
  c212 := by kernel_rfl
  c213 := by kernel_rfl
  c232 := by kernel_rfl
  c233 := by kernel_rfl }
def Tryz.quote_ren : Go.Shelf.Ren := ⟨fun | 166 => 56 | 167 => 54 | 169 => 57 | 240 => 77 | 276 => 96 | n => n, fun | 9 => 9 | 3 => 3 | 4 => 4 | 20 => 20 | 0 => 0 | 46 => 75 | 109 => 101 | 5 => 5 | 72 => 78 | 76 => 81 | 51 => 123 | 146 => 124 | 53 => 57 | 148 => 126 | 70 => 76 | 37 => 22 | 75 => 67 | 127 => 100 | 164 => 121 | 80 => 83 | n => n, fun | n => n⟩
theorem Tryz.quote_166 : Go.Proofs.Lays.n166 Tryz.prog Tryz.quote_ren := {
  mixed := by kernel_rfl
  f166 := Tryz.func56.trans (congrArg some (by kernel_rfl))
  f240 := Tryz.func77.trans (congrArg some (by kernel_rfl))
  f276 := Tryz.func96.trans (congrArg some (by kernel_rfl))
  t0 := Tryz.underlying0
  a0 := Tryz.isAgg0
  z0 := Tryz.sizeOf0
  v0 := Tryz.zeroValue0
  t3 := Tryz.underlying3
  a3 := Tryz.isAgg3
  z3 := Tryz.sizeOf3
  v3 := Tryz.zeroValue3
  t4 := Tryz.underlying4
  a4 := Tryz.isAgg4
  z4 := Tryz.sizeOf4
  v4 := Tryz.zeroValue4
  t9 := Tryz.underlying9
  a9 := Tryz.isAgg9
  z9 := Tryz.sizeOf9
  v9 := Tryz.zeroValue9
  t20 := Tryz.underlying20
  a20 := Tryz.isAgg20
  z20 := Tryz.sizeOf20
  v20 := Tryz.zeroValue20
  t37 := Tryz.underlying22
  a37 := Tryz.isAgg22
  z37 := Tryz.sizeOf22
  v37 := Tryz.zeroValue22
  t70 := Tryz.underlying76
  a70 := Tryz.isAgg76
  z70 := Tryz.sizeOf76
  v70 := Tryz.zeroValue76
  t72 := Tryz.underlying78
  a72 := Tryz.isAgg78
  z72 := Tryz.sizeOf78
  v72 := Tryz.zeroValue78
  t75 := Tryz.underlying67
  a75 := Tryz.isAgg67
  z75 := Tryz.sizeOf67
  v75 := Tryz.zeroValue67
  t164 := Tryz.underlying121
  a164 := Tryz.isAgg121
  z164 := Tryz.sizeOf121
  v164 := Tryz.zeroValue121 }
theorem Tryz.quote_167 : Go.Proofs.Lays.n167 Tryz.prog Tryz.quote_ren := {
  mixed := by kernel_rfl
  f167 := Tryz.func54.trans (congrArg some (by kernel_rfl))
  f240 := Tryz.func77.trans (congrArg some (by kernel_rfl))
  f276 := Tryz.func96.trans (congrArg some (by kernel_rfl))
  t0 := Tryz.underlying0
  a0 := Tryz.isAgg0
  z0 := Tryz.sizeOf0
  v0 := Tryz.zeroValue0
  t4 := Tryz.underlying4
  a4 := Tryz.isAgg4
  z4 := Tryz.sizeOf4
  v4 := Tryz.zeroValue4
  t5 := Tryz.underlying5
  a5 := Tryz.isAgg5
  z5 := Tryz.sizeOf5
  v5 := Tryz.zeroValue5
  t9 := Tryz.underlying9
  a9 := Tryz.isAgg9
  z9 := Tryz.sizeOf9
  v9 := Tryz.zeroValue9
  t20 := Tryz.underlying20
  a20 := Tryz.isAgg20
  z20 := Tryz.sizeOf20
  v20 := Tryz.zeroValue20
  t37 := Tryz.underlying22
  a37 := Tryz.isAgg22
  z37 := Tryz.sizeOf22
  v37 := Tryz.zeroValue22
  t70 := Tryz.underlying76
  a70 := Tryz.isAgg76
  z70 := Tryz.sizeOf76
  v70 := Tryz.zeroValue76
  t72 := Tryz.underlying78
  a72 := Tryz.isAgg78
  z72 := Tryz.sizeOf78
  v72 := Tryz.zeroValue78
  t75 := Tryz.underlying67
  a75 := Tryz.isAgg67
  z75 := Tryz.sizeOf67
  v75 := Tryz.zeroValue67
  t164 := Tryz.underlying121
  a164 := Tryz.isAgg121
  z164 := Tryz.sizeOf121
  v164 := Tryz.zeroValue121 }
theorem Tryz.quote_169 : Go.Proofs.Lays.n169 Tryz.prog Tryz.quote_ren := {
  mixed := by kernel_rfl
  f169 := Tryz.func57.trans (congrArg some (by kernel_rfl))
  t0 := Tryz.underlying0
  a0 := Tryz.isAgg0
  z0 := Tryz.sizeOf0
  v0 := Tryz.zeroValue0
  t3 := Tryz.underlying3
  a3 := Tryz.isAgg3
  z3 := Tryz.sizeOf3
  v3 := Tryz.zeroValue3
  t9 := Tryz.underlying9
  a9 := Tryz.isAgg9
  z9 := Tryz.sizeOf9
  v9 := Tryz.zeroValue9
  t37 := Tryz.underlying22
  a37 := Tryz.isAgg22
  z37 := Tryz.sizeOf22
  v37 := Tryz.zeroValue22
  t70 := Tryz.underlying76
  a70 := Tryz.isAgg76
  z70 := Tryz.sizeOf76
  v70 := Tryz.zeroValue76
  t72 := Tryz.underlying78
  a72 := Tryz.isAgg78
  z72 := Tryz.sizeOf78
  v72 := Tryz.zeroValue78
  t127 := Tryz.underlying100
  a127 := Tryz.isAgg100
  z127 := Tryz.sizeOf100
  v127 := Tryz.zeroValue100 }
theorem Tryz.quote_X : Builder.Extra Tryz.prog Tryz.quote_ren := {
  sizeBuilder := by kernel_rfl
  liesBuilder := by kernel_rfl
  t5 := Tryz.underlying5
  a5 := Tryz.isAgg5
  z5 := Tryz.sizeOf5
  v5 := Tryz.zeroValue5
  infoByte := by kernel_rfl
  cellsByte := by kernel_rfl
  sizeByte := by kernel_rfl
  neB5 := by decide }
def Tryz.lays105_ren : Go.Shelf.Ren := ⟨fun | 105 => 59 | 212 => 78 | 99 => 79 | 165 => 80 | 166 => 56 | 170 => 81 | 169 => 57 | 263 => 97 | 264 => 98 | 206 => 99 | 240 => 77 | 241 => 100 | 276 => 96 | 277 => 112 | n => n, fun | 9 => 9 | 3 => 3 | 4 => 4 | 20 => 20 | 0 => 0 | 46 => 75 | 109 => 101 | 5 => 5 | 72 => 78 | 76 => 81 | 51 => 123 | 146 => 124 | 53 => 57 | 148 => 126 | 70 => 76 | 37 => 22 | 75 => 67 | 127 => 100 | 164 => 121 | 80 => 83 | n => n, fun | n => n⟩
theorem Tryz.lays105 : Go.Proofs.Lays.n105 Tryz.prog Tryz.lays105_ren := {
  mixed := by kernel_rfl
  f99 := Tryz.func79.trans (congrArg some (by kernel_rfl))
  f105 := Tryz.func59.trans (congrArg some (by kernel_rfl))
  f165 := Tryz.func80.trans (congrArg some (by kernel_rfl))
  f166 := Tryz.func56.trans (congrArg some (by kernel_rfl))
  f169 := Tryz.func57.trans (congrArg some (by kernel_rfl))
  f170 := Tryz.func81.trans (congrArg some (by kernel_rfl))
  f206 := Tryz.func99.trans (congrArg some (by kernel_rfl))
  f212 := Tryz.func78.trans (congrArg some (by kernel_rfl))
  f240 := Tryz.func77.trans (congrArg some (by kernel_rfl))
  f241 := Tryz.func100.trans (congrArg some (by kernel_rfl))
  f263 := Tryz.func97.trans (congrArg some (by kernel_rfl))
  f264 := Tryz.func98.trans (congrArg some (by kernel_rfl))
  f276 := Tryz.func96.trans (congrArg some (by kernel_rfl))
  f277 := Tryz.func112.trans (congrArg some (by kernel_rfl))
  t0 := Tryz.underlying0
  a0 := Tryz.isAgg0
  z0 := Tryz.sizeOf0
  v0 := Tryz.zeroValue0
  t3 := Tryz.underlying3
  a3 := Tryz.isAgg3
  z3 := Tryz.sizeOf3
  v3 := Tryz.zeroValue3
  t4 := Tryz.underlying4
  a4 := Tryz.isAgg4
  z4 := Tryz.sizeOf4
  v4 := Tryz.zeroValue4
  t5 := Tryz.underlying5
  a5 := Tryz.isAgg5
  z5 := Tryz.sizeOf5
  v5 := Tryz.zeroValue5
  t9 := Tryz.underlying9
  a9 := Tryz.isAgg9
  z9 := Tryz.sizeOf9
  v9 := Tryz.zeroValue9
  t20 := Tryz.underlying20
  a20 := Tryz.isAgg20
  z20 := Tryz.sizeOf20
  v20 := Tryz.zeroValue20
  t37 := Tryz.underlying22
  a37 := Tryz.isAgg22
  z37 := Tryz.sizeOf22
  v37 := Tryz.zeroValue22
  t46 := Tryz.underlying75
  a46 := Tryz.isAgg75
  z46 := Tryz.sizeOf75
  v46 := Tryz.zeroValue75
  t51 := Tryz.underlying123
  a51 := Tryz.isAgg123
  z51 := Tryz.sizeOf123
  v51 := Tryz.zeroValue123
  t53 := Tryz.underlying57
  a53 := Tryz.isAgg57
  z53 := Tryz.sizeOf57
  v53 := Tryz.zeroValue57
  t70 := Tryz.underlying76
  a70 := Tryz.isAgg76
  z70 := Tryz.sizeOf76
  v70 := Tryz.zeroValue76
  t72 := Tryz.underlying78
  a72 := Tryz.isAgg78
  z72 := Tryz.sizeOf78
  v72 := Tryz.zeroValue78
  t75 := Tryz.underlying67
  a75 := Tryz.isAgg67
  z75 := Tryz.sizeOf67
  v75 := Tryz.zeroValue67
  t76 := Tryz.underlying81
  a76 := Tryz.isAgg81
  z76 := Tryz.sizeOf81
  v76 := Tryz.zeroValue81
  t109 := Tryz.underlying101
  a109 := Tryz.isAgg101
  z109 := Tryz.sizeOf101
  v109 := Tryz.zeroValue101
  t127 := Tryz.underlying100
  a127 := Tryz.isAgg100
  z127 := Tryz.sizeOf100
  v127 := Tryz.zeroValue100
  t146 := Tryz.underlying124
  a146 := Tryz.isAgg124
  z146 := Tryz.sizeOf124
  v146 := Tryz.zeroValue124
  t148 := Tryz.underlying126
  a148 := Tryz.isAgg126
  z148 := Tryz.sizeOf126
  v148 := Tryz.zeroValue126
  t164 := Tryz.underlying121
  a164 := Tryz.isAgg121
  z164 := Tryz.sizeOf121
  v164 := Tryz.zeroValue121 }
theorem Tryz.Builder_Extra_105 : Builder.Extra Tryz.prog Tryz.lays105_ren := {
  sizeBuilder := by kernel_rfl
  liesBuilder := by kernel_rfl
  t5 := Tryz.underlying5
  a5 := Tryz.isAgg5
  z5 := Tryz.sizeOf5
  v5 := Tryz.zeroValue5
  infoByte := by kernel_rfl
  cellsByte := by kernel_rfl
  sizeByte := by kernel_rfl
  neB5 := by decide }
end Go.Proofs
namespace Go.Den
open Go Go.Proofs Go.RowKit
theorem ext_cmpstr (tab : Nat → Nat) : ExtOk Tryz.prog tab 74 XName.cmpstr := by
  intro args r h w F σ γ vals I A
  obtain ⟨s, t, rfl, rfl⟩ : ∃ s t, args = [.str s, .str t] ∧ r = .int .i64 (Lib.compareBytes s.data.toList t.data.toList) := by
    have h : xCmpstr args = some r := h
    unfold xCmpstr at h
    split at h
    · cases h; exact ⟨_, _, rfl, rfl⟩
    · cases h
  obtain ⟨hl, hA⟩ := A
  match vals, hl, hA with
  | [u, v], _, hA =>
    have h1 := hA 0 _ _ rfl rfl
    have h2 := hA 1 _ _ rfl rfl
    cases h1 with | fz _ _ h1 => cases h1; cases h2 with | fz _ _ h2 =>
      cases h2
      refine (Any.bytealg_CompareString Tryz.lays213 s t w).mono ?_
      rintro e w' ⟨rfl, rfl⟩
      exact ⟨_, γ, rfl, Step.refl _ γ (Nat.le_refl _), I, .fz _ _ (.int _ _), Fr.refl _ _⟩
theorem dec_eq : ∀ (f u : Nat), u < 10 ^ f → 0 < f → Lib.decDigits u = decF f u
  | 0, _, _, h => absurd h (by simp)
  | f + 1, u, hu, _ => by
    rw [Lib.decDigits, decF]
    by_cases h : u < 10
    · rw [dif_pos h, if_pos h]
    · rw [dif_neg h, if_neg h, dec_eq f (u / 10) (by rw [Nat.pow_succ] at hu; omega) (by
        cases f with
        | zero => simp at hu; omega
        | succ f => omega)]
theorem itoa_eq (n : Int) (h0 : -9223372036854775808 ≤ n) (h1 : n ≤ 9223372036854775807) : Lib.itoa n = itoaF n := by
  unfold Lib.itoa itoaF
  have hp : (10 : Nat) ^ 20 = 100000000000000000000 := by decide
  rw [dec_eq 20 n.natAbs (by omega) (by decide), dec_eq 20 n.toNat (by omega) (by decide)]
theorem ext_fmtint (tab : Nat → Nat) : ExtOk Tryz.prog tab 33 XName.fmtint := by
  intro args r h w F σ γ vals I A
  obtain ⟨n, rfl, h0, h1, rfl⟩ : ∃ n, args = [.int .i64 n, .int .i64 10] ∧ -9223372036854775808 ≤ n ∧ n ≤ 9223372036854775807 ∧ r = .str ⟨(itoaF n).toArray⟩ := by
    have h : xFmtint args = some r := h
    unfold xFmtint at h
    split at h <;> first | (cases h; done) | skip
    split at h
    · rename_i hc; cases h; exact ⟨_, rfl, hc.1, hc.2, rfl⟩
    · cases h
  have htab : Lib.TabIs Tryz.prog w "internal/strconv.uint64pow10" .u64 Lib.pow10Tab := by
    obtain ⟨ty, fr, hh⟩ := gl_vals I.gl (g := 1) rfl
    have hg : Tryz.prog.globalNamed "internal/strconv.uint64pow10" = some 1 := by kernel_rfl
    unfold Lib.TabIs World.var?
    rw [hg]
    simp only [Option.bind_some]
    rw [hh]
    exact congrArg some (by kernel_rfl)
  obtain ⟨hl, hA⟩ := A
  match vals, hl, hA with
  | [u, v], _, hA =>
    have p1 := hA 0 _ _ rfl rfl
    have p2 := hA 1 _ _ rfl rfl
    cases p1 with | fz _ _ p1 => cases p1; cases p2 with | fz _ _ p2 =>
      cases p2
      refine (Any.strconv_FormatInt_10 Tryz.laysM173 n h0 h1 w htab).mono ?_
      rintro e w' ⟨he, k, os, rfl⟩
      rw [itoa_eq n h0 h1] at he
      exact ext_below I (Lib.below_grow _ w (Nat.le_refl _) k os) he fun _ _ => .str _
theorem ext_idxbyte (tab : Nat → Nat) : ExtOk Tryz.prog tab 67 XName.idxbyte := by
  intro args r h w F σ γ vals I A
  obtain ⟨s, c, rfl, rfl⟩ : ∃ s c, args = [.str s, .int .u8 c] ∧ r = .int .i64 (Lib.indexByte s.data.toList c.toNat.toUInt8) := by
    have h : xIdxbyte args = some r := h
    unfold xIdxbyte at h
    split at h
    · cases h; exact ⟨_, _, rfl, rfl⟩
    · cases h
  obtain ⟨hl, hA⟩ := A
  match vals, hl, hA with
  | [u, v], _, hA =>
    have h1 := hA 0 _ _ rfl rfl
    have h2 := hA 1 _ _ rfl rfl
    cases h1 with | fz _ _ h1 => cases h1; cases h2 with | fz _ _ h2 =>
      cases h2
      refine (Any.strings_IndexByte Tryz.lays137 s c w).mono ?_
      rintro e w' ⟨rfl, rfl⟩
      exact ⟨_, γ, rfl, Step.refl _ γ (Nat.le_refl _), I, .fz _ _ (.int _ _), Fr.refl _ _⟩
theorem run_parse64 (tab : Nat → Nat) (s : ByteArray) (hs : s.size ≤ 281474976710656) {w : World} {F : Nat → Prop} {σ : St} {γ : List Gh} (I : Inv tab w F σ γ) :
    Calls Tryz.prog 43 #[.string s, .int .i64 10, .int .i64 64] w (CallPost tab F w σ γ (parseR 118 64 s.data.toList) σ) := by
  obtain ⟨t1, v1, hv1⟩ := ((I.gl 2).2.2 rfl).2
  obtain ⟨t2, v2, hv2⟩ := ((I.gl 3).2.2 rfl).2
  unfold parseR
  cases hp : Lib.parseIntB 64 s.data.toList with
  | ok v =>
    refine (Any.strconv_ParseInt_10_at64_ok Tryz.laysC174 s (by omega) v hp w).mono ?_
    rintro e w' ⟨he, hw⟩
    have hB : RowKit.Below w.heap.size w w' := by
      rcases hw with rfl | ⟨t, rfl⟩
      · exact RowKit.Below.refl _ _
      · exact Lib.bytesWorld_below _ _ _
    exact ext_below I hB he fun _ _ => rf_tup2 (.int _ _) .nilif
  | range =>
    refine (Any.strconv_ParseInt_10_at64_range Tryz.laysC174 s hs hp _ w hv2 (.inr ⟨_, _, rfl⟩)).mono ?_
    rintro e w' ⟨M, he, h1, h2, hB⟩
    exact ext_below I hB he fun I' _ => rf_tup2 (.int _ _) (rf_err I h1 h2)
  | _ =>
    refine (Any.strconv_ParseInt_10_at64_syntax Tryz.laysC174 s hs hp _ w hv1 (.inr ⟨_, _, rfl⟩)).mono ?_
    rintro e w' ⟨M, he, h1, h2, hB⟩
    exact ext_below I hB he fun I' _ => rf_tup2 (.int _ _) (rf_err I h1 h2)
theorem run_parse32 (tab : Nat → Nat) (s : ByteArray) (hs : s.size ≤ 281474976710656) {w : World} {F : Nat → Prop} {σ : St} {γ : List Gh} (I : Inv tab w F σ γ) :
    Calls Tryz.prog 43 #[.string s, .int .i64 10, .int .i64 32] w (CallPost tab F w σ γ (parseR 118 32 s.data.toList) σ) := by
  obtain ⟨t1, v1, hv1⟩ := ((I.gl 2).2.2 rfl).2
  obtain ⟨t2, v2, hv2⟩ := ((I.gl 3).2.2 rfl).2
  unfold parseR
  cases hp : Lib.parseIntB 32 s.data.toList with
  | ok v =>
    refine (Any.strconv_ParseInt_10_at32_ok Tryz.laysC174 s (by omega) v hp w).mono ?_
    rintro e w' ⟨he, hw⟩
    have hB : RowKit.Below w.heap.size w w' := by
      rcases hw with rfl | ⟨t, rfl⟩
      · exact RowKit.Below.refl _ _
      · exact Lib.bytesWorld_below _ _ _
    exact ext_below I hB he fun _ _ => rf_tup2 (.int _ _) .nilif
  | range =>
    refine (Any.strconv_ParseInt_10_at32_range Tryz.laysC174 s hs hp _ w hv2 (.inr ⟨_, _, rfl⟩)).mono ?_
    rintro e w' ⟨M, he, h1, h2, hB⟩
    exact ext_below I hB he fun I' _ => rf_tup2 (.int _ _) (rf_err I h1 h2)
  | _ =>
    refine (Any.strconv_ParseInt_10_at32_syntax Tryz.laysC174 s hs hp _ w hv1 (.inr ⟨_, _, rfl⟩)).mono ?_
    rintro e w' ⟨M, he, h1, h2, hB⟩
    exact ext_below I hB he fun I' _ => rf_tup2 (.int _ _) (rf_err I h1 h2)
theorem ext_parseint (tab : Nat → Nat) : ExtOk Tryz.prog tab 43 (XName.parseint 118) := by
  intro args r h w F σ γ vals I A
  obtain ⟨s, B, rfl, hB, hs, rfl⟩ : ∃ s B, args = [.str s, .int .i64 10, .int .i64 B] ∧ (B = 64 ∨ B = 32) ∧ s.size ≤ 281474976710656 ∧ r = parseR 118 B.toNat s.data.toList := by
    have h : xParseint 118 args = some r := h
    unfold xParseint at h
    split at h <;> first | (cases h; done) | skip
    split at h
    · rename_i hc; cases h; exact ⟨_, _, rfl, hc.1, hc.2, rfl⟩
    · cases h
  obtain ⟨hl, hA⟩ := A
  match vals, hl, hA with
  | [u, v, x], _, hA =>
    have h1 := hA 0 _ _ rfl rfl
    have h2 := hA 1 _ _ rfl rfl
    have h3 := hA 2 _ _ rfl rfl
    cases h1 with | fz _ _ h1 => cases h1; cases h2 with | fz _ _ h2 => cases h2; cases h3 with | fz _ _ h3 =>
      cases h3
      rcases hB with rfl | rfl
      · exact run_parse64 tab s hs I
      · exact run_parse32 tab s hs I
theorem xplainC_eq (c : Nat) : plainC c = (decide (32 ≤ c) && (decide (c ≤ 126) && (!decide (c = 34) && !decide (c = 92)))) := by
  unfold plainC
  have h1 : Nat.ble 32 c = decide (32 ≤ c) := by rw [Bool.eq_iff_iff]; simp [Nat.ble_eq]
  have h2 : Nat.ble c 126 = decide (c ≤ 126) := by rw [Bool.eq_iff_iff]; simp [Nat.ble_eq]
  have h3 : Nat.beq c 34 = decide (c = 34) := by rw [Bool.eq_iff_iff]; simp [Nat.beq_eq]
  have h4 : Nat.beq c 92 = decide (c = 92) := by rw [Bool.eq_iff_iff]; simp [Nat.beq_eq]
  rw [h1, h2, h3, h4]
set_option maxHeartbeats 4000000 in
set_option maxRecDepth 100000 in
theorem plain_walk (c : Nat) (hc : c < 256) (w : World) : Calls Tryz.prog 55 #[.int .u8 (c : Int)] w fun e w' => e = .returned (.bool (plainC c)) ∧ w' = w := by
  go_enter Tryz.func55, Tryz.ntmps55
  go_wp2
  all_goals go_ret
  all_goals (refine ⟨?_, rfl⟩; rw [xplainC_eq]; congr 2)
  · have : c = 34 := by omega
    subst this; rfl
  · have h1 : 32 ≤ c := by omega
    have h2 : c ≤ 126 := by omega
    have h3 : ((c : Int) != 34) = !decide (c = 34) := by
      rw [Bool.eq_iff_iff]; simp [bne]; omega
    have h4 : ((c : Int) != 92) = !decide (c = 92) := by
      rw [Bool.eq_iff_iff]; simp [bne]; omega
    rw [h3, h4]
    simp [h1, h2]
  · have h1 : ¬ c ≤ 126 := by omega
    simp [h1]
  · have h1 : ¬ 32 ≤ c := by omega
    simp [h1]
theorem xquoteC_len : ∀ l : List UInt8, (quoteC l).length ≤ 4 * l.length
  | [] => by simp [quoteC]
  | c :: r => by
    have := xquoteC_len r
    have h1 : (quote1 c).length ≤ 4 := by unfold quote1; cases plainC c.toNat <;> simp
    simp only [quoteC, List.length_append, List.length_cons]
    omega
theorem xquoteC_snoc : ∀ (l : List UInt8) (c : UInt8), quoteC (l ++ [c]) = quoteC l ++ quote1 c
  | [], c => by simp [quoteC]
  | x :: r, c => by simp [quoteC, xquoteC_snoc r c]
theorem hexq_all : ∀ n : Fin 16, (#[48, 49, 50, 51, 52, 53, 54, 55, 56, 57, 97, 98, 99, 100, 101, 102] : Array UInt8)[n] = hexC n.val := by decide +kernel
theorem hexq (n : Nat) (h : n < 16) : (⟨#[48, 49, 50, 51, 52, 53, 54, 55, 56, 57, 97, 98, 99, 100, 101, 102]⟩ : ByteArray)[n]'h = hexC n := hexq_all ⟨n, h⟩
set_option maxHeartbeats 4000000 in
set_option maxRecDepth 100000 in
theorem quote_walk (s : ByteArray) (w : World) (hs : s.size ≤ 1000000000) : Calls Tryz.prog 30 #[.string s] w fun e w' => e = .returned (.string ⟨(quoteL s.data.toList).toArray⟩) ∧ Below w.heap.size w w' := by
  go_enter Tryz.func30, Tryz.ntmps30
  go_wp2_with (go_at_call 54; refine (Any.Builder_WriteByte Tryz.quote_167 Tryz.quote_X w.heap.size w.heap.size [] 34 _ (Lib.fresh_isBuilder 78 5 w) (by simp) (by simp)).mono ?_)
  rintro e W1 ⟨rfl, h1, b1⟩
  go_wp2
  go_loopw [9] (fun i wr => ∃ k : Nat, k ≤ s.size ∧ i = .int .i64 k ∧ Lib.IsBuilder 78 5 w.heap.size w.heap.size (Lib.byteCells (34 :: quoteC (s.data.toList.take k))) wr ∧ Below w.heap.size w wr) (fun i _ => s.size - (intOf i).toNat)
  case atStart => exact ⟨0, Nat.zero_le _, rfl, Or.inr h1, ((Below.refl _ w).alloc (Nat.le_refl _) _).trans b1⟩
  case round =>
    have snoc : ∀ k (h : k < s.size), quoteC (s.data.toList.take (k + 1)) = quoteC (s.data.toList.take k) ++ quote1 s[k] := by
      intro k h
      have h' : k < s.data.toList.length := by simpa using h
      rw [List.take_succ_eq_append_getElem h', xquoteC_snoc]
      rfl
    obtain ⟨k, hk, rfl, hI, hbw⟩ := hrel
    have hlq := xquoteC_len (s.data.toList.take k)
    have hlt : (s.data.toList.take k).length ≤ k := by simp; omega
    by_cases hks : k < s.size
    · have hc : (s[k]).toNat < 256 := (s[k]).toNat_lt
      have hsz : w.heap.size ≤ wr.heap.size := hbw.size
      have hbl : (Lib.byteCells (34 :: quoteC (s.data.toList.take k))).length ≤ 4000000001 := by rw [Lib.byteCells_length, List.length_cons]; omega
      have h2 : (⟨#[92, 120]⟩ : ByteArray).size = 2 := rfl
      go_wp2_with (go_at_call 55; refine (plain_walk (s[k]).toNat hc wr).mono ?_)
      rintro e W2 ⟨rfl, rfl⟩
      cases hp : plainC (s[k]).toNat with
      | true =>
        go_wp2_with (go_at_call 54; refine (Any.Builder_WriteByte Tryz.quote_167 Tryz.quote_X w.heap.size w.heap.size _ _ W2 hI (by omega) hsz).mono ?_)
        rintro e W3 ⟨rfl, h3, b3⟩
        go_wp2
        go_roundw
        case rel =>
          refine ⟨k + 1, by omega, by go_num, ?_, hbw.trans b3⟩
          rw [snoc k hks]
          simp only [quote1, hp, cond_true]
          rw [show (34 :: (quoteC (s.data.toList.take k) ++ [s[k]])) = (34 :: quoteC (s.data.toList.take k)) ++ [s[k]] from rfl, Lib.byteCells_append]
          exact Or.inr h3
        case measure => simp [intOf]; omega
      | false =>
        go_wp2_with (go_at_call 56; refine (Any.Builder_WriteString Tryz.quote_166 Tryz.quote_X w.heap.size w.heap.size _ _ W2 hI (by omega) hsz).mono ?_)
        rintro e W3 ⟨rfl, h3, b3⟩
        have hsz3 := Nat.le_trans hsz b3.size
        go_wp2_with (go_at_call 54; refine (Any.Builder_WriteByte Tryz.quote_167 Tryz.quote_X w.heap.size w.heap.size _ _ W3 (Or.inr h3) (by rw [List.length_append, Lib.strCells_length]; omega) hsz3).mono ?_)
        rintro e W4 ⟨rfl, h4, b4⟩
        have hsz4 := Nat.le_trans hsz3 b4.size
        go_wp2_with (go_at_call 54; refine (Any.Builder_WriteByte Tryz.quote_167 Tryz.quote_X w.heap.size w.heap.size _ _ W4 (Or.inr h4) (by rw [List.length_append, List.length_append, Lib.strCells_length, List.length_singleton]; omega) hsz4).mono ?_)
        rintro e W5 ⟨rfl, h5, b5⟩
        go_wp2
        go_roundw
        case rel =>
          refine ⟨k + 1, by omega, by go_num, ?_, ((hbw.trans b3).trans b4).trans b5⟩
          rw [snoc k hks]
          simp only [quote1, hp, cond_false]
          rw [hexq _ (by omega), hexq _ (by omega)] at h5
          rw [show (34 :: (quoteC (s.data.toList.take k) ++ [92, 120, hexC ((s[k]).toNat / 16), hexC ((s[k]).toNat % 16)])) = (((34 :: quoteC (s.data.toList.take k)) ++ [92, 120]) ++ [hexC ((s[k]).toNat / 16)]) ++ [hexC ((s[k]).toNat % 16)] by simp, Lib.byteCells_append, Lib.byteCells_append, Lib.byteCells_append]
          exact Or.inr h5
        case measure => simp [intOf]; omega
    · have hk' : k = s.size := by omega
      subst hk'
      have hsz : w.heap.size ≤ wr.heap.size := hbw.size
      have hbl : (Lib.byteCells (34 :: quoteC (s.data.toList.take s.size))).length ≤ 4000000001 := by rw [Lib.byteCells_length, List.length_cons]; omega
      have htk : s.data.toList.take s.size = s.data.toList := List.take_of_length_le (by simp)
      go_wp2_with (go_at_call 54; refine (Any.Builder_WriteByte Tryz.quote_167 Tryz.quote_X w.heap.size w.heap.size _ _ wr hI (by omega) hsz).mono ?_)
      rintro e W2 ⟨rfl, h2, b2⟩
      go_wp2_with (go_at_call 57; refine (Any.Builder_String Tryz.quote_169 { Tryz.quote_X with } w.heap.size w.heap.size (34 :: (quoteC s.data.toList ++ [34])) W2 (Or.inr ?_) (by simp)).mono ?_)
      · rw [htk] at h2
        rw [show (34 :: (quoteC s.data.toList ++ [34])) = (34 :: quoteC s.data.toList) ++ [34] from rfl, Lib.byteCells_append]
        exact h2
      · rintro e W3 ⟨rfl, b3⟩
        go_wp2
        go_ret
        exact ⟨rfl, (hbw.trans b2).trans b3⟩
theorem ext_quote (tab : Nat → Nat) : ExtOk Tryz.prog tab 30 XName.quote := by
  intro args r h w F σ γ vals I A
  obtain ⟨s, rfl, hs, rfl⟩ : ∃ s, args = [.str s] ∧ s.size ≤ 1000000000 ∧ r = .str ⟨(quoteL s.data.toList).toArray⟩ := by
    have h : xQuote args = some r := h
    unfold xQuote at h
    split at h <;> first | (cases h; done) | skip
    split at h
    · rename_i hc; cases h; exact ⟨_, rfl, hc, rfl⟩
    · cases h
  obtain ⟨hl, hA⟩ := A
  match vals, hl, hA with
  | [u], _, hA =>
    have h1 := hA 0 _ _ rfl rfl
    cases h1 with | fz _ _ h1 =>
      cases h1
      refine (quote_walk s w hs).mono ?_
      rintro e w' ⟨he, hB⟩
      exact ext_below I hB he fun _ _ => .str _
theorem ext_rep (tab : Nat → Nat) : ExtOk Tryz.prog tab 59 XName.rep := by
  intro args r h w F σ γ vals I A
  obtain ⟨s, c, rfl, h0, h1, h2, rfl⟩ : ∃ s c, args = [.str s, .int .i64 c] ∧ 0 ≤ c ∧ c ≤ 9223372036854775807 ∧ s.size * c.toNat ≤ 140737488355328 ∧ r = .str ⟨(Lib.repeatL s.data.toList c.toNat).toArray⟩ := by
    have h : xRep args = some r := h
    unfold xRep at h
    split at h <;> first | (cases h; done) | skip
    split at h
    · rename_i hc; cases h; exact ⟨_, _, rfl, hc.1, hc.2.1, hc.2.2, rfl⟩
    · cases h
  obtain ⟨k, rfl⟩ : ∃ k : Nat, c = k := ⟨c.toNat, by omega⟩
  obtain ⟨hl, hA⟩ := A
  match vals, hl, hA with
  | [u, v], _, hA =>
    have p1 := hA 0 _ _ rfl rfl
    have p2 := hA 1 _ _ rfl rfl
    cases p1 with | fz _ _ p1 => cases p1; cases p2 with | fz _ _ p2 =>
      cases p2
      refine (Any.strings_Repeat Tryz.lays105 Tryz.Builder_Extra_105 s k w (by omega) (by simpa using h2)).mono ?_
      rintro e w' ⟨he, hB⟩
      exact ext_below I hB he fun _ _ => .str _
end Go.Den
