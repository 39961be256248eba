/- The contracts of the functions that are not walked, laid at this dump (by the kit's tool; mkx.py). -/
import Derived.BigCall
import Derived.Lib.AppendIntMem
import Derived.Shelf.Small.Strs
import Derived.Shelf.Strconv.ErrVarParseInt
import Derived.Shelf.Strconv.Itoa4
import Derived.Shelf.Strings.Builder2
import Derived.Shelf.Strings.Repeat
import Derived.WalkKit
import Derived.Test.YtimlnhpiddfbaaaDoorProg
import Derived.Test.YtimlnhpiddfbaaaDoorDenO
set_option linter.unusedSimpArgs false
set_option linter.unusedVariables false
namespace Go.Proofs
open Go.Shelf
def Tryd.lays213_ren : Go.Shelf.Ren := ⟨fun | 213 => 56 | 265 => 76 | n => n, fun | 9 => 9 | 3 => 3 | n => n, fun | n => n⟩
theorem Tryd.lays213 : Go.Proofs.Lays.n213 Tryd.prog Tryd.lays213_ren := {
  mixed := by kernel_rfl
  f213 := Tryd.func56.trans (congrArg some (by kernel_rfl))
  f265 := Tryd.func76.trans (congrArg some (by kernel_rfl))
  t3 := Tryd.underlying3
  a3 := Tryd.isAgg3
  z3 := Tryd.sizeOf3
  v3 := Tryd.zeroValue3
  t9 := Tryd.underlying9
  a9 := Tryd.isAgg9
  z9 := Tryd.sizeOf9
  v9 := Tryd.zeroValue9 }
def Tryd.laysM173_ren : Go.Shelf.Ren := ⟨fun | 173 => 34 | 246 => 54 | 283 => 72 | 284 => 73 | 285 => 74 | 286 => 75 | 129 => 89 | 317 => 88 | 318 => 90 | 319 => 91 | 320 => 92 | 337 => 95 | 338 => 96 | n => n, fun | 2 => 2 | 3 => 3 | 9 => 9 | 4 => 4 | 171 => 111 | 0 => 0 | 53 => 72 | 37 => 22 | 5 => 5 | 173 => 114 | 212 => 130 | 51 => 123 | 20 => 20 | 213 => 131 | 46 => 73 | 232 => 138 | 233 => 139 | n => n, fun | 17 => 3 | 18 => 4 | 19 => 5 | n => n⟩
theorem Tryd.laysM173 : Go.Proofs.LaysM.n173 Tryd.prog Tryd.laysM173_ren := {
  mixed := by kernel_rfl
  f129 := Tryd.func89.trans (congrArg some (by kernel_rfl))
  f173 := Tryd.func34.trans (congrArg some (by kernel_rfl))
  f246 := Tryd.func54.trans (congrArg some (by kernel_rfl))
  f283 := Tryd.func72.trans (congrArg some (by kernel_rfl))
  f284 := Tryd.func73.trans (congrArg some (by kernel_rfl))
  f285 := Tryd.func74.trans (congrArg some (by kernel_rfl))
  f286 := Tryd.func75.trans (congrArg some (by kernel_rfl))
  f317 := Tryd.func88.trans (congrArg some (by kernel_rfl))
  f318 := Tryd.func90.trans (congrArg some (by kernel_rfl))
  f319 := Tryd.func91.trans (congrArg some (by kernel_rfl))
  f320 := Tryd.func92.trans (congrArg some (by kernel_rfl))
  f337 := Tryd.func95.trans (congrArg some (by kernel_rfl))
  f338 := Tryd.func96.trans (congrArg some (by kernel_rfl))
  t0 := Tryd.underlying0
  a0 := Tryd.isAgg0
  z0 := Tryd.sizeOf0
  v0 := Tryd.zeroValue0
  t2 := Tryd.underlying2
  a2 := Tryd.isAgg2
  z2 := Tryd.sizeOf2
  v2 := Tryd.zeroValue2
  t3 := Tryd.underlying3
  a3 := Tryd.isAgg3
  z3 := Tryd.sizeOf3
  v3 := Tryd.zeroValue3
  t4 := Tryd.underlying4
  a4 := Tryd.isAgg4
  z4 := Tryd.sizeOf4
  v4 := Tryd.zeroValue4
  t5 := Tryd.underlying5
  a5 := Tryd.isAgg5
  z5 := Tryd.sizeOf5
  v5 := Tryd.zeroValue5
  t9 := Tryd.underlying9
  a9 := Tryd.isAgg9
  z9 := Tryd.sizeOf9
  v9 := Tryd.zeroValue9
  t20 := Tryd.underlying20
  a20 := Tryd.isAgg20
  z20 := Tryd.sizeOf20
  v20 := Tryd.zeroValue20
  t37 := Tryd.underlying22
  a37 := Tryd.isAgg22
  z37 := Tryd.sizeOf22
  v37 := Tryd.zeroValue22
  t46 := Tryd.underlying73
  a46 := Tryd.isAgg73
  z46 := Tryd.sizeOf73
  v46 := Tryd.zeroValue73
  t51 := Tryd.underlying123
  a51 := Tryd.isAgg123
  z51 := Tryd.sizeOf123
  v51 := Tryd.zeroValue123
  t53 := Tryd.underlying72
  a53 := Tryd.isAgg72
  z53 := Tryd.sizeOf72
  v53 := Tryd.zeroValue72
  t171 := Tryd.underlying111
  a171 := Tryd.isAgg111
  z171 := Tryd.sizeOf111
  v171 := Tryd.zeroValue111
  t173 := Tryd.underlying114
  a173 := Tryd.isAgg114
  z173 := Tryd.sizeOf114
  v173 := Tryd.zeroValue114
  t212 := Tryd.underlying130
  a212 := Tryd.isAgg130
  z212 := Tryd.sizeOf130
  v212 := Tryd.zeroValue130
  t213 := Tryd.underlying131
  a213 := Tryd.isAgg131
  z213 := Tryd.sizeOf131
  t232 := Tryd.underlying138
  a232 := Tryd.isAgg138
  z232 := Tryd.sizeOf138
  v232 := Tryd.zeroValue138
  t233 := Tryd.underlying139
  a233 := Tryd.isAgg139
  z233 := Tryd.sizeOf139
  v233 := Tryd.zeroValue139
  g17 := by kernel_rfl
  g18 := by kernel_rfl
  g19 := by kernel_rfl
  i0 := by kernel_rfl
  i2 := by kernel_rfl
  i3 := by kernel_rfl
  i4 := by kernel_rfl
  i5 := by kernel_rfl
  i9 := by kernel_rfl
  i20 := by kernel_rfl
  i37 := by kernel_rfl
  i46 := by kernel_rfl
  i51 := by kernel_rfl
  i53 := by kernel_rfl
  i171 := by kernel_rfl
  i173 := by kernel_rfl
  i212 := by kernel_rfl
  i232 := by kernel_rfl
  i233 := by kernel_rfl
  m17 := by kernel_rfl
  m18 := by kernel_rfl
  m19 := by kernel_rfl }
def Tryd.lays137_ren : Go.Shelf.Ren := ⟨fun | 137 => 44 | 217 => 61 | 266 => 77 | n => n, fun | 9 => 9 | 5 => 5 | 3 => 3 | n => n, fun | n => n⟩
theorem Tryd.lays137 : Go.Proofs.Lays.n137 Tryd.prog Tryd.lays137_ren := {
  mixed := by kernel_rfl
  f137 := Tryd.func44.trans (congrArg some (by kernel_rfl))
  f217 := Tryd.func61.trans (congrArg some (by kernel_rfl))
  f266 := Tryd.func77.trans (congrArg some (by kernel_rfl))
  t3 := Tryd.underlying3
  a3 := Tryd.isAgg3
  z3 := Tryd.sizeOf3
  v3 := Tryd.zeroValue3
  t5 := Tryd.underlying5
  a5 := Tryd.isAgg5
  z5 := Tryd.sizeOf5
  v5 := Tryd.zeroValue5
  t9 := Tryd.underlying9
  a9 := Tryd.isAgg9
  z9 := Tryd.sizeOf9
  v9 := Tryd.zeroValue9 }
def Tryd.laysC174_ren : Go.Shelf.Ren := ⟨fun | 174 => 29 | 247 => 46 | 245 => 47 | 287 => 62 | 279 => 63 | 280 => 64 | 281 => 65 | 282 => 66 | 321 => 78 | 322 => 79 | 316 => 80 | 171 => 82 | 205 => 81 | 243 => 93 | 246 => 54 | 283 => 72 | 284 => 73 | 285 => 74 | 286 => 75 | 129 => 89 | 317 => 88 | 318 => 90 | 319 => 91 | 320 => 92 | 337 => 95 | 338 => 96 | n => n, fun | 9 => 9 | 3 => 3 | 2 => 2 | 75 => 58 | 85 => 59 | 4 => 4 | 167 => 98 | 5 => 5 | 53 => 72 | 175 => 99 | 46 => 73 | 168 => 101 | 37 => 22 | 0 => 0 | 210 => 119 | 21 => 21 | 127 => 104 | 145 => 135 | 143 => 133 | 171 => 111 | 173 => 114 | 212 => 130 | 51 => 123 | 20 => 20 | 213 => 131 | 232 => 138 | 233 => 139 | 80 => 88 | n => n, fun | 15 => 1 | 16 => 2 | 17 => 3 | 18 => 4 | 19 => 5 | n => n⟩
theorem Tryd.laysC174 : Go.Proofs.LaysC.n174 Tryd.prog Tryd.laysC174_ren := {
  mixed := by kernel_rfl
  f129 := Tryd.func89.trans (congrArg some (by kernel_rfl))
  f171 := Tryd.func82.trans (congrArg some (by kernel_rfl))
  f174 := Tryd.func29.trans (congrArg some (by kernel_rfl))
  f205 := Tryd.func81.trans (congrArg some (by kernel_rfl))
  f243 := Tryd.func93.trans (congrArg some (by kernel_rfl))
  f245 := Tryd.func47.trans (congrArg some (by kernel_rfl))
  f246 := Tryd.func54.trans (congrArg some (by kernel_rfl))
  f247 := Tryd.func46.trans (congrArg some (by kernel_rfl))
  f279 := Tryd.func63.trans (congrArg some (by kernel_rfl))
  f280 := Tryd.func64.trans (congrArg some (by kernel_rfl))
  f281 := Tryd.func65.trans (congrArg some (by kernel_rfl))
  f282 := Tryd.func66.trans (congrArg some (by kernel_rfl))
  f283 := Tryd.func72.trans (congrArg some (by kernel_rfl))
  f284 := Tryd.func73.trans (congrArg some (by kernel_rfl))
  f285 := Tryd.func74.trans (congrArg some (by kernel_rfl))
  f286 := Tryd.func75.trans (congrArg some (by kernel_rfl))
  f287 := Tryd.func62.trans (congrArg some (by kernel_rfl))
  f316 := Tryd.func80.trans (congrArg some (by kernel_rfl))
  f317 := Tryd.func88.trans (congrArg some (by kernel_rfl))
  f318 := Tryd.func90.trans (congrArg some (by kernel_rfl))
  f319 := Tryd.func91.trans (congrArg some (by kernel_rfl))
  f320 := Tryd.func92.trans (congrArg some (by kernel_rfl))
  f321 := Tryd.func78.trans (congrArg some (by kernel_rfl))
  f322 := Tryd.func79.trans (congrArg some (by kernel_rfl))
  f337 := Tryd.func95.trans (congrArg some (by kernel_rfl))
  f338 := Tryd.func96.trans (congrArg some (by kernel_rfl))
  t0 := Tryd.underlying0
  a0 := Tryd.isAgg0
  z0 := Tryd.sizeOf0
  v0 := Tryd.zeroValue0
  t2 := Tryd.underlying2
  a2 := Tryd.isAgg2
  z2 := Tryd.sizeOf2
  v2 := Tryd.zeroValue2
  t3 := Tryd.underlying3
  a3 := Tryd.isAgg3
  z3 := Tryd.sizeOf3
  v3 := Tryd.zeroValue3
  t4 := Tryd.underlying4
  a4 := Tryd.isAgg4
  z4 := Tryd.sizeOf4
  v4 := Tryd.zeroValue4
  t5 := Tryd.underlying5
  a5 := Tryd.isAgg5
  z5 := Tryd.sizeOf5
  v5 := Tryd.zeroValue5
  t9 := Tryd.underlying9
  a9 := Tryd.isAgg9
  z9 := Tryd.sizeOf9
  v9 := Tryd.zeroValue9
  t20 := Tryd.underlying20
  a20 := Tryd.isAgg20
  z20 := Tryd.sizeOf20
  v20 := Tryd.zeroValue20
  t21 := Tryd.underlying21
  a21 := Tryd.isAgg21
  z21 := Tryd.sizeOf21
  v21 := Tryd.zeroValue21
  t37 := Tryd.underlying22
  a37 := Tryd.isAgg22
  z37 := Tryd.sizeOf22
  v37 := Tryd.zeroValue22
  t46 := Tryd.underlying73
  a46 := Tryd.isAgg73
  z46 := Tryd.sizeOf73
  v46 := Tryd.zeroValue73
  t51 := Tryd.underlying123
  a51 := Tryd.isAgg123
  z51 := Tryd.sizeOf123
  v51 := Tryd.zeroValue123
  t53 := Tryd.underlying72
  a53 := Tryd.isAgg72
  z53 := Tryd.sizeOf72
  v53 := Tryd.zeroValue72
  t75 := Tryd.underlying58
  a75 := Tryd.isAgg58
  z75 := Tryd.sizeOf58
  v75 := Tryd.zeroValue58
  t85 := Tryd.underlying59
  a85 := Tryd.isAgg59
  z85 := Tryd.sizeOf59
  v85 := Tryd.zeroValue59
  t127 := Tryd.underlying104
  a127 := Tryd.isAgg104
  z127 := Tryd.sizeOf104
  v127 := Tryd.zeroValue104
  t143 := Tryd.underlying133
  a143 := Tryd.isAgg133
  z143 := Tryd.sizeOf133
  v143 := Tryd.zeroValue133
  t145 := Tryd.underlying135
  a145 := Tryd.isAgg135
  z145 := Tryd.sizeOf135
  v145 := Tryd.zeroValue135
  t167 := Tryd.underlying98
  a167 := Tryd.isAgg98
  z167 := Tryd.sizeOf98
  v167 := Tryd.zeroValue98
  t168 := Tryd.underlying101
  a168 := Tryd.isAgg101
  z168 := Tryd.sizeOf101
  v168 := Tryd.zeroValue101
  t171 := Tryd.underlying111
  a171 := Tryd.isAgg111
  z171 := Tryd.sizeOf111
  v171 := Tryd.zeroValue111
  t173 := Tryd.underlying114
  a173 := Tryd.isAgg114
  z173 := Tryd.sizeOf114
  v173 := Tryd.zeroValue114
  t175 := Tryd.underlying99
  a175 := Tryd.isAgg99
  z175 := Tryd.sizeOf99
  v175 := Tryd.zeroValue99
  t210 := Tryd.underlying119
  a210 := Tryd.isAgg119
  z210 := Tryd.sizeOf119
  v210 := Tryd.zeroValue119
  t212 := Tryd.underlying130
  a212 := Tryd.isAgg130
  z212 := Tryd.sizeOf130
  v212 := Tryd.zeroValue130
  t213 := Tryd.underlying131
  a213 := Tryd.isAgg131
  z213 := Tryd.sizeOf131
  t232 := Tryd.underlying138
  a232 := Tryd.isAgg138
  z232 := Tryd.sizeOf138
  v232 := Tryd.zeroValue138
  t233 := Tryd.underlying139
  a233 := Tryd.isAgg139
  z233 := Tryd.sizeOf139
  v233 := Tryd.zeroValue139
  g15 := by kernel_rfl
  g16 := by kernel_rfl
  g17 := by kernel_rfl
  g18 := by kernel_rfl
  g19 := by kernel_rfl
  t80 := Tryd.underlying88
  a80 := Tryd.isAgg88
  z80 := Tryd.sizeOf88
  v80 := Tryd.zeroValue88
  i0 := by kernel_rfl
  i2 := by kernel_rfl
  i3 := by kernel_rfl
  i4 := by kernel_rfl
  i5 := by kernel_rfl
  i9 := by kernel_rfl
  i20 := by kernel_rfl
  i21 := by kernel_rfl
  i37 := by kernel_rfl
  i46 := by kernel_rfl
  i51 := by kernel_rfl
  i53 := by kernel_rfl
  i75 := by kernel_rfl
  i80 := by kernel_rfl
  i85 := by kernel_rfl
  i127 := by kernel_rfl
  i143 := by kernel_rfl
  i145 := by kernel_rfl
  i167 := by kernel_rfl
  i168 := by kernel_rfl
  i171 := by kernel_rfl
  i173 := by kernel_rfl
  i175 := by kernel_rfl
  i210 := by kernel_rfl
  i212 := by kernel_rfl
  i232 := by kernel_rfl
  i233 := by kernel_rfl
  m15 := by kernel_rfl
  m16 := by kernel_rfl
  m17 := by kernel_rfl
  m18 := by kernel_rfl
  m19 := by kernel_rfl
  c0 := by kernel_rfl
  c2 := by kernel_rfl
  c3 := by kernel_rfl
  c4 := by kernel_rfl
  c5 := by kernel_rfl
  c9 := by kernel_rfl
  c20 := by kernel_rfl
  c21 := by kernel_rfl
  c37 := by kernel_rfl
  c46 := by kernel_rfl
  c51 := by kernel_rfl
  c53 := by kernel_rfl
  c75 := by kernel_rfl
  c80 := by kernel_rfl
  c85 := by kernel_rfl
  c127 := by kernel_rfl
  c143 := by kernel_rfl
  c145 := by kernel_rfl
  c167 := by kernel_rfl
  c168 := by kernel_rfl
  c171 := by kernel_rfl
  c173 := by kernel_rfl
  c175 := by kernel_rfl
  c210 := by kernel_rfl
  c212 := by kernel_rfl
  c213 := by kernel_rfl
  c232 := by kernel_rfl
  c233 := by kernel_rfl }
def Tryd.quote_ren : Go.Shelf.Ren := ⟨fun | 166 => 50 | 167 => 49 | 169 => 51 | 240 => 67 | 276 => 83 | n => n, fun | 9 => 9 | 3 => 3 | 4 => 4 | 20 => 20 | 0 => 0 | 46 => 73 | 109 => 105 | 5 => 5 | 72 => 84 | 76 => 86 | 51 => 123 | 146 => 124 | 53 => 72 | 148 => 126 | 70 => 82 | 37 => 22 | 75 => 58 | 127 => 104 | 164 => 121 | 80 => 88 | n => n, fun | n => n⟩
theorem Tryd.quote_166 : Go.Proofs.Lays.n166 Tryd.prog Tryd.quote_ren := {
  mixed := by kernel_rfl
  f166 := Tryd.func50.trans (congrArg some (by kernel_rfl))
  f240 := Tryd.func67.trans (congrArg some (by kernel_rfl))
  f276 := Tryd.func83.trans (congrArg some (by kernel_rfl))
  t0 := Tryd.underlying0
  a0 := Tryd.isAgg0
  z0 := Tryd.sizeOf0
  v0 := Tryd.zeroValue0
  t3 := Tryd.underlying3
  a3 := Tryd.isAgg3
  z3 := Tryd.sizeOf3
  v3 := Tryd.zeroValue3
  t4 := Tryd.underlying4
  a4 := Tryd.isAgg4
  z4 := Tryd.sizeOf4
  v4 := Tryd.zeroValue4
  t9 := Tryd.underlying9
  a9 := Tryd.isAgg9
  z9 := Tryd.sizeOf9
  v9 := Tryd.zeroValue9
  t20 := Tryd.underlying20
  a20 := Tryd.isAgg20
  z20 := Tryd.sizeOf20
  v20 := Tryd.zeroValue20
  t37 := Tryd.underlying22
  a37 := Tryd.isAgg22
  z37 := Tryd.sizeOf22
  v37 := Tryd.zeroValue22
  t70 := Tryd.underlying82
  a70 := Tryd.isAgg82
  z70 := Tryd.sizeOf82
  v70 := Tryd.zeroValue82
  t72 := Tryd.underlying84
  a72 := Tryd.isAgg84
  z72 := Tryd.sizeOf84
  v72 := Tryd.zeroValue84
  t75 := Tryd.underlying58
  a75 := Tryd.isAgg58
  z75 := Tryd.sizeOf58
  v75 := Tryd.zeroValue58
  t164 := Tryd.underlying121
  a164 := Tryd.isAgg121
  z164 := Tryd.sizeOf121
  v164 := Tryd.zeroValue121 }
theorem Tryd.quote_167 : Go.Proofs.Lays.n167 Tryd.prog Tryd.quote_ren := {
  mixed := by kernel_rfl
  f167 := Tryd.func49.trans (congrArg some (by kernel_rfl))
  f240 := Tryd.func67.trans (congrArg some (by kernel_rfl))
  f276 := Tryd.func83.trans (congrArg some (by kernel_rfl))
  t0 := Tryd.underlying0
  a0 := Tryd.isAgg0
  z0 := Tryd.sizeOf0
  v0 := Tryd.zeroValue0
  t4 := Tryd.underlying4
  a4 := Tryd.isAgg4
  z4 := Tryd.sizeOf4
  v4 := Tryd.zeroValue4
  t5 := Tryd.underlying5
  a5 := Tryd.isAgg5
  z5 := Tryd.sizeOf5
  v5 := Tryd.zeroValue5
  t9 := Tryd.underlying9
  a9 := Tryd.isAgg9
  z9 := Tryd.sizeOf9
  v9 := Tryd.zeroValue9
  t20 := Tryd.underlying20
  a20 := Tryd.isAgg20
  z20 := Tryd.sizeOf20
  v20 := Tryd.zeroValue20
  t37 := Tryd.underlying22
  a37 := Tryd.isAgg22
  z37 := Tryd.sizeOf22
  v37 := Tryd.zeroValue22
  t70 := Tryd.underlying82
  a70 := Tryd.isAgg82
  z70 := Tryd.sizeOf82
  v70 := Tryd.zeroValue82
  t72 := Tryd.underlying84
  a72 := Tryd.isAgg84
  z72 := Tryd.sizeOf84
  v72 := Tryd.zeroValue84
  t75 := Tryd.underlying58
  a75 := Tryd.isAgg58
  z75 := Tryd.sizeOf58
  v75 := Tryd.zeroValue58
  t164 := Tryd.underlying121
  a164 := Tryd.isAgg121
  z164 := Tryd.sizeOf121
  v164 := Tryd.zeroValue121 }
theorem Tryd.quote_169 : Go.Proofs.Lays.n169 Tryd.prog Tryd.quote_ren := {
  mixed := by kernel_rfl
  f169 := Tryd.func51.trans (congrArg some (by kernel_rfl))
  t0 := Tryd.underlying0
  a0 := Tryd.isAgg0
  z0 := Tryd.sizeOf0
  v0 := Tryd.zeroValue0
  t3 := Tryd.underlying3
  a3 := Tryd.isAgg3
  z3 := Tryd.sizeOf3
  v3 := Tryd.zeroValue3
  t9 := Tryd.underlying9
  a9 := Tryd.isAgg9
  z9 := Tryd.sizeOf9
  v9 := Tryd.zeroValue9
  t37 := Tryd.underlying22
  a37 := Tryd.isAgg22
  z37 := Tryd.sizeOf22
  v37 := Tryd.zeroValue22
  t70 := Tryd.underlying82
  a70 := Tryd.isAgg82
  z70 := Tryd.sizeOf82
  v70 := Tryd.zeroValue82
  t72 := Tryd.underlying84
  a72 := Tryd.isAgg84
  z72 := Tryd.sizeOf84
  v72 := Tryd.zeroValue84
  t127 := Tryd.underlying104
  a127 := Tryd.isAgg104
  z127 := Tryd.sizeOf104
  v127 := Tryd.zeroValue104 }
theorem Tryd.quote_X : Builder.Extra Tryd.prog Tryd.quote_ren := {
  sizeBuilder := by kernel_rfl
  liesBuilder := by kernel_rfl
  t5 := Tryd.underlying5
  a5 := Tryd.isAgg5
  z5 := Tryd.sizeOf5
  v5 := Tryd.zeroValue5
  infoByte := by kernel_rfl
  cellsByte := by kernel_rfl
  sizeByte := by kernel_rfl
  neB5 := by decide }
def Tryd.lays105_ren : Go.Shelf.Ren := ⟨fun | 105 => 53 | 212 => 68 | 99 => 69 | 165 => 70 | 166 => 50 | 170 => 71 | 169 => 51 | 263 => 84 | 264 => 85 | 206 => 86 | 240 => 67 | 241 => 87 | 276 => 83 | 277 => 94 | n => n, fun | 9 => 9 | 3 => 3 | 4 => 4 | 20 => 20 | 0 => 0 | 46 => 73 | 109 => 105 | 5 => 5 | 72 => 84 | 76 => 86 | 51 => 123 | 146 => 124 | 53 => 72 | 148 => 126 | 70 => 82 | 37 => 22 | 75 => 58 | 127 => 104 | 164 => 121 | 80 => 88 | n => n, fun | n => n⟩
theorem Tryd.lays105 : Go.Proofs.Lays.n105 Tryd.prog Tryd.lays105_ren := {
  mixed := by kernel_rfl
  f99 := Tryd.func69.trans (congrArg some (by kernel_rfl))
  f105 := Tryd.func53.trans (congrArg some (by kernel_rfl))
  f165 := Tryd.func70.trans (congrArg some (by kernel_rfl))
  f166 := Tryd.func50.trans (congrArg some (by kernel_rfl))
  f169 := Tryd.func51.trans (congrArg some (by kernel_rfl))
  f170 := Tryd.func71.trans (congrArg some (by kernel_rfl))
  f206 := Tryd.func86.trans (congrArg some (by kernel_rfl))
  f212 := Tryd.func68.trans (congrArg some (by kernel_rfl))
  f240 := Tryd.func67.trans (congrArg some (by kernel_rfl))
  f241 := Tryd.func87.trans (congrArg some (by kernel_rfl))
  f263 := Tryd.func84.trans (congrArg some (by kernel_rfl))
  f264 := Tryd.func85.trans (congrArg some (by kernel_rfl))
  f276 := Tryd.func83.trans (congrArg some (by kernel_rfl))
  f277 := Tryd.func94.trans (congrArg some (by kernel_rfl))
  t0 := Tryd.underlying0
  a0 := Tryd.isAgg0
  z0 := Tryd.sizeOf0
  v0 := Tryd.zeroValue0
  t3 := Tryd.underlying3
  a3 := Tryd.isAgg3
  z3 := Tryd.sizeOf3
  v3 := Tryd.zeroValue3
  t4 := Tryd.underlying4
  a4 := Tryd.isAgg4
  z4 := Tryd.sizeOf4
  v4 := Tryd.zeroValue4
  t5 := Tryd.underlying5
  a5 := Tryd.isAgg5
  z5 := Tryd.sizeOf5
  v5 := Tryd.zeroValue5
  t9 := Tryd.underlying9
  a9 := Tryd.isAgg9
  z9 := Tryd.sizeOf9
  v9 := Tryd.zeroValue9
  t20 := Tryd.underlying20
  a20 := Tryd.isAgg20
  z20 := Tryd.sizeOf20
  v20 := Tryd.zeroValue20
  t37 := Tryd.underlying22
  a37 := Tryd.isAgg22
  z37 := Tryd.sizeOf22
  v37 := Tryd.zeroValue22
  t46 := Tryd.underlying73
  a46 := Tryd.isAgg73
  z46 := Tryd.sizeOf73
  v46 := Tryd.zeroValue73
  t51 := Tryd.underlying123
  a51 := Tryd.isAgg123
  z51 := Tryd.sizeOf123
  v51 := Tryd.zeroValue123
  t53 := Tryd.underlying72
  a53 := Tryd.isAgg72
  z53 := Tryd.sizeOf72
  v53 := Tryd.zeroValue72
  t70 := Tryd.underlying82
  a70 := Tryd.isAgg82
  z70 := Tryd.sizeOf82
  v70 := Tryd.zeroValue82
  t72 := Tryd.underlying84
  a72 := Tryd.isAgg84
  z72 := Tryd.sizeOf84
  v72 := Tryd.zeroValue84
  t75 := Tryd.underlying58
  a75 := Tryd.isAgg58
  z75 := Tryd.sizeOf58
  v75 := Tryd.zeroValue58
  t76 := Tryd.underlying86
  a76 := Tryd.isAgg86
  z76 := Tryd.sizeOf86
  v76 := Tryd.zeroValue86
  t109 := Tryd.underlying105
  a109 := Tryd.isAgg105
  z109 := Tryd.sizeOf105
  v109 := Tryd.zeroValue105
  t127 := Tryd.underlying104
  a127 := Tryd.isAgg104
  z127 := Tryd.sizeOf104
  v127 := Tryd.zeroValue104
  t146 := Tryd.underlying124
  a146 := Tryd.isAgg124
  z146 := Tryd.sizeOf124
  v146 := Tryd.zeroValue124
  t148 := Tryd.underlying126
  a148 := Tryd.isAgg126
  z148 := Tryd.sizeOf126
  v148 := Tryd.zeroValue126
  t164 := Tryd.underlying121
  a164 := Tryd.isAgg121
  z164 := Tryd.sizeOf121
  v164 := Tryd.zeroValue121 }
theorem Tryd.Builder_Extra_105 : Builder.Extra Tryd.prog Tryd.lays105_ren := {
  sizeBuilder := by kernel_rfl
  liesBuilder := by kernel_rfl
  t5 := Tryd.underlying5
  a5 := Tryd.isAgg5
  z5 := Tryd.sizeOf5
  v5 := Tryd.zeroValue5
  infoByte := by kernel_rfl
  cellsByte := by kernel_rfl
  sizeByte := by kernel_rfl
  neB5 := by decide }
end Go.Proofs
namespace Go.Den
open Go Go.Proofs Go.RowKit
theorem ext_cmpstr (tab : Nat → Nat) : ExtOk Tryd.prog tab 56 XName.cmpstr := by
  intro args r h w F σ γ vals I A
  obtain ⟨s, t, rfl, rfl⟩ : ∃ s t, args = [.str s, .str t] ∧ r = .int .i64 (Lib.compareBytes s.data.toList t.data.toList) := by
    have h : xCmpstr args = some r := h
    unfold xCmpstr at h
    split at h
    · cases h; exact ⟨_, _, rfl, rfl⟩
    · cases h
  obtain ⟨hl, hA⟩ := A
  match vals, hl, hA with
  | [u, v], _, hA =>
    have h1 := hA 0 _ _ rfl rfl
    have h2 := hA 1 _ _ rfl rfl
    cases h1 with | fz _ _ h1 => cases h1; cases h2 with | fz _ _ h2 =>
      cases h2
      refine (Any.bytealg_CompareString Tryd.lays213 s t w).mono ?_
      rintro e w' ⟨rfl, rfl⟩
      exact ⟨_, γ, rfl, Step.refl _ γ (Nat.le_refl _), I, .fz _ _ (.int _ _), Fr.refl _ _⟩
theorem dec_eq : ∀ (f u : Nat), u < 10 ^ f → 0 < f → Lib.decDigits u = decF f u
  | 0, _, _, h => absurd h (by simp)
  | f + 1, u, hu, _ => by
    rw [Lib.decDigits, decF]
    by_cases h : u < 10
    · rw [dif_pos h, if_pos h]
    · rw [dif_neg h, if_neg h, dec_eq f (u / 10) (by rw [Nat.pow_succ] at hu; omega) (by
        cases f with
        | zero => simp at hu; omega
        | succ f => omega)]
theorem itoa_eq (n : Int) (h0 : -9223372036854775808 ≤ n) (h1 : n ≤ 9223372036854775807) : Lib.itoa n = itoaF n := by
  unfold Lib.itoa itoaF
  have hp : (10 : Nat) ^ 20 = 100000000000000000000 := by decide
  rw [dec_eq 20 n.natAbs (by omega) (by decide), dec_eq 20 n.toNat (by omega) (by decide)]
theorem ext_fmtint (tab : Nat → Nat) : ExtOk Tryd.prog tab 34 XName.fmtint := by
  intro args r h w F σ γ vals I A
  obtain ⟨n, rfl, h0, h1, rfl⟩ : ∃ n, args = [.int .i64 n, .int .i64 10] ∧ -9223372036854775808 ≤ n ∧ n ≤ 9223372036854775807 ∧ r = .str ⟨(itoaF n).toArray⟩ := by
    have h : xFmtint args = some r := h
    unfold xFmtint at h
    split at h <;> first | (cases h; done) | skip
    split at h
    · rename_i hc; cases h; exact ⟨_, rfl, hc.1, hc.2, rfl⟩
    · cases h
  have htab : Lib.TabIs Tryd.prog w "internal/strconv.uint64pow10" .u64 Lib.pow10Tab := by
    obtain ⟨ty, fr, hh⟩ := gl_vals I.gl (g := 3) rfl
    have hg : Tryd.prog.globalNamed "internal/strconv.uint64pow10" = some 3 := by kernel_rfl
    unfold Lib.TabIs World.var?
    rw [hg]
    simp only [Option.bind_some]
    rw [hh]
    exact congrArg some (by kernel_rfl)
  obtain ⟨hl, hA⟩ := A
  match vals, hl, hA with
  | [u, v], _, hA =>
    have p1 := hA 0 _ _ rfl rfl
    have p2 := hA 1 _ _ rfl rfl
    cases p1 with | fz _ _ p1 => cases p1; cases p2 with | fz _ _ p2 =>
      cases p2
      refine (Any.strconv_FormatInt_10 Tryd.laysM173 n h0 h1 w htab).mono ?_
      rintro e w' ⟨he, k, os, rfl⟩
      rw [itoa_eq n h0 h1] at he
      exact ext_below I (Lib.below_grow _ w (Nat.le_refl _) k os) he fun _ _ => .str _
theorem ext_idxbyte (tab : Nat → Nat) : ExtOk Tryd.prog tab 44 XName.idxbyte := by
  intro args r h w F σ γ vals I A
  obtain ⟨s, c, rfl, rfl⟩ : ∃ s c, args = [.str s, .int .u8 c] ∧ r = .int .i64 (Lib.indexByte s.data.toList c.toNat.toUInt8) := by
    have h : xIdxbyte args = some r := h
    unfold xIdxbyte at h
    split at h
    · cases h; exact ⟨_, _, rfl, rfl⟩
    · cases h
  obtain ⟨hl, hA⟩ := A
  match vals, hl, hA with
  | [u, v], _, hA =>
    have h1 := hA 0 _ _ rfl rfl
    have h2 := hA 1 _ _ rfl rfl
    cases h1 with | fz _ _ h1 => cases h1; cases h2 with | fz _ _ h2 =>
      cases h2
      refine (Any.strings_IndexByte Tryd.lays137 s c w).mono ?_
      rintro e w' ⟨rfl, rfl⟩
      exact ⟨_, γ, rfl, Step.refl _ γ (Nat.le_refl _), I, .fz _ _ (.int _ _), Fr.refl _ _⟩
theorem run_parse64 (tab : Nat → Nat) (s : ByteArray) (hs : s.size ≤ 281474976710656) {w : World} {F : Nat → Prop} {σ : St} {γ : List Gh} (I : Inv tab w F σ γ) :
    Calls Tryd.prog 29 #[.string s, .int .i64 10, .int .i64 64] w (CallPost tab F w σ γ (parseR 101 64 s.data.toList) σ) := by
  obtain ⟨t1, v1, hv1⟩ := ((I.gl 1).2.2 rfl).2
  obtain ⟨t2, v2, hv2⟩ := ((I.gl 2).2.2 rfl).2
  unfold parseR
  cases hp : Lib.parseIntB 64 s.data.toList with
  | ok v =>
    refine (Any.strconv_ParseInt_10_at64_ok Tryd.laysC174 s (by omega) v hp w).mono ?_
    rintro e w' ⟨he, hw⟩
    have hB : RowKit.Below w.heap.size w w' := by
      rcases hw with rfl | ⟨t, rfl⟩
      · exact RowKit.Below.refl _ _
      · exact Lib.bytesWorld_below _ _ _
    exact ext_below I hB he fun _ _ => rf_tup2 (.int _ _) .nilif
  | range =>
    refine (Any.strconv_ParseInt_10_at64_range Tryd.laysC174 s hs hp _ w hv2 (.inr ⟨_, _, rfl⟩)).mono ?_
    rintro e w' ⟨M, he, h1, h2, hB⟩
    exact ext_below I hB he fun I' _ => rf_tup2 (.int _ _) (rf_err I h1 h2)
  | _ =>
    refine (Any.strconv_ParseInt_10_at64_syntax Tryd.laysC174 s hs hp _ w hv1 (.inr ⟨_, _, rfl⟩)).mono ?_
    rintro e w' ⟨M, he, h1, h2, hB⟩
    exact ext_below I hB he fun I' _ => rf_tup2 (.int _ _) (rf_err I h1 h2)
theorem run_parse32 (tab : Nat → Nat) (s : ByteArray) (hs : s.size ≤ 281474976710656) {w : World} {F : Nat → Prop} {σ : St} {γ : List Gh} (I : Inv tab w F σ γ) :
    Calls Tryd.prog 29 #[.string s, .int .i64 10, .int .i64 32] w (CallPost tab F w σ γ (parseR 101 32 s.data.toList) σ) := by
  obtain ⟨t1, v1, hv1⟩ := ((I.gl 1).2.2 rfl).2
  obtain ⟨t2, v2, hv2⟩ := ((I.gl 2).2.2 rfl).2
  unfold parseR
  cases hp : Lib.parseIntB 32 s.data.toList with
  | ok v =>
    refine (Any.strconv_ParseInt_10_at32_ok Tryd.laysC174 s (by omega) v hp w).mono ?_
    rintro e w' ⟨he, hw⟩
    have hB : RowKit.Below w.heap.size w w' := by
      rcases hw with rfl | ⟨t, rfl⟩
      · exact RowKit.Below.refl _ _
      · exact Lib.bytesWorld_below _ _ _
    exact ext_below I hB he fun _ _ => rf_tup2 (.int _ _) .nilif
  | range =>
    refine (Any.strconv_ParseInt_10_at32_range Tryd.laysC174 s hs hp _ w hv2 (.inr ⟨_, _, rfl⟩)).mono ?_
    rintro e w' ⟨M, he, h1, h2, hB⟩
    exact ext_below I hB he fun I' _ => rf_tup2 (.int _ _) (rf_err I h1 h2)
  | _ =>
    refine (Any.strconv_ParseInt_10_at32_syntax Tryd.laysC174 s hs hp _ w hv1 (.inr ⟨_, _, rfl⟩)).mono ?_
    rintro e w' ⟨M, he, h1, h2, hB⟩
    exact ext_below I hB he fun I' _ => rf_tup2 (.int _ _) (rf_err I h1 h2)
theorem ext_parseint (tab : Nat → Nat) : ExtOk Tryd.prog tab 29 (XName.parseint 101) := by
  intro args r h w F σ γ vals I A
  obtain ⟨s, B, rfl, hB, hs, rfl⟩ : ∃ s B, args = [.str s, .int .i64 10, .int .i64 B] ∧ (B = 64 ∨ B = 32) ∧ s.size ≤ 281474976710656 ∧ r = parseR 101 B.toNat s.data.toList := by
    have h : xParseint 101 args = some r := h
    unfold xParseint at h
    split at h <;> first | (cases h; done) | skip
    split at h
    · rename_i hc; cases h; exact ⟨_, _, rfl, hc.1, hc.2, rfl⟩
    · cases h
  obtain ⟨hl, hA⟩ := A
  match vals, hl, hA with
  | [u, v, x], _, hA =>
    have h1 := hA 0 _ _ rfl rfl
    have h2 := hA 1 _ _ rfl rfl
    have h3 := hA 2 _ _ rfl rfl
    cases h1 with | fz _ _ h1 => cases h1; cases h2 with | fz _ _ h2 => cases h2; cases h3 with | fz _ _ h3 =>
      cases h3
      rcases hB with rfl | rfl
      · exact run_parse64 tab s hs I
      · exact run_parse32 tab s hs I
theorem xplainC_eq (c : Nat) : plainC c = (decide (32 ≤ c) && (decide (c ≤ 126) && (!decide (c = 34) && !decide (c = 92)))) := by
  unfold plainC
  have h1 : Nat.ble 32 c = decide (32 ≤ c) := by rw [Bool.eq_iff_iff]; simp [Nat.ble_eq]
  have h2 : Nat.ble c 126 = decide (c ≤ 126) := by rw [Bool.eq_iff_iff]; simp [Nat.ble_eq]
  have h3 : Nat.beq c 34 = decide (c = 34) := by rw [Bool.eq_iff_iff]; simp [Nat.beq_eq]
  have h4 : Nat.beq c 92 = decide (c = 92) := by rw [Bool.eq_iff_iff]; simp [Nat.beq_eq]
  rw [h1, h2, h3, h4]
set_option maxHeartbeats 4000000 in
set_option maxRecDepth 100000 in
theorem plain_walk (c : Nat) (hc : c < 256) (w : World) : Calls Tryd.prog 43 #[.int .u8 (c : Int)] w fun e w' => e = .returned (.bool (plainC c)) ∧ w' = w := by
  go_enter Tryd.func43, Tryd.ntmps43
  go_wp2
  all_goals go_ret
  all_goals (refine ⟨?_, rfl⟩; rw [xplainC_eq]; congr 2)
  · have : c = 34 := by omega
    subst this; rfl
  · have h1 : 32 ≤ c := by omega
    have h2 : c ≤ 126 := by omega
    have h3 : ((c : Int) != 34) = !decide (c = 34) := by
      rw [Bool.eq_iff_iff]; simp [bne]; omega
    have h4 : ((c : Int) != 92) = !decide (c = 92) := by
      rw [Bool.eq_iff_iff]; simp [bne]; omega
    rw [h3, h4]
    simp [h1, h2]
  · have h1 : ¬ c ≤ 126 := by omega
    simp [h1]
  · have h1 : ¬ 32 ≤ c := by omega
    simp [h1]
theorem xquoteC_len : ∀ l : List UInt8, (quoteC l).length ≤ 4 * l.length
  | [] => by simp [quoteC]
  | c :: r => by
    have := xquoteC_len r
    have h1 : (quote1 c).length ≤ 4 := by unfold quote1; cases plainC c.toNat <;> simp
    simp only [quoteC, List.length_append, List.length_cons]
    omega
theorem xquoteC_snoc : ∀ (l : List UInt8) (c : UInt8), quoteC (l ++ [c]) = quoteC l ++ quote1 c
  | [], c => by simp [quoteC]
  | x :: r, c => by simp [quoteC, xquoteC_snoc r c]
theorem hexq_all : ∀ n : Fin 16, (#[48, 49, 50, 51, 52, 53, 54, 55, 56, 57, 97, 98, 99, 100, 101, 102] : Array UInt8)[n] = hexC n.val := by decide +kernel
theorem hexq (n : Nat) (h : n < 16) : (⟨#[48, 49, 50, 51, 52, 53, 54, 55, 56, 57, 97, 98, 99, 100, 101, 102]⟩ : ByteArray)[n]'h = hexC n := hexq_all ⟨n, h⟩
set_option maxHeartbeats 4000000 in
set_option maxRecDepth 100000 in
theorem quote_walk (s : ByteArray) (w : World) (hs : s.size ≤ 1000000000) : Calls Tryd.prog 31 #[.string s] w fun e w' => e = .returned (.string ⟨(quoteL s.data.toList).toArray⟩) ∧ Below w.heap.size w w' := by
  go_enter Tryd.func31, Tryd.ntmps31
  go_wp2_with (go_at_call 49; refine (Any.Builder_WriteByte Tryd.quote_167 Tryd.quote_X w.heap.size w.heap.size [] 34 _ (Lib.fresh_isBuilder 84 5 w) (by simp) (by simp)).mono ?_)
  rintro e W1 ⟨rfl, h1, b1⟩
  go_wp2
  go_loopw [9] (fun i wr => ∃ k : Nat, k ≤ s.size ∧ i = .int .i64 k ∧ Lib.IsBuilder 84 5 w.heap.size w.heap.size (Lib.byteCells (34 :: quoteC (s.data.toList.take k))) wr ∧ Below w.heap.size w wr) (fun i _ => s.size - (intOf i).toNat)
  case atStart => exact ⟨0, Nat.zero_le _, rfl, Or.inr h1, ((Below.refl _ w).alloc (Nat.le_refl _) _).trans b1⟩
  case round =>
    have snoc : ∀ k (h : k < s.size), quoteC (s.data.toList.take (k + 1)) = quoteC (s.data.toList.take k) ++ quote1 s[k] := by
      intro k h
      have h' : k < s.data.toList.length := by simpa using h
      rw [List.take_succ_eq_append_getElem h', xquoteC_snoc]
      rfl
    obtain ⟨k, hk, rfl, hI, hbw⟩ := hrel
    have hlq := xquoteC_len (s.data.toList.take k)
    have hlt : (s.data.toList.take k).length ≤ k := by simp; omega
    by_cases hks : k < s.size
    · have hc : (s[k]).toNat < 256 := (s[k]).toNat_lt
      have hsz : w.heap.size ≤ wr.heap.size := hbw.size
      have hbl : (Lib.byteCells (34 :: quoteC (s.data.toList.take k))).length ≤ 4000000001 := by rw [Lib.byteCells_length, List.length_cons]; omega
      have h2 : (⟨#[92, 120]⟩ : ByteArray).size = 2 := rfl
      go_wp2_with (go_at_call 43; refine (plain_walk (s[k]).toNat hc wr).mono ?_)
      rintro e W2 ⟨rfl, rfl⟩
      cases hp : plainC (s[k]).toNat with
      | true =>
        go_wp2_with (go_at_call 49; refine (Any.Builder_WriteByte Tryd.quote_167 Tryd.quote_X w.heap.size w.heap.size _ _ W2 hI (by omega) hsz).mono ?_)
        rintro e W3 ⟨rfl, h3, b3⟩
        go_wp2
        go_roundw
        case rel =>
          refine ⟨k + 1, by omega, by go_num, ?_, hbw.trans b3⟩
          rw [snoc k hks]
          simp only [quote1, hp, cond_true]
          rw [show (34 :: (quoteC (s.data.toList.take k) ++ [s[k]])) = (34 :: quoteC (s.data.toList.take k)) ++ [s[k]] from rfl, Lib.byteCells_append]
          exact Or.inr h3
        case measure => simp [intOf]; omega
      | false =>
        go_wp2_with (go_at_call 50; refine (Any.Builder_WriteString Tryd.quote_166 Tryd.quote_X w.heap.size w.heap.size _ _ W2 hI (by omega) hsz).mono ?_)
        rintro e W3 ⟨rfl, h3, b3⟩
        have hsz3 := Nat.le_trans hsz b3.size
        go_wp2_with (go_at_call 49; refine (Any.Builder_WriteByte Tryd.quote_167 Tryd.quote_X w.heap.size w.heap.size _ _ W3 (Or.inr h3) (by rw [List.length_append, Lib.strCells_length]; omega) hsz3).mono ?_)
        rintro e W4 ⟨rfl, h4, b4⟩
        have hsz4 := Nat.le_trans hsz3 b4.size
        go_wp2_with (go_at_call 49; refine (Any.Builder_WriteByte Tryd.quote_167 Tryd.quote_X w.heap.size w.heap.size _ _ W4 (Or.inr h4) (by rw [List.length_append, List.length_append, Lib.strCells_length, List.length_singleton]; omega) hsz4).mono ?_)
        rintro e W5 ⟨rfl, h5, b5⟩
        go_wp2
        go_roundw
        case rel =>
          refine ⟨k + 1, by omega, by go_num, ?_, ((hbw.trans b3).trans b4).trans b5⟩
          rw [snoc k hks]
          simp only [quote1, hp, cond_false]
          rw [hexq _ (by omega), hexq _ (by omega)] at h5
          rw [show (34 :: (quoteC (s.data.toList.take k) ++ [92, 120, hexC ((s[k]).toNat / 16), hexC ((s[k]).toNat % 16)])) = (((34 :: quoteC (s.data.toList.take k)) ++ [92, 120]) ++ [hexC ((s[k]).toNat / 16)]) ++ [hexC ((s[k]).toNat % 16)] by simp, Lib.byteCells_append, Lib.byteCells_append, Lib.byteCells_append]
          exact Or.inr h5
        case measure => simp [intOf]; omega
    · have hk' : k = s.size := by omega
      subst hk'
      have hsz : w.heap.size ≤ wr.heap.size := hbw.size
      have hbl : (Lib.byteCells (34 :: quoteC (s.data.toList.take s.size))).length ≤ 4000000001 := by rw [Lib.byteCells_length, List.length_cons]; omega
      have htk : s.data.toList.take s.size = s.data.toList := List.take_of_length_le (by simp)
      go_wp2_with (go_at_call 49; refine (Any.Builder_WriteByte Tryd.quote_167 Tryd.quote_X w.heap.size w.heap.size _ _ wr hI (by omega) hsz).mono ?_)
      rintro e W2 ⟨rfl, h2, b2⟩
      go_wp2_with (go_at_call 51; refine (Any.Builder_String Tryd.quote_169 { Tryd.quote_X with } w.heap.size w.heap.size (34 :: (quoteC s.data.toList ++ [34])) W2 (Or.inr ?_) (by simp)).mono ?_)
      · rw [htk] at h2
        rw [show (34 :: (quoteC s.data.toList ++ [34])) = (34 :: quoteC s.data.toList) ++ [34] from rfl, Lib.byteCells_append]
        exact h2
      · rintro e W3 ⟨rfl, b3⟩
        go_wp2
        go_ret
        exact ⟨rfl, (hbw.trans b2).trans b3⟩
theorem ext_quote (tab : Nat → Nat) : ExtOk Tryd.prog tab 31 XName.quote := by
  intro args r h w F σ γ vals I A
  obtain ⟨s, rfl, hs, rfl⟩ : ∃ s, args = [.str s] ∧ s.size ≤ 1000000000 ∧ r = .str ⟨(quoteL s.data.toList).toArray⟩ := by
    have h : xQuote args = some r := h
    unfold xQuote at h
    split at h <;> first | (cases h; done) | skip
    split at h
    · rename_i hc; cases h; exact ⟨_, rfl, hc, rfl⟩
    · cases h
  obtain ⟨hl, hA⟩ := A
  match vals, hl, hA with
  | [u], _, hA =>
    have h1 := hA 0 _ _ rfl rfl
    cases h1 with | fz _ _ h1 =>
      cases h1
      refine (quote_walk s w hs).mono ?_
      rintro e w' ⟨he, hB⟩
      exact ext_below I hB he fun _ _ => .str _
theorem ext_rep (tab : Nat → Nat) : ExtOk Tryd.prog tab 53 XName.rep := by
  intro args r h w F σ γ vals I A
  obtain ⟨s, c, rfl, h0, h1, h2, rfl⟩ : ∃ s c, args = [.str s, .int .i64 c] ∧ 0 ≤ c ∧ c ≤ 9223372036854775807 ∧ s.size * c.toNat ≤ 140737488355328 ∧ r = .str ⟨(Lib.repeatL s.data.toList c.toNat).toArray⟩ := by
    have h : xRep args = some r := h
    unfold xRep at h
    split at h <;> first | (cases h; done) | skip
    split at h
    · rename_i hc; cases h; exact ⟨_, _, rfl, hc.1, hc.2.1, hc.2.2, rfl⟩
    · cases h
  obtain ⟨k, rfl⟩ : ∃ k : Nat, c = k := ⟨c.toNat, by omega⟩
  obtain ⟨hl, hA⟩ := A
  match vals, hl, hA with
  | [u, v], _, hA =>
    have p1 := hA 0 _ _ rfl rfl
    have p2 := hA 1 _ _ rfl rfl
    cases p1 with | fz _ _ p1 => cases p1; cases p2 with | fz _ _ p2 =>
      cases p2
      refine (Any.strings_Repeat Tryd.lays105 Tryd.Builder_Extra_105 s k w (by omega) (by simpa using h2)).mono ?_
      rintro e w' ⟨he, hB⟩
      exact ext_below I hB he fun _ _ => .str _
end Go.Den
