/- The library's functions over strings, laid by the kit (printed by its tool in plain text). Conditions: none. -/
import Derived.Shelf.LaysM
import Derived.Shelf.LaysC
import Derived.Shelf.Strings.BuilderX
import Derived.Test.YtmichdmpmnhnaaaGreatDoorProg
import Derived.Test.YtmichdmpmnhnaaaGreatDoorTr07
import Derived.Test.YtmichdmpmnhnaaaGreatDoorTr08
import Derived.Lib.SplitLaws
import Derived.Lib.Join
import Derived.Lib.ItoaLen
set_option linter.unusedSectionVars false
set_option linter.unnecessarySimpa false
set_option linter.unusedVariables false
set_option linter.unusedSimpArgs false

-- seat YtmichdmpmnhnaaaGreatDoor
namespace Go.Proofs
open Go.Shelf
def Tryz.layItoa_ren : Go.Shelf.Ren := ⟨fun | 171=>35 | 243=>66 | 246=>107 | 283=>128 | 284=>129 | 285=>130 | 286=>131 | 129=>144 | 317=>143 | 318=>145 | 319=>146 | 320=>147 | 337=>153 | 338=>154 | n=>n,fun | 3=>3 | 9=>9 | 2=>2 | 4=>4 | 171=>180 | 0=>0 | 53=>181 | 37=>121 | 5=>5 | 173=>184 | 212=>195 | 51=>196 | 20=>20 | 213=>197 | 46=>193 | 232=>216 | 233=>217 | n=>n,fun | 17=>2 | 18=>7 | 19=>8 | n=>n⟩
theorem Tryz.layItoa : Go.Proofs.LaysM.n171 Tryz.prog Tryz.layItoa_ren := {
 mixed := by kernel_rfl
 f129 := Tryz.func144.trans (congrArg some (by kernel_rfl))
 f171 := Tryz.func35.trans (congrArg some (by kernel_rfl))
 f243 := Tryz.func66.trans (congrArg some (by kernel_rfl))
 f246 := Tryz.func107.trans (congrArg some (by kernel_rfl))
 f283 := Tryz.func128.trans (congrArg some (by kernel_rfl))
 f284 := Tryz.func129.trans (congrArg some (by kernel_rfl))
 f285 := Tryz.func130.trans (congrArg some (by kernel_rfl))
 f286 := Tryz.func131.trans (congrArg some (by kernel_rfl))
 f317 := Tryz.func143.trans (congrArg some (by kernel_rfl))
 f318 := Tryz.func145.trans (congrArg some (by kernel_rfl))
 f319 := Tryz.func146.trans (congrArg some (by kernel_rfl))
 f320 := Tryz.func147.trans (congrArg some (by kernel_rfl))
 f337 := Tryz.func153.trans (congrArg some (by kernel_rfl))
 f338 := Tryz.func154.trans (congrArg some (by kernel_rfl))
 t0 := Tryz.underlying0
 a0 := Tryz.isAgg0
 z0 := Tryz.sizeOf0
 v0 := Tryz.zeroValue0
 t2 := Tryz.underlying2
 a2 := Tryz.isAgg2
 z2 := Tryz.sizeOf2
 v2 := Tryz.zeroValue2
 t3 := Tryz.underlying3
 a3 := Tryz.isAgg3
 z3 := Tryz.sizeOf3
 v3 := Tryz.zeroValue3
 t4 := Tryz.underlying4
 a4 := Tryz.isAgg4
 z4 := Tryz.sizeOf4
 v4 := Tryz.zeroValue4
 t5 := Tryz.underlying5
 a5 := Tryz.isAgg5
 z5 := Tryz.sizeOf5
 v5 := Tryz.zeroValue5
 t9 := Tryz.underlying9
 a9 := Tryz.isAgg9
 z9 := Tryz.sizeOf9
 v9 := Tryz.zeroValue9
 t20 := Tryz.underlying20
 a20 := Tryz.isAgg20
 z20 := Tryz.sizeOf20
 v20 := Tryz.zeroValue20
 t37 := Tryz.underlying121
 a37 := Tryz.isAgg121
 z37 := Tryz.sizeOf121
 v37 := Tryz.zeroValue121
 t46 := Tryz.underlying193
 a46 := Tryz.isAgg193
 z46 := Tryz.sizeOf193
 v46 := Tryz.zeroValue193
 t51 := Tryz.underlying196
 a51 := Tryz.isAgg196
 z51 := Tryz.sizeOf196
 v51 := Tryz.zeroValue196
 t53 := Tryz.underlying181
 a53 := Tryz.isAgg181
 z53 := Tryz.sizeOf181
 v53 := Tryz.zeroValue181
 t171 := Tryz.underlying180
 a171 := Tryz.isAgg180
 z171 := Tryz.sizeOf180
 v171 := Tryz.zeroValue180
 t173 := Tryz.underlying184
 a173 := Tryz.isAgg184
 z173 := Tryz.sizeOf184
 v173 := Tryz.zeroValue184
 t212 := Tryz.underlying195
 a212 := Tryz.isAgg195
 z212 := Tryz.sizeOf195
 v212 := Tryz.zeroValue195
 t213 := Tryz.underlying197
 a213 := Tryz.isAgg197
 z213 := Tryz.sizeOf197
 t232 := Tryz.underlying216
 a232 := Tryz.isAgg216
 z232 := Tryz.sizeOf216
 v232 := Tryz.zeroValue216
 t233 := Tryz.underlying217
 a233 := Tryz.isAgg217
 z233 := Tryz.sizeOf217
 v233 := Tryz.zeroValue217
 g17 := by kernel_rfl
 g18 := by kernel_rfl
 g19 := by kernel_rfl
 i0 := by kernel_rfl
 i2 := by kernel_rfl
 i3 := by kernel_rfl
 i4 := by kernel_rfl
 i5 := by kernel_rfl
 i9 := by kernel_rfl
 i20 := by kernel_rfl
 i37 := by kernel_rfl
 i46 := by kernel_rfl
 i51 := by kernel_rfl
 i53 := by kernel_rfl
 i171 := by kernel_rfl
 i173 := by kernel_rfl
 i212 := by kernel_rfl
 i232 := by kernel_rfl
 i233 := by kernel_rfl
 m17 := by kernel_rfl
 m18 := by kernel_rfl
 m19 := by kernel_rfl }
def Tryz.layAtoi_ren : Go.Shelf.Ren := ⟨fun | 172=>101 | 244=>120 | 245=>121 | 247=>133 | 279=>134 | 280=>135 | 281=>136 | 282=>137 | 287=>148 | 316=>149 | 171=>35 | 205=>150 | 321=>155 | 322=>156 | 243=>66 | 246=>107 | 283=>128 | 284=>129 | 285=>130 | 286=>131 | 129=>144 | 317=>143 | 318=>145 | 319=>146 | 320=>147 | 337=>153 | 338=>154 | n=>n,fun | 9=>9 | 3=>3 | 75=>127 | 76=>128 | 4=>4 | 5=>5 | 167=>187 | 37=>121 | 0=>0 | 85=>188 | 2=>2 | 168=>190 | 53=>181 | 175=>199 | 46=>193 | 210=>203 | 127=>164 | 145=>215 | 143=>213 | 21=>21 | 171=>180 | 173=>184 | 212=>195 | 51=>196 | 20=>20 | 213=>197 | 232=>216 | 233=>217 | 80=>130 | n=>n,fun | 15=>3 | 16=>4 | 17=>2 | 18=>7 | 19=>8 | n=>n⟩
theorem Tryz.layAtoi : Go.Proofs.LaysC.n172 Tryz.prog Tryz.layAtoi_ren := {
 mixed := by kernel_rfl
 f129 := Tryz.func144.trans (congrArg some (by kernel_rfl))
 f171 := Tryz.func35.trans (congrArg some (by kernel_rfl))
 f172 := Tryz.func101.trans (congrArg some (by kernel_rfl))
 f205 := Tryz.func150.trans (congrArg some (by kernel_rfl))
 f243 := Tryz.func66.trans (congrArg some (by kernel_rfl))
 f244 := Tryz.func120.trans (congrArg some (by kernel_rfl))
 f245 := Tryz.func121.trans (congrArg some (by kernel_rfl))
 f246 := Tryz.func107.trans (congrArg some (by kernel_rfl))
 f247 := Tryz.func133.trans (congrArg some (by kernel_rfl))
 f279 := Tryz.func134.trans (congrArg some (by kernel_rfl))
 f280 := Tryz.func135.trans (congrArg some (by kernel_rfl))
 f281 := Tryz.func136.trans (congrArg some (by kernel_rfl))
 f282 := Tryz.func137.trans (congrArg some (by kernel_rfl))
 f283 := Tryz.func128.trans (congrArg some (by kernel_rfl))
 f284 := Tryz.func129.trans (congrArg some (by kernel_rfl))
 f285 := Tryz.func130.trans (congrArg some (by kernel_rfl))
 f286 := Tryz.func131.trans (congrArg some (by kernel_rfl))
 f287 := Tryz.func148.trans (congrArg some (by kernel_rfl))
 f316 := Tryz.func149.trans (congrArg some (by kernel_rfl))
 f317 := Tryz.func143.trans (congrArg some (by kernel_rfl))
 f318 := Tryz.func145.trans (congrArg some (by kernel_rfl))
 f319 := Tryz.func146.trans (congrArg some (by kernel_rfl))
 f320 := Tryz.func147.trans (congrArg some (by kernel_rfl))
 f321 := Tryz.func155.trans (congrArg some (by kernel_rfl))
 f322 := Tryz.func156.trans (congrArg some (by kernel_rfl))
 f337 := Tryz.func153.trans (congrArg some (by kernel_rfl))
 f338 := Tryz.func154.trans (congrArg some (by kernel_rfl))
 t0 := Tryz.underlying0
 a0 := Tryz.isAgg0
 z0 := Tryz.sizeOf0
 v0 := Tryz.zeroValue0
 t2 := Tryz.underlying2
 a2 := Tryz.isAgg2
 z2 := Tryz.sizeOf2
 v2 := Tryz.zeroValue2
 t3 := Tryz.underlying3
 a3 := Tryz.isAgg3
 z3 := Tryz.sizeOf3
 v3 := Tryz.zeroValue3
 t4 := Tryz.underlying4
 a4 := Tryz.isAgg4
 z4 := Tryz.sizeOf4
 v4 := Tryz.zeroValue4
 t5 := Tryz.underlying5
 a5 := Tryz.isAgg5
 z5 := Tryz.sizeOf5
 v5 := Tryz.zeroValue5
 t9 := Tryz.underlying9
 a9 := Tryz.isAgg9
 z9 := Tryz.sizeOf9
 v9 := Tryz.zeroValue9
 t20 := Tryz.underlying20
 a20 := Tryz.isAgg20
 z20 := Tryz.sizeOf20
 v20 := Tryz.zeroValue20
 t21 := Tryz.underlying21
 a21 := Tryz.isAgg21
 z21 := Tryz.sizeOf21
 v21 := Tryz.zeroValue21
 t37 := Tryz.underlying121
 a37 := Tryz.isAgg121
 z37 := Tryz.sizeOf121
 v37 := Tryz.zeroValue121
 t46 := Tryz.underlying193
 a46 := Tryz.isAgg193
 z46 := Tryz.sizeOf193
 v46 := Tryz.zeroValue193
 t51 := Tryz.underlying196
 a51 := Tryz.isAgg196
 z51 := Tryz.sizeOf196
 v51 := Tryz.zeroValue196
 t53 := Tryz.underlying181
 a53 := Tryz.isAgg181
 z53 := Tryz.sizeOf181
 v53 := Tryz.zeroValue181
 t75 := Tryz.underlying127
 a75 := Tryz.isAgg127
 z75 := Tryz.sizeOf127
 v75 := Tryz.zeroValue127
 t76 := Tryz.underlying128
 a76 := Tryz.isAgg128
 z76 := Tryz.sizeOf128
 v76 := Tryz.zeroValue128
 t85 := Tryz.underlying188
 a85 := Tryz.isAgg188
 z85 := Tryz.sizeOf188
 v85 := Tryz.zeroValue188
 t127 := Tryz.underlying164
 a127 := Tryz.isAgg164
 z127 := Tryz.sizeOf164
 v127 := Tryz.zeroValue164
 t143 := Tryz.underlying213
 a143 := Tryz.isAgg213
 z143 := Tryz.sizeOf213
 v143 := Tryz.zeroValue213
 t145 := Tryz.underlying215
 a145 := Tryz.isAgg215
 z145 := Tryz.sizeOf215
 v145 := Tryz.zeroValue215
 t167 := Tryz.underlying187
 a167 := Tryz.isAgg187
 z167 := Tryz.sizeOf187
 v167 := Tryz.zeroValue187
 t168 := Tryz.underlying190
 a168 := Tryz.isAgg190
 z168 := Tryz.sizeOf190
 v168 := Tryz.zeroValue190
 t171 := Tryz.underlying180
 a171 := Tryz.isAgg180
 z171 := Tryz.sizeOf180
 v171 := Tryz.zeroValue180
 t173 := Tryz.underlying184
 a173 := Tryz.isAgg184
 z173 := Tryz.sizeOf184
 v173 := Tryz.zeroValue184
 t175 := Tryz.underlying199
 a175 := Tryz.isAgg199
 z175 := Tryz.sizeOf199
 v175 := Tryz.zeroValue199
 t210 := Tryz.underlying203
 a210 := Tryz.isAgg203
 z210 := Tryz.sizeOf203
 v210 := Tryz.zeroValue203
 t212 := Tryz.underlying195
 a212 := Tryz.isAgg195
 z212 := Tryz.sizeOf195
 v212 := Tryz.zeroValue195
 t213 := Tryz.underlying197
 a213 := Tryz.isAgg197
 z213 := Tryz.sizeOf197
 t232 := Tryz.underlying216
 a232 := Tryz.isAgg216
 z232 := Tryz.sizeOf216
 v232 := Tryz.zeroValue216
 t233 := Tryz.underlying217
 a233 := Tryz.isAgg217
 z233 := Tryz.sizeOf217
 v233 := Tryz.zeroValue217
 g15 := by kernel_rfl
 g16 := by kernel_rfl
 g17 := by kernel_rfl
 g18 := by kernel_rfl
 g19 := by kernel_rfl
 t80 := Tryz.underlying130
 a80 := Tryz.isAgg130
 z80 := Tryz.sizeOf130
 v80 := Tryz.zeroValue130
 i0 := by kernel_rfl
 i2 := by kernel_rfl
 i3 := by kernel_rfl
 i4 := by kernel_rfl
 i5 := by kernel_rfl
 i9 := by kernel_rfl
 i20 := by kernel_rfl
 i21 := by kernel_rfl
 i37 := by kernel_rfl
 i46 := by kernel_rfl
 i51 := by kernel_rfl
 i53 := by kernel_rfl
 i75 := by kernel_rfl
 i76 := by kernel_rfl
 i80 := by kernel_rfl
 i85 := by kernel_rfl
 i127 := by kernel_rfl
 i143 := by kernel_rfl
 i145 := by kernel_rfl
 i167 := by kernel_rfl
 i168 := by kernel_rfl
 i171 := by kernel_rfl
 i173 := by kernel_rfl
 i175 := by kernel_rfl
 i210 := by kernel_rfl
 i212 := by kernel_rfl
 i232 := by kernel_rfl
 i233 := by kernel_rfl
 m15 := by kernel_rfl
 m16 := by kernel_rfl
 m17 := by kernel_rfl
 m18 := by kernel_rfl
 m19 := by kernel_rfl
 c0 := by kernel_rfl
 c2 := by kernel_rfl
 c3 := by kernel_rfl
 c4 := by kernel_rfl
 c5 := by kernel_rfl
 c9 := by kernel_rfl
 c20 := by kernel_rfl
 c21 := by kernel_rfl
 c37 := by kernel_rfl
 c46 := by kernel_rfl
 c51 := by kernel_rfl
 c53 := by kernel_rfl
 c75 := by kernel_rfl
 c76 := by kernel_rfl
 c80 := by kernel_rfl
 c85 := by kernel_rfl
 c127 := by kernel_rfl
 c143 := by kernel_rfl
 c145 := by kernel_rfl
 c167 := by kernel_rfl
 c168 := by kernel_rfl
 c171 := by kernel_rfl
 c173 := by kernel_rfl
 c175 := by kernel_rfl
 c210 := by kernel_rfl
 c212 := by kernel_rfl
 c213 := by kernel_rfl
 c232 := by kernel_rfl
 c233 := by kernel_rfl }
def Tryz.laySplit_ren : Go.Shelf.Ren := ⟨fun | 146=>29 | 221=>60 | 268=>102 | 138=>103 | 143=>104 | 195=>122 | 197=>123 | 218=>124 | 219=>125 | 260=>138 | 217=>139 | 225=>140 | 224=>141 | 267=>142 | 266=>151 | 314=>152 | n=>n,fun | 9=>9 | 31=>33 | 3=>3 | 4=>4 | 0=>0 | 105=>174 | 21=>21 | 5=>5 | 46=>193 | 119=>205 | 139=>208 | 138=>207 | 146=>209 | 51=>196 | n=>n,fun | 1=>1 | 3=>5 | 4=>6 | n=>n⟩
theorem Tryz.laySplit : Go.Proofs.Lays.n146 Tryz.prog Tryz.laySplit_ren := {
 mixed := by kernel_rfl
 f138 := Tryz.func103.trans (congrArg some (by kernel_rfl))
 f143 := Tryz.func104.trans (congrArg some (by kernel_rfl))
 f146 := Tryz.func29.trans (congrArg some (by kernel_rfl))
 f195 := Tryz.func122.trans (congrArg some (by kernel_rfl))
 f197 := Tryz.func123.trans (congrArg some (by kernel_rfl))
 f217 := Tryz.func139.trans (congrArg some (by kernel_rfl))
 f218 := Tryz.func124.trans (congrArg some (by kernel_rfl))
 f219 := Tryz.func125.trans (congrArg some (by kernel_rfl))
 f221 := Tryz.func60.trans (congrArg some (by kernel_rfl))
 f224 := Tryz.func141.trans (congrArg some (by kernel_rfl))
 f225 := Tryz.func140.trans (congrArg some (by kernel_rfl))
 f260 := Tryz.func138.trans (congrArg some (by kernel_rfl))
 f266 := Tryz.func151.trans (congrArg some (by kernel_rfl))
 f267 := Tryz.func142.trans (congrArg some (by kernel_rfl))
 f268 := Tryz.func102.trans (congrArg some (by kernel_rfl))
 f314 := Tryz.func152.trans (congrArg some (by kernel_rfl))
 t0 := Tryz.underlying0
 a0 := Tryz.isAgg0
 z0 := Tryz.sizeOf0
 v0 := Tryz.zeroValue0
 t3 := Tryz.underlying3
 a3 := Tryz.isAgg3
 z3 := Tryz.sizeOf3
 v3 := Tryz.zeroValue3
 t4 := Tryz.underlying4
 a4 := Tryz.isAgg4
 z4 := Tryz.sizeOf4
 v4 := Tryz.zeroValue4
 t5 := Tryz.underlying5
 a5 := Tryz.isAgg5
 z5 := Tryz.sizeOf5
 v5 := Tryz.zeroValue5
 t9 := Tryz.underlying9
 a9 := Tryz.isAgg9
 z9 := Tryz.sizeOf9
 v9 := Tryz.zeroValue9
 t21 := Tryz.underlying21
 a21 := Tryz.isAgg21
 z21 := Tryz.sizeOf21
 v21 := Tryz.zeroValue21
 t31 := Tryz.underlying33
 a31 := Tryz.isAgg33
 z31 := Tryz.sizeOf33
 v31 := Tryz.zeroValue33
 t46 := Tryz.underlying193
 a46 := Tryz.isAgg193
 z46 := Tryz.sizeOf193
 v46 := Tryz.zeroValue193
 t51 := Tryz.underlying196
 a51 := Tryz.isAgg196
 z51 := Tryz.sizeOf196
 v51 := Tryz.zeroValue196
 t105 := Tryz.underlying174
 a105 := Tryz.isAgg174
 z105 := Tryz.sizeOf174
 v105 := Tryz.zeroValue174
 t119 := Tryz.underlying205
 a119 := Tryz.isAgg205
 z119 := Tryz.sizeOf205
 t138 := Tryz.underlying207
 a138 := Tryz.isAgg207
 z138 := Tryz.sizeOf207
 v138 := Tryz.zeroValue207
 t139 := Tryz.underlying208
 a139 := Tryz.isAgg208
 z139 := Tryz.sizeOf208
 v139 := Tryz.zeroValue208
 t146 := Tryz.underlying209
 a146 := Tryz.isAgg209
 z146 := Tryz.sizeOf209
 v146 := Tryz.zeroValue209
 g1 := by kernel_rfl
 g3 := by kernel_rfl
 g4 := by kernel_rfl }
def Tryz.layJoin_ren : Go.Shelf.Ren := ⟨fun | 156=>33 | 165=>63 | 166=>64 | 169=>65 | 240=>105 | 241=>106 | 276=>126 | 277=>127 | n=>n,fun | 31=>33 | 9=>9 | 3=>3 | 4=>4 | 0=>0 | 20=>20 | 72=>124 | 76=>128 | 70=>122 | 37=>121 | 75=>127 | 127=>164 | 164=>177 | 5=>5 | 80=>130 | n=>n,fun | n=>n⟩
theorem Tryz.layJoin : Go.Proofs.Lays.n156 Tryz.prog Tryz.layJoin_ren := {
 mixed := by kernel_rfl
 f156 := Tryz.func33.trans (congrArg some (by kernel_rfl))
 f165 := Tryz.func63.trans (congrArg some (by kernel_rfl))
 f166 := Tryz.func64.trans (congrArg some (by kernel_rfl))
 f169 := Tryz.func65.trans (congrArg some (by kernel_rfl))
 f240 := Tryz.func105.trans (congrArg some (by kernel_rfl))
 f241 := Tryz.func106.trans (congrArg some (by kernel_rfl))
 f276 := Tryz.func126.trans (congrArg some (by kernel_rfl))
 f277 := Tryz.func127.trans (congrArg some (by kernel_rfl))
 t0 := Tryz.underlying0
 a0 := Tryz.isAgg0
 z0 := Tryz.sizeOf0
 v0 := Tryz.zeroValue0
 t3 := Tryz.underlying3
 a3 := Tryz.isAgg3
 z3 := Tryz.sizeOf3
 v3 := Tryz.zeroValue3
 t4 := Tryz.underlying4
 a4 := Tryz.isAgg4
 z4 := Tryz.sizeOf4
 v4 := Tryz.zeroValue4
 t9 := Tryz.underlying9
 a9 := Tryz.isAgg9
 z9 := Tryz.sizeOf9
 v9 := Tryz.zeroValue9
 t20 := Tryz.underlying20
 a20 := Tryz.isAgg20
 z20 := Tryz.sizeOf20
 v20 := Tryz.zeroValue20
 t31 := Tryz.underlying33
 a31 := Tryz.isAgg33
 z31 := Tryz.sizeOf33
 v31 := Tryz.zeroValue33
 t37 := Tryz.underlying121
 a37 := Tryz.isAgg121
 z37 := Tryz.sizeOf121
 v37 := Tryz.zeroValue121
 t70 := Tryz.underlying122
 a70 := Tryz.isAgg122
 z70 := Tryz.sizeOf122
 v70 := Tryz.zeroValue122
 t72 := Tryz.underlying124
 a72 := Tryz.isAgg124
 z72 := Tryz.sizeOf124
 v72 := Tryz.zeroValue124
 t75 := Tryz.underlying127
 a75 := Tryz.isAgg127
 z75 := Tryz.sizeOf127
 v75 := Tryz.zeroValue127
 t76 := Tryz.underlying128
 a76 := Tryz.isAgg128
 z76 := Tryz.sizeOf128
 v76 := Tryz.zeroValue128
 t127 := Tryz.underlying164
 a127 := Tryz.isAgg164
 z127 := Tryz.sizeOf164
 v127 := Tryz.zeroValue164
 t164 := Tryz.underlying177
 a164 := Tryz.isAgg177
 z164 := Tryz.sizeOf177
 v164 := Tryz.zeroValue177 }
theorem Tryz.layJoinX : Builder.Extra Tryz.prog Tryz.layJoin_ren := {
 sizeBuilder := by kernel_rfl
 liesBuilder := by kernel_rfl
 t5 := Tryz.underlying5
 a5 := Tryz.isAgg5
 z5 := Tryz.sizeOf5
 v5 := Tryz.zeroValue5
 infoByte := by kernel_rfl
 cellsByte := by kernel_rfl
 sizeByte := by kernel_rfl
 neB5 := by decide }
end Go.Proofs

/- The library's functions over strings at this seat. Conditions: none. -/
-- seat YtmichdmpmnhnaaaGreatDoor
namespace Go.Tr
open Go Go.RowKit Go.Proofs Go.Shelf
set_option maxRecDepth 20000
set_option maxHeartbeats 8000000
def itoaB (n : Int) : ByteArray := ⟨(Lib.itoa n).toArray⟩
theorem hgPow : GTab.gt 2 = some ((Lib.pow10Tab.map fun z=>Value.int .u64 z).map .val) := by
  show some (pow10V.map AV.val) = _
  rw [show pow10V = Lib.pow10Tab.map fun z=>Value.int .u64 z by simp [pow10V,Lib.pow10Tab,List.map_map,Function.comp_def]]
theorem notKept : ¬ GTab.kept := fun h=>h
theorem S35 (n : Int) (h0 : -9223372036854775808 ≤ n) (h1 : n ≤ 9223372036854775807) : SP 35 [i64 n] (sv (itoaB n)) true :=
  itoa_s (ρ := Tryz.layItoa_ren) Tryz.layItoa (g := 2) hgPow (by kernel_rfl) (enters_of Tryz.layItoa.f171 (by kernel_rfl) rfl) n h0 h1
theorem S101 (s : ByteArray) (hs : s.size ≤ 281474976710656) : SP 101 [sv s] (.tuple [i64 (atoiV s),if atoiOk s then .val .nilIface else .err]) false :=
  atoi_s (ρ := Tryz.layAtoi_ren) notKept Tryz.layAtoi rfl rfl (enters_of Tryz.layAtoi.f172 (by kernel_rfl) rfl) s hs
theorem S29 (s sep : ByteArray) (hs : s.size < 4294967281) (h1 : 1 ≤ sep.size) : SP 29 [sv s,sv sep] (.rslice 1 (sepL s sep).length (fun i=>[sv ((sepL s sep).getD i ByteArray.empty)])) false :=
  split_s (ρ := Tryz.laySplit_ren) Tryz.laySplit (by kernel_rfl) rfl (enters_of Tryz.laySplit.f146 (by kernel_rfl) rfl) s sep hs h1
theorem S33 (l : List ByteArray) (sep : ByteArray) (f : Nat → List AV) (hf : ∀ i,i < l.length → f i = [sv (l.getD i ByteArray.empty)]) (hN : l.length ≤ 140737488355328) (hlen : (joinB l sep).size ≤ 140737488355328) :
    SP 33 [.rslice 1 l.length f,sv sep] (sv (joinB l sep)) true :=
  join_s (ρ := Tryz.layJoin_ren) notKept Tryz.layJoin Tryz.layJoinX (enters_of Tryz.layJoin.f156 (by kernel_rfl) rfl) l sep f hf hN hlen
end Go.Tr

/- Numbers as strings: the package's function, the reference's. Conditions: none. -/
-- seat YtmichdmpmnhnaaaGreatDoor
namespace Go.Tr
open Go Go.Proofs
set_option maxRecDepth 20000
set_option maxHeartbeats 8000000

theorem atoiV_in (s : ByteArray) : -9223372036854775808 ≤ atoiV s ∧ atoiV s ≤ 9223372036854775807 := by
 unfold atoiV
 split
 ·rename_i v h; exact Lib.atoiAll_bounds h
 ·omega
 ·exact Lib.atoiSat_bounds _
def numO (s : ByteArray) (b : Bool) : Bool := atoiOk s && ((itoaB (atoiV s)).toList == s.toList) && (b || decide (0 ≤ atoiV s)) && decide ((Lib.trimPrefix s.data.toList [45]).length ≤ 6)
theorem size_mk (l : List UInt8) : (ByteArray.mk l.toArray).size = l.length := by simp [ByteArray.size]
theorem ave_iv {a b : Int} {x y : Bool} (h : a = b) (h2 : x = y) : AVE 5 (.tuple [i64 a,vb x]) (.tuple [i64 b,vb y]) := by
  subst h; subst h2
  exact ave_tup2 (k := 4) rfl rfl
theorem S62 (x : Int) (h : -9223372036854775807 ≤ x ∧ x ≤ 9223372036854775807) : SP 62 [i64 x] (i64 (x.natAbs : Nat)) false := by
 refine sound (d := 2) tok2 mixed2 Tryz.func62 (by kernel_rfl) (by kernel_rfl) ?_
 (conv=>whnf); refine ⟨inK64 (by omega) (by omega),?_⟩
 (conv=>whnf); refine ⟨?_,nofun⟩
 exact endi (by split <;> omega)
end Go.Tr

/- Plain laws: strings as lists of bytes; what lies between separators. Conditions: none. -/
namespace Go.Tr
open Go.Lib

theorem bs_ext {a b : ByteArray} (h : a.data.toList = b.data.toList) : a = b := by
 obtain ⟨a⟩ := a
 obtain ⟨b⟩ := b
 have : a = b := Array.toList_inj.1 h
 rw [this]
theorem bs_app (a b : ByteArray) : (a ++ b).data.toList = a.data.toList ++ b.data.toList := by simp
theorem bs_ex (s : ByteArray) (i j : Nat) : (s.extract i j).data.toList = (s.data.toList.drop i).take (j - i) := extract_data s i j
theorem bs_len (s : ByteArray) : s.size = s.data.toList.length := size_eq s

def cutL (c : UInt8) : List UInt8 → List (List UInt8)
  | []=>[[]]
  | x :: r=>if x = c then [] :: cutL c r else match cutL c r with | []=>[[x]] | y :: t=>(x :: y) :: t
theorem cutL_ne (c : UInt8) : ∀ l,cutL c l ≠ []
 | []=>by simp [cutL]
 | x :: r=>by
  rw [cutL]
  split
  ·simp
  ·split <;> simp
theorem cutL_step (c x : UInt8) (r : List UInt8) (h : x ≠ c) : cutL c (x :: r) = (x :: (cutL c r).headD []) :: (cutL c r).tail := by
 rw [cutL,if_neg h]
 cases hc : cutL c r with
 | nil=>exact absurd hc (cutL_ne c r)
 | cons y t=>rfl
theorem cut_miss {c : UInt8} : ∀ {l : List UInt8},(∀ x ∈ l,x ≠ c) → cutL c l = [l]
  | [],_=>rfl
  | x :: r,h=>by rw [cutL_step c x r (h x (.head _)),cut_miss fun y hy=>h y (.tail _ hy)]; rfl
theorem cut_hit {c : UInt8} : ∀ {l r : List UInt8},(∀ x ∈ l,x ≠ c) → cutL c (l ++ c :: r) = l :: cutL c r
  | [],r,_=>by simp [cutL]
  | x :: l,r,h=>by rw [List.cons_append,cutL_step c x _ (h x (.head _)),cut_hit fun y hy=>h y (.tail _ hy)]; rfl
theorem index_miss {c : UInt8} : ∀ {l : List UInt8},index l [c] = -1 → ∀ x ∈ l,x ≠ c
 | [],_,x,hx=>by cases hx
 | y :: r, h, x, hx => by
  rw [index] at h
  by_cases hy : ([c] : List UInt8).isPrefixOf (y :: r) = true
  ·rw [hy] at h; simp at h
  ·have hyc : y ≠ c := fun e=>hy (by simp [List.isPrefixOf,e])
   rw [Bool.not_eq_true] at hy
   rw [hy] at h
   have hi : index r [c] = -1 := by
    by_cases hi : index r [c] = -1
    ·exact hi
    ·have := index_ge r [c]
     simp [hi] at h
     omega
   rcases List.mem_cons.1 hx with e | hx
   ·rw [e]; exact hyc
   ·exact index_miss hi x hx
theorem index_hit {c : UInt8} : ∀ {l : List UInt8} {i : Nat},index l [c] = (i : Int) → ∃ a r,l = a ++ c :: r ∧ a.length = i ∧ ∀ x ∈ a,x ≠ c
 | [],i,h=>by
  have h : (-1 : Int) = (i : Int) := by rw [← h,index]; rfl
  omega
 | y :: r, i, h => by
  rw [index] at h
  by_cases hy : ([c] : List UInt8).isPrefixOf (y :: r) = true
  ·rw [hy] at h
   have : i = 0 := by simp at h; omega
   subst this
   have hyc : y = c := by
    have : (c == y) = true := by simpa [List.isPrefixOf] using hy
    exact (beq_iff_eq.1 this).symm
   exact ⟨[],r,by rw [hyc]; rfl,rfl,by simp⟩
  ·have hyc : y ≠ c := fun e=>hy (by simp [List.isPrefixOf,e])
   rw [Bool.not_eq_true] at hy
   rw [hy] at h
   by_cases hi : index r [c] = -1
   ·simp [hi] at h
   ·have := index_ge r [c]
    obtain ⟨j,hj⟩ : ∃ j : Nat,index r [c] = j := ⟨(index r [c]).toNat,by omega⟩
    simp [hi] at h
    obtain ⟨a,r',e1,e2,e3⟩ := index_hit hj
    refine ⟨y :: a,r',by rw [e1]; rfl,by simp [e2]; omega,fun x hx=>?_⟩
    rcases List.mem_cons.1 hx with e | hx
    ·rw [e]; exact hyc
    ·exact e3 x hx
def byteB (c : UInt8) : ByteArray := ⟨#[c]⟩
theorem split_cut (c : UInt8) : ∀ (k : Nat) (s : ByteArray),countB s (byteB c) = k → (splitB (byteB c) 0 k s).map (·.data.toList) = cutL c s.data.toList
 | 0, s, h => by
  rw [splitB_zero]
  rcases indexB_cases s (byteB c) with hix | ⟨i,hix,_⟩
  ·have h2 : index s.data.toList [c] = -1 := hix
   rw [List.map_singleton,cut_miss (index_miss h2)]
  ·have := countB_hit s (byteB c) i (Nat.le_refl 1) hix
   omega
 | k + 1, s, h => by
  rcases indexB_cases s (byteB c) with hix | ⟨i,hix,_⟩
  ·rw [countB_miss s (byteB c) hix] at h; omega
  ·have h2 : index s.data.toList [c] = (i : Int) := hix
   have h3 := countB_hit s (byteB c) i (Nat.le_refl 1) hix
   obtain ⟨a,r,e1,e2,e3⟩ := index_hit h2
   have hb : (byteB c).size = 1 := rfl
   rw [splitB_hit (byteB c) 0 k s i hix,List.map_cons,split_cut c k _ (by omega),bs_ex,bs_ex,hb,e1,cut_hit e3]
   congr 1
   ·rw [List.drop_zero,Nat.add_zero,Nat.sub_zero,← e2,List.take_left']; rfl
   ·rw [List.take_of_length_le (by rw [List.length_drop,bs_len,e1]; omega),← e2,show a ++ c :: r = (a ++ [c]) ++ r by simp,List.drop_left' (by simp)]
theorem cut_join (c : UInt8) : ∀ (l : List (List UInt8)),l ≠ [] → (∀ p ∈ l,∀ x ∈ p,x ≠ c) → cutL c (join l [c]) = l
 | [],h,_=>absurd rfl h
 | [p],_,h=>by rw [join_one]; exact cut_miss (h p (.head _))
 | p :: q :: r, _, h => by
  have e : join (p :: q :: r) [c] = p ++ c :: join (q :: r) [c] := by
   rw [join_cons,join_cons]; simp [joinTail]
  rw [e,cut_hit (h p (.head _)),cut_join c (q :: r) (by simp) fun x hx=>h x (.tail _ hx)]
end Go.Tr

/- Numbers as strings in the reference: Decimal, Number. Conditions: none. -/
-- seat YtmichdmpmnhnaaaGreatDoor
namespace Go.Tr
open Go Go.Proofs
set_option maxRecDepth 20000
set_option maxHeartbeats 8000000

theorem bs_tl (s : ByteArray) : s.toList = s.data.toList := by obtain ⟨⟨l⟩⟩ := s; simp
theorem itoaB_l (n : Int) : (itoaB n).data.toList = Lib.itoa n := rfl
theorem num_ref (s : ByteArray) : numO s true = refOk s.data.toList 6 ∧ (refOk s.data.toList 6 = true → atoiV s = refV s.data.toList) := by
 by_cases h : refOk s.data.toList 6 = true
 ·have e := itoa_of_ref h
  have hlen := (refOk_itoa (refV s.data.toList) 6).1
  rw [e,h] at hlen
  have hle : (Lib.decDigits (refV s.data.toList).natAbs).length ≤ 6 := Nat.le_of_ble_eq_true hlen.symm
  have ha := atoi_itoa (n := refV s.data.toList) (by omega)
  rw [e] at ha
  have h1 : atoiOk s = true := by unfold atoiOk; rw [ha]
  have h2 : atoiV s = refV s.data.toList := by unfold atoiV; rw [ha]
  refine ⟨?_,fun _=>h2⟩
  rw [h]
  unfold numO
  rw [h1,h2,show itoaB (refV s.data.toList) = s from bs_ext (by rw [itoaB_l,e])]
  have h3 : (Lib.trimPrefix s.data.toList [45]).length ≤ 6 := by
   rw [← e,trim_itoa,(magL_itoa _).1]
   exact hle
  simp [h3]
 ·refine ⟨?_,fun h'=>absurd h' h⟩
  rw [Bool.not_eq_true] at h
  rw [h]
  cases hn : numO s true with
  | false=>rfl
  | true =>
   unfold numO at hn
   simp only [Bool.and_eq_true,beq_iff_eq,decide_eq_true_eq] at hn
   obtain ⟨⟨⟨_,h2⟩,_⟩,h4⟩ := hn
   rw [bs_tl,bs_tl,itoaB_l] at h2
   rw [← h2,trim_itoa,(magL_itoa _).1] at h4
   have := (refOk_itoa (atoiV s) 6).1
   rw [h2,h,Nat.ble_eq_true_of_le h4] at this
   cases this
theorem num_ref0 (s : ByteArray) : numO s false = (refOk s.data.toList 6 && !(s.data.toList.head? == some 45)) := by
 obtain ⟨h1,h2⟩ := num_ref s
 have e : numO s false = (numO s true && decide (0 ≤ atoiV s)) := by
  unfold numO
  cases atoiOk s <;> cases ((itoaB (atoiV s)).toList == s.toList) <;> cases decide (0 ≤ atoiV s) <;> cases decide ((Lib.trimPrefix s.data.toList [45]).length ≤ 6) <;> rfl
 rw [e,h1]
 cases hr : refOk s.data.toList 6 with
 | false=>rfl
 | true =>
  have hs := (magL_itoa (refV s.data.toList)).2
  rw [itoa_of_ref hr] at hs
  rw [h2 hr]
  by_cases hh : s.data.toList.head? = some 45
  ·have h5 := hs.1 hh
   rw [decide_eq_false (by omega : ¬ 0 ≤ refV s.data.toList),hh]; rfl
  ·have h5 : ¬ refV s.data.toList < 0 := fun x=>hh (hs.2 x)
   rw [decide_eq_true (by omega : 0 ≤ refV s.data.toList)]
   simp [hh]
theorem itoa_0 : Lib.itoa 0 = [48] := by rw [itoa_pos' (by omega),show (0 : Int).toNat = 0 from rfl,Lib.decDigits,dif_pos (by omega)]; rfl
theorem sv_eq {a b : ByteArray} (h : a.data.toList = b.data.toList) : sv a = sv b := by rw [bs_ext h]
theorem dec_step {m : Int} (hm : m ≠ 0) (S : List UInt8) {D : List UInt8} (h : Lib.decDigits m.natAbs ++ S = D) :
  (m.tdiv 10 = 0 ∧ UInt8.ofNat (48 + (m.tmod 10).natAbs) :: S = D) ∨ (m.tdiv 10 ≠ 0 ∧ Lib.decDigits (m.tdiv 10).natAbs ++ UInt8.ofNat (48 + (m.tmod 10).natAbs) :: S = D) := by
 have e1 : (m.tdiv 10).natAbs = m.natAbs / 10 := by rw [Int.natAbs_tdiv]; rfl
 have e2 : (m.tmod 10).natAbs = m.natAbs % 10 := by rw [Int.natAbs_tmod]; rfl
 by_cases h10 : m.natAbs < 10
 ·left
  refine ⟨by omega,?_⟩
  rw [Lib.decDigits,dif_pos h10] at h
  rw [e2,Nat.mod_eq_of_lt h10]
  exact h
 ·right
  refine ⟨by omega,?_⟩
  rw [Lib.decDigits,dif_neg h10] at h
  rw [e1,e2,← h]
  simp
theorem S32z : SP 32 [i64 0] (sv (itoaB 0)) false := by
 refine sound (d := 2) tok2 mixed2 Tryz.func32 (by kernel_rfl) (by kernel_rfl) ?_
 (conv=>whnf); refine ⟨?_,nofun⟩
 (first | omega | exact sv_eq itoa_0.symm)
theorem dec_len {m : Int} (hm : m ≠ 0) {S D : List UInt8} (hN : D.length ≤ 20) (h : Lib.decDigits m.natAbs ++ S = D) (c : UInt8) : ([c] ++ S).length ≤ 20 := by
 have h1 := List.length_pos_iff.2 (dec_dig m.natAbs).2.2.1
 rw [← h,List.length_append] at hN
 simp; omega
theorem S32 (n : Int) (hn : n ≠ 0) (h : -9223372036854775808 ≤ n ∧ n ≤ 9223372036854775807) : SP 32 [i64 n] (sv (itoaB n)) false := by
 have hN : (Lib.decDigits n.natAbs).length ≤ 20 := by rw [Lib.decDigits_length]; exact Lib.nDigits_le20 _ (by omega)
 refine sound (d := 2) tok2 mixed2 Tryz.func32 (by kernel_rfl) (by kernel_rfl) ?_
 (conv=>whnf); refine ifB_beq (fun w1=>?_) (fun w1=>?_)
 ·(exfalso; omega)
 ·(conv=>whnf); refine ifB_dec (fun w2=>?_) (fun w2=>?_)
  ·(conv=>whnf); refine ⟨[],[0,3,4],fun st mq=>∃ (m : Int) (S : ByteArray),((m = 0 ∧ S.data.toList = Lib.decDigits n.natAbs) ∨ (m ≠ 0 ∧ Lib.decDigits m.natAbs ++ S.data.toList = Lib.decDigits n.natAbs)) ∧ (-9223372036854775808 ≤ m ∧ m ≤ 9223372036854775807) ∧ (S.data.toList.length ≤ 20) ∧ st = ⟨[(0,i64 m),(3,sv S),(4,sv ⟨#[45]⟩)],⟨[],[],none,0⟩,[]⟩ ∧ mq = m.natAbs,
    ⟨_,_,⟨n,⟨#[]⟩,.inr ⟨hn,by simp⟩,h,by simp,rfl,rfl⟩,⟨⟨.inl rfl,rfl,rfl,rfl⟩,trivial,trivial⟩⟩,?_⟩
   rintro s0 m0 ⟨m,S,hD,hb,hS,rfl,hmeas⟩
   by_cases hm : m = 0
   ·have hD2 : S.data.toList = Lib.decDigits n.natAbs := by
     rcases hD with h5 | h5
     ·exact h5.2
     ·exact absurd hm h5.1
    have hz : S.size ≤ 20 := by rw [bs_len]; exact hS
    have hone : (⟨#[45]⟩ : ByteArray).size = 1 := rfl
    have hnil : (⟨#[]⟩ : ByteArray).size = 0 := rfl
    conv=>whnf
    (conv=>whnf); refine ifB_bne (fun w3=>?_) (fun w3=>?_)
    ·(exfalso; omega)
    ·conv=>whnf
     (conv=>whnf); refine ⟨(by omega),?_⟩
     conv=>whnf
     (conv=>whnf); refine ⟨?_,nofun⟩
     (first | omega | exact sv_eq (by rw [bs_app,hD2,itoaB_l,itoa_neg' (by assumption)]; rfl))
   ·have hD2 : Lib.decDigits m.natAbs ++ S.data.toList = Lib.decDigits n.natAbs := by
     rcases hD with h5 | h5
     ·exact absurd h5.1 hm
     ·exact h5.2
    have hr : (m.tmod 10).natAbs ≤ 9 := by rw [Int.natAbs_tmod,show (10 : Int).natAbs = 10 from rfl]; omega
    have hq : (m.tdiv 10).natAbs = m.natAbs / 10 := by rw [Int.natAbs_tdiv]; rfl
    have h59 := S62 (m.tmod 10) (by omega)
    have hz : S.size ≤ 20 := by rw [bs_len]; exact hS
    have hst := dec_step hm S.data.toList hD2
    have hln := dec_len hm hN hD2 (UInt8.ofNat (48 + ((m.tmod 10).natAbs : Int)).toNat)
    have hone : (⟨#[UInt8.ofNat (48 + ((m.tmod 10).natAbs : Int)).toNat]⟩ : ByteArray).size = 1 := rfl
    conv=>whnf
    (conv=>whnf); refine ifB_bne (fun w3=>?_) (fun w3=>?_)
    ·conv=>whnf
     (conv=>whnf); refine ⟨(by omega),?_⟩
     conv=>whnf
     (conv=>whnf); refine .inl ⟨_,_,byX rfl (Sound1.pl (h59) rfl),?_⟩
     conv=>whnf
     (conv=>whnf); refine ⟨inK64 (by omega) (by omega),?_⟩
     conv=>whnf
     (conv=>whnf); refine ⟨inKu8 (by omega) (by omega),?_⟩
     conv=>whnf
     (conv=>whnf); refine ⟨(by omega),?_⟩
     conv=>whnf
     (conv=>whnf); refine ⟨⟨(by omega),inK64 (by omega) (by omega)⟩,?_⟩
     conv=>whnf
     (conv=>whnf); refine ⟨_,_,⟨⟨m.tdiv 10,((⟨#[UInt8.ofNat (48 + ((m.tmod 10).natAbs : Int)).toNat]⟩ : ByteArray) ++ S),(by rw [bs_app]; exact hst),(by omega),(by rw [bs_app]; exact hln),rfl,rfl⟩,by omega⟩,⟨⟨.inl rfl,rfl,rfl,rfl⟩,trivial,trivial⟩⟩
    ·(exfalso; omega)
  ·(conv=>whnf); refine ⟨[],[0,3,4],fun st mq=>∃ (m : Int) (S : ByteArray),((m = 0 ∧ S.data.toList = Lib.decDigits n.natAbs) ∨ (m ≠ 0 ∧ Lib.decDigits m.natAbs ++ S.data.toList = Lib.decDigits n.natAbs)) ∧ (-9223372036854775808 ≤ m ∧ m ≤ 9223372036854775807) ∧ (S.data.toList.length ≤ 20) ∧ st = ⟨[(0,i64 m),(3,sv S),(4,sv ⟨#[]⟩)],⟨[],[],none,0⟩,[]⟩ ∧ mq = m.natAbs,
    ⟨_,_,⟨n,⟨#[]⟩,.inr ⟨hn,by simp⟩,h,by simp,rfl,rfl⟩,⟨⟨.inl rfl,rfl,rfl,rfl⟩,trivial,trivial⟩⟩,?_⟩
   rintro s0 m0 ⟨m,S,hD,hb,hS,rfl,hmeas⟩
   by_cases hm : m = 0
   ·have hD2 : S.data.toList = Lib.decDigits n.natAbs := by
     rcases hD with h5 | h5
     ·exact h5.2
     ·exact absurd hm h5.1
    have hz : S.size ≤ 20 := by rw [bs_len]; exact hS
    have hone : (⟨#[45]⟩ : ByteArray).size = 1 := rfl
    have hnil : (⟨#[]⟩ : ByteArray).size = 0 := rfl
    conv=>whnf
    (conv=>whnf); refine ifB_bne (fun w3=>?_) (fun w3=>?_)
    ·(exfalso; omega)
    ·conv=>whnf
     (conv=>whnf); refine ⟨(by omega),?_⟩
     conv=>whnf
     (conv=>whnf); refine ⟨?_,nofun⟩
     (first | omega | exact sv_eq (by rw [bs_app,hD2,itoaB_l,itoa_pos' (by assumption),show n.toNat = n.natAbs by omega]; rfl))
   ·have hD2 : Lib.decDigits m.natAbs ++ S.data.toList = Lib.decDigits n.natAbs := by
     rcases hD with h5 | h5
     ·exact absurd h5.1 hm
     ·exact h5.2
    have hr : (m.tmod 10).natAbs ≤ 9 := by rw [Int.natAbs_tmod,show (10 : Int).natAbs = 10 from rfl]; omega
    have hq : (m.tdiv 10).natAbs = m.natAbs / 10 := by rw [Int.natAbs_tdiv]; rfl
    have h59 := S62 (m.tmod 10) (by omega)
    have hz : S.size ≤ 20 := by rw [bs_len]; exact hS
    have hst := dec_step hm S.data.toList hD2
    have hln := dec_len hm hN hD2 (UInt8.ofNat (48 + ((m.tmod 10).natAbs : Int)).toNat)
    have hone : (⟨#[UInt8.ofNat (48 + ((m.tmod 10).natAbs : Int)).toNat]⟩ : ByteArray).size = 1 := rfl
    conv=>whnf
    (conv=>whnf); refine ifB_bne (fun w3=>?_) (fun w3=>?_)
    ·conv=>whnf
     (conv=>whnf); refine ⟨(by omega),?_⟩
     conv=>whnf
     (conv=>whnf); refine .inl ⟨_,_,byX rfl (Sound1.pl (h59) rfl),?_⟩
     conv=>whnf
     (conv=>whnf); refine ⟨inK64 (by omega) (by omega),?_⟩
     conv=>whnf
     (conv=>whnf); refine ⟨inKu8 (by omega) (by omega),?_⟩
     conv=>whnf
     (conv=>whnf); refine ⟨(by omega),?_⟩
     conv=>whnf
     (conv=>whnf); refine ⟨⟨(by omega),inK64 (by omega) (by omega)⟩,?_⟩
     conv=>whnf
     (conv=>whnf); refine ⟨_,_,⟨⟨m.tdiv 10,((⟨#[UInt8.ofNat (48 + ((m.tmod 10).natAbs : Int)).toNat]⟩ : ByteArray) ++ S),(by rw [bs_app]; exact hst),(by omega),(by rw [bs_app]; exact hln),rfl,rfl⟩,by omega⟩,⟨⟨.inl rfl,rfl,rfl,rfl⟩,trivial,trivial⟩⟩
    ·(exfalso; omega)
end Go.Tr

/- The reference's Number. Conditions: none. -/
-- seat YtmichdmpmnhnaaaGreatDoor
namespace Go.Tr
open Go Go.Proofs
set_option maxRecDepth 20000
set_option maxHeartbeats 8000000

theorem u8_eq {c : UInt8} {n : Nat} (hn : n < 256) : (c.toNat : Int) = n ↔ c = UInt8.ofNat n := by
 constructor
 ·intro h
  apply UInt8.toNat_inj.1
  rw [UInt8.toNat_ofNat']; omega
 ·intro h
  rw [h,UInt8.toNat_ofNat']; omega
theorem mag0 {l : List UInt8} (h : ¬ ((l.getD 0 0).toNat : Int) = 45) : magL l = l.drop 0 ∧ ¬ l.head? = some 45 := by
 have h2 : ¬ l.head? = some 45 := fun e=>h (by
  cases l with
  | nil=>cases e
  | cons c r=>simp at e; rw [e]; rfl)
 exact ⟨by rw [magL,if_neg h2]; rfl,h2⟩
theorem mag1 {l : List UInt8} (h0 : 0 < l.length) (h : ((l.getD 0 0).toNat : Int) = 45) : magL l = l.drop 1 ∧ l.head? = some 45 := by
 have h2 : l.head? = some 45 := by
  cases l with
  | nil=>cases h0
  | cons c r=>exact congrArg some ((u8_eq (n := 45) (by decide)).1 h)
 exact ⟨by rw [magL,if_pos h2,List.drop_one],h2⟩
section
variable {l : List UInt8} {a : Nat} (hm : magL l = l.drop a)
include hm
theorem ref_none (h : l.length ≤ a) : refOk l 6 = false := by
  unfold refOk
  rw [hm,List.drop_eq_nil_of_le h]; rfl
theorem ref_long (h : 6 < l.length - a) : refOk l 6 = false := by
 unfold refOk
 rw [hm]
 have : Nat.ble (l.drop a).length 6 = false := by
  cases hb : Nat.ble (l.drop a).length 6 with
  | false=>rfl
  | true=>have := Nat.le_of_ble_eq_true hb; rw [List.length_drop] at this; omega
 rw [this]; simp
theorem head_drop (h : a < l.length) : (l.drop a).head? = some (l.getD a 0) := by
  rw [List.head?_drop,List.getD_eq_getElem?_getD,List.getElem?_eq_getElem h]; rfl
theorem ref_zero (ha : a < l.length) (h1 : ((l.getD a 0).toNat : Int) = 48) (h2 : 1 < l.length) : refOk l 6 = false := by
  unfold refOk
  rw [hm,head_drop hm ha,(u8_eq (n := 48) (by decide)).1 h1,Nat.ble_eq_true_of_le (by omega : 2 ≤ l.length)]; simp
theorem ref_dig {i : Nat} (ha : a ≤ i) (hi : i < l.length) (h : ¬ (48 ≤ (l.getD i 0).toNat ∧ (l.getD i 0).toNat ≤ 57)) : refOk l 6 = false := by
 unfold refOk
 rw [hm]
 have : (l.drop a).all isDig = false := by
  rw [List.all_eq_false]
  refine ⟨l.getD i 0,?_,fun e=>h (isDig_iff.1 e)⟩
  rw [List.mem_iff_getElem?]
  exact ⟨i - a,by rw [List.getElem?_drop,show a + (i - a) = i by omega,List.getD_eq_getElem?_getD,List.getElem?_eq_getElem hi]; rfl⟩
 rw [this]; simp
theorem ref_yes (h1 : a < l.length) (h2 : l.length - a ≤ 6) (h3 : ¬ (((l.getD a 0).toNat : Int) = 48 ∧ 1 < l.length)) (h4 : ∀ i,a ≤ i → i < l.length → 48 ≤ (l.getD i 0).toNat ∧ (l.getD i 0).toNat ≤ 57) : refOk l 6 = true := by
 unfold refOk
 rw [hm,head_drop hm h1]
 have e1 : (l.drop a).isEmpty = false := by
  cases hd : l.drop a with
  | nil=>have := congrArg List.length hd; rw [List.length_drop] at this; simp at this; omega
  | cons=>rfl
 have e2 : (l.drop a).all isDig = true := by
  rw [List.all_eq_true]
  intro c hc
  obtain ⟨i,hi⟩ := List.mem_iff_getElem?.1 hc
  rw [List.getElem?_drop] at hi
  have hlt := (List.getElem?_eq_some_iff.1 hi).1
  have := h4 (a + i) (by omega) hlt
  rw [List.getD_eq_getElem?_getD,hi] at this
  exact isDig_iff.2 this
 have e3 : (some (l.getD a 0) == some 48 && Nat.ble 2 l.length) = false := by
  rw [Bool.and_eq_false_iff]
  by_cases hc : l.getD a 0 = 48
  ·right
   cases hb : Nat.ble 2 l.length with
   | false=>rfl
   | true=>exact absurd ⟨(u8_eq (n := 48) (by decide)).2 hc,by have := Nat.le_of_ble_eq_true hb; omega⟩ h3
  ·left; simpa using hc
 rw [e1,e2,e3,Nat.ble_eq_true_of_le (by rw [List.length_drop]; omega)]; rfl
end
def sofar (l : List UInt8) (a i : Nat) : Nat := decV ((l.drop a).take (i - a))
theorem sofar_0 (l : List UInt8) (a : Nat) : sofar l a a = 0 := by unfold sofar; rw [Nat.sub_self]; rfl
theorem sofar_s {l : List UInt8} {a i : Nat} (ha : a ≤ i) (hi : i < l.length) : sofar l a (i + 1) = 10 * sofar l a i + ((l.getD i 0).toNat - 48) := by
  unfold sofar
  rw [show i + 1 - a = (i - a) + 1 by omega,List.take_add_one,List.getElem?_drop,show a + (i - a) = i by omega,List.getElem?_eq_getElem hi,Option.toList_some,decV_snoc,List.getD_eq_getElem?_getD,List.getElem?_eq_getElem hi]; rfl
theorem sofar_e (l : List UInt8) (a : Nat) : sofar l a l.length = decV (l.drop a) := by
  unfold sofar
  rw [List.take_of_length_le (by rw [List.length_drop]; omega)]
def refN (l : List UInt8) : Int := if refOk l 6 then refV l else 0
theorem u8_lt (c : UInt8) : c.toNat < 256 := c.toNat_lt
theorem sofar_lt {l : List UInt8} {a i : Nat} (h1 : a ≤ i) (h2 : i ≤ l.length) (h3 : l.length - a ≤ 6) (hd : ∀ j,a ≤ j → j < i → 48 ≤ (l.getD j 0).toNat ∧ (l.getD j 0).toNat ≤ 57) : sofar l a i < 1000000 := by
 have hlen : ((l.drop a).take (i - a)).length = i - a := by rw [List.length_take,List.length_drop]; omega
 have := decV_lt (i - a) _ hlen fun c hc=>by
  obtain ⟨j,hj⟩ := List.mem_iff_getElem?.1 hc
  have hlt := (List.getElem?_eq_some_iff.1 hj).1
  rw [hlen] at hlt
  rw [List.getElem?_take_of_lt hlt,List.getElem?_drop] at hj
  have := hd (a + j) (by omega) (by omega)
  rw [List.getD_eq_getElem?_getD,hj] at this
  exact isDig_iff.2 this
 exact Nat.lt_of_lt_of_le this (Nat.pow_le_pow_right (by omega : 0 < 10) (by omega : i - a ≤ 6))
theorem fin_no {l : List UInt8} (h : refOk l 6 = false) : AVE 5 (.tuple [i64 0,vb false]) (.tuple [i64 (refN l),vb (refOk l 6)]) := by
  rw [refN,h]; exact ave_iv rfl rfl
theorem fin_yes1 {l : List UInt8} (h : refOk l 6 = true) (hm : magL l = l.drop 1) (hh : l.head? = some 45) {n : Int} (hn : n = (sofar l 1 l.length : Nat)) : AVE 5 (.tuple [i64 (-n),vb true]) (.tuple [i64 (refN l),vb (refOk l 6)]) := by
  rw [refN,h,if_pos rfl,refV,if_pos hh,hm,← sofar_e,← hn]; exact ave_iv rfl rfl
theorem fin_yes0 {l : List UInt8} (h : refOk l 6 = true) (hm : magL l = l.drop 0) (hh : ¬ l.head? = some 45) {n : Int} (hn : n = (sofar l 0 l.length : Nat)) : AVE 5 (.tuple [i64 n,vb true]) (.tuple [i64 (refN l),vb (refOk l 6)]) := by
  rw [refN,h,if_pos rfl,refV,if_neg hh,hm,← sofar_e,← hn]; exact ave_iv rfl rfl
theorem S61 (s : ByteArray) (hs : s.size ≤ 1000000000) : SP 61 [sv s, i64 6] (.tuple [i64 (refN s.data.toList), vb (refOk s.data.toList 6)]) false := by
  have hz := bs_len s
  by_cases h0 : s.size = 0
  · have hr := fin_no (ref_none (l := s.data.toList) (a := s.data.toList.length) (by
      have : s.data.toList = [] := List.length_eq_zero_iff.1 (by omega)
      rw [this]; rfl) (Nat.le_refl _))
    refine sound (d := 2) tok2 mixed2 Tryz.func61 (by kernel_rfl) (by kernel_rfl) ?_
    (conv=>whnf); refine ifB_dec (fun w1=>?_) (fun w1=>?_)
    · (exfalso; omega)
    · (conv=>whnf); refine ifB_beq (fun w2=>?_) (fun w2=>?_)
      · (conv=>whnf); refine ⟨?_,nofun⟩
        (first | omega | exact hr)
      · (exfalso; omega)
  by_cases h45 : ((s.data.toList.getD (Int.toNat 0) 0).toNat : Int) = 45
  · obtain ⟨hm, hh⟩ := mag1 (by omega) h45
    by_cases c1 : s.data.toList.length ≤ 1
    · have hr := fin_no (ref_none hm c1)
      refine sound (d := 2) tok2 mixed2 Tryz.func61 (by kernel_rfl) (by kernel_rfl) ?_
      (conv=>whnf); refine ifB_dec (fun w1=>?_) (fun w1=>?_)
      · (conv=>whnf); refine ⟨⟨(by omega),(by omega)⟩,?_⟩
        (conv=>whnf); refine ifB_beq (fun w2=>?_) (fun w2=>?_)
        · (conv=>whnf); refine ifB_beq (fun w3=>?_) (fun w3=>?_)
          · (conv=>whnf); refine ⟨?_,nofun⟩
            (first | omega | contradiction | exact hr)
          · (exfalso; omega)
        · (exfalso; omega)
      · (exfalso; omega)
    by_cases c2 : 6 < s.data.toList.length - 1
    · have hr := fin_no (ref_long hm c2)
      refine sound (d := 2) tok2 mixed2 Tryz.func61 (by kernel_rfl) (by kernel_rfl) ?_
      (conv=>whnf); refine ifB_dec (fun w1=>?_) (fun w1=>?_)
      · (conv => whnf); refine ⟨⟨(by omega), (by omega)⟩, ?_⟩
        (conv=>whnf); refine ifB_beq (fun w2=>?_) (fun w2=>?_)
        · (conv=>whnf); refine ifB_beq (fun w3=>?_) (fun w3=>?_)
          · (exfalso; omega)
          · (conv=>whnf); refine ⟨inK64 (by omega) (by omega),?_⟩
            (conv=>whnf); refine ifB_dec (fun w4=>?_) (fun w4=>?_)
            · (conv=>whnf); refine ⟨?_,nofun⟩
              (first | omega | contradiction | exact hr)
            · (exfalso; omega)
        · (exfalso; omega)
      · (exfalso; omega)
    by_cases h48 : ((s.data.toList.getD (Int.toNat 1) 0).toNat : Int) = 48 ∧ 1 < s.data.toList.length
    · have hr := fin_no (ref_zero hm (by omega) h48.1 h48.2)
      obtain ⟨k1,k2⟩ := h48
      refine sound (d := 2) tok2 mixed2 Tryz.func61 (by kernel_rfl) (by kernel_rfl) ?_
      (conv=>whnf); refine ifB_dec (fun w1=>?_) (fun w1=>?_)
      · (conv => whnf); refine ⟨⟨(by omega), (by omega)⟩, ?_⟩
        (conv=>whnf); refine ifB_beq (fun w2=>?_) (fun w2=>?_)
        · (conv => whnf); refine ifB_beq (fun w3 => ?_) (fun w3 => ?_)
          · (exfalso; omega)
          · (conv => whnf); refine ⟨inK64 (by omega) (by omega), ?_⟩
            (conv=>whnf); refine ifB_dec (fun w4=>?_) (fun w4=>?_)
            · (exfalso; omega)
            · (conv=>whnf); refine ⟨⟨(by omega),(by omega)⟩,?_⟩
              (conv=>whnf); refine ifB_beq (fun w5=>?_) (fun w5=>?_)
              · (conv=>whnf); refine ifB_dec (fun w6=>?_) (fun w6=>?_)
                · (conv=>whnf); refine ⟨?_,nofun⟩
                  (first | omega | contradiction | exact hr)
                · (exfalso; omega)
              · (exfalso; omega)
        · (exfalso; omega)
      · (exfalso; omega)
    have k1 : ¬ ((s.data.toList.getD (Int.toNat 1) 0).toNat : Int) = 48 := fun e=>h48 ⟨e,by omega⟩
    refine sound (d := 2) tok2 mixed2 Tryz.func61 (by kernel_rfl) (by kernel_rfl) ?_
    (conv=>whnf); refine ifB_dec (fun w1=>?_) (fun w1=>?_)
    · (conv => whnf); refine ⟨⟨(by omega), (by omega)⟩, ?_⟩
      (conv=>whnf); refine ifB_beq (fun w2=>?_) (fun w2=>?_)
      · (conv => whnf); refine ifB_beq (fun w3 => ?_) (fun w3 => ?_)
        · (exfalso; omega)
        · (conv => whnf); refine ⟨inK64 (by omega) (by omega), ?_⟩
          (conv=>whnf); refine ifB_dec (fun w4=>?_) (fun w4=>?_)
          · (exfalso; omega)
          · (conv => whnf); refine ⟨⟨(by omega), (by omega)⟩, ?_⟩
            (conv=>whnf); refine ifB_beq (fun w5=>?_) (fun w5=>?_)
            · (exfalso; omega)
            · · (conv => whnf); refine ⟨[], [0, 6, 7, 8], fun st mq => ∃ (i : Nat) (n : Int), (1 ≤ i ∧ i ≤ s.data.toList.length) ∧ (n = (sofar s.data.toList 1 i : Nat)) ∧ (∀ j, 1 ≤ j → j < i → 48 ≤ (s.data.toList.getD j 0).toNat ∧ (s.data.toList.getD j 0).toNat ≤ 57) ∧ st = ⟨[(0, sv s), (6, i64 1), (7, i64 n), (8, i64 i)], ⟨[], [], none, 0⟩, []⟩ ∧ mq = s.data.toList.length - i,
                  ⟨_,_,⟨1,0,⟨by omega,by omega⟩,(by rw [sofar_0]; rfl),fun j h1 h2=>by omega,rfl,rfl⟩,⟨⟨.inl rfl,rfl,rfl,rfl⟩,trivial,trivial⟩⟩,?_⟩
                rintro s0 m0 ⟨i,n,hi,hn,hd,rfl,hmeas⟩
                have hb := sofar_lt hi.1 hi.2 (by omega : s.data.toList.length - 1 ≤ 6) hd
                by_cases hlt : i < s.data.toList.length
                · have hst : sofar s.data.toList 1 (i + 1) = 10 * sofar s.data.toList 1 i + ((s.data.toList.getD (i : Int).toNat 0).toNat - 48) := sofar_s hi.1 hlt
                  have hu := u8_lt (s.data.toList.getD (i : Int).toNat 0)
                  by_cases hg : 48 ≤ (s.data.toList.getD (i : Int).toNat 0).toNat ∧ (s.data.toList.getD (i : Int).toNat 0).toNat ≤ 57
                  · obtain ⟨hg1,hg2⟩ := hg
                    conv=>whnf
                    (conv=>whnf); refine ifB_dec (fun w6=>?_) (fun w6=>?_)
                    · conv=>whnf
                      (conv=>whnf); refine ⟨⟨(by omega),(by omega)⟩,?_⟩
                      conv=>whnf
                      (conv=>whnf); refine ifB_dec (fun w7=>?_) (fun w7=>?_)
                      · (exfalso; omega)
                      · conv=>whnf
                        (conv=>whnf); refine ⟨⟨(by omega),(by omega)⟩,?_⟩
                        conv=>whnf
                        (conv=>whnf); refine ifB_dec (fun w8=>?_) (fun w8=>?_)
                        · (exfalso; omega)
                        · conv=>whnf
                          (conv=>whnf); refine ⟨inK64 (by omega) (by omega),?_⟩
                          conv=>whnf
                          (conv=>whnf); refine ⟨⟨(by omega),(by omega)⟩,?_⟩
                          conv=>whnf
                          (conv=>whnf); refine ⟨inKu8 (by omega) (by omega),?_⟩
                          conv=>whnf
                          (conv=>whnf); refine ⟨inK64 (by omega) (by omega),?_⟩
                          conv=>whnf
                          (conv=>whnf); refine ⟨inK64 (by omega) (by omega),?_⟩
                          conv=>whnf
                          (conv=>whnf); refine ⟨inK64 (by omega) (by omega),?_⟩
                          conv=>whnf
                          (conv=>whnf); refine ⟨_,_,⟨⟨i + 1,(10 * n + (((s.data.toList.getD (i : Int).toNat 0).toNat : Int) - 48)),⟨by omega,by omega⟩,(by rw [hst,hn]; omega),(fun j h1 h2=>by by_cases e : j = i; (rw [e]; exact ⟨hg1,hg2⟩); exact hd j h1 (by omega)),rfl,rfl⟩,by omega⟩,⟨⟨.inl rfl,rfl,rfl,rfl⟩,trivial,trivial⟩⟩
                    · (exfalso; omega)
                  · have hno := fin_no (ref_dig hm hi.1 hlt hg)
                    conv=>whnf
                    (conv=>whnf); refine ifB_dec (fun w6=>?_) (fun w6=>?_)
                    · conv=>whnf
                      (conv=>whnf); refine ⟨⟨(by omega),(by omega)⟩,?_⟩
                      conv=>whnf
                      (conv=>whnf); refine ifB_dec (fun w7=>?_) (fun w7=>?_)
                      · conv=>whnf
                        (conv=>whnf); refine ⟨?_,nofun⟩
                        (first | omega | exact hno)
                      · conv=>whnf
                        (conv=>whnf); refine ⟨⟨(by omega),(by omega)⟩,?_⟩
                        conv=>whnf
                        (conv=>whnf); refine ifB_dec (fun w8=>?_) (fun w8=>?_)
                        · conv=>whnf
                          (conv=>whnf); refine ⟨?_,nofun⟩
                          (first | omega | exact hno)
                        · (exfalso; omega)
                    · (exfalso; omega)
                · have he : i = s.data.toList.length := by omega
                  have hyes := fin_yes1 (n := n) (ref_yes hm (by omega) (by omega) h48 (by rw [← he]; exact hd)) hm hh (by rw [hn,he])
                  conv=>whnf
                  (conv=>whnf); refine ifB_dec (fun w6=>?_) (fun w6=>?_)
                  · (exfalso; omega)
                  · conv=>whnf
                    (conv=>whnf); refine ⟨inK64 (by omega) (by omega),?_⟩
                    conv=>whnf
                    (conv=>whnf); refine ⟨?_,nofun⟩
                    (first | omega | exact hyes)
      · (exfalso; omega)
    · (exfalso; omega)
  · obtain ⟨hm, hh⟩ := mag0 h45
    by_cases c1 : s.data.toList.length ≤ 0
    · have hr := fin_no (ref_none hm c1)
      refine sound (d := 2) tok2 mixed2 Tryz.func61 (by kernel_rfl) (by kernel_rfl) ?_
      (conv=>whnf); refine ifB_dec (fun w1=>?_) (fun w1=>?_)
      · (exfalso; omega)
      · (exfalso; omega)
    by_cases c2 : 6 < s.data.toList.length - 0
    · have hr := fin_no (ref_long hm c2)
      refine sound (d := 2) tok2 mixed2 Tryz.func61 (by kernel_rfl) (by kernel_rfl) ?_
      (conv=>whnf); refine ifB_dec (fun w1=>?_) (fun w1=>?_)
      · (conv => whnf); refine ⟨⟨(by omega), (by omega)⟩, ?_⟩
        (conv=>whnf); refine ifB_beq (fun w2=>?_) (fun w2=>?_)
        · (exfalso; omega)
        · (conv=>whnf); refine ifB_beq (fun w3=>?_) (fun w3=>?_)
          · (exfalso; omega)
          · (conv=>whnf); refine ⟨inK64 (by omega) (by omega),?_⟩
            (conv=>whnf); refine ifB_dec (fun w4=>?_) (fun w4=>?_)
            · (conv=>whnf); refine ⟨?_,nofun⟩
              (first | omega | contradiction | exact hr)
            · (exfalso; omega)
      · (exfalso; omega)
    by_cases h48 : ((s.data.toList.getD (Int.toNat 0) 0).toNat : Int) = 48 ∧ 1 < s.data.toList.length
    · have hr := fin_no (ref_zero hm (by omega) h48.1 h48.2)
      obtain ⟨k1,k2⟩ := h48
      refine sound (d := 2) tok2 mixed2 Tryz.func61 (by kernel_rfl) (by kernel_rfl) ?_
      (conv=>whnf); refine ifB_dec (fun w1=>?_) (fun w1=>?_)
      · (conv => whnf); refine ⟨⟨(by omega), (by omega)⟩, ?_⟩
        (conv=>whnf); refine ifB_beq (fun w2=>?_) (fun w2=>?_)
        · (exfalso; omega)
        · (conv => whnf); refine ifB_beq (fun w3 => ?_) (fun w3 => ?_)
          · (exfalso; omega)
          · (conv => whnf); refine ⟨inK64 (by omega) (by omega), ?_⟩
            (conv=>whnf); refine ifB_dec (fun w4=>?_) (fun w4=>?_)
            · (exfalso; omega)
            · (conv=>whnf); refine ⟨⟨(by omega),(by omega)⟩,?_⟩
              (conv=>whnf); refine ifB_beq (fun w5=>?_) (fun w5=>?_)
              · (conv=>whnf); refine ifB_dec (fun w6=>?_) (fun w6=>?_)
                · (conv=>whnf); refine ⟨?_,nofun⟩
                  (first | omega | contradiction | exact hr)
                · (exfalso; omega)
              · (exfalso; omega)
      · (exfalso; omega)
    by_cases c3 : s.data.toList.length = 1
    · refine sound (d := 2) tok2 mixed2 Tryz.func61 (by kernel_rfl) (by kernel_rfl) ?_
      (conv=>whnf); refine ifB_dec (fun w1=>?_) (fun w1=>?_)
      · (conv => whnf); refine ⟨⟨(by omega), (by omega)⟩, ?_⟩
        (conv=>whnf); refine ifB_beq (fun w2=>?_) (fun w2=>?_)
        · (exfalso; omega)
        · (conv => whnf); refine ifB_beq (fun w3 => ?_) (fun w3 => ?_)
          · (exfalso; omega)
          · (conv => whnf); refine ⟨inK64 (by omega) (by omega), ?_⟩
            (conv=>whnf); refine ifB_dec (fun w4=>?_) (fun w4=>?_)
            · (exfalso; omega)
            · (conv => whnf); refine ⟨⟨(by omega), (by omega)⟩, ?_⟩
              (conv=>whnf); refine ifB_beq (fun w5=>?_) (fun w5=>?_)
              · (conv => whnf); refine ifB_dec (fun w6 => ?_) (fun w6 => ?_)
                · (exfalso; omega)
                · (conv => whnf); refine ⟨[], [0, 6, 7, 8], fun st mq => ∃ (i : Nat) (n : Int), (0 ≤ i ∧ i ≤ s.data.toList.length) ∧ (n = (sofar s.data.toList 0 i : Nat)) ∧ (∀ j, 0 ≤ j → j < i → 48 ≤ (s.data.toList.getD j 0).toNat ∧ (s.data.toList.getD j 0).toNat ≤ 57) ∧ st = ⟨[(0, sv s), (6, i64 0), (7, i64 n), (8, i64 i)], ⟨[], [], none, 0⟩, []⟩ ∧ mq = s.data.toList.length - i,
                    ⟨_,_,⟨0,0,⟨by omega,by omega⟩,(by rw [sofar_0]; rfl),fun j h1 h2=>by omega,rfl,rfl⟩,⟨⟨.inl rfl,rfl,rfl,rfl⟩,trivial,trivial⟩⟩,?_⟩
                  rintro s0 m0 ⟨i,n,hi,hn,hd,rfl,hmeas⟩
                  have hb := sofar_lt hi.1 hi.2 (by omega : s.data.toList.length - 0 ≤ 6) hd
                  by_cases hlt : i < s.data.toList.length
                  · have hst : sofar s.data.toList 0 (i + 1) = 10 * sofar s.data.toList 0 i + ((s.data.toList.getD (i : Int).toNat 0).toNat - 48) := sofar_s hi.1 hlt
                    have hu := u8_lt (s.data.toList.getD (i : Int).toNat 0)
                    by_cases hg : 48 ≤ (s.data.toList.getD (i : Int).toNat 0).toNat ∧ (s.data.toList.getD (i : Int).toNat 0).toNat ≤ 57
                    · obtain ⟨hg1,hg2⟩ := hg
                      conv=>whnf
                      (conv=>whnf); refine ifB_dec (fun w7=>?_) (fun w7=>?_)
                      · conv=>whnf
                        (conv=>whnf); refine ⟨⟨(by omega),(by omega)⟩,?_⟩
                        conv=>whnf
                        (conv=>whnf); refine ifB_dec (fun w8=>?_) (fun w8=>?_)
                        · (exfalso; omega)
                        · conv=>whnf
                          (conv=>whnf); refine ⟨⟨(by omega),(by omega)⟩,?_⟩
                          conv=>whnf
                          (conv=>whnf); refine ifB_dec (fun w9=>?_) (fun w9=>?_)
                          · (exfalso; omega)
                          · conv=>whnf
                            (conv=>whnf); refine ⟨inK64 (by omega) (by omega),?_⟩
                            conv=>whnf
                            (conv=>whnf); refine ⟨⟨(by omega),(by omega)⟩,?_⟩
                            conv=>whnf
                            (conv=>whnf); refine ⟨inKu8 (by omega) (by omega),?_⟩
                            conv=>whnf
                            (conv=>whnf); refine ⟨inK64 (by omega) (by omega),?_⟩
                            conv=>whnf
                            (conv=>whnf); refine ⟨inK64 (by omega) (by omega),?_⟩
                            conv=>whnf
                            (conv=>whnf); refine ⟨inK64 (by omega) (by omega),?_⟩
                            conv=>whnf
                            (conv=>whnf); refine ⟨_,_,⟨⟨i + 1,(10 * n + (((s.data.toList.getD (i : Int).toNat 0).toNat : Int) - 48)),⟨by omega,by omega⟩,(by rw [hst,hn]; omega),(fun j h1 h2=>by by_cases e : j = i; (rw [e]; exact ⟨hg1,hg2⟩); exact hd j h1 (by omega)),rfl,rfl⟩,by omega⟩,⟨⟨.inl rfl,rfl,rfl,rfl⟩,trivial,trivial⟩⟩
                      · (exfalso; omega)
                    · have hno := fin_no (ref_dig hm hi.1 hlt hg)
                      conv=>whnf
                      (conv=>whnf); refine ifB_dec (fun w7=>?_) (fun w7=>?_)
                      · conv=>whnf
                        (conv=>whnf); refine ⟨⟨(by omega),(by omega)⟩,?_⟩
                        conv=>whnf
                        (conv=>whnf); refine ifB_dec (fun w8=>?_) (fun w8=>?_)
                        · conv=>whnf
                          (conv=>whnf); refine ⟨?_,nofun⟩
                          (first | omega | exact hno)
                        · conv=>whnf
                          (conv=>whnf); refine ⟨⟨(by omega),(by omega)⟩,?_⟩
                          conv=>whnf
                          (conv=>whnf); refine ifB_dec (fun w9=>?_) (fun w9=>?_)
                          · conv=>whnf
                            (conv=>whnf); refine ⟨?_,nofun⟩
                            (first | omega | exact hno)
                          · (exfalso; omega)
                      · (exfalso; omega)
                  · have he : i = s.data.toList.length := by omega
                    have hyes := fin_yes0 (n := n) (ref_yes hm (by omega) (by omega) h48 (by rw [← he]; exact hd)) hm hh (by rw [hn,he])
                    conv=>whnf
                    (conv=>whnf); refine ifB_dec (fun w7=>?_) (fun w7=>?_)
                    · (exfalso; omega)
                    · conv=>whnf
                      (conv=>whnf); refine ⟨?_,nofun⟩
                      (first | omega | exact hyes)
              · (conv => whnf); refine ⟨[], [0, 6, 7, 8], fun st mq => ∃ (i : Nat) (n : Int), (0 ≤ i ∧ i ≤ s.data.toList.length) ∧ (n = (sofar s.data.toList 0 i : Nat)) ∧ (∀ j, 0 ≤ j → j < i → 48 ≤ (s.data.toList.getD j 0).toNat ∧ (s.data.toList.getD j 0).toNat ≤ 57) ∧ st = ⟨[(0, sv s), (6, i64 0), (7, i64 n), (8, i64 i)], ⟨[], [], none, 0⟩, []⟩ ∧ mq = s.data.toList.length - i,
                  ⟨_,_,⟨0,0,⟨by omega,by omega⟩,(by rw [sofar_0]; rfl),fun j h1 h2=>by omega,rfl,rfl⟩,⟨⟨.inl rfl,rfl,rfl,rfl⟩,trivial,trivial⟩⟩,?_⟩
                rintro s0 m0 ⟨i,n,hi,hn,hd,rfl,hmeas⟩
                have hb := sofar_lt hi.1 hi.2 (by omega : s.data.toList.length - 0 ≤ 6) hd
                by_cases hlt : i < s.data.toList.length
                · have hst : sofar s.data.toList 0 (i + 1) = 10 * sofar s.data.toList 0 i + ((s.data.toList.getD (i : Int).toNat 0).toNat - 48) := sofar_s hi.1 hlt
                  have hu := u8_lt (s.data.toList.getD (i : Int).toNat 0)
                  by_cases hg : 48 ≤ (s.data.toList.getD (i : Int).toNat 0).toNat ∧ (s.data.toList.getD (i : Int).toNat 0).toNat ≤ 57
                  · obtain ⟨hg1,hg2⟩ := hg
                    conv=>whnf
                    (conv=>whnf); refine ifB_dec (fun w6=>?_) (fun w6=>?_)
                    · conv=>whnf
                      (conv=>whnf); refine ⟨⟨(by omega),(by omega)⟩,?_⟩
                      conv=>whnf
                      (conv=>whnf); refine ifB_dec (fun w7=>?_) (fun w7=>?_)
                      · (exfalso; omega)
                      · conv=>whnf
                        (conv=>whnf); refine ⟨⟨(by omega),(by omega)⟩,?_⟩
                        conv=>whnf
                        (conv=>whnf); refine ifB_dec (fun w8=>?_) (fun w8=>?_)
                        · (exfalso; omega)
                        · conv=>whnf
                          (conv=>whnf); refine ⟨inK64 (by omega) (by omega),?_⟩
                          conv=>whnf
                          (conv=>whnf); refine ⟨⟨(by omega),(by omega)⟩,?_⟩
                          conv=>whnf
                          (conv=>whnf); refine ⟨inKu8 (by omega) (by omega),?_⟩
                          conv=>whnf
                          (conv=>whnf); refine ⟨inK64 (by omega) (by omega),?_⟩
                          conv=>whnf
                          (conv=>whnf); refine ⟨inK64 (by omega) (by omega),?_⟩
                          conv=>whnf
                          (conv=>whnf); refine ⟨inK64 (by omega) (by omega),?_⟩
                          conv=>whnf
                          (conv=>whnf); refine ⟨_,_,⟨⟨i + 1,(10 * n + (((s.data.toList.getD (i : Int).toNat 0).toNat : Int) - 48)),⟨by omega,by omega⟩,(by rw [hst,hn]; omega),(fun j h1 h2=>by by_cases e : j = i; (rw [e]; exact ⟨hg1,hg2⟩); exact hd j h1 (by omega)),rfl,rfl⟩,by omega⟩,⟨⟨.inl rfl,rfl,rfl,rfl⟩,trivial,trivial⟩⟩
                    · (exfalso; omega)
                  · have hno := fin_no (ref_dig hm hi.1 hlt hg)
                    conv=>whnf
                    (conv=>whnf); refine ifB_dec (fun w6=>?_) (fun w6=>?_)
                    · conv=>whnf
                      (conv=>whnf); refine ⟨⟨(by omega),(by omega)⟩,?_⟩
                      conv=>whnf
                      (conv=>whnf); refine ifB_dec (fun w7=>?_) (fun w7=>?_)
                      · conv=>whnf
                        (conv=>whnf); refine ⟨?_,nofun⟩
                        (first | omega | exact hno)
                      · conv=>whnf
                        (conv=>whnf); refine ⟨⟨(by omega),(by omega)⟩,?_⟩
                        conv=>whnf
                        (conv=>whnf); refine ifB_dec (fun w8=>?_) (fun w8=>?_)
                        · conv=>whnf
                          (conv=>whnf); refine ⟨?_,nofun⟩
                          (first | omega | exact hno)
                        · (exfalso; omega)
                    · (exfalso; omega)
                · have he : i = s.data.toList.length := by omega
                  have hyes := fin_yes0 (n := n) (ref_yes hm (by omega) (by omega) h48 (by rw [← he]; exact hd)) hm hh (by rw [hn,he])
                  conv=>whnf
                  (conv=>whnf); refine ifB_dec (fun w6=>?_) (fun w6=>?_)
                  · (exfalso; omega)
                  · conv=>whnf
                    (conv=>whnf); refine ⟨?_,nofun⟩
                    (first | omega | exact hyes)
      · (exfalso; omega)
    · have k1 : ¬ ((s.data.toList.getD (Int.toNat 0) 0).toNat : Int) = 48 := fun e => h48 ⟨e, by omega⟩
      refine sound (d := 2) tok2 mixed2 Tryz.func61 (by kernel_rfl) (by kernel_rfl) ?_
      (conv=>whnf); refine ifB_dec (fun w1=>?_) (fun w1=>?_)
      · (conv => whnf); refine ⟨⟨(by omega), (by omega)⟩, ?_⟩
        (conv=>whnf); refine ifB_beq (fun w2=>?_) (fun w2=>?_)
        · (exfalso; omega)
        · (conv => whnf); refine ifB_beq (fun w3 => ?_) (fun w3 => ?_)
          · (exfalso; omega)
          · (conv => whnf); refine ⟨inK64 (by omega) (by omega), ?_⟩
            (conv=>whnf); refine ifB_dec (fun w4=>?_) (fun w4=>?_)
            · (exfalso; omega)
            · (conv => whnf); refine ⟨⟨(by omega), (by omega)⟩, ?_⟩
              (conv=>whnf); refine ifB_beq (fun w5=>?_) (fun w5=>?_)
              · (exfalso; omega)
              · · (conv => whnf); refine ⟨[], [0, 6, 7, 8], fun st mq => ∃ (i : Nat) (n : Int), (0 ≤ i ∧ i ≤ s.data.toList.length) ∧ (n = (sofar s.data.toList 0 i : Nat)) ∧ (∀ j, 0 ≤ j → j < i → 48 ≤ (s.data.toList.getD j 0).toNat ∧ (s.data.toList.getD j 0).toNat ≤ 57) ∧ st = ⟨[(0, sv s), (6, i64 0), (7, i64 n), (8, i64 i)], ⟨[], [], none, 0⟩, []⟩ ∧ mq = s.data.toList.length - i,
                    ⟨_,_,⟨0,0,⟨by omega,by omega⟩,(by rw [sofar_0]; rfl),fun j h1 h2=>by omega,rfl,rfl⟩,⟨⟨.inl rfl,rfl,rfl,rfl⟩,trivial,trivial⟩⟩,?_⟩
                  rintro s0 m0 ⟨i,n,hi,hn,hd,rfl,hmeas⟩
                  have hb := sofar_lt hi.1 hi.2 (by omega : s.data.toList.length - 0 ≤ 6) hd
                  by_cases hlt : i < s.data.toList.length
                  · have hst : sofar s.data.toList 0 (i + 1) = 10 * sofar s.data.toList 0 i + ((s.data.toList.getD (i : Int).toNat 0).toNat - 48) := sofar_s hi.1 hlt
                    have hu := u8_lt (s.data.toList.getD (i : Int).toNat 0)
                    by_cases hg : 48 ≤ (s.data.toList.getD (i : Int).toNat 0).toNat ∧ (s.data.toList.getD (i : Int).toNat 0).toNat ≤ 57
                    · obtain ⟨hg1,hg2⟩ := hg
                      conv=>whnf
                      (conv=>whnf); refine ifB_dec (fun w6=>?_) (fun w6=>?_)
                      · conv=>whnf
                        (conv=>whnf); refine ⟨⟨(by omega),(by omega)⟩,?_⟩
                        conv=>whnf
                        (conv=>whnf); refine ifB_dec (fun w7=>?_) (fun w7=>?_)
                        · (exfalso; omega)
                        · conv=>whnf
                          (conv=>whnf); refine ⟨⟨(by omega),(by omega)⟩,?_⟩
                          conv=>whnf
                          (conv=>whnf); refine ifB_dec (fun w8=>?_) (fun w8=>?_)
                          · (exfalso; omega)
                          · conv=>whnf
                            (conv=>whnf); refine ⟨inK64 (by omega) (by omega),?_⟩
                            conv=>whnf
                            (conv=>whnf); refine ⟨⟨(by omega),(by omega)⟩,?_⟩
                            conv=>whnf
                            (conv=>whnf); refine ⟨inKu8 (by omega) (by omega),?_⟩
                            conv=>whnf
                            (conv=>whnf); refine ⟨inK64 (by omega) (by omega),?_⟩
                            conv=>whnf
                            (conv=>whnf); refine ⟨inK64 (by omega) (by omega),?_⟩
                            conv=>whnf
                            (conv=>whnf); refine ⟨inK64 (by omega) (by omega),?_⟩
                            conv=>whnf
                            (conv=>whnf); refine ⟨_,_,⟨⟨i + 1,(10 * n + (((s.data.toList.getD (i : Int).toNat 0).toNat : Int) - 48)),⟨by omega,by omega⟩,(by rw [hst,hn]; omega),(fun j h1 h2=>by by_cases e : j = i; (rw [e]; exact ⟨hg1,hg2⟩); exact hd j h1 (by omega)),rfl,rfl⟩,by omega⟩,⟨⟨.inl rfl,rfl,rfl,rfl⟩,trivial,trivial⟩⟩
                      · (exfalso; omega)
                    · have hno := fin_no (ref_dig hm hi.1 hlt hg)
                      conv=>whnf
                      (conv=>whnf); refine ifB_dec (fun w6=>?_) (fun w6=>?_)
                      · conv=>whnf
                        (conv=>whnf); refine ⟨⟨(by omega),(by omega)⟩,?_⟩
                        conv=>whnf
                        (conv=>whnf); refine ifB_dec (fun w7=>?_) (fun w7=>?_)
                        · conv=>whnf
                          (conv=>whnf); refine ⟨?_,nofun⟩
                          (first | omega | exact hno)
                        · conv=>whnf
                          (conv=>whnf); refine ⟨⟨(by omega),(by omega)⟩,?_⟩
                          conv=>whnf
                          (conv=>whnf); refine ifB_dec (fun w8=>?_) (fun w8=>?_)
                          · conv=>whnf
                            (conv=>whnf); refine ⟨?_,nofun⟩
                            (first | omega | exact hno)
                          · (exfalso; omega)
                      · (exfalso; omega)
                  · have he : i = s.data.toList.length := by omega
                    have hyes := fin_yes0 (n := n) (ref_yes hm (by omega) (by omega) h48 (by rw [← he]; exact hd)) hm hh (by rw [hn,he])
                    conv=>whnf
                    (conv=>whnf); refine ifB_dec (fun w6=>?_) (fun w6=>?_)
                    · (exfalso; omega)
                    · conv=>whnf
                      (conv=>whnf); refine ⟨?_,nofun⟩
                      (first | omega | exact hyes)
      · (exfalso; omega)
end Go.Tr

/- The reference's Cut. Conditions: none. -/
-- seat YtmichdmpmnhnaaaGreatDoor
namespace Go.Tr
open Go Go.Proofs
set_option maxRecDepth 20000
set_option maxHeartbeats 8000000

theorem sep_cut (s : ByteArray) (c : UInt8) : (sepL s (byteB c)).map (·.data.toList) = cutL c s.data.toList := split_cut c _ s rfl
def PcAt (s : ByteArray) (c : UInt8) (a m : Nat) : Prop := ((sepL s (byteB c)).drop m).map (·.data.toList) = cutL c (s.data.toList.drop a)
theorem pc_0 (s : ByteArray) (c : UInt8) : PcAt s c 0 0 := sep_cut s c
theorem pc_hit {s : ByteArray} {c : UInt8} {a m i : Nat} (h : PcAt s c a m) (h1 : a ≤ i) (h2 : i < s.data.toList.length) (hc : s.data.toList.getD i 0 = c) (hf : ∀ j,a ≤ j → j < i → s.data.toList.getD j 0 ≠ c) :
  m < (sepL s (byteB c)).length ∧ s.extract a i = (sepL s (byteB c)).getD m ByteArray.empty ∧ PcAt s c (i + 1) (m + 1) := by
 have e : s.data.toList.drop a = (s.data.toList.drop a).take (i - a) ++ c :: s.data.toList.drop (i + 1) := by
  conv=>lhs; rw [← List.take_append_drop (i - a) (s.data.toList.drop a)]
  rw [List.drop_drop,show a + (i - a) = i by omega,List.drop_eq_getElem_cons h2,← hc,List.getD_eq_getElem?_getD,List.getElem?_eq_getElem h2]; rfl
 unfold PcAt at h
 rw [e,cut_hit fun x hx=>by
  obtain ⟨j,hj⟩ := List.mem_iff_getElem?.1 hx
  have hlt : j < i - a := by have := (List.getElem?_eq_some_iff.1 hj).1; rw [List.length_take] at this; omega
  rw [List.getElem?_take_of_lt hlt,List.getElem?_drop] at hj
  have := hf (a + j) (by omega) (by omega)
  rw [List.getD_eq_getElem?_getD,hj] at this
  exact this] at h
 have hm : m < (sepL s (byteB c)).length := by
  by_cases hm : m < (sepL s (byteB c)).length
  ·exact hm
  ·rw [List.drop_eq_nil_of_le (by omega)] at h; cases h
 rw [List.drop_eq_getElem_cons hm,List.map_cons] at h
 injection h with h3 h4
 refine ⟨hm,bs_ext ?_,h4⟩
 rw [bs_ex,← h3,List.getD_eq_getElem?_getD,List.getElem?_eq_getElem hm]; rfl
theorem pc_end {s : ByteArray} {c : UInt8} {a m : Nat} (h : PcAt s c a m) (hf : ∀ j,a ≤ j → j < s.data.toList.length → s.data.toList.getD j 0 ≠ c) :
  (sepL s (byteB c)).length = m + 1 ∧ s.extract a s.size = (sepL s (byteB c)).getD m ByteArray.empty := by
 unfold PcAt at h
 rw [cut_miss fun x hx=>by
  obtain ⟨j,hj⟩ := List.mem_iff_getElem?.1 hx
  rw [List.getElem?_drop] at hj
  have := hf (a + j) (by omega) (List.getElem?_eq_some_iff.1 hj).1
  rw [List.getD_eq_getElem?_getD,hj] at this
  exact this] at h
 have hm : m < (sepL s (byteB c)).length := by
  by_cases hm : m < (sepL s (byteB c)).length
  ·exact hm
  ·rw [List.drop_eq_nil_of_le (by omega)] at h; cases h
 rw [List.drop_eq_getElem_cons hm,List.map_cons] at h
 injection h with h3 h4
 have h5 := congrArg List.length h4
 rw [List.length_map,List.length_drop] at h5
 refine ⟨by simp at h5; omega,bs_ext ?_⟩
 rw [bs_ex,bs_len,List.take_of_length_le (by rw [List.length_drop]; omega),← h3,List.getD_eq_getElem?_getD,List.getElem?_eq_getElem hm]; rfl
abbrev strsA (l : List ByteArray) : AV := .rslice 1 l.length fun i=>[sv (l.getD i ByteArray.empty)]
theorem app_str {F : List ByteArray} {x : ByteArray} {m i : Nat} (hx : x = F.getD m ByteArray.empty) (hi : i < m + 1) :
  (if i < m then [sv (F.getD (0 + i) ByteArray.empty)] else List.take (0 + 1) (List.drop ((i - m) * (0 + 1)) [sv x])) = [sv (F.getD i ByteArray.empty)] := by
 by_cases h : i < m
 ·rw [if_pos h,Nat.zero_add]
 ·obtain rfl : i = m := by omega
  rw [if_neg h,Nat.sub_self,hx]; rfl
theorem S31 (s : ByteArray) (c : UInt8) (hs : s.size ≤ 1000000000) : SP 31 [sv s,.val (.int .u8 c.toNat)] (strsA (sepL s (byteB c))) false := by
 have hz := bs_len s
 refine sound (d := 2) tok2 mixed2 Tryz.func31 (by kernel_rfl) (by kernel_rfl) ?_
 (conv=>whnf); refine ⟨[.slot 5 1],[0,1,5,6,7],fun st mq=>∃ (i : Nat) (a : Nat) (m : Nat),(a ≤ i ∧ i ≤ s.data.toList.length ∧ m ≤ i) ∧ (PcAt s c a m) ∧ (∀ j,a ≤ j → j < i → s.data.toList.getD j 0 ≠ c) ∧ st = ⟨[(0,sv s),(1,.val (.int .u8 c.toNat)),(5,.oslice 0 0 0 m none),(6,i64 a),(7,i64 i)],⟨[⟨1,m,fun i=>[sv ((sepL s (byteB c)).getD i ByteArray.empty)],0,false,true,false⟩],[],none,0⟩,[]⟩ ∧ mq = s.data.toList.length - i,
  ⟨_,_,⟨0,0,0,⟨by omega,by omega,by omega⟩,pc_0 s c,(fun j h1 h2=>by omega),rfl,rfl⟩,⟨⟨.inl rfl,rfl,rfl,rfl⟩,⟨⟨rfl,rfl,rfl,rfl,fun _=>rfl,fun i h=>.inl (absurd h (Nat.not_lt_zero i))⟩,trivial⟩,trivial⟩⟩,?_⟩
 rintro s0 m0 ⟨i,a,m,hi,hp,hf,rfl,hmeas⟩
 by_cases hlt : i < s.data.toList.length
 ·by_cases hc : s.data.toList.getD (i : Int).toNat 0 = c
  ·obtain ⟨p1,p2,p3⟩ := pc_hit hp hi.1 hlt hc hf
   have hc2 : ((s.data.toList.getD (i : Int).toNat 0).toNat : Int) = c.toNat := by rw [hc]
   conv=>whnf
   (conv=>whnf); refine ifB_dec (fun w1=>?_) (fun w1=>?_)
   ·conv=>whnf
    (conv=>whnf); refine ⟨⟨(by omega),(by omega)⟩,?_⟩
    conv=>whnf
    (conv=>whnf); refine ifB_beq (fun w2=>?_) (fun w2=>?_)
    ·conv=>whnf
     (conv=>whnf); refine ⟨⟨(by omega),⟨(by omega),(by omega)⟩⟩,?_⟩
     conv=>whnf
     (conv=>whnf); refine .inl ?_
     conv=>whnf
     (conv=>whnf); refine ⟨(by show _ * (16 + 1) ≤ _; omega),?_⟩
     conv=>whnf
     (conv=>whnf); refine ⟨inK64 (by omega) (by omega),?_⟩
     conv=>whnf
     (conv=>whnf); refine ⟨inK64 (by omega) (by omega),?_⟩
     conv=>whnf
     (conv=>whnf); refine ⟨_,_,⟨⟨i + 1,i + 1,m + 1,⟨by omega,by omega,by omega⟩,p3,(fun j h1 h2=>by omega),rfl,rfl⟩,by omega⟩,⟨⟨.inl rfl,rfl,rfl,rfl⟩,⟨⟨rfl,rfl,rfl,rfl,fun _=>rfl,fun j hj=>.inl ((app_str p2 hj).symm)⟩,trivial⟩,trivial⟩⟩
    ·(exfalso; omega)
   ·(exfalso; omega)
  ·have hc2 : ¬ ((s.data.toList.getD (i : Int).toNat 0).toNat : Int) = c.toNat := fun e=>hc (UInt8.toNat_inj.1 (by omega))
   conv=>whnf
   (conv=>whnf); refine ifB_dec (fun w1=>?_) (fun w1=>?_)
   ·conv=>whnf
    (conv=>whnf); refine ⟨⟨(by omega),(by omega)⟩,?_⟩
    conv=>whnf
    (conv=>whnf); refine ifB_beq (fun w2=>?_) (fun w2=>?_)
    ·(exfalso; omega)
    ·conv=>whnf
     (conv=>whnf); refine ⟨inK64 (by omega) (by omega),?_⟩
     conv=>whnf
     (conv=>whnf); refine ⟨_,_,⟨⟨i + 1,a,m,⟨by omega,by omega,by omega⟩,hp,(fun j h1 h2=>by by_cases e : j = i; (rw [e]; exact hc); exact hf j h1 (by omega)),rfl,rfl⟩,by omega⟩,⟨⟨.inl rfl,rfl,rfl,rfl⟩,⟨bA,trivial⟩,trivial⟩⟩
   ·(exfalso; omega)
 ·have e : i = s.data.toList.length := by omega
  subst e
  obtain ⟨p1,p2⟩ := pc_end hp hf
  conv=>whnf
  (conv=>whnf); refine ifB_dec (fun w1=>?_) (fun w1=>?_)
  ·(exfalso; omega)
  ·conv=>whnf
   (conv=>whnf); refine ⟨⟨(by omega),⟨(by omega),(by omega)⟩⟩,?_⟩
   conv=>whnf
   (conv=>whnf); refine .inl ?_
   conv=>whnf
   (conv=>whnf); refine ⟨(by show _ * (16 + 1) ≤ _; omega),?_⟩
   conv=>whnf
   (conv=>whnf); refine ⟨?_,nofun⟩
   (first | omega | contradiction | exact ⟨rfl,p1.symm,fun i hi=>app_str p2 hi⟩)
end Go.Tr

/- Words of states and plans as strings: numbers without a sign; states. Conditions: none. -/
-- seat YtmichdmpmnhnaaaGreatDoor
namespace Go.Tr
open Go Go.Proofs
set_option maxRecDepth 20000
set_option maxHeartbeats 8000000

def I64 (n : Int) : Prop := -9223372036854775808 ≤ n ∧ n ≤ 9223372036854775807
theorem getD_mapG {α β : Type} (f : α → β) (l : List α) (k : Nat) (d : α) (e : β) (h : k < l.length) : (l.map f).getD k e = f (l.getD k d) := by
  simp [List.getD_eq_getElem?_getD,h]
theorem jl (l : List ByteArray) (sep : ByteArray) : (joinB l sep).data.toList = Lib.join (l.map (·.data.toList)) sep.data.toList := by simp [joinB]
theorem sepJ (l : List ByteArray) (c : UInt8) (h0 : l ≠ []) (hf : ∀ x ∈ l,∀ b ∈ x.data.toList,b ≠ c) : sepL (joinB l (byteB c)) (byteB c) = l := by
 have e := sep_cut (joinB l (byteB c)) c
 rw [jl,show (byteB c).data.toList = [c] from rfl,cut_join c _ (by simpa using h0) (fun p hp=>by
  obtain ⟨x,hx,rfl⟩ := List.mem_map.1 hp
  exact hf x hx)] at e
 exact (List.map_inj_right fun a b h=>bs_ext h).1 e
theorem itoa_ne {c : UInt8} (h1 : c ≠ 45) (h2 : isDig c = false) (n : Int) : ∀ b ∈ (itoaB n).data.toList,b ≠ c := fun b hb e=>by
 rw [itoaB_l,Lib.itoa] at hb
 subst e
 have hd : ∀ u,¬ b ∈ Lib.decDigits u := fun u hb=>by rw [(dec_dig u).1 b hb] at h2; cases h2
 split at hb
 ·rcases List.mem_cons.1 hb with e | hb
  ·exact h1 e
  ·exact hd _ hb
 ·exact hd _ hb
theorem nD_le : ∀ (k u : Nat),u < 10 ^ (k + 1) → Lib.nDigits u ≤ k + 1
 | 0,u,h=>by rw [Lib.nDigits_small (by omega)]; omega
 | k + 1, u, h => by
  by_cases h10 : u < 10
  ·rw [Lib.nDigits_small h10]; omega
  ·rw [Lib.nDigits_big h10]
   have := nD_le k (u / 10) (by rw [Nat.pow_succ] at h; omega)
   omega
def nO (w : ByteArray) : Bool := atoiOk w && decide (0 ≤ atoiV w) && ((itoaB (atoiV w)).toList == w.toList) && decide (w.size ≤ 6)
theorem nO_num (w : ByteArray) : nO w = numO w false := by
 unfold nO numO
 cases h1 : atoiOk w
 ·simp
 cases h2 : ((itoaB (atoiV w)).toList == w.toList)
 ·simp
 by_cases h3 : 0 ≤ atoiV w
 ·have e : w.data.toList = Lib.itoa (atoiV w) := by
   have := beq_iff_eq.1 h2
   rw [bs_tl,bs_tl,itoaB_l] at this
   exact this.symm
  have e2 : Lib.trimPrefix w.data.toList [45] = w.data.toList := by
   rw [e,trim_itoa,(magL_itoa _).1,itoa_pos' (by omega),show (atoiV w).toNat = (atoiV w).natAbs by omega]
  rw [e2,bs_len]
  simp [h3]
 ·simp [h3]
theorem nO_ref (w : ByteArray) : nO w = (refOk w.data.toList 6 && !(w.data.toList.head? == some 45)) := by rw [nO_num,num_ref0]
theorem nO_itoa {n : Int} (h : 0 ≤ n ∧ n ≤ 999999) : nO (itoaB n) = true ∧ atoiV (itoaB n) = n := by
 obtain ⟨h1,h2⟩ := num_ref (itoaB n)
 obtain ⟨r1,r2⟩ := refOk_itoa n 6
 have hr : refOk (itoaB n).data.toList 6 = true := by
  rw [itoaB_l,r1,Lib.decDigits_length]
  exact Nat.ble_eq_true_of_le (nD_le 5 _ (by omega))
 have hh : ¬ (itoaB n).data.toList.head? = some 45 := fun e=>by
  rw [itoaB_l] at e
  have := (magL_itoa n).2.1 e
  omega
 refine ⟨by rw [nO_ref,hr]; simpa using hh,?_⟩
 rw [h2 hr,itoaB_l,r2]
theorem sep_len (s : ByteArray) (c : UInt8) : 0 < (sepL s (byteB c)).length ∧ (sepL s (byteB c)).length ≤ s.size + 1 := by
 have e : (sepL s (byteB c)).length = Lib.countB s (byteB c) + 1 := Lib.splitB_all (byteB c) (Nat.le_refl 1) 0 _ s rfl
 have := Lib.countB_le (byteB c) (Nat.le_refl 1) s.size s (Nat.le_refl _)
 omega
theorem splitB_size (sep : ByteArray) : ∀ (k : Nat) (s : ByteArray),∀ w ∈ Lib.splitB sep 0 k s,w.size ≤ s.size
 | 0,s,w,h=>by rw [Lib.splitB_zero] at h; rw [List.mem_singleton.1 h]; exact Nat.le_refl _
 | k + 1, s, w, h => by
  rw [Lib.splitB] at h
  split at h
  ·rw [List.mem_singleton.1 h]; exact Nat.le_refl _
  ·rcases List.mem_cons.1 h with e | h
   ·rw [e,ByteArray.size_extract]; omega
   ·have := splitB_size sep k _ w h
    rw [ByteArray.size_extract] at this; omega
theorem sepL_size (s sep : ByteArray) (i : Nat) : ((sepL s sep).getD i ByteArray.empty).size ≤ s.size := by
 rw [List.getD_eq_getElem?_getD]
 cases h : (sepL s sep)[i]? with
 | none=>exact Nat.zero_le _
 | some w=>exact splitB_size sep _ s w (List.mem_of_getElem? h)
theorem join_le (sep : ByteArray) (B : Nat) : ∀ l : List ByteArray,(∀ x ∈ l,x.size ≤ B) → (joinB l sep).size ≤ l.length * (B + sep.size)
 | [],_=>Nat.zero_le _
 | [x], h => by
  have e : (joinB [x] sep).size = x.size := by
   rw [joinB,size_mk,List.map_cons,List.map_nil,Lib.join_one,← bs_len]
  have := h x (.head _)
  rw [e]; simp; omega
 | x :: y :: r, h => by
  have ih := join_le sep B (y :: r) fun z hz=>h z (.tail _ hz)
  have hx := h x (.head _)
  have e : (joinB (x :: y :: r) sep).size = x.size + sep.size + (joinB (y :: r) sep).size := by
   rw [joinB,joinB,size_mk,size_mk,List.map_cons,List.map_cons,Lib.join_cons,Lib.join_cons,bs_len,bs_len]
   simp [Lib.joinTail]; omega
  rw [e,List.length_cons,Nat.add_mul,Nat.one_mul]
  omega
theorem itoaB_le {n : Int} (h : I64 n) : (itoaB n).size ≤ 21 := by
  rw [bs_len,itoaB_l]; exact Lib.itoa_length_le n h.1 h.2
theorem byteB_size (c : UInt8) : (byteB c).size = 1 := rfl
def fmtL (c : UInt8) (l : List Int) : ByteArray := joinB (l.map itoaB) (byteB c)
theorem fmt_sep (c : UInt8) (h1 : c ≠ 45) (h2 : isDig c = false) (l : List Int) (h0 : l ≠ []) : sepL (fmtL c l) (byteB c) = l.map itoaB := sepJ (l.map itoaB) c (by simpa using h0) fun x hx=>by
  obtain ⟨n,_,rfl⟩ := List.mem_map.1 hx
  exact itoa_ne h1 h2 n
def In6 (n : Int) : Prop := 0 ≤ n ∧ n ≤ 999999
def wds (s : ByteArray) : List ByteArray := sepL s (byteB 32)
abbrev wd (s : ByteArray) (j : Nat) : ByteArray := (wds s).getD j ByteArray.empty
def stO (s : ByteArray) : Bool := decide ((wds s).length = 2) && (wds s).all nO
def stE (s : ByteArray) : Int := if stO s then 0 else 7
def stV (s : ByteArray) : Int × Int := if stO s then (atoiV (wd s 0),atoiV (wd s 1)) else (0,0)
theorem st_back {a b : Int} (ha : In6 a) (hb : In6 b) : stE (fmtL 32 [a,b]) = 0 ∧ stV (fmtL 32 [a,b]) = (a,b) := by
 have hw : wds (fmtL 32 [a,b]) = [itoaB a,itoaB b] := fmt_sep 32 (by decide) (by decide) [a,b] (by simp)
 have ho : stO (fmtL 32 [a,b]) = true := by
  unfold stO
  rw [hw]
  simp [(nO_itoa ha).1,(nO_itoa hb).1]
 refine ⟨by rw [stE,ho,if_pos rfl],?_⟩
 rw [stV,ho,if_pos rfl]
 unfold wd
 rw [hw]
 show (atoiV (itoaB a),atoiV (itoaB b)) = _
 rw [(nO_itoa ha).2,(nO_itoa hb).2]
end Go.Tr

/- States as strings: both programs' functions, and the law. Conditions: none. -/
-- seat YtmichdmpmnhnaaaGreatDoor
namespace Go.Tr
open Go Go.Proofs
set_option maxRecDepth 20000
set_option maxHeartbeats 8000000

theorem S59 (s : ByteArray) (hs : s.size ≤ 1000000000) : SP 59 [sv s] (.tuple [i64 (atoiV s),vb (nO s)]) false := by
 have hA := S101 s (by omega)
 have hI := S35 (atoiV s) (atoiV_in s).1 (atoiV_in s).2
 unfold nO
 cases hok : atoiOk s <;> rw [hok] at hA
 ·refine sound (d := 2) tok2 mixed2 Tryz.func59 (by kernel_rfl) (by kernel_rfl) ?_
  (conv=>whnf); refine .inl ⟨_,_,byX rfl (hA),?_⟩
  (conv=>whnf); refine ⟨?_,nofun⟩
  (first | omega | exact ave_iv rfl (by simp))
 ·by_cases h0 : 0 ≤ atoiV s
  ·cases he : ((itoaB (atoiV s)).toList == s.toList)
   ·refine sound (d := 2) tok2 mixed2 Tryz.func59 (by kernel_rfl) (by kernel_rfl) ?_
    (conv=>whnf); refine .inl ⟨_,_,byX rfl (Sound1.pl (hA) rfl),?_⟩
    (conv=>whnf); refine ifB_dec (fun w1=>?_) (fun w1=>?_)
    ·(conv=>whnf); refine .inl ⟨_,_,byX rfl (hI),?_⟩
     (conv=>whnf); refine ifB_intro (fun w2=>?_) (fun w2=>?_)
     ·exact absurd (he.symm.trans w2) nofun
     ·(conv=>whnf); refine ⟨?_,nofun⟩
      (first | omega | exact ave_iv rfl (by simp))
    ·(exfalso; omega)
   ·have e6b : decide ((s.size : Int) ≤ 6) = (true && decide (0 ≤ atoiV s) && true && decide (s.size ≤ 6)) := by
     rw [decide_eq_true h0,Bool.true_and,Bool.true_and,Bool.true_and]
     exact decide_eq_decide.2 (by omega)
    refine sound (d := 2) tok2 mixed2 Tryz.func59 (by kernel_rfl) (by kernel_rfl) ?_
    (conv=>whnf); refine .inl ⟨_,_,byX rfl (Sound1.pl (hA) rfl),?_⟩
    (conv=>whnf); refine ifB_dec (fun w1=>?_) (fun w1=>?_)
    ·(conv=>whnf); refine .inl ⟨_,_,byX rfl (hI),?_⟩
     (conv=>whnf); refine ifB_intro (fun w2=>?_) (fun w2=>?_)
     ·(conv=>whnf); refine ⟨?_,nofun⟩
      (first | omega | exact ave_iv rfl e6b)
     ·exact absurd (he.symm.trans w2) nofun
    ·(exfalso; omega)
  ·refine sound (d := 2) tok2 mixed2 Tryz.func59 (by kernel_rfl) (by kernel_rfl) ?_
   (conv=>whnf); refine .inl ⟨_,_,byX rfl (Sound1.pl (hA) rfl),?_⟩
   (conv=>whnf); refine ifB_dec (fun w1=>?_) (fun w1=>?_)
   ·(exfalso; omega)
   ·(conv=>whnf); refine ⟨?_,nofun⟩
    (first | omega | exact ave_iv rfl (by simp [h0]))

theorem S33_l (l : List ByteArray) (c : UInt8) (n : Nat) (hn : n = l.length) (B : Nat) (hB : ∀ x ∈ l,x.size ≤ B) (hl : l.length ≤ 1000) (hb : B ≤ 100000) : SP 33 [.rslice 1 n fun i=>[sv (l.getD i ByteArray.empty)],sv (byteB c)] (sv (joinB l (byteB c))) true := by
 subst hn
 have := join_le (byteB c) B l hB
 rw [byteB_size] at this
 have h2 : l.length * (B + 1) ≤ 1000 * 100001 := Nat.mul_le_mul hl (by omega)
 exact S33 l (byteB c) _ (fun i _=>rfl) (by omega) (by omega)
theorem itoas_le {l : List Int} (h : ∀ x ∈ l,I64 x) : ∀ x ∈ l.map itoaB,x.size ≤ 21 := fun x hx=>by
  obtain ⟨n,hn,rfl⟩ := List.mem_map.1 hx
  exact itoaB_le (h n hn)
theorem I64_at {l : List Int} (h : ∀ x ∈ l,I64 x) (i : Nat) : I64 (l.getD i 0) := by
 rw [List.getD_eq_getElem?_getD]
 cases hi : l[i]? with
 | none=>exact ⟨by decide,by decide⟩
 | some r=>exact h r (List.mem_of_getElem? hi)
theorem S27 (c : UInt8) (l : List Int) (hl : l.length ≤ 100) (h : ∀ x ∈ l,I64 x) : SP 27 [sv (byteB c),ints l] (sv (fmtL c l)) false := by
 refine sound (d := 2) tok2 mixed2 Tryz.func27 (by kernel_rfl) (by kernel_rfl) ?_
 (conv=>whnf); refine ⟨[.slot 5 1],[0,5,8,9,10],fun st mq=>∃ (m : Nat),(m ≤ l.length) ∧ st = ⟨[(0,sv (byteB c)),(5,.oslice 0 0 0 m none),(8,ints l),(9,i64 l.length),(10,i64 m)],⟨[⟨1,m,fun i=>[sv ((l.map itoaB).getD i ByteArray.empty)],0,false,true,false⟩],[],none,0⟩,[]⟩ ∧ mq = l.length - m,
  ⟨_,_,⟨0,by omega,rfl,rfl⟩,⟨⟨.inl rfl,rfl,rfl,rfl⟩,⟨⟨rfl,rfl,rfl,rfl,fun _=>rfl,fun i h=>.inl (absurd h (Nat.not_lt_zero i))⟩,trivial⟩,trivial⟩⟩,?_⟩
 rintro s0 m0 ⟨m,hm,rfl,hmeas⟩
 by_cases hlt : m < l.length
 ·have hx := I64_at h m
  have h20 := S35 (l.getD m 0) hx.1 hx.2
  conv=>whnf
  (conv=>whnf); refine ifB_dec (fun w1=>?_) (fun w1=>?_)
  ·conv=>whnf
   (conv=>whnf); refine ⟨⟨(by omega),(by omega)⟩,?_⟩
   conv=>whnf
   (conv=>whnf); refine .inl ⟨_,_,byX rfl (h20),?_⟩
   conv=>whnf
   (conv=>whnf); refine .inl ?_
   conv=>whnf
   (conv=>whnf); refine ⟨(by show _ * (16 + 1) ≤ _; omega),?_⟩
   conv=>whnf
   (conv=>whnf); refine ⟨inK64 (by omega) (by omega),?_⟩
   conv=>whnf
   (conv=>whnf); refine ⟨_,_,⟨⟨m + 1,by omega,rfl,rfl⟩,by omega⟩,⟨⟨.inl rfl,rfl,rfl,rfl⟩,⟨⟨rfl,rfl,rfl,rfl,fun _=>rfl,fun i hi=>.inl ((app_str (F := l.map itoaB) (m := m) (getD_mapG itoaB l m 0 ByteArray.empty hlt).symm hi).symm)⟩,trivial⟩,trivial⟩⟩
  ·(exfalso; omega)
 ·have he : m = l.length := by omega
  have h21 := S33_l (l.map itoaB) c m (by rw [List.length_map]; exact he) 21 (itoas_le h) (by rw [List.length_map]; omega) (by omega)
  conv=>whnf
  (conv=>whnf); refine ifB_dec (fun w1=>?_) (fun w1=>?_)
  ·(exfalso; omega)
  ·conv=>whnf
   (conv=>whnf); refine .inl ⟨_,_,byX rfl (h21),?_⟩
   conv=>whnf
   (conv=>whnf); refine ⟨?_,nofun⟩
   (first | omega | exact rfl)
theorem Sound1.ave2 {f : FuncId} {x y z r : AV} {fr : Bool} (h : SP f [z,y] r fr) (hx : AVE 5 x y) : SP f [z,x] r fr :=
 ⟨h.1,fun w q vs hq hg hs hv=>h.2 w q vs hq hg hs fun i u hu=>match i,hu with
  | 0,hu=>by cases hu; exact hv 0 _ rfl
  | 1,hu=>by cases hu; exact AVE_ok 5 hx (hv 1 _ rfl)⟩
theorem ave_intsF {l : List Int} {n : Nat} {F : Nat → List AV} (hn : n = l.length) (hF : ∀ i,i < n → F i = [i64 (l.getD i 0)]) {k : Nat} : AVE (k + 1) (.rslice 1 n F) (ints l) :=
  ⟨rfl,hn,fun i hi=>by show F i = [i64 (l.getD i 0)]; exact hF i hi⟩
theorem S27_n (c : UInt8) (l : List Int) (hl : l.length ≤ 100) (h : ∀ x ∈ l,I64 x) {n : Nat} {F : Nat → List AV} (hn : n = l.length) (hF : ∀ i,i < n → F i = [i64 (l.getD i 0)]) : SP 27 [sv (byteB c),.rslice 1 n F] (sv (fmtL c l)) false :=
  Sound1.ave2 (S27 c l hl h) (ave_intsF hn hF)
theorem two_rowsI {f : Int → AV} {a b : Int} {F : Nat → List AV} (h0 : F 0 = [f a]) (h1 : F 1 = [f b]) (i : Nat) (hi : i < 2) : F i = [f ([a,b].getD i 0)] := match i,hi with
  | 0,_=>h0
  | 1,_=>h1
theorem S6 (a : Int × Int) (h : I64 a.1 ∧ I64 a.2) : SP 6 [stA a] (sv (fmtL 32 [a.1,a.2])) false := by
 have hj : ∀ {F : Nat → List AV},F 0 = [i64 a.1] → F 1 = [i64 a.2] → SP 27 [sv (byteB 32),.rslice 1 2 F] (sv (fmtL 32 [a.1,a.2])) false := fun {F} h0 h1 =>
  S27_n 32 [a.1,a.2] (by simp) (by intro x hx; simp at hx; rcases hx with e | e <;> rw [e]; exact h.1; exact h.2) rfl (two_rowsI (f := i64) h0 h1)
 refine sound (d := 2) tok2 mixed2 Tryz.func6 (by kernel_rfl) (by kernel_rfl) ?_
 (conv=>whnf); refine .inl ⟨_,_,byX rfl (Sound1.pl (hj rfl rfl) rfl),?_⟩
 (conv=>whnf); refine ⟨?_,nofun⟩
 (first | omega | exact rfl)

theorem S32a (n : Int) (h : I64 n) : SP 32 [i64 n] (sv (itoaB n)) false := by
 by_cases hn : n = 0
 ·subst hn; exact S32z
 ·exact S32 n hn h
theorem fmt2 (c : UInt8) (a b : Int) : itoaB a ++ byteB c ++ itoaB b = fmtL c [a,b] := by
 apply bs_ext
 unfold fmtL
 rw [bs_app,bs_app,jl,show ([a,b].map itoaB).map (·.data.toList) = [(itoaB a).data.toList,(itoaB b).data.toList] from rfl,Lib.join_cons]
 simp [Lib.joinTail]
theorem S9 (a : Int × Int) (h : I64 a.1 ∧ I64 a.2) : SP 9 [stA a] (sv (fmtL 32 [a.1,a.2])) false := by
 have h1 := S32a a.1 h.1
 have h2 := S32a a.2 h.2
 have q1 := itoaB_le h.1
 have q2 := itoaB_le h.2
 have z1 : (itoaB a.1 ++ byteB 32).size = (itoaB a.1).size + 1 := by rw [ByteArray.size_append]; rfl
 have hf : sv (itoaB a.1 ++ byteB 32 ++ itoaB a.2) = sv (fmtL 32 [a.1,a.2]) := congrArg (fun x=>sv x) (fmt2 32 a.1 a.2)
 have hone : (⟨#[32]⟩ : ByteArray).size = 1 := rfl
 have z2 : (itoaB a.1 ++ ⟨#[32]⟩).size = (itoaB a.1).size + 1 := z1
 refine sound (d := 2) tok2 mixed2 Tryz.func9 (by kernel_rfl) (by kernel_rfl) ?_
 (conv=>whnf); refine ⟨[],by kernel_rfl,?_⟩
 (conv=>whnf); refine .inl ⟨_,_,byX rfl (Sound1.pl (h1) rfl),?_⟩
 (conv=>whnf); refine ⟨(by omega),?_⟩
 (conv=>whnf); refine .inl ⟨_,_,byX rfl (Sound1.pl (h2) rfl),?_⟩
 (conv=>whnf); refine ⟨(by omega),?_⟩
 (conv=>whnf); refine ⟨?_,nofun⟩
 (first | omega | exact hf)
theorem S61_w (w : ByteArray) (hs : w.size ≤ 1000000000) : SP 61 [sv w,i64 6] (.tuple [i64 (if refOk w.data.toList 6 then atoiV w else 0),vb (refOk w.data.toList 6)]) false := by
 have h := S61 w hs
 obtain ⟨h1,h2⟩ := num_ref w
 rw [refN] at h
 by_cases hr : refOk w.data.toList 6 = true
 ·rw [if_pos hr] at h
  rw [if_pos hr,h2 hr]; exact h
 ·rw [if_neg hr] at h
  rw [if_neg hr]; exact h
def numR (W : List ByteArray) : AV := if W.all nO then .tuple [ints (W.map atoiV),vb true] else .tuple [.eslice,vb false]
theorem all_no {W : List ByteArray} {m : Nat} (hm : m < W.length) (h : nO (W.getD m ByteArray.empty) = false) : W.all nO = false := by
 rw [List.all_eq_false]
 refine ⟨W.getD m ByteArray.empty,?_,by rw [h]; simp⟩
 rw [List.getD_eq_getElem?_getD,List.getElem?_eq_getElem hm]; exact List.getElem_mem hm
theorem all_yes {W : List ByteArray} (h : ∀ i,i < W.length → nO (W.getD i ByteArray.empty) = true) : W.all nO = true := by
 rw [List.all_eq_true]
 intro w hw
 obtain ⟨j,hj⟩ := List.mem_iff_getElem?.1 hw
 have := h j (List.getElem?_eq_some_iff.1 hj).1
 rw [List.getD_eq_getElem?_getD,hj] at this
 exact this
theorem fin_n0 {W : List ByteArray} (h : W.all nO = false) : AVE 5 (.tuple [.eslice,vb false]) (numR W) := by
  rw [numR,h]
  exact ave_tup2 (k := 4) rfl rfl
theorem fin_n1 {W : List ByteArray} (h : W.all nO = true) {n : Nat} {F : Nat → List AV} (hn : n = W.length) (hF : ∀ i,i < n → F i = [i64 (atoiV (W.getD i ByteArray.empty))]) : AVE 5 (.tuple [.rslice 1 n F,vb true]) (numR W) := by
  rw [numR,h,if_pos rfl]
  exact ave_tup2 (k := 4) (ave_intsF (k := 3) (by rw [List.length_map]; exact hn) fun i hi=>by rw [hF i hi,getD_mapG atoiV W i ByteArray.empty 0 (by omega)]) rfl
theorem ref_pos {l : List UInt8} (h : refOk l 6 = true) : 0 < l.length := by
 cases l with
 | nil=>revert h; decide
 | cons=>simp
theorem app_int {f : Nat → Int} {m i : Nat} {x : Int} (hx : x = f m) (hi : i < m + 1) : (if i < m then [i64 (f (0 + i))] else List.take (0 + 1) (List.drop ((i - m) * (0 + 1)) [i64 x])) = [i64 (f i)] := by
 by_cases h : i < m
 ·rw [if_pos h,Nat.zero_add]
 ·obtain rfl : i = m := by omega
  rw [if_neg h,Nat.sub_self,hx]; rfl
theorem S30 (W : List ByteArray) (hl : W.length ≤ 1000000) (hz : ∀ i,(W.getD i ByteArray.empty).size ≤ 1000000) : SP 30 [strsA W] (numR W) false := by
 refine sound (d := 2) tok2 mixed2 Tryz.func30 (by kernel_rfl) (by kernel_rfl) ?_
 (conv=>whnf); refine ⟨[.slot 4 1],[0,4,5],fun st mq=>∃ (m : Nat),(m ≤ W.length) ∧ (∀ i,i < m → nO (W.getD i ByteArray.empty) = true) ∧ st = ⟨[(0,strsA W),(4,.oslice 0 0 0 m none),(5,i64 m)],⟨[⟨1,m,fun i=>[i64 (atoiV (W.getD i ByteArray.empty))],0,false,true,false⟩],[],none,0⟩,[]⟩ ∧ mq = W.length - m,
  ⟨_,_,⟨0,by omega,(fun i h=>by omega),rfl,rfl⟩,⟨⟨.inl rfl,rfl,rfl,rfl⟩,⟨⟨rfl,rfl,rfl,rfl,fun _=>rfl,fun i h=>.inl (absurd h (Nat.not_lt_zero i))⟩,trivial⟩,trivial⟩⟩,?_⟩
 rintro s0 m0 ⟨m,hm,ho,rfl,hmeas⟩
 by_cases hlt : m < W.length
 ·have hsz := hz m
  have h61 := S61_w (W.getD m ByteArray.empty) (by omega)
  have hr := nO_ref (W.getD m ByteArray.empty)
  cases hn : refOk (W.getD m ByteArray.empty).data.toList 6 with
  | false =>
   have hf := fin_n0 (all_no hlt (by rw [hr,hn]; rfl))
   rw [hn] at h61
   conv=>whnf
   (conv=>whnf); refine ifB_dec (fun w1=>?_) (fun w1=>?_)
   ·conv=>whnf
    (conv=>whnf); refine ⟨⟨(by omega),(by omega)⟩,?_⟩
    conv=>whnf
    (conv=>whnf); refine .inl ⟨_,_,byX rfl (Sound1.pl (h61) rfl),?_⟩
    conv=>whnf
    (conv=>whnf); refine ⟨?_,nofun⟩
    (first | omega | exact hf)
   ·(exfalso; omega)
  | true =>
   rw [hn,if_pos rfl] at h61
   have hp := ref_pos hn
   have hp2 : 0 < (W.getD (m : Int).toNat ByteArray.empty).size := by rw [bs_len]; exact hp
   by_cases hb : (((W.getD m ByteArray.empty).data.toList.getD 0 0).toNat : Int) = 45
   ·have hf := fin_n0 (all_no hlt (by rw [hr,hn,(mag1 hp hb).2]; rfl))
    have hb2 : (((W.getD (m : Int).toNat ByteArray.empty).data.toList.getD (0 : Int).toNat 0).toNat : Int) = 45 := hb
    conv=>whnf
    (conv=>whnf); refine ifB_dec (fun w1=>?_) (fun w1=>?_)
    ·conv=>whnf
     (conv=>whnf); refine ⟨⟨(by omega),(by omega)⟩,?_⟩
     conv=>whnf
     (conv=>whnf); refine .inl ⟨_,_,byX rfl (Sound1.pl (h61) rfl),?_⟩
     conv=>whnf
     (conv=>whnf); refine ⟨⟨(by omega),(by omega)⟩,?_⟩
     conv=>whnf
     (conv=>whnf); refine ⟨⟨(by omega),(by omega)⟩,?_⟩
     conv=>whnf
     (conv=>whnf); refine ifB_beq (fun w2=>?_) (fun w2=>?_)
     ·conv=>whnf
      (conv=>whnf); refine ⟨?_,nofun⟩
      (first | omega | contradiction | (constructor <;> omega) | exact hf)
     ·(exfalso; omega)
    ·(exfalso; omega)
   ·have hok : nO (W.getD m ByteArray.empty) = true := by rw [hr,hn]; simpa using (mag0 hb).2
    have hb2 : ¬ (((W.getD (m : Int).toNat ByteArray.empty).data.toList.getD (0 : Int).toNat 0).toNat : Int) = 45 := hb
    conv=>whnf
    (conv=>whnf); refine ifB_dec (fun w1=>?_) (fun w1=>?_)
    ·conv=>whnf
     (conv=>whnf); refine ⟨⟨(by omega),(by omega)⟩,?_⟩
     conv=>whnf
     (conv=>whnf); refine .inl ⟨_,_,byX rfl (Sound1.pl (h61) rfl),?_⟩
     conv=>whnf
     (conv=>whnf); refine ⟨⟨(by omega),(by omega)⟩,?_⟩
     conv=>whnf
     (conv=>whnf); refine ⟨⟨(by omega),(by omega)⟩,?_⟩
     conv=>whnf
     (conv=>whnf); refine ifB_beq (fun w2=>?_) (fun w2=>?_)
     ·(exfalso; omega)
     ·conv=>whnf
      (conv=>whnf); refine .inl ?_
      conv=>whnf
      (conv=>whnf); refine ⟨(by show _ * (8 + 1) ≤ _; omega),?_⟩
      conv=>whnf
      (conv=>whnf); refine ⟨inK64 (by omega) (by omega),?_⟩
      conv=>whnf
      (conv=>whnf); refine ⟨_,_,⟨⟨m + 1,by omega,(fun j hj=>by by_cases e : j = m; (rw [e]; exact hok); exact ho j (by omega)),rfl,rfl⟩,by omega⟩,⟨⟨.inl rfl,rfl,rfl,rfl⟩,⟨⟨rfl,rfl,rfl,rfl,fun _=>rfl,fun j hj=>.inl ((app_int (f := fun i=>atoiV (W.getD i ByteArray.empty)) rfl hj).symm)⟩,trivial⟩,trivial⟩⟩
    ·(exfalso; omega)
 ·have he : m = W.length := by omega
  have hall : W.all nO = true := all_yes fun j hj=>ho j (by omega)
  conv=>whnf
  (conv=>whnf); refine ifB_dec (fun w1=>?_) (fun w1=>?_)
  ·(exfalso; omega)
  ·conv=>whnf
   (conv=>whnf); refine ⟨?_,nofun⟩
   (first | omega | contradiction | exact fin_n1 hall (by omega) (fun i hi=>rfl))
theorem fin_s0 {s : ByteArray} (h : stO s = false) : AVE 5 (.tuple [.agg [i64 0,i64 0],i64 7]) (.tuple [stA (stV s),i64 (stE s)]) := by
  rw [stV,stE,h]
  exact ave_tup2 (k := 4) (ave_agg2 (k := 3) rfl rfl) rfl
theorem fin_s1 {s : ByteArray} (h : stO s = true) {a b : Int} (ha : a = atoiV (wd s 0)) (hb : b = atoiV (wd s 1)) : AVE 5 (.tuple [.agg [i64 a,i64 b],i64 0]) (.tuple [stA (stV s),i64 (stE s)]) := by
 subst ha; subst hb
 rw [stV,stE,h]
 exact ave_tup2 (k := 4) (ave_agg2 (k := 3) rfl rfl) rfl
theorem S8 (s : ByteArray) (hs : s.size ≤ 900000) : SP 8 [sv s] (.tuple [stA (stV s),i64 (stE s)]) false := by
 have hc : SP 31 [sv s,.val (.int .u8 32)] (strsA (wds s)) false := S31 s 32 (by omega)
 have hln : 0 < (wds s).length ∧ (wds s).length ≤ s.size + 1 := sep_len s 32
 have hn := S30 (wds s) (by omega) (fun i=>by have := sepL_size s (byteB 32) i; unfold wds; omega)
 unfold numR at hn
 cases ha : (wds s).all nO with
 | false =>
  have hf := fin_s0 (s := s) (by unfold stO; rw [ha,Bool.and_false])
  rw [ha] at hn
  refine sound (d := 2) tok2 mixed2 Tryz.func8 (by kernel_rfl) (by kernel_rfl) ?_
  (conv=>whnf); refine .inl ⟨_,_,byX rfl (hc),?_⟩
  (conv=>whnf); refine .inl ⟨_,_,byX rfl (hn),?_⟩
  (conv=>whnf); refine ⟨?_,nofun⟩
  (first | omega | contradiction | exact hf)
 | true =>
  rw [ha,if_pos rfl] at hn
  have hml : ((wds s).map atoiV).length = (wds s).length := List.length_map ..
  by_cases h2 : (wds s).length = 2
  ·have hf := fun {a b : Int}=>@fin_s1 s (by unfold stO; rw [ha,decide_eq_true h2]; rfl) a b
   have g0 : ((wds s).map atoiV).getD 0 0 = atoiV (wd s 0) := getD_mapG atoiV (wds s) 0 ByteArray.empty 0 (by omega)
   have g1 : ((wds s).map atoiV).getD 1 0 = atoiV (wd s 1) := getD_mapG atoiV (wds s) 1 ByteArray.empty 0 (by omega)
   refine sound (d := 2) tok2 mixed2 Tryz.func8 (by kernel_rfl) (by kernel_rfl) ?_
   (conv=>whnf); refine .inl ⟨_,_,byX rfl (hc),?_⟩
   (conv=>whnf); refine .inl ⟨_,_,byX rfl (hn),?_⟩
   (conv=>whnf); refine ifB_bne (fun w1=>?_) (fun w1=>?_)
   ·(exfalso; omega)
   ·(conv=>whnf); refine ⟨[],by kernel_rfl,?_⟩
    (conv=>whnf); refine ⟨⟨(by omega),(by omega)⟩,?_⟩
    (conv=>whnf); refine ⟨⟨(by omega),(by omega)⟩,?_⟩
    (conv=>whnf); refine ⟨?_,nofun⟩
    (first | omega | contradiction | exact hf g0 g1)
  ·have hf := fin_s0 (s := s) (by unfold stO; rw [decide_eq_false h2]; rfl)
   refine sound (d := 2) tok2 mixed2 Tryz.func8 (by kernel_rfl) (by kernel_rfl) ?_
   (conv=>whnf); refine .inl ⟨_,_,byX rfl (hc),?_⟩
   (conv=>whnf); refine .inl ⟨_,_,byX rfl (hn),?_⟩
   (conv=>whnf); refine ifB_bne (fun w1=>?_) (fun w1=>?_)
   ·(conv=>whnf); refine ⟨?_,nofun⟩
    (first | omega | contradiction | exact hf)
   ·(exfalso; omega)
theorem stO_no {s : ByteArray} {m : Nat} (hm : m < (wds s).length) (h : nO (wd s m) = false) : stO s = false := by
  unfold stO
  rw [all_no hm h,Bool.and_false]
theorem stO_yes {s : ByteArray} (h2 : (wds s).length = 2) (h0 : nO (wd s 0) = true) (h1 : nO (wd s 1) = true) : stO s = true := by
 unfold stO
 rw [decide_eq_true h2,all_yes fun i hi=>by
  match i,(by omega : i < 2) with
  | 0,_=>exact h0
  | 1,_=>exact h1]; rfl
def ptF : Nat → List AV
  | 0=>[.optr 1 0 0 0]
  | _=>[.optr 1 0 0 1]
theorem S7 (s : ByteArray) (hs : s.size ≤ 900000) : SP 7 [sv s] (.tuple [stA (stV s),i64 (stE s)]) false := by
 have hc : SP 29 [sv s,sv (byteB 32)] (strsA (wds s)) false := S29 s (byteB 32) (by omega) (Nat.le_refl 1)
 have hln : 0 < (wds s).length ∧ (wds s).length ≤ s.size + 1 := sep_len s 32
 by_cases h2 : (wds s).length = 2
 ·have hsz : ∀ i,(wd s i).size ≤ s.size := fun i=>sepL_size s (byteB 32) i
  refine sound (d := 2) tok2 mixed2 Tryz.func7 (by kernel_rfl) (by kernel_rfl) ?_
  (conv=>whnf); refine .inl ⟨_,_,byX rfl (hc),?_⟩
  (conv=>whnf); refine .inr (.inl ⟨[],?_⟩)
  (conv=>whnf); refine ifB_bne (fun w1=>?_) (fun w1=>?_)
  ·(exfalso; omega)
  ·(conv=>whnf); refine ⟨[.forget [0,3,5,6,7,8,9]],[0,14,15,16],fun st mq=>∃ (j : Nat) (A : Int) (B : Int),((j = 0 ∧ A = 0 ∧ B = 0) ∨ (j = 1 ∧ nO (wd s 0) = true ∧ A = atoiV (wd s 0) ∧ B = 0) ∨ (j = 2 ∧ nO (wd s 0) = true ∧ nO (wd s 1) = true ∧ A = atoiV (wd s 0) ∧ B = atoiV (wd s 1))) ∧ st = ⟨[(0,strsA (wds s)),(14,.oslice 2 0 0 2 (some 2)),(15,i64 (2 : Nat)),(16,i64 j)],⟨[⟨2,1,fun _=>[i64 0,i64 0],0,false,true,true⟩,⟨2,1,fun _=>[i64 A,i64 B],0,false,true,true⟩,⟨1,2,ptF,0,false,false,false⟩],[],none,0⟩,[(4,.optr 1 0 0 0),(2,.optr 0 0 0 0)]⟩ ∧ mq = 2 - j,
    ⟨_,_,⟨0,0,0,.inl ⟨rfl,rfl,rfl⟩,rfl,rfl⟩,⟨⟨.inl rfl,rfl,rfl,rfl⟩,⟨bA,⟨bA,⟨⟨rfl,rfl,rfl,rfl,nofun,fun i h=>.inl ((by rcases i with _ | _ | i <;> first | rfl | exact absurd (show i + 2 < 2 from h) (by omega)))⟩,trivial⟩⟩⟩,trivial⟩⟩,?_⟩
   rintro s0 m0 ⟨j,A,B,hj,rfl,hmeas⟩
   rcases hj with ⟨rfl,rfl,rfl⟩ | ⟨rfl,ho,rfl,rfl⟩ | ⟨rfl,ho,ho1,rfl,rfl⟩
   ·have hn := S59 (wd s 0) (by have := hsz 0; omega)
    cases hb : nO (wd s 0) with
    | false =>
     have hf := fin_s0 (s := s) (stO_no (by omega : 0 < (wds s).length) hb)
     rw [hb] at hn
     conv=>whnf
     (conv=>whnf); refine ⟨⟨(by omega),(by omega)⟩,?_⟩
     conv=>whnf
     (conv=>whnf); refine ⟨⟨(by omega),(by omega)⟩,?_⟩
     conv=>whnf
     (conv=>whnf); refine .inl ⟨_,_,byX rfl (Sound1.pl (hn) rfl),?_⟩
     conv=>whnf
     (conv=>whnf); refine ⟨?_,nofun⟩
     (first | omega | contradiction | exact hf)
    | true =>
     rw [hb] at hn
     conv=>whnf
     (conv=>whnf); refine ⟨⟨(by omega),(by omega)⟩,?_⟩
     conv=>whnf
     (conv=>whnf); refine ⟨⟨(by omega),(by omega)⟩,?_⟩
     conv=>whnf
     (conv=>whnf); refine .inl ⟨_,_,byX rfl (Sound1.pl (hn) rfl),?_⟩
     conv=>whnf
     (conv=>whnf); refine ⟨inK64 (by omega) (by omega),?_⟩
     conv=>whnf
     (conv=>whnf); refine ⟨_,_,⟨⟨1,atoiV (wd s 0),0,.inr (.inl ⟨rfl,rfl,rfl,rfl⟩),rfl,rfl⟩,by omega⟩,⟨⟨.inl rfl,rfl,rfl,rfl⟩,⟨bA,⟨bA,⟨⟨rfl,rfl,rfl,rfl,nofun,fun i h=>.inl ((by rcases i with _ | _ | i <;> first | rfl | exact absurd (show i + 2 < 2 from h) (by omega)))⟩,trivial⟩⟩⟩,trivial⟩⟩
   ·have hn := S59 (wd s 1) (by have := hsz 1; omega)
    cases hb : nO (wd s 1) with
    | false =>
     have hf := fin_s0 (s := s) (stO_no (by omega : 1 < (wds s).length) hb)
     rw [hb] at hn
     conv=>whnf
     (conv=>whnf); refine ⟨⟨(by omega),(by omega)⟩,?_⟩
     conv=>whnf
     (conv=>whnf); refine ⟨⟨(by omega),(by omega)⟩,?_⟩
     conv=>whnf
     (conv=>whnf); refine .inl ⟨_,_,byX rfl (Sound1.pl (hn) rfl),?_⟩
     conv=>whnf
     (conv=>whnf); refine ⟨?_,nofun⟩
     (first | omega | contradiction | exact hf)
    | true =>
     rw [hb] at hn
     conv=>whnf
     (conv=>whnf); refine ⟨⟨(by omega),(by omega)⟩,?_⟩
     conv=>whnf
     (conv=>whnf); refine ⟨⟨(by omega),(by omega)⟩,?_⟩
     conv=>whnf
     (conv=>whnf); refine .inl ⟨_,_,byX rfl (Sound1.pl (hn) rfl),?_⟩
     conv=>whnf
     (conv=>whnf); refine ⟨inK64 (by omega) (by omega),?_⟩
     conv=>whnf
     (conv=>whnf); refine ⟨_,_,⟨⟨2,atoiV (wd s 0),atoiV (wd s 1),.inr (.inr ⟨rfl,ho,rfl,rfl,rfl⟩),rfl,rfl⟩,by omega⟩,⟨⟨.inl rfl,rfl,rfl,rfl⟩,⟨bA,⟨bA,⟨⟨rfl,rfl,rfl,rfl,nofun,fun i h=>.inl ((by rcases i with _ | _ | i <;> first | rfl | exact absurd (show i + 2 < 2 from h) (by omega)))⟩,trivial⟩⟩⟩,trivial⟩⟩
   ·have hf := fin_s1 (s := s) (stO_yes h2 ho ho1) rfl rfl
    conv=>whnf
    (conv=>whnf); refine ⟨?_,nofun⟩
    (first | omega | contradiction | exact hf)
 ·have hf := fin_s0 (s := s) (by unfold stO; rw [decide_eq_false h2]; rfl)
  refine sound (d := 2) tok2 mixed2 Tryz.func7 (by kernel_rfl) (by kernel_rfl) ?_
  (conv=>whnf); refine .inl ⟨_,_,byX rfl (hc),?_⟩
  (conv=>whnf); refine .inr (.inl ⟨[],?_⟩)
  (conv=>whnf); refine ifB_bne (fun w1=>?_) (fun w1=>?_)
  ·(conv=>whnf); refine ⟨?_,nofun⟩
   (first | omega | contradiction | exact hf)
  ·(exfalso; omega)

theorem S3 (a : Int × Int) (s : ByteArray) (ha : I64 a.1 ∧ I64 a.2) (hs : s.size ≤ 9223372036854775807) : SP 3 [stA a, sv s] (vb true) false := by
 have h5 := S5
 by_cases h1 : s.size ≤ 60
 ·have h6 := S6 a ha
  have h9 := S9 a ha
  have h7 := S7 s (by omega)
  have h8 := S8 s (by omega)
  have hz : (fmtL 32 [a.1,a.2]).size ≤ 2 * 22 := by
   have j := join_le (byteB 32) 21 ([a.1,a.2].map itoaB) (itoas_le fun x hx=>by simp at hx; rcases hx with e | e <;> rw [e]; exact ha.1; exact ha.2)
   rw [byteB_size] at j
   exact j
  have d7 := S7 (fmtL 32 [a.1,a.2]) (by omega)
  have htt : ((fmtL 32 [a.1,a.2]).toList == (fmtL 32 [a.1,a.2]).toList) = true := by simp
  have w1 := S10 a.1 0 999999
  have w2 := S10 a.2 0 999999
  have hvv : vEqL [.int .i64 a.1,.int .i64 a.2] [.int .i64 a.1,.int .i64 a.2] = true := by simp [vEqL]
  have hvs : vEqL [.int .i64 (stV s).1,.int .i64 (stV s).2] [.int .i64 (stV s).1,.int .i64 (stV s).2] = true := by simp [vEqL]
  have hve : vb (vEqL [.int .i64 a.1,.int .i64 a.2] [.int .i64 a.1,.int .i64 a.2]) = vb true := congrArg (fun b=>vb b) hvv
  by_cases g1 : 0 ≤ a.1 ∧ a.1 ≤ 999999
  ·by_cases g2 : 0 ≤ a.2 ∧ a.2 ≤ 999999
   ·obtain ⟨b1,b2⟩ := st_back g1 g2
    rw [b1,b2] at d7
    rw [decide_eq_true g1] at w1
    rw [decide_eq_true g2] at w2
    refine sound (d := 2) tok2 mixed2 Tryz.func3 (by kernel_rfl) (by kernel_rfl) ?_
    (conv=>whnf); refine .inl ⟨_,_,byX rfl (Sound1.pl (h5) rfl),?_⟩
    (conv=>whnf); refine ifB_dec (fun w3=>?_) (fun w3=>?_)
    ·(exfalso; omega)
    ·(conv=>whnf); refine .inl ⟨_,_,byX rfl (Sound1.pl (h6) rfl),?_⟩
     (conv=>whnf); refine .inl ⟨_,_,byX rfl (Sound1.pl (h7) rfl),?_⟩
     (conv=>whnf); refine .inl ⟨_,_,byX rfl (Sound1.pl (h8) rfl),?_⟩
     (conv=>whnf); refine .inl ⟨_,_,byX rfl (Sound1.pl (h9) rfl),?_⟩
     (conv=>whnf); refine ifB_not ?_
     (conv=>whnf); refine ifB_intro (fun w4=>?_) (fun w4=>?_)
     ·(conv=>whnf); refine ifB_bne (fun w5=>?_) (fun w5=>?_)
      ·(exfalso; omega)
      ·(conv=>whnf); refine ifB_not ?_
       (conv=>whnf); refine ifB_veq2 (fun w6=>?_) (fun w6=>?_)
       ·(conv=>whnf); refine .inl ⟨_,_,byX rfl (Sound1.pl (w1) rfl),?_⟩
        (conv=>whnf); refine .inl ⟨_,_,byX rfl (Sound1.pl (w2) rfl),?_⟩
        (conv=>whnf); refine .inl ⟨_,_,byX rfl (Sound1.pl (d7) rfl),?_⟩
        (conv=>whnf); refine ⟨?_,nofun⟩
        (first | omega | contradiction | exact rfl | exact hve)
       ·(exfalso; omega)
     ·exact absurd (htt.symm.trans w4) nofun
   ·rw [decide_eq_true g1] at w1
    rw [decide_eq_false g2] at w2
    refine sound (d := 2) tok2 mixed2 Tryz.func3 (by kernel_rfl) (by kernel_rfl) ?_
    (conv=>whnf); refine .inl ⟨_,_,byX rfl (Sound1.pl (h5) rfl),?_⟩
    (conv=>whnf); refine ifB_dec (fun w3=>?_) (fun w3=>?_)
    ·(exfalso; omega)
    ·(conv=>whnf); refine .inl ⟨_,_,byX rfl (Sound1.pl (h6) rfl),?_⟩
     (conv=>whnf); refine .inl ⟨_,_,byX rfl (Sound1.pl (h7) rfl),?_⟩
     (conv=>whnf); refine .inl ⟨_,_,byX rfl (Sound1.pl (h8) rfl),?_⟩
     (conv=>whnf); refine .inl ⟨_,_,byX rfl (Sound1.pl (h9) rfl),?_⟩
     (conv=>whnf); refine ifB_not ?_
     (conv=>whnf); refine ifB_intro (fun w4=>?_) (fun w4=>?_)
     ·(conv=>whnf); refine ifB_bne (fun w5=>?_) (fun w5=>?_)
      ·(exfalso; omega)
      ·(conv=>whnf); refine ifB_not ?_
       (conv=>whnf); refine ifB_veq2 (fun w6=>?_) (fun w6=>?_)
       ·(conv=>whnf); refine .inl ⟨_,_,byX rfl (Sound1.pl (w1) rfl),?_⟩
        (conv=>whnf); refine .inl ⟨_,_,byX rfl (Sound1.pl (w2) rfl),?_⟩
        (conv=>whnf); refine ⟨?_,nofun⟩
        (first | omega | contradiction | exact rfl | exact hve)
       ·(exfalso; omega)
     ·exact absurd (htt.symm.trans w4) nofun
  ·rw [decide_eq_false g1] at w1
   refine sound (d := 2) tok2 mixed2 Tryz.func3 (by kernel_rfl) (by kernel_rfl) ?_
   (conv=>whnf); refine .inl ⟨_,_,byX rfl (Sound1.pl (h5) rfl),?_⟩
   (conv=>whnf); refine ifB_dec (fun w3=>?_) (fun w3=>?_)
   ·(exfalso; omega)
   ·(conv=>whnf); refine .inl ⟨_,_,byX rfl (Sound1.pl (h6) rfl),?_⟩
    (conv=>whnf); refine .inl ⟨_,_,byX rfl (Sound1.pl (h7) rfl),?_⟩
    (conv=>whnf); refine .inl ⟨_,_,byX rfl (Sound1.pl (h8) rfl),?_⟩
    (conv=>whnf); refine .inl ⟨_,_,byX rfl (Sound1.pl (h9) rfl),?_⟩
    (conv=>whnf); refine ifB_not ?_
    (conv=>whnf); refine ifB_intro (fun w4=>?_) (fun w4=>?_)
    ·(conv=>whnf); refine ifB_bne (fun w5=>?_) (fun w5=>?_)
     ·(exfalso; omega)
     ·(conv=>whnf); refine ifB_not ?_
      (conv=>whnf); refine ifB_veq2 (fun w6=>?_) (fun w6=>?_)
      ·(conv=>whnf); refine .inl ⟨_,_,byX rfl (Sound1.pl (w1) rfl),?_⟩
       (conv=>whnf); refine ⟨?_,nofun⟩
       (first | omega | contradiction | exact rfl | exact hve)
      ·(exfalso; omega)
    ·exact absurd (htt.symm.trans w4) nofun
 ·refine sound (d := 2) tok2 mixed2 Tryz.func3 (by kernel_rfl) (by kernel_rfl) ?_
  (conv=>whnf); refine .inl ⟨_,_,byX rfl (Sound1.pl (h5) rfl),?_⟩
  (conv=>whnf); refine ifB_dec (fun w1=>?_) (fun w1=>?_)
  ·(conv=>whnf); refine ⟨?_,nofun⟩
   (first | omega | contradiction | exact rfl)
  ·(exfalso; omega)
end Go.Tr
