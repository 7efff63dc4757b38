/- The library's functions over strings that MachineStrings calls, laid by the kit (printed by its tool in plain text). Conditions: none. -/
import Derived.Shelf.LaysM
import Derived.Shelf.LaysC
import Derived.Shelf.Strings.BuilderX
import Derived.Test.YtnphjhgmoijbfaaGreatDoorProg
import Derived.Test.YtnphjhgmoijbfaaGreatDoorTr08
import Derived.Test.YtnphjhgmoijbfaaGreatDoorTr09
import Derived.Lib.SplitLaws
import Derived.Lib.Join
import Derived.Lib.ItoaLen
set_option linter.unusedSectionVars false
set_option linter.unnecessarySimpa false
set_option linter.unusedVariables false
set_option linter.unusedSimpArgs false

-- seat YtnphjhgmoijbfaaGreatDoor
namespace Go.Proofs
open Go.Shelf
def Tryz.layItoa_ren : Go.Shelf.Ren := ⟨fun | 171=>20 | 243=>49 | 246=>80 | 283=>114 | 284=>115 | 285=>116 | 286=>117 | 129=>109 | 317=>144 | 318=>145 | 319=>146 | 320=>147 | 337=>159 | 338=>160 | n=>n,fun | 3=>3 | 9=>9 | 2=>2 | 4=>4 | 171=>176 | 0=>0 | 53=>171 | 37=>108 | 5=>5 | 173=>178 | 212=>206 | 51=>169 | 20=>20 | 213=>207 | 46=>143 | 232=>229 | 233=>230 | n=>n,fun | 17=>0 | 18=>6 | 19=>7 | n=>n⟩
theorem Tryz.layItoa : Go.Proofs.LaysM.n171 Tryz.prog Tryz.layItoa_ren := {
 mixed := by kernel_rfl
 f129 := Tryz.func109.trans (congrArg some (by kernel_rfl))
 f171 := Tryz.func20.trans (congrArg some (by kernel_rfl))
 f243 := Tryz.func49.trans (congrArg some (by kernel_rfl))
 f246 := Tryz.func80.trans (congrArg some (by kernel_rfl))
 f283 := Tryz.func114.trans (congrArg some (by kernel_rfl))
 f284 := Tryz.func115.trans (congrArg some (by kernel_rfl))
 f285 := Tryz.func116.trans (congrArg some (by kernel_rfl))
 f286 := Tryz.func117.trans (congrArg some (by kernel_rfl))
 f317 := Tryz.func144.trans (congrArg some (by kernel_rfl))
 f318 := Tryz.func145.trans (congrArg some (by kernel_rfl))
 f319 := Tryz.func146.trans (congrArg some (by kernel_rfl))
 f320 := Tryz.func147.trans (congrArg some (by kernel_rfl))
 f337 := Tryz.func159.trans (congrArg some (by kernel_rfl))
 f338 := Tryz.func160.trans (congrArg some (by kernel_rfl))
 t0 := Tryz.underlying0
 a0 := Tryz.isAgg0
 z0 := Tryz.sizeOf0
 v0 := Tryz.zeroValue0
 t2 := Tryz.underlying2
 a2 := Tryz.isAgg2
 z2 := Tryz.sizeOf2
 v2 := Tryz.zeroValue2
 t3 := Tryz.underlying3
 a3 := Tryz.isAgg3
 z3 := Tryz.sizeOf3
 v3 := Tryz.zeroValue3
 t4 := Tryz.underlying4
 a4 := Tryz.isAgg4
 z4 := Tryz.sizeOf4
 v4 := Tryz.zeroValue4
 t5 := Tryz.underlying5
 a5 := Tryz.isAgg5
 z5 := Tryz.sizeOf5
 v5 := Tryz.zeroValue5
 t9 := Tryz.underlying9
 a9 := Tryz.isAgg9
 z9 := Tryz.sizeOf9
 v9 := Tryz.zeroValue9
 t20 := Tryz.underlying20
 a20 := Tryz.isAgg20
 z20 := Tryz.sizeOf20
 v20 := Tryz.zeroValue20
 t37 := Tryz.underlying108
 a37 := Tryz.isAgg108
 z37 := Tryz.sizeOf108
 v37 := Tryz.zeroValue108
 t46 := Tryz.underlying143
 a46 := Tryz.isAgg143
 z46 := Tryz.sizeOf143
 v46 := Tryz.zeroValue143
 t51 := Tryz.underlying169
 a51 := Tryz.isAgg169
 z51 := Tryz.sizeOf169
 v51 := Tryz.zeroValue169
 t53 := Tryz.underlying171
 a53 := Tryz.isAgg171
 z53 := Tryz.sizeOf171
 v53 := Tryz.zeroValue171
 t171 := Tryz.underlying176
 a171 := Tryz.isAgg176
 z171 := Tryz.sizeOf176
 v171 := Tryz.zeroValue176
 t173 := Tryz.underlying178
 a173 := Tryz.isAgg178
 z173 := Tryz.sizeOf178
 v173 := Tryz.zeroValue178
 t212 := Tryz.underlying206
 a212 := Tryz.isAgg206
 z212 := Tryz.sizeOf206
 v212 := Tryz.zeroValue206
 t213 := Tryz.underlying207
 a213 := Tryz.isAgg207
 z213 := Tryz.sizeOf207
 t232 := Tryz.underlying229
 a232 := Tryz.isAgg229
 z232 := Tryz.sizeOf229
 v232 := Tryz.zeroValue229
 t233 := Tryz.underlying230
 a233 := Tryz.isAgg230
 z233 := Tryz.sizeOf230
 v233 := Tryz.zeroValue230
 g17 := by kernel_rfl
 g18 := by kernel_rfl
 g19 := by kernel_rfl
 i0 := by kernel_rfl
 i2 := by kernel_rfl
 i3 := by kernel_rfl
 i4 := by kernel_rfl
 i5 := by kernel_rfl
 i9 := by kernel_rfl
 i20 := by kernel_rfl
 i37 := by kernel_rfl
 i46 := by kernel_rfl
 i51 := by kernel_rfl
 i53 := by kernel_rfl
 i171 := by kernel_rfl
 i173 := by kernel_rfl
 i212 := by kernel_rfl
 i232 := by kernel_rfl
 i233 := by kernel_rfl
 m17 := by kernel_rfl
 m18 := by kernel_rfl
 m19 := by kernel_rfl }
def Tryz.layAtoi_ren : Go.Shelf.Ren := ⟨fun | 172=>55 | 244=>88 | 245=>89 | 247=>124 | 279=>125 | 280=>126 | 281=>127 | 282=>128 | 287=>152 | 316=>153 | 171=>20 | 205=>154 | 321=>163 | 322=>164 | 243=>49 | 246=>80 | 283=>114 | 284=>115 | 285=>116 | 286=>117 | 129=>109 | 317=>144 | 318=>145 | 319=>146 | 320=>147 | 337=>159 | 338=>160 | n=>n,fun | 9=>9 | 3=>3 | 75=>113 | 76=>114 | 4=>4 | 5=>5 | 167=>185 | 37=>108 | 0=>0 | 85=>186 | 2=>2 | 168=>188 | 53=>171 | 175=>212 | 46=>143 | 210=>216 | 127=>149 | 145=>227 | 143=>225 | 21=>21 | 171=>176 | 173=>178 | 212=>206 | 51=>169 | 20=>20 | 213=>207 | 232=>229 | 233=>230 | 80=>116 | n=>n,fun | 15=>4 | 16=>5 | 17=>0 | 18=>6 | 19=>7 | n=>n⟩
theorem Tryz.layAtoi : Go.Proofs.LaysC.n172 Tryz.prog Tryz.layAtoi_ren := {
 mixed := by kernel_rfl
 f129 := Tryz.func109.trans (congrArg some (by kernel_rfl))
 f171 := Tryz.func20.trans (congrArg some (by kernel_rfl))
 f172 := Tryz.func55.trans (congrArg some (by kernel_rfl))
 f205 := Tryz.func154.trans (congrArg some (by kernel_rfl))
 f243 := Tryz.func49.trans (congrArg some (by kernel_rfl))
 f244 := Tryz.func88.trans (congrArg some (by kernel_rfl))
 f245 := Tryz.func89.trans (congrArg some (by kernel_rfl))
 f246 := Tryz.func80.trans (congrArg some (by kernel_rfl))
 f247 := Tryz.func124.trans (congrArg some (by kernel_rfl))
 f279 := Tryz.func125.trans (congrArg some (by kernel_rfl))
 f280 := Tryz.func126.trans (congrArg some (by kernel_rfl))
 f281 := Tryz.func127.trans (congrArg some (by kernel_rfl))
 f282 := Tryz.func128.trans (congrArg some (by kernel_rfl))
 f283 := Tryz.func114.trans (congrArg some (by kernel_rfl))
 f284 := Tryz.func115.trans (congrArg some (by kernel_rfl))
 f285 := Tryz.func116.trans (congrArg some (by kernel_rfl))
 f286 := Tryz.func117.trans (congrArg some (by kernel_rfl))
 f287 := Tryz.func152.trans (congrArg some (by kernel_rfl))
 f316 := Tryz.func153.trans (congrArg some (by kernel_rfl))
 f317 := Tryz.func144.trans (congrArg some (by kernel_rfl))
 f318 := Tryz.func145.trans (congrArg some (by kernel_rfl))
 f319 := Tryz.func146.trans (congrArg some (by kernel_rfl))
 f320 := Tryz.func147.trans (congrArg some (by kernel_rfl))
 f321 := Tryz.func163.trans (congrArg some (by kernel_rfl))
 f322 := Tryz.func164.trans (congrArg some (by kernel_rfl))
 f337 := Tryz.func159.trans (congrArg some (by kernel_rfl))
 f338 := Tryz.func160.trans (congrArg some (by kernel_rfl))
 t0 := Tryz.underlying0
 a0 := Tryz.isAgg0
 z0 := Tryz.sizeOf0
 v0 := Tryz.zeroValue0
 t2 := Tryz.underlying2
 a2 := Tryz.isAgg2
 z2 := Tryz.sizeOf2
 v2 := Tryz.zeroValue2
 t3 := Tryz.underlying3
 a3 := Tryz.isAgg3
 z3 := Tryz.sizeOf3
 v3 := Tryz.zeroValue3
 t4 := Tryz.underlying4
 a4 := Tryz.isAgg4
 z4 := Tryz.sizeOf4
 v4 := Tryz.zeroValue4
 t5 := Tryz.underlying5
 a5 := Tryz.isAgg5
 z5 := Tryz.sizeOf5
 v5 := Tryz.zeroValue5
 t9 := Tryz.underlying9
 a9 := Tryz.isAgg9
 z9 := Tryz.sizeOf9
 v9 := Tryz.zeroValue9
 t20 := Tryz.underlying20
 a20 := Tryz.isAgg20
 z20 := Tryz.sizeOf20
 v20 := Tryz.zeroValue20
 t21 := Tryz.underlying21
 a21 := Tryz.isAgg21
 z21 := Tryz.sizeOf21
 v21 := Tryz.zeroValue21
 t37 := Tryz.underlying108
 a37 := Tryz.isAgg108
 z37 := Tryz.sizeOf108
 v37 := Tryz.zeroValue108
 t46 := Tryz.underlying143
 a46 := Tryz.isAgg143
 z46 := Tryz.sizeOf143
 v46 := Tryz.zeroValue143
 t51 := Tryz.underlying169
 a51 := Tryz.isAgg169
 z51 := Tryz.sizeOf169
 v51 := Tryz.zeroValue169
 t53 := Tryz.underlying171
 a53 := Tryz.isAgg171
 z53 := Tryz.sizeOf171
 v53 := Tryz.zeroValue171
 t75 := Tryz.underlying113
 a75 := Tryz.isAgg113
 z75 := Tryz.sizeOf113
 v75 := Tryz.zeroValue113
 t76 := Tryz.underlying114
 a76 := Tryz.isAgg114
 z76 := Tryz.sizeOf114
 v76 := Tryz.zeroValue114
 t85 := Tryz.underlying186
 a85 := Tryz.isAgg186
 z85 := Tryz.sizeOf186
 v85 := Tryz.zeroValue186
 t127 := Tryz.underlying149
 a127 := Tryz.isAgg149
 z127 := Tryz.sizeOf149
 v127 := Tryz.zeroValue149
 t143 := Tryz.underlying225
 a143 := Tryz.isAgg225
 z143 := Tryz.sizeOf225
 v143 := Tryz.zeroValue225
 t145 := Tryz.underlying227
 a145 := Tryz.isAgg227
 z145 := Tryz.sizeOf227
 v145 := Tryz.zeroValue227
 t167 := Tryz.underlying185
 a167 := Tryz.isAgg185
 z167 := Tryz.sizeOf185
 v167 := Tryz.zeroValue185
 t168 := Tryz.underlying188
 a168 := Tryz.isAgg188
 z168 := Tryz.sizeOf188
 v168 := Tryz.zeroValue188
 t171 := Tryz.underlying176
 a171 := Tryz.isAgg176
 z171 := Tryz.sizeOf176
 v171 := Tryz.zeroValue176
 t173 := Tryz.underlying178
 a173 := Tryz.isAgg178
 z173 := Tryz.sizeOf178
 v173 := Tryz.zeroValue178
 t175 := Tryz.underlying212
 a175 := Tryz.isAgg212
 z175 := Tryz.sizeOf212
 v175 := Tryz.zeroValue212
 t210 := Tryz.underlying216
 a210 := Tryz.isAgg216
 z210 := Tryz.sizeOf216
 v210 := Tryz.zeroValue216
 t212 := Tryz.underlying206
 a212 := Tryz.isAgg206
 z212 := Tryz.sizeOf206
 v212 := Tryz.zeroValue206
 t213 := Tryz.underlying207
 a213 := Tryz.isAgg207
 z213 := Tryz.sizeOf207
 t232 := Tryz.underlying229
 a232 := Tryz.isAgg229
 z232 := Tryz.sizeOf229
 v232 := Tryz.zeroValue229
 t233 := Tryz.underlying230
 a233 := Tryz.isAgg230
 z233 := Tryz.sizeOf230
 v233 := Tryz.zeroValue230
 g15 := by kernel_rfl
 g16 := by kernel_rfl
 g17 := by kernel_rfl
 g18 := by kernel_rfl
 g19 := by kernel_rfl
 t80 := Tryz.underlying116
 a80 := Tryz.isAgg116
 z80 := Tryz.sizeOf116
 v80 := Tryz.zeroValue116
 i0 := by kernel_rfl
 i2 := by kernel_rfl
 i3 := by kernel_rfl
 i4 := by kernel_rfl
 i5 := by kernel_rfl
 i9 := by kernel_rfl
 i20 := by kernel_rfl
 i21 := by kernel_rfl
 i37 := by kernel_rfl
 i46 := by kernel_rfl
 i51 := by kernel_rfl
 i53 := by kernel_rfl
 i75 := by kernel_rfl
 i76 := by kernel_rfl
 i80 := by kernel_rfl
 i85 := by kernel_rfl
 i127 := by kernel_rfl
 i143 := by kernel_rfl
 i145 := by kernel_rfl
 i167 := by kernel_rfl
 i168 := by kernel_rfl
 i171 := by kernel_rfl
 i173 := by kernel_rfl
 i175 := by kernel_rfl
 i210 := by kernel_rfl
 i212 := by kernel_rfl
 i232 := by kernel_rfl
 i233 := by kernel_rfl
 m15 := by kernel_rfl
 m16 := by kernel_rfl
 m17 := by kernel_rfl
 m18 := by kernel_rfl
 m19 := by kernel_rfl
 c0 := by kernel_rfl
 c2 := by kernel_rfl
 c3 := by kernel_rfl
 c4 := by kernel_rfl
 c5 := by kernel_rfl
 c9 := by kernel_rfl
 c20 := by kernel_rfl
 c21 := by kernel_rfl
 c37 := by kernel_rfl
 c46 := by kernel_rfl
 c51 := by kernel_rfl
 c53 := by kernel_rfl
 c75 := by kernel_rfl
 c76 := by kernel_rfl
 c80 := by kernel_rfl
 c85 := by kernel_rfl
 c127 := by kernel_rfl
 c143 := by kernel_rfl
 c145 := by kernel_rfl
 c167 := by kernel_rfl
 c168 := by kernel_rfl
 c171 := by kernel_rfl
 c173 := by kernel_rfl
 c175 := by kernel_rfl
 c210 := by kernel_rfl
 c212 := by kernel_rfl
 c213 := by kernel_rfl
 c232 := by kernel_rfl
 c233 := by kernel_rfl }
def Tryz.layTrim_ren : Go.Shelf.Ren := ⟨fun | 101=>56 | 208=>90 | 206=>129 | n=>n,fun | 9=>9 | 4=>4 | 3=>3 | n=>n,fun | n=>n⟩
theorem Tryz.layTrim : Go.Proofs.Lays.n101 Tryz.prog Tryz.layTrim_ren := {
 mixed := by kernel_rfl
 f101 := Tryz.func56.trans (congrArg some (by kernel_rfl))
 f206 := Tryz.func129.trans (congrArg some (by kernel_rfl))
 f208 := Tryz.func90.trans (congrArg some (by kernel_rfl))
 t3 := Tryz.underlying3
 a3 := Tryz.isAgg3
 z3 := Tryz.sizeOf3
 v3 := Tryz.zeroValue3
 t4 := Tryz.underlying4
 a4 := Tryz.isAgg4
 z4 := Tryz.sizeOf4
 v4 := Tryz.zeroValue4
 t9 := Tryz.underlying9
 a9 := Tryz.isAgg9
 z9 := Tryz.sizeOf9
 v9 := Tryz.zeroValue9 }
def Tryz.laySplit_ren : Go.Shelf.Ren := ⟨fun | 146=>25 | 221=>54 | 268=>86 | 138=>87 | 143=>85 | 195=>122 | 197=>84 | 218=>123 | 219=>121 | 260=>120 | 217=>148 | 225=>149 | 224=>150 | 267=>151 | 266=>161 | 314=>162 | n=>n,fun | 9=>9 | 31=>59 | 3=>3 | 4=>4 | 0=>0 | 105=>151 | 21=>21 | 5=>5 | 46=>143 | 119=>208 | 139=>211 | 138=>210 | 146=>222 | 51=>169 | n=>n,fun | 1=>1 | 3=>2 | 4=>3 | n=>n⟩
theorem Tryz.laySplit : Go.Proofs.Lays.n146 Tryz.prog Tryz.laySplit_ren := {
 mixed := by kernel_rfl
 f138 := Tryz.func87.trans (congrArg some (by kernel_rfl))
 f143 := Tryz.func85.trans (congrArg some (by kernel_rfl))
 f146 := Tryz.func25.trans (congrArg some (by kernel_rfl))
 f195 := Tryz.func122.trans (congrArg some (by kernel_rfl))
 f197 := Tryz.func84.trans (congrArg some (by kernel_rfl))
 f217 := Tryz.func148.trans (congrArg some (by kernel_rfl))
 f218 := Tryz.func123.trans (congrArg some (by kernel_rfl))
 f219 := Tryz.func121.trans (congrArg some (by kernel_rfl))
 f221 := Tryz.func54.trans (congrArg some (by kernel_rfl))
 f224 := Tryz.func150.trans (congrArg some (by kernel_rfl))
 f225 := Tryz.func149.trans (congrArg some (by kernel_rfl))
 f260 := Tryz.func120.trans (congrArg some (by kernel_rfl))
 f266 := Tryz.func161.trans (congrArg some (by kernel_rfl))
 f267 := Tryz.func151.trans (congrArg some (by kernel_rfl))
 f268 := Tryz.func86.trans (congrArg some (by kernel_rfl))
 f314 := Tryz.func162.trans (congrArg some (by kernel_rfl))
 t0 := Tryz.underlying0
 a0 := Tryz.isAgg0
 z0 := Tryz.sizeOf0
 v0 := Tryz.zeroValue0
 t3 := Tryz.underlying3
 a3 := Tryz.isAgg3
 z3 := Tryz.sizeOf3
 v3 := Tryz.zeroValue3
 t4 := Tryz.underlying4
 a4 := Tryz.isAgg4
 z4 := Tryz.sizeOf4
 v4 := Tryz.zeroValue4
 t5 := Tryz.underlying5
 a5 := Tryz.isAgg5
 z5 := Tryz.sizeOf5
 v5 := Tryz.zeroValue5
 t9 := Tryz.underlying9
 a9 := Tryz.isAgg9
 z9 := Tryz.sizeOf9
 v9 := Tryz.zeroValue9
 t21 := Tryz.underlying21
 a21 := Tryz.isAgg21
 z21 := Tryz.sizeOf21
 v21 := Tryz.zeroValue21
 t31 := Tryz.underlying59
 a31 := Tryz.isAgg59
 z31 := Tryz.sizeOf59
 v31 := Tryz.zeroValue59
 t46 := Tryz.underlying143
 a46 := Tryz.isAgg143
 z46 := Tryz.sizeOf143
 v46 := Tryz.zeroValue143
 t51 := Tryz.underlying169
 a51 := Tryz.isAgg169
 z51 := Tryz.sizeOf169
 v51 := Tryz.zeroValue169
 t105 := Tryz.underlying151
 a105 := Tryz.isAgg151
 z105 := Tryz.sizeOf151
 v105 := Tryz.zeroValue151
 t119 := Tryz.underlying208
 a119 := Tryz.isAgg208
 z119 := Tryz.sizeOf208
 t138 := Tryz.underlying210
 a138 := Tryz.isAgg210
 z138 := Tryz.sizeOf210
 v138 := Tryz.zeroValue210
 t139 := Tryz.underlying211
 a139 := Tryz.isAgg211
 z139 := Tryz.sizeOf211
 v139 := Tryz.zeroValue211
 t146 := Tryz.underlying222
 a146 := Tryz.isAgg222
 z146 := Tryz.sizeOf222
 v146 := Tryz.zeroValue222
 g1 := by kernel_rfl
 g3 := by kernel_rfl
 g4 := by kernel_rfl }
def Tryz.layIndex_ren : Go.Shelf.Ren := ⟨fun | 143=>85 | 219=>121 | 217=>148 | 225=>149 | 224=>150 | 267=>151 | 266=>161 | 314=>162 | n=>n,fun | 9=>9 | 3=>3 | 4=>4 | 5=>5 | 46=>143 | 146=>222 | 51=>169 | n=>n,fun | 1=>1 | n=>n⟩
theorem Tryz.layIndex : Go.Proofs.Lays.n143 Tryz.prog Tryz.layIndex_ren := {
 mixed := by kernel_rfl
 f143 := Tryz.func85.trans (congrArg some (by kernel_rfl))
 f217 := Tryz.func148.trans (congrArg some (by kernel_rfl))
 f219 := Tryz.func121.trans (congrArg some (by kernel_rfl))
 f224 := Tryz.func150.trans (congrArg some (by kernel_rfl))
 f225 := Tryz.func149.trans (congrArg some (by kernel_rfl))
 f266 := Tryz.func161.trans (congrArg some (by kernel_rfl))
 f267 := Tryz.func151.trans (congrArg some (by kernel_rfl))
 f314 := Tryz.func162.trans (congrArg some (by kernel_rfl))
 t3 := Tryz.underlying3
 a3 := Tryz.isAgg3
 z3 := Tryz.sizeOf3
 v3 := Tryz.zeroValue3
 t4 := Tryz.underlying4
 a4 := Tryz.isAgg4
 z4 := Tryz.sizeOf4
 v4 := Tryz.zeroValue4
 t5 := Tryz.underlying5
 a5 := Tryz.isAgg5
 z5 := Tryz.sizeOf5
 v5 := Tryz.zeroValue5
 t9 := Tryz.underlying9
 a9 := Tryz.isAgg9
 z9 := Tryz.sizeOf9
 v9 := Tryz.zeroValue9
 t46 := Tryz.underlying143
 a46 := Tryz.isAgg143
 z46 := Tryz.sizeOf143
 v46 := Tryz.zeroValue143
 t51 := Tryz.underlying169
 a51 := Tryz.isAgg169
 z51 := Tryz.sizeOf169
 v51 := Tryz.zeroValue169
 t146 := Tryz.underlying222
 a146 := Tryz.isAgg222
 z146 := Tryz.sizeOf222
 v146 := Tryz.zeroValue222
 g1 := by kernel_rfl }
def Tryz.layJoin_ren : Go.Shelf.Ren := ⟨fun | 156=>22 | 165=>50 | 166=>51 | 169=>52 | 240=>81 | 241=>82 | 276=>118 | 277=>119 | n=>n,fun | 31=>59 | 9=>9 | 3=>3 | 4=>4 | 0=>0 | 20=>20 | 72=>110 | 76=>114 | 70=>107 | 37=>108 | 75=>113 | 127=>149 | 164=>180 | 5=>5 | 80=>116 | n=>n,fun | n=>n⟩
theorem Tryz.layJoin : Go.Proofs.Lays.n156 Tryz.prog Tryz.layJoin_ren := {
 mixed := by kernel_rfl
 f156 := Tryz.func22.trans (congrArg some (by kernel_rfl))
 f165 := Tryz.func50.trans (congrArg some (by kernel_rfl))
 f166 := Tryz.func51.trans (congrArg some (by kernel_rfl))
 f169 := Tryz.func52.trans (congrArg some (by kernel_rfl))
 f240 := Tryz.func81.trans (congrArg some (by kernel_rfl))
 f241 := Tryz.func82.trans (congrArg some (by kernel_rfl))
 f276 := Tryz.func118.trans (congrArg some (by kernel_rfl))
 f277 := Tryz.func119.trans (congrArg some (by kernel_rfl))
 t0 := Tryz.underlying0
 a0 := Tryz.isAgg0
 z0 := Tryz.sizeOf0
 v0 := Tryz.zeroValue0
 t3 := Tryz.underlying3
 a3 := Tryz.isAgg3
 z3 := Tryz.sizeOf3
 v3 := Tryz.zeroValue3
 t4 := Tryz.underlying4
 a4 := Tryz.isAgg4
 z4 := Tryz.sizeOf4
 v4 := Tryz.zeroValue4
 t9 := Tryz.underlying9
 a9 := Tryz.isAgg9
 z9 := Tryz.sizeOf9
 v9 := Tryz.zeroValue9
 t20 := Tryz.underlying20
 a20 := Tryz.isAgg20
 z20 := Tryz.sizeOf20
 v20 := Tryz.zeroValue20
 t31 := Tryz.underlying59
 a31 := Tryz.isAgg59
 z31 := Tryz.sizeOf59
 v31 := Tryz.zeroValue59
 t37 := Tryz.underlying108
 a37 := Tryz.isAgg108
 z37 := Tryz.sizeOf108
 v37 := Tryz.zeroValue108
 t70 := Tryz.underlying107
 a70 := Tryz.isAgg107
 z70 := Tryz.sizeOf107
 v70 := Tryz.zeroValue107
 t72 := Tryz.underlying110
 a72 := Tryz.isAgg110
 z72 := Tryz.sizeOf110
 v72 := Tryz.zeroValue110
 t75 := Tryz.underlying113
 a75 := Tryz.isAgg113
 z75 := Tryz.sizeOf113
 v75 := Tryz.zeroValue113
 t76 := Tryz.underlying114
 a76 := Tryz.isAgg114
 z76 := Tryz.sizeOf114
 v76 := Tryz.zeroValue114
 t127 := Tryz.underlying149
 a127 := Tryz.isAgg149
 z127 := Tryz.sizeOf149
 v127 := Tryz.zeroValue149
 t164 := Tryz.underlying180
 a164 := Tryz.isAgg180
 z164 := Tryz.sizeOf180
 v164 := Tryz.zeroValue180 }
theorem Tryz.layJoinX : Builder.Extra Tryz.prog Tryz.layJoin_ren := {
 sizeBuilder := by kernel_rfl
 liesBuilder := by kernel_rfl
 t5 := Tryz.underlying5
 a5 := Tryz.isAgg5
 z5 := Tryz.sizeOf5
 v5 := Tryz.zeroValue5
 infoByte := by kernel_rfl
 cellsByte := by kernel_rfl
 sizeByte := by kernel_rfl
 neB5 := by decide }
end Go.Proofs

/- The library's functions over strings at this seat. Conditions: none. -/
-- seat YtnphjhgmoijbfaaGreatDoor
namespace Go.Tr
open Go Go.RowKit Go.Proofs Go.Shelf
set_option maxRecDepth 20000
set_option maxHeartbeats 8000000
abbrev sv (s : ByteArray) : AV := .val (.string s)
def itoaB (n : Int) : ByteArray := ⟨(Lib.itoa n).toArray⟩
theorem hgPow : GTab.gt 0 = some ((Lib.pow10Tab.map fun z=>Value.int .u64 z).map .val) := by
  show some (pow10V.map AV.val) = _
  rw [show pow10V = Lib.pow10Tab.map fun z=>Value.int .u64 z by simp [pow10V,Lib.pow10Tab,List.map_map,Function.comp_def]]
theorem notKept : ¬ GTab.kept := fun h=>h
theorem S20 (n : Int) (h0 : -9223372036854775808 ≤ n) (h1 : n ≤ 9223372036854775807) : SP 20 [i64 n] (sv (itoaB n)) true :=
  itoa_s (ρ := Tryz.layItoa_ren) Tryz.layItoa (g := 0) hgPow (by kernel_rfl) (enters_of Tryz.layItoa.f171 (by kernel_rfl) rfl) n h0 h1
theorem S55 (s : ByteArray) (hs : s.size ≤ 281474976710656) : SP 55 [sv s] (.tuple [i64 (atoiV s),if atoiOk s then .val .nilIface else .err]) false :=
  atoi_s (ρ := Tryz.layAtoi_ren) notKept Tryz.layAtoi rfl rfl (enters_of Tryz.layAtoi.f172 (by kernel_rfl) rfl) s hs
theorem S56 (s p : ByteArray) : SP 56 [sv s,sv p] (sv ⟨(Lib.trimPrefix s.data.toList p.data.toList).toArray⟩) true :=
  trim_s (ρ := Tryz.layTrim_ren) Tryz.layTrim (enters_of Tryz.layTrim.f101 (by kernel_rfl) rfl) s p
theorem S25 (s sep : ByteArray) (hs : s.size < 4294967281) (h1 : 1 ≤ sep.size) : SP 25 [sv s,sv sep] (.rslice 1 (sepL s sep).length (fun i=>[sv ((sepL s sep).getD i ByteArray.empty)])) false :=
  split_s (ρ := Tryz.laySplit_ren) Tryz.laySplit (by kernel_rfl) rfl (enters_of Tryz.laySplit.f146 (by kernel_rfl) rfl) s sep hs h1
theorem S85 (s sub : ByteArray) (hs : s.size < 4294967281) : SP 85 [sv s,sv sub] (i64 (Lib.index s.data.toList sub.data.toList)) true :=
  index_s (ρ := Tryz.layIndex_ren) Tryz.layIndex rfl (enters_of Tryz.layIndex.f143 (by kernel_rfl) rfl) s sub hs
theorem S22 (l : List ByteArray) (sep : ByteArray) (f : Nat → List AV) (hf : ∀ i,i < l.length → f i = [sv (l.getD i ByteArray.empty)]) (hN : l.length ≤ 140737488355328) (hlen : (joinB l sep).size ≤ 140737488355328) :
    SP 22 [.rslice 1 l.length f,sv sep] (sv (joinB l sep)) true :=
  join_s (ρ := Tryz.layJoin_ren) notKept Tryz.layJoin Tryz.layJoinX (enters_of Tryz.layJoin.f156 (by kernel_rfl) rfl) l sep f hf hN hlen
end Go.Tr

/- Numbers as strings: the package's function, the reference's. Conditions: none. -/
-- seat YtnphjhgmoijbfaaGreatDoor
namespace Go.Tr
open Go Go.Proofs
set_option maxRecDepth 20000
set_option maxHeartbeats 8000000

theorem atoiV_in (s : ByteArray) : -9223372036854775808 ≤ atoiV s ∧ atoiV s ≤ 9223372036854775807 := by
 unfold atoiV
 split
 ·rename_i v h; exact Lib.atoiAll_bounds h
 ·omega
 ·exact Lib.atoiSat_bounds _
def numO (s : ByteArray) (b : Bool) : Bool := atoiOk s && ((itoaB (atoiV s)).toList == s.toList) && (b || decide (0 ≤ atoiV s)) && decide ((Lib.trimPrefix s.data.toList [45]).length ≤ 5)
theorem size_mk (l : List UInt8) : (ByteArray.mk l.toArray).size = l.length := by simp [ByteArray.size]
theorem ave_iv {a b : Int} {x y : Bool} (h : a = b) (h2 : x = y) : AVE 5 (.tuple [i64 a,vb x]) (.tuple [i64 b,vb y]) := by
  subst h; subst h2
  exact ave_tup2 (k := 4) rfl rfl
theorem S26 (s : ByteArray) (b : Bool) (hs : s.size ≤ 281474976710656) : SP 26 [sv s,vb b] (.tuple [i64 (atoiV s),vb (numO s b)]) false := by
 have h55 := S55 s hs
 have h20 := S20 (atoiV s) (atoiV_in s).1 (atoiV_in s).2
 have h56 := S56 s ⟨#[45]⟩
 unfold numO
 cases hok : atoiOk s <;> rw [hok] at h55
 ·refine sound (d := 2) tok2 mixed2 Tryz.func26 (by kernel_rfl) (by kernel_rfl) ?_
  (conv=>whnf); refine .inl ⟨_,_,byX rfl (h55),?_⟩
  (conv=>whnf); refine ⟨?_,nofun⟩
  (first | rfl | omega | (refine ave_iv rfl ?_; simp_all [size_mk]))
 ·cases he : ((itoaB (atoiV s)).toList == s.toList)
  ·refine sound (d := 2) tok2 mixed2 Tryz.func26 (by kernel_rfl) (by kernel_rfl) ?_
   (conv=>whnf); refine .inl ⟨_,_,byX rfl (Sound1.pl (h55) rfl),?_⟩
   (conv=>whnf); refine .inl ⟨_,_,byX rfl (h20),?_⟩
   (conv=>whnf); refine ifB_intro (fun w1=>?_) (fun w1=>?_)
   ·exact absurd (he.symm.trans w1) nofun
   ·(conv=>whnf); refine ⟨?_,nofun⟩
    (first | rfl | omega | (refine ave_iv rfl ?_; simp_all [size_mk]))
  ·refine sound (d := 2) tok2 mixed2 Tryz.func26 (by kernel_rfl) (by kernel_rfl) ?_
   (conv=>whnf); refine .inl ⟨_,_,byX rfl (Sound1.pl (h55) rfl),?_⟩
   (conv=>whnf); refine .inl ⟨_,_,byX rfl (h20),?_⟩
   (conv=>whnf); refine ifB_intro (fun w1=>?_) (fun w1=>?_)
   ·(conv=>whnf); refine ifB_intro (fun w2=>?_) (fun w2=>?_)
    ·(conv=>whnf); refine .inl ⟨_,_,byX rfl (h56),?_⟩
     (conv=>whnf); refine ⟨?_,nofun⟩
     (first | rfl | omega | (refine ave_iv rfl ?_; simp_all [size_mk]; done) | (refine ave_iv rfl ?_; simp_all [size_mk]; omega))
    ·(conv=>whnf); refine ifB_dec (fun w3=>?_) (fun w3=>?_)
     ·(conv=>whnf); refine .inl ⟨_,_,byX rfl (h56),?_⟩
      (conv=>whnf); refine ⟨?_,nofun⟩
      (first | rfl | omega | (refine ave_iv rfl ?_; simp_all [size_mk]; done) | (refine ave_iv rfl ?_; simp_all [size_mk]; omega))
     ·(conv=>whnf); refine ⟨?_,nofun⟩
      (first | rfl | omega | (refine ave_iv rfl ?_; simp_all [size_mk]; done) | (refine ave_iv rfl ?_; simp_all [size_mk]; omega))
   ·exact absurd (he.symm.trans w1) nofun
end Go.Tr

/- Plain laws: strings as lists of bytes; what lies between separators. Conditions: none. -/
namespace Go.Tr
open Go.Lib

theorem bs_ext {a b : ByteArray} (h : a.data.toList = b.data.toList) : a = b := by
 obtain ⟨a⟩ := a
 obtain ⟨b⟩ := b
 have : a = b := Array.toList_inj.1 h
 rw [this]
theorem bs_app (a b : ByteArray) : (a ++ b).data.toList = a.data.toList ++ b.data.toList := by simp
theorem bs_ex (s : ByteArray) (i j : Nat) : (s.extract i j).data.toList = (s.data.toList.drop i).take (j - i) := extract_data s i j
theorem bs_len (s : ByteArray) : s.size = s.data.toList.length := size_eq s

def cutL (c : UInt8) : List UInt8 → List (List UInt8)
  | []=>[[]]
  | x :: r=>if x = c then [] :: cutL c r else match cutL c r with | []=>[[x]] | y :: t=>(x :: y) :: t
theorem cutL_ne (c : UInt8) : ∀ l,cutL c l ≠ []
 | []=>by simp [cutL]
 | x :: r=>by
  rw [cutL]
  split
  ·simp
  ·split <;> simp
theorem cutL_step (c x : UInt8) (r : List UInt8) (h : x ≠ c) : cutL c (x :: r) = (x :: (cutL c r).headD []) :: (cutL c r).tail := by
 rw [cutL,if_neg h]
 cases hc : cutL c r with
 | nil=>exact absurd hc (cutL_ne c r)
 | cons y t=>rfl
theorem cut_miss {c : UInt8} : ∀ {l : List UInt8},(∀ x ∈ l,x ≠ c) → cutL c l = [l]
  | [],_=>rfl
  | x :: r,h=>by rw [cutL_step c x r (h x (.head _)),cut_miss fun y hy=>h y (.tail _ hy)]; rfl
theorem cut_hit {c : UInt8} : ∀ {l r : List UInt8},(∀ x ∈ l,x ≠ c) → cutL c (l ++ c :: r) = l :: cutL c r
  | [],r,_=>by simp [cutL]
  | x :: l,r,h=>by rw [List.cons_append,cutL_step c x _ (h x (.head _)),cut_hit fun y hy=>h y (.tail _ hy)]; rfl
theorem index_miss {c : UInt8} : ∀ {l : List UInt8},index l [c] = -1 → ∀ x ∈ l,x ≠ c
 | [],_,x,hx=>by cases hx
 | y :: r, h, x, hx => by
  rw [index] at h
  by_cases hy : ([c] : List UInt8).isPrefixOf (y :: r) = true
  ·rw [hy] at h; simp at h
  ·have hyc : y ≠ c := fun e=>hy (by simp [List.isPrefixOf,e])
   rw [Bool.not_eq_true] at hy
   rw [hy] at h
   have hi : index r [c] = -1 := by
    by_cases hi : index r [c] = -1
    ·exact hi
    ·have := index_ge r [c]
     simp [hi] at h
     omega
   rcases List.mem_cons.1 hx with e | hx
   ·rw [e]; exact hyc
   ·exact index_miss hi x hx
theorem index_hit {c : UInt8} : ∀ {l : List UInt8} {i : Nat},index l [c] = (i : Int) → ∃ a r,l = a ++ c :: r ∧ a.length = i ∧ ∀ x ∈ a,x ≠ c
 | [],i,h=>by
  have h : (-1 : Int) = (i : Int) := by rw [← h,index]; rfl
  omega
 | y :: r, i, h => by
  rw [index] at h
  by_cases hy : ([c] : List UInt8).isPrefixOf (y :: r) = true
  ·rw [hy] at h
   have : i = 0 := by simp at h; omega
   subst this
   have hyc : y = c := by
    have : (c == y) = true := by simpa [List.isPrefixOf] using hy
    exact (beq_iff_eq.1 this).symm
   exact ⟨[],r,by rw [hyc]; rfl,rfl,by simp⟩
  ·have hyc : y ≠ c := fun e=>hy (by simp [List.isPrefixOf,e])
   rw [Bool.not_eq_true] at hy
   rw [hy] at h
   by_cases hi : index r [c] = -1
   ·simp [hi] at h
   ·have := index_ge r [c]
    obtain ⟨j,hj⟩ : ∃ j : Nat,index r [c] = j := ⟨(index r [c]).toNat,by omega⟩
    simp [hi] at h
    obtain ⟨a,r',e1,e2,e3⟩ := index_hit hj
    refine ⟨y :: a,r',by rw [e1]; rfl,by simp [e2]; omega,fun x hx=>?_⟩
    rcases List.mem_cons.1 hx with e | hx
    ·rw [e]; exact hyc
    ·exact e3 x hx
def byteB (c : UInt8) : ByteArray := ⟨#[c]⟩
theorem split_cut (c : UInt8) : ∀ (k : Nat) (s : ByteArray),countB s (byteB c) = k → (splitB (byteB c) 0 k s).map (·.data.toList) = cutL c s.data.toList
 | 0, s, h => by
  rw [splitB_zero]
  rcases indexB_cases s (byteB c) with hix | ⟨i,hix,_⟩
  ·have h2 : index s.data.toList [c] = -1 := hix
   rw [List.map_singleton,cut_miss (index_miss h2)]
  ·have := countB_hit s (byteB c) i (Nat.le_refl 1) hix
   omega
 | k + 1, s, h => by
  rcases indexB_cases s (byteB c) with hix | ⟨i,hix,_⟩
  ·rw [countB_miss s (byteB c) hix] at h; omega
  ·have h2 : index s.data.toList [c] = (i : Int) := hix
   have h3 := countB_hit s (byteB c) i (Nat.le_refl 1) hix
   obtain ⟨a,r,e1,e2,e3⟩ := index_hit h2
   have hb : (byteB c).size = 1 := rfl
   rw [splitB_hit (byteB c) 0 k s i hix,List.map_cons,split_cut c k _ (by omega),bs_ex,bs_ex,hb,e1,cut_hit e3]
   congr 1
   ·rw [List.drop_zero,Nat.add_zero,Nat.sub_zero,← e2,List.take_left']; rfl
   ·rw [List.take_of_length_le (by rw [List.length_drop,bs_len,e1]; omega),← e2,show a ++ c :: r = (a ++ [c]) ++ r by simp,List.drop_left' (by simp)]
theorem cut_join (c : UInt8) : ∀ (l : List (List UInt8)),l ≠ [] → (∀ p ∈ l,∀ x ∈ p,x ≠ c) → cutL c (join l [c]) = l
 | [],h,_=>absurd rfl h
 | [p],_,h=>by rw [join_one]; exact cut_miss (h p (.head _))
 | p :: q :: r, _, h => by
  have e : join (p :: q :: r) [c] = p ++ c :: join (q :: r) [c] := by
   rw [join_cons,join_cons]; simp [joinTail]
  rw [e,cut_hit (h p (.head _)),cut_join c (q :: r) (by simp) fun x hx=>h x (.tail _ hx)]
end Go.Tr

/- Numbers as strings in the reference: Decimal, Number. Conditions: none. -/
-- seat YtnphjhgmoijbfaaGreatDoor
namespace Go.Tr
open Go Go.Proofs
set_option maxRecDepth 20000
set_option maxHeartbeats 8000000

theorem bs_tl (s : ByteArray) : s.toList = s.data.toList := by obtain ⟨⟨l⟩⟩ := s; simp
theorem itoaB_l (n : Int) : (itoaB n).data.toList = Lib.itoa n := rfl
theorem num_ref (s : ByteArray) : numO s true = refOk s.data.toList 5 ∧ (refOk s.data.toList 5 = true → atoiV s = refV s.data.toList) := by
 by_cases h : refOk s.data.toList 5 = true
 ·have e := itoa_of_ref h
  have hlen := (refOk_itoa (refV s.data.toList) 5).1
  rw [e,h] at hlen
  have hle : (Lib.decDigits (refV s.data.toList).natAbs).length ≤ 5 := Nat.le_of_ble_eq_true hlen.symm
  have ha := atoi_itoa (n := refV s.data.toList) (by omega)
  rw [e] at ha
  have h1 : atoiOk s = true := by unfold atoiOk; rw [ha]
  have h2 : atoiV s = refV s.data.toList := by unfold atoiV; rw [ha]
  refine ⟨?_,fun _=>h2⟩
  rw [h]
  unfold numO
  rw [h1,h2,show itoaB (refV s.data.toList) = s from bs_ext (by rw [itoaB_l,e])]
  have h3 : (Lib.trimPrefix s.data.toList [45]).length ≤ 5 := by
   rw [← e,trim_itoa,(magL_itoa _).1]
   exact hle
  simp [h3]
 ·refine ⟨?_,fun h'=>absurd h' h⟩
  rw [Bool.not_eq_true] at h
  rw [h]
  cases hn : numO s true with
  | false=>rfl
  | true =>
   unfold numO at hn
   simp only [Bool.and_eq_true,beq_iff_eq,decide_eq_true_eq] at hn
   obtain ⟨⟨⟨_,h2⟩,_⟩,h4⟩ := hn
   rw [bs_tl,bs_tl,itoaB_l] at h2
   rw [← h2,trim_itoa,(magL_itoa _).1] at h4
   have := (refOk_itoa (atoiV s) 5).1
   rw [h2,h,Nat.ble_eq_true_of_le h4] at this
   cases this
theorem num_ref0 (s : ByteArray) : numO s false = (refOk s.data.toList 5 && !(s.data.toList.head? == some 45)) := by
 obtain ⟨h1,h2⟩ := num_ref s
 have e : numO s false = (numO s true && decide (0 ≤ atoiV s)) := by
  unfold numO
  cases atoiOk s <;> cases ((itoaB (atoiV s)).toList == s.toList) <;> cases decide (0 ≤ atoiV s) <;> cases decide ((Lib.trimPrefix s.data.toList [45]).length ≤ 5) <;> rfl
 rw [e,h1]
 cases hr : refOk s.data.toList 5 with
 | false=>rfl
 | true =>
  have hs := (magL_itoa (refV s.data.toList)).2
  rw [itoa_of_ref hr] at hs
  rw [h2 hr]
  by_cases hh : s.data.toList.head? = some 45
  ·have h5 := hs.1 hh
   rw [decide_eq_false (by omega : ¬ 0 ≤ refV s.data.toList),hh]; rfl
  ·have h5 : ¬ refV s.data.toList < 0 := fun x=>hh (hs.2 x)
   rw [decide_eq_true (by omega : 0 ≤ refV s.data.toList)]
   simp [hh]
theorem itoa_0 : Lib.itoa 0 = [48] := by rw [itoa_pos' (by omega),show (0 : Int).toNat = 0 from rfl,Lib.decDigits,dif_pos (by omega)]; rfl
theorem sv_eq {a b : ByteArray} (h : a.data.toList = b.data.toList) : sv a = sv b := by rw [bs_ext h]
theorem dec_step {m : Int} (hm : m ≠ 0) (S : List UInt8) {D : List UInt8} (h : Lib.decDigits m.natAbs ++ S = D) :
  (m.tdiv 10 = 0 ∧ UInt8.ofNat (48 + (m.tmod 10).natAbs) :: S = D) ∨ (m.tdiv 10 ≠ 0 ∧ Lib.decDigits (m.tdiv 10).natAbs ++ UInt8.ofNat (48 + (m.tmod 10).natAbs) :: S = D) := by
 have e1 : (m.tdiv 10).natAbs = m.natAbs / 10 := by rw [Int.natAbs_tdiv]; rfl
 have e2 : (m.tmod 10).natAbs = m.natAbs % 10 := by rw [Int.natAbs_tmod]; rfl
 by_cases h10 : m.natAbs < 10
 ·left
  refine ⟨by omega,?_⟩
  rw [Lib.decDigits,dif_pos h10] at h
  rw [e2,Nat.mod_eq_of_lt h10]
  exact h
 ·right
  refine ⟨by omega,?_⟩
  rw [Lib.decDigits,dif_neg h10] at h
  rw [e1,e2,← h]
  simp
theorem S32z : SP 32 [i64 0] (sv (itoaB 0)) false := by
 refine sound (d := 2) tok2 mixed2 Tryz.func32 (by kernel_rfl) (by kernel_rfl) ?_
 (conv=>whnf); refine ⟨?_,nofun⟩
 (first | omega | exact sv_eq itoa_0.symm)
theorem dec_len {m : Int} (hm : m ≠ 0) {S D : List UInt8} (hN : D.length ≤ 20) (h : Lib.decDigits m.natAbs ++ S = D) (c : UInt8) : ([c] ++ S).length ≤ 20 := by
 have h1 := List.length_pos_iff.2 (dec_dig m.natAbs).2.2.1
 rw [← h,List.length_append] at hN
 simp; omega
theorem S32 (n : Int) (hn : n ≠ 0) (h : -9223372036854775808 ≤ n ∧ n ≤ 9223372036854775807) : SP 32 [i64 n] (sv (itoaB n)) false := by
 have hN : (Lib.decDigits n.natAbs).length ≤ 20 := by rw [Lib.decDigits_length]; exact Lib.nDigits_le20 _ (by omega)
 refine sound (d := 2) tok2 mixed2 Tryz.func32 (by kernel_rfl) (by kernel_rfl) ?_
 (conv=>whnf); refine ifB_beq (fun w1=>?_) (fun w1=>?_)
 ·(exfalso; omega)
 ·(conv=>whnf); refine ifB_dec (fun w2=>?_) (fun w2=>?_)
  ·(conv=>whnf); refine ⟨[],[0,3,4],fun st mq=>∃ (m : Int) (S : ByteArray),((m = 0 ∧ S.data.toList = Lib.decDigits n.natAbs) ∨ (m ≠ 0 ∧ Lib.decDigits m.natAbs ++ S.data.toList = Lib.decDigits n.natAbs)) ∧ (-9223372036854775808 ≤ m ∧ m ≤ 9223372036854775807) ∧ (S.data.toList.length ≤ 20) ∧ st = ⟨[(0,i64 m),(3,sv S),(4,sv ⟨#[45]⟩)],⟨[],[],none,0⟩,[]⟩ ∧ mq = m.natAbs,
    ⟨_,_,⟨n,⟨#[]⟩,.inr ⟨hn,by simp⟩,h,by simp,rfl,rfl⟩,⟨⟨.inl rfl,rfl,rfl,rfl⟩,trivial,trivial⟩⟩,?_⟩
   rintro s0 m0 ⟨m,S,hD,hb,hS,rfl,hmeas⟩
   by_cases hm : m = 0
   ·have hD2 : S.data.toList = Lib.decDigits n.natAbs := by
     rcases hD with h5 | h5
     ·exact h5.2
     ·exact absurd hm h5.1
    have hz : S.size ≤ 20 := by rw [bs_len]; exact hS
    have hone : (⟨#[45]⟩ : ByteArray).size = 1 := rfl
    have hnil : (⟨#[]⟩ : ByteArray).size = 0 := rfl
    conv=>whnf
    (conv=>whnf); refine ifB_bne (fun w3=>?_) (fun w3=>?_)
    ·(exfalso; omega)
    ·conv=>whnf
     (conv=>whnf); refine ⟨(by omega),?_⟩
     conv=>whnf
     (conv=>whnf); refine ⟨?_,nofun⟩
     (first | omega | exact sv_eq (by rw [bs_app,hD2,itoaB_l,itoa_neg' (by assumption)]; rfl))
   ·have hD2 : Lib.decDigits m.natAbs ++ S.data.toList = Lib.decDigits n.natAbs := by
     rcases hD with h5 | h5
     ·exact absurd h5.1 hm
     ·exact h5.2
    have hr : (m.tmod 10).natAbs ≤ 9 := by rw [Int.natAbs_tmod,show (10 : Int).natAbs = 10 from rfl]; omega
    have hq : (m.tdiv 10).natAbs = m.natAbs / 10 := by rw [Int.natAbs_tdiv]; rfl
    have h59 := S59 (m.tmod 10) (by omega)
    have hz : S.size ≤ 20 := by rw [bs_len]; exact hS
    have hst := dec_step hm S.data.toList hD2
    have hln := dec_len hm hN hD2 (UInt8.ofNat (48 + ((m.tmod 10).natAbs : Int)).toNat)
    have hone : (⟨#[UInt8.ofNat (48 + ((m.tmod 10).natAbs : Int)).toNat]⟩ : ByteArray).size = 1 := rfl
    conv=>whnf
    (conv=>whnf); refine ifB_bne (fun w3=>?_) (fun w3=>?_)
    ·conv=>whnf
     (conv=>whnf); refine ⟨(by omega),?_⟩
     conv=>whnf
     (conv=>whnf); refine .inl ⟨_,_,byX rfl (Sound1.pl (h59) rfl),?_⟩
     conv=>whnf
     (conv=>whnf); refine ⟨inK64 (by omega) (by omega),?_⟩
     conv=>whnf
     (conv=>whnf); refine ⟨inKu8 (by omega) (by omega),?_⟩
     conv=>whnf
     (conv=>whnf); refine ⟨(by omega),?_⟩
     conv=>whnf
     (conv=>whnf); refine ⟨⟨(by omega),inK64 (by omega) (by omega)⟩,?_⟩
     conv=>whnf
     (conv=>whnf); refine ⟨_,_,⟨⟨m.tdiv 10,((⟨#[UInt8.ofNat (48 + ((m.tmod 10).natAbs : Int)).toNat]⟩ : ByteArray) ++ S),(by rw [bs_app]; exact hst),(by omega),(by rw [bs_app]; exact hln),rfl,rfl⟩,by omega⟩,⟨⟨.inl rfl,rfl,rfl,rfl⟩,trivial,trivial⟩⟩
    ·(exfalso; omega)
  ·(conv=>whnf); refine ⟨[],[0,3,4],fun st mq=>∃ (m : Int) (S : ByteArray),((m = 0 ∧ S.data.toList = Lib.decDigits n.natAbs) ∨ (m ≠ 0 ∧ Lib.decDigits m.natAbs ++ S.data.toList = Lib.decDigits n.natAbs)) ∧ (-9223372036854775808 ≤ m ∧ m ≤ 9223372036854775807) ∧ (S.data.toList.length ≤ 20) ∧ st = ⟨[(0,i64 m),(3,sv S),(4,sv ⟨#[]⟩)],⟨[],[],none,0⟩,[]⟩ ∧ mq = m.natAbs,
    ⟨_,_,⟨n,⟨#[]⟩,.inr ⟨hn,by simp⟩,h,by simp,rfl,rfl⟩,⟨⟨.inl rfl,rfl,rfl,rfl⟩,trivial,trivial⟩⟩,?_⟩
   rintro s0 m0 ⟨m,S,hD,hb,hS,rfl,hmeas⟩
   by_cases hm : m = 0
   ·have hD2 : S.data.toList = Lib.decDigits n.natAbs := by
     rcases hD with h5 | h5
     ·exact h5.2
     ·exact absurd hm h5.1
    have hz : S.size ≤ 20 := by rw [bs_len]; exact hS
    have hone : (⟨#[45]⟩ : ByteArray).size = 1 := rfl
    have hnil : (⟨#[]⟩ : ByteArray).size = 0 := rfl
    conv=>whnf
    (conv=>whnf); refine ifB_bne (fun w3=>?_) (fun w3=>?_)
    ·(exfalso; omega)
    ·conv=>whnf
     (conv=>whnf); refine ⟨(by omega),?_⟩
     conv=>whnf
     (conv=>whnf); refine ⟨?_,nofun⟩
     (first | omega | exact sv_eq (by rw [bs_app,hD2,itoaB_l,itoa_pos' (by assumption),show n.toNat = n.natAbs by omega]; rfl))
   ·have hD2 : Lib.decDigits m.natAbs ++ S.data.toList = Lib.decDigits n.natAbs := by
     rcases hD with h5 | h5
     ·exact absurd h5.1 hm
     ·exact h5.2
    have hr : (m.tmod 10).natAbs ≤ 9 := by rw [Int.natAbs_tmod,show (10 : Int).natAbs = 10 from rfl]; omega
    have hq : (m.tdiv 10).natAbs = m.natAbs / 10 := by rw [Int.natAbs_tdiv]; rfl
    have h59 := S59 (m.tmod 10) (by omega)
    have hz : S.size ≤ 20 := by rw [bs_len]; exact hS
    have hst := dec_step hm S.data.toList hD2
    have hln := dec_len hm hN hD2 (UInt8.ofNat (48 + ((m.tmod 10).natAbs : Int)).toNat)
    have hone : (⟨#[UInt8.ofNat (48 + ((m.tmod 10).natAbs : Int)).toNat]⟩ : ByteArray).size = 1 := rfl
    conv=>whnf
    (conv=>whnf); refine ifB_bne (fun w3=>?_) (fun w3=>?_)
    ·conv=>whnf
     (conv=>whnf); refine ⟨(by omega),?_⟩
     conv=>whnf
     (conv=>whnf); refine .inl ⟨_,_,byX rfl (Sound1.pl (h59) rfl),?_⟩
     conv=>whnf
     (conv=>whnf); refine ⟨inK64 (by omega) (by omega),?_⟩
     conv=>whnf
     (conv=>whnf); refine ⟨inKu8 (by omega) (by omega),?_⟩
     conv=>whnf
     (conv=>whnf); refine ⟨(by omega),?_⟩
     conv=>whnf
     (conv=>whnf); refine ⟨⟨(by omega),inK64 (by omega) (by omega)⟩,?_⟩
     conv=>whnf
     (conv=>whnf); refine ⟨_,_,⟨⟨m.tdiv 10,((⟨#[UInt8.ofNat (48 + ((m.tmod 10).natAbs : Int)).toNat]⟩ : ByteArray) ++ S),(by rw [bs_app]; exact hst),(by omega),(by rw [bs_app]; exact hln),rfl,rfl⟩,by omega⟩,⟨⟨.inl rfl,rfl,rfl,rfl⟩,trivial,trivial⟩⟩
    ·(exfalso; omega)
end Go.Tr

/- The reference's Number. Conditions: none. -/
-- seat YtnphjhgmoijbfaaGreatDoor
namespace Go.Tr
open Go Go.Proofs
set_option maxRecDepth 20000
set_option maxHeartbeats 8000000

theorem u8_eq {c : UInt8} {n : Nat} (hn : n < 256) : (c.toNat : Int) = n ↔ c = UInt8.ofNat n := by
 constructor
 ·intro h
  apply UInt8.toNat_inj.1
  rw [UInt8.toNat_ofNat']; omega
 ·intro h
  rw [h,UInt8.toNat_ofNat']; omega
theorem mag0 {l : List UInt8} (h : ¬ ((l.getD 0 0).toNat : Int) = 45) : magL l = l.drop 0 ∧ ¬ l.head? = some 45 := by
 have h2 : ¬ l.head? = some 45 := fun e=>h (by
  cases l with
  | nil=>cases e
  | cons c r=>simp at e; rw [e]; rfl)
 exact ⟨by rw [magL,if_neg h2]; rfl,h2⟩
theorem mag1 {l : List UInt8} (h0 : 0 < l.length) (h : ((l.getD 0 0).toNat : Int) = 45) : magL l = l.drop 1 ∧ l.head? = some 45 := by
 have h2 : l.head? = some 45 := by
  cases l with
  | nil=>cases h0
  | cons c r=>exact congrArg some ((u8_eq (n := 45) (by decide)).1 h)
 exact ⟨by rw [magL,if_pos h2,List.drop_one],h2⟩
section
variable {l : List UInt8} {a : Nat} (hm : magL l = l.drop a)
include hm
theorem ref_none (h : l.length ≤ a) : refOk l 5 = false := by
  unfold refOk
  rw [hm,List.drop_eq_nil_of_le h]; rfl
theorem ref_long (h : 5 < l.length - a) : refOk l 5 = false := by
 unfold refOk
 rw [hm]
 have : Nat.ble (l.drop a).length 5 = false := by
  cases hb : Nat.ble (l.drop a).length 5 with
  | false=>rfl
  | true=>have := Nat.le_of_ble_eq_true hb; rw [List.length_drop] at this; omega
 rw [this]; simp
theorem head_drop (h : a < l.length) : (l.drop a).head? = some (l.getD a 0) := by
  rw [List.head?_drop,List.getD_eq_getElem?_getD,List.getElem?_eq_getElem h]; rfl
theorem ref_zero (ha : a < l.length) (h1 : ((l.getD a 0).toNat : Int) = 48) (h2 : 1 < l.length) : refOk l 5 = false := by
  unfold refOk
  rw [hm,head_drop hm ha,(u8_eq (n := 48) (by decide)).1 h1,Nat.ble_eq_true_of_le (by omega : 2 ≤ l.length)]; simp
theorem ref_dig {i : Nat} (ha : a ≤ i) (hi : i < l.length) (h : ¬ (48 ≤ (l.getD i 0).toNat ∧ (l.getD i 0).toNat ≤ 57)) : refOk l 5 = false := by
 unfold refOk
 rw [hm]
 have : (l.drop a).all isDig = false := by
  rw [List.all_eq_false]
  refine ⟨l.getD i 0,?_,fun e=>h (isDig_iff.1 e)⟩
  rw [List.mem_iff_getElem?]
  exact ⟨i - a,by rw [List.getElem?_drop,show a + (i - a) = i by omega,List.getD_eq_getElem?_getD,List.getElem?_eq_getElem hi]; rfl⟩
 rw [this]; simp
theorem ref_yes (h1 : a < l.length) (h2 : l.length - a ≤ 5) (h3 : ¬ (((l.getD a 0).toNat : Int) = 48 ∧ 1 < l.length)) (h4 : ∀ i,a ≤ i → i < l.length → 48 ≤ (l.getD i 0).toNat ∧ (l.getD i 0).toNat ≤ 57) : refOk l 5 = true := by
 unfold refOk
 rw [hm,head_drop hm h1]
 have e1 : (l.drop a).isEmpty = false := by
  cases hd : l.drop a with
  | nil=>have := congrArg List.length hd; rw [List.length_drop] at this; simp at this; omega
  | cons=>rfl
 have e2 : (l.drop a).all isDig = true := by
  rw [List.all_eq_true]
  intro c hc
  obtain ⟨i,hi⟩ := List.mem_iff_getElem?.1 hc
  rw [List.getElem?_drop] at hi
  have hlt := (List.getElem?_eq_some_iff.1 hi).1
  have := h4 (a + i) (by omega) hlt
  rw [List.getD_eq_getElem?_getD,hi] at this
  exact isDig_iff.2 this
 have e3 : (some (l.getD a 0) == some 48 && Nat.ble 2 l.length) = false := by
  rw [Bool.and_eq_false_iff]
  by_cases hc : l.getD a 0 = 48
  ·right
   cases hb : Nat.ble 2 l.length with
   | false=>rfl
   | true=>exact absurd ⟨(u8_eq (n := 48) (by decide)).2 hc,by have := Nat.le_of_ble_eq_true hb; omega⟩ h3
  ·left; simpa using hc
 rw [e1,e2,e3,Nat.ble_eq_true_of_le (by rw [List.length_drop]; omega)]; rfl
end
def sofar (l : List UInt8) (a i : Nat) : Nat := decV ((l.drop a).take (i - a))
theorem sofar_0 (l : List UInt8) (a : Nat) : sofar l a a = 0 := by unfold sofar; rw [Nat.sub_self]; rfl
theorem sofar_s {l : List UInt8} {a i : Nat} (ha : a ≤ i) (hi : i < l.length) : sofar l a (i + 1) = 10 * sofar l a i + ((l.getD i 0).toNat - 48) := by
  unfold sofar
  rw [show i + 1 - a = (i - a) + 1 by omega,List.take_add_one,List.getElem?_drop,show a + (i - a) = i by omega,List.getElem?_eq_getElem hi,Option.toList_some,decV_snoc,List.getD_eq_getElem?_getD,List.getElem?_eq_getElem hi]; rfl
theorem sofar_e (l : List UInt8) (a : Nat) : sofar l a l.length = decV (l.drop a) := by
  unfold sofar
  rw [List.take_of_length_le (by rw [List.length_drop]; omega)]
def refN (l : List UInt8) : Int := if refOk l 5 then refV l else 0
theorem u8_lt (c : UInt8) : c.toNat < 256 := c.toNat_lt
theorem sofar_lt {l : List UInt8} {a i : Nat} (h1 : a ≤ i) (h2 : i ≤ l.length) (h3 : l.length - a ≤ 5) (hd : ∀ j,a ≤ j → j < i → 48 ≤ (l.getD j 0).toNat ∧ (l.getD j 0).toNat ≤ 57) : sofar l a i < 100000 := by
 have hlen : ((l.drop a).take (i - a)).length = i - a := by rw [List.length_take,List.length_drop]; omega
 have := decV_lt (i - a) _ hlen fun c hc=>by
  obtain ⟨j,hj⟩ := List.mem_iff_getElem?.1 hc
  have hlt := (List.getElem?_eq_some_iff.1 hj).1
  rw [hlen] at hlt
  rw [List.getElem?_take_of_lt hlt,List.getElem?_drop] at hj
  have := hd (a + j) (by omega) (by omega)
  rw [List.getD_eq_getElem?_getD,hj] at this
  exact isDig_iff.2 this
 exact Nat.lt_of_lt_of_le this (Nat.pow_le_pow_right (by omega : 0 < 10) (by omega : i - a ≤ 5))
theorem fin_no {l : List UInt8} (h : refOk l 5 = false) : AVE 5 (.tuple [i64 0,vb false]) (.tuple [i64 (refN l),vb (refOk l 5)]) := by
  rw [refN,h]; exact ave_iv rfl rfl
theorem fin_yes1 {l : List UInt8} (h : refOk l 5 = true) (hm : magL l = l.drop 1) (hh : l.head? = some 45) {n : Int} (hn : n = (sofar l 1 l.length : Nat)) : AVE 5 (.tuple [i64 (-n),vb true]) (.tuple [i64 (refN l),vb (refOk l 5)]) := by
  rw [refN,h,if_pos rfl,refV,if_pos hh,hm,← sofar_e,← hn]; exact ave_iv rfl rfl
theorem fin_yes0 {l : List UInt8} (h : refOk l 5 = true) (hm : magL l = l.drop 0) (hh : ¬ l.head? = some 45) {n : Int} (hn : n = (sofar l 0 l.length : Nat)) : AVE 5 (.tuple [i64 n,vb true]) (.tuple [i64 (refN l),vb (refOk l 5)]) := by
  rw [refN,h,if_pos rfl,refV,if_neg hh,hm,← sofar_e,← hn]; exact ave_iv rfl rfl
theorem S30 (s : ByteArray) (hs : s.size ≤ 1000000000) : SP 30 [sv s, i64 5] (.tuple [i64 (refN s.data.toList), vb (refOk s.data.toList 5)]) false := by
  have hz := bs_len s
  by_cases h0 : s.size = 0
  · have hr := fin_no (ref_none (l := s.data.toList) (a := s.data.toList.length) (by
      have : s.data.toList = [] := List.length_eq_zero_iff.1 (by omega)
      rw [this]; rfl) (Nat.le_refl _))
    refine sound (d := 2) tok2 mixed2 Tryz.func30 (by kernel_rfl) (by kernel_rfl) ?_
    (conv=>whnf); refine ifB_dec (fun w1=>?_) (fun w1=>?_)
    · (exfalso; omega)
    · (conv=>whnf); refine ifB_beq (fun w2=>?_) (fun w2=>?_)
      · (conv=>whnf); refine ⟨?_,nofun⟩
        (first | omega | exact hr)
      · (exfalso; omega)
  by_cases h45 : ((s.data.toList.getD (Int.toNat 0) 0).toNat : Int) = 45
  · obtain ⟨hm, hh⟩ := mag1 (by omega) h45
    by_cases c1 : s.data.toList.length ≤ 1
    · have hr := fin_no (ref_none hm c1)
      refine sound (d := 2) tok2 mixed2 Tryz.func30 (by kernel_rfl) (by kernel_rfl) ?_
      (conv=>whnf); refine ifB_dec (fun w1=>?_) (fun w1=>?_)
      · (conv=>whnf); refine ⟨⟨(by omega),(by omega)⟩,?_⟩
        (conv=>whnf); refine ifB_beq (fun w2=>?_) (fun w2=>?_)
        · (conv=>whnf); refine ifB_beq (fun w3=>?_) (fun w3=>?_)
          · (conv=>whnf); refine ⟨?_,nofun⟩
            (first | omega | contradiction | exact hr)
          · (exfalso; omega)
        · (exfalso; omega)
      · (exfalso; omega)
    by_cases c2 : 5 < s.data.toList.length - 1
    · have hr := fin_no (ref_long hm c2)
      refine sound (d := 2) tok2 mixed2 Tryz.func30 (by kernel_rfl) (by kernel_rfl) ?_
      (conv=>whnf); refine ifB_dec (fun w1=>?_) (fun w1=>?_)
      · (conv => whnf); refine ⟨⟨(by omega), (by omega)⟩, ?_⟩
        (conv=>whnf); refine ifB_beq (fun w2=>?_) (fun w2=>?_)
        · (conv=>whnf); refine ifB_beq (fun w3=>?_) (fun w3=>?_)
          · (exfalso; omega)
          · (conv=>whnf); refine ⟨inK64 (by omega) (by omega),?_⟩
            (conv=>whnf); refine ifB_dec (fun w4=>?_) (fun w4=>?_)
            · (conv=>whnf); refine ⟨?_,nofun⟩
              (first | omega | contradiction | exact hr)
            · (exfalso; omega)
        · (exfalso; omega)
      · (exfalso; omega)
    by_cases h48 : ((s.data.toList.getD (Int.toNat 1) 0).toNat : Int) = 48 ∧ 1 < s.data.toList.length
    · have hr := fin_no (ref_zero hm (by omega) h48.1 h48.2)
      obtain ⟨k1,k2⟩ := h48
      refine sound (d := 2) tok2 mixed2 Tryz.func30 (by kernel_rfl) (by kernel_rfl) ?_
      (conv=>whnf); refine ifB_dec (fun w1=>?_) (fun w1=>?_)
      · (conv => whnf); refine ⟨⟨(by omega), (by omega)⟩, ?_⟩
        (conv=>whnf); refine ifB_beq (fun w2=>?_) (fun w2=>?_)
        · (conv => whnf); refine ifB_beq (fun w3 => ?_) (fun w3 => ?_)
          · (exfalso; omega)
          · (conv => whnf); refine ⟨inK64 (by omega) (by omega), ?_⟩
            (conv=>whnf); refine ifB_dec (fun w4=>?_) (fun w4=>?_)
            · (exfalso; omega)
            · (conv=>whnf); refine ⟨⟨(by omega),(by omega)⟩,?_⟩
              (conv=>whnf); refine ifB_beq (fun w5=>?_) (fun w5=>?_)
              · (conv=>whnf); refine ifB_dec (fun w6=>?_) (fun w6=>?_)
                · (conv=>whnf); refine ⟨?_,nofun⟩
                  (first | omega | contradiction | exact hr)
                · (exfalso; omega)
              · (exfalso; omega)
        · (exfalso; omega)
      · (exfalso; omega)
    have k1 : ¬ ((s.data.toList.getD (Int.toNat 1) 0).toNat : Int) = 48 := fun e=>h48 ⟨e,by omega⟩
    refine sound (d := 2) tok2 mixed2 Tryz.func30 (by kernel_rfl) (by kernel_rfl) ?_
    (conv=>whnf); refine ifB_dec (fun w1=>?_) (fun w1=>?_)
    · (conv => whnf); refine ⟨⟨(by omega), (by omega)⟩, ?_⟩
      (conv=>whnf); refine ifB_beq (fun w2=>?_) (fun w2=>?_)
      · (conv => whnf); refine ifB_beq (fun w3 => ?_) (fun w3 => ?_)
        · (exfalso; omega)
        · (conv => whnf); refine ⟨inK64 (by omega) (by omega), ?_⟩
          (conv=>whnf); refine ifB_dec (fun w4=>?_) (fun w4=>?_)
          · (exfalso; omega)
          · (conv => whnf); refine ⟨⟨(by omega), (by omega)⟩, ?_⟩
            (conv=>whnf); refine ifB_beq (fun w5=>?_) (fun w5=>?_)
            · (exfalso; omega)
            · · (conv => whnf); refine ⟨[], [0, 6, 7, 8], fun st mq => ∃ (i : Nat) (n : Int), (1 ≤ i ∧ i ≤ s.data.toList.length) ∧ (n = (sofar s.data.toList 1 i : Nat)) ∧ (∀ j, 1 ≤ j → j < i → 48 ≤ (s.data.toList.getD j 0).toNat ∧ (s.data.toList.getD j 0).toNat ≤ 57) ∧ st = ⟨[(0, sv s), (6, i64 1), (7, i64 n), (8, i64 i)], ⟨[], [], none, 0⟩, []⟩ ∧ mq = s.data.toList.length - i,
                  ⟨_,_,⟨1,0,⟨by omega,by omega⟩,(by rw [sofar_0]; rfl),fun j h1 h2=>by omega,rfl,rfl⟩,⟨⟨.inl rfl,rfl,rfl,rfl⟩,trivial,trivial⟩⟩,?_⟩
                rintro s0 m0 ⟨i,n,hi,hn,hd,rfl,hmeas⟩
                have hb := sofar_lt hi.1 hi.2 (by omega : s.data.toList.length - 1 ≤ 5) hd
                by_cases hlt : i < s.data.toList.length
                · have hst : sofar s.data.toList 1 (i + 1) = 10 * sofar s.data.toList 1 i + ((s.data.toList.getD (i : Int).toNat 0).toNat - 48) := sofar_s hi.1 hlt
                  have hu := u8_lt (s.data.toList.getD (i : Int).toNat 0)
                  by_cases hg : 48 ≤ (s.data.toList.getD (i : Int).toNat 0).toNat ∧ (s.data.toList.getD (i : Int).toNat 0).toNat ≤ 57
                  · obtain ⟨hg1,hg2⟩ := hg
                    conv=>whnf
                    (conv=>whnf); refine ifB_dec (fun w6=>?_) (fun w6=>?_)
                    · conv=>whnf
                      (conv=>whnf); refine ⟨⟨(by omega),(by omega)⟩,?_⟩
                      conv=>whnf
                      (conv=>whnf); refine ifB_dec (fun w7=>?_) (fun w7=>?_)
                      · (exfalso; omega)
                      · conv=>whnf
                        (conv=>whnf); refine ⟨⟨(by omega),(by omega)⟩,?_⟩
                        conv=>whnf
                        (conv=>whnf); refine ifB_dec (fun w8=>?_) (fun w8=>?_)
                        · (exfalso; omega)
                        · conv=>whnf
                          (conv=>whnf); refine ⟨inK64 (by omega) (by omega),?_⟩
                          conv=>whnf
                          (conv=>whnf); refine ⟨⟨(by omega),(by omega)⟩,?_⟩
                          conv=>whnf
                          (conv=>whnf); refine ⟨inKu8 (by omega) (by omega),?_⟩
                          conv=>whnf
                          (conv=>whnf); refine ⟨inK64 (by omega) (by omega),?_⟩
                          conv=>whnf
                          (conv=>whnf); refine ⟨inK64 (by omega) (by omega),?_⟩
                          conv=>whnf
                          (conv=>whnf); refine ⟨inK64 (by omega) (by omega),?_⟩
                          conv=>whnf
                          (conv=>whnf); refine ⟨_,_,⟨⟨i + 1,(10 * n + (((s.data.toList.getD (i : Int).toNat 0).toNat : Int) - 48)),⟨by omega,by omega⟩,(by rw [hst,hn]; omega),(fun j h1 h2=>by by_cases e : j = i; (rw [e]; exact ⟨hg1,hg2⟩); exact hd j h1 (by omega)),rfl,rfl⟩,by omega⟩,⟨⟨.inl rfl,rfl,rfl,rfl⟩,trivial,trivial⟩⟩
                    · (exfalso; omega)
                  · have hno := fin_no (ref_dig hm hi.1 hlt hg)
                    conv=>whnf
                    (conv=>whnf); refine ifB_dec (fun w6=>?_) (fun w6=>?_)
                    · conv=>whnf
                      (conv=>whnf); refine ⟨⟨(by omega),(by omega)⟩,?_⟩
                      conv=>whnf
                      (conv=>whnf); refine ifB_dec (fun w7=>?_) (fun w7=>?_)
                      · conv=>whnf
                        (conv=>whnf); refine ⟨?_,nofun⟩
                        (first | omega | exact hno)
                      · conv=>whnf
                        (conv=>whnf); refine ⟨⟨(by omega),(by omega)⟩,?_⟩
                        conv=>whnf
                        (conv=>whnf); refine ifB_dec (fun w8=>?_) (fun w8=>?_)
                        · conv=>whnf
                          (conv=>whnf); refine ⟨?_,nofun⟩
                          (first | omega | exact hno)
                        · (exfalso; omega)
                    · (exfalso; omega)
                · have he : i = s.data.toList.length := by omega
                  have hyes := fin_yes1 (n := n) (ref_yes hm (by omega) (by omega) h48 (by rw [← he]; exact hd)) hm hh (by rw [hn,he])
                  conv=>whnf
                  (conv=>whnf); refine ifB_dec (fun w6=>?_) (fun w6=>?_)
                  · (exfalso; omega)
                  · conv=>whnf
                    (conv=>whnf); refine ⟨inK64 (by omega) (by omega),?_⟩
                    conv=>whnf
                    (conv=>whnf); refine ⟨?_,nofun⟩
                    (first | omega | exact hyes)
      · (exfalso; omega)
    · (exfalso; omega)
  · obtain ⟨hm, hh⟩ := mag0 h45
    by_cases c1 : s.data.toList.length ≤ 0
    · have hr := fin_no (ref_none hm c1)
      refine sound (d := 2) tok2 mixed2 Tryz.func30 (by kernel_rfl) (by kernel_rfl) ?_
      (conv=>whnf); refine ifB_dec (fun w1=>?_) (fun w1=>?_)
      · (exfalso; omega)
      · (exfalso; omega)
    by_cases c2 : 5 < s.data.toList.length - 0
    · have hr := fin_no (ref_long hm c2)
      refine sound (d := 2) tok2 mixed2 Tryz.func30 (by kernel_rfl) (by kernel_rfl) ?_
      (conv=>whnf); refine ifB_dec (fun w1=>?_) (fun w1=>?_)
      · (conv => whnf); refine ⟨⟨(by omega), (by omega)⟩, ?_⟩
        (conv=>whnf); refine ifB_beq (fun w2=>?_) (fun w2=>?_)
        · (exfalso; omega)
        · (conv=>whnf); refine ifB_beq (fun w3=>?_) (fun w3=>?_)
          · (exfalso; omega)
          · (conv=>whnf); refine ⟨inK64 (by omega) (by omega),?_⟩
            (conv=>whnf); refine ifB_dec (fun w4=>?_) (fun w4=>?_)
            · (conv=>whnf); refine ⟨?_,nofun⟩
              (first | omega | contradiction | exact hr)
            · (exfalso; omega)
      · (exfalso; omega)
    by_cases h48 : ((s.data.toList.getD (Int.toNat 0) 0).toNat : Int) = 48 ∧ 1 < s.data.toList.length
    · have hr := fin_no (ref_zero hm (by omega) h48.1 h48.2)
      obtain ⟨k1,k2⟩ := h48
      refine sound (d := 2) tok2 mixed2 Tryz.func30 (by kernel_rfl) (by kernel_rfl) ?_
      (conv=>whnf); refine ifB_dec (fun w1=>?_) (fun w1=>?_)
      · (conv => whnf); refine ⟨⟨(by omega), (by omega)⟩, ?_⟩
        (conv=>whnf); refine ifB_beq (fun w2=>?_) (fun w2=>?_)
        · (exfalso; omega)
        · (conv => whnf); refine ifB_beq (fun w3 => ?_) (fun w3 => ?_)
          · (exfalso; omega)
          · (conv => whnf); refine ⟨inK64 (by omega) (by omega), ?_⟩
            (conv=>whnf); refine ifB_dec (fun w4=>?_) (fun w4=>?_)
            · (exfalso; omega)
            · (conv=>whnf); refine ⟨⟨(by omega),(by omega)⟩,?_⟩
              (conv=>whnf); refine ifB_beq (fun w5=>?_) (fun w5=>?_)
              · (conv=>whnf); refine ifB_dec (fun w6=>?_) (fun w6=>?_)
                · (conv=>whnf); refine ⟨?_,nofun⟩
                  (first | omega | contradiction | exact hr)
                · (exfalso; omega)
              · (exfalso; omega)
      · (exfalso; omega)
    by_cases c3 : s.data.toList.length = 1
    · refine sound (d := 2) tok2 mixed2 Tryz.func30 (by kernel_rfl) (by kernel_rfl) ?_
      (conv=>whnf); refine ifB_dec (fun w1=>?_) (fun w1=>?_)
      · (conv => whnf); refine ⟨⟨(by omega), (by omega)⟩, ?_⟩
        (conv=>whnf); refine ifB_beq (fun w2=>?_) (fun w2=>?_)
        · (exfalso; omega)
        · (conv => whnf); refine ifB_beq (fun w3 => ?_) (fun w3 => ?_)
          · (exfalso; omega)
          · (conv => whnf); refine ⟨inK64 (by omega) (by omega), ?_⟩
            (conv=>whnf); refine ifB_dec (fun w4=>?_) (fun w4=>?_)
            · (exfalso; omega)
            · (conv => whnf); refine ⟨⟨(by omega), (by omega)⟩, ?_⟩
              (conv=>whnf); refine ifB_beq (fun w5=>?_) (fun w5=>?_)
              · (conv => whnf); refine ifB_dec (fun w6 => ?_) (fun w6 => ?_)
                · (exfalso; omega)
                · (conv => whnf); refine ⟨[], [0, 6, 7, 8], fun st mq => ∃ (i : Nat) (n : Int), (0 ≤ i ∧ i ≤ s.data.toList.length) ∧ (n = (sofar s.data.toList 0 i : Nat)) ∧ (∀ j, 0 ≤ j → j < i → 48 ≤ (s.data.toList.getD j 0).toNat ∧ (s.data.toList.getD j 0).toNat ≤ 57) ∧ st = ⟨[(0, sv s), (6, i64 0), (7, i64 n), (8, i64 i)], ⟨[], [], none, 0⟩, []⟩ ∧ mq = s.data.toList.length - i,
                    ⟨_,_,⟨0,0,⟨by omega,by omega⟩,(by rw [sofar_0]; rfl),fun j h1 h2=>by omega,rfl,rfl⟩,⟨⟨.inl rfl,rfl,rfl,rfl⟩,trivial,trivial⟩⟩,?_⟩
                  rintro s0 m0 ⟨i,n,hi,hn,hd,rfl,hmeas⟩
                  have hb := sofar_lt hi.1 hi.2 (by omega : s.data.toList.length - 0 ≤ 5) hd
                  by_cases hlt : i < s.data.toList.length
                  · have hst : sofar s.data.toList 0 (i + 1) = 10 * sofar s.data.toList 0 i + ((s.data.toList.getD (i : Int).toNat 0).toNat - 48) := sofar_s hi.1 hlt
                    have hu := u8_lt (s.data.toList.getD (i : Int).toNat 0)
                    by_cases hg : 48 ≤ (s.data.toList.getD (i : Int).toNat 0).toNat ∧ (s.data.toList.getD (i : Int).toNat 0).toNat ≤ 57
                    · obtain ⟨hg1,hg2⟩ := hg
                      conv=>whnf
                      (conv=>whnf); refine ifB_dec (fun w7=>?_) (fun w7=>?_)
                      · conv=>whnf
                        (conv=>whnf); refine ⟨⟨(by omega),(by omega)⟩,?_⟩
                        conv=>whnf
                        (conv=>whnf); refine ifB_dec (fun w8=>?_) (fun w8=>?_)
                        · (exfalso; omega)
                        · conv=>whnf
                          (conv=>whnf); refine ⟨⟨(by omega),(by omega)⟩,?_⟩
                          conv=>whnf
                          (conv=>whnf); refine ifB_dec (fun w9=>?_) (fun w9=>?_)
                          · (exfalso; omega)
                          · conv=>whnf
                            (conv=>whnf); refine ⟨inK64 (by omega) (by omega),?_⟩
                            conv=>whnf
                            (conv=>whnf); refine ⟨⟨(by omega),(by omega)⟩,?_⟩
                            conv=>whnf
                            (conv=>whnf); refine ⟨inKu8 (by omega) (by omega),?_⟩
                            conv=>whnf
                            (conv=>whnf); refine ⟨inK64 (by omega) (by omega),?_⟩
                            conv=>whnf
                            (conv=>whnf); refine ⟨inK64 (by omega) (by omega),?_⟩
                            conv=>whnf
                            (conv=>whnf); refine ⟨inK64 (by omega) (by omega),?_⟩
                            conv=>whnf
                            (conv=>whnf); refine ⟨_,_,⟨⟨i + 1,(10 * n + (((s.data.toList.getD (i : Int).toNat 0).toNat : Int) - 48)),⟨by omega,by omega⟩,(by rw [hst,hn]; omega),(fun j h1 h2=>by by_cases e : j = i; (rw [e]; exact ⟨hg1,hg2⟩); exact hd j h1 (by omega)),rfl,rfl⟩,by omega⟩,⟨⟨.inl rfl,rfl,rfl,rfl⟩,trivial,trivial⟩⟩
                      · (exfalso; omega)
                    · have hno := fin_no (ref_dig hm hi.1 hlt hg)
                      conv=>whnf
                      (conv=>whnf); refine ifB_dec (fun w7=>?_) (fun w7=>?_)
                      · conv=>whnf
                        (conv=>whnf); refine ⟨⟨(by omega),(by omega)⟩,?_⟩
                        conv=>whnf
                        (conv=>whnf); refine ifB_dec (fun w8=>?_) (fun w8=>?_)
                        · conv=>whnf
                          (conv=>whnf); refine ⟨?_,nofun⟩
                          (first | omega | exact hno)
                        · conv=>whnf
                          (conv=>whnf); refine ⟨⟨(by omega),(by omega)⟩,?_⟩
                          conv=>whnf
                          (conv=>whnf); refine ifB_dec (fun w9=>?_) (fun w9=>?_)
                          · conv=>whnf
                            (conv=>whnf); refine ⟨?_,nofun⟩
                            (first | omega | exact hno)
                          · (exfalso; omega)
                      · (exfalso; omega)
                  · have he : i = s.data.toList.length := by omega
                    have hyes := fin_yes0 (n := n) (ref_yes hm (by omega) (by omega) h48 (by rw [← he]; exact hd)) hm hh (by rw [hn,he])
                    conv=>whnf
                    (conv=>whnf); refine ifB_dec (fun w7=>?_) (fun w7=>?_)
                    · (exfalso; omega)
                    · conv=>whnf
                      (conv=>whnf); refine ⟨?_,nofun⟩
                      (first | omega | exact hyes)
              · (conv => whnf); refine ⟨[], [0, 6, 7, 8], fun st mq => ∃ (i : Nat) (n : Int), (0 ≤ i ∧ i ≤ s.data.toList.length) ∧ (n = (sofar s.data.toList 0 i : Nat)) ∧ (∀ j, 0 ≤ j → j < i → 48 ≤ (s.data.toList.getD j 0).toNat ∧ (s.data.toList.getD j 0).toNat ≤ 57) ∧ st = ⟨[(0, sv s), (6, i64 0), (7, i64 n), (8, i64 i)], ⟨[], [], none, 0⟩, []⟩ ∧ mq = s.data.toList.length - i,
                  ⟨_,_,⟨0,0,⟨by omega,by omega⟩,(by rw [sofar_0]; rfl),fun j h1 h2=>by omega,rfl,rfl⟩,⟨⟨.inl rfl,rfl,rfl,rfl⟩,trivial,trivial⟩⟩,?_⟩
                rintro s0 m0 ⟨i,n,hi,hn,hd,rfl,hmeas⟩
                have hb := sofar_lt hi.1 hi.2 (by omega : s.data.toList.length - 0 ≤ 5) hd
                by_cases hlt : i < s.data.toList.length
                · have hst : sofar s.data.toList 0 (i + 1) = 10 * sofar s.data.toList 0 i + ((s.data.toList.getD (i : Int).toNat 0).toNat - 48) := sofar_s hi.1 hlt
                  have hu := u8_lt (s.data.toList.getD (i : Int).toNat 0)
                  by_cases hg : 48 ≤ (s.data.toList.getD (i : Int).toNat 0).toNat ∧ (s.data.toList.getD (i : Int).toNat 0).toNat ≤ 57
                  · obtain ⟨hg1,hg2⟩ := hg
                    conv=>whnf
                    (conv=>whnf); refine ifB_dec (fun w6=>?_) (fun w6=>?_)
                    · conv=>whnf
                      (conv=>whnf); refine ⟨⟨(by omega),(by omega)⟩,?_⟩
                      conv=>whnf
                      (conv=>whnf); refine ifB_dec (fun w7=>?_) (fun w7=>?_)
                      · (exfalso; omega)
                      · conv=>whnf
                        (conv=>whnf); refine ⟨⟨(by omega),(by omega)⟩,?_⟩
                        conv=>whnf
                        (conv=>whnf); refine ifB_dec (fun w8=>?_) (fun w8=>?_)
                        · (exfalso; omega)
                        · conv=>whnf
                          (conv=>whnf); refine ⟨inK64 (by omega) (by omega),?_⟩
                          conv=>whnf
                          (conv=>whnf); refine ⟨⟨(by omega),(by omega)⟩,?_⟩
                          conv=>whnf
                          (conv=>whnf); refine ⟨inKu8 (by omega) (by omega),?_⟩
                          conv=>whnf
                          (conv=>whnf); refine ⟨inK64 (by omega) (by omega),?_⟩
                          conv=>whnf
                          (conv=>whnf); refine ⟨inK64 (by omega) (by omega),?_⟩
                          conv=>whnf
                          (conv=>whnf); refine ⟨inK64 (by omega) (by omega),?_⟩
                          conv=>whnf
                          (conv=>whnf); refine ⟨_,_,⟨⟨i + 1,(10 * n + (((s.data.toList.getD (i : Int).toNat 0).toNat : Int) - 48)),⟨by omega,by omega⟩,(by rw [hst,hn]; omega),(fun j h1 h2=>by by_cases e : j = i; (rw [e]; exact ⟨hg1,hg2⟩); exact hd j h1 (by omega)),rfl,rfl⟩,by omega⟩,⟨⟨.inl rfl,rfl,rfl,rfl⟩,trivial,trivial⟩⟩
                    · (exfalso; omega)
                  · have hno := fin_no (ref_dig hm hi.1 hlt hg)
                    conv=>whnf
                    (conv=>whnf); refine ifB_dec (fun w6=>?_) (fun w6=>?_)
                    · conv=>whnf
                      (conv=>whnf); refine ⟨⟨(by omega),(by omega)⟩,?_⟩
                      conv=>whnf
                      (conv=>whnf); refine ifB_dec (fun w7=>?_) (fun w7=>?_)
                      · conv=>whnf
                        (conv=>whnf); refine ⟨?_,nofun⟩
                        (first | omega | exact hno)
                      · conv=>whnf
                        (conv=>whnf); refine ⟨⟨(by omega),(by omega)⟩,?_⟩
                        conv=>whnf
                        (conv=>whnf); refine ifB_dec (fun w8=>?_) (fun w8=>?_)
                        · conv=>whnf
                          (conv=>whnf); refine ⟨?_,nofun⟩
                          (first | omega | exact hno)
                        · (exfalso; omega)
                    · (exfalso; omega)
                · have he : i = s.data.toList.length := by omega
                  have hyes := fin_yes0 (n := n) (ref_yes hm (by omega) (by omega) h48 (by rw [← he]; exact hd)) hm hh (by rw [hn,he])
                  conv=>whnf
                  (conv=>whnf); refine ifB_dec (fun w6=>?_) (fun w6=>?_)
                  · (exfalso; omega)
                  · conv=>whnf
                    (conv=>whnf); refine ⟨?_,nofun⟩
                    (first | omega | exact hyes)
      · (exfalso; omega)
    · have k1 : ¬ ((s.data.toList.getD (Int.toNat 0) 0).toNat : Int) = 48 := fun e => h48 ⟨e, by omega⟩
      refine sound (d := 2) tok2 mixed2 Tryz.func30 (by kernel_rfl) (by kernel_rfl) ?_
      (conv=>whnf); refine ifB_dec (fun w1=>?_) (fun w1=>?_)
      · (conv => whnf); refine ⟨⟨(by omega), (by omega)⟩, ?_⟩
        (conv=>whnf); refine ifB_beq (fun w2=>?_) (fun w2=>?_)
        · (exfalso; omega)
        · (conv => whnf); refine ifB_beq (fun w3 => ?_) (fun w3 => ?_)
          · (exfalso; omega)
          · (conv => whnf); refine ⟨inK64 (by omega) (by omega), ?_⟩
            (conv=>whnf); refine ifB_dec (fun w4=>?_) (fun w4=>?_)
            · (exfalso; omega)
            · (conv => whnf); refine ⟨⟨(by omega), (by omega)⟩, ?_⟩
              (conv=>whnf); refine ifB_beq (fun w5=>?_) (fun w5=>?_)
              · (exfalso; omega)
              · · (conv => whnf); refine ⟨[], [0, 6, 7, 8], fun st mq => ∃ (i : Nat) (n : Int), (0 ≤ i ∧ i ≤ s.data.toList.length) ∧ (n = (sofar s.data.toList 0 i : Nat)) ∧ (∀ j, 0 ≤ j → j < i → 48 ≤ (s.data.toList.getD j 0).toNat ∧ (s.data.toList.getD j 0).toNat ≤ 57) ∧ st = ⟨[(0, sv s), (6, i64 0), (7, i64 n), (8, i64 i)], ⟨[], [], none, 0⟩, []⟩ ∧ mq = s.data.toList.length - i,
                    ⟨_,_,⟨0,0,⟨by omega,by omega⟩,(by rw [sofar_0]; rfl),fun j h1 h2=>by omega,rfl,rfl⟩,⟨⟨.inl rfl,rfl,rfl,rfl⟩,trivial,trivial⟩⟩,?_⟩
                  rintro s0 m0 ⟨i,n,hi,hn,hd,rfl,hmeas⟩
                  have hb := sofar_lt hi.1 hi.2 (by omega : s.data.toList.length - 0 ≤ 5) hd
                  by_cases hlt : i < s.data.toList.length
                  · have hst : sofar s.data.toList 0 (i + 1) = 10 * sofar s.data.toList 0 i + ((s.data.toList.getD (i : Int).toNat 0).toNat - 48) := sofar_s hi.1 hlt
                    have hu := u8_lt (s.data.toList.getD (i : Int).toNat 0)
                    by_cases hg : 48 ≤ (s.data.toList.getD (i : Int).toNat 0).toNat ∧ (s.data.toList.getD (i : Int).toNat 0).toNat ≤ 57
                    · obtain ⟨hg1,hg2⟩ := hg
                      conv=>whnf
                      (conv=>whnf); refine ifB_dec (fun w6=>?_) (fun w6=>?_)
                      · conv=>whnf
                        (conv=>whnf); refine ⟨⟨(by omega),(by omega)⟩,?_⟩
                        conv=>whnf
                        (conv=>whnf); refine ifB_dec (fun w7=>?_) (fun w7=>?_)
                        · (exfalso; omega)
                        · conv=>whnf
                          (conv=>whnf); refine ⟨⟨(by omega),(by omega)⟩,?_⟩
                          conv=>whnf
                          (conv=>whnf); refine ifB_dec (fun w8=>?_) (fun w8=>?_)
                          · (exfalso; omega)
                          · conv=>whnf
                            (conv=>whnf); refine ⟨inK64 (by omega) (by omega),?_⟩
                            conv=>whnf
                            (conv=>whnf); refine ⟨⟨(by omega),(by omega)⟩,?_⟩
                            conv=>whnf
                            (conv=>whnf); refine ⟨inKu8 (by omega) (by omega),?_⟩
                            conv=>whnf
                            (conv=>whnf); refine ⟨inK64 (by omega) (by omega),?_⟩
                            conv=>whnf
                            (conv=>whnf); refine ⟨inK64 (by omega) (by omega),?_⟩
                            conv=>whnf
                            (conv=>whnf); refine ⟨inK64 (by omega) (by omega),?_⟩
                            conv=>whnf
                            (conv=>whnf); refine ⟨_,_,⟨⟨i + 1,(10 * n + (((s.data.toList.getD (i : Int).toNat 0).toNat : Int) - 48)),⟨by omega,by omega⟩,(by rw [hst,hn]; omega),(fun j h1 h2=>by by_cases e : j = i; (rw [e]; exact ⟨hg1,hg2⟩); exact hd j h1 (by omega)),rfl,rfl⟩,by omega⟩,⟨⟨.inl rfl,rfl,rfl,rfl⟩,trivial,trivial⟩⟩
                      · (exfalso; omega)
                    · have hno := fin_no (ref_dig hm hi.1 hlt hg)
                      conv=>whnf
                      (conv=>whnf); refine ifB_dec (fun w6=>?_) (fun w6=>?_)
                      · conv=>whnf
                        (conv=>whnf); refine ⟨⟨(by omega),(by omega)⟩,?_⟩
                        conv=>whnf
                        (conv=>whnf); refine ifB_dec (fun w7=>?_) (fun w7=>?_)
                        · conv=>whnf
                          (conv=>whnf); refine ⟨?_,nofun⟩
                          (first | omega | exact hno)
                        · conv=>whnf
                          (conv=>whnf); refine ⟨⟨(by omega),(by omega)⟩,?_⟩
                          conv=>whnf
                          (conv=>whnf); refine ifB_dec (fun w8=>?_) (fun w8=>?_)
                          · conv=>whnf
                            (conv=>whnf); refine ⟨?_,nofun⟩
                            (first | omega | exact hno)
                          · (exfalso; omega)
                      · (exfalso; omega)
                  · have he : i = s.data.toList.length := by omega
                    have hyes := fin_yes0 (n := n) (ref_yes hm (by omega) (by omega) h48 (by rw [← he]; exact hd)) hm hh (by rw [hn,he])
                    conv=>whnf
                    (conv=>whnf); refine ifB_dec (fun w6=>?_) (fun w6=>?_)
                    · (exfalso; omega)
                    · conv=>whnf
                      (conv=>whnf); refine ⟨?_,nofun⟩
                      (first | omega | exact hyes)
      · (exfalso; omega)
end Go.Tr

/- The reference's Cut. Conditions: none. -/
-- seat YtnphjhgmoijbfaaGreatDoor
namespace Go.Tr
open Go Go.Proofs
set_option maxRecDepth 20000
set_option maxHeartbeats 8000000

theorem sep_cut (s : ByteArray) (c : UInt8) : (sepL s (byteB c)).map (·.data.toList) = cutL c s.data.toList := split_cut c _ s rfl
def PcAt (s : ByteArray) (c : UInt8) (a m : Nat) : Prop := ((sepL s (byteB c)).drop m).map (·.data.toList) = cutL c (s.data.toList.drop a)
theorem pc_0 (s : ByteArray) (c : UInt8) : PcAt s c 0 0 := sep_cut s c
theorem pc_hit {s : ByteArray} {c : UInt8} {a m i : Nat} (h : PcAt s c a m) (h1 : a ≤ i) (h2 : i < s.data.toList.length) (hc : s.data.toList.getD i 0 = c) (hf : ∀ j,a ≤ j → j < i → s.data.toList.getD j 0 ≠ c) :
  m < (sepL s (byteB c)).length ∧ s.extract a i = (sepL s (byteB c)).getD m ByteArray.empty ∧ PcAt s c (i + 1) (m + 1) := by
 have e : s.data.toList.drop a = (s.data.toList.drop a).take (i - a) ++ c :: s.data.toList.drop (i + 1) := by
  conv=>lhs; rw [← List.take_append_drop (i - a) (s.data.toList.drop a)]
  rw [List.drop_drop,show a + (i - a) = i by omega,List.drop_eq_getElem_cons h2,← hc,List.getD_eq_getElem?_getD,List.getElem?_eq_getElem h2]; rfl
 unfold PcAt at h
 rw [e,cut_hit fun x hx=>by
  obtain ⟨j,hj⟩ := List.mem_iff_getElem?.1 hx
  have hlt : j < i - a := by have := (List.getElem?_eq_some_iff.1 hj).1; rw [List.length_take] at this; omega
  rw [List.getElem?_take_of_lt hlt,List.getElem?_drop] at hj
  have := hf (a + j) (by omega) (by omega)
  rw [List.getD_eq_getElem?_getD,hj] at this
  exact this] at h
 have hm : m < (sepL s (byteB c)).length := by
  by_cases hm : m < (sepL s (byteB c)).length
  ·exact hm
  ·rw [List.drop_eq_nil_of_le (by omega)] at h; cases h
 rw [List.drop_eq_getElem_cons hm,List.map_cons] at h
 injection h with h3 h4
 refine ⟨hm,bs_ext ?_,h4⟩
 rw [bs_ex,← h3,List.getD_eq_getElem?_getD,List.getElem?_eq_getElem hm]; rfl
theorem pc_end {s : ByteArray} {c : UInt8} {a m : Nat} (h : PcAt s c a m) (hf : ∀ j,a ≤ j → j < s.data.toList.length → s.data.toList.getD j 0 ≠ c) :
  (sepL s (byteB c)).length = m + 1 ∧ s.extract a s.size = (sepL s (byteB c)).getD m ByteArray.empty := by
 unfold PcAt at h
 rw [cut_miss fun x hx=>by
  obtain ⟨j,hj⟩ := List.mem_iff_getElem?.1 hx
  rw [List.getElem?_drop] at hj
  have := hf (a + j) (by omega) (List.getElem?_eq_some_iff.1 hj).1
  rw [List.getD_eq_getElem?_getD,hj] at this
  exact this] at h
 have hm : m < (sepL s (byteB c)).length := by
  by_cases hm : m < (sepL s (byteB c)).length
  ·exact hm
  ·rw [List.drop_eq_nil_of_le (by omega)] at h; cases h
 rw [List.drop_eq_getElem_cons hm,List.map_cons] at h
 injection h with h3 h4
 have h5 := congrArg List.length h4
 rw [List.length_map,List.length_drop] at h5
 refine ⟨by simp at h5; omega,bs_ext ?_⟩
 rw [bs_ex,bs_len,List.take_of_length_le (by rw [List.length_drop]; omega),← h3,List.getD_eq_getElem?_getD,List.getElem?_eq_getElem hm]; rfl
abbrev strsA (l : List ByteArray) : AV := .rslice 1 l.length fun i=>[sv (l.getD i ByteArray.empty)]
theorem app_str {F : List ByteArray} {x : ByteArray} {m i : Nat} (hx : x = F.getD m ByteArray.empty) (hi : i < m + 1) :
  (if i < m then [sv (F.getD (0 + i) ByteArray.empty)] else List.take (0 + 1) (List.drop ((i - m) * (0 + 1)) [sv x])) = [sv (F.getD i ByteArray.empty)] := by
 by_cases h : i < m
 ·rw [if_pos h,Nat.zero_add]
 ·obtain rfl : i = m := by omega
  rw [if_neg h,Nat.sub_self,hx]; rfl
theorem S29 (s : ByteArray) (c : UInt8) (hs : s.size ≤ 1000000000) : SP 29 [sv s,.val (.int .u8 c.toNat)] (strsA (sepL s (byteB c))) false := by
 have hz := bs_len s
 refine sound (d := 2) tok2 mixed2 Tryz.func29 (by kernel_rfl) (by kernel_rfl) ?_
 (conv=>whnf); refine ⟨[.slot 5 1],[0,1,5,6,7],fun st mq=>∃ (i : Nat) (a : Nat) (m : Nat),(a ≤ i ∧ i ≤ s.data.toList.length ∧ m ≤ i) ∧ (PcAt s c a m) ∧ (∀ j,a ≤ j → j < i → s.data.toList.getD j 0 ≠ c) ∧ st = ⟨[(0,sv s),(1,.val (.int .u8 c.toNat)),(5,.oslice 0 0 0 m none),(6,i64 a),(7,i64 i)],⟨[⟨1,m,fun i=>[sv ((sepL s (byteB c)).getD i ByteArray.empty)],0,false,true,false⟩],[],none,0⟩,[]⟩ ∧ mq = s.data.toList.length - i,
  ⟨_,_,⟨0,0,0,⟨by omega,by omega,by omega⟩,pc_0 s c,(fun j h1 h2=>by omega),rfl,rfl⟩,⟨⟨.inl rfl,rfl,rfl,rfl⟩,⟨⟨rfl,rfl,rfl,rfl,fun _=>rfl,fun i h=>.inl (absurd h (Nat.not_lt_zero i))⟩,trivial⟩,trivial⟩⟩,?_⟩
 rintro s0 m0 ⟨i,a,m,hi,hp,hf,rfl,hmeas⟩
 by_cases hlt : i < s.data.toList.length
 ·by_cases hc : s.data.toList.getD (i : Int).toNat 0 = c
  ·obtain ⟨p1,p2,p3⟩ := pc_hit hp hi.1 hlt hc hf
   have hc2 : ((s.data.toList.getD (i : Int).toNat 0).toNat : Int) = c.toNat := by rw [hc]
   conv=>whnf
   (conv=>whnf); refine ifB_dec (fun w1=>?_) (fun w1=>?_)
   ·conv=>whnf
    (conv=>whnf); refine ⟨⟨(by omega),(by omega)⟩,?_⟩
    conv=>whnf
    (conv=>whnf); refine ifB_beq (fun w2=>?_) (fun w2=>?_)
    ·conv=>whnf
     (conv=>whnf); refine ⟨⟨(by omega),⟨(by omega),(by omega)⟩⟩,?_⟩
     conv=>whnf
     (conv=>whnf); refine .inl ?_
     conv=>whnf
     (conv=>whnf); refine ⟨(by show _ * (16 + 1) ≤ _; omega),?_⟩
     conv=>whnf
     (conv=>whnf); refine ⟨inK64 (by omega) (by omega),?_⟩
     conv=>whnf
     (conv=>whnf); refine ⟨inK64 (by omega) (by omega),?_⟩
     conv=>whnf
     (conv=>whnf); refine ⟨_,_,⟨⟨i + 1,i + 1,m + 1,⟨by omega,by omega,by omega⟩,p3,(fun j h1 h2=>by omega),rfl,rfl⟩,by omega⟩,⟨⟨.inl rfl,rfl,rfl,rfl⟩,⟨⟨rfl,rfl,rfl,rfl,fun _=>rfl,fun j hj=>.inl ((app_str p2 hj).symm)⟩,trivial⟩,trivial⟩⟩
    ·(exfalso; omega)
   ·(exfalso; omega)
  ·have hc2 : ¬ ((s.data.toList.getD (i : Int).toNat 0).toNat : Int) = c.toNat := fun e=>hc (UInt8.toNat_inj.1 (by omega))
   conv=>whnf
   (conv=>whnf); refine ifB_dec (fun w1=>?_) (fun w1=>?_)
   ·conv=>whnf
    (conv=>whnf); refine ⟨⟨(by omega),(by omega)⟩,?_⟩
    conv=>whnf
    (conv=>whnf); refine ifB_beq (fun w2=>?_) (fun w2=>?_)
    ·(exfalso; omega)
    ·conv=>whnf
     (conv=>whnf); refine ⟨inK64 (by omega) (by omega),?_⟩
     conv=>whnf
     (conv=>whnf); refine ⟨_,_,⟨⟨i + 1,a,m,⟨by omega,by omega,by omega⟩,hp,(fun j h1 h2=>by by_cases e : j = i; (rw [e]; exact hc); exact hf j h1 (by omega)),rfl,rfl⟩,by omega⟩,⟨⟨.inl rfl,rfl,rfl,rfl⟩,⟨⟨rfl,rfl,rfl,rfl,fun _=>rfl,fun _ _=>.inl rfl⟩,trivial⟩,trivial⟩⟩
   ·(exfalso; omega)
 ·have e : i = s.data.toList.length := by omega
  subst e
  obtain ⟨p1,p2⟩ := pc_end hp hf
  conv=>whnf
  (conv=>whnf); refine ifB_dec (fun w1=>?_) (fun w1=>?_)
  ·(exfalso; omega)
  ·conv=>whnf
   (conv=>whnf); refine ⟨⟨(by omega),⟨(by omega),(by omega)⟩⟩,?_⟩
   conv=>whnf
   (conv=>whnf); refine .inl ?_
   conv=>whnf
   (conv=>whnf); refine ⟨(by show _ * (16 + 1) ≤ _; omega),?_⟩
   conv=>whnf
   (conv=>whnf); refine ⟨?_,nofun⟩
   (first | omega | contradiction | exact ⟨rfl,p1.symm,fun i hi=>app_str p2 hi⟩)
end Go.Tr

/- Points as strings: the package, the reference. Conditions: none. -/
-- seat YtnphjhgmoijbfaaGreatDoor
namespace Go.Tr
open Go Go.Proofs
set_option maxRecDepth 20000
set_option maxHeartbeats 8000000

def colB (s : ByteArray) : Bool := decide (s.data.toList.head? = some 58)
theorem ext_one {s : ByteArray} (h : 0 < s.size) : (s.extract 0 1).toList = [s.data.toList.getD 0 0] := by
 rw [bs_tl,bs_ex,List.drop_zero,List.getD_eq_getElem?_getD]
 rw [bs_len] at h
 cases hl : s.data.toList with
 | nil=>rw [hl] at h; cases h
 | cons c r=>rfl
theorem byteB_tl (c : UInt8) : (byteB c).toList = [c] := bs_tl _
theorem S129 (s : ByteArray) : SP 129 [sv s,sv (byteB 58)] (vb (colB s)) false := by
 unfold colB
 have hb : (byteB 58).size = 1 := rfl
 by_cases h0 : s.size = 0
 ·have hz : s.data.toList = [] := List.length_eq_zero_iff.1 (by rw [← bs_len]; exact h0)
  rw [hz]
  refine sound (d := 2) tok2 mixed2 Tryz.func129 (by kernel_rfl) (by kernel_rfl) ?_
  (conv=>whnf); refine ifB_dec (fun w1=>?_) (fun w1=>?_)
  ·(exfalso; omega)
  ·(conv=>whnf); refine ⟨?_,nofun⟩
   (first | omega | rfl)
 ·have e := ext_one (s := s) (by omega)
  have hcol : ((s.extract 0 1).toList == (byteB 58).toList) = decide (s.data.toList.head? = some 58) := by
   rw [e,byteB_tl]
   have hl : 0 < s.data.toList.length := by rw [← bs_len]; omega
   cases hd : s.data.toList with
   | nil=>rw [hd] at hl; cases hl
   | cons c r =>
    rw [Bool.eq_iff_iff]
    simp
  refine sound (d := 2) tok2 mixed2 Tryz.func129 (by kernel_rfl) (by kernel_rfl) ?_
  (conv=>whnf); refine ifB_dec (fun w1=>?_) (fun w1=>?_)
  ·(conv=>whnf); refine ⟨⟨(by omega),⟨(by omega),(by omega)⟩⟩,?_⟩
   (conv=>whnf); refine ⟨?_,nofun⟩
   (first | omega | exact congrArg vb hcol)
  ·(exfalso; omega)
def tailB (s : ByteArray) : ByteArray := if colB s then s.extract 1 s.size else s
theorem S91 (s : ByteArray) : SP 91 [sv s,sv (byteB 58)] (.tuple [sv (tailB s),vb (colB s)]) false := by
 have h := S129 s
 have hb : (byteB 58).size = 1 := rfl
 unfold tailB
 cases hc : colB s with
 | true =>
  have hs : 1 ≤ s.size := by
   have := of_decide_eq_true hc
   rw [bs_len]
   cases hd : s.data.toList with
   | nil=>rw [hd] at this; cases this
   | cons=>simp
  rw [hc] at h
  refine sound (d := 2) tok2 mixed2 Tryz.func91 (by kernel_rfl) (by kernel_rfl) ?_
  (conv=>whnf); refine .inl ⟨_,_,byX rfl (Sound1.pl (h) rfl),?_⟩
  (conv=>whnf); refine ⟨⟨(by omega),⟨(by omega),(by omega)⟩⟩,?_⟩
  (conv=>whnf); refine ⟨?_,nofun⟩
  (first | omega | exact ave_tup2 (k := 4) rfl rfl)
 | false =>
  rw [hc] at h
  refine sound (d := 2) tok2 mixed2 Tryz.func91 (by kernel_rfl) (by kernel_rfl) ?_
  (conv=>whnf); refine .inl ⟨_,_,byX rfl (Sound1.pl (h) rfl),?_⟩
  (conv=>whnf); refine ⟨?_,nofun⟩
  (first | omega | exact ave_tup2 (k := 4) rfl rfl)
theorem S57 (s : ByteArray) : SP 57 [sv s,sv (byteB 58)] (.tuple [sv (tailB s),vb (colB s)]) false := by
 have h := S91 s
 refine sound (d := 2) tok2 mixed2 Tryz.func57 (by kernel_rfl) (by kernel_rfl) ?_
 (conv=>whnf); refine .inl ⟨_,_,byX rfl (Sound1.pl (h) rfl),?_⟩
 (conv=>whnf); refine ⟨?_,nofun⟩
 (first | omega | exact ave_tup2 (k := 4) rfl rfl)
def wdsP (s : ByteArray) : List ByteArray := sepL (tailB s) (byteB 44)
def numsO (l : List ByteArray) : Bool := l.all fun w=>numO w true
def prsO (s : ByteArray) : Bool := colB s && decide ((wdsP s).length = 3) && numsO (wdsP s)
def wv (s : ByteArray) (i : Nat) : Int := atoiV ((wdsP s).getD i ByteArray.empty)
def prsP (s : ByteArray) : P3 := if prsO s then (wv s 0,wv s 1,wv s 2) else (0,0,0)
theorem tailB_size (s : ByteArray) : (tailB s).size ≤ s.size := by
 unfold tailB
 split
 ·rw [ByteArray.size_extract]; omega
 ·exact Nat.le_refl _
theorem splitB_size (sep : ByteArray) : ∀ (k : Nat) (s : ByteArray),∀ w ∈ Lib.splitB sep 0 k s,w.size ≤ s.size
 | 0,s,w,h=>by rw [Lib.splitB_zero] at h; rw [List.mem_singleton.1 h]; exact Nat.le_refl _
 | k + 1, s, w, h => by
  rw [Lib.splitB] at h
  split at h
  ·rw [List.mem_singleton.1 h]; exact Nat.le_refl _
  ·rcases List.mem_cons.1 h with e | h
   ·rw [e,ByteArray.size_extract]; omega
   ·have := splitB_size sep k _ w h
    rw [ByteArray.size_extract] at this; omega
theorem sepL_size (s sep : ByteArray) (i : Nat) : ((sepL s sep).getD i ByteArray.empty).size ≤ s.size := by
 rw [List.getD_eq_getElem?_getD]
 cases h : (sepL s sep)[i]? with
 | none=>exact Nat.zero_le _
 | some w=>exact splitB_size sep _ s w (List.mem_of_getElem? h)
theorem fin_pt {s : ByteArray} (h : prsO s = false) : AVE 5 (.tuple [.agg [i64 0,i64 0,i64 0],vb false]) (.tuple [.agg (ptC (prsP s)),vb (prsO s)]) := by
  rw [prsP,h]; exact ave_tup2 (k := 4) (ave_aggR (l := [i64 0,i64 0,i64 0]) (by simp [AV.atom])) rfl
theorem fin_pt1 {s : ByteArray} (h : prsO s = true) : AVE 5 (.tuple [.agg [i64 (wv s 0),i64 (wv s 1),i64 (wv s 2)],vb true]) (.tuple [.agg (ptC (prsP s)),vb (prsO s)]) := by
  rw [prsP,h]; exact ave_tup2 (k := 4) (ave_aggR (l := [i64 (wv s 0),i64 (wv s 1),i64 (wv s 2)]) (by simp [AV.atom])) rfl
theorem prsO_no {s : ByteArray} {k : Nat} (hk : k < (wdsP s).length) (h : numO ((wdsP s).getD k ByteArray.empty) true = false) : prsO s = false := by
 have : numsO (wdsP s) = false := by
  unfold numsO
  rw [List.all_eq_false]
  refine ⟨(wdsP s).getD k ByteArray.empty,?_,by rw [h]; simp⟩
  rw [List.getD_eq_getElem?_getD,List.getElem?_eq_getElem hk]; exact List.getElem_mem hk
 unfold prsO
 rw [this]; simp
theorem prsO_yes {s : ByteArray} (h1 : colB s = true) (h2 : (wdsP s).length = 3) (h : ∀ j,j < 3 → numO ((wdsP s).getD j ByteArray.empty) true = true) : prsO s = true := by
 have : numsO (wdsP s) = true := by
  unfold numsO
  rw [List.all_eq_true]
  intro w hw
  obtain ⟨j,hj⟩ := List.mem_iff_getElem?.1 hw
  have hlt := (List.getElem?_eq_some_iff.1 hj).1
  have := h j (by omega)
  rw [List.getD_eq_getElem?_getD,hj] at this
  exact this
 unfold prsO
 rw [this,h1,h2]; rfl
theorem S27 (s : ByteArray) (hs : s.size ≤ 1000000000) : SP 27 [sv s] (.tuple [.agg (ptC (prsP s)),vb (prsO s)]) false := by
 have hz := tailB_size s
 have h57 := S57 s
 have h25 : SP 25 [sv (tailB s),sv (byteB 44)] (strsA (wdsP s)) false := S25 (tailB s) (byteB 44) (by omega) (Nat.le_refl 1)
 have h26 : ∀ k,SP 26 [sv ((wdsP s).getD k ByteArray.empty),vb true] (.tuple [i64 (wv s k),vb (numO ((wdsP s).getD k ByteArray.empty) true)]) false := fun k=>S26 _ true (by have := sepL_size (tailB s) (byteB 44) k; show (((sepL (tailB s) (byteB 44)).getD k ByteArray.empty)).size ≤ _; omega)
 cases hc : colB s with
 | false =>
  have hn := fin_pt (s := s) (by unfold prsO; rw [hc]; rfl)
  rw [hc] at h57
  refine sound (d := 2) tok2 mixed2 Tryz.func27 (by kernel_rfl) (by kernel_rfl) ?_
  (conv=>whnf); refine .inl ⟨_,_,byX rfl (Sound1.pl (h57) rfl),?_⟩
  (conv=>whnf); refine .inl ⟨_,_,byX rfl (h25),?_⟩
  (conv=>whnf); refine ⟨?_,nofun⟩
  (first | omega | exact hn)
 | true =>
  rw [hc] at h57
  by_cases h3 : (wdsP s).length = 3
  ·refine sound (d := 2) tok2 mixed2 Tryz.func27 (by kernel_rfl) (by kernel_rfl) ?_
   (conv=>whnf); refine .inl ⟨_,_,byX rfl (Sound1.pl (h57) rfl),?_⟩
   (conv=>whnf); refine .inl ⟨_,_,byX rfl (h25),?_⟩
   (conv=>whnf); refine ifB_bne (fun w1=>?_) (fun w1=>?_)
   ·(exfalso; omega)
   ·(conv=>whnf); refine ⟨[],[2,7,25,26,27],fun st mq=>∃ (k : Nat) (a : Int) (b : Int) (c : Int),(k ≤ 3) ∧ (1 ≤ k → a = wv s 0) ∧ (2 ≤ k → b = wv s 1) ∧ (3 ≤ k → c = wv s 2) ∧ (∀ j,j < k → numO ((wdsP s).getD j ByteArray.empty) true = true) ∧ st = ⟨[(2,.optr 0 0 0 0),(7,.optr 1 0 0 0),(25,strsA (wdsP s)),(26,i64 (wdsP s).length),(27,i64 k)],⟨[⟨3,1,fun _=>[i64 0,i64 0,i64 0],0,false,true,true⟩,⟨3,1,fun _=>[i64 a,i64 b,i64 c],0,false,true,true⟩],[],none,0⟩,[]⟩ ∧ mq = 3 - k,
     ⟨_,_,⟨0,0,0,0,by omega,(fun h=>by omega),(fun h=>by omega),(fun h=>by omega),(fun j h=>by omega),rfl,rfl⟩,⟨⟨.inl rfl,rfl,rfl,rfl⟩,⟨⟨rfl,rfl,rfl,rfl,fun _=>rfl,fun _ _=>.inl rfl⟩,⟨⟨rfl,rfl,rfl,rfl,fun _=>rfl,fun _ _=>.inl rfl⟩,trivial⟩⟩,trivial⟩⟩,?_⟩
    rintro s0 m0 ⟨k,a,b,c,hk,h0,h1,h2,ho,rfl,hmeas⟩
    have hcase : k = 0 ∨ k = 1 ∨ k = 2 ∨ k = 3 := by omega
    rcases hcase with rfl | rfl | rfl | rfl
    ·have h26 := h26 0
     cases hn : numO ((wdsP s).getD 0 ByteArray.empty) true with
     | false =>
      have hf := fin_pt (prsO_no (by omega) hn)
      rw [hn] at h26
      conv=>whnf
      (conv=>whnf); refine ifB_dec (fun w2=>?_) (fun w2=>?_)
      ·conv=>whnf
       (conv=>whnf); refine ⟨⟨(by omega),(by omega)⟩,?_⟩
       conv=>whnf
       (conv=>whnf); refine .inl ⟨_,_,byX rfl (Sound1.pl (h26) rfl),?_⟩
       conv=>whnf
       (conv=>whnf); refine ⟨⟨(by omega),(by omega)⟩,?_⟩
       conv=>whnf
       (conv=>whnf); refine ⟨?_,nofun⟩
       (first | omega | exact hf)
      ·(exfalso; omega)
     | true =>
      rw [hn] at h26
      conv=>whnf
      (conv=>whnf); refine ifB_dec (fun w2=>?_) (fun w2=>?_)
      ·conv=>whnf
       (conv=>whnf); refine ⟨⟨(by omega),(by omega)⟩,?_⟩
       conv=>whnf
       (conv=>whnf); refine .inl ⟨_,_,byX rfl (Sound1.pl (h26) rfl),?_⟩
       conv=>whnf
       (conv=>whnf); refine ⟨⟨(by omega),(by omega)⟩,?_⟩
       conv=>whnf
       (conv=>whnf); refine ⟨inK64 (by omega) (by omega),?_⟩
       conv=>whnf
       (conv=>whnf); refine ⟨_,_,⟨⟨1,(wv s 0),b,c,by omega,(fun h=>rfl),(fun h=>by omega),(fun h=>by omega),(fun j h=>by by_cases e : j = 0; (rw [e]; exact hn); exact ho j (by omega)),rfl,rfl⟩,by omega⟩,⟨⟨.inl rfl,rfl,rfl,rfl⟩,⟨⟨rfl,rfl,rfl,rfl,fun _=>rfl,fun _ _=>.inl rfl⟩,⟨⟨rfl,rfl,rfl,rfl,fun _=>rfl,fun _ _=>.inl rfl⟩,trivial⟩⟩,trivial⟩⟩
      ·(exfalso; omega)
    ·have h26 := h26 1
     cases hn : numO ((wdsP s).getD 1 ByteArray.empty) true with
     | false =>
      have hf := fin_pt (prsO_no (by omega) hn)
      rw [hn] at h26
      conv=>whnf
      (conv=>whnf); refine ifB_dec (fun w2=>?_) (fun w2=>?_)
      ·conv=>whnf
       (conv=>whnf); refine ⟨⟨(by omega),(by omega)⟩,?_⟩
       conv=>whnf
       (conv=>whnf); refine .inl ⟨_,_,byX rfl (Sound1.pl (h26) rfl),?_⟩
       conv=>whnf
       (conv=>whnf); refine ⟨⟨(by omega),(by omega)⟩,?_⟩
       conv=>whnf
       (conv=>whnf); refine ⟨?_,nofun⟩
       (first | omega | exact hf)
      ·(exfalso; omega)
     | true =>
      rw [hn] at h26
      conv=>whnf
      (conv=>whnf); refine ifB_dec (fun w2=>?_) (fun w2=>?_)
      ·conv=>whnf
       (conv=>whnf); refine ⟨⟨(by omega),(by omega)⟩,?_⟩
       conv=>whnf
       (conv=>whnf); refine .inl ⟨_,_,byX rfl (Sound1.pl (h26) rfl),?_⟩
       conv=>whnf
       (conv=>whnf); refine ⟨⟨(by omega),(by omega)⟩,?_⟩
       conv=>whnf
       (conv=>whnf); refine ⟨inK64 (by omega) (by omega),?_⟩
       conv=>whnf
       (conv=>whnf); refine ⟨_,_,⟨⟨2,a,(wv s 1),c,by omega,(fun h=>h0 (by omega)),(fun h=>rfl),(fun h=>by omega),(fun j h=>by by_cases e : j = 1; (rw [e]; exact hn); exact ho j (by omega)),rfl,rfl⟩,by omega⟩,⟨⟨.inl rfl,rfl,rfl,rfl⟩,⟨⟨rfl,rfl,rfl,rfl,fun _=>rfl,fun _ _=>.inl rfl⟩,⟨⟨rfl,rfl,rfl,rfl,fun _=>rfl,fun _ _=>.inl rfl⟩,trivial⟩⟩,trivial⟩⟩
      ·(exfalso; omega)
    ·have h26 := h26 2
     cases hn : numO ((wdsP s).getD 2 ByteArray.empty) true with
     | false =>
      have hf := fin_pt (prsO_no (by omega) hn)
      rw [hn] at h26
      conv=>whnf
      (conv=>whnf); refine ifB_dec (fun w2=>?_) (fun w2=>?_)
      ·conv=>whnf
       (conv=>whnf); refine ⟨⟨(by omega),(by omega)⟩,?_⟩
       conv=>whnf
       (conv=>whnf); refine .inl ⟨_,_,byX rfl (Sound1.pl (h26) rfl),?_⟩
       conv=>whnf
       (conv=>whnf); refine ⟨⟨(by omega),(by omega)⟩,?_⟩
       conv=>whnf
       (conv=>whnf); refine ⟨?_,nofun⟩
       (first | omega | exact hf)
      ·(exfalso; omega)
     | true =>
      rw [hn] at h26
      conv=>whnf
      (conv=>whnf); refine ifB_dec (fun w2=>?_) (fun w2=>?_)
      ·conv=>whnf
       (conv=>whnf); refine ⟨⟨(by omega),(by omega)⟩,?_⟩
       conv=>whnf
       (conv=>whnf); refine .inl ⟨_,_,byX rfl (Sound1.pl (h26) rfl),?_⟩
       conv=>whnf
       (conv=>whnf); refine ⟨⟨(by omega),(by omega)⟩,?_⟩
       conv=>whnf
       (conv=>whnf); refine ⟨inK64 (by omega) (by omega),?_⟩
       conv=>whnf
       (conv=>whnf); refine ⟨_,_,⟨⟨3,a,b,(wv s 2),by omega,(fun h=>h0 (by omega)),(fun h=>h1 (by omega)),(fun h=>rfl),(fun j h=>by by_cases e : j = 2; (rw [e]; exact hn); exact ho j (by omega)),rfl,rfl⟩,by omega⟩,⟨⟨.inl rfl,rfl,rfl,rfl⟩,⟨⟨rfl,rfl,rfl,rfl,fun _=>rfl,fun _ _=>.inl rfl⟩,⟨⟨rfl,rfl,rfl,rfl,fun _=>rfl,fun _ _=>.inl rfl⟩,trivial⟩⟩,trivial⟩⟩
      ·(exfalso; omega)
    ·have hf := fin_pt1 (prsO_yes hc h3 ho)
     obtain rfl := h0 (by omega)
     obtain rfl := h1 (by omega)
     obtain rfl := h2 (by omega)
     conv=>whnf
     (conv=>whnf); refine ifB_dec (fun w2=>?_) (fun w2=>?_)
     ·(exfalso; omega)
     ·conv=>whnf
      (conv=>whnf); refine ⟨⟨(by omega),(by omega)⟩,?_⟩
      conv=>whnf
      (conv=>whnf); refine ⟨⟨(by omega),(by omega)⟩,?_⟩
      conv=>whnf
      (conv=>whnf); refine ⟨⟨(by omega),(by omega)⟩,?_⟩
      conv=>whnf
      (conv=>whnf); refine ⟨?_,nofun⟩
      (first | omega | exact hf)
  ·have hn := fin_pt (s := s) (by unfold prsO; rw [hc,decide_eq_false h3]; rfl)
   refine sound (d := 2) tok2 mixed2 Tryz.func27 (by kernel_rfl) (by kernel_rfl) ?_
   (conv=>whnf); refine .inl ⟨_,_,byX rfl (Sound1.pl (h57) rfl),?_⟩
   (conv=>whnf); refine .inl ⟨_,_,byX rfl (h25),?_⟩
   (conv=>whnf); refine ifB_bne (fun w1=>?_) (fun w1=>?_)
   ·(conv=>whnf); refine ⟨?_,nofun⟩
    (first | omega | exact hn)
   ·(exfalso; omega)
end Go.Tr

/- Points as strings in the reference. Conditions: none. -/
-- seat YtnphjhgmoijbfaaGreatDoor
namespace Go.Tr
open Go Go.Proofs
set_option maxRecDepth 20000
set_option maxHeartbeats 8000000

theorem S30w (w : ByteArray) (hs : w.size ≤ 1000000000) : SP 30 [sv w,i64 5] (.tuple [i64 (if numO w true then atoiV w else 0),vb (numO w true)]) false := by
 have h := S30 w hs
 obtain ⟨e1,e2⟩ := num_ref w
 rw [e1]
 cases hr : refOk w.data.toList 5 with
 | false=>rw [refN,hr] at h; exact h
 | true=>rw [refN,hr,if_pos rfl,← e2 hr] at h; exact h
theorem col_at {s : ByteArray} (h : colB s = true) : 0 < s.size ∧ ((s.data.toList.getD (Int.toNat 0) 0).toNat : Int) = 58 := by
 have := of_decide_eq_true h
 rw [bs_len]
 cases hd : s.data.toList with
 | nil=>rw [hd] at this; cases this
 | cons c r =>
  rw [hd] at this
  simp at this
  rw [this]
  exact ⟨by simp,rfl⟩
theorem col_no {s : ByteArray} (h : colB s = false) (h0 : 0 < s.size) : ¬ ((s.data.toList.getD (Int.toNat 0) 0).toNat : Int) = 58 := fun e=>by
 have h := of_decide_eq_false h
 rw [bs_len] at h0
 cases hd : s.data.toList with
 | nil=>rw [hd] at h0; cases h0
 | cons c r =>
  rw [hd] at h e
  exact h (congrArg some ((u8_eq (n := 58) (by decide)).1 e))
theorem nil_tl (s : ByteArray) : (s.toList == (⟨#[]⟩ : ByteArray).toList) = decide (s.size = 0) := by
 rw [bs_tl,bs_tl,bs_len]
 cases hd : s.data.toList with
 | nil=>rfl
 | cons c r=>simp
theorem S31 (s : ByteArray) (hs : s.size ≤ 1000000000) : SP 31 [sv s] (.tuple [.agg (ptC (prsP s)), vb (prsO s)]) false := by
 have hz := tailB_size s
 have hnil := nil_tl s
 have h29 : SP 29 [sv (tailB s),.val (.int .u8 44)] (strsA (wdsP s)) false := S29 (tailB s) 44 (by omega)
 have h30 : ∀ k,SP 30 [sv ((wdsP s).getD k ByteArray.empty),i64 5] (.tuple [i64 (if numO ((wdsP s).getD k ByteArray.empty) true then wv s k else 0),vb (numO ((wdsP s).getD k ByteArray.empty) true)]) false := fun k=>S30w _ (by have := sepL_size (tailB s) (byteB 44) k; show (((sepL (tailB s) (byteB 44)).getD k ByteArray.empty)).size ≤ _; omega)
 cases hc : colB s with
 | false =>
  have hn := fin_pt (s := s) (by unfold prsO; rw [hc]; rfl)
  by_cases h0 : s.size = 0
  ·rw [decide_eq_true h0] at hnil
   refine sound (d := 2) tok2 mixed2 Tryz.func31 (by kernel_rfl) (by kernel_rfl) ?_
   (conv=>whnf); refine ifB_intro (fun w1=>?_) (fun w1=>?_)
   ·(conv=>whnf); refine ⟨?_,nofun⟩
    (first | omega | contradiction | exact hn)
   ·exact absurd (hnil.symm.trans w1) nofun
  ·rw [decide_eq_false h0] at hnil
   have hne := col_no hc (by omega)
   refine sound (d := 2) tok2 mixed2 Tryz.func31 (by kernel_rfl) (by kernel_rfl) ?_
   (conv=>whnf); refine ifB_intro (fun w1=>?_) (fun w1=>?_)
   ·exact absurd (hnil.symm.trans w1) nofun
   ·(conv=>whnf); refine ⟨⟨(by omega),(by omega)⟩,?_⟩
    (conv=>whnf); refine ifB_bne (fun w2=>?_) (fun w2=>?_)
    ·(conv=>whnf); refine ⟨?_,nofun⟩
     (first | omega | contradiction | exact hn)
    ·(exfalso; omega)
 | true =>
  obtain ⟨h0,h58⟩ := col_at hc
  rw [decide_eq_false (by omega : ¬ s.size = 0)] at hnil
  have ht : tailB s = s.extract 1 s.size := by rw [tailB,hc]; rfl
  rw [ht] at h29
  by_cases h3 : (wdsP s).length = 3
  ·refine sound (d := 2) tok2 mixed2 Tryz.func31 (by kernel_rfl) (by kernel_rfl) ?_
   (conv=>whnf); refine ifB_intro (fun w1=>?_) (fun w1=>?_)
   ·exact absurd (hnil.symm.trans w1) nofun
   ·(conv=>whnf); refine ⟨⟨(by omega),(by omega)⟩,?_⟩
    (conv=>whnf); refine ifB_bne (fun w2=>?_) (fun w2=>?_)
    ·(exfalso; omega)
    ·(conv=>whnf); refine ⟨⟨(by omega),⟨(by omega),(by omega)⟩⟩,?_⟩
     (conv=>whnf); refine .inl ⟨_,_,byX rfl (h29),?_⟩
     (conv=>whnf); refine ifB_bne (fun w3=>?_) (fun w3=>?_)
     ·(exfalso; omega)
     ·(conv=>whnf); refine ⟨[],[2,4,5,6],fun st mq=>∃ (k : Nat) (a : Int) (b : Int) (c : Int),(k ≤ 3) ∧ (1 ≤ k → a = wv s 0) ∧ (2 ≤ k → b = wv s 1) ∧ (3 ≤ k → c = wv s 2) ∧ (∀ j,j < k → numO ((wdsP s).getD j ByteArray.empty) true = true) ∧ st = ⟨[(2,.optr 0 0 0 0),(4,strsA (wdsP s)),(5,.optr 1 0 0 0),(6,i64 k)],⟨[⟨3,1,fun _=>[i64 0,i64 0,i64 0],0,false,true,true⟩,⟨3,1,fun _=>[i64 a,i64 b,i64 c],0,false,true,true⟩],[],none,0⟩,[]⟩ ∧ mq = 3 - k,
       ⟨_,_,⟨0,0,0,0,by omega,(fun h=>by omega),(fun h=>by omega),(fun h=>by omega),(fun j h=>by omega),rfl,rfl⟩,⟨⟨.inl rfl,rfl,rfl,rfl⟩,⟨⟨rfl,rfl,rfl,rfl,fun _=>rfl,fun _ _=>.inl rfl⟩,⟨⟨rfl,rfl,rfl,rfl,fun _=>rfl,fun _ _=>.inl rfl⟩,trivial⟩⟩,trivial⟩⟩,?_⟩
      rintro s0 m0 ⟨k,a,b,c,hk,i0,i1,i2,ho,rfl,hmeas⟩
      have hcase : k = 0 ∨ k = 1 ∨ k = 2 ∨ k = 3 := by omega
      rcases hcase with rfl | rfl | rfl | rfl
      ·have h30 := h30 0
       cases hn : numO ((wdsP s).getD 0 ByteArray.empty) true with
       | false =>
        have hf := fin_pt (prsO_no (by omega) hn)
        rw [hn] at h30
        conv=>whnf
        (conv=>whnf); refine ⟨⟨(by omega),(by omega)⟩,?_⟩
        conv=>whnf
        (conv=>whnf); refine .inl ⟨_,_,byX rfl (Sound1.pl (h30) rfl),?_⟩
        conv=>whnf
        (conv=>whnf); refine ⟨?_,nofun⟩
        (first | omega | exact hf)
       | true =>
        rw [hn] at h30
        conv=>whnf
        (conv=>whnf); refine ⟨⟨(by omega),(by omega)⟩,?_⟩
        conv=>whnf
        (conv=>whnf); refine .inl ⟨_,_,byX rfl (Sound1.pl (h30) rfl),?_⟩
        conv=>whnf
        (conv=>whnf); refine ⟨⟨(by omega),(by omega)⟩,?_⟩
        conv=>whnf
        (conv=>whnf); refine ⟨inK64 (by omega) (by omega),?_⟩
        conv=>whnf
        (conv=>whnf); refine ⟨_,_,⟨⟨1,(wv s 0),b,c,by omega,(fun h=>rfl),(fun h=>by omega),(fun h=>by omega),(fun j h=>by by_cases e : j = 0; (rw [e]; exact hn); exact ho j (by omega)),rfl,rfl⟩,by omega⟩,⟨⟨.inl rfl,rfl,rfl,rfl⟩,⟨⟨rfl,rfl,rfl,rfl,fun _=>rfl,fun _ _=>.inl rfl⟩,⟨⟨rfl,rfl,rfl,rfl,fun _=>rfl,fun _ _=>.inl rfl⟩,trivial⟩⟩,trivial⟩⟩
      ·have h30 := h30 1
       cases hn : numO ((wdsP s).getD 1 ByteArray.empty) true with
       | false =>
        have hf := fin_pt (prsO_no (by omega) hn)
        rw [hn] at h30
        conv=>whnf
        (conv=>whnf); refine ⟨⟨(by omega),(by omega)⟩,?_⟩
        conv=>whnf
        (conv=>whnf); refine .inl ⟨_,_,byX rfl (Sound1.pl (h30) rfl),?_⟩
        conv=>whnf
        (conv=>whnf); refine ⟨?_,nofun⟩
        (first | omega | exact hf)
       | true =>
        rw [hn] at h30
        conv=>whnf
        (conv=>whnf); refine ⟨⟨(by omega),(by omega)⟩,?_⟩
        conv=>whnf
        (conv=>whnf); refine .inl ⟨_,_,byX rfl (Sound1.pl (h30) rfl),?_⟩
        conv=>whnf
        (conv=>whnf); refine ⟨⟨(by omega),(by omega)⟩,?_⟩
        conv=>whnf
        (conv=>whnf); refine ⟨inK64 (by omega) (by omega),?_⟩
        conv=>whnf
        (conv=>whnf); refine ⟨_,_,⟨⟨2,a,(wv s 1),c,by omega,(fun h=>i0 (by omega)),(fun h=>rfl),(fun h=>by omega),(fun j h=>by by_cases e : j = 1; (rw [e]; exact hn); exact ho j (by omega)),rfl,rfl⟩,by omega⟩,⟨⟨.inl rfl,rfl,rfl,rfl⟩,⟨⟨rfl,rfl,rfl,rfl,fun _=>rfl,fun _ _=>.inl rfl⟩,⟨⟨rfl,rfl,rfl,rfl,fun _=>rfl,fun _ _=>.inl rfl⟩,trivial⟩⟩,trivial⟩⟩
      ·have h30 := h30 2
       cases hn : numO ((wdsP s).getD 2 ByteArray.empty) true with
       | false =>
        have hf := fin_pt (prsO_no (by omega) hn)
        rw [hn] at h30
        conv=>whnf
        (conv=>whnf); refine ⟨⟨(by omega),(by omega)⟩,?_⟩
        conv=>whnf
        (conv=>whnf); refine .inl ⟨_,_,byX rfl (Sound1.pl (h30) rfl),?_⟩
        conv=>whnf
        (conv=>whnf); refine ⟨?_,nofun⟩
        (first | omega | exact hf)
       | true =>
        rw [hn] at h30
        conv=>whnf
        (conv=>whnf); refine ⟨⟨(by omega),(by omega)⟩,?_⟩
        conv=>whnf
        (conv=>whnf); refine .inl ⟨_,_,byX rfl (Sound1.pl (h30) rfl),?_⟩
        conv=>whnf
        (conv=>whnf); refine ⟨⟨(by omega),(by omega)⟩,?_⟩
        conv=>whnf
        (conv=>whnf); refine ⟨inK64 (by omega) (by omega),?_⟩
        conv=>whnf
        (conv=>whnf); refine ⟨_,_,⟨⟨3,a,b,(wv s 2),by omega,(fun h=>i0 (by omega)),(fun h=>i1 (by omega)),(fun h=>rfl),(fun j h=>by by_cases e : j = 2; (rw [e]; exact hn); exact ho j (by omega)),rfl,rfl⟩,by omega⟩,⟨⟨.inl rfl,rfl,rfl,rfl⟩,⟨⟨rfl,rfl,rfl,rfl,fun _=>rfl,fun _ _=>.inl rfl⟩,⟨⟨rfl,rfl,rfl,rfl,fun _=>rfl,fun _ _=>.inl rfl⟩,trivial⟩⟩,trivial⟩⟩
      ·have hf := fin_pt1 (prsO_yes hc h3 ho)
       obtain rfl := i0 (by omega)
       obtain rfl := i1 (by omega)
       obtain rfl := i2 (by omega)
       conv=>whnf
       (conv=>whnf); refine ⟨⟨(by omega),(by omega)⟩,?_⟩
       conv=>whnf
       (conv=>whnf); refine ⟨⟨(by omega),(by omega)⟩,?_⟩
       conv=>whnf
       (conv=>whnf); refine ⟨⟨(by omega),(by omega)⟩,?_⟩
       conv=>whnf
       (conv=>whnf); refine ⟨?_,nofun⟩
       (first | omega | exact hf)
  ·have hn := fin_pt (s := s) (by unfold prsO; rw [hc,decide_eq_false h3]; rfl)
   refine sound (d := 2) tok2 mixed2 Tryz.func31 (by kernel_rfl) (by kernel_rfl) ?_
   (conv=>whnf); refine ifB_intro (fun w1=>?_) (fun w1=>?_)
   ·exact absurd (hnil.symm.trans w1) nofun
   ·(conv=>whnf); refine ⟨⟨(by omega),(by omega)⟩,?_⟩
    (conv=>whnf); refine ifB_bne (fun w2=>?_) (fun w2=>?_)
    ·(exfalso; omega)
    ·(conv=>whnf); refine ⟨⟨(by omega),⟨(by omega),(by omega)⟩⟩,?_⟩
     (conv=>whnf); refine .inl ⟨_,_,byX rfl (h29),?_⟩
     (conv=>whnf); refine ifB_bne (fun w3=>?_) (fun w3=>?_)
     ·(conv=>whnf); refine ⟨?_,nofun⟩
      (first | omega | contradiction | exact hn)
     ·(exfalso; omega)
end Go.Tr
