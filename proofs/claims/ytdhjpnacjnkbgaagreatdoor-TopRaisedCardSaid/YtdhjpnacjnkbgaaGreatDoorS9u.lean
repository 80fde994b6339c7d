import Derived.Test.YtdhjpnacjnkbgaaGreatDoorAb15
import Derived.Test.YtdhjpnacjnkbgaaGreatDoorS9t
set_option linter.unusedVariables false
set_option linter.unusedSimpArgs false
set_option linter.unusedSectionVars false
namespace Go.Ab.S9
open Go.Proofs
theorem wide_ok:Tryz.prog.follows .mixedOrders = true:=by kernel_rfl
theorem ti1:TIOk Tryz.prog 1 r1:=
 TIOk.of 407 Tryz.underlying1 Tryz.type1 rfl rfl rfl rfl rfl rfl rfl rfl rfl Tryz.types_size rfl (nofun)
theorem ti2:TIOk Tryz.prog 2 r2:=
 TIOk.of 407 Tryz.underlying2 Tryz.type2 rfl rfl rfl rfl rfl rfl rfl rfl rfl Tryz.types_size rfl (nofun)
theorem ti3:TIOk Tryz.prog 3 r3:=
 TIOk.of 407 Tryz.underlying3 Tryz.type3 rfl rfl rfl rfl rfl rfl rfl rfl rfl Tryz.types_size rfl (nofun)
theorem ti4:TIOk Tryz.prog 4 r4:=
 TIOk.of 407 Tryz.underlying4 Tryz.type4 rfl rfl rfl rfl rfl rfl rfl rfl rfl Tryz.types_size rfl (nofun)
theorem ti5:TIOk Tryz.prog 5 r5:=
 TIOk.of 407 Tryz.underlying5 Tryz.type5 rfl rfl rfl rfl rfl rfl rfl rfl rfl Tryz.types_size rfl (nofun)
theorem ti6:TIOk Tryz.prog 6 r6:=
 TIOk.of 407 Tryz.underlying6 Tryz.type6 rfl rfl rfl rfl rfl rfl rfl rfl rfl Tryz.types_size rfl (nofun)
theorem ti7:TIOk Tryz.prog 7 r7:=
 TIOk.of 407 Tryz.underlying7 Tryz.type7 rfl rfl rfl rfl rfl rfl rfl rfl trivial Tryz.types_size rfl (fun _=>js Tryz.underlying7 Tryz.stoodInHeld7 Tryz.eqGuardType7 ⟨by decide, rfl, Tryz.underlying2, ⟨by decide, rfl, Tryz.underlying3, ⟨by decide, rfl, Tryz.underlying4, ⟨by decide, rfl, Tryz.underlying6, trivial⟩⟩⟩⟩)
theorem ti8:TIOk Tryz.prog 8 r8:=
 TIOk.of 407 Tryz.underlying8 Tryz.type8 rfl rfl rfl rfl rfl rfl rfl rfl trivial Tryz.types_size rfl (fun _=>js Tryz.underlying8 Tryz.stoodInHeld8 Tryz.eqGuardType8 ⟨by decide, rfl, Tryz.underlying2, ⟨by decide, rfl, Tryz.underlying3, ⟨by decide, rfl, Tryz.underlying4, ⟨by decide, rfl, Tryz.underlying6, trivial⟩⟩⟩⟩)
theorem ti9:TIOk Tryz.prog 9 r9:=
 TIOk.of 407 Tryz.underlying9 Tryz.type9 rfl rfl rfl rfl rfl rfl rfl rfl rfl Tryz.types_size rfl (nofun)
theorem ti17:TIOk Tryz.prog 17 r17:=
 TIOk.of 407 Tryz.underlying17 Tryz.type17 rfl rfl rfl rfl rfl rfl rfl rfl rfl Tryz.types_size rfl (nofun)
theorem ti20:TIOk Tryz.prog 20 r20:=
 TIOk.of 407 Tryz.underlying20 Tryz.type20 rfl rfl rfl rfl rfl rfl rfl rfl rfl Tryz.types_size rfl (nofun)
theorem ti21:TIOk Tryz.prog 21 r21:=
 TIOk.of 407 Tryz.underlying21 Tryz.type21 rfl rfl rfl rfl rfl rfl rfl rfl rfl Tryz.types_size rfl (nofun)
theorem ti22:TIOk Tryz.prog 22 r22:=
 TIOk.of 407 Tryz.underlying22 Tryz.type22 rfl rfl rfl rfl rfl rfl rfl rfl rfl Tryz.types_size rfl (nofun)
theorem ti23:TIOk Tryz.prog 23 r23:=
 TIOk.of 407 Tryz.underlying23 Tryz.type23 rfl rfl rfl rfl rfl rfl rfl rfl rfl Tryz.types_size rfl (nofun)
theorem ti25:TIOk Tryz.prog 25 r25:=
 TIOk.of 407 Tryz.underlying25 Tryz.type25 rfl rfl rfl rfl rfl rfl rfl rfl trivial Tryz.types_size rfl (nofun)
theorem ti28:TIOk Tryz.prog 28 r28:=
 TIOk.of 407 Tryz.underlying28 Tryz.type28 rfl rfl rfl rfl rfl rfl rfl rfl trivial Tryz.types_size rfl (nofun)
theorem ti30:TIOk Tryz.prog 30 r30:=
 TIOk.of 407 Tryz.underlying30 Tryz.type30 rfl rfl rfl rfl rfl rfl rfl rfl trivial Tryz.types_size rfl (nofun)
theorem ti34:TIOk Tryz.prog 34 r34:=
 TIOk.of 407 Tryz.underlying34 Tryz.type34 rfl rfl rfl rfl rfl rfl rfl rfl rfl Tryz.types_size rfl (nofun)
theorem ti36:TIOk Tryz.prog 36 r36:=
 TIOk.of 407 Tryz.underlying36 Tryz.type36 rfl rfl rfl rfl rfl rfl rfl rfl trivial Tryz.types_size rfl (fun _=>zdd (n:=4) (s:=.int .u64) Tryz.underlying36 Tryz.eqGuardType36 (show Tryz.prog.info? 34 = some Tryz.t34 by kernel_rfl) (by kernel_rfl) Tryz.underlying34 (fun ⟨_, h⟩=>by cases h))
theorem ti40:TIOk Tryz.prog 40 r40:=
 TIOk.of 407 Tryz.underlying40 Tryz.type40 rfl rfl rfl rfl rfl rfl rfl rfl rfl Tryz.types_size rfl (nofun)
theorem ti41:TIOk Tryz.prog 41 r41:=
 TIOk.of 407 Tryz.underlying41 Tryz.type41 rfl rfl rfl rfl rfl rfl rfl rfl rfl Tryz.types_size rfl (nofun)
theorem ti42:TIOk Tryz.prog 42 r42:=
 TIOk.of 407 Tryz.underlying42 Tryz.type42 rfl rfl rfl rfl rfl rfl rfl rfl rfl Tryz.types_size rfl (nofun)
theorem ti44:TIOk Tryz.prog 44 r44:=
 TIOk.of 407 Tryz.underlying44 Tryz.type44 rfl rfl rfl rfl rfl rfl rfl rfl trivial Tryz.types_size rfl (nofun)
theorem ti50:TIOk Tryz.prog 50 r50:=
 TIOk.of 407 Tryz.underlying50 Tryz.type50 rfl rfl rfl rfl rfl rfl rfl rfl rfl Tryz.types_size rfl (nofun)
theorem ti51:TIOk Tryz.prog 51 r51:=
 TIOk.of 407 Tryz.underlying51 Tryz.type51 rfl rfl rfl rfl rfl rfl rfl rfl rfl Tryz.types_size rfl (nofun)
theorem ti53:TIOk Tryz.prog 53 r53:=
 TIOk.of 407 Tryz.underlying53 Tryz.type53 rfl rfl rfl rfl rfl rfl rfl rfl rfl Tryz.types_size rfl (nofun)
theorem ti55:TIOk Tryz.prog 55 r55:=
 TIOk.of 407 Tryz.underlying55 Tryz.type55 rfl rfl rfl rfl rfl rfl rfl rfl rfl Tryz.types_size rfl (nofun)
theorem ti58:TIOk Tryz.prog 58 r58:=
 TIOk.of 407 Tryz.underlying58 Tryz.type58 rfl rfl rfl rfl rfl rfl rfl rfl rfl Tryz.types_size rfl (nofun)
theorem ti60:TIOk Tryz.prog 60 r60:=
 TIOk.of 407 Tryz.underlying60 Tryz.type60 rfl rfl rfl rfl rfl rfl rfl rfl trivial Tryz.types_size rfl (nofun)
theorem ti61:TIOk Tryz.prog 61 r61:=
 TIOk.of 407 Tryz.underlying61 Tryz.type61 rfl rfl rfl rfl rfl rfl rfl rfl rfl Tryz.types_size rfl (nofun)
theorem ti73:TIOk Tryz.prog 73 r73:=
 TIOk.of 407 Tryz.underlying73 Tryz.type73 rfl rfl rfl rfl rfl rfl rfl rfl rfl Tryz.types_size rfl (nofun)
theorem ti74:TIOk Tryz.prog 74 r74:=
 TIOk.of 407 Tryz.underlying74 Tryz.type74 rfl rfl rfl rfl rfl rfl rfl rfl rfl Tryz.types_size rfl (nofun)
theorem ti77:TIOk Tryz.prog 77 r77:=
 TIOk.of 407 Tryz.underlying77 Tryz.type77 rfl rfl rfl rfl rfl rfl rfl rfl rfl Tryz.types_size rfl (nofun)
theorem ti80:TIOk Tryz.prog 80 r80:=
 TIOk.of 407 Tryz.underlying80 Tryz.type80 rfl rfl rfl rfl rfl rfl rfl rfl trivial Tryz.types_size rfl (fun _=>js Tryz.underlying80 Tryz.stoodInHeld80 Tryz.eqGuardType80 ⟨by decide, rfl, Tryz.underlying61, ⟨by decide, rfl, Tryz.underlying3, ⟨by decide, rfl, Tryz.underlying3, trivial⟩⟩⟩)
theorem ti85:TIOk Tryz.prog 85 r85:=
 TIOk.of 407 Tryz.underlying85 Tryz.type85 rfl rfl rfl rfl rfl rfl rfl rfl rfl Tryz.types_size rfl (nofun)
theorem ti88:TIOk Tryz.prog 88 r88:=
 TIOk.of 407 Tryz.underlying88 Tryz.type88 rfl rfl rfl rfl rfl rfl rfl rfl rfl Tryz.types_size rfl (nofun)
theorem ti90:TIOk Tryz.prog 90 r90:=
 TIOk.of 407 Tryz.underlying90 Tryz.type90 rfl rfl rfl rfl rfl rfl rfl rfl rfl Tryz.types_size rfl (nofun)
theorem ti93:TIOk Tryz.prog 93 r93:=
 TIOk.of 407 Tryz.underlying93 Tryz.type93 rfl rfl rfl rfl rfl rfl rfl rfl trivial Tryz.types_size rfl (fun _=>js Tryz.underlying93 Tryz.stoodInHeld93 Tryz.eqGuardType93 ⟨by decide, rfl, Tryz.underlying3, ⟨by decide, rfl, Tryz.underlying3, trivial⟩⟩)
theorem ti98:TIOk Tryz.prog 98 r98:=
 TIOk.of 407 Tryz.underlying98 Tryz.type98 rfl rfl rfl rfl rfl rfl rfl rfl rfl Tryz.types_size rfl (nofun)
theorem ti99:TIOk Tryz.prog 99 r99:=
 TIOk.of 407 Tryz.underlying99 Tryz.type99 rfl rfl rfl rfl rfl rfl rfl rfl rfl Tryz.types_size rfl (nofun)
theorem ti101:TIOk Tryz.prog 101 r101:=
 TIOk.of 407 Tryz.underlying101 Tryz.type101 rfl rfl rfl rfl rfl rfl rfl rfl trivial Tryz.types_size rfl (nofun)
theorem ti108:TIOk Tryz.prog 108 r108:=
 TIOk.of 407 Tryz.underlying108 Tryz.type108 rfl rfl rfl rfl rfl rfl rfl rfl rfl Tryz.types_size rfl (nofun)
theorem ti114:TIOk Tryz.prog 114 r114:=
 TIOk.of 407 Tryz.underlying114 Tryz.type114 rfl rfl rfl rfl rfl rfl rfl rfl rfl Tryz.types_size rfl (nofun)
theorem ti116:TIOk Tryz.prog 116 r116:=
 TIOk.of 407 Tryz.underlying116 Tryz.type116 rfl rfl rfl rfl rfl rfl rfl rfl trivial Tryz.types_size rfl (fun _=>js Tryz.underlying116 Tryz.stoodInHeld116 Tryz.eqGuardType116 ⟨by decide, rfl, Tryz.underlying3, ⟨by decide, rfl, Tryz.underlying3, ⟨by decide, rfl, Tryz.underlying3, ⟨by decide, rfl, Tryz.underlying9, ⟨by decide, rfl, Tryz.underlying3, trivial⟩⟩⟩⟩⟩)
theorem ti118:TIOk Tryz.prog 118 r118:=
 TIOk.of 407 Tryz.underlying118 Tryz.type118 rfl rfl rfl rfl rfl rfl rfl rfl trivial Tryz.types_size rfl (fun _=>js Tryz.underlying118 Tryz.stoodInHeld118 Tryz.eqGuardType118 ⟨by decide, rfl, Tryz.underlying3, ⟨by decide, rfl, Tryz.underlying3, ⟨by decide, rfl, Tryz.underlying61, trivial⟩⟩⟩)
theorem ti121:TIOk Tryz.prog 121 r121:=
 TIOk.of 407 Tryz.underlying121 Tryz.type121 rfl rfl rfl rfl rfl rfl rfl rfl trivial Tryz.types_size rfl (nofun)
theorem ti138:TIOk Tryz.prog 138 r138:=
 TIOk.of 407 Tryz.underlying138 Tryz.type138 rfl rfl rfl rfl rfl rfl rfl rfl trivial Tryz.types_size rfl (fun _=>zdd (n:=4) (s:=.int .i64) Tryz.underlying138 Tryz.eqGuardType138 (show Tryz.prog.info? 3 = some Tryz.t3 by kernel_rfl) (by kernel_rfl) Tryz.underlying3 (fun ⟨_, h⟩=>by cases h))
theorem ti141:TIOk Tryz.prog 141 r141:=
 TIOk.of 407 Tryz.underlying141 Tryz.type141 rfl rfl rfl rfl rfl rfl rfl rfl trivial Tryz.types_size rfl (nofun)
theorem ti145:TIOk Tryz.prog 145 r145:=
 TIOk.of 407 Tryz.underlying145 Tryz.type145 rfl rfl rfl rfl rfl rfl rfl rfl rfl Tryz.types_size rfl (nofun)
theorem ti147:TIOk Tryz.prog 147 r147:=
 TIOk.of 407 Tryz.underlying147 Tryz.type147 rfl rfl rfl rfl rfl rfl rfl rfl trivial Tryz.types_size rfl (nofun)
theorem ti149:TIOk Tryz.prog 149 r149:=
 TIOk.of 407 Tryz.underlying149 Tryz.type149 rfl rfl rfl rfl rfl rfl rfl rfl trivial Tryz.types_size rfl (nofun)
theorem ti153:TIOk Tryz.prog 153 r153:=
 TIOk.of 407 Tryz.underlying153 Tryz.type153 rfl rfl rfl rfl rfl rfl rfl rfl rfl Tryz.types_size rfl (nofun)
theorem ti156:TIOk Tryz.prog 156 r156:=
 TIOk.of 407 Tryz.underlying156 Tryz.type156 rfl rfl rfl rfl rfl rfl rfl rfl rfl Tryz.types_size rfl (nofun)
theorem ti157:TIOk Tryz.prog 157 r157:=
 TIOk.of 407 Tryz.underlying157 Tryz.type157 rfl rfl rfl rfl rfl rfl rfl rfl rfl Tryz.types_size rfl (nofun)
theorem ti158:TIOk Tryz.prog 158 r158:=
 TIOk.of 407 Tryz.underlying158 Tryz.type158 rfl rfl rfl rfl rfl rfl rfl rfl rfl Tryz.types_size rfl (nofun)
theorem ti159:TIOk Tryz.prog 159 r159:=
 TIOk.of 407 Tryz.underlying159 Tryz.type159 rfl rfl rfl rfl rfl rfl rfl rfl rfl Tryz.types_size rfl (nofun)
theorem ti161:TIOk Tryz.prog 161 r161:=
 TIOk.of 407 Tryz.underlying161 Tryz.type161 rfl rfl rfl rfl rfl rfl rfl rfl trivial Tryz.types_size rfl (nofun)
theorem ti163:TIOk Tryz.prog 163 r163:=
 TIOk.of 407 Tryz.underlying163 Tryz.type163 rfl rfl rfl rfl rfl rfl rfl rfl trivial Tryz.types_size rfl (fun _=>js Tryz.underlying163 Tryz.stoodInHeld163 Tryz.eqGuardType163 ⟨by decide, rfl, Tryz.underlying3, ⟨by decide, rfl, Tryz.underlying3, ⟨by decide, rfl, Tryz.underlying9, ⟨by decide, rfl, Tryz.underlying3, trivial⟩⟩⟩⟩)
theorem ti168:TIOk Tryz.prog 168 r168:=
 TIOk.of 407 Tryz.underlying168 Tryz.type168 rfl rfl rfl rfl rfl rfl rfl rfl rfl Tryz.types_size rfl (nofun)
theorem ti172:TIOk Tryz.prog 172 r172:=
 TIOk.of 407 Tryz.underlying172 Tryz.type172 rfl rfl rfl rfl rfl rfl rfl rfl trivial Tryz.types_size rfl (nofun)
theorem ti174:TIOk Tryz.prog 174 r174:=
 TIOk.of 407 Tryz.underlying174 Tryz.type174 rfl rfl rfl rfl rfl rfl rfl rfl rfl Tryz.types_size rfl (nofun)
theorem ti175:TIOk Tryz.prog 175 r175:=
 TIOk.of 407 Tryz.underlying175 Tryz.type175 rfl rfl rfl rfl rfl rfl rfl rfl rfl Tryz.types_size rfl (nofun)
theorem ti177:TIOk Tryz.prog 177 r177:=
 TIOk.of 407 Tryz.underlying177 Tryz.type177 rfl rfl rfl rfl rfl rfl rfl rfl trivial Tryz.types_size rfl (nofun)
theorem ti179:TIOk Tryz.prog 179 r179:=
 TIOk.of 407 Tryz.underlying179 Tryz.type179 rfl rfl rfl rfl rfl rfl rfl rfl trivial Tryz.types_size rfl (nofun)
theorem ti181:TIOk Tryz.prog 181 r181:=
 TIOk.of 407 Tryz.underlying181 Tryz.type181 rfl rfl rfl rfl rfl rfl rfl rfl trivial Tryz.types_size rfl (fun _=>js Tryz.underlying181 Tryz.stoodInHeld181 Tryz.eqGuardType181 ⟨by decide, rfl, Tryz.underlying3, ⟨by decide, rfl, Tryz.underlying3, ⟨by decide, rfl, Tryz.underlying3, trivial⟩⟩⟩)
theorem ti183:TIOk Tryz.prog 183 r183:=
 TIOk.of 407 Tryz.underlying183 Tryz.type183 rfl rfl rfl rfl rfl rfl rfl rfl trivial Tryz.types_size rfl (fun _=>js Tryz.underlying183 Tryz.stoodInHeld183 Tryz.eqGuardType183 ⟨by decide, rfl, Tryz.underlying3, ⟨by decide, rfl, Tryz.underlying9, trivial⟩⟩)
theorem ti188:TIOk Tryz.prog 188 r188:=
 TIOk.of 407 Tryz.underlying188 Tryz.type188 rfl rfl rfl rfl rfl rfl rfl rfl rfl Tryz.types_size rfl (nofun)
theorem ti190:TIOk Tryz.prog 190 r190:=
 TIOk.of 407 Tryz.underlying190 Tryz.type190 rfl rfl rfl rfl rfl rfl rfl rfl trivial Tryz.types_size rfl (fun _=>js Tryz.underlying190 Tryz.stoodInHeld190 Tryz.eqGuardType190 ⟨by decide, rfl, Tryz.underlying3, ⟨by decide, rfl, Tryz.underlying61, trivial⟩⟩)
theorem ti192:TIOk Tryz.prog 192 r192:=
 TIOk.of 407 Tryz.underlying192 Tryz.type192 rfl rfl rfl rfl rfl rfl rfl rfl trivial Tryz.types_size rfl (nofun)
theorem ti193:TIOk Tryz.prog 193 r193:=
 TIOk.of 407 Tryz.underlying193 Tryz.type193 rfl rfl rfl rfl rfl rfl rfl rfl rfl Tryz.types_size rfl (nofun)
theorem ti195:TIOk Tryz.prog 195 r195:=
 TIOk.of 407 Tryz.underlying195 Tryz.type195 rfl rfl rfl rfl rfl rfl rfl rfl rfl Tryz.types_size rfl (nofun)
theorem ti197:TIOk Tryz.prog 197 r197:=
 TIOk.of 407 Tryz.underlying197 Tryz.type197 rfl rfl rfl rfl rfl rfl rfl rfl trivial Tryz.types_size rfl (nofun)
theorem ti199:TIOk Tryz.prog 199 r199:=
 TIOk.of 407 Tryz.underlying199 Tryz.type199 rfl rfl rfl rfl rfl rfl rfl rfl rfl Tryz.types_size rfl (nofun)
theorem ti201:TIOk Tryz.prog 201 r201:=
 TIOk.of 407 Tryz.underlying201 Tryz.type201 rfl rfl rfl rfl rfl rfl rfl rfl rfl Tryz.types_size rfl (nofun)
theorem ti203:TIOk Tryz.prog 203 r203:=
 TIOk.of 407 Tryz.underlying203 Tryz.type203 rfl rfl rfl rfl rfl rfl rfl rfl trivial Tryz.types_size rfl (nofun)
theorem ti204:TIOk Tryz.prog 204 r204:=
 TIOk.of 407 Tryz.underlying204 Tryz.type204 rfl rfl rfl rfl rfl rfl rfl rfl rfl Tryz.types_size rfl (nofun)
theorem ti206:TIOk Tryz.prog 206 r206:=
 TIOk.of 407 Tryz.underlying206 Tryz.type206 rfl rfl rfl rfl rfl rfl rfl rfl rfl Tryz.types_size rfl (nofun)
theorem ti207:TIOk Tryz.prog 207 r207:=
 TIOk.of 407 Tryz.underlying207 Tryz.type207 rfl rfl rfl rfl rfl rfl rfl rfl rfl Tryz.types_size rfl (nofun)
theorem ti210:TIOk Tryz.prog 210 r210:=
 TIOk.of 407 Tryz.underlying210 Tryz.type210 rfl rfl rfl rfl rfl rfl rfl rfl rfl Tryz.types_size rfl (nofun)
theorem ti212:TIOk Tryz.prog 212 r212:=
 TIOk.of 407 Tryz.underlying212 Tryz.type212 rfl rfl rfl rfl rfl rfl rfl rfl trivial Tryz.types_size rfl (nofun)
theorem ti215:TIOk Tryz.prog 215 r215:=
 TIOk.of 407 Tryz.underlying215 Tryz.type215 rfl rfl rfl rfl rfl rfl rfl rfl rfl Tryz.types_size rfl (nofun)
theorem ti216:TIOk Tryz.prog 216 r216:=
 TIOk.of 407 Tryz.underlying216 Tryz.type216 rfl rfl rfl rfl rfl rfl rfl rfl rfl Tryz.types_size rfl (nofun)
theorem ti217:TIOk Tryz.prog 217 r217:=
 TIOk.of 407 Tryz.underlying217 Tryz.type217 rfl rfl rfl rfl rfl rfl rfl rfl rfl Tryz.types_size rfl (nofun)
theorem ti219:TIOk Tryz.prog 219 r219:=
 TIOk.of 407 Tryz.underlying219 Tryz.type219 rfl rfl rfl rfl rfl rfl rfl rfl trivial Tryz.types_size rfl (nofun)
theorem ti222:TIOk Tryz.prog 222 r222:=
 TIOk.of 407 Tryz.underlying222 Tryz.type222 rfl rfl rfl rfl rfl rfl rfl rfl rfl Tryz.types_size rfl (nofun)
theorem ti225:TIOk Tryz.prog 225 r225:=
 TIOk.of 407 Tryz.underlying225 Tryz.type225 rfl rfl rfl rfl rfl rfl rfl rfl rfl Tryz.types_size rfl (nofun)
theorem ti227:TIOk Tryz.prog 227 r227:=
 TIOk.of 407 Tryz.underlying227 Tryz.type227 rfl rfl rfl rfl rfl rfl rfl rfl rfl Tryz.types_size rfl (nofun)
theorem ti235:TIOk Tryz.prog 235 r235:=
 TIOk.of 407 Tryz.underlying235 Tryz.type235 rfl rfl rfl rfl rfl rfl rfl rfl trivial Tryz.types_size rfl (fun _=>js Tryz.underlying235 Tryz.stoodInHeld235 Tryz.eqGuardType235 ⟨by decide, rfl, Tryz.underlying3, ⟨by decide, rfl, Tryz.underlying9, ⟨by decide, rfl, Tryz.underlying3, trivial⟩⟩⟩)
theorem ti238:TIOk Tryz.prog 238 r238:=
 TIOk.of 407 Tryz.underlying238 Tryz.type238 rfl rfl rfl rfl rfl rfl rfl rfl rfl Tryz.types_size rfl (nofun)
theorem ti242:TIOk Tryz.prog 242 r242:=
 TIOk.of 407 Tryz.underlying242 Tryz.type242 rfl rfl rfl rfl rfl rfl rfl rfl rfl Tryz.types_size rfl (nofun)
theorem ti244:TIOk Tryz.prog 244 r244:=
 TIOk.of 407 Tryz.underlying244 Tryz.type244 rfl rfl rfl rfl rfl rfl rfl rfl rfl Tryz.types_size rfl (nofun)
theorem ti252:TIOk Tryz.prog 252 r252:=
 TIOk.of 407 Tryz.underlying252 Tryz.type252 rfl rfl rfl rfl rfl rfl rfl rfl rfl Tryz.types_size rfl (nofun)
theorem ti255:TIOk Tryz.prog 255 r255:=
 TIOk.of 407 Tryz.underlying255 Tryz.type255 rfl rfl rfl rfl rfl rfl rfl rfl rfl Tryz.types_size rfl (nofun)
theorem ti260:TIOk Tryz.prog 260 r260:=
 TIOk.of 407 Tryz.underlying260 Tryz.type260 rfl rfl rfl rfl rfl rfl rfl rfl trivial Tryz.types_size rfl (fun _=>zdd (n:=64) (s:=.int .u8) Tryz.underlying260 Tryz.eqGuardType260 (show Tryz.prog.info? 5 = some Tryz.t5 by kernel_rfl) (by kernel_rfl) Tryz.underlying5 (fun ⟨_, h⟩=>by cases h))
theorem ti261:TIOk Tryz.prog 261 r261:=
 TIOk.of 407 Tryz.underlying261 Tryz.type261 rfl rfl rfl rfl rfl rfl rfl rfl rfl Tryz.types_size rfl (nofun)
theorem ti262:TIOk Tryz.prog 262 r262:=
 TIOk.of 407 Tryz.underlying262 Tryz.type262 rfl rfl rfl rfl rfl rfl rfl rfl rfl Tryz.types_size rfl (nofun)
theorem ti264:TIOk Tryz.prog 264 r264:=
 TIOk.of 407 Tryz.underlying264 Tryz.type264 rfl rfl rfl rfl rfl rfl rfl rfl trivial Tryz.types_size rfl (nofun)
theorem ti267:TIOk Tryz.prog 267 r267:=
 TIOk.of 407 Tryz.underlying267 Tryz.type267 rfl rfl rfl rfl rfl rfl rfl rfl rfl Tryz.types_size rfl (nofun)
theorem ti269:TIOk Tryz.prog 269 r269:=
 TIOk.of 407 Tryz.underlying269 Tryz.type269 rfl rfl rfl rfl rfl rfl rfl rfl rfl Tryz.types_size rfl (nofun)
theorem ti277:TIOk Tryz.prog 277 r277:=
 TIOk.of 407 Tryz.underlying277 Tryz.type277 rfl rfl rfl rfl rfl rfl rfl rfl rfl Tryz.types_size rfl (nofun)
theorem ti279:TIOk Tryz.prog 279 r279:=
 TIOk.of 407 Tryz.underlying279 Tryz.type279 rfl rfl rfl rfl rfl rfl rfl rfl trivial Tryz.types_size rfl (nofun)
theorem ti282:TIOk Tryz.prog 282 r282:=
 TIOk.of 407 Tryz.underlying282 Tryz.type282 rfl rfl rfl rfl rfl rfl rfl rfl rfl Tryz.types_size rfl (nofun)
theorem ti286:TIOk Tryz.prog 286 r286:=
 TIOk.of 407 Tryz.underlying286 Tryz.type286 rfl rfl rfl rfl rfl rfl rfl rfl rfl Tryz.types_size rfl (nofun)
theorem ti288:TIOk Tryz.prog 288 r288:=
 TIOk.of 407 Tryz.underlying288 Tryz.type288 rfl rfl rfl rfl rfl rfl rfl rfl trivial Tryz.types_size rfl (fun _=>js Tryz.underlying288 Tryz.stoodInHeld288 Tryz.eqGuardType288 ⟨by decide, rfl, Tryz.underlying3, ⟨by decide, rfl, Tryz.underlying3, trivial⟩⟩)
theorem ti303:TIOk Tryz.prog 303 r303:=
 TIOk.of 407 Tryz.underlying303 Tryz.type303 rfl rfl rfl rfl rfl rfl rfl rfl rfl Tryz.types_size rfl (nofun)
theorem ti311:TIOk Tryz.prog 311 r311:=
 TIOk.of 407 Tryz.underlying311 Tryz.type311 rfl rfl rfl rfl rfl rfl rfl rfl rfl Tryz.types_size rfl (nofun)
theorem ti314:TIOk Tryz.prog 314 r314:=
 TIOk.of 407 Tryz.underlying314 Tryz.type314 rfl rfl rfl rfl rfl rfl rfl rfl rfl Tryz.types_size rfl (nofun)
theorem ti316:TIOk Tryz.prog 316 r316:=
 TIOk.of 407 Tryz.underlying316 Tryz.type316 rfl rfl rfl rfl rfl rfl rfl rfl rfl Tryz.types_size rfl (nofun)
theorem ti317:TIOk Tryz.prog 317 r317:=
 TIOk.of 407 Tryz.underlying317 Tryz.type317 rfl rfl rfl rfl rfl rfl rfl rfl rfl Tryz.types_size rfl (nofun)
theorem ti321:TIOk Tryz.prog 321 r321:=
 TIOk.of 407 Tryz.underlying321 Tryz.type321 rfl rfl rfl rfl rfl rfl rfl rfl trivial Tryz.types_size rfl (fun _=>js Tryz.underlying321 Tryz.stoodInHeld321 Tryz.eqGuardType321 ⟨by decide, rfl, Tryz.underlying3, ⟨by decide, rfl, Tryz.underlying3, trivial⟩⟩)
theorem ti326:TIOk Tryz.prog 326 r326:=
 TIOk.of 407 Tryz.underlying326 Tryz.type326 rfl rfl rfl rfl rfl rfl rfl rfl rfl Tryz.types_size rfl (nofun)
theorem ti357:TIOk Tryz.prog 357 r357:=
 TIOk.of 407 Tryz.underlying357 Tryz.type357 rfl rfl rfl rfl rfl rfl rfl rfl rfl Tryz.types_size rfl (nofun)
theorem ti361:TIOk Tryz.prog 361 r361:=
 TIOk.of 407 Tryz.underlying361 Tryz.type361 rfl rfl rfl rfl rfl rfl rfl rfl rfl Tryz.types_size rfl (nofun)
theorem ti372:TIOk Tryz.prog 372 r372:=
 TIOk.of 407 Tryz.underlying372 Tryz.type372 rfl rfl rfl rfl rfl rfl rfl rfl rfl Tryz.types_size rfl (nofun)
theorem tab_ok:TabOk Tryz.prog T:=⟨fun t i h=>zlf (L:=tiL) ⟨ti1, ti2, ti3, ti4, ti5, ti6, ti7, ti8, ti9, ti17, ti20, ti21, ti22, ti23, ti25, ti28, ti30, ti34, ti36, ti40, ti41, ti42, ti44, ti50, ti51, ti53, ti55, ti58, ti60, ti61, ti73, ti74, ti77, ti80, ti85, ti88, ti90, ti93, ti98, ti99, ti101, ti108, ti114, ti116, ti118, ti121, ti138, ti141, ti145, ti147, ti149, ti153, ti156, ti157, ti158, ti159, ti161, ti163, ti168, ti172, ti174, ti175, ti177, ti179, ti181, ti183, ti188, ti190, ti192, ti193, ti195, ti197, ti199, ti201, ti203, ti204, ti206, ti207, ti210, ti212, ti215, ti216, ti217, ti219, ti222, ti225, ti227, ti235, ti238, ti242, ti244, ti252, ti255, ti260, ti261, ti262, ti264, ti267, ti269, ti277, ti279, ti282, ti286, ti288, ti303, ti311, ti314, ti316, ti317, ti321, ti326, ti357, ti361, ti372, trivial⟩ h⟩
end Go.Ab.S9
