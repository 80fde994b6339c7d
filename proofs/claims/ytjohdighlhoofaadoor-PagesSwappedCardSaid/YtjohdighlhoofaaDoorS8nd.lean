import Derived.Test.YtjohdighlhoofaaDoorAb14
import Derived.Recover
import Derived.Test.YtjohdighlhoofaaDoorProg
import Derived.KernelRfl
import Derived.Shelf.Strconv.Itoa1
set_option linter.unusedVariables false
set_option linter.unusedSimpArgs false
namespace Go.Ab.S8
open Go.Proofs Go.Shelf
noncomputable def rhoNd:Ren:=⟨fun n=>match n with | 129=>70 | 284=>64 | 317=>69 | 318=>71 | n=>n, fun n=>match n with | 0=>0 | 3=>3 | 4=>4 | 5=>5 | 9=>9 | 46=>124 | 53=>90 | 212=>120 | n=>n, fun n=>match n with | 17=>1 | n=>n⟩
theorem laysNd:LaysM.n284 Tryd.prog rhoNd:={ mixed:=by kernel_rfl, f129:=Tryd.func70.trans (congrArg some (by kernel_rfl)), f284:=Tryd.func64.trans (congrArg some (by kernel_rfl)), f317:=Tryd.func69.trans (congrArg some (by kernel_rfl)), f318:=Tryd.func71.trans (congrArg some (by kernel_rfl)), g17:=by kernel_rfl, m17:=by kernel_rfl, t0:=Tryd.underlying0, a0:=Tryd.isAgg0, z0:=Tryd.sizeOf0, v0:=Tryd.zeroValue0, i0:=by kernel_rfl, t3:=Tryd.underlying3, a3:=Tryd.isAgg3, z3:=Tryd.sizeOf3, v3:=Tryd.zeroValue3, i3:=by kernel_rfl, t4:=Tryd.underlying4, a4:=Tryd.isAgg4, z4:=Tryd.sizeOf4, v4:=Tryd.zeroValue4, i4:=by kernel_rfl, t5:=Tryd.underlying5, a5:=Tryd.isAgg5, z5:=Tryd.sizeOf5, v5:=Tryd.zeroValue5, i5:=by kernel_rfl, t9:=Tryd.underlying9, a9:=Tryd.isAgg9, z9:=Tryd.sizeOf9, v9:=Tryd.zeroValue9, i9:=by kernel_rfl, t46:=Tryd.underlying124, a46:=Tryd.isAgg124, z46:=Tryd.sizeOf124, v46:=Tryd.zeroValue124, i46:=by kernel_rfl, t53:=Tryd.underlying90, a53:=Tryd.isAgg90, z53:=Tryd.sizeOf90, v53:=Tryd.zeroValue90, i53:=by kernel_rfl, t212:=Tryd.underlying120, a212:=Tryd.isAgg120, z212:=Tryd.sizeOf120, v212:=Tryd.zeroValue120, i212:=by kernel_rfl }
end Go.Ab.S8
