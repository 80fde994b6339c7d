import Derived.Test.YtdhjpnacjnkbgaaGreatDoorAb19
import Derived.Test.YtdhjpnacjnkbgaaGreatDoorProg
import Derived.KernelRfl
import Derived.Shelf.Spec.TrailingZeros
set_option linter.unusedVariables false
set_option linter.unusedSimpArgs false
set_option linter.unusedSectionVars false
namespace Go.Ab.S9
open Go.Proofs Go.Shelf
noncomputable def rhoTz:Ren:=⟨fun n=>match n with | 29=>89 | n=>n, fun n=>match n with | 0=>0 | 3=>3 | 4=>4 | 5=>5 | 22=>34 | 25=>108 | 54=>260 | n=>n, fun n=>match n with | 1=>0 | n=>n⟩
theorem laysTz:Lays7.n29 Tryz.prog rhoTz:={ mixed:=by kernel_rfl, f29:=Tryz.func89.trans (congrArg some (by kernel_rfl)), g1:=by kernel_rfl, t0:=Tryz.underlying0, a0:=Tryz.isAgg0, z0:=Tryz.sizeOf0, v0:=Tryz.zeroValue0, i0:=by kernel_rfl, t3:=Tryz.underlying3, a3:=Tryz.isAgg3, z3:=Tryz.sizeOf3, v3:=Tryz.zeroValue3, i3:=by kernel_rfl, t4:=Tryz.underlying4, a4:=Tryz.isAgg4, z4:=Tryz.sizeOf4, v4:=Tryz.zeroValue4, i4:=by kernel_rfl, t5:=Tryz.underlying5, a5:=Tryz.isAgg5, z5:=Tryz.sizeOf5, v5:=Tryz.zeroValue5, i5:=by kernel_rfl, t22:=Tryz.underlying34, a22:=Tryz.isAgg34, z22:=Tryz.sizeOf34, v22:=Tryz.zeroValue34, i22:=by kernel_rfl, t25:=Tryz.underlying108, a25:=Tryz.isAgg108, z25:=Tryz.sizeOf108, v25:=Tryz.zeroValue108, i25:=by kernel_rfl, t54:=Tryz.underlying260, a54:=Tryz.isAgg260, z54:=Tryz.sizeOf260 }
end Go.Ab.S9
