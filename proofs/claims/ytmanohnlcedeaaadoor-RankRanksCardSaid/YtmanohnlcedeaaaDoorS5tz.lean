import Derived.Test.YtmanohnlcedeaaaDoorAb19
import Derived.Test.YtmanohnlcedeaaaDoorProg
import Derived.KernelRfl
import Derived.Shelf.Spec.TrailingZeros
set_option linter.unusedVariables false
set_option linter.unusedSimpArgs false
namespace Go.Ab.S5
open Go.Proofs Go.Shelf
noncomputable def rhoTz:Ren:=⟨fun n=>match n with | 29=>25 | n=>n, fun n=>match n with | 0=>0 | 3=>3 | 4=>4 | 5=>5 | 22=>26 | 25=>33 | 54=>67 | n=>n, fun n=>match n with | 1=>0 | n=>n⟩
theorem laysTz:Lays7.n29 Tryd.prog rhoTz:={ mixed:=by kernel_rfl, f29:=Tryd.func25.trans (congrArg some (by kernel_rfl)), g1:=by kernel_rfl, t0:=Tryd.underlying0, a0:=Tryd.isAgg0, z0:=Tryd.sizeOf0, v0:=Tryd.zeroValue0, i0:=by kernel_rfl, t3:=Tryd.underlying3, a3:=Tryd.isAgg3, z3:=Tryd.sizeOf3, v3:=Tryd.zeroValue3, i3:=by kernel_rfl, t4:=Tryd.underlying4, a4:=Tryd.isAgg4, z4:=Tryd.sizeOf4, v4:=Tryd.zeroValue4, i4:=by kernel_rfl, t5:=Tryd.underlying5, a5:=Tryd.isAgg5, z5:=Tryd.sizeOf5, v5:=Tryd.zeroValue5, i5:=by kernel_rfl, t22:=Tryd.underlying26, a22:=Tryd.isAgg26, z22:=Tryd.sizeOf26, v22:=Tryd.zeroValue26, i22:=by kernel_rfl, t25:=Tryd.underlying33, a25:=Tryd.isAgg33, z25:=Tryd.sizeOf33, v25:=Tryd.zeroValue33, i25:=by kernel_rfl, t54:=Tryd.underlying67, a54:=Tryd.isAgg67, z54:=Tryd.sizeOf67 }
end Go.Ab.S5
