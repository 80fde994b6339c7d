import Derived.Test.YtjohdighlhoofaaDoorAb20
import Derived.Deep.Slices
import Derived.ChangeShapes
set_option linter.unusedVariables false
set_option linter.unusedSimpArgs false
namespace Go.Ab
open Go.Deep Go.ChangeShapes Go.WideShapes
section
variable {H':Type} {enc:TypeId × Value->H'} {P:Program} {w:World}
theorem law_from {P:Program} {T:Tab} (hm:P.follows .mixedOrders = true) (hT:TabOk P T) {W:World} {call:Call (Bool × H)} (hC:zr P T W.heap.size W call) {f:FuncId} {fn:Func} {c:IC} {rs:List ResultVar}
  (hf:P.funcs[f]? = some fn) (hb:fn.body = some c.code) (hname:(fn.name == "runtime.NumGoroutine") = false) (hrs:fn.results.toList = rs) (hic:icOk T fn.ntmps c = true) {args:List V} {xs:Array Value} {n:Nat} {ι:Io} {h h':H}
  (R:HR T W.heap.size W (fun _=>False) ι h W) (hv:VRL ι (okOf h fun _=>False) args xs.toList) (hsz:args.length≤fn.ntmps) (e:evF T call n c rs args κ0 h = some (true, h')) :
  Calls P f xs W fun e w'=>e = .returned (.bool true) ∧ RowKit.Below W.heap.size W w':=by
 refine (zik hm (fun _ h=>h) hT hC hf hb hname hrs hic R (fun _ h=>h.elim) hv hsz e).2.mono ?_
 rintro e w' ⟨r, h'', ι', e1, R', _, hend⟩
 have:r = .ret (.bool true):=by
  unfold κ0 at e1
  cases r with
  | pan v=>cases e1
  | ret v=>
   cases v with
   | bool b=>dsimp only at e1; cases e1; rfl
   | _=>cases e1
 subst this
 refine ⟨?_, R'.env.1, R'.env.2.1, R'.env.2.2, R'.size, R'.old⟩
 cases e with
 | returned x=>rw [show x = _ from hend]
 | _=>exact hend.elim
def h1 (cs:List V):H:=⟨1, fun j=>cond (Nat.beq j 0) (some (.cells cs false)) none⟩
end
end Go.Ab
