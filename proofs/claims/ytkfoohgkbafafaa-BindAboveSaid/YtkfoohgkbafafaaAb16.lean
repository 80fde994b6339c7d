/-
  THE ABSTRACT MACHINE AGAINST THE MODEL: functions of the library that are told by hand.
-/
import Derived.Test.YtkfoohgkbafafaaAb15
import Derived.Lib.Bytealg
import Derived.Laws.Externs
import Derived.Below
set_option linter.unusedVariables false
set_option linter.unusedSimpArgs false
namespace Go.Ab
section
variable {T : Tab} {base : Nat} {w0 : World} {X : Nat → Prop} {ι : Io} {h : H} {w : World}
/-- a block of which nobody here knows -/
theorem HR.other (R : HR T base w0 X ι h w) (o : Obj) : HR T base w0 X ι h (w.alloc o) ∧ Went X ι h w ι h (w.alloc o) := by
  have hold : ∀ b, b < w.heap.size → (w.alloc o).heap[b]? = w.heap[b]? := fun b hb => by rw [heap_push, if_neg (Nat.ne_of_lt hb)]
  refine ⟨⟨?_, fun b hb => ?_, R.dom, fun i b hx hb => ?_, R.inj, R.glob, R.env⟩, ⟨fun _ _ => rfl, Nat.le_refl _, fun _ _ => rfl, by simp, fun b hb _ => hold b hb, fun i c hx hc ho => .inr ⟨i, c, hx, hc, ho, rfl⟩⟩⟩
  · have := R.size; simp; omega
  · rw [hold b (Nat.lt_of_lt_of_le hb R.size)]; exact R.old b hb
  · have hbk := R.blk i b hx hb
    exact hbk.mono (fun _ _ => rfl) (fun _ hj => hj) (hold _ hbk.lt)
theorem st1_inv {α : Type} {out : α} {a : Ad} {v : V} {K : M α} (e : st1 a v K h = some out) : ∃ h', h.setCell a v = some h' ∧ K h' = some out := by
  unfold st1 at e
  cases hs : h.setCell a v with
  | none => rw [hs] at e; cases e
  | some h' => rw [hs] at e; exact ⟨h', rfl, e⟩
theorem indexB_eq (l : List UInt8) (c : UInt8) : indexB l c = Lib.indexByte l c := by
  induction l with
  | nil => rfl
  | cons b l ih => simp only [indexB, Lib.indexByte, ih]

/-! ### a law's run -/
def h0 : H := ⟨0, fun _ => none⟩
def ι0 : Io := fun _ => ⟨0, 0, 0⟩
theorem HR.init (hg : ∀ g, T.glob g = none) (W : World) : HR T W.heap.size W (fun _ => False) ι0 h0 W :=
  ⟨Nat.le_refl _, fun _ _ => rfl, fun _ _ h => (by cases h), fun _ _ _ h => (by cases h), fun _ _ _ _ _ _ h => (by cases h), fun g i h => (by rw [hg g] at h; cases h), rfl, rfl, rfl⟩
/-- what a law hands back -/
def κ0 : Res → M (Bool × H) := fun r h => match r with | .ret (.bool b) => some (b, h) | _ => none
theorem law_below {P : Program} (hm : P.follows .mixedOrders = true) (hT : TabOk P T) (hg : ∀ g, T.glob g = none) {W : World} {call : Call (Bool × H)} (hC : CallOk P T W.heap.size W call) {f : FuncId} {fn : Func} {c : IC} {rs : List ResultVar}
    (hf : P.funcs[f]? = some fn) (hb : fn.body = some c.code) (hname : (fn.name == "runtime.NumGoroutine") = false) (hrs : fn.results.toList = rs) (hic : icOk T fn.ntmps c = true) {args : List V} {xs : Array Value} {n : Nat} {h' : H}
    (hv : VRL ι0 (okOf h0 fun _ => False) args xs.toList) (hsz : args.length ≤ fn.ntmps) (e : evF T call n c rs args κ0 h0 = some (true, h')) :
    Calls P f xs W fun e w' => e = .returned (.bool true) ∧ RowKit.Below W.heap.size W w' := by
  refine (func_calls hm (fun _ h => h) hT hC hf hb hname hrs hic (HR.init hg W) (fun _ h => h.elim) hv hsz e).2.mono ?_
  rintro e w' ⟨r, h'', ι', e1, R', _, hend⟩
  have : r = .ret (.bool true) := by
    unfold κ0 at e1
    cases r with
    | pan v => cases e1
    | ret v =>
      cases v with
      | bool b => dsimp only at e1; cases e1; rfl
      | _ => cases e1
  subst this
  refine ⟨?_, R'.env.1, R'.env.2.1, R'.env.2.2, R'.size, R'.old⟩
  cases e with
  | returned x => rw [show x = _ from hend]
  | _ => exact hend.elim
end
end Go.Ab
