import Derived.Test.YtkfoohgkbafafaaAb15
import Derived.Lib.Bytealg
import Derived.Laws.Externs
import Derived.Below
set_option linter.unusedVariables false
set_option linter.unusedSimpArgs false
namespace Go.Ab
section
variable {T : Tab} {base : Nat} {w0 : World} {X : Nat → Prop} {ι : Io} {h : H} {w : World}
theorem HR.other (R : HR T base w0 X ι h w) (o : Obj) : HR T base w0 X ι h (w.alloc o) ∧ Went X ι h w ι h (w.alloc o) := by
  have hold : ∀ b, b < w.heap.size → (w.alloc o).heap[b]? = w.heap[b]? := fun b hb => by rw [heap_push, if_neg (Nat.ne_of_lt hb)]
  refine ⟨⟨?_, fun b hb => ?_, R.dom, fun i b hx hb => ?_, R.inj, R.glob, R.env⟩, ⟨fun _ _ => rfl, Nat.le_refl _, fun _ _ => rfl, by simp, fun b hb _ => hold b hb, fun i c hx hc ho => .inr ⟨i, c, hx, hc, ho, rfl⟩⟩⟩
  · have := R.size; simp; omega
  · rw [hold b (Nat.lt_of_lt_of_le hb R.size)]; exact R.old b hb
  · have hbk := R.blk i b hx hb
    exact hbk.mono (fun _ _ => rfl) (fun _ hj => hj) (hold _ hbk.lt)
theorem indexB_eq (l : List UInt8) (c : UInt8) : indexB l c = Lib.indexByte l c := by
  induction l with
  | nil => rfl
  | cons b l ih => simp only [indexB, Lib.indexByte, ih]
def h0 : H := ⟨0, fun _ => none⟩
def ι0 : Io := fun _ => ⟨0, 0, 0⟩
theorem HR.init (hg : ∀ g, T.glob g = none) (W : World) : HR T W.heap.size W (fun _ => False) ι0 h0 W :=
  ⟨Nat.le_refl _, fun _ _ => rfl, fun _ _ h => (by cases h), fun _ _ _ h => (by cases h), fun _ _ _ _ _ _ h => (by cases h), fun g i h => (by rw [hg g] at h; cases h), rfl, rfl, rfl⟩
def κ0 : Res → M (Bool × H) := fun r h => match r with | .ret (.bool b) => some (b, h) | _ => none
end
end Go.Ab
