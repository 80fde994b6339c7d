import Derived.Test.YtkfoohgkbafafaaDoorS6a0
import Derived.Test.YtkfoohgkbafafaaDoorAb24
import Derived.Test.YtkfoohgkbafafaaDoorProg
import Derived.KernelRfl
namespace Go.Ab.S6
section
variable {α : Type}
open Go.Proofs
set_option linter.unusedVariables false
set_option linter.unusedSimpArgs false
noncomputable def w4fault.c : IC := w4fault.u1.c
noncomputable def w4fault.res : List ResultVar := [(.cell 2 33)]
theorem w4fault.u1.ok (k : Nat) (x0 : V) (K : Ex → Frame → M α) :
    evC T (env k) k w4fault.u1.c (frameL [(0, x0)]) K =
      w4fault.u1.f k x0 (fun y0 => K .ret (frameL [(2, .ptr (some y0))])) := by kernel_rfl
theorem w4fault.ok (k : Nat) (x0 : V) (κ : Res → M α) :
    evF T (env k) k w4fault.c w4fault.res [x0] κ = w4fault.f (k + 1) x0 (fun o0 o1 => κ (.ret (.agg [.int .i64 o0, .int .i64 o1]))) :=
  (w4fault.u1.ok k x0 (retK T w4fault.res κ)).trans (by kernel_rfl)
theorem w4fault.code : w4fault.c.code = bodyOf Tryd.f11 := by kernel_rfl
noncomputable def w4SyntaxCut.c : IC := w4SyntaxCut.u1.c
noncomputable def w4SyntaxCut.res : List ResultVar := [(.tmp 2)]
theorem w4SyntaxCut.u1.ok (k : Nat) (x0 : List UInt8) (K : Ex → Frame → M α) :
    evC T (env k) k w4SyntaxCut.u1.c (frameL [(0, .str x0)]) K =
      w4SyntaxCut.u1.f k x0 (fun y0 => K .ret (frameL [(2, .bool y0)])) := by kernel_rfl
theorem w4SyntaxCut.ok (k : Nat) (x0 : List UInt8) (κ : Res → M α) :
    evF T (env k) k w4SyntaxCut.c w4SyntaxCut.res [.str x0] κ = w4SyntaxCut.f (k + 1) x0 (fun o0 => κ (.ret (.bool o0))) :=
  (w4SyntaxCut.u1.ok k x0 (retK T w4SyntaxCut.res κ)).trans (by kernel_rfl)
theorem w4SyntaxCut.code : w4SyntaxCut.c.code = bodyOf Tryd.f5 := by kernel_rfl
noncomputable def r4Same.c : IC := r4Same.u9.c
noncomputable def r4Same.res : List ResultVar := [(.tmp 6)]
theorem r4Same.u1.ok (k : Nat) (x0 : Sl) (x1 : Sl) (x2 : Bool) (R : IC) (K : Ex → Frame → M α) :
    evC T (env k) k (r4Same.u1.c R) (frameL [(0, .slice x0), (1, .slice x1), (2, .bool x2)]) K =
      r4Same.u1.f k x0 x1 x2 (fun y0 y1 y2 => evC T (env k) k R (frameL [(0, .slice y0), (1, .slice y1), (2, .bool y2)]) K) (fun y0 => K .ret (frameL [(6, .bool y0)])) := by kernel_rfl
theorem r4Same.u2.ok (k : Nat) (x0 : Sl) (x1 : Sl) (x2 : Bool) (R : IC) (K : Ex → Frame → M α) :
    evC T (env k) k (r4Same.u2.c R) (frameL [(0, .slice x0), (1, .slice x1), (2, .bool x2)]) K =
      r4Same.u2.f k x0 x1 x2 (fun y0 y1 y2 y3 => evC T (env k) k R (frameL [(0, .slice y0), (1, .slice y1), (2, .bool y2), (7, .int .i64 y3)]) K) := by kernel_rfl
theorem r4Same.u3.ok (k : Nat) (x0 : Sl) (x1 : Sl) (x2 : Bool) (x3 : Int) (K : Ex → Frame → M α) :
    evC T (env k) k r4Same.u3.c (frameL [(0, .slice x0), (1, .slice x1), (2, .bool x2), (7, .int .i64 x3)]) K =
      r4Same.u3.f k x0 x1 x2 x3 (fun y0 y1 y2 y3 => K .normal (frameL [(0, .slice y0), (1, .slice y1), (2, .bool y2), (7, .int .i64 y3)])) (fun y0 => K .ret (frameL [(6, .bool y0)])) (K (.exit 0) (frameL [])) := by kernel_rfl
theorem r4Same.u4.ls (k : Nat) (kr : Bool → M α) (kx0 : M α) (j : Nat) (x0 : Sl) (x1 : Sl) (x2 : Bool) (x3 : Int) : r4Same.u4.l k kr kx0 (j + 1) x0 x1 x2 x3 =
  r4Same.u3.f k x0 x1 x2 x3 (fun y0 y1 y2 y3 => r4Same.u4.l k kr kx0 j y0 y1 y2 y3) kr kx0 := rfl
theorem r4Same.u4.okl (k : Nat) (K : Ex → Frame → M α) : ∀ (j : Nat) (x0 : Sl) (x1 : Sl) (x2 : Bool) (x3 : Int),
    evLoop (evC T (env k) k r4Same.u3.c) [0, 1, 2, 7] j (frameL [(0, .slice x0), (1, .slice x1), (2, .bool x2), (7, .int .i64 x3)]) K = r4Same.u4.l k (fun y0 => K .ret (frameL [(6, .bool y0)])) (K (.exit 0) (frameL [])) j x0 x1 x2 x3
  | 0, _, _, _, _ => rfl
  | j + 1, x0, x1, x2, x3 => by
      have h := r4Same.u3.ok k x0 x1 x2 x3 (seqK (fun ρ => evLoop (evC T (env k) k r4Same.u3.c) [0, 1, 2, 7] j ρ K) K)
      simp only [seqK_exit, seqK_ret, seqK_pan, seqK_normal, r4Same.u4.okl k K j] at h
      exact (evLoop_step (by kernel_rfl) h).trans (r4Same.u4.ls k (fun y0 => K .ret (frameL [(6, .bool y0)])) (K (.exit 0) (frameL [])) j x0 x1 x2 x3).symm
theorem r4Same.u4.ok (k : Nat) (x0 : Sl) (x1 : Sl) (x2 : Bool) (x3 : Int) (K : Ex → Frame → M α) :
    evC T (env k) k r4Same.u4.c (frameL [(0, .slice x0), (1, .slice x1), (2, .bool x2), (7, .int .i64 x3)]) K =
      r4Same.u4.f k x0 x1 x2 x3 (fun y0 => K .ret (frameL [(6, .bool y0)])) (K (.exit 0) (frameL [])) :=
  evC_loop.trans <| (evLoop_keep (body := evC T (env k) k r4Same.u3.c) (keep := [0, 1, 2, 7]) (ρ := (frameL [(0, .slice x0), (1, .slice x1), (2, .bool x2), (7, .int .i64 x3)])) (ρ' := (frameL [(0, .slice x0), (1, .slice x1), (2, .bool x2), (7, .int .i64 x3)])) (by kernel_rfl) k K).trans (r4Same.u4.okl k K k x0 x1 x2 x3)
theorem r4Same.u5.ok (k : Nat) (x0 : Sl) (x1 : Sl) (x2 : Bool) (x3 : Int) (K : Ex → Frame → M α) :
    evC T (env k) k r4Same.u5.c (frameL [(0, .slice x0), (1, .slice x1), (2, .bool x2), (7, .int .i64 x3)]) K =
      r4Same.u5.f k x0 x1 x2 x3 (K .normal (frameL [])) (fun y0 => K .ret (frameL [(6, .bool y0)])) :=
  (evC_block.trans (r4Same.u4.ok k x0 x1 x2 x3 (blockK 0 K))).trans (by kernel_rfl)
theorem r4Same.u6.ok (k : Nat) (x0 : Sl) (x1 : Sl) (x2 : Bool) (K : Ex → Frame → M α) :
    evC T (env k) k r4Same.u6.c (frameL [(0, .slice x0), (1, .slice x1), (2, .bool x2)]) K =
      r4Same.u6.f k x0 x1 x2 (K .normal (frameL [])) (fun y0 => K .ret (frameL [(6, .bool y0)])) :=
  (r4Same.u2.ok k x0 x1 x2 r4Same.u5.c K).trans
    (congrArg (fun z => r4Same.u2.f k x0 x1 x2 z) (funext fun y0 => (funext fun y1 => (funext fun y2 => (funext fun y3 => r4Same.u5.ok k y0 y1 y2 y3 K)))))
theorem r4Same.u7.ok (k : Nat) (K : Ex → Frame → M α) :
    evC T (env k) k r4Same.u7.c (frameL []) K =
      r4Same.u7.f k (fun y0 => K .ret (frameL [(6, .bool y0)])) := by kernel_rfl
theorem r4Same.u8.ok (k : Nat) (x0 : Sl) (x1 : Sl) (x2 : Bool) (K : Ex → Frame → M α) :
    evC T (env k) k r4Same.u8.c (frameL [(0, .slice x0), (1, .slice x1), (2, .bool x2)]) K =
      r4Same.u8.f k x0 x1 x2 (fun y0 => K .ret (frameL [(6, .bool y0)])) :=
  by
    have h := r4Same.u6.ok k x0 x1 x2 (seqK (fun ρ => evC T (env k) k r4Same.u7.c ρ K) K)
    simp only [seqK_normal, seqK_exit, seqK_ret, seqK_pan, r4Same.u7.ok] at h
    exact evC_seq_of h
theorem r4Same.u9.ok (k : Nat) (x0 : Sl) (x1 : Sl) (x2 : Bool) (K : Ex → Frame → M α) :
    evC T (env k) k r4Same.u9.c (frameL [(0, .slice x0), (1, .slice x1), (2, .bool x2)]) K =
      r4Same.u9.f k x0 x1 x2 (fun y0 => K .ret (frameL [(6, .bool y0)])) :=
  (r4Same.u1.ok k x0 x1 x2 r4Same.u8.c K).trans
    (congrArg (fun z => r4Same.u1.f k x0 x1 x2 z (fun y0 => K .ret (frameL [(6, .bool y0)]))) (funext fun y0 => (funext fun y1 => (funext fun y2 => r4Same.u8.ok k y0 y1 y2 K))))
theorem r4Same.ok (k : Nat) (x0 : Sl) (x1 : Sl) (x2 : Bool) (κ : Res → M α) :
    evF T (env k) k r4Same.c r4Same.res [.slice x0, .slice x1, .bool x2] κ = r4Same.f (k + 1) x0 x1 x2 (fun o0 => κ (.ret (.bool o0))) :=
  (r4Same.u9.ok k x0 x1 x2 (retK T r4Same.res κ)).trans (by kernel_rfl)
theorem r4Same.code : r4Same.c.code = bodyOf Tryd.f10 := by kernel_rfl
end
end Go.Ab.S6
