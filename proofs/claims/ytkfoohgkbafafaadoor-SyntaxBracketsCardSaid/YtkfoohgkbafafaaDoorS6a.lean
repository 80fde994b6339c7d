import Derived.Test.YtkfoohgkbafafaaDoorS6a0
import Derived.Test.YtkfoohgkbafafaaDoorAb24
import Derived.Test.YtkfoohgkbafafaaDoorProg
import Derived.KernelRfl
namespace Go.Ab.S6
section
variable {α : Type}
open Go.Proofs
set_option linter.unusedVariables false
set_option linter.unusedSimpArgs false
noncomputable def syntax_fix.c : IC := syntax_fix.u1.c
noncomputable def syntax_fix.res : List ResultVar := [(.tmp 2)]
theorem syntax_fix.u1.ok (k : Nat) (x0 : Int) (K : Ex → Frame → M α) :
    evC T (env k) k syntax_fix.u1.c (frameL [(0, .int .i64 x0)]) K =
      syntax_fix.u1.f k x0 (fun y0 => K .ret (frameL [(2, .bool y0)])) := by kernel_rfl
theorem syntax_fix.ok (k : Nat) (x0 : Int) (κ : Res → M α) :
    evF T (env k) k syntax_fix.c syntax_fix.res [.int .i64 x0] κ = syntax_fix.f (k + 1) x0 (fun o0 => κ (.ret (.bool o0))) :=
  (syntax_fix.u1.ok k x0 (retK T syntax_fix.res κ)).trans (by kernel_rfl)
theorem syntax_fix.code : syntax_fix.c.code = bodyOf Tryd.f40 := by kernel_rfl
noncomputable def syntax_write.c : IC := syntax_write.u3.c
noncomputable def syntax_write.res : List ResultVar := []
theorem syntax_write.u1.ok (k : Nat) (x0 : Ad) (x1 : Sl) (x2 : Int) (R : IC) (K : Ex → Frame → M α) :
    evC T (env k) k (syntax_write.u1.c R) (frameL [(0, .ptr (some x0)), (1, .slice x1), (2, .int .i64 x2)]) K =
      syntax_write.u1.f k (syntax_operand.f k) x0 x1 x2 (fun y0 y1 y2 => evC T (env k) k R (frameL [(0, .ptr (some y0)), (1, .slice y1), (6, .ptr (some y2))]) K) (K .ret (frameL [])) := by kernel_rfl
theorem syntax_write.u2.ok (k : Nat) (x0 : Ad) (x1 : Sl) (x2 : Ad) (K : Ex → Frame → M α) :
    evC T (env k) k syntax_write.u2.c (frameL [(0, .ptr (some x0)), (1, .slice x1), (6, .ptr (some x2))]) K =
      syntax_write.u2.f k (syntax_operand.f k) x0 x1 x2 (K .normal (frameL [])) := by kernel_rfl
theorem syntax_write.u3.ok (k : Nat) (x0 : Ad) (x1 : Sl) (x2 : Int) (K : Ex → Frame → M α) :
    evC T (env k) k syntax_write.u3.c (frameL [(0, .ptr (some x0)), (1, .slice x1), (2, .int .i64 x2)]) K =
      syntax_write.u3.f k (syntax_operand.f k) x0 x1 x2 (K .normal (frameL [])) (K .ret (frameL [])) :=
  (syntax_write.u1.ok k x0 x1 x2 syntax_write.u2.c K).trans
    (congrArg (fun z => syntax_write.u1.f k (syntax_operand.f k) x0 x1 x2 z (K .ret (frameL []))) (funext fun y0 => (funext fun y1 => (funext fun y2 => syntax_write.u2.ok k y0 y1 y2 K))))
theorem syntax_write.ok (k : Nat) (x0 : Ad) (x1 : Sl) (x2 : Int) (κ : Res → M α) :
    evF T (env k) k syntax_write.c syntax_write.res [.ptr (some x0), .slice x1, .int .i64 x2] κ = syntax_write.f (k + 1) x0 x1 x2 (κ (.ret (.tuple []))) :=
  (syntax_write.u3.ok k x0 x1 x2 (retK T syntax_write.res κ)).trans (by kernel_rfl)
theorem syntax_write.code : syntax_write.c.code = bodyOf Tryd.f12 := by kernel_rfl
noncomputable def syntax_operand.c : IC := syntax_operand.u1.c
noncomputable def syntax_operand.res : List ResultVar := []
theorem syntax_operand.u1.ok (k : Nat) (x0 : Ad) (x1 : Sl) (x2 : Int) (x3 : Int) (x4 : Bool) (K : Ex → Frame → M α) :
    evC T (env k) k syntax_operand.u1.c (frameL [(0, .ptr (some x0)), (1, .slice x1), (2, .int .i64 x2), (3, .int .i64 x3), (4, .bool x4)]) K =
      syntax_operand.u1.f k (syntax_write.f k) x0 x1 x2 x3 x4 (K .normal (frameL [])) := by kernel_rfl
theorem syntax_operand.ok (k : Nat) (x0 : Ad) (x1 : Sl) (x2 : Int) (x3 : Int) (x4 : Bool) (κ : Res → M α) :
    evF T (env k) k syntax_operand.c syntax_operand.res [.ptr (some x0), .slice x1, .int .i64 x2, .int .i64 x3, .bool x4] κ = syntax_operand.f (k + 1) x0 x1 x2 x3 x4 (κ (.ret (.tuple []))) :=
  (syntax_operand.u1.ok k x0 x1 x2 x3 x4 (retK T syntax_operand.res κ)).trans (by kernel_rfl)
theorem syntax_operand.code : syntax_operand.c.code = bodyOf Tryd.f26 := by kernel_rfl
noncomputable def syntax_Print.c : IC := syntax_Print.u1.c
noncomputable def syntax_Print.res : List ResultVar := [(.tmp 2)]
theorem syntax_Print.u1.ok (k : Nat) (x0 : Sl) (K : Ex → Frame → M α) :
    evC T (env k) k syntax_Print.u1.c (frameL [(0, .slice x0)]) K =
      syntax_Print.u1.f k x0 (fun y0 => K .ret (frameL [(2, .str y0)])) := by kernel_rfl
theorem syntax_Print.ok (k : Nat) (x0 : Sl) (κ : Res → M α) :
    evF T (env k) k syntax_Print.c syntax_Print.res [.slice x0] κ = syntax_Print.f (k + 1) x0 (fun o0 => κ (.ret (.str o0))) :=
  (syntax_Print.u1.ok k x0 (retK T syntax_Print.res κ)).trans (by kernel_rfl)
theorem syntax_Print.code : syntax_Print.c.code = bodyOf Tryd.f7 := by kernel_rfl
noncomputable def w4shown.c : IC := w4shown.u1.c
noncomputable def w4shown.res : List ResultVar := [(.tmp 0)]
theorem w4shown.u1.ok (k : Nat) (K : Ex → Frame → M α) :
    evC T (env k) k w4shown.u1.c (frameL []) K =
      w4shown.u1.f k (fun y0 => K .ret (frameL [(0, .bool y0)])) := by kernel_rfl
theorem w4shown.ok (k : Nat) (κ : Res → M α) :
    evF T (env k) k w4shown.c w4shown.res [] κ = w4shown.f (k + 1) (fun o0 => κ (.ret (.bool o0))) :=
  (w4shown.u1.ok k (retK T w4shown.res κ)).trans (by kernel_rfl)
theorem w4shown.code : w4shown.c.code = bodyOf Tryd.f6 := by kernel_rfl
noncomputable def w4fault.c : IC := w4fault.u1.c
noncomputable def w4fault.res : List ResultVar := [(.cell 2 33)]
theorem w4fault.u1.ok (k : Nat) (x0 : V) (K : Ex → Frame → M α) :
    evC T (env k) k w4fault.u1.c (frameL [(0, x0)]) K =
      w4fault.u1.f k x0 (fun y0 => K .ret (frameL [(2, .ptr (some y0))])) := by kernel_rfl
theorem w4fault.ok (k : Nat) (x0 : V) (κ : Res → M α) :
    evF T (env k) k w4fault.c w4fault.res [x0] κ = w4fault.f (k + 1) x0 (fun o0 o1 => κ (.ret (.agg [.int .i64 o0, .int .i64 o1]))) :=
  (w4fault.u1.ok k x0 (retK T w4fault.res κ)).trans (by kernel_rfl)
theorem w4fault.code : w4fault.c.code = bodyOf Tryd.f11 := by kernel_rfl
noncomputable def w4SyntaxBrackets.c : IC := w4SyntaxBrackets.u9.c
noncomputable def w4SyntaxBrackets.res : List ResultVar := [(.tmp 2)]
theorem w4SyntaxBrackets.u1.ok (k : Nat) (x0 : List UInt8) (R : IC) (K : Ex → Frame → M α) :
    evC T (env k) k (w4SyntaxBrackets.u1.c R) (frameL [(0, .str x0)]) K =
      w4SyntaxBrackets.u1.f k x0 (fun y0 y1 y2 => evC T (env k) k R (frameL [(0, .str y0), (4, .slice y1), (6, .slice y2)]) K) (fun y0 => K .ret (frameL [(2, .bool y0)])) := by kernel_rfl
theorem w4SyntaxBrackets.u2.ok (k : Nat) (x0 : List UInt8) (x1 : Sl) (x2 : Sl) (R : IC) (K : Ex → Frame → M α) :
    evC T (env k) k (w4SyntaxBrackets.u2.c R) (frameL [(0, .str x0), (4, .slice x1), (6, .slice x2)]) K =
      w4SyntaxBrackets.u2.f k x0 x1 x2 (fun y0 y1 y2 y3 => evC T (env k) k R (frameL [(0, .str y0), (4, .slice y1), (6, .slice y2), (8, .int .i64 y3)]) K) := by kernel_rfl
theorem w4SyntaxBrackets.u3.ok (k : Nat) (x0 : List UInt8) (x1 : Sl) (x2 : Sl) (x3 : Int) (K : Ex → Frame → M α) :
    evC T (env k) k w4SyntaxBrackets.u3.c (frameL [(0, .str x0), (4, .slice x1), (6, .slice x2), (8, .int .i64 x3)]) K =
      w4SyntaxBrackets.u3.f k x0 x1 x2 x3 (fun y0 y1 y2 y3 => K .normal (frameL [(0, .str y0), (4, .slice y1), (6, .slice y2), (8, .int .i64 y3)])) (fun y0 => K .ret (frameL [(2, .bool y0)])) (fun y0 y1 => K (.exit 0) (frameL [(0, .str y0), (4, .slice y1)])) := by kernel_rfl
theorem w4SyntaxBrackets.u4.ls (k : Nat) (kr : Bool → M α) (kx0 : List UInt8 → Sl → M α) (j : Nat) (x0 : List UInt8) (x1 : Sl) (x2 : Sl) (x3 : Int) : w4SyntaxBrackets.u4.l k kr kx0 (j + 1) x0 x1 x2 x3 =
  w4SyntaxBrackets.u3.f k x0 x1 x2 x3 (fun y0 y1 y2 y3 => w4SyntaxBrackets.u4.l k kr kx0 j y0 y1 y2 y3) kr kx0 := rfl
theorem w4SyntaxBrackets.u4.okl (k : Nat) (K : Ex → Frame → M α) : ∀ (j : Nat) (x0 : List UInt8) (x1 : Sl) (x2 : Sl) (x3 : Int),
    evLoop (evC T (env k) k w4SyntaxBrackets.u3.c) [0, 4, 6, 8] j (frameL [(0, .str x0), (4, .slice x1), (6, .slice x2), (8, .int .i64 x3)]) K = w4SyntaxBrackets.u4.l k (fun y0 => K .ret (frameL [(2, .bool y0)])) (fun y0 y1 => K (.exit 0) (frameL [(0, .str y0), (4, .slice y1)])) j x0 x1 x2 x3
  | 0, _, _, _, _ => rfl
  | j + 1, x0, x1, x2, x3 => by
      have h := w4SyntaxBrackets.u3.ok k x0 x1 x2 x3 (seqK (fun ρ => evLoop (evC T (env k) k w4SyntaxBrackets.u3.c) [0, 4, 6, 8] j ρ K) K)
      simp only [seqK_exit, seqK_ret, seqK_pan, seqK_normal, w4SyntaxBrackets.u4.okl k K j] at h
      exact (evLoop_step (by kernel_rfl) h).trans (w4SyntaxBrackets.u4.ls k (fun y0 => K .ret (frameL [(2, .bool y0)])) (fun y0 y1 => K (.exit 0) (frameL [(0, .str y0), (4, .slice y1)])) j x0 x1 x2 x3).symm
theorem w4SyntaxBrackets.u4.ok (k : Nat) (x0 : List UInt8) (x1 : Sl) (x2 : Sl) (x3 : Int) (K : Ex → Frame → M α) :
    evC T (env k) k w4SyntaxBrackets.u4.c (frameL [(0, .str x0), (4, .slice x1), (6, .slice x2), (8, .int .i64 x3)]) K =
      w4SyntaxBrackets.u4.f k x0 x1 x2 x3 (fun y0 => K .ret (frameL [(2, .bool y0)])) (fun y0 y1 => K (.exit 0) (frameL [(0, .str y0), (4, .slice y1)])) :=
  evC_loop.trans <| (evLoop_keep (body := evC T (env k) k w4SyntaxBrackets.u3.c) (keep := [0, 4, 6, 8]) (ρ := (frameL [(0, .str x0), (4, .slice x1), (6, .slice x2), (8, .int .i64 x3)])) (ρ' := (frameL [(0, .str x0), (4, .slice x1), (6, .slice x2), (8, .int .i64 x3)])) (by kernel_rfl) k K).trans (w4SyntaxBrackets.u4.okl k K k x0 x1 x2 x3)
theorem w4SyntaxBrackets.u5.ok (k : Nat) (x0 : List UInt8) (x1 : Sl) (x2 : Sl) (x3 : Int) (K : Ex → Frame → M α) :
    evC T (env k) k w4SyntaxBrackets.u5.c (frameL [(0, .str x0), (4, .slice x1), (6, .slice x2), (8, .int .i64 x3)]) K =
      w4SyntaxBrackets.u5.f k x0 x1 x2 x3 (fun y0 y1 => K .normal (frameL [(0, .str y0), (4, .slice y1)])) (fun y0 => K .ret (frameL [(2, .bool y0)])) :=
  (evC_block.trans (w4SyntaxBrackets.u4.ok k x0 x1 x2 x3 (blockK 0 K))).trans (by kernel_rfl)
theorem w4SyntaxBrackets.u6.ok (k : Nat) (x0 : List UInt8) (x1 : Sl) (x2 : Sl) (K : Ex → Frame → M α) :
    evC T (env k) k w4SyntaxBrackets.u6.c (frameL [(0, .str x0), (4, .slice x1), (6, .slice x2)]) K =
      w4SyntaxBrackets.u6.f k x0 x1 x2 (fun y0 y1 => K .normal (frameL [(0, .str y0), (4, .slice y1)])) (fun y0 => K .ret (frameL [(2, .bool y0)])) :=
  (w4SyntaxBrackets.u2.ok k x0 x1 x2 w4SyntaxBrackets.u5.c K).trans
    (congrArg (fun z => w4SyntaxBrackets.u2.f k x0 x1 x2 z) (funext fun y0 => (funext fun y1 => (funext fun y2 => (funext fun y3 => w4SyntaxBrackets.u5.ok k y0 y1 y2 y3 K)))))
theorem w4SyntaxBrackets.u7.ok (k : Nat) (x0 : List UInt8) (x1 : Sl) (K : Ex → Frame → M α) :
    evC T (env k) k w4SyntaxBrackets.u7.c (frameL [(0, .str x0), (4, .slice x1)]) K =
      w4SyntaxBrackets.u7.f k x0 x1 (fun y0 => K .ret (frameL [(2, .bool y0)])) := by kernel_rfl
theorem w4SyntaxBrackets.u8.ok (k : Nat) (x0 : List UInt8) (x1 : Sl) (x2 : Sl) (K : Ex → Frame → M α) :
    evC T (env k) k w4SyntaxBrackets.u8.c (frameL [(0, .str x0), (4, .slice x1), (6, .slice x2)]) K =
      w4SyntaxBrackets.u8.f k x0 x1 x2 (fun y0 => K .ret (frameL [(2, .bool y0)])) :=
  by
    have h := w4SyntaxBrackets.u6.ok k x0 x1 x2 (seqK (fun ρ => evC T (env k) k w4SyntaxBrackets.u7.c ρ K) K)
    simp only [seqK_normal, seqK_exit, seqK_ret, seqK_pan, w4SyntaxBrackets.u7.ok] at h
    exact evC_seq_of h
theorem w4SyntaxBrackets.u9.ok (k : Nat) (x0 : List UInt8) (K : Ex → Frame → M α) :
    evC T (env k) k w4SyntaxBrackets.u9.c (frameL [(0, .str x0)]) K =
      w4SyntaxBrackets.u9.f k x0 (fun y0 => K .ret (frameL [(2, .bool y0)])) :=
  (w4SyntaxBrackets.u1.ok k x0 w4SyntaxBrackets.u8.c K).trans
    (congrArg (fun z => w4SyntaxBrackets.u1.f k x0 z (fun y0 => K .ret (frameL [(2, .bool y0)]))) (funext fun y0 => (funext fun y1 => (funext fun y2 => w4SyntaxBrackets.u8.ok k y0 y1 y2 K))))
theorem w4SyntaxBrackets.ok (k : Nat) (x0 : List UInt8) (κ : Res → M α) :
    evF T (env k) k w4SyntaxBrackets.c w4SyntaxBrackets.res [.str x0] κ = w4SyntaxBrackets.f (k + 1) x0 (fun o0 => κ (.ret (.bool o0))) :=
  (w4SyntaxBrackets.u9.ok k x0 (retK T w4SyntaxBrackets.res κ)).trans (by kernel_rfl)
theorem w4SyntaxBrackets.code : w4SyntaxBrackets.c.code = bodyOf Tryd.f4 := by kernel_rfl
noncomputable def r4Same.c : IC := r4Same.u9.c
noncomputable def r4Same.res : List ResultVar := [(.tmp 6)]
theorem r4Same.u1.ok (k : Nat) (x0 : Sl) (x1 : Sl) (x2 : Bool) (R : IC) (K : Ex → Frame → M α) :
    evC T (env k) k (r4Same.u1.c R) (frameL [(0, .slice x0), (1, .slice x1), (2, .bool x2)]) K =
      r4Same.u1.f k x0 x1 x2 (fun y0 y1 y2 => evC T (env k) k R (frameL [(0, .slice y0), (1, .slice y1), (2, .bool y2)]) K) (fun y0 => K .ret (frameL [(6, .bool y0)])) := by kernel_rfl
theorem r4Same.u2.ok (k : Nat) (x0 : Sl) (x1 : Sl) (x2 : Bool) (R : IC) (K : Ex → Frame → M α) :
    evC T (env k) k (r4Same.u2.c R) (frameL [(0, .slice x0), (1, .slice x1), (2, .bool x2)]) K =
      r4Same.u2.f k x0 x1 x2 (fun y0 y1 y2 y3 => evC T (env k) k R (frameL [(0, .slice y0), (1, .slice y1), (2, .bool y2), (7, .int .i64 y3)]) K) := by kernel_rfl
theorem r4Same.u3.ok (k : Nat) (x0 : Sl) (x1 : Sl) (x2 : Bool) (x3 : Int) (K : Ex → Frame → M α) :
    evC T (env k) k r4Same.u3.c (frameL [(0, .slice x0), (1, .slice x1), (2, .bool x2), (7, .int .i64 x3)]) K =
      r4Same.u3.f k x0 x1 x2 x3 (fun y0 y1 y2 y3 => K .normal (frameL [(0, .slice y0), (1, .slice y1), (2, .bool y2), (7, .int .i64 y3)])) (fun y0 => K .ret (frameL [(6, .bool y0)])) (K (.exit 0) (frameL [])) := by kernel_rfl
theorem r4Same.u4.ls (k : Nat) (kr : Bool → M α) (kx0 : M α) (j : Nat) (x0 : Sl) (x1 : Sl) (x2 : Bool) (x3 : Int) : r4Same.u4.l k kr kx0 (j + 1) x0 x1 x2 x3 =
  r4Same.u3.f k x0 x1 x2 x3 (fun y0 y1 y2 y3 => r4Same.u4.l k kr kx0 j y0 y1 y2 y3) kr kx0 := rfl
theorem r4Same.u4.okl (k : Nat) (K : Ex → Frame → M α) : ∀ (j : Nat) (x0 : Sl) (x1 : Sl) (x2 : Bool) (x3 : Int),
    evLoop (evC T (env k) k r4Same.u3.c) [0, 1, 2, 7] j (frameL [(0, .slice x0), (1, .slice x1), (2, .bool x2), (7, .int .i64 x3)]) K = r4Same.u4.l k (fun y0 => K .ret (frameL [(6, .bool y0)])) (K (.exit 0) (frameL [])) j x0 x1 x2 x3
  | 0, _, _, _, _ => rfl
  | j + 1, x0, x1, x2, x3 => by
      have h := r4Same.u3.ok k x0 x1 x2 x3 (seqK (fun ρ => evLoop (evC T (env k) k r4Same.u3.c) [0, 1, 2, 7] j ρ K) K)
      simp only [seqK_exit, seqK_ret, seqK_pan, seqK_normal, r4Same.u4.okl k K j] at h
      exact (evLoop_step (by kernel_rfl) h).trans (r4Same.u4.ls k (fun y0 => K .ret (frameL [(6, .bool y0)])) (K (.exit 0) (frameL [])) j x0 x1 x2 x3).symm
theorem r4Same.u4.ok (k : Nat) (x0 : Sl) (x1 : Sl) (x2 : Bool) (x3 : Int) (K : Ex → Frame → M α) :
    evC T (env k) k r4Same.u4.c (frameL [(0, .slice x0), (1, .slice x1), (2, .bool x2), (7, .int .i64 x3)]) K =
      r4Same.u4.f k x0 x1 x2 x3 (fun y0 => K .ret (frameL [(6, .bool y0)])) (K (.exit 0) (frameL [])) :=
  evC_loop.trans <| (evLoop_keep (body := evC T (env k) k r4Same.u3.c) (keep := [0, 1, 2, 7]) (ρ := (frameL [(0, .slice x0), (1, .slice x1), (2, .bool x2), (7, .int .i64 x3)])) (ρ' := (frameL [(0, .slice x0), (1, .slice x1), (2, .bool x2), (7, .int .i64 x3)])) (by kernel_rfl) k K).trans (r4Same.u4.okl k K k x0 x1 x2 x3)
theorem r4Same.u5.ok (k : Nat) (x0 : Sl) (x1 : Sl) (x2 : Bool) (x3 : Int) (K : Ex → Frame → M α) :
    evC T (env k) k r4Same.u5.c (frameL [(0, .slice x0), (1, .slice x1), (2, .bool x2), (7, .int .i64 x3)]) K =
      r4Same.u5.f k x0 x1 x2 x3 (K .normal (frameL [])) (fun y0 => K .ret (frameL [(6, .bool y0)])) :=
  (evC_block.trans (r4Same.u4.ok k x0 x1 x2 x3 (blockK 0 K))).trans (by kernel_rfl)
theorem r4Same.u6.ok (k : Nat) (x0 : Sl) (x1 : Sl) (x2 : Bool) (K : Ex → Frame → M α) :
    evC T (env k) k r4Same.u6.c (frameL [(0, .slice x0), (1, .slice x1), (2, .bool x2)]) K =
      r4Same.u6.f k x0 x1 x2 (K .normal (frameL [])) (fun y0 => K .ret (frameL [(6, .bool y0)])) :=
  (r4Same.u2.ok k x0 x1 x2 r4Same.u5.c K).trans
    (congrArg (fun z => r4Same.u2.f k x0 x1 x2 z) (funext fun y0 => (funext fun y1 => (funext fun y2 => (funext fun y3 => r4Same.u5.ok k y0 y1 y2 y3 K)))))
theorem r4Same.u7.ok (k : Nat) (K : Ex → Frame → M α) :
    evC T (env k) k r4Same.u7.c (frameL []) K =
      r4Same.u7.f k (fun y0 => K .ret (frameL [(6, .bool y0)])) := by kernel_rfl
theorem r4Same.u8.ok (k : Nat) (x0 : Sl) (x1 : Sl) (x2 : Bool) (K : Ex → Frame → M α) :
    evC T (env k) k r4Same.u8.c (frameL [(0, .slice x0), (1, .slice x1), (2, .bool x2)]) K =
      r4Same.u8.f k x0 x1 x2 (fun y0 => K .ret (frameL [(6, .bool y0)])) :=
  by
    have h := r4Same.u6.ok k x0 x1 x2 (seqK (fun ρ => evC T (env k) k r4Same.u7.c ρ K) K)
    simp only [seqK_normal, seqK_exit, seqK_ret, seqK_pan, r4Same.u7.ok] at h
    exact evC_seq_of h
theorem r4Same.u9.ok (k : Nat) (x0 : Sl) (x1 : Sl) (x2 : Bool) (K : Ex → Frame → M α) :
    evC T (env k) k r4Same.u9.c (frameL [(0, .slice x0), (1, .slice x1), (2, .bool x2)]) K =
      r4Same.u9.f k x0 x1 x2 (fun y0 => K .ret (frameL [(6, .bool y0)])) :=
  (r4Same.u1.ok k x0 x1 x2 r4Same.u8.c K).trans
    (congrArg (fun z => r4Same.u1.f k x0 x1 x2 z (fun y0 => K .ret (frameL [(6, .bool y0)]))) (funext fun y0 => (funext fun y1 => (funext fun y2 => r4Same.u8.ok k y0 y1 y2 K))))
theorem r4Same.ok (k : Nat) (x0 : Sl) (x1 : Sl) (x2 : Bool) (κ : Res → M α) :
    evF T (env k) k r4Same.c r4Same.res [.slice x0, .slice x1, .bool x2] κ = r4Same.f (k + 1) x0 x1 x2 (fun o0 => κ (.ret (.bool o0))) :=
  (r4Same.u9.ok k x0 x1 x2 (retK T r4Same.res κ)).trans (by kernel_rfl)
theorem r4Same.code : r4Same.c.code = bodyOf Tryd.f10 := by kernel_rfl
end
end Go.Ab.S6
