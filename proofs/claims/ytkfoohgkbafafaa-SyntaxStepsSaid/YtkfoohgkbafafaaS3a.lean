import Derived.Test.YtkfoohgkbafafaaS3a0
import Derived.Test.YtkfoohgkbafafaaAb24
import Derived.Test.YtkfoohgkbafafaaProg
import Derived.KernelRfl
namespace Go.Ab.S3
section
variable {α : Type}
open Go.Proofs
set_option linter.unusedVariables false
set_option linter.unusedSimpArgs false
noncomputable def syntax_write.c : IC := syntax_write.u3.c
noncomputable def syntax_write.res : List ResultVar := []
theorem syntax_write.u1.ok (k : Nat) (x0 : Ad) (x1 : Sl) (x2 : Int) (R : IC) (K : Ex → Frame → M α) :
    evC T (env k) k (syntax_write.u1.c R) (frameL [(0, .ptr (some x0)), (1, .slice x1), (2, .int .i64 x2)]) K =
      syntax_write.u1.f k (syntax_operand.f k) x0 x1 x2 (fun y0 y1 y2 => evC T (env k) k R (frameL [(0, .ptr (some y0)), (1, .slice y1), (6, .ptr (some y2))]) K) (K .ret (frameL [])) := by kernel_rfl
theorem syntax_write.u2.ok (k : Nat) (x0 : Ad) (x1 : Sl) (x2 : Ad) (K : Ex → Frame → M α) :
    evC T (env k) k syntax_write.u2.c (frameL [(0, .ptr (some x0)), (1, .slice x1), (6, .ptr (some x2))]) K =
      syntax_write.u2.f k (syntax_operand.f k) x0 x1 x2 (K .normal (frameL [])) := by kernel_rfl
theorem syntax_write.u3.ok (k : Nat) (x0 : Ad) (x1 : Sl) (x2 : Int) (K : Ex → Frame → M α) :
    evC T (env k) k syntax_write.u3.c (frameL [(0, .ptr (some x0)), (1, .slice x1), (2, .int .i64 x2)]) K =
      syntax_write.u3.f k (syntax_operand.f k) x0 x1 x2 (K .normal (frameL [])) (K .ret (frameL [])) :=
  (syntax_write.u1.ok k x0 x1 x2 syntax_write.u2.c K).trans
    (congrArg (fun z => syntax_write.u1.f k (syntax_operand.f k) x0 x1 x2 z (K .ret (frameL []))) (funext fun y0 => (funext fun y1 => (funext fun y2 => syntax_write.u2.ok k y0 y1 y2 K))))
theorem syntax_write.ok (k : Nat) (x0 : Ad) (x1 : Sl) (x2 : Int) (κ : Res → M α) :
    evF T (env k) k syntax_write.c syntax_write.res [.ptr (some x0), .slice x1, .int .i64 x2] κ = syntax_write.f (k + 1) x0 x1 x2 (κ (.ret (.tuple []))) :=
  (syntax_write.u3.ok k x0 x1 x2 (retK T syntax_write.res κ)).trans (by kernel_rfl)
theorem syntax_write.code : syntax_write.c.code = bodyOf Try.f41 := by kernel_rfl
noncomputable def syntax_operand.c : IC := syntax_operand.u1.c
noncomputable def syntax_operand.res : List ResultVar := []
theorem syntax_operand.u1.ok (k : Nat) (x0 : Ad) (x1 : Sl) (x2 : Int) (x3 : Int) (x4 : Bool) (K : Ex → Frame → M α) :
    evC T (env k) k syntax_operand.u1.c (frameL [(0, .ptr (some x0)), (1, .slice x1), (2, .int .i64 x2), (3, .int .i64 x3), (4, .bool x4)]) K =
      syntax_operand.u1.f k (syntax_write.f k) x0 x1 x2 x3 x4 (K .normal (frameL [])) := by kernel_rfl
theorem syntax_operand.ok (k : Nat) (x0 : Ad) (x1 : Sl) (x2 : Int) (x3 : Int) (x4 : Bool) (κ : Res → M α) :
    evF T (env k) k syntax_operand.c syntax_operand.res [.ptr (some x0), .slice x1, .int .i64 x2, .int .i64 x3, .bool x4] κ = syntax_operand.f (k + 1) x0 x1 x2 x3 x4 (κ (.ret (.tuple []))) :=
  (syntax_operand.u1.ok k x0 x1 x2 x3 x4 (retK T syntax_operand.res κ)).trans (by kernel_rfl)
theorem syntax_operand.code : syntax_operand.c.code = bodyOf Try.f57 := by kernel_rfl
noncomputable def syntax_Print.c : IC := syntax_Print.u1.c
noncomputable def syntax_Print.res : List ResultVar := [(.tmp 2)]
theorem syntax_Print.u1.ok (k : Nat) (x0 : Sl) (K : Ex → Frame → M α) :
    evC T (env k) k syntax_Print.u1.c (frameL [(0, .slice x0)]) K =
      syntax_Print.u1.f k x0 (fun y0 => K .ret (frameL [(2, .str y0)])) := by kernel_rfl
theorem syntax_Print.ok (k : Nat) (x0 : Sl) (κ : Res → M α) :
    evF T (env k) k syntax_Print.c syntax_Print.res [.slice x0] κ = syntax_Print.f (k + 1) x0 (fun o0 => κ (.ret (.str o0))) :=
  (syntax_Print.u1.ok k x0 (retK T syntax_Print.res κ)).trans (by kernel_rfl)
theorem syntax_Print.code : syntax_Print.c.code = bodyOf Try.f25 := by kernel_rfl
noncomputable def w4shown.c : IC := w4shown.u1.c
noncomputable def w4shown.res : List ResultVar := [(.tmp 0)]
theorem w4shown.u1.ok (k : Nat) (K : Ex → Frame → M α) :
    evC T (env k) k w4shown.u1.c (frameL []) K =
      w4shown.u1.f k (fun y0 => K .ret (frameL [(0, .bool y0)])) := by kernel_rfl
theorem w4shown.ok (k : Nat) (κ : Res → M α) :
    evF T (env k) k w4shown.c w4shown.res [] κ = w4shown.f (k + 1) (fun o0 => κ (.ret (.bool o0))) :=
  (w4shown.u1.ok k (retK T w4shown.res κ)).trans (by kernel_rfl)
theorem w4shown.code : w4shown.c.code = bodyOf Try.f21 := by kernel_rfl
noncomputable def w4SyntaxSteps.c : IC := w4SyntaxSteps.u18.c
noncomputable def w4SyntaxSteps.res : List ResultVar := [(.tmp 2)]
theorem w4SyntaxSteps.u1.ok (k : Nat) (x0 : List UInt8) (R : IC) (K : Ex → Frame → M α) :
    evC T (env k) k (w4SyntaxSteps.u1.c R) (frameL [(0, .str x0)]) K =
      w4SyntaxSteps.u1.f k x0 (fun y0 y1 y2 y3 y4 => evC T (env k) k R (frameL [(0, .str y0), (4, .slice y1), (6, .int .i64 y2), (7, .slice y3), (8, .slice y4)]) K) (fun y0 => K .ret (frameL [(2, .bool y0)])) := by kernel_rfl
theorem w4SyntaxSteps.u2.ok (k : Nat) (x0 : List UInt8) (x1 : Sl) (x2 : Int) (x3 : Sl) (x4 : Sl) (R : IC) (K : Ex → Frame → M α) :
    evC T (env k) k (w4SyntaxSteps.u2.c R) (frameL [(0, .str x0), (4, .slice x1), (6, .int .i64 x2), (7, .slice x3), (8, .slice x4)]) K =
      w4SyntaxSteps.u2.f k x0 x1 x2 x3 x4 (fun y0 y1 y2 y3 y4 y5 => evC T (env k) k R (frameL [(0, .str y0), (4, .slice y1), (6, .int .i64 y2), (7, .slice y3), (8, .slice y4), (9, .int .i64 y5)]) K) := by kernel_rfl
theorem w4SyntaxSteps.u3.ok (k : Nat) (x0 : List UInt8) (x1 : Sl) (x2 : Int) (x3 : Sl) (x4 : Sl) (x5 : Int) (R : IC) (K : Ex → Frame → M α) :
    evC T (env k) k (w4SyntaxSteps.u3.c R) (frameL [(0, .str x0), (4, .slice x1), (6, .int .i64 x2), (7, .slice x3), (8, .slice x4), (9, .int .i64 x5)]) K =
      w4SyntaxSteps.u3.f k x0 x1 x2 x3 x4 x5 (fun y0 y1 y2 y3 y4 y5 => evC T (env k) k R (frameL [(0, .str y0), (4, .slice y1), (6, .int .i64 y2), (7, .slice y3), (8, .slice y4), (9, .int .i64 y5)]) K) (K (.exit 0) (frameL [])) := by kernel_rfl
theorem w4SyntaxSteps.u4.ok (k : Nat) (x0 : List UInt8) (x1 : Sl) (x2 : Int) (x3 : Sl) (x4 : Sl) (x5 : Int) (R : IC) (K : Ex → Frame → M α) :
    evC T (env k) k (w4SyntaxSteps.u4.c R) (frameL [(0, .str x0), (4, .slice x1), (6, .int .i64 x2), (7, .slice x3), (8, .slice x4), (9, .int .i64 x5)]) K =
      w4SyntaxSteps.u4.f k x0 x1 x2 x3 x4 x5 (fun y0 y1 y2 y3 y4 y5 y6 y7 => evC T (env k) k R (frameL [(0, .str y0), (4, .slice y1), (6, .int .i64 y2), (7, .slice y3), (8, .slice y4), (9, .int .i64 y5), (10, .slice y6), (12, .int .i64 y7)]) K) (fun y0 => K .ret (frameL [(2, .bool y0)])) := by kernel_rfl
theorem w4SyntaxSteps.u5.ok (k : Nat) (x0 : List UInt8) (x1 : Sl) (x2 : Int) (x3 : Sl) (x4 : Sl) (x5 : Int) (x6 : Sl) (x7 : Int) (K : Ex → Frame → M α) :
    evC T (env k) k w4SyntaxSteps.u5.c (frameL [(0, .str x0), (4, .slice x1), (6, .int .i64 x2), (7, .slice x3), (8, .slice x4), (9, .int .i64 x5), (10, .slice x6), (12, .int .i64 x7)]) K =
      w4SyntaxSteps.u5.f k x0 x1 x2 x3 x4 x5 x6 x7 (fun y0 y1 y2 y3 y4 y5 y6 y7 => K .normal (frameL [(0, .str y0), (4, .slice y1), (6, .int .i64 y2), (7, .slice y3), (8, .slice y4), (9, .int .i64 y5), (10, .slice y6), (12, .int .i64 y7)])) (fun y0 => K .ret (frameL [(2, .bool y0)])) (fun y0 y1 y2 y3 y4 y5 => K (.exit 2) (frameL [(0, .str y0), (4, .slice y1), (6, .int .i64 y2), (7, .slice y3), (8, .slice y4), (9, .int .i64 y5)])) := by kernel_rfl
theorem w4SyntaxSteps.u6.ls (k : Nat) (kr : Bool → M α) (kx2 : List UInt8 → Sl → Int → Sl → Sl → Int → M α) (j : Nat) (x0 : List UInt8) (x1 : Sl) (x2 : Int) (x3 : Sl) (x4 : Sl) (x5 : Int) (x6 : Sl) (x7 : Int) : w4SyntaxSteps.u6.l k kr kx2 (j + 1) x0 x1 x2 x3 x4 x5 x6 x7 =
  w4SyntaxSteps.u5.f k x0 x1 x2 x3 x4 x5 x6 x7 (fun y0 y1 y2 y3 y4 y5 y6 y7 => w4SyntaxSteps.u6.l k kr kx2 j y0 y1 y2 y3 y4 y5 y6 y7) kr kx2 := rfl
theorem w4SyntaxSteps.u6.okl (k : Nat) (K : Ex → Frame → M α) : ∀ (j : Nat) (x0 : List UInt8) (x1 : Sl) (x2 : Int) (x3 : Sl) (x4 : Sl) (x5 : Int) (x6 : Sl) (x7 : Int),
    evLoop (evC T (env k) k w4SyntaxSteps.u5.c) [0, 4, 6, 7, 8, 9, 10, 12] j (frameL [(0, .str x0), (4, .slice x1), (6, .int .i64 x2), (7, .slice x3), (8, .slice x4), (9, .int .i64 x5), (10, .slice x6), (12, .int .i64 x7)]) K = w4SyntaxSteps.u6.l k (fun y0 => K .ret (frameL [(2, .bool y0)])) (fun y0 y1 y2 y3 y4 y5 => K (.exit 2) (frameL [(0, .str y0), (4, .slice y1), (6, .int .i64 y2), (7, .slice y3), (8, .slice y4), (9, .int .i64 y5)])) j x0 x1 x2 x3 x4 x5 x6 x7
  | 0, _, _, _, _, _, _, _, _ => rfl
  | j + 1, x0, x1, x2, x3, x4, x5, x6, x7 => by
      have h := w4SyntaxSteps.u5.ok k x0 x1 x2 x3 x4 x5 x6 x7 (seqK (fun ρ => evLoop (evC T (env k) k w4SyntaxSteps.u5.c) [0, 4, 6, 7, 8, 9, 10, 12] j ρ K) K)
      simp only [seqK_exit, seqK_ret, seqK_pan, seqK_normal, w4SyntaxSteps.u6.okl k K j] at h
      exact (evLoop_step (by kernel_rfl) h).trans (w4SyntaxSteps.u6.ls k (fun y0 => K .ret (frameL [(2, .bool y0)])) (fun y0 y1 y2 y3 y4 y5 => K (.exit 2) (frameL [(0, .str y0), (4, .slice y1), (6, .int .i64 y2), (7, .slice y3), (8, .slice y4), (9, .int .i64 y5)])) j x0 x1 x2 x3 x4 x5 x6 x7).symm
theorem w4SyntaxSteps.u6.ok (k : Nat) (x0 : List UInt8) (x1 : Sl) (x2 : Int) (x3 : Sl) (x4 : Sl) (x5 : Int) (x6 : Sl) (x7 : Int) (K : Ex → Frame → M α) :
    evC T (env k) k w4SyntaxSteps.u6.c (frameL [(0, .str x0), (4, .slice x1), (6, .int .i64 x2), (7, .slice x3), (8, .slice x4), (9, .int .i64 x5), (10, .slice x6), (12, .int .i64 x7)]) K =
      w4SyntaxSteps.u6.f k x0 x1 x2 x3 x4 x5 x6 x7 (fun y0 => K .ret (frameL [(2, .bool y0)])) (fun y0 y1 y2 y3 y4 y5 => K (.exit 2) (frameL [(0, .str y0), (4, .slice y1), (6, .int .i64 y2), (7, .slice y3), (8, .slice y4), (9, .int .i64 y5)])) :=
  evC_loop.trans <| (evLoop_keep (body := evC T (env k) k w4SyntaxSteps.u5.c) (keep := [0, 4, 6, 7, 8, 9, 10, 12]) (ρ := (frameL [(0, .str x0), (4, .slice x1), (6, .int .i64 x2), (7, .slice x3), (8, .slice x4), (9, .int .i64 x5), (10, .slice x6), (12, .int .i64 x7)])) (ρ' := (frameL [(0, .str x0), (4, .slice x1), (6, .int .i64 x2), (7, .slice x3), (8, .slice x4), (9, .int .i64 x5), (10, .slice x6), (12, .int .i64 x7)])) (by kernel_rfl) k K).trans (w4SyntaxSteps.u6.okl k K k x0 x1 x2 x3 x4 x5 x6 x7)
theorem w4SyntaxSteps.u7.ok (k : Nat) (x0 : List UInt8) (x1 : Sl) (x2 : Int) (x3 : Sl) (x4 : Sl) (x5 : Int) (x6 : Sl) (x7 : Int) (K : Ex → Frame → M α) :
    evC T (env k) k w4SyntaxSteps.u7.c (frameL [(0, .str x0), (4, .slice x1), (6, .int .i64 x2), (7, .slice x3), (8, .slice x4), (9, .int .i64 x5), (10, .slice x6), (12, .int .i64 x7)]) K =
      w4SyntaxSteps.u7.f k x0 x1 x2 x3 x4 x5 x6 x7 (fun y0 y1 y2 y3 y4 y5 => K .normal (frameL [(0, .str y0), (4, .slice y1), (6, .int .i64 y2), (7, .slice y3), (8, .slice y4), (9, .int .i64 y5)])) (fun y0 => K .ret (frameL [(2, .bool y0)])) :=
  (evC_block.trans (w4SyntaxSteps.u6.ok k x0 x1 x2 x3 x4 x5 x6 x7 (blockK 2 K))).trans (by kernel_rfl)
theorem w4SyntaxSteps.u8.ok (k : Nat) (x0 : List UInt8) (x1 : Sl) (x2 : Int) (x3 : Sl) (x4 : Sl) (x5 : Int) (K : Ex → Frame → M α) :
    evC T (env k) k w4SyntaxSteps.u8.c (frameL [(0, .str x0), (4, .slice x1), (6, .int .i64 x2), (7, .slice x3), (8, .slice x4), (9, .int .i64 x5)]) K =
      w4SyntaxSteps.u8.f k x0 x1 x2 x3 x4 x5 (fun y0 y1 y2 y3 y4 y5 => K .normal (frameL [(0, .str y0), (4, .slice y1), (6, .int .i64 y2), (7, .slice y3), (8, .slice y4), (9, .int .i64 y5)])) (fun y0 => K .ret (frameL [(2, .bool y0)])) :=
  (w4SyntaxSteps.u4.ok k x0 x1 x2 x3 x4 x5 w4SyntaxSteps.u7.c K).trans
    (congrArg (fun z => w4SyntaxSteps.u4.f k x0 x1 x2 x3 x4 x5 z (fun y0 => K .ret (frameL [(2, .bool y0)]))) (funext fun y0 => (funext fun y1 => (funext fun y2 => (funext fun y3 => (funext fun y4 => (funext fun y5 => (funext fun y6 => (funext fun y7 => w4SyntaxSteps.u7.ok k y0 y1 y2 y3 y4 y5 y6 y7 K)))))))))
theorem w4SyntaxSteps.u9.ok (k : Nat) (x0 : List UInt8) (x1 : Sl) (x2 : Int) (x3 : Sl) (x4 : Sl) (x5 : Int) (K : Ex → Frame → M α) :
    evC T (env k) k w4SyntaxSteps.u9.c (frameL [(0, .str x0), (4, .slice x1), (6, .int .i64 x2), (7, .slice x3), (8, .slice x4), (9, .int .i64 x5)]) K =
      w4SyntaxSteps.u9.f k x0 x1 x2 x3 x4 x5 (fun y0 y1 y2 y3 y4 y5 => K .normal (frameL [(0, .str y0), (4, .slice y1), (6, .int .i64 y2), (7, .slice y3), (8, .slice y4), (9, .int .i64 y5)])) (fun y0 => K .ret (frameL [(2, .bool y0)])) :=
  (evC_block.trans (w4SyntaxSteps.u8.ok k x0 x1 x2 x3 x4 x5 (blockK 1 K))).trans (by kernel_rfl)
theorem w4SyntaxSteps.u10.ok (k : Nat) (x0 : List UInt8) (x1 : Sl) (x2 : Int) (x3 : Sl) (x4 : Sl) (x5 : Int) (K : Ex → Frame → M α) :
    evC T (env k) k w4SyntaxSteps.u10.c (frameL [(0, .str x0), (4, .slice x1), (6, .int .i64 x2), (7, .slice x3), (8, .slice x4), (9, .int .i64 x5)]) K =
      w4SyntaxSteps.u10.f k x0 x1 x2 x3 x4 x5 (fun y0 y1 y2 y3 y4 y5 => K .normal (frameL [(0, .str y0), (4, .slice y1), (6, .int .i64 y2), (7, .slice y3), (8, .slice y4), (9, .int .i64 y5)])) := by kernel_rfl
theorem w4SyntaxSteps.u11.ok (k : Nat) (x0 : List UInt8) (x1 : Sl) (x2 : Int) (x3 : Sl) (x4 : Sl) (x5 : Int) (K : Ex → Frame → M α) :
    evC T (env k) k w4SyntaxSteps.u11.c (frameL [(0, .str x0), (4, .slice x1), (6, .int .i64 x2), (7, .slice x3), (8, .slice x4), (9, .int .i64 x5)]) K =
      w4SyntaxSteps.u11.f k x0 x1 x2 x3 x4 x5 (fun y0 y1 y2 y3 y4 y5 => K .normal (frameL [(0, .str y0), (4, .slice y1), (6, .int .i64 y2), (7, .slice y3), (8, .slice y4), (9, .int .i64 y5)])) (fun y0 => K .ret (frameL [(2, .bool y0)])) :=
  by
    have h := w4SyntaxSteps.u9.ok k x0 x1 x2 x3 x4 x5 (seqK (fun ρ => evC T (env k) k w4SyntaxSteps.u10.c ρ K) K)
    simp only [seqK_normal, seqK_exit, seqK_ret, seqK_pan, w4SyntaxSteps.u10.ok] at h
    exact evC_seq_of h
theorem w4SyntaxSteps.u12.ok (k : Nat) (x0 : List UInt8) (x1 : Sl) (x2 : Int) (x3 : Sl) (x4 : Sl) (x5 : Int) (K : Ex → Frame → M α) :
    evC T (env k) k w4SyntaxSteps.u12.c (frameL [(0, .str x0), (4, .slice x1), (6, .int .i64 x2), (7, .slice x3), (8, .slice x4), (9, .int .i64 x5)]) K =
      w4SyntaxSteps.u12.f k x0 x1 x2 x3 x4 x5 (fun y0 y1 y2 y3 y4 y5 => K .normal (frameL [(0, .str y0), (4, .slice y1), (6, .int .i64 y2), (7, .slice y3), (8, .slice y4), (9, .int .i64 y5)])) (fun y0 => K .ret (frameL [(2, .bool y0)])) (K (.exit 0) (frameL [])) :=
  (w4SyntaxSteps.u3.ok k x0 x1 x2 x3 x4 x5 w4SyntaxSteps.u11.c K).trans
    (congrArg (fun z => w4SyntaxSteps.u3.f k x0 x1 x2 x3 x4 x5 z (K (.exit 0) (frameL []))) (funext fun y0 => (funext fun y1 => (funext fun y2 => (funext fun y3 => (funext fun y4 => (funext fun y5 => w4SyntaxSteps.u11.ok k y0 y1 y2 y3 y4 y5 K)))))))
theorem w4SyntaxSteps.u13.ls (k : Nat) (kr : Bool → M α) (kx0 : M α) (j : Nat) (x0 : List UInt8) (x1 : Sl) (x2 : Int) (x3 : Sl) (x4 : Sl) (x5 : Int) : w4SyntaxSteps.u13.l k kr kx0 (j + 1) x0 x1 x2 x3 x4 x5 =
  w4SyntaxSteps.u12.f k x0 x1 x2 x3 x4 x5 (fun y0 y1 y2 y3 y4 y5 => w4SyntaxSteps.u13.l k kr kx0 j y0 y1 y2 y3 y4 y5) kr kx0 := rfl
theorem w4SyntaxSteps.u13.okl (k : Nat) (K : Ex → Frame → M α) : ∀ (j : Nat) (x0 : List UInt8) (x1 : Sl) (x2 : Int) (x3 : Sl) (x4 : Sl) (x5 : Int),
    evLoop (evC T (env k) k w4SyntaxSteps.u12.c) [0, 4, 6, 7, 8, 9] j (frameL [(0, .str x0), (4, .slice x1), (6, .int .i64 x2), (7, .slice x3), (8, .slice x4), (9, .int .i64 x5)]) K = w4SyntaxSteps.u13.l k (fun y0 => K .ret (frameL [(2, .bool y0)])) (K (.exit 0) (frameL [])) j x0 x1 x2 x3 x4 x5
  | 0, _, _, _, _, _, _ => rfl
  | j + 1, x0, x1, x2, x3, x4, x5 => by
      have h := w4SyntaxSteps.u12.ok k x0 x1 x2 x3 x4 x5 (seqK (fun ρ => evLoop (evC T (env k) k w4SyntaxSteps.u12.c) [0, 4, 6, 7, 8, 9] j ρ K) K)
      simp only [seqK_exit, seqK_ret, seqK_pan, seqK_normal, w4SyntaxSteps.u13.okl k K j] at h
      exact (evLoop_step (by kernel_rfl) h).trans (w4SyntaxSteps.u13.ls k (fun y0 => K .ret (frameL [(2, .bool y0)])) (K (.exit 0) (frameL [])) j x0 x1 x2 x3 x4 x5).symm
theorem w4SyntaxSteps.u13.ok (k : Nat) (x0 : List UInt8) (x1 : Sl) (x2 : Int) (x3 : Sl) (x4 : Sl) (x5 : Int) (K : Ex → Frame → M α) :
    evC T (env k) k w4SyntaxSteps.u13.c (frameL [(0, .str x0), (4, .slice x1), (6, .int .i64 x2), (7, .slice x3), (8, .slice x4), (9, .int .i64 x5)]) K =
      w4SyntaxSteps.u13.f k x0 x1 x2 x3 x4 x5 (fun y0 => K .ret (frameL [(2, .bool y0)])) (K (.exit 0) (frameL [])) :=
  evC_loop.trans <| (evLoop_keep (body := evC T (env k) k w4SyntaxSteps.u12.c) (keep := [0, 4, 6, 7, 8, 9]) (ρ := (frameL [(0, .str x0), (4, .slice x1), (6, .int .i64 x2), (7, .slice x3), (8, .slice x4), (9, .int .i64 x5)])) (ρ' := (frameL [(0, .str x0), (4, .slice x1), (6, .int .i64 x2), (7, .slice x3), (8, .slice x4), (9, .int .i64 x5)])) (by kernel_rfl) k K).trans (w4SyntaxSteps.u13.okl k K k x0 x1 x2 x3 x4 x5)
theorem w4SyntaxSteps.u14.ok (k : Nat) (x0 : List UInt8) (x1 : Sl) (x2 : Int) (x3 : Sl) (x4 : Sl) (x5 : Int) (K : Ex → Frame → M α) :
    evC T (env k) k w4SyntaxSteps.u14.c (frameL [(0, .str x0), (4, .slice x1), (6, .int .i64 x2), (7, .slice x3), (8, .slice x4), (9, .int .i64 x5)]) K =
      w4SyntaxSteps.u14.f k x0 x1 x2 x3 x4 x5 (K .normal (frameL [])) (fun y0 => K .ret (frameL [(2, .bool y0)])) :=
  (evC_block.trans (w4SyntaxSteps.u13.ok k x0 x1 x2 x3 x4 x5 (blockK 0 K))).trans (by kernel_rfl)
theorem w4SyntaxSteps.u15.ok (k : Nat) (x0 : List UInt8) (x1 : Sl) (x2 : Int) (x3 : Sl) (x4 : Sl) (K : Ex → Frame → M α) :
    evC T (env k) k w4SyntaxSteps.u15.c (frameL [(0, .str x0), (4, .slice x1), (6, .int .i64 x2), (7, .slice x3), (8, .slice x4)]) K =
      w4SyntaxSteps.u15.f k x0 x1 x2 x3 x4 (K .normal (frameL [])) (fun y0 => K .ret (frameL [(2, .bool y0)])) :=
  (w4SyntaxSteps.u2.ok k x0 x1 x2 x3 x4 w4SyntaxSteps.u14.c K).trans
    (congrArg (fun z => w4SyntaxSteps.u2.f k x0 x1 x2 x3 x4 z) (funext fun y0 => (funext fun y1 => (funext fun y2 => (funext fun y3 => (funext fun y4 => (funext fun y5 => w4SyntaxSteps.u14.ok k y0 y1 y2 y3 y4 y5 K)))))))
theorem w4SyntaxSteps.u16.ok (k : Nat) (K : Ex → Frame → M α) :
    evC T (env k) k w4SyntaxSteps.u16.c (frameL []) K =
      w4SyntaxSteps.u16.f k (fun y0 => K .ret (frameL [(2, .bool y0)])) := by kernel_rfl
theorem w4SyntaxSteps.u17.ok (k : Nat) (x0 : List UInt8) (x1 : Sl) (x2 : Int) (x3 : Sl) (x4 : Sl) (K : Ex → Frame → M α) :
    evC T (env k) k w4SyntaxSteps.u17.c (frameL [(0, .str x0), (4, .slice x1), (6, .int .i64 x2), (7, .slice x3), (8, .slice x4)]) K =
      w4SyntaxSteps.u17.f k x0 x1 x2 x3 x4 (fun y0 => K .ret (frameL [(2, .bool y0)])) :=
  by
    have h := w4SyntaxSteps.u15.ok k x0 x1 x2 x3 x4 (seqK (fun ρ => evC T (env k) k w4SyntaxSteps.u16.c ρ K) K)
    simp only [seqK_normal, seqK_exit, seqK_ret, seqK_pan, w4SyntaxSteps.u16.ok] at h
    exact evC_seq_of h
theorem w4SyntaxSteps.u18.ok (k : Nat) (x0 : List UInt8) (K : Ex → Frame → M α) :
    evC T (env k) k w4SyntaxSteps.u18.c (frameL [(0, .str x0)]) K =
      w4SyntaxSteps.u18.f k x0 (fun y0 => K .ret (frameL [(2, .bool y0)])) :=
  (w4SyntaxSteps.u1.ok k x0 w4SyntaxSteps.u17.c K).trans
    (congrArg (fun z => w4SyntaxSteps.u1.f k x0 z (fun y0 => K .ret (frameL [(2, .bool y0)]))) (funext fun y0 => (funext fun y1 => (funext fun y2 => (funext fun y3 => (funext fun y4 => w4SyntaxSteps.u17.ok k y0 y1 y2 y3 y4 K))))))
theorem w4SyntaxSteps.ok (k : Nat) (x0 : List UInt8) (κ : Res → M α) :
    evF T (env k) k w4SyntaxSteps.c w4SyntaxSteps.res [.str x0] κ = w4SyntaxSteps.f (k + 1) x0 (fun o0 => κ (.ret (.bool o0))) :=
  (w4SyntaxSteps.u18.ok k x0 (retK T w4SyntaxSteps.res κ)).trans (by kernel_rfl)
theorem w4SyntaxSteps.code : w4SyntaxSteps.c.code = bodyOf Try.f11 := by kernel_rfl
end
end Go.Ab.S3
