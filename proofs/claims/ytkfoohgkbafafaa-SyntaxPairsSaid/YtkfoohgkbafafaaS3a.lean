import Derived.Test.YtkfoohgkbafafaaS3a0
import Derived.Test.YtkfoohgkbafafaaAb24
import Derived.Test.YtkfoohgkbafafaaProg
import Derived.KernelRfl
namespace Go.Ab.S3
section
variable {α : Type}
open Go.Proofs
set_option linter.unusedVariables false
set_option linter.unusedSimpArgs false
noncomputable def slEq.c : IC := slEq.u9.c
noncomputable def slEq.res : List ResultVar := [(.tmp 4)]
theorem slEq.u1.ok (k : Nat) (x0 : Sl) (x1 : Sl) (R : IC) (K : Ex → Frame → M α) :
    evC T (env k) k (slEq.u1.c R) (frameL [(0, .slice x0), (1, .slice x1)]) K =
      slEq.u1.f k x0 x1 (fun y0 y1 => evC T (env k) k R (frameL [(0, .slice y0), (1, .slice y1)]) K) (fun y0 => K .ret (frameL [(4, .bool y0)])) := by kernel_rfl
theorem slEq.u2.ok (k : Nat) (x0 : Sl) (x1 : Sl) (R : IC) (K : Ex → Frame → M α) :
    evC T (env k) k (slEq.u2.c R) (frameL [(0, .slice x0), (1, .slice x1)]) K =
      slEq.u2.f k x0 x1 (fun y0 y1 y2 y3 => evC T (env k) k R (frameL [(0, .slice y0), (1, .slice y1), (12, .int .i64 y2), (13, .int .i64 y3)]) K) := by kernel_rfl
theorem slEq.u3.ok (k : Nat) (x0 : Sl) (x1 : Sl) (x2 : Int) (x3 : Int) (K : Ex → Frame → M α) :
    evC T (env k) k slEq.u3.c (frameL [(0, .slice x0), (1, .slice x1), (12, .int .i64 x2), (13, .int .i64 x3)]) K =
      slEq.u3.f k x0 x1 x2 x3 (fun y0 y1 y2 y3 => K .normal (frameL [(0, .slice y0), (1, .slice y1), (12, .int .i64 y2), (13, .int .i64 y3)])) (fun y0 => K .ret (frameL [(4, .bool y0)])) (K (.exit 0) (frameL [])) := by kernel_rfl
theorem slEq.u4.ls (k : Nat) (kr : Bool → M α) (kx0 : M α) (j : Nat) (x0 : Sl) (x1 : Sl) (x2 : Int) (x3 : Int) : slEq.u4.l k kr kx0 (j + 1) x0 x1 x2 x3 =
  slEq.u3.f k x0 x1 x2 x3 (fun y0 y1 y2 y3 => slEq.u4.l k kr kx0 j y0 y1 y2 y3) kr kx0 := rfl
theorem slEq.u4.okl (k : Nat) (K : Ex → Frame → M α) : ∀ (j : Nat) (x0 : Sl) (x1 : Sl) (x2 : Int) (x3 : Int),
    evLoop (evC T (env k) k slEq.u3.c) [0, 1, 12, 13] j (frameL [(0, .slice x0), (1, .slice x1), (12, .int .i64 x2), (13, .int .i64 x3)]) K = slEq.u4.l k (fun y0 => K .ret (frameL [(4, .bool y0)])) (K (.exit 0) (frameL [])) j x0 x1 x2 x3
  | 0, _, _, _, _ => rfl
  | j + 1, x0, x1, x2, x3 => by
      have h := slEq.u3.ok k x0 x1 x2 x3 (seqK (fun ρ => evLoop (evC T (env k) k slEq.u3.c) [0, 1, 12, 13] j ρ K) K)
      simp only [seqK_exit, seqK_ret, seqK_pan, seqK_normal, slEq.u4.okl k K j] at h
      exact (evLoop_step (by kernel_rfl) h).trans (slEq.u4.ls k (fun y0 => K .ret (frameL [(4, .bool y0)])) (K (.exit 0) (frameL [])) j x0 x1 x2 x3).symm
theorem slEq.u4.ok (k : Nat) (x0 : Sl) (x1 : Sl) (x2 : Int) (x3 : Int) (K : Ex → Frame → M α) :
    evC T (env k) k slEq.u4.c (frameL [(0, .slice x0), (1, .slice x1), (12, .int .i64 x2), (13, .int .i64 x3)]) K =
      slEq.u4.f k x0 x1 x2 x3 (fun y0 => K .ret (frameL [(4, .bool y0)])) (K (.exit 0) (frameL [])) :=
  evC_loop.trans <| (evLoop_keep (body := evC T (env k) k slEq.u3.c) (keep := [0, 1, 12, 13]) (ρ := (frameL [(0, .slice x0), (1, .slice x1), (12, .int .i64 x2), (13, .int .i64 x3)])) (ρ' := (frameL [(0, .slice x0), (1, .slice x1), (12, .int .i64 x2), (13, .int .i64 x3)])) (by kernel_rfl) k K).trans (slEq.u4.okl k K k x0 x1 x2 x3)
theorem slEq.u5.ok (k : Nat) (x0 : Sl) (x1 : Sl) (x2 : Int) (x3 : Int) (K : Ex → Frame → M α) :
    evC T (env k) k slEq.u5.c (frameL [(0, .slice x0), (1, .slice x1), (12, .int .i64 x2), (13, .int .i64 x3)]) K =
      slEq.u5.f k x0 x1 x2 x3 (K .normal (frameL [])) (fun y0 => K .ret (frameL [(4, .bool y0)])) :=
  (evC_block.trans (slEq.u4.ok k x0 x1 x2 x3 (blockK 0 K))).trans (by kernel_rfl)
theorem slEq.u6.ok (k : Nat) (x0 : Sl) (x1 : Sl) (K : Ex → Frame → M α) :
    evC T (env k) k slEq.u6.c (frameL [(0, .slice x0), (1, .slice x1)]) K =
      slEq.u6.f k x0 x1 (K .normal (frameL [])) (fun y0 => K .ret (frameL [(4, .bool y0)])) :=
  (slEq.u2.ok k x0 x1 slEq.u5.c K).trans
    (congrArg (fun z => slEq.u2.f k x0 x1 z) (funext fun y0 => (funext fun y1 => (funext fun y2 => (funext fun y3 => slEq.u5.ok k y0 y1 y2 y3 K)))))
theorem slEq.u7.ok (k : Nat) (K : Ex → Frame → M α) :
    evC T (env k) k slEq.u7.c (frameL []) K =
      slEq.u7.f k (fun y0 => K .ret (frameL [(4, .bool y0)])) := by kernel_rfl
theorem slEq.u8.ok (k : Nat) (x0 : Sl) (x1 : Sl) (K : Ex → Frame → M α) :
    evC T (env k) k slEq.u8.c (frameL [(0, .slice x0), (1, .slice x1)]) K =
      slEq.u8.f k x0 x1 (fun y0 => K .ret (frameL [(4, .bool y0)])) :=
  by
    have h := slEq.u6.ok k x0 x1 (seqK (fun ρ => evC T (env k) k slEq.u7.c ρ K) K)
    simp only [seqK_normal, seqK_exit, seqK_ret, seqK_pan, slEq.u7.ok] at h
    exact evC_seq_of h
theorem slEq.u9.ok (k : Nat) (x0 : Sl) (x1 : Sl) (K : Ex → Frame → M α) :
    evC T (env k) k slEq.u9.c (frameL [(0, .slice x0), (1, .slice x1)]) K =
      slEq.u9.f k x0 x1 (fun y0 => K .ret (frameL [(4, .bool y0)])) :=
  (slEq.u1.ok k x0 x1 slEq.u8.c K).trans
    (congrArg (fun z => slEq.u1.f k x0 x1 z (fun y0 => K .ret (frameL [(4, .bool y0)]))) (funext fun y0 => (funext fun y1 => slEq.u8.ok k y0 y1 K)))
theorem slEq.ok (k : Nat) (x0 : Sl) (x1 : Sl) (κ : Res → M α) :
    evF T (env k) k slEq.c slEq.res [.slice x0, .slice x1] κ = slEq.f (k + 1) x0 x1 (fun o0 => κ (.ret (.bool o0))) :=
  (slEq.u9.ok k x0 x1 (retK T slEq.res κ)).trans (by kernel_rfl)
theorem slEq.code : slEq.c.code = bodyOf Try.f39 := by kernel_rfl
noncomputable def syntax_Right.c : IC := syntax_Right.u9.c
noncomputable def syntax_Right.res : List ResultVar := [(.tmp 2)]
theorem syntax_Right.u1.ok (k : Nat) (x0 : Sl) (R : IC) (K : Ex → Frame → M α) :
    evC T (env k) k (syntax_Right.u1.c R) (frameL [(0, .slice x0)]) K =
      syntax_Right.u1.f k x0 (fun y0 y1 => evC T (env k) k R (frameL [(0, .slice y0), (3, .slice y1)]) K) (fun y0 => K .ret (frameL [(2, .bool y0)])) := by kernel_rfl
theorem syntax_Right.u2.ok (k : Nat) (x0 : Sl) (x1 : Sl) (R : IC) (K : Ex → Frame → M α) :
    evC T (env k) k (syntax_Right.u2.c R) (frameL [(0, .slice x0), (3, .slice x1)]) K =
      syntax_Right.u2.f k x0 x1 (fun y0 y1 y2 y3 => evC T (env k) k R (frameL [(3, .slice y0), (17, .slice y1), (18, .int .i64 y2), (19, .int .i64 y3)]) K) := by kernel_rfl
theorem syntax_Right.u3.ok (k : Nat) (x0 : Sl) (x1 : Sl) (x2 : Int) (x3 : Int) (K : Ex → Frame → M α) :
    evC T (env k) k syntax_Right.u3.c (frameL [(3, .slice x0), (17, .slice x1), (18, .int .i64 x2), (19, .int .i64 x3)]) K =
      syntax_Right.u3.f k x0 x1 x2 x3 (fun y0 y1 y2 y3 => K .normal (frameL [(3, .slice y0), (17, .slice y1), (18, .int .i64 y2), (19, .int .i64 y3)])) (fun y0 => K .ret (frameL [(2, .bool y0)])) (fun y0 => K (.exit 0) (frameL [(3, .slice y0)])) := by kernel_rfl
theorem syntax_Right.u4.ls (k : Nat) (kr : Bool → M α) (kx0 : Sl → M α) (j : Nat) (x0 : Sl) (x1 : Sl) (x2 : Int) (x3 : Int) : syntax_Right.u4.l k kr kx0 (j + 1) x0 x1 x2 x3 =
  syntax_Right.u3.f k x0 x1 x2 x3 (fun y0 y1 y2 y3 => syntax_Right.u4.l k kr kx0 j y0 y1 y2 y3) kr kx0 := rfl
theorem syntax_Right.u4.okl (k : Nat) (K : Ex → Frame → M α) : ∀ (j : Nat) (x0 : Sl) (x1 : Sl) (x2 : Int) (x3 : Int),
    evLoop (evC T (env k) k syntax_Right.u3.c) [3, 17, 18, 19] j (frameL [(3, .slice x0), (17, .slice x1), (18, .int .i64 x2), (19, .int .i64 x3)]) K = syntax_Right.u4.l k (fun y0 => K .ret (frameL [(2, .bool y0)])) (fun y0 => K (.exit 0) (frameL [(3, .slice y0)])) j x0 x1 x2 x3
  | 0, _, _, _, _ => rfl
  | j + 1, x0, x1, x2, x3 => by
      have h := syntax_Right.u3.ok k x0 x1 x2 x3 (seqK (fun ρ => evLoop (evC T (env k) k syntax_Right.u3.c) [3, 17, 18, 19] j ρ K) K)
      simp only [seqK_exit, seqK_ret, seqK_pan, seqK_normal, syntax_Right.u4.okl k K j] at h
      exact (evLoop_step (by kernel_rfl) h).trans (syntax_Right.u4.ls k (fun y0 => K .ret (frameL [(2, .bool y0)])) (fun y0 => K (.exit 0) (frameL [(3, .slice y0)])) j x0 x1 x2 x3).symm
theorem syntax_Right.u4.ok (k : Nat) (x0 : Sl) (x1 : Sl) (x2 : Int) (x3 : Int) (K : Ex → Frame → M α) :
    evC T (env k) k syntax_Right.u4.c (frameL [(3, .slice x0), (17, .slice x1), (18, .int .i64 x2), (19, .int .i64 x3)]) K =
      syntax_Right.u4.f k x0 x1 x2 x3 (fun y0 => K .ret (frameL [(2, .bool y0)])) (fun y0 => K (.exit 0) (frameL [(3, .slice y0)])) :=
  evC_loop.trans <| (evLoop_keep (body := evC T (env k) k syntax_Right.u3.c) (keep := [3, 17, 18, 19]) (ρ := (frameL [(3, .slice x0), (17, .slice x1), (18, .int .i64 x2), (19, .int .i64 x3)])) (ρ' := (frameL [(3, .slice x0), (17, .slice x1), (18, .int .i64 x2), (19, .int .i64 x3)])) (by kernel_rfl) k K).trans (syntax_Right.u4.okl k K k x0 x1 x2 x3)
theorem syntax_Right.u5.ok (k : Nat) (x0 : Sl) (x1 : Sl) (x2 : Int) (x3 : Int) (K : Ex → Frame → M α) :
    evC T (env k) k syntax_Right.u5.c (frameL [(3, .slice x0), (17, .slice x1), (18, .int .i64 x2), (19, .int .i64 x3)]) K =
      syntax_Right.u5.f k x0 x1 x2 x3 (fun y0 => K .normal (frameL [(3, .slice y0)])) (fun y0 => K .ret (frameL [(2, .bool y0)])) :=
  (evC_block.trans (syntax_Right.u4.ok k x0 x1 x2 x3 (blockK 0 K))).trans (by kernel_rfl)
theorem syntax_Right.u6.ok (k : Nat) (x0 : Sl) (x1 : Sl) (K : Ex → Frame → M α) :
    evC T (env k) k syntax_Right.u6.c (frameL [(0, .slice x0), (3, .slice x1)]) K =
      syntax_Right.u6.f k x0 x1 (fun y0 => K .normal (frameL [(3, .slice y0)])) (fun y0 => K .ret (frameL [(2, .bool y0)])) :=
  (syntax_Right.u2.ok k x0 x1 syntax_Right.u5.c K).trans
    (congrArg (fun z => syntax_Right.u2.f k x0 x1 z) (funext fun y0 => (funext fun y1 => (funext fun y2 => (funext fun y3 => syntax_Right.u5.ok k y0 y1 y2 y3 K)))))
theorem syntax_Right.u7.ok (k : Nat) (x0 : Sl) (K : Ex → Frame → M α) :
    evC T (env k) k syntax_Right.u7.c (frameL [(3, .slice x0)]) K =
      syntax_Right.u7.f k x0 (fun y0 => K .ret (frameL [(2, .bool y0)])) := by kernel_rfl
theorem syntax_Right.u8.ok (k : Nat) (x0 : Sl) (x1 : Sl) (K : Ex → Frame → M α) :
    evC T (env k) k syntax_Right.u8.c (frameL [(0, .slice x0), (3, .slice x1)]) K =
      syntax_Right.u8.f k x0 x1 (fun y0 => K .ret (frameL [(2, .bool y0)])) :=
  by
    have h := syntax_Right.u6.ok k x0 x1 (seqK (fun ρ => evC T (env k) k syntax_Right.u7.c ρ K) K)
    simp only [seqK_normal, seqK_exit, seqK_ret, seqK_pan, syntax_Right.u7.ok] at h
    exact evC_seq_of h
theorem syntax_Right.u9.ok (k : Nat) (x0 : Sl) (K : Ex → Frame → M α) :
    evC T (env k) k syntax_Right.u9.c (frameL [(0, .slice x0)]) K =
      syntax_Right.u9.f k x0 (fun y0 => K .ret (frameL [(2, .bool y0)])) :=
  (syntax_Right.u1.ok k x0 syntax_Right.u8.c K).trans
    (congrArg (fun z => syntax_Right.u1.f k x0 z (fun y0 => K .ret (frameL [(2, .bool y0)]))) (funext fun y0 => (funext fun y1 => syntax_Right.u8.ok k y0 y1 K)))
theorem syntax_Right.ok (k : Nat) (x0 : Sl) (κ : Res → M α) :
    evF T (env k) k syntax_Right.c syntax_Right.res [.slice x0] κ = syntax_Right.f (k + 1) x0 (fun o0 => κ (.ret (.bool o0))) :=
  (syntax_Right.u9.ok k x0 (retK T syntax_Right.res κ)).trans (by kernel_rfl)
theorem syntax_Right.code : syntax_Right.c.code = bodyOf Try.f19 := by kernel_rfl
noncomputable def strings_Builder_WriteString.c : IC := strings_Builder_WriteString.u1.c
noncomputable def strings_Builder_WriteString.res : List ResultVar := [(.tmp 4), (.tmp 5)]
theorem strings_Builder_WriteString.u1.ok (k : Nat) (x0 : Ad) (x1 : List UInt8) (K : Ex → Frame → M α) :
    evC T (env k) k strings_Builder_WriteString.u1.c (frameL [(0, .ptr (some x0)), (1, .str x1)]) K =
      strings_Builder_WriteString.u1.f k x0 x1 (fun y0 => K .ret (frameL [(4, .int .i64 y0), (5, .nilIface)])) := by kernel_rfl
theorem strings_Builder_WriteString.ok (k : Nat) (x0 : Ad) (x1 : List UInt8) (κ : Res → M α) :
    evF T (env k) k strings_Builder_WriteString.c strings_Builder_WriteString.res [.ptr (some x0), .str x1] κ = strings_Builder_WriteString.f (k + 1) x0 x1 (fun o0 o1 => κ (.ret (.tuple [.int .i64 o0, o1]))) :=
  (strings_Builder_WriteString.u1.ok k x0 x1 (retK T strings_Builder_WriteString.res κ)).trans (by kernel_rfl)
theorem strings_Builder_WriteString.code : strings_Builder_WriteString.c.code = bodyOf Try.f56 := by kernel_rfl
noncomputable def syntax_fix.c : IC := syntax_fix.u1.c
noncomputable def syntax_fix.res : List ResultVar := [(.tmp 2)]
theorem syntax_fix.u1.ok (k : Nat) (x0 : Int) (K : Ex → Frame → M α) :
    evC T (env k) k syntax_fix.u1.c (frameL [(0, .int .i64 x0)]) K =
      syntax_fix.u1.f k x0 (fun y0 => K .ret (frameL [(2, .bool y0)])) := by kernel_rfl
theorem syntax_fix.ok (k : Nat) (x0 : Int) (κ : Res → M α) :
    evF T (env k) k syntax_fix.c syntax_fix.res [.int .i64 x0] κ = syntax_fix.f (k + 1) x0 (fun o0 => κ (.ret (.bool o0))) :=
  (syntax_fix.u1.ok k x0 (retK T syntax_fix.res κ)).trans (by kernel_rfl)
theorem syntax_fix.code : syntax_fix.c.code = bodyOf Try.f68 := by kernel_rfl
noncomputable def syntax_write.c : IC := syntax_write.u3.c
noncomputable def syntax_write.res : List ResultVar := []
theorem syntax_write.u1.ok (k : Nat) (x0 : Ad) (x1 : Sl) (x2 : Int) (R : IC) (K : Ex → Frame → M α) :
    evC T (env k) k (syntax_write.u1.c R) (frameL [(0, .ptr (some x0)), (1, .slice x1), (2, .int .i64 x2)]) K =
      syntax_write.u1.f k (syntax_operand.f k) x0 x1 x2 (fun y0 y1 y2 => evC T (env k) k R (frameL [(0, .ptr (some y0)), (1, .slice y1), (6, .ptr (some y2))]) K) (K .ret (frameL [])) := by kernel_rfl
theorem syntax_write.u2.ok (k : Nat) (x0 : Ad) (x1 : Sl) (x2 : Ad) (K : Ex → Frame → M α) :
    evC T (env k) k syntax_write.u2.c (frameL [(0, .ptr (some x0)), (1, .slice x1), (6, .ptr (some x2))]) K =
      syntax_write.u2.f k (syntax_operand.f k) x0 x1 x2 (K .normal (frameL [])) := by kernel_rfl
theorem syntax_write.u3.ok (k : Nat) (x0 : Ad) (x1 : Sl) (x2 : Int) (K : Ex → Frame → M α) :
    evC T (env k) k syntax_write.u3.c (frameL [(0, .ptr (some x0)), (1, .slice x1), (2, .int .i64 x2)]) K =
      syntax_write.u3.f k (syntax_operand.f k) x0 x1 x2 (K .normal (frameL [])) (K .ret (frameL [])) :=
  (syntax_write.u1.ok k x0 x1 x2 syntax_write.u2.c K).trans
    (congrArg (fun z => syntax_write.u1.f k (syntax_operand.f k) x0 x1 x2 z (K .ret (frameL []))) (funext fun y0 => (funext fun y1 => (funext fun y2 => syntax_write.u2.ok k y0 y1 y2 K))))
theorem syntax_write.ok (k : Nat) (x0 : Ad) (x1 : Sl) (x2 : Int) (κ : Res → M α) :
    evF T (env k) k syntax_write.c syntax_write.res [.ptr (some x0), .slice x1, .int .i64 x2] κ = syntax_write.f (k + 1) x0 x1 x2 (κ (.ret (.tuple []))) :=
  (syntax_write.u3.ok k x0 x1 x2 (retK T syntax_write.res κ)).trans (by kernel_rfl)
theorem syntax_write.code : syntax_write.c.code = bodyOf Try.f41 := by kernel_rfl
noncomputable def syntax_operand.c : IC := syntax_operand.u1.c
noncomputable def syntax_operand.res : List ResultVar := []
theorem syntax_operand.u1.ok (k : Nat) (x0 : Ad) (x1 : Sl) (x2 : Int) (x3 : Int) (x4 : Bool) (K : Ex → Frame → M α) :
    evC T (env k) k syntax_operand.u1.c (frameL [(0, .ptr (some x0)), (1, .slice x1), (2, .int .i64 x2), (3, .int .i64 x3), (4, .bool x4)]) K =
      syntax_operand.u1.f k (syntax_write.f k) x0 x1 x2 x3 x4 (K .normal (frameL [])) := by kernel_rfl
theorem syntax_operand.ok (k : Nat) (x0 : Ad) (x1 : Sl) (x2 : Int) (x3 : Int) (x4 : Bool) (κ : Res → M α) :
    evF T (env k) k syntax_operand.c syntax_operand.res [.ptr (some x0), .slice x1, .int .i64 x2, .int .i64 x3, .bool x4] κ = syntax_operand.f (k + 1) x0 x1 x2 x3 x4 (κ (.ret (.tuple []))) :=
  (syntax_operand.u1.ok k x0 x1 x2 x3 x4 (retK T syntax_operand.res κ)).trans (by kernel_rfl)
theorem syntax_operand.code : syntax_operand.c.code = bodyOf Try.f57 := by kernel_rfl
noncomputable def syntax_Print.c : IC := syntax_Print.u1.c
noncomputable def syntax_Print.res : List ResultVar := [(.tmp 2)]
theorem syntax_Print.u1.ok (k : Nat) (x0 : Sl) (K : Ex → Frame → M α) :
    evC T (env k) k syntax_Print.u1.c (frameL [(0, .slice x0)]) K =
      syntax_Print.u1.f k x0 (fun y0 => K .ret (frameL [(2, .str y0)])) := by kernel_rfl
theorem syntax_Print.ok (k : Nat) (x0 : Sl) (κ : Res → M α) :
    evF T (env k) k syntax_Print.c syntax_Print.res [.slice x0] κ = syntax_Print.f (k + 1) x0 (fun o0 => κ (.ret (.str o0))) :=
  (syntax_Print.u1.ok k x0 (retK T syntax_Print.res κ)).trans (by kernel_rfl)
theorem syntax_Print.code : syntax_Print.c.code = bodyOf Try.f25 := by kernel_rfl
noncomputable def w4shown.c : IC := w4shown.u1.c
noncomputable def w4shown.res : List ResultVar := [(.tmp 0)]
theorem w4shown.u1.ok (k : Nat) (K : Ex → Frame → M α) :
    evC T (env k) k w4shown.u1.c (frameL []) K =
      w4shown.u1.f k (fun y0 => K .ret (frameL [(0, .bool y0)])) := by kernel_rfl
theorem w4shown.ok (k : Nat) (κ : Res → M α) :
    evF T (env k) k w4shown.c w4shown.res [] κ = w4shown.f (k + 1) (fun o0 => κ (.ret (.bool o0))) :=
  (w4shown.u1.ok k (retK T w4shown.res κ)).trans (by kernel_rfl)
theorem w4shown.code : w4shown.c.code = bodyOf Try.f21 := by kernel_rfl
noncomputable def r4Below.c : IC := r4Below.u1.c
noncomputable def r4Below.res : List ResultVar := [(.tmp 2)]
theorem r4Below.u1.ok (k : Nat) (x0 : Int) (K : Ex → Frame → M α) :
    evC T (env k) k r4Below.u1.c (frameL [(0, .int .i64 x0)]) K =
      r4Below.u1.f k x0 (fun y0 => K .ret (frameL [(2, .int .i64 y0)])) := by kernel_rfl
theorem r4Below.ok (k : Nat) (x0 : Int) (κ : Res → M α) :
    evF T (env k) k r4Below.c r4Below.res [.int .i64 x0] κ = r4Below.f (k + 1) x0 (fun o0 => κ (.ret (.int .i64 o0))) :=
  (r4Below.u1.ok k x0 (retK T r4Below.res κ)).trans (by kernel_rfl)
theorem r4Below.code : r4Below.c.code = bodyOf Try.f28 := by kernel_rfl
noncomputable def w4SyntaxPairs.c : IC := w4SyntaxPairs.u26.c
noncomputable def w4SyntaxPairs.res : List ResultVar := [(.tmp 6)]
theorem w4SyntaxPairs.u1.ok (k : Nat) (x0 : List UInt8) (x1 : List UInt8) (x2 : Bool) (R : IC) (K : Ex → Frame → M α) :
    evC T (env k) k (w4SyntaxPairs.u1.c R) (frameL [(0, .str x0), (1, .str x1), (2, .bool x2)]) K =
      w4SyntaxPairs.u1.f k x0 x1 x2 (fun y0 y1 y2 y3 y4 y5 => evC T (env k) k R (frameL [(0, .str y0), (1, .str y1), (8, .slice y2), (10, .slice y3), (12, .str y4), (13, .int .i64 y5)]) K) (fun y0 => K .ret (frameL [(6, .bool y0)])) := by kernel_rfl
theorem w4SyntaxPairs.u2.ok (k : Nat) (x0 : List UInt8) (x1 : List UInt8) (x2 : Sl) (x3 : Sl) (x4 : List UInt8) (x5 : Int) (R : IC) (K : Ex → Frame → M α) :
    evC T (env k) k (w4SyntaxPairs.u2.c R) (frameL [(0, .str x0), (1, .str x1), (8, .slice x2), (10, .slice x3), (12, .str x4), (13, .int .i64 x5)]) K =
      w4SyntaxPairs.u2.f k x0 x1 x2 x3 x4 x5 (fun y0 y1 y2 y3 y4 y5 => evC T (env k) k R (frameL [(0, .str y0), (8, .slice y1), (10, .slice y2), (13, .int .i64 y3), (14, .slice y4), (16, .int .i64 y5)]) K) (fun y0 => K .ret (frameL [(6, .bool y0)])) := by kernel_rfl
theorem w4SyntaxPairs.u3.ok (k : Nat) (x0 : List UInt8) (x1 : Sl) (x2 : Sl) (x3 : Int) (x4 : Sl) (x5 : Int) (R : IC) (K : Ex → Frame → M α) :
    evC T (env k) k (w4SyntaxPairs.u3.c R) (frameL [(0, .str x0), (8, .slice x1), (10, .slice x2), (13, .int .i64 x3), (14, .slice x4), (16, .int .i64 x5)]) K =
      w4SyntaxPairs.u3.f k x0 x1 x2 x3 x4 x5 (fun y0 y1 y2 y3 y4 y5 y6 => evC T (env k) k R (frameL [(0, .str y0), (8, .slice y1), (10, .slice y2), (13, .int .i64 y3), (14, .slice y4), (16, .int .i64 y5), (17, .int .i64 y6)]) K) := by kernel_rfl
theorem w4SyntaxPairs.u4.ok (k : Nat) (x0 : List UInt8) (x1 : Sl) (x2 : Sl) (x3 : Int) (x4 : Sl) (x5 : Int) (x6 : Int) (K : Ex → Frame → M α) :
    evC T (env k) k w4SyntaxPairs.u4.c (frameL [(0, .str x0), (8, .slice x1), (10, .slice x2), (13, .int .i64 x3), (14, .slice x4), (16, .int .i64 x5), (17, .int .i64 x6)]) K =
      w4SyntaxPairs.u4.f k x0 x1 x2 x3 x4 x5 x6 (fun y0 y1 y2 y3 y4 y5 y6 => K .normal (frameL [(0, .str y0), (8, .slice y1), (10, .slice y2), (13, .int .i64 y3), (14, .slice y4), (16, .int .i64 y5), (17, .int .i64 y6)])) (fun y0 => K .ret (frameL [(6, .bool y0)])) (fun y0 y1 y2 y3 y4 => K (.exit 0) (frameL [(0, .str y0), (10, .slice y1), (13, .int .i64 y2), (14, .slice y3), (16, .int .i64 y4)])) := by kernel_rfl
theorem w4SyntaxPairs.u5.ls (k : Nat) (kr : Bool → M α) (kx0 : List UInt8 → Sl → Int → Sl → Int → M α) (j : Nat) (x0 : List UInt8) (x1 : Sl) (x2 : Sl) (x3 : Int) (x4 : Sl) (x5 : Int) (x6 : Int) : w4SyntaxPairs.u5.l k kr kx0 (j + 1) x0 x1 x2 x3 x4 x5 x6 =
  w4SyntaxPairs.u4.f k x0 x1 x2 x3 x4 x5 x6 (fun y0 y1 y2 y3 y4 y5 y6 => w4SyntaxPairs.u5.l k kr kx0 j y0 y1 y2 y3 y4 y5 y6) kr kx0 := rfl
theorem w4SyntaxPairs.u5.okl (k : Nat) (K : Ex → Frame → M α) : ∀ (j : Nat) (x0 : List UInt8) (x1 : Sl) (x2 : Sl) (x3 : Int) (x4 : Sl) (x5 : Int) (x6 : Int),
    evLoop (evC T (env k) k w4SyntaxPairs.u4.c) [0, 8, 10, 13, 14, 16, 17] j (frameL [(0, .str x0), (8, .slice x1), (10, .slice x2), (13, .int .i64 x3), (14, .slice x4), (16, .int .i64 x5), (17, .int .i64 x6)]) K = w4SyntaxPairs.u5.l k (fun y0 => K .ret (frameL [(6, .bool y0)])) (fun y0 y1 y2 y3 y4 => K (.exit 0) (frameL [(0, .str y0), (10, .slice y1), (13, .int .i64 y2), (14, .slice y3), (16, .int .i64 y4)])) j x0 x1 x2 x3 x4 x5 x6
  | 0, _, _, _, _, _, _, _ => rfl
  | j + 1, x0, x1, x2, x3, x4, x5, x6 => by
      have h := w4SyntaxPairs.u4.ok k x0 x1 x2 x3 x4 x5 x6 (seqK (fun ρ => evLoop (evC T (env k) k w4SyntaxPairs.u4.c) [0, 8, 10, 13, 14, 16, 17] j ρ K) K)
      simp only [seqK_exit, seqK_ret, seqK_pan, seqK_normal, w4SyntaxPairs.u5.okl k K j] at h
      exact (evLoop_step (by kernel_rfl) h).trans (w4SyntaxPairs.u5.ls k (fun y0 => K .ret (frameL [(6, .bool y0)])) (fun y0 y1 y2 y3 y4 => K (.exit 0) (frameL [(0, .str y0), (10, .slice y1), (13, .int .i64 y2), (14, .slice y3), (16, .int .i64 y4)])) j x0 x1 x2 x3 x4 x5 x6).symm
theorem w4SyntaxPairs.u5.ok (k : Nat) (x0 : List UInt8) (x1 : Sl) (x2 : Sl) (x3 : Int) (x4 : Sl) (x5 : Int) (x6 : Int) (K : Ex → Frame → M α) :
    evC T (env k) k w4SyntaxPairs.u5.c (frameL [(0, .str x0), (8, .slice x1), (10, .slice x2), (13, .int .i64 x3), (14, .slice x4), (16, .int .i64 x5), (17, .int .i64 x6)]) K =
      w4SyntaxPairs.u5.f k x0 x1 x2 x3 x4 x5 x6 (fun y0 => K .ret (frameL [(6, .bool y0)])) (fun y0 y1 y2 y3 y4 => K (.exit 0) (frameL [(0, .str y0), (10, .slice y1), (13, .int .i64 y2), (14, .slice y3), (16, .int .i64 y4)])) :=
  evC_loop.trans <| (evLoop_keep (body := evC T (env k) k w4SyntaxPairs.u4.c) (keep := [0, 8, 10, 13, 14, 16, 17]) (ρ := (frameL [(0, .str x0), (8, .slice x1), (10, .slice x2), (13, .int .i64 x3), (14, .slice x4), (16, .int .i64 x5), (17, .int .i64 x6)])) (ρ' := (frameL [(0, .str x0), (8, .slice x1), (10, .slice x2), (13, .int .i64 x3), (14, .slice x4), (16, .int .i64 x5), (17, .int .i64 x6)])) (by kernel_rfl) k K).trans (w4SyntaxPairs.u5.okl k K k x0 x1 x2 x3 x4 x5 x6)
theorem w4SyntaxPairs.u6.ok (k : Nat) (x0 : List UInt8) (x1 : Sl) (x2 : Sl) (x3 : Int) (x4 : Sl) (x5 : Int) (x6 : Int) (K : Ex → Frame → M α) :
    evC T (env k) k w4SyntaxPairs.u6.c (frameL [(0, .str x0), (8, .slice x1), (10, .slice x2), (13, .int .i64 x3), (14, .slice x4), (16, .int .i64 x5), (17, .int .i64 x6)]) K =
      w4SyntaxPairs.u6.f k x0 x1 x2 x3 x4 x5 x6 (fun y0 y1 y2 y3 y4 => K .normal (frameL [(0, .str y0), (10, .slice y1), (13, .int .i64 y2), (14, .slice y3), (16, .int .i64 y4)])) (fun y0 => K .ret (frameL [(6, .bool y0)])) :=
  (evC_block.trans (w4SyntaxPairs.u5.ok k x0 x1 x2 x3 x4 x5 x6 (blockK 0 K))).trans (by kernel_rfl)
theorem w4SyntaxPairs.u7.ok (k : Nat) (x0 : List UInt8) (x1 : Sl) (x2 : Sl) (x3 : Int) (x4 : Sl) (x5 : Int) (K : Ex → Frame → M α) :
    evC T (env k) k w4SyntaxPairs.u7.c (frameL [(0, .str x0), (8, .slice x1), (10, .slice x2), (13, .int .i64 x3), (14, .slice x4), (16, .int .i64 x5)]) K =
      w4SyntaxPairs.u7.f k x0 x1 x2 x3 x4 x5 (fun y0 y1 y2 y3 y4 => K .normal (frameL [(0, .str y0), (10, .slice y1), (13, .int .i64 y2), (14, .slice y3), (16, .int .i64 y4)])) (fun y0 => K .ret (frameL [(6, .bool y0)])) :=
  (w4SyntaxPairs.u3.ok k x0 x1 x2 x3 x4 x5 w4SyntaxPairs.u6.c K).trans
    (congrArg (fun z => w4SyntaxPairs.u3.f k x0 x1 x2 x3 x4 x5 z) (funext fun y0 => (funext fun y1 => (funext fun y2 => (funext fun y3 => (funext fun y4 => (funext fun y5 => (funext fun y6 => w4SyntaxPairs.u6.ok k y0 y1 y2 y3 y4 y5 y6 K))))))))
theorem w4SyntaxPairs.u8.ok (k : Nat) (x0 : List UInt8) (x1 : Sl) (x2 : Int) (x3 : Sl) (x4 : Int) (R : IC) (K : Ex → Frame → M α) :
    evC T (env k) k (w4SyntaxPairs.u8.c R) (frameL [(0, .str x0), (10, .slice x1), (13, .int .i64 x2), (14, .slice x3), (16, .int .i64 x4)]) K =
      w4SyntaxPairs.u8.f k x0 x1 x2 x3 x4 (fun y0 y1 y2 y3 y4 y5 => evC T (env k) k R (frameL [(0, .str y0), (10, .slice y1), (13, .int .i64 y2), (14, .slice y3), (16, .int .i64 y4), (19, .int .i64 y5)]) K) := by kernel_rfl
theorem w4SyntaxPairs.u9.ok (k : Nat) (x0 : List UInt8) (x1 : Sl) (x2 : Int) (x3 : Sl) (x4 : Int) (x5 : Int) (R : IC) (K : Ex → Frame → M α) :
    evC T (env k) k (w4SyntaxPairs.u9.c R) (frameL [(0, .str x0), (10, .slice x1), (13, .int .i64 x2), (14, .slice x3), (16, .int .i64 x4), (19, .int .i64 x5)]) K =
      w4SyntaxPairs.u9.f k x0 x1 x2 x3 x4 x5 (fun y0 y1 y2 y3 y4 y5 => evC T (env k) k R (frameL [(0, .str y0), (10, .slice y1), (13, .int .i64 y2), (14, .slice y3), (16, .int .i64 y4), (19, .int .i64 y5)]) K) (fun y0 y1 y2 y3 y4 => K (.exit 2) (frameL [(0, .str y0), (10, .slice y1), (13, .int .i64 y2), (14, .slice y3), (16, .int .i64 y4)])) := by kernel_rfl
theorem w4SyntaxPairs.u10.ok (k : Nat) (x0 : List UInt8) (x1 : Sl) (x2 : Int) (x3 : Sl) (x4 : Int) (x5 : Int) (R : IC) (K : Ex → Frame → M α) :
    evC T (env k) k (w4SyntaxPairs.u10.c R) (frameL [(0, .str x0), (10, .slice x1), (13, .int .i64 x2), (14, .slice x3), (16, .int .i64 x4), (19, .int .i64 x5)]) K =
      w4SyntaxPairs.u10.f k x0 x1 x2 x3 x4 x5 (fun y0 y1 y2 y3 y4 y5 y6 => evC T (env k) k R (frameL [(0, .str y0), (10, .slice y1), (13, .int .i64 y2), (14, .slice y3), (16, .int .i64 y4), (19, .int .i64 y5), (20, .ptr (some y6))]) K) := by kernel_rfl
theorem w4SyntaxPairs.u11.ok (k : Nat) (x0 : List UInt8) (x1 : Sl) (x2 : Int) (x3 : Sl) (x4 : Int) (x5 : Int) (x6 : Ad) (R : IC) (K : Ex → Frame → M α) :
    evC T (env k) k (w4SyntaxPairs.u11.c R) (frameL [(0, .str x0), (10, .slice x1), (13, .int .i64 x2), (14, .slice x3), (16, .int .i64 x4), (19, .int .i64 x5), (20, .ptr (some x6))]) K =
      w4SyntaxPairs.u11.f k x0 x1 x2 x3 x4 x5 x6 (fun y0 y1 y2 y3 y4 y5 y6 => evC T (env k) k R (frameL [(0, .str y0), (10, .slice y1), (13, .int .i64 y2), (14, .slice y3), (16, .int .i64 y4), (19, .int .i64 y5), (20, .ptr (some y6))]) K) := by kernel_rfl
theorem w4SyntaxPairs.u12.ok (k : Nat) (x0 : List UInt8) (x1 : Sl) (x2 : Int) (x3 : Sl) (x4 : Int) (x5 : Int) (x6 : Ad) (K : Ex → Frame → M α) :
    evC T (env k) k w4SyntaxPairs.u12.c (frameL [(0, .str x0), (10, .slice x1), (13, .int .i64 x2), (14, .slice x3), (16, .int .i64 x4), (19, .int .i64 x5), (20, .ptr (some x6))]) K =
      w4SyntaxPairs.u12.f k x0 x1 x2 x3 x4 x5 x6 (fun y0 y1 y2 y3 y4 y5 => K .normal (frameL [(0, .str y0), (10, .slice y1), (13, .int .i64 y2), (14, .slice y3), (16, .int .i64 y4), (19, .int .i64 y5)])) (fun y0 => K .ret (frameL [(6, .bool y0)])) := by kernel_rfl
theorem w4SyntaxPairs.u13.ok (k : Nat) (x0 : List UInt8) (x1 : Sl) (x2 : Int) (x3 : Sl) (x4 : Int) (x5 : Int) (x6 : Ad) (K : Ex → Frame → M α) :
    evC T (env k) k w4SyntaxPairs.u13.c (frameL [(0, .str x0), (10, .slice x1), (13, .int .i64 x2), (14, .slice x3), (16, .int .i64 x4), (19, .int .i64 x5), (20, .ptr (some x6))]) K =
      w4SyntaxPairs.u13.f k x0 x1 x2 x3 x4 x5 x6 (fun y0 y1 y2 y3 y4 y5 => K .normal (frameL [(0, .str y0), (10, .slice y1), (13, .int .i64 y2), (14, .slice y3), (16, .int .i64 y4), (19, .int .i64 y5)])) (fun y0 => K .ret (frameL [(6, .bool y0)])) :=
  (w4SyntaxPairs.u11.ok k x0 x1 x2 x3 x4 x5 x6 w4SyntaxPairs.u12.c K).trans
    (congrArg (fun z => w4SyntaxPairs.u11.f k x0 x1 x2 x3 x4 x5 x6 z) (funext fun y0 => (funext fun y1 => (funext fun y2 => (funext fun y3 => (funext fun y4 => (funext fun y5 => (funext fun y6 => w4SyntaxPairs.u12.ok k y0 y1 y2 y3 y4 y5 y6 K))))))))
theorem w4SyntaxPairs.u14.ok (k : Nat) (x0 : List UInt8) (x1 : Sl) (x2 : Int) (x3 : Sl) (x4 : Int) (x5 : Int) (K : Ex → Frame → M α) :
    evC T (env k) k w4SyntaxPairs.u14.c (frameL [(0, .str x0), (10, .slice x1), (13, .int .i64 x2), (14, .slice x3), (16, .int .i64 x4), (19, .int .i64 x5)]) K =
      w4SyntaxPairs.u14.f k x0 x1 x2 x3 x4 x5 (fun y0 y1 y2 y3 y4 y5 => K .normal (frameL [(0, .str y0), (10, .slice y1), (13, .int .i64 y2), (14, .slice y3), (16, .int .i64 y4), (19, .int .i64 y5)])) (fun y0 => K .ret (frameL [(6, .bool y0)])) :=
  (w4SyntaxPairs.u10.ok k x0 x1 x2 x3 x4 x5 w4SyntaxPairs.u13.c K).trans
    (congrArg (fun z => w4SyntaxPairs.u10.f k x0 x1 x2 x3 x4 x5 z) (funext fun y0 => (funext fun y1 => (funext fun y2 => (funext fun y3 => (funext fun y4 => (funext fun y5 => (funext fun y6 => w4SyntaxPairs.u13.ok k y0 y1 y2 y3 y4 y5 y6 K))))))))
theorem w4SyntaxPairs.u15.ok (k : Nat) (x0 : List UInt8) (x1 : Sl) (x2 : Int) (x3 : Sl) (x4 : Int) (x5 : Int) (K : Ex → Frame → M α) :
    evC T (env k) k w4SyntaxPairs.u15.c (frameL [(0, .str x0), (10, .slice x1), (13, .int .i64 x2), (14, .slice x3), (16, .int .i64 x4), (19, .int .i64 x5)]) K =
      w4SyntaxPairs.u15.f k x0 x1 x2 x3 x4 x5 (fun y0 y1 y2 y3 y4 y5 => K .normal (frameL [(0, .str y0), (10, .slice y1), (13, .int .i64 y2), (14, .slice y3), (16, .int .i64 y4), (19, .int .i64 y5)])) (fun y0 => K .ret (frameL [(6, .bool y0)])) :=
  (evC_block.trans (w4SyntaxPairs.u14.ok k x0 x1 x2 x3 x4 x5 (blockK 3 K))).trans (by kernel_rfl)
theorem w4SyntaxPairs.u16.ok (k : Nat) (x0 : List UInt8) (x1 : Sl) (x2 : Int) (x3 : Sl) (x4 : Int) (x5 : Int) (K : Ex → Frame → M α) :
    evC T (env k) k w4SyntaxPairs.u16.c (frameL [(0, .str x0), (10, .slice x1), (13, .int .i64 x2), (14, .slice x3), (16, .int .i64 x4), (19, .int .i64 x5)]) K =
      w4SyntaxPairs.u16.f k x0 x1 x2 x3 x4 x5 (fun y0 y1 y2 y3 y4 y5 => K .normal (frameL [(0, .str y0), (10, .slice y1), (13, .int .i64 y2), (14, .slice y3), (16, .int .i64 y4), (19, .int .i64 y5)])) := by kernel_rfl
theorem w4SyntaxPairs.u17.ok (k : Nat) (x0 : List UInt8) (x1 : Sl) (x2 : Int) (x3 : Sl) (x4 : Int) (x5 : Int) (K : Ex → Frame → M α) :
    evC T (env k) k w4SyntaxPairs.u17.c (frameL [(0, .str x0), (10, .slice x1), (13, .int .i64 x2), (14, .slice x3), (16, .int .i64 x4), (19, .int .i64 x5)]) K =
      w4SyntaxPairs.u17.f k x0 x1 x2 x3 x4 x5 (fun y0 y1 y2 y3 y4 y5 => K .normal (frameL [(0, .str y0), (10, .slice y1), (13, .int .i64 y2), (14, .slice y3), (16, .int .i64 y4), (19, .int .i64 y5)])) (fun y0 => K .ret (frameL [(6, .bool y0)])) :=
  by
    have h := w4SyntaxPairs.u15.ok k x0 x1 x2 x3 x4 x5 (seqK (fun ρ => evC T (env k) k w4SyntaxPairs.u16.c ρ K) K)
    simp only [seqK_normal, seqK_exit, seqK_ret, seqK_pan, w4SyntaxPairs.u16.ok] at h
    exact evC_seq_of h
theorem w4SyntaxPairs.u18.ok (k : Nat) (x0 : List UInt8) (x1 : Sl) (x2 : Int) (x3 : Sl) (x4 : Int) (x5 : Int) (K : Ex → Frame → M α) :
    evC T (env k) k w4SyntaxPairs.u18.c (frameL [(0, .str x0), (10, .slice x1), (13, .int .i64 x2), (14, .slice x3), (16, .int .i64 x4), (19, .int .i64 x5)]) K =
      w4SyntaxPairs.u18.f k x0 x1 x2 x3 x4 x5 (fun y0 y1 y2 y3 y4 y5 => K .normal (frameL [(0, .str y0), (10, .slice y1), (13, .int .i64 y2), (14, .slice y3), (16, .int .i64 y4), (19, .int .i64 y5)])) (fun y0 => K .ret (frameL [(6, .bool y0)])) (fun y0 y1 y2 y3 y4 => K (.exit 2) (frameL [(0, .str y0), (10, .slice y1), (13, .int .i64 y2), (14, .slice y3), (16, .int .i64 y4)])) :=
  (w4SyntaxPairs.u9.ok k x0 x1 x2 x3 x4 x5 w4SyntaxPairs.u17.c K).trans
    (congrArg (fun z => w4SyntaxPairs.u9.f k x0 x1 x2 x3 x4 x5 z (fun y0 y1 y2 y3 y4 => K (.exit 2) (frameL [(0, .str y0), (10, .slice y1), (13, .int .i64 y2), (14, .slice y3), (16, .int .i64 y4)]))) (funext fun y0 => (funext fun y1 => (funext fun y2 => (funext fun y3 => (funext fun y4 => (funext fun y5 => w4SyntaxPairs.u17.ok k y0 y1 y2 y3 y4 y5 K)))))))
theorem w4SyntaxPairs.u19.ls (k : Nat) (kr : Bool → M α) (kx2 : List UInt8 → Sl → Int → Sl → Int → M α) (j : Nat) (x0 : List UInt8) (x1 : Sl) (x2 : Int) (x3 : Sl) (x4 : Int) (x5 : Int) : w4SyntaxPairs.u19.l k kr kx2 (j + 1) x0 x1 x2 x3 x4 x5 =
  w4SyntaxPairs.u18.f k x0 x1 x2 x3 x4 x5 (fun y0 y1 y2 y3 y4 y5 => w4SyntaxPairs.u19.l k kr kx2 j y0 y1 y2 y3 y4 y5) kr kx2 := rfl
theorem w4SyntaxPairs.u19.okl (k : Nat) (K : Ex → Frame → M α) : ∀ (j : Nat) (x0 : List UInt8) (x1 : Sl) (x2 : Int) (x3 : Sl) (x4 : Int) (x5 : Int),
    evLoop (evC T (env k) k w4SyntaxPairs.u18.c) [0, 10, 13, 14, 16, 19] j (frameL [(0, .str x0), (10, .slice x1), (13, .int .i64 x2), (14, .slice x3), (16, .int .i64 x4), (19, .int .i64 x5)]) K = w4SyntaxPairs.u19.l k (fun y0 => K .ret (frameL [(6, .bool y0)])) (fun y0 y1 y2 y3 y4 => K (.exit 2) (frameL [(0, .str y0), (10, .slice y1), (13, .int .i64 y2), (14, .slice y3), (16, .int .i64 y4)])) j x0 x1 x2 x3 x4 x5
  | 0, _, _, _, _, _, _ => rfl
  | j + 1, x0, x1, x2, x3, x4, x5 => by
      have h := w4SyntaxPairs.u18.ok k x0 x1 x2 x3 x4 x5 (seqK (fun ρ => evLoop (evC T (env k) k w4SyntaxPairs.u18.c) [0, 10, 13, 14, 16, 19] j ρ K) K)
      simp only [seqK_exit, seqK_ret, seqK_pan, seqK_normal, w4SyntaxPairs.u19.okl k K j] at h
      exact (evLoop_step (by kernel_rfl) h).trans (w4SyntaxPairs.u19.ls k (fun y0 => K .ret (frameL [(6, .bool y0)])) (fun y0 y1 y2 y3 y4 => K (.exit 2) (frameL [(0, .str y0), (10, .slice y1), (13, .int .i64 y2), (14, .slice y3), (16, .int .i64 y4)])) j x0 x1 x2 x3 x4 x5).symm
theorem w4SyntaxPairs.u19.ok (k : Nat) (x0 : List UInt8) (x1 : Sl) (x2 : Int) (x3 : Sl) (x4 : Int) (x5 : Int) (K : Ex → Frame → M α) :
    evC T (env k) k w4SyntaxPairs.u19.c (frameL [(0, .str x0), (10, .slice x1), (13, .int .i64 x2), (14, .slice x3), (16, .int .i64 x4), (19, .int .i64 x5)]) K =
      w4SyntaxPairs.u19.f k x0 x1 x2 x3 x4 x5 (fun y0 => K .ret (frameL [(6, .bool y0)])) (fun y0 y1 y2 y3 y4 => K (.exit 2) (frameL [(0, .str y0), (10, .slice y1), (13, .int .i64 y2), (14, .slice y3), (16, .int .i64 y4)])) :=
  evC_loop.trans <| (evLoop_keep (body := evC T (env k) k w4SyntaxPairs.u18.c) (keep := [0, 10, 13, 14, 16, 19]) (ρ := (frameL [(0, .str x0), (10, .slice x1), (13, .int .i64 x2), (14, .slice x3), (16, .int .i64 x4), (19, .int .i64 x5)])) (ρ' := (frameL [(0, .str x0), (10, .slice x1), (13, .int .i64 x2), (14, .slice x3), (16, .int .i64 x4), (19, .int .i64 x5)])) (by kernel_rfl) k K).trans (w4SyntaxPairs.u19.okl k K k x0 x1 x2 x3 x4 x5)
theorem w4SyntaxPairs.u20.ok (k : Nat) (x0 : List UInt8) (x1 : Sl) (x2 : Int) (x3 : Sl) (x4 : Int) (x5 : Int) (K : Ex → Frame → M α) :
    evC T (env k) k w4SyntaxPairs.u20.c (frameL [(0, .str x0), (10, .slice x1), (13, .int .i64 x2), (14, .slice x3), (16, .int .i64 x4), (19, .int .i64 x5)]) K =
      w4SyntaxPairs.u20.f k x0 x1 x2 x3 x4 x5 (fun y0 y1 y2 y3 y4 => K .normal (frameL [(0, .str y0), (10, .slice y1), (13, .int .i64 y2), (14, .slice y3), (16, .int .i64 y4)])) (fun y0 => K .ret (frameL [(6, .bool y0)])) :=
  (evC_block.trans (w4SyntaxPairs.u19.ok k x0 x1 x2 x3 x4 x5 (blockK 2 K))).trans (by kernel_rfl)
theorem w4SyntaxPairs.u21.ok (k : Nat) (x0 : List UInt8) (x1 : Sl) (x2 : Int) (x3 : Sl) (x4 : Int) (K : Ex → Frame → M α) :
    evC T (env k) k w4SyntaxPairs.u21.c (frameL [(0, .str x0), (10, .slice x1), (13, .int .i64 x2), (14, .slice x3), (16, .int .i64 x4)]) K =
      w4SyntaxPairs.u21.f k x0 x1 x2 x3 x4 (fun y0 y1 y2 y3 y4 => K .normal (frameL [(0, .str y0), (10, .slice y1), (13, .int .i64 y2), (14, .slice y3), (16, .int .i64 y4)])) (fun y0 => K .ret (frameL [(6, .bool y0)])) :=
  (w4SyntaxPairs.u8.ok k x0 x1 x2 x3 x4 w4SyntaxPairs.u20.c K).trans
    (congrArg (fun z => w4SyntaxPairs.u8.f k x0 x1 x2 x3 x4 z) (funext fun y0 => (funext fun y1 => (funext fun y2 => (funext fun y3 => (funext fun y4 => (funext fun y5 => w4SyntaxPairs.u20.ok k y0 y1 y2 y3 y4 y5 K)))))))
theorem w4SyntaxPairs.u22.ok (k : Nat) (x0 : List UInt8) (x1 : Sl) (x2 : Int) (x3 : Sl) (x4 : Int) (K : Ex → Frame → M α) :
    evC T (env k) k w4SyntaxPairs.u22.c (frameL [(0, .str x0), (10, .slice x1), (13, .int .i64 x2), (14, .slice x3), (16, .int .i64 x4)]) K =
      w4SyntaxPairs.u22.f k x0 x1 x2 x3 x4 (fun y0 => K .ret (frameL [(6, .bool y0)])) := by kernel_rfl
theorem w4SyntaxPairs.u23.ok (k : Nat) (x0 : List UInt8) (x1 : Sl) (x2 : Int) (x3 : Sl) (x4 : Int) (K : Ex → Frame → M α) :
    evC T (env k) k w4SyntaxPairs.u23.c (frameL [(0, .str x0), (10, .slice x1), (13, .int .i64 x2), (14, .slice x3), (16, .int .i64 x4)]) K =
      w4SyntaxPairs.u23.f k x0 x1 x2 x3 x4 (fun y0 => K .ret (frameL [(6, .bool y0)])) :=
  by
    have h := w4SyntaxPairs.u21.ok k x0 x1 x2 x3 x4 (seqK (fun ρ => evC T (env k) k w4SyntaxPairs.u22.c ρ K) K)
    simp only [seqK_normal, seqK_exit, seqK_ret, seqK_pan, w4SyntaxPairs.u22.ok] at h
    exact evC_seq_of h
theorem w4SyntaxPairs.u24.ok (k : Nat) (x0 : List UInt8) (x1 : Sl) (x2 : Sl) (x3 : Int) (x4 : Sl) (x5 : Int) (K : Ex → Frame → M α) :
    evC T (env k) k w4SyntaxPairs.u24.c (frameL [(0, .str x0), (8, .slice x1), (10, .slice x2), (13, .int .i64 x3), (14, .slice x4), (16, .int .i64 x5)]) K =
      w4SyntaxPairs.u24.f k x0 x1 x2 x3 x4 x5 (fun y0 => K .ret (frameL [(6, .bool y0)])) :=
  by
    have h := w4SyntaxPairs.u7.ok k x0 x1 x2 x3 x4 x5 (seqK (fun ρ => evC T (env k) k w4SyntaxPairs.u23.c ρ K) K)
    simp only [seqK_normal, seqK_exit, seqK_ret, seqK_pan, w4SyntaxPairs.u23.ok] at h
    exact evC_seq_of h
theorem w4SyntaxPairs.u25.ok (k : Nat) (x0 : List UInt8) (x1 : List UInt8) (x2 : Sl) (x3 : Sl) (x4 : List UInt8) (x5 : Int) (K : Ex → Frame → M α) :
    evC T (env k) k w4SyntaxPairs.u25.c (frameL [(0, .str x0), (1, .str x1), (8, .slice x2), (10, .slice x3), (12, .str x4), (13, .int .i64 x5)]) K =
      w4SyntaxPairs.u25.f k x0 x1 x2 x3 x4 x5 (fun y0 => K .ret (frameL [(6, .bool y0)])) :=
  (w4SyntaxPairs.u2.ok k x0 x1 x2 x3 x4 x5 w4SyntaxPairs.u24.c K).trans
    (congrArg (fun z => w4SyntaxPairs.u2.f k x0 x1 x2 x3 x4 x5 z (fun y0 => K .ret (frameL [(6, .bool y0)]))) (funext fun y0 => (funext fun y1 => (funext fun y2 => (funext fun y3 => (funext fun y4 => (funext fun y5 => w4SyntaxPairs.u24.ok k y0 y1 y2 y3 y4 y5 K)))))))
theorem w4SyntaxPairs.u26.ok (k : Nat) (x0 : List UInt8) (x1 : List UInt8) (x2 : Bool) (K : Ex → Frame → M α) :
    evC T (env k) k w4SyntaxPairs.u26.c (frameL [(0, .str x0), (1, .str x1), (2, .bool x2)]) K =
      w4SyntaxPairs.u26.f k x0 x1 x2 (fun y0 => K .ret (frameL [(6, .bool y0)])) :=
  (w4SyntaxPairs.u1.ok k x0 x1 x2 w4SyntaxPairs.u25.c K).trans
    (congrArg (fun z => w4SyntaxPairs.u1.f k x0 x1 x2 z (fun y0 => K .ret (frameL [(6, .bool y0)]))) (funext fun y0 => (funext fun y1 => (funext fun y2 => (funext fun y3 => (funext fun y4 => (funext fun y5 => w4SyntaxPairs.u25.ok k y0 y1 y2 y3 y4 y5 K)))))))
theorem w4SyntaxPairs.ok (k : Nat) (x0 : List UInt8) (x1 : List UInt8) (x2 : Bool) (κ : Res → M α) :
    evF T (env k) k w4SyntaxPairs.c w4SyntaxPairs.res [.str x0, .str x1, .bool x2] κ = w4SyntaxPairs.f (k + 1) x0 x1 x2 (fun o0 => κ (.ret (.bool o0))) :=
  (w4SyntaxPairs.u26.ok k x0 x1 x2 (retK T w4SyntaxPairs.res κ)).trans (by kernel_rfl)
theorem w4SyntaxPairs.code : w4SyntaxPairs.c.code = bodyOf Try.f10 := by kernel_rfl
end
end Go.Ab.S3
