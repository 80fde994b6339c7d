import Derived.Test.YtkfoohgkbafafaaS3a0
import Derived.Test.YtkfoohgkbafafaaAb24
import Derived.Test.YtkfoohgkbafafaaProg
import Derived.KernelRfl
namespace Go.Ab.S3
section
variable {α : Type}
open Go.Proofs
set_option linter.unusedVariables false
set_option linter.unusedSimpArgs false
noncomputable def spformula.c : IC := spformula.u1.c
noncomputable def spformula.res : List ResultVar := [(.tmp 2)]
theorem spformula.u1.ok (k : Nat) (x0 : Ad) (K : Ex → Frame → M α) :
    evC T (env k) k spformula.u1.c (frameL [(0, .ptr (some x0))]) K =
      spformula.u1.f k (sprow.f k) x0 (fun y0 => K .ret (frameL [(2, .int .i64 y0)])) (fun v => K (.pan v) (frameL [])) := by kernel_rfl
theorem spformula.ok (k : Nat) (x0 : Ad) (κ : Res → M α) :
    evF T (env k) k spformula.c spformula.res [.ptr (some x0)] κ = spformula.f (k + 1) x0 (fun v => κ (.pan v)) (fun o0 => κ (.ret (.int .i64 o0))) :=
  (spformula.u1.ok k x0 (retK T spformula.res κ)).trans (by kernel_rfl)
theorem spformula.code : spformula.c.code = bodyOf Try.f48 := by kernel_rfl
noncomputable def sprow.c : IC := sprow.u7.c
noncomputable def sprow.res : List ResultVar := [(.tmp 8)]
theorem sprow.u1.ok (k : Nat) (x0 : Ad) (x1 : List UInt8) (x2 : Int) (x3 : V) (R : IC) (K : Ex → Frame → M α) :
    evC T (env k) k (sprow.u1.c R) (frameL [(0, .ptr (some x0)), (1, .str x1), (2, .int .i64 x2), (3, x3)]) K =
      sprow.u1.f k (spand.f k) (spunary.f k) x0 x1 x2 x3 (fun y0 y1 y2 y3 y4 => evC T (env k) k R (frameL [(0, .ptr (some y0)), (1, .str y1), (2, .int .i64 y2), (3, y3), (9, .int .i64 y4)]) K) (fun v => K (.pan v) (frameL [])) := by kernel_rfl
theorem sprow.u2.ok (k : Nat) (x0 : Ad) (x1 : List UInt8) (x2 : Int) (x3 : V) (x4 : Int) (K : Ex → Frame → M α) :
    evC T (env k) k sprow.u2.c (frameL [(0, .ptr (some x0)), (1, .str x1), (2, .int .i64 x2), (3, x3), (9, .int .i64 x4)]) K =
      sprow.u2.f k (spand.f k) (spunary.f k) x0 x1 x2 x3 x4 (fun y0 y1 y2 y3 y4 => K .normal (frameL [(0, .ptr (some y0)), (1, .str y1), (2, .int .i64 y2), (3, y3), (9, .int .i64 y4)])) (fun y0 => K (.exit 0) (frameL [(9, .int .i64 y0)])) (fun v => K (.pan v) (frameL [])) := by kernel_rfl
theorem sprow.u3.ls (k : Nat) (rr63 : Ad → (V → M α) → (Int → M α) → M α) (rr77 : Ad → (V → M α) → (Int → M α) → M α) (kx0 : Int → M α) (kp : V → M α) (j : Nat) (x0 : Ad) (x1 : List UInt8) (x2 : Int) (x3 : V) (x4 : Int) : sprow.u3.l k rr63 rr77 kx0 kp (j + 1) x0 x1 x2 x3 x4 =
  sprow.u2.f k rr63 rr77 x0 x1 x2 x3 x4 (fun y0 y1 y2 y3 y4 => sprow.u3.l k rr63 rr77 kx0 kp j y0 y1 y2 y3 y4) kx0 kp := rfl
theorem sprow.u3.okl (k : Nat) (K : Ex → Frame → M α) : ∀ (j : Nat) (x0 : Ad) (x1 : List UInt8) (x2 : Int) (x3 : V) (x4 : Int),
    evLoop (evC T (env k) k sprow.u2.c) [0, 1, 2, 3, 9] j (frameL [(0, .ptr (some x0)), (1, .str x1), (2, .int .i64 x2), (3, x3), (9, .int .i64 x4)]) K = sprow.u3.l k (spand.f k) (spunary.f k) (fun y0 => K (.exit 0) (frameL [(9, .int .i64 y0)])) (fun v => K (.pan v) (frameL [])) j x0 x1 x2 x3 x4
  | 0, _, _, _, _, _ => rfl
  | j + 1, x0, x1, x2, x3, x4 => by
      have h := sprow.u2.ok k x0 x1 x2 x3 x4 (seqK (fun ρ => evLoop (evC T (env k) k sprow.u2.c) [0, 1, 2, 3, 9] j ρ K) K)
      simp only [seqK_exit, seqK_ret, seqK_pan, seqK_normal, sprow.u3.okl k K j] at h
      exact (evLoop_step (by kernel_rfl) h).trans (sprow.u3.ls k (spand.f k) (spunary.f k) (fun y0 => K (.exit 0) (frameL [(9, .int .i64 y0)])) (fun v => K (.pan v) (frameL [])) j x0 x1 x2 x3 x4).symm
theorem sprow.u3.ok (k : Nat) (x0 : Ad) (x1 : List UInt8) (x2 : Int) (x3 : V) (x4 : Int) (K : Ex → Frame → M α) :
    evC T (env k) k sprow.u3.c (frameL [(0, .ptr (some x0)), (1, .str x1), (2, .int .i64 x2), (3, x3), (9, .int .i64 x4)]) K =
      sprow.u3.f k (spand.f k) (spunary.f k) x0 x1 x2 x3 x4 (fun y0 => K (.exit 0) (frameL [(9, .int .i64 y0)])) (fun v => K (.pan v) (frameL [])) :=
  evC_loop.trans <| (evLoop_keep (body := evC T (env k) k sprow.u2.c) (keep := [0, 1, 2, 3, 9]) (ρ := (frameL [(0, .ptr (some x0)), (1, .str x1), (2, .int .i64 x2), (3, x3), (9, .int .i64 x4)])) (ρ' := (frameL [(0, .ptr (some x0)), (1, .str x1), (2, .int .i64 x2), (3, x3), (9, .int .i64 x4)])) (by kernel_rfl) k K).trans (sprow.u3.okl k K k x0 x1 x2 x3 x4)
theorem sprow.u4.ok (k : Nat) (x0 : Ad) (x1 : List UInt8) (x2 : Int) (x3 : V) (x4 : Int) (K : Ex → Frame → M α) :
    evC T (env k) k sprow.u4.c (frameL [(0, .ptr (some x0)), (1, .str x1), (2, .int .i64 x2), (3, x3), (9, .int .i64 x4)]) K =
      sprow.u4.f k (spand.f k) (spunary.f k) x0 x1 x2 x3 x4 (fun y0 => K .normal (frameL [(9, .int .i64 y0)])) (fun v => K (.pan v) (frameL [])) :=
  (evC_block.trans (sprow.u3.ok k x0 x1 x2 x3 x4 (blockK 0 K))).trans (by kernel_rfl)
theorem sprow.u5.ok (k : Nat) (x0 : Int) (K : Ex → Frame → M α) :
    evC T (env k) k sprow.u5.c (frameL [(9, .int .i64 x0)]) K =
      sprow.u5.f k x0 (fun y0 => K .ret (frameL [(8, .int .i64 y0)])) := by kernel_rfl
theorem sprow.u6.ok (k : Nat) (x0 : Ad) (x1 : List UInt8) (x2 : Int) (x3 : V) (x4 : Int) (K : Ex → Frame → M α) :
    evC T (env k) k sprow.u6.c (frameL [(0, .ptr (some x0)), (1, .str x1), (2, .int .i64 x2), (3, x3), (9, .int .i64 x4)]) K =
      sprow.u6.f k (spand.f k) (spunary.f k) x0 x1 x2 x3 x4 (fun y0 => K .ret (frameL [(8, .int .i64 y0)])) (fun v => K (.pan v) (frameL [])) :=
  by
    have h := sprow.u4.ok k x0 x1 x2 x3 x4 (seqK (fun ρ => evC T (env k) k sprow.u5.c ρ K) K)
    simp only [seqK_normal, seqK_exit, seqK_ret, seqK_pan, sprow.u5.ok] at h
    exact evC_seq_of h
theorem sprow.u7.ok (k : Nat) (x0 : Ad) (x1 : List UInt8) (x2 : Int) (x3 : V) (K : Ex → Frame → M α) :
    evC T (env k) k sprow.u7.c (frameL [(0, .ptr (some x0)), (1, .str x1), (2, .int .i64 x2), (3, x3)]) K =
      sprow.u7.f k (spand.f k) (spunary.f k) x0 x1 x2 x3 (fun y0 => K .ret (frameL [(8, .int .i64 y0)])) (fun v => K (.pan v) (frameL [])) :=
  (sprow.u1.ok k x0 x1 x2 x3 sprow.u6.c K).trans
    (congrArg (fun z => sprow.u1.f k (spand.f k) (spunary.f k) x0 x1 x2 x3 z (fun v => K (.pan v) (frameL []))) (funext fun y0 => (funext fun y1 => (funext fun y2 => (funext fun y3 => (funext fun y4 => sprow.u6.ok k y0 y1 y2 y3 y4 K))))))
theorem sprow.ok (k : Nat) (x0 : Ad) (x1 : List UInt8) (x2 : Int) (x3 : V) (κ : Res → M α) :
    evF T (env k) k sprow.c sprow.res [.ptr (some x0), .str x1, .int .i64 x2, x3] κ = sprow.f (k + 1) x0 x1 x2 x3 (fun v => κ (.pan v)) (fun o0 => κ (.ret (.int .i64 o0))) :=
  (sprow.u7.ok k x0 x1 x2 x3 (retK T sprow.res κ)).trans (by kernel_rfl)
theorem sprow.code : sprow.c.code = bodyOf Try.f62 := by kernel_rfl
noncomputable def spand.c : IC := spand.u1.c
noncomputable def spand.res : List ResultVar := [(.tmp 2)]
theorem spand.u1.ok (k : Nat) (x0 : Ad) (K : Ex → Frame → M α) :
    evC T (env k) k spand.u1.c (frameL [(0, .ptr (some x0))]) K =
      spand.u1.f k (sprow.f k) x0 (fun y0 => K .ret (frameL [(2, .int .i64 y0)])) (fun v => K (.pan v) (frameL [])) := by kernel_rfl
theorem spand.ok (k : Nat) (x0 : Ad) (κ : Res → M α) :
    evF T (env k) k spand.c spand.res [.ptr (some x0)] κ = spand.f (k + 1) x0 (fun v => κ (.pan v)) (fun o0 => κ (.ret (.int .i64 o0))) :=
  (spand.u1.ok k x0 (retK T spand.res κ)).trans (by kernel_rfl)
theorem spand.code : spand.c.code = bodyOf Try.f63 := by kernel_rfl
noncomputable def spunary.c : IC := spunary.u18.c
noncomputable def spunary.res : List ResultVar := [(.tmp 2)]
theorem spunary.u1.ok (k : Nat) (x0 : Ad) (R : IC) (K : Ex → Frame → M α) :
    evC T (env k) k (spunary.u1.c R) (frameL [(0, .ptr (some x0))]) K =
      spunary.u1.f k x0 (fun y0 => evC T (env k) k R (frameL [(0, .ptr (some y0))]) K) := by kernel_rfl
theorem spunary.u2.ok (k : Nat) (x0 : Ad) (R : IC) (K : Ex → Frame → M α) :
    evC T (env k) k (spunary.u2.c R) (frameL [(0, .ptr (some x0))]) K =
      spunary.u2.f k x0 (fun y0 y1 => evC T (env k) k R (frameL [(0, .ptr (some y0)), (10, .bool y1)]) K) := by kernel_rfl
theorem spunary.u3.ok (k : Nat) (x0 : Ad) (x1 : Bool) (K : Ex → Frame → M α) :
    evC T (env k) k spunary.u3.c (frameL [(0, .ptr (some x0)), (10, .bool x1)]) K =
      spunary.u3.f k (spunary.f k) x0 x1 (fun y0 => K .ret (frameL [(2, .int .i64 y0)])) (fun v => K (.pan v) (frameL [])) := by kernel_rfl
theorem spunary.u4.ok (k : Nat) (x0 : Ad) (x1 : Bool) (R : IC) (K : Ex → Frame → M α) :
    evC T (env k) k (spunary.u4.c R) (frameL [(0, .ptr (some x0)), (10, .bool x1)]) K =
      spunary.u4.f k x0 x1 (fun y0 y1 => evC T (env k) k R (frameL [(0, .ptr (some y0)), (22, .bool y1)]) K) := by kernel_rfl
theorem spunary.u5.ok (k : Nat) (x0 : Ad) (x1 : Bool) (K : Ex → Frame → M α) :
    evC T (env k) k spunary.u5.c (frameL [(0, .ptr (some x0)), (22, .bool x1)]) K =
      spunary.u5.f k (spunary.f k) x0 x1 (fun y0 => K .ret (frameL [(2, .int .i64 y0)])) (fun v => K (.pan v) (frameL [])) := by kernel_rfl
theorem spunary.u6.ok (k : Nat) (x0 : Ad) (x1 : Bool) (R : IC) (K : Ex → Frame → M α) :
    evC T (env k) k (spunary.u6.c R) (frameL [(0, .ptr (some x0)), (22, .bool x1)]) K =
      spunary.u6.f k x0 x1 (fun y0 y1 => evC T (env k) k R (frameL [(0, .ptr (some y0)), (37, .bool y1)]) K) := by kernel_rfl
theorem spunary.u7.ok (k : Nat) (x0 : Ad) (x1 : Bool) (K : Ex → Frame → M α) :
    evC T (env k) k spunary.u7.c (frameL [(0, .ptr (some x0)), (37, .bool x1)]) K =
      spunary.u7.f k (spunary.f k) x0 x1 (fun y0 => K .ret (frameL [(2, .int .i64 y0)])) (fun v => K (.pan v) (frameL [])) := by kernel_rfl
theorem spunary.u8.ok (k : Nat) (x0 : Ad) (x1 : Bool) (K : Ex → Frame → M α) :
    evC T (env k) k spunary.u8.c (frameL [(0, .ptr (some x0)), (37, .bool x1)]) K =
      spunary.u8.f k (spformula.f k) (spword.f k) x0 x1 (fun y0 => K .normal (frameL [(0, .ptr (some y0))])) (fun y0 => K .ret (frameL [(2, .int .i64 y0)])) (fun v => K (.pan v) (frameL [])) := by kernel_rfl
theorem spunary.u9.ok (k : Nat) (x0 : Ad) (x1 : Bool) (K : Ex → Frame → M α) :
    evC T (env k) k spunary.u9.c (frameL [(0, .ptr (some x0)), (37, .bool x1)]) K =
      spunary.u9.f k (spunary.f k) (spformula.f k) (spword.f k) x0 x1 (fun y0 => K .normal (frameL [(0, .ptr (some y0))])) (fun y0 => K .ret (frameL [(2, .int .i64 y0)])) (fun v => K (.pan v) (frameL [])) :=
  evC_cond_run (g := x1) (by kernel_rfl) (spunary.u7.ok k x0 x1 K) (spunary.u8.ok k x0 x1 K)
theorem spunary.u10.ok (k : Nat) (x0 : Ad) (x1 : Bool) (K : Ex → Frame → M α) :
    evC T (env k) k spunary.u10.c (frameL [(0, .ptr (some x0)), (22, .bool x1)]) K =
      spunary.u10.f k (spunary.f k) (spformula.f k) (spword.f k) x0 x1 (fun y0 => K .normal (frameL [(0, .ptr (some y0))])) (fun y0 => K .ret (frameL [(2, .int .i64 y0)])) (fun v => K (.pan v) (frameL [])) :=
  (spunary.u6.ok k x0 x1 spunary.u9.c K).trans
    (congrArg (fun z => spunary.u6.f k x0 x1 z) (funext fun y0 => (funext fun y1 => spunary.u9.ok k y0 y1 K)))
theorem spunary.u11.ok (k : Nat) (x0 : Ad) (x1 : Bool) (K : Ex → Frame → M α) :
    evC T (env k) k spunary.u11.c (frameL [(0, .ptr (some x0)), (22, .bool x1)]) K =
      spunary.u11.f k (spunary.f k) (spformula.f k) (spword.f k) x0 x1 (fun y0 => K .normal (frameL [(0, .ptr (some y0))])) (fun y0 => K .ret (frameL [(2, .int .i64 y0)])) (fun v => K (.pan v) (frameL [])) :=
  evC_cond_run (g := x1) (by kernel_rfl) (spunary.u5.ok k x0 x1 K) (spunary.u10.ok k x0 x1 K)
theorem spunary.u12.ok (k : Nat) (x0 : Ad) (x1 : Bool) (K : Ex → Frame → M α) :
    evC T (env k) k spunary.u12.c (frameL [(0, .ptr (some x0)), (10, .bool x1)]) K =
      spunary.u12.f k (spunary.f k) (spformula.f k) (spword.f k) x0 x1 (fun y0 => K .normal (frameL [(0, .ptr (some y0))])) (fun y0 => K .ret (frameL [(2, .int .i64 y0)])) (fun v => K (.pan v) (frameL [])) :=
  (spunary.u4.ok k x0 x1 spunary.u11.c K).trans
    (congrArg (fun z => spunary.u4.f k x0 x1 z) (funext fun y0 => (funext fun y1 => spunary.u11.ok k y0 y1 K)))
theorem spunary.u13.ok (k : Nat) (x0 : Ad) (x1 : Bool) (K : Ex → Frame → M α) :
    evC T (env k) k spunary.u13.c (frameL [(0, .ptr (some x0)), (10, .bool x1)]) K =
      spunary.u13.f k (spunary.f k) (spformula.f k) (spword.f k) x0 x1 (fun y0 => K .normal (frameL [(0, .ptr (some y0))])) (fun y0 => K .ret (frameL [(2, .int .i64 y0)])) (fun v => K (.pan v) (frameL [])) :=
  evC_cond_run (g := x1) (by kernel_rfl) (spunary.u3.ok k x0 x1 K) (spunary.u12.ok k x0 x1 K)
theorem spunary.u14.ok (k : Nat) (x0 : Ad) (K : Ex → Frame → M α) :
    evC T (env k) k spunary.u14.c (frameL [(0, .ptr (some x0))]) K =
      spunary.u14.f k (spunary.f k) (spformula.f k) (spword.f k) x0 (fun y0 => K .normal (frameL [(0, .ptr (some y0))])) (fun y0 => K .ret (frameL [(2, .int .i64 y0)])) (fun v => K (.pan v) (frameL [])) :=
  (spunary.u2.ok k x0 spunary.u13.c K).trans
    (congrArg (fun z => spunary.u2.f k x0 z) (funext fun y0 => (funext fun y1 => spunary.u13.ok k y0 y1 K)))
theorem spunary.u15.ok (k : Nat) (x0 : Ad) (K : Ex → Frame → M α) :
    evC T (env k) k spunary.u15.c (frameL [(0, .ptr (some x0))]) K =
      spunary.u15.f k (spunary.f k) (spformula.f k) (spword.f k) x0 (fun y0 => K .normal (frameL [(0, .ptr (some y0))])) (fun y0 => K .ret (frameL [(2, .int .i64 y0)])) (fun v => K (.pan v) (frameL [])) :=
  (evC_block.trans (spunary.u14.ok k x0 (blockK 0 K))).trans (by kernel_rfl)
theorem spunary.u16.ok (k : Nat) (x0 : Ad) (K : Ex → Frame → M α) :
    evC T (env k) k spunary.u16.c (frameL [(0, .ptr (some x0))]) K =
      spunary.u16.f k x0 (fun y0 => K .ret (frameL [(2, .int .i64 y0)])) (fun v => K (.pan v) (frameL [])) := by kernel_rfl
theorem spunary.u17.ok (k : Nat) (x0 : Ad) (K : Ex → Frame → M α) :
    evC T (env k) k spunary.u17.c (frameL [(0, .ptr (some x0))]) K =
      spunary.u17.f k (spunary.f k) (spformula.f k) (spword.f k) x0 (fun y0 => K .ret (frameL [(2, .int .i64 y0)])) (fun v => K (.pan v) (frameL [])) :=
  by
    have h := spunary.u15.ok k x0 (seqK (fun ρ => evC T (env k) k spunary.u16.c ρ K) K)
    simp only [seqK_normal, seqK_exit, seqK_ret, seqK_pan, spunary.u16.ok] at h
    exact evC_seq_of h
theorem spunary.u18.ok (k : Nat) (x0 : Ad) (K : Ex → Frame → M α) :
    evC T (env k) k spunary.u18.c (frameL [(0, .ptr (some x0))]) K =
      spunary.u18.f k (spunary.f k) (spformula.f k) (spword.f k) x0 (fun y0 => K .ret (frameL [(2, .int .i64 y0)])) (fun v => K (.pan v) (frameL [])) :=
  (spunary.u1.ok k x0 spunary.u17.c K).trans
    (congrArg (fun z => spunary.u1.f k x0 z) (funext fun y0 => spunary.u17.ok k y0 K))
theorem spunary.ok (k : Nat) (x0 : Ad) (κ : Res → M α) :
    evF T (env k) k spunary.c spunary.res [.ptr (some x0)] κ = spunary.f (k + 1) x0 (fun v => κ (.pan v)) (fun o0 => κ (.ret (.int .i64 o0))) :=
  (spunary.u18.ok k x0 (retK T spunary.res κ)).trans (by kernel_rfl)
theorem spunary.code : spunary.c.code = bodyOf Try.f77 := by kernel_rfl
noncomputable def spword.c : IC := spword.u5.c
noncomputable def spword.res : List ResultVar := [(.tmp 2)]
theorem spword.u1.ok (k : Nat) (x0 : Ad) (R : IC) (K : Ex → Frame → M α) :
    evC T (env k) k (spword.u1.c R) (frameL [(0, .ptr (some x0))]) K =
      spword.u1.f k x0 (fun y0 y1 y2 => evC T (env k) k R (frameL [(0, .ptr (some y0)), (3, .ptr (some y1)), (4, .int .i64 y2)]) K) (fun y0 => K .ret (frameL [(2, .int .i64 y0)])) (fun v => K (.pan v) (frameL [])) := by kernel_rfl
theorem spword.u2.ok (k : Nat) (x0 : Ad) (x1 : Ad) (x2 : Int) (R : IC) (K : Ex → Frame → M α) :
    evC T (env k) k (spword.u2.c R) (frameL [(0, .ptr (some x0)), (3, .ptr (some x1)), (4, .int .i64 x2)]) K =
      spword.u2.f k x0 x1 x2 (fun y0 y1 y2 => evC T (env k) k R (frameL [(0, .ptr (some y0)), (3, .ptr (some y1)), (4, .int .i64 y2)]) K) (fun v => K (.pan v) (frameL [])) := by kernel_rfl
theorem spword.u3.ok (k : Nat) (x0 : Ad) (x1 : Ad) (x2 : Int) (K : Ex → Frame → M α) :
    evC T (env k) k spword.u3.c (frameL [(0, .ptr (some x0)), (3, .ptr (some x1)), (4, .int .i64 x2)]) K =
      spword.u3.f k (spformula.f k) x0 x1 x2 (fun y0 => K .ret (frameL [(2, .int .i64 y0)])) (fun v => K (.pan v) (frameL [])) := by kernel_rfl
theorem spword.u4.ok (k : Nat) (x0 : Ad) (x1 : Ad) (x2 : Int) (K : Ex → Frame → M α) :
    evC T (env k) k spword.u4.c (frameL [(0, .ptr (some x0)), (3, .ptr (some x1)), (4, .int .i64 x2)]) K =
      spword.u4.f k (spformula.f k) x0 x1 x2 (fun y0 => K .ret (frameL [(2, .int .i64 y0)])) (fun v => K (.pan v) (frameL [])) :=
  (spword.u2.ok k x0 x1 x2 spword.u3.c K).trans
    (congrArg (fun z => spword.u2.f k x0 x1 x2 z (fun v => K (.pan v) (frameL []))) (funext fun y0 => (funext fun y1 => (funext fun y2 => spword.u3.ok k y0 y1 y2 K))))
theorem spword.u5.ok (k : Nat) (x0 : Ad) (K : Ex → Frame → M α) :
    evC T (env k) k spword.u5.c (frameL [(0, .ptr (some x0))]) K =
      spword.u5.f k (spformula.f k) x0 (fun y0 => K .ret (frameL [(2, .int .i64 y0)])) (fun v => K (.pan v) (frameL [])) :=
  (spword.u1.ok k x0 spword.u4.c K).trans
    (congrArg (fun z => spword.u1.f k x0 z (fun y0 => K .ret (frameL [(2, .int .i64 y0)])) (fun v => K (.pan v) (frameL []))) (funext fun y0 => (funext fun y1 => (funext fun y2 => spword.u4.ok k y0 y1 y2 K))))
theorem spword.ok (k : Nat) (x0 : Ad) (κ : Res → M α) :
    evF T (env k) k spword.c spword.res [.ptr (some x0)] κ = spword.f (k + 1) x0 (fun v => κ (.pan v)) (fun o0 => κ (.ret (.int .i64 o0))) :=
  (spword.u5.ok k x0 (retK T spword.res κ)).trans (by kernel_rfl)
theorem spword.code : spword.c.code = bodyOf Try.f83 := by kernel_rfl
noncomputable def syntax_Parse.res : List ResultVar := [(.cell 2 22), (.cell 3 38)]
theorem syntax_Parse.sp (k : Nat) (x0 : List UInt8) (K : Ex → Frame → M α) (Kn : Frame → M α) :
    evSpine T (env k) k syntax_Parse.as (frameL [(0, .str x0)]) K Kn = syntax_Parse.u1.f k x0 (fun y0 y1 y2 => Kn (frameL [(2, .ptr (some y0)), (3, .ptr (some y1)), (4, .slice y2)])) (fun y0 y1 => K .ret (frameL [(2, .ptr (some y0)), (3, .ptr (some y1))])) := by kernel_rfl
theorem syntax_Parse.bok (k : Nat) (y0 : Ad) (y1 : Ad) (y2 : Sl) (K : Ex → Frame → M α) :
    evC T (env k) k syntax_Parse.u2.c (Frame.put (frameL [(2, .ptr (some y0)), (3, .ptr (some y1)), (4, .slice y2)]) (some 14) (.func 45 [] [.ptr (some y0), .ptr (some y1)])) K = syntax_Parse.u2.f k y0 y1 y2 (fun z0 z1 => K .ret (frameL [(2, .ptr (some z0)), (3, .ptr (some z1))])) (fun v => K (.pan v) (frameL [])) := by kernel_rfl
theorem syntax_Parse.ret (k : Nat) (y0 : Ad) (y1 : Ad) (y2 : Sl) (z0 : Ad) (z1 : Ad) (κ : Res → M α) :
    (deferB T (env k) k syntax_Parse.C.u1.c 5 [2, 3] syntax_Parse.res [.ptr (some y0), .ptr (some y1)] (frameL [(2, .ptr (some y0)), (3, .ptr (some y1)), (4, .slice y2)]) κ) .ret (frameL [(2, .ptr (some z0)), (3, .ptr (some z1))]) = syntax_Parse.C.u1.f k y0 y1 .nilIface (
  ldS (z0.add 0) fun o501 =>
  ld (z1.add 0) fun o502 =>
  (fun o0 o1 => κ (.ret (.tuple [.slice o0, o1]))) o501 o502) := by kernel_rfl
theorem syntax_Parse.pan (k : Nat) (y0 : Ad) (y1 : Ad) (y2 : Sl) (v : V) (ρ : Frame) (κ : Res → M α) :
    (deferB T (env k) k syntax_Parse.C.u1.c 5 [2, 3] syntax_Parse.res [.ptr (some y0), .ptr (some y1)] (frameL [(2, .ptr (some y0)), (3, .ptr (some y1)), (4, .slice y2)]) κ) (.pan v) ρ = syntax_Parse.C.u1.f k y0 y1 v (
  ldS (y0.add 0) fun o501 =>
  ld (y1.add 0) fun o502 =>
  (fun o0 o1 => κ (.ret (.tuple [.slice o0, o1]))) o501 o502) := by kernel_rfl
theorem syntax_Parse.reta (y0 : Ad) (y1 : Ad) (κ : Res → M α) :
    deferA T syntax_Parse.res κ .ret (frameL [(2, .ptr (some y0)), (3, .ptr (some y1))]) = (
  ldS (y0.add 0) fun o501 =>
  ld (y1.add 0) fun o502 =>
  (fun o0 o1 => κ (.ret (.tuple [.slice o0, o1]))) o501 o502) := by kernel_rfl
theorem syntax_Parse.ok (k : Nat) (x0 : List UInt8) (κ : Res → M α) :
    evDefer T (env k) k syntax_Parse.as syntax_Parse.u2.c syntax_Parse.C.u1.c 45 14 5 [.tmp 2, .tmp 3] [2, 3] syntax_Parse.res [.str x0] κ = syntax_Parse.f (k + 1) x0 (fun o0 o1 => κ (.ret (.tuple [.slice o0, o1]))) :=
  (syntax_Parse.sp k x0 _ _).trans (congr (congrArg (fun a b => syntax_Parse.u1.f k x0 a b) (funext fun y0 => funext fun y1 => funext fun y2 => (syntax_Parse.bok k y0 y1 y2 _).trans (congr (congrArg (fun a b => syntax_Parse.u2.f k y0 y1 y2 a b) (funext fun z0 => funext fun z1 => syntax_Parse.ret k y0 y1 y2 z0 z1 κ)) (funext fun v => syntax_Parse.pan k y0 y1 y2 v _ κ)))) (funext fun y0 => funext fun y1 => syntax_Parse.reta y0 y1 κ))
noncomputable def syntax_spelt.c : IC := syntax_spelt.u9.c
noncomputable def syntax_spelt.res : List ResultVar := [(.tmp 6)]
theorem syntax_spelt.u1.ok (k : Nat) (x0 : List UInt8) (x1 : Int) (x2 : Int) (R : IC) (K : Ex → Frame → M α) :
    evC T (env k) k (syntax_spelt.u1.c R) (frameL [(0, .str x0), (1, .int .u8 x1), (2, .int .u8 x2)]) K =
      syntax_spelt.u1.f k x0 x1 x2 (fun y0 => evC T (env k) k R (frameL [(0, .str y0)]) K) (fun y0 => K .ret (frameL [(6, .bool y0)])) := by kernel_rfl
theorem syntax_spelt.u2.ok (k : Nat) (x0 : List UInt8) (R : IC) (K : Ex → Frame → M α) :
    evC T (env k) k (syntax_spelt.u2.c R) (frameL [(0, .str x0)]) K =
      syntax_spelt.u2.f k x0 (fun y0 y1 y2 => evC T (env k) k R (frameL [(0, .str y0), (30, .int .i64 y1), (31, .int .i64 y2)]) K) := by kernel_rfl
theorem syntax_spelt.u3.ok (k : Nat) (x0 : List UInt8) (x1 : Int) (x2 : Int) (K : Ex → Frame → M α) :
    evC T (env k) k syntax_spelt.u3.c (frameL [(0, .str x0), (30, .int .i64 x1), (31, .int .i64 x2)]) K =
      syntax_spelt.u3.f k x0 x1 x2 (fun y0 y1 y2 => K .normal (frameL [(0, .str y0), (30, .int .i64 y1), (31, .int .i64 y2)])) (fun y0 => K .ret (frameL [(6, .bool y0)])) (K (.exit 0) (frameL [])) := by kernel_rfl
theorem syntax_spelt.u4.ls (k : Nat) (kr : Bool → M α) (kx0 : M α) (j : Nat) (x0 : List UInt8) (x1 : Int) (x2 : Int) : syntax_spelt.u4.l k kr kx0 (j + 1) x0 x1 x2 =
  syntax_spelt.u3.f k x0 x1 x2 (fun y0 y1 y2 => syntax_spelt.u4.l k kr kx0 j y0 y1 y2) kr kx0 := rfl
theorem syntax_spelt.u4.okl (k : Nat) (K : Ex → Frame → M α) : ∀ (j : Nat) (x0 : List UInt8) (x1 : Int) (x2 : Int),
    evLoop (evC T (env k) k syntax_spelt.u3.c) [0, 30, 31] j (frameL [(0, .str x0), (30, .int .i64 x1), (31, .int .i64 x2)]) K = syntax_spelt.u4.l k (fun y0 => K .ret (frameL [(6, .bool y0)])) (K (.exit 0) (frameL [])) j x0 x1 x2
  | 0, _, _, _ => rfl
  | j + 1, x0, x1, x2 => by
      have h := syntax_spelt.u3.ok k x0 x1 x2 (seqK (fun ρ => evLoop (evC T (env k) k syntax_spelt.u3.c) [0, 30, 31] j ρ K) K)
      simp only [seqK_exit, seqK_ret, seqK_pan, seqK_normal, syntax_spelt.u4.okl k K j] at h
      exact (evLoop_step (by kernel_rfl) h).trans (syntax_spelt.u4.ls k (fun y0 => K .ret (frameL [(6, .bool y0)])) (K (.exit 0) (frameL [])) j x0 x1 x2).symm
theorem syntax_spelt.u4.ok (k : Nat) (x0 : List UInt8) (x1 : Int) (x2 : Int) (K : Ex → Frame → M α) :
    evC T (env k) k syntax_spelt.u4.c (frameL [(0, .str x0), (30, .int .i64 x1), (31, .int .i64 x2)]) K =
      syntax_spelt.u4.f k x0 x1 x2 (fun y0 => K .ret (frameL [(6, .bool y0)])) (K (.exit 0) (frameL [])) :=
  evC_loop.trans <| (evLoop_keep (body := evC T (env k) k syntax_spelt.u3.c) (keep := [0, 30, 31]) (ρ := (frameL [(0, .str x0), (30, .int .i64 x1), (31, .int .i64 x2)])) (ρ' := (frameL [(0, .str x0), (30, .int .i64 x1), (31, .int .i64 x2)])) (by kernel_rfl) k K).trans (syntax_spelt.u4.okl k K k x0 x1 x2)
theorem syntax_spelt.u5.ok (k : Nat) (x0 : List UInt8) (x1 : Int) (x2 : Int) (K : Ex → Frame → M α) :
    evC T (env k) k syntax_spelt.u5.c (frameL [(0, .str x0), (30, .int .i64 x1), (31, .int .i64 x2)]) K =
      syntax_spelt.u5.f k x0 x1 x2 (K .normal (frameL [])) (fun y0 => K .ret (frameL [(6, .bool y0)])) :=
  (evC_block.trans (syntax_spelt.u4.ok k x0 x1 x2 (blockK 0 K))).trans (by kernel_rfl)
theorem syntax_spelt.u6.ok (k : Nat) (x0 : List UInt8) (K : Ex → Frame → M α) :
    evC T (env k) k syntax_spelt.u6.c (frameL [(0, .str x0)]) K =
      syntax_spelt.u6.f k x0 (K .normal (frameL [])) (fun y0 => K .ret (frameL [(6, .bool y0)])) :=
  (syntax_spelt.u2.ok k x0 syntax_spelt.u5.c K).trans
    (congrArg (fun z => syntax_spelt.u2.f k x0 z) (funext fun y0 => (funext fun y1 => (funext fun y2 => syntax_spelt.u5.ok k y0 y1 y2 K))))
theorem syntax_spelt.u7.ok (k : Nat) (K : Ex → Frame → M α) :
    evC T (env k) k syntax_spelt.u7.c (frameL []) K =
      syntax_spelt.u7.f k (fun y0 => K .ret (frameL [(6, .bool y0)])) := by kernel_rfl
theorem syntax_spelt.u8.ok (k : Nat) (x0 : List UInt8) (K : Ex → Frame → M α) :
    evC T (env k) k syntax_spelt.u8.c (frameL [(0, .str x0)]) K =
      syntax_spelt.u8.f k x0 (fun y0 => K .ret (frameL [(6, .bool y0)])) :=
  by
    have h := syntax_spelt.u6.ok k x0 (seqK (fun ρ => evC T (env k) k syntax_spelt.u7.c ρ K) K)
    simp only [seqK_normal, seqK_exit, seqK_ret, seqK_pan, syntax_spelt.u7.ok] at h
    exact evC_seq_of h
theorem syntax_spelt.u9.ok (k : Nat) (x0 : List UInt8) (x1 : Int) (x2 : Int) (K : Ex → Frame → M α) :
    evC T (env k) k syntax_spelt.u9.c (frameL [(0, .str x0), (1, .int .u8 x1), (2, .int .u8 x2)]) K =
      syntax_spelt.u9.f k x0 x1 x2 (fun y0 => K .ret (frameL [(6, .bool y0)])) :=
  (syntax_spelt.u1.ok k x0 x1 x2 syntax_spelt.u8.c K).trans
    (congrArg (fun z => syntax_spelt.u1.f k x0 x1 x2 z (fun y0 => K .ret (frameL [(6, .bool y0)]))) (funext fun y0 => syntax_spelt.u8.ok k y0 K))
theorem syntax_spelt.ok (k : Nat) (x0 : List UInt8) (x1 : Int) (x2 : Int) (κ : Res → M α) :
    evF T (env k) k syntax_spelt.c syntax_spelt.res [.str x0, .int .u8 x1, .int .u8 x2] κ = syntax_spelt.f (k + 1) x0 x1 x2 (fun o0 => κ (.ret (.bool o0))) :=
  (syntax_spelt.u9.ok k x0 x1 x2 (retK T syntax_spelt.res κ)).trans (by kernel_rfl)
theorem syntax_spelt.code : syntax_spelt.c.code = bodyOf Try.f65 := by kernel_rfl
noncomputable def syntax_name.c : IC := syntax_name.u1.c
noncomputable def syntax_name.res : List ResultVar := [(.tmp 2)]
theorem syntax_name.u1.ok (k : Nat) (x0 : List UInt8) (K : Ex → Frame → M α) :
    evC T (env k) k syntax_name.u1.c (frameL [(0, .str x0)]) K =
      syntax_name.u1.f k x0 (fun y0 => K .ret (frameL [(2, .bool y0)])) := by kernel_rfl
theorem syntax_name.ok (k : Nat) (x0 : List UInt8) (κ : Res → M α) :
    evF T (env k) k syntax_name.c syntax_name.res [.str x0] κ = syntax_name.f (k + 1) x0 (fun o0 => κ (.ret (.bool o0))) :=
  (syntax_name.u1.ok k x0 (retK T syntax_name.res κ)).trans (by kernel_rfl)
theorem syntax_name.code : syntax_name.c.code = bodyOf Try.f51 := by kernel_rfl
noncomputable def syntax_variable.c : IC := syntax_variable.u1.c
noncomputable def syntax_variable.res : List ResultVar := [(.tmp 2)]
theorem syntax_variable.u1.ok (k : Nat) (x0 : List UInt8) (K : Ex → Frame → M α) :
    evC T (env k) k syntax_variable.u1.c (frameL [(0, .str x0)]) K =
      syntax_variable.u1.f k x0 (fun y0 => K .ret (frameL [(2, .bool y0)])) := by kernel_rfl
theorem syntax_variable.ok (k : Nat) (x0 : List UInt8) (κ : Res → M α) :
    evF T (env k) k syntax_variable.c syntax_variable.res [.str x0] κ = syntax_variable.f (k + 1) x0 (fun o0 => κ (.ret (.bool o0))) :=
  (syntax_variable.u1.ok k x0 (retK T syntax_variable.res κ)).trans (by kernel_rfl)
theorem syntax_variable.code : syntax_variable.c.code = bodyOf Try.f52 := by kernel_rfl
noncomputable def syntax_below.c : IC := syntax_below.u1.c
noncomputable def syntax_below.res : List ResultVar := [(.tmp 2), (.tmp 3)]
theorem syntax_below.u1.ok (k : Nat) (x0 : Int) (x1 : Int) (x2 : Int) (x3 : List UInt8) (x4 : Int) (K : Ex → Frame → M α) :
    evC T (env k) k syntax_below.u1.c (frameL [(0, .agg [.int .i64 x0, .int .i64 x1, .int .i64 x2, .str x3, .int .i64 x4])]) K =
      syntax_below.u1.f k x0 x1 x2 x3 x4 (fun y0 y1 => K .ret (frameL [(2, .int .i64 y0), (3, .bool y1)])) := by kernel_rfl
theorem syntax_below.ok (k : Nat) (x0 : Int) (x1 : Int) (x2 : Int) (x3 : List UInt8) (x4 : Int) (κ : Res → M α) :
    evF T (env k) k syntax_below.c syntax_below.res [.agg [.int .i64 x0, .int .i64 x1, .int .i64 x2, .str x3, .int .i64 x4]] κ = syntax_below.f (k + 1) x0 x1 x2 x3 x4 (fun o0 o1 => κ (.ret (.tuple [.int .i64 o0, .bool o1]))) :=
  (syntax_below.u1.ok k x0 x1 x2 x3 x4 (retK T syntax_below.res κ)).trans (by kernel_rfl)
theorem syntax_below.code : syntax_below.c.code = bodyOf Try.f36 := by kernel_rfl
noncomputable def syntax_Right_c1.c : IC := syntax_Right_c1.u1.c
noncomputable def syntax_Right_c1.res : List ResultVar := [(.tmp 2)]
theorem syntax_Right_c1.u1.ok (k : Nat) (x0 : Int) (K : Ex → Frame → M α) :
    evC T (env k) k syntax_Right_c1.u1.c (frameL [(0, .int .i64 x0)]) K =
      syntax_Right_c1.u1.f k x0 (fun y0 => K .ret (frameL [(2, .bool y0)])) := by kernel_rfl
theorem syntax_Right_c1.ok (k : Nat) (x0 : Int) (κ : Res → M α) :
    evF T (env k) k syntax_Right_c1.c syntax_Right_c1.res [.int .i64 x0] κ = syntax_Right_c1.f (k + 1) x0 (fun o0 => κ (.ret (.bool o0))) :=
  (syntax_Right_c1.u1.ok k x0 (retK T syntax_Right_c1.res κ)).trans (by kernel_rfl)
theorem syntax_Right_c1.code : syntax_Right_c1.c.code = bodyOf Try.f38 := by kernel_rfl
noncomputable def slII.c : IC := slII.u9.c
noncomputable def slII.res : List ResultVar := [(.tmp 4)]
theorem slII.u1.ok (k : Nat) (x0 : Sl) (R : IC) (K : Ex → Frame → M α) :
    evC T (env k) k (slII.u1.c R) (frameL [(0, .slice x0), (1, .func 38 [] [])]) K =
      slII.u1.f k x0 (fun y0 => evC T (env k) k R (frameL [(0, .slice y0), (1, .func 38 [] [])]) K) := by kernel_rfl
theorem slII.u2.ok (k : Nat) (x0 : Sl) (R : IC) (K : Ex → Frame → M α) :
    evC T (env k) k (slII.u2.c R) (frameL [(0, .slice x0), (1, .func 38 [] [])]) K =
      slII.u2.f k x0 (fun y0 y1 y2 => evC T (env k) k R (frameL [(0, .slice y0), (1, .func 38 [] []), (7, .int .i64 y1), (8, .int .i64 y2)]) K) := by kernel_rfl
theorem slII.u3.ok (k : Nat) (x0 : Sl) (x1 : Int) (x2 : Int) (K : Ex → Frame → M α) :
    evC T (env k) k slII.u3.c (frameL [(0, .slice x0), (1, .func 38 [] []), (7, .int .i64 x1), (8, .int .i64 x2)]) K =
      slII.u3.f k x0 x1 x2 (fun y0 y1 y2 => K .normal (frameL [(0, .slice y0), (1, .func 38 [] []), (7, .int .i64 y1), (8, .int .i64 y2)])) (fun y0 => K .ret (frameL [(4, .int .i64 y0)])) (K (.exit 0) (frameL [])) := by kernel_rfl
theorem slII.u4.ls (k : Nat) (kr : Int → M α) (kx0 : M α) (j : Nat) (x0 : Sl) (x1 : Int) (x2 : Int) : slII.u4.l k kr kx0 (j + 1) x0 x1 x2 =
  slII.u3.f k x0 x1 x2 (fun y0 y1 y2 => slII.u4.l k kr kx0 j y0 y1 y2) kr kx0 := rfl
theorem slII.u4.okl (k : Nat) (K : Ex → Frame → M α) : ∀ (j : Nat) (x0 : Sl) (x1 : Int) (x2 : Int),
    evLoop (evC T (env k) k slII.u3.c) [0, 1, 7, 8] j (frameL [(0, .slice x0), (1, .func 38 [] []), (7, .int .i64 x1), (8, .int .i64 x2)]) K = slII.u4.l k (fun y0 => K .ret (frameL [(4, .int .i64 y0)])) (K (.exit 0) (frameL [])) j x0 x1 x2
  | 0, _, _, _ => rfl
  | j + 1, x0, x1, x2 => by
      have h := slII.u3.ok k x0 x1 x2 (seqK (fun ρ => evLoop (evC T (env k) k slII.u3.c) [0, 1, 7, 8] j ρ K) K)
      simp only [seqK_exit, seqK_ret, seqK_pan, seqK_normal, slII.u4.okl k K j] at h
      exact (evLoop_step (by kernel_rfl) h).trans (slII.u4.ls k (fun y0 => K .ret (frameL [(4, .int .i64 y0)])) (K (.exit 0) (frameL [])) j x0 x1 x2).symm
theorem slII.u4.ok (k : Nat) (x0 : Sl) (x1 : Int) (x2 : Int) (K : Ex → Frame → M α) :
    evC T (env k) k slII.u4.c (frameL [(0, .slice x0), (1, .func 38 [] []), (7, .int .i64 x1), (8, .int .i64 x2)]) K =
      slII.u4.f k x0 x1 x2 (fun y0 => K .ret (frameL [(4, .int .i64 y0)])) (K (.exit 0) (frameL [])) :=
  evC_loop.trans <| (evLoop_keep (body := evC T (env k) k slII.u3.c) (keep := [0, 1, 7, 8]) (ρ := (frameL [(0, .slice x0), (1, .func 38 [] []), (7, .int .i64 x1), (8, .int .i64 x2)])) (ρ' := (frameL [(0, .slice x0), (1, .func 38 [] []), (7, .int .i64 x1), (8, .int .i64 x2)])) (by kernel_rfl) k K).trans (slII.u4.okl k K k x0 x1 x2)
theorem slII.u5.ok (k : Nat) (x0 : Sl) (x1 : Int) (x2 : Int) (K : Ex → Frame → M α) :
    evC T (env k) k slII.u5.c (frameL [(0, .slice x0), (1, .func 38 [] []), (7, .int .i64 x1), (8, .int .i64 x2)]) K =
      slII.u5.f k x0 x1 x2 (K .normal (frameL [])) (fun y0 => K .ret (frameL [(4, .int .i64 y0)])) :=
  (evC_block.trans (slII.u4.ok k x0 x1 x2 (blockK 0 K))).trans (by kernel_rfl)
theorem slII.u6.ok (k : Nat) (x0 : Sl) (K : Ex → Frame → M α) :
    evC T (env k) k slII.u6.c (frameL [(0, .slice x0), (1, .func 38 [] [])]) K =
      slII.u6.f k x0 (K .normal (frameL [])) (fun y0 => K .ret (frameL [(4, .int .i64 y0)])) :=
  (slII.u2.ok k x0 slII.u5.c K).trans
    (congrArg (fun z => slII.u2.f k x0 z) (funext fun y0 => (funext fun y1 => (funext fun y2 => slII.u5.ok k y0 y1 y2 K))))
theorem slII.u7.ok (k : Nat) (K : Ex → Frame → M α) :
    evC T (env k) k slII.u7.c (frameL []) K =
      slII.u7.f k (fun y0 => K .ret (frameL [(4, .int .i64 y0)])) := by kernel_rfl
theorem slII.u8.ok (k : Nat) (x0 : Sl) (K : Ex → Frame → M α) :
    evC T (env k) k slII.u8.c (frameL [(0, .slice x0), (1, .func 38 [] [])]) K =
      slII.u8.f k x0 (fun y0 => K .ret (frameL [(4, .int .i64 y0)])) :=
  by
    have h := slII.u6.ok k x0 (seqK (fun ρ => evC T (env k) k slII.u7.c ρ K) K)
    simp only [seqK_normal, seqK_exit, seqK_ret, seqK_pan, slII.u7.ok] at h
    exact evC_seq_of h
theorem slII.u9.ok (k : Nat) (x0 : Sl) (K : Ex → Frame → M α) :
    evC T (env k) k slII.u9.c (frameL [(0, .slice x0), (1, .func 38 [] [])]) K =
      slII.u9.f k x0 (fun y0 => K .ret (frameL [(4, .int .i64 y0)])) :=
  (slII.u1.ok k x0 slII.u8.c K).trans
    (congrArg (fun z => slII.u1.f k x0 z) (funext fun y0 => slII.u8.ok k y0 K))
theorem slII.ok (k : Nat) (x0 : Sl) (κ : Res → M α) :
    evF T (env k) k slII.c slII.res [.slice x0, .func 38 [] []] κ = slII.f (k + 1) x0 (fun o0 => κ (.ret (.int .i64 o0))) :=
  (slII.u9.ok k x0 (retK T slII.res κ)).trans (by kernel_rfl)
theorem slII.code : slII.c.code = bodyOf Try.f53 := by kernel_rfl
noncomputable def slices_ContainsFunc_int_int_38.c : IC := slices_ContainsFunc_int_int_38.u1.c
noncomputable def slices_ContainsFunc_int_int_38.res : List ResultVar := [(.tmp 4)]
theorem slices_ContainsFunc_int_int_38.u1.ok (k : Nat) (x0 : Sl) (K : Ex → Frame → M α) :
    evC T (env k) k slices_ContainsFunc_int_int_38.u1.c (frameL [(0, .slice x0), (1, .func 38 [] [])]) K =
      slices_ContainsFunc_int_int_38.u1.f k x0 (fun y0 => K .ret (frameL [(4, .bool y0)])) := by kernel_rfl
theorem slices_ContainsFunc_int_int_38.ok (k : Nat) (x0 : Sl) (κ : Res → M α) :
    evF T (env k) k slices_ContainsFunc_int_int_38.c slices_ContainsFunc_int_int_38.res [.slice x0, .func 38 [] []] κ = slices_ContainsFunc_int_int_38.f (k + 1) x0 (fun o0 => κ (.ret (.bool o0))) :=
  (slices_ContainsFunc_int_int_38.u1.ok k x0 (retK T slices_ContainsFunc_int_int_38.res κ)).trans (by kernel_rfl)
theorem slices_ContainsFunc_int_int_38.code : slices_ContainsFunc_int_int_38.c.code = bodyOf Try.f37 := by kernel_rfl
noncomputable def slEq.c : IC := slEq.u9.c
noncomputable def slEq.res : List ResultVar := [(.tmp 4)]
theorem slEq.u1.ok (k : Nat) (x0 : Sl) (x1 : Sl) (R : IC) (K : Ex → Frame → M α) :
    evC T (env k) k (slEq.u1.c R) (frameL [(0, .slice x0), (1, .slice x1)]) K =
      slEq.u1.f k x0 x1 (fun y0 y1 => evC T (env k) k R (frameL [(0, .slice y0), (1, .slice y1)]) K) (fun y0 => K .ret (frameL [(4, .bool y0)])) := by kernel_rfl
theorem slEq.u2.ok (k : Nat) (x0 : Sl) (x1 : Sl) (R : IC) (K : Ex → Frame → M α) :
    evC T (env k) k (slEq.u2.c R) (frameL [(0, .slice x0), (1, .slice x1)]) K =
      slEq.u2.f k x0 x1 (fun y0 y1 y2 y3 => evC T (env k) k R (frameL [(0, .slice y0), (1, .slice y1), (12, .int .i64 y2), (13, .int .i64 y3)]) K) := by kernel_rfl
theorem slEq.u3.ok (k : Nat) (x0 : Sl) (x1 : Sl) (x2 : Int) (x3 : Int) (K : Ex → Frame → M α) :
    evC T (env k) k slEq.u3.c (frameL [(0, .slice x0), (1, .slice x1), (12, .int .i64 x2), (13, .int .i64 x3)]) K =
      slEq.u3.f k x0 x1 x2 x3 (fun y0 y1 y2 y3 => K .normal (frameL [(0, .slice y0), (1, .slice y1), (12, .int .i64 y2), (13, .int .i64 y3)])) (fun y0 => K .ret (frameL [(4, .bool y0)])) (K (.exit 0) (frameL [])) := by kernel_rfl
theorem slEq.u4.ls (k : Nat) (kr : Bool → M α) (kx0 : M α) (j : Nat) (x0 : Sl) (x1 : Sl) (x2 : Int) (x3 : Int) : slEq.u4.l k kr kx0 (j + 1) x0 x1 x2 x3 =
  slEq.u3.f k x0 x1 x2 x3 (fun y0 y1 y2 y3 => slEq.u4.l k kr kx0 j y0 y1 y2 y3) kr kx0 := rfl
theorem slEq.u4.okl (k : Nat) (K : Ex → Frame → M α) : ∀ (j : Nat) (x0 : Sl) (x1 : Sl) (x2 : Int) (x3 : Int),
    evLoop (evC T (env k) k slEq.u3.c) [0, 1, 12, 13] j (frameL [(0, .slice x0), (1, .slice x1), (12, .int .i64 x2), (13, .int .i64 x3)]) K = slEq.u4.l k (fun y0 => K .ret (frameL [(4, .bool y0)])) (K (.exit 0) (frameL [])) j x0 x1 x2 x3
  | 0, _, _, _, _ => rfl
  | j + 1, x0, x1, x2, x3 => by
      have h := slEq.u3.ok k x0 x1 x2 x3 (seqK (fun ρ => evLoop (evC T (env k) k slEq.u3.c) [0, 1, 12, 13] j ρ K) K)
      simp only [seqK_exit, seqK_ret, seqK_pan, seqK_normal, slEq.u4.okl k K j] at h
      exact (evLoop_step (by kernel_rfl) h).trans (slEq.u4.ls k (fun y0 => K .ret (frameL [(4, .bool y0)])) (K (.exit 0) (frameL [])) j x0 x1 x2 x3).symm
theorem slEq.u4.ok (k : Nat) (x0 : Sl) (x1 : Sl) (x2 : Int) (x3 : Int) (K : Ex → Frame → M α) :
    evC T (env k) k slEq.u4.c (frameL [(0, .slice x0), (1, .slice x1), (12, .int .i64 x2), (13, .int .i64 x3)]) K =
      slEq.u4.f k x0 x1 x2 x3 (fun y0 => K .ret (frameL [(4, .bool y0)])) (K (.exit 0) (frameL [])) :=
  evC_loop.trans <| (evLoop_keep (body := evC T (env k) k slEq.u3.c) (keep := [0, 1, 12, 13]) (ρ := (frameL [(0, .slice x0), (1, .slice x1), (12, .int .i64 x2), (13, .int .i64 x3)])) (ρ' := (frameL [(0, .slice x0), (1, .slice x1), (12, .int .i64 x2), (13, .int .i64 x3)])) (by kernel_rfl) k K).trans (slEq.u4.okl k K k x0 x1 x2 x3)
theorem slEq.u5.ok (k : Nat) (x0 : Sl) (x1 : Sl) (x2 : Int) (x3 : Int) (K : Ex → Frame → M α) :
    evC T (env k) k slEq.u5.c (frameL [(0, .slice x0), (1, .slice x1), (12, .int .i64 x2), (13, .int .i64 x3)]) K =
      slEq.u5.f k x0 x1 x2 x3 (K .normal (frameL [])) (fun y0 => K .ret (frameL [(4, .bool y0)])) :=
  (evC_block.trans (slEq.u4.ok k x0 x1 x2 x3 (blockK 0 K))).trans (by kernel_rfl)
theorem slEq.u6.ok (k : Nat) (x0 : Sl) (x1 : Sl) (K : Ex → Frame → M α) :
    evC T (env k) k slEq.u6.c (frameL [(0, .slice x0), (1, .slice x1)]) K =
      slEq.u6.f k x0 x1 (K .normal (frameL [])) (fun y0 => K .ret (frameL [(4, .bool y0)])) :=
  (slEq.u2.ok k x0 x1 slEq.u5.c K).trans
    (congrArg (fun z => slEq.u2.f k x0 x1 z) (funext fun y0 => (funext fun y1 => (funext fun y2 => (funext fun y3 => slEq.u5.ok k y0 y1 y2 y3 K)))))
theorem slEq.u7.ok (k : Nat) (K : Ex → Frame → M α) :
    evC T (env k) k slEq.u7.c (frameL []) K =
      slEq.u7.f k (fun y0 => K .ret (frameL [(4, .bool y0)])) := by kernel_rfl
theorem slEq.u8.ok (k : Nat) (x0 : Sl) (x1 : Sl) (K : Ex → Frame → M α) :
    evC T (env k) k slEq.u8.c (frameL [(0, .slice x0), (1, .slice x1)]) K =
      slEq.u8.f k x0 x1 (fun y0 => K .ret (frameL [(4, .bool y0)])) :=
  by
    have h := slEq.u6.ok k x0 x1 (seqK (fun ρ => evC T (env k) k slEq.u7.c ρ K) K)
    simp only [seqK_normal, seqK_exit, seqK_ret, seqK_pan, slEq.u7.ok] at h
    exact evC_seq_of h
theorem slEq.u9.ok (k : Nat) (x0 : Sl) (x1 : Sl) (K : Ex → Frame → M α) :
    evC T (env k) k slEq.u9.c (frameL [(0, .slice x0), (1, .slice x1)]) K =
      slEq.u9.f k x0 x1 (fun y0 => K .ret (frameL [(4, .bool y0)])) :=
  (slEq.u1.ok k x0 x1 slEq.u8.c K).trans
    (congrArg (fun z => slEq.u1.f k x0 x1 z (fun y0 => K .ret (frameL [(4, .bool y0)]))) (funext fun y0 => (funext fun y1 => slEq.u8.ok k y0 y1 K)))
theorem slEq.ok (k : Nat) (x0 : Sl) (x1 : Sl) (κ : Res → M α) :
    evF T (env k) k slEq.c slEq.res [.slice x0, .slice x1] κ = slEq.f (k + 1) x0 x1 (fun o0 => κ (.ret (.bool o0))) :=
  (slEq.u9.ok k x0 x1 (retK T slEq.res κ)).trans (by kernel_rfl)
theorem slEq.code : slEq.c.code = bodyOf Try.f39 := by kernel_rfl
noncomputable def syntax_Right.c : IC := syntax_Right.u9.c
noncomputable def syntax_Right.res : List ResultVar := [(.tmp 2)]
theorem syntax_Right.u1.ok (k : Nat) (x0 : Sl) (R : IC) (K : Ex → Frame → M α) :
    evC T (env k) k (syntax_Right.u1.c R) (frameL [(0, .slice x0)]) K =
      syntax_Right.u1.f k x0 (fun y0 y1 => evC T (env k) k R (frameL [(0, .slice y0), (3, .slice y1)]) K) (fun y0 => K .ret (frameL [(2, .bool y0)])) := by kernel_rfl
theorem syntax_Right.u2.ok (k : Nat) (x0 : Sl) (x1 : Sl) (R : IC) (K : Ex → Frame → M α) :
    evC T (env k) k (syntax_Right.u2.c R) (frameL [(0, .slice x0), (3, .slice x1)]) K =
      syntax_Right.u2.f k x0 x1 (fun y0 y1 y2 y3 => evC T (env k) k R (frameL [(3, .slice y0), (17, .slice y1), (18, .int .i64 y2), (19, .int .i64 y3)]) K) := by kernel_rfl
theorem syntax_Right.u3.ok (k : Nat) (x0 : Sl) (x1 : Sl) (x2 : Int) (x3 : Int) (K : Ex → Frame → M α) :
    evC T (env k) k syntax_Right.u3.c (frameL [(3, .slice x0), (17, .slice x1), (18, .int .i64 x2), (19, .int .i64 x3)]) K =
      syntax_Right.u3.f k x0 x1 x2 x3 (fun y0 y1 y2 y3 => K .normal (frameL [(3, .slice y0), (17, .slice y1), (18, .int .i64 y2), (19, .int .i64 y3)])) (fun y0 => K .ret (frameL [(2, .bool y0)])) (fun y0 => K (.exit 0) (frameL [(3, .slice y0)])) := by kernel_rfl
theorem syntax_Right.u4.ls (k : Nat) (kr : Bool → M α) (kx0 : Sl → M α) (j : Nat) (x0 : Sl) (x1 : Sl) (x2 : Int) (x3 : Int) : syntax_Right.u4.l k kr kx0 (j + 1) x0 x1 x2 x3 =
  syntax_Right.u3.f k x0 x1 x2 x3 (fun y0 y1 y2 y3 => syntax_Right.u4.l k kr kx0 j y0 y1 y2 y3) kr kx0 := rfl
theorem syntax_Right.u4.okl (k : Nat) (K : Ex → Frame → M α) : ∀ (j : Nat) (x0 : Sl) (x1 : Sl) (x2 : Int) (x3 : Int),
    evLoop (evC T (env k) k syntax_Right.u3.c) [3, 17, 18, 19] j (frameL [(3, .slice x0), (17, .slice x1), (18, .int .i64 x2), (19, .int .i64 x3)]) K = syntax_Right.u4.l k (fun y0 => K .ret (frameL [(2, .bool y0)])) (fun y0 => K (.exit 0) (frameL [(3, .slice y0)])) j x0 x1 x2 x3
  | 0, _, _, _, _ => rfl
  | j + 1, x0, x1, x2, x3 => by
      have h := syntax_Right.u3.ok k x0 x1 x2 x3 (seqK (fun ρ => evLoop (evC T (env k) k syntax_Right.u3.c) [3, 17, 18, 19] j ρ K) K)
      simp only [seqK_exit, seqK_ret, seqK_pan, seqK_normal, syntax_Right.u4.okl k K j] at h
      exact (evLoop_step (by kernel_rfl) h).trans (syntax_Right.u4.ls k (fun y0 => K .ret (frameL [(2, .bool y0)])) (fun y0 => K (.exit 0) (frameL [(3, .slice y0)])) j x0 x1 x2 x3).symm
theorem syntax_Right.u4.ok (k : Nat) (x0 : Sl) (x1 : Sl) (x2 : Int) (x3 : Int) (K : Ex → Frame → M α) :
    evC T (env k) k syntax_Right.u4.c (frameL [(3, .slice x0), (17, .slice x1), (18, .int .i64 x2), (19, .int .i64 x3)]) K =
      syntax_Right.u4.f k x0 x1 x2 x3 (fun y0 => K .ret (frameL [(2, .bool y0)])) (fun y0 => K (.exit 0) (frameL [(3, .slice y0)])) :=
  evC_loop.trans <| (evLoop_keep (body := evC T (env k) k syntax_Right.u3.c) (keep := [3, 17, 18, 19]) (ρ := (frameL [(3, .slice x0), (17, .slice x1), (18, .int .i64 x2), (19, .int .i64 x3)])) (ρ' := (frameL [(3, .slice x0), (17, .slice x1), (18, .int .i64 x2), (19, .int .i64 x3)])) (by kernel_rfl) k K).trans (syntax_Right.u4.okl k K k x0 x1 x2 x3)
theorem syntax_Right.u5.ok (k : Nat) (x0 : Sl) (x1 : Sl) (x2 : Int) (x3 : Int) (K : Ex → Frame → M α) :
    evC T (env k) k syntax_Right.u5.c (frameL [(3, .slice x0), (17, .slice x1), (18, .int .i64 x2), (19, .int .i64 x3)]) K =
      syntax_Right.u5.f k x0 x1 x2 x3 (fun y0 => K .normal (frameL [(3, .slice y0)])) (fun y0 => K .ret (frameL [(2, .bool y0)])) :=
  (evC_block.trans (syntax_Right.u4.ok k x0 x1 x2 x3 (blockK 0 K))).trans (by kernel_rfl)
theorem syntax_Right.u6.ok (k : Nat) (x0 : Sl) (x1 : Sl) (K : Ex → Frame → M α) :
    evC T (env k) k syntax_Right.u6.c (frameL [(0, .slice x0), (3, .slice x1)]) K =
      syntax_Right.u6.f k x0 x1 (fun y0 => K .normal (frameL [(3, .slice y0)])) (fun y0 => K .ret (frameL [(2, .bool y0)])) :=
  (syntax_Right.u2.ok k x0 x1 syntax_Right.u5.c K).trans
    (congrArg (fun z => syntax_Right.u2.f k x0 x1 z) (funext fun y0 => (funext fun y1 => (funext fun y2 => (funext fun y3 => syntax_Right.u5.ok k y0 y1 y2 y3 K)))))
theorem syntax_Right.u7.ok (k : Nat) (x0 : Sl) (K : Ex → Frame → M α) :
    evC T (env k) k syntax_Right.u7.c (frameL [(3, .slice x0)]) K =
      syntax_Right.u7.f k x0 (fun y0 => K .ret (frameL [(2, .bool y0)])) := by kernel_rfl
theorem syntax_Right.u8.ok (k : Nat) (x0 : Sl) (x1 : Sl) (K : Ex → Frame → M α) :
    evC T (env k) k syntax_Right.u8.c (frameL [(0, .slice x0), (3, .slice x1)]) K =
      syntax_Right.u8.f k x0 x1 (fun y0 => K .ret (frameL [(2, .bool y0)])) :=
  by
    have h := syntax_Right.u6.ok k x0 x1 (seqK (fun ρ => evC T (env k) k syntax_Right.u7.c ρ K) K)
    simp only [seqK_normal, seqK_exit, seqK_ret, seqK_pan, syntax_Right.u7.ok] at h
    exact evC_seq_of h
theorem syntax_Right.u9.ok (k : Nat) (x0 : Sl) (K : Ex → Frame → M α) :
    evC T (env k) k syntax_Right.u9.c (frameL [(0, .slice x0)]) K =
      syntax_Right.u9.f k x0 (fun y0 => K .ret (frameL [(2, .bool y0)])) :=
  (syntax_Right.u1.ok k x0 syntax_Right.u8.c K).trans
    (congrArg (fun z => syntax_Right.u1.f k x0 z (fun y0 => K .ret (frameL [(2, .bool y0)]))) (funext fun y0 => (funext fun y1 => syntax_Right.u8.ok k y0 y1 K)))
theorem syntax_Right.ok (k : Nat) (x0 : Sl) (κ : Res → M α) :
    evF T (env k) k syntax_Right.c syntax_Right.res [.slice x0] κ = syntax_Right.f (k + 1) x0 (fun o0 => κ (.ret (.bool o0))) :=
  (syntax_Right.u9.ok k x0 (retK T syntax_Right.res κ)).trans (by kernel_rfl)
theorem syntax_Right.code : syntax_Right.c.code = bodyOf Try.f19 := by kernel_rfl
noncomputable def strings_Builder_WriteString.c : IC := strings_Builder_WriteString.u1.c
noncomputable def strings_Builder_WriteString.res : List ResultVar := [(.tmp 4), (.tmp 5)]
theorem strings_Builder_WriteString.u1.ok (k : Nat) (x0 : Ad) (x1 : List UInt8) (K : Ex → Frame → M α) :
    evC T (env k) k strings_Builder_WriteString.u1.c (frameL [(0, .ptr (some x0)), (1, .str x1)]) K =
      strings_Builder_WriteString.u1.f k x0 x1 (fun y0 => K .ret (frameL [(4, .int .i64 y0), (5, .nilIface)])) := by kernel_rfl
theorem strings_Builder_WriteString.ok (k : Nat) (x0 : Ad) (x1 : List UInt8) (κ : Res → M α) :
    evF T (env k) k strings_Builder_WriteString.c strings_Builder_WriteString.res [.ptr (some x0), .str x1] κ = strings_Builder_WriteString.f (k + 1) x0 x1 (fun o0 o1 => κ (.ret (.tuple [.int .i64 o0, o1]))) :=
  (strings_Builder_WriteString.u1.ok k x0 x1 (retK T strings_Builder_WriteString.res κ)).trans (by kernel_rfl)
theorem strings_Builder_WriteString.code : strings_Builder_WriteString.c.code = bodyOf Try.f56 := by kernel_rfl
noncomputable def syntax_fix.c : IC := syntax_fix.u1.c
noncomputable def syntax_fix.res : List ResultVar := [(.tmp 2)]
theorem syntax_fix.u1.ok (k : Nat) (x0 : Int) (K : Ex → Frame → M α) :
    evC T (env k) k syntax_fix.u1.c (frameL [(0, .int .i64 x0)]) K =
      syntax_fix.u1.f k x0 (fun y0 => K .ret (frameL [(2, .bool y0)])) := by kernel_rfl
theorem syntax_fix.ok (k : Nat) (x0 : Int) (κ : Res → M α) :
    evF T (env k) k syntax_fix.c syntax_fix.res [.int .i64 x0] κ = syntax_fix.f (k + 1) x0 (fun o0 => κ (.ret (.bool o0))) :=
  (syntax_fix.u1.ok k x0 (retK T syntax_fix.res κ)).trans (by kernel_rfl)
theorem syntax_fix.code : syntax_fix.c.code = bodyOf Try.f68 := by kernel_rfl
noncomputable def syntax_write.c : IC := syntax_write.u3.c
noncomputable def syntax_write.res : List ResultVar := []
theorem syntax_write.u1.ok (k : Nat) (x0 : Ad) (x1 : Sl) (x2 : Int) (R : IC) (K : Ex → Frame → M α) :
    evC T (env k) k (syntax_write.u1.c R) (frameL [(0, .ptr (some x0)), (1, .slice x1), (2, .int .i64 x2)]) K =
      syntax_write.u1.f k (syntax_operand.f k) x0 x1 x2 (fun y0 y1 y2 => evC T (env k) k R (frameL [(0, .ptr (some y0)), (1, .slice y1), (6, .ptr (some y2))]) K) (K .ret (frameL [])) := by kernel_rfl
theorem syntax_write.u2.ok (k : Nat) (x0 : Ad) (x1 : Sl) (x2 : Ad) (K : Ex → Frame → M α) :
    evC T (env k) k syntax_write.u2.c (frameL [(0, .ptr (some x0)), (1, .slice x1), (6, .ptr (some x2))]) K =
      syntax_write.u2.f k (syntax_operand.f k) x0 x1 x2 (K .normal (frameL [])) := by kernel_rfl
theorem syntax_write.u3.ok (k : Nat) (x0 : Ad) (x1 : Sl) (x2 : Int) (K : Ex → Frame → M α) :
    evC T (env k) k syntax_write.u3.c (frameL [(0, .ptr (some x0)), (1, .slice x1), (2, .int .i64 x2)]) K =
      syntax_write.u3.f k (syntax_operand.f k) x0 x1 x2 (K .normal (frameL [])) (K .ret (frameL [])) :=
  (syntax_write.u1.ok k x0 x1 x2 syntax_write.u2.c K).trans
    (congrArg (fun z => syntax_write.u1.f k (syntax_operand.f k) x0 x1 x2 z (K .ret (frameL []))) (funext fun y0 => (funext fun y1 => (funext fun y2 => syntax_write.u2.ok k y0 y1 y2 K))))
theorem syntax_write.ok (k : Nat) (x0 : Ad) (x1 : Sl) (x2 : Int) (κ : Res → M α) :
    evF T (env k) k syntax_write.c syntax_write.res [.ptr (some x0), .slice x1, .int .i64 x2] κ = syntax_write.f (k + 1) x0 x1 x2 (κ (.ret (.tuple []))) :=
  (syntax_write.u3.ok k x0 x1 x2 (retK T syntax_write.res κ)).trans (by kernel_rfl)
theorem syntax_write.code : syntax_write.c.code = bodyOf Try.f41 := by kernel_rfl
noncomputable def syntax_operand.c : IC := syntax_operand.u1.c
noncomputable def syntax_operand.res : List ResultVar := []
theorem syntax_operand.u1.ok (k : Nat) (x0 : Ad) (x1 : Sl) (x2 : Int) (x3 : Int) (x4 : Bool) (K : Ex → Frame → M α) :
    evC T (env k) k syntax_operand.u1.c (frameL [(0, .ptr (some x0)), (1, .slice x1), (2, .int .i64 x2), (3, .int .i64 x3), (4, .bool x4)]) K =
      syntax_operand.u1.f k (syntax_write.f k) x0 x1 x2 x3 x4 (K .normal (frameL [])) := by kernel_rfl
theorem syntax_operand.ok (k : Nat) (x0 : Ad) (x1 : Sl) (x2 : Int) (x3 : Int) (x4 : Bool) (κ : Res → M α) :
    evF T (env k) k syntax_operand.c syntax_operand.res [.ptr (some x0), .slice x1, .int .i64 x2, .int .i64 x3, .bool x4] κ = syntax_operand.f (k + 1) x0 x1 x2 x3 x4 (κ (.ret (.tuple []))) :=
  (syntax_operand.u1.ok k x0 x1 x2 x3 x4 (retK T syntax_operand.res κ)).trans (by kernel_rfl)
theorem syntax_operand.code : syntax_operand.c.code = bodyOf Try.f57 := by kernel_rfl
noncomputable def syntax_Print.c : IC := syntax_Print.u1.c
noncomputable def syntax_Print.res : List ResultVar := [(.tmp 2)]
theorem syntax_Print.u1.ok (k : Nat) (x0 : Sl) (K : Ex → Frame → M α) :
    evC T (env k) k syntax_Print.u1.c (frameL [(0, .slice x0)]) K =
      syntax_Print.u1.f k x0 (fun y0 => K .ret (frameL [(2, .str y0)])) := by kernel_rfl
theorem syntax_Print.ok (k : Nat) (x0 : Sl) (κ : Res → M α) :
    evF T (env k) k syntax_Print.c syntax_Print.res [.slice x0] κ = syntax_Print.f (k + 1) x0 (fun o0 => κ (.ret (.str o0))) :=
  (syntax_Print.u1.ok k x0 (retK T syntax_Print.res κ)).trans (by kernel_rfl)
theorem syntax_Print.code : syntax_Print.c.code = bodyOf Try.f25 := by kernel_rfl
noncomputable def w4shown.c : IC := w4shown.u1.c
noncomputable def w4shown.res : List ResultVar := [(.tmp 0)]
theorem w4shown.u1.ok (k : Nat) (K : Ex → Frame → M α) :
    evC T (env k) k w4shown.u1.c (frameL []) K =
      w4shown.u1.f k (fun y0 => K .ret (frameL [(0, .bool y0)])) := by kernel_rfl
theorem w4shown.ok (k : Nat) (κ : Res → M α) :
    evF T (env k) k w4shown.c w4shown.res [] κ = w4shown.f (k + 1) (fun o0 => κ (.ret (.bool o0))) :=
  (w4shown.u1.ok k (retK T w4shown.res κ)).trans (by kernel_rfl)
theorem w4shown.code : w4shown.c.code = bodyOf Try.f21 := by kernel_rfl
noncomputable def w4lent.c : IC := w4lent.u1.c
noncomputable def w4lent.res : List ResultVar := [(.tmp 2)]
theorem w4lent.u1.ok (k : Nat) (x0 : Sl) (K : Ex → Frame → M α) :
    evC T (env k) k w4lent.u1.c (frameL [(0, .slice x0)]) K =
      w4lent.u1.f k x0 (fun y0 => K .ret (frameL [(2, .slice y0)])) := by kernel_rfl
theorem w4lent.ok (k : Nat) (x0 : Sl) (κ : Res → M α) :
    evF T (env k) k w4lent.c w4lent.res [.slice x0] κ = w4lent.f (k + 1) x0 (fun o0 => κ (.ret (.slice o0))) :=
  (w4lent.u1.ok k x0 (retK T w4lent.res κ)).trans (by kernel_rfl)
theorem w4lent.code : w4lent.c.code = bodyOf Try.f22 := by kernel_rfl
noncomputable def r4Same.c : IC := r4Same.u9.c
noncomputable def r4Same.res : List ResultVar := [(.tmp 6)]
theorem r4Same.u1.ok (k : Nat) (x0 : Sl) (x1 : Sl) (x2 : Bool) (R : IC) (K : Ex → Frame → M α) :
    evC T (env k) k (r4Same.u1.c R) (frameL [(0, .slice x0), (1, .slice x1), (2, .bool x2)]) K =
      r4Same.u1.f k x0 x1 x2 (fun y0 y1 y2 => evC T (env k) k R (frameL [(0, .slice y0), (1, .slice y1), (2, .bool y2)]) K) (fun y0 => K .ret (frameL [(6, .bool y0)])) := by kernel_rfl
theorem r4Same.u2.ok (k : Nat) (x0 : Sl) (x1 : Sl) (x2 : Bool) (R : IC) (K : Ex → Frame → M α) :
    evC T (env k) k (r4Same.u2.c R) (frameL [(0, .slice x0), (1, .slice x1), (2, .bool x2)]) K =
      r4Same.u2.f k x0 x1 x2 (fun y0 y1 y2 y3 => evC T (env k) k R (frameL [(0, .slice y0), (1, .slice y1), (2, .bool y2), (7, .int .i64 y3)]) K) := by kernel_rfl
theorem r4Same.u3.ok (k : Nat) (x0 : Sl) (x1 : Sl) (x2 : Bool) (x3 : Int) (K : Ex → Frame → M α) :
    evC T (env k) k r4Same.u3.c (frameL [(0, .slice x0), (1, .slice x1), (2, .bool x2), (7, .int .i64 x3)]) K =
      r4Same.u3.f k x0 x1 x2 x3 (fun y0 y1 y2 y3 => K .normal (frameL [(0, .slice y0), (1, .slice y1), (2, .bool y2), (7, .int .i64 y3)])) (fun y0 => K .ret (frameL [(6, .bool y0)])) (K (.exit 0) (frameL [])) := by kernel_rfl
theorem r4Same.u4.ls (k : Nat) (kr : Bool → M α) (kx0 : M α) (j : Nat) (x0 : Sl) (x1 : Sl) (x2 : Bool) (x3 : Int) : r4Same.u4.l k kr kx0 (j + 1) x0 x1 x2 x3 =
  r4Same.u3.f k x0 x1 x2 x3 (fun y0 y1 y2 y3 => r4Same.u4.l k kr kx0 j y0 y1 y2 y3) kr kx0 := rfl
theorem r4Same.u4.okl (k : Nat) (K : Ex → Frame → M α) : ∀ (j : Nat) (x0 : Sl) (x1 : Sl) (x2 : Bool) (x3 : Int),
    evLoop (evC T (env k) k r4Same.u3.c) [0, 1, 2, 7] j (frameL [(0, .slice x0), (1, .slice x1), (2, .bool x2), (7, .int .i64 x3)]) K = r4Same.u4.l k (fun y0 => K .ret (frameL [(6, .bool y0)])) (K (.exit 0) (frameL [])) j x0 x1 x2 x3
  | 0, _, _, _, _ => rfl
  | j + 1, x0, x1, x2, x3 => by
      have h := r4Same.u3.ok k x0 x1 x2 x3 (seqK (fun ρ => evLoop (evC T (env k) k r4Same.u3.c) [0, 1, 2, 7] j ρ K) K)
      simp only [seqK_exit, seqK_ret, seqK_pan, seqK_normal, r4Same.u4.okl k K j] at h
      exact (evLoop_step (by kernel_rfl) h).trans (r4Same.u4.ls k (fun y0 => K .ret (frameL [(6, .bool y0)])) (K (.exit 0) (frameL [])) j x0 x1 x2 x3).symm
theorem r4Same.u4.ok (k : Nat) (x0 : Sl) (x1 : Sl) (x2 : Bool) (x3 : Int) (K : Ex → Frame → M α) :
    evC T (env k) k r4Same.u4.c (frameL [(0, .slice x0), (1, .slice x1), (2, .bool x2), (7, .int .i64 x3)]) K =
      r4Same.u4.f k x0 x1 x2 x3 (fun y0 => K .ret (frameL [(6, .bool y0)])) (K (.exit 0) (frameL [])) :=
  evC_loop.trans <| (evLoop_keep (body := evC T (env k) k r4Same.u3.c) (keep := [0, 1, 2, 7]) (ρ := (frameL [(0, .slice x0), (1, .slice x1), (2, .bool x2), (7, .int .i64 x3)])) (ρ' := (frameL [(0, .slice x0), (1, .slice x1), (2, .bool x2), (7, .int .i64 x3)])) (by kernel_rfl) k K).trans (r4Same.u4.okl k K k x0 x1 x2 x3)
theorem r4Same.u5.ok (k : Nat) (x0 : Sl) (x1 : Sl) (x2 : Bool) (x3 : Int) (K : Ex → Frame → M α) :
    evC T (env k) k r4Same.u5.c (frameL [(0, .slice x0), (1, .slice x1), (2, .bool x2), (7, .int .i64 x3)]) K =
      r4Same.u5.f k x0 x1 x2 x3 (K .normal (frameL [])) (fun y0 => K .ret (frameL [(6, .bool y0)])) :=
  (evC_block.trans (r4Same.u4.ok k x0 x1 x2 x3 (blockK 0 K))).trans (by kernel_rfl)
theorem r4Same.u6.ok (k : Nat) (x0 : Sl) (x1 : Sl) (x2 : Bool) (K : Ex → Frame → M α) :
    evC T (env k) k r4Same.u6.c (frameL [(0, .slice x0), (1, .slice x1), (2, .bool x2)]) K =
      r4Same.u6.f k x0 x1 x2 (K .normal (frameL [])) (fun y0 => K .ret (frameL [(6, .bool y0)])) :=
  (r4Same.u2.ok k x0 x1 x2 r4Same.u5.c K).trans
    (congrArg (fun z => r4Same.u2.f k x0 x1 x2 z) (funext fun y0 => (funext fun y1 => (funext fun y2 => (funext fun y3 => r4Same.u5.ok k y0 y1 y2 y3 K)))))
theorem r4Same.u7.ok (k : Nat) (K : Ex → Frame → M α) :
    evC T (env k) k r4Same.u7.c (frameL []) K =
      r4Same.u7.f k (fun y0 => K .ret (frameL [(6, .bool y0)])) := by kernel_rfl
theorem r4Same.u8.ok (k : Nat) (x0 : Sl) (x1 : Sl) (x2 : Bool) (K : Ex → Frame → M α) :
    evC T (env k) k r4Same.u8.c (frameL [(0, .slice x0), (1, .slice x1), (2, .bool x2)]) K =
      r4Same.u8.f k x0 x1 x2 (fun y0 => K .ret (frameL [(6, .bool y0)])) :=
  by
    have h := r4Same.u6.ok k x0 x1 x2 (seqK (fun ρ => evC T (env k) k r4Same.u7.c ρ K) K)
    simp only [seqK_normal, seqK_exit, seqK_ret, seqK_pan, r4Same.u7.ok] at h
    exact evC_seq_of h
theorem r4Same.u9.ok (k : Nat) (x0 : Sl) (x1 : Sl) (x2 : Bool) (K : Ex → Frame → M α) :
    evC T (env k) k r4Same.u9.c (frameL [(0, .slice x0), (1, .slice x1), (2, .bool x2)]) K =
      r4Same.u9.f k x0 x1 x2 (fun y0 => K .ret (frameL [(6, .bool y0)])) :=
  (r4Same.u1.ok k x0 x1 x2 r4Same.u8.c K).trans
    (congrArg (fun z => r4Same.u1.f k x0 x1 x2 z (fun y0 => K .ret (frameL [(6, .bool y0)]))) (funext fun y0 => (funext fun y1 => (funext fun y2 => r4Same.u8.ok k y0 y1 y2 K))))
theorem r4Same.ok (k : Nat) (x0 : Sl) (x1 : Sl) (x2 : Bool) (κ : Res → M α) :
    evF T (env k) k r4Same.c r4Same.res [.slice x0, .slice x1, .bool x2] κ = r4Same.f (k + 1) x0 x1 x2 (fun o0 => κ (.ret (.bool o0))) :=
  (r4Same.u9.ok k x0 x1 x2 (retK T r4Same.res κ)).trans (by kernel_rfl)
theorem r4Same.code : r4Same.c.code = bodyOf Try.f35 := by kernel_rfl
noncomputable def w4kept.c : IC := w4kept.u9.c
noncomputable def w4kept.res : List ResultVar := [(.tmp 4)]
theorem w4kept.u1.ok (k : Nat) (x0 : Sl) (x1 : Sl) (R : IC) (K : Ex → Frame → M α) :
    evC T (env k) k (w4kept.u1.c R) (frameL [(0, .slice x0), (1, .slice x1)]) K =
      w4kept.u1.f k x0 x1 (fun y0 => evC T (env k) k R (frameL [(6, .slice y0)]) K) (fun y0 => K .ret (frameL [(4, .bool y0)])) := by kernel_rfl
theorem w4kept.u2.ok (k : Nat) (x0 : Sl) (R : IC) (K : Ex → Frame → M α) :
    evC T (env k) k (w4kept.u2.c R) (frameL [(6, .slice x0)]) K =
      w4kept.u2.f k x0 (fun y0 y1 => evC T (env k) k R (frameL [(6, .slice y0), (7, .int .i64 y1)]) K) := by kernel_rfl
theorem w4kept.u3.ok (k : Nat) (x0 : Sl) (x1 : Int) (K : Ex → Frame → M α) :
    evC T (env k) k w4kept.u3.c (frameL [(6, .slice x0), (7, .int .i64 x1)]) K =
      w4kept.u3.f k x0 x1 (fun y0 y1 => K .normal (frameL [(6, .slice y0), (7, .int .i64 y1)])) (K (.exit 0) (frameL [])) := by kernel_rfl
theorem w4kept.u4.ls (k : Nat) (kx0 : M α) (j : Nat) (x0 : Sl) (x1 : Int) : w4kept.u4.l k kx0 (j + 1) x0 x1 =
  w4kept.u3.f k x0 x1 (fun y0 y1 => w4kept.u4.l k kx0 j y0 y1) kx0 := rfl
theorem w4kept.u4.okl (k : Nat) (K : Ex → Frame → M α) : ∀ (j : Nat) (x0 : Sl) (x1 : Int),
    evLoop (evC T (env k) k w4kept.u3.c) [6, 7] j (frameL [(6, .slice x0), (7, .int .i64 x1)]) K = w4kept.u4.l k (K (.exit 0) (frameL [])) j x0 x1
  | 0, _, _ => rfl
  | j + 1, x0, x1 => by
      have h := w4kept.u3.ok k x0 x1 (seqK (fun ρ => evLoop (evC T (env k) k w4kept.u3.c) [6, 7] j ρ K) K)
      simp only [seqK_exit, seqK_ret, seqK_pan, seqK_normal, w4kept.u4.okl k K j] at h
      exact (evLoop_step (by kernel_rfl) h).trans (w4kept.u4.ls k (K (.exit 0) (frameL [])) j x0 x1).symm
theorem w4kept.u4.ok (k : Nat) (x0 : Sl) (x1 : Int) (K : Ex → Frame → M α) :
    evC T (env k) k w4kept.u4.c (frameL [(6, .slice x0), (7, .int .i64 x1)]) K =
      w4kept.u4.f k x0 x1 (K (.exit 0) (frameL [])) :=
  evC_loop.trans <| (evLoop_keep (body := evC T (env k) k w4kept.u3.c) (keep := [6, 7]) (ρ := (frameL [(6, .slice x0), (7, .int .i64 x1)])) (ρ' := (frameL [(6, .slice x0), (7, .int .i64 x1)])) (by kernel_rfl) k K).trans (w4kept.u4.okl k K k x0 x1)
theorem w4kept.u5.ok (k : Nat) (x0 : Sl) (x1 : Int) (K : Ex → Frame → M α) :
    evC T (env k) k w4kept.u5.c (frameL [(6, .slice x0), (7, .int .i64 x1)]) K =
      w4kept.u5.f k x0 x1 (K .normal (frameL [])) :=
  (evC_block.trans (w4kept.u4.ok k x0 x1 (blockK 0 K))).trans (by kernel_rfl)
theorem w4kept.u6.ok (k : Nat) (x0 : Sl) (K : Ex → Frame → M α) :
    evC T (env k) k w4kept.u6.c (frameL [(6, .slice x0)]) K =
      w4kept.u6.f k x0 (K .normal (frameL [])) :=
  (w4kept.u2.ok k x0 w4kept.u5.c K).trans
    (congrArg (fun z => w4kept.u2.f k x0 z) (funext fun y0 => (funext fun y1 => w4kept.u5.ok k y0 y1 K)))
theorem w4kept.u7.ok (k : Nat) (K : Ex → Frame → M α) :
    evC T (env k) k w4kept.u7.c (frameL []) K =
      w4kept.u7.f k (fun y0 => K .ret (frameL [(4, .bool y0)])) := by kernel_rfl
theorem w4kept.u8.ok (k : Nat) (x0 : Sl) (K : Ex → Frame → M α) :
    evC T (env k) k w4kept.u8.c (frameL [(6, .slice x0)]) K =
      w4kept.u8.f k x0 (fun y0 => K .ret (frameL [(4, .bool y0)])) :=
  by
    have h := w4kept.u6.ok k x0 (seqK (fun ρ => evC T (env k) k w4kept.u7.c ρ K) K)
    simp only [seqK_normal, seqK_exit, seqK_ret, seqK_pan, w4kept.u7.ok] at h
    exact evC_seq_of h
theorem w4kept.u9.ok (k : Nat) (x0 : Sl) (x1 : Sl) (K : Ex → Frame → M α) :
    evC T (env k) k w4kept.u9.c (frameL [(0, .slice x0), (1, .slice x1)]) K =
      w4kept.u9.f k x0 x1 (fun y0 => K .ret (frameL [(4, .bool y0)])) :=
  (w4kept.u1.ok k x0 x1 w4kept.u8.c K).trans
    (congrArg (fun z => w4kept.u1.f k x0 x1 z (fun y0 => K .ret (frameL [(4, .bool y0)]))) (funext fun y0 => w4kept.u8.ok k y0 K))
theorem w4kept.ok (k : Nat) (x0 : Sl) (x1 : Sl) (κ : Res → M α) :
    evF T (env k) k w4kept.c w4kept.res [.slice x0, .slice x1] κ = w4kept.f (k + 1) x0 x1 (fun o0 => κ (.ret (.bool o0))) :=
  (w4kept.u9.ok k x0 x1 (retK T w4kept.res κ)).trans (by kernel_rfl)
theorem w4kept.code : w4kept.c.code = bodyOf Try.f23 := by kernel_rfl
noncomputable def r4Below.c : IC := r4Below.u1.c
noncomputable def r4Below.res : List ResultVar := [(.tmp 2)]
theorem r4Below.u1.ok (k : Nat) (x0 : Int) (K : Ex → Frame → M α) :
    evC T (env k) k r4Below.u1.c (frameL [(0, .int .i64 x0)]) K =
      r4Below.u1.f k x0 (fun y0 => K .ret (frameL [(2, .int .i64 y0)])) := by kernel_rfl
theorem r4Below.ok (k : Nat) (x0 : Int) (κ : Res → M α) :
    evF T (env k) k r4Below.c r4Below.res [.int .i64 x0] κ = r4Below.f (k + 1) x0 (fun o0 => κ (.ret (.int .i64 o0))) :=
  (r4Below.u1.ok k x0 (retK T r4Below.res κ)).trans (by kernel_rfl)
theorem r4Below.code : r4Below.c.code = bodyOf Try.f28 := by kernel_rfl
noncomputable def r3Name.c : IC := r3Name.u14.c
noncomputable def r3Name.res : List ResultVar := [(.tmp 2)]
theorem r3Name.u1.ok (k : Nat) (x0 : List UInt8) (R : IC) (K : Ex → Frame → M α) :
    evC T (env k) k (r3Name.u1.c R) (frameL [(0, .str x0)]) K =
      r3Name.u1.f k x0 (fun y0 => evC T (env k) k R (frameL [(0, .str y0)]) K) (fun y0 => K .ret (frameL [(2, .bool y0)])) := by kernel_rfl
theorem r3Name.u2.ok (k : Nat) (x0 : List UInt8) (R : IC) (K : Ex → Frame → M α) :
    evC T (env k) k (r3Name.u2.c R) (frameL [(0, .str x0)]) K =
      r3Name.u2.f k x0 (fun y0 y1 => evC T (env k) k R (frameL [(0, .str y0), (3, .int .i64 y1)]) K) := by kernel_rfl
theorem r3Name.u3.ok (k : Nat) (x0 : List UInt8) (x1 : Int) (R : IC) (K : Ex → Frame → M α) :
    evC T (env k) k (r3Name.u3.c R) (frameL [(0, .str x0), (3, .int .i64 x1)]) K =
      r3Name.u3.f k x0 x1 (fun y0 y1 => evC T (env k) k R (frameL [(0, .str y0), (3, .int .i64 y1)]) K) (K (.exit 0) (frameL [])) := by kernel_rfl
theorem r3Name.u4.ok (k : Nat) (x0 : List UInt8) (x1 : Int) (K : Ex → Frame → M α) :
    evC T (env k) k r3Name.u4.c (frameL [(0, .str x0), (3, .int .i64 x1)]) K =
      r3Name.u4.f k x0 x1 (fun y0 y1 => K .normal (frameL [(0, .str y0), (3, .int .i64 y1)])) (fun y0 => K .ret (frameL [(2, .bool y0)])) := by kernel_rfl
theorem r3Name.u5.ok (k : Nat) (x0 : List UInt8) (x1 : Int) (K : Ex → Frame → M α) :
    evC T (env k) k r3Name.u5.c (frameL [(0, .str x0), (3, .int .i64 x1)]) K =
      r3Name.u5.f k x0 x1 (fun y0 y1 => K .normal (frameL [(0, .str y0), (3, .int .i64 y1)])) (fun y0 => K .ret (frameL [(2, .bool y0)])) :=
  (evC_block.trans (r3Name.u4.ok k x0 x1 (blockK 1 K))).trans (by kernel_rfl)
theorem r3Name.u6.ok (k : Nat) (x0 : List UInt8) (x1 : Int) (K : Ex → Frame → M α) :
    evC T (env k) k r3Name.u6.c (frameL [(0, .str x0), (3, .int .i64 x1)]) K =
      r3Name.u6.f k x0 x1 (fun y0 y1 => K .normal (frameL [(0, .str y0), (3, .int .i64 y1)])) := by kernel_rfl
theorem r3Name.u7.ok (k : Nat) (x0 : List UInt8) (x1 : Int) (K : Ex → Frame → M α) :
    evC T (env k) k r3Name.u7.c (frameL [(0, .str x0), (3, .int .i64 x1)]) K =
      r3Name.u7.f k x0 x1 (fun y0 y1 => K .normal (frameL [(0, .str y0), (3, .int .i64 y1)])) (fun y0 => K .ret (frameL [(2, .bool y0)])) :=
  by
    have h := r3Name.u5.ok k x0 x1 (seqK (fun ρ => evC T (env k) k r3Name.u6.c ρ K) K)
    simp only [seqK_normal, seqK_exit, seqK_ret, seqK_pan, r3Name.u6.ok] at h
    exact evC_seq_of h
theorem r3Name.u8.ok (k : Nat) (x0 : List UInt8) (x1 : Int) (K : Ex → Frame → M α) :
    evC T (env k) k r3Name.u8.c (frameL [(0, .str x0), (3, .int .i64 x1)]) K =
      r3Name.u8.f k x0 x1 (fun y0 y1 => K .normal (frameL [(0, .str y0), (3, .int .i64 y1)])) (fun y0 => K .ret (frameL [(2, .bool y0)])) (K (.exit 0) (frameL [])) :=
  (r3Name.u3.ok k x0 x1 r3Name.u7.c K).trans
    (congrArg (fun z => r3Name.u3.f k x0 x1 z (K (.exit 0) (frameL []))) (funext fun y0 => (funext fun y1 => r3Name.u7.ok k y0 y1 K)))
theorem r3Name.u9.ls (k : Nat) (kr : Bool → M α) (kx0 : M α) (j : Nat) (x0 : List UInt8) (x1 : Int) : r3Name.u9.l k kr kx0 (j + 1) x0 x1 =
  r3Name.u8.f k x0 x1 (fun y0 y1 => r3Name.u9.l k kr kx0 j y0 y1) kr kx0 := rfl
theorem r3Name.u9.okl (k : Nat) (K : Ex → Frame → M α) : ∀ (j : Nat) (x0 : List UInt8) (x1 : Int),
    evLoop (evC T (env k) k r3Name.u8.c) [0, 3] j (frameL [(0, .str x0), (3, .int .i64 x1)]) K = r3Name.u9.l k (fun y0 => K .ret (frameL [(2, .bool y0)])) (K (.exit 0) (frameL [])) j x0 x1
  | 0, _, _ => rfl
  | j + 1, x0, x1 => by
      have h := r3Name.u8.ok k x0 x1 (seqK (fun ρ => evLoop (evC T (env k) k r3Name.u8.c) [0, 3] j ρ K) K)
      simp only [seqK_exit, seqK_ret, seqK_pan, seqK_normal, r3Name.u9.okl k K j] at h
      exact (evLoop_step (by kernel_rfl) h).trans (r3Name.u9.ls k (fun y0 => K .ret (frameL [(2, .bool y0)])) (K (.exit 0) (frameL [])) j x0 x1).symm
theorem r3Name.u9.ok (k : Nat) (x0 : List UInt8) (x1 : Int) (K : Ex → Frame → M α) :
    evC T (env k) k r3Name.u9.c (frameL [(0, .str x0), (3, .int .i64 x1)]) K =
      r3Name.u9.f k x0 x1 (fun y0 => K .ret (frameL [(2, .bool y0)])) (K (.exit 0) (frameL [])) :=
  evC_loop.trans <| (evLoop_keep (body := evC T (env k) k r3Name.u8.c) (keep := [0, 3]) (ρ := (frameL [(0, .str x0), (3, .int .i64 x1)])) (ρ' := (frameL [(0, .str x0), (3, .int .i64 x1)])) (by kernel_rfl) k K).trans (r3Name.u9.okl k K k x0 x1)
theorem r3Name.u10.ok (k : Nat) (x0 : List UInt8) (x1 : Int) (K : Ex → Frame → M α) :
    evC T (env k) k r3Name.u10.c (frameL [(0, .str x0), (3, .int .i64 x1)]) K =
      r3Name.u10.f k x0 x1 (K .normal (frameL [])) (fun y0 => K .ret (frameL [(2, .bool y0)])) :=
  (evC_block.trans (r3Name.u9.ok k x0 x1 (blockK 0 K))).trans (by kernel_rfl)
theorem r3Name.u11.ok (k : Nat) (x0 : List UInt8) (K : Ex → Frame → M α) :
    evC T (env k) k r3Name.u11.c (frameL [(0, .str x0)]) K =
      r3Name.u11.f k x0 (K .normal (frameL [])) (fun y0 => K .ret (frameL [(2, .bool y0)])) :=
  (r3Name.u2.ok k x0 r3Name.u10.c K).trans
    (congrArg (fun z => r3Name.u2.f k x0 z) (funext fun y0 => (funext fun y1 => r3Name.u10.ok k y0 y1 K)))
theorem r3Name.u12.ok (k : Nat) (K : Ex → Frame → M α) :
    evC T (env k) k r3Name.u12.c (frameL []) K =
      r3Name.u12.f k (fun y0 => K .ret (frameL [(2, .bool y0)])) := by kernel_rfl
theorem r3Name.u13.ok (k : Nat) (x0 : List UInt8) (K : Ex → Frame → M α) :
    evC T (env k) k r3Name.u13.c (frameL [(0, .str x0)]) K =
      r3Name.u13.f k x0 (fun y0 => K .ret (frameL [(2, .bool y0)])) :=
  by
    have h := r3Name.u11.ok k x0 (seqK (fun ρ => evC T (env k) k r3Name.u12.c ρ K) K)
    simp only [seqK_normal, seqK_exit, seqK_ret, seqK_pan, r3Name.u12.ok] at h
    exact evC_seq_of h
theorem r3Name.u14.ok (k : Nat) (x0 : List UInt8) (K : Ex → Frame → M α) :
    evC T (env k) k r3Name.u14.c (frameL [(0, .str x0)]) K =
      r3Name.u14.f k x0 (fun y0 => K .ret (frameL [(2, .bool y0)])) :=
  (r3Name.u1.ok k x0 r3Name.u13.c K).trans
    (congrArg (fun z => r3Name.u1.f k x0 z (fun y0 => K .ret (frameL [(2, .bool y0)]))) (funext fun y0 => r3Name.u13.ok k y0 K))
theorem r3Name.ok (k : Nat) (x0 : List UInt8) (κ : Res → M α) :
    evF T (env k) k r3Name.c r3Name.res [.str x0] κ = r3Name.f (k + 1) x0 (fun o0 => κ (.ret (.bool o0))) :=
  (r3Name.u14.ok k x0 (retK T r3Name.res κ)).trans (by kernel_rfl)
theorem r3Name.code : r3Name.c.code = bodyOf Try.f54 := by kernel_rfl
noncomputable def r4Variable.c : IC := r4Variable.u1.c
noncomputable def r4Variable.res : List ResultVar := [(.tmp 2)]
theorem r4Variable.u1.ok (k : Nat) (x0 : List UInt8) (K : Ex → Frame → M α) :
    evC T (env k) k r4Variable.u1.c (frameL [(0, .str x0)]) K =
      r4Variable.u1.f k x0 (fun y0 => K .ret (frameL [(2, .bool y0)])) := by kernel_rfl
theorem r4Variable.ok (k : Nat) (x0 : List UInt8) (κ : Res → M α) :
    evF T (env k) k r4Variable.c r4Variable.res [.str x0] κ = r4Variable.f (k + 1) x0 (fun o0 => κ (.ret (.bool o0))) :=
  (r4Variable.u1.ok k x0 (retK T r4Variable.res κ)).trans (by kernel_rfl)
theorem r4Variable.code : r4Variable.c.code = bodyOf Try.f55 := by kernel_rfl
noncomputable def r4named.c : IC := r4named.u1.c
noncomputable def r4named.res : List ResultVar := [(.tmp 2)]
theorem r4named.u1.ok (k : Nat) (x0 : Int) (x1 : Int) (x2 : Int) (x3 : List UInt8) (x4 : Int) (K : Ex → Frame → M α) :
    evC T (env k) k r4named.u1.c (frameL [(0, .agg [.int .i64 x0, .int .i64 x1, .int .i64 x2, .str x3, .int .i64 x4])]) K =
      r4named.u1.f k x0 x1 x2 x3 x4 (fun y0 => K .ret (frameL [(2, .bool y0)])) := by kernel_rfl
theorem r4named.ok (k : Nat) (x0 : Int) (x1 : Int) (x2 : Int) (x3 : List UInt8) (x4 : Int) (κ : Res → M α) :
    evF T (env k) k r4named.c r4named.res [.agg [.int .i64 x0, .int .i64 x1, .int .i64 x2, .str x3, .int .i64 x4]] κ = r4named.f (k + 1) x0 x1 x2 x3 x4 (fun o0 => κ (.ret (.bool o0))) :=
  (r4named.u1.ok k x0 x1 x2 x3 x4 (retK T r4named.res κ)).trans (by kernel_rfl)
theorem r4named.code : r4named.c.code = bodyOf Try.f40 := by kernel_rfl
noncomputable def r4Right.c : IC := r4Right.u16.c
noncomputable def r4Right.res : List ResultVar := [(.tmp 2)]
theorem r4Right.u1.ok (k : Nat) (x0 : Sl) (R : IC) (K : Ex → Frame → M α) :
    evC T (env k) k (r4Right.u1.c R) (frameL [(0, .slice x0)]) K =
      r4Right.u1.f k x0 (fun y0 y1 => evC T (env k) k R (frameL [(0, .slice y0), (3, .slice y1)]) K) (fun y0 => K .ret (frameL [(2, .bool y0)])) := by kernel_rfl
theorem r4Right.u2.ok (k : Nat) (x0 : Sl) (x1 : Sl) (R : IC) (K : Ex → Frame → M α) :
    evC T (env k) k (r4Right.u2.c R) (frameL [(0, .slice x0), (3, .slice x1)]) K =
      r4Right.u2.f k x0 x1 (fun y0 y1 y2 => evC T (env k) k R (frameL [(0, .slice y0), (3, .slice y1), (4, .int .i64 y2)]) K) := by kernel_rfl
theorem r4Right.u3.ok (k : Nat) (x0 : Sl) (x1 : Sl) (x2 : Int) (R : IC) (K : Ex → Frame → M α) :
    evC T (env k) k (r4Right.u3.c R) (frameL [(0, .slice x0), (3, .slice x1), (4, .int .i64 x2)]) K =
      r4Right.u3.f k x0 x1 x2 (fun y0 y1 y2 => evC T (env k) k R (frameL [(0, .slice y0), (3, .slice y1), (4, .int .i64 y2)]) K) (fun y0 => K (.exit 0) (frameL [(3, .slice y0)])) := by kernel_rfl
theorem r4Right.u4.ok (k : Nat) (x0 : Sl) (x1 : Sl) (x2 : Int) (R : IC) (K : Ex → Frame → M α) :
    evC T (env k) k (r4Right.u4.c R) (frameL [(0, .slice x0), (3, .slice x1), (4, .int .i64 x2)]) K =
      r4Right.u4.f k x0 x1 x2 (fun y0 y1 y2 y3 y4 => evC T (env k) k R (frameL [(0, .slice y0), (3, .slice y1), (4, .int .i64 y2), (5, .int .i64 y3), (7, .int .i64 y4)]) K) (fun y0 => K .ret (frameL [(2, .bool y0)])) := by kernel_rfl
theorem r4Right.u5.ok (k : Nat) (x0 : Sl) (x1 : Sl) (x2 : Int) (x3 : Int) (x4 : Int) (K : Ex → Frame → M α) :
    evC T (env k) k r4Right.u5.c (frameL [(0, .slice x0), (3, .slice x1), (4, .int .i64 x2), (5, .int .i64 x3), (7, .int .i64 x4)]) K =
      r4Right.u5.f k x0 x1 x2 x3 x4 (fun y0 y1 y2 => K .normal (frameL [(0, .slice y0), (3, .slice y1), (4, .int .i64 y2)])) (fun y0 => K .ret (frameL [(2, .bool y0)])) := by kernel_rfl
theorem r4Right.u6.ok (k : Nat) (x0 : Sl) (x1 : Sl) (x2 : Int) (K : Ex → Frame → M α) :
    evC T (env k) k r4Right.u6.c (frameL [(0, .slice x0), (3, .slice x1), (4, .int .i64 x2)]) K =
      r4Right.u6.f k x0 x1 x2 (fun y0 y1 y2 => K .normal (frameL [(0, .slice y0), (3, .slice y1), (4, .int .i64 y2)])) (fun y0 => K .ret (frameL [(2, .bool y0)])) :=
  (r4Right.u4.ok k x0 x1 x2 r4Right.u5.c K).trans
    (congrArg (fun z => r4Right.u4.f k x0 x1 x2 z (fun y0 => K .ret (frameL [(2, .bool y0)]))) (funext fun y0 => (funext fun y1 => (funext fun y2 => (funext fun y3 => (funext fun y4 => r4Right.u5.ok k y0 y1 y2 y3 y4 K))))))
theorem r4Right.u7.ok (k : Nat) (x0 : Sl) (x1 : Sl) (x2 : Int) (K : Ex → Frame → M α) :
    evC T (env k) k r4Right.u7.c (frameL [(0, .slice x0), (3, .slice x1), (4, .int .i64 x2)]) K =
      r4Right.u7.f k x0 x1 x2 (fun y0 y1 y2 => K .normal (frameL [(0, .slice y0), (3, .slice y1), (4, .int .i64 y2)])) (fun y0 => K .ret (frameL [(2, .bool y0)])) :=
  (evC_block.trans (r4Right.u6.ok k x0 x1 x2 (blockK 1 K))).trans (by kernel_rfl)
theorem r4Right.u8.ok (k : Nat) (x0 : Sl) (x1 : Sl) (x2 : Int) (K : Ex → Frame → M α) :
    evC T (env k) k r4Right.u8.c (frameL [(0, .slice x0), (3, .slice x1), (4, .int .i64 x2)]) K =
      r4Right.u8.f k x0 x1 x2 (fun y0 y1 y2 => K .normal (frameL [(0, .slice y0), (3, .slice y1), (4, .int .i64 y2)])) := by kernel_rfl
theorem r4Right.u9.ok (k : Nat) (x0 : Sl) (x1 : Sl) (x2 : Int) (K : Ex → Frame → M α) :
    evC T (env k) k r4Right.u9.c (frameL [(0, .slice x0), (3, .slice x1), (4, .int .i64 x2)]) K =
      r4Right.u9.f k x0 x1 x2 (fun y0 y1 y2 => K .normal (frameL [(0, .slice y0), (3, .slice y1), (4, .int .i64 y2)])) (fun y0 => K .ret (frameL [(2, .bool y0)])) :=
  by
    have h := r4Right.u7.ok k x0 x1 x2 (seqK (fun ρ => evC T (env k) k r4Right.u8.c ρ K) K)
    simp only [seqK_normal, seqK_exit, seqK_ret, seqK_pan, r4Right.u8.ok] at h
    exact evC_seq_of h
theorem r4Right.u10.ok (k : Nat) (x0 : Sl) (x1 : Sl) (x2 : Int) (K : Ex → Frame → M α) :
    evC T (env k) k r4Right.u10.c (frameL [(0, .slice x0), (3, .slice x1), (4, .int .i64 x2)]) K =
      r4Right.u10.f k x0 x1 x2 (fun y0 y1 y2 => K .normal (frameL [(0, .slice y0), (3, .slice y1), (4, .int .i64 y2)])) (fun y0 => K .ret (frameL [(2, .bool y0)])) (fun y0 => K (.exit 0) (frameL [(3, .slice y0)])) :=
  (r4Right.u3.ok k x0 x1 x2 r4Right.u9.c K).trans
    (congrArg (fun z => r4Right.u3.f k x0 x1 x2 z (fun y0 => K (.exit 0) (frameL [(3, .slice y0)]))) (funext fun y0 => (funext fun y1 => (funext fun y2 => r4Right.u9.ok k y0 y1 y2 K))))
theorem r4Right.u11.ls (k : Nat) (kr : Bool → M α) (kx0 : Sl → M α) (j : Nat) (x0 : Sl) (x1 : Sl) (x2 : Int) : r4Right.u11.l k kr kx0 (j + 1) x0 x1 x2 =
  r4Right.u10.f k x0 x1 x2 (fun y0 y1 y2 => r4Right.u11.l k kr kx0 j y0 y1 y2) kr kx0 := rfl
theorem r4Right.u11.okl (k : Nat) (K : Ex → Frame → M α) : ∀ (j : Nat) (x0 : Sl) (x1 : Sl) (x2 : Int),
    evLoop (evC T (env k) k r4Right.u10.c) [0, 3, 4] j (frameL [(0, .slice x0), (3, .slice x1), (4, .int .i64 x2)]) K = r4Right.u11.l k (fun y0 => K .ret (frameL [(2, .bool y0)])) (fun y0 => K (.exit 0) (frameL [(3, .slice y0)])) j x0 x1 x2
  | 0, _, _, _ => rfl
  | j + 1, x0, x1, x2 => by
      have h := r4Right.u10.ok k x0 x1 x2 (seqK (fun ρ => evLoop (evC T (env k) k r4Right.u10.c) [0, 3, 4] j ρ K) K)
      simp only [seqK_exit, seqK_ret, seqK_pan, seqK_normal, r4Right.u11.okl k K j] at h
      exact (evLoop_step (by kernel_rfl) h).trans (r4Right.u11.ls k (fun y0 => K .ret (frameL [(2, .bool y0)])) (fun y0 => K (.exit 0) (frameL [(3, .slice y0)])) j x0 x1 x2).symm
theorem r4Right.u11.ok (k : Nat) (x0 : Sl) (x1 : Sl) (x2 : Int) (K : Ex → Frame → M α) :
    evC T (env k) k r4Right.u11.c (frameL [(0, .slice x0), (3, .slice x1), (4, .int .i64 x2)]) K =
      r4Right.u11.f k x0 x1 x2 (fun y0 => K .ret (frameL [(2, .bool y0)])) (fun y0 => K (.exit 0) (frameL [(3, .slice y0)])) :=
  evC_loop.trans <| (evLoop_keep (body := evC T (env k) k r4Right.u10.c) (keep := [0, 3, 4]) (ρ := (frameL [(0, .slice x0), (3, .slice x1), (4, .int .i64 x2)])) (ρ' := (frameL [(0, .slice x0), (3, .slice x1), (4, .int .i64 x2)])) (by kernel_rfl) k K).trans (r4Right.u11.okl k K k x0 x1 x2)
theorem r4Right.u12.ok (k : Nat) (x0 : Sl) (x1 : Sl) (x2 : Int) (K : Ex → Frame → M α) :
    evC T (env k) k r4Right.u12.c (frameL [(0, .slice x0), (3, .slice x1), (4, .int .i64 x2)]) K =
      r4Right.u12.f k x0 x1 x2 (fun y0 => K .normal (frameL [(3, .slice y0)])) (fun y0 => K .ret (frameL [(2, .bool y0)])) :=
  (evC_block.trans (r4Right.u11.ok k x0 x1 x2 (blockK 0 K))).trans (by kernel_rfl)
theorem r4Right.u13.ok (k : Nat) (x0 : Sl) (x1 : Sl) (K : Ex → Frame → M α) :
    evC T (env k) k r4Right.u13.c (frameL [(0, .slice x0), (3, .slice x1)]) K =
      r4Right.u13.f k x0 x1 (fun y0 => K .normal (frameL [(3, .slice y0)])) (fun y0 => K .ret (frameL [(2, .bool y0)])) :=
  (r4Right.u2.ok k x0 x1 r4Right.u12.c K).trans
    (congrArg (fun z => r4Right.u2.f k x0 x1 z) (funext fun y0 => (funext fun y1 => (funext fun y2 => r4Right.u12.ok k y0 y1 y2 K))))
theorem r4Right.u14.ok (k : Nat) (x0 : Sl) (K : Ex → Frame → M α) :
    evC T (env k) k r4Right.u14.c (frameL [(3, .slice x0)]) K =
      r4Right.u14.f k x0 (fun y0 => K .ret (frameL [(2, .bool y0)])) := by kernel_rfl
theorem r4Right.u15.ok (k : Nat) (x0 : Sl) (x1 : Sl) (K : Ex → Frame → M α) :
    evC T (env k) k r4Right.u15.c (frameL [(0, .slice x0), (3, .slice x1)]) K =
      r4Right.u15.f k x0 x1 (fun y0 => K .ret (frameL [(2, .bool y0)])) :=
  by
    have h := r4Right.u13.ok k x0 x1 (seqK (fun ρ => evC T (env k) k r4Right.u14.c ρ K) K)
    simp only [seqK_normal, seqK_exit, seqK_ret, seqK_pan, r4Right.u14.ok] at h
    exact evC_seq_of h
theorem r4Right.u16.ok (k : Nat) (x0 : Sl) (K : Ex → Frame → M α) :
    evC T (env k) k r4Right.u16.c (frameL [(0, .slice x0)]) K =
      r4Right.u16.f k x0 (fun y0 => K .ret (frameL [(2, .bool y0)])) :=
  (r4Right.u1.ok k x0 r4Right.u15.c K).trans
    (congrArg (fun z => r4Right.u1.f k x0 z (fun y0 => K .ret (frameL [(2, .bool y0)]))) (funext fun y0 => (funext fun y1 => r4Right.u15.ok k y0 y1 K)))
theorem r4Right.ok (k : Nat) (x0 : Sl) (κ : Res → M α) :
    evF T (env k) k r4Right.c r4Right.res [.slice x0] κ = r4Right.f (k + 1) x0 (fun o0 => κ (.ret (.bool o0))) :=
  (r4Right.u16.ok k x0 (retK T r4Right.res κ)).trans (by kernel_rfl)
theorem r4Right.code : r4Right.c.code = bodyOf Try.f24 := by kernel_rfl
noncomputable def r4fixpoint.c : IC := r4fixpoint.u1.c
noncomputable def r4fixpoint.res : List ResultVar := [(.tmp 2)]
theorem r4fixpoint.u1.ok (k : Nat) (x0 : Int) (K : Ex → Frame → M α) :
    evC T (env k) k r4fixpoint.u1.c (frameL [(0, .int .i64 x0)]) K =
      r4fixpoint.u1.f k x0 (fun y0 => K .ret (frameL [(2, .bool y0)])) := by kernel_rfl
theorem r4fixpoint.ok (k : Nat) (x0 : Int) (κ : Res → M α) :
    evF T (env k) k r4fixpoint.c r4fixpoint.res [.int .i64 x0] κ = r4fixpoint.f (k + 1) x0 (fun o0 => κ (.ret (.bool o0))) :=
  (r4fixpoint.u1.ok k x0 (retK T r4fixpoint.res κ)).trans (by kernel_rfl)
theorem r4fixpoint.code : r4fixpoint.c.code = bodyOf Try.f69 := by kernel_rfl
noncomputable def r4text.c : IC := r4text.u1.c
noncomputable def r4text.res : List ResultVar := [(.tmp 4)]
theorem r4text.u1.ok (k : Nat) (x0 : Sl) (x1 : Int) (K : Ex → Frame → M α) :
    evC T (env k) k r4text.u1.c (frameL [(0, .slice x0), (1, .int .i64 x1)]) K =
      r4text.u1.f k (r4operand.f k) x0 x1 (fun y0 => K .ret (frameL [(4, .str y0)])) := by kernel_rfl
theorem r4text.ok (k : Nat) (x0 : Sl) (x1 : Int) (κ : Res → M α) :
    evF T (env k) k r4text.c r4text.res [.slice x0, .int .i64 x1] κ = r4text.f (k + 1) x0 x1 (fun o0 => κ (.ret (.str o0))) :=
  (r4text.u1.ok k x0 x1 (retK T r4text.res κ)).trans (by kernel_rfl)
theorem r4text.code : r4text.c.code = bodyOf Try.f43 := by kernel_rfl
noncomputable def r4operand.c : IC := r4operand.u1.c
noncomputable def r4operand.res : List ResultVar := [(.tmp 8)]
theorem r4operand.u1.ok (k : Nat) (x0 : Sl) (x1 : Int) (x2 : Int) (x3 : Bool) (K : Ex → Frame → M α) :
    evC T (env k) k r4operand.u1.c (frameL [(0, .slice x0), (1, .int .i64 x1), (2, .int .i64 x2), (3, .bool x3)]) K =
      r4operand.u1.f k (r4text.f k) x0 x1 x2 x3 (fun y0 => K .ret (frameL [(8, .str y0)])) := by kernel_rfl
theorem r4operand.ok (k : Nat) (x0 : Sl) (x1 : Int) (x2 : Int) (x3 : Bool) (κ : Res → M α) :
    evF T (env k) k r4operand.c r4operand.res [.slice x0, .int .i64 x1, .int .i64 x2, .bool x3] κ = r4operand.f (k + 1) x0 x1 x2 x3 (fun o0 => κ (.ret (.str o0))) :=
  (r4operand.u1.ok k x0 x1 x2 x3 (retK T r4operand.res κ)).trans (by kernel_rfl)
theorem r4operand.code : r4operand.c.code = bodyOf Try.f58 := by kernel_rfl
noncomputable def r4Print.c : IC := r4Print.u1.c
noncomputable def r4Print.res : List ResultVar := [(.tmp 2)]
theorem r4Print.u1.ok (k : Nat) (x0 : Sl) (K : Ex → Frame → M α) :
    evC T (env k) k r4Print.u1.c (frameL [(0, .slice x0)]) K =
      r4Print.u1.f k x0 (fun y0 => K .ret (frameL [(2, .str y0)])) := by kernel_rfl
theorem r4Print.ok (k : Nat) (x0 : Sl) (κ : Res → M α) :
    evF T (env k) k r4Print.c r4Print.res [.slice x0] κ = r4Print.f (k + 1) x0 (fun o0 => κ (.ret (.str o0))) :=
  (r4Print.u1.ok k x0 (retK T r4Print.res κ)).trans (by kernel_rfl)
theorem r4Print.code : r4Print.c.code = bodyOf Try.f26 := by kernel_rfl
noncomputable def w4SyntaxPrints.c : IC := w4SyntaxPrints.u1.c
noncomputable def w4SyntaxPrints.res : List ResultVar := [(.tmp 2)]
theorem w4SyntaxPrints.u1.ok (k : Nat) (x0 : Sl) (K : Ex → Frame → M α) :
    evC T (env k) k w4SyntaxPrints.u1.c (frameL [(0, .slice x0)]) K =
      w4SyntaxPrints.u1.f k x0 (fun y0 => K .ret (frameL [(2, .bool y0)])) := by kernel_rfl
theorem w4SyntaxPrints.ok (k : Nat) (x0 : Sl) (κ : Res → M α) :
    evF T (env k) k w4SyntaxPrints.c w4SyntaxPrints.res [.slice x0] κ = w4SyntaxPrints.f (k + 1) x0 (fun o0 => κ (.ret (.bool o0))) :=
  (w4SyntaxPrints.u1.ok k x0 (retK T w4SyntaxPrints.res κ)).trans (by kernel_rfl)
theorem w4SyntaxPrints.code : w4SyntaxPrints.c.code = bodyOf Try.f9 := by kernel_rfl
end
end Go.Ab.S3
