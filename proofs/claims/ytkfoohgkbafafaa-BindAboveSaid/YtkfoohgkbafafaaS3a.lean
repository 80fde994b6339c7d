import Derived.Test.YtkfoohgkbafafaaS3a0
import Derived.Test.YtkfoohgkbafafaaProg
import Derived.KernelRfl
namespace Go.Ab.S3
noncomputable section
variable {α : Type}
open Go.Proofs
set_option linter.unusedVariables false
set_option linter.unusedSimpArgs false
def scan_long.c : IC := scan_long.u20.c
def scan_long.res : List ResultVar := [(.tmp 4)]
theorem scan_long.u1.ok (k : Nat) (x0 : Int) (x1 : List UInt8) (R : IC) (K : Ex → Frame → M α) :
    evC T (env k) k (scan_long.u1.c R) (frameL [(0, .int .i64 x0), (1, .str x1)]) K =
      scan_long.u1.f k x0 x1 (fun y0 y1 y2 => evC T (env k) k R (frameL [(0, .int .i64 y0), (1, .str y1), (5, .int .i64 y2)]) K) := by kernel_rfl
theorem scan_long.u2.ok (k : Nat) (x0 : Int) (x1 : List UInt8) (x2 : Int) (R : IC) (K : Ex → Frame → M α) :
    evC T (env k) k (scan_long.u2.c R) (frameL [(0, .int .i64 x0), (1, .str x1), (5, .int .i64 x2)]) K =
      scan_long.u2.f k x0 x1 x2 (fun y0 y1 y2 => evC T (env k) k R (frameL [(1, .str y0), (5, .int .i64 y1), (6, .int .i64 y2)]) K) := by kernel_rfl
theorem scan_long.u3.ok (k : Nat) (x0 : List UInt8) (x1 : Int) (x2 : Int) (R : IC) (K : Ex → Frame → M α) :
    evC T (env k) k (scan_long.u3.c R) (frameL [(1, .str x0), (5, .int .i64 x1), (6, .int .i64 x2)]) K =
      scan_long.u3.f k x0 x1 x2 (fun y0 y1 y2 y3 => evC T (env k) k R (frameL [(1, .str y0), (5, .int .i64 y1), (6, .int .i64 y2), (7, .bool y3)]) K) := by kernel_rfl
theorem scan_long.u4.ok (k : Nat) (x0 : List UInt8) (x1 : Int) (K : Ex → Frame → M α) :
    evC T (env k) k scan_long.u4.c (frameL [(1, .str x0), (5, .int .i64 x1)]) K =
      scan_long.u4.f k x0 x1 (fun y0 y1 => K .normal (frameL [(1, .str y0), (5, .int .i64 y1)])) (fun y0 => K (.exit 1) (frameL [(5, .int .i64 y0)])) := by kernel_rfl
theorem scan_long.u5.ls (k : Nat) (kx1 : Int → M α) (j : Nat) (x0 : List UInt8) (x1 : Int) : scan_long.u5.l k kx1 (j + 1) x0 x1 =
  scan_long.u4.f k x0 x1 (fun y0 y1 => scan_long.u5.l k kx1 j y0 y1) kx1 := rfl
theorem scan_long.u5.okl (k : Nat) (K : Ex → Frame → M α) : ∀ (j : Nat) (x0 : List UInt8) (x1 : Int),
    evLoop (evC T (env k) k scan_long.u4.c) [1, 5] j (frameL [(1, .str x0), (5, .int .i64 x1)]) K = scan_long.u5.l k (fun y0 => K (.exit 1) (frameL [(5, .int .i64 y0)])) j x0 x1
  | 0, _, _ => rfl
  | j + 1, x0, x1 => by
      have h := scan_long.u4.ok k x0 x1 (seqK (fun ρ => evLoop (evC T (env k) k scan_long.u4.c) [1, 5] j ρ K) K)
      simp only [seqK_exit, seqK_ret, seqK_pan, seqK_normal, scan_long.u5.okl k K j] at h
      exact (evLoop_step (by kernel_rfl) h).trans (scan_long.u5.ls k (fun y0 => K (.exit 1) (frameL [(5, .int .i64 y0)])) j x0 x1).symm
theorem scan_long.u5.ok (k : Nat) (x0 : List UInt8) (x1 : Int) (x2 : Int) (x3 : Bool) (K : Ex → Frame → M α) :
    evC T (env k) k scan_long.u5.c (frameL [(1, .str x0), (5, .int .i64 x1), (6, .int .i64 x2), (7, .bool x3)]) K =
      scan_long.u5.f k x0 x1 x2 x3 (fun y0 => K (.exit 1) (frameL [(5, .int .i64 y0)])) :=
  evC_loop.trans <| (evLoop_keep (body := evC T (env k) k scan_long.u4.c) (keep := [1, 5]) (ρ := (frameL [(1, .str x0), (5, .int .i64 x1), (6, .int .i64 x2), (7, .bool x3)])) (ρ' := (frameL [(1, .str x0), (5, .int .i64 x1)])) (by kernel_rfl) k K).trans (scan_long.u5.okl k K k x0 x1)
theorem scan_long.u6.ok (k : Nat) (x0 : List UInt8) (x1 : Int) (x2 : Int) (x3 : Bool) (K : Ex → Frame → M α) :
    evC T (env k) k scan_long.u6.c (frameL [(1, .str x0), (5, .int .i64 x1), (6, .int .i64 x2), (7, .bool x3)]) K =
      scan_long.u6.f k x0 x1 x2 x3 (fun y0 => K .normal (frameL [(5, .int .i64 y0)])) :=
  (evC_block.trans (scan_long.u5.ok k x0 x1 x2 x3 (blockK 1 K))).trans (by kernel_rfl)
theorem scan_long.u7.ok (k : Nat) (x0 : List UInt8) (x1 : Int) (x2 : Int) (x3 : Bool) (R : IC) (K : Ex → Frame → M α) :
    evC T (env k) k (scan_long.u7.c R) (frameL [(1, .str x0), (5, .int .i64 x1), (6, .int .i64 x2), (7, .bool x3)]) K =
      scan_long.u7.f k x0 x1 x2 x3 (fun y0 y1 y2 => evC T (env k) k R (frameL [(1, .str y0), (5, .int .i64 y1), (27, .bool y2)]) K) := by kernel_rfl
theorem scan_long.u8.ok (k : Nat) (x0 : List UInt8) (x1 : Int) (K : Ex → Frame → M α) :
    evC T (env k) k scan_long.u8.c (frameL [(1, .str x0), (5, .int .i64 x1)]) K =
      scan_long.u8.f k x0 x1 (fun y0 y1 => K .normal (frameL [(1, .str y0), (5, .int .i64 y1)])) (fun y0 => K (.exit 3) (frameL [(5, .int .i64 y0)])) := by kernel_rfl
theorem scan_long.u9.ls (k : Nat) (kx3 : Int → M α) (j : Nat) (x0 : List UInt8) (x1 : Int) : scan_long.u9.l k kx3 (j + 1) x0 x1 =
  scan_long.u8.f k x0 x1 (fun y0 y1 => scan_long.u9.l k kx3 j y0 y1) kx3 := rfl
theorem scan_long.u9.okl (k : Nat) (K : Ex → Frame → M α) : ∀ (j : Nat) (x0 : List UInt8) (x1 : Int),
    evLoop (evC T (env k) k scan_long.u8.c) [1, 5] j (frameL [(1, .str x0), (5, .int .i64 x1)]) K = scan_long.u9.l k (fun y0 => K (.exit 3) (frameL [(5, .int .i64 y0)])) j x0 x1
  | 0, _, _ => rfl
  | j + 1, x0, x1 => by
      have h := scan_long.u8.ok k x0 x1 (seqK (fun ρ => evLoop (evC T (env k) k scan_long.u8.c) [1, 5] j ρ K) K)
      simp only [seqK_exit, seqK_ret, seqK_pan, seqK_normal, scan_long.u9.okl k K j] at h
      exact (evLoop_step (by kernel_rfl) h).trans (scan_long.u9.ls k (fun y0 => K (.exit 3) (frameL [(5, .int .i64 y0)])) j x0 x1).symm
theorem scan_long.u9.ok (k : Nat) (x0 : List UInt8) (x1 : Int) (x2 : Bool) (K : Ex → Frame → M α) :
    evC T (env k) k scan_long.u9.c (frameL [(1, .str x0), (5, .int .i64 x1), (27, .bool x2)]) K =
      scan_long.u9.f k x0 x1 x2 (fun y0 => K (.exit 3) (frameL [(5, .int .i64 y0)])) :=
  evC_loop.trans <| (evLoop_keep (body := evC T (env k) k scan_long.u8.c) (keep := [1, 5]) (ρ := (frameL [(1, .str x0), (5, .int .i64 x1), (27, .bool x2)])) (ρ' := (frameL [(1, .str x0), (5, .int .i64 x1)])) (by kernel_rfl) k K).trans (scan_long.u9.okl k K k x0 x1)
theorem scan_long.u10.ok (k : Nat) (x0 : List UInt8) (x1 : Int) (x2 : Bool) (K : Ex → Frame → M α) :
    evC T (env k) k scan_long.u10.c (frameL [(1, .str x0), (5, .int .i64 x1), (27, .bool x2)]) K =
      scan_long.u10.f k x0 x1 x2 (fun y0 => K .normal (frameL [(5, .int .i64 y0)])) :=
  (evC_block.trans (scan_long.u9.ok k x0 x1 x2 (blockK 3 K))).trans (by kernel_rfl)
theorem scan_long.u11.ok (k : Nat) (x0 : List UInt8) (x1 : Int) (x2 : Bool) (K : Ex → Frame → M α) :
    evC T (env k) k scan_long.u11.c (frameL [(1, .str x0), (5, .int .i64 x1), (27, .bool x2)]) K =
      scan_long.u11.f k x0 x1 x2 (fun y0 => K .normal (frameL [(5, .int .i64 y0)])) := by kernel_rfl
theorem scan_long.u12.ok (k : Nat) (x0 : List UInt8) (x1 : Int) (x2 : Bool) (K : Ex → Frame → M α) :
    evC T (env k) k scan_long.u12.c (frameL [(1, .str x0), (5, .int .i64 x1), (27, .bool x2)]) K =
      scan_long.u12.f k x0 x1 x2 (fun y0 => K .normal (frameL [(5, .int .i64 y0)])) :=
  evC_cond_run (g := x2) (by kernel_rfl) (scan_long.u10.ok k x0 x1 x2 K) (scan_long.u11.ok k x0 x1 x2 K)
theorem scan_long.u13.ok (k : Nat) (x0 : List UInt8) (x1 : Int) (x2 : Int) (x3 : Bool) (K : Ex → Frame → M α) :
    evC T (env k) k scan_long.u13.c (frameL [(1, .str x0), (5, .int .i64 x1), (6, .int .i64 x2), (7, .bool x3)]) K =
      scan_long.u13.f k x0 x1 x2 x3 (fun y0 => K .normal (frameL [(5, .int .i64 y0)])) :=
  (scan_long.u7.ok k x0 x1 x2 x3 scan_long.u12.c K).trans
    (congrArg (fun z => scan_long.u7.f k x0 x1 x2 x3 z) (funext fun y0 => (funext fun y1 => (funext fun y2 => scan_long.u12.ok k y0 y1 y2 K))))
theorem scan_long.u14.ok (k : Nat) (x0 : List UInt8) (x1 : Int) (x2 : Int) (x3 : Bool) (K : Ex → Frame → M α) :
    evC T (env k) k scan_long.u14.c (frameL [(1, .str x0), (5, .int .i64 x1), (6, .int .i64 x2), (7, .bool x3)]) K =
      scan_long.u14.f k x0 x1 x2 x3 (fun y0 => K .normal (frameL [(5, .int .i64 y0)])) :=
  evC_cond_run (g := x3) (by kernel_rfl) (scan_long.u6.ok k x0 x1 x2 x3 K) (scan_long.u13.ok k x0 x1 x2 x3 K)
theorem scan_long.u15.ok (k : Nat) (x0 : List UInt8) (x1 : Int) (x2 : Int) (K : Ex → Frame → M α) :
    evC T (env k) k scan_long.u15.c (frameL [(1, .str x0), (5, .int .i64 x1), (6, .int .i64 x2)]) K =
      scan_long.u15.f k x0 x1 x2 (fun y0 => K .normal (frameL [(5, .int .i64 y0)])) :=
  (scan_long.u3.ok k x0 x1 x2 scan_long.u14.c K).trans
    (congrArg (fun z => scan_long.u3.f k x0 x1 x2 z) (funext fun y0 => (funext fun y1 => (funext fun y2 => (funext fun y3 => scan_long.u14.ok k y0 y1 y2 y3 K)))))
theorem scan_long.u16.ok (k : Nat) (x0 : List UInt8) (x1 : Int) (x2 : Int) (K : Ex → Frame → M α) :
    evC T (env k) k scan_long.u16.c (frameL [(1, .str x0), (5, .int .i64 x1), (6, .int .i64 x2)]) K =
      scan_long.u16.f k x0 x1 x2 (fun y0 => K .normal (frameL [(5, .int .i64 y0)])) :=
  (evC_block.trans (scan_long.u15.ok k x0 x1 x2 (blockK 0 K))).trans (by kernel_rfl)
theorem scan_long.u17.ok (k : Nat) (x0 : Int) (x1 : List UInt8) (x2 : Int) (K : Ex → Frame → M α) :
    evC T (env k) k scan_long.u17.c (frameL [(0, .int .i64 x0), (1, .str x1), (5, .int .i64 x2)]) K =
      scan_long.u17.f k x0 x1 x2 (fun y0 => K .normal (frameL [(5, .int .i64 y0)])) :=
  (scan_long.u2.ok k x0 x1 x2 scan_long.u16.c K).trans
    (congrArg (fun z => scan_long.u2.f k x0 x1 x2 z) (funext fun y0 => (funext fun y1 => (funext fun y2 => scan_long.u16.ok k y0 y1 y2 K))))
theorem scan_long.u18.ok (k : Nat) (x0 : Int) (K : Ex → Frame → M α) :
    evC T (env k) k scan_long.u18.c (frameL [(5, .int .i64 x0)]) K =
      scan_long.u18.f k x0 (fun y0 => K .ret (frameL [(4, .int .i64 y0)])) := by kernel_rfl
theorem scan_long.u19.ok (k : Nat) (x0 : Int) (x1 : List UInt8) (x2 : Int) (K : Ex → Frame → M α) :
    evC T (env k) k scan_long.u19.c (frameL [(0, .int .i64 x0), (1, .str x1), (5, .int .i64 x2)]) K =
      scan_long.u19.f k x0 x1 x2 (fun y0 => K .ret (frameL [(4, .int .i64 y0)])) :=
  by
    have h := scan_long.u17.ok k x0 x1 x2 (seqK (fun ρ => evC T (env k) k scan_long.u18.c ρ K) K)
    simp only [seqK_normal, seqK_exit, seqK_ret, seqK_pan, scan_long.u18.ok] at h
    exact evC_seq_of h
theorem scan_long.u20.ok (k : Nat) (x0 : Int) (x1 : List UInt8) (K : Ex → Frame → M α) :
    evC T (env k) k scan_long.u20.c (frameL [(0, .int .i64 x0), (1, .str x1)]) K =
      scan_long.u20.f k x0 x1 (fun y0 => K .ret (frameL [(4, .int .i64 y0)])) :=
  (scan_long.u1.ok k x0 x1 scan_long.u19.c K).trans
    (congrArg (fun z => scan_long.u1.f k x0 x1 z) (funext fun y0 => (funext fun y1 => (funext fun y2 => scan_long.u19.ok k y0 y1 y2 K))))
theorem scan_long.ok (k : Nat) (x0 : Int) (x1 : List UInt8) (κ : Res → M α) :
    evF T (env k) k scan_long.c scan_long.res [.int .i64 x0, .str x1] κ = scan_long.f (k + 1) x0 x1 (fun o0 => κ (.ret (.int .i64 o0))) :=
  (scan_long.u20.ok k x0 x1 (retK T scan_long.res κ)).trans (by kernel_rfl)
theorem scan_long.code : scan_long.c.code = bodyOf Try.f72 := by kernel_rfl

def scan_value.c : IC := scan_value.u11.c
def scan_value.res : List ResultVar := [(.tmp 2), (.tmp 3)]
theorem scan_value.u1.ok (k : Nat) (x0 : List UInt8) (R : IC) (K : Ex → Frame → M α) :
    evC T (env k) k (scan_value.u1.c R) (frameL [(0, .str x0)]) K =
      scan_value.u1.f k x0 (fun y0 => evC T (env k) k R (frameL [(0, .str y0)]) K) (fun y0 y1 => K .ret (frameL [(2, .int .i64 y0), (3, .bool y1)])) := by kernel_rfl
theorem scan_value.u2.ok (k : Nat) (x0 : List UInt8) (R : IC) (K : Ex → Frame → M α) :
    evC T (env k) k (scan_value.u2.c R) (frameL [(0, .str x0)]) K =
      scan_value.u2.f k x0 (fun y0 y1 => evC T (env k) k R (frameL [(0, .str y0), (4, .int .i64 y1)]) K) := by kernel_rfl
theorem scan_value.u3.ok (k : Nat) (x0 : List UInt8) (x1 : Int) (R : IC) (K : Ex → Frame → M α) :
    evC T (env k) k (scan_value.u3.c R) (frameL [(0, .str x0), (4, .int .i64 x1)]) K =
      scan_value.u3.f k x0 x1 (fun y0 y1 y2 y3 => evC T (env k) k R (frameL [(0, .str y0), (4, .int .i64 y1), (20, .int .i64 y2), (21, .int .i64 y3)]) K) := by kernel_rfl
theorem scan_value.u4.ok (k : Nat) (x0 : List UInt8) (x1 : Int) (x2 : Int) (x3 : Int) (K : Ex → Frame → M α) :
    evC T (env k) k scan_value.u4.c (frameL [(0, .str x0), (4, .int .i64 x1), (20, .int .i64 x2), (21, .int .i64 x3)]) K =
      scan_value.u4.f k x0 x1 x2 x3 (fun y0 y1 y2 y3 => K .normal (frameL [(0, .str y0), (4, .int .i64 y1), (20, .int .i64 y2), (21, .int .i64 y3)])) (fun y0 => K (.exit 0) (frameL [(4, .int .i64 y0)])) := by kernel_rfl
theorem scan_value.u5.ls (k : Nat) (kx0 : Int → M α) (j : Nat) (x0 : List UInt8) (x1 : Int) (x2 : Int) (x3 : Int) : scan_value.u5.l k kx0 (j + 1) x0 x1 x2 x3 =
  scan_value.u4.f k x0 x1 x2 x3 (fun y0 y1 y2 y3 => scan_value.u5.l k kx0 j y0 y1 y2 y3) kx0 := rfl
theorem scan_value.u5.okl (k : Nat) (K : Ex → Frame → M α) : ∀ (j : Nat) (x0 : List UInt8) (x1 : Int) (x2 : Int) (x3 : Int),
    evLoop (evC T (env k) k scan_value.u4.c) [0, 4, 20, 21] j (frameL [(0, .str x0), (4, .int .i64 x1), (20, .int .i64 x2), (21, .int .i64 x3)]) K = scan_value.u5.l k (fun y0 => K (.exit 0) (frameL [(4, .int .i64 y0)])) j x0 x1 x2 x3
  | 0, _, _, _, _ => rfl
  | j + 1, x0, x1, x2, x3 => by
      have h := scan_value.u4.ok k x0 x1 x2 x3 (seqK (fun ρ => evLoop (evC T (env k) k scan_value.u4.c) [0, 4, 20, 21] j ρ K) K)
      simp only [seqK_exit, seqK_ret, seqK_pan, seqK_normal, scan_value.u5.okl k K j] at h
      exact (evLoop_step (by kernel_rfl) h).trans (scan_value.u5.ls k (fun y0 => K (.exit 0) (frameL [(4, .int .i64 y0)])) j x0 x1 x2 x3).symm
theorem scan_value.u5.ok (k : Nat) (x0 : List UInt8) (x1 : Int) (x2 : Int) (x3 : Int) (K : Ex → Frame → M α) :
    evC T (env k) k scan_value.u5.c (frameL [(0, .str x0), (4, .int .i64 x1), (20, .int .i64 x2), (21, .int .i64 x3)]) K =
      scan_value.u5.f k x0 x1 x2 x3 (fun y0 => K (.exit 0) (frameL [(4, .int .i64 y0)])) :=
  evC_loop.trans <| (evLoop_keep (body := evC T (env k) k scan_value.u4.c) (keep := [0, 4, 20, 21]) (ρ := (frameL [(0, .str x0), (4, .int .i64 x1), (20, .int .i64 x2), (21, .int .i64 x3)])) (ρ' := (frameL [(0, .str x0), (4, .int .i64 x1), (20, .int .i64 x2), (21, .int .i64 x3)])) (by kernel_rfl) k K).trans (scan_value.u5.okl k K k x0 x1 x2 x3)
theorem scan_value.u6.ok (k : Nat) (x0 : List UInt8) (x1 : Int) (x2 : Int) (x3 : Int) (K : Ex → Frame → M α) :
    evC T (env k) k scan_value.u6.c (frameL [(0, .str x0), (4, .int .i64 x1), (20, .int .i64 x2), (21, .int .i64 x3)]) K =
      scan_value.u6.f k x0 x1 x2 x3 (fun y0 => K .normal (frameL [(4, .int .i64 y0)])) :=
  (evC_block.trans (scan_value.u5.ok k x0 x1 x2 x3 (blockK 0 K))).trans (by kernel_rfl)
theorem scan_value.u7.ok (k : Nat) (x0 : List UInt8) (x1 : Int) (K : Ex → Frame → M α) :
    evC T (env k) k scan_value.u7.c (frameL [(0, .str x0), (4, .int .i64 x1)]) K =
      scan_value.u7.f k x0 x1 (fun y0 => K .normal (frameL [(4, .int .i64 y0)])) :=
  (scan_value.u3.ok k x0 x1 scan_value.u6.c K).trans
    (congrArg (fun z => scan_value.u3.f k x0 x1 z) (funext fun y0 => (funext fun y1 => (funext fun y2 => (funext fun y3 => scan_value.u6.ok k y0 y1 y2 y3 K)))))
theorem scan_value.u8.ok (k : Nat) (x0 : Int) (K : Ex → Frame → M α) :
    evC T (env k) k scan_value.u8.c (frameL [(4, .int .i64 x0)]) K =
      scan_value.u8.f k x0 (fun y0 y1 => K .ret (frameL [(2, .int .i64 y0), (3, .bool y1)])) := by kernel_rfl
theorem scan_value.u9.ok (k : Nat) (x0 : List UInt8) (x1 : Int) (K : Ex → Frame → M α) :
    evC T (env k) k scan_value.u9.c (frameL [(0, .str x0), (4, .int .i64 x1)]) K =
      scan_value.u9.f k x0 x1 (fun y0 y1 => K .ret (frameL [(2, .int .i64 y0), (3, .bool y1)])) :=
  by
    have h := scan_value.u7.ok k x0 x1 (seqK (fun ρ => evC T (env k) k scan_value.u8.c ρ K) K)
    simp only [seqK_normal, seqK_exit, seqK_ret, seqK_pan, scan_value.u8.ok] at h
    exact evC_seq_of h
theorem scan_value.u10.ok (k : Nat) (x0 : List UInt8) (K : Ex → Frame → M α) :
    evC T (env k) k scan_value.u10.c (frameL [(0, .str x0)]) K =
      scan_value.u10.f k x0 (fun y0 y1 => K .ret (frameL [(2, .int .i64 y0), (3, .bool y1)])) :=
  (scan_value.u2.ok k x0 scan_value.u9.c K).trans
    (congrArg (fun z => scan_value.u2.f k x0 z) (funext fun y0 => (funext fun y1 => scan_value.u9.ok k y0 y1 K)))
theorem scan_value.u11.ok (k : Nat) (x0 : List UInt8) (K : Ex → Frame → M α) :
    evC T (env k) k scan_value.u11.c (frameL [(0, .str x0)]) K =
      scan_value.u11.f k x0 (fun y0 y1 => K .ret (frameL [(2, .int .i64 y0), (3, .bool y1)])) :=
  (scan_value.u1.ok k x0 scan_value.u10.c K).trans
    (congrArg (fun z => scan_value.u1.f k x0 z (fun y0 y1 => K .ret (frameL [(2, .int .i64 y0), (3, .bool y1)]))) (funext fun y0 => scan_value.u10.ok k y0 K))
theorem scan_value.ok (k : Nat) (x0 : List UInt8) (κ : Res → M α) :
    evF T (env k) k scan_value.c scan_value.res [.str x0] κ = scan_value.f (k + 1) x0 (fun o0 o1 => κ (.ret (.tuple [.int .i64 o0, .bool o1]))) :=
  (scan_value.u11.ok k x0 (retK T scan_value.res κ)).trans (by kernel_rfl)
theorem scan_value.code : scan_value.c.code = bodyOf Try.f73 := by kernel_rfl

def scan_token.c : IC := scan_token.u1.c
def scan_token.res : List ResultVar := [(.cell 4 79), (.tmp 5)]
theorem scan_token.u1.ok (k : Nat) (x0 : List UInt8) (x1 : Int) (K : Ex → Frame → M α) :
    evC T (env k) k scan_token.u1.c (frameL [(0, .str x0), (1, .int .i64 x1)]) K =
      scan_token.u1.f k x0 x1 (fun y0 y1 => K .ret (frameL [(4, .ptr (some y0)), (5, .int .i64 y1)])) := by kernel_rfl
theorem scan_token.ok (k : Nat) (x0 : List UInt8) (x1 : Int) (κ : Res → M α) :
    evF T (env k) k scan_token.c scan_token.res [.str x0, .int .i64 x1] κ = scan_token.f (k + 1) x0 x1 (fun o0 o1 o2 o3 o4 => κ (.ret (.tuple [.agg [.int .i64 o0, .int .i64 o1, .str o2, .int .i64 o3], .int .i64 o4]))) :=
  (scan_token.u1.ok k x0 x1 (retK T scan_token.res κ)).trans (by kernel_rfl)
theorem scan_token.code : scan_token.c.code = bodyOf Try.f60 := by kernel_rfl

def scan_All.c : IC := scan_All.u9.c
def scan_All.res : List ResultVar := [(.tmp 2), (.tmp 3)]
theorem scan_All.u1.ok (k : Nat) (x0 : List UInt8) (R : IC) (K : Ex → Frame → M α) :
    evC T (env k) k (scan_All.u1.c R) (frameL [(0, .str x0)]) K =
      scan_All.u1.f k x0 (fun y0 y1 => evC T (env k) k R (frameL [(0, .str y0), (4, .slice y1)]) K) (fun y0 y1 => K .ret (frameL [(2, .slice y0), (3, .iface 75 (.ptr (some y1)))])) := by kernel_rfl
theorem scan_All.u2.ok (k : Nat) (x0 : List UInt8) (x1 : Sl) (R : IC) (K : Ex → Frame → M α) :
    evC T (env k) k (scan_All.u2.c R) (frameL [(0, .str x0), (4, .slice x1)]) K =
      scan_All.u2.f k x0 x1 (fun y0 y1 y2 => evC T (env k) k R (frameL [(0, .str y0), (4, .slice y1), (5, .int .i64 y2)]) K) := by kernel_rfl
theorem scan_All.u3.ok (k : Nat) (x0 : List UInt8) (x1 : Sl) (x2 : Int) (K : Ex → Frame → M α) :
    evC T (env k) k scan_All.u3.c (frameL [(0, .str x0), (4, .slice x1), (5, .int .i64 x2)]) K =
      scan_All.u3.f k x0 x1 x2 (fun y0 y1 y2 => K .normal (frameL [(0, .str y0), (4, .slice y1), (5, .int .i64 y2)])) (fun y0 y1 => K .ret (frameL [(2, .slice y0), (3, .iface 75 (.ptr (some y1)))])) (fun y0 y1 => K (.exit 0) (frameL [(0, .str y0), (4, .slice y1)])) := by kernel_rfl
theorem scan_All.u4.ls (k : Nat) (kr : Sl → Ad → M α) (kx0 : List UInt8 → Sl → M α) (j : Nat) (x0 : List UInt8) (x1 : Sl) (x2 : Int) : scan_All.u4.l k kr kx0 (j + 1) x0 x1 x2 =
  scan_All.u3.f k x0 x1 x2 (fun y0 y1 y2 => scan_All.u4.l k kr kx0 j y0 y1 y2) kr kx0 := rfl
theorem scan_All.u4.okl (k : Nat) (K : Ex → Frame → M α) : ∀ (j : Nat) (x0 : List UInt8) (x1 : Sl) (x2 : Int),
    evLoop (evC T (env k) k scan_All.u3.c) [0, 4, 5] j (frameL [(0, .str x0), (4, .slice x1), (5, .int .i64 x2)]) K = scan_All.u4.l k (fun y0 y1 => K .ret (frameL [(2, .slice y0), (3, .iface 75 (.ptr (some y1)))])) (fun y0 y1 => K (.exit 0) (frameL [(0, .str y0), (4, .slice y1)])) j x0 x1 x2
  | 0, _, _, _ => rfl
  | j + 1, x0, x1, x2 => by
      have h := scan_All.u3.ok k x0 x1 x2 (seqK (fun ρ => evLoop (evC T (env k) k scan_All.u3.c) [0, 4, 5] j ρ K) K)
      simp only [seqK_exit, seqK_ret, seqK_pan, seqK_normal, scan_All.u4.okl k K j] at h
      exact (evLoop_step (by kernel_rfl) h).trans (scan_All.u4.ls k (fun y0 y1 => K .ret (frameL [(2, .slice y0), (3, .iface 75 (.ptr (some y1)))])) (fun y0 y1 => K (.exit 0) (frameL [(0, .str y0), (4, .slice y1)])) j x0 x1 x2).symm
theorem scan_All.u4.ok (k : Nat) (x0 : List UInt8) (x1 : Sl) (x2 : Int) (K : Ex → Frame → M α) :
    evC T (env k) k scan_All.u4.c (frameL [(0, .str x0), (4, .slice x1), (5, .int .i64 x2)]) K =
      scan_All.u4.f k x0 x1 x2 (fun y0 y1 => K .ret (frameL [(2, .slice y0), (3, .iface 75 (.ptr (some y1)))])) (fun y0 y1 => K (.exit 0) (frameL [(0, .str y0), (4, .slice y1)])) :=
  evC_loop.trans <| (evLoop_keep (body := evC T (env k) k scan_All.u3.c) (keep := [0, 4, 5]) (ρ := (frameL [(0, .str x0), (4, .slice x1), (5, .int .i64 x2)])) (ρ' := (frameL [(0, .str x0), (4, .slice x1), (5, .int .i64 x2)])) (by kernel_rfl) k K).trans (scan_All.u4.okl k K k x0 x1 x2)
theorem scan_All.u5.ok (k : Nat) (x0 : List UInt8) (x1 : Sl) (x2 : Int) (K : Ex → Frame → M α) :
    evC T (env k) k scan_All.u5.c (frameL [(0, .str x0), (4, .slice x1), (5, .int .i64 x2)]) K =
      scan_All.u5.f k x0 x1 x2 (fun y0 y1 => K .normal (frameL [(0, .str y0), (4, .slice y1)])) (fun y0 y1 => K .ret (frameL [(2, .slice y0), (3, .iface 75 (.ptr (some y1)))])) :=
  (evC_block.trans (scan_All.u4.ok k x0 x1 x2 (blockK 0 K))).trans (by kernel_rfl)
theorem scan_All.u6.ok (k : Nat) (x0 : List UInt8) (x1 : Sl) (K : Ex → Frame → M α) :
    evC T (env k) k scan_All.u6.c (frameL [(0, .str x0), (4, .slice x1)]) K =
      scan_All.u6.f k x0 x1 (fun y0 y1 => K .normal (frameL [(0, .str y0), (4, .slice y1)])) (fun y0 y1 => K .ret (frameL [(2, .slice y0), (3, .iface 75 (.ptr (some y1)))])) :=
  (scan_All.u2.ok k x0 x1 scan_All.u5.c K).trans
    (congrArg (fun z => scan_All.u2.f k x0 x1 z) (funext fun y0 => (funext fun y1 => (funext fun y2 => scan_All.u5.ok k y0 y1 y2 K))))
theorem scan_All.u7.ok (k : Nat) (x0 : List UInt8) (x1 : Sl) (K : Ex → Frame → M α) :
    evC T (env k) k scan_All.u7.c (frameL [(0, .str x0), (4, .slice x1)]) K =
      scan_All.u7.f k x0 x1 (fun y0 => K .ret (frameL [(2, .slice y0), (3, .nilIface)])) := by kernel_rfl
theorem scan_All.u8.ok (k : Nat) (x0 : List UInt8) (x1 : Sl) (K : Ex → Frame → M α) :
    evC T (env k) k scan_All.u8.c (frameL [(0, .str x0), (4, .slice x1)]) K =
      scan_All.u8.f k x0 x1 (fun y0 y1 => K .ret (frameL [(2, .slice y0), (3, y1)])) :=
  by
    have h := scan_All.u6.ok k x0 x1 (seqK (fun ρ => evC T (env k) k scan_All.u7.c ρ K) K)
    simp only [seqK_normal, seqK_exit, seqK_ret, seqK_pan, scan_All.u7.ok] at h
    exact evC_seq_of h
theorem scan_All.u9.ok (k : Nat) (x0 : List UInt8) (K : Ex → Frame → M α) :
    evC T (env k) k scan_All.u9.c (frameL [(0, .str x0)]) K =
      scan_All.u9.f k x0 (fun y0 y1 => K .ret (frameL [(2, .slice y0), (3, y1)])) :=
  (scan_All.u1.ok k x0 scan_All.u8.c K).trans
    (congrArg (fun z => scan_All.u1.f k x0 z (fun y0 y1 => K .ret (frameL [(2, .slice y0), (3, .iface 75 (.ptr (some y1)))]))) (funext fun y0 => (funext fun y1 => scan_All.u8.ok k y0 y1 K)))
theorem scan_All.ok (k : Nat) (x0 : List UInt8) (κ : Res → M α) :
    evF T (env k) k scan_All.c scan_All.res [.str x0] κ = scan_All.f (k + 1) x0 (fun o0 o1 => κ (.ret (.tuple [.slice o0, o1]))) :=
  (scan_All.u9.ok k x0 (retK T scan_All.res κ)).trans (by kernel_rfl)
theorem scan_All.code : scan_All.c.code = bodyOf Try.f44 := by kernel_rfl

def syntax_Parse_c2.c : IC := syntax_Parse_c2.u1.c
def syntax_Parse_c2.res : List ResultVar := [(.tmp 2)]
theorem syntax_Parse_c2.u1.ok (k : Nat) (x0 : Int) (x1 : Int) (x2 : List UInt8) (x3 : Int) (K : Ex → Frame → M α) :
    evC T (env k) k syntax_Parse_c2.u1.c (frameL [(0, .agg [.int .i64 x0, .int .i64 x1, .str x2, .int .i64 x3])]) K =
      syntax_Parse_c2.u1.f k x0 x1 x2 x3 (fun y0 => K .ret (frameL [(2, .bool y0)])) := by kernel_rfl
theorem syntax_Parse_c2.ok (k : Nat) (x0 : Int) (x1 : Int) (x2 : List UInt8) (x3 : Int) (κ : Res → M α) :
    evF T (env k) k syntax_Parse_c2.c syntax_Parse_c2.res [.agg [.int .i64 x0, .int .i64 x1, .str x2, .int .i64 x3]] κ = syntax_Parse_c2.f (k + 1) x0 x1 x2 x3 (fun o0 => κ (.ret (.bool o0))) :=
  (syntax_Parse_c2.u1.ok k x0 x1 x2 x3 (retK T syntax_Parse_c2.res κ)).trans (by kernel_rfl)
theorem syntax_Parse_c2.code : syntax_Parse_c2.c.code = bodyOf Try.f47 := by kernel_rfl

def slIT.c : IC := slIT.u9.c
def slIT.res : List ResultVar := [(.tmp 4)]
theorem slIT.u1.ok (k : Nat) (x0 : Sl) (R : IC) (K : Ex → Frame → M α) :
    evC T (env k) k (slIT.u1.c R) (frameL [(0, .slice x0), (1, .func 47 [] [])]) K =
      slIT.u1.f k x0 (fun y0 => evC T (env k) k R (frameL [(0, .slice y0), (1, .func 47 [] [])]) K) := by kernel_rfl
theorem slIT.u2.ok (k : Nat) (x0 : Sl) (R : IC) (K : Ex → Frame → M α) :
    evC T (env k) k (slIT.u2.c R) (frameL [(0, .slice x0), (1, .func 47 [] [])]) K =
      slIT.u2.f k x0 (fun y0 y1 y2 => evC T (env k) k R (frameL [(0, .slice y0), (1, .func 47 [] []), (7, .int .i64 y1), (8, .int .i64 y2)]) K) := by kernel_rfl
theorem slIT.u3.ok (k : Nat) (x0 : Sl) (x1 : Int) (x2 : Int) (K : Ex → Frame → M α) :
    evC T (env k) k slIT.u3.c (frameL [(0, .slice x0), (1, .func 47 [] []), (7, .int .i64 x1), (8, .int .i64 x2)]) K =
      slIT.u3.f k x0 x1 x2 (fun y0 y1 y2 => K .normal (frameL [(0, .slice y0), (1, .func 47 [] []), (7, .int .i64 y1), (8, .int .i64 y2)])) (fun y0 => K .ret (frameL [(4, .int .i64 y0)])) (K (.exit 0) (frameL [])) := by kernel_rfl
theorem slIT.u4.ls (k : Nat) (kr : Int → M α) (kx0 : M α) (j : Nat) (x0 : Sl) (x1 : Int) (x2 : Int) : slIT.u4.l k kr kx0 (j + 1) x0 x1 x2 =
  slIT.u3.f k x0 x1 x2 (fun y0 y1 y2 => slIT.u4.l k kr kx0 j y0 y1 y2) kr kx0 := rfl
theorem slIT.u4.okl (k : Nat) (K : Ex → Frame → M α) : ∀ (j : Nat) (x0 : Sl) (x1 : Int) (x2 : Int),
    evLoop (evC T (env k) k slIT.u3.c) [0, 1, 7, 8] j (frameL [(0, .slice x0), (1, .func 47 [] []), (7, .int .i64 x1), (8, .int .i64 x2)]) K = slIT.u4.l k (fun y0 => K .ret (frameL [(4, .int .i64 y0)])) (K (.exit 0) (frameL [])) j x0 x1 x2
  | 0, _, _, _ => rfl
  | j + 1, x0, x1, x2 => by
      have h := slIT.u3.ok k x0 x1 x2 (seqK (fun ρ => evLoop (evC T (env k) k slIT.u3.c) [0, 1, 7, 8] j ρ K) K)
      simp only [seqK_exit, seqK_ret, seqK_pan, seqK_normal, slIT.u4.okl k K j] at h
      exact (evLoop_step (by kernel_rfl) h).trans (slIT.u4.ls k (fun y0 => K .ret (frameL [(4, .int .i64 y0)])) (K (.exit 0) (frameL [])) j x0 x1 x2).symm
theorem slIT.u4.ok (k : Nat) (x0 : Sl) (x1 : Int) (x2 : Int) (K : Ex → Frame → M α) :
    evC T (env k) k slIT.u4.c (frameL [(0, .slice x0), (1, .func 47 [] []), (7, .int .i64 x1), (8, .int .i64 x2)]) K =
      slIT.u4.f k x0 x1 x2 (fun y0 => K .ret (frameL [(4, .int .i64 y0)])) (K (.exit 0) (frameL [])) :=
  evC_loop.trans <| (evLoop_keep (body := evC T (env k) k slIT.u3.c) (keep := [0, 1, 7, 8]) (ρ := (frameL [(0, .slice x0), (1, .func 47 [] []), (7, .int .i64 x1), (8, .int .i64 x2)])) (ρ' := (frameL [(0, .slice x0), (1, .func 47 [] []), (7, .int .i64 x1), (8, .int .i64 x2)])) (by kernel_rfl) k K).trans (slIT.u4.okl k K k x0 x1 x2)
theorem slIT.u5.ok (k : Nat) (x0 : Sl) (x1 : Int) (x2 : Int) (K : Ex → Frame → M α) :
    evC T (env k) k slIT.u5.c (frameL [(0, .slice x0), (1, .func 47 [] []), (7, .int .i64 x1), (8, .int .i64 x2)]) K =
      slIT.u5.f k x0 x1 x2 (K .normal (frameL [])) (fun y0 => K .ret (frameL [(4, .int .i64 y0)])) :=
  (evC_block.trans (slIT.u4.ok k x0 x1 x2 (blockK 0 K))).trans (by kernel_rfl)
theorem slIT.u6.ok (k : Nat) (x0 : Sl) (K : Ex → Frame → M α) :
    evC T (env k) k slIT.u6.c (frameL [(0, .slice x0), (1, .func 47 [] [])]) K =
      slIT.u6.f k x0 (K .normal (frameL [])) (fun y0 => K .ret (frameL [(4, .int .i64 y0)])) :=
  (slIT.u2.ok k x0 slIT.u5.c K).trans
    (congrArg (fun z => slIT.u2.f k x0 z) (funext fun y0 => (funext fun y1 => (funext fun y2 => slIT.u5.ok k y0 y1 y2 K))))
theorem slIT.u7.ok (k : Nat) (K : Ex → Frame → M α) :
    evC T (env k) k slIT.u7.c (frameL []) K =
      slIT.u7.f k (fun y0 => K .ret (frameL [(4, .int .i64 y0)])) := by kernel_rfl
theorem slIT.u8.ok (k : Nat) (x0 : Sl) (K : Ex → Frame → M α) :
    evC T (env k) k slIT.u8.c (frameL [(0, .slice x0), (1, .func 47 [] [])]) K =
      slIT.u8.f k x0 (fun y0 => K .ret (frameL [(4, .int .i64 y0)])) :=
  by
    have h := slIT.u6.ok k x0 (seqK (fun ρ => evC T (env k) k slIT.u7.c ρ K) K)
    simp only [seqK_normal, seqK_exit, seqK_ret, seqK_pan, slIT.u7.ok] at h
    exact evC_seq_of h
theorem slIT.u9.ok (k : Nat) (x0 : Sl) (K : Ex → Frame → M α) :
    evC T (env k) k slIT.u9.c (frameL [(0, .slice x0), (1, .func 47 [] [])]) K =
      slIT.u9.f k x0 (fun y0 => K .ret (frameL [(4, .int .i64 y0)])) :=
  (slIT.u1.ok k x0 slIT.u8.c K).trans
    (congrArg (fun z => slIT.u1.f k x0 z) (funext fun y0 => slIT.u8.ok k y0 K))
theorem slIT.ok (k : Nat) (x0 : Sl) (κ : Res → M α) :
    evF T (env k) k slIT.c slIT.res [.slice x0, .func 47 [] []] κ = slIT.f (k + 1) x0 (fun o0 => κ (.ret (.int .i64 o0))) :=
  (slIT.u9.ok k x0 (retK T slIT.res κ)).trans (by kernel_rfl)
theorem slIT.code : slIT.c.code = bodyOf Try.f61 := by kernel_rfl

def slDT.c : IC := slDT.u9.c
def slDT.res : List ResultVar := [(.tmp 4)]
theorem slDT.u1.ok (k : Nat) (x0 : Sl) (R : IC) (K : Ex → Frame → M α) :
    evC T (env k) k (slDT.u1.c R) (frameL [(0, .slice x0), (1, .func 47 [] [])]) K =
      slDT.u1.f k x0 (fun y0 y1 => evC T (env k) k R (frameL [(0, .slice y0), (1, .func 47 [] []), (5, .int .i64 y1)]) K) (fun y0 => K .ret (frameL [(4, .slice y0)])) := by kernel_rfl
theorem slDT.u2.ok (k : Nat) (x0 : Sl) (x1 : Int) (R : IC) (K : Ex → Frame → M α) :
    evC T (env k) k (slDT.u2.c R) (frameL [(0, .slice x0), (1, .func 47 [] []), (5, .int .i64 x1)]) K =
      slDT.u2.f k x0 x1 (fun y0 y1 y2 => evC T (env k) k R (frameL [(0, .slice y0), (1, .func 47 [] []), (5, .int .i64 y1), (6, .int .i64 y2)]) K) := by kernel_rfl
theorem slDT.u3.ok (k : Nat) (x0 : Sl) (x1 : Int) (x2 : Int) (K : Ex → Frame → M α) :
    evC T (env k) k slDT.u3.c (frameL [(0, .slice x0), (1, .func 47 [] []), (5, .int .i64 x1), (6, .int .i64 x2)]) K =
      slDT.u3.f k x0 x1 x2 (fun y0 y1 y2 => K .normal (frameL [(0, .slice y0), (1, .func 47 [] []), (5, .int .i64 y1), (6, .int .i64 y2)])) (fun y0 y1 => K (.exit 0) (frameL [(0, .slice y0), (5, .int .i64 y1)])) := by kernel_rfl
theorem slDT.u4.ls (k : Nat) (kx0 : Sl → Int → M α) (j : Nat) (x0 : Sl) (x1 : Int) (x2 : Int) : slDT.u4.l k kx0 (j + 1) x0 x1 x2 =
  slDT.u3.f k x0 x1 x2 (fun y0 y1 y2 => slDT.u4.l k kx0 j y0 y1 y2) kx0 := rfl
theorem slDT.u4.okl (k : Nat) (K : Ex → Frame → M α) : ∀ (j : Nat) (x0 : Sl) (x1 : Int) (x2 : Int),
    evLoop (evC T (env k) k slDT.u3.c) [0, 1, 5, 6] j (frameL [(0, .slice x0), (1, .func 47 [] []), (5, .int .i64 x1), (6, .int .i64 x2)]) K = slDT.u4.l k (fun y0 y1 => K (.exit 0) (frameL [(0, .slice y0), (5, .int .i64 y1)])) j x0 x1 x2
  | 0, _, _, _ => rfl
  | j + 1, x0, x1, x2 => by
      have h := slDT.u3.ok k x0 x1 x2 (seqK (fun ρ => evLoop (evC T (env k) k slDT.u3.c) [0, 1, 5, 6] j ρ K) K)
      simp only [seqK_exit, seqK_ret, seqK_pan, seqK_normal, slDT.u4.okl k K j] at h
      exact (evLoop_step (by kernel_rfl) h).trans (slDT.u4.ls k (fun y0 y1 => K (.exit 0) (frameL [(0, .slice y0), (5, .int .i64 y1)])) j x0 x1 x2).symm
theorem slDT.u4.ok (k : Nat) (x0 : Sl) (x1 : Int) (x2 : Int) (K : Ex → Frame → M α) :
    evC T (env k) k slDT.u4.c (frameL [(0, .slice x0), (1, .func 47 [] []), (5, .int .i64 x1), (6, .int .i64 x2)]) K =
      slDT.u4.f k x0 x1 x2 (fun y0 y1 => K (.exit 0) (frameL [(0, .slice y0), (5, .int .i64 y1)])) :=
  evC_loop.trans <| (evLoop_keep (body := evC T (env k) k slDT.u3.c) (keep := [0, 1, 5, 6]) (ρ := (frameL [(0, .slice x0), (1, .func 47 [] []), (5, .int .i64 x1), (6, .int .i64 x2)])) (ρ' := (frameL [(0, .slice x0), (1, .func 47 [] []), (5, .int .i64 x1), (6, .int .i64 x2)])) (by kernel_rfl) k K).trans (slDT.u4.okl k K k x0 x1 x2)
theorem slDT.u5.ok (k : Nat) (x0 : Sl) (x1 : Int) (x2 : Int) (K : Ex → Frame → M α) :
    evC T (env k) k slDT.u5.c (frameL [(0, .slice x0), (1, .func 47 [] []), (5, .int .i64 x1), (6, .int .i64 x2)]) K =
      slDT.u5.f k x0 x1 x2 (fun y0 y1 => K .normal (frameL [(0, .slice y0), (5, .int .i64 y1)])) :=
  (evC_block.trans (slDT.u4.ok k x0 x1 x2 (blockK 0 K))).trans (by kernel_rfl)
theorem slDT.u6.ok (k : Nat) (x0 : Sl) (x1 : Int) (K : Ex → Frame → M α) :
    evC T (env k) k slDT.u6.c (frameL [(0, .slice x0), (1, .func 47 [] []), (5, .int .i64 x1)]) K =
      slDT.u6.f k x0 x1 (fun y0 y1 => K .normal (frameL [(0, .slice y0), (5, .int .i64 y1)])) :=
  (slDT.u2.ok k x0 x1 slDT.u5.c K).trans
    (congrArg (fun z => slDT.u2.f k x0 x1 z) (funext fun y0 => (funext fun y1 => (funext fun y2 => slDT.u5.ok k y0 y1 y2 K))))
theorem slDT.u7.ok (k : Nat) (x0 : Sl) (x1 : Int) (K : Ex → Frame → M α) :
    evC T (env k) k slDT.u7.c (frameL [(0, .slice x0), (5, .int .i64 x1)]) K =
      slDT.u7.f k x0 x1 (fun y0 => K .ret (frameL [(4, .slice y0)])) := by kernel_rfl
theorem slDT.u8.ok (k : Nat) (x0 : Sl) (x1 : Int) (K : Ex → Frame → M α) :
    evC T (env k) k slDT.u8.c (frameL [(0, .slice x0), (1, .func 47 [] []), (5, .int .i64 x1)]) K =
      slDT.u8.f k x0 x1 (fun y0 => K .ret (frameL [(4, .slice y0)])) :=
  by
    have h := slDT.u6.ok k x0 x1 (seqK (fun ρ => evC T (env k) k slDT.u7.c ρ K) K)
    simp only [seqK_normal, seqK_exit, seqK_ret, seqK_pan, slDT.u7.ok] at h
    exact evC_seq_of h
theorem slDT.u9.ok (k : Nat) (x0 : Sl) (K : Ex → Frame → M α) :
    evC T (env k) k slDT.u9.c (frameL [(0, .slice x0), (1, .func 47 [] [])]) K =
      slDT.u9.f k x0 (fun y0 => K .ret (frameL [(4, .slice y0)])) :=
  (slDT.u1.ok k x0 slDT.u8.c K).trans
    (congrArg (fun z => slDT.u1.f k x0 z (fun y0 => K .ret (frameL [(4, .slice y0)]))) (funext fun y0 => (funext fun y1 => slDT.u8.ok k y0 y1 K)))
theorem slDT.ok (k : Nat) (x0 : Sl) (κ : Res → M α) :
    evF T (env k) k slDT.c slDT.res [.slice x0, .func 47 [] []] κ = slDT.f (k + 1) x0 (fun o0 => κ (.ret (.slice o0))) :=
  (slDT.u9.ok k x0 (retK T slDT.res κ)).trans (by kernel_rfl)
theorem slDT.code : slDT.c.code = bodyOf Try.f46 := by kernel_rfl

def spis.c : IC := spis.u1.c
def spis.res : List ResultVar := [(.tmp 4)]
theorem spis.u1.ok (k : Nat) (x0 : Ad) (x1 : List UInt8) (K : Ex → Frame → M α) :
    evC T (env k) k spis.u1.c (frameL [(0, .ptr (some x0)), (1, .str x1)]) K =
      spis.u1.f k x0 x1 (fun y0 => K .ret (frameL [(4, .bool y0)])) := by kernel_rfl
theorem spis.ok (k : Nat) (x0 : Ad) (x1 : List UInt8) (κ : Res → M α) :
    evF T (env k) k spis.c spis.res [.ptr (some x0), .str x1] κ = spis.f (k + 1) x0 x1 (fun o0 => κ (.ret (.bool o0))) :=
  (spis.u1.ok k x0 x1 (retK T spis.res κ)).trans (by kernel_rfl)
theorem spis.code : spis.c.code = bodyOf Try.f74 := by kernel_rfl

def spnext.c : IC := spnext.u1.c
def spnext.res : List ResultVar := [(.cell 2 79)]
theorem spnext.u1.ok (k : Nat) (x0 : Ad) (K : Ex → Frame → M α) :
    evC T (env k) k spnext.u1.c (frameL [(0, .ptr (some x0))]) K =
      spnext.u1.f k x0 (fun y0 => K .ret (frameL [(2, .ptr (some y0))])) := by kernel_rfl
theorem spnext.ok (k : Nat) (x0 : Ad) (κ : Res → M α) :
    evF T (env k) k spnext.c spnext.res [.ptr (some x0)] κ = spnext.f (k + 1) x0 (fun o0 o1 o2 o3 => κ (.ret (.agg [.int .i64 o0, .int .i64 o1, .str o2, .int .i64 o3]))) :=
  (spnext.u1.ok k x0 (retK T spnext.res κ)).trans (by kernel_rfl)
theorem spnext.code : spnext.c.code = bodyOf Try.f80 := by kernel_rfl

def spmakes.c : IC := spmakes.u1.c
def spmakes.res : List ResultVar := [(.cell 2 79)]
theorem spmakes.u1.ok (k : Nat) (x0 : Ad) (K : Ex → Frame → M α) :
    evC T (env k) k spmakes.u1.c (frameL [(0, .ptr (some x0))]) K =
      spmakes.u1.f k x0 (fun y0 => K .ret (frameL [(2, .ptr (some y0))])) (fun v => K (.pan v) (frameL [])) := by kernel_rfl
theorem spmakes.ok (k : Nat) (x0 : Ad) (κ : Res → M α) :
    evF T (env k) k spmakes.c spmakes.res [.ptr (some x0)] κ = spmakes.f (k + 1) x0 (fun v => κ (.pan v)) (fun o0 o1 o2 o3 => κ (.ret (.agg [.int .i64 o0, .int .i64 o1, .str o2, .int .i64 o3]))) :=
  (spmakes.u1.ok k x0 (retK T spmakes.res κ)).trans (by kernel_rfl)
theorem spmakes.code : spmakes.c.code = bodyOf Try.f75 := by kernel_rfl

def spnode.c : IC := spnode.u1.c
def spnode.res : List ResultVar := [(.tmp 4)]
theorem spnode.u1.ok (k : Nat) (x0 : Ad) (x1 : Int) (x2 : Int) (x3 : Int) (x4 : List UInt8) (x5 : Int) (K : Ex → Frame → M α) :
    evC T (env k) k spnode.u1.c (frameL [(0, .ptr (some x0)), (1, .agg [.int .i64 x1, .int .i64 x2, .int .i64 x3, .str x4, .int .i64 x5])]) K =
      spnode.u1.f k x0 x1 x2 x3 x4 x5 (fun y0 => K .ret (frameL [(4, .int .i64 y0)])) := by kernel_rfl
theorem spnode.ok (k : Nat) (x0 : Ad) (x1 : Int) (x2 : Int) (x3 : Int) (x4 : List UInt8) (x5 : Int) (κ : Res → M α) :
    evF T (env k) k spnode.c spnode.res [.ptr (some x0), .agg [.int .i64 x1, .int .i64 x2, .int .i64 x3, .str x4, .int .i64 x5]] κ = spnode.f (k + 1) x0 x1 x2 x3 x4 x5 (fun o0 => κ (.ret (.int .i64 o0))) :=
  (spnode.u1.ok k x0 x1 x2 x3 x4 x5 (retK T spnode.res κ)).trans (by kernel_rfl)
theorem spnode.code : spnode.c.code = bodyOf Try.f76 := by kernel_rfl

def spwrong.c : IC := spwrong.u1.c
def spwrong.res : List ResultVar := []
theorem spwrong.u1.ok (k : Nat) (x0 : Ad) (K : Ex → Frame → M α) :
    evC T (env k) k spwrong.u1.c (frameL [(0, .ptr (some x0))]) K =
      spwrong.u1.f k x0 (fun v => K (.pan v) (frameL [])) := by kernel_rfl
theorem spwrong.ok (k : Nat) (x0 : Ad) (κ : Res → M α) :
    evF T (env k) k spwrong.c spwrong.res [.ptr (some x0)] κ = spwrong.f (k + 1) x0 (fun v => κ (.pan v)) (κ (.ret (.tuple []))) :=
  (spwrong.u1.ok k x0 (retK T spwrong.res κ)).trans (by kernel_rfl)
theorem spwrong.code : spwrong.c.code = bodyOf Try.f49 := by kernel_rfl

def syntax_word.c : IC := syntax_word.u1.c
def syntax_word.res : List ResultVar := [(.tmp 2)]
theorem syntax_word.u1.ok (k : Nat) (x0 : List UInt8) (K : Ex → Frame → M α) :
    evC T (env k) k syntax_word.u1.c (frameL [(0, .str x0)]) K =
      syntax_word.u1.f k x0 (fun y0 => K .ret (frameL [(2, .bool y0)])) := by kernel_rfl
theorem syntax_word.ok (k : Nat) (x0 : List UInt8) (κ : Res → M α) :
    evF T (env k) k syntax_word.c syntax_word.res [.str x0] κ = syntax_word.f (k + 1) x0 (fun o0 => κ (.ret (.bool o0))) :=
  (syntax_word.u1.ok k x0 (retK T syntax_word.res κ)).trans (by kernel_rfl)
theorem syntax_word.code : syntax_word.c.code = bodyOf Try.f66 := by kernel_rfl

def spneed.c : IC := spneed.u1.c
def spneed.res : List ResultVar := []
theorem spneed.u1.ok (k : Nat) (x0 : Ad) (x1 : List UInt8) (K : Ex → Frame → M α) :
    evC T (env k) k spneed.u1.c (frameL [(0, .ptr (some x0)), (1, .str x1)]) K =
      spneed.u1.f k x0 x1 (K .normal (frameL [])) (fun v => K (.pan v) (frameL [])) := by kernel_rfl
theorem spneed.ok (k : Nat) (x0 : Ad) (x1 : List UInt8) (κ : Res → M α) :
    evF T (env k) k spneed.c spneed.res [.ptr (some x0), .str x1] κ = spneed.f (k + 1) x0 x1 (fun v => κ (.pan v)) (κ (.ret (.tuple []))) :=
  (spneed.u1.ok k x0 x1 (retK T spneed.res κ)).trans (by kernel_rfl)
theorem spneed.code : spneed.c.code = bodyOf Try.f82 := by kernel_rfl

def spstep.c : IC := spstep.u1.c
def spstep.res : List ResultVar := [(.tmp 4)]
theorem spstep.u1.ok (k : Nat) (x0 : Ad) (x1 : List UInt8) (K : Ex → Frame → M α) :
    evC T (env k) k spstep.u1.c (frameL [(0, .ptr (some x0)), (1, .str x1)]) K =
      spstep.u1.f k x0 x1 (fun y0 => K .ret (frameL [(4, .str y0)])) (fun v => K (.pan v) (frameL [])) := by kernel_rfl
theorem spstep.ok (k : Nat) (x0 : Ad) (x1 : List UInt8) (κ : Res → M α) :
    evF T (env k) k spstep.c spstep.res [.ptr (some x0), .str x1] κ = spstep.f (k + 1) x0 x1 (fun v => κ (.pan v)) (fun o0 => κ (.ret (.str o0))) :=
  (spstep.u1.ok k x0 x1 (retK T spstep.res κ)).trans (by kernel_rfl)
theorem spstep.code : spstep.c.code = bodyOf Try.f81 := by kernel_rfl

def spformula.c : IC := spformula.u1.c
def spformula.res : List ResultVar := [(.tmp 2)]
theorem spformula.u1.ok (k : Nat) (x0 : Ad) (K : Ex → Frame → M α) :
    evC T (env k) k spformula.u1.c (frameL [(0, .ptr (some x0))]) K =
      spformula.u1.f k (sprow.f k) x0 (fun y0 => K .ret (frameL [(2, .int .i64 y0)])) (fun v => K (.pan v) (frameL [])) := by kernel_rfl
theorem spformula.ok (k : Nat) (x0 : Ad) (κ : Res → M α) :
    evF T (env k) k spformula.c spformula.res [.ptr (some x0)] κ = spformula.f (k + 1) x0 (fun v => κ (.pan v)) (fun o0 => κ (.ret (.int .i64 o0))) :=
  (spformula.u1.ok k x0 (retK T spformula.res κ)).trans (by kernel_rfl)
theorem spformula.code : spformula.c.code = bodyOf Try.f48 := by kernel_rfl
def sprow.c : IC := sprow.u7.c
def sprow.res : List ResultVar := [(.tmp 8)]
theorem sprow.u1.ok (k : Nat) (x0 : Ad) (x1 : List UInt8) (x2 : Int) (x3 : V) (R : IC) (K : Ex → Frame → M α) :
    evC T (env k) k (sprow.u1.c R) (frameL [(0, .ptr (some x0)), (1, .str x1), (2, .int .i64 x2), (3, x3)]) K =
      sprow.u1.f k (spand.f k) (spunary.f k) x0 x1 x2 x3 (fun y0 y1 y2 y3 y4 => evC T (env k) k R (frameL [(0, .ptr (some y0)), (1, .str y1), (2, .int .i64 y2), (3, y3), (9, .int .i64 y4)]) K) (fun v => K (.pan v) (frameL [])) := by kernel_rfl
theorem sprow.u2.ok (k : Nat) (x0 : Ad) (x1 : List UInt8) (x2 : Int) (x3 : V) (x4 : Int) (K : Ex → Frame → M α) :
    evC T (env k) k sprow.u2.c (frameL [(0, .ptr (some x0)), (1, .str x1), (2, .int .i64 x2), (3, x3), (9, .int .i64 x4)]) K =
      sprow.u2.f k (spand.f k) (spunary.f k) x0 x1 x2 x3 x4 (fun y0 y1 y2 y3 y4 => K .normal (frameL [(0, .ptr (some y0)), (1, .str y1), (2, .int .i64 y2), (3, y3), (9, .int .i64 y4)])) (fun y0 => K (.exit 0) (frameL [(9, .int .i64 y0)])) (fun v => K (.pan v) (frameL [])) := by kernel_rfl
theorem sprow.u3.ls (k : Nat) (r63 : Ad → (V → M α) → (Int → M α) → M α) (r77 : Ad → (V → M α) → (Int → M α) → M α) (kx0 : Int → M α) (kp : V → M α) (j : Nat) (x0 : Ad) (x1 : List UInt8) (x2 : Int) (x3 : V) (x4 : Int) : sprow.u3.l k r63 r77 kx0 kp (j + 1) x0 x1 x2 x3 x4 =
  sprow.u2.f k r63 r77 x0 x1 x2 x3 x4 (fun y0 y1 y2 y3 y4 => sprow.u3.l k r63 r77 kx0 kp j y0 y1 y2 y3 y4) kx0 kp := rfl
theorem sprow.u3.okl (k : Nat) (K : Ex → Frame → M α) : ∀ (j : Nat) (x0 : Ad) (x1 : List UInt8) (x2 : Int) (x3 : V) (x4 : Int),
    evLoop (evC T (env k) k sprow.u2.c) [0, 1, 2, 3, 9] j (frameL [(0, .ptr (some x0)), (1, .str x1), (2, .int .i64 x2), (3, x3), (9, .int .i64 x4)]) K = sprow.u3.l k (spand.f k) (spunary.f k) (fun y0 => K (.exit 0) (frameL [(9, .int .i64 y0)])) (fun v => K (.pan v) (frameL [])) j x0 x1 x2 x3 x4
  | 0, _, _, _, _, _ => rfl
  | j + 1, x0, x1, x2, x3, x4 => by
      have h := sprow.u2.ok k x0 x1 x2 x3 x4 (seqK (fun ρ => evLoop (evC T (env k) k sprow.u2.c) [0, 1, 2, 3, 9] j ρ K) K)
      simp only [seqK_exit, seqK_ret, seqK_pan, seqK_normal, sprow.u3.okl k K j] at h
      exact (evLoop_step (by kernel_rfl) h).trans (sprow.u3.ls k (spand.f k) (spunary.f k) (fun y0 => K (.exit 0) (frameL [(9, .int .i64 y0)])) (fun v => K (.pan v) (frameL [])) j x0 x1 x2 x3 x4).symm
theorem sprow.u3.ok (k : Nat) (x0 : Ad) (x1 : List UInt8) (x2 : Int) (x3 : V) (x4 : Int) (K : Ex → Frame → M α) :
    evC T (env k) k sprow.u3.c (frameL [(0, .ptr (some x0)), (1, .str x1), (2, .int .i64 x2), (3, x3), (9, .int .i64 x4)]) K =
      sprow.u3.f k (spand.f k) (spunary.f k) x0 x1 x2 x3 x4 (fun y0 => K (.exit 0) (frameL [(9, .int .i64 y0)])) (fun v => K (.pan v) (frameL [])) :=
  evC_loop.trans <| (evLoop_keep (body := evC T (env k) k sprow.u2.c) (keep := [0, 1, 2, 3, 9]) (ρ := (frameL [(0, .ptr (some x0)), (1, .str x1), (2, .int .i64 x2), (3, x3), (9, .int .i64 x4)])) (ρ' := (frameL [(0, .ptr (some x0)), (1, .str x1), (2, .int .i64 x2), (3, x3), (9, .int .i64 x4)])) (by kernel_rfl) k K).trans (sprow.u3.okl k K k x0 x1 x2 x3 x4)
theorem sprow.u4.ok (k : Nat) (x0 : Ad) (x1 : List UInt8) (x2 : Int) (x3 : V) (x4 : Int) (K : Ex → Frame → M α) :
    evC T (env k) k sprow.u4.c (frameL [(0, .ptr (some x0)), (1, .str x1), (2, .int .i64 x2), (3, x3), (9, .int .i64 x4)]) K =
      sprow.u4.f k (spand.f k) (spunary.f k) x0 x1 x2 x3 x4 (fun y0 => K .normal (frameL [(9, .int .i64 y0)])) (fun v => K (.pan v) (frameL [])) :=
  (evC_block.trans (sprow.u3.ok k x0 x1 x2 x3 x4 (blockK 0 K))).trans (by kernel_rfl)
theorem sprow.u5.ok (k : Nat) (x0 : Int) (K : Ex → Frame → M α) :
    evC T (env k) k sprow.u5.c (frameL [(9, .int .i64 x0)]) K =
      sprow.u5.f k x0 (fun y0 => K .ret (frameL [(8, .int .i64 y0)])) := by kernel_rfl
theorem sprow.u6.ok (k : Nat) (x0 : Ad) (x1 : List UInt8) (x2 : Int) (x3 : V) (x4 : Int) (K : Ex → Frame → M α) :
    evC T (env k) k sprow.u6.c (frameL [(0, .ptr (some x0)), (1, .str x1), (2, .int .i64 x2), (3, x3), (9, .int .i64 x4)]) K =
      sprow.u6.f k (spand.f k) (spunary.f k) x0 x1 x2 x3 x4 (fun y0 => K .ret (frameL [(8, .int .i64 y0)])) (fun v => K (.pan v) (frameL [])) :=
  by
    have h := sprow.u4.ok k x0 x1 x2 x3 x4 (seqK (fun ρ => evC T (env k) k sprow.u5.c ρ K) K)
    simp only [seqK_normal, seqK_exit, seqK_ret, seqK_pan, sprow.u5.ok] at h
    exact evC_seq_of h
theorem sprow.u7.ok (k : Nat) (x0 : Ad) (x1 : List UInt8) (x2 : Int) (x3 : V) (K : Ex → Frame → M α) :
    evC T (env k) k sprow.u7.c (frameL [(0, .ptr (some x0)), (1, .str x1), (2, .int .i64 x2), (3, x3)]) K =
      sprow.u7.f k (spand.f k) (spunary.f k) x0 x1 x2 x3 (fun y0 => K .ret (frameL [(8, .int .i64 y0)])) (fun v => K (.pan v) (frameL [])) :=
  (sprow.u1.ok k x0 x1 x2 x3 sprow.u6.c K).trans
    (congrArg (fun z => sprow.u1.f k (spand.f k) (spunary.f k) x0 x1 x2 x3 z (fun v => K (.pan v) (frameL []))) (funext fun y0 => (funext fun y1 => (funext fun y2 => (funext fun y3 => (funext fun y4 => sprow.u6.ok k y0 y1 y2 y3 y4 K))))))
theorem sprow.ok (k : Nat) (x0 : Ad) (x1 : List UInt8) (x2 : Int) (x3 : V) (κ : Res → M α) :
    evF T (env k) k sprow.c sprow.res [.ptr (some x0), .str x1, .int .i64 x2, x3] κ = sprow.f (k + 1) x0 x1 x2 x3 (fun v => κ (.pan v)) (fun o0 => κ (.ret (.int .i64 o0))) :=
  (sprow.u7.ok k x0 x1 x2 x3 (retK T sprow.res κ)).trans (by kernel_rfl)
theorem sprow.code : sprow.c.code = bodyOf Try.f62 := by kernel_rfl
def spand.c : IC := spand.u1.c
def spand.res : List ResultVar := [(.tmp 2)]
theorem spand.u1.ok (k : Nat) (x0 : Ad) (K : Ex → Frame → M α) :
    evC T (env k) k spand.u1.c (frameL [(0, .ptr (some x0))]) K =
      spand.u1.f k (sprow.f k) x0 (fun y0 => K .ret (frameL [(2, .int .i64 y0)])) (fun v => K (.pan v) (frameL [])) := by kernel_rfl
theorem spand.ok (k : Nat) (x0 : Ad) (κ : Res → M α) :
    evF T (env k) k spand.c spand.res [.ptr (some x0)] κ = spand.f (k + 1) x0 (fun v => κ (.pan v)) (fun o0 => κ (.ret (.int .i64 o0))) :=
  (spand.u1.ok k x0 (retK T spand.res κ)).trans (by kernel_rfl)
theorem spand.code : spand.c.code = bodyOf Try.f63 := by kernel_rfl
def spunary.c : IC := spunary.u18.c
def spunary.res : List ResultVar := [(.tmp 2)]
theorem spunary.u1.ok (k : Nat) (x0 : Ad) (R : IC) (K : Ex → Frame → M α) :
    evC T (env k) k (spunary.u1.c R) (frameL [(0, .ptr (some x0))]) K =
      spunary.u1.f k x0 (fun y0 => evC T (env k) k R (frameL [(0, .ptr (some y0))]) K) := by kernel_rfl
theorem spunary.u2.ok (k : Nat) (x0 : Ad) (R : IC) (K : Ex → Frame → M α) :
    evC T (env k) k (spunary.u2.c R) (frameL [(0, .ptr (some x0))]) K =
      spunary.u2.f k x0 (fun y0 y1 => evC T (env k) k R (frameL [(0, .ptr (some y0)), (10, .bool y1)]) K) := by kernel_rfl
theorem spunary.u3.ok (k : Nat) (x0 : Ad) (x1 : Bool) (K : Ex → Frame → M α) :
    evC T (env k) k spunary.u3.c (frameL [(0, .ptr (some x0)), (10, .bool x1)]) K =
      spunary.u3.f k (spunary.f k) x0 x1 (fun y0 => K .ret (frameL [(2, .int .i64 y0)])) (fun v => K (.pan v) (frameL [])) := by kernel_rfl
theorem spunary.u4.ok (k : Nat) (x0 : Ad) (x1 : Bool) (R : IC) (K : Ex → Frame → M α) :
    evC T (env k) k (spunary.u4.c R) (frameL [(0, .ptr (some x0)), (10, .bool x1)]) K =
      spunary.u4.f k x0 x1 (fun y0 y1 => evC T (env k) k R (frameL [(0, .ptr (some y0)), (22, .bool y1)]) K) := by kernel_rfl
theorem spunary.u5.ok (k : Nat) (x0 : Ad) (x1 : Bool) (K : Ex → Frame → M α) :
    evC T (env k) k spunary.u5.c (frameL [(0, .ptr (some x0)), (22, .bool x1)]) K =
      spunary.u5.f k (spunary.f k) x0 x1 (fun y0 => K .ret (frameL [(2, .int .i64 y0)])) (fun v => K (.pan v) (frameL [])) := by kernel_rfl
theorem spunary.u6.ok (k : Nat) (x0 : Ad) (x1 : Bool) (R : IC) (K : Ex → Frame → M α) :
    evC T (env k) k (spunary.u6.c R) (frameL [(0, .ptr (some x0)), (22, .bool x1)]) K =
      spunary.u6.f k x0 x1 (fun y0 y1 => evC T (env k) k R (frameL [(0, .ptr (some y0)), (37, .bool y1)]) K) := by kernel_rfl
theorem spunary.u7.ok (k : Nat) (x0 : Ad) (x1 : Bool) (K : Ex → Frame → M α) :
    evC T (env k) k spunary.u7.c (frameL [(0, .ptr (some x0)), (37, .bool x1)]) K =
      spunary.u7.f k (spunary.f k) x0 x1 (fun y0 => K .ret (frameL [(2, .int .i64 y0)])) (fun v => K (.pan v) (frameL [])) := by kernel_rfl
theorem spunary.u8.ok (k : Nat) (x0 : Ad) (x1 : Bool) (K : Ex → Frame → M α) :
    evC T (env k) k spunary.u8.c (frameL [(0, .ptr (some x0)), (37, .bool x1)]) K =
      spunary.u8.f k (spformula.f k) (spword.f k) x0 x1 (fun y0 => K .normal (frameL [(0, .ptr (some y0))])) (fun y0 => K .ret (frameL [(2, .int .i64 y0)])) (fun v => K (.pan v) (frameL [])) := by kernel_rfl
theorem spunary.u9.ok (k : Nat) (x0 : Ad) (x1 : Bool) (K : Ex → Frame → M α) :
    evC T (env k) k spunary.u9.c (frameL [(0, .ptr (some x0)), (37, .bool x1)]) K =
      spunary.u9.f k (spunary.f k) (spformula.f k) (spword.f k) x0 x1 (fun y0 => K .normal (frameL [(0, .ptr (some y0))])) (fun y0 => K .ret (frameL [(2, .int .i64 y0)])) (fun v => K (.pan v) (frameL [])) :=
  evC_cond_run (g := x1) (by kernel_rfl) (spunary.u7.ok k x0 x1 K) (spunary.u8.ok k x0 x1 K)
theorem spunary.u10.ok (k : Nat) (x0 : Ad) (x1 : Bool) (K : Ex → Frame → M α) :
    evC T (env k) k spunary.u10.c (frameL [(0, .ptr (some x0)), (22, .bool x1)]) K =
      spunary.u10.f k (spunary.f k) (spformula.f k) (spword.f k) x0 x1 (fun y0 => K .normal (frameL [(0, .ptr (some y0))])) (fun y0 => K .ret (frameL [(2, .int .i64 y0)])) (fun v => K (.pan v) (frameL [])) :=
  (spunary.u6.ok k x0 x1 spunary.u9.c K).trans
    (congrArg (fun z => spunary.u6.f k x0 x1 z) (funext fun y0 => (funext fun y1 => spunary.u9.ok k y0 y1 K)))
theorem spunary.u11.ok (k : Nat) (x0 : Ad) (x1 : Bool) (K : Ex → Frame → M α) :
    evC T (env k) k spunary.u11.c (frameL [(0, .ptr (some x0)), (22, .bool x1)]) K =
      spunary.u11.f k (spunary.f k) (spformula.f k) (spword.f k) x0 x1 (fun y0 => K .normal (frameL [(0, .ptr (some y0))])) (fun y0 => K .ret (frameL [(2, .int .i64 y0)])) (fun v => K (.pan v) (frameL [])) :=
  evC_cond_run (g := x1) (by kernel_rfl) (spunary.u5.ok k x0 x1 K) (spunary.u10.ok k x0 x1 K)
theorem spunary.u12.ok (k : Nat) (x0 : Ad) (x1 : Bool) (K : Ex → Frame → M α) :
    evC T (env k) k spunary.u12.c (frameL [(0, .ptr (some x0)), (10, .bool x1)]) K =
      spunary.u12.f k (spunary.f k) (spformula.f k) (spword.f k) x0 x1 (fun y0 => K .normal (frameL [(0, .ptr (some y0))])) (fun y0 => K .ret (frameL [(2, .int .i64 y0)])) (fun v => K (.pan v) (frameL [])) :=
  (spunary.u4.ok k x0 x1 spunary.u11.c K).trans
    (congrArg (fun z => spunary.u4.f k x0 x1 z) (funext fun y0 => (funext fun y1 => spunary.u11.ok k y0 y1 K)))
theorem spunary.u13.ok (k : Nat) (x0 : Ad) (x1 : Bool) (K : Ex → Frame → M α) :
    evC T (env k) k spunary.u13.c (frameL [(0, .ptr (some x0)), (10, .bool x1)]) K =
      spunary.u13.f k (spunary.f k) (spformula.f k) (spword.f k) x0 x1 (fun y0 => K .normal (frameL [(0, .ptr (some y0))])) (fun y0 => K .ret (frameL [(2, .int .i64 y0)])) (fun v => K (.pan v) (frameL [])) :=
  evC_cond_run (g := x1) (by kernel_rfl) (spunary.u3.ok k x0 x1 K) (spunary.u12.ok k x0 x1 K)
theorem spunary.u14.ok (k : Nat) (x0 : Ad) (K : Ex → Frame → M α) :
    evC T (env k) k spunary.u14.c (frameL [(0, .ptr (some x0))]) K =
      spunary.u14.f k (spunary.f k) (spformula.f k) (spword.f k) x0 (fun y0 => K .normal (frameL [(0, .ptr (some y0))])) (fun y0 => K .ret (frameL [(2, .int .i64 y0)])) (fun v => K (.pan v) (frameL [])) :=
  (spunary.u2.ok k x0 spunary.u13.c K).trans
    (congrArg (fun z => spunary.u2.f k x0 z) (funext fun y0 => (funext fun y1 => spunary.u13.ok k y0 y1 K)))
theorem spunary.u15.ok (k : Nat) (x0 : Ad) (K : Ex → Frame → M α) :
    evC T (env k) k spunary.u15.c (frameL [(0, .ptr (some x0))]) K =
      spunary.u15.f k (spunary.f k) (spformula.f k) (spword.f k) x0 (fun y0 => K .normal (frameL [(0, .ptr (some y0))])) (fun y0 => K .ret (frameL [(2, .int .i64 y0)])) (fun v => K (.pan v) (frameL [])) :=
  (evC_block.trans (spunary.u14.ok k x0 (blockK 0 K))).trans (by kernel_rfl)
theorem spunary.u16.ok (k : Nat) (x0 : Ad) (K : Ex → Frame → M α) :
    evC T (env k) k spunary.u16.c (frameL [(0, .ptr (some x0))]) K =
      spunary.u16.f k x0 (fun y0 => K .ret (frameL [(2, .int .i64 y0)])) (fun v => K (.pan v) (frameL [])) := by kernel_rfl
theorem spunary.u17.ok (k : Nat) (x0 : Ad) (K : Ex → Frame → M α) :
    evC T (env k) k spunary.u17.c (frameL [(0, .ptr (some x0))]) K =
      spunary.u17.f k (spunary.f k) (spformula.f k) (spword.f k) x0 (fun y0 => K .ret (frameL [(2, .int .i64 y0)])) (fun v => K (.pan v) (frameL [])) :=
  by
    have h := spunary.u15.ok k x0 (seqK (fun ρ => evC T (env k) k spunary.u16.c ρ K) K)
    simp only [seqK_normal, seqK_exit, seqK_ret, seqK_pan, spunary.u16.ok] at h
    exact evC_seq_of h
theorem spunary.u18.ok (k : Nat) (x0 : Ad) (K : Ex → Frame → M α) :
    evC T (env k) k spunary.u18.c (frameL [(0, .ptr (some x0))]) K =
      spunary.u18.f k (spunary.f k) (spformula.f k) (spword.f k) x0 (fun y0 => K .ret (frameL [(2, .int .i64 y0)])) (fun v => K (.pan v) (frameL [])) :=
  (spunary.u1.ok k x0 spunary.u17.c K).trans
    (congrArg (fun z => spunary.u1.f k x0 z) (funext fun y0 => spunary.u17.ok k y0 K))
theorem spunary.ok (k : Nat) (x0 : Ad) (κ : Res → M α) :
    evF T (env k) k spunary.c spunary.res [.ptr (some x0)] κ = spunary.f (k + 1) x0 (fun v => κ (.pan v)) (fun o0 => κ (.ret (.int .i64 o0))) :=
  (spunary.u18.ok k x0 (retK T spunary.res κ)).trans (by kernel_rfl)
theorem spunary.code : spunary.c.code = bodyOf Try.f77 := by kernel_rfl
def spword.c : IC := spword.u5.c
def spword.res : List ResultVar := [(.tmp 2)]
theorem spword.u1.ok (k : Nat) (x0 : Ad) (R : IC) (K : Ex → Frame → M α) :
    evC T (env k) k (spword.u1.c R) (frameL [(0, .ptr (some x0))]) K =
      spword.u1.f k x0 (fun y0 y1 y2 => evC T (env k) k R (frameL [(0, .ptr (some y0)), (3, .ptr (some y1)), (4, .int .i64 y2)]) K) (fun y0 => K .ret (frameL [(2, .int .i64 y0)])) (fun v => K (.pan v) (frameL [])) := by kernel_rfl
theorem spword.u2.ok (k : Nat) (x0 : Ad) (x1 : Ad) (x2 : Int) (R : IC) (K : Ex → Frame → M α) :
    evC T (env k) k (spword.u2.c R) (frameL [(0, .ptr (some x0)), (3, .ptr (some x1)), (4, .int .i64 x2)]) K =
      spword.u2.f k x0 x1 x2 (fun y0 y1 y2 => evC T (env k) k R (frameL [(0, .ptr (some y0)), (3, .ptr (some y1)), (4, .int .i64 y2)]) K) (fun v => K (.pan v) (frameL [])) := by kernel_rfl
theorem spword.u3.ok (k : Nat) (x0 : Ad) (x1 : Ad) (x2 : Int) (K : Ex → Frame → M α) :
    evC T (env k) k spword.u3.c (frameL [(0, .ptr (some x0)), (3, .ptr (some x1)), (4, .int .i64 x2)]) K =
      spword.u3.f k (spformula.f k) x0 x1 x2 (fun y0 => K .ret (frameL [(2, .int .i64 y0)])) (fun v => K (.pan v) (frameL [])) := by kernel_rfl
theorem spword.u4.ok (k : Nat) (x0 : Ad) (x1 : Ad) (x2 : Int) (K : Ex → Frame → M α) :
    evC T (env k) k spword.u4.c (frameL [(0, .ptr (some x0)), (3, .ptr (some x1)), (4, .int .i64 x2)]) K =
      spword.u4.f k (spformula.f k) x0 x1 x2 (fun y0 => K .ret (frameL [(2, .int .i64 y0)])) (fun v => K (.pan v) (frameL [])) :=
  (spword.u2.ok k x0 x1 x2 spword.u3.c K).trans
    (congrArg (fun z => spword.u2.f k x0 x1 x2 z (fun v => K (.pan v) (frameL []))) (funext fun y0 => (funext fun y1 => (funext fun y2 => spword.u3.ok k y0 y1 y2 K))))
theorem spword.u5.ok (k : Nat) (x0 : Ad) (K : Ex → Frame → M α) :
    evC T (env k) k spword.u5.c (frameL [(0, .ptr (some x0))]) K =
      spword.u5.f k (spformula.f k) x0 (fun y0 => K .ret (frameL [(2, .int .i64 y0)])) (fun v => K (.pan v) (frameL [])) :=
  (spword.u1.ok k x0 spword.u4.c K).trans
    (congrArg (fun z => spword.u1.f k x0 z (fun y0 => K .ret (frameL [(2, .int .i64 y0)])) (fun v => K (.pan v) (frameL []))) (funext fun y0 => (funext fun y1 => (funext fun y2 => spword.u4.ok k y0 y1 y2 K))))
theorem spword.ok (k : Nat) (x0 : Ad) (κ : Res → M α) :
    evF T (env k) k spword.c spword.res [.ptr (some x0)] κ = spword.f (k + 1) x0 (fun v => κ (.pan v)) (fun o0 => κ (.ret (.int .i64 o0))) :=
  (spword.u5.ok k x0 (retK T spword.res κ)).trans (by kernel_rfl)
theorem spword.code : spword.c.code = bodyOf Try.f83 := by kernel_rfl

def syntax_Parse.res : List ResultVar := [(.cell 2 22), (.cell 3 38)]
theorem syntax_Parse.sp (k : Nat) (x0 : List UInt8) (K : Ex → Frame → M α) (Kn : Frame → M α) :
    evSpine T (env k) k syntax_Parse.as (frameL [(0, .str x0)]) K Kn = syntax_Parse.u1.f k x0 (fun y0 y1 y2 => Kn (frameL [(2, .ptr (some y0)), (3, .ptr (some y1)), (4, .slice y2)])) (fun y0 y1 => K .ret (frameL [(2, .ptr (some y0)), (3, .ptr (some y1))])) := by kernel_rfl
theorem syntax_Parse.bok (k : Nat) (y0 : Ad) (y1 : Ad) (y2 : Sl) (K : Ex → Frame → M α) :
    evC T (env k) k syntax_Parse.u2.c (Frame.put (frameL [(2, .ptr (some y0)), (3, .ptr (some y1)), (4, .slice y2)]) (some 14) (.func 45 [] [.ptr (some y0), .ptr (some y1)])) K = syntax_Parse.u2.f k y0 y1 y2 (fun z0 z1 => K .ret (frameL [(2, .ptr (some z0)), (3, .ptr (some z1))])) (fun v => K (.pan v) (frameL [])) := by kernel_rfl
theorem syntax_Parse.ret (k : Nat) (y0 : Ad) (y1 : Ad) (y2 : Sl) (z0 : Ad) (z1 : Ad) (κ : Res → M α) :
    (deferB T (env k) k syntax_Parse.C.u1.c 5 [2, 3] syntax_Parse.res [.ptr (some y0), .ptr (some y1)] (frameL [(2, .ptr (some y0)), (3, .ptr (some y1)), (4, .slice y2)]) κ) .ret (frameL [(2, .ptr (some z0)), (3, .ptr (some z1))]) = syntax_Parse.C.u1.f k y0 y1 .nilIface (
  ldS (z0.add 0) fun o501 =>
  ld (z1.add 0) fun o502 =>
  (fun o0 o1 => κ (.ret (.tuple [.slice o0, o1]))) o501 o502) := by kernel_rfl
theorem syntax_Parse.pan (k : Nat) (y0 : Ad) (y1 : Ad) (y2 : Sl) (v : V) (ρ : Frame) (κ : Res → M α) :
    (deferB T (env k) k syntax_Parse.C.u1.c 5 [2, 3] syntax_Parse.res [.ptr (some y0), .ptr (some y1)] (frameL [(2, .ptr (some y0)), (3, .ptr (some y1)), (4, .slice y2)]) κ) (.pan v) ρ = syntax_Parse.C.u1.f k y0 y1 v (
  ldS (y0.add 0) fun o501 =>
  ld (y1.add 0) fun o502 =>
  (fun o0 o1 => κ (.ret (.tuple [.slice o0, o1]))) o501 o502) := by kernel_rfl
theorem syntax_Parse.reta (y0 : Ad) (y1 : Ad) (κ : Res → M α) :
    deferA T syntax_Parse.res κ .ret (frameL [(2, .ptr (some y0)), (3, .ptr (some y1))]) = (
  ldS (y0.add 0) fun o501 =>
  ld (y1.add 0) fun o502 =>
  (fun o0 o1 => κ (.ret (.tuple [.slice o0, o1]))) o501 o502) := by kernel_rfl
theorem syntax_Parse.ok (k : Nat) (x0 : List UInt8) (κ : Res → M α) :
    evDefer T (env k) k syntax_Parse.as syntax_Parse.u2.c syntax_Parse.C.u1.c 45 14 5 [.tmp 2, .tmp 3] [2, 3] syntax_Parse.res [.str x0] κ = syntax_Parse.f (k + 1) x0 (fun o0 o1 => κ (.ret (.tuple [.slice o0, o1]))) :=
  (syntax_Parse.sp k x0 _ _).trans (congr (congrArg (fun a b => syntax_Parse.u1.f k x0 a b) (funext fun y0 => funext fun y1 => funext fun y2 => (syntax_Parse.bok k y0 y1 y2 _).trans (congr (congrArg (fun a b => syntax_Parse.u2.f k y0 y1 y2 a b) (funext fun z0 => funext fun z1 => syntax_Parse.ret k y0 y1 y2 z0 z1 κ)) (funext fun v => syntax_Parse.pan k y0 y1 y2 v _ κ)))) (funext fun y0 => funext fun y1 => syntax_Parse.reta y0 y1 κ))

def syntax_spelt.c : IC := syntax_spelt.u9.c
def syntax_spelt.res : List ResultVar := [(.tmp 6)]
theorem syntax_spelt.u1.ok (k : Nat) (x0 : List UInt8) (x1 : Int) (x2 : Int) (R : IC) (K : Ex → Frame → M α) :
    evC T (env k) k (syntax_spelt.u1.c R) (frameL [(0, .str x0), (1, .int .u8 x1), (2, .int .u8 x2)]) K =
      syntax_spelt.u1.f k x0 x1 x2 (fun y0 => evC T (env k) k R (frameL [(0, .str y0)]) K) (fun y0 => K .ret (frameL [(6, .bool y0)])) := by kernel_rfl
theorem syntax_spelt.u2.ok (k : Nat) (x0 : List UInt8) (R : IC) (K : Ex → Frame → M α) :
    evC T (env k) k (syntax_spelt.u2.c R) (frameL [(0, .str x0)]) K =
      syntax_spelt.u2.f k x0 (fun y0 y1 y2 => evC T (env k) k R (frameL [(0, .str y0), (30, .int .i64 y1), (31, .int .i64 y2)]) K) := by kernel_rfl
theorem syntax_spelt.u3.ok (k : Nat) (x0 : List UInt8) (x1 : Int) (x2 : Int) (K : Ex → Frame → M α) :
    evC T (env k) k syntax_spelt.u3.c (frameL [(0, .str x0), (30, .int .i64 x1), (31, .int .i64 x2)]) K =
      syntax_spelt.u3.f k x0 x1 x2 (fun y0 y1 y2 => K .normal (frameL [(0, .str y0), (30, .int .i64 y1), (31, .int .i64 y2)])) (fun y0 => K .ret (frameL [(6, .bool y0)])) (K (.exit 0) (frameL [])) := by kernel_rfl
theorem syntax_spelt.u4.ls (k : Nat) (kr : Bool → M α) (kx0 : M α) (j : Nat) (x0 : List UInt8) (x1 : Int) (x2 : Int) : syntax_spelt.u4.l k kr kx0 (j + 1) x0 x1 x2 =
  syntax_spelt.u3.f k x0 x1 x2 (fun y0 y1 y2 => syntax_spelt.u4.l k kr kx0 j y0 y1 y2) kr kx0 := rfl
theorem syntax_spelt.u4.okl (k : Nat) (K : Ex → Frame → M α) : ∀ (j : Nat) (x0 : List UInt8) (x1 : Int) (x2 : Int),
    evLoop (evC T (env k) k syntax_spelt.u3.c) [0, 30, 31] j (frameL [(0, .str x0), (30, .int .i64 x1), (31, .int .i64 x2)]) K = syntax_spelt.u4.l k (fun y0 => K .ret (frameL [(6, .bool y0)])) (K (.exit 0) (frameL [])) j x0 x1 x2
  | 0, _, _, _ => rfl
  | j + 1, x0, x1, x2 => by
      have h := syntax_spelt.u3.ok k x0 x1 x2 (seqK (fun ρ => evLoop (evC T (env k) k syntax_spelt.u3.c) [0, 30, 31] j ρ K) K)
      simp only [seqK_exit, seqK_ret, seqK_pan, seqK_normal, syntax_spelt.u4.okl k K j] at h
      exact (evLoop_step (by kernel_rfl) h).trans (syntax_spelt.u4.ls k (fun y0 => K .ret (frameL [(6, .bool y0)])) (K (.exit 0) (frameL [])) j x0 x1 x2).symm
theorem syntax_spelt.u4.ok (k : Nat) (x0 : List UInt8) (x1 : Int) (x2 : Int) (K : Ex → Frame → M α) :
    evC T (env k) k syntax_spelt.u4.c (frameL [(0, .str x0), (30, .int .i64 x1), (31, .int .i64 x2)]) K =
      syntax_spelt.u4.f k x0 x1 x2 (fun y0 => K .ret (frameL [(6, .bool y0)])) (K (.exit 0) (frameL [])) :=
  evC_loop.trans <| (evLoop_keep (body := evC T (env k) k syntax_spelt.u3.c) (keep := [0, 30, 31]) (ρ := (frameL [(0, .str x0), (30, .int .i64 x1), (31, .int .i64 x2)])) (ρ' := (frameL [(0, .str x0), (30, .int .i64 x1), (31, .int .i64 x2)])) (by kernel_rfl) k K).trans (syntax_spelt.u4.okl k K k x0 x1 x2)
theorem syntax_spelt.u5.ok (k : Nat) (x0 : List UInt8) (x1 : Int) (x2 : Int) (K : Ex → Frame → M α) :
    evC T (env k) k syntax_spelt.u5.c (frameL [(0, .str x0), (30, .int .i64 x1), (31, .int .i64 x2)]) K =
      syntax_spelt.u5.f k x0 x1 x2 (K .normal (frameL [])) (fun y0 => K .ret (frameL [(6, .bool y0)])) :=
  (evC_block.trans (syntax_spelt.u4.ok k x0 x1 x2 (blockK 0 K))).trans (by kernel_rfl)
theorem syntax_spelt.u6.ok (k : Nat) (x0 : List UInt8) (K : Ex → Frame → M α) :
    evC T (env k) k syntax_spelt.u6.c (frameL [(0, .str x0)]) K =
      syntax_spelt.u6.f k x0 (K .normal (frameL [])) (fun y0 => K .ret (frameL [(6, .bool y0)])) :=
  (syntax_spelt.u2.ok k x0 syntax_spelt.u5.c K).trans
    (congrArg (fun z => syntax_spelt.u2.f k x0 z) (funext fun y0 => (funext fun y1 => (funext fun y2 => syntax_spelt.u5.ok k y0 y1 y2 K))))
theorem syntax_spelt.u7.ok (k : Nat) (K : Ex → Frame → M α) :
    evC T (env k) k syntax_spelt.u7.c (frameL []) K =
      syntax_spelt.u7.f k (fun y0 => K .ret (frameL [(6, .bool y0)])) := by kernel_rfl
theorem syntax_spelt.u8.ok (k : Nat) (x0 : List UInt8) (K : Ex → Frame → M α) :
    evC T (env k) k syntax_spelt.u8.c (frameL [(0, .str x0)]) K =
      syntax_spelt.u8.f k x0 (fun y0 => K .ret (frameL [(6, .bool y0)])) :=
  by
    have h := syntax_spelt.u6.ok k x0 (seqK (fun ρ => evC T (env k) k syntax_spelt.u7.c ρ K) K)
    simp only [seqK_normal, seqK_exit, seqK_ret, seqK_pan, syntax_spelt.u7.ok] at h
    exact evC_seq_of h
theorem syntax_spelt.u9.ok (k : Nat) (x0 : List UInt8) (x1 : Int) (x2 : Int) (K : Ex → Frame → M α) :
    evC T (env k) k syntax_spelt.u9.c (frameL [(0, .str x0), (1, .int .u8 x1), (2, .int .u8 x2)]) K =
      syntax_spelt.u9.f k x0 x1 x2 (fun y0 => K .ret (frameL [(6, .bool y0)])) :=
  (syntax_spelt.u1.ok k x0 x1 x2 syntax_spelt.u8.c K).trans
    (congrArg (fun z => syntax_spelt.u1.f k x0 x1 x2 z (fun y0 => K .ret (frameL [(6, .bool y0)]))) (funext fun y0 => syntax_spelt.u8.ok k y0 K))
theorem syntax_spelt.ok (k : Nat) (x0 : List UInt8) (x1 : Int) (x2 : Int) (κ : Res → M α) :
    evF T (env k) k syntax_spelt.c syntax_spelt.res [.str x0, .int .u8 x1, .int .u8 x2] κ = syntax_spelt.f (k + 1) x0 x1 x2 (fun o0 => κ (.ret (.bool o0))) :=
  (syntax_spelt.u9.ok k x0 x1 x2 (retK T syntax_spelt.res κ)).trans (by kernel_rfl)
theorem syntax_spelt.code : syntax_spelt.c.code = bodyOf Try.f65 := by kernel_rfl

def syntax_name.c : IC := syntax_name.u1.c
def syntax_name.res : List ResultVar := [(.tmp 2)]
theorem syntax_name.u1.ok (k : Nat) (x0 : List UInt8) (K : Ex → Frame → M α) :
    evC T (env k) k syntax_name.u1.c (frameL [(0, .str x0)]) K =
      syntax_name.u1.f k x0 (fun y0 => K .ret (frameL [(2, .bool y0)])) := by kernel_rfl
theorem syntax_name.ok (k : Nat) (x0 : List UInt8) (κ : Res → M α) :
    evF T (env k) k syntax_name.c syntax_name.res [.str x0] κ = syntax_name.f (k + 1) x0 (fun o0 => κ (.ret (.bool o0))) :=
  (syntax_name.u1.ok k x0 (retK T syntax_name.res κ)).trans (by kernel_rfl)
theorem syntax_name.code : syntax_name.c.code = bodyOf Try.f51 := by kernel_rfl

def syntax_variable.c : IC := syntax_variable.u1.c
def syntax_variable.res : List ResultVar := [(.tmp 2)]
theorem syntax_variable.u1.ok (k : Nat) (x0 : List UInt8) (K : Ex → Frame → M α) :
    evC T (env k) k syntax_variable.u1.c (frameL [(0, .str x0)]) K =
      syntax_variable.u1.f k x0 (fun y0 => K .ret (frameL [(2, .bool y0)])) := by kernel_rfl
theorem syntax_variable.ok (k : Nat) (x0 : List UInt8) (κ : Res → M α) :
    evF T (env k) k syntax_variable.c syntax_variable.res [.str x0] κ = syntax_variable.f (k + 1) x0 (fun o0 => κ (.ret (.bool o0))) :=
  (syntax_variable.u1.ok k x0 (retK T syntax_variable.res κ)).trans (by kernel_rfl)
theorem syntax_variable.code : syntax_variable.c.code = bodyOf Try.f52 := by kernel_rfl

def syntax_below.c : IC := syntax_below.u1.c
def syntax_below.res : List ResultVar := [(.tmp 2), (.tmp 3)]
theorem syntax_below.u1.ok (k : Nat) (x0 : Int) (x1 : Int) (x2 : Int) (x3 : List UInt8) (x4 : Int) (K : Ex → Frame → M α) :
    evC T (env k) k syntax_below.u1.c (frameL [(0, .agg [.int .i64 x0, .int .i64 x1, .int .i64 x2, .str x3, .int .i64 x4])]) K =
      syntax_below.u1.f k x0 x1 x2 x3 x4 (fun y0 y1 => K .ret (frameL [(2, .int .i64 y0), (3, .bool y1)])) := by kernel_rfl
theorem syntax_below.ok (k : Nat) (x0 : Int) (x1 : Int) (x2 : Int) (x3 : List UInt8) (x4 : Int) (κ : Res → M α) :
    evF T (env k) k syntax_below.c syntax_below.res [.agg [.int .i64 x0, .int .i64 x1, .int .i64 x2, .str x3, .int .i64 x4]] κ = syntax_below.f (k + 1) x0 x1 x2 x3 x4 (fun o0 o1 => κ (.ret (.tuple [.int .i64 o0, .bool o1]))) :=
  (syntax_below.u1.ok k x0 x1 x2 x3 x4 (retK T syntax_below.res κ)).trans (by kernel_rfl)
theorem syntax_below.code : syntax_below.c.code = bodyOf Try.f36 := by kernel_rfl

def syntax_Right_c1.c : IC := syntax_Right_c1.u1.c
def syntax_Right_c1.res : List ResultVar := [(.tmp 2)]
theorem syntax_Right_c1.u1.ok (k : Nat) (x0 : Int) (K : Ex → Frame → M α) :
    evC T (env k) k syntax_Right_c1.u1.c (frameL [(0, .int .i64 x0)]) K =
      syntax_Right_c1.u1.f k x0 (fun y0 => K .ret (frameL [(2, .bool y0)])) := by kernel_rfl
theorem syntax_Right_c1.ok (k : Nat) (x0 : Int) (κ : Res → M α) :
    evF T (env k) k syntax_Right_c1.c syntax_Right_c1.res [.int .i64 x0] κ = syntax_Right_c1.f (k + 1) x0 (fun o0 => κ (.ret (.bool o0))) :=
  (syntax_Right_c1.u1.ok k x0 (retK T syntax_Right_c1.res κ)).trans (by kernel_rfl)
theorem syntax_Right_c1.code : syntax_Right_c1.c.code = bodyOf Try.f38 := by kernel_rfl

def slII.c : IC := slII.u9.c
def slII.res : List ResultVar := [(.tmp 4)]
theorem slII.u1.ok (k : Nat) (x0 : Sl) (R : IC) (K : Ex → Frame → M α) :
    evC T (env k) k (slII.u1.c R) (frameL [(0, .slice x0), (1, .func 38 [] [])]) K =
      slII.u1.f k x0 (fun y0 => evC T (env k) k R (frameL [(0, .slice y0), (1, .func 38 [] [])]) K) := by kernel_rfl
theorem slII.u2.ok (k : Nat) (x0 : Sl) (R : IC) (K : Ex → Frame → M α) :
    evC T (env k) k (slII.u2.c R) (frameL [(0, .slice x0), (1, .func 38 [] [])]) K =
      slII.u2.f k x0 (fun y0 y1 y2 => evC T (env k) k R (frameL [(0, .slice y0), (1, .func 38 [] []), (7, .int .i64 y1), (8, .int .i64 y2)]) K) := by kernel_rfl
theorem slII.u3.ok (k : Nat) (x0 : Sl) (x1 : Int) (x2 : Int) (K : Ex → Frame → M α) :
    evC T (env k) k slII.u3.c (frameL [(0, .slice x0), (1, .func 38 [] []), (7, .int .i64 x1), (8, .int .i64 x2)]) K =
      slII.u3.f k x0 x1 x2 (fun y0 y1 y2 => K .normal (frameL [(0, .slice y0), (1, .func 38 [] []), (7, .int .i64 y1), (8, .int .i64 y2)])) (fun y0 => K .ret (frameL [(4, .int .i64 y0)])) (K (.exit 0) (frameL [])) := by kernel_rfl
theorem slII.u4.ls (k : Nat) (kr : Int → M α) (kx0 : M α) (j : Nat) (x0 : Sl) (x1 : Int) (x2 : Int) : slII.u4.l k kr kx0 (j + 1) x0 x1 x2 =
  slII.u3.f k x0 x1 x2 (fun y0 y1 y2 => slII.u4.l k kr kx0 j y0 y1 y2) kr kx0 := rfl
theorem slII.u4.okl (k : Nat) (K : Ex → Frame → M α) : ∀ (j : Nat) (x0 : Sl) (x1 : Int) (x2 : Int),
    evLoop (evC T (env k) k slII.u3.c) [0, 1, 7, 8] j (frameL [(0, .slice x0), (1, .func 38 [] []), (7, .int .i64 x1), (8, .int .i64 x2)]) K = slII.u4.l k (fun y0 => K .ret (frameL [(4, .int .i64 y0)])) (K (.exit 0) (frameL [])) j x0 x1 x2
  | 0, _, _, _ => rfl
  | j + 1, x0, x1, x2 => by
      have h := slII.u3.ok k x0 x1 x2 (seqK (fun ρ => evLoop (evC T (env k) k slII.u3.c) [0, 1, 7, 8] j ρ K) K)
      simp only [seqK_exit, seqK_ret, seqK_pan, seqK_normal, slII.u4.okl k K j] at h
      exact (evLoop_step (by kernel_rfl) h).trans (slII.u4.ls k (fun y0 => K .ret (frameL [(4, .int .i64 y0)])) (K (.exit 0) (frameL [])) j x0 x1 x2).symm
theorem slII.u4.ok (k : Nat) (x0 : Sl) (x1 : Int) (x2 : Int) (K : Ex → Frame → M α) :
    evC T (env k) k slII.u4.c (frameL [(0, .slice x0), (1, .func 38 [] []), (7, .int .i64 x1), (8, .int .i64 x2)]) K =
      slII.u4.f k x0 x1 x2 (fun y0 => K .ret (frameL [(4, .int .i64 y0)])) (K (.exit 0) (frameL [])) :=
  evC_loop.trans <| (evLoop_keep (body := evC T (env k) k slII.u3.c) (keep := [0, 1, 7, 8]) (ρ := (frameL [(0, .slice x0), (1, .func 38 [] []), (7, .int .i64 x1), (8, .int .i64 x2)])) (ρ' := (frameL [(0, .slice x0), (1, .func 38 [] []), (7, .int .i64 x1), (8, .int .i64 x2)])) (by kernel_rfl) k K).trans (slII.u4.okl k K k x0 x1 x2)
theorem slII.u5.ok (k : Nat) (x0 : Sl) (x1 : Int) (x2 : Int) (K : Ex → Frame → M α) :
    evC T (env k) k slII.u5.c (frameL [(0, .slice x0), (1, .func 38 [] []), (7, .int .i64 x1), (8, .int .i64 x2)]) K =
      slII.u5.f k x0 x1 x2 (K .normal (frameL [])) (fun y0 => K .ret (frameL [(4, .int .i64 y0)])) :=
  (evC_block.trans (slII.u4.ok k x0 x1 x2 (blockK 0 K))).trans (by kernel_rfl)
theorem slII.u6.ok (k : Nat) (x0 : Sl) (K : Ex → Frame → M α) :
    evC T (env k) k slII.u6.c (frameL [(0, .slice x0), (1, .func 38 [] [])]) K =
      slII.u6.f k x0 (K .normal (frameL [])) (fun y0 => K .ret (frameL [(4, .int .i64 y0)])) :=
  (slII.u2.ok k x0 slII.u5.c K).trans
    (congrArg (fun z => slII.u2.f k x0 z) (funext fun y0 => (funext fun y1 => (funext fun y2 => slII.u5.ok k y0 y1 y2 K))))
theorem slII.u7.ok (k : Nat) (K : Ex → Frame → M α) :
    evC T (env k) k slII.u7.c (frameL []) K =
      slII.u7.f k (fun y0 => K .ret (frameL [(4, .int .i64 y0)])) := by kernel_rfl
theorem slII.u8.ok (k : Nat) (x0 : Sl) (K : Ex → Frame → M α) :
    evC T (env k) k slII.u8.c (frameL [(0, .slice x0), (1, .func 38 [] [])]) K =
      slII.u8.f k x0 (fun y0 => K .ret (frameL [(4, .int .i64 y0)])) :=
  by
    have h := slII.u6.ok k x0 (seqK (fun ρ => evC T (env k) k slII.u7.c ρ K) K)
    simp only [seqK_normal, seqK_exit, seqK_ret, seqK_pan, slII.u7.ok] at h
    exact evC_seq_of h
theorem slII.u9.ok (k : Nat) (x0 : Sl) (K : Ex → Frame → M α) :
    evC T (env k) k slII.u9.c (frameL [(0, .slice x0), (1, .func 38 [] [])]) K =
      slII.u9.f k x0 (fun y0 => K .ret (frameL [(4, .int .i64 y0)])) :=
  (slII.u1.ok k x0 slII.u8.c K).trans
    (congrArg (fun z => slII.u1.f k x0 z) (funext fun y0 => slII.u8.ok k y0 K))
theorem slII.ok (k : Nat) (x0 : Sl) (κ : Res → M α) :
    evF T (env k) k slII.c slII.res [.slice x0, .func 38 [] []] κ = slII.f (k + 1) x0 (fun o0 => κ (.ret (.int .i64 o0))) :=
  (slII.u9.ok k x0 (retK T slII.res κ)).trans (by kernel_rfl)
theorem slII.code : slII.c.code = bodyOf Try.f53 := by kernel_rfl

def slices_ContainsFunc_int_int_38.c : IC := slices_ContainsFunc_int_int_38.u1.c
def slices_ContainsFunc_int_int_38.res : List ResultVar := [(.tmp 4)]
theorem slices_ContainsFunc_int_int_38.u1.ok (k : Nat) (x0 : Sl) (K : Ex → Frame → M α) :
    evC T (env k) k slices_ContainsFunc_int_int_38.u1.c (frameL [(0, .slice x0), (1, .func 38 [] [])]) K =
      slices_ContainsFunc_int_int_38.u1.f k x0 (fun y0 => K .ret (frameL [(4, .bool y0)])) := by kernel_rfl
theorem slices_ContainsFunc_int_int_38.ok (k : Nat) (x0 : Sl) (κ : Res → M α) :
    evF T (env k) k slices_ContainsFunc_int_int_38.c slices_ContainsFunc_int_int_38.res [.slice x0, .func 38 [] []] κ = slices_ContainsFunc_int_int_38.f (k + 1) x0 (fun o0 => κ (.ret (.bool o0))) :=
  (slices_ContainsFunc_int_int_38.u1.ok k x0 (retK T slices_ContainsFunc_int_int_38.res κ)).trans (by kernel_rfl)
theorem slices_ContainsFunc_int_int_38.code : slices_ContainsFunc_int_int_38.c.code = bodyOf Try.f37 := by kernel_rfl

def slEq.c : IC := slEq.u9.c
def slEq.res : List ResultVar := [(.tmp 4)]
theorem slEq.u1.ok (k : Nat) (x0 : Sl) (x1 : Sl) (R : IC) (K : Ex → Frame → M α) :
    evC T (env k) k (slEq.u1.c R) (frameL [(0, .slice x0), (1, .slice x1)]) K =
      slEq.u1.f k x0 x1 (fun y0 y1 => evC T (env k) k R (frameL [(0, .slice y0), (1, .slice y1)]) K) (fun y0 => K .ret (frameL [(4, .bool y0)])) := by kernel_rfl
theorem slEq.u2.ok (k : Nat) (x0 : Sl) (x1 : Sl) (R : IC) (K : Ex → Frame → M α) :
    evC T (env k) k (slEq.u2.c R) (frameL [(0, .slice x0), (1, .slice x1)]) K =
      slEq.u2.f k x0 x1 (fun y0 y1 y2 y3 => evC T (env k) k R (frameL [(0, .slice y0), (1, .slice y1), (12, .int .i64 y2), (13, .int .i64 y3)]) K) := by kernel_rfl
theorem slEq.u3.ok (k : Nat) (x0 : Sl) (x1 : Sl) (x2 : Int) (x3 : Int) (K : Ex → Frame → M α) :
    evC T (env k) k slEq.u3.c (frameL [(0, .slice x0), (1, .slice x1), (12, .int .i64 x2), (13, .int .i64 x3)]) K =
      slEq.u3.f k x0 x1 x2 x3 (fun y0 y1 y2 y3 => K .normal (frameL [(0, .slice y0), (1, .slice y1), (12, .int .i64 y2), (13, .int .i64 y3)])) (fun y0 => K .ret (frameL [(4, .bool y0)])) (K (.exit 0) (frameL [])) := by kernel_rfl
theorem slEq.u4.ls (k : Nat) (kr : Bool → M α) (kx0 : M α) (j : Nat) (x0 : Sl) (x1 : Sl) (x2 : Int) (x3 : Int) : slEq.u4.l k kr kx0 (j + 1) x0 x1 x2 x3 =
  slEq.u3.f k x0 x1 x2 x3 (fun y0 y1 y2 y3 => slEq.u4.l k kr kx0 j y0 y1 y2 y3) kr kx0 := rfl
theorem slEq.u4.okl (k : Nat) (K : Ex → Frame → M α) : ∀ (j : Nat) (x0 : Sl) (x1 : Sl) (x2 : Int) (x3 : Int),
    evLoop (evC T (env k) k slEq.u3.c) [0, 1, 12, 13] j (frameL [(0, .slice x0), (1, .slice x1), (12, .int .i64 x2), (13, .int .i64 x3)]) K = slEq.u4.l k (fun y0 => K .ret (frameL [(4, .bool y0)])) (K (.exit 0) (frameL [])) j x0 x1 x2 x3
  | 0, _, _, _, _ => rfl
  | j + 1, x0, x1, x2, x3 => by
      have h := slEq.u3.ok k x0 x1 x2 x3 (seqK (fun ρ => evLoop (evC T (env k) k slEq.u3.c) [0, 1, 12, 13] j ρ K) K)
      simp only [seqK_exit, seqK_ret, seqK_pan, seqK_normal, slEq.u4.okl k K j] at h
      exact (evLoop_step (by kernel_rfl) h).trans (slEq.u4.ls k (fun y0 => K .ret (frameL [(4, .bool y0)])) (K (.exit 0) (frameL [])) j x0 x1 x2 x3).symm
theorem slEq.u4.ok (k : Nat) (x0 : Sl) (x1 : Sl) (x2 : Int) (x3 : Int) (K : Ex → Frame → M α) :
    evC T (env k) k slEq.u4.c (frameL [(0, .slice x0), (1, .slice x1), (12, .int .i64 x2), (13, .int .i64 x3)]) K =
      slEq.u4.f k x0 x1 x2 x3 (fun y0 => K .ret (frameL [(4, .bool y0)])) (K (.exit 0) (frameL [])) :=
  evC_loop.trans <| (evLoop_keep (body := evC T (env k) k slEq.u3.c) (keep := [0, 1, 12, 13]) (ρ := (frameL [(0, .slice x0), (1, .slice x1), (12, .int .i64 x2), (13, .int .i64 x3)])) (ρ' := (frameL [(0, .slice x0), (1, .slice x1), (12, .int .i64 x2), (13, .int .i64 x3)])) (by kernel_rfl) k K).trans (slEq.u4.okl k K k x0 x1 x2 x3)
theorem slEq.u5.ok (k : Nat) (x0 : Sl) (x1 : Sl) (x2 : Int) (x3 : Int) (K : Ex → Frame → M α) :
    evC T (env k) k slEq.u5.c (frameL [(0, .slice x0), (1, .slice x1), (12, .int .i64 x2), (13, .int .i64 x3)]) K =
      slEq.u5.f k x0 x1 x2 x3 (K .normal (frameL [])) (fun y0 => K .ret (frameL [(4, .bool y0)])) :=
  (evC_block.trans (slEq.u4.ok k x0 x1 x2 x3 (blockK 0 K))).trans (by kernel_rfl)
theorem slEq.u6.ok (k : Nat) (x0 : Sl) (x1 : Sl) (K : Ex → Frame → M α) :
    evC T (env k) k slEq.u6.c (frameL [(0, .slice x0), (1, .slice x1)]) K =
      slEq.u6.f k x0 x1 (K .normal (frameL [])) (fun y0 => K .ret (frameL [(4, .bool y0)])) :=
  (slEq.u2.ok k x0 x1 slEq.u5.c K).trans
    (congrArg (fun z => slEq.u2.f k x0 x1 z) (funext fun y0 => (funext fun y1 => (funext fun y2 => (funext fun y3 => slEq.u5.ok k y0 y1 y2 y3 K)))))
theorem slEq.u7.ok (k : Nat) (K : Ex → Frame → M α) :
    evC T (env k) k slEq.u7.c (frameL []) K =
      slEq.u7.f k (fun y0 => K .ret (frameL [(4, .bool y0)])) := by kernel_rfl
theorem slEq.u8.ok (k : Nat) (x0 : Sl) (x1 : Sl) (K : Ex → Frame → M α) :
    evC T (env k) k slEq.u8.c (frameL [(0, .slice x0), (1, .slice x1)]) K =
      slEq.u8.f k x0 x1 (fun y0 => K .ret (frameL [(4, .bool y0)])) :=
  by
    have h := slEq.u6.ok k x0 x1 (seqK (fun ρ => evC T (env k) k slEq.u7.c ρ K) K)
    simp only [seqK_normal, seqK_exit, seqK_ret, seqK_pan, slEq.u7.ok] at h
    exact evC_seq_of h
theorem slEq.u9.ok (k : Nat) (x0 : Sl) (x1 : Sl) (K : Ex → Frame → M α) :
    evC T (env k) k slEq.u9.c (frameL [(0, .slice x0), (1, .slice x1)]) K =
      slEq.u9.f k x0 x1 (fun y0 => K .ret (frameL [(4, .bool y0)])) :=
  (slEq.u1.ok k x0 x1 slEq.u8.c K).trans
    (congrArg (fun z => slEq.u1.f k x0 x1 z (fun y0 => K .ret (frameL [(4, .bool y0)]))) (funext fun y0 => (funext fun y1 => slEq.u8.ok k y0 y1 K)))
theorem slEq.ok (k : Nat) (x0 : Sl) (x1 : Sl) (κ : Res → M α) :
    evF T (env k) k slEq.c slEq.res [.slice x0, .slice x1] κ = slEq.f (k + 1) x0 x1 (fun o0 => κ (.ret (.bool o0))) :=
  (slEq.u9.ok k x0 x1 (retK T slEq.res κ)).trans (by kernel_rfl)
theorem slEq.code : slEq.c.code = bodyOf Try.f39 := by kernel_rfl

def syntax_Right.c : IC := syntax_Right.u9.c
def syntax_Right.res : List ResultVar := [(.tmp 2)]
theorem syntax_Right.u1.ok (k : Nat) (x0 : Sl) (R : IC) (K : Ex → Frame → M α) :
    evC T (env k) k (syntax_Right.u1.c R) (frameL [(0, .slice x0)]) K =
      syntax_Right.u1.f k x0 (fun y0 y1 => evC T (env k) k R (frameL [(0, .slice y0), (3, .slice y1)]) K) (fun y0 => K .ret (frameL [(2, .bool y0)])) := by kernel_rfl
theorem syntax_Right.u2.ok (k : Nat) (x0 : Sl) (x1 : Sl) (R : IC) (K : Ex → Frame → M α) :
    evC T (env k) k (syntax_Right.u2.c R) (frameL [(0, .slice x0), (3, .slice x1)]) K =
      syntax_Right.u2.f k x0 x1 (fun y0 y1 y2 y3 => evC T (env k) k R (frameL [(3, .slice y0), (17, .slice y1), (18, .int .i64 y2), (19, .int .i64 y3)]) K) := by kernel_rfl
theorem syntax_Right.u3.ok (k : Nat) (x0 : Sl) (x1 : Sl) (x2 : Int) (x3 : Int) (K : Ex → Frame → M α) :
    evC T (env k) k syntax_Right.u3.c (frameL [(3, .slice x0), (17, .slice x1), (18, .int .i64 x2), (19, .int .i64 x3)]) K =
      syntax_Right.u3.f k x0 x1 x2 x3 (fun y0 y1 y2 y3 => K .normal (frameL [(3, .slice y0), (17, .slice y1), (18, .int .i64 y2), (19, .int .i64 y3)])) (fun y0 => K .ret (frameL [(2, .bool y0)])) (fun y0 => K (.exit 0) (frameL [(3, .slice y0)])) := by kernel_rfl
theorem syntax_Right.u4.ls (k : Nat) (kr : Bool → M α) (kx0 : Sl → M α) (j : Nat) (x0 : Sl) (x1 : Sl) (x2 : Int) (x3 : Int) : syntax_Right.u4.l k kr kx0 (j + 1) x0 x1 x2 x3 =
  syntax_Right.u3.f k x0 x1 x2 x3 (fun y0 y1 y2 y3 => syntax_Right.u4.l k kr kx0 j y0 y1 y2 y3) kr kx0 := rfl
theorem syntax_Right.u4.okl (k : Nat) (K : Ex → Frame → M α) : ∀ (j : Nat) (x0 : Sl) (x1 : Sl) (x2 : Int) (x3 : Int),
    evLoop (evC T (env k) k syntax_Right.u3.c) [3, 17, 18, 19] j (frameL [(3, .slice x0), (17, .slice x1), (18, .int .i64 x2), (19, .int .i64 x3)]) K = syntax_Right.u4.l k (fun y0 => K .ret (frameL [(2, .bool y0)])) (fun y0 => K (.exit 0) (frameL [(3, .slice y0)])) j x0 x1 x2 x3
  | 0, _, _, _, _ => rfl
  | j + 1, x0, x1, x2, x3 => by
      have h := syntax_Right.u3.ok k x0 x1 x2 x3 (seqK (fun ρ => evLoop (evC T (env k) k syntax_Right.u3.c) [3, 17, 18, 19] j ρ K) K)
      simp only [seqK_exit, seqK_ret, seqK_pan, seqK_normal, syntax_Right.u4.okl k K j] at h
      exact (evLoop_step (by kernel_rfl) h).trans (syntax_Right.u4.ls k (fun y0 => K .ret (frameL [(2, .bool y0)])) (fun y0 => K (.exit 0) (frameL [(3, .slice y0)])) j x0 x1 x2 x3).symm
theorem syntax_Right.u4.ok (k : Nat) (x0 : Sl) (x1 : Sl) (x2 : Int) (x3 : Int) (K : Ex → Frame → M α) :
    evC T (env k) k syntax_Right.u4.c (frameL [(3, .slice x0), (17, .slice x1), (18, .int .i64 x2), (19, .int .i64 x3)]) K =
      syntax_Right.u4.f k x0 x1 x2 x3 (fun y0 => K .ret (frameL [(2, .bool y0)])) (fun y0 => K (.exit 0) (frameL [(3, .slice y0)])) :=
  evC_loop.trans <| (evLoop_keep (body := evC T (env k) k syntax_Right.u3.c) (keep := [3, 17, 18, 19]) (ρ := (frameL [(3, .slice x0), (17, .slice x1), (18, .int .i64 x2), (19, .int .i64 x3)])) (ρ' := (frameL [(3, .slice x0), (17, .slice x1), (18, .int .i64 x2), (19, .int .i64 x3)])) (by kernel_rfl) k K).trans (syntax_Right.u4.okl k K k x0 x1 x2 x3)
theorem syntax_Right.u5.ok (k : Nat) (x0 : Sl) (x1 : Sl) (x2 : Int) (x3 : Int) (K : Ex → Frame → M α) :
    evC T (env k) k syntax_Right.u5.c (frameL [(3, .slice x0), (17, .slice x1), (18, .int .i64 x2), (19, .int .i64 x3)]) K =
      syntax_Right.u5.f k x0 x1 x2 x3 (fun y0 => K .normal (frameL [(3, .slice y0)])) (fun y0 => K .ret (frameL [(2, .bool y0)])) :=
  (evC_block.trans (syntax_Right.u4.ok k x0 x1 x2 x3 (blockK 0 K))).trans (by kernel_rfl)
theorem syntax_Right.u6.ok (k : Nat) (x0 : Sl) (x1 : Sl) (K : Ex → Frame → M α) :
    evC T (env k) k syntax_Right.u6.c (frameL [(0, .slice x0), (3, .slice x1)]) K =
      syntax_Right.u6.f k x0 x1 (fun y0 => K .normal (frameL [(3, .slice y0)])) (fun y0 => K .ret (frameL [(2, .bool y0)])) :=
  (syntax_Right.u2.ok k x0 x1 syntax_Right.u5.c K).trans
    (congrArg (fun z => syntax_Right.u2.f k x0 x1 z) (funext fun y0 => (funext fun y1 => (funext fun y2 => (funext fun y3 => syntax_Right.u5.ok k y0 y1 y2 y3 K)))))
theorem syntax_Right.u7.ok (k : Nat) (x0 : Sl) (K : Ex → Frame → M α) :
    evC T (env k) k syntax_Right.u7.c (frameL [(3, .slice x0)]) K =
      syntax_Right.u7.f k x0 (fun y0 => K .ret (frameL [(2, .bool y0)])) := by kernel_rfl
theorem syntax_Right.u8.ok (k : Nat) (x0 : Sl) (x1 : Sl) (K : Ex → Frame → M α) :
    evC T (env k) k syntax_Right.u8.c (frameL [(0, .slice x0), (3, .slice x1)]) K =
      syntax_Right.u8.f k x0 x1 (fun y0 => K .ret (frameL [(2, .bool y0)])) :=
  by
    have h := syntax_Right.u6.ok k x0 x1 (seqK (fun ρ => evC T (env k) k syntax_Right.u7.c ρ K) K)
    simp only [seqK_normal, seqK_exit, seqK_ret, seqK_pan, syntax_Right.u7.ok] at h
    exact evC_seq_of h
theorem syntax_Right.u9.ok (k : Nat) (x0 : Sl) (K : Ex → Frame → M α) :
    evC T (env k) k syntax_Right.u9.c (frameL [(0, .slice x0)]) K =
      syntax_Right.u9.f k x0 (fun y0 => K .ret (frameL [(2, .bool y0)])) :=
  (syntax_Right.u1.ok k x0 syntax_Right.u8.c K).trans
    (congrArg (fun z => syntax_Right.u1.f k x0 z (fun y0 => K .ret (frameL [(2, .bool y0)]))) (funext fun y0 => (funext fun y1 => syntax_Right.u8.ok k y0 y1 K)))
theorem syntax_Right.ok (k : Nat) (x0 : Sl) (κ : Res → M α) :
    evF T (env k) k syntax_Right.c syntax_Right.res [.slice x0] κ = syntax_Right.f (k + 1) x0 (fun o0 => κ (.ret (.bool o0))) :=
  (syntax_Right.u9.ok k x0 (retK T syntax_Right.res κ)).trans (by kernel_rfl)
theorem syntax_Right.code : syntax_Right.c.code = bodyOf Try.f19 := by kernel_rfl

def bwfind.c : IC := bwfind.u9.c
def bwfind.res : List ResultVar := [(.cell 4 97), (.tmp 5)]
theorem bwfind.u1.ok (k : Nat) (x0 : Ad) (x1 : List UInt8) (R : IC) (K : Ex → Frame → M α) :
    evC T (env k) k (bwfind.u1.c R) (frameL [(0, .ptr (some x0)), (1, .str x1)]) K =
      bwfind.u1.f k x0 x1 (fun y0 y1 y2 => evC T (env k) k R (frameL [(0, .ptr (some y0)), (1, .str y1), (4, .ptr (some y2))]) K) := by kernel_rfl
theorem bwfind.u2.ok (k : Nat) (x0 : Ad) (x1 : List UInt8) (x2 : Ad) (R : IC) (K : Ex → Frame → M α) :
    evC T (env k) k (bwfind.u2.c R) (frameL [(0, .ptr (some x0)), (1, .str x1), (4, .ptr (some x2))]) K =
      bwfind.u2.f k x0 x1 x2 (fun y0 y1 y2 y3 => evC T (env k) k R (frameL [(0, .ptr (some y0)), (1, .str y1), (4, .ptr (some y2)), (6, .int .i64 y3)]) K) := by kernel_rfl
theorem bwfind.u3.ok (k : Nat) (x0 : Ad) (x1 : List UInt8) (x2 : Ad) (x3 : Int) (K : Ex → Frame → M α) :
    evC T (env k) k bwfind.u3.c (frameL [(0, .ptr (some x0)), (1, .str x1), (4, .ptr (some x2)), (6, .int .i64 x3)]) K =
      bwfind.u3.f k x0 x1 x2 x3 (fun y0 y1 y2 y3 => K .normal (frameL [(0, .ptr (some y0)), (1, .str y1), (4, .ptr (some y2)), (6, .int .i64 y3)])) (fun y0 y1 => K .ret (frameL [(4, .ptr (some y0)), (5, .bool y1)])) (fun y0 => K (.exit 0) (frameL [(4, .ptr (some y0))])) := by kernel_rfl
theorem bwfind.u4.ls (k : Nat) (kr : Ad → Bool → M α) (kx0 : Ad → M α) (j : Nat) (x0 : Ad) (x1 : List UInt8) (x2 : Ad) (x3 : Int) : bwfind.u4.l k kr kx0 (j + 1) x0 x1 x2 x3 =
  bwfind.u3.f k x0 x1 x2 x3 (fun y0 y1 y2 y3 => bwfind.u4.l k kr kx0 j y0 y1 y2 y3) kr kx0 := rfl
theorem bwfind.u4.okl (k : Nat) (K : Ex → Frame → M α) : ∀ (j : Nat) (x0 : Ad) (x1 : List UInt8) (x2 : Ad) (x3 : Int),
    evLoop (evC T (env k) k bwfind.u3.c) [0, 1, 4, 6] j (frameL [(0, .ptr (some x0)), (1, .str x1), (4, .ptr (some x2)), (6, .int .i64 x3)]) K = bwfind.u4.l k (fun y0 y1 => K .ret (frameL [(4, .ptr (some y0)), (5, .bool y1)])) (fun y0 => K (.exit 0) (frameL [(4, .ptr (some y0))])) j x0 x1 x2 x3
  | 0, _, _, _, _ => rfl
  | j + 1, x0, x1, x2, x3 => by
      have h := bwfind.u3.ok k x0 x1 x2 x3 (seqK (fun ρ => evLoop (evC T (env k) k bwfind.u3.c) [0, 1, 4, 6] j ρ K) K)
      simp only [seqK_exit, seqK_ret, seqK_pan, seqK_normal, bwfind.u4.okl k K j] at h
      exact (evLoop_step (by kernel_rfl) h).trans (bwfind.u4.ls k (fun y0 y1 => K .ret (frameL [(4, .ptr (some y0)), (5, .bool y1)])) (fun y0 => K (.exit 0) (frameL [(4, .ptr (some y0))])) j x0 x1 x2 x3).symm
theorem bwfind.u4.ok (k : Nat) (x0 : Ad) (x1 : List UInt8) (x2 : Ad) (x3 : Int) (K : Ex → Frame → M α) :
    evC T (env k) k bwfind.u4.c (frameL [(0, .ptr (some x0)), (1, .str x1), (4, .ptr (some x2)), (6, .int .i64 x3)]) K =
      bwfind.u4.f k x0 x1 x2 x3 (fun y0 y1 => K .ret (frameL [(4, .ptr (some y0)), (5, .bool y1)])) (fun y0 => K (.exit 0) (frameL [(4, .ptr (some y0))])) :=
  evC_loop.trans <| (evLoop_keep (body := evC T (env k) k bwfind.u3.c) (keep := [0, 1, 4, 6]) (ρ := (frameL [(0, .ptr (some x0)), (1, .str x1), (4, .ptr (some x2)), (6, .int .i64 x3)])) (ρ' := (frameL [(0, .ptr (some x0)), (1, .str x1), (4, .ptr (some x2)), (6, .int .i64 x3)])) (by kernel_rfl) k K).trans (bwfind.u4.okl k K k x0 x1 x2 x3)
theorem bwfind.u5.ok (k : Nat) (x0 : Ad) (x1 : List UInt8) (x2 : Ad) (x3 : Int) (K : Ex → Frame → M α) :
    evC T (env k) k bwfind.u5.c (frameL [(0, .ptr (some x0)), (1, .str x1), (4, .ptr (some x2)), (6, .int .i64 x3)]) K =
      bwfind.u5.f k x0 x1 x2 x3 (fun y0 => K .normal (frameL [(4, .ptr (some y0))])) (fun y0 y1 => K .ret (frameL [(4, .ptr (some y0)), (5, .bool y1)])) :=
  (evC_block.trans (bwfind.u4.ok k x0 x1 x2 x3 (blockK 0 K))).trans (by kernel_rfl)
theorem bwfind.u6.ok (k : Nat) (x0 : Ad) (x1 : List UInt8) (x2 : Ad) (K : Ex → Frame → M α) :
    evC T (env k) k bwfind.u6.c (frameL [(0, .ptr (some x0)), (1, .str x1), (4, .ptr (some x2))]) K =
      bwfind.u6.f k x0 x1 x2 (fun y0 => K .normal (frameL [(4, .ptr (some y0))])) (fun y0 y1 => K .ret (frameL [(4, .ptr (some y0)), (5, .bool y1)])) :=
  (bwfind.u2.ok k x0 x1 x2 bwfind.u5.c K).trans
    (congrArg (fun z => bwfind.u2.f k x0 x1 x2 z) (funext fun y0 => (funext fun y1 => (funext fun y2 => (funext fun y3 => bwfind.u5.ok k y0 y1 y2 y3 K)))))
theorem bwfind.u7.ok (k : Nat) (x0 : Ad) (K : Ex → Frame → M α) :
    evC T (env k) k bwfind.u7.c (frameL [(4, .ptr (some x0))]) K =
      bwfind.u7.f k x0 (fun y0 y1 => K .ret (frameL [(4, .ptr (some y0)), (5, .bool y1)])) := by kernel_rfl
theorem bwfind.u8.ok (k : Nat) (x0 : Ad) (x1 : List UInt8) (x2 : Ad) (K : Ex → Frame → M α) :
    evC T (env k) k bwfind.u8.c (frameL [(0, .ptr (some x0)), (1, .str x1), (4, .ptr (some x2))]) K =
      bwfind.u8.f k x0 x1 x2 (fun y0 y1 => K .ret (frameL [(4, .ptr (some y0)), (5, .bool y1)])) :=
  by
    have h := bwfind.u6.ok k x0 x1 x2 (seqK (fun ρ => evC T (env k) k bwfind.u7.c ρ K) K)
    simp only [seqK_normal, seqK_exit, seqK_ret, seqK_pan, bwfind.u7.ok] at h
    exact evC_seq_of h
theorem bwfind.u9.ok (k : Nat) (x0 : Ad) (x1 : List UInt8) (K : Ex → Frame → M α) :
    evC T (env k) k bwfind.u9.c (frameL [(0, .ptr (some x0)), (1, .str x1)]) K =
      bwfind.u9.f k x0 x1 (fun y0 y1 => K .ret (frameL [(4, .ptr (some y0)), (5, .bool y1)])) :=
  (bwfind.u1.ok k x0 x1 bwfind.u8.c K).trans
    (congrArg (fun z => bwfind.u1.f k x0 x1 z) (funext fun y0 => (funext fun y1 => (funext fun y2 => bwfind.u8.ok k y0 y1 y2 K))))
theorem bwfind.ok (k : Nat) (x0 : Ad) (x1 : List UInt8) (κ : Res → M α) :
    evF T (env k) k bwfind.c bwfind.res [.ptr (some x0), .str x1] κ = bwfind.f (k + 1) x0 x1 (fun o0 o1 o2 => κ (.ret (.tuple [.agg [.int .i64 o0, .int .i64 o1], .bool o2]))) :=
  (bwfind.u9.ok k x0 x1 (retK T bwfind.res κ)).trans (by kernel_rfl)
theorem bwfind.code : bwfind.c.code = bodyOf Try.f64 := by kernel_rfl

def bwnode.c : IC := bwnode.u22.c
def bwnode.res : List ResultVar := []
theorem bwnode.u1.ok (k : Nat) (x0 : Ad) (x1 : Int) (R : IC) (K : Ex → Frame → M α) :
    evC T (env k) k (bwnode.u1.c R) (frameL [(0, .ptr (some x0)), (1, .int .i64 x1)]) K =
      bwnode.u1.f k x0 x1 (fun y0 y1 y2 y3 => evC T (env k) k R (frameL [(0, .ptr (some y0)), (1, .int .i64 y1), (4, .ptr (some y2)), (15, .int .i64 y3)]) K) := by kernel_rfl
theorem bwnode.u2.ok (k : Nat) (x0 : Ad) (x1 : Int) (x2 : Ad) (x3 : Int) (R : IC) (K : Ex → Frame → M α) :
    evC T (env k) k (bwnode.u2.c R) (frameL [(0, .ptr (some x0)), (1, .int .i64 x1), (4, .ptr (some x2)), (15, .int .i64 x3)]) K =
      bwnode.u2.f k x0 x1 x2 x3 (fun y0 y1 y2 y3 y4 => evC T (env k) k R (frameL [(0, .ptr (some y0)), (1, .int .i64 y1), (4, .ptr (some y2)), (15, .int .i64 y3), (16, .bool y4)]) K) := by kernel_rfl
theorem bwnode.u3.ok (k : Nat) (x0 : Ad) (x1 : Int) (x2 : Ad) (x3 : Int) (x4 : Bool) (K : Ex → Frame → M α) :
    evC T (env k) k bwnode.u3.c (frameL [(0, .ptr (some x0)), (1, .int .i64 x1), (4, .ptr (some x2)), (15, .int .i64 x3), (16, .bool x4)]) K =
      bwnode.u3.f k x0 x1 x2 x3 x4 (K .normal (frameL [])) := by kernel_rfl
theorem bwnode.u4.ok (k : Nat) (x0 : Ad) (x1 : Int) (x2 : Ad) (x3 : Int) (x4 : Bool) (R : IC) (K : Ex → Frame → M α) :
    evC T (env k) k (bwnode.u4.c R) (frameL [(0, .ptr (some x0)), (1, .int .i64 x1), (4, .ptr (some x2)), (15, .int .i64 x3), (16, .bool x4)]) K =
      bwnode.u4.f k x0 x1 x2 x3 x4 (fun y0 y1 y2 y3 y4 => evC T (env k) k R (frameL [(0, .ptr (some y0)), (1, .int .i64 y1), (4, .ptr (some y2)), (15, .int .i64 y3), (49, .bool y4)]) K) := by kernel_rfl
theorem bwnode.u5.ok (k : Nat) (x0 : Ad) (x1 : Int) (x2 : Ad) (x3 : Int) (x4 : Bool) (K : Ex → Frame → M α) :
    evC T (env k) k bwnode.u5.c (frameL [(0, .ptr (some x0)), (1, .int .i64 x1), (4, .ptr (some x2)), (15, .int .i64 x3), (49, .bool x4)]) K =
      bwnode.u5.f k (bwnode.f k) x0 x1 x2 x3 x4 (K .normal (frameL [])) := by kernel_rfl
theorem bwnode.u6.ok (k : Nat) (x0 : Ad) (x1 : Int) (x2 : Ad) (x3 : Int) (x4 : Bool) (R : IC) (K : Ex → Frame → M α) :
    evC T (env k) k (bwnode.u6.c R) (frameL [(0, .ptr (some x0)), (1, .int .i64 x1), (4, .ptr (some x2)), (15, .int .i64 x3), (49, .bool x4)]) K =
      bwnode.u6.f k x0 x1 x2 x3 x4 (fun y0 y1 y2 y3 y4 => evC T (env k) k R (frameL [(0, .ptr (some y0)), (1, .int .i64 y1), (4, .ptr (some y2)), (15, .int .i64 y3), (83, .bool y4)]) K) := by kernel_rfl
theorem bwnode.u7.ok (k : Nat) (x0 : Ad) (x1 : Int) (x2 : Ad) (x3 : Int) (x4 : Bool) (K : Ex → Frame → M α) :
    evC T (env k) k bwnode.u7.c (frameL [(0, .ptr (some x0)), (1, .int .i64 x1), (4, .ptr (some x2)), (15, .int .i64 x3), (83, .bool x4)]) K =
      bwnode.u7.f k (bwnode.f k) x0 x1 x2 x3 x4 (K .normal (frameL [])) := by kernel_rfl
theorem bwnode.u8.ok (k : Nat) (x0 : Ad) (x1 : Int) (x2 : Ad) (x3 : Int) (x4 : Bool) (R : IC) (K : Ex → Frame → M α) :
    evC T (env k) k (bwnode.u8.c R) (frameL [(0, .ptr (some x0)), (1, .int .i64 x1), (4, .ptr (some x2)), (15, .int .i64 x3), (83, .bool x4)]) K =
      bwnode.u8.f k x0 x1 x2 x3 x4 (fun y0 y1 y2 y3 y4 => evC T (env k) k R (frameL [(0, .ptr (some y0)), (1, .int .i64 y1), (4, .ptr (some y2)), (15, .int .i64 y3), (104, .bool y4)]) K) := by kernel_rfl
theorem bwnode.u9.ok (k : Nat) (x0 : Ad) (x1 : Int) (x2 : Ad) (x3 : Int) (x4 : Bool) (K : Ex → Frame → M α) :
    evC T (env k) k bwnode.u9.c (frameL [(0, .ptr (some x0)), (1, .int .i64 x1), (4, .ptr (some x2)), (15, .int .i64 x3), (104, .bool x4)]) K =
      bwnode.u9.f k (bwnode.f k) x0 x1 x2 x3 x4 (K .normal (frameL [])) := by kernel_rfl
theorem bwnode.u10.ok (k : Nat) (x0 : Ad) (x1 : Int) (x2 : Ad) (x3 : Int) (x4 : Bool) (R : IC) (K : Ex → Frame → M α) :
    evC T (env k) k (bwnode.u10.c R) (frameL [(0, .ptr (some x0)), (1, .int .i64 x1), (4, .ptr (some x2)), (15, .int .i64 x3), (104, .bool x4)]) K =
      bwnode.u10.f k x0 x1 x2 x3 x4 (fun y0 y1 y2 y3 => evC T (env k) k R (frameL [(0, .ptr (some y0)), (1, .int .i64 y1), (4, .ptr (some y2)), (138, .bool y3)]) K) := by kernel_rfl
theorem bwnode.u11.ok (k : Nat) (x0 : Ad) (x1 : Int) (x2 : Ad) (x3 : Bool) (K : Ex → Frame → M α) :
    evC T (env k) k bwnode.u11.c (frameL [(0, .ptr (some x0)), (1, .int .i64 x1), (4, .ptr (some x2)), (138, .bool x3)]) K =
      bwnode.u11.f k (bwnode.f k) x0 x1 x2 x3 (K .normal (frameL [])) := by kernel_rfl
theorem bwnode.u12.ok (k : Nat) (x0 : Ad) (x1 : Int) (x2 : Ad) (x3 : Int) (x4 : Bool) (K : Ex → Frame → M α) :
    evC T (env k) k bwnode.u12.c (frameL [(0, .ptr (some x0)), (1, .int .i64 x1), (4, .ptr (some x2)), (15, .int .i64 x3), (104, .bool x4)]) K =
      bwnode.u12.f k (bwnode.f k) x0 x1 x2 x3 x4 (K .normal (frameL [])) :=
  (bwnode.u10.ok k x0 x1 x2 x3 x4 bwnode.u11.c K).trans
    (congrArg (fun z => bwnode.u10.f k x0 x1 x2 x3 x4 z) (funext fun y0 => (funext fun y1 => (funext fun y2 => (funext fun y3 => bwnode.u11.ok k y0 y1 y2 y3 K)))))
theorem bwnode.u13.ok (k : Nat) (x0 : Ad) (x1 : Int) (x2 : Ad) (x3 : Int) (x4 : Bool) (K : Ex → Frame → M α) :
    evC T (env k) k bwnode.u13.c (frameL [(0, .ptr (some x0)), (1, .int .i64 x1), (4, .ptr (some x2)), (15, .int .i64 x3), (104, .bool x4)]) K =
      bwnode.u13.f k (bwnode.f k) x0 x1 x2 x3 x4 (K .normal (frameL [])) :=
  evC_cond_run (g := x4) (by kernel_rfl) (bwnode.u9.ok k x0 x1 x2 x3 x4 K) (bwnode.u12.ok k x0 x1 x2 x3 x4 K)
theorem bwnode.u14.ok (k : Nat) (x0 : Ad) (x1 : Int) (x2 : Ad) (x3 : Int) (x4 : Bool) (K : Ex → Frame → M α) :
    evC T (env k) k bwnode.u14.c (frameL [(0, .ptr (some x0)), (1, .int .i64 x1), (4, .ptr (some x2)), (15, .int .i64 x3), (83, .bool x4)]) K =
      bwnode.u14.f k (bwnode.f k) x0 x1 x2 x3 x4 (K .normal (frameL [])) :=
  (bwnode.u8.ok k x0 x1 x2 x3 x4 bwnode.u13.c K).trans
    (congrArg (fun z => bwnode.u8.f k x0 x1 x2 x3 x4 z) (funext fun y0 => (funext fun y1 => (funext fun y2 => (funext fun y3 => (funext fun y4 => bwnode.u13.ok k y0 y1 y2 y3 y4 K))))))
theorem bwnode.u15.ok (k : Nat) (x0 : Ad) (x1 : Int) (x2 : Ad) (x3 : Int) (x4 : Bool) (K : Ex → Frame → M α) :
    evC T (env k) k bwnode.u15.c (frameL [(0, .ptr (some x0)), (1, .int .i64 x1), (4, .ptr (some x2)), (15, .int .i64 x3), (83, .bool x4)]) K =
      bwnode.u15.f k (bwnode.f k) x0 x1 x2 x3 x4 (K .normal (frameL [])) :=
  evC_cond_run (g := x4) (by kernel_rfl) (bwnode.u7.ok k x0 x1 x2 x3 x4 K) (bwnode.u14.ok k x0 x1 x2 x3 x4 K)
theorem bwnode.u16.ok (k : Nat) (x0 : Ad) (x1 : Int) (x2 : Ad) (x3 : Int) (x4 : Bool) (K : Ex → Frame → M α) :
    evC T (env k) k bwnode.u16.c (frameL [(0, .ptr (some x0)), (1, .int .i64 x1), (4, .ptr (some x2)), (15, .int .i64 x3), (49, .bool x4)]) K =
      bwnode.u16.f k (bwnode.f k) x0 x1 x2 x3 x4 (K .normal (frameL [])) :=
  (bwnode.u6.ok k x0 x1 x2 x3 x4 bwnode.u15.c K).trans
    (congrArg (fun z => bwnode.u6.f k x0 x1 x2 x3 x4 z) (funext fun y0 => (funext fun y1 => (funext fun y2 => (funext fun y3 => (funext fun y4 => bwnode.u15.ok k y0 y1 y2 y3 y4 K))))))
theorem bwnode.u17.ok (k : Nat) (x0 : Ad) (x1 : Int) (x2 : Ad) (x3 : Int) (x4 : Bool) (K : Ex → Frame → M α) :
    evC T (env k) k bwnode.u17.c (frameL [(0, .ptr (some x0)), (1, .int .i64 x1), (4, .ptr (some x2)), (15, .int .i64 x3), (49, .bool x4)]) K =
      bwnode.u17.f k (bwnode.f k) x0 x1 x2 x3 x4 (K .normal (frameL [])) :=
  evC_cond_run (g := x4) (by kernel_rfl) (bwnode.u5.ok k x0 x1 x2 x3 x4 K) (bwnode.u16.ok k x0 x1 x2 x3 x4 K)
theorem bwnode.u18.ok (k : Nat) (x0 : Ad) (x1 : Int) (x2 : Ad) (x3 : Int) (x4 : Bool) (K : Ex → Frame → M α) :
    evC T (env k) k bwnode.u18.c (frameL [(0, .ptr (some x0)), (1, .int .i64 x1), (4, .ptr (some x2)), (15, .int .i64 x3), (16, .bool x4)]) K =
      bwnode.u18.f k (bwnode.f k) x0 x1 x2 x3 x4 (K .normal (frameL [])) :=
  (bwnode.u4.ok k x0 x1 x2 x3 x4 bwnode.u17.c K).trans
    (congrArg (fun z => bwnode.u4.f k x0 x1 x2 x3 x4 z) (funext fun y0 => (funext fun y1 => (funext fun y2 => (funext fun y3 => (funext fun y4 => bwnode.u17.ok k y0 y1 y2 y3 y4 K))))))
theorem bwnode.u19.ok (k : Nat) (x0 : Ad) (x1 : Int) (x2 : Ad) (x3 : Int) (x4 : Bool) (K : Ex → Frame → M α) :
    evC T (env k) k bwnode.u19.c (frameL [(0, .ptr (some x0)), (1, .int .i64 x1), (4, .ptr (some x2)), (15, .int .i64 x3), (16, .bool x4)]) K =
      bwnode.u19.f k (bwnode.f k) x0 x1 x2 x3 x4 (K .normal (frameL [])) :=
  evC_cond_run (g := x4) (by kernel_rfl) (bwnode.u3.ok k x0 x1 x2 x3 x4 K) (bwnode.u18.ok k x0 x1 x2 x3 x4 K)
theorem bwnode.u20.ok (k : Nat) (x0 : Ad) (x1 : Int) (x2 : Ad) (x3 : Int) (K : Ex → Frame → M α) :
    evC T (env k) k bwnode.u20.c (frameL [(0, .ptr (some x0)), (1, .int .i64 x1), (4, .ptr (some x2)), (15, .int .i64 x3)]) K =
      bwnode.u20.f k (bwnode.f k) x0 x1 x2 x3 (K .normal (frameL [])) :=
  (bwnode.u2.ok k x0 x1 x2 x3 bwnode.u19.c K).trans
    (congrArg (fun z => bwnode.u2.f k x0 x1 x2 x3 z) (funext fun y0 => (funext fun y1 => (funext fun y2 => (funext fun y3 => (funext fun y4 => bwnode.u19.ok k y0 y1 y2 y3 y4 K))))))
theorem bwnode.u21.ok (k : Nat) (x0 : Ad) (x1 : Int) (x2 : Ad) (x3 : Int) (K : Ex → Frame → M α) :
    evC T (env k) k bwnode.u21.c (frameL [(0, .ptr (some x0)), (1, .int .i64 x1), (4, .ptr (some x2)), (15, .int .i64 x3)]) K =
      bwnode.u21.f k (bwnode.f k) x0 x1 x2 x3 (K .normal (frameL [])) :=
  (evC_block.trans (bwnode.u20.ok k x0 x1 x2 x3 (blockK 0 K))).trans (by kernel_rfl)
theorem bwnode.u22.ok (k : Nat) (x0 : Ad) (x1 : Int) (K : Ex → Frame → M α) :
    evC T (env k) k bwnode.u22.c (frameL [(0, .ptr (some x0)), (1, .int .i64 x1)]) K =
      bwnode.u22.f k (bwnode.f k) x0 x1 (K .normal (frameL [])) :=
  (bwnode.u1.ok k x0 x1 bwnode.u21.c K).trans
    (congrArg (fun z => bwnode.u1.f k x0 x1 z) (funext fun y0 => (funext fun y1 => (funext fun y2 => (funext fun y3 => bwnode.u21.ok k y0 y1 y2 y3 K)))))
theorem bwnode.ok (k : Nat) (x0 : Ad) (x1 : Int) (κ : Res → M α) :
    evF T (env k) k bwnode.c bwnode.res [.ptr (some x0), .int .i64 x1] κ = bwnode.f (k + 1) x0 x1 (κ (.ret (.tuple []))) :=
  (bwnode.u22.ok k x0 x1 (retK T bwnode.res κ)).trans (by kernel_rfl)
theorem bwnode.code : bwnode.c.code = bodyOf Try.f50 := by kernel_rfl

def bind_walked.c : IC := bind_walked.u9.c
def bind_walked.res : List ResultVar := [(.tmp 2)]
theorem bind_walked.u1.ok (k : Nat) (x0 : Sl) (R : IC) (K : Ex → Frame → M α) :
    evC T (env k) k (bind_walked.u1.c R) (frameL [(0, .slice x0)]) K =
      bind_walked.u1.f k x0 (fun y0 y1 => evC T (env k) k R (frameL [(0, .slice y0), (3, .ptr (some y1))]) K) := by kernel_rfl
theorem bind_walked.u2.ok (k : Nat) (x0 : Sl) (x1 : Ad) (R : IC) (K : Ex → Frame → M α) :
    evC T (env k) k (bind_walked.u2.c R) (frameL [(0, .slice x0), (3, .ptr (some x1))]) K =
      bind_walked.u2.f k x0 x1 (fun y0 y1 y2 y3 => evC T (env k) k R (frameL [(0, .slice y0), (3, .ptr (some y1)), (21, .int .i64 y2), (22, .int .i64 y3)]) K) := by kernel_rfl
theorem bind_walked.u3.ok (k : Nat) (x0 : Sl) (x1 : Ad) (x2 : Int) (x3 : Int) (K : Ex → Frame → M α) :
    evC T (env k) k bind_walked.u3.c (frameL [(0, .slice x0), (3, .ptr (some x1)), (21, .int .i64 x2), (22, .int .i64 x3)]) K =
      bind_walked.u3.f k x0 x1 x2 x3 (fun y0 y1 y2 y3 => K .normal (frameL [(0, .slice y0), (3, .ptr (some y1)), (21, .int .i64 y2), (22, .int .i64 y3)])) (fun y0 y1 => K (.exit 0) (frameL [(0, .slice y0), (3, .ptr (some y1))])) := by kernel_rfl
theorem bind_walked.u4.ls (k : Nat) (kx0 : Sl → Ad → M α) (j : Nat) (x0 : Sl) (x1 : Ad) (x2 : Int) (x3 : Int) : bind_walked.u4.l k kx0 (j + 1) x0 x1 x2 x3 =
  bind_walked.u3.f k x0 x1 x2 x3 (fun y0 y1 y2 y3 => bind_walked.u4.l k kx0 j y0 y1 y2 y3) kx0 := rfl
theorem bind_walked.u4.okl (k : Nat) (K : Ex → Frame → M α) : ∀ (j : Nat) (x0 : Sl) (x1 : Ad) (x2 : Int) (x3 : Int),
    evLoop (evC T (env k) k bind_walked.u3.c) [0, 3, 21, 22] j (frameL [(0, .slice x0), (3, .ptr (some x1)), (21, .int .i64 x2), (22, .int .i64 x3)]) K = bind_walked.u4.l k (fun y0 y1 => K (.exit 0) (frameL [(0, .slice y0), (3, .ptr (some y1))])) j x0 x1 x2 x3
  | 0, _, _, _, _ => rfl
  | j + 1, x0, x1, x2, x3 => by
      have h := bind_walked.u3.ok k x0 x1 x2 x3 (seqK (fun ρ => evLoop (evC T (env k) k bind_walked.u3.c) [0, 3, 21, 22] j ρ K) K)
      simp only [seqK_exit, seqK_ret, seqK_pan, seqK_normal, bind_walked.u4.okl k K j] at h
      exact (evLoop_step (by kernel_rfl) h).trans (bind_walked.u4.ls k (fun y0 y1 => K (.exit 0) (frameL [(0, .slice y0), (3, .ptr (some y1))])) j x0 x1 x2 x3).symm
theorem bind_walked.u4.ok (k : Nat) (x0 : Sl) (x1 : Ad) (x2 : Int) (x3 : Int) (K : Ex → Frame → M α) :
    evC T (env k) k bind_walked.u4.c (frameL [(0, .slice x0), (3, .ptr (some x1)), (21, .int .i64 x2), (22, .int .i64 x3)]) K =
      bind_walked.u4.f k x0 x1 x2 x3 (fun y0 y1 => K (.exit 0) (frameL [(0, .slice y0), (3, .ptr (some y1))])) :=
  evC_loop.trans <| (evLoop_keep (body := evC T (env k) k bind_walked.u3.c) (keep := [0, 3, 21, 22]) (ρ := (frameL [(0, .slice x0), (3, .ptr (some x1)), (21, .int .i64 x2), (22, .int .i64 x3)])) (ρ' := (frameL [(0, .slice x0), (3, .ptr (some x1)), (21, .int .i64 x2), (22, .int .i64 x3)])) (by kernel_rfl) k K).trans (bind_walked.u4.okl k K k x0 x1 x2 x3)
theorem bind_walked.u5.ok (k : Nat) (x0 : Sl) (x1 : Ad) (x2 : Int) (x3 : Int) (K : Ex → Frame → M α) :
    evC T (env k) k bind_walked.u5.c (frameL [(0, .slice x0), (3, .ptr (some x1)), (21, .int .i64 x2), (22, .int .i64 x3)]) K =
      bind_walked.u5.f k x0 x1 x2 x3 (fun y0 y1 => K .normal (frameL [(0, .slice y0), (3, .ptr (some y1))])) :=
  (evC_block.trans (bind_walked.u4.ok k x0 x1 x2 x3 (blockK 0 K))).trans (by kernel_rfl)
theorem bind_walked.u6.ok (k : Nat) (x0 : Sl) (x1 : Ad) (K : Ex → Frame → M α) :
    evC T (env k) k bind_walked.u6.c (frameL [(0, .slice x0), (3, .ptr (some x1))]) K =
      bind_walked.u6.f k x0 x1 (fun y0 y1 => K .normal (frameL [(0, .slice y0), (3, .ptr (some y1))])) :=
  (bind_walked.u2.ok k x0 x1 bind_walked.u5.c K).trans
    (congrArg (fun z => bind_walked.u2.f k x0 x1 z) (funext fun y0 => (funext fun y1 => (funext fun y2 => (funext fun y3 => bind_walked.u5.ok k y0 y1 y2 y3 K)))))
theorem bind_walked.u7.ok (k : Nat) (x0 : Sl) (x1 : Ad) (K : Ex → Frame → M α) :
    evC T (env k) k bind_walked.u7.c (frameL [(0, .slice x0), (3, .ptr (some x1))]) K =
      bind_walked.u7.f k x0 x1 (fun y0 => K .ret (frameL [(2, .ptr (some y0))])) := by kernel_rfl
theorem bind_walked.u8.ok (k : Nat) (x0 : Sl) (x1 : Ad) (K : Ex → Frame → M α) :
    evC T (env k) k bind_walked.u8.c (frameL [(0, .slice x0), (3, .ptr (some x1))]) K =
      bind_walked.u8.f k x0 x1 (fun y0 => K .ret (frameL [(2, .ptr (some y0))])) :=
  by
    have h := bind_walked.u6.ok k x0 x1 (seqK (fun ρ => evC T (env k) k bind_walked.u7.c ρ K) K)
    simp only [seqK_normal, seqK_exit, seqK_ret, seqK_pan, bind_walked.u7.ok] at h
    exact evC_seq_of h
theorem bind_walked.u9.ok (k : Nat) (x0 : Sl) (K : Ex → Frame → M α) :
    evC T (env k) k bind_walked.u9.c (frameL [(0, .slice x0)]) K =
      bind_walked.u9.f k x0 (fun y0 => K .ret (frameL [(2, .ptr (some y0))])) :=
  (bind_walked.u1.ok k x0 bind_walked.u8.c K).trans
    (congrArg (fun z => bind_walked.u1.f k x0 z) (funext fun y0 => (funext fun y1 => bind_walked.u8.ok k y0 y1 K)))
theorem bind_walked.ok (k : Nat) (x0 : Sl) (κ : Res → M α) :
    evF T (env k) k bind_walked.c bind_walked.res [.slice x0] κ = bind_walked.f (k + 1) x0 (fun o0 => κ (.ret (.ptr (some o0)))) :=
  (bind_walked.u9.ok k x0 (retK T bind_walked.res κ)).trans (by kernel_rfl)
theorem bind_walked.code : bind_walked.c.code = bodyOf Try.f29 := by kernel_rfl

def bind_fix.c : IC := bind_fix.u1.c
def bind_fix.res : List ResultVar := [(.tmp 2)]
theorem bind_fix.u1.ok (k : Nat) (x0 : Int) (x1 : Int) (x2 : Int) (x3 : List UInt8) (x4 : Int) (K : Ex → Frame → M α) :
    evC T (env k) k bind_fix.u1.c (frameL [(0, .agg [.int .i64 x0, .int .i64 x1, .int .i64 x2, .str x3, .int .i64 x4])]) K =
      bind_fix.u1.f k x0 x1 x2 x3 x4 (fun y0 => K .ret (frameL [(2, .bool y0)])) := by kernel_rfl
theorem bind_fix.ok (k : Nat) (x0 : Int) (x1 : Int) (x2 : Int) (x3 : List UInt8) (x4 : Int) (κ : Res → M α) :
    evF T (env k) k bind_fix.c bind_fix.res [.agg [.int .i64 x0, .int .i64 x1, .int .i64 x2, .str x3, .int .i64 x4]] κ = bind_fix.f (k + 1) x0 x1 x2 x3 x4 (fun o0 => κ (.ret (.bool o0))) :=
  (bind_fix.u1.ok k x0 x1 x2 x3 x4 (retK T bind_fix.res κ)).trans (by kernel_rfl)
theorem bind_fix.code : bind_fix.c.code = bodyOf Try.f30 := by kernel_rfl

def bind_Check.c : IC := bind_Check.u29.c
def bind_Check.res : List ResultVar := [(.tmp 2), (.tmp 3)]
theorem bind_Check.u1.ok (k : Nat) (x0 : Sl) (R : IC) (K : Ex → Frame → M α) :
    evC T (env k) k (bind_Check.u1.c R) (frameL [(0, .slice x0)]) K =
      bind_Check.u1.f k x0 (fun y0 y1 y2 => evC T (env k) k R (frameL [(0, .slice y0), (4, .ptr (some y1)), (5, .map y2)]) K) (fun y0 y1 => K .ret (frameL [(2, .int .i64 y0), (3, .int .i64 y1)])) := by kernel_rfl
theorem bind_Check.u2.ok (k : Nat) (x0 : Sl) (x1 : Ad) (x2 : Option Nat) (R : IC) (K : Ex → Frame → M α) :
    evC T (env k) k (bind_Check.u2.c R) (frameL [(0, .slice x0), (4, .ptr (some x1)), (5, .map x2)]) K =
      bind_Check.u2.f k x0 x1 x2 (fun y0 y1 y2 y3 y4 => evC T (env k) k R (frameL [(4, .ptr (some y0)), (5, .map y1), (14, .slice y2), (15, .int .i64 y3), (16, .int .i64 y4)]) K) := by kernel_rfl
theorem bind_Check.u3.ok (k : Nat) (x0 : Ad) (x1 : Option Nat) (x2 : Sl) (x3 : Int) (x4 : Int) (R : IC) (K : Ex → Frame → M α) :
    evC T (env k) k (bind_Check.u3.c R) (frameL [(4, .ptr (some x0)), (5, .map x1), (14, .slice x2), (15, .int .i64 x3), (16, .int .i64 x4)]) K =
      bind_Check.u3.f k x0 x1 x2 x3 x4 (fun y0 y1 y2 y3 y4 => evC T (env k) k R (frameL [(4, .ptr (some y0)), (5, .map y1), (14, .slice y2), (15, .int .i64 y3), (16, .int .i64 y4)]) K) (K (.exit 0) (frameL [])) := by kernel_rfl
theorem bind_Check.u4.ok (k : Nat) (x0 : Ad) (x1 : Option Nat) (x2 : Sl) (x3 : Int) (x4 : Int) (R : IC) (K : Ex → Frame → M α) :
    evC T (env k) k (bind_Check.u4.c R) (frameL [(4, .ptr (some x0)), (5, .map x1), (14, .slice x2), (15, .int .i64 x3), (16, .int .i64 x4)]) K =
      bind_Check.u4.f k x0 x1 x2 x3 x4 (fun y0 y1 y2 y3 y4 y5 y6 => evC T (env k) k R (frameL [(4, .ptr (some y0)), (5, .map y1), (6, .int .i64 y2), (7, .ptr (some y3)), (14, .slice y4), (15, .int .i64 y5), (16, .int .i64 y6)]) K) := by kernel_rfl
theorem bind_Check.u5.ok (k : Nat) (x0 : Ad) (x1 : Option Nat) (x2 : Int) (x3 : Ad) (x4 : Sl) (x5 : Int) (x6 : Int) (R : IC) (K : Ex → Frame → M α) :
    evC T (env k) k (bind_Check.u5.c R) (frameL [(4, .ptr (some x0)), (5, .map x1), (6, .int .i64 x2), (7, .ptr (some x3)), (14, .slice x4), (15, .int .i64 x5), (16, .int .i64 x6)]) K =
      bind_Check.u5.f k x0 x1 x2 x3 x4 x5 x6 (fun y0 y1 y2 y3 y4 y5 y6 y7 => evC T (env k) k R (frameL [(4, .ptr (some y0)), (5, .map y1), (6, .int .i64 y2), (7, .ptr (some y3)), (14, .slice y4), (15, .int .i64 y5), (16, .int .i64 y6), (21, .bool y7)]) K) := by kernel_rfl
theorem bind_Check.u6.ok (k : Nat) (x0 : Ad) (x1 : Option Nat) (x2 : Int) (x3 : Ad) (x4 : Sl) (x5 : Int) (x6 : Int) (x7 : Bool) (K : Ex → Frame → M α) :
    evC T (env k) k bind_Check.u6.c (frameL [(4, .ptr (some x0)), (5, .map x1), (6, .int .i64 x2), (7, .ptr (some x3)), (14, .slice x4), (15, .int .i64 x5), (16, .int .i64 x6), (21, .bool x7)]) K =
      bind_Check.u6.f k x0 x1 x2 x3 x4 x5 x6 x7 (fun y0 y1 => K .ret (frameL [(2, .int .i64 y0), (3, .int .i64 y1)])) := by kernel_rfl
theorem bind_Check.u7.ok (k : Nat) (x0 : Ad) (x1 : Option Nat) (x2 : Int) (x3 : Ad) (x4 : Sl) (x5 : Int) (x6 : Int) (x7 : Bool) (R : IC) (K : Ex → Frame → M α) :
    evC T (env k) k (bind_Check.u7.c R) (frameL [(4, .ptr (some x0)), (5, .map x1), (6, .int .i64 x2), (7, .ptr (some x3)), (14, .slice x4), (15, .int .i64 x5), (16, .int .i64 x6), (21, .bool x7)]) K =
      bind_Check.u7.f k x0 x1 x2 x3 x4 x5 x6 x7 (fun y0 y1 y2 y3 y4 y5 y6 y7 => evC T (env k) k R (frameL [(4, .ptr (some y0)), (5, .map y1), (6, .int .i64 y2), (7, .ptr (some y3)), (14, .slice y4), (15, .int .i64 y5), (16, .int .i64 y6), (36, .bool y7)]) K) := by kernel_rfl
theorem bind_Check.u8.ok (k : Nat) (x0 : Ad) (x1 : Option Nat) (x2 : Int) (x3 : Ad) (x4 : Sl) (x5 : Int) (x6 : Int) (x7 : Bool) (K : Ex → Frame → M α) :
    evC T (env k) k bind_Check.u8.c (frameL [(4, .ptr (some x0)), (5, .map x1), (6, .int .i64 x2), (7, .ptr (some x3)), (14, .slice x4), (15, .int .i64 x5), (16, .int .i64 x6), (36, .bool x7)]) K =
      bind_Check.u8.f k x0 x1 x2 x3 x4 x5 x6 x7 (fun y0 y1 => K .ret (frameL [(2, .int .i64 y0), (3, .int .i64 y1)])) := by kernel_rfl
theorem bind_Check.u9.ok (k : Nat) (x0 : Ad) (x1 : Option Nat) (x2 : Int) (x3 : Ad) (x4 : Sl) (x5 : Int) (x6 : Int) (x7 : Bool) (R : IC) (K : Ex → Frame → M α) :
    evC T (env k) k (bind_Check.u9.c R) (frameL [(4, .ptr (some x0)), (5, .map x1), (6, .int .i64 x2), (7, .ptr (some x3)), (14, .slice x4), (15, .int .i64 x5), (16, .int .i64 x6), (36, .bool x7)]) K =
      bind_Check.u9.f k x0 x1 x2 x3 x4 x5 x6 x7 (fun y0 y1 y2 y3 y4 y5 y6 y7 => evC T (env k) k R (frameL [(4, .ptr (some y0)), (5, .map y1), (6, .int .i64 y2), (7, .ptr (some y3)), (14, .slice y4), (15, .int .i64 y5), (16, .int .i64 y6), (50, .bool y7)]) K) := by kernel_rfl
theorem bind_Check.u10.ok (k : Nat) (x0 : Ad) (x1 : Option Nat) (x2 : Int) (x3 : Ad) (x4 : Sl) (x5 : Int) (x6 : Int) (x7 : Bool) (K : Ex → Frame → M α) :
    evC T (env k) k bind_Check.u10.c (frameL [(4, .ptr (some x0)), (5, .map x1), (6, .int .i64 x2), (7, .ptr (some x3)), (14, .slice x4), (15, .int .i64 x5), (16, .int .i64 x6), (50, .bool x7)]) K =
      bind_Check.u10.f k x0 x1 x2 x3 x4 x5 x6 x7 (fun y0 y1 y2 y3 y4 y5 => K .normal (frameL [(4, .ptr (some y0)), (5, .map y1), (7, .ptr (some y2)), (14, .slice y3), (15, .int .i64 y4), (16, .int .i64 y5)])) (fun y0 y1 => K .ret (frameL [(2, .int .i64 y0), (3, .int .i64 y1)])) := by kernel_rfl
theorem bind_Check.u11.ok (k : Nat) (x0 : Ad) (x1 : Option Nat) (x2 : Int) (x3 : Ad) (x4 : Sl) (x5 : Int) (x6 : Int) (x7 : Bool) (K : Ex → Frame → M α) :
    evC T (env k) k bind_Check.u11.c (frameL [(4, .ptr (some x0)), (5, .map x1), (6, .int .i64 x2), (7, .ptr (some x3)), (14, .slice x4), (15, .int .i64 x5), (16, .int .i64 x6), (36, .bool x7)]) K =
      bind_Check.u11.f k x0 x1 x2 x3 x4 x5 x6 x7 (fun y0 y1 y2 y3 y4 y5 => K .normal (frameL [(4, .ptr (some y0)), (5, .map y1), (7, .ptr (some y2)), (14, .slice y3), (15, .int .i64 y4), (16, .int .i64 y5)])) (fun y0 y1 => K .ret (frameL [(2, .int .i64 y0), (3, .int .i64 y1)])) :=
  (bind_Check.u9.ok k x0 x1 x2 x3 x4 x5 x6 x7 bind_Check.u10.c K).trans
    (congrArg (fun z => bind_Check.u9.f k x0 x1 x2 x3 x4 x5 x6 x7 z) (funext fun y0 => (funext fun y1 => (funext fun y2 => (funext fun y3 => (funext fun y4 => (funext fun y5 => (funext fun y6 => (funext fun y7 => bind_Check.u10.ok k y0 y1 y2 y3 y4 y5 y6 y7 K)))))))))
theorem bind_Check.u12.ok (k : Nat) (x0 : Ad) (x1 : Option Nat) (x2 : Int) (x3 : Ad) (x4 : Sl) (x5 : Int) (x6 : Int) (x7 : Bool) (K : Ex → Frame → M α) :
    evC T (env k) k bind_Check.u12.c (frameL [(4, .ptr (some x0)), (5, .map x1), (6, .int .i64 x2), (7, .ptr (some x3)), (14, .slice x4), (15, .int .i64 x5), (16, .int .i64 x6), (36, .bool x7)]) K =
      bind_Check.u12.f k x0 x1 x2 x3 x4 x5 x6 x7 (fun y0 y1 y2 y3 y4 y5 => K .normal (frameL [(4, .ptr (some y0)), (5, .map y1), (7, .ptr (some y2)), (14, .slice y3), (15, .int .i64 y4), (16, .int .i64 y5)])) (fun y0 y1 => K .ret (frameL [(2, .int .i64 y0), (3, .int .i64 y1)])) :=
  evC_cond_run (g := x7) (by kernel_rfl) (bind_Check.u8.ok k x0 x1 x2 x3 x4 x5 x6 x7 K) (bind_Check.u11.ok k x0 x1 x2 x3 x4 x5 x6 x7 K)
theorem bind_Check.u13.ok (k : Nat) (x0 : Ad) (x1 : Option Nat) (x2 : Int) (x3 : Ad) (x4 : Sl) (x5 : Int) (x6 : Int) (x7 : Bool) (K : Ex → Frame → M α) :
    evC T (env k) k bind_Check.u13.c (frameL [(4, .ptr (some x0)), (5, .map x1), (6, .int .i64 x2), (7, .ptr (some x3)), (14, .slice x4), (15, .int .i64 x5), (16, .int .i64 x6), (21, .bool x7)]) K =
      bind_Check.u13.f k x0 x1 x2 x3 x4 x5 x6 x7 (fun y0 y1 y2 y3 y4 y5 => K .normal (frameL [(4, .ptr (some y0)), (5, .map y1), (7, .ptr (some y2)), (14, .slice y3), (15, .int .i64 y4), (16, .int .i64 y5)])) (fun y0 y1 => K .ret (frameL [(2, .int .i64 y0), (3, .int .i64 y1)])) :=
  (bind_Check.u7.ok k x0 x1 x2 x3 x4 x5 x6 x7 bind_Check.u12.c K).trans
    (congrArg (fun z => bind_Check.u7.f k x0 x1 x2 x3 x4 x5 x6 x7 z) (funext fun y0 => (funext fun y1 => (funext fun y2 => (funext fun y3 => (funext fun y4 => (funext fun y5 => (funext fun y6 => (funext fun y7 => bind_Check.u12.ok k y0 y1 y2 y3 y4 y5 y6 y7 K)))))))))
theorem bind_Check.u14.ok (k : Nat) (x0 : Ad) (x1 : Option Nat) (x2 : Int) (x3 : Ad) (x4 : Sl) (x5 : Int) (x6 : Int) (x7 : Bool) (K : Ex → Frame → M α) :
    evC T (env k) k bind_Check.u14.c (frameL [(4, .ptr (some x0)), (5, .map x1), (6, .int .i64 x2), (7, .ptr (some x3)), (14, .slice x4), (15, .int .i64 x5), (16, .int .i64 x6), (21, .bool x7)]) K =
      bind_Check.u14.f k x0 x1 x2 x3 x4 x5 x6 x7 (fun y0 y1 y2 y3 y4 y5 => K .normal (frameL [(4, .ptr (some y0)), (5, .map y1), (7, .ptr (some y2)), (14, .slice y3), (15, .int .i64 y4), (16, .int .i64 y5)])) (fun y0 y1 => K .ret (frameL [(2, .int .i64 y0), (3, .int .i64 y1)])) :=
  evC_cond_run (g := x7) (by kernel_rfl) (bind_Check.u6.ok k x0 x1 x2 x3 x4 x5 x6 x7 K) (bind_Check.u13.ok k x0 x1 x2 x3 x4 x5 x6 x7 K)
theorem bind_Check.u15.ok (k : Nat) (x0 : Ad) (x1 : Option Nat) (x2 : Int) (x3 : Ad) (x4 : Sl) (x5 : Int) (x6 : Int) (K : Ex → Frame → M α) :
    evC T (env k) k bind_Check.u15.c (frameL [(4, .ptr (some x0)), (5, .map x1), (6, .int .i64 x2), (7, .ptr (some x3)), (14, .slice x4), (15, .int .i64 x5), (16, .int .i64 x6)]) K =
      bind_Check.u15.f k x0 x1 x2 x3 x4 x5 x6 (fun y0 y1 y2 y3 y4 y5 => K .normal (frameL [(4, .ptr (some y0)), (5, .map y1), (7, .ptr (some y2)), (14, .slice y3), (15, .int .i64 y4), (16, .int .i64 y5)])) (fun y0 y1 => K .ret (frameL [(2, .int .i64 y0), (3, .int .i64 y1)])) :=
  (bind_Check.u5.ok k x0 x1 x2 x3 x4 x5 x6 bind_Check.u14.c K).trans
    (congrArg (fun z => bind_Check.u5.f k x0 x1 x2 x3 x4 x5 x6 z) (funext fun y0 => (funext fun y1 => (funext fun y2 => (funext fun y3 => (funext fun y4 => (funext fun y5 => (funext fun y6 => (funext fun y7 => bind_Check.u14.ok k y0 y1 y2 y3 y4 y5 y6 y7 K)))))))))
theorem bind_Check.u16.ok (k : Nat) (x0 : Ad) (x1 : Option Nat) (x2 : Int) (x3 : Ad) (x4 : Sl) (x5 : Int) (x6 : Int) (K : Ex → Frame → M α) :
    evC T (env k) k bind_Check.u16.c (frameL [(4, .ptr (some x0)), (5, .map x1), (6, .int .i64 x2), (7, .ptr (some x3)), (14, .slice x4), (15, .int .i64 x5), (16, .int .i64 x6)]) K =
      bind_Check.u16.f k x0 x1 x2 x3 x4 x5 x6 (fun y0 y1 y2 y3 y4 y5 => K .normal (frameL [(4, .ptr (some y0)), (5, .map y1), (7, .ptr (some y2)), (14, .slice y3), (15, .int .i64 y4), (16, .int .i64 y5)])) (fun y0 y1 => K .ret (frameL [(2, .int .i64 y0), (3, .int .i64 y1)])) :=
  (evC_block.trans (bind_Check.u15.ok k x0 x1 x2 x3 x4 x5 x6 (blockK 2 K))).trans (by kernel_rfl)
theorem bind_Check.u17.ok (k : Nat) (x0 : Ad) (x1 : Option Nat) (x2 : Ad) (x3 : Sl) (x4 : Int) (x5 : Int) (K : Ex → Frame → M α) :
    evC T (env k) k bind_Check.u17.c (frameL [(4, .ptr (some x0)), (5, .map x1), (7, .ptr (some x2)), (14, .slice x3), (15, .int .i64 x4), (16, .int .i64 x5)]) K =
      bind_Check.u17.f k x0 x1 x2 x3 x4 x5 (fun y0 y1 y2 y3 y4 => K .normal (frameL [(4, .ptr (some y0)), (5, .map y1), (14, .slice y2), (15, .int .i64 y3), (16, .int .i64 y4)])) := by kernel_rfl
theorem bind_Check.u18.ok (k : Nat) (x0 : Ad) (x1 : Option Nat) (x2 : Int) (x3 : Ad) (x4 : Sl) (x5 : Int) (x6 : Int) (K : Ex → Frame → M α) :
    evC T (env k) k bind_Check.u18.c (frameL [(4, .ptr (some x0)), (5, .map x1), (6, .int .i64 x2), (7, .ptr (some x3)), (14, .slice x4), (15, .int .i64 x5), (16, .int .i64 x6)]) K =
      bind_Check.u18.f k x0 x1 x2 x3 x4 x5 x6 (fun y0 y1 y2 y3 y4 => K .normal (frameL [(4, .ptr (some y0)), (5, .map y1), (14, .slice y2), (15, .int .i64 y3), (16, .int .i64 y4)])) (fun y0 y1 => K .ret (frameL [(2, .int .i64 y0), (3, .int .i64 y1)])) :=
  by
    have h := bind_Check.u16.ok k x0 x1 x2 x3 x4 x5 x6 (seqK (fun ρ => evC T (env k) k bind_Check.u17.c ρ K) K)
    simp only [seqK_normal, seqK_exit, seqK_ret, seqK_pan, bind_Check.u17.ok] at h
    exact evC_seq_of h
theorem bind_Check.u19.ok (k : Nat) (x0 : Ad) (x1 : Option Nat) (x2 : Sl) (x3 : Int) (x4 : Int) (K : Ex → Frame → M α) :
    evC T (env k) k bind_Check.u19.c (frameL [(4, .ptr (some x0)), (5, .map x1), (14, .slice x2), (15, .int .i64 x3), (16, .int .i64 x4)]) K =
      bind_Check.u19.f k x0 x1 x2 x3 x4 (fun y0 y1 y2 y3 y4 => K .normal (frameL [(4, .ptr (some y0)), (5, .map y1), (14, .slice y2), (15, .int .i64 y3), (16, .int .i64 y4)])) (fun y0 y1 => K .ret (frameL [(2, .int .i64 y0), (3, .int .i64 y1)])) :=
  (bind_Check.u4.ok k x0 x1 x2 x3 x4 bind_Check.u18.c K).trans
    (congrArg (fun z => bind_Check.u4.f k x0 x1 x2 x3 x4 z) (funext fun y0 => (funext fun y1 => (funext fun y2 => (funext fun y3 => (funext fun y4 => (funext fun y5 => (funext fun y6 => bind_Check.u18.ok k y0 y1 y2 y3 y4 y5 y6 K))))))))
theorem bind_Check.u20.ok (k : Nat) (x0 : Ad) (x1 : Option Nat) (x2 : Sl) (x3 : Int) (x4 : Int) (K : Ex → Frame → M α) :
    evC T (env k) k bind_Check.u20.c (frameL [(4, .ptr (some x0)), (5, .map x1), (14, .slice x2), (15, .int .i64 x3), (16, .int .i64 x4)]) K =
      bind_Check.u20.f k x0 x1 x2 x3 x4 (fun y0 y1 y2 y3 y4 => K .normal (frameL [(4, .ptr (some y0)), (5, .map y1), (14, .slice y2), (15, .int .i64 y3), (16, .int .i64 y4)])) (fun y0 y1 => K .ret (frameL [(2, .int .i64 y0), (3, .int .i64 y1)])) :=
  (evC_block.trans (bind_Check.u19.ok k x0 x1 x2 x3 x4 (blockK 1 K))).trans (by kernel_rfl)
theorem bind_Check.u21.ok (k : Nat) (x0 : Ad) (x1 : Option Nat) (x2 : Sl) (x3 : Int) (x4 : Int) (K : Ex → Frame → M α) :
    evC T (env k) k bind_Check.u21.c (frameL [(4, .ptr (some x0)), (5, .map x1), (14, .slice x2), (15, .int .i64 x3), (16, .int .i64 x4)]) K =
      bind_Check.u21.f k x0 x1 x2 x3 x4 (fun y0 y1 y2 y3 y4 => K .normal (frameL [(4, .ptr (some y0)), (5, .map y1), (14, .slice y2), (15, .int .i64 y3), (16, .int .i64 y4)])) := by kernel_rfl
theorem bind_Check.u22.ok (k : Nat) (x0 : Ad) (x1 : Option Nat) (x2 : Sl) (x3 : Int) (x4 : Int) (K : Ex → Frame → M α) :
    evC T (env k) k bind_Check.u22.c (frameL [(4, .ptr (some x0)), (5, .map x1), (14, .slice x2), (15, .int .i64 x3), (16, .int .i64 x4)]) K =
      bind_Check.u22.f k x0 x1 x2 x3 x4 (fun y0 y1 y2 y3 y4 => K .normal (frameL [(4, .ptr (some y0)), (5, .map y1), (14, .slice y2), (15, .int .i64 y3), (16, .int .i64 y4)])) (fun y0 y1 => K .ret (frameL [(2, .int .i64 y0), (3, .int .i64 y1)])) :=
  by
    have h := bind_Check.u20.ok k x0 x1 x2 x3 x4 (seqK (fun ρ => evC T (env k) k bind_Check.u21.c ρ K) K)
    simp only [seqK_normal, seqK_exit, seqK_ret, seqK_pan, bind_Check.u21.ok] at h
    exact evC_seq_of h
theorem bind_Check.u23.ok (k : Nat) (x0 : Ad) (x1 : Option Nat) (x2 : Sl) (x3 : Int) (x4 : Int) (K : Ex → Frame → M α) :
    evC T (env k) k bind_Check.u23.c (frameL [(4, .ptr (some x0)), (5, .map x1), (14, .slice x2), (15, .int .i64 x3), (16, .int .i64 x4)]) K =
      bind_Check.u23.f k x0 x1 x2 x3 x4 (fun y0 y1 y2 y3 y4 => K .normal (frameL [(4, .ptr (some y0)), (5, .map y1), (14, .slice y2), (15, .int .i64 y3), (16, .int .i64 y4)])) (fun y0 y1 => K .ret (frameL [(2, .int .i64 y0), (3, .int .i64 y1)])) (K (.exit 0) (frameL [])) :=
  (bind_Check.u3.ok k x0 x1 x2 x3 x4 bind_Check.u22.c K).trans
    (congrArg (fun z => bind_Check.u3.f k x0 x1 x2 x3 x4 z (K (.exit 0) (frameL []))) (funext fun y0 => (funext fun y1 => (funext fun y2 => (funext fun y3 => (funext fun y4 => bind_Check.u22.ok k y0 y1 y2 y3 y4 K))))))
theorem bind_Check.u24.ls (k : Nat) (kr : Int → Int → M α) (kx0 : M α) (j : Nat) (x0 : Ad) (x1 : Option Nat) (x2 : Sl) (x3 : Int) (x4 : Int) : bind_Check.u24.l k kr kx0 (j + 1) x0 x1 x2 x3 x4 =
  bind_Check.u23.f k x0 x1 x2 x3 x4 (fun y0 y1 y2 y3 y4 => bind_Check.u24.l k kr kx0 j y0 y1 y2 y3 y4) kr kx0 := rfl
theorem bind_Check.u24.okl (k : Nat) (K : Ex → Frame → M α) : ∀ (j : Nat) (x0 : Ad) (x1 : Option Nat) (x2 : Sl) (x3 : Int) (x4 : Int),
    evLoop (evC T (env k) k bind_Check.u23.c) [4, 5, 14, 15, 16] j (frameL [(4, .ptr (some x0)), (5, .map x1), (14, .slice x2), (15, .int .i64 x3), (16, .int .i64 x4)]) K = bind_Check.u24.l k (fun y0 y1 => K .ret (frameL [(2, .int .i64 y0), (3, .int .i64 y1)])) (K (.exit 0) (frameL [])) j x0 x1 x2 x3 x4
  | 0, _, _, _, _, _ => rfl
  | j + 1, x0, x1, x2, x3, x4 => by
      have h := bind_Check.u23.ok k x0 x1 x2 x3 x4 (seqK (fun ρ => evLoop (evC T (env k) k bind_Check.u23.c) [4, 5, 14, 15, 16] j ρ K) K)
      simp only [seqK_exit, seqK_ret, seqK_pan, seqK_normal, bind_Check.u24.okl k K j] at h
      exact (evLoop_step (by kernel_rfl) h).trans (bind_Check.u24.ls k (fun y0 y1 => K .ret (frameL [(2, .int .i64 y0), (3, .int .i64 y1)])) (K (.exit 0) (frameL [])) j x0 x1 x2 x3 x4).symm
theorem bind_Check.u24.ok (k : Nat) (x0 : Ad) (x1 : Option Nat) (x2 : Sl) (x3 : Int) (x4 : Int) (K : Ex → Frame → M α) :
    evC T (env k) k bind_Check.u24.c (frameL [(4, .ptr (some x0)), (5, .map x1), (14, .slice x2), (15, .int .i64 x3), (16, .int .i64 x4)]) K =
      bind_Check.u24.f k x0 x1 x2 x3 x4 (fun y0 y1 => K .ret (frameL [(2, .int .i64 y0), (3, .int .i64 y1)])) (K (.exit 0) (frameL [])) :=
  evC_loop.trans <| (evLoop_keep (body := evC T (env k) k bind_Check.u23.c) (keep := [4, 5, 14, 15, 16]) (ρ := (frameL [(4, .ptr (some x0)), (5, .map x1), (14, .slice x2), (15, .int .i64 x3), (16, .int .i64 x4)])) (ρ' := (frameL [(4, .ptr (some x0)), (5, .map x1), (14, .slice x2), (15, .int .i64 x3), (16, .int .i64 x4)])) (by kernel_rfl) k K).trans (bind_Check.u24.okl k K k x0 x1 x2 x3 x4)
theorem bind_Check.u25.ok (k : Nat) (x0 : Ad) (x1 : Option Nat) (x2 : Sl) (x3 : Int) (x4 : Int) (K : Ex → Frame → M α) :
    evC T (env k) k bind_Check.u25.c (frameL [(4, .ptr (some x0)), (5, .map x1), (14, .slice x2), (15, .int .i64 x3), (16, .int .i64 x4)]) K =
      bind_Check.u25.f k x0 x1 x2 x3 x4 (K .normal (frameL [])) (fun y0 y1 => K .ret (frameL [(2, .int .i64 y0), (3, .int .i64 y1)])) :=
  (evC_block.trans (bind_Check.u24.ok k x0 x1 x2 x3 x4 (blockK 0 K))).trans (by kernel_rfl)
theorem bind_Check.u26.ok (k : Nat) (x0 : Sl) (x1 : Ad) (x2 : Option Nat) (K : Ex → Frame → M α) :
    evC T (env k) k bind_Check.u26.c (frameL [(0, .slice x0), (4, .ptr (some x1)), (5, .map x2)]) K =
      bind_Check.u26.f k x0 x1 x2 (K .normal (frameL [])) (fun y0 y1 => K .ret (frameL [(2, .int .i64 y0), (3, .int .i64 y1)])) :=
  (bind_Check.u2.ok k x0 x1 x2 bind_Check.u25.c K).trans
    (congrArg (fun z => bind_Check.u2.f k x0 x1 x2 z) (funext fun y0 => (funext fun y1 => (funext fun y2 => (funext fun y3 => (funext fun y4 => bind_Check.u25.ok k y0 y1 y2 y3 y4 K))))))
theorem bind_Check.u27.ok (k : Nat) (K : Ex → Frame → M α) :
    evC T (env k) k bind_Check.u27.c (frameL []) K =
      bind_Check.u27.f k (fun y0 y1 => K .ret (frameL [(2, .int .i64 y0), (3, .int .i64 y1)])) := by kernel_rfl
theorem bind_Check.u28.ok (k : Nat) (x0 : Sl) (x1 : Ad) (x2 : Option Nat) (K : Ex → Frame → M α) :
    evC T (env k) k bind_Check.u28.c (frameL [(0, .slice x0), (4, .ptr (some x1)), (5, .map x2)]) K =
      bind_Check.u28.f k x0 x1 x2 (fun y0 y1 => K .ret (frameL [(2, .int .i64 y0), (3, .int .i64 y1)])) :=
  by
    have h := bind_Check.u26.ok k x0 x1 x2 (seqK (fun ρ => evC T (env k) k bind_Check.u27.c ρ K) K)
    simp only [seqK_normal, seqK_exit, seqK_ret, seqK_pan, bind_Check.u27.ok] at h
    exact evC_seq_of h
theorem bind_Check.u29.ok (k : Nat) (x0 : Sl) (K : Ex → Frame → M α) :
    evC T (env k) k bind_Check.u29.c (frameL [(0, .slice x0)]) K =
      bind_Check.u29.f k x0 (fun y0 y1 => K .ret (frameL [(2, .int .i64 y0), (3, .int .i64 y1)])) :=
  (bind_Check.u1.ok k x0 bind_Check.u28.c K).trans
    (congrArg (fun z => bind_Check.u1.f k x0 z (fun y0 y1 => K .ret (frameL [(2, .int .i64 y0), (3, .int .i64 y1)]))) (funext fun y0 => (funext fun y1 => (funext fun y2 => bind_Check.u28.ok k y0 y1 y2 K))))
theorem bind_Check.ok (k : Nat) (x0 : Sl) (κ : Res → M α) :
    evF T (env k) k bind_Check.c bind_Check.res [.slice x0] κ = bind_Check.f (k + 1) x0 (fun o0 o1 => κ (.ret (.tuple [.int .i64 o0, .int .i64 o1]))) :=
  (bind_Check.u29.ok k x0 (retK T bind_Check.res κ)).trans (by kernel_rfl)
theorem bind_Check.code : bind_Check.c.code = bodyOf Try.f14 := by kernel_rfl

def bind_Binders.c : IC := bind_Binders.u1.c
def bind_Binders.res : List ResultVar := [(.tmp 2)]
theorem bind_Binders.u1.ok (k : Nat) (x0 : Sl) (K : Ex → Frame → M α) :
    evC T (env k) k bind_Binders.u1.c (frameL [(0, .slice x0)]) K =
      bind_Binders.u1.f k x0 (fun y0 => K .ret (frameL [(2, .slice y0)])) := by kernel_rfl
theorem bind_Binders.ok (k : Nat) (x0 : Sl) (κ : Res → M α) :
    evF T (env k) k bind_Binders.c bind_Binders.res [.slice x0] κ = bind_Binders.f (k + 1) x0 (fun o0 => κ (.ret (.slice o0))) :=
  (bind_Binders.u1.ok k x0 (retK T bind_Binders.res κ)).trans (by kernel_rfl)
theorem bind_Binders.code : bind_Binders.c.code = bodyOf Try.f18 := by kernel_rfl

def w5shown.c : IC := w5shown.u1.c
def w5shown.res : List ResultVar := [(.tmp 0)]
theorem w5shown.u1.ok (k : Nat) (K : Ex → Frame → M α) :
    evC T (env k) k w5shown.u1.c (frameL []) K =
      w5shown.u1.f k (fun y0 => K .ret (frameL [(0, .bool y0)])) := by kernel_rfl
theorem w5shown.ok (k : Nat) (κ : Res → M α) :
    evF T (env k) k w5shown.c w5shown.res [] κ = w5shown.f (k + 1) (fun o0 => κ (.ret (.bool o0))) :=
  (w5shown.u1.ok k (retK T w5shown.res κ)).trans (by kernel_rfl)
theorem w5shown.code : w5shown.c.code = bodyOf Try.f12 := by kernel_rfl

def w5lent.c : IC := w5lent.u1.c
def w5lent.res : List ResultVar := [(.tmp 2)]
theorem w5lent.u1.ok (k : Nat) (x0 : Sl) (K : Ex → Frame → M α) :
    evC T (env k) k w5lent.u1.c (frameL [(0, .slice x0)]) K =
      w5lent.u1.f k x0 (fun y0 => K .ret (frameL [(2, .slice y0)])) := by kernel_rfl
theorem w5lent.ok (k : Nat) (x0 : Sl) (κ : Res → M α) :
    evF T (env k) k w5lent.c w5lent.res [.slice x0] κ = w5lent.f (k + 1) x0 (fun o0 => κ (.ret (.slice o0))) :=
  (w5lent.u1.ok k x0 (retK T w5lent.res κ)).trans (by kernel_rfl)
theorem w5lent.code : w5lent.c.code = bodyOf Try.f13 := by kernel_rfl

def r4Below.c : IC := r4Below.u1.c
def r4Below.res : List ResultVar := [(.tmp 2)]
theorem r4Below.u1.ok (k : Nat) (x0 : Int) (K : Ex → Frame → M α) :
    evC T (env k) k r4Below.u1.c (frameL [(0, .int .i64 x0)]) K =
      r4Below.u1.f k x0 (fun y0 => K .ret (frameL [(2, .int .i64 y0)])) := by kernel_rfl
theorem r4Below.ok (k : Nat) (x0 : Int) (κ : Res → M α) :
    evF T (env k) k r4Below.c r4Below.res [.int .i64 x0] κ = r4Below.f (k + 1) x0 (fun o0 => κ (.ret (.int .i64 o0))) :=
  (r4Below.u1.ok k x0 (retK T r4Below.res κ)).trans (by kernel_rfl)
theorem r4Below.code : r4Below.c.code = bodyOf Try.f28 := by kernel_rfl

def r3Name.c : IC := r3Name.u14.c
def r3Name.res : List ResultVar := [(.tmp 2)]
theorem r3Name.u1.ok (k : Nat) (x0 : List UInt8) (R : IC) (K : Ex → Frame → M α) :
    evC T (env k) k (r3Name.u1.c R) (frameL [(0, .str x0)]) K =
      r3Name.u1.f k x0 (fun y0 => evC T (env k) k R (frameL [(0, .str y0)]) K) (fun y0 => K .ret (frameL [(2, .bool y0)])) := by kernel_rfl
theorem r3Name.u2.ok (k : Nat) (x0 : List UInt8) (R : IC) (K : Ex → Frame → M α) :
    evC T (env k) k (r3Name.u2.c R) (frameL [(0, .str x0)]) K =
      r3Name.u2.f k x0 (fun y0 y1 => evC T (env k) k R (frameL [(0, .str y0), (3, .int .i64 y1)]) K) := by kernel_rfl
theorem r3Name.u3.ok (k : Nat) (x0 : List UInt8) (x1 : Int) (R : IC) (K : Ex → Frame → M α) :
    evC T (env k) k (r3Name.u3.c R) (frameL [(0, .str x0), (3, .int .i64 x1)]) K =
      r3Name.u3.f k x0 x1 (fun y0 y1 => evC T (env k) k R (frameL [(0, .str y0), (3, .int .i64 y1)]) K) (K (.exit 0) (frameL [])) := by kernel_rfl
theorem r3Name.u4.ok (k : Nat) (x0 : List UInt8) (x1 : Int) (K : Ex → Frame → M α) :
    evC T (env k) k r3Name.u4.c (frameL [(0, .str x0), (3, .int .i64 x1)]) K =
      r3Name.u4.f k x0 x1 (fun y0 y1 => K .normal (frameL [(0, .str y0), (3, .int .i64 y1)])) (fun y0 => K .ret (frameL [(2, .bool y0)])) := by kernel_rfl
theorem r3Name.u5.ok (k : Nat) (x0 : List UInt8) (x1 : Int) (K : Ex → Frame → M α) :
    evC T (env k) k r3Name.u5.c (frameL [(0, .str x0), (3, .int .i64 x1)]) K =
      r3Name.u5.f k x0 x1 (fun y0 y1 => K .normal (frameL [(0, .str y0), (3, .int .i64 y1)])) (fun y0 => K .ret (frameL [(2, .bool y0)])) :=
  (evC_block.trans (r3Name.u4.ok k x0 x1 (blockK 1 K))).trans (by kernel_rfl)
theorem r3Name.u6.ok (k : Nat) (x0 : List UInt8) (x1 : Int) (K : Ex → Frame → M α) :
    evC T (env k) k r3Name.u6.c (frameL [(0, .str x0), (3, .int .i64 x1)]) K =
      r3Name.u6.f k x0 x1 (fun y0 y1 => K .normal (frameL [(0, .str y0), (3, .int .i64 y1)])) := by kernel_rfl
theorem r3Name.u7.ok (k : Nat) (x0 : List UInt8) (x1 : Int) (K : Ex → Frame → M α) :
    evC T (env k) k r3Name.u7.c (frameL [(0, .str x0), (3, .int .i64 x1)]) K =
      r3Name.u7.f k x0 x1 (fun y0 y1 => K .normal (frameL [(0, .str y0), (3, .int .i64 y1)])) (fun y0 => K .ret (frameL [(2, .bool y0)])) :=
  by
    have h := r3Name.u5.ok k x0 x1 (seqK (fun ρ => evC T (env k) k r3Name.u6.c ρ K) K)
    simp only [seqK_normal, seqK_exit, seqK_ret, seqK_pan, r3Name.u6.ok] at h
    exact evC_seq_of h
theorem r3Name.u8.ok (k : Nat) (x0 : List UInt8) (x1 : Int) (K : Ex → Frame → M α) :
    evC T (env k) k r3Name.u8.c (frameL [(0, .str x0), (3, .int .i64 x1)]) K =
      r3Name.u8.f k x0 x1 (fun y0 y1 => K .normal (frameL [(0, .str y0), (3, .int .i64 y1)])) (fun y0 => K .ret (frameL [(2, .bool y0)])) (K (.exit 0) (frameL [])) :=
  (r3Name.u3.ok k x0 x1 r3Name.u7.c K).trans
    (congrArg (fun z => r3Name.u3.f k x0 x1 z (K (.exit 0) (frameL []))) (funext fun y0 => (funext fun y1 => r3Name.u7.ok k y0 y1 K)))
theorem r3Name.u9.ls (k : Nat) (kr : Bool → M α) (kx0 : M α) (j : Nat) (x0 : List UInt8) (x1 : Int) : r3Name.u9.l k kr kx0 (j + 1) x0 x1 =
  r3Name.u8.f k x0 x1 (fun y0 y1 => r3Name.u9.l k kr kx0 j y0 y1) kr kx0 := rfl
theorem r3Name.u9.okl (k : Nat) (K : Ex → Frame → M α) : ∀ (j : Nat) (x0 : List UInt8) (x1 : Int),
    evLoop (evC T (env k) k r3Name.u8.c) [0, 3] j (frameL [(0, .str x0), (3, .int .i64 x1)]) K = r3Name.u9.l k (fun y0 => K .ret (frameL [(2, .bool y0)])) (K (.exit 0) (frameL [])) j x0 x1
  | 0, _, _ => rfl
  | j + 1, x0, x1 => by
      have h := r3Name.u8.ok k x0 x1 (seqK (fun ρ => evLoop (evC T (env k) k r3Name.u8.c) [0, 3] j ρ K) K)
      simp only [seqK_exit, seqK_ret, seqK_pan, seqK_normal, r3Name.u9.okl k K j] at h
      exact (evLoop_step (by kernel_rfl) h).trans (r3Name.u9.ls k (fun y0 => K .ret (frameL [(2, .bool y0)])) (K (.exit 0) (frameL [])) j x0 x1).symm
theorem r3Name.u9.ok (k : Nat) (x0 : List UInt8) (x1 : Int) (K : Ex → Frame → M α) :
    evC T (env k) k r3Name.u9.c (frameL [(0, .str x0), (3, .int .i64 x1)]) K =
      r3Name.u9.f k x0 x1 (fun y0 => K .ret (frameL [(2, .bool y0)])) (K (.exit 0) (frameL [])) :=
  evC_loop.trans <| (evLoop_keep (body := evC T (env k) k r3Name.u8.c) (keep := [0, 3]) (ρ := (frameL [(0, .str x0), (3, .int .i64 x1)])) (ρ' := (frameL [(0, .str x0), (3, .int .i64 x1)])) (by kernel_rfl) k K).trans (r3Name.u9.okl k K k x0 x1)
theorem r3Name.u10.ok (k : Nat) (x0 : List UInt8) (x1 : Int) (K : Ex → Frame → M α) :
    evC T (env k) k r3Name.u10.c (frameL [(0, .str x0), (3, .int .i64 x1)]) K =
      r3Name.u10.f k x0 x1 (K .normal (frameL [])) (fun y0 => K .ret (frameL [(2, .bool y0)])) :=
  (evC_block.trans (r3Name.u9.ok k x0 x1 (blockK 0 K))).trans (by kernel_rfl)
theorem r3Name.u11.ok (k : Nat) (x0 : List UInt8) (K : Ex → Frame → M α) :
    evC T (env k) k r3Name.u11.c (frameL [(0, .str x0)]) K =
      r3Name.u11.f k x0 (K .normal (frameL [])) (fun y0 => K .ret (frameL [(2, .bool y0)])) :=
  (r3Name.u2.ok k x0 r3Name.u10.c K).trans
    (congrArg (fun z => r3Name.u2.f k x0 z) (funext fun y0 => (funext fun y1 => r3Name.u10.ok k y0 y1 K)))
theorem r3Name.u12.ok (k : Nat) (K : Ex → Frame → M α) :
    evC T (env k) k r3Name.u12.c (frameL []) K =
      r3Name.u12.f k (fun y0 => K .ret (frameL [(2, .bool y0)])) := by kernel_rfl
theorem r3Name.u13.ok (k : Nat) (x0 : List UInt8) (K : Ex → Frame → M α) :
    evC T (env k) k r3Name.u13.c (frameL [(0, .str x0)]) K =
      r3Name.u13.f k x0 (fun y0 => K .ret (frameL [(2, .bool y0)])) :=
  by
    have h := r3Name.u11.ok k x0 (seqK (fun ρ => evC T (env k) k r3Name.u12.c ρ K) K)
    simp only [seqK_normal, seqK_exit, seqK_ret, seqK_pan, r3Name.u12.ok] at h
    exact evC_seq_of h
theorem r3Name.u14.ok (k : Nat) (x0 : List UInt8) (K : Ex → Frame → M α) :
    evC T (env k) k r3Name.u14.c (frameL [(0, .str x0)]) K =
      r3Name.u14.f k x0 (fun y0 => K .ret (frameL [(2, .bool y0)])) :=
  (r3Name.u1.ok k x0 r3Name.u13.c K).trans
    (congrArg (fun z => r3Name.u1.f k x0 z (fun y0 => K .ret (frameL [(2, .bool y0)]))) (funext fun y0 => r3Name.u13.ok k y0 K))
theorem r3Name.ok (k : Nat) (x0 : List UInt8) (κ : Res → M α) :
    evF T (env k) k r3Name.c r3Name.res [.str x0] κ = r3Name.f (k + 1) x0 (fun o0 => κ (.ret (.bool o0))) :=
  (r3Name.u14.ok k x0 (retK T r3Name.res κ)).trans (by kernel_rfl)
theorem r3Name.code : r3Name.c.code = bodyOf Try.f54 := by kernel_rfl

def r4Variable.c : IC := r4Variable.u1.c
def r4Variable.res : List ResultVar := [(.tmp 2)]
theorem r4Variable.u1.ok (k : Nat) (x0 : List UInt8) (K : Ex → Frame → M α) :
    evC T (env k) k r4Variable.u1.c (frameL [(0, .str x0)]) K =
      r4Variable.u1.f k x0 (fun y0 => K .ret (frameL [(2, .bool y0)])) := by kernel_rfl
theorem r4Variable.ok (k : Nat) (x0 : List UInt8) (κ : Res → M α) :
    evF T (env k) k r4Variable.c r4Variable.res [.str x0] κ = r4Variable.f (k + 1) x0 (fun o0 => κ (.ret (.bool o0))) :=
  (r4Variable.u1.ok k x0 (retK T r4Variable.res κ)).trans (by kernel_rfl)
theorem r4Variable.code : r4Variable.c.code = bodyOf Try.f55 := by kernel_rfl

def r4named.c : IC := r4named.u1.c
def r4named.res : List ResultVar := [(.tmp 2)]
theorem r4named.u1.ok (k : Nat) (x0 : Int) (x1 : Int) (x2 : Int) (x3 : List UInt8) (x4 : Int) (K : Ex → Frame → M α) :
    evC T (env k) k r4named.u1.c (frameL [(0, .agg [.int .i64 x0, .int .i64 x1, .int .i64 x2, .str x3, .int .i64 x4])]) K =
      r4named.u1.f k x0 x1 x2 x3 x4 (fun y0 => K .ret (frameL [(2, .bool y0)])) := by kernel_rfl
theorem r4named.ok (k : Nat) (x0 : Int) (x1 : Int) (x2 : Int) (x3 : List UInt8) (x4 : Int) (κ : Res → M α) :
    evF T (env k) k r4named.c r4named.res [.agg [.int .i64 x0, .int .i64 x1, .int .i64 x2, .str x3, .int .i64 x4]] κ = r4named.f (k + 1) x0 x1 x2 x3 x4 (fun o0 => κ (.ret (.bool o0))) :=
  (r4named.u1.ok k x0 x1 x2 x3 x4 (retK T r4named.res κ)).trans (by kernel_rfl)
theorem r4named.code : r4named.c.code = bodyOf Try.f40 := by kernel_rfl

def r4Right.c : IC := r4Right.u16.c
def r4Right.res : List ResultVar := [(.tmp 2)]
theorem r4Right.u1.ok (k : Nat) (x0 : Sl) (R : IC) (K : Ex → Frame → M α) :
    evC T (env k) k (r4Right.u1.c R) (frameL [(0, .slice x0)]) K =
      r4Right.u1.f k x0 (fun y0 y1 => evC T (env k) k R (frameL [(0, .slice y0), (3, .slice y1)]) K) (fun y0 => K .ret (frameL [(2, .bool y0)])) := by kernel_rfl
theorem r4Right.u2.ok (k : Nat) (x0 : Sl) (x1 : Sl) (R : IC) (K : Ex → Frame → M α) :
    evC T (env k) k (r4Right.u2.c R) (frameL [(0, .slice x0), (3, .slice x1)]) K =
      r4Right.u2.f k x0 x1 (fun y0 y1 y2 => evC T (env k) k R (frameL [(0, .slice y0), (3, .slice y1), (4, .int .i64 y2)]) K) := by kernel_rfl
theorem r4Right.u3.ok (k : Nat) (x0 : Sl) (x1 : Sl) (x2 : Int) (R : IC) (K : Ex → Frame → M α) :
    evC T (env k) k (r4Right.u3.c R) (frameL [(0, .slice x0), (3, .slice x1), (4, .int .i64 x2)]) K =
      r4Right.u3.f k x0 x1 x2 (fun y0 y1 y2 => evC T (env k) k R (frameL [(0, .slice y0), (3, .slice y1), (4, .int .i64 y2)]) K) (fun y0 => K (.exit 0) (frameL [(3, .slice y0)])) := by kernel_rfl
theorem r4Right.u4.ok (k : Nat) (x0 : Sl) (x1 : Sl) (x2 : Int) (R : IC) (K : Ex → Frame → M α) :
    evC T (env k) k (r4Right.u4.c R) (frameL [(0, .slice x0), (3, .slice x1), (4, .int .i64 x2)]) K =
      r4Right.u4.f k x0 x1 x2 (fun y0 y1 y2 y3 y4 => evC T (env k) k R (frameL [(0, .slice y0), (3, .slice y1), (4, .int .i64 y2), (5, .int .i64 y3), (7, .int .i64 y4)]) K) (fun y0 => K .ret (frameL [(2, .bool y0)])) := by kernel_rfl
theorem r4Right.u5.ok (k : Nat) (x0 : Sl) (x1 : Sl) (x2 : Int) (x3 : Int) (x4 : Int) (K : Ex → Frame → M α) :
    evC T (env k) k r4Right.u5.c (frameL [(0, .slice x0), (3, .slice x1), (4, .int .i64 x2), (5, .int .i64 x3), (7, .int .i64 x4)]) K =
      r4Right.u5.f k x0 x1 x2 x3 x4 (fun y0 y1 y2 => K .normal (frameL [(0, .slice y0), (3, .slice y1), (4, .int .i64 y2)])) (fun y0 => K .ret (frameL [(2, .bool y0)])) := by kernel_rfl
theorem r4Right.u6.ok (k : Nat) (x0 : Sl) (x1 : Sl) (x2 : Int) (K : Ex → Frame → M α) :
    evC T (env k) k r4Right.u6.c (frameL [(0, .slice x0), (3, .slice x1), (4, .int .i64 x2)]) K =
      r4Right.u6.f k x0 x1 x2 (fun y0 y1 y2 => K .normal (frameL [(0, .slice y0), (3, .slice y1), (4, .int .i64 y2)])) (fun y0 => K .ret (frameL [(2, .bool y0)])) :=
  (r4Right.u4.ok k x0 x1 x2 r4Right.u5.c K).trans
    (congrArg (fun z => r4Right.u4.f k x0 x1 x2 z (fun y0 => K .ret (frameL [(2, .bool y0)]))) (funext fun y0 => (funext fun y1 => (funext fun y2 => (funext fun y3 => (funext fun y4 => r4Right.u5.ok k y0 y1 y2 y3 y4 K))))))
theorem r4Right.u7.ok (k : Nat) (x0 : Sl) (x1 : Sl) (x2 : Int) (K : Ex → Frame → M α) :
    evC T (env k) k r4Right.u7.c (frameL [(0, .slice x0), (3, .slice x1), (4, .int .i64 x2)]) K =
      r4Right.u7.f k x0 x1 x2 (fun y0 y1 y2 => K .normal (frameL [(0, .slice y0), (3, .slice y1), (4, .int .i64 y2)])) (fun y0 => K .ret (frameL [(2, .bool y0)])) :=
  (evC_block.trans (r4Right.u6.ok k x0 x1 x2 (blockK 1 K))).trans (by kernel_rfl)
theorem r4Right.u8.ok (k : Nat) (x0 : Sl) (x1 : Sl) (x2 : Int) (K : Ex → Frame → M α) :
    evC T (env k) k r4Right.u8.c (frameL [(0, .slice x0), (3, .slice x1), (4, .int .i64 x2)]) K =
      r4Right.u8.f k x0 x1 x2 (fun y0 y1 y2 => K .normal (frameL [(0, .slice y0), (3, .slice y1), (4, .int .i64 y2)])) := by kernel_rfl
theorem r4Right.u9.ok (k : Nat) (x0 : Sl) (x1 : Sl) (x2 : Int) (K : Ex → Frame → M α) :
    evC T (env k) k r4Right.u9.c (frameL [(0, .slice x0), (3, .slice x1), (4, .int .i64 x2)]) K =
      r4Right.u9.f k x0 x1 x2 (fun y0 y1 y2 => K .normal (frameL [(0, .slice y0), (3, .slice y1), (4, .int .i64 y2)])) (fun y0 => K .ret (frameL [(2, .bool y0)])) :=
  by
    have h := r4Right.u7.ok k x0 x1 x2 (seqK (fun ρ => evC T (env k) k r4Right.u8.c ρ K) K)
    simp only [seqK_normal, seqK_exit, seqK_ret, seqK_pan, r4Right.u8.ok] at h
    exact evC_seq_of h
theorem r4Right.u10.ok (k : Nat) (x0 : Sl) (x1 : Sl) (x2 : Int) (K : Ex → Frame → M α) :
    evC T (env k) k r4Right.u10.c (frameL [(0, .slice x0), (3, .slice x1), (4, .int .i64 x2)]) K =
      r4Right.u10.f k x0 x1 x2 (fun y0 y1 y2 => K .normal (frameL [(0, .slice y0), (3, .slice y1), (4, .int .i64 y2)])) (fun y0 => K .ret (frameL [(2, .bool y0)])) (fun y0 => K (.exit 0) (frameL [(3, .slice y0)])) :=
  (r4Right.u3.ok k x0 x1 x2 r4Right.u9.c K).trans
    (congrArg (fun z => r4Right.u3.f k x0 x1 x2 z (fun y0 => K (.exit 0) (frameL [(3, .slice y0)]))) (funext fun y0 => (funext fun y1 => (funext fun y2 => r4Right.u9.ok k y0 y1 y2 K))))
theorem r4Right.u11.ls (k : Nat) (kr : Bool → M α) (kx0 : Sl → M α) (j : Nat) (x0 : Sl) (x1 : Sl) (x2 : Int) : r4Right.u11.l k kr kx0 (j + 1) x0 x1 x2 =
  r4Right.u10.f k x0 x1 x2 (fun y0 y1 y2 => r4Right.u11.l k kr kx0 j y0 y1 y2) kr kx0 := rfl
theorem r4Right.u11.okl (k : Nat) (K : Ex → Frame → M α) : ∀ (j : Nat) (x0 : Sl) (x1 : Sl) (x2 : Int),
    evLoop (evC T (env k) k r4Right.u10.c) [0, 3, 4] j (frameL [(0, .slice x0), (3, .slice x1), (4, .int .i64 x2)]) K = r4Right.u11.l k (fun y0 => K .ret (frameL [(2, .bool y0)])) (fun y0 => K (.exit 0) (frameL [(3, .slice y0)])) j x0 x1 x2
  | 0, _, _, _ => rfl
  | j + 1, x0, x1, x2 => by
      have h := r4Right.u10.ok k x0 x1 x2 (seqK (fun ρ => evLoop (evC T (env k) k r4Right.u10.c) [0, 3, 4] j ρ K) K)
      simp only [seqK_exit, seqK_ret, seqK_pan, seqK_normal, r4Right.u11.okl k K j] at h
      exact (evLoop_step (by kernel_rfl) h).trans (r4Right.u11.ls k (fun y0 => K .ret (frameL [(2, .bool y0)])) (fun y0 => K (.exit 0) (frameL [(3, .slice y0)])) j x0 x1 x2).symm
theorem r4Right.u11.ok (k : Nat) (x0 : Sl) (x1 : Sl) (x2 : Int) (K : Ex → Frame → M α) :
    evC T (env k) k r4Right.u11.c (frameL [(0, .slice x0), (3, .slice x1), (4, .int .i64 x2)]) K =
      r4Right.u11.f k x0 x1 x2 (fun y0 => K .ret (frameL [(2, .bool y0)])) (fun y0 => K (.exit 0) (frameL [(3, .slice y0)])) :=
  evC_loop.trans <| (evLoop_keep (body := evC T (env k) k r4Right.u10.c) (keep := [0, 3, 4]) (ρ := (frameL [(0, .slice x0), (3, .slice x1), (4, .int .i64 x2)])) (ρ' := (frameL [(0, .slice x0), (3, .slice x1), (4, .int .i64 x2)])) (by kernel_rfl) k K).trans (r4Right.u11.okl k K k x0 x1 x2)
theorem r4Right.u12.ok (k : Nat) (x0 : Sl) (x1 : Sl) (x2 : Int) (K : Ex → Frame → M α) :
    evC T (env k) k r4Right.u12.c (frameL [(0, .slice x0), (3, .slice x1), (4, .int .i64 x2)]) K =
      r4Right.u12.f k x0 x1 x2 (fun y0 => K .normal (frameL [(3, .slice y0)])) (fun y0 => K .ret (frameL [(2, .bool y0)])) :=
  (evC_block.trans (r4Right.u11.ok k x0 x1 x2 (blockK 0 K))).trans (by kernel_rfl)
theorem r4Right.u13.ok (k : Nat) (x0 : Sl) (x1 : Sl) (K : Ex → Frame → M α) :
    evC T (env k) k r4Right.u13.c (frameL [(0, .slice x0), (3, .slice x1)]) K =
      r4Right.u13.f k x0 x1 (fun y0 => K .normal (frameL [(3, .slice y0)])) (fun y0 => K .ret (frameL [(2, .bool y0)])) :=
  (r4Right.u2.ok k x0 x1 r4Right.u12.c K).trans
    (congrArg (fun z => r4Right.u2.f k x0 x1 z) (funext fun y0 => (funext fun y1 => (funext fun y2 => r4Right.u12.ok k y0 y1 y2 K))))
theorem r4Right.u14.ok (k : Nat) (x0 : Sl) (K : Ex → Frame → M α) :
    evC T (env k) k r4Right.u14.c (frameL [(3, .slice x0)]) K =
      r4Right.u14.f k x0 (fun y0 => K .ret (frameL [(2, .bool y0)])) := by kernel_rfl
theorem r4Right.u15.ok (k : Nat) (x0 : Sl) (x1 : Sl) (K : Ex → Frame → M α) :
    evC T (env k) k r4Right.u15.c (frameL [(0, .slice x0), (3, .slice x1)]) K =
      r4Right.u15.f k x0 x1 (fun y0 => K .ret (frameL [(2, .bool y0)])) :=
  by
    have h := r4Right.u13.ok k x0 x1 (seqK (fun ρ => evC T (env k) k r4Right.u14.c ρ K) K)
    simp only [seqK_normal, seqK_exit, seqK_ret, seqK_pan, r4Right.u14.ok] at h
    exact evC_seq_of h
theorem r4Right.u16.ok (k : Nat) (x0 : Sl) (K : Ex → Frame → M α) :
    evC T (env k) k r4Right.u16.c (frameL [(0, .slice x0)]) K =
      r4Right.u16.f k x0 (fun y0 => K .ret (frameL [(2, .bool y0)])) :=
  (r4Right.u1.ok k x0 r4Right.u15.c K).trans
    (congrArg (fun z => r4Right.u1.f k x0 z (fun y0 => K .ret (frameL [(2, .bool y0)]))) (funext fun y0 => (funext fun y1 => r4Right.u15.ok k y0 y1 K)))
theorem r4Right.ok (k : Nat) (x0 : Sl) (κ : Res → M α) :
    evF T (env k) k r4Right.c r4Right.res [.slice x0] κ = r4Right.f (k + 1) x0 (fun o0 => κ (.ret (.bool o0))) :=
  (r4Right.u16.ok k x0 (retK T r4Right.res κ)).trans (by kernel_rfl)
theorem r4Right.code : r4Right.c.code = bodyOf Try.f24 := by kernel_rfl

def r5Up.c : IC := r5Up.u15.c
def r5Up.res : List ResultVar := [(.tmp 2)]
theorem r5Up.u1.ok (k : Nat) (x0 : Sl) (R : IC) (K : Ex → Frame → M α) :
    evC T (env k) k (r5Up.u1.c R) (frameL [(0, .slice x0)]) K =
      r5Up.u1.f k x0 (fun y0 y1 => evC T (env k) k R (frameL [(0, .slice y0), (3, .slice y1)]) K) := by kernel_rfl
theorem r5Up.u2.ok (k : Nat) (x0 : Sl) (x1 : Sl) (R : IC) (K : Ex → Frame → M α) :
    evC T (env k) k (r5Up.u2.c R) (frameL [(0, .slice x0), (3, .slice x1)]) K =
      r5Up.u2.f k x0 x1 (fun y0 y1 y2 => evC T (env k) k R (frameL [(0, .slice y0), (3, .slice y1), (4, .int .i64 y2)]) K) := by kernel_rfl
theorem r5Up.u3.ok (k : Nat) (x0 : Sl) (x1 : Sl) (x2 : Int) (K : Ex → Frame → M α) :
    evC T (env k) k r5Up.u3.c (frameL [(0, .slice x0), (3, .slice x1), (4, .int .i64 x2)]) K =
      r5Up.u3.f k x0 x1 x2 (fun y0 y1 y2 => K .normal (frameL [(0, .slice y0), (3, .slice y1), (4, .int .i64 y2)])) (fun y0 y1 => K (.exit 0) (frameL [(0, .slice y0), (3, .slice y1)])) := by kernel_rfl
theorem r5Up.u4.ls (k : Nat) (kx0 : Sl → Sl → M α) (j : Nat) (x0 : Sl) (x1 : Sl) (x2 : Int) : r5Up.u4.l k kx0 (j + 1) x0 x1 x2 =
  r5Up.u3.f k x0 x1 x2 (fun y0 y1 y2 => r5Up.u4.l k kx0 j y0 y1 y2) kx0 := rfl
theorem r5Up.u4.okl (k : Nat) (K : Ex → Frame → M α) : ∀ (j : Nat) (x0 : Sl) (x1 : Sl) (x2 : Int),
    evLoop (evC T (env k) k r5Up.u3.c) [0, 3, 4] j (frameL [(0, .slice x0), (3, .slice x1), (4, .int .i64 x2)]) K = r5Up.u4.l k (fun y0 y1 => K (.exit 0) (frameL [(0, .slice y0), (3, .slice y1)])) j x0 x1 x2
  | 0, _, _, _ => rfl
  | j + 1, x0, x1, x2 => by
      have h := r5Up.u3.ok k x0 x1 x2 (seqK (fun ρ => evLoop (evC T (env k) k r5Up.u3.c) [0, 3, 4] j ρ K) K)
      simp only [seqK_exit, seqK_ret, seqK_pan, seqK_normal, r5Up.u4.okl k K j] at h
      exact (evLoop_step (by kernel_rfl) h).trans (r5Up.u4.ls k (fun y0 y1 => K (.exit 0) (frameL [(0, .slice y0), (3, .slice y1)])) j x0 x1 x2).symm
theorem r5Up.u4.ok (k : Nat) (x0 : Sl) (x1 : Sl) (x2 : Int) (K : Ex → Frame → M α) :
    evC T (env k) k r5Up.u4.c (frameL [(0, .slice x0), (3, .slice x1), (4, .int .i64 x2)]) K =
      r5Up.u4.f k x0 x1 x2 (fun y0 y1 => K (.exit 0) (frameL [(0, .slice y0), (3, .slice y1)])) :=
  evC_loop.trans <| (evLoop_keep (body := evC T (env k) k r5Up.u3.c) (keep := [0, 3, 4]) (ρ := (frameL [(0, .slice x0), (3, .slice x1), (4, .int .i64 x2)])) (ρ' := (frameL [(0, .slice x0), (3, .slice x1), (4, .int .i64 x2)])) (by kernel_rfl) k K).trans (r5Up.u4.okl k K k x0 x1 x2)
theorem r5Up.u5.ok (k : Nat) (x0 : Sl) (x1 : Sl) (x2 : Int) (K : Ex → Frame → M α) :
    evC T (env k) k r5Up.u5.c (frameL [(0, .slice x0), (3, .slice x1), (4, .int .i64 x2)]) K =
      r5Up.u5.f k x0 x1 x2 (fun y0 y1 => K .normal (frameL [(0, .slice y0), (3, .slice y1)])) :=
  (evC_block.trans (r5Up.u4.ok k x0 x1 x2 (blockK 0 K))).trans (by kernel_rfl)
theorem r5Up.u6.ok (k : Nat) (x0 : Sl) (x1 : Sl) (K : Ex → Frame → M α) :
    evC T (env k) k r5Up.u6.c (frameL [(0, .slice x0), (3, .slice x1)]) K =
      r5Up.u6.f k x0 x1 (fun y0 y1 => K .normal (frameL [(0, .slice y0), (3, .slice y1)])) :=
  (r5Up.u2.ok k x0 x1 r5Up.u5.c K).trans
    (congrArg (fun z => r5Up.u2.f k x0 x1 z) (funext fun y0 => (funext fun y1 => (funext fun y2 => r5Up.u5.ok k y0 y1 y2 K))))
theorem r5Up.u7.ok (k : Nat) (x0 : Sl) (x1 : Sl) (R : IC) (K : Ex → Frame → M α) :
    evC T (env k) k (r5Up.u7.c R) (frameL [(0, .slice x0), (3, .slice x1)]) K =
      r5Up.u7.f k x0 x1 (fun y0 y1 y2 => evC T (env k) k R (frameL [(0, .slice y0), (3, .slice y1), (5, .int .i64 y2)]) K) := by kernel_rfl
theorem r5Up.u8.ok (k : Nat) (x0 : Sl) (x1 : Sl) (x2 : Int) (K : Ex → Frame → M α) :
    evC T (env k) k r5Up.u8.c (frameL [(0, .slice x0), (3, .slice x1), (5, .int .i64 x2)]) K =
      r5Up.u8.f k x0 x1 x2 (fun y0 y1 y2 => K .normal (frameL [(0, .slice y0), (3, .slice y1), (5, .int .i64 y2)])) (fun y0 => K (.exit 2) (frameL [(3, .slice y0)])) := by kernel_rfl
theorem r5Up.u9.ls (k : Nat) (kx2 : Sl → M α) (j : Nat) (x0 : Sl) (x1 : Sl) (x2 : Int) : r5Up.u9.l k kx2 (j + 1) x0 x1 x2 =
  r5Up.u8.f k x0 x1 x2 (fun y0 y1 y2 => r5Up.u9.l k kx2 j y0 y1 y2) kx2 := rfl
theorem r5Up.u9.okl (k : Nat) (K : Ex → Frame → M α) : ∀ (j : Nat) (x0 : Sl) (x1 : Sl) (x2 : Int),
    evLoop (evC T (env k) k r5Up.u8.c) [0, 3, 5] j (frameL [(0, .slice x0), (3, .slice x1), (5, .int .i64 x2)]) K = r5Up.u9.l k (fun y0 => K (.exit 2) (frameL [(3, .slice y0)])) j x0 x1 x2
  | 0, _, _, _ => rfl
  | j + 1, x0, x1, x2 => by
      have h := r5Up.u8.ok k x0 x1 x2 (seqK (fun ρ => evLoop (evC T (env k) k r5Up.u8.c) [0, 3, 5] j ρ K) K)
      simp only [seqK_exit, seqK_ret, seqK_pan, seqK_normal, r5Up.u9.okl k K j] at h
      exact (evLoop_step (by kernel_rfl) h).trans (r5Up.u9.ls k (fun y0 => K (.exit 2) (frameL [(3, .slice y0)])) j x0 x1 x2).symm
theorem r5Up.u9.ok (k : Nat) (x0 : Sl) (x1 : Sl) (x2 : Int) (K : Ex → Frame → M α) :
    evC T (env k) k r5Up.u9.c (frameL [(0, .slice x0), (3, .slice x1), (5, .int .i64 x2)]) K =
      r5Up.u9.f k x0 x1 x2 (fun y0 => K (.exit 2) (frameL [(3, .slice y0)])) :=
  evC_loop.trans <| (evLoop_keep (body := evC T (env k) k r5Up.u8.c) (keep := [0, 3, 5]) (ρ := (frameL [(0, .slice x0), (3, .slice x1), (5, .int .i64 x2)])) (ρ' := (frameL [(0, .slice x0), (3, .slice x1), (5, .int .i64 x2)])) (by kernel_rfl) k K).trans (r5Up.u9.okl k K k x0 x1 x2)
theorem r5Up.u10.ok (k : Nat) (x0 : Sl) (x1 : Sl) (x2 : Int) (K : Ex → Frame → M α) :
    evC T (env k) k r5Up.u10.c (frameL [(0, .slice x0), (3, .slice x1), (5, .int .i64 x2)]) K =
      r5Up.u10.f k x0 x1 x2 (fun y0 => K .normal (frameL [(3, .slice y0)])) :=
  (evC_block.trans (r5Up.u9.ok k x0 x1 x2 (blockK 2 K))).trans (by kernel_rfl)
theorem r5Up.u11.ok (k : Nat) (x0 : Sl) (x1 : Sl) (K : Ex → Frame → M α) :
    evC T (env k) k r5Up.u11.c (frameL [(0, .slice x0), (3, .slice x1)]) K =
      r5Up.u11.f k x0 x1 (fun y0 => K .normal (frameL [(3, .slice y0)])) :=
  (r5Up.u7.ok k x0 x1 r5Up.u10.c K).trans
    (congrArg (fun z => r5Up.u7.f k x0 x1 z) (funext fun y0 => (funext fun y1 => (funext fun y2 => r5Up.u10.ok k y0 y1 y2 K))))
theorem r5Up.u12.ok (k : Nat) (x0 : Sl) (K : Ex → Frame → M α) :
    evC T (env k) k r5Up.u12.c (frameL [(3, .slice x0)]) K =
      r5Up.u12.f k x0 (fun y0 => K .ret (frameL [(2, .slice y0)])) := by kernel_rfl
theorem r5Up.u13.ok (k : Nat) (x0 : Sl) (x1 : Sl) (K : Ex → Frame → M α) :
    evC T (env k) k r5Up.u13.c (frameL [(0, .slice x0), (3, .slice x1)]) K =
      r5Up.u13.f k x0 x1 (fun y0 => K .ret (frameL [(2, .slice y0)])) :=
  by
    have h := r5Up.u11.ok k x0 x1 (seqK (fun ρ => evC T (env k) k r5Up.u12.c ρ K) K)
    simp only [seqK_normal, seqK_exit, seqK_ret, seqK_pan, r5Up.u12.ok] at h
    exact evC_seq_of h
theorem r5Up.u14.ok (k : Nat) (x0 : Sl) (x1 : Sl) (K : Ex → Frame → M α) :
    evC T (env k) k r5Up.u14.c (frameL [(0, .slice x0), (3, .slice x1)]) K =
      r5Up.u14.f k x0 x1 (fun y0 => K .ret (frameL [(2, .slice y0)])) :=
  by
    have h := r5Up.u6.ok k x0 x1 (seqK (fun ρ => evC T (env k) k r5Up.u13.c ρ K) K)
    simp only [seqK_normal, seqK_exit, seqK_ret, seqK_pan, r5Up.u13.ok] at h
    exact evC_seq_of h
theorem r5Up.u15.ok (k : Nat) (x0 : Sl) (K : Ex → Frame → M α) :
    evC T (env k) k r5Up.u15.c (frameL [(0, .slice x0)]) K =
      r5Up.u15.f k x0 (fun y0 => K .ret (frameL [(2, .slice y0)])) :=
  (r5Up.u1.ok k x0 r5Up.u14.c K).trans
    (congrArg (fun z => r5Up.u1.f k x0 z) (funext fun y0 => (funext fun y1 => r5Up.u14.ok k y0 y1 K)))
theorem r5Up.ok (k : Nat) (x0 : Sl) (κ : Res → M α) :
    evF T (env k) k r5Up.c r5Up.res [.slice x0] κ = r5Up.f (k + 1) x0 (fun o0 => κ (.ret (.slice o0))) :=
  (r5Up.u15.ok k x0 (retK T r5Up.res κ)).trans (by kernel_rfl)
theorem r5Up.code : r5Up.c.code = bodyOf Try.f31 := by kernel_rfl

def r5Fixpoint.c : IC := r5Fixpoint.u1.c
def r5Fixpoint.res : List ResultVar := [(.tmp 2)]
theorem r5Fixpoint.u1.ok (k : Nat) (x0 : Int) (x1 : Int) (x2 : Int) (x3 : List UInt8) (x4 : Int) (K : Ex → Frame → M α) :
    evC T (env k) k r5Fixpoint.u1.c (frameL [(0, .agg [.int .i64 x0, .int .i64 x1, .int .i64 x2, .str x3, .int .i64 x4])]) K =
      r5Fixpoint.u1.f k x0 x1 x2 x3 x4 (fun y0 => K .ret (frameL [(2, .bool y0)])) := by kernel_rfl
theorem r5Fixpoint.ok (k : Nat) (x0 : Int) (x1 : Int) (x2 : Int) (x3 : List UInt8) (x4 : Int) (κ : Res → M α) :
    evF T (env k) k r5Fixpoint.c r5Fixpoint.res [.agg [.int .i64 x0, .int .i64 x1, .int .i64 x2, .str x3, .int .i64 x4]] κ = r5Fixpoint.f (k + 1) x0 x1 x2 x3 x4 (fun o0 => κ (.ret (.bool o0))) :=
  (r5Fixpoint.u1.ok k x0 x1 x2 x3 x4 (retK T r5Fixpoint.res κ)).trans (by kernel_rfl)
theorem r5Fixpoint.code : r5Fixpoint.c.code = bodyOf Try.f34 := by kernel_rfl

def r5deep.c : IC := r5deep.u16.c
def r5deep.res : List ResultVar := [(.tmp 2)]
theorem r5deep.u1.ok (k : Nat) (x0 : Sl) (R : IC) (K : Ex → Frame → M α) :
    evC T (env k) k (r5deep.u1.c R) (frameL [(0, .slice x0)]) K =
      r5deep.u1.f k x0 (fun y0 y1 => evC T (env k) k R (frameL [(0, .slice y0), (3, .slice y1)]) K) := by kernel_rfl
theorem r5deep.u2.ok (k : Nat) (x0 : Sl) (x1 : Sl) (R : IC) (K : Ex → Frame → M α) :
    evC T (env k) k (r5deep.u2.c R) (frameL [(0, .slice x0), (3, .slice x1)]) K =
      r5deep.u2.f k x0 x1 (fun y0 y1 y2 => evC T (env k) k R (frameL [(0, .slice y0), (3, .slice y1), (4, .int .i64 y2)]) K) := by kernel_rfl
theorem r5deep.u3.ok (k : Nat) (x0 : Sl) (x1 : Sl) (x2 : Int) (R : IC) (K : Ex → Frame → M α) :
    evC T (env k) k (r5deep.u3.c R) (frameL [(0, .slice x0), (3, .slice x1), (4, .int .i64 x2)]) K =
      r5deep.u3.f k x0 x1 x2 (fun y0 y1 y2 => evC T (env k) k R (frameL [(0, .slice y0), (3, .slice y1), (4, .int .i64 y2)]) K) (fun y0 => K (.exit 0) (frameL [(3, .slice y0)])) := by kernel_rfl
theorem r5deep.u4.ok (k : Nat) (x0 : Sl) (x1 : Sl) (x2 : Int) (R : IC) (K : Ex → Frame → M α) :
    evC T (env k) k (r5deep.u4.c R) (frameL [(0, .slice x0), (3, .slice x1), (4, .int .i64 x2)]) K =
      r5deep.u4.f k x0 x1 x2 (fun y0 y1 y2 y3 => evC T (env k) k R (frameL [(0, .slice y0), (3, .slice y1), (4, .int .i64 y2), (5, .int .i64 y3)]) K) := by kernel_rfl
theorem r5deep.u5.ok (k : Nat) (x0 : Sl) (x1 : Sl) (x2 : Int) (x3 : Int) (K : Ex → Frame → M α) :
    evC T (env k) k r5deep.u5.c (frameL [(0, .slice x0), (3, .slice x1), (4, .int .i64 x2), (5, .int .i64 x3)]) K =
      r5deep.u5.f k x0 x1 x2 x3 (fun y0 y1 y2 => K .normal (frameL [(0, .slice y0), (3, .slice y1), (4, .int .i64 y2)])) := by kernel_rfl
theorem r5deep.u6.ok (k : Nat) (x0 : Sl) (x1 : Sl) (x2 : Int) (K : Ex → Frame → M α) :
    evC T (env k) k r5deep.u6.c (frameL [(0, .slice x0), (3, .slice x1), (4, .int .i64 x2)]) K =
      r5deep.u6.f k x0 x1 x2 (fun y0 y1 y2 => K .normal (frameL [(0, .slice y0), (3, .slice y1), (4, .int .i64 y2)])) :=
  (r5deep.u4.ok k x0 x1 x2 r5deep.u5.c K).trans
    (congrArg (fun z => r5deep.u4.f k x0 x1 x2 z) (funext fun y0 => (funext fun y1 => (funext fun y2 => (funext fun y3 => r5deep.u5.ok k y0 y1 y2 y3 K)))))
theorem r5deep.u7.ok (k : Nat) (x0 : Sl) (x1 : Sl) (x2 : Int) (K : Ex → Frame → M α) :
    evC T (env k) k r5deep.u7.c (frameL [(0, .slice x0), (3, .slice x1), (4, .int .i64 x2)]) K =
      r5deep.u7.f k x0 x1 x2 (fun y0 y1 y2 => K .normal (frameL [(0, .slice y0), (3, .slice y1), (4, .int .i64 y2)])) :=
  (evC_block.trans (r5deep.u6.ok k x0 x1 x2 (blockK 1 K))).trans (by kernel_rfl)
theorem r5deep.u8.ok (k : Nat) (x0 : Sl) (x1 : Sl) (x2 : Int) (K : Ex → Frame → M α) :
    evC T (env k) k r5deep.u8.c (frameL [(0, .slice x0), (3, .slice x1), (4, .int .i64 x2)]) K =
      r5deep.u8.f k x0 x1 x2 (fun y0 y1 y2 => K .normal (frameL [(0, .slice y0), (3, .slice y1), (4, .int .i64 y2)])) := by kernel_rfl
theorem r5deep.u9.ok (k : Nat) (x0 : Sl) (x1 : Sl) (x2 : Int) (K : Ex → Frame → M α) :
    evC T (env k) k r5deep.u9.c (frameL [(0, .slice x0), (3, .slice x1), (4, .int .i64 x2)]) K =
      r5deep.u9.f k x0 x1 x2 (fun y0 y1 y2 => K .normal (frameL [(0, .slice y0), (3, .slice y1), (4, .int .i64 y2)])) :=
  by
    have h := r5deep.u7.ok k x0 x1 x2 (seqK (fun ρ => evC T (env k) k r5deep.u8.c ρ K) K)
    simp only [seqK_normal, seqK_exit, seqK_ret, seqK_pan, r5deep.u8.ok] at h
    exact evC_seq_of h
theorem r5deep.u10.ok (k : Nat) (x0 : Sl) (x1 : Sl) (x2 : Int) (K : Ex → Frame → M α) :
    evC T (env k) k r5deep.u10.c (frameL [(0, .slice x0), (3, .slice x1), (4, .int .i64 x2)]) K =
      r5deep.u10.f k x0 x1 x2 (fun y0 y1 y2 => K .normal (frameL [(0, .slice y0), (3, .slice y1), (4, .int .i64 y2)])) (fun y0 => K (.exit 0) (frameL [(3, .slice y0)])) :=
  (r5deep.u3.ok k x0 x1 x2 r5deep.u9.c K).trans
    (congrArg (fun z => r5deep.u3.f k x0 x1 x2 z (fun y0 => K (.exit 0) (frameL [(3, .slice y0)]))) (funext fun y0 => (funext fun y1 => (funext fun y2 => r5deep.u9.ok k y0 y1 y2 K))))
theorem r5deep.u11.ls (k : Nat) (kx0 : Sl → M α) (j : Nat) (x0 : Sl) (x1 : Sl) (x2 : Int) : r5deep.u11.l k kx0 (j + 1) x0 x1 x2 =
  r5deep.u10.f k x0 x1 x2 (fun y0 y1 y2 => r5deep.u11.l k kx0 j y0 y1 y2) kx0 := rfl
theorem r5deep.u11.okl (k : Nat) (K : Ex → Frame → M α) : ∀ (j : Nat) (x0 : Sl) (x1 : Sl) (x2 : Int),
    evLoop (evC T (env k) k r5deep.u10.c) [0, 3, 4] j (frameL [(0, .slice x0), (3, .slice x1), (4, .int .i64 x2)]) K = r5deep.u11.l k (fun y0 => K (.exit 0) (frameL [(3, .slice y0)])) j x0 x1 x2
  | 0, _, _, _ => rfl
  | j + 1, x0, x1, x2 => by
      have h := r5deep.u10.ok k x0 x1 x2 (seqK (fun ρ => evLoop (evC T (env k) k r5deep.u10.c) [0, 3, 4] j ρ K) K)
      simp only [seqK_exit, seqK_ret, seqK_pan, seqK_normal, r5deep.u11.okl k K j] at h
      exact (evLoop_step (by kernel_rfl) h).trans (r5deep.u11.ls k (fun y0 => K (.exit 0) (frameL [(3, .slice y0)])) j x0 x1 x2).symm
theorem r5deep.u11.ok (k : Nat) (x0 : Sl) (x1 : Sl) (x2 : Int) (K : Ex → Frame → M α) :
    evC T (env k) k r5deep.u11.c (frameL [(0, .slice x0), (3, .slice x1), (4, .int .i64 x2)]) K =
      r5deep.u11.f k x0 x1 x2 (fun y0 => K (.exit 0) (frameL [(3, .slice y0)])) :=
  evC_loop.trans <| (evLoop_keep (body := evC T (env k) k r5deep.u10.c) (keep := [0, 3, 4]) (ρ := (frameL [(0, .slice x0), (3, .slice x1), (4, .int .i64 x2)])) (ρ' := (frameL [(0, .slice x0), (3, .slice x1), (4, .int .i64 x2)])) (by kernel_rfl) k K).trans (r5deep.u11.okl k K k x0 x1 x2)
theorem r5deep.u12.ok (k : Nat) (x0 : Sl) (x1 : Sl) (x2 : Int) (K : Ex → Frame → M α) :
    evC T (env k) k r5deep.u12.c (frameL [(0, .slice x0), (3, .slice x1), (4, .int .i64 x2)]) K =
      r5deep.u12.f k x0 x1 x2 (fun y0 => K .normal (frameL [(3, .slice y0)])) :=
  (evC_block.trans (r5deep.u11.ok k x0 x1 x2 (blockK 0 K))).trans (by kernel_rfl)
theorem r5deep.u13.ok (k : Nat) (x0 : Sl) (x1 : Sl) (K : Ex → Frame → M α) :
    evC T (env k) k r5deep.u13.c (frameL [(0, .slice x0), (3, .slice x1)]) K =
      r5deep.u13.f k x0 x1 (fun y0 => K .normal (frameL [(3, .slice y0)])) :=
  (r5deep.u2.ok k x0 x1 r5deep.u12.c K).trans
    (congrArg (fun z => r5deep.u2.f k x0 x1 z) (funext fun y0 => (funext fun y1 => (funext fun y2 => r5deep.u12.ok k y0 y1 y2 K))))
theorem r5deep.u14.ok (k : Nat) (x0 : Sl) (K : Ex → Frame → M α) :
    evC T (env k) k r5deep.u14.c (frameL [(3, .slice x0)]) K =
      r5deep.u14.f k x0 (fun y0 => K .ret (frameL [(2, .slice y0)])) := by kernel_rfl
theorem r5deep.u15.ok (k : Nat) (x0 : Sl) (x1 : Sl) (K : Ex → Frame → M α) :
    evC T (env k) k r5deep.u15.c (frameL [(0, .slice x0), (3, .slice x1)]) K =
      r5deep.u15.f k x0 x1 (fun y0 => K .ret (frameL [(2, .slice y0)])) :=
  by
    have h := r5deep.u13.ok k x0 x1 (seqK (fun ρ => evC T (env k) k r5deep.u14.c ρ K) K)
    simp only [seqK_normal, seqK_exit, seqK_ret, seqK_pan, r5deep.u14.ok] at h
    exact evC_seq_of h
theorem r5deep.u16.ok (k : Nat) (x0 : Sl) (K : Ex → Frame → M α) :
    evC T (env k) k r5deep.u16.c (frameL [(0, .slice x0)]) K =
      r5deep.u16.f k x0 (fun y0 => K .ret (frameL [(2, .slice y0)])) :=
  (r5deep.u1.ok k x0 r5deep.u15.c K).trans
    (congrArg (fun z => r5deep.u1.f k x0 z) (funext fun y0 => (funext fun y1 => r5deep.u15.ok k y0 y1 K)))
theorem r5deep.ok (k : Nat) (x0 : Sl) (κ : Res → M α) :
    evF T (env k) k r5deep.c r5deep.res [.slice x0] κ = r5deep.f (k + 1) x0 (fun o0 => κ (.ret (.slice o0))) :=
  (r5deep.u16.ok k x0 (retK T r5deep.res κ)).trans (by kernel_rfl)
theorem r5deep.code : r5deep.c.code = bodyOf Try.f32 := by kernel_rfl

def r5binder.c : IC := r5binder.u9.c
def r5binder.res : List ResultVar := [(.tmp 6), (.tmp 7)]
theorem r5binder.u1.ok (k : Nat) (x0 : Sl) (x1 : Sl) (x2 : Int) (R : IC) (K : Ex → Frame → M α) :
    evC T (env k) k (r5binder.u1.c R) (frameL [(0, .slice x0), (1, .slice x1), (2, .int .i64 x2)]) K =
      r5binder.u1.f k x0 x1 x2 (fun y0 y1 y2 y3 => evC T (env k) k R (frameL [(0, .slice y0), (1, .slice y1), (2, .int .i64 y2), (8, .int .i64 y3)]) K) := by kernel_rfl
theorem r5binder.u2.ok (k : Nat) (x0 : Sl) (x1 : Sl) (x2 : Int) (x3 : Int) (R : IC) (K : Ex → Frame → M α) :
    evC T (env k) k (r5binder.u2.c R) (frameL [(0, .slice x0), (1, .slice x1), (2, .int .i64 x2), (8, .int .i64 x3)]) K =
      r5binder.u2.f k x0 x1 x2 x3 (fun y0 y1 y2 y3 y4 => evC T (env k) k R (frameL [(0, .slice y0), (1, .slice y1), (2, .int .i64 y2), (8, .int .i64 y3), (9, .int .i64 y4)]) K) := by kernel_rfl
theorem r5binder.u3.ok (k : Nat) (x0 : Sl) (x1 : Sl) (x2 : Int) (x3 : Int) (x4 : Int) (K : Ex → Frame → M α) :
    evC T (env k) k r5binder.u3.c (frameL [(0, .slice x0), (1, .slice x1), (2, .int .i64 x2), (8, .int .i64 x3), (9, .int .i64 x4)]) K =
      r5binder.u3.f k x0 x1 x2 x3 x4 (fun y0 y1 y2 y3 y4 => K .normal (frameL [(0, .slice y0), (1, .slice y1), (2, .int .i64 y2), (8, .int .i64 y3), (9, .int .i64 y4)])) (fun y0 y1 => K .ret (frameL [(6, .int .i64 y0), (7, .int .i64 y1)])) (K (.exit 0) (frameL [])) := by kernel_rfl
theorem r5binder.u4.ls (k : Nat) (kr : Int → Int → M α) (kx0 : M α) (j : Nat) (x0 : Sl) (x1 : Sl) (x2 : Int) (x3 : Int) (x4 : Int) : r5binder.u4.l k kr kx0 (j + 1) x0 x1 x2 x3 x4 =
  r5binder.u3.f k x0 x1 x2 x3 x4 (fun y0 y1 y2 y3 y4 => r5binder.u4.l k kr kx0 j y0 y1 y2 y3 y4) kr kx0 := rfl
theorem r5binder.u4.okl (k : Nat) (K : Ex → Frame → M α) : ∀ (j : Nat) (x0 : Sl) (x1 : Sl) (x2 : Int) (x3 : Int) (x4 : Int),
    evLoop (evC T (env k) k r5binder.u3.c) [0, 1, 2, 8, 9] j (frameL [(0, .slice x0), (1, .slice x1), (2, .int .i64 x2), (8, .int .i64 x3), (9, .int .i64 x4)]) K = r5binder.u4.l k (fun y0 y1 => K .ret (frameL [(6, .int .i64 y0), (7, .int .i64 y1)])) (K (.exit 0) (frameL [])) j x0 x1 x2 x3 x4
  | 0, _, _, _, _, _ => rfl
  | j + 1, x0, x1, x2, x3, x4 => by
      have h := r5binder.u3.ok k x0 x1 x2 x3 x4 (seqK (fun ρ => evLoop (evC T (env k) k r5binder.u3.c) [0, 1, 2, 8, 9] j ρ K) K)
      simp only [seqK_exit, seqK_ret, seqK_pan, seqK_normal, r5binder.u4.okl k K j] at h
      exact (evLoop_step (by kernel_rfl) h).trans (r5binder.u4.ls k (fun y0 y1 => K .ret (frameL [(6, .int .i64 y0), (7, .int .i64 y1)])) (K (.exit 0) (frameL [])) j x0 x1 x2 x3 x4).symm
theorem r5binder.u4.ok (k : Nat) (x0 : Sl) (x1 : Sl) (x2 : Int) (x3 : Int) (x4 : Int) (K : Ex → Frame → M α) :
    evC T (env k) k r5binder.u4.c (frameL [(0, .slice x0), (1, .slice x1), (2, .int .i64 x2), (8, .int .i64 x3), (9, .int .i64 x4)]) K =
      r5binder.u4.f k x0 x1 x2 x3 x4 (fun y0 y1 => K .ret (frameL [(6, .int .i64 y0), (7, .int .i64 y1)])) (K (.exit 0) (frameL [])) :=
  evC_loop.trans <| (evLoop_keep (body := evC T (env k) k r5binder.u3.c) (keep := [0, 1, 2, 8, 9]) (ρ := (frameL [(0, .slice x0), (1, .slice x1), (2, .int .i64 x2), (8, .int .i64 x3), (9, .int .i64 x4)])) (ρ' := (frameL [(0, .slice x0), (1, .slice x1), (2, .int .i64 x2), (8, .int .i64 x3), (9, .int .i64 x4)])) (by kernel_rfl) k K).trans (r5binder.u4.okl k K k x0 x1 x2 x3 x4)
theorem r5binder.u5.ok (k : Nat) (x0 : Sl) (x1 : Sl) (x2 : Int) (x3 : Int) (x4 : Int) (K : Ex → Frame → M α) :
    evC T (env k) k r5binder.u5.c (frameL [(0, .slice x0), (1, .slice x1), (2, .int .i64 x2), (8, .int .i64 x3), (9, .int .i64 x4)]) K =
      r5binder.u5.f k x0 x1 x2 x3 x4 (K .normal (frameL [])) (fun y0 y1 => K .ret (frameL [(6, .int .i64 y0), (7, .int .i64 y1)])) :=
  (evC_block.trans (r5binder.u4.ok k x0 x1 x2 x3 x4 (blockK 0 K))).trans (by kernel_rfl)
theorem r5binder.u6.ok (k : Nat) (x0 : Sl) (x1 : Sl) (x2 : Int) (x3 : Int) (K : Ex → Frame → M α) :
    evC T (env k) k r5binder.u6.c (frameL [(0, .slice x0), (1, .slice x1), (2, .int .i64 x2), (8, .int .i64 x3)]) K =
      r5binder.u6.f k x0 x1 x2 x3 (K .normal (frameL [])) (fun y0 y1 => K .ret (frameL [(6, .int .i64 y0), (7, .int .i64 y1)])) :=
  (r5binder.u2.ok k x0 x1 x2 x3 r5binder.u5.c K).trans
    (congrArg (fun z => r5binder.u2.f k x0 x1 x2 x3 z) (funext fun y0 => (funext fun y1 => (funext fun y2 => (funext fun y3 => (funext fun y4 => r5binder.u5.ok k y0 y1 y2 y3 y4 K))))))
theorem r5binder.u7.ok (k : Nat) (K : Ex → Frame → M α) :
    evC T (env k) k r5binder.u7.c (frameL []) K =
      r5binder.u7.f k (fun y0 y1 => K .ret (frameL [(6, .int .i64 y0), (7, .int .i64 y1)])) := by kernel_rfl
theorem r5binder.u8.ok (k : Nat) (x0 : Sl) (x1 : Sl) (x2 : Int) (x3 : Int) (K : Ex → Frame → M α) :
    evC T (env k) k r5binder.u8.c (frameL [(0, .slice x0), (1, .slice x1), (2, .int .i64 x2), (8, .int .i64 x3)]) K =
      r5binder.u8.f k x0 x1 x2 x3 (fun y0 y1 => K .ret (frameL [(6, .int .i64 y0), (7, .int .i64 y1)])) :=
  by
    have h := r5binder.u6.ok k x0 x1 x2 x3 (seqK (fun ρ => evC T (env k) k r5binder.u7.c ρ K) K)
    simp only [seqK_normal, seqK_exit, seqK_ret, seqK_pan, r5binder.u7.ok] at h
    exact evC_seq_of h
theorem r5binder.u9.ok (k : Nat) (x0 : Sl) (x1 : Sl) (x2 : Int) (K : Ex → Frame → M α) :
    evC T (env k) k r5binder.u9.c (frameL [(0, .slice x0), (1, .slice x1), (2, .int .i64 x2)]) K =
      r5binder.u9.f k x0 x1 x2 (fun y0 y1 => K .ret (frameL [(6, .int .i64 y0), (7, .int .i64 y1)])) :=
  (r5binder.u1.ok k x0 x1 x2 r5binder.u8.c K).trans
    (congrArg (fun z => r5binder.u1.f k x0 x1 x2 z) (funext fun y0 => (funext fun y1 => (funext fun y2 => (funext fun y3 => r5binder.u8.ok k y0 y1 y2 y3 K)))))
theorem r5binder.ok (k : Nat) (x0 : Sl) (x1 : Sl) (x2 : Int) (κ : Res → M α) :
    evF T (env k) k r5binder.c r5binder.res [.slice x0, .slice x1, .int .i64 x2] κ = r5binder.f (k + 1) x0 x1 x2 (fun o0 o1 => κ (.ret (.tuple [.int .i64 o0, .int .i64 o1]))) :=
  (r5binder.u9.ok k x0 x1 x2 (retK T r5binder.res κ)).trans (by kernel_rfl)
theorem r5binder.code : r5binder.c.code = bodyOf Try.f33 := by kernel_rfl

def r5Check.c : IC := r5Check.u24.c
def r5Check.res : List ResultVar := [(.tmp 2), (.tmp 3)]
theorem r5Check.u1.ok (k : Nat) (x0 : Sl) (R : IC) (K : Ex → Frame → M α) :
    evC T (env k) k (r5Check.u1.c R) (frameL [(0, .slice x0)]) K =
      r5Check.u1.f k x0 (fun y0 y1 y2 => evC T (env k) k R (frameL [(0, .slice y0), (5, .slice y1), (6, .slice y2)]) K) (fun y0 y1 => K .ret (frameL [(2, .int .i64 y0), (3, .int .i64 y1)])) := by kernel_rfl
theorem r5Check.u2.ok (k : Nat) (x0 : Sl) (x1 : Sl) (x2 : Sl) (R : IC) (K : Ex → Frame → M α) :
    evC T (env k) k (r5Check.u2.c R) (frameL [(0, .slice x0), (5, .slice x1), (6, .slice x2)]) K =
      r5Check.u2.f k x0 x1 x2 (fun y0 y1 y2 y3 => evC T (env k) k R (frameL [(0, .slice y0), (5, .slice y1), (6, .slice y2), (7, .int .i64 y3)]) K) := by kernel_rfl
theorem r5Check.u3.ok (k : Nat) (x0 : Sl) (x1 : Sl) (x2 : Sl) (x3 : Int) (R : IC) (K : Ex → Frame → M α) :
    evC T (env k) k (r5Check.u3.c R) (frameL [(0, .slice x0), (5, .slice x1), (6, .slice x2), (7, .int .i64 x3)]) K =
      r5Check.u3.f k x0 x1 x2 x3 (fun y0 y1 y2 y3 => evC T (env k) k R (frameL [(0, .slice y0), (5, .slice y1), (6, .slice y2), (7, .int .i64 y3)]) K) (K (.exit 0) (frameL [])) := by kernel_rfl
theorem r5Check.u4.ok (k : Nat) (x0 : Sl) (x1 : Sl) (x2 : Sl) (x3 : Int) (R : IC) (K : Ex → Frame → M α) :
    evC T (env k) k (r5Check.u4.c R) (frameL [(0, .slice x0), (5, .slice x1), (6, .slice x2), (7, .int .i64 x3)]) K =
      r5Check.u4.f k x0 x1 x2 x3 (fun y0 y1 y2 y3 => evC T (env k) k R (frameL [(0, .slice y0), (5, .slice y1), (6, .slice y2), (7, .int .i64 y3)]) K) (fun y0 y1 => K .ret (frameL [(2, .int .i64 y0), (3, .int .i64 y1)])) := by kernel_rfl
theorem r5Check.u5.ok (k : Nat) (x0 : Sl) (x1 : Sl) (x2 : Sl) (x3 : Int) (R : IC) (K : Ex → Frame → M α) :
    evC T (env k) k (r5Check.u5.c R) (frameL [(0, .slice x0), (5, .slice x1), (6, .slice x2), (7, .int .i64 x3)]) K =
      r5Check.u5.f k x0 x1 x2 x3 (fun y0 y1 y2 y3 => evC T (env k) k R (frameL [(0, .slice y0), (5, .slice y1), (6, .slice y2), (7, .int .i64 y3)]) K) (fun y0 y1 y2 y3 => K (.exit 1) (frameL [(0, .slice y0), (5, .slice y1), (6, .slice y2), (7, .int .i64 y3)])) := by kernel_rfl
theorem r5Check.u6.ok (k : Nat) (x0 : Sl) (x1 : Sl) (x2 : Sl) (x3 : Int) (R : IC) (K : Ex → Frame → M α) :
    evC T (env k) k (r5Check.u6.c R) (frameL [(0, .slice x0), (5, .slice x1), (6, .slice x2), (7, .int .i64 x3)]) K =
      r5Check.u6.f k x0 x1 x2 x3 (fun y0 y1 y2 y3 y4 => evC T (env k) k R (frameL [(0, .slice y0), (5, .slice y1), (6, .slice y2), (7, .int .i64 y3), (11, .int .i64 y4)]) K) := by kernel_rfl
theorem r5Check.u7.ok (k : Nat) (x0 : Sl) (x1 : Sl) (x2 : Sl) (x3 : Int) (x4 : Int) (K : Ex → Frame → M α) :
    evC T (env k) k r5Check.u7.c (frameL [(0, .slice x0), (5, .slice x1), (6, .slice x2), (7, .int .i64 x3), (11, .int .i64 x4)]) K =
      r5Check.u7.f k x0 x1 x2 x3 x4 (fun y0 y1 y2 y3 y4 => K .normal (frameL [(0, .slice y0), (5, .slice y1), (6, .slice y2), (7, .int .i64 y3), (11, .int .i64 y4)])) (fun y0 y1 => K .ret (frameL [(2, .int .i64 y0), (3, .int .i64 y1)])) (fun y0 y1 y2 y3 => K (.exit 2) (frameL [(0, .slice y0), (5, .slice y1), (6, .slice y2), (7, .int .i64 y3)])) := by kernel_rfl
theorem r5Check.u8.ls (k : Nat) (kr : Int → Int → M α) (kx2 : Sl → Sl → Sl → Int → M α) (j : Nat) (x0 : Sl) (x1 : Sl) (x2 : Sl) (x3 : Int) (x4 : Int) : r5Check.u8.l k kr kx2 (j + 1) x0 x1 x2 x3 x4 =
  r5Check.u7.f k x0 x1 x2 x3 x4 (fun y0 y1 y2 y3 y4 => r5Check.u8.l k kr kx2 j y0 y1 y2 y3 y4) kr kx2 := rfl
theorem r5Check.u8.okl (k : Nat) (K : Ex → Frame → M α) : ∀ (j : Nat) (x0 : Sl) (x1 : Sl) (x2 : Sl) (x3 : Int) (x4 : Int),
    evLoop (evC T (env k) k r5Check.u7.c) [0, 5, 6, 7, 11] j (frameL [(0, .slice x0), (5, .slice x1), (6, .slice x2), (7, .int .i64 x3), (11, .int .i64 x4)]) K = r5Check.u8.l k (fun y0 y1 => K .ret (frameL [(2, .int .i64 y0), (3, .int .i64 y1)])) (fun y0 y1 y2 y3 => K (.exit 2) (frameL [(0, .slice y0), (5, .slice y1), (6, .slice y2), (7, .int .i64 y3)])) j x0 x1 x2 x3 x4
  | 0, _, _, _, _, _ => rfl
  | j + 1, x0, x1, x2, x3, x4 => by
      have h := r5Check.u7.ok k x0 x1 x2 x3 x4 (seqK (fun ρ => evLoop (evC T (env k) k r5Check.u7.c) [0, 5, 6, 7, 11] j ρ K) K)
      simp only [seqK_exit, seqK_ret, seqK_pan, seqK_normal, r5Check.u8.okl k K j] at h
      exact (evLoop_step (by kernel_rfl) h).trans (r5Check.u8.ls k (fun y0 y1 => K .ret (frameL [(2, .int .i64 y0), (3, .int .i64 y1)])) (fun y0 y1 y2 y3 => K (.exit 2) (frameL [(0, .slice y0), (5, .slice y1), (6, .slice y2), (7, .int .i64 y3)])) j x0 x1 x2 x3 x4).symm
theorem r5Check.u8.ok (k : Nat) (x0 : Sl) (x1 : Sl) (x2 : Sl) (x3 : Int) (x4 : Int) (K : Ex → Frame → M α) :
    evC T (env k) k r5Check.u8.c (frameL [(0, .slice x0), (5, .slice x1), (6, .slice x2), (7, .int .i64 x3), (11, .int .i64 x4)]) K =
      r5Check.u8.f k x0 x1 x2 x3 x4 (fun y0 y1 => K .ret (frameL [(2, .int .i64 y0), (3, .int .i64 y1)])) (fun y0 y1 y2 y3 => K (.exit 2) (frameL [(0, .slice y0), (5, .slice y1), (6, .slice y2), (7, .int .i64 y3)])) :=
  evC_loop.trans <| (evLoop_keep (body := evC T (env k) k r5Check.u7.c) (keep := [0, 5, 6, 7, 11]) (ρ := (frameL [(0, .slice x0), (5, .slice x1), (6, .slice x2), (7, .int .i64 x3), (11, .int .i64 x4)])) (ρ' := (frameL [(0, .slice x0), (5, .slice x1), (6, .slice x2), (7, .int .i64 x3), (11, .int .i64 x4)])) (by kernel_rfl) k K).trans (r5Check.u8.okl k K k x0 x1 x2 x3 x4)
theorem r5Check.u9.ok (k : Nat) (x0 : Sl) (x1 : Sl) (x2 : Sl) (x3 : Int) (x4 : Int) (K : Ex → Frame → M α) :
    evC T (env k) k r5Check.u9.c (frameL [(0, .slice x0), (5, .slice x1), (6, .slice x2), (7, .int .i64 x3), (11, .int .i64 x4)]) K =
      r5Check.u9.f k x0 x1 x2 x3 x4 (fun y0 y1 y2 y3 => K .normal (frameL [(0, .slice y0), (5, .slice y1), (6, .slice y2), (7, .int .i64 y3)])) (fun y0 y1 => K .ret (frameL [(2, .int .i64 y0), (3, .int .i64 y1)])) :=
  (evC_block.trans (r5Check.u8.ok k x0 x1 x2 x3 x4 (blockK 2 K))).trans (by kernel_rfl)
theorem r5Check.u10.ok (k : Nat) (x0 : Sl) (x1 : Sl) (x2 : Sl) (x3 : Int) (K : Ex → Frame → M α) :
    evC T (env k) k r5Check.u10.c (frameL [(0, .slice x0), (5, .slice x1), (6, .slice x2), (7, .int .i64 x3)]) K =
      r5Check.u10.f k x0 x1 x2 x3 (fun y0 y1 y2 y3 => K .normal (frameL [(0, .slice y0), (5, .slice y1), (6, .slice y2), (7, .int .i64 y3)])) (fun y0 y1 => K .ret (frameL [(2, .int .i64 y0), (3, .int .i64 y1)])) :=
  (r5Check.u6.ok k x0 x1 x2 x3 r5Check.u9.c K).trans
    (congrArg (fun z => r5Check.u6.f k x0 x1 x2 x3 z) (funext fun y0 => (funext fun y1 => (funext fun y2 => (funext fun y3 => (funext fun y4 => r5Check.u9.ok k y0 y1 y2 y3 y4 K))))))
theorem r5Check.u11.ok (k : Nat) (x0 : Sl) (x1 : Sl) (x2 : Sl) (x3 : Int) (K : Ex → Frame → M α) :
    evC T (env k) k r5Check.u11.c (frameL [(0, .slice x0), (5, .slice x1), (6, .slice x2), (7, .int .i64 x3)]) K =
      r5Check.u11.f k x0 x1 x2 x3 (fun y0 y1 y2 y3 => K .normal (frameL [(0, .slice y0), (5, .slice y1), (6, .slice y2), (7, .int .i64 y3)])) (fun y0 y1 => K .ret (frameL [(2, .int .i64 y0), (3, .int .i64 y1)])) := by kernel_rfl
theorem r5Check.u12.ok (k : Nat) (x0 : Sl) (x1 : Sl) (x2 : Sl) (x3 : Int) (K : Ex → Frame → M α) :
    evC T (env k) k r5Check.u12.c (frameL [(0, .slice x0), (5, .slice x1), (6, .slice x2), (7, .int .i64 x3)]) K =
      r5Check.u12.f k x0 x1 x2 x3 (fun y0 y1 y2 y3 => K .normal (frameL [(0, .slice y0), (5, .slice y1), (6, .slice y2), (7, .int .i64 y3)])) (fun y0 y1 => K .ret (frameL [(2, .int .i64 y0), (3, .int .i64 y1)])) :=
  by
    have h := r5Check.u10.ok k x0 x1 x2 x3 (seqK (fun ρ => evC T (env k) k r5Check.u11.c ρ K) K)
    simp only [seqK_normal, seqK_exit, seqK_ret, seqK_pan, r5Check.u11.ok] at h
    exact evC_seq_of h
theorem r5Check.u13.ok (k : Nat) (x0 : Sl) (x1 : Sl) (x2 : Sl) (x3 : Int) (K : Ex → Frame → M α) :
    evC T (env k) k r5Check.u13.c (frameL [(0, .slice x0), (5, .slice x1), (6, .slice x2), (7, .int .i64 x3)]) K =
      r5Check.u13.f k x0 x1 x2 x3 (fun y0 y1 y2 y3 => K .normal (frameL [(0, .slice y0), (5, .slice y1), (6, .slice y2), (7, .int .i64 y3)])) (fun y0 y1 => K .ret (frameL [(2, .int .i64 y0), (3, .int .i64 y1)])) (fun y0 y1 y2 y3 => K (.exit 1) (frameL [(0, .slice y0), (5, .slice y1), (6, .slice y2), (7, .int .i64 y3)])) :=
  (r5Check.u5.ok k x0 x1 x2 x3 r5Check.u12.c K).trans
    (congrArg (fun z => r5Check.u5.f k x0 x1 x2 x3 z (fun y0 y1 y2 y3 => K (.exit 1) (frameL [(0, .slice y0), (5, .slice y1), (6, .slice y2), (7, .int .i64 y3)]))) (funext fun y0 => (funext fun y1 => (funext fun y2 => (funext fun y3 => r5Check.u12.ok k y0 y1 y2 y3 K)))))
theorem r5Check.u14.ok (k : Nat) (x0 : Sl) (x1 : Sl) (x2 : Sl) (x3 : Int) (K : Ex → Frame → M α) :
    evC T (env k) k r5Check.u14.c (frameL [(0, .slice x0), (5, .slice x1), (6, .slice x2), (7, .int .i64 x3)]) K =
      r5Check.u14.f k x0 x1 x2 x3 (fun y0 y1 y2 y3 => K .normal (frameL [(0, .slice y0), (5, .slice y1), (6, .slice y2), (7, .int .i64 y3)])) (fun y0 y1 => K .ret (frameL [(2, .int .i64 y0), (3, .int .i64 y1)])) (fun y0 y1 y2 y3 => K (.exit 1) (frameL [(0, .slice y0), (5, .slice y1), (6, .slice y2), (7, .int .i64 y3)])) :=
  (r5Check.u4.ok k x0 x1 x2 x3 r5Check.u13.c K).trans
    (congrArg (fun z => r5Check.u4.f k x0 x1 x2 x3 z (fun y0 y1 => K .ret (frameL [(2, .int .i64 y0), (3, .int .i64 y1)]))) (funext fun y0 => (funext fun y1 => (funext fun y2 => (funext fun y3 => r5Check.u13.ok k y0 y1 y2 y3 K)))))
theorem r5Check.u15.ok (k : Nat) (x0 : Sl) (x1 : Sl) (x2 : Sl) (x3 : Int) (K : Ex → Frame → M α) :
    evC T (env k) k r5Check.u15.c (frameL [(0, .slice x0), (5, .slice x1), (6, .slice x2), (7, .int .i64 x3)]) K =
      r5Check.u15.f k x0 x1 x2 x3 (fun y0 y1 y2 y3 => K .normal (frameL [(0, .slice y0), (5, .slice y1), (6, .slice y2), (7, .int .i64 y3)])) (fun y0 y1 => K .ret (frameL [(2, .int .i64 y0), (3, .int .i64 y1)])) :=
  (evC_block.trans (r5Check.u14.ok k x0 x1 x2 x3 (blockK 1 K))).trans (by kernel_rfl)
theorem r5Check.u16.ok (k : Nat) (x0 : Sl) (x1 : Sl) (x2 : Sl) (x3 : Int) (K : Ex → Frame → M α) :
    evC T (env k) k r5Check.u16.c (frameL [(0, .slice x0), (5, .slice x1), (6, .slice x2), (7, .int .i64 x3)]) K =
      r5Check.u16.f k x0 x1 x2 x3 (fun y0 y1 y2 y3 => K .normal (frameL [(0, .slice y0), (5, .slice y1), (6, .slice y2), (7, .int .i64 y3)])) := by kernel_rfl
theorem r5Check.u17.ok (k : Nat) (x0 : Sl) (x1 : Sl) (x2 : Sl) (x3 : Int) (K : Ex → Frame → M α) :
    evC T (env k) k r5Check.u17.c (frameL [(0, .slice x0), (5, .slice x1), (6, .slice x2), (7, .int .i64 x3)]) K =
      r5Check.u17.f k x0 x1 x2 x3 (fun y0 y1 y2 y3 => K .normal (frameL [(0, .slice y0), (5, .slice y1), (6, .slice y2), (7, .int .i64 y3)])) (fun y0 y1 => K .ret (frameL [(2, .int .i64 y0), (3, .int .i64 y1)])) :=
  by
    have h := r5Check.u15.ok k x0 x1 x2 x3 (seqK (fun ρ => evC T (env k) k r5Check.u16.c ρ K) K)
    simp only [seqK_normal, seqK_exit, seqK_ret, seqK_pan, r5Check.u16.ok] at h
    exact evC_seq_of h
theorem r5Check.u18.ok (k : Nat) (x0 : Sl) (x1 : Sl) (x2 : Sl) (x3 : Int) (K : Ex → Frame → M α) :
    evC T (env k) k r5Check.u18.c (frameL [(0, .slice x0), (5, .slice x1), (6, .slice x2), (7, .int .i64 x3)]) K =
      r5Check.u18.f k x0 x1 x2 x3 (fun y0 y1 y2 y3 => K .normal (frameL [(0, .slice y0), (5, .slice y1), (6, .slice y2), (7, .int .i64 y3)])) (fun y0 y1 => K .ret (frameL [(2, .int .i64 y0), (3, .int .i64 y1)])) (K (.exit 0) (frameL [])) :=
  (r5Check.u3.ok k x0 x1 x2 x3 r5Check.u17.c K).trans
    (congrArg (fun z => r5Check.u3.f k x0 x1 x2 x3 z (K (.exit 0) (frameL []))) (funext fun y0 => (funext fun y1 => (funext fun y2 => (funext fun y3 => r5Check.u17.ok k y0 y1 y2 y3 K)))))
theorem r5Check.u19.ls (k : Nat) (kr : Int → Int → M α) (kx0 : M α) (j : Nat) (x0 : Sl) (x1 : Sl) (x2 : Sl) (x3 : Int) : r5Check.u19.l k kr kx0 (j + 1) x0 x1 x2 x3 =
  r5Check.u18.f k x0 x1 x2 x3 (fun y0 y1 y2 y3 => r5Check.u19.l k kr kx0 j y0 y1 y2 y3) kr kx0 := rfl
theorem r5Check.u19.okl (k : Nat) (K : Ex → Frame → M α) : ∀ (j : Nat) (x0 : Sl) (x1 : Sl) (x2 : Sl) (x3 : Int),
    evLoop (evC T (env k) k r5Check.u18.c) [0, 5, 6, 7] j (frameL [(0, .slice x0), (5, .slice x1), (6, .slice x2), (7, .int .i64 x3)]) K = r5Check.u19.l k (fun y0 y1 => K .ret (frameL [(2, .int .i64 y0), (3, .int .i64 y1)])) (K (.exit 0) (frameL [])) j x0 x1 x2 x3
  | 0, _, _, _, _ => rfl
  | j + 1, x0, x1, x2, x3 => by
      have h := r5Check.u18.ok k x0 x1 x2 x3 (seqK (fun ρ => evLoop (evC T (env k) k r5Check.u18.c) [0, 5, 6, 7] j ρ K) K)
      simp only [seqK_exit, seqK_ret, seqK_pan, seqK_normal, r5Check.u19.okl k K j] at h
      exact (evLoop_step (by kernel_rfl) h).trans (r5Check.u19.ls k (fun y0 y1 => K .ret (frameL [(2, .int .i64 y0), (3, .int .i64 y1)])) (K (.exit 0) (frameL [])) j x0 x1 x2 x3).symm
theorem r5Check.u19.ok (k : Nat) (x0 : Sl) (x1 : Sl) (x2 : Sl) (x3 : Int) (K : Ex → Frame → M α) :
    evC T (env k) k r5Check.u19.c (frameL [(0, .slice x0), (5, .slice x1), (6, .slice x2), (7, .int .i64 x3)]) K =
      r5Check.u19.f k x0 x1 x2 x3 (fun y0 y1 => K .ret (frameL [(2, .int .i64 y0), (3, .int .i64 y1)])) (K (.exit 0) (frameL [])) :=
  evC_loop.trans <| (evLoop_keep (body := evC T (env k) k r5Check.u18.c) (keep := [0, 5, 6, 7]) (ρ := (frameL [(0, .slice x0), (5, .slice x1), (6, .slice x2), (7, .int .i64 x3)])) (ρ' := (frameL [(0, .slice x0), (5, .slice x1), (6, .slice x2), (7, .int .i64 x3)])) (by kernel_rfl) k K).trans (r5Check.u19.okl k K k x0 x1 x2 x3)
theorem r5Check.u20.ok (k : Nat) (x0 : Sl) (x1 : Sl) (x2 : Sl) (x3 : Int) (K : Ex → Frame → M α) :
    evC T (env k) k r5Check.u20.c (frameL [(0, .slice x0), (5, .slice x1), (6, .slice x2), (7, .int .i64 x3)]) K =
      r5Check.u20.f k x0 x1 x2 x3 (K .normal (frameL [])) (fun y0 y1 => K .ret (frameL [(2, .int .i64 y0), (3, .int .i64 y1)])) :=
  (evC_block.trans (r5Check.u19.ok k x0 x1 x2 x3 (blockK 0 K))).trans (by kernel_rfl)
theorem r5Check.u21.ok (k : Nat) (x0 : Sl) (x1 : Sl) (x2 : Sl) (K : Ex → Frame → M α) :
    evC T (env k) k r5Check.u21.c (frameL [(0, .slice x0), (5, .slice x1), (6, .slice x2)]) K =
      r5Check.u21.f k x0 x1 x2 (K .normal (frameL [])) (fun y0 y1 => K .ret (frameL [(2, .int .i64 y0), (3, .int .i64 y1)])) :=
  (r5Check.u2.ok k x0 x1 x2 r5Check.u20.c K).trans
    (congrArg (fun z => r5Check.u2.f k x0 x1 x2 z) (funext fun y0 => (funext fun y1 => (funext fun y2 => (funext fun y3 => r5Check.u20.ok k y0 y1 y2 y3 K)))))
theorem r5Check.u22.ok (k : Nat) (K : Ex → Frame → M α) :
    evC T (env k) k r5Check.u22.c (frameL []) K =
      r5Check.u22.f k (fun y0 y1 => K .ret (frameL [(2, .int .i64 y0), (3, .int .i64 y1)])) := by kernel_rfl
theorem r5Check.u23.ok (k : Nat) (x0 : Sl) (x1 : Sl) (x2 : Sl) (K : Ex → Frame → M α) :
    evC T (env k) k r5Check.u23.c (frameL [(0, .slice x0), (5, .slice x1), (6, .slice x2)]) K =
      r5Check.u23.f k x0 x1 x2 (fun y0 y1 => K .ret (frameL [(2, .int .i64 y0), (3, .int .i64 y1)])) :=
  by
    have h := r5Check.u21.ok k x0 x1 x2 (seqK (fun ρ => evC T (env k) k r5Check.u22.c ρ K) K)
    simp only [seqK_normal, seqK_exit, seqK_ret, seqK_pan, r5Check.u22.ok] at h
    exact evC_seq_of h
theorem r5Check.u24.ok (k : Nat) (x0 : Sl) (K : Ex → Frame → M α) :
    evC T (env k) k r5Check.u24.c (frameL [(0, .slice x0)]) K =
      r5Check.u24.f k x0 (fun y0 y1 => K .ret (frameL [(2, .int .i64 y0), (3, .int .i64 y1)])) :=
  (r5Check.u1.ok k x0 r5Check.u23.c K).trans
    (congrArg (fun z => r5Check.u1.f k x0 z (fun y0 y1 => K .ret (frameL [(2, .int .i64 y0), (3, .int .i64 y1)]))) (funext fun y0 => (funext fun y1 => (funext fun y2 => r5Check.u23.ok k y0 y1 y2 K))))
theorem r5Check.ok (k : Nat) (x0 : Sl) (κ : Res → M α) :
    evF T (env k) k r5Check.c r5Check.res [.slice x0] κ = r5Check.f (k + 1) x0 (fun o0 o1 => κ (.ret (.tuple [.int .i64 o0, .int .i64 o1]))) :=
  (r5Check.u24.ok k x0 (retK T r5Check.res κ)).trans (by kernel_rfl)
theorem r5Check.code : r5Check.c.code = bodyOf Try.f15 := by kernel_rfl

def r4Same.c : IC := r4Same.u9.c
def r4Same.res : List ResultVar := [(.tmp 6)]
theorem r4Same.u1.ok (k : Nat) (x0 : Sl) (x1 : Sl) (x2 : Bool) (R : IC) (K : Ex → Frame → M α) :
    evC T (env k) k (r4Same.u1.c R) (frameL [(0, .slice x0), (1, .slice x1), (2, .bool x2)]) K =
      r4Same.u1.f k x0 x1 x2 (fun y0 y1 y2 => evC T (env k) k R (frameL [(0, .slice y0), (1, .slice y1), (2, .bool y2)]) K) (fun y0 => K .ret (frameL [(6, .bool y0)])) := by kernel_rfl
theorem r4Same.u2.ok (k : Nat) (x0 : Sl) (x1 : Sl) (x2 : Bool) (R : IC) (K : Ex → Frame → M α) :
    evC T (env k) k (r4Same.u2.c R) (frameL [(0, .slice x0), (1, .slice x1), (2, .bool x2)]) K =
      r4Same.u2.f k x0 x1 x2 (fun y0 y1 y2 y3 => evC T (env k) k R (frameL [(0, .slice y0), (1, .slice y1), (2, .bool y2), (7, .int .i64 y3)]) K) := by kernel_rfl
theorem r4Same.u3.ok (k : Nat) (x0 : Sl) (x1 : Sl) (x2 : Bool) (x3 : Int) (K : Ex → Frame → M α) :
    evC T (env k) k r4Same.u3.c (frameL [(0, .slice x0), (1, .slice x1), (2, .bool x2), (7, .int .i64 x3)]) K =
      r4Same.u3.f k x0 x1 x2 x3 (fun y0 y1 y2 y3 => K .normal (frameL [(0, .slice y0), (1, .slice y1), (2, .bool y2), (7, .int .i64 y3)])) (fun y0 => K .ret (frameL [(6, .bool y0)])) (K (.exit 0) (frameL [])) := by kernel_rfl
theorem r4Same.u4.ls (k : Nat) (kr : Bool → M α) (kx0 : M α) (j : Nat) (x0 : Sl) (x1 : Sl) (x2 : Bool) (x3 : Int) : r4Same.u4.l k kr kx0 (j + 1) x0 x1 x2 x3 =
  r4Same.u3.f k x0 x1 x2 x3 (fun y0 y1 y2 y3 => r4Same.u4.l k kr kx0 j y0 y1 y2 y3) kr kx0 := rfl
theorem r4Same.u4.okl (k : Nat) (K : Ex → Frame → M α) : ∀ (j : Nat) (x0 : Sl) (x1 : Sl) (x2 : Bool) (x3 : Int),
    evLoop (evC T (env k) k r4Same.u3.c) [0, 1, 2, 7] j (frameL [(0, .slice x0), (1, .slice x1), (2, .bool x2), (7, .int .i64 x3)]) K = r4Same.u4.l k (fun y0 => K .ret (frameL [(6, .bool y0)])) (K (.exit 0) (frameL [])) j x0 x1 x2 x3
  | 0, _, _, _, _ => rfl
  | j + 1, x0, x1, x2, x3 => by
      have h := r4Same.u3.ok k x0 x1 x2 x3 (seqK (fun ρ => evLoop (evC T (env k) k r4Same.u3.c) [0, 1, 2, 7] j ρ K) K)
      simp only [seqK_exit, seqK_ret, seqK_pan, seqK_normal, r4Same.u4.okl k K j] at h
      exact (evLoop_step (by kernel_rfl) h).trans (r4Same.u4.ls k (fun y0 => K .ret (frameL [(6, .bool y0)])) (K (.exit 0) (frameL [])) j x0 x1 x2 x3).symm
theorem r4Same.u4.ok (k : Nat) (x0 : Sl) (x1 : Sl) (x2 : Bool) (x3 : Int) (K : Ex → Frame → M α) :
    evC T (env k) k r4Same.u4.c (frameL [(0, .slice x0), (1, .slice x1), (2, .bool x2), (7, .int .i64 x3)]) K =
      r4Same.u4.f k x0 x1 x2 x3 (fun y0 => K .ret (frameL [(6, .bool y0)])) (K (.exit 0) (frameL [])) :=
  evC_loop.trans <| (evLoop_keep (body := evC T (env k) k r4Same.u3.c) (keep := [0, 1, 2, 7]) (ρ := (frameL [(0, .slice x0), (1, .slice x1), (2, .bool x2), (7, .int .i64 x3)])) (ρ' := (frameL [(0, .slice x0), (1, .slice x1), (2, .bool x2), (7, .int .i64 x3)])) (by kernel_rfl) k K).trans (r4Same.u4.okl k K k x0 x1 x2 x3)
theorem r4Same.u5.ok (k : Nat) (x0 : Sl) (x1 : Sl) (x2 : Bool) (x3 : Int) (K : Ex → Frame → M α) :
    evC T (env k) k r4Same.u5.c (frameL [(0, .slice x0), (1, .slice x1), (2, .bool x2), (7, .int .i64 x3)]) K =
      r4Same.u5.f k x0 x1 x2 x3 (K .normal (frameL [])) (fun y0 => K .ret (frameL [(6, .bool y0)])) :=
  (evC_block.trans (r4Same.u4.ok k x0 x1 x2 x3 (blockK 0 K))).trans (by kernel_rfl)
theorem r4Same.u6.ok (k : Nat) (x0 : Sl) (x1 : Sl) (x2 : Bool) (K : Ex → Frame → M α) :
    evC T (env k) k r4Same.u6.c (frameL [(0, .slice x0), (1, .slice x1), (2, .bool x2)]) K =
      r4Same.u6.f k x0 x1 x2 (K .normal (frameL [])) (fun y0 => K .ret (frameL [(6, .bool y0)])) :=
  (r4Same.u2.ok k x0 x1 x2 r4Same.u5.c K).trans
    (congrArg (fun z => r4Same.u2.f k x0 x1 x2 z) (funext fun y0 => (funext fun y1 => (funext fun y2 => (funext fun y3 => r4Same.u5.ok k y0 y1 y2 y3 K)))))
theorem r4Same.u7.ok (k : Nat) (K : Ex → Frame → M α) :
    evC T (env k) k r4Same.u7.c (frameL []) K =
      r4Same.u7.f k (fun y0 => K .ret (frameL [(6, .bool y0)])) := by kernel_rfl
theorem r4Same.u8.ok (k : Nat) (x0 : Sl) (x1 : Sl) (x2 : Bool) (K : Ex → Frame → M α) :
    evC T (env k) k r4Same.u8.c (frameL [(0, .slice x0), (1, .slice x1), (2, .bool x2)]) K =
      r4Same.u8.f k x0 x1 x2 (fun y0 => K .ret (frameL [(6, .bool y0)])) :=
  by
    have h := r4Same.u6.ok k x0 x1 x2 (seqK (fun ρ => evC T (env k) k r4Same.u7.c ρ K) K)
    simp only [seqK_normal, seqK_exit, seqK_ret, seqK_pan, r4Same.u7.ok] at h
    exact evC_seq_of h
theorem r4Same.u9.ok (k : Nat) (x0 : Sl) (x1 : Sl) (x2 : Bool) (K : Ex → Frame → M α) :
    evC T (env k) k r4Same.u9.c (frameL [(0, .slice x0), (1, .slice x1), (2, .bool x2)]) K =
      r4Same.u9.f k x0 x1 x2 (fun y0 => K .ret (frameL [(6, .bool y0)])) :=
  (r4Same.u1.ok k x0 x1 x2 r4Same.u8.c K).trans
    (congrArg (fun z => r4Same.u1.f k x0 x1 x2 z (fun y0 => K .ret (frameL [(6, .bool y0)]))) (funext fun y0 => (funext fun y1 => (funext fun y2 => r4Same.u8.ok k y0 y1 y2 K))))
theorem r4Same.ok (k : Nat) (x0 : Sl) (x1 : Sl) (x2 : Bool) (κ : Res → M α) :
    evF T (env k) k r4Same.c r4Same.res [.slice x0, .slice x1, .bool x2] κ = r4Same.f (k + 1) x0 x1 x2 (fun o0 => κ (.ret (.bool o0))) :=
  (r4Same.u9.ok k x0 x1 x2 (retK T r4Same.res κ)).trans (by kernel_rfl)
theorem r4Same.code : r4Same.c.code = bodyOf Try.f35 := by kernel_rfl

def w5kept.c : IC := w5kept.u1.c
def w5kept.res : List ResultVar := [(.tmp 4)]
theorem w5kept.u1.ok (k : Nat) (x0 : Sl) (x1 : Sl) (K : Ex → Frame → M α) :
    evC T (env k) k w5kept.u1.c (frameL [(0, .slice x0), (1, .slice x1)]) K =
      w5kept.u1.f k x0 x1 (fun y0 => K .ret (frameL [(4, .bool y0)])) := by kernel_rfl
theorem w5kept.ok (k : Nat) (x0 : Sl) (x1 : Sl) (κ : Res → M α) :
    evF T (env k) k w5kept.c w5kept.res [.slice x0, .slice x1] κ = w5kept.f (k + 1) x0 x1 (fun o0 => κ (.ret (.bool o0))) :=
  (w5kept.u1.ok k x0 x1 (retK T w5kept.res κ)).trans (by kernel_rfl)
theorem w5kept.code : w5kept.c.code = bodyOf Try.f16 := by kernel_rfl

def w5BindChecks.c : IC := w5BindChecks.u1.c
def w5BindChecks.res : List ResultVar := [(.tmp 2)]
theorem w5BindChecks.u1.ok (k : Nat) (x0 : Sl) (K : Ex → Frame → M α) :
    evC T (env k) k w5BindChecks.u1.c (frameL [(0, .slice x0)]) K =
      w5BindChecks.u1.f k x0 (fun y0 => K .ret (frameL [(2, .bool y0)])) := by kernel_rfl
theorem w5BindChecks.ok (k : Nat) (x0 : Sl) (κ : Res → M α) :
    evF T (env k) k w5BindChecks.c w5BindChecks.res [.slice x0] κ = w5BindChecks.f (k + 1) x0 (fun o0 => κ (.ret (.bool o0))) :=
  (w5BindChecks.u1.ok k x0 (retK T w5BindChecks.res κ)).trans (by kernel_rfl)
theorem w5BindChecks.code : w5BindChecks.c.code = bodyOf Try.f3 := by kernel_rfl

def w5first.c : IC := w5first.u5.c
def w5first.res : List ResultVar := [(.tmp 4)]
theorem w5first.u1.ok (k : Nat) (x0 : Sl) (x1 : Int) (R : IC) (K : Ex → Frame → M α) :
    evC T (env k) k (w5first.u1.c R) (frameL [(0, .slice x0), (1, .int .i64 x1)]) K =
      w5first.u1.f k x0 x1 (fun y0 y1 => evC T (env k) k R (frameL [(0, .slice y0), (1, .int .i64 y1)]) K) := by kernel_rfl
theorem w5first.u2.ok (k : Nat) (x0 : Sl) (x1 : Int) (K : Ex → Frame → M α) :
    evC T (env k) k w5first.u2.c (frameL [(0, .slice x0), (1, .int .i64 x1)]) K =
      w5first.u2.f k x0 x1 (fun y0 y1 => K .normal (frameL [(0, .slice y0), (1, .int .i64 y1)])) (fun y0 => K .ret (frameL [(4, .int .i64 y0)])) := by kernel_rfl
theorem w5first.u3.ls (k : Nat) (kr : Int → M α) (j : Nat) (x0 : Sl) (x1 : Int) : w5first.u3.l k kr (j + 1) x0 x1 =
  w5first.u2.f k x0 x1 (fun y0 y1 => w5first.u3.l k kr j y0 y1) kr := rfl
theorem w5first.u3.okl (k : Nat) (K : Ex → Frame → M α) : ∀ (j : Nat) (x0 : Sl) (x1 : Int),
    evLoop (evC T (env k) k w5first.u2.c) [0, 1] j (frameL [(0, .slice x0), (1, .int .i64 x1)]) K = w5first.u3.l k (fun y0 => K .ret (frameL [(4, .int .i64 y0)])) j x0 x1
  | 0, _, _ => rfl
  | j + 1, x0, x1 => by
      have h := w5first.u2.ok k x0 x1 (seqK (fun ρ => evLoop (evC T (env k) k w5first.u2.c) [0, 1] j ρ K) K)
      simp only [seqK_exit, seqK_ret, seqK_pan, seqK_normal, w5first.u3.okl k K j] at h
      exact (evLoop_step (by kernel_rfl) h).trans (w5first.u3.ls k (fun y0 => K .ret (frameL [(4, .int .i64 y0)])) j x0 x1).symm
theorem w5first.u3.ok (k : Nat) (x0 : Sl) (x1 : Int) (K : Ex → Frame → M α) :
    evC T (env k) k w5first.u3.c (frameL [(0, .slice x0), (1, .int .i64 x1)]) K =
      w5first.u3.f k x0 x1 (fun y0 => K .ret (frameL [(4, .int .i64 y0)])) :=
  evC_loop.trans <| (evLoop_keep (body := evC T (env k) k w5first.u2.c) (keep := [0, 1]) (ρ := (frameL [(0, .slice x0), (1, .int .i64 x1)])) (ρ' := (frameL [(0, .slice x0), (1, .int .i64 x1)])) (by kernel_rfl) k K).trans (w5first.u3.okl k K k x0 x1)
theorem w5first.u4.ok (k : Nat) (x0 : Sl) (x1 : Int) (K : Ex → Frame → M α) :
    evC T (env k) k w5first.u4.c (frameL [(0, .slice x0), (1, .int .i64 x1)]) K =
      w5first.u4.f k x0 x1 (fun y0 => K .ret (frameL [(4, .int .i64 y0)])) :=
  (evC_block.trans (w5first.u3.ok k x0 x1 (blockK 0 K))).trans (by kernel_rfl)
theorem w5first.u5.ok (k : Nat) (x0 : Sl) (x1 : Int) (K : Ex → Frame → M α) :
    evC T (env k) k w5first.u5.c (frameL [(0, .slice x0), (1, .int .i64 x1)]) K =
      w5first.u5.f k x0 x1 (fun y0 => K .ret (frameL [(4, .int .i64 y0)])) :=
  (w5first.u1.ok k x0 x1 w5first.u4.c K).trans
    (congrArg (fun z => w5first.u1.f k x0 x1 z) (funext fun y0 => (funext fun y1 => w5first.u4.ok k y0 y1 K)))
theorem w5first.ok (k : Nat) (x0 : Sl) (x1 : Int) (κ : Res → M α) :
    evF T (env k) k w5first.c w5first.res [.slice x0, .int .i64 x1] κ = w5first.f (k + 1) x0 x1 (fun o0 => κ (.ret (.int .i64 o0))) :=
  (w5first.u5.ok k x0 x1 (retK T w5first.res κ)).trans (by kernel_rfl)
theorem w5first.code : w5first.c.code = bodyOf Try.f20 := by kernel_rfl

def w5BindAbove.c : IC := w5BindAbove.u29.c
def w5BindAbove.res : List ResultVar := [(.tmp 2)]
theorem w5BindAbove.u1.ok (k : Nat) (x0 : Sl) (R : IC) (K : Ex → Frame → M α) :
    evC T (env k) k (w5BindAbove.u1.c R) (frameL [(0, .slice x0)]) K =
      w5BindAbove.u1.f k x0 (fun y0 y1 => evC T (env k) k R (frameL [(0, .slice y0), (4, .slice y1)]) K) (fun y0 => K .ret (frameL [(2, .bool y0)])) := by kernel_rfl
theorem w5BindAbove.u2.ok (k : Nat) (x0 : Sl) (x1 : Sl) (R : IC) (K : Ex → Frame → M α) :
    evC T (env k) k (w5BindAbove.u2.c R) (frameL [(0, .slice x0), (4, .slice x1)]) K =
      w5BindAbove.u2.f k x0 x1 (fun y0 y1 y2 => evC T (env k) k R (frameL [(0, .slice y0), (4, .slice y1), (5, .int .i64 y2)]) K) := by kernel_rfl
theorem w5BindAbove.u3.ok (k : Nat) (x0 : Sl) (x1 : Sl) (x2 : Int) (R : IC) (K : Ex → Frame → M α) :
    evC T (env k) k (w5BindAbove.u3.c R) (frameL [(0, .slice x0), (4, .slice x1), (5, .int .i64 x2)]) K =
      w5BindAbove.u3.f k x0 x1 x2 (fun y0 y1 y2 => evC T (env k) k R (frameL [(0, .slice y0), (4, .slice y1), (5, .int .i64 y2)]) K) (K (.exit 0) (frameL [])) := by kernel_rfl
theorem w5BindAbove.u4.ok (k : Nat) (x0 : Sl) (x1 : Sl) (x2 : Int) (R : IC) (K : Ex → Frame → M α) :
    evC T (env k) k (w5BindAbove.u4.c R) (frameL [(0, .slice x0), (4, .slice x1), (5, .int .i64 x2)]) K =
      w5BindAbove.u4.f k x0 x1 x2 (fun y0 y1 y2 y3 => evC T (env k) k R (frameL [(0, .slice y0), (4, .slice y1), (5, .int .i64 y2), (6, .int .i64 y3)]) K) (fun y0 => K .ret (frameL [(2, .bool y0)])) (fun y0 y1 y2 => K (.exit 1) (frameL [(0, .slice y0), (4, .slice y1), (5, .int .i64 y2)])) := by kernel_rfl
theorem w5BindAbove.u5.ok (k : Nat) (x0 : Sl) (x1 : Sl) (x2 : Int) (x3 : Int) (R : IC) (K : Ex → Frame → M α) :
    evC T (env k) k (w5BindAbove.u5.c R) (frameL [(0, .slice x0), (4, .slice x1), (5, .int .i64 x2), (6, .int .i64 x3)]) K =
      w5BindAbove.u5.f k x0 x1 x2 x3 (fun y0 y1 y2 y3 y4 => evC T (env k) k R (frameL [(0, .slice y0), (4, .slice y1), (5, .int .i64 y2), (6, .int .i64 y3), (7, .int .i64 y4)]) K) := by kernel_rfl
theorem w5BindAbove.u6.ok (k : Nat) (x0 : Sl) (x1 : Sl) (x2 : Int) (x3 : Int) (x4 : Int) (R : IC) (K : Ex → Frame → M α) :
    evC T (env k) k (w5BindAbove.u6.c R) (frameL [(0, .slice x0), (4, .slice x1), (5, .int .i64 x2), (6, .int .i64 x3), (7, .int .i64 x4)]) K =
      w5BindAbove.u6.f k x0 x1 x2 x3 x4 (fun y0 y1 y2 y3 y4 => evC T (env k) k R (frameL [(0, .slice y0), (4, .slice y1), (5, .int .i64 y2), (6, .int .i64 y3), (7, .int .i64 y4)]) K) (fun y0 y1 y2 y3 => K (.exit 2) (frameL [(0, .slice y0), (4, .slice y1), (5, .int .i64 y2), (6, .int .i64 y3)])) := by kernel_rfl
theorem w5BindAbove.u7.ok (k : Nat) (x0 : Sl) (x1 : Sl) (x2 : Int) (x3 : Int) (x4 : Int) (R : IC) (K : Ex → Frame → M α) :
    evC T (env k) k (w5BindAbove.u7.c R) (frameL [(0, .slice x0), (4, .slice x1), (5, .int .i64 x2), (6, .int .i64 x3), (7, .int .i64 x4)]) K =
      w5BindAbove.u7.f k x0 x1 x2 x3 x4 (fun y0 y1 y2 y3 y4 y5 => evC T (env k) k R (frameL [(0, .slice y0), (4, .slice y1), (5, .int .i64 y2), (6, .int .i64 y3), (7, .int .i64 y4), (8, .bool y5)]) K) := by kernel_rfl
theorem w5BindAbove.u8.ok (k : Nat) (x0 : Sl) (x1 : Sl) (x2 : Int) (x3 : Int) (x4 : Int) (x5 : Bool) (K : Ex → Frame → M α) :
    evC T (env k) k w5BindAbove.u8.c (frameL [(0, .slice x0), (4, .slice x1), (5, .int .i64 x2), (6, .int .i64 x3), (7, .int .i64 x4), (8, .bool x5)]) K =
      w5BindAbove.u8.f k x0 x1 x2 x3 x4 x5 (fun y0 y1 y2 y3 y4 => K .normal (frameL [(0, .slice y0), (4, .slice y1), (5, .int .i64 y2), (6, .int .i64 y3), (7, .int .i64 y4)])) (fun y0 => K .ret (frameL [(2, .bool y0)])) := by kernel_rfl
theorem w5BindAbove.u9.ok (k : Nat) (x0 : Sl) (x1 : Sl) (x2 : Int) (x3 : Int) (x4 : Int) (K : Ex → Frame → M α) :
    evC T (env k) k w5BindAbove.u9.c (frameL [(0, .slice x0), (4, .slice x1), (5, .int .i64 x2), (6, .int .i64 x3), (7, .int .i64 x4)]) K =
      w5BindAbove.u9.f k x0 x1 x2 x3 x4 (fun y0 y1 y2 y3 y4 => K .normal (frameL [(0, .slice y0), (4, .slice y1), (5, .int .i64 y2), (6, .int .i64 y3), (7, .int .i64 y4)])) (fun y0 => K .ret (frameL [(2, .bool y0)])) :=
  (w5BindAbove.u7.ok k x0 x1 x2 x3 x4 w5BindAbove.u8.c K).trans
    (congrArg (fun z => w5BindAbove.u7.f k x0 x1 x2 x3 x4 z) (funext fun y0 => (funext fun y1 => (funext fun y2 => (funext fun y3 => (funext fun y4 => (funext fun y5 => w5BindAbove.u8.ok k y0 y1 y2 y3 y4 y5 K)))))))
theorem w5BindAbove.u10.ok (k : Nat) (x0 : Sl) (x1 : Sl) (x2 : Int) (x3 : Int) (x4 : Int) (K : Ex → Frame → M α) :
    evC T (env k) k w5BindAbove.u10.c (frameL [(0, .slice x0), (4, .slice x1), (5, .int .i64 x2), (6, .int .i64 x3), (7, .int .i64 x4)]) K =
      w5BindAbove.u10.f k x0 x1 x2 x3 x4 (fun y0 y1 y2 y3 y4 => K .normal (frameL [(0, .slice y0), (4, .slice y1), (5, .int .i64 y2), (6, .int .i64 y3), (7, .int .i64 y4)])) (fun y0 => K .ret (frameL [(2, .bool y0)])) :=
  (evC_block.trans (w5BindAbove.u9.ok k x0 x1 x2 x3 x4 (blockK 3 K))).trans (by kernel_rfl)
theorem w5BindAbove.u11.ok (k : Nat) (x0 : Sl) (x1 : Sl) (x2 : Int) (x3 : Int) (x4 : Int) (K : Ex → Frame → M α) :
    evC T (env k) k w5BindAbove.u11.c (frameL [(0, .slice x0), (4, .slice x1), (5, .int .i64 x2), (6, .int .i64 x3), (7, .int .i64 x4)]) K =
      w5BindAbove.u11.f k x0 x1 x2 x3 x4 (fun y0 y1 y2 y3 y4 => K .normal (frameL [(0, .slice y0), (4, .slice y1), (5, .int .i64 y2), (6, .int .i64 y3), (7, .int .i64 y4)])) := by kernel_rfl
theorem w5BindAbove.u12.ok (k : Nat) (x0 : Sl) (x1 : Sl) (x2 : Int) (x3 : Int) (x4 : Int) (K : Ex → Frame → M α) :
    evC T (env k) k w5BindAbove.u12.c (frameL [(0, .slice x0), (4, .slice x1), (5, .int .i64 x2), (6, .int .i64 x3), (7, .int .i64 x4)]) K =
      w5BindAbove.u12.f k x0 x1 x2 x3 x4 (fun y0 y1 y2 y3 y4 => K .normal (frameL [(0, .slice y0), (4, .slice y1), (5, .int .i64 y2), (6, .int .i64 y3), (7, .int .i64 y4)])) (fun y0 => K .ret (frameL [(2, .bool y0)])) :=
  by
    have h := w5BindAbove.u10.ok k x0 x1 x2 x3 x4 (seqK (fun ρ => evC T (env k) k w5BindAbove.u11.c ρ K) K)
    simp only [seqK_normal, seqK_exit, seqK_ret, seqK_pan, w5BindAbove.u11.ok] at h
    exact evC_seq_of h
theorem w5BindAbove.u13.ok (k : Nat) (x0 : Sl) (x1 : Sl) (x2 : Int) (x3 : Int) (x4 : Int) (K : Ex → Frame → M α) :
    evC T (env k) k w5BindAbove.u13.c (frameL [(0, .slice x0), (4, .slice x1), (5, .int .i64 x2), (6, .int .i64 x3), (7, .int .i64 x4)]) K =
      w5BindAbove.u13.f k x0 x1 x2 x3 x4 (fun y0 y1 y2 y3 y4 => K .normal (frameL [(0, .slice y0), (4, .slice y1), (5, .int .i64 y2), (6, .int .i64 y3), (7, .int .i64 y4)])) (fun y0 => K .ret (frameL [(2, .bool y0)])) (fun y0 y1 y2 y3 => K (.exit 2) (frameL [(0, .slice y0), (4, .slice y1), (5, .int .i64 y2), (6, .int .i64 y3)])) :=
  (w5BindAbove.u6.ok k x0 x1 x2 x3 x4 w5BindAbove.u12.c K).trans
    (congrArg (fun z => w5BindAbove.u6.f k x0 x1 x2 x3 x4 z (fun y0 y1 y2 y3 => K (.exit 2) (frameL [(0, .slice y0), (4, .slice y1), (5, .int .i64 y2), (6, .int .i64 y3)]))) (funext fun y0 => (funext fun y1 => (funext fun y2 => (funext fun y3 => (funext fun y4 => w5BindAbove.u12.ok k y0 y1 y2 y3 y4 K))))))
theorem w5BindAbove.u14.ls (k : Nat) (kr : Bool → M α) (kx2 : Sl → Sl → Int → Int → M α) (j : Nat) (x0 : Sl) (x1 : Sl) (x2 : Int) (x3 : Int) (x4 : Int) : w5BindAbove.u14.l k kr kx2 (j + 1) x0 x1 x2 x3 x4 =
  w5BindAbove.u13.f k x0 x1 x2 x3 x4 (fun y0 y1 y2 y3 y4 => w5BindAbove.u14.l k kr kx2 j y0 y1 y2 y3 y4) kr kx2 := rfl
theorem w5BindAbove.u14.okl (k : Nat) (K : Ex → Frame → M α) : ∀ (j : Nat) (x0 : Sl) (x1 : Sl) (x2 : Int) (x3 : Int) (x4 : Int),
    evLoop (evC T (env k) k w5BindAbove.u13.c) [0, 4, 5, 6, 7] j (frameL [(0, .slice x0), (4, .slice x1), (5, .int .i64 x2), (6, .int .i64 x3), (7, .int .i64 x4)]) K = w5BindAbove.u14.l k (fun y0 => K .ret (frameL [(2, .bool y0)])) (fun y0 y1 y2 y3 => K (.exit 2) (frameL [(0, .slice y0), (4, .slice y1), (5, .int .i64 y2), (6, .int .i64 y3)])) j x0 x1 x2 x3 x4
  | 0, _, _, _, _, _ => rfl
  | j + 1, x0, x1, x2, x3, x4 => by
      have h := w5BindAbove.u13.ok k x0 x1 x2 x3 x4 (seqK (fun ρ => evLoop (evC T (env k) k w5BindAbove.u13.c) [0, 4, 5, 6, 7] j ρ K) K)
      simp only [seqK_exit, seqK_ret, seqK_pan, seqK_normal, w5BindAbove.u14.okl k K j] at h
      exact (evLoop_step (by kernel_rfl) h).trans (w5BindAbove.u14.ls k (fun y0 => K .ret (frameL [(2, .bool y0)])) (fun y0 y1 y2 y3 => K (.exit 2) (frameL [(0, .slice y0), (4, .slice y1), (5, .int .i64 y2), (6, .int .i64 y3)])) j x0 x1 x2 x3 x4).symm
theorem w5BindAbove.u14.ok (k : Nat) (x0 : Sl) (x1 : Sl) (x2 : Int) (x3 : Int) (x4 : Int) (K : Ex → Frame → M α) :
    evC T (env k) k w5BindAbove.u14.c (frameL [(0, .slice x0), (4, .slice x1), (5, .int .i64 x2), (6, .int .i64 x3), (7, .int .i64 x4)]) K =
      w5BindAbove.u14.f k x0 x1 x2 x3 x4 (fun y0 => K .ret (frameL [(2, .bool y0)])) (fun y0 y1 y2 y3 => K (.exit 2) (frameL [(0, .slice y0), (4, .slice y1), (5, .int .i64 y2), (6, .int .i64 y3)])) :=
  evC_loop.trans <| (evLoop_keep (body := evC T (env k) k w5BindAbove.u13.c) (keep := [0, 4, 5, 6, 7]) (ρ := (frameL [(0, .slice x0), (4, .slice x1), (5, .int .i64 x2), (6, .int .i64 x3), (7, .int .i64 x4)])) (ρ' := (frameL [(0, .slice x0), (4, .slice x1), (5, .int .i64 x2), (6, .int .i64 x3), (7, .int .i64 x4)])) (by kernel_rfl) k K).trans (w5BindAbove.u14.okl k K k x0 x1 x2 x3 x4)
theorem w5BindAbove.u15.ok (k : Nat) (x0 : Sl) (x1 : Sl) (x2 : Int) (x3 : Int) (x4 : Int) (K : Ex → Frame → M α) :
    evC T (env k) k w5BindAbove.u15.c (frameL [(0, .slice x0), (4, .slice x1), (5, .int .i64 x2), (6, .int .i64 x3), (7, .int .i64 x4)]) K =
      w5BindAbove.u15.f k x0 x1 x2 x3 x4 (fun y0 y1 y2 y3 => K .normal (frameL [(0, .slice y0), (4, .slice y1), (5, .int .i64 y2), (6, .int .i64 y3)])) (fun y0 => K .ret (frameL [(2, .bool y0)])) :=
  (evC_block.trans (w5BindAbove.u14.ok k x0 x1 x2 x3 x4 (blockK 2 K))).trans (by kernel_rfl)
theorem w5BindAbove.u16.ok (k : Nat) (x0 : Sl) (x1 : Sl) (x2 : Int) (x3 : Int) (K : Ex → Frame → M α) :
    evC T (env k) k w5BindAbove.u16.c (frameL [(0, .slice x0), (4, .slice x1), (5, .int .i64 x2), (6, .int .i64 x3)]) K =
      w5BindAbove.u16.f k x0 x1 x2 x3 (fun y0 y1 y2 y3 => K .normal (frameL [(0, .slice y0), (4, .slice y1), (5, .int .i64 y2), (6, .int .i64 y3)])) (fun y0 => K .ret (frameL [(2, .bool y0)])) :=
  (w5BindAbove.u5.ok k x0 x1 x2 x3 w5BindAbove.u15.c K).trans
    (congrArg (fun z => w5BindAbove.u5.f k x0 x1 x2 x3 z) (funext fun y0 => (funext fun y1 => (funext fun y2 => (funext fun y3 => (funext fun y4 => w5BindAbove.u15.ok k y0 y1 y2 y3 y4 K))))))
theorem w5BindAbove.u17.ok (k : Nat) (x0 : Sl) (x1 : Sl) (x2 : Int) (x3 : Int) (K : Ex → Frame → M α) :
    evC T (env k) k w5BindAbove.u17.c (frameL [(0, .slice x0), (4, .slice x1), (5, .int .i64 x2), (6, .int .i64 x3)]) K =
      w5BindAbove.u17.f k x0 x1 x2 x3 (fun y0 y1 y2 => K .normal (frameL [(0, .slice y0), (4, .slice y1), (5, .int .i64 y2)])) (fun y0 => K .ret (frameL [(2, .bool y0)])) := by kernel_rfl
theorem w5BindAbove.u18.ok (k : Nat) (x0 : Sl) (x1 : Sl) (x2 : Int) (x3 : Int) (K : Ex → Frame → M α) :
    evC T (env k) k w5BindAbove.u18.c (frameL [(0, .slice x0), (4, .slice x1), (5, .int .i64 x2), (6, .int .i64 x3)]) K =
      w5BindAbove.u18.f k x0 x1 x2 x3 (fun y0 y1 y2 => K .normal (frameL [(0, .slice y0), (4, .slice y1), (5, .int .i64 y2)])) (fun y0 => K .ret (frameL [(2, .bool y0)])) :=
  by
    have h := w5BindAbove.u16.ok k x0 x1 x2 x3 (seqK (fun ρ => evC T (env k) k w5BindAbove.u17.c ρ K) K)
    simp only [seqK_normal, seqK_exit, seqK_ret, seqK_pan, w5BindAbove.u17.ok] at h
    exact evC_seq_of h
theorem w5BindAbove.u19.ok (k : Nat) (x0 : Sl) (x1 : Sl) (x2 : Int) (K : Ex → Frame → M α) :
    evC T (env k) k w5BindAbove.u19.c (frameL [(0, .slice x0), (4, .slice x1), (5, .int .i64 x2)]) K =
      w5BindAbove.u19.f k x0 x1 x2 (fun y0 y1 y2 => K .normal (frameL [(0, .slice y0), (4, .slice y1), (5, .int .i64 y2)])) (fun y0 => K .ret (frameL [(2, .bool y0)])) (fun y0 y1 y2 => K (.exit 1) (frameL [(0, .slice y0), (4, .slice y1), (5, .int .i64 y2)])) :=
  (w5BindAbove.u4.ok k x0 x1 x2 w5BindAbove.u18.c K).trans
    (congrArg (fun z => w5BindAbove.u4.f k x0 x1 x2 z (fun y0 => K .ret (frameL [(2, .bool y0)])) (fun y0 y1 y2 => K (.exit 1) (frameL [(0, .slice y0), (4, .slice y1), (5, .int .i64 y2)]))) (funext fun y0 => (funext fun y1 => (funext fun y2 => (funext fun y3 => w5BindAbove.u18.ok k y0 y1 y2 y3 K)))))
theorem w5BindAbove.u20.ok (k : Nat) (x0 : Sl) (x1 : Sl) (x2 : Int) (K : Ex → Frame → M α) :
    evC T (env k) k w5BindAbove.u20.c (frameL [(0, .slice x0), (4, .slice x1), (5, .int .i64 x2)]) K =
      w5BindAbove.u20.f k x0 x1 x2 (fun y0 y1 y2 => K .normal (frameL [(0, .slice y0), (4, .slice y1), (5, .int .i64 y2)])) (fun y0 => K .ret (frameL [(2, .bool y0)])) :=
  (evC_block.trans (w5BindAbove.u19.ok k x0 x1 x2 (blockK 1 K))).trans (by kernel_rfl)
theorem w5BindAbove.u21.ok (k : Nat) (x0 : Sl) (x1 : Sl) (x2 : Int) (K : Ex → Frame → M α) :
    evC T (env k) k w5BindAbove.u21.c (frameL [(0, .slice x0), (4, .slice x1), (5, .int .i64 x2)]) K =
      w5BindAbove.u21.f k x0 x1 x2 (fun y0 y1 y2 => K .normal (frameL [(0, .slice y0), (4, .slice y1), (5, .int .i64 y2)])) := by kernel_rfl
theorem w5BindAbove.u22.ok (k : Nat) (x0 : Sl) (x1 : Sl) (x2 : Int) (K : Ex → Frame → M α) :
    evC T (env k) k w5BindAbove.u22.c (frameL [(0, .slice x0), (4, .slice x1), (5, .int .i64 x2)]) K =
      w5BindAbove.u22.f k x0 x1 x2 (fun y0 y1 y2 => K .normal (frameL [(0, .slice y0), (4, .slice y1), (5, .int .i64 y2)])) (fun y0 => K .ret (frameL [(2, .bool y0)])) :=
  by
    have h := w5BindAbove.u20.ok k x0 x1 x2 (seqK (fun ρ => evC T (env k) k w5BindAbove.u21.c ρ K) K)
    simp only [seqK_normal, seqK_exit, seqK_ret, seqK_pan, w5BindAbove.u21.ok] at h
    exact evC_seq_of h
theorem w5BindAbove.u23.ok (k : Nat) (x0 : Sl) (x1 : Sl) (x2 : Int) (K : Ex → Frame → M α) :
    evC T (env k) k w5BindAbove.u23.c (frameL [(0, .slice x0), (4, .slice x1), (5, .int .i64 x2)]) K =
      w5BindAbove.u23.f k x0 x1 x2 (fun y0 y1 y2 => K .normal (frameL [(0, .slice y0), (4, .slice y1), (5, .int .i64 y2)])) (fun y0 => K .ret (frameL [(2, .bool y0)])) (K (.exit 0) (frameL [])) :=
  (w5BindAbove.u3.ok k x0 x1 x2 w5BindAbove.u22.c K).trans
    (congrArg (fun z => w5BindAbove.u3.f k x0 x1 x2 z (K (.exit 0) (frameL []))) (funext fun y0 => (funext fun y1 => (funext fun y2 => w5BindAbove.u22.ok k y0 y1 y2 K))))
theorem w5BindAbove.u24.ls (k : Nat) (kr : Bool → M α) (kx0 : M α) (j : Nat) (x0 : Sl) (x1 : Sl) (x2 : Int) : w5BindAbove.u24.l k kr kx0 (j + 1) x0 x1 x2 =
  w5BindAbove.u23.f k x0 x1 x2 (fun y0 y1 y2 => w5BindAbove.u24.l k kr kx0 j y0 y1 y2) kr kx0 := rfl
theorem w5BindAbove.u24.okl (k : Nat) (K : Ex → Frame → M α) : ∀ (j : Nat) (x0 : Sl) (x1 : Sl) (x2 : Int),
    evLoop (evC T (env k) k w5BindAbove.u23.c) [0, 4, 5] j (frameL [(0, .slice x0), (4, .slice x1), (5, .int .i64 x2)]) K = w5BindAbove.u24.l k (fun y0 => K .ret (frameL [(2, .bool y0)])) (K (.exit 0) (frameL [])) j x0 x1 x2
  | 0, _, _, _ => rfl
  | j + 1, x0, x1, x2 => by
      have h := w5BindAbove.u23.ok k x0 x1 x2 (seqK (fun ρ => evLoop (evC T (env k) k w5BindAbove.u23.c) [0, 4, 5] j ρ K) K)
      simp only [seqK_exit, seqK_ret, seqK_pan, seqK_normal, w5BindAbove.u24.okl k K j] at h
      exact (evLoop_step (by kernel_rfl) h).trans (w5BindAbove.u24.ls k (fun y0 => K .ret (frameL [(2, .bool y0)])) (K (.exit 0) (frameL [])) j x0 x1 x2).symm
theorem w5BindAbove.u24.ok (k : Nat) (x0 : Sl) (x1 : Sl) (x2 : Int) (K : Ex → Frame → M α) :
    evC T (env k) k w5BindAbove.u24.c (frameL [(0, .slice x0), (4, .slice x1), (5, .int .i64 x2)]) K =
      w5BindAbove.u24.f k x0 x1 x2 (fun y0 => K .ret (frameL [(2, .bool y0)])) (K (.exit 0) (frameL [])) :=
  evC_loop.trans <| (evLoop_keep (body := evC T (env k) k w5BindAbove.u23.c) (keep := [0, 4, 5]) (ρ := (frameL [(0, .slice x0), (4, .slice x1), (5, .int .i64 x2)])) (ρ' := (frameL [(0, .slice x0), (4, .slice x1), (5, .int .i64 x2)])) (by kernel_rfl) k K).trans (w5BindAbove.u24.okl k K k x0 x1 x2)
theorem w5BindAbove.u25.ok (k : Nat) (x0 : Sl) (x1 : Sl) (x2 : Int) (K : Ex → Frame → M α) :
    evC T (env k) k w5BindAbove.u25.c (frameL [(0, .slice x0), (4, .slice x1), (5, .int .i64 x2)]) K =
      w5BindAbove.u25.f k x0 x1 x2 (K .normal (frameL [])) (fun y0 => K .ret (frameL [(2, .bool y0)])) :=
  (evC_block.trans (w5BindAbove.u24.ok k x0 x1 x2 (blockK 0 K))).trans (by kernel_rfl)
theorem w5BindAbove.u26.ok (k : Nat) (x0 : Sl) (x1 : Sl) (K : Ex → Frame → M α) :
    evC T (env k) k w5BindAbove.u26.c (frameL [(0, .slice x0), (4, .slice x1)]) K =
      w5BindAbove.u26.f k x0 x1 (K .normal (frameL [])) (fun y0 => K .ret (frameL [(2, .bool y0)])) :=
  (w5BindAbove.u2.ok k x0 x1 w5BindAbove.u25.c K).trans
    (congrArg (fun z => w5BindAbove.u2.f k x0 x1 z) (funext fun y0 => (funext fun y1 => (funext fun y2 => w5BindAbove.u25.ok k y0 y1 y2 K))))
theorem w5BindAbove.u27.ok (k : Nat) (K : Ex → Frame → M α) :
    evC T (env k) k w5BindAbove.u27.c (frameL []) K =
      w5BindAbove.u27.f k (fun y0 => K .ret (frameL [(2, .bool y0)])) := by kernel_rfl
theorem w5BindAbove.u28.ok (k : Nat) (x0 : Sl) (x1 : Sl) (K : Ex → Frame → M α) :
    evC T (env k) k w5BindAbove.u28.c (frameL [(0, .slice x0), (4, .slice x1)]) K =
      w5BindAbove.u28.f k x0 x1 (fun y0 => K .ret (frameL [(2, .bool y0)])) :=
  by
    have h := w5BindAbove.u26.ok k x0 x1 (seqK (fun ρ => evC T (env k) k w5BindAbove.u27.c ρ K) K)
    simp only [seqK_normal, seqK_exit, seqK_ret, seqK_pan, w5BindAbove.u27.ok] at h
    exact evC_seq_of h
theorem w5BindAbove.u29.ok (k : Nat) (x0 : Sl) (K : Ex → Frame → M α) :
    evC T (env k) k w5BindAbove.u29.c (frameL [(0, .slice x0)]) K =
      w5BindAbove.u29.f k x0 (fun y0 => K .ret (frameL [(2, .bool y0)])) :=
  (w5BindAbove.u1.ok k x0 w5BindAbove.u28.c K).trans
    (congrArg (fun z => w5BindAbove.u1.f k x0 z (fun y0 => K .ret (frameL [(2, .bool y0)]))) (funext fun y0 => (funext fun y1 => w5BindAbove.u28.ok k y0 y1 K)))
theorem w5BindAbove.ok (k : Nat) (x0 : Sl) (κ : Res → M α) :
    evF T (env k) k w5BindAbove.c w5BindAbove.res [.slice x0] κ = w5BindAbove.f (k + 1) x0 (fun o0 => κ (.ret (.bool o0))) :=
  (w5BindAbove.u29.ok k x0 (retK T w5BindAbove.res κ)).trans (by kernel_rfl)
theorem w5BindAbove.code : w5BindAbove.c.code = bodyOf Try.f5 := by kernel_rfl
end
end Go.Ab.S3
