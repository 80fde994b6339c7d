import Derived.Test.YtkfoohgkbafafaaS3a0
import Derived.Test.YtkfoohgkbafafaaProg
import Derived.KernelRfl
namespace Go.Ab.S3
open Go.Proofs
set_option linter.unusedVariables false
set_option linter.unusedSimpArgs false
noncomputable def scan_kind.c : IC := scan_kind.u1.c
noncomputable def scan_kind.res : List ResultVar := [(.tmp 2)]
theorem scan_kind.u1.ok {α : Type} (k : Nat) (x0 : Int) (K : Ex → Frame → M α) :
    evC T (env k) k scan_kind.u1.c (frameL [(0, .int .u8 x0)]) K =
      scan_kind.u1.f k x0 (fun y0 => K .ret (frameL [(2, .int .i64 y0)])) := by kernel_rfl
theorem scan_kind.ok {α : Type} (k : Nat) (x0 : Int) (κ : Res → M α) :
    evF T (env k) k scan_kind.c scan_kind.res [.int .u8 x0] κ = scan_kind.f (k + 1) x0 (fun o0 => κ (.ret (.int .i64 o0))) :=
  (scan_kind.u1.ok k x0 (retK T scan_kind.res κ)).trans (by kernel_rfl)
theorem scan_kind.code : scan_kind.c.code = bodyOf Try.f71 := by kernel_rfl

noncomputable def scan_long.c : IC := scan_long.u20.c
noncomputable def scan_long.res : List ResultVar := [(.tmp 4)]
theorem scan_long.u1.ok {α : Type} (k : Nat) (x0 : Int) (x1 : List UInt8) (R : IC) (K : Ex → Frame → M α) :
    evC T (env k) k (scan_long.u1.c R) (frameL [(0, .int .i64 x0), (1, .str x1)]) K =
      scan_long.u1.f k x0 x1 (fun y0 y1 y2 => evC T (env k) k R (frameL [(0, .int .i64 y0), (1, .str y1), (5, .int .i64 y2)]) K) := by kernel_rfl
theorem scan_long.u2.ok {α : Type} (k : Nat) (x0 : Int) (x1 : List UInt8) (x2 : Int) (R : IC) (K : Ex → Frame → M α) :
    evC T (env k) k (scan_long.u2.c R) (frameL [(0, .int .i64 x0), (1, .str x1), (5, .int .i64 x2)]) K =
      scan_long.u2.f k x0 x1 x2 (fun y0 y1 y2 => evC T (env k) k R (frameL [(1, .str y0), (5, .int .i64 y1), (6, .int .i64 y2)]) K) := by kernel_rfl
theorem scan_long.u3.ok {α : Type} (k : Nat) (x0 : List UInt8) (x1 : Int) (x2 : Int) (R : IC) (K : Ex → Frame → M α) :
    evC T (env k) k (scan_long.u3.c R) (frameL [(1, .str x0), (5, .int .i64 x1), (6, .int .i64 x2)]) K =
      scan_long.u3.f k x0 x1 x2 (fun y0 y1 y2 y3 => evC T (env k) k R (frameL [(1, .str y0), (5, .int .i64 y1), (6, .int .i64 y2), (7, .bool y3)]) K) := by kernel_rfl
theorem scan_long.u4.ok {α : Type} (k : Nat) (x0 : List UInt8) (x1 : Int) (K : Ex → Frame → M α) :
    evC T (env k) k scan_long.u4.c (frameL [(1, .str x0), (5, .int .i64 x1)]) K =
      scan_long.u4.f k x0 x1 (fun y0 y1 => K .normal (frameL [(1, .str y0), (5, .int .i64 y1)])) (fun y0 => K (.exit 1) (frameL [(5, .int .i64 y0)])) := by kernel_rfl
theorem scan_long.u5.ls {α : Type} (k : Nat) (kx1 : Int → M α) (j : Nat) (x0 : List UInt8) (x1 : Int) : scan_long.u5.l k kx1 (j + 1) x0 x1 =
  scan_long.u4.f k x0 x1 (fun y0 y1 => scan_long.u5.l k kx1 j y0 y1) kx1 := rfl
theorem scan_long.u5.okl {α : Type} (k : Nat) (K : Ex → Frame → M α) : ∀ (j : Nat) (x0 : List UInt8) (x1 : Int),
    evLoop (evC T (env k) k scan_long.u4.c) [1, 5] j (frameL [(1, .str x0), (5, .int .i64 x1)]) K = scan_long.u5.l k (fun y0 => K (.exit 1) (frameL [(5, .int .i64 y0)])) j x0 x1
  | 0, _, _ => rfl
  | j + 1, x0, x1 => by
      have h := scan_long.u4.ok k x0 x1 (seqK (fun ρ => evLoop (evC T (env k) k scan_long.u4.c) [1, 5] j ρ K) K)
      simp only [seqK_exit, seqK_ret, seqK_pan, seqK_normal, scan_long.u5.okl k K j] at h
      exact (evLoop_step (by kernel_rfl) h).trans (scan_long.u5.ls k (fun y0 => K (.exit 1) (frameL [(5, .int .i64 y0)])) j x0 x1).symm
theorem scan_long.u5.ok {α : Type} (k : Nat) (x0 : List UInt8) (x1 : Int) (x2 : Int) (x3 : Bool) (K : Ex → Frame → M α) :
    evC T (env k) k scan_long.u5.c (frameL [(1, .str x0), (5, .int .i64 x1), (6, .int .i64 x2), (7, .bool x3)]) K =
      scan_long.u5.f k x0 x1 x2 x3 (fun y0 => K (.exit 1) (frameL [(5, .int .i64 y0)])) :=
  evC_loop.trans <| (evLoop_keep (body := evC T (env k) k scan_long.u4.c) (keep := [1, 5]) (ρ := (frameL [(1, .str x0), (5, .int .i64 x1), (6, .int .i64 x2), (7, .bool x3)])) (ρ' := (frameL [(1, .str x0), (5, .int .i64 x1)])) (by kernel_rfl) k K).trans (scan_long.u5.okl k K k x0 x1)
theorem scan_long.u6.ok {α : Type} (k : Nat) (x0 : List UInt8) (x1 : Int) (x2 : Int) (x3 : Bool) (K : Ex → Frame → M α) :
    evC T (env k) k scan_long.u6.c (frameL [(1, .str x0), (5, .int .i64 x1), (6, .int .i64 x2), (7, .bool x3)]) K =
      scan_long.u6.f k x0 x1 x2 x3 (fun y0 => K .normal (frameL [(5, .int .i64 y0)])) :=
  (evC_block.trans (scan_long.u5.ok k x0 x1 x2 x3 (blockK 1 K))).trans (by kernel_rfl)
theorem scan_long.u7.ok {α : Type} (k : Nat) (x0 : List UInt8) (x1 : Int) (x2 : Int) (x3 : Bool) (R : IC) (K : Ex → Frame → M α) :
    evC T (env k) k (scan_long.u7.c R) (frameL [(1, .str x0), (5, .int .i64 x1), (6, .int .i64 x2), (7, .bool x3)]) K =
      scan_long.u7.f k x0 x1 x2 x3 (fun y0 y1 y2 => evC T (env k) k R (frameL [(1, .str y0), (5, .int .i64 y1), (27, .bool y2)]) K) := by kernel_rfl
theorem scan_long.u8.ok {α : Type} (k : Nat) (x0 : List UInt8) (x1 : Int) (K : Ex → Frame → M α) :
    evC T (env k) k scan_long.u8.c (frameL [(1, .str x0), (5, .int .i64 x1)]) K =
      scan_long.u8.f k x0 x1 (fun y0 y1 => K .normal (frameL [(1, .str y0), (5, .int .i64 y1)])) (fun y0 => K (.exit 3) (frameL [(5, .int .i64 y0)])) := by kernel_rfl
theorem scan_long.u9.ls {α : Type} (k : Nat) (kx3 : Int → M α) (j : Nat) (x0 : List UInt8) (x1 : Int) : scan_long.u9.l k kx3 (j + 1) x0 x1 =
  scan_long.u8.f k x0 x1 (fun y0 y1 => scan_long.u9.l k kx3 j y0 y1) kx3 := rfl
theorem scan_long.u9.okl {α : Type} (k : Nat) (K : Ex → Frame → M α) : ∀ (j : Nat) (x0 : List UInt8) (x1 : Int),
    evLoop (evC T (env k) k scan_long.u8.c) [1, 5] j (frameL [(1, .str x0), (5, .int .i64 x1)]) K = scan_long.u9.l k (fun y0 => K (.exit 3) (frameL [(5, .int .i64 y0)])) j x0 x1
  | 0, _, _ => rfl
  | j + 1, x0, x1 => by
      have h := scan_long.u8.ok k x0 x1 (seqK (fun ρ => evLoop (evC T (env k) k scan_long.u8.c) [1, 5] j ρ K) K)
      simp only [seqK_exit, seqK_ret, seqK_pan, seqK_normal, scan_long.u9.okl k K j] at h
      exact (evLoop_step (by kernel_rfl) h).trans (scan_long.u9.ls k (fun y0 => K (.exit 3) (frameL [(5, .int .i64 y0)])) j x0 x1).symm
theorem scan_long.u9.ok {α : Type} (k : Nat) (x0 : List UInt8) (x1 : Int) (x2 : Bool) (K : Ex → Frame → M α) :
    evC T (env k) k scan_long.u9.c (frameL [(1, .str x0), (5, .int .i64 x1), (27, .bool x2)]) K =
      scan_long.u9.f k x0 x1 x2 (fun y0 => K (.exit 3) (frameL [(5, .int .i64 y0)])) :=
  evC_loop.trans <| (evLoop_keep (body := evC T (env k) k scan_long.u8.c) (keep := [1, 5]) (ρ := (frameL [(1, .str x0), (5, .int .i64 x1), (27, .bool x2)])) (ρ' := (frameL [(1, .str x0), (5, .int .i64 x1)])) (by kernel_rfl) k K).trans (scan_long.u9.okl k K k x0 x1)
theorem scan_long.u10.ok {α : Type} (k : Nat) (x0 : List UInt8) (x1 : Int) (x2 : Bool) (K : Ex → Frame → M α) :
    evC T (env k) k scan_long.u10.c (frameL [(1, .str x0), (5, .int .i64 x1), (27, .bool x2)]) K =
      scan_long.u10.f k x0 x1 x2 (fun y0 => K .normal (frameL [(5, .int .i64 y0)])) :=
  (evC_block.trans (scan_long.u9.ok k x0 x1 x2 (blockK 3 K))).trans (by kernel_rfl)
theorem scan_long.u11.ok {α : Type} (k : Nat) (x0 : List UInt8) (x1 : Int) (x2 : Bool) (K : Ex → Frame → M α) :
    evC T (env k) k scan_long.u11.c (frameL [(1, .str x0), (5, .int .i64 x1), (27, .bool x2)]) K =
      scan_long.u11.f k x0 x1 x2 (fun y0 => K .normal (frameL [(5, .int .i64 y0)])) := by kernel_rfl
theorem scan_long.u12.ok {α : Type} (k : Nat) (x0 : List UInt8) (x1 : Int) (x2 : Bool) (K : Ex → Frame → M α) :
    evC T (env k) k scan_long.u12.c (frameL [(1, .str x0), (5, .int .i64 x1), (27, .bool x2)]) K =
      scan_long.u12.f k x0 x1 x2 (fun y0 => K .normal (frameL [(5, .int .i64 y0)])) :=
  evC_cond_run (g := x2) (by kernel_rfl) (scan_long.u10.ok k x0 x1 x2 K) (scan_long.u11.ok k x0 x1 x2 K)
theorem scan_long.u13.ok {α : Type} (k : Nat) (x0 : List UInt8) (x1 : Int) (x2 : Int) (x3 : Bool) (K : Ex → Frame → M α) :
    evC T (env k) k scan_long.u13.c (frameL [(1, .str x0), (5, .int .i64 x1), (6, .int .i64 x2), (7, .bool x3)]) K =
      scan_long.u13.f k x0 x1 x2 x3 (fun y0 => K .normal (frameL [(5, .int .i64 y0)])) :=
  (scan_long.u7.ok k x0 x1 x2 x3 scan_long.u12.c K).trans
    (congrArg (fun z => scan_long.u7.f k x0 x1 x2 x3 z) (funext fun y0 => (funext fun y1 => (funext fun y2 => scan_long.u12.ok k y0 y1 y2 K))))
theorem scan_long.u14.ok {α : Type} (k : Nat) (x0 : List UInt8) (x1 : Int) (x2 : Int) (x3 : Bool) (K : Ex → Frame → M α) :
    evC T (env k) k scan_long.u14.c (frameL [(1, .str x0), (5, .int .i64 x1), (6, .int .i64 x2), (7, .bool x3)]) K =
      scan_long.u14.f k x0 x1 x2 x3 (fun y0 => K .normal (frameL [(5, .int .i64 y0)])) :=
  evC_cond_run (g := x3) (by kernel_rfl) (scan_long.u6.ok k x0 x1 x2 x3 K) (scan_long.u13.ok k x0 x1 x2 x3 K)
theorem scan_long.u15.ok {α : Type} (k : Nat) (x0 : List UInt8) (x1 : Int) (x2 : Int) (K : Ex → Frame → M α) :
    evC T (env k) k scan_long.u15.c (frameL [(1, .str x0), (5, .int .i64 x1), (6, .int .i64 x2)]) K =
      scan_long.u15.f k x0 x1 x2 (fun y0 => K .normal (frameL [(5, .int .i64 y0)])) :=
  (scan_long.u3.ok k x0 x1 x2 scan_long.u14.c K).trans
    (congrArg (fun z => scan_long.u3.f k x0 x1 x2 z) (funext fun y0 => (funext fun y1 => (funext fun y2 => (funext fun y3 => scan_long.u14.ok k y0 y1 y2 y3 K)))))
theorem scan_long.u16.ok {α : Type} (k : Nat) (x0 : List UInt8) (x1 : Int) (x2 : Int) (K : Ex → Frame → M α) :
    evC T (env k) k scan_long.u16.c (frameL [(1, .str x0), (5, .int .i64 x1), (6, .int .i64 x2)]) K =
      scan_long.u16.f k x0 x1 x2 (fun y0 => K .normal (frameL [(5, .int .i64 y0)])) :=
  (evC_block.trans (scan_long.u15.ok k x0 x1 x2 (blockK 0 K))).trans (by kernel_rfl)
theorem scan_long.u17.ok {α : Type} (k : Nat) (x0 : Int) (x1 : List UInt8) (x2 : Int) (K : Ex → Frame → M α) :
    evC T (env k) k scan_long.u17.c (frameL [(0, .int .i64 x0), (1, .str x1), (5, .int .i64 x2)]) K =
      scan_long.u17.f k x0 x1 x2 (fun y0 => K .normal (frameL [(5, .int .i64 y0)])) :=
  (scan_long.u2.ok k x0 x1 x2 scan_long.u16.c K).trans
    (congrArg (fun z => scan_long.u2.f k x0 x1 x2 z) (funext fun y0 => (funext fun y1 => (funext fun y2 => scan_long.u16.ok k y0 y1 y2 K))))
theorem scan_long.u18.ok {α : Type} (k : Nat) (x0 : Int) (K : Ex → Frame → M α) :
    evC T (env k) k scan_long.u18.c (frameL [(5, .int .i64 x0)]) K =
      scan_long.u18.f k x0 (fun y0 => K .ret (frameL [(4, .int .i64 y0)])) := by kernel_rfl
theorem scan_long.u19.ok {α : Type} (k : Nat) (x0 : Int) (x1 : List UInt8) (x2 : Int) (K : Ex → Frame → M α) :
    evC T (env k) k scan_long.u19.c (frameL [(0, .int .i64 x0), (1, .str x1), (5, .int .i64 x2)]) K =
      scan_long.u19.f k x0 x1 x2 (fun y0 => K .ret (frameL [(4, .int .i64 y0)])) :=
  by
    have h := scan_long.u17.ok k x0 x1 x2 (seqK (fun ρ => evC T (env k) k scan_long.u18.c ρ K) K)
    simp only [seqK_normal, seqK_exit, seqK_ret, seqK_pan, scan_long.u18.ok] at h
    exact evC_seq_of h
theorem scan_long.u20.ok {α : Type} (k : Nat) (x0 : Int) (x1 : List UInt8) (K : Ex → Frame → M α) :
    evC T (env k) k scan_long.u20.c (frameL [(0, .int .i64 x0), (1, .str x1)]) K =
      scan_long.u20.f k x0 x1 (fun y0 => K .ret (frameL [(4, .int .i64 y0)])) :=
  (scan_long.u1.ok k x0 x1 scan_long.u19.c K).trans
    (congrArg (fun z => scan_long.u1.f k x0 x1 z) (funext fun y0 => (funext fun y1 => (funext fun y2 => scan_long.u19.ok k y0 y1 y2 K))))
theorem scan_long.ok {α : Type} (k : Nat) (x0 : Int) (x1 : List UInt8) (κ : Res → M α) :
    evF T (env k) k scan_long.c scan_long.res [.int .i64 x0, .str x1] κ = scan_long.f (k + 1) x0 x1 (fun o0 => κ (.ret (.int .i64 o0))) :=
  (scan_long.u20.ok k x0 x1 (retK T scan_long.res κ)).trans (by kernel_rfl)
theorem scan_long.code : scan_long.c.code = bodyOf Try.f72 := by kernel_rfl

noncomputable def scan_value.c : IC := scan_value.u11.c
noncomputable def scan_value.res : List ResultVar := [(.tmp 2), (.tmp 3)]
theorem scan_value.u1.ok {α : Type} (k : Nat) (x0 : List UInt8) (R : IC) (K : Ex → Frame → M α) :
    evC T (env k) k (scan_value.u1.c R) (frameL [(0, .str x0)]) K =
      scan_value.u1.f k x0 (fun y0 => evC T (env k) k R (frameL [(0, .str y0)]) K) (fun y0 y1 => K .ret (frameL [(2, .int .i64 y0), (3, .bool y1)])) := by kernel_rfl
theorem scan_value.u2.ok {α : Type} (k : Nat) (x0 : List UInt8) (R : IC) (K : Ex → Frame → M α) :
    evC T (env k) k (scan_value.u2.c R) (frameL [(0, .str x0)]) K =
      scan_value.u2.f k x0 (fun y0 y1 => evC T (env k) k R (frameL [(0, .str y0), (4, .int .i64 y1)]) K) := by kernel_rfl
theorem scan_value.u3.ok {α : Type} (k : Nat) (x0 : List UInt8) (x1 : Int) (R : IC) (K : Ex → Frame → M α) :
    evC T (env k) k (scan_value.u3.c R) (frameL [(0, .str x0), (4, .int .i64 x1)]) K =
      scan_value.u3.f k x0 x1 (fun y0 y1 y2 y3 => evC T (env k) k R (frameL [(0, .str y0), (4, .int .i64 y1), (20, .int .i64 y2), (21, .int .i64 y3)]) K) := by kernel_rfl
theorem scan_value.u4.ok {α : Type} (k : Nat) (x0 : List UInt8) (x1 : Int) (x2 : Int) (x3 : Int) (K : Ex → Frame → M α) :
    evC T (env k) k scan_value.u4.c (frameL [(0, .str x0), (4, .int .i64 x1), (20, .int .i64 x2), (21, .int .i64 x3)]) K =
      scan_value.u4.f k x0 x1 x2 x3 (fun y0 y1 y2 y3 => K .normal (frameL [(0, .str y0), (4, .int .i64 y1), (20, .int .i64 y2), (21, .int .i64 y3)])) (fun y0 => K (.exit 0) (frameL [(4, .int .i64 y0)])) := by kernel_rfl
theorem scan_value.u5.ls {α : Type} (k : Nat) (kx0 : Int → M α) (j : Nat) (x0 : List UInt8) (x1 : Int) (x2 : Int) (x3 : Int) : scan_value.u5.l k kx0 (j + 1) x0 x1 x2 x3 =
  scan_value.u4.f k x0 x1 x2 x3 (fun y0 y1 y2 y3 => scan_value.u5.l k kx0 j y0 y1 y2 y3) kx0 := rfl
theorem scan_value.u5.okl {α : Type} (k : Nat) (K : Ex → Frame → M α) : ∀ (j : Nat) (x0 : List UInt8) (x1 : Int) (x2 : Int) (x3 : Int),
    evLoop (evC T (env k) k scan_value.u4.c) [0, 4, 20, 21] j (frameL [(0, .str x0), (4, .int .i64 x1), (20, .int .i64 x2), (21, .int .i64 x3)]) K = scan_value.u5.l k (fun y0 => K (.exit 0) (frameL [(4, .int .i64 y0)])) j x0 x1 x2 x3
  | 0, _, _, _, _ => rfl
  | j + 1, x0, x1, x2, x3 => by
      have h := scan_value.u4.ok k x0 x1 x2 x3 (seqK (fun ρ => evLoop (evC T (env k) k scan_value.u4.c) [0, 4, 20, 21] j ρ K) K)
      simp only [seqK_exit, seqK_ret, seqK_pan, seqK_normal, scan_value.u5.okl k K j] at h
      exact (evLoop_step (by kernel_rfl) h).trans (scan_value.u5.ls k (fun y0 => K (.exit 0) (frameL [(4, .int .i64 y0)])) j x0 x1 x2 x3).symm
theorem scan_value.u5.ok {α : Type} (k : Nat) (x0 : List UInt8) (x1 : Int) (x2 : Int) (x3 : Int) (K : Ex → Frame → M α) :
    evC T (env k) k scan_value.u5.c (frameL [(0, .str x0), (4, .int .i64 x1), (20, .int .i64 x2), (21, .int .i64 x3)]) K =
      scan_value.u5.f k x0 x1 x2 x3 (fun y0 => K (.exit 0) (frameL [(4, .int .i64 y0)])) :=
  evC_loop.trans <| (evLoop_keep (body := evC T (env k) k scan_value.u4.c) (keep := [0, 4, 20, 21]) (ρ := (frameL [(0, .str x0), (4, .int .i64 x1), (20, .int .i64 x2), (21, .int .i64 x3)])) (ρ' := (frameL [(0, .str x0), (4, .int .i64 x1), (20, .int .i64 x2), (21, .int .i64 x3)])) (by kernel_rfl) k K).trans (scan_value.u5.okl k K k x0 x1 x2 x3)
theorem scan_value.u6.ok {α : Type} (k : Nat) (x0 : List UInt8) (x1 : Int) (x2 : Int) (x3 : Int) (K : Ex → Frame → M α) :
    evC T (env k) k scan_value.u6.c (frameL [(0, .str x0), (4, .int .i64 x1), (20, .int .i64 x2), (21, .int .i64 x3)]) K =
      scan_value.u6.f k x0 x1 x2 x3 (fun y0 => K .normal (frameL [(4, .int .i64 y0)])) :=
  (evC_block.trans (scan_value.u5.ok k x0 x1 x2 x3 (blockK 0 K))).trans (by kernel_rfl)
theorem scan_value.u7.ok {α : Type} (k : Nat) (x0 : List UInt8) (x1 : Int) (K : Ex → Frame → M α) :
    evC T (env k) k scan_value.u7.c (frameL [(0, .str x0), (4, .int .i64 x1)]) K =
      scan_value.u7.f k x0 x1 (fun y0 => K .normal (frameL [(4, .int .i64 y0)])) :=
  (scan_value.u3.ok k x0 x1 scan_value.u6.c K).trans
    (congrArg (fun z => scan_value.u3.f k x0 x1 z) (funext fun y0 => (funext fun y1 => (funext fun y2 => (funext fun y3 => scan_value.u6.ok k y0 y1 y2 y3 K)))))
theorem scan_value.u8.ok {α : Type} (k : Nat) (x0 : Int) (K : Ex → Frame → M α) :
    evC T (env k) k scan_value.u8.c (frameL [(4, .int .i64 x0)]) K =
      scan_value.u8.f k x0 (fun y0 y1 => K .ret (frameL [(2, .int .i64 y0), (3, .bool y1)])) := by kernel_rfl
theorem scan_value.u9.ok {α : Type} (k : Nat) (x0 : List UInt8) (x1 : Int) (K : Ex → Frame → M α) :
    evC T (env k) k scan_value.u9.c (frameL [(0, .str x0), (4, .int .i64 x1)]) K =
      scan_value.u9.f k x0 x1 (fun y0 y1 => K .ret (frameL [(2, .int .i64 y0), (3, .bool y1)])) :=
  by
    have h := scan_value.u7.ok k x0 x1 (seqK (fun ρ => evC T (env k) k scan_value.u8.c ρ K) K)
    simp only [seqK_normal, seqK_exit, seqK_ret, seqK_pan, scan_value.u8.ok] at h
    exact evC_seq_of h
theorem scan_value.u10.ok {α : Type} (k : Nat) (x0 : List UInt8) (K : Ex → Frame → M α) :
    evC T (env k) k scan_value.u10.c (frameL [(0, .str x0)]) K =
      scan_value.u10.f k x0 (fun y0 y1 => K .ret (frameL [(2, .int .i64 y0), (3, .bool y1)])) :=
  (scan_value.u2.ok k x0 scan_value.u9.c K).trans
    (congrArg (fun z => scan_value.u2.f k x0 z) (funext fun y0 => (funext fun y1 => scan_value.u9.ok k y0 y1 K)))
theorem scan_value.u11.ok {α : Type} (k : Nat) (x0 : List UInt8) (K : Ex → Frame → M α) :
    evC T (env k) k scan_value.u11.c (frameL [(0, .str x0)]) K =
      scan_value.u11.f k x0 (fun y0 y1 => K .ret (frameL [(2, .int .i64 y0), (3, .bool y1)])) :=
  (scan_value.u1.ok k x0 scan_value.u10.c K).trans
    (congrArg (fun z => scan_value.u1.f k x0 z (fun y0 y1 => K .ret (frameL [(2, .int .i64 y0), (3, .bool y1)]))) (funext fun y0 => scan_value.u10.ok k y0 K))
theorem scan_value.ok {α : Type} (k : Nat) (x0 : List UInt8) (κ : Res → M α) :
    evF T (env k) k scan_value.c scan_value.res [.str x0] κ = scan_value.f (k + 1) x0 (fun o0 o1 => κ (.ret (.tuple [.int .i64 o0, .bool o1]))) :=
  (scan_value.u11.ok k x0 (retK T scan_value.res κ)).trans (by kernel_rfl)
theorem scan_value.code : scan_value.c.code = bodyOf Try.f73 := by kernel_rfl

noncomputable def scan_token.c : IC := scan_token.u1.c
noncomputable def scan_token.res : List ResultVar := [(.cell 4 79), (.tmp 5)]
theorem scan_token.u1.ok {α : Type} (k : Nat) (x0 : List UInt8) (x1 : Int) (K : Ex → Frame → M α) :
    evC T (env k) k scan_token.u1.c (frameL [(0, .str x0), (1, .int .i64 x1)]) K =
      scan_token.u1.f k x0 x1 (fun y0 y1 => K .ret (frameL [(4, .ptr (some y0)), (5, .int .i64 y1)])) := by kernel_rfl
theorem scan_token.ok {α : Type} (k : Nat) (x0 : List UInt8) (x1 : Int) (κ : Res → M α) :
    evF T (env k) k scan_token.c scan_token.res [.str x0, .int .i64 x1] κ = scan_token.f (k + 1) x0 x1 (fun o0 o1 o2 o3 o4 => κ (.ret (.tuple [.agg [.int .i64 o0, .int .i64 o1, .str o2, .int .i64 o3], .int .i64 o4]))) :=
  (scan_token.u1.ok k x0 x1 (retK T scan_token.res κ)).trans (by kernel_rfl)
theorem scan_token.code : scan_token.c.code = bodyOf Try.f60 := by kernel_rfl

noncomputable def scan_All.c : IC := scan_All.u9.c
noncomputable def scan_All.res : List ResultVar := [(.tmp 2), (.tmp 3)]
theorem scan_All.u1.ok {α : Type} (k : Nat) (x0 : List UInt8) (R : IC) (K : Ex → Frame → M α) :
    evC T (env k) k (scan_All.u1.c R) (frameL [(0, .str x0)]) K =
      scan_All.u1.f k x0 (fun y0 y1 => evC T (env k) k R (frameL [(0, .str y0), (4, .slice y1)]) K) (fun y0 y1 => K .ret (frameL [(2, .slice y0), (3, .iface 75 (.ptr (some y1)))])) := by kernel_rfl
theorem scan_All.u2.ok {α : Type} (k : Nat) (x0 : List UInt8) (x1 : Sl) (R : IC) (K : Ex → Frame → M α) :
    evC T (env k) k (scan_All.u2.c R) (frameL [(0, .str x0), (4, .slice x1)]) K =
      scan_All.u2.f k x0 x1 (fun y0 y1 y2 => evC T (env k) k R (frameL [(0, .str y0), (4, .slice y1), (5, .int .i64 y2)]) K) := by kernel_rfl
theorem scan_All.u3.ok {α : Type} (k : Nat) (x0 : List UInt8) (x1 : Sl) (x2 : Int) (K : Ex → Frame → M α) :
    evC T (env k) k scan_All.u3.c (frameL [(0, .str x0), (4, .slice x1), (5, .int .i64 x2)]) K =
      scan_All.u3.f k x0 x1 x2 (fun y0 y1 y2 => K .normal (frameL [(0, .str y0), (4, .slice y1), (5, .int .i64 y2)])) (fun y0 y1 => K .ret (frameL [(2, .slice y0), (3, .iface 75 (.ptr (some y1)))])) (fun y0 y1 => K (.exit 0) (frameL [(0, .str y0), (4, .slice y1)])) := by kernel_rfl
theorem scan_All.u4.ls {α : Type} (k : Nat) (kr : Sl → Ad → M α) (kx0 : List UInt8 → Sl → M α) (j : Nat) (x0 : List UInt8) (x1 : Sl) (x2 : Int) : scan_All.u4.l k kr kx0 (j + 1) x0 x1 x2 =
  scan_All.u3.f k x0 x1 x2 (fun y0 y1 y2 => scan_All.u4.l k kr kx0 j y0 y1 y2) kr kx0 := rfl
theorem scan_All.u4.okl {α : Type} (k : Nat) (K : Ex → Frame → M α) : ∀ (j : Nat) (x0 : List UInt8) (x1 : Sl) (x2 : Int),
    evLoop (evC T (env k) k scan_All.u3.c) [0, 4, 5] j (frameL [(0, .str x0), (4, .slice x1), (5, .int .i64 x2)]) K = scan_All.u4.l k (fun y0 y1 => K .ret (frameL [(2, .slice y0), (3, .iface 75 (.ptr (some y1)))])) (fun y0 y1 => K (.exit 0) (frameL [(0, .str y0), (4, .slice y1)])) j x0 x1 x2
  | 0, _, _, _ => rfl
  | j + 1, x0, x1, x2 => by
      have h := scan_All.u3.ok k x0 x1 x2 (seqK (fun ρ => evLoop (evC T (env k) k scan_All.u3.c) [0, 4, 5] j ρ K) K)
      simp only [seqK_exit, seqK_ret, seqK_pan, seqK_normal, scan_All.u4.okl k K j] at h
      exact (evLoop_step (by kernel_rfl) h).trans (scan_All.u4.ls k (fun y0 y1 => K .ret (frameL [(2, .slice y0), (3, .iface 75 (.ptr (some y1)))])) (fun y0 y1 => K (.exit 0) (frameL [(0, .str y0), (4, .slice y1)])) j x0 x1 x2).symm
theorem scan_All.u4.ok {α : Type} (k : Nat) (x0 : List UInt8) (x1 : Sl) (x2 : Int) (K : Ex → Frame → M α) :
    evC T (env k) k scan_All.u4.c (frameL [(0, .str x0), (4, .slice x1), (5, .int .i64 x2)]) K =
      scan_All.u4.f k x0 x1 x2 (fun y0 y1 => K .ret (frameL [(2, .slice y0), (3, .iface 75 (.ptr (some y1)))])) (fun y0 y1 => K (.exit 0) (frameL [(0, .str y0), (4, .slice y1)])) :=
  evC_loop.trans <| (evLoop_keep (body := evC T (env k) k scan_All.u3.c) (keep := [0, 4, 5]) (ρ := (frameL [(0, .str x0), (4, .slice x1), (5, .int .i64 x2)])) (ρ' := (frameL [(0, .str x0), (4, .slice x1), (5, .int .i64 x2)])) (by kernel_rfl) k K).trans (scan_All.u4.okl k K k x0 x1 x2)
theorem scan_All.u5.ok {α : Type} (k : Nat) (x0 : List UInt8) (x1 : Sl) (x2 : Int) (K : Ex → Frame → M α) :
    evC T (env k) k scan_All.u5.c (frameL [(0, .str x0), (4, .slice x1), (5, .int .i64 x2)]) K =
      scan_All.u5.f k x0 x1 x2 (fun y0 y1 => K .normal (frameL [(0, .str y0), (4, .slice y1)])) (fun y0 y1 => K .ret (frameL [(2, .slice y0), (3, .iface 75 (.ptr (some y1)))])) :=
  (evC_block.trans (scan_All.u4.ok k x0 x1 x2 (blockK 0 K))).trans (by kernel_rfl)
theorem scan_All.u6.ok {α : Type} (k : Nat) (x0 : List UInt8) (x1 : Sl) (K : Ex → Frame → M α) :
    evC T (env k) k scan_All.u6.c (frameL [(0, .str x0), (4, .slice x1)]) K =
      scan_All.u6.f k x0 x1 (fun y0 y1 => K .normal (frameL [(0, .str y0), (4, .slice y1)])) (fun y0 y1 => K .ret (frameL [(2, .slice y0), (3, .iface 75 (.ptr (some y1)))])) :=
  (scan_All.u2.ok k x0 x1 scan_All.u5.c K).trans
    (congrArg (fun z => scan_All.u2.f k x0 x1 z) (funext fun y0 => (funext fun y1 => (funext fun y2 => scan_All.u5.ok k y0 y1 y2 K))))
theorem scan_All.u7.ok {α : Type} (k : Nat) (x0 : List UInt8) (x1 : Sl) (K : Ex → Frame → M α) :
    evC T (env k) k scan_All.u7.c (frameL [(0, .str x0), (4, .slice x1)]) K =
      scan_All.u7.f k x0 x1 (fun y0 => K .ret (frameL [(2, .slice y0), (3, .nilIface)])) := by kernel_rfl
theorem scan_All.u8.ok {α : Type} (k : Nat) (x0 : List UInt8) (x1 : Sl) (K : Ex → Frame → M α) :
    evC T (env k) k scan_All.u8.c (frameL [(0, .str x0), (4, .slice x1)]) K =
      scan_All.u8.f k x0 x1 (fun y0 y1 => K .ret (frameL [(2, .slice y0), (3, y1)])) :=
  by
    have h := scan_All.u6.ok k x0 x1 (seqK (fun ρ => evC T (env k) k scan_All.u7.c ρ K) K)
    simp only [seqK_normal, seqK_exit, seqK_ret, seqK_pan, scan_All.u7.ok] at h
    exact evC_seq_of h
theorem scan_All.u9.ok {α : Type} (k : Nat) (x0 : List UInt8) (K : Ex → Frame → M α) :
    evC T (env k) k scan_All.u9.c (frameL [(0, .str x0)]) K =
      scan_All.u9.f k x0 (fun y0 y1 => K .ret (frameL [(2, .slice y0), (3, y1)])) :=
  (scan_All.u1.ok k x0 scan_All.u8.c K).trans
    (congrArg (fun z => scan_All.u1.f k x0 z (fun y0 y1 => K .ret (frameL [(2, .slice y0), (3, .iface 75 (.ptr (some y1)))]))) (funext fun y0 => (funext fun y1 => scan_All.u8.ok k y0 y1 K)))
theorem scan_All.ok {α : Type} (k : Nat) (x0 : List UInt8) (κ : Res → M α) :
    evF T (env k) k scan_All.c scan_All.res [.str x0] κ = scan_All.f (k + 1) x0 (fun o0 o1 => κ (.ret (.tuple [.slice o0, o1]))) :=
  (scan_All.u9.ok k x0 (retK T scan_All.res κ)).trans (by kernel_rfl)
theorem scan_All.code : scan_All.c.code = bodyOf Try.f44 := by kernel_rfl

noncomputable def syntax_Parse_c2.c : IC := syntax_Parse_c2.u1.c
noncomputable def syntax_Parse_c2.res : List ResultVar := [(.tmp 2)]
theorem syntax_Parse_c2.u1.ok {α : Type} (k : Nat) (x0 : Int) (x1 : Int) (x2 : List UInt8) (x3 : Int) (K : Ex → Frame → M α) :
    evC T (env k) k syntax_Parse_c2.u1.c (frameL [(0, .agg [.int .i64 x0, .int .i64 x1, .str x2, .int .i64 x3])]) K =
      syntax_Parse_c2.u1.f k x0 x1 x2 x3 (fun y0 => K .ret (frameL [(2, .bool y0)])) := by kernel_rfl
theorem syntax_Parse_c2.ok {α : Type} (k : Nat) (x0 : Int) (x1 : Int) (x2 : List UInt8) (x3 : Int) (κ : Res → M α) :
    evF T (env k) k syntax_Parse_c2.c syntax_Parse_c2.res [.agg [.int .i64 x0, .int .i64 x1, .str x2, .int .i64 x3]] κ = syntax_Parse_c2.f (k + 1) x0 x1 x2 x3 (fun o0 => κ (.ret (.bool o0))) :=
  (syntax_Parse_c2.u1.ok k x0 x1 x2 x3 (retK T syntax_Parse_c2.res κ)).trans (by kernel_rfl)
theorem syntax_Parse_c2.code : syntax_Parse_c2.c.code = bodyOf Try.f47 := by kernel_rfl

noncomputable def slices_IndexFunc_Token_Token_47.c : IC := slices_IndexFunc_Token_Token_47.u9.c
noncomputable def slices_IndexFunc_Token_Token_47.res : List ResultVar := [(.tmp 4)]
theorem slices_IndexFunc_Token_Token_47.u1.ok {α : Type} (k : Nat) (x0 : Sl) (R : IC) (K : Ex → Frame → M α) :
    evC T (env k) k (slices_IndexFunc_Token_Token_47.u1.c R) (frameL [(0, .slice x0), (1, .func 47 [] [])]) K =
      slices_IndexFunc_Token_Token_47.u1.f k x0 (fun y0 => evC T (env k) k R (frameL [(0, .slice y0), (1, .func 47 [] [])]) K) := by kernel_rfl
theorem slices_IndexFunc_Token_Token_47.u2.ok {α : Type} (k : Nat) (x0 : Sl) (R : IC) (K : Ex → Frame → M α) :
    evC T (env k) k (slices_IndexFunc_Token_Token_47.u2.c R) (frameL [(0, .slice x0), (1, .func 47 [] [])]) K =
      slices_IndexFunc_Token_Token_47.u2.f k x0 (fun y0 y1 y2 => evC T (env k) k R (frameL [(0, .slice y0), (1, .func 47 [] []), (7, .int .i64 y1), (8, .int .i64 y2)]) K) := by kernel_rfl
theorem slices_IndexFunc_Token_Token_47.u3.ok {α : Type} (k : Nat) (x0 : Sl) (x1 : Int) (x2 : Int) (K : Ex → Frame → M α) :
    evC T (env k) k slices_IndexFunc_Token_Token_47.u3.c (frameL [(0, .slice x0), (1, .func 47 [] []), (7, .int .i64 x1), (8, .int .i64 x2)]) K =
      slices_IndexFunc_Token_Token_47.u3.f k x0 x1 x2 (fun y0 y1 y2 => K .normal (frameL [(0, .slice y0), (1, .func 47 [] []), (7, .int .i64 y1), (8, .int .i64 y2)])) (fun y0 => K .ret (frameL [(4, .int .i64 y0)])) (K (.exit 0) (frameL [])) := by kernel_rfl
theorem slices_IndexFunc_Token_Token_47.u4.ls {α : Type} (k : Nat) (kr : Int → M α) (kx0 : M α) (j : Nat) (x0 : Sl) (x1 : Int) (x2 : Int) : slices_IndexFunc_Token_Token_47.u4.l k kr kx0 (j + 1) x0 x1 x2 =
  slices_IndexFunc_Token_Token_47.u3.f k x0 x1 x2 (fun y0 y1 y2 => slices_IndexFunc_Token_Token_47.u4.l k kr kx0 j y0 y1 y2) kr kx0 := rfl
theorem slices_IndexFunc_Token_Token_47.u4.okl {α : Type} (k : Nat) (K : Ex → Frame → M α) : ∀ (j : Nat) (x0 : Sl) (x1 : Int) (x2 : Int),
    evLoop (evC T (env k) k slices_IndexFunc_Token_Token_47.u3.c) [0, 1, 7, 8] j (frameL [(0, .slice x0), (1, .func 47 [] []), (7, .int .i64 x1), (8, .int .i64 x2)]) K = slices_IndexFunc_Token_Token_47.u4.l k (fun y0 => K .ret (frameL [(4, .int .i64 y0)])) (K (.exit 0) (frameL [])) j x0 x1 x2
  | 0, _, _, _ => rfl
  | j + 1, x0, x1, x2 => by
      have h := slices_IndexFunc_Token_Token_47.u3.ok k x0 x1 x2 (seqK (fun ρ => evLoop (evC T (env k) k slices_IndexFunc_Token_Token_47.u3.c) [0, 1, 7, 8] j ρ K) K)
      simp only [seqK_exit, seqK_ret, seqK_pan, seqK_normal, slices_IndexFunc_Token_Token_47.u4.okl k K j] at h
      exact (evLoop_step (by kernel_rfl) h).trans (slices_IndexFunc_Token_Token_47.u4.ls k (fun y0 => K .ret (frameL [(4, .int .i64 y0)])) (K (.exit 0) (frameL [])) j x0 x1 x2).symm
theorem slices_IndexFunc_Token_Token_47.u4.ok {α : Type} (k : Nat) (x0 : Sl) (x1 : Int) (x2 : Int) (K : Ex → Frame → M α) :
    evC T (env k) k slices_IndexFunc_Token_Token_47.u4.c (frameL [(0, .slice x0), (1, .func 47 [] []), (7, .int .i64 x1), (8, .int .i64 x2)]) K =
      slices_IndexFunc_Token_Token_47.u4.f k x0 x1 x2 (fun y0 => K .ret (frameL [(4, .int .i64 y0)])) (K (.exit 0) (frameL [])) :=
  evC_loop.trans <| (evLoop_keep (body := evC T (env k) k slices_IndexFunc_Token_Token_47.u3.c) (keep := [0, 1, 7, 8]) (ρ := (frameL [(0, .slice x0), (1, .func 47 [] []), (7, .int .i64 x1), (8, .int .i64 x2)])) (ρ' := (frameL [(0, .slice x0), (1, .func 47 [] []), (7, .int .i64 x1), (8, .int .i64 x2)])) (by kernel_rfl) k K).trans (slices_IndexFunc_Token_Token_47.u4.okl k K k x0 x1 x2)
theorem slices_IndexFunc_Token_Token_47.u5.ok {α : Type} (k : Nat) (x0 : Sl) (x1 : Int) (x2 : Int) (K : Ex → Frame → M α) :
    evC T (env k) k slices_IndexFunc_Token_Token_47.u5.c (frameL [(0, .slice x0), (1, .func 47 [] []), (7, .int .i64 x1), (8, .int .i64 x2)]) K =
      slices_IndexFunc_Token_Token_47.u5.f k x0 x1 x2 (K .normal (frameL [])) (fun y0 => K .ret (frameL [(4, .int .i64 y0)])) :=
  (evC_block.trans (slices_IndexFunc_Token_Token_47.u4.ok k x0 x1 x2 (blockK 0 K))).trans (by kernel_rfl)
theorem slices_IndexFunc_Token_Token_47.u6.ok {α : Type} (k : Nat) (x0 : Sl) (K : Ex → Frame → M α) :
    evC T (env k) k slices_IndexFunc_Token_Token_47.u6.c (frameL [(0, .slice x0), (1, .func 47 [] [])]) K =
      slices_IndexFunc_Token_Token_47.u6.f k x0 (K .normal (frameL [])) (fun y0 => K .ret (frameL [(4, .int .i64 y0)])) :=
  (slices_IndexFunc_Token_Token_47.u2.ok k x0 slices_IndexFunc_Token_Token_47.u5.c K).trans
    (congrArg (fun z => slices_IndexFunc_Token_Token_47.u2.f k x0 z) (funext fun y0 => (funext fun y1 => (funext fun y2 => slices_IndexFunc_Token_Token_47.u5.ok k y0 y1 y2 K))))
theorem slices_IndexFunc_Token_Token_47.u7.ok {α : Type} (k : Nat) (K : Ex → Frame → M α) :
    evC T (env k) k slices_IndexFunc_Token_Token_47.u7.c (frameL []) K =
      slices_IndexFunc_Token_Token_47.u7.f k (fun y0 => K .ret (frameL [(4, .int .i64 y0)])) := by kernel_rfl
theorem slices_IndexFunc_Token_Token_47.u8.ok {α : Type} (k : Nat) (x0 : Sl) (K : Ex → Frame → M α) :
    evC T (env k) k slices_IndexFunc_Token_Token_47.u8.c (frameL [(0, .slice x0), (1, .func 47 [] [])]) K =
      slices_IndexFunc_Token_Token_47.u8.f k x0 (fun y0 => K .ret (frameL [(4, .int .i64 y0)])) :=
  by
    have h := slices_IndexFunc_Token_Token_47.u6.ok k x0 (seqK (fun ρ => evC T (env k) k slices_IndexFunc_Token_Token_47.u7.c ρ K) K)
    simp only [seqK_normal, seqK_exit, seqK_ret, seqK_pan, slices_IndexFunc_Token_Token_47.u7.ok] at h
    exact evC_seq_of h
theorem slices_IndexFunc_Token_Token_47.u9.ok {α : Type} (k : Nat) (x0 : Sl) (K : Ex → Frame → M α) :
    evC T (env k) k slices_IndexFunc_Token_Token_47.u9.c (frameL [(0, .slice x0), (1, .func 47 [] [])]) K =
      slices_IndexFunc_Token_Token_47.u9.f k x0 (fun y0 => K .ret (frameL [(4, .int .i64 y0)])) :=
  (slices_IndexFunc_Token_Token_47.u1.ok k x0 slices_IndexFunc_Token_Token_47.u8.c K).trans
    (congrArg (fun z => slices_IndexFunc_Token_Token_47.u1.f k x0 z) (funext fun y0 => slices_IndexFunc_Token_Token_47.u8.ok k y0 K))
theorem slices_IndexFunc_Token_Token_47.ok {α : Type} (k : Nat) (x0 : Sl) (κ : Res → M α) :
    evF T (env k) k slices_IndexFunc_Token_Token_47.c slices_IndexFunc_Token_Token_47.res [.slice x0, .func 47 [] []] κ = slices_IndexFunc_Token_Token_47.f (k + 1) x0 (fun o0 => κ (.ret (.int .i64 o0))) :=
  (slices_IndexFunc_Token_Token_47.u9.ok k x0 (retK T slices_IndexFunc_Token_Token_47.res κ)).trans (by kernel_rfl)
theorem slices_IndexFunc_Token_Token_47.code : slices_IndexFunc_Token_Token_47.c.code = bodyOf Try.f61 := by kernel_rfl

noncomputable def slices_DeleteFunc_Token_Token_47.c : IC := slices_DeleteFunc_Token_Token_47.u9.c
noncomputable def slices_DeleteFunc_Token_Token_47.res : List ResultVar := [(.tmp 4)]
theorem slices_DeleteFunc_Token_Token_47.u1.ok {α : Type} (k : Nat) (x0 : Sl) (R : IC) (K : Ex → Frame → M α) :
    evC T (env k) k (slices_DeleteFunc_Token_Token_47.u1.c R) (frameL [(0, .slice x0), (1, .func 47 [] [])]) K =
      slices_DeleteFunc_Token_Token_47.u1.f k x0 (fun y0 y1 => evC T (env k) k R (frameL [(0, .slice y0), (1, .func 47 [] []), (5, .int .i64 y1)]) K) (fun y0 => K .ret (frameL [(4, .slice y0)])) := by kernel_rfl
theorem slices_DeleteFunc_Token_Token_47.u2.ok {α : Type} (k : Nat) (x0 : Sl) (x1 : Int) (R : IC) (K : Ex → Frame → M α) :
    evC T (env k) k (slices_DeleteFunc_Token_Token_47.u2.c R) (frameL [(0, .slice x0), (1, .func 47 [] []), (5, .int .i64 x1)]) K =
      slices_DeleteFunc_Token_Token_47.u2.f k x0 x1 (fun y0 y1 y2 => evC T (env k) k R (frameL [(0, .slice y0), (1, .func 47 [] []), (5, .int .i64 y1), (6, .int .i64 y2)]) K) := by kernel_rfl
theorem slices_DeleteFunc_Token_Token_47.u3.ok {α : Type} (k : Nat) (x0 : Sl) (x1 : Int) (x2 : Int) (K : Ex → Frame → M α) :
    evC T (env k) k slices_DeleteFunc_Token_Token_47.u3.c (frameL [(0, .slice x0), (1, .func 47 [] []), (5, .int .i64 x1), (6, .int .i64 x2)]) K =
      slices_DeleteFunc_Token_Token_47.u3.f k x0 x1 x2 (fun y0 y1 y2 => K .normal (frameL [(0, .slice y0), (1, .func 47 [] []), (5, .int .i64 y1), (6, .int .i64 y2)])) (fun y0 y1 => K (.exit 0) (frameL [(0, .slice y0), (5, .int .i64 y1)])) := by kernel_rfl
theorem slices_DeleteFunc_Token_Token_47.u4.ls {α : Type} (k : Nat) (kx0 : Sl → Int → M α) (j : Nat) (x0 : Sl) (x1 : Int) (x2 : Int) : slices_DeleteFunc_Token_Token_47.u4.l k kx0 (j + 1) x0 x1 x2 =
  slices_DeleteFunc_Token_Token_47.u3.f k x0 x1 x2 (fun y0 y1 y2 => slices_DeleteFunc_Token_Token_47.u4.l k kx0 j y0 y1 y2) kx0 := rfl
theorem slices_DeleteFunc_Token_Token_47.u4.okl {α : Type} (k : Nat) (K : Ex → Frame → M α) : ∀ (j : Nat) (x0 : Sl) (x1 : Int) (x2 : Int),
    evLoop (evC T (env k) k slices_DeleteFunc_Token_Token_47.u3.c) [0, 1, 5, 6] j (frameL [(0, .slice x0), (1, .func 47 [] []), (5, .int .i64 x1), (6, .int .i64 x2)]) K = slices_DeleteFunc_Token_Token_47.u4.l k (fun y0 y1 => K (.exit 0) (frameL [(0, .slice y0), (5, .int .i64 y1)])) j x0 x1 x2
  | 0, _, _, _ => rfl
  | j + 1, x0, x1, x2 => by
      have h := slices_DeleteFunc_Token_Token_47.u3.ok k x0 x1 x2 (seqK (fun ρ => evLoop (evC T (env k) k slices_DeleteFunc_Token_Token_47.u3.c) [0, 1, 5, 6] j ρ K) K)
      simp only [seqK_exit, seqK_ret, seqK_pan, seqK_normal, slices_DeleteFunc_Token_Token_47.u4.okl k K j] at h
      exact (evLoop_step (by kernel_rfl) h).trans (slices_DeleteFunc_Token_Token_47.u4.ls k (fun y0 y1 => K (.exit 0) (frameL [(0, .slice y0), (5, .int .i64 y1)])) j x0 x1 x2).symm
theorem slices_DeleteFunc_Token_Token_47.u4.ok {α : Type} (k : Nat) (x0 : Sl) (x1 : Int) (x2 : Int) (K : Ex → Frame → M α) :
    evC T (env k) k slices_DeleteFunc_Token_Token_47.u4.c (frameL [(0, .slice x0), (1, .func 47 [] []), (5, .int .i64 x1), (6, .int .i64 x2)]) K =
      slices_DeleteFunc_Token_Token_47.u4.f k x0 x1 x2 (fun y0 y1 => K (.exit 0) (frameL [(0, .slice y0), (5, .int .i64 y1)])) :=
  evC_loop.trans <| (evLoop_keep (body := evC T (env k) k slices_DeleteFunc_Token_Token_47.u3.c) (keep := [0, 1, 5, 6]) (ρ := (frameL [(0, .slice x0), (1, .func 47 [] []), (5, .int .i64 x1), (6, .int .i64 x2)])) (ρ' := (frameL [(0, .slice x0), (1, .func 47 [] []), (5, .int .i64 x1), (6, .int .i64 x2)])) (by kernel_rfl) k K).trans (slices_DeleteFunc_Token_Token_47.u4.okl k K k x0 x1 x2)
theorem slices_DeleteFunc_Token_Token_47.u5.ok {α : Type} (k : Nat) (x0 : Sl) (x1 : Int) (x2 : Int) (K : Ex → Frame → M α) :
    evC T (env k) k slices_DeleteFunc_Token_Token_47.u5.c (frameL [(0, .slice x0), (1, .func 47 [] []), (5, .int .i64 x1), (6, .int .i64 x2)]) K =
      slices_DeleteFunc_Token_Token_47.u5.f k x0 x1 x2 (fun y0 y1 => K .normal (frameL [(0, .slice y0), (5, .int .i64 y1)])) :=
  (evC_block.trans (slices_DeleteFunc_Token_Token_47.u4.ok k x0 x1 x2 (blockK 0 K))).trans (by kernel_rfl)
theorem slices_DeleteFunc_Token_Token_47.u6.ok {α : Type} (k : Nat) (x0 : Sl) (x1 : Int) (K : Ex → Frame → M α) :
    evC T (env k) k slices_DeleteFunc_Token_Token_47.u6.c (frameL [(0, .slice x0), (1, .func 47 [] []), (5, .int .i64 x1)]) K =
      slices_DeleteFunc_Token_Token_47.u6.f k x0 x1 (fun y0 y1 => K .normal (frameL [(0, .slice y0), (5, .int .i64 y1)])) :=
  (slices_DeleteFunc_Token_Token_47.u2.ok k x0 x1 slices_DeleteFunc_Token_Token_47.u5.c K).trans
    (congrArg (fun z => slices_DeleteFunc_Token_Token_47.u2.f k x0 x1 z) (funext fun y0 => (funext fun y1 => (funext fun y2 => slices_DeleteFunc_Token_Token_47.u5.ok k y0 y1 y2 K))))
theorem slices_DeleteFunc_Token_Token_47.u7.ok {α : Type} (k : Nat) (x0 : Sl) (x1 : Int) (K : Ex → Frame → M α) :
    evC T (env k) k slices_DeleteFunc_Token_Token_47.u7.c (frameL [(0, .slice x0), (5, .int .i64 x1)]) K =
      slices_DeleteFunc_Token_Token_47.u7.f k x0 x1 (fun y0 => K .ret (frameL [(4, .slice y0)])) := by kernel_rfl
theorem slices_DeleteFunc_Token_Token_47.u8.ok {α : Type} (k : Nat) (x0 : Sl) (x1 : Int) (K : Ex → Frame → M α) :
    evC T (env k) k slices_DeleteFunc_Token_Token_47.u8.c (frameL [(0, .slice x0), (1, .func 47 [] []), (5, .int .i64 x1)]) K =
      slices_DeleteFunc_Token_Token_47.u8.f k x0 x1 (fun y0 => K .ret (frameL [(4, .slice y0)])) :=
  by
    have h := slices_DeleteFunc_Token_Token_47.u6.ok k x0 x1 (seqK (fun ρ => evC T (env k) k slices_DeleteFunc_Token_Token_47.u7.c ρ K) K)
    simp only [seqK_normal, seqK_exit, seqK_ret, seqK_pan, slices_DeleteFunc_Token_Token_47.u7.ok] at h
    exact evC_seq_of h
theorem slices_DeleteFunc_Token_Token_47.u9.ok {α : Type} (k : Nat) (x0 : Sl) (K : Ex → Frame → M α) :
    evC T (env k) k slices_DeleteFunc_Token_Token_47.u9.c (frameL [(0, .slice x0), (1, .func 47 [] [])]) K =
      slices_DeleteFunc_Token_Token_47.u9.f k x0 (fun y0 => K .ret (frameL [(4, .slice y0)])) :=
  (slices_DeleteFunc_Token_Token_47.u1.ok k x0 slices_DeleteFunc_Token_Token_47.u8.c K).trans
    (congrArg (fun z => slices_DeleteFunc_Token_Token_47.u1.f k x0 z (fun y0 => K .ret (frameL [(4, .slice y0)]))) (funext fun y0 => (funext fun y1 => slices_DeleteFunc_Token_Token_47.u8.ok k y0 y1 K)))
theorem slices_DeleteFunc_Token_Token_47.ok {α : Type} (k : Nat) (x0 : Sl) (κ : Res → M α) :
    evF T (env k) k slices_DeleteFunc_Token_Token_47.c slices_DeleteFunc_Token_Token_47.res [.slice x0, .func 47 [] []] κ = slices_DeleteFunc_Token_Token_47.f (k + 1) x0 (fun o0 => κ (.ret (.slice o0))) :=
  (slices_DeleteFunc_Token_Token_47.u9.ok k x0 (retK T slices_DeleteFunc_Token_Token_47.res κ)).trans (by kernel_rfl)
theorem slices_DeleteFunc_Token_Token_47.code : slices_DeleteFunc_Token_Token_47.c.code = bodyOf Try.f46 := by kernel_rfl

noncomputable def syntax_parser_is.c : IC := syntax_parser_is.u1.c
noncomputable def syntax_parser_is.res : List ResultVar := [(.tmp 4)]
theorem syntax_parser_is.u1.ok {α : Type} (k : Nat) (x0 : Ad) (x1 : List UInt8) (K : Ex → Frame → M α) :
    evC T (env k) k syntax_parser_is.u1.c (frameL [(0, .ptr (some x0)), (1, .str x1)]) K =
      syntax_parser_is.u1.f k x0 x1 (fun y0 => K .ret (frameL [(4, .bool y0)])) := by kernel_rfl
theorem syntax_parser_is.ok {α : Type} (k : Nat) (x0 : Ad) (x1 : List UInt8) (κ : Res → M α) :
    evF T (env k) k syntax_parser_is.c syntax_parser_is.res [.ptr (some x0), .str x1] κ = syntax_parser_is.f (k + 1) x0 x1 (fun o0 => κ (.ret (.bool o0))) :=
  (syntax_parser_is.u1.ok k x0 x1 (retK T syntax_parser_is.res κ)).trans (by kernel_rfl)
theorem syntax_parser_is.code : syntax_parser_is.c.code = bodyOf Try.f74 := by kernel_rfl

noncomputable def syntax_parser_next.c : IC := syntax_parser_next.u1.c
noncomputable def syntax_parser_next.res : List ResultVar := [(.cell 2 79)]
theorem syntax_parser_next.u1.ok {α : Type} (k : Nat) (x0 : Ad) (K : Ex → Frame → M α) :
    evC T (env k) k syntax_parser_next.u1.c (frameL [(0, .ptr (some x0))]) K =
      syntax_parser_next.u1.f k x0 (fun y0 => K .ret (frameL [(2, .ptr (some y0))])) := by kernel_rfl
theorem syntax_parser_next.ok {α : Type} (k : Nat) (x0 : Ad) (κ : Res → M α) :
    evF T (env k) k syntax_parser_next.c syntax_parser_next.res [.ptr (some x0)] κ = syntax_parser_next.f (k + 1) x0 (fun o0 o1 o2 o3 => κ (.ret (.agg [.int .i64 o0, .int .i64 o1, .str o2, .int .i64 o3]))) :=
  (syntax_parser_next.u1.ok k x0 (retK T syntax_parser_next.res κ)).trans (by kernel_rfl)
theorem syntax_parser_next.code : syntax_parser_next.c.code = bodyOf Try.f80 := by kernel_rfl

noncomputable def syntax_parser_makes.c : IC := syntax_parser_makes.u1.c
noncomputable def syntax_parser_makes.res : List ResultVar := [(.cell 2 79)]
theorem syntax_parser_makes.u1.ok {α : Type} (k : Nat) (x0 : Ad) (K : Ex → Frame → M α) :
    evC T (env k) k syntax_parser_makes.u1.c (frameL [(0, .ptr (some x0))]) K =
      syntax_parser_makes.u1.f k x0 (fun y0 => K .ret (frameL [(2, .ptr (some y0))])) (fun v => K (.pan v) (frameL [])) := by kernel_rfl
theorem syntax_parser_makes.ok {α : Type} (k : Nat) (x0 : Ad) (κ : Res → M α) :
    evF T (env k) k syntax_parser_makes.c syntax_parser_makes.res [.ptr (some x0)] κ = syntax_parser_makes.f (k + 1) x0 (fun v => κ (.pan v)) (fun o0 o1 o2 o3 => κ (.ret (.agg [.int .i64 o0, .int .i64 o1, .str o2, .int .i64 o3]))) :=
  (syntax_parser_makes.u1.ok k x0 (retK T syntax_parser_makes.res κ)).trans (by kernel_rfl)
theorem syntax_parser_makes.code : syntax_parser_makes.c.code = bodyOf Try.f75 := by kernel_rfl

noncomputable def syntax_parser_node.c : IC := syntax_parser_node.u1.c
noncomputable def syntax_parser_node.res : List ResultVar := [(.tmp 4)]
theorem syntax_parser_node.u1.ok {α : Type} (k : Nat) (x0 : Ad) (x1 : Int) (x2 : Int) (x3 : Int) (x4 : List UInt8) (x5 : Int) (K : Ex → Frame → M α) :
    evC T (env k) k syntax_parser_node.u1.c (frameL [(0, .ptr (some x0)), (1, .agg [.int .i64 x1, .int .i64 x2, .int .i64 x3, .str x4, .int .i64 x5])]) K =
      syntax_parser_node.u1.f k x0 x1 x2 x3 x4 x5 (fun y0 => K .ret (frameL [(4, .int .i64 y0)])) := by kernel_rfl
theorem syntax_parser_node.ok {α : Type} (k : Nat) (x0 : Ad) (x1 : Int) (x2 : Int) (x3 : Int) (x4 : List UInt8) (x5 : Int) (κ : Res → M α) :
    evF T (env k) k syntax_parser_node.c syntax_parser_node.res [.ptr (some x0), .agg [.int .i64 x1, .int .i64 x2, .int .i64 x3, .str x4, .int .i64 x5]] κ = syntax_parser_node.f (k + 1) x0 x1 x2 x3 x4 x5 (fun o0 => κ (.ret (.int .i64 o0))) :=
  (syntax_parser_node.u1.ok k x0 x1 x2 x3 x4 x5 (retK T syntax_parser_node.res κ)).trans (by kernel_rfl)
theorem syntax_parser_node.code : syntax_parser_node.c.code = bodyOf Try.f76 := by kernel_rfl

noncomputable def syntax_parser_wrong.c : IC := syntax_parser_wrong.u1.c
noncomputable def syntax_parser_wrong.res : List ResultVar := []
theorem syntax_parser_wrong.u1.ok {α : Type} (k : Nat) (x0 : Ad) (K : Ex → Frame → M α) :
    evC T (env k) k syntax_parser_wrong.u1.c (frameL [(0, .ptr (some x0))]) K =
      syntax_parser_wrong.u1.f k x0 (fun v => K (.pan v) (frameL [])) := by kernel_rfl
theorem syntax_parser_wrong.ok {α : Type} (k : Nat) (x0 : Ad) (κ : Res → M α) :
    evF T (env k) k syntax_parser_wrong.c syntax_parser_wrong.res [.ptr (some x0)] κ = syntax_parser_wrong.f (k + 1) x0 (fun v => κ (.pan v)) (κ (.ret (.tuple []))) :=
  (syntax_parser_wrong.u1.ok k x0 (retK T syntax_parser_wrong.res κ)).trans (by kernel_rfl)
theorem syntax_parser_wrong.code : syntax_parser_wrong.c.code = bodyOf Try.f49 := by kernel_rfl

noncomputable def syntax_word.c : IC := syntax_word.u1.c
noncomputable def syntax_word.res : List ResultVar := [(.tmp 2)]
theorem syntax_word.u1.ok {α : Type} (k : Nat) (x0 : List UInt8) (K : Ex → Frame → M α) :
    evC T (env k) k syntax_word.u1.c (frameL [(0, .str x0)]) K =
      syntax_word.u1.f k x0 (fun y0 => K .ret (frameL [(2, .bool y0)])) := by kernel_rfl
theorem syntax_word.ok {α : Type} (k : Nat) (x0 : List UInt8) (κ : Res → M α) :
    evF T (env k) k syntax_word.c syntax_word.res [.str x0] κ = syntax_word.f (k + 1) x0 (fun o0 => κ (.ret (.bool o0))) :=
  (syntax_word.u1.ok k x0 (retK T syntax_word.res κ)).trans (by kernel_rfl)
theorem syntax_word.code : syntax_word.c.code = bodyOf Try.f66 := by kernel_rfl

noncomputable def syntax_parser_need.c : IC := syntax_parser_need.u1.c
noncomputable def syntax_parser_need.res : List ResultVar := []
theorem syntax_parser_need.u1.ok {α : Type} (k : Nat) (x0 : Ad) (x1 : List UInt8) (K : Ex → Frame → M α) :
    evC T (env k) k syntax_parser_need.u1.c (frameL [(0, .ptr (some x0)), (1, .str x1)]) K =
      syntax_parser_need.u1.f k x0 x1 (K .normal (frameL [])) (fun v => K (.pan v) (frameL [])) := by kernel_rfl
theorem syntax_parser_need.ok {α : Type} (k : Nat) (x0 : Ad) (x1 : List UInt8) (κ : Res → M α) :
    evF T (env k) k syntax_parser_need.c syntax_parser_need.res [.ptr (some x0), .str x1] κ = syntax_parser_need.f (k + 1) x0 x1 (fun v => κ (.pan v)) (κ (.ret (.tuple []))) :=
  (syntax_parser_need.u1.ok k x0 x1 (retK T syntax_parser_need.res κ)).trans (by kernel_rfl)
theorem syntax_parser_need.code : syntax_parser_need.c.code = bodyOf Try.f82 := by kernel_rfl

noncomputable def syntax_parser_step.c : IC := syntax_parser_step.u1.c
noncomputable def syntax_parser_step.res : List ResultVar := [(.tmp 4)]
theorem syntax_parser_step.u1.ok {α : Type} (k : Nat) (x0 : Ad) (x1 : List UInt8) (K : Ex → Frame → M α) :
    evC T (env k) k syntax_parser_step.u1.c (frameL [(0, .ptr (some x0)), (1, .str x1)]) K =
      syntax_parser_step.u1.f k x0 x1 (fun y0 => K .ret (frameL [(4, .str y0)])) (fun v => K (.pan v) (frameL [])) := by kernel_rfl
theorem syntax_parser_step.ok {α : Type} (k : Nat) (x0 : Ad) (x1 : List UInt8) (κ : Res → M α) :
    evF T (env k) k syntax_parser_step.c syntax_parser_step.res [.ptr (some x0), .str x1] κ = syntax_parser_step.f (k + 1) x0 x1 (fun v => κ (.pan v)) (fun o0 => κ (.ret (.str o0))) :=
  (syntax_parser_step.u1.ok k x0 x1 (retK T syntax_parser_step.res κ)).trans (by kernel_rfl)
theorem syntax_parser_step.code : syntax_parser_step.c.code = bodyOf Try.f81 := by kernel_rfl

noncomputable def syntax_parser_formula.c : IC := syntax_parser_formula.u1.c
noncomputable def syntax_parser_formula.res : List ResultVar := [(.tmp 2)]
theorem syntax_parser_formula.u1.ok {α : Type} (k : Nat) (x0 : Ad) (K : Ex → Frame → M α) :
    evC T (env k) k syntax_parser_formula.u1.c (frameL [(0, .ptr (some x0))]) K =
      syntax_parser_formula.u1.f k (syntax_parser_row.f k) x0 (fun y0 => K .ret (frameL [(2, .int .i64 y0)])) (fun v => K (.pan v) (frameL [])) := by kernel_rfl
theorem syntax_parser_formula.ok {α : Type} (k : Nat) (x0 : Ad) (κ : Res → M α) :
    evF T (env k) k syntax_parser_formula.c syntax_parser_formula.res [.ptr (some x0)] κ = syntax_parser_formula.f (k + 1) x0 (fun v => κ (.pan v)) (fun o0 => κ (.ret (.int .i64 o0))) :=
  (syntax_parser_formula.u1.ok k x0 (retK T syntax_parser_formula.res κ)).trans (by kernel_rfl)
theorem syntax_parser_formula.code : syntax_parser_formula.c.code = bodyOf Try.f48 := by kernel_rfl
noncomputable def syntax_parser_row.c : IC := syntax_parser_row.u7.c
noncomputable def syntax_parser_row.res : List ResultVar := [(.tmp 8)]
theorem syntax_parser_row.u1.ok {α : Type} (k : Nat) (x0 : Ad) (x1 : List UInt8) (x2 : Int) (x3 : V) (R : IC) (K : Ex → Frame → M α) :
    evC T (env k) k (syntax_parser_row.u1.c R) (frameL [(0, .ptr (some x0)), (1, .str x1), (2, .int .i64 x2), (3, x3)]) K =
      syntax_parser_row.u1.f k (syntax_parser_and.f k) (syntax_parser_unary.f k) x0 x1 x2 x3 (fun y0 y1 y2 y3 y4 => evC T (env k) k R (frameL [(0, .ptr (some y0)), (1, .str y1), (2, .int .i64 y2), (3, y3), (9, .int .i64 y4)]) K) (fun v => K (.pan v) (frameL [])) := by kernel_rfl
theorem syntax_parser_row.u2.ok {α : Type} (k : Nat) (x0 : Ad) (x1 : List UInt8) (x2 : Int) (x3 : V) (x4 : Int) (K : Ex → Frame → M α) :
    evC T (env k) k syntax_parser_row.u2.c (frameL [(0, .ptr (some x0)), (1, .str x1), (2, .int .i64 x2), (3, x3), (9, .int .i64 x4)]) K =
      syntax_parser_row.u2.f k (syntax_parser_and.f k) (syntax_parser_unary.f k) x0 x1 x2 x3 x4 (fun y0 y1 y2 y3 y4 => K .normal (frameL [(0, .ptr (some y0)), (1, .str y1), (2, .int .i64 y2), (3, y3), (9, .int .i64 y4)])) (fun y0 => K (.exit 0) (frameL [(9, .int .i64 y0)])) (fun v => K (.pan v) (frameL [])) := by kernel_rfl
theorem syntax_parser_row.u3.ls {α : Type} (k : Nat) (r63 : Ad → (V → M α) → (Int → M α) → M α) (r77 : Ad → (V → M α) → (Int → M α) → M α) (kx0 : Int → M α) (kp : V → M α) (j : Nat) (x0 : Ad) (x1 : List UInt8) (x2 : Int) (x3 : V) (x4 : Int) : syntax_parser_row.u3.l k r63 r77 kx0 kp (j + 1) x0 x1 x2 x3 x4 =
  syntax_parser_row.u2.f k r63 r77 x0 x1 x2 x3 x4 (fun y0 y1 y2 y3 y4 => syntax_parser_row.u3.l k r63 r77 kx0 kp j y0 y1 y2 y3 y4) kx0 kp := rfl
theorem syntax_parser_row.u3.okl {α : Type} (k : Nat) (K : Ex → Frame → M α) : ∀ (j : Nat) (x0 : Ad) (x1 : List UInt8) (x2 : Int) (x3 : V) (x4 : Int),
    evLoop (evC T (env k) k syntax_parser_row.u2.c) [0, 1, 2, 3, 9] j (frameL [(0, .ptr (some x0)), (1, .str x1), (2, .int .i64 x2), (3, x3), (9, .int .i64 x4)]) K = syntax_parser_row.u3.l k (syntax_parser_and.f k) (syntax_parser_unary.f k) (fun y0 => K (.exit 0) (frameL [(9, .int .i64 y0)])) (fun v => K (.pan v) (frameL [])) j x0 x1 x2 x3 x4
  | 0, _, _, _, _, _ => rfl
  | j + 1, x0, x1, x2, x3, x4 => by
      have h := syntax_parser_row.u2.ok k x0 x1 x2 x3 x4 (seqK (fun ρ => evLoop (evC T (env k) k syntax_parser_row.u2.c) [0, 1, 2, 3, 9] j ρ K) K)
      simp only [seqK_exit, seqK_ret, seqK_pan, seqK_normal, syntax_parser_row.u3.okl k K j] at h
      exact (evLoop_step (by kernel_rfl) h).trans (syntax_parser_row.u3.ls k (syntax_parser_and.f k) (syntax_parser_unary.f k) (fun y0 => K (.exit 0) (frameL [(9, .int .i64 y0)])) (fun v => K (.pan v) (frameL [])) j x0 x1 x2 x3 x4).symm
theorem syntax_parser_row.u3.ok {α : Type} (k : Nat) (x0 : Ad) (x1 : List UInt8) (x2 : Int) (x3 : V) (x4 : Int) (K : Ex → Frame → M α) :
    evC T (env k) k syntax_parser_row.u3.c (frameL [(0, .ptr (some x0)), (1, .str x1), (2, .int .i64 x2), (3, x3), (9, .int .i64 x4)]) K =
      syntax_parser_row.u3.f k (syntax_parser_and.f k) (syntax_parser_unary.f k) x0 x1 x2 x3 x4 (fun y0 => K (.exit 0) (frameL [(9, .int .i64 y0)])) (fun v => K (.pan v) (frameL [])) :=
  evC_loop.trans <| (evLoop_keep (body := evC T (env k) k syntax_parser_row.u2.c) (keep := [0, 1, 2, 3, 9]) (ρ := (frameL [(0, .ptr (some x0)), (1, .str x1), (2, .int .i64 x2), (3, x3), (9, .int .i64 x4)])) (ρ' := (frameL [(0, .ptr (some x0)), (1, .str x1), (2, .int .i64 x2), (3, x3), (9, .int .i64 x4)])) (by kernel_rfl) k K).trans (syntax_parser_row.u3.okl k K k x0 x1 x2 x3 x4)
theorem syntax_parser_row.u4.ok {α : Type} (k : Nat) (x0 : Ad) (x1 : List UInt8) (x2 : Int) (x3 : V) (x4 : Int) (K : Ex → Frame → M α) :
    evC T (env k) k syntax_parser_row.u4.c (frameL [(0, .ptr (some x0)), (1, .str x1), (2, .int .i64 x2), (3, x3), (9, .int .i64 x4)]) K =
      syntax_parser_row.u4.f k (syntax_parser_and.f k) (syntax_parser_unary.f k) x0 x1 x2 x3 x4 (fun y0 => K .normal (frameL [(9, .int .i64 y0)])) (fun v => K (.pan v) (frameL [])) :=
  (evC_block.trans (syntax_parser_row.u3.ok k x0 x1 x2 x3 x4 (blockK 0 K))).trans (by kernel_rfl)
theorem syntax_parser_row.u5.ok {α : Type} (k : Nat) (x0 : Int) (K : Ex → Frame → M α) :
    evC T (env k) k syntax_parser_row.u5.c (frameL [(9, .int .i64 x0)]) K =
      syntax_parser_row.u5.f k x0 (fun y0 => K .ret (frameL [(8, .int .i64 y0)])) := by kernel_rfl
theorem syntax_parser_row.u6.ok {α : Type} (k : Nat) (x0 : Ad) (x1 : List UInt8) (x2 : Int) (x3 : V) (x4 : Int) (K : Ex → Frame → M α) :
    evC T (env k) k syntax_parser_row.u6.c (frameL [(0, .ptr (some x0)), (1, .str x1), (2, .int .i64 x2), (3, x3), (9, .int .i64 x4)]) K =
      syntax_parser_row.u6.f k (syntax_parser_and.f k) (syntax_parser_unary.f k) x0 x1 x2 x3 x4 (fun y0 => K .ret (frameL [(8, .int .i64 y0)])) (fun v => K (.pan v) (frameL [])) :=
  by
    have h := syntax_parser_row.u4.ok k x0 x1 x2 x3 x4 (seqK (fun ρ => evC T (env k) k syntax_parser_row.u5.c ρ K) K)
    simp only [seqK_normal, seqK_exit, seqK_ret, seqK_pan, syntax_parser_row.u5.ok] at h
    exact evC_seq_of h
theorem syntax_parser_row.u7.ok {α : Type} (k : Nat) (x0 : Ad) (x1 : List UInt8) (x2 : Int) (x3 : V) (K : Ex → Frame → M α) :
    evC T (env k) k syntax_parser_row.u7.c (frameL [(0, .ptr (some x0)), (1, .str x1), (2, .int .i64 x2), (3, x3)]) K =
      syntax_parser_row.u7.f k (syntax_parser_and.f k) (syntax_parser_unary.f k) x0 x1 x2 x3 (fun y0 => K .ret (frameL [(8, .int .i64 y0)])) (fun v => K (.pan v) (frameL [])) :=
  (syntax_parser_row.u1.ok k x0 x1 x2 x3 syntax_parser_row.u6.c K).trans
    (congrArg (fun z => syntax_parser_row.u1.f k (syntax_parser_and.f k) (syntax_parser_unary.f k) x0 x1 x2 x3 z (fun v => K (.pan v) (frameL []))) (funext fun y0 => (funext fun y1 => (funext fun y2 => (funext fun y3 => (funext fun y4 => syntax_parser_row.u6.ok k y0 y1 y2 y3 y4 K))))))
theorem syntax_parser_row.ok {α : Type} (k : Nat) (x0 : Ad) (x1 : List UInt8) (x2 : Int) (x3 : V) (κ : Res → M α) :
    evF T (env k) k syntax_parser_row.c syntax_parser_row.res [.ptr (some x0), .str x1, .int .i64 x2, x3] κ = syntax_parser_row.f (k + 1) x0 x1 x2 x3 (fun v => κ (.pan v)) (fun o0 => κ (.ret (.int .i64 o0))) :=
  (syntax_parser_row.u7.ok k x0 x1 x2 x3 (retK T syntax_parser_row.res κ)).trans (by kernel_rfl)
theorem syntax_parser_row.code : syntax_parser_row.c.code = bodyOf Try.f62 := by kernel_rfl
noncomputable def syntax_parser_and.c : IC := syntax_parser_and.u1.c
noncomputable def syntax_parser_and.res : List ResultVar := [(.tmp 2)]
theorem syntax_parser_and.u1.ok {α : Type} (k : Nat) (x0 : Ad) (K : Ex → Frame → M α) :
    evC T (env k) k syntax_parser_and.u1.c (frameL [(0, .ptr (some x0))]) K =
      syntax_parser_and.u1.f k (syntax_parser_row.f k) x0 (fun y0 => K .ret (frameL [(2, .int .i64 y0)])) (fun v => K (.pan v) (frameL [])) := by kernel_rfl
theorem syntax_parser_and.ok {α : Type} (k : Nat) (x0 : Ad) (κ : Res → M α) :
    evF T (env k) k syntax_parser_and.c syntax_parser_and.res [.ptr (some x0)] κ = syntax_parser_and.f (k + 1) x0 (fun v => κ (.pan v)) (fun o0 => κ (.ret (.int .i64 o0))) :=
  (syntax_parser_and.u1.ok k x0 (retK T syntax_parser_and.res κ)).trans (by kernel_rfl)
theorem syntax_parser_and.code : syntax_parser_and.c.code = bodyOf Try.f63 := by kernel_rfl
noncomputable def syntax_parser_unary.c : IC := syntax_parser_unary.u18.c
noncomputable def syntax_parser_unary.res : List ResultVar := [(.tmp 2)]
theorem syntax_parser_unary.u1.ok {α : Type} (k : Nat) (x0 : Ad) (R : IC) (K : Ex → Frame → M α) :
    evC T (env k) k (syntax_parser_unary.u1.c R) (frameL [(0, .ptr (some x0))]) K =
      syntax_parser_unary.u1.f k x0 (fun y0 => evC T (env k) k R (frameL [(0, .ptr (some y0))]) K) := by kernel_rfl
theorem syntax_parser_unary.u2.ok {α : Type} (k : Nat) (x0 : Ad) (R : IC) (K : Ex → Frame → M α) :
    evC T (env k) k (syntax_parser_unary.u2.c R) (frameL [(0, .ptr (some x0))]) K =
      syntax_parser_unary.u2.f k x0 (fun y0 y1 => evC T (env k) k R (frameL [(0, .ptr (some y0)), (10, .bool y1)]) K) := by kernel_rfl
theorem syntax_parser_unary.u3.ok {α : Type} (k : Nat) (x0 : Ad) (x1 : Bool) (K : Ex → Frame → M α) :
    evC T (env k) k syntax_parser_unary.u3.c (frameL [(0, .ptr (some x0)), (10, .bool x1)]) K =
      syntax_parser_unary.u3.f k (syntax_parser_unary.f k) x0 x1 (fun y0 => K .ret (frameL [(2, .int .i64 y0)])) (fun v => K (.pan v) (frameL [])) := by kernel_rfl
theorem syntax_parser_unary.u4.ok {α : Type} (k : Nat) (x0 : Ad) (x1 : Bool) (R : IC) (K : Ex → Frame → M α) :
    evC T (env k) k (syntax_parser_unary.u4.c R) (frameL [(0, .ptr (some x0)), (10, .bool x1)]) K =
      syntax_parser_unary.u4.f k x0 x1 (fun y0 y1 => evC T (env k) k R (frameL [(0, .ptr (some y0)), (22, .bool y1)]) K) := by kernel_rfl
theorem syntax_parser_unary.u5.ok {α : Type} (k : Nat) (x0 : Ad) (x1 : Bool) (K : Ex → Frame → M α) :
    evC T (env k) k syntax_parser_unary.u5.c (frameL [(0, .ptr (some x0)), (22, .bool x1)]) K =
      syntax_parser_unary.u5.f k (syntax_parser_unary.f k) x0 x1 (fun y0 => K .ret (frameL [(2, .int .i64 y0)])) (fun v => K (.pan v) (frameL [])) := by kernel_rfl
theorem syntax_parser_unary.u6.ok {α : Type} (k : Nat) (x0 : Ad) (x1 : Bool) (R : IC) (K : Ex → Frame → M α) :
    evC T (env k) k (syntax_parser_unary.u6.c R) (frameL [(0, .ptr (some x0)), (22, .bool x1)]) K =
      syntax_parser_unary.u6.f k x0 x1 (fun y0 y1 => evC T (env k) k R (frameL [(0, .ptr (some y0)), (37, .bool y1)]) K) := by kernel_rfl
theorem syntax_parser_unary.u7.ok {α : Type} (k : Nat) (x0 : Ad) (x1 : Bool) (K : Ex → Frame → M α) :
    evC T (env k) k syntax_parser_unary.u7.c (frameL [(0, .ptr (some x0)), (37, .bool x1)]) K =
      syntax_parser_unary.u7.f k (syntax_parser_unary.f k) x0 x1 (fun y0 => K .ret (frameL [(2, .int .i64 y0)])) (fun v => K (.pan v) (frameL [])) := by kernel_rfl
theorem syntax_parser_unary.u8.ok {α : Type} (k : Nat) (x0 : Ad) (x1 : Bool) (K : Ex → Frame → M α) :
    evC T (env k) k syntax_parser_unary.u8.c (frameL [(0, .ptr (some x0)), (37, .bool x1)]) K =
      syntax_parser_unary.u8.f k (syntax_parser_formula.f k) (syntax_parser_word.f k) x0 x1 (fun y0 => K .normal (frameL [(0, .ptr (some y0))])) (fun y0 => K .ret (frameL [(2, .int .i64 y0)])) (fun v => K (.pan v) (frameL [])) := by kernel_rfl
theorem syntax_parser_unary.u9.ok {α : Type} (k : Nat) (x0 : Ad) (x1 : Bool) (K : Ex → Frame → M α) :
    evC T (env k) k syntax_parser_unary.u9.c (frameL [(0, .ptr (some x0)), (37, .bool x1)]) K =
      syntax_parser_unary.u9.f k (syntax_parser_unary.f k) (syntax_parser_formula.f k) (syntax_parser_word.f k) x0 x1 (fun y0 => K .normal (frameL [(0, .ptr (some y0))])) (fun y0 => K .ret (frameL [(2, .int .i64 y0)])) (fun v => K (.pan v) (frameL [])) :=
  evC_cond_run (g := x1) (by kernel_rfl) (syntax_parser_unary.u7.ok k x0 x1 K) (syntax_parser_unary.u8.ok k x0 x1 K)
theorem syntax_parser_unary.u10.ok {α : Type} (k : Nat) (x0 : Ad) (x1 : Bool) (K : Ex → Frame → M α) :
    evC T (env k) k syntax_parser_unary.u10.c (frameL [(0, .ptr (some x0)), (22, .bool x1)]) K =
      syntax_parser_unary.u10.f k (syntax_parser_unary.f k) (syntax_parser_formula.f k) (syntax_parser_word.f k) x0 x1 (fun y0 => K .normal (frameL [(0, .ptr (some y0))])) (fun y0 => K .ret (frameL [(2, .int .i64 y0)])) (fun v => K (.pan v) (frameL [])) :=
  (syntax_parser_unary.u6.ok k x0 x1 syntax_parser_unary.u9.c K).trans
    (congrArg (fun z => syntax_parser_unary.u6.f k x0 x1 z) (funext fun y0 => (funext fun y1 => syntax_parser_unary.u9.ok k y0 y1 K)))
theorem syntax_parser_unary.u11.ok {α : Type} (k : Nat) (x0 : Ad) (x1 : Bool) (K : Ex → Frame → M α) :
    evC T (env k) k syntax_parser_unary.u11.c (frameL [(0, .ptr (some x0)), (22, .bool x1)]) K =
      syntax_parser_unary.u11.f k (syntax_parser_unary.f k) (syntax_parser_formula.f k) (syntax_parser_word.f k) x0 x1 (fun y0 => K .normal (frameL [(0, .ptr (some y0))])) (fun y0 => K .ret (frameL [(2, .int .i64 y0)])) (fun v => K (.pan v) (frameL [])) :=
  evC_cond_run (g := x1) (by kernel_rfl) (syntax_parser_unary.u5.ok k x0 x1 K) (syntax_parser_unary.u10.ok k x0 x1 K)
theorem syntax_parser_unary.u12.ok {α : Type} (k : Nat) (x0 : Ad) (x1 : Bool) (K : Ex → Frame → M α) :
    evC T (env k) k syntax_parser_unary.u12.c (frameL [(0, .ptr (some x0)), (10, .bool x1)]) K =
      syntax_parser_unary.u12.f k (syntax_parser_unary.f k) (syntax_parser_formula.f k) (syntax_parser_word.f k) x0 x1 (fun y0 => K .normal (frameL [(0, .ptr (some y0))])) (fun y0 => K .ret (frameL [(2, .int .i64 y0)])) (fun v => K (.pan v) (frameL [])) :=
  (syntax_parser_unary.u4.ok k x0 x1 syntax_parser_unary.u11.c K).trans
    (congrArg (fun z => syntax_parser_unary.u4.f k x0 x1 z) (funext fun y0 => (funext fun y1 => syntax_parser_unary.u11.ok k y0 y1 K)))
theorem syntax_parser_unary.u13.ok {α : Type} (k : Nat) (x0 : Ad) (x1 : Bool) (K : Ex → Frame → M α) :
    evC T (env k) k syntax_parser_unary.u13.c (frameL [(0, .ptr (some x0)), (10, .bool x1)]) K =
      syntax_parser_unary.u13.f k (syntax_parser_unary.f k) (syntax_parser_formula.f k) (syntax_parser_word.f k) x0 x1 (fun y0 => K .normal (frameL [(0, .ptr (some y0))])) (fun y0 => K .ret (frameL [(2, .int .i64 y0)])) (fun v => K (.pan v) (frameL [])) :=
  evC_cond_run (g := x1) (by kernel_rfl) (syntax_parser_unary.u3.ok k x0 x1 K) (syntax_parser_unary.u12.ok k x0 x1 K)
theorem syntax_parser_unary.u14.ok {α : Type} (k : Nat) (x0 : Ad) (K : Ex → Frame → M α) :
    evC T (env k) k syntax_parser_unary.u14.c (frameL [(0, .ptr (some x0))]) K =
      syntax_parser_unary.u14.f k (syntax_parser_unary.f k) (syntax_parser_formula.f k) (syntax_parser_word.f k) x0 (fun y0 => K .normal (frameL [(0, .ptr (some y0))])) (fun y0 => K .ret (frameL [(2, .int .i64 y0)])) (fun v => K (.pan v) (frameL [])) :=
  (syntax_parser_unary.u2.ok k x0 syntax_parser_unary.u13.c K).trans
    (congrArg (fun z => syntax_parser_unary.u2.f k x0 z) (funext fun y0 => (funext fun y1 => syntax_parser_unary.u13.ok k y0 y1 K)))
theorem syntax_parser_unary.u15.ok {α : Type} (k : Nat) (x0 : Ad) (K : Ex → Frame → M α) :
    evC T (env k) k syntax_parser_unary.u15.c (frameL [(0, .ptr (some x0))]) K =
      syntax_parser_unary.u15.f k (syntax_parser_unary.f k) (syntax_parser_formula.f k) (syntax_parser_word.f k) x0 (fun y0 => K .normal (frameL [(0, .ptr (some y0))])) (fun y0 => K .ret (frameL [(2, .int .i64 y0)])) (fun v => K (.pan v) (frameL [])) :=
  (evC_block.trans (syntax_parser_unary.u14.ok k x0 (blockK 0 K))).trans (by kernel_rfl)
theorem syntax_parser_unary.u16.ok {α : Type} (k : Nat) (x0 : Ad) (K : Ex → Frame → M α) :
    evC T (env k) k syntax_parser_unary.u16.c (frameL [(0, .ptr (some x0))]) K =
      syntax_parser_unary.u16.f k x0 (fun y0 => K .ret (frameL [(2, .int .i64 y0)])) (fun v => K (.pan v) (frameL [])) := by kernel_rfl
theorem syntax_parser_unary.u17.ok {α : Type} (k : Nat) (x0 : Ad) (K : Ex → Frame → M α) :
    evC T (env k) k syntax_parser_unary.u17.c (frameL [(0, .ptr (some x0))]) K =
      syntax_parser_unary.u17.f k (syntax_parser_unary.f k) (syntax_parser_formula.f k) (syntax_parser_word.f k) x0 (fun y0 => K .ret (frameL [(2, .int .i64 y0)])) (fun v => K (.pan v) (frameL [])) :=
  by
    have h := syntax_parser_unary.u15.ok k x0 (seqK (fun ρ => evC T (env k) k syntax_parser_unary.u16.c ρ K) K)
    simp only [seqK_normal, seqK_exit, seqK_ret, seqK_pan, syntax_parser_unary.u16.ok] at h
    exact evC_seq_of h
theorem syntax_parser_unary.u18.ok {α : Type} (k : Nat) (x0 : Ad) (K : Ex → Frame → M α) :
    evC T (env k) k syntax_parser_unary.u18.c (frameL [(0, .ptr (some x0))]) K =
      syntax_parser_unary.u18.f k (syntax_parser_unary.f k) (syntax_parser_formula.f k) (syntax_parser_word.f k) x0 (fun y0 => K .ret (frameL [(2, .int .i64 y0)])) (fun v => K (.pan v) (frameL [])) :=
  (syntax_parser_unary.u1.ok k x0 syntax_parser_unary.u17.c K).trans
    (congrArg (fun z => syntax_parser_unary.u1.f k x0 z) (funext fun y0 => syntax_parser_unary.u17.ok k y0 K))
theorem syntax_parser_unary.ok {α : Type} (k : Nat) (x0 : Ad) (κ : Res → M α) :
    evF T (env k) k syntax_parser_unary.c syntax_parser_unary.res [.ptr (some x0)] κ = syntax_parser_unary.f (k + 1) x0 (fun v => κ (.pan v)) (fun o0 => κ (.ret (.int .i64 o0))) :=
  (syntax_parser_unary.u18.ok k x0 (retK T syntax_parser_unary.res κ)).trans (by kernel_rfl)
theorem syntax_parser_unary.code : syntax_parser_unary.c.code = bodyOf Try.f77 := by kernel_rfl
noncomputable def syntax_parser_word.c : IC := syntax_parser_word.u5.c
noncomputable def syntax_parser_word.res : List ResultVar := [(.tmp 2)]
theorem syntax_parser_word.u1.ok {α : Type} (k : Nat) (x0 : Ad) (R : IC) (K : Ex → Frame → M α) :
    evC T (env k) k (syntax_parser_word.u1.c R) (frameL [(0, .ptr (some x0))]) K =
      syntax_parser_word.u1.f k x0 (fun y0 y1 y2 => evC T (env k) k R (frameL [(0, .ptr (some y0)), (3, .ptr (some y1)), (4, .int .i64 y2)]) K) (fun y0 => K .ret (frameL [(2, .int .i64 y0)])) (fun v => K (.pan v) (frameL [])) := by kernel_rfl
theorem syntax_parser_word.u2.ok {α : Type} (k : Nat) (x0 : Ad) (x1 : Ad) (x2 : Int) (R : IC) (K : Ex → Frame → M α) :
    evC T (env k) k (syntax_parser_word.u2.c R) (frameL [(0, .ptr (some x0)), (3, .ptr (some x1)), (4, .int .i64 x2)]) K =
      syntax_parser_word.u2.f k x0 x1 x2 (fun y0 y1 y2 => evC T (env k) k R (frameL [(0, .ptr (some y0)), (3, .ptr (some y1)), (4, .int .i64 y2)]) K) (fun v => K (.pan v) (frameL [])) := by kernel_rfl
theorem syntax_parser_word.u3.ok {α : Type} (k : Nat) (x0 : Ad) (x1 : Ad) (x2 : Int) (K : Ex → Frame → M α) :
    evC T (env k) k syntax_parser_word.u3.c (frameL [(0, .ptr (some x0)), (3, .ptr (some x1)), (4, .int .i64 x2)]) K =
      syntax_parser_word.u3.f k (syntax_parser_formula.f k) x0 x1 x2 (fun y0 => K .ret (frameL [(2, .int .i64 y0)])) (fun v => K (.pan v) (frameL [])) := by kernel_rfl
theorem syntax_parser_word.u4.ok {α : Type} (k : Nat) (x0 : Ad) (x1 : Ad) (x2 : Int) (K : Ex → Frame → M α) :
    evC T (env k) k syntax_parser_word.u4.c (frameL [(0, .ptr (some x0)), (3, .ptr (some x1)), (4, .int .i64 x2)]) K =
      syntax_parser_word.u4.f k (syntax_parser_formula.f k) x0 x1 x2 (fun y0 => K .ret (frameL [(2, .int .i64 y0)])) (fun v => K (.pan v) (frameL [])) :=
  (syntax_parser_word.u2.ok k x0 x1 x2 syntax_parser_word.u3.c K).trans
    (congrArg (fun z => syntax_parser_word.u2.f k x0 x1 x2 z (fun v => K (.pan v) (frameL []))) (funext fun y0 => (funext fun y1 => (funext fun y2 => syntax_parser_word.u3.ok k y0 y1 y2 K))))
theorem syntax_parser_word.u5.ok {α : Type} (k : Nat) (x0 : Ad) (K : Ex → Frame → M α) :
    evC T (env k) k syntax_parser_word.u5.c (frameL [(0, .ptr (some x0))]) K =
      syntax_parser_word.u5.f k (syntax_parser_formula.f k) x0 (fun y0 => K .ret (frameL [(2, .int .i64 y0)])) (fun v => K (.pan v) (frameL [])) :=
  (syntax_parser_word.u1.ok k x0 syntax_parser_word.u4.c K).trans
    (congrArg (fun z => syntax_parser_word.u1.f k x0 z (fun y0 => K .ret (frameL [(2, .int .i64 y0)])) (fun v => K (.pan v) (frameL []))) (funext fun y0 => (funext fun y1 => (funext fun y2 => syntax_parser_word.u4.ok k y0 y1 y2 K))))
theorem syntax_parser_word.ok {α : Type} (k : Nat) (x0 : Ad) (κ : Res → M α) :
    evF T (env k) k syntax_parser_word.c syntax_parser_word.res [.ptr (some x0)] κ = syntax_parser_word.f (k + 1) x0 (fun v => κ (.pan v)) (fun o0 => κ (.ret (.int .i64 o0))) :=
  (syntax_parser_word.u5.ok k x0 (retK T syntax_parser_word.res κ)).trans (by kernel_rfl)
theorem syntax_parser_word.code : syntax_parser_word.c.code = bodyOf Try.f83 := by kernel_rfl

noncomputable def syntax_Parse.res : List ResultVar := [(.cell 2 22), (.cell 3 38)]
theorem syntax_Parse.sp {α : Type} (k : Nat) (x0 : List UInt8) (K : Ex → Frame → M α) (Kn : Frame → M α) :
    evSpine T (env k) k syntax_Parse.as (frameL [(0, .str x0)]) K Kn = syntax_Parse.u1.f k x0 (fun y0 y1 y2 => Kn (frameL [(2, .ptr (some y0)), (3, .ptr (some y1)), (4, .slice y2)])) (fun y0 y1 => K .ret (frameL [(2, .ptr (some y0)), (3, .ptr (some y1))])) := by kernel_rfl
theorem syntax_Parse.bok {α : Type} (k : Nat) (y0 : Ad) (y1 : Ad) (y2 : Sl) (K : Ex → Frame → M α) :
    evC T (env k) k syntax_Parse.u2.c (Frame.put (frameL [(2, .ptr (some y0)), (3, .ptr (some y1)), (4, .slice y2)]) (some 14) (.func 45 [] [.ptr (some y0), .ptr (some y1)])) K = syntax_Parse.u2.f k y0 y1 y2 (fun z0 z1 => K .ret (frameL [(2, .ptr (some z0)), (3, .ptr (some z1))])) (fun v => K (.pan v) (frameL [])) := by kernel_rfl
theorem syntax_Parse.ret {α : Type} (k : Nat) (y0 : Ad) (y1 : Ad) (y2 : Sl) (z0 : Ad) (z1 : Ad) (κ : Res → M α) :
    (deferB T (env k) k syntax_Parse.C.u1.c 5 [2, 3] syntax_Parse.res [.ptr (some y0), .ptr (some y1)] (frameL [(2, .ptr (some y0)), (3, .ptr (some y1)), (4, .slice y2)]) κ) .ret (frameL [(2, .ptr (some z0)), (3, .ptr (some z1))]) = syntax_Parse.C.u1.f k y0 y1 .nilIface (
  ldS (z0.add 0) fun o501 =>
  ld (z1.add 0) fun o502 =>
  (fun o0 o1 => κ (.ret (.tuple [.slice o0, o1]))) o501 o502) := by kernel_rfl
theorem syntax_Parse.pan {α : Type} (k : Nat) (y0 : Ad) (y1 : Ad) (y2 : Sl) (v : V) (ρ : Frame) (κ : Res → M α) :
    (deferB T (env k) k syntax_Parse.C.u1.c 5 [2, 3] syntax_Parse.res [.ptr (some y0), .ptr (some y1)] (frameL [(2, .ptr (some y0)), (3, .ptr (some y1)), (4, .slice y2)]) κ) (.pan v) ρ = syntax_Parse.C.u1.f k y0 y1 v (
  ldS (y0.add 0) fun o501 =>
  ld (y1.add 0) fun o502 =>
  (fun o0 o1 => κ (.ret (.tuple [.slice o0, o1]))) o501 o502) := by kernel_rfl
theorem syntax_Parse.reta {α : Type} (y0 : Ad) (y1 : Ad) (κ : Res → M α) :
    deferA T syntax_Parse.res κ .ret (frameL [(2, .ptr (some y0)), (3, .ptr (some y1))]) = (
  ldS (y0.add 0) fun o501 =>
  ld (y1.add 0) fun o502 =>
  (fun o0 o1 => κ (.ret (.tuple [.slice o0, o1]))) o501 o502) := by kernel_rfl
theorem syntax_Parse.ok {α : Type} (k : Nat) (x0 : List UInt8) (κ : Res → M α) :
    evDefer T (env k) k syntax_Parse.as syntax_Parse.u2.c syntax_Parse.C.u1.c 45 14 5 [.tmp 2, .tmp 3] [2, 3] syntax_Parse.res [.str x0] κ = syntax_Parse.f (k + 1) x0 (fun o0 o1 => κ (.ret (.tuple [.slice o0, o1]))) :=
  (syntax_Parse.sp k x0 _ _).trans (congr (congrArg (fun a b => syntax_Parse.u1.f k x0 a b) (funext fun y0 => funext fun y1 => funext fun y2 => (syntax_Parse.bok k y0 y1 y2 _).trans (congr (congrArg (fun a b => syntax_Parse.u2.f k y0 y1 y2 a b) (funext fun z0 => funext fun z1 => syntax_Parse.ret k y0 y1 y2 z0 z1 κ)) (funext fun v => syntax_Parse.pan k y0 y1 y2 v _ κ)))) (funext fun y0 => funext fun y1 => syntax_Parse.reta y0 y1 κ))

noncomputable def syntax_spelt.c : IC := syntax_spelt.u9.c
noncomputable def syntax_spelt.res : List ResultVar := [(.tmp 6)]
theorem syntax_spelt.u1.ok {α : Type} (k : Nat) (x0 : List UInt8) (x1 : Int) (x2 : Int) (R : IC) (K : Ex → Frame → M α) :
    evC T (env k) k (syntax_spelt.u1.c R) (frameL [(0, .str x0), (1, .int .u8 x1), (2, .int .u8 x2)]) K =
      syntax_spelt.u1.f k x0 x1 x2 (fun y0 => evC T (env k) k R (frameL [(0, .str y0)]) K) (fun y0 => K .ret (frameL [(6, .bool y0)])) := by kernel_rfl
theorem syntax_spelt.u2.ok {α : Type} (k : Nat) (x0 : List UInt8) (R : IC) (K : Ex → Frame → M α) :
    evC T (env k) k (syntax_spelt.u2.c R) (frameL [(0, .str x0)]) K =
      syntax_spelt.u2.f k x0 (fun y0 y1 y2 => evC T (env k) k R (frameL [(0, .str y0), (30, .int .i64 y1), (31, .int .i64 y2)]) K) := by kernel_rfl
theorem syntax_spelt.u3.ok {α : Type} (k : Nat) (x0 : List UInt8) (x1 : Int) (x2 : Int) (K : Ex → Frame → M α) :
    evC T (env k) k syntax_spelt.u3.c (frameL [(0, .str x0), (30, .int .i64 x1), (31, .int .i64 x2)]) K =
      syntax_spelt.u3.f k x0 x1 x2 (fun y0 y1 y2 => K .normal (frameL [(0, .str y0), (30, .int .i64 y1), (31, .int .i64 y2)])) (fun y0 => K .ret (frameL [(6, .bool y0)])) (K (.exit 0) (frameL [])) := by kernel_rfl
theorem syntax_spelt.u4.ls {α : Type} (k : Nat) (kr : Bool → M α) (kx0 : M α) (j : Nat) (x0 : List UInt8) (x1 : Int) (x2 : Int) : syntax_spelt.u4.l k kr kx0 (j + 1) x0 x1 x2 =
  syntax_spelt.u3.f k x0 x1 x2 (fun y0 y1 y2 => syntax_spelt.u4.l k kr kx0 j y0 y1 y2) kr kx0 := rfl
theorem syntax_spelt.u4.okl {α : Type} (k : Nat) (K : Ex → Frame → M α) : ∀ (j : Nat) (x0 : List UInt8) (x1 : Int) (x2 : Int),
    evLoop (evC T (env k) k syntax_spelt.u3.c) [0, 30, 31] j (frameL [(0, .str x0), (30, .int .i64 x1), (31, .int .i64 x2)]) K = syntax_spelt.u4.l k (fun y0 => K .ret (frameL [(6, .bool y0)])) (K (.exit 0) (frameL [])) j x0 x1 x2
  | 0, _, _, _ => rfl
  | j + 1, x0, x1, x2 => by
      have h := syntax_spelt.u3.ok k x0 x1 x2 (seqK (fun ρ => evLoop (evC T (env k) k syntax_spelt.u3.c) [0, 30, 31] j ρ K) K)
      simp only [seqK_exit, seqK_ret, seqK_pan, seqK_normal, syntax_spelt.u4.okl k K j] at h
      exact (evLoop_step (by kernel_rfl) h).trans (syntax_spelt.u4.ls k (fun y0 => K .ret (frameL [(6, .bool y0)])) (K (.exit 0) (frameL [])) j x0 x1 x2).symm
theorem syntax_spelt.u4.ok {α : Type} (k : Nat) (x0 : List UInt8) (x1 : Int) (x2 : Int) (K : Ex → Frame → M α) :
    evC T (env k) k syntax_spelt.u4.c (frameL [(0, .str x0), (30, .int .i64 x1), (31, .int .i64 x2)]) K =
      syntax_spelt.u4.f k x0 x1 x2 (fun y0 => K .ret (frameL [(6, .bool y0)])) (K (.exit 0) (frameL [])) :=
  evC_loop.trans <| (evLoop_keep (body := evC T (env k) k syntax_spelt.u3.c) (keep := [0, 30, 31]) (ρ := (frameL [(0, .str x0), (30, .int .i64 x1), (31, .int .i64 x2)])) (ρ' := (frameL [(0, .str x0), (30, .int .i64 x1), (31, .int .i64 x2)])) (by kernel_rfl) k K).trans (syntax_spelt.u4.okl k K k x0 x1 x2)
theorem syntax_spelt.u5.ok {α : Type} (k : Nat) (x0 : List UInt8) (x1 : Int) (x2 : Int) (K : Ex → Frame → M α) :
    evC T (env k) k syntax_spelt.u5.c (frameL [(0, .str x0), (30, .int .i64 x1), (31, .int .i64 x2)]) K =
      syntax_spelt.u5.f k x0 x1 x2 (K .normal (frameL [])) (fun y0 => K .ret (frameL [(6, .bool y0)])) :=
  (evC_block.trans (syntax_spelt.u4.ok k x0 x1 x2 (blockK 0 K))).trans (by kernel_rfl)
theorem syntax_spelt.u6.ok {α : Type} (k : Nat) (x0 : List UInt8) (K : Ex → Frame → M α) :
    evC T (env k) k syntax_spelt.u6.c (frameL [(0, .str x0)]) K =
      syntax_spelt.u6.f k x0 (K .normal (frameL [])) (fun y0 => K .ret (frameL [(6, .bool y0)])) :=
  (syntax_spelt.u2.ok k x0 syntax_spelt.u5.c K).trans
    (congrArg (fun z => syntax_spelt.u2.f k x0 z) (funext fun y0 => (funext fun y1 => (funext fun y2 => syntax_spelt.u5.ok k y0 y1 y2 K))))
theorem syntax_spelt.u7.ok {α : Type} (k : Nat) (K : Ex → Frame → M α) :
    evC T (env k) k syntax_spelt.u7.c (frameL []) K =
      syntax_spelt.u7.f k (fun y0 => K .ret (frameL [(6, .bool y0)])) := by kernel_rfl
theorem syntax_spelt.u8.ok {α : Type} (k : Nat) (x0 : List UInt8) (K : Ex → Frame → M α) :
    evC T (env k) k syntax_spelt.u8.c (frameL [(0, .str x0)]) K =
      syntax_spelt.u8.f k x0 (fun y0 => K .ret (frameL [(6, .bool y0)])) :=
  by
    have h := syntax_spelt.u6.ok k x0 (seqK (fun ρ => evC T (env k) k syntax_spelt.u7.c ρ K) K)
    simp only [seqK_normal, seqK_exit, seqK_ret, seqK_pan, syntax_spelt.u7.ok] at h
    exact evC_seq_of h
theorem syntax_spelt.u9.ok {α : Type} (k : Nat) (x0 : List UInt8) (x1 : Int) (x2 : Int) (K : Ex → Frame → M α) :
    evC T (env k) k syntax_spelt.u9.c (frameL [(0, .str x0), (1, .int .u8 x1), (2, .int .u8 x2)]) K =
      syntax_spelt.u9.f k x0 x1 x2 (fun y0 => K .ret (frameL [(6, .bool y0)])) :=
  (syntax_spelt.u1.ok k x0 x1 x2 syntax_spelt.u8.c K).trans
    (congrArg (fun z => syntax_spelt.u1.f k x0 x1 x2 z (fun y0 => K .ret (frameL [(6, .bool y0)]))) (funext fun y0 => syntax_spelt.u8.ok k y0 K))
theorem syntax_spelt.ok {α : Type} (k : Nat) (x0 : List UInt8) (x1 : Int) (x2 : Int) (κ : Res → M α) :
    evF T (env k) k syntax_spelt.c syntax_spelt.res [.str x0, .int .u8 x1, .int .u8 x2] κ = syntax_spelt.f (k + 1) x0 x1 x2 (fun o0 => κ (.ret (.bool o0))) :=
  (syntax_spelt.u9.ok k x0 x1 x2 (retK T syntax_spelt.res κ)).trans (by kernel_rfl)
theorem syntax_spelt.code : syntax_spelt.c.code = bodyOf Try.f65 := by kernel_rfl

noncomputable def syntax_name.c : IC := syntax_name.u1.c
noncomputable def syntax_name.res : List ResultVar := [(.tmp 2)]
theorem syntax_name.u1.ok {α : Type} (k : Nat) (x0 : List UInt8) (K : Ex → Frame → M α) :
    evC T (env k) k syntax_name.u1.c (frameL [(0, .str x0)]) K =
      syntax_name.u1.f k x0 (fun y0 => K .ret (frameL [(2, .bool y0)])) := by kernel_rfl
theorem syntax_name.ok {α : Type} (k : Nat) (x0 : List UInt8) (κ : Res → M α) :
    evF T (env k) k syntax_name.c syntax_name.res [.str x0] κ = syntax_name.f (k + 1) x0 (fun o0 => κ (.ret (.bool o0))) :=
  (syntax_name.u1.ok k x0 (retK T syntax_name.res κ)).trans (by kernel_rfl)
theorem syntax_name.code : syntax_name.c.code = bodyOf Try.f51 := by kernel_rfl

noncomputable def syntax_variable.c : IC := syntax_variable.u1.c
noncomputable def syntax_variable.res : List ResultVar := [(.tmp 2)]
theorem syntax_variable.u1.ok {α : Type} (k : Nat) (x0 : List UInt8) (K : Ex → Frame → M α) :
    evC T (env k) k syntax_variable.u1.c (frameL [(0, .str x0)]) K =
      syntax_variable.u1.f k x0 (fun y0 => K .ret (frameL [(2, .bool y0)])) := by kernel_rfl
theorem syntax_variable.ok {α : Type} (k : Nat) (x0 : List UInt8) (κ : Res → M α) :
    evF T (env k) k syntax_variable.c syntax_variable.res [.str x0] κ = syntax_variable.f (k + 1) x0 (fun o0 => κ (.ret (.bool o0))) :=
  (syntax_variable.u1.ok k x0 (retK T syntax_variable.res κ)).trans (by kernel_rfl)
theorem syntax_variable.code : syntax_variable.c.code = bodyOf Try.f52 := by kernel_rfl

noncomputable def syntax_below.c : IC := syntax_below.u1.c
noncomputable def syntax_below.res : List ResultVar := [(.tmp 2), (.tmp 3)]
theorem syntax_below.u1.ok {α : Type} (k : Nat) (x0 : Int) (x1 : Int) (x2 : Int) (x3 : List UInt8) (x4 : Int) (K : Ex → Frame → M α) :
    evC T (env k) k syntax_below.u1.c (frameL [(0, .agg [.int .i64 x0, .int .i64 x1, .int .i64 x2, .str x3, .int .i64 x4])]) K =
      syntax_below.u1.f k x0 x1 x2 x3 x4 (fun y0 y1 => K .ret (frameL [(2, .int .i64 y0), (3, .bool y1)])) := by kernel_rfl
theorem syntax_below.ok {α : Type} (k : Nat) (x0 : Int) (x1 : Int) (x2 : Int) (x3 : List UInt8) (x4 : Int) (κ : Res → M α) :
    evF T (env k) k syntax_below.c syntax_below.res [.agg [.int .i64 x0, .int .i64 x1, .int .i64 x2, .str x3, .int .i64 x4]] κ = syntax_below.f (k + 1) x0 x1 x2 x3 x4 (fun o0 o1 => κ (.ret (.tuple [.int .i64 o0, .bool o1]))) :=
  (syntax_below.u1.ok k x0 x1 x2 x3 x4 (retK T syntax_below.res κ)).trans (by kernel_rfl)
theorem syntax_below.code : syntax_below.c.code = bodyOf Try.f36 := by kernel_rfl

noncomputable def syntax_Right_c1.c : IC := syntax_Right_c1.u1.c
noncomputable def syntax_Right_c1.res : List ResultVar := [(.tmp 2)]
theorem syntax_Right_c1.u1.ok {α : Type} (k : Nat) (x0 : Int) (K : Ex → Frame → M α) :
    evC T (env k) k syntax_Right_c1.u1.c (frameL [(0, .int .i64 x0)]) K =
      syntax_Right_c1.u1.f k x0 (fun y0 => K .ret (frameL [(2, .bool y0)])) := by kernel_rfl
theorem syntax_Right_c1.ok {α : Type} (k : Nat) (x0 : Int) (κ : Res → M α) :
    evF T (env k) k syntax_Right_c1.c syntax_Right_c1.res [.int .i64 x0] κ = syntax_Right_c1.f (k + 1) x0 (fun o0 => κ (.ret (.bool o0))) :=
  (syntax_Right_c1.u1.ok k x0 (retK T syntax_Right_c1.res κ)).trans (by kernel_rfl)
theorem syntax_Right_c1.code : syntax_Right_c1.c.code = bodyOf Try.f38 := by kernel_rfl

noncomputable def slices_IndexFunc_int_int_38.c : IC := slices_IndexFunc_int_int_38.u9.c
noncomputable def slices_IndexFunc_int_int_38.res : List ResultVar := [(.tmp 4)]
theorem slices_IndexFunc_int_int_38.u1.ok {α : Type} (k : Nat) (x0 : Sl) (R : IC) (K : Ex → Frame → M α) :
    evC T (env k) k (slices_IndexFunc_int_int_38.u1.c R) (frameL [(0, .slice x0), (1, .func 38 [] [])]) K =
      slices_IndexFunc_int_int_38.u1.f k x0 (fun y0 => evC T (env k) k R (frameL [(0, .slice y0), (1, .func 38 [] [])]) K) := by kernel_rfl
theorem slices_IndexFunc_int_int_38.u2.ok {α : Type} (k : Nat) (x0 : Sl) (R : IC) (K : Ex → Frame → M α) :
    evC T (env k) k (slices_IndexFunc_int_int_38.u2.c R) (frameL [(0, .slice x0), (1, .func 38 [] [])]) K =
      slices_IndexFunc_int_int_38.u2.f k x0 (fun y0 y1 y2 => evC T (env k) k R (frameL [(0, .slice y0), (1, .func 38 [] []), (7, .int .i64 y1), (8, .int .i64 y2)]) K) := by kernel_rfl
theorem slices_IndexFunc_int_int_38.u3.ok {α : Type} (k : Nat) (x0 : Sl) (x1 : Int) (x2 : Int) (K : Ex → Frame → M α) :
    evC T (env k) k slices_IndexFunc_int_int_38.u3.c (frameL [(0, .slice x0), (1, .func 38 [] []), (7, .int .i64 x1), (8, .int .i64 x2)]) K =
      slices_IndexFunc_int_int_38.u3.f k x0 x1 x2 (fun y0 y1 y2 => K .normal (frameL [(0, .slice y0), (1, .func 38 [] []), (7, .int .i64 y1), (8, .int .i64 y2)])) (fun y0 => K .ret (frameL [(4, .int .i64 y0)])) (K (.exit 0) (frameL [])) := by kernel_rfl
theorem slices_IndexFunc_int_int_38.u4.ls {α : Type} (k : Nat) (kr : Int → M α) (kx0 : M α) (j : Nat) (x0 : Sl) (x1 : Int) (x2 : Int) : slices_IndexFunc_int_int_38.u4.l k kr kx0 (j + 1) x0 x1 x2 =
  slices_IndexFunc_int_int_38.u3.f k x0 x1 x2 (fun y0 y1 y2 => slices_IndexFunc_int_int_38.u4.l k kr kx0 j y0 y1 y2) kr kx0 := rfl
theorem slices_IndexFunc_int_int_38.u4.okl {α : Type} (k : Nat) (K : Ex → Frame → M α) : ∀ (j : Nat) (x0 : Sl) (x1 : Int) (x2 : Int),
    evLoop (evC T (env k) k slices_IndexFunc_int_int_38.u3.c) [0, 1, 7, 8] j (frameL [(0, .slice x0), (1, .func 38 [] []), (7, .int .i64 x1), (8, .int .i64 x2)]) K = slices_IndexFunc_int_int_38.u4.l k (fun y0 => K .ret (frameL [(4, .int .i64 y0)])) (K (.exit 0) (frameL [])) j x0 x1 x2
  | 0, _, _, _ => rfl
  | j + 1, x0, x1, x2 => by
      have h := slices_IndexFunc_int_int_38.u3.ok k x0 x1 x2 (seqK (fun ρ => evLoop (evC T (env k) k slices_IndexFunc_int_int_38.u3.c) [0, 1, 7, 8] j ρ K) K)
      simp only [seqK_exit, seqK_ret, seqK_pan, seqK_normal, slices_IndexFunc_int_int_38.u4.okl k K j] at h
      exact (evLoop_step (by kernel_rfl) h).trans (slices_IndexFunc_int_int_38.u4.ls k (fun y0 => K .ret (frameL [(4, .int .i64 y0)])) (K (.exit 0) (frameL [])) j x0 x1 x2).symm
theorem slices_IndexFunc_int_int_38.u4.ok {α : Type} (k : Nat) (x0 : Sl) (x1 : Int) (x2 : Int) (K : Ex → Frame → M α) :
    evC T (env k) k slices_IndexFunc_int_int_38.u4.c (frameL [(0, .slice x0), (1, .func 38 [] []), (7, .int .i64 x1), (8, .int .i64 x2)]) K =
      slices_IndexFunc_int_int_38.u4.f k x0 x1 x2 (fun y0 => K .ret (frameL [(4, .int .i64 y0)])) (K (.exit 0) (frameL [])) :=
  evC_loop.trans <| (evLoop_keep (body := evC T (env k) k slices_IndexFunc_int_int_38.u3.c) (keep := [0, 1, 7, 8]) (ρ := (frameL [(0, .slice x0), (1, .func 38 [] []), (7, .int .i64 x1), (8, .int .i64 x2)])) (ρ' := (frameL [(0, .slice x0), (1, .func 38 [] []), (7, .int .i64 x1), (8, .int .i64 x2)])) (by kernel_rfl) k K).trans (slices_IndexFunc_int_int_38.u4.okl k K k x0 x1 x2)
theorem slices_IndexFunc_int_int_38.u5.ok {α : Type} (k : Nat) (x0 : Sl) (x1 : Int) (x2 : Int) (K : Ex → Frame → M α) :
    evC T (env k) k slices_IndexFunc_int_int_38.u5.c (frameL [(0, .slice x0), (1, .func 38 [] []), (7, .int .i64 x1), (8, .int .i64 x2)]) K =
      slices_IndexFunc_int_int_38.u5.f k x0 x1 x2 (K .normal (frameL [])) (fun y0 => K .ret (frameL [(4, .int .i64 y0)])) :=
  (evC_block.trans (slices_IndexFunc_int_int_38.u4.ok k x0 x1 x2 (blockK 0 K))).trans (by kernel_rfl)
theorem slices_IndexFunc_int_int_38.u6.ok {α : Type} (k : Nat) (x0 : Sl) (K : Ex → Frame → M α) :
    evC T (env k) k slices_IndexFunc_int_int_38.u6.c (frameL [(0, .slice x0), (1, .func 38 [] [])]) K =
      slices_IndexFunc_int_int_38.u6.f k x0 (K .normal (frameL [])) (fun y0 => K .ret (frameL [(4, .int .i64 y0)])) :=
  (slices_IndexFunc_int_int_38.u2.ok k x0 slices_IndexFunc_int_int_38.u5.c K).trans
    (congrArg (fun z => slices_IndexFunc_int_int_38.u2.f k x0 z) (funext fun y0 => (funext fun y1 => (funext fun y2 => slices_IndexFunc_int_int_38.u5.ok k y0 y1 y2 K))))
theorem slices_IndexFunc_int_int_38.u7.ok {α : Type} (k : Nat) (K : Ex → Frame → M α) :
    evC T (env k) k slices_IndexFunc_int_int_38.u7.c (frameL []) K =
      slices_IndexFunc_int_int_38.u7.f k (fun y0 => K .ret (frameL [(4, .int .i64 y0)])) := by kernel_rfl
theorem slices_IndexFunc_int_int_38.u8.ok {α : Type} (k : Nat) (x0 : Sl) (K : Ex → Frame → M α) :
    evC T (env k) k slices_IndexFunc_int_int_38.u8.c (frameL [(0, .slice x0), (1, .func 38 [] [])]) K =
      slices_IndexFunc_int_int_38.u8.f k x0 (fun y0 => K .ret (frameL [(4, .int .i64 y0)])) :=
  by
    have h := slices_IndexFunc_int_int_38.u6.ok k x0 (seqK (fun ρ => evC T (env k) k slices_IndexFunc_int_int_38.u7.c ρ K) K)
    simp only [seqK_normal, seqK_exit, seqK_ret, seqK_pan, slices_IndexFunc_int_int_38.u7.ok] at h
    exact evC_seq_of h
theorem slices_IndexFunc_int_int_38.u9.ok {α : Type} (k : Nat) (x0 : Sl) (K : Ex → Frame → M α) :
    evC T (env k) k slices_IndexFunc_int_int_38.u9.c (frameL [(0, .slice x0), (1, .func 38 [] [])]) K =
      slices_IndexFunc_int_int_38.u9.f k x0 (fun y0 => K .ret (frameL [(4, .int .i64 y0)])) :=
  (slices_IndexFunc_int_int_38.u1.ok k x0 slices_IndexFunc_int_int_38.u8.c K).trans
    (congrArg (fun z => slices_IndexFunc_int_int_38.u1.f k x0 z) (funext fun y0 => slices_IndexFunc_int_int_38.u8.ok k y0 K))
theorem slices_IndexFunc_int_int_38.ok {α : Type} (k : Nat) (x0 : Sl) (κ : Res → M α) :
    evF T (env k) k slices_IndexFunc_int_int_38.c slices_IndexFunc_int_int_38.res [.slice x0, .func 38 [] []] κ = slices_IndexFunc_int_int_38.f (k + 1) x0 (fun o0 => κ (.ret (.int .i64 o0))) :=
  (slices_IndexFunc_int_int_38.u9.ok k x0 (retK T slices_IndexFunc_int_int_38.res κ)).trans (by kernel_rfl)
theorem slices_IndexFunc_int_int_38.code : slices_IndexFunc_int_int_38.c.code = bodyOf Try.f53 := by kernel_rfl

noncomputable def slices_ContainsFunc_int_int_38.c : IC := slices_ContainsFunc_int_int_38.u1.c
noncomputable def slices_ContainsFunc_int_int_38.res : List ResultVar := [(.tmp 4)]
theorem slices_ContainsFunc_int_int_38.u1.ok {α : Type} (k : Nat) (x0 : Sl) (K : Ex → Frame → M α) :
    evC T (env k) k slices_ContainsFunc_int_int_38.u1.c (frameL [(0, .slice x0), (1, .func 38 [] [])]) K =
      slices_ContainsFunc_int_int_38.u1.f k x0 (fun y0 => K .ret (frameL [(4, .bool y0)])) := by kernel_rfl
theorem slices_ContainsFunc_int_int_38.ok {α : Type} (k : Nat) (x0 : Sl) (κ : Res → M α) :
    evF T (env k) k slices_ContainsFunc_int_int_38.c slices_ContainsFunc_int_int_38.res [.slice x0, .func 38 [] []] κ = slices_ContainsFunc_int_int_38.f (k + 1) x0 (fun o0 => κ (.ret (.bool o0))) :=
  (slices_ContainsFunc_int_int_38.u1.ok k x0 (retK T slices_ContainsFunc_int_int_38.res κ)).trans (by kernel_rfl)
theorem slices_ContainsFunc_int_int_38.code : slices_ContainsFunc_int_int_38.c.code = bodyOf Try.f37 := by kernel_rfl

noncomputable def slices_Equal_int_int.c : IC := slices_Equal_int_int.u9.c
noncomputable def slices_Equal_int_int.res : List ResultVar := [(.tmp 4)]
theorem slices_Equal_int_int.u1.ok {α : Type} (k : Nat) (x0 : Sl) (x1 : Sl) (R : IC) (K : Ex → Frame → M α) :
    evC T (env k) k (slices_Equal_int_int.u1.c R) (frameL [(0, .slice x0), (1, .slice x1)]) K =
      slices_Equal_int_int.u1.f k x0 x1 (fun y0 y1 => evC T (env k) k R (frameL [(0, .slice y0), (1, .slice y1)]) K) (fun y0 => K .ret (frameL [(4, .bool y0)])) := by kernel_rfl
theorem slices_Equal_int_int.u2.ok {α : Type} (k : Nat) (x0 : Sl) (x1 : Sl) (R : IC) (K : Ex → Frame → M α) :
    evC T (env k) k (slices_Equal_int_int.u2.c R) (frameL [(0, .slice x0), (1, .slice x1)]) K =
      slices_Equal_int_int.u2.f k x0 x1 (fun y0 y1 y2 y3 => evC T (env k) k R (frameL [(0, .slice y0), (1, .slice y1), (12, .int .i64 y2), (13, .int .i64 y3)]) K) := by kernel_rfl
theorem slices_Equal_int_int.u3.ok {α : Type} (k : Nat) (x0 : Sl) (x1 : Sl) (x2 : Int) (x3 : Int) (K : Ex → Frame → M α) :
    evC T (env k) k slices_Equal_int_int.u3.c (frameL [(0, .slice x0), (1, .slice x1), (12, .int .i64 x2), (13, .int .i64 x3)]) K =
      slices_Equal_int_int.u3.f k x0 x1 x2 x3 (fun y0 y1 y2 y3 => K .normal (frameL [(0, .slice y0), (1, .slice y1), (12, .int .i64 y2), (13, .int .i64 y3)])) (fun y0 => K .ret (frameL [(4, .bool y0)])) (K (.exit 0) (frameL [])) := by kernel_rfl
theorem slices_Equal_int_int.u4.ls {α : Type} (k : Nat) (kr : Bool → M α) (kx0 : M α) (j : Nat) (x0 : Sl) (x1 : Sl) (x2 : Int) (x3 : Int) : slices_Equal_int_int.u4.l k kr kx0 (j + 1) x0 x1 x2 x3 =
  slices_Equal_int_int.u3.f k x0 x1 x2 x3 (fun y0 y1 y2 y3 => slices_Equal_int_int.u4.l k kr kx0 j y0 y1 y2 y3) kr kx0 := rfl
theorem slices_Equal_int_int.u4.okl {α : Type} (k : Nat) (K : Ex → Frame → M α) : ∀ (j : Nat) (x0 : Sl) (x1 : Sl) (x2 : Int) (x3 : Int),
    evLoop (evC T (env k) k slices_Equal_int_int.u3.c) [0, 1, 12, 13] j (frameL [(0, .slice x0), (1, .slice x1), (12, .int .i64 x2), (13, .int .i64 x3)]) K = slices_Equal_int_int.u4.l k (fun y0 => K .ret (frameL [(4, .bool y0)])) (K (.exit 0) (frameL [])) j x0 x1 x2 x3
  | 0, _, _, _, _ => rfl
  | j + 1, x0, x1, x2, x3 => by
      have h := slices_Equal_int_int.u3.ok k x0 x1 x2 x3 (seqK (fun ρ => evLoop (evC T (env k) k slices_Equal_int_int.u3.c) [0, 1, 12, 13] j ρ K) K)
      simp only [seqK_exit, seqK_ret, seqK_pan, seqK_normal, slices_Equal_int_int.u4.okl k K j] at h
      exact (evLoop_step (by kernel_rfl) h).trans (slices_Equal_int_int.u4.ls k (fun y0 => K .ret (frameL [(4, .bool y0)])) (K (.exit 0) (frameL [])) j x0 x1 x2 x3).symm
theorem slices_Equal_int_int.u4.ok {α : Type} (k : Nat) (x0 : Sl) (x1 : Sl) (x2 : Int) (x3 : Int) (K : Ex → Frame → M α) :
    evC T (env k) k slices_Equal_int_int.u4.c (frameL [(0, .slice x0), (1, .slice x1), (12, .int .i64 x2), (13, .int .i64 x3)]) K =
      slices_Equal_int_int.u4.f k x0 x1 x2 x3 (fun y0 => K .ret (frameL [(4, .bool y0)])) (K (.exit 0) (frameL [])) :=
  evC_loop.trans <| (evLoop_keep (body := evC T (env k) k slices_Equal_int_int.u3.c) (keep := [0, 1, 12, 13]) (ρ := (frameL [(0, .slice x0), (1, .slice x1), (12, .int .i64 x2), (13, .int .i64 x3)])) (ρ' := (frameL [(0, .slice x0), (1, .slice x1), (12, .int .i64 x2), (13, .int .i64 x3)])) (by kernel_rfl) k K).trans (slices_Equal_int_int.u4.okl k K k x0 x1 x2 x3)
theorem slices_Equal_int_int.u5.ok {α : Type} (k : Nat) (x0 : Sl) (x1 : Sl) (x2 : Int) (x3 : Int) (K : Ex → Frame → M α) :
    evC T (env k) k slices_Equal_int_int.u5.c (frameL [(0, .slice x0), (1, .slice x1), (12, .int .i64 x2), (13, .int .i64 x3)]) K =
      slices_Equal_int_int.u5.f k x0 x1 x2 x3 (K .normal (frameL [])) (fun y0 => K .ret (frameL [(4, .bool y0)])) :=
  (evC_block.trans (slices_Equal_int_int.u4.ok k x0 x1 x2 x3 (blockK 0 K))).trans (by kernel_rfl)
theorem slices_Equal_int_int.u6.ok {α : Type} (k : Nat) (x0 : Sl) (x1 : Sl) (K : Ex → Frame → M α) :
    evC T (env k) k slices_Equal_int_int.u6.c (frameL [(0, .slice x0), (1, .slice x1)]) K =
      slices_Equal_int_int.u6.f k x0 x1 (K .normal (frameL [])) (fun y0 => K .ret (frameL [(4, .bool y0)])) :=
  (slices_Equal_int_int.u2.ok k x0 x1 slices_Equal_int_int.u5.c K).trans
    (congrArg (fun z => slices_Equal_int_int.u2.f k x0 x1 z) (funext fun y0 => (funext fun y1 => (funext fun y2 => (funext fun y3 => slices_Equal_int_int.u5.ok k y0 y1 y2 y3 K)))))
theorem slices_Equal_int_int.u7.ok {α : Type} (k : Nat) (K : Ex → Frame → M α) :
    evC T (env k) k slices_Equal_int_int.u7.c (frameL []) K =
      slices_Equal_int_int.u7.f k (fun y0 => K .ret (frameL [(4, .bool y0)])) := by kernel_rfl
theorem slices_Equal_int_int.u8.ok {α : Type} (k : Nat) (x0 : Sl) (x1 : Sl) (K : Ex → Frame → M α) :
    evC T (env k) k slices_Equal_int_int.u8.c (frameL [(0, .slice x0), (1, .slice x1)]) K =
      slices_Equal_int_int.u8.f k x0 x1 (fun y0 => K .ret (frameL [(4, .bool y0)])) :=
  by
    have h := slices_Equal_int_int.u6.ok k x0 x1 (seqK (fun ρ => evC T (env k) k slices_Equal_int_int.u7.c ρ K) K)
    simp only [seqK_normal, seqK_exit, seqK_ret, seqK_pan, slices_Equal_int_int.u7.ok] at h
    exact evC_seq_of h
theorem slices_Equal_int_int.u9.ok {α : Type} (k : Nat) (x0 : Sl) (x1 : Sl) (K : Ex → Frame → M α) :
    evC T (env k) k slices_Equal_int_int.u9.c (frameL [(0, .slice x0), (1, .slice x1)]) K =
      slices_Equal_int_int.u9.f k x0 x1 (fun y0 => K .ret (frameL [(4, .bool y0)])) :=
  (slices_Equal_int_int.u1.ok k x0 x1 slices_Equal_int_int.u8.c K).trans
    (congrArg (fun z => slices_Equal_int_int.u1.f k x0 x1 z (fun y0 => K .ret (frameL [(4, .bool y0)]))) (funext fun y0 => (funext fun y1 => slices_Equal_int_int.u8.ok k y0 y1 K)))
theorem slices_Equal_int_int.ok {α : Type} (k : Nat) (x0 : Sl) (x1 : Sl) (κ : Res → M α) :
    evF T (env k) k slices_Equal_int_int.c slices_Equal_int_int.res [.slice x0, .slice x1] κ = slices_Equal_int_int.f (k + 1) x0 x1 (fun o0 => κ (.ret (.bool o0))) :=
  (slices_Equal_int_int.u9.ok k x0 x1 (retK T slices_Equal_int_int.res κ)).trans (by kernel_rfl)
theorem slices_Equal_int_int.code : slices_Equal_int_int.c.code = bodyOf Try.f39 := by kernel_rfl

noncomputable def syntax_Right.c : IC := syntax_Right.u9.c
noncomputable def syntax_Right.res : List ResultVar := [(.tmp 2)]
theorem syntax_Right.u1.ok {α : Type} (k : Nat) (x0 : Sl) (R : IC) (K : Ex → Frame → M α) :
    evC T (env k) k (syntax_Right.u1.c R) (frameL [(0, .slice x0)]) K =
      syntax_Right.u1.f k x0 (fun y0 y1 => evC T (env k) k R (frameL [(0, .slice y0), (3, .slice y1)]) K) (fun y0 => K .ret (frameL [(2, .bool y0)])) := by kernel_rfl
theorem syntax_Right.u2.ok {α : Type} (k : Nat) (x0 : Sl) (x1 : Sl) (R : IC) (K : Ex → Frame → M α) :
    evC T (env k) k (syntax_Right.u2.c R) (frameL [(0, .slice x0), (3, .slice x1)]) K =
      syntax_Right.u2.f k x0 x1 (fun y0 y1 y2 y3 => evC T (env k) k R (frameL [(3, .slice y0), (17, .slice y1), (18, .int .i64 y2), (19, .int .i64 y3)]) K) := by kernel_rfl
theorem syntax_Right.u3.ok {α : Type} (k : Nat) (x0 : Sl) (x1 : Sl) (x2 : Int) (x3 : Int) (K : Ex → Frame → M α) :
    evC T (env k) k syntax_Right.u3.c (frameL [(3, .slice x0), (17, .slice x1), (18, .int .i64 x2), (19, .int .i64 x3)]) K =
      syntax_Right.u3.f k x0 x1 x2 x3 (fun y0 y1 y2 y3 => K .normal (frameL [(3, .slice y0), (17, .slice y1), (18, .int .i64 y2), (19, .int .i64 y3)])) (fun y0 => K .ret (frameL [(2, .bool y0)])) (fun y0 => K (.exit 0) (frameL [(3, .slice y0)])) := by kernel_rfl
theorem syntax_Right.u4.ls {α : Type} (k : Nat) (kr : Bool → M α) (kx0 : Sl → M α) (j : Nat) (x0 : Sl) (x1 : Sl) (x2 : Int) (x3 : Int) : syntax_Right.u4.l k kr kx0 (j + 1) x0 x1 x2 x3 =
  syntax_Right.u3.f k x0 x1 x2 x3 (fun y0 y1 y2 y3 => syntax_Right.u4.l k kr kx0 j y0 y1 y2 y3) kr kx0 := rfl
theorem syntax_Right.u4.okl {α : Type} (k : Nat) (K : Ex → Frame → M α) : ∀ (j : Nat) (x0 : Sl) (x1 : Sl) (x2 : Int) (x3 : Int),
    evLoop (evC T (env k) k syntax_Right.u3.c) [3, 17, 18, 19] j (frameL [(3, .slice x0), (17, .slice x1), (18, .int .i64 x2), (19, .int .i64 x3)]) K = syntax_Right.u4.l k (fun y0 => K .ret (frameL [(2, .bool y0)])) (fun y0 => K (.exit 0) (frameL [(3, .slice y0)])) j x0 x1 x2 x3
  | 0, _, _, _, _ => rfl
  | j + 1, x0, x1, x2, x3 => by
      have h := syntax_Right.u3.ok k x0 x1 x2 x3 (seqK (fun ρ => evLoop (evC T (env k) k syntax_Right.u3.c) [3, 17, 18, 19] j ρ K) K)
      simp only [seqK_exit, seqK_ret, seqK_pan, seqK_normal, syntax_Right.u4.okl k K j] at h
      exact (evLoop_step (by kernel_rfl) h).trans (syntax_Right.u4.ls k (fun y0 => K .ret (frameL [(2, .bool y0)])) (fun y0 => K (.exit 0) (frameL [(3, .slice y0)])) j x0 x1 x2 x3).symm
theorem syntax_Right.u4.ok {α : Type} (k : Nat) (x0 : Sl) (x1 : Sl) (x2 : Int) (x3 : Int) (K : Ex → Frame → M α) :
    evC T (env k) k syntax_Right.u4.c (frameL [(3, .slice x0), (17, .slice x1), (18, .int .i64 x2), (19, .int .i64 x3)]) K =
      syntax_Right.u4.f k x0 x1 x2 x3 (fun y0 => K .ret (frameL [(2, .bool y0)])) (fun y0 => K (.exit 0) (frameL [(3, .slice y0)])) :=
  evC_loop.trans <| (evLoop_keep (body := evC T (env k) k syntax_Right.u3.c) (keep := [3, 17, 18, 19]) (ρ := (frameL [(3, .slice x0), (17, .slice x1), (18, .int .i64 x2), (19, .int .i64 x3)])) (ρ' := (frameL [(3, .slice x0), (17, .slice x1), (18, .int .i64 x2), (19, .int .i64 x3)])) (by kernel_rfl) k K).trans (syntax_Right.u4.okl k K k x0 x1 x2 x3)
theorem syntax_Right.u5.ok {α : Type} (k : Nat) (x0 : Sl) (x1 : Sl) (x2 : Int) (x3 : Int) (K : Ex → Frame → M α) :
    evC T (env k) k syntax_Right.u5.c (frameL [(3, .slice x0), (17, .slice x1), (18, .int .i64 x2), (19, .int .i64 x3)]) K =
      syntax_Right.u5.f k x0 x1 x2 x3 (fun y0 => K .normal (frameL [(3, .slice y0)])) (fun y0 => K .ret (frameL [(2, .bool y0)])) :=
  (evC_block.trans (syntax_Right.u4.ok k x0 x1 x2 x3 (blockK 0 K))).trans (by kernel_rfl)
theorem syntax_Right.u6.ok {α : Type} (k : Nat) (x0 : Sl) (x1 : Sl) (K : Ex → Frame → M α) :
    evC T (env k) k syntax_Right.u6.c (frameL [(0, .slice x0), (3, .slice x1)]) K =
      syntax_Right.u6.f k x0 x1 (fun y0 => K .normal (frameL [(3, .slice y0)])) (fun y0 => K .ret (frameL [(2, .bool y0)])) :=
  (syntax_Right.u2.ok k x0 x1 syntax_Right.u5.c K).trans
    (congrArg (fun z => syntax_Right.u2.f k x0 x1 z) (funext fun y0 => (funext fun y1 => (funext fun y2 => (funext fun y3 => syntax_Right.u5.ok k y0 y1 y2 y3 K)))))
theorem syntax_Right.u7.ok {α : Type} (k : Nat) (x0 : Sl) (K : Ex → Frame → M α) :
    evC T (env k) k syntax_Right.u7.c (frameL [(3, .slice x0)]) K =
      syntax_Right.u7.f k x0 (fun y0 => K .ret (frameL [(2, .bool y0)])) := by kernel_rfl
theorem syntax_Right.u8.ok {α : Type} (k : Nat) (x0 : Sl) (x1 : Sl) (K : Ex → Frame → M α) :
    evC T (env k) k syntax_Right.u8.c (frameL [(0, .slice x0), (3, .slice x1)]) K =
      syntax_Right.u8.f k x0 x1 (fun y0 => K .ret (frameL [(2, .bool y0)])) :=
  by
    have h := syntax_Right.u6.ok k x0 x1 (seqK (fun ρ => evC T (env k) k syntax_Right.u7.c ρ K) K)
    simp only [seqK_normal, seqK_exit, seqK_ret, seqK_pan, syntax_Right.u7.ok] at h
    exact evC_seq_of h
theorem syntax_Right.u9.ok {α : Type} (k : Nat) (x0 : Sl) (K : Ex → Frame → M α) :
    evC T (env k) k syntax_Right.u9.c (frameL [(0, .slice x0)]) K =
      syntax_Right.u9.f k x0 (fun y0 => K .ret (frameL [(2, .bool y0)])) :=
  (syntax_Right.u1.ok k x0 syntax_Right.u8.c K).trans
    (congrArg (fun z => syntax_Right.u1.f k x0 z (fun y0 => K .ret (frameL [(2, .bool y0)]))) (funext fun y0 => (funext fun y1 => syntax_Right.u8.ok k y0 y1 K)))
theorem syntax_Right.ok {α : Type} (k : Nat) (x0 : Sl) (κ : Res → M α) :
    evF T (env k) k syntax_Right.c syntax_Right.res [.slice x0] κ = syntax_Right.f (k + 1) x0 (fun o0 => κ (.ret (.bool o0))) :=
  (syntax_Right.u9.ok k x0 (retK T syntax_Right.res κ)).trans (by kernel_rfl)
theorem syntax_Right.code : syntax_Right.c.code = bodyOf Try.f19 := by kernel_rfl

noncomputable def bind_walk_find.c : IC := bind_walk_find.u9.c
noncomputable def bind_walk_find.res : List ResultVar := [(.cell 4 97), (.tmp 5)]
theorem bind_walk_find.u1.ok {α : Type} (k : Nat) (x0 : Ad) (x1 : List UInt8) (R : IC) (K : Ex → Frame → M α) :
    evC T (env k) k (bind_walk_find.u1.c R) (frameL [(0, .ptr (some x0)), (1, .str x1)]) K =
      bind_walk_find.u1.f k x0 x1 (fun y0 y1 y2 => evC T (env k) k R (frameL [(0, .ptr (some y0)), (1, .str y1), (4, .ptr (some y2))]) K) := by kernel_rfl
theorem bind_walk_find.u2.ok {α : Type} (k : Nat) (x0 : Ad) (x1 : List UInt8) (x2 : Ad) (R : IC) (K : Ex → Frame → M α) :
    evC T (env k) k (bind_walk_find.u2.c R) (frameL [(0, .ptr (some x0)), (1, .str x1), (4, .ptr (some x2))]) K =
      bind_walk_find.u2.f k x0 x1 x2 (fun y0 y1 y2 y3 => evC T (env k) k R (frameL [(0, .ptr (some y0)), (1, .str y1), (4, .ptr (some y2)), (6, .int .i64 y3)]) K) := by kernel_rfl
theorem bind_walk_find.u3.ok {α : Type} (k : Nat) (x0 : Ad) (x1 : List UInt8) (x2 : Ad) (x3 : Int) (K : Ex → Frame → M α) :
    evC T (env k) k bind_walk_find.u3.c (frameL [(0, .ptr (some x0)), (1, .str x1), (4, .ptr (some x2)), (6, .int .i64 x3)]) K =
      bind_walk_find.u3.f k x0 x1 x2 x3 (fun y0 y1 y2 y3 => K .normal (frameL [(0, .ptr (some y0)), (1, .str y1), (4, .ptr (some y2)), (6, .int .i64 y3)])) (fun y0 y1 => K .ret (frameL [(4, .ptr (some y0)), (5, .bool y1)])) (fun y0 => K (.exit 0) (frameL [(4, .ptr (some y0))])) := by kernel_rfl
theorem bind_walk_find.u4.ls {α : Type} (k : Nat) (kr : Ad → Bool → M α) (kx0 : Ad → M α) (j : Nat) (x0 : Ad) (x1 : List UInt8) (x2 : Ad) (x3 : Int) : bind_walk_find.u4.l k kr kx0 (j + 1) x0 x1 x2 x3 =
  bind_walk_find.u3.f k x0 x1 x2 x3 (fun y0 y1 y2 y3 => bind_walk_find.u4.l k kr kx0 j y0 y1 y2 y3) kr kx0 := rfl
theorem bind_walk_find.u4.okl {α : Type} (k : Nat) (K : Ex → Frame → M α) : ∀ (j : Nat) (x0 : Ad) (x1 : List UInt8) (x2 : Ad) (x3 : Int),
    evLoop (evC T (env k) k bind_walk_find.u3.c) [0, 1, 4, 6] j (frameL [(0, .ptr (some x0)), (1, .str x1), (4, .ptr (some x2)), (6, .int .i64 x3)]) K = bind_walk_find.u4.l k (fun y0 y1 => K .ret (frameL [(4, .ptr (some y0)), (5, .bool y1)])) (fun y0 => K (.exit 0) (frameL [(4, .ptr (some y0))])) j x0 x1 x2 x3
  | 0, _, _, _, _ => rfl
  | j + 1, x0, x1, x2, x3 => by
      have h := bind_walk_find.u3.ok k x0 x1 x2 x3 (seqK (fun ρ => evLoop (evC T (env k) k bind_walk_find.u3.c) [0, 1, 4, 6] j ρ K) K)
      simp only [seqK_exit, seqK_ret, seqK_pan, seqK_normal, bind_walk_find.u4.okl k K j] at h
      exact (evLoop_step (by kernel_rfl) h).trans (bind_walk_find.u4.ls k (fun y0 y1 => K .ret (frameL [(4, .ptr (some y0)), (5, .bool y1)])) (fun y0 => K (.exit 0) (frameL [(4, .ptr (some y0))])) j x0 x1 x2 x3).symm
theorem bind_walk_find.u4.ok {α : Type} (k : Nat) (x0 : Ad) (x1 : List UInt8) (x2 : Ad) (x3 : Int) (K : Ex → Frame → M α) :
    evC T (env k) k bind_walk_find.u4.c (frameL [(0, .ptr (some x0)), (1, .str x1), (4, .ptr (some x2)), (6, .int .i64 x3)]) K =
      bind_walk_find.u4.f k x0 x1 x2 x3 (fun y0 y1 => K .ret (frameL [(4, .ptr (some y0)), (5, .bool y1)])) (fun y0 => K (.exit 0) (frameL [(4, .ptr (some y0))])) :=
  evC_loop.trans <| (evLoop_keep (body := evC T (env k) k bind_walk_find.u3.c) (keep := [0, 1, 4, 6]) (ρ := (frameL [(0, .ptr (some x0)), (1, .str x1), (4, .ptr (some x2)), (6, .int .i64 x3)])) (ρ' := (frameL [(0, .ptr (some x0)), (1, .str x1), (4, .ptr (some x2)), (6, .int .i64 x3)])) (by kernel_rfl) k K).trans (bind_walk_find.u4.okl k K k x0 x1 x2 x3)
theorem bind_walk_find.u5.ok {α : Type} (k : Nat) (x0 : Ad) (x1 : List UInt8) (x2 : Ad) (x3 : Int) (K : Ex → Frame → M α) :
    evC T (env k) k bind_walk_find.u5.c (frameL [(0, .ptr (some x0)), (1, .str x1), (4, .ptr (some x2)), (6, .int .i64 x3)]) K =
      bind_walk_find.u5.f k x0 x1 x2 x3 (fun y0 => K .normal (frameL [(4, .ptr (some y0))])) (fun y0 y1 => K .ret (frameL [(4, .ptr (some y0)), (5, .bool y1)])) :=
  (evC_block.trans (bind_walk_find.u4.ok k x0 x1 x2 x3 (blockK 0 K))).trans (by kernel_rfl)
theorem bind_walk_find.u6.ok {α : Type} (k : Nat) (x0 : Ad) (x1 : List UInt8) (x2 : Ad) (K : Ex → Frame → M α) :
    evC T (env k) k bind_walk_find.u6.c (frameL [(0, .ptr (some x0)), (1, .str x1), (4, .ptr (some x2))]) K =
      bind_walk_find.u6.f k x0 x1 x2 (fun y0 => K .normal (frameL [(4, .ptr (some y0))])) (fun y0 y1 => K .ret (frameL [(4, .ptr (some y0)), (5, .bool y1)])) :=
  (bind_walk_find.u2.ok k x0 x1 x2 bind_walk_find.u5.c K).trans
    (congrArg (fun z => bind_walk_find.u2.f k x0 x1 x2 z) (funext fun y0 => (funext fun y1 => (funext fun y2 => (funext fun y3 => bind_walk_find.u5.ok k y0 y1 y2 y3 K)))))
theorem bind_walk_find.u7.ok {α : Type} (k : Nat) (x0 : Ad) (K : Ex → Frame → M α) :
    evC T (env k) k bind_walk_find.u7.c (frameL [(4, .ptr (some x0))]) K =
      bind_walk_find.u7.f k x0 (fun y0 y1 => K .ret (frameL [(4, .ptr (some y0)), (5, .bool y1)])) := by kernel_rfl
theorem bind_walk_find.u8.ok {α : Type} (k : Nat) (x0 : Ad) (x1 : List UInt8) (x2 : Ad) (K : Ex → Frame → M α) :
    evC T (env k) k bind_walk_find.u8.c (frameL [(0, .ptr (some x0)), (1, .str x1), (4, .ptr (some x2))]) K =
      bind_walk_find.u8.f k x0 x1 x2 (fun y0 y1 => K .ret (frameL [(4, .ptr (some y0)), (5, .bool y1)])) :=
  by
    have h := bind_walk_find.u6.ok k x0 x1 x2 (seqK (fun ρ => evC T (env k) k bind_walk_find.u7.c ρ K) K)
    simp only [seqK_normal, seqK_exit, seqK_ret, seqK_pan, bind_walk_find.u7.ok] at h
    exact evC_seq_of h
theorem bind_walk_find.u9.ok {α : Type} (k : Nat) (x0 : Ad) (x1 : List UInt8) (K : Ex → Frame → M α) :
    evC T (env k) k bind_walk_find.u9.c (frameL [(0, .ptr (some x0)), (1, .str x1)]) K =
      bind_walk_find.u9.f k x0 x1 (fun y0 y1 => K .ret (frameL [(4, .ptr (some y0)), (5, .bool y1)])) :=
  (bind_walk_find.u1.ok k x0 x1 bind_walk_find.u8.c K).trans
    (congrArg (fun z => bind_walk_find.u1.f k x0 x1 z) (funext fun y0 => (funext fun y1 => (funext fun y2 => bind_walk_find.u8.ok k y0 y1 y2 K))))
theorem bind_walk_find.ok {α : Type} (k : Nat) (x0 : Ad) (x1 : List UInt8) (κ : Res → M α) :
    evF T (env k) k bind_walk_find.c bind_walk_find.res [.ptr (some x0), .str x1] κ = bind_walk_find.f (k + 1) x0 x1 (fun o0 o1 o2 => κ (.ret (.tuple [.agg [.int .i64 o0, .int .i64 o1], .bool o2]))) :=
  (bind_walk_find.u9.ok k x0 x1 (retK T bind_walk_find.res κ)).trans (by kernel_rfl)
theorem bind_walk_find.code : bind_walk_find.c.code = bodyOf Try.f64 := by kernel_rfl

noncomputable def bind_walk_node.c : IC := bind_walk_node.u22.c
noncomputable def bind_walk_node.res : List ResultVar := []
theorem bind_walk_node.u1.ok {α : Type} (k : Nat) (x0 : Ad) (x1 : Int) (R : IC) (K : Ex → Frame → M α) :
    evC T (env k) k (bind_walk_node.u1.c R) (frameL [(0, .ptr (some x0)), (1, .int .i64 x1)]) K =
      bind_walk_node.u1.f k x0 x1 (fun y0 y1 y2 y3 => evC T (env k) k R (frameL [(0, .ptr (some y0)), (1, .int .i64 y1), (4, .ptr (some y2)), (15, .int .i64 y3)]) K) := by kernel_rfl
theorem bind_walk_node.u2.ok {α : Type} (k : Nat) (x0 : Ad) (x1 : Int) (x2 : Ad) (x3 : Int) (R : IC) (K : Ex → Frame → M α) :
    evC T (env k) k (bind_walk_node.u2.c R) (frameL [(0, .ptr (some x0)), (1, .int .i64 x1), (4, .ptr (some x2)), (15, .int .i64 x3)]) K =
      bind_walk_node.u2.f k x0 x1 x2 x3 (fun y0 y1 y2 y3 y4 => evC T (env k) k R (frameL [(0, .ptr (some y0)), (1, .int .i64 y1), (4, .ptr (some y2)), (15, .int .i64 y3), (16, .bool y4)]) K) := by kernel_rfl
theorem bind_walk_node.u3.ok {α : Type} (k : Nat) (x0 : Ad) (x1 : Int) (x2 : Ad) (x3 : Int) (x4 : Bool) (K : Ex → Frame → M α) :
    evC T (env k) k bind_walk_node.u3.c (frameL [(0, .ptr (some x0)), (1, .int .i64 x1), (4, .ptr (some x2)), (15, .int .i64 x3), (16, .bool x4)]) K =
      bind_walk_node.u3.f k x0 x1 x2 x3 x4 (K .normal (frameL [])) := by kernel_rfl
theorem bind_walk_node.u4.ok {α : Type} (k : Nat) (x0 : Ad) (x1 : Int) (x2 : Ad) (x3 : Int) (x4 : Bool) (R : IC) (K : Ex → Frame → M α) :
    evC T (env k) k (bind_walk_node.u4.c R) (frameL [(0, .ptr (some x0)), (1, .int .i64 x1), (4, .ptr (some x2)), (15, .int .i64 x3), (16, .bool x4)]) K =
      bind_walk_node.u4.f k x0 x1 x2 x3 x4 (fun y0 y1 y2 y3 y4 => evC T (env k) k R (frameL [(0, .ptr (some y0)), (1, .int .i64 y1), (4, .ptr (some y2)), (15, .int .i64 y3), (49, .bool y4)]) K) := by kernel_rfl
theorem bind_walk_node.u5.ok {α : Type} (k : Nat) (x0 : Ad) (x1 : Int) (x2 : Ad) (x3 : Int) (x4 : Bool) (K : Ex → Frame → M α) :
    evC T (env k) k bind_walk_node.u5.c (frameL [(0, .ptr (some x0)), (1, .int .i64 x1), (4, .ptr (some x2)), (15, .int .i64 x3), (49, .bool x4)]) K =
      bind_walk_node.u5.f k (bind_walk_node.f k) x0 x1 x2 x3 x4 (K .normal (frameL [])) := by kernel_rfl
theorem bind_walk_node.u6.ok {α : Type} (k : Nat) (x0 : Ad) (x1 : Int) (x2 : Ad) (x3 : Int) (x4 : Bool) (R : IC) (K : Ex → Frame → M α) :
    evC T (env k) k (bind_walk_node.u6.c R) (frameL [(0, .ptr (some x0)), (1, .int .i64 x1), (4, .ptr (some x2)), (15, .int .i64 x3), (49, .bool x4)]) K =
      bind_walk_node.u6.f k x0 x1 x2 x3 x4 (fun y0 y1 y2 y3 y4 => evC T (env k) k R (frameL [(0, .ptr (some y0)), (1, .int .i64 y1), (4, .ptr (some y2)), (15, .int .i64 y3), (83, .bool y4)]) K) := by kernel_rfl
theorem bind_walk_node.u7.ok {α : Type} (k : Nat) (x0 : Ad) (x1 : Int) (x2 : Ad) (x3 : Int) (x4 : Bool) (K : Ex → Frame → M α) :
    evC T (env k) k bind_walk_node.u7.c (frameL [(0, .ptr (some x0)), (1, .int .i64 x1), (4, .ptr (some x2)), (15, .int .i64 x3), (83, .bool x4)]) K =
      bind_walk_node.u7.f k (bind_walk_node.f k) x0 x1 x2 x3 x4 (K .normal (frameL [])) := by kernel_rfl
theorem bind_walk_node.u8.ok {α : Type} (k : Nat) (x0 : Ad) (x1 : Int) (x2 : Ad) (x3 : Int) (x4 : Bool) (R : IC) (K : Ex → Frame → M α) :
    evC T (env k) k (bind_walk_node.u8.c R) (frameL [(0, .ptr (some x0)), (1, .int .i64 x1), (4, .ptr (some x2)), (15, .int .i64 x3), (83, .bool x4)]) K =
      bind_walk_node.u8.f k x0 x1 x2 x3 x4 (fun y0 y1 y2 y3 y4 => evC T (env k) k R (frameL [(0, .ptr (some y0)), (1, .int .i64 y1), (4, .ptr (some y2)), (15, .int .i64 y3), (104, .bool y4)]) K) := by kernel_rfl
theorem bind_walk_node.u9.ok {α : Type} (k : Nat) (x0 : Ad) (x1 : Int) (x2 : Ad) (x3 : Int) (x4 : Bool) (K : Ex → Frame → M α) :
    evC T (env k) k bind_walk_node.u9.c (frameL [(0, .ptr (some x0)), (1, .int .i64 x1), (4, .ptr (some x2)), (15, .int .i64 x3), (104, .bool x4)]) K =
      bind_walk_node.u9.f k (bind_walk_node.f k) x0 x1 x2 x3 x4 (K .normal (frameL [])) := by kernel_rfl
theorem bind_walk_node.u10.ok {α : Type} (k : Nat) (x0 : Ad) (x1 : Int) (x2 : Ad) (x3 : Int) (x4 : Bool) (R : IC) (K : Ex → Frame → M α) :
    evC T (env k) k (bind_walk_node.u10.c R) (frameL [(0, .ptr (some x0)), (1, .int .i64 x1), (4, .ptr (some x2)), (15, .int .i64 x3), (104, .bool x4)]) K =
      bind_walk_node.u10.f k x0 x1 x2 x3 x4 (fun y0 y1 y2 y3 => evC T (env k) k R (frameL [(0, .ptr (some y0)), (1, .int .i64 y1), (4, .ptr (some y2)), (138, .bool y3)]) K) := by kernel_rfl
theorem bind_walk_node.u11.ok {α : Type} (k : Nat) (x0 : Ad) (x1 : Int) (x2 : Ad) (x3 : Bool) (K : Ex → Frame → M α) :
    evC T (env k) k bind_walk_node.u11.c (frameL [(0, .ptr (some x0)), (1, .int .i64 x1), (4, .ptr (some x2)), (138, .bool x3)]) K =
      bind_walk_node.u11.f k (bind_walk_node.f k) x0 x1 x2 x3 (K .normal (frameL [])) := by kernel_rfl
theorem bind_walk_node.u12.ok {α : Type} (k : Nat) (x0 : Ad) (x1 : Int) (x2 : Ad) (x3 : Int) (x4 : Bool) (K : Ex → Frame → M α) :
    evC T (env k) k bind_walk_node.u12.c (frameL [(0, .ptr (some x0)), (1, .int .i64 x1), (4, .ptr (some x2)), (15, .int .i64 x3), (104, .bool x4)]) K =
      bind_walk_node.u12.f k (bind_walk_node.f k) x0 x1 x2 x3 x4 (K .normal (frameL [])) :=
  (bind_walk_node.u10.ok k x0 x1 x2 x3 x4 bind_walk_node.u11.c K).trans
    (congrArg (fun z => bind_walk_node.u10.f k x0 x1 x2 x3 x4 z) (funext fun y0 => (funext fun y1 => (funext fun y2 => (funext fun y3 => bind_walk_node.u11.ok k y0 y1 y2 y3 K)))))
theorem bind_walk_node.u13.ok {α : Type} (k : Nat) (x0 : Ad) (x1 : Int) (x2 : Ad) (x3 : Int) (x4 : Bool) (K : Ex → Frame → M α) :
    evC T (env k) k bind_walk_node.u13.c (frameL [(0, .ptr (some x0)), (1, .int .i64 x1), (4, .ptr (some x2)), (15, .int .i64 x3), (104, .bool x4)]) K =
      bind_walk_node.u13.f k (bind_walk_node.f k) x0 x1 x2 x3 x4 (K .normal (frameL [])) :=
  evC_cond_run (g := x4) (by kernel_rfl) (bind_walk_node.u9.ok k x0 x1 x2 x3 x4 K) (bind_walk_node.u12.ok k x0 x1 x2 x3 x4 K)
theorem bind_walk_node.u14.ok {α : Type} (k : Nat) (x0 : Ad) (x1 : Int) (x2 : Ad) (x3 : Int) (x4 : Bool) (K : Ex → Frame → M α) :
    evC T (env k) k bind_walk_node.u14.c (frameL [(0, .ptr (some x0)), (1, .int .i64 x1), (4, .ptr (some x2)), (15, .int .i64 x3), (83, .bool x4)]) K =
      bind_walk_node.u14.f k (bind_walk_node.f k) x0 x1 x2 x3 x4 (K .normal (frameL [])) :=
  (bind_walk_node.u8.ok k x0 x1 x2 x3 x4 bind_walk_node.u13.c K).trans
    (congrArg (fun z => bind_walk_node.u8.f k x0 x1 x2 x3 x4 z) (funext fun y0 => (funext fun y1 => (funext fun y2 => (funext fun y3 => (funext fun y4 => bind_walk_node.u13.ok k y0 y1 y2 y3 y4 K))))))
theorem bind_walk_node.u15.ok {α : Type} (k : Nat) (x0 : Ad) (x1 : Int) (x2 : Ad) (x3 : Int) (x4 : Bool) (K : Ex → Frame → M α) :
    evC T (env k) k bind_walk_node.u15.c (frameL [(0, .ptr (some x0)), (1, .int .i64 x1), (4, .ptr (some x2)), (15, .int .i64 x3), (83, .bool x4)]) K =
      bind_walk_node.u15.f k (bind_walk_node.f k) x0 x1 x2 x3 x4 (K .normal (frameL [])) :=
  evC_cond_run (g := x4) (by kernel_rfl) (bind_walk_node.u7.ok k x0 x1 x2 x3 x4 K) (bind_walk_node.u14.ok k x0 x1 x2 x3 x4 K)
theorem bind_walk_node.u16.ok {α : Type} (k : Nat) (x0 : Ad) (x1 : Int) (x2 : Ad) (x3 : Int) (x4 : Bool) (K : Ex → Frame → M α) :
    evC T (env k) k bind_walk_node.u16.c (frameL [(0, .ptr (some x0)), (1, .int .i64 x1), (4, .ptr (some x2)), (15, .int .i64 x3), (49, .bool x4)]) K =
      bind_walk_node.u16.f k (bind_walk_node.f k) x0 x1 x2 x3 x4 (K .normal (frameL [])) :=
  (bind_walk_node.u6.ok k x0 x1 x2 x3 x4 bind_walk_node.u15.c K).trans
    (congrArg (fun z => bind_walk_node.u6.f k x0 x1 x2 x3 x4 z) (funext fun y0 => (funext fun y1 => (funext fun y2 => (funext fun y3 => (funext fun y4 => bind_walk_node.u15.ok k y0 y1 y2 y3 y4 K))))))
theorem bind_walk_node.u17.ok {α : Type} (k : Nat) (x0 : Ad) (x1 : Int) (x2 : Ad) (x3 : Int) (x4 : Bool) (K : Ex → Frame → M α) :
    evC T (env k) k bind_walk_node.u17.c (frameL [(0, .ptr (some x0)), (1, .int .i64 x1), (4, .ptr (some x2)), (15, .int .i64 x3), (49, .bool x4)]) K =
      bind_walk_node.u17.f k (bind_walk_node.f k) x0 x1 x2 x3 x4 (K .normal (frameL [])) :=
  evC_cond_run (g := x4) (by kernel_rfl) (bind_walk_node.u5.ok k x0 x1 x2 x3 x4 K) (bind_walk_node.u16.ok k x0 x1 x2 x3 x4 K)
theorem bind_walk_node.u18.ok {α : Type} (k : Nat) (x0 : Ad) (x1 : Int) (x2 : Ad) (x3 : Int) (x4 : Bool) (K : Ex → Frame → M α) :
    evC T (env k) k bind_walk_node.u18.c (frameL [(0, .ptr (some x0)), (1, .int .i64 x1), (4, .ptr (some x2)), (15, .int .i64 x3), (16, .bool x4)]) K =
      bind_walk_node.u18.f k (bind_walk_node.f k) x0 x1 x2 x3 x4 (K .normal (frameL [])) :=
  (bind_walk_node.u4.ok k x0 x1 x2 x3 x4 bind_walk_node.u17.c K).trans
    (congrArg (fun z => bind_walk_node.u4.f k x0 x1 x2 x3 x4 z) (funext fun y0 => (funext fun y1 => (funext fun y2 => (funext fun y3 => (funext fun y4 => bind_walk_node.u17.ok k y0 y1 y2 y3 y4 K))))))
theorem bind_walk_node.u19.ok {α : Type} (k : Nat) (x0 : Ad) (x1 : Int) (x2 : Ad) (x3 : Int) (x4 : Bool) (K : Ex → Frame → M α) :
    evC T (env k) k bind_walk_node.u19.c (frameL [(0, .ptr (some x0)), (1, .int .i64 x1), (4, .ptr (some x2)), (15, .int .i64 x3), (16, .bool x4)]) K =
      bind_walk_node.u19.f k (bind_walk_node.f k) x0 x1 x2 x3 x4 (K .normal (frameL [])) :=
  evC_cond_run (g := x4) (by kernel_rfl) (bind_walk_node.u3.ok k x0 x1 x2 x3 x4 K) (bind_walk_node.u18.ok k x0 x1 x2 x3 x4 K)
theorem bind_walk_node.u20.ok {α : Type} (k : Nat) (x0 : Ad) (x1 : Int) (x2 : Ad) (x3 : Int) (K : Ex → Frame → M α) :
    evC T (env k) k bind_walk_node.u20.c (frameL [(0, .ptr (some x0)), (1, .int .i64 x1), (4, .ptr (some x2)), (15, .int .i64 x3)]) K =
      bind_walk_node.u20.f k (bind_walk_node.f k) x0 x1 x2 x3 (K .normal (frameL [])) :=
  (bind_walk_node.u2.ok k x0 x1 x2 x3 bind_walk_node.u19.c K).trans
    (congrArg (fun z => bind_walk_node.u2.f k x0 x1 x2 x3 z) (funext fun y0 => (funext fun y1 => (funext fun y2 => (funext fun y3 => (funext fun y4 => bind_walk_node.u19.ok k y0 y1 y2 y3 y4 K))))))
theorem bind_walk_node.u21.ok {α : Type} (k : Nat) (x0 : Ad) (x1 : Int) (x2 : Ad) (x3 : Int) (K : Ex → Frame → M α) :
    evC T (env k) k bind_walk_node.u21.c (frameL [(0, .ptr (some x0)), (1, .int .i64 x1), (4, .ptr (some x2)), (15, .int .i64 x3)]) K =
      bind_walk_node.u21.f k (bind_walk_node.f k) x0 x1 x2 x3 (K .normal (frameL [])) :=
  (evC_block.trans (bind_walk_node.u20.ok k x0 x1 x2 x3 (blockK 0 K))).trans (by kernel_rfl)
theorem bind_walk_node.u22.ok {α : Type} (k : Nat) (x0 : Ad) (x1 : Int) (K : Ex → Frame → M α) :
    evC T (env k) k bind_walk_node.u22.c (frameL [(0, .ptr (some x0)), (1, .int .i64 x1)]) K =
      bind_walk_node.u22.f k (bind_walk_node.f k) x0 x1 (K .normal (frameL [])) :=
  (bind_walk_node.u1.ok k x0 x1 bind_walk_node.u21.c K).trans
    (congrArg (fun z => bind_walk_node.u1.f k x0 x1 z) (funext fun y0 => (funext fun y1 => (funext fun y2 => (funext fun y3 => bind_walk_node.u21.ok k y0 y1 y2 y3 K)))))
theorem bind_walk_node.ok {α : Type} (k : Nat) (x0 : Ad) (x1 : Int) (κ : Res → M α) :
    evF T (env k) k bind_walk_node.c bind_walk_node.res [.ptr (some x0), .int .i64 x1] κ = bind_walk_node.f (k + 1) x0 x1 (κ (.ret (.tuple []))) :=
  (bind_walk_node.u22.ok k x0 x1 (retK T bind_walk_node.res κ)).trans (by kernel_rfl)
theorem bind_walk_node.code : bind_walk_node.c.code = bodyOf Try.f50 := by kernel_rfl

noncomputable def bind_walked.c : IC := bind_walked.u9.c
noncomputable def bind_walked.res : List ResultVar := [(.tmp 2)]
theorem bind_walked.u1.ok {α : Type} (k : Nat) (x0 : Sl) (R : IC) (K : Ex → Frame → M α) :
    evC T (env k) k (bind_walked.u1.c R) (frameL [(0, .slice x0)]) K =
      bind_walked.u1.f k x0 (fun y0 y1 => evC T (env k) k R (frameL [(0, .slice y0), (3, .ptr (some y1))]) K) := by kernel_rfl
theorem bind_walked.u2.ok {α : Type} (k : Nat) (x0 : Sl) (x1 : Ad) (R : IC) (K : Ex → Frame → M α) :
    evC T (env k) k (bind_walked.u2.c R) (frameL [(0, .slice x0), (3, .ptr (some x1))]) K =
      bind_walked.u2.f k x0 x1 (fun y0 y1 y2 y3 => evC T (env k) k R (frameL [(0, .slice y0), (3, .ptr (some y1)), (21, .int .i64 y2), (22, .int .i64 y3)]) K) := by kernel_rfl
theorem bind_walked.u3.ok {α : Type} (k : Nat) (x0 : Sl) (x1 : Ad) (x2 : Int) (x3 : Int) (K : Ex → Frame → M α) :
    evC T (env k) k bind_walked.u3.c (frameL [(0, .slice x0), (3, .ptr (some x1)), (21, .int .i64 x2), (22, .int .i64 x3)]) K =
      bind_walked.u3.f k x0 x1 x2 x3 (fun y0 y1 y2 y3 => K .normal (frameL [(0, .slice y0), (3, .ptr (some y1)), (21, .int .i64 y2), (22, .int .i64 y3)])) (fun y0 y1 => K (.exit 0) (frameL [(0, .slice y0), (3, .ptr (some y1))])) := by kernel_rfl
theorem bind_walked.u4.ls {α : Type} (k : Nat) (kx0 : Sl → Ad → M α) (j : Nat) (x0 : Sl) (x1 : Ad) (x2 : Int) (x3 : Int) : bind_walked.u4.l k kx0 (j + 1) x0 x1 x2 x3 =
  bind_walked.u3.f k x0 x1 x2 x3 (fun y0 y1 y2 y3 => bind_walked.u4.l k kx0 j y0 y1 y2 y3) kx0 := rfl
theorem bind_walked.u4.okl {α : Type} (k : Nat) (K : Ex → Frame → M α) : ∀ (j : Nat) (x0 : Sl) (x1 : Ad) (x2 : Int) (x3 : Int),
    evLoop (evC T (env k) k bind_walked.u3.c) [0, 3, 21, 22] j (frameL [(0, .slice x0), (3, .ptr (some x1)), (21, .int .i64 x2), (22, .int .i64 x3)]) K = bind_walked.u4.l k (fun y0 y1 => K (.exit 0) (frameL [(0, .slice y0), (3, .ptr (some y1))])) j x0 x1 x2 x3
  | 0, _, _, _, _ => rfl
  | j + 1, x0, x1, x2, x3 => by
      have h := bind_walked.u3.ok k x0 x1 x2 x3 (seqK (fun ρ => evLoop (evC T (env k) k bind_walked.u3.c) [0, 3, 21, 22] j ρ K) K)
      simp only [seqK_exit, seqK_ret, seqK_pan, seqK_normal, bind_walked.u4.okl k K j] at h
      exact (evLoop_step (by kernel_rfl) h).trans (bind_walked.u4.ls k (fun y0 y1 => K (.exit 0) (frameL [(0, .slice y0), (3, .ptr (some y1))])) j x0 x1 x2 x3).symm
theorem bind_walked.u4.ok {α : Type} (k : Nat) (x0 : Sl) (x1 : Ad) (x2 : Int) (x3 : Int) (K : Ex → Frame → M α) :
    evC T (env k) k bind_walked.u4.c (frameL [(0, .slice x0), (3, .ptr (some x1)), (21, .int .i64 x2), (22, .int .i64 x3)]) K =
      bind_walked.u4.f k x0 x1 x2 x3 (fun y0 y1 => K (.exit 0) (frameL [(0, .slice y0), (3, .ptr (some y1))])) :=
  evC_loop.trans <| (evLoop_keep (body := evC T (env k) k bind_walked.u3.c) (keep := [0, 3, 21, 22]) (ρ := (frameL [(0, .slice x0), (3, .ptr (some x1)), (21, .int .i64 x2), (22, .int .i64 x3)])) (ρ' := (frameL [(0, .slice x0), (3, .ptr (some x1)), (21, .int .i64 x2), (22, .int .i64 x3)])) (by kernel_rfl) k K).trans (bind_walked.u4.okl k K k x0 x1 x2 x3)
theorem bind_walked.u5.ok {α : Type} (k : Nat) (x0 : Sl) (x1 : Ad) (x2 : Int) (x3 : Int) (K : Ex → Frame → M α) :
    evC T (env k) k bind_walked.u5.c (frameL [(0, .slice x0), (3, .ptr (some x1)), (21, .int .i64 x2), (22, .int .i64 x3)]) K =
      bind_walked.u5.f k x0 x1 x2 x3 (fun y0 y1 => K .normal (frameL [(0, .slice y0), (3, .ptr (some y1))])) :=
  (evC_block.trans (bind_walked.u4.ok k x0 x1 x2 x3 (blockK 0 K))).trans (by kernel_rfl)
theorem bind_walked.u6.ok {α : Type} (k : Nat) (x0 : Sl) (x1 : Ad) (K : Ex → Frame → M α) :
    evC T (env k) k bind_walked.u6.c (frameL [(0, .slice x0), (3, .ptr (some x1))]) K =
      bind_walked.u6.f k x0 x1 (fun y0 y1 => K .normal (frameL [(0, .slice y0), (3, .ptr (some y1))])) :=
  (bind_walked.u2.ok k x0 x1 bind_walked.u5.c K).trans
    (congrArg (fun z => bind_walked.u2.f k x0 x1 z) (funext fun y0 => (funext fun y1 => (funext fun y2 => (funext fun y3 => bind_walked.u5.ok k y0 y1 y2 y3 K)))))
theorem bind_walked.u7.ok {α : Type} (k : Nat) (x0 : Sl) (x1 : Ad) (K : Ex → Frame → M α) :
    evC T (env k) k bind_walked.u7.c (frameL [(0, .slice x0), (3, .ptr (some x1))]) K =
      bind_walked.u7.f k x0 x1 (fun y0 => K .ret (frameL [(2, .ptr (some y0))])) := by kernel_rfl
theorem bind_walked.u8.ok {α : Type} (k : Nat) (x0 : Sl) (x1 : Ad) (K : Ex → Frame → M α) :
    evC T (env k) k bind_walked.u8.c (frameL [(0, .slice x0), (3, .ptr (some x1))]) K =
      bind_walked.u8.f k x0 x1 (fun y0 => K .ret (frameL [(2, .ptr (some y0))])) :=
  by
    have h := bind_walked.u6.ok k x0 x1 (seqK (fun ρ => evC T (env k) k bind_walked.u7.c ρ K) K)
    simp only [seqK_normal, seqK_exit, seqK_ret, seqK_pan, bind_walked.u7.ok] at h
    exact evC_seq_of h
theorem bind_walked.u9.ok {α : Type} (k : Nat) (x0 : Sl) (K : Ex → Frame → M α) :
    evC T (env k) k bind_walked.u9.c (frameL [(0, .slice x0)]) K =
      bind_walked.u9.f k x0 (fun y0 => K .ret (frameL [(2, .ptr (some y0))])) :=
  (bind_walked.u1.ok k x0 bind_walked.u8.c K).trans
    (congrArg (fun z => bind_walked.u1.f k x0 z) (funext fun y0 => (funext fun y1 => bind_walked.u8.ok k y0 y1 K)))
theorem bind_walked.ok {α : Type} (k : Nat) (x0 : Sl) (κ : Res → M α) :
    evF T (env k) k bind_walked.c bind_walked.res [.slice x0] κ = bind_walked.f (k + 1) x0 (fun o0 => κ (.ret (.ptr (some o0)))) :=
  (bind_walked.u9.ok k x0 (retK T bind_walked.res κ)).trans (by kernel_rfl)
theorem bind_walked.code : bind_walked.c.code = bodyOf Try.f29 := by kernel_rfl

noncomputable def bind_fix.c : IC := bind_fix.u1.c
noncomputable def bind_fix.res : List ResultVar := [(.tmp 2)]
theorem bind_fix.u1.ok {α : Type} (k : Nat) (x0 : Int) (x1 : Int) (x2 : Int) (x3 : List UInt8) (x4 : Int) (K : Ex → Frame → M α) :
    evC T (env k) k bind_fix.u1.c (frameL [(0, .agg [.int .i64 x0, .int .i64 x1, .int .i64 x2, .str x3, .int .i64 x4])]) K =
      bind_fix.u1.f k x0 x1 x2 x3 x4 (fun y0 => K .ret (frameL [(2, .bool y0)])) := by kernel_rfl
theorem bind_fix.ok {α : Type} (k : Nat) (x0 : Int) (x1 : Int) (x2 : Int) (x3 : List UInt8) (x4 : Int) (κ : Res → M α) :
    evF T (env k) k bind_fix.c bind_fix.res [.agg [.int .i64 x0, .int .i64 x1, .int .i64 x2, .str x3, .int .i64 x4]] κ = bind_fix.f (k + 1) x0 x1 x2 x3 x4 (fun o0 => κ (.ret (.bool o0))) :=
  (bind_fix.u1.ok k x0 x1 x2 x3 x4 (retK T bind_fix.res κ)).trans (by kernel_rfl)
theorem bind_fix.code : bind_fix.c.code = bodyOf Try.f30 := by kernel_rfl

noncomputable def bind_Check.c : IC := bind_Check.u29.c
noncomputable def bind_Check.res : List ResultVar := [(.tmp 2), (.tmp 3)]
theorem bind_Check.u1.ok {α : Type} (k : Nat) (x0 : Sl) (R : IC) (K : Ex → Frame → M α) :
    evC T (env k) k (bind_Check.u1.c R) (frameL [(0, .slice x0)]) K =
      bind_Check.u1.f k x0 (fun y0 y1 y2 => evC T (env k) k R (frameL [(0, .slice y0), (4, .ptr (some y1)), (5, .map y2)]) K) (fun y0 y1 => K .ret (frameL [(2, .int .i64 y0), (3, .int .i64 y1)])) := by kernel_rfl
theorem bind_Check.u2.ok {α : Type} (k : Nat) (x0 : Sl) (x1 : Ad) (x2 : Option Nat) (R : IC) (K : Ex → Frame → M α) :
    evC T (env k) k (bind_Check.u2.c R) (frameL [(0, .slice x0), (4, .ptr (some x1)), (5, .map x2)]) K =
      bind_Check.u2.f k x0 x1 x2 (fun y0 y1 y2 y3 y4 => evC T (env k) k R (frameL [(4, .ptr (some y0)), (5, .map y1), (14, .slice y2), (15, .int .i64 y3), (16, .int .i64 y4)]) K) := by kernel_rfl
theorem bind_Check.u3.ok {α : Type} (k : Nat) (x0 : Ad) (x1 : Option Nat) (x2 : Sl) (x3 : Int) (x4 : Int) (R : IC) (K : Ex → Frame → M α) :
    evC T (env k) k (bind_Check.u3.c R) (frameL [(4, .ptr (some x0)), (5, .map x1), (14, .slice x2), (15, .int .i64 x3), (16, .int .i64 x4)]) K =
      bind_Check.u3.f k x0 x1 x2 x3 x4 (fun y0 y1 y2 y3 y4 => evC T (env k) k R (frameL [(4, .ptr (some y0)), (5, .map y1), (14, .slice y2), (15, .int .i64 y3), (16, .int .i64 y4)]) K) (K (.exit 0) (frameL [])) := by kernel_rfl
theorem bind_Check.u4.ok {α : Type} (k : Nat) (x0 : Ad) (x1 : Option Nat) (x2 : Sl) (x3 : Int) (x4 : Int) (R : IC) (K : Ex → Frame → M α) :
    evC T (env k) k (bind_Check.u4.c R) (frameL [(4, .ptr (some x0)), (5, .map x1), (14, .slice x2), (15, .int .i64 x3), (16, .int .i64 x4)]) K =
      bind_Check.u4.f k x0 x1 x2 x3 x4 (fun y0 y1 y2 y3 y4 y5 y6 => evC T (env k) k R (frameL [(4, .ptr (some y0)), (5, .map y1), (6, .int .i64 y2), (7, .ptr (some y3)), (14, .slice y4), (15, .int .i64 y5), (16, .int .i64 y6)]) K) := by kernel_rfl
theorem bind_Check.u5.ok {α : Type} (k : Nat) (x0 : Ad) (x1 : Option Nat) (x2 : Int) (x3 : Ad) (x4 : Sl) (x5 : Int) (x6 : Int) (R : IC) (K : Ex → Frame → M α) :
    evC T (env k) k (bind_Check.u5.c R) (frameL [(4, .ptr (some x0)), (5, .map x1), (6, .int .i64 x2), (7, .ptr (some x3)), (14, .slice x4), (15, .int .i64 x5), (16, .int .i64 x6)]) K =
      bind_Check.u5.f k x0 x1 x2 x3 x4 x5 x6 (fun y0 y1 y2 y3 y4 y5 y6 y7 => evC T (env k) k R (frameL [(4, .ptr (some y0)), (5, .map y1), (6, .int .i64 y2), (7, .ptr (some y3)), (14, .slice y4), (15, .int .i64 y5), (16, .int .i64 y6), (21, .bool y7)]) K) := by kernel_rfl
theorem bind_Check.u6.ok {α : Type} (k : Nat) (x0 : Ad) (x1 : Option Nat) (x2 : Int) (x3 : Ad) (x4 : Sl) (x5 : Int) (x6 : Int) (x7 : Bool) (K : Ex → Frame → M α) :
    evC T (env k) k bind_Check.u6.c (frameL [(4, .ptr (some x0)), (5, .map x1), (6, .int .i64 x2), (7, .ptr (some x3)), (14, .slice x4), (15, .int .i64 x5), (16, .int .i64 x6), (21, .bool x7)]) K =
      bind_Check.u6.f k x0 x1 x2 x3 x4 x5 x6 x7 (fun y0 y1 => K .ret (frameL [(2, .int .i64 y0), (3, .int .i64 y1)])) := by kernel_rfl
theorem bind_Check.u7.ok {α : Type} (k : Nat) (x0 : Ad) (x1 : Option Nat) (x2 : Int) (x3 : Ad) (x4 : Sl) (x5 : Int) (x6 : Int) (x7 : Bool) (R : IC) (K : Ex → Frame → M α) :
    evC T (env k) k (bind_Check.u7.c R) (frameL [(4, .ptr (some x0)), (5, .map x1), (6, .int .i64 x2), (7, .ptr (some x3)), (14, .slice x4), (15, .int .i64 x5), (16, .int .i64 x6), (21, .bool x7)]) K =
      bind_Check.u7.f k x0 x1 x2 x3 x4 x5 x6 x7 (fun y0 y1 y2 y3 y4 y5 y6 y7 => evC T (env k) k R (frameL [(4, .ptr (some y0)), (5, .map y1), (6, .int .i64 y2), (7, .ptr (some y3)), (14, .slice y4), (15, .int .i64 y5), (16, .int .i64 y6), (36, .bool y7)]) K) := by kernel_rfl
theorem bind_Check.u8.ok {α : Type} (k : Nat) (x0 : Ad) (x1 : Option Nat) (x2 : Int) (x3 : Ad) (x4 : Sl) (x5 : Int) (x6 : Int) (x7 : Bool) (K : Ex → Frame → M α) :
    evC T (env k) k bind_Check.u8.c (frameL [(4, .ptr (some x0)), (5, .map x1), (6, .int .i64 x2), (7, .ptr (some x3)), (14, .slice x4), (15, .int .i64 x5), (16, .int .i64 x6), (36, .bool x7)]) K =
      bind_Check.u8.f k x0 x1 x2 x3 x4 x5 x6 x7 (fun y0 y1 => K .ret (frameL [(2, .int .i64 y0), (3, .int .i64 y1)])) := by kernel_rfl
theorem bind_Check.u9.ok {α : Type} (k : Nat) (x0 : Ad) (x1 : Option Nat) (x2 : Int) (x3 : Ad) (x4 : Sl) (x5 : Int) (x6 : Int) (x7 : Bool) (R : IC) (K : Ex → Frame → M α) :
    evC T (env k) k (bind_Check.u9.c R) (frameL [(4, .ptr (some x0)), (5, .map x1), (6, .int .i64 x2), (7, .ptr (some x3)), (14, .slice x4), (15, .int .i64 x5), (16, .int .i64 x6), (36, .bool x7)]) K =
      bind_Check.u9.f k x0 x1 x2 x3 x4 x5 x6 x7 (fun y0 y1 y2 y3 y4 y5 y6 y7 => evC T (env k) k R (frameL [(4, .ptr (some y0)), (5, .map y1), (6, .int .i64 y2), (7, .ptr (some y3)), (14, .slice y4), (15, .int .i64 y5), (16, .int .i64 y6), (50, .bool y7)]) K) := by kernel_rfl
theorem bind_Check.u10.ok {α : Type} (k : Nat) (x0 : Ad) (x1 : Option Nat) (x2 : Int) (x3 : Ad) (x4 : Sl) (x5 : Int) (x6 : Int) (x7 : Bool) (K : Ex → Frame → M α) :
    evC T (env k) k bind_Check.u10.c (frameL [(4, .ptr (some x0)), (5, .map x1), (6, .int .i64 x2), (7, .ptr (some x3)), (14, .slice x4), (15, .int .i64 x5), (16, .int .i64 x6), (50, .bool x7)]) K =
      bind_Check.u10.f k x0 x1 x2 x3 x4 x5 x6 x7 (fun y0 y1 y2 y3 y4 y5 => K .normal (frameL [(4, .ptr (some y0)), (5, .map y1), (7, .ptr (some y2)), (14, .slice y3), (15, .int .i64 y4), (16, .int .i64 y5)])) (fun y0 y1 => K .ret (frameL [(2, .int .i64 y0), (3, .int .i64 y1)])) := by kernel_rfl
theorem bind_Check.u11.ok {α : Type} (k : Nat) (x0 : Ad) (x1 : Option Nat) (x2 : Int) (x3 : Ad) (x4 : Sl) (x5 : Int) (x6 : Int) (x7 : Bool) (K : Ex → Frame → M α) :
    evC T (env k) k bind_Check.u11.c (frameL [(4, .ptr (some x0)), (5, .map x1), (6, .int .i64 x2), (7, .ptr (some x3)), (14, .slice x4), (15, .int .i64 x5), (16, .int .i64 x6), (36, .bool x7)]) K =
      bind_Check.u11.f k x0 x1 x2 x3 x4 x5 x6 x7 (fun y0 y1 y2 y3 y4 y5 => K .normal (frameL [(4, .ptr (some y0)), (5, .map y1), (7, .ptr (some y2)), (14, .slice y3), (15, .int .i64 y4), (16, .int .i64 y5)])) (fun y0 y1 => K .ret (frameL [(2, .int .i64 y0), (3, .int .i64 y1)])) :=
  (bind_Check.u9.ok k x0 x1 x2 x3 x4 x5 x6 x7 bind_Check.u10.c K).trans
    (congrArg (fun z => bind_Check.u9.f k x0 x1 x2 x3 x4 x5 x6 x7 z) (funext fun y0 => (funext fun y1 => (funext fun y2 => (funext fun y3 => (funext fun y4 => (funext fun y5 => (funext fun y6 => (funext fun y7 => bind_Check.u10.ok k y0 y1 y2 y3 y4 y5 y6 y7 K)))))))))
theorem bind_Check.u12.ok {α : Type} (k : Nat) (x0 : Ad) (x1 : Option Nat) (x2 : Int) (x3 : Ad) (x4 : Sl) (x5 : Int) (x6 : Int) (x7 : Bool) (K : Ex → Frame → M α) :
    evC T (env k) k bind_Check.u12.c (frameL [(4, .ptr (some x0)), (5, .map x1), (6, .int .i64 x2), (7, .ptr (some x3)), (14, .slice x4), (15, .int .i64 x5), (16, .int .i64 x6), (36, .bool x7)]) K =
      bind_Check.u12.f k x0 x1 x2 x3 x4 x5 x6 x7 (fun y0 y1 y2 y3 y4 y5 => K .normal (frameL [(4, .ptr (some y0)), (5, .map y1), (7, .ptr (some y2)), (14, .slice y3), (15, .int .i64 y4), (16, .int .i64 y5)])) (fun y0 y1 => K .ret (frameL [(2, .int .i64 y0), (3, .int .i64 y1)])) :=
  evC_cond_run (g := x7) (by kernel_rfl) (bind_Check.u8.ok k x0 x1 x2 x3 x4 x5 x6 x7 K) (bind_Check.u11.ok k x0 x1 x2 x3 x4 x5 x6 x7 K)
theorem bind_Check.u13.ok {α : Type} (k : Nat) (x0 : Ad) (x1 : Option Nat) (x2 : Int) (x3 : Ad) (x4 : Sl) (x5 : Int) (x6 : Int) (x7 : Bool) (K : Ex → Frame → M α) :
    evC T (env k) k bind_Check.u13.c (frameL [(4, .ptr (some x0)), (5, .map x1), (6, .int .i64 x2), (7, .ptr (some x3)), (14, .slice x4), (15, .int .i64 x5), (16, .int .i64 x6), (21, .bool x7)]) K =
      bind_Check.u13.f k x0 x1 x2 x3 x4 x5 x6 x7 (fun y0 y1 y2 y3 y4 y5 => K .normal (frameL [(4, .ptr (some y0)), (5, .map y1), (7, .ptr (some y2)), (14, .slice y3), (15, .int .i64 y4), (16, .int .i64 y5)])) (fun y0 y1 => K .ret (frameL [(2, .int .i64 y0), (3, .int .i64 y1)])) :=
  (bind_Check.u7.ok k x0 x1 x2 x3 x4 x5 x6 x7 bind_Check.u12.c K).trans
    (congrArg (fun z => bind_Check.u7.f k x0 x1 x2 x3 x4 x5 x6 x7 z) (funext fun y0 => (funext fun y1 => (funext fun y2 => (funext fun y3 => (funext fun y4 => (funext fun y5 => (funext fun y6 => (funext fun y7 => bind_Check.u12.ok k y0 y1 y2 y3 y4 y5 y6 y7 K)))))))))
theorem bind_Check.u14.ok {α : Type} (k : Nat) (x0 : Ad) (x1 : Option Nat) (x2 : Int) (x3 : Ad) (x4 : Sl) (x5 : Int) (x6 : Int) (x7 : Bool) (K : Ex → Frame → M α) :
    evC T (env k) k bind_Check.u14.c (frameL [(4, .ptr (some x0)), (5, .map x1), (6, .int .i64 x2), (7, .ptr (some x3)), (14, .slice x4), (15, .int .i64 x5), (16, .int .i64 x6), (21, .bool x7)]) K =
      bind_Check.u14.f k x0 x1 x2 x3 x4 x5 x6 x7 (fun y0 y1 y2 y3 y4 y5 => K .normal (frameL [(4, .ptr (some y0)), (5, .map y1), (7, .ptr (some y2)), (14, .slice y3), (15, .int .i64 y4), (16, .int .i64 y5)])) (fun y0 y1 => K .ret (frameL [(2, .int .i64 y0), (3, .int .i64 y1)])) :=
  evC_cond_run (g := x7) (by kernel_rfl) (bind_Check.u6.ok k x0 x1 x2 x3 x4 x5 x6 x7 K) (bind_Check.u13.ok k x0 x1 x2 x3 x4 x5 x6 x7 K)
theorem bind_Check.u15.ok {α : Type} (k : Nat) (x0 : Ad) (x1 : Option Nat) (x2 : Int) (x3 : Ad) (x4 : Sl) (x5 : Int) (x6 : Int) (K : Ex → Frame → M α) :
    evC T (env k) k bind_Check.u15.c (frameL [(4, .ptr (some x0)), (5, .map x1), (6, .int .i64 x2), (7, .ptr (some x3)), (14, .slice x4), (15, .int .i64 x5), (16, .int .i64 x6)]) K =
      bind_Check.u15.f k x0 x1 x2 x3 x4 x5 x6 (fun y0 y1 y2 y3 y4 y5 => K .normal (frameL [(4, .ptr (some y0)), (5, .map y1), (7, .ptr (some y2)), (14, .slice y3), (15, .int .i64 y4), (16, .int .i64 y5)])) (fun y0 y1 => K .ret (frameL [(2, .int .i64 y0), (3, .int .i64 y1)])) :=
  (bind_Check.u5.ok k x0 x1 x2 x3 x4 x5 x6 bind_Check.u14.c K).trans
    (congrArg (fun z => bind_Check.u5.f k x0 x1 x2 x3 x4 x5 x6 z) (funext fun y0 => (funext fun y1 => (funext fun y2 => (funext fun y3 => (funext fun y4 => (funext fun y5 => (funext fun y6 => (funext fun y7 => bind_Check.u14.ok k y0 y1 y2 y3 y4 y5 y6 y7 K)))))))))
theorem bind_Check.u16.ok {α : Type} (k : Nat) (x0 : Ad) (x1 : Option Nat) (x2 : Int) (x3 : Ad) (x4 : Sl) (x5 : Int) (x6 : Int) (K : Ex → Frame → M α) :
    evC T (env k) k bind_Check.u16.c (frameL [(4, .ptr (some x0)), (5, .map x1), (6, .int .i64 x2), (7, .ptr (some x3)), (14, .slice x4), (15, .int .i64 x5), (16, .int .i64 x6)]) K =
      bind_Check.u16.f k x0 x1 x2 x3 x4 x5 x6 (fun y0 y1 y2 y3 y4 y5 => K .normal (frameL [(4, .ptr (some y0)), (5, .map y1), (7, .ptr (some y2)), (14, .slice y3), (15, .int .i64 y4), (16, .int .i64 y5)])) (fun y0 y1 => K .ret (frameL [(2, .int .i64 y0), (3, .int .i64 y1)])) :=
  (evC_block.trans (bind_Check.u15.ok k x0 x1 x2 x3 x4 x5 x6 (blockK 2 K))).trans (by kernel_rfl)
theorem bind_Check.u17.ok {α : Type} (k : Nat) (x0 : Ad) (x1 : Option Nat) (x2 : Ad) (x3 : Sl) (x4 : Int) (x5 : Int) (K : Ex → Frame → M α) :
    evC T (env k) k bind_Check.u17.c (frameL [(4, .ptr (some x0)), (5, .map x1), (7, .ptr (some x2)), (14, .slice x3), (15, .int .i64 x4), (16, .int .i64 x5)]) K =
      bind_Check.u17.f k x0 x1 x2 x3 x4 x5 (fun y0 y1 y2 y3 y4 => K .normal (frameL [(4, .ptr (some y0)), (5, .map y1), (14, .slice y2), (15, .int .i64 y3), (16, .int .i64 y4)])) := by kernel_rfl
theorem bind_Check.u18.ok {α : Type} (k : Nat) (x0 : Ad) (x1 : Option Nat) (x2 : Int) (x3 : Ad) (x4 : Sl) (x5 : Int) (x6 : Int) (K : Ex → Frame → M α) :
    evC T (env k) k bind_Check.u18.c (frameL [(4, .ptr (some x0)), (5, .map x1), (6, .int .i64 x2), (7, .ptr (some x3)), (14, .slice x4), (15, .int .i64 x5), (16, .int .i64 x6)]) K =
      bind_Check.u18.f k x0 x1 x2 x3 x4 x5 x6 (fun y0 y1 y2 y3 y4 => K .normal (frameL [(4, .ptr (some y0)), (5, .map y1), (14, .slice y2), (15, .int .i64 y3), (16, .int .i64 y4)])) (fun y0 y1 => K .ret (frameL [(2, .int .i64 y0), (3, .int .i64 y1)])) :=
  by
    have h := bind_Check.u16.ok k x0 x1 x2 x3 x4 x5 x6 (seqK (fun ρ => evC T (env k) k bind_Check.u17.c ρ K) K)
    simp only [seqK_normal, seqK_exit, seqK_ret, seqK_pan, bind_Check.u17.ok] at h
    exact evC_seq_of h
theorem bind_Check.u19.ok {α : Type} (k : Nat) (x0 : Ad) (x1 : Option Nat) (x2 : Sl) (x3 : Int) (x4 : Int) (K : Ex → Frame → M α) :
    evC T (env k) k bind_Check.u19.c (frameL [(4, .ptr (some x0)), (5, .map x1), (14, .slice x2), (15, .int .i64 x3), (16, .int .i64 x4)]) K =
      bind_Check.u19.f k x0 x1 x2 x3 x4 (fun y0 y1 y2 y3 y4 => K .normal (frameL [(4, .ptr (some y0)), (5, .map y1), (14, .slice y2), (15, .int .i64 y3), (16, .int .i64 y4)])) (fun y0 y1 => K .ret (frameL [(2, .int .i64 y0), (3, .int .i64 y1)])) :=
  (bind_Check.u4.ok k x0 x1 x2 x3 x4 bind_Check.u18.c K).trans
    (congrArg (fun z => bind_Check.u4.f k x0 x1 x2 x3 x4 z) (funext fun y0 => (funext fun y1 => (funext fun y2 => (funext fun y3 => (funext fun y4 => (funext fun y5 => (funext fun y6 => bind_Check.u18.ok k y0 y1 y2 y3 y4 y5 y6 K))))))))
theorem bind_Check.u20.ok {α : Type} (k : Nat) (x0 : Ad) (x1 : Option Nat) (x2 : Sl) (x3 : Int) (x4 : Int) (K : Ex → Frame → M α) :
    evC T (env k) k bind_Check.u20.c (frameL [(4, .ptr (some x0)), (5, .map x1), (14, .slice x2), (15, .int .i64 x3), (16, .int .i64 x4)]) K =
      bind_Check.u20.f k x0 x1 x2 x3 x4 (fun y0 y1 y2 y3 y4 => K .normal (frameL [(4, .ptr (some y0)), (5, .map y1), (14, .slice y2), (15, .int .i64 y3), (16, .int .i64 y4)])) (fun y0 y1 => K .ret (frameL [(2, .int .i64 y0), (3, .int .i64 y1)])) :=
  (evC_block.trans (bind_Check.u19.ok k x0 x1 x2 x3 x4 (blockK 1 K))).trans (by kernel_rfl)
theorem bind_Check.u21.ok {α : Type} (k : Nat) (x0 : Ad) (x1 : Option Nat) (x2 : Sl) (x3 : Int) (x4 : Int) (K : Ex → Frame → M α) :
    evC T (env k) k bind_Check.u21.c (frameL [(4, .ptr (some x0)), (5, .map x1), (14, .slice x2), (15, .int .i64 x3), (16, .int .i64 x4)]) K =
      bind_Check.u21.f k x0 x1 x2 x3 x4 (fun y0 y1 y2 y3 y4 => K .normal (frameL [(4, .ptr (some y0)), (5, .map y1), (14, .slice y2), (15, .int .i64 y3), (16, .int .i64 y4)])) := by kernel_rfl
theorem bind_Check.u22.ok {α : Type} (k : Nat) (x0 : Ad) (x1 : Option Nat) (x2 : Sl) (x3 : Int) (x4 : Int) (K : Ex → Frame → M α) :
    evC T (env k) k bind_Check.u22.c (frameL [(4, .ptr (some x0)), (5, .map x1), (14, .slice x2), (15, .int .i64 x3), (16, .int .i64 x4)]) K =
      bind_Check.u22.f k x0 x1 x2 x3 x4 (fun y0 y1 y2 y3 y4 => K .normal (frameL [(4, .ptr (some y0)), (5, .map y1), (14, .slice y2), (15, .int .i64 y3), (16, .int .i64 y4)])) (fun y0 y1 => K .ret (frameL [(2, .int .i64 y0), (3, .int .i64 y1)])) :=
  by
    have h := bind_Check.u20.ok k x0 x1 x2 x3 x4 (seqK (fun ρ => evC T (env k) k bind_Check.u21.c ρ K) K)
    simp only [seqK_normal, seqK_exit, seqK_ret, seqK_pan, bind_Check.u21.ok] at h
    exact evC_seq_of h
theorem bind_Check.u23.ok {α : Type} (k : Nat) (x0 : Ad) (x1 : Option Nat) (x2 : Sl) (x3 : Int) (x4 : Int) (K : Ex → Frame → M α) :
    evC T (env k) k bind_Check.u23.c (frameL [(4, .ptr (some x0)), (5, .map x1), (14, .slice x2), (15, .int .i64 x3), (16, .int .i64 x4)]) K =
      bind_Check.u23.f k x0 x1 x2 x3 x4 (fun y0 y1 y2 y3 y4 => K .normal (frameL [(4, .ptr (some y0)), (5, .map y1), (14, .slice y2), (15, .int .i64 y3), (16, .int .i64 y4)])) (fun y0 y1 => K .ret (frameL [(2, .int .i64 y0), (3, .int .i64 y1)])) (K (.exit 0) (frameL [])) :=
  (bind_Check.u3.ok k x0 x1 x2 x3 x4 bind_Check.u22.c K).trans
    (congrArg (fun z => bind_Check.u3.f k x0 x1 x2 x3 x4 z (K (.exit 0) (frameL []))) (funext fun y0 => (funext fun y1 => (funext fun y2 => (funext fun y3 => (funext fun y4 => bind_Check.u22.ok k y0 y1 y2 y3 y4 K))))))
theorem bind_Check.u24.ls {α : Type} (k : Nat) (kr : Int → Int → M α) (kx0 : M α) (j : Nat) (x0 : Ad) (x1 : Option Nat) (x2 : Sl) (x3 : Int) (x4 : Int) : bind_Check.u24.l k kr kx0 (j + 1) x0 x1 x2 x3 x4 =
  bind_Check.u23.f k x0 x1 x2 x3 x4 (fun y0 y1 y2 y3 y4 => bind_Check.u24.l k kr kx0 j y0 y1 y2 y3 y4) kr kx0 := rfl
theorem bind_Check.u24.okl {α : Type} (k : Nat) (K : Ex → Frame → M α) : ∀ (j : Nat) (x0 : Ad) (x1 : Option Nat) (x2 : Sl) (x3 : Int) (x4 : Int),
    evLoop (evC T (env k) k bind_Check.u23.c) [4, 5, 14, 15, 16] j (frameL [(4, .ptr (some x0)), (5, .map x1), (14, .slice x2), (15, .int .i64 x3), (16, .int .i64 x4)]) K = bind_Check.u24.l k (fun y0 y1 => K .ret (frameL [(2, .int .i64 y0), (3, .int .i64 y1)])) (K (.exit 0) (frameL [])) j x0 x1 x2 x3 x4
  | 0, _, _, _, _, _ => rfl
  | j + 1, x0, x1, x2, x3, x4 => by
      have h := bind_Check.u23.ok k x0 x1 x2 x3 x4 (seqK (fun ρ => evLoop (evC T (env k) k bind_Check.u23.c) [4, 5, 14, 15, 16] j ρ K) K)
      simp only [seqK_exit, seqK_ret, seqK_pan, seqK_normal, bind_Check.u24.okl k K j] at h
      exact (evLoop_step (by kernel_rfl) h).trans (bind_Check.u24.ls k (fun y0 y1 => K .ret (frameL [(2, .int .i64 y0), (3, .int .i64 y1)])) (K (.exit 0) (frameL [])) j x0 x1 x2 x3 x4).symm
theorem bind_Check.u24.ok {α : Type} (k : Nat) (x0 : Ad) (x1 : Option Nat) (x2 : Sl) (x3 : Int) (x4 : Int) (K : Ex → Frame → M α) :
    evC T (env k) k bind_Check.u24.c (frameL [(4, .ptr (some x0)), (5, .map x1), (14, .slice x2), (15, .int .i64 x3), (16, .int .i64 x4)]) K =
      bind_Check.u24.f k x0 x1 x2 x3 x4 (fun y0 y1 => K .ret (frameL [(2, .int .i64 y0), (3, .int .i64 y1)])) (K (.exit 0) (frameL [])) :=
  evC_loop.trans <| (evLoop_keep (body := evC T (env k) k bind_Check.u23.c) (keep := [4, 5, 14, 15, 16]) (ρ := (frameL [(4, .ptr (some x0)), (5, .map x1), (14, .slice x2), (15, .int .i64 x3), (16, .int .i64 x4)])) (ρ' := (frameL [(4, .ptr (some x0)), (5, .map x1), (14, .slice x2), (15, .int .i64 x3), (16, .int .i64 x4)])) (by kernel_rfl) k K).trans (bind_Check.u24.okl k K k x0 x1 x2 x3 x4)
theorem bind_Check.u25.ok {α : Type} (k : Nat) (x0 : Ad) (x1 : Option Nat) (x2 : Sl) (x3 : Int) (x4 : Int) (K : Ex → Frame → M α) :
    evC T (env k) k bind_Check.u25.c (frameL [(4, .ptr (some x0)), (5, .map x1), (14, .slice x2), (15, .int .i64 x3), (16, .int .i64 x4)]) K =
      bind_Check.u25.f k x0 x1 x2 x3 x4 (K .normal (frameL [])) (fun y0 y1 => K .ret (frameL [(2, .int .i64 y0), (3, .int .i64 y1)])) :=
  (evC_block.trans (bind_Check.u24.ok k x0 x1 x2 x3 x4 (blockK 0 K))).trans (by kernel_rfl)
theorem bind_Check.u26.ok {α : Type} (k : Nat) (x0 : Sl) (x1 : Ad) (x2 : Option Nat) (K : Ex → Frame → M α) :
    evC T (env k) k bind_Check.u26.c (frameL [(0, .slice x0), (4, .ptr (some x1)), (5, .map x2)]) K =
      bind_Check.u26.f k x0 x1 x2 (K .normal (frameL [])) (fun y0 y1 => K .ret (frameL [(2, .int .i64 y0), (3, .int .i64 y1)])) :=
  (bind_Check.u2.ok k x0 x1 x2 bind_Check.u25.c K).trans
    (congrArg (fun z => bind_Check.u2.f k x0 x1 x2 z) (funext fun y0 => (funext fun y1 => (funext fun y2 => (funext fun y3 => (funext fun y4 => bind_Check.u25.ok k y0 y1 y2 y3 y4 K))))))
theorem bind_Check.u27.ok {α : Type} (k : Nat) (K : Ex → Frame → M α) :
    evC T (env k) k bind_Check.u27.c (frameL []) K =
      bind_Check.u27.f k (fun y0 y1 => K .ret (frameL [(2, .int .i64 y0), (3, .int .i64 y1)])) := by kernel_rfl
theorem bind_Check.u28.ok {α : Type} (k : Nat) (x0 : Sl) (x1 : Ad) (x2 : Option Nat) (K : Ex → Frame → M α) :
    evC T (env k) k bind_Check.u28.c (frameL [(0, .slice x0), (4, .ptr (some x1)), (5, .map x2)]) K =
      bind_Check.u28.f k x0 x1 x2 (fun y0 y1 => K .ret (frameL [(2, .int .i64 y0), (3, .int .i64 y1)])) :=
  by
    have h := bind_Check.u26.ok k x0 x1 x2 (seqK (fun ρ => evC T (env k) k bind_Check.u27.c ρ K) K)
    simp only [seqK_normal, seqK_exit, seqK_ret, seqK_pan, bind_Check.u27.ok] at h
    exact evC_seq_of h
theorem bind_Check.u29.ok {α : Type} (k : Nat) (x0 : Sl) (K : Ex → Frame → M α) :
    evC T (env k) k bind_Check.u29.c (frameL [(0, .slice x0)]) K =
      bind_Check.u29.f k x0 (fun y0 y1 => K .ret (frameL [(2, .int .i64 y0), (3, .int .i64 y1)])) :=
  (bind_Check.u1.ok k x0 bind_Check.u28.c K).trans
    (congrArg (fun z => bind_Check.u1.f k x0 z (fun y0 y1 => K .ret (frameL [(2, .int .i64 y0), (3, .int .i64 y1)]))) (funext fun y0 => (funext fun y1 => (funext fun y2 => bind_Check.u28.ok k y0 y1 y2 K))))
theorem bind_Check.ok {α : Type} (k : Nat) (x0 : Sl) (κ : Res → M α) :
    evF T (env k) k bind_Check.c bind_Check.res [.slice x0] κ = bind_Check.f (k + 1) x0 (fun o0 o1 => κ (.ret (.tuple [.int .i64 o0, .int .i64 o1]))) :=
  (bind_Check.u29.ok k x0 (retK T bind_Check.res κ)).trans (by kernel_rfl)
theorem bind_Check.code : bind_Check.c.code = bodyOf Try.f14 := by kernel_rfl

noncomputable def bind_Binders.c : IC := bind_Binders.u1.c
noncomputable def bind_Binders.res : List ResultVar := [(.tmp 2)]
theorem bind_Binders.u1.ok {α : Type} (k : Nat) (x0 : Sl) (K : Ex → Frame → M α) :
    evC T (env k) k bind_Binders.u1.c (frameL [(0, .slice x0)]) K =
      bind_Binders.u1.f k x0 (fun y0 => K .ret (frameL [(2, .slice y0)])) := by kernel_rfl
theorem bind_Binders.ok {α : Type} (k : Nat) (x0 : Sl) (κ : Res → M α) :
    evF T (env k) k bind_Binders.c bind_Binders.res [.slice x0] κ = bind_Binders.f (k + 1) x0 (fun o0 => κ (.ret (.slice o0))) :=
  (bind_Binders.u1.ok k x0 (retK T bind_Binders.res κ)).trans (by kernel_rfl)
theorem bind_Binders.code : bind_Binders.c.code = bodyOf Try.f18 := by kernel_rfl

noncomputable def bailifflaw05_shown.c : IC := bailifflaw05_shown.u1.c
noncomputable def bailifflaw05_shown.res : List ResultVar := [(.tmp 0)]
theorem bailifflaw05_shown.u1.ok {α : Type} (k : Nat) (K : Ex → Frame → M α) :
    evC T (env k) k bailifflaw05_shown.u1.c (frameL []) K =
      bailifflaw05_shown.u1.f k (fun y0 => K .ret (frameL [(0, .bool y0)])) := by kernel_rfl
theorem bailifflaw05_shown.ok {α : Type} (k : Nat) (κ : Res → M α) :
    evF T (env k) k bailifflaw05_shown.c bailifflaw05_shown.res [] κ = bailifflaw05_shown.f (k + 1) (fun o0 => κ (.ret (.bool o0))) :=
  (bailifflaw05_shown.u1.ok k (retK T bailifflaw05_shown.res κ)).trans (by kernel_rfl)
theorem bailifflaw05_shown.code : bailifflaw05_shown.c.code = bodyOf Try.f12 := by kernel_rfl

noncomputable def bailifflaw05_lent.c : IC := bailifflaw05_lent.u1.c
noncomputable def bailifflaw05_lent.res : List ResultVar := [(.tmp 2)]
theorem bailifflaw05_lent.u1.ok {α : Type} (k : Nat) (x0 : Sl) (K : Ex → Frame → M α) :
    evC T (env k) k bailifflaw05_lent.u1.c (frameL [(0, .slice x0)]) K =
      bailifflaw05_lent.u1.f k x0 (fun y0 => K .ret (frameL [(2, .slice y0)])) := by kernel_rfl
theorem bailifflaw05_lent.ok {α : Type} (k : Nat) (x0 : Sl) (κ : Res → M α) :
    evF T (env k) k bailifflaw05_lent.c bailifflaw05_lent.res [.slice x0] κ = bailifflaw05_lent.f (k + 1) x0 (fun o0 => κ (.ret (.slice o0))) :=
  (bailifflaw05_lent.u1.ok k x0 (retK T bailifflaw05_lent.res κ)).trans (by kernel_rfl)
theorem bailifflaw05_lent.code : bailifflaw05_lent.c.code = bodyOf Try.f13 := by kernel_rfl

noncomputable def bailiffref04_Below.c : IC := bailiffref04_Below.u1.c
noncomputable def bailiffref04_Below.res : List ResultVar := [(.tmp 2)]
theorem bailiffref04_Below.u1.ok {α : Type} (k : Nat) (x0 : Int) (K : Ex → Frame → M α) :
    evC T (env k) k bailiffref04_Below.u1.c (frameL [(0, .int .i64 x0)]) K =
      bailiffref04_Below.u1.f k x0 (fun y0 => K .ret (frameL [(2, .int .i64 y0)])) := by kernel_rfl
theorem bailiffref04_Below.ok {α : Type} (k : Nat) (x0 : Int) (κ : Res → M α) :
    evF T (env k) k bailiffref04_Below.c bailiffref04_Below.res [.int .i64 x0] κ = bailiffref04_Below.f (k + 1) x0 (fun o0 => κ (.ret (.int .i64 o0))) :=
  (bailiffref04_Below.u1.ok k x0 (retK T bailiffref04_Below.res κ)).trans (by kernel_rfl)
theorem bailiffref04_Below.code : bailiffref04_Below.c.code = bodyOf Try.f28 := by kernel_rfl

noncomputable def bailiffref03_Name.c : IC := bailiffref03_Name.u14.c
noncomputable def bailiffref03_Name.res : List ResultVar := [(.tmp 2)]
theorem bailiffref03_Name.u1.ok {α : Type} (k : Nat) (x0 : List UInt8) (R : IC) (K : Ex → Frame → M α) :
    evC T (env k) k (bailiffref03_Name.u1.c R) (frameL [(0, .str x0)]) K =
      bailiffref03_Name.u1.f k x0 (fun y0 => evC T (env k) k R (frameL [(0, .str y0)]) K) (fun y0 => K .ret (frameL [(2, .bool y0)])) := by kernel_rfl
theorem bailiffref03_Name.u2.ok {α : Type} (k : Nat) (x0 : List UInt8) (R : IC) (K : Ex → Frame → M α) :
    evC T (env k) k (bailiffref03_Name.u2.c R) (frameL [(0, .str x0)]) K =
      bailiffref03_Name.u2.f k x0 (fun y0 y1 => evC T (env k) k R (frameL [(0, .str y0), (3, .int .i64 y1)]) K) := by kernel_rfl
theorem bailiffref03_Name.u3.ok {α : Type} (k : Nat) (x0 : List UInt8) (x1 : Int) (R : IC) (K : Ex → Frame → M α) :
    evC T (env k) k (bailiffref03_Name.u3.c R) (frameL [(0, .str x0), (3, .int .i64 x1)]) K =
      bailiffref03_Name.u3.f k x0 x1 (fun y0 y1 => evC T (env k) k R (frameL [(0, .str y0), (3, .int .i64 y1)]) K) (K (.exit 0) (frameL [])) := by kernel_rfl
theorem bailiffref03_Name.u4.ok {α : Type} (k : Nat) (x0 : List UInt8) (x1 : Int) (K : Ex → Frame → M α) :
    evC T (env k) k bailiffref03_Name.u4.c (frameL [(0, .str x0), (3, .int .i64 x1)]) K =
      bailiffref03_Name.u4.f k x0 x1 (fun y0 y1 => K .normal (frameL [(0, .str y0), (3, .int .i64 y1)])) (fun y0 => K .ret (frameL [(2, .bool y0)])) := by kernel_rfl
theorem bailiffref03_Name.u5.ok {α : Type} (k : Nat) (x0 : List UInt8) (x1 : Int) (K : Ex → Frame → M α) :
    evC T (env k) k bailiffref03_Name.u5.c (frameL [(0, .str x0), (3, .int .i64 x1)]) K =
      bailiffref03_Name.u5.f k x0 x1 (fun y0 y1 => K .normal (frameL [(0, .str y0), (3, .int .i64 y1)])) (fun y0 => K .ret (frameL [(2, .bool y0)])) :=
  (evC_block.trans (bailiffref03_Name.u4.ok k x0 x1 (blockK 1 K))).trans (by kernel_rfl)
theorem bailiffref03_Name.u6.ok {α : Type} (k : Nat) (x0 : List UInt8) (x1 : Int) (K : Ex → Frame → M α) :
    evC T (env k) k bailiffref03_Name.u6.c (frameL [(0, .str x0), (3, .int .i64 x1)]) K =
      bailiffref03_Name.u6.f k x0 x1 (fun y0 y1 => K .normal (frameL [(0, .str y0), (3, .int .i64 y1)])) := by kernel_rfl
theorem bailiffref03_Name.u7.ok {α : Type} (k : Nat) (x0 : List UInt8) (x1 : Int) (K : Ex → Frame → M α) :
    evC T (env k) k bailiffref03_Name.u7.c (frameL [(0, .str x0), (3, .int .i64 x1)]) K =
      bailiffref03_Name.u7.f k x0 x1 (fun y0 y1 => K .normal (frameL [(0, .str y0), (3, .int .i64 y1)])) (fun y0 => K .ret (frameL [(2, .bool y0)])) :=
  by
    have h := bailiffref03_Name.u5.ok k x0 x1 (seqK (fun ρ => evC T (env k) k bailiffref03_Name.u6.c ρ K) K)
    simp only [seqK_normal, seqK_exit, seqK_ret, seqK_pan, bailiffref03_Name.u6.ok] at h
    exact evC_seq_of h
theorem bailiffref03_Name.u8.ok {α : Type} (k : Nat) (x0 : List UInt8) (x1 : Int) (K : Ex → Frame → M α) :
    evC T (env k) k bailiffref03_Name.u8.c (frameL [(0, .str x0), (3, .int .i64 x1)]) K =
      bailiffref03_Name.u8.f k x0 x1 (fun y0 y1 => K .normal (frameL [(0, .str y0), (3, .int .i64 y1)])) (fun y0 => K .ret (frameL [(2, .bool y0)])) (K (.exit 0) (frameL [])) :=
  (bailiffref03_Name.u3.ok k x0 x1 bailiffref03_Name.u7.c K).trans
    (congrArg (fun z => bailiffref03_Name.u3.f k x0 x1 z (K (.exit 0) (frameL []))) (funext fun y0 => (funext fun y1 => bailiffref03_Name.u7.ok k y0 y1 K)))
theorem bailiffref03_Name.u9.ls {α : Type} (k : Nat) (kr : Bool → M α) (kx0 : M α) (j : Nat) (x0 : List UInt8) (x1 : Int) : bailiffref03_Name.u9.l k kr kx0 (j + 1) x0 x1 =
  bailiffref03_Name.u8.f k x0 x1 (fun y0 y1 => bailiffref03_Name.u9.l k kr kx0 j y0 y1) kr kx0 := rfl
theorem bailiffref03_Name.u9.okl {α : Type} (k : Nat) (K : Ex → Frame → M α) : ∀ (j : Nat) (x0 : List UInt8) (x1 : Int),
    evLoop (evC T (env k) k bailiffref03_Name.u8.c) [0, 3] j (frameL [(0, .str x0), (3, .int .i64 x1)]) K = bailiffref03_Name.u9.l k (fun y0 => K .ret (frameL [(2, .bool y0)])) (K (.exit 0) (frameL [])) j x0 x1
  | 0, _, _ => rfl
  | j + 1, x0, x1 => by
      have h := bailiffref03_Name.u8.ok k x0 x1 (seqK (fun ρ => evLoop (evC T (env k) k bailiffref03_Name.u8.c) [0, 3] j ρ K) K)
      simp only [seqK_exit, seqK_ret, seqK_pan, seqK_normal, bailiffref03_Name.u9.okl k K j] at h
      exact (evLoop_step (by kernel_rfl) h).trans (bailiffref03_Name.u9.ls k (fun y0 => K .ret (frameL [(2, .bool y0)])) (K (.exit 0) (frameL [])) j x0 x1).symm
theorem bailiffref03_Name.u9.ok {α : Type} (k : Nat) (x0 : List UInt8) (x1 : Int) (K : Ex → Frame → M α) :
    evC T (env k) k bailiffref03_Name.u9.c (frameL [(0, .str x0), (3, .int .i64 x1)]) K =
      bailiffref03_Name.u9.f k x0 x1 (fun y0 => K .ret (frameL [(2, .bool y0)])) (K (.exit 0) (frameL [])) :=
  evC_loop.trans <| (evLoop_keep (body := evC T (env k) k bailiffref03_Name.u8.c) (keep := [0, 3]) (ρ := (frameL [(0, .str x0), (3, .int .i64 x1)])) (ρ' := (frameL [(0, .str x0), (3, .int .i64 x1)])) (by kernel_rfl) k K).trans (bailiffref03_Name.u9.okl k K k x0 x1)
theorem bailiffref03_Name.u10.ok {α : Type} (k : Nat) (x0 : List UInt8) (x1 : Int) (K : Ex → Frame → M α) :
    evC T (env k) k bailiffref03_Name.u10.c (frameL [(0, .str x0), (3, .int .i64 x1)]) K =
      bailiffref03_Name.u10.f k x0 x1 (K .normal (frameL [])) (fun y0 => K .ret (frameL [(2, .bool y0)])) :=
  (evC_block.trans (bailiffref03_Name.u9.ok k x0 x1 (blockK 0 K))).trans (by kernel_rfl)
theorem bailiffref03_Name.u11.ok {α : Type} (k : Nat) (x0 : List UInt8) (K : Ex → Frame → M α) :
    evC T (env k) k bailiffref03_Name.u11.c (frameL [(0, .str x0)]) K =
      bailiffref03_Name.u11.f k x0 (K .normal (frameL [])) (fun y0 => K .ret (frameL [(2, .bool y0)])) :=
  (bailiffref03_Name.u2.ok k x0 bailiffref03_Name.u10.c K).trans
    (congrArg (fun z => bailiffref03_Name.u2.f k x0 z) (funext fun y0 => (funext fun y1 => bailiffref03_Name.u10.ok k y0 y1 K)))
theorem bailiffref03_Name.u12.ok {α : Type} (k : Nat) (K : Ex → Frame → M α) :
    evC T (env k) k bailiffref03_Name.u12.c (frameL []) K =
      bailiffref03_Name.u12.f k (fun y0 => K .ret (frameL [(2, .bool y0)])) := by kernel_rfl
theorem bailiffref03_Name.u13.ok {α : Type} (k : Nat) (x0 : List UInt8) (K : Ex → Frame → M α) :
    evC T (env k) k bailiffref03_Name.u13.c (frameL [(0, .str x0)]) K =
      bailiffref03_Name.u13.f k x0 (fun y0 => K .ret (frameL [(2, .bool y0)])) :=
  by
    have h := bailiffref03_Name.u11.ok k x0 (seqK (fun ρ => evC T (env k) k bailiffref03_Name.u12.c ρ K) K)
    simp only [seqK_normal, seqK_exit, seqK_ret, seqK_pan, bailiffref03_Name.u12.ok] at h
    exact evC_seq_of h
theorem bailiffref03_Name.u14.ok {α : Type} (k : Nat) (x0 : List UInt8) (K : Ex → Frame → M α) :
    evC T (env k) k bailiffref03_Name.u14.c (frameL [(0, .str x0)]) K =
      bailiffref03_Name.u14.f k x0 (fun y0 => K .ret (frameL [(2, .bool y0)])) :=
  (bailiffref03_Name.u1.ok k x0 bailiffref03_Name.u13.c K).trans
    (congrArg (fun z => bailiffref03_Name.u1.f k x0 z (fun y0 => K .ret (frameL [(2, .bool y0)]))) (funext fun y0 => bailiffref03_Name.u13.ok k y0 K))
theorem bailiffref03_Name.ok {α : Type} (k : Nat) (x0 : List UInt8) (κ : Res → M α) :
    evF T (env k) k bailiffref03_Name.c bailiffref03_Name.res [.str x0] κ = bailiffref03_Name.f (k + 1) x0 (fun o0 => κ (.ret (.bool o0))) :=
  (bailiffref03_Name.u14.ok k x0 (retK T bailiffref03_Name.res κ)).trans (by kernel_rfl)
theorem bailiffref03_Name.code : bailiffref03_Name.c.code = bodyOf Try.f54 := by kernel_rfl

noncomputable def bailiffref04_Variable.c : IC := bailiffref04_Variable.u1.c
noncomputable def bailiffref04_Variable.res : List ResultVar := [(.tmp 2)]
theorem bailiffref04_Variable.u1.ok {α : Type} (k : Nat) (x0 : List UInt8) (K : Ex → Frame → M α) :
    evC T (env k) k bailiffref04_Variable.u1.c (frameL [(0, .str x0)]) K =
      bailiffref04_Variable.u1.f k x0 (fun y0 => K .ret (frameL [(2, .bool y0)])) := by kernel_rfl
theorem bailiffref04_Variable.ok {α : Type} (k : Nat) (x0 : List UInt8) (κ : Res → M α) :
    evF T (env k) k bailiffref04_Variable.c bailiffref04_Variable.res [.str x0] κ = bailiffref04_Variable.f (k + 1) x0 (fun o0 => κ (.ret (.bool o0))) :=
  (bailiffref04_Variable.u1.ok k x0 (retK T bailiffref04_Variable.res κ)).trans (by kernel_rfl)
theorem bailiffref04_Variable.code : bailiffref04_Variable.c.code = bodyOf Try.f55 := by kernel_rfl

noncomputable def bailiffref04_named.c : IC := bailiffref04_named.u1.c
noncomputable def bailiffref04_named.res : List ResultVar := [(.tmp 2)]
theorem bailiffref04_named.u1.ok {α : Type} (k : Nat) (x0 : Int) (x1 : Int) (x2 : Int) (x3 : List UInt8) (x4 : Int) (K : Ex → Frame → M α) :
    evC T (env k) k bailiffref04_named.u1.c (frameL [(0, .agg [.int .i64 x0, .int .i64 x1, .int .i64 x2, .str x3, .int .i64 x4])]) K =
      bailiffref04_named.u1.f k x0 x1 x2 x3 x4 (fun y0 => K .ret (frameL [(2, .bool y0)])) := by kernel_rfl
theorem bailiffref04_named.ok {α : Type} (k : Nat) (x0 : Int) (x1 : Int) (x2 : Int) (x3 : List UInt8) (x4 : Int) (κ : Res → M α) :
    evF T (env k) k bailiffref04_named.c bailiffref04_named.res [.agg [.int .i64 x0, .int .i64 x1, .int .i64 x2, .str x3, .int .i64 x4]] κ = bailiffref04_named.f (k + 1) x0 x1 x2 x3 x4 (fun o0 => κ (.ret (.bool o0))) :=
  (bailiffref04_named.u1.ok k x0 x1 x2 x3 x4 (retK T bailiffref04_named.res κ)).trans (by kernel_rfl)
theorem bailiffref04_named.code : bailiffref04_named.c.code = bodyOf Try.f40 := by kernel_rfl

noncomputable def bailiffref04_Right.c : IC := bailiffref04_Right.u16.c
noncomputable def bailiffref04_Right.res : List ResultVar := [(.tmp 2)]
theorem bailiffref04_Right.u1.ok {α : Type} (k : Nat) (x0 : Sl) (R : IC) (K : Ex → Frame → M α) :
    evC T (env k) k (bailiffref04_Right.u1.c R) (frameL [(0, .slice x0)]) K =
      bailiffref04_Right.u1.f k x0 (fun y0 y1 => evC T (env k) k R (frameL [(0, .slice y0), (3, .slice y1)]) K) (fun y0 => K .ret (frameL [(2, .bool y0)])) := by kernel_rfl
theorem bailiffref04_Right.u2.ok {α : Type} (k : Nat) (x0 : Sl) (x1 : Sl) (R : IC) (K : Ex → Frame → M α) :
    evC T (env k) k (bailiffref04_Right.u2.c R) (frameL [(0, .slice x0), (3, .slice x1)]) K =
      bailiffref04_Right.u2.f k x0 x1 (fun y0 y1 y2 => evC T (env k) k R (frameL [(0, .slice y0), (3, .slice y1), (4, .int .i64 y2)]) K) := by kernel_rfl
theorem bailiffref04_Right.u3.ok {α : Type} (k : Nat) (x0 : Sl) (x1 : Sl) (x2 : Int) (R : IC) (K : Ex → Frame → M α) :
    evC T (env k) k (bailiffref04_Right.u3.c R) (frameL [(0, .slice x0), (3, .slice x1), (4, .int .i64 x2)]) K =
      bailiffref04_Right.u3.f k x0 x1 x2 (fun y0 y1 y2 => evC T (env k) k R (frameL [(0, .slice y0), (3, .slice y1), (4, .int .i64 y2)]) K) (fun y0 => K (.exit 0) (frameL [(3, .slice y0)])) := by kernel_rfl
theorem bailiffref04_Right.u4.ok {α : Type} (k : Nat) (x0 : Sl) (x1 : Sl) (x2 : Int) (R : IC) (K : Ex → Frame → M α) :
    evC T (env k) k (bailiffref04_Right.u4.c R) (frameL [(0, .slice x0), (3, .slice x1), (4, .int .i64 x2)]) K =
      bailiffref04_Right.u4.f k x0 x1 x2 (fun y0 y1 y2 y3 y4 => evC T (env k) k R (frameL [(0, .slice y0), (3, .slice y1), (4, .int .i64 y2), (5, .int .i64 y3), (7, .int .i64 y4)]) K) (fun y0 => K .ret (frameL [(2, .bool y0)])) := by kernel_rfl
theorem bailiffref04_Right.u5.ok {α : Type} (k : Nat) (x0 : Sl) (x1 : Sl) (x2 : Int) (x3 : Int) (x4 : Int) (K : Ex → Frame → M α) :
    evC T (env k) k bailiffref04_Right.u5.c (frameL [(0, .slice x0), (3, .slice x1), (4, .int .i64 x2), (5, .int .i64 x3), (7, .int .i64 x4)]) K =
      bailiffref04_Right.u5.f k x0 x1 x2 x3 x4 (fun y0 y1 y2 => K .normal (frameL [(0, .slice y0), (3, .slice y1), (4, .int .i64 y2)])) (fun y0 => K .ret (frameL [(2, .bool y0)])) := by kernel_rfl
theorem bailiffref04_Right.u6.ok {α : Type} (k : Nat) (x0 : Sl) (x1 : Sl) (x2 : Int) (K : Ex → Frame → M α) :
    evC T (env k) k bailiffref04_Right.u6.c (frameL [(0, .slice x0), (3, .slice x1), (4, .int .i64 x2)]) K =
      bailiffref04_Right.u6.f k x0 x1 x2 (fun y0 y1 y2 => K .normal (frameL [(0, .slice y0), (3, .slice y1), (4, .int .i64 y2)])) (fun y0 => K .ret (frameL [(2, .bool y0)])) :=
  (bailiffref04_Right.u4.ok k x0 x1 x2 bailiffref04_Right.u5.c K).trans
    (congrArg (fun z => bailiffref04_Right.u4.f k x0 x1 x2 z (fun y0 => K .ret (frameL [(2, .bool y0)]))) (funext fun y0 => (funext fun y1 => (funext fun y2 => (funext fun y3 => (funext fun y4 => bailiffref04_Right.u5.ok k y0 y1 y2 y3 y4 K))))))
theorem bailiffref04_Right.u7.ok {α : Type} (k : Nat) (x0 : Sl) (x1 : Sl) (x2 : Int) (K : Ex → Frame → M α) :
    evC T (env k) k bailiffref04_Right.u7.c (frameL [(0, .slice x0), (3, .slice x1), (4, .int .i64 x2)]) K =
      bailiffref04_Right.u7.f k x0 x1 x2 (fun y0 y1 y2 => K .normal (frameL [(0, .slice y0), (3, .slice y1), (4, .int .i64 y2)])) (fun y0 => K .ret (frameL [(2, .bool y0)])) :=
  (evC_block.trans (bailiffref04_Right.u6.ok k x0 x1 x2 (blockK 1 K))).trans (by kernel_rfl)
theorem bailiffref04_Right.u8.ok {α : Type} (k : Nat) (x0 : Sl) (x1 : Sl) (x2 : Int) (K : Ex → Frame → M α) :
    evC T (env k) k bailiffref04_Right.u8.c (frameL [(0, .slice x0), (3, .slice x1), (4, .int .i64 x2)]) K =
      bailiffref04_Right.u8.f k x0 x1 x2 (fun y0 y1 y2 => K .normal (frameL [(0, .slice y0), (3, .slice y1), (4, .int .i64 y2)])) := by kernel_rfl
theorem bailiffref04_Right.u9.ok {α : Type} (k : Nat) (x0 : Sl) (x1 : Sl) (x2 : Int) (K : Ex → Frame → M α) :
    evC T (env k) k bailiffref04_Right.u9.c (frameL [(0, .slice x0), (3, .slice x1), (4, .int .i64 x2)]) K =
      bailiffref04_Right.u9.f k x0 x1 x2 (fun y0 y1 y2 => K .normal (frameL [(0, .slice y0), (3, .slice y1), (4, .int .i64 y2)])) (fun y0 => K .ret (frameL [(2, .bool y0)])) :=
  by
    have h := bailiffref04_Right.u7.ok k x0 x1 x2 (seqK (fun ρ => evC T (env k) k bailiffref04_Right.u8.c ρ K) K)
    simp only [seqK_normal, seqK_exit, seqK_ret, seqK_pan, bailiffref04_Right.u8.ok] at h
    exact evC_seq_of h
theorem bailiffref04_Right.u10.ok {α : Type} (k : Nat) (x0 : Sl) (x1 : Sl) (x2 : Int) (K : Ex → Frame → M α) :
    evC T (env k) k bailiffref04_Right.u10.c (frameL [(0, .slice x0), (3, .slice x1), (4, .int .i64 x2)]) K =
      bailiffref04_Right.u10.f k x0 x1 x2 (fun y0 y1 y2 => K .normal (frameL [(0, .slice y0), (3, .slice y1), (4, .int .i64 y2)])) (fun y0 => K .ret (frameL [(2, .bool y0)])) (fun y0 => K (.exit 0) (frameL [(3, .slice y0)])) :=
  (bailiffref04_Right.u3.ok k x0 x1 x2 bailiffref04_Right.u9.c K).trans
    (congrArg (fun z => bailiffref04_Right.u3.f k x0 x1 x2 z (fun y0 => K (.exit 0) (frameL [(3, .slice y0)]))) (funext fun y0 => (funext fun y1 => (funext fun y2 => bailiffref04_Right.u9.ok k y0 y1 y2 K))))
theorem bailiffref04_Right.u11.ls {α : Type} (k : Nat) (kr : Bool → M α) (kx0 : Sl → M α) (j : Nat) (x0 : Sl) (x1 : Sl) (x2 : Int) : bailiffref04_Right.u11.l k kr kx0 (j + 1) x0 x1 x2 =
  bailiffref04_Right.u10.f k x0 x1 x2 (fun y0 y1 y2 => bailiffref04_Right.u11.l k kr kx0 j y0 y1 y2) kr kx0 := rfl
theorem bailiffref04_Right.u11.okl {α : Type} (k : Nat) (K : Ex → Frame → M α) : ∀ (j : Nat) (x0 : Sl) (x1 : Sl) (x2 : Int),
    evLoop (evC T (env k) k bailiffref04_Right.u10.c) [0, 3, 4] j (frameL [(0, .slice x0), (3, .slice x1), (4, .int .i64 x2)]) K = bailiffref04_Right.u11.l k (fun y0 => K .ret (frameL [(2, .bool y0)])) (fun y0 => K (.exit 0) (frameL [(3, .slice y0)])) j x0 x1 x2
  | 0, _, _, _ => rfl
  | j + 1, x0, x1, x2 => by
      have h := bailiffref04_Right.u10.ok k x0 x1 x2 (seqK (fun ρ => evLoop (evC T (env k) k bailiffref04_Right.u10.c) [0, 3, 4] j ρ K) K)
      simp only [seqK_exit, seqK_ret, seqK_pan, seqK_normal, bailiffref04_Right.u11.okl k K j] at h
      exact (evLoop_step (by kernel_rfl) h).trans (bailiffref04_Right.u11.ls k (fun y0 => K .ret (frameL [(2, .bool y0)])) (fun y0 => K (.exit 0) (frameL [(3, .slice y0)])) j x0 x1 x2).symm
theorem bailiffref04_Right.u11.ok {α : Type} (k : Nat) (x0 : Sl) (x1 : Sl) (x2 : Int) (K : Ex → Frame → M α) :
    evC T (env k) k bailiffref04_Right.u11.c (frameL [(0, .slice x0), (3, .slice x1), (4, .int .i64 x2)]) K =
      bailiffref04_Right.u11.f k x0 x1 x2 (fun y0 => K .ret (frameL [(2, .bool y0)])) (fun y0 => K (.exit 0) (frameL [(3, .slice y0)])) :=
  evC_loop.trans <| (evLoop_keep (body := evC T (env k) k bailiffref04_Right.u10.c) (keep := [0, 3, 4]) (ρ := (frameL [(0, .slice x0), (3, .slice x1), (4, .int .i64 x2)])) (ρ' := (frameL [(0, .slice x0), (3, .slice x1), (4, .int .i64 x2)])) (by kernel_rfl) k K).trans (bailiffref04_Right.u11.okl k K k x0 x1 x2)
theorem bailiffref04_Right.u12.ok {α : Type} (k : Nat) (x0 : Sl) (x1 : Sl) (x2 : Int) (K : Ex → Frame → M α) :
    evC T (env k) k bailiffref04_Right.u12.c (frameL [(0, .slice x0), (3, .slice x1), (4, .int .i64 x2)]) K =
      bailiffref04_Right.u12.f k x0 x1 x2 (fun y0 => K .normal (frameL [(3, .slice y0)])) (fun y0 => K .ret (frameL [(2, .bool y0)])) :=
  (evC_block.trans (bailiffref04_Right.u11.ok k x0 x1 x2 (blockK 0 K))).trans (by kernel_rfl)
theorem bailiffref04_Right.u13.ok {α : Type} (k : Nat) (x0 : Sl) (x1 : Sl) (K : Ex → Frame → M α) :
    evC T (env k) k bailiffref04_Right.u13.c (frameL [(0, .slice x0), (3, .slice x1)]) K =
      bailiffref04_Right.u13.f k x0 x1 (fun y0 => K .normal (frameL [(3, .slice y0)])) (fun y0 => K .ret (frameL [(2, .bool y0)])) :=
  (bailiffref04_Right.u2.ok k x0 x1 bailiffref04_Right.u12.c K).trans
    (congrArg (fun z => bailiffref04_Right.u2.f k x0 x1 z) (funext fun y0 => (funext fun y1 => (funext fun y2 => bailiffref04_Right.u12.ok k y0 y1 y2 K))))
theorem bailiffref04_Right.u14.ok {α : Type} (k : Nat) (x0 : Sl) (K : Ex → Frame → M α) :
    evC T (env k) k bailiffref04_Right.u14.c (frameL [(3, .slice x0)]) K =
      bailiffref04_Right.u14.f k x0 (fun y0 => K .ret (frameL [(2, .bool y0)])) := by kernel_rfl
theorem bailiffref04_Right.u15.ok {α : Type} (k : Nat) (x0 : Sl) (x1 : Sl) (K : Ex → Frame → M α) :
    evC T (env k) k bailiffref04_Right.u15.c (frameL [(0, .slice x0), (3, .slice x1)]) K =
      bailiffref04_Right.u15.f k x0 x1 (fun y0 => K .ret (frameL [(2, .bool y0)])) :=
  by
    have h := bailiffref04_Right.u13.ok k x0 x1 (seqK (fun ρ => evC T (env k) k bailiffref04_Right.u14.c ρ K) K)
    simp only [seqK_normal, seqK_exit, seqK_ret, seqK_pan, bailiffref04_Right.u14.ok] at h
    exact evC_seq_of h
theorem bailiffref04_Right.u16.ok {α : Type} (k : Nat) (x0 : Sl) (K : Ex → Frame → M α) :
    evC T (env k) k bailiffref04_Right.u16.c (frameL [(0, .slice x0)]) K =
      bailiffref04_Right.u16.f k x0 (fun y0 => K .ret (frameL [(2, .bool y0)])) :=
  (bailiffref04_Right.u1.ok k x0 bailiffref04_Right.u15.c K).trans
    (congrArg (fun z => bailiffref04_Right.u1.f k x0 z (fun y0 => K .ret (frameL [(2, .bool y0)]))) (funext fun y0 => (funext fun y1 => bailiffref04_Right.u15.ok k y0 y1 K)))
theorem bailiffref04_Right.ok {α : Type} (k : Nat) (x0 : Sl) (κ : Res → M α) :
    evF T (env k) k bailiffref04_Right.c bailiffref04_Right.res [.slice x0] κ = bailiffref04_Right.f (k + 1) x0 (fun o0 => κ (.ret (.bool o0))) :=
  (bailiffref04_Right.u16.ok k x0 (retK T bailiffref04_Right.res κ)).trans (by kernel_rfl)
theorem bailiffref04_Right.code : bailiffref04_Right.c.code = bodyOf Try.f24 := by kernel_rfl

noncomputable def bailiffref05_Up.c : IC := bailiffref05_Up.u15.c
noncomputable def bailiffref05_Up.res : List ResultVar := [(.tmp 2)]
theorem bailiffref05_Up.u1.ok {α : Type} (k : Nat) (x0 : Sl) (R : IC) (K : Ex → Frame → M α) :
    evC T (env k) k (bailiffref05_Up.u1.c R) (frameL [(0, .slice x0)]) K =
      bailiffref05_Up.u1.f k x0 (fun y0 y1 => evC T (env k) k R (frameL [(0, .slice y0), (3, .slice y1)]) K) := by kernel_rfl
theorem bailiffref05_Up.u2.ok {α : Type} (k : Nat) (x0 : Sl) (x1 : Sl) (R : IC) (K : Ex → Frame → M α) :
    evC T (env k) k (bailiffref05_Up.u2.c R) (frameL [(0, .slice x0), (3, .slice x1)]) K =
      bailiffref05_Up.u2.f k x0 x1 (fun y0 y1 y2 => evC T (env k) k R (frameL [(0, .slice y0), (3, .slice y1), (4, .int .i64 y2)]) K) := by kernel_rfl
theorem bailiffref05_Up.u3.ok {α : Type} (k : Nat) (x0 : Sl) (x1 : Sl) (x2 : Int) (K : Ex → Frame → M α) :
    evC T (env k) k bailiffref05_Up.u3.c (frameL [(0, .slice x0), (3, .slice x1), (4, .int .i64 x2)]) K =
      bailiffref05_Up.u3.f k x0 x1 x2 (fun y0 y1 y2 => K .normal (frameL [(0, .slice y0), (3, .slice y1), (4, .int .i64 y2)])) (fun y0 y1 => K (.exit 0) (frameL [(0, .slice y0), (3, .slice y1)])) := by kernel_rfl
theorem bailiffref05_Up.u4.ls {α : Type} (k : Nat) (kx0 : Sl → Sl → M α) (j : Nat) (x0 : Sl) (x1 : Sl) (x2 : Int) : bailiffref05_Up.u4.l k kx0 (j + 1) x0 x1 x2 =
  bailiffref05_Up.u3.f k x0 x1 x2 (fun y0 y1 y2 => bailiffref05_Up.u4.l k kx0 j y0 y1 y2) kx0 := rfl
theorem bailiffref05_Up.u4.okl {α : Type} (k : Nat) (K : Ex → Frame → M α) : ∀ (j : Nat) (x0 : Sl) (x1 : Sl) (x2 : Int),
    evLoop (evC T (env k) k bailiffref05_Up.u3.c) [0, 3, 4] j (frameL [(0, .slice x0), (3, .slice x1), (4, .int .i64 x2)]) K = bailiffref05_Up.u4.l k (fun y0 y1 => K (.exit 0) (frameL [(0, .slice y0), (3, .slice y1)])) j x0 x1 x2
  | 0, _, _, _ => rfl
  | j + 1, x0, x1, x2 => by
      have h := bailiffref05_Up.u3.ok k x0 x1 x2 (seqK (fun ρ => evLoop (evC T (env k) k bailiffref05_Up.u3.c) [0, 3, 4] j ρ K) K)
      simp only [seqK_exit, seqK_ret, seqK_pan, seqK_normal, bailiffref05_Up.u4.okl k K j] at h
      exact (evLoop_step (by kernel_rfl) h).trans (bailiffref05_Up.u4.ls k (fun y0 y1 => K (.exit 0) (frameL [(0, .slice y0), (3, .slice y1)])) j x0 x1 x2).symm
theorem bailiffref05_Up.u4.ok {α : Type} (k : Nat) (x0 : Sl) (x1 : Sl) (x2 : Int) (K : Ex → Frame → M α) :
    evC T (env k) k bailiffref05_Up.u4.c (frameL [(0, .slice x0), (3, .slice x1), (4, .int .i64 x2)]) K =
      bailiffref05_Up.u4.f k x0 x1 x2 (fun y0 y1 => K (.exit 0) (frameL [(0, .slice y0), (3, .slice y1)])) :=
  evC_loop.trans <| (evLoop_keep (body := evC T (env k) k bailiffref05_Up.u3.c) (keep := [0, 3, 4]) (ρ := (frameL [(0, .slice x0), (3, .slice x1), (4, .int .i64 x2)])) (ρ' := (frameL [(0, .slice x0), (3, .slice x1), (4, .int .i64 x2)])) (by kernel_rfl) k K).trans (bailiffref05_Up.u4.okl k K k x0 x1 x2)
theorem bailiffref05_Up.u5.ok {α : Type} (k : Nat) (x0 : Sl) (x1 : Sl) (x2 : Int) (K : Ex → Frame → M α) :
    evC T (env k) k bailiffref05_Up.u5.c (frameL [(0, .slice x0), (3, .slice x1), (4, .int .i64 x2)]) K =
      bailiffref05_Up.u5.f k x0 x1 x2 (fun y0 y1 => K .normal (frameL [(0, .slice y0), (3, .slice y1)])) :=
  (evC_block.trans (bailiffref05_Up.u4.ok k x0 x1 x2 (blockK 0 K))).trans (by kernel_rfl)
theorem bailiffref05_Up.u6.ok {α : Type} (k : Nat) (x0 : Sl) (x1 : Sl) (K : Ex → Frame → M α) :
    evC T (env k) k bailiffref05_Up.u6.c (frameL [(0, .slice x0), (3, .slice x1)]) K =
      bailiffref05_Up.u6.f k x0 x1 (fun y0 y1 => K .normal (frameL [(0, .slice y0), (3, .slice y1)])) :=
  (bailiffref05_Up.u2.ok k x0 x1 bailiffref05_Up.u5.c K).trans
    (congrArg (fun z => bailiffref05_Up.u2.f k x0 x1 z) (funext fun y0 => (funext fun y1 => (funext fun y2 => bailiffref05_Up.u5.ok k y0 y1 y2 K))))
theorem bailiffref05_Up.u7.ok {α : Type} (k : Nat) (x0 : Sl) (x1 : Sl) (R : IC) (K : Ex → Frame → M α) :
    evC T (env k) k (bailiffref05_Up.u7.c R) (frameL [(0, .slice x0), (3, .slice x1)]) K =
      bailiffref05_Up.u7.f k x0 x1 (fun y0 y1 y2 => evC T (env k) k R (frameL [(0, .slice y0), (3, .slice y1), (5, .int .i64 y2)]) K) := by kernel_rfl
theorem bailiffref05_Up.u8.ok {α : Type} (k : Nat) (x0 : Sl) (x1 : Sl) (x2 : Int) (K : Ex → Frame → M α) :
    evC T (env k) k bailiffref05_Up.u8.c (frameL [(0, .slice x0), (3, .slice x1), (5, .int .i64 x2)]) K =
      bailiffref05_Up.u8.f k x0 x1 x2 (fun y0 y1 y2 => K .normal (frameL [(0, .slice y0), (3, .slice y1), (5, .int .i64 y2)])) (fun y0 => K (.exit 2) (frameL [(3, .slice y0)])) := by kernel_rfl
theorem bailiffref05_Up.u9.ls {α : Type} (k : Nat) (kx2 : Sl → M α) (j : Nat) (x0 : Sl) (x1 : Sl) (x2 : Int) : bailiffref05_Up.u9.l k kx2 (j + 1) x0 x1 x2 =
  bailiffref05_Up.u8.f k x0 x1 x2 (fun y0 y1 y2 => bailiffref05_Up.u9.l k kx2 j y0 y1 y2) kx2 := rfl
theorem bailiffref05_Up.u9.okl {α : Type} (k : Nat) (K : Ex → Frame → M α) : ∀ (j : Nat) (x0 : Sl) (x1 : Sl) (x2 : Int),
    evLoop (evC T (env k) k bailiffref05_Up.u8.c) [0, 3, 5] j (frameL [(0, .slice x0), (3, .slice x1), (5, .int .i64 x2)]) K = bailiffref05_Up.u9.l k (fun y0 => K (.exit 2) (frameL [(3, .slice y0)])) j x0 x1 x2
  | 0, _, _, _ => rfl
  | j + 1, x0, x1, x2 => by
      have h := bailiffref05_Up.u8.ok k x0 x1 x2 (seqK (fun ρ => evLoop (evC T (env k) k bailiffref05_Up.u8.c) [0, 3, 5] j ρ K) K)
      simp only [seqK_exit, seqK_ret, seqK_pan, seqK_normal, bailiffref05_Up.u9.okl k K j] at h
      exact (evLoop_step (by kernel_rfl) h).trans (bailiffref05_Up.u9.ls k (fun y0 => K (.exit 2) (frameL [(3, .slice y0)])) j x0 x1 x2).symm
theorem bailiffref05_Up.u9.ok {α : Type} (k : Nat) (x0 : Sl) (x1 : Sl) (x2 : Int) (K : Ex → Frame → M α) :
    evC T (env k) k bailiffref05_Up.u9.c (frameL [(0, .slice x0), (3, .slice x1), (5, .int .i64 x2)]) K =
      bailiffref05_Up.u9.f k x0 x1 x2 (fun y0 => K (.exit 2) (frameL [(3, .slice y0)])) :=
  evC_loop.trans <| (evLoop_keep (body := evC T (env k) k bailiffref05_Up.u8.c) (keep := [0, 3, 5]) (ρ := (frameL [(0, .slice x0), (3, .slice x1), (5, .int .i64 x2)])) (ρ' := (frameL [(0, .slice x0), (3, .slice x1), (5, .int .i64 x2)])) (by kernel_rfl) k K).trans (bailiffref05_Up.u9.okl k K k x0 x1 x2)
theorem bailiffref05_Up.u10.ok {α : Type} (k : Nat) (x0 : Sl) (x1 : Sl) (x2 : Int) (K : Ex → Frame → M α) :
    evC T (env k) k bailiffref05_Up.u10.c (frameL [(0, .slice x0), (3, .slice x1), (5, .int .i64 x2)]) K =
      bailiffref05_Up.u10.f k x0 x1 x2 (fun y0 => K .normal (frameL [(3, .slice y0)])) :=
  (evC_block.trans (bailiffref05_Up.u9.ok k x0 x1 x2 (blockK 2 K))).trans (by kernel_rfl)
theorem bailiffref05_Up.u11.ok {α : Type} (k : Nat) (x0 : Sl) (x1 : Sl) (K : Ex → Frame → M α) :
    evC T (env k) k bailiffref05_Up.u11.c (frameL [(0, .slice x0), (3, .slice x1)]) K =
      bailiffref05_Up.u11.f k x0 x1 (fun y0 => K .normal (frameL [(3, .slice y0)])) :=
  (bailiffref05_Up.u7.ok k x0 x1 bailiffref05_Up.u10.c K).trans
    (congrArg (fun z => bailiffref05_Up.u7.f k x0 x1 z) (funext fun y0 => (funext fun y1 => (funext fun y2 => bailiffref05_Up.u10.ok k y0 y1 y2 K))))
theorem bailiffref05_Up.u12.ok {α : Type} (k : Nat) (x0 : Sl) (K : Ex → Frame → M α) :
    evC T (env k) k bailiffref05_Up.u12.c (frameL [(3, .slice x0)]) K =
      bailiffref05_Up.u12.f k x0 (fun y0 => K .ret (frameL [(2, .slice y0)])) := by kernel_rfl
theorem bailiffref05_Up.u13.ok {α : Type} (k : Nat) (x0 : Sl) (x1 : Sl) (K : Ex → Frame → M α) :
    evC T (env k) k bailiffref05_Up.u13.c (frameL [(0, .slice x0), (3, .slice x1)]) K =
      bailiffref05_Up.u13.f k x0 x1 (fun y0 => K .ret (frameL [(2, .slice y0)])) :=
  by
    have h := bailiffref05_Up.u11.ok k x0 x1 (seqK (fun ρ => evC T (env k) k bailiffref05_Up.u12.c ρ K) K)
    simp only [seqK_normal, seqK_exit, seqK_ret, seqK_pan, bailiffref05_Up.u12.ok] at h
    exact evC_seq_of h
theorem bailiffref05_Up.u14.ok {α : Type} (k : Nat) (x0 : Sl) (x1 : Sl) (K : Ex → Frame → M α) :
    evC T (env k) k bailiffref05_Up.u14.c (frameL [(0, .slice x0), (3, .slice x1)]) K =
      bailiffref05_Up.u14.f k x0 x1 (fun y0 => K .ret (frameL [(2, .slice y0)])) :=
  by
    have h := bailiffref05_Up.u6.ok k x0 x1 (seqK (fun ρ => evC T (env k) k bailiffref05_Up.u13.c ρ K) K)
    simp only [seqK_normal, seqK_exit, seqK_ret, seqK_pan, bailiffref05_Up.u13.ok] at h
    exact evC_seq_of h
theorem bailiffref05_Up.u15.ok {α : Type} (k : Nat) (x0 : Sl) (K : Ex → Frame → M α) :
    evC T (env k) k bailiffref05_Up.u15.c (frameL [(0, .slice x0)]) K =
      bailiffref05_Up.u15.f k x0 (fun y0 => K .ret (frameL [(2, .slice y0)])) :=
  (bailiffref05_Up.u1.ok k x0 bailiffref05_Up.u14.c K).trans
    (congrArg (fun z => bailiffref05_Up.u1.f k x0 z) (funext fun y0 => (funext fun y1 => bailiffref05_Up.u14.ok k y0 y1 K)))
theorem bailiffref05_Up.ok {α : Type} (k : Nat) (x0 : Sl) (κ : Res → M α) :
    evF T (env k) k bailiffref05_Up.c bailiffref05_Up.res [.slice x0] κ = bailiffref05_Up.f (k + 1) x0 (fun o0 => κ (.ret (.slice o0))) :=
  (bailiffref05_Up.u15.ok k x0 (retK T bailiffref05_Up.res κ)).trans (by kernel_rfl)
theorem bailiffref05_Up.code : bailiffref05_Up.c.code = bodyOf Try.f31 := by kernel_rfl

noncomputable def bailiffref05_Fixpoint.c : IC := bailiffref05_Fixpoint.u1.c
noncomputable def bailiffref05_Fixpoint.res : List ResultVar := [(.tmp 2)]
theorem bailiffref05_Fixpoint.u1.ok {α : Type} (k : Nat) (x0 : Int) (x1 : Int) (x2 : Int) (x3 : List UInt8) (x4 : Int) (K : Ex → Frame → M α) :
    evC T (env k) k bailiffref05_Fixpoint.u1.c (frameL [(0, .agg [.int .i64 x0, .int .i64 x1, .int .i64 x2, .str x3, .int .i64 x4])]) K =
      bailiffref05_Fixpoint.u1.f k x0 x1 x2 x3 x4 (fun y0 => K .ret (frameL [(2, .bool y0)])) := by kernel_rfl
theorem bailiffref05_Fixpoint.ok {α : Type} (k : Nat) (x0 : Int) (x1 : Int) (x2 : Int) (x3 : List UInt8) (x4 : Int) (κ : Res → M α) :
    evF T (env k) k bailiffref05_Fixpoint.c bailiffref05_Fixpoint.res [.agg [.int .i64 x0, .int .i64 x1, .int .i64 x2, .str x3, .int .i64 x4]] κ = bailiffref05_Fixpoint.f (k + 1) x0 x1 x2 x3 x4 (fun o0 => κ (.ret (.bool o0))) :=
  (bailiffref05_Fixpoint.u1.ok k x0 x1 x2 x3 x4 (retK T bailiffref05_Fixpoint.res κ)).trans (by kernel_rfl)
theorem bailiffref05_Fixpoint.code : bailiffref05_Fixpoint.c.code = bodyOf Try.f34 := by kernel_rfl

noncomputable def bailiffref05_deep.c : IC := bailiffref05_deep.u16.c
noncomputable def bailiffref05_deep.res : List ResultVar := [(.tmp 2)]
theorem bailiffref05_deep.u1.ok {α : Type} (k : Nat) (x0 : Sl) (R : IC) (K : Ex → Frame → M α) :
    evC T (env k) k (bailiffref05_deep.u1.c R) (frameL [(0, .slice x0)]) K =
      bailiffref05_deep.u1.f k x0 (fun y0 y1 => evC T (env k) k R (frameL [(0, .slice y0), (3, .slice y1)]) K) := by kernel_rfl
theorem bailiffref05_deep.u2.ok {α : Type} (k : Nat) (x0 : Sl) (x1 : Sl) (R : IC) (K : Ex → Frame → M α) :
    evC T (env k) k (bailiffref05_deep.u2.c R) (frameL [(0, .slice x0), (3, .slice x1)]) K =
      bailiffref05_deep.u2.f k x0 x1 (fun y0 y1 y2 => evC T (env k) k R (frameL [(0, .slice y0), (3, .slice y1), (4, .int .i64 y2)]) K) := by kernel_rfl
theorem bailiffref05_deep.u3.ok {α : Type} (k : Nat) (x0 : Sl) (x1 : Sl) (x2 : Int) (R : IC) (K : Ex → Frame → M α) :
    evC T (env k) k (bailiffref05_deep.u3.c R) (frameL [(0, .slice x0), (3, .slice x1), (4, .int .i64 x2)]) K =
      bailiffref05_deep.u3.f k x0 x1 x2 (fun y0 y1 y2 => evC T (env k) k R (frameL [(0, .slice y0), (3, .slice y1), (4, .int .i64 y2)]) K) (fun y0 => K (.exit 0) (frameL [(3, .slice y0)])) := by kernel_rfl
theorem bailiffref05_deep.u4.ok {α : Type} (k : Nat) (x0 : Sl) (x1 : Sl) (x2 : Int) (R : IC) (K : Ex → Frame → M α) :
    evC T (env k) k (bailiffref05_deep.u4.c R) (frameL [(0, .slice x0), (3, .slice x1), (4, .int .i64 x2)]) K =
      bailiffref05_deep.u4.f k x0 x1 x2 (fun y0 y1 y2 y3 => evC T (env k) k R (frameL [(0, .slice y0), (3, .slice y1), (4, .int .i64 y2), (5, .int .i64 y3)]) K) := by kernel_rfl
theorem bailiffref05_deep.u5.ok {α : Type} (k : Nat) (x0 : Sl) (x1 : Sl) (x2 : Int) (x3 : Int) (K : Ex → Frame → M α) :
    evC T (env k) k bailiffref05_deep.u5.c (frameL [(0, .slice x0), (3, .slice x1), (4, .int .i64 x2), (5, .int .i64 x3)]) K =
      bailiffref05_deep.u5.f k x0 x1 x2 x3 (fun y0 y1 y2 => K .normal (frameL [(0, .slice y0), (3, .slice y1), (4, .int .i64 y2)])) := by kernel_rfl
theorem bailiffref05_deep.u6.ok {α : Type} (k : Nat) (x0 : Sl) (x1 : Sl) (x2 : Int) (K : Ex → Frame → M α) :
    evC T (env k) k bailiffref05_deep.u6.c (frameL [(0, .slice x0), (3, .slice x1), (4, .int .i64 x2)]) K =
      bailiffref05_deep.u6.f k x0 x1 x2 (fun y0 y1 y2 => K .normal (frameL [(0, .slice y0), (3, .slice y1), (4, .int .i64 y2)])) :=
  (bailiffref05_deep.u4.ok k x0 x1 x2 bailiffref05_deep.u5.c K).trans
    (congrArg (fun z => bailiffref05_deep.u4.f k x0 x1 x2 z) (funext fun y0 => (funext fun y1 => (funext fun y2 => (funext fun y3 => bailiffref05_deep.u5.ok k y0 y1 y2 y3 K)))))
theorem bailiffref05_deep.u7.ok {α : Type} (k : Nat) (x0 : Sl) (x1 : Sl) (x2 : Int) (K : Ex → Frame → M α) :
    evC T (env k) k bailiffref05_deep.u7.c (frameL [(0, .slice x0), (3, .slice x1), (4, .int .i64 x2)]) K =
      bailiffref05_deep.u7.f k x0 x1 x2 (fun y0 y1 y2 => K .normal (frameL [(0, .slice y0), (3, .slice y1), (4, .int .i64 y2)])) :=
  (evC_block.trans (bailiffref05_deep.u6.ok k x0 x1 x2 (blockK 1 K))).trans (by kernel_rfl)
theorem bailiffref05_deep.u8.ok {α : Type} (k : Nat) (x0 : Sl) (x1 : Sl) (x2 : Int) (K : Ex → Frame → M α) :
    evC T (env k) k bailiffref05_deep.u8.c (frameL [(0, .slice x0), (3, .slice x1), (4, .int .i64 x2)]) K =
      bailiffref05_deep.u8.f k x0 x1 x2 (fun y0 y1 y2 => K .normal (frameL [(0, .slice y0), (3, .slice y1), (4, .int .i64 y2)])) := by kernel_rfl
theorem bailiffref05_deep.u9.ok {α : Type} (k : Nat) (x0 : Sl) (x1 : Sl) (x2 : Int) (K : Ex → Frame → M α) :
    evC T (env k) k bailiffref05_deep.u9.c (frameL [(0, .slice x0), (3, .slice x1), (4, .int .i64 x2)]) K =
      bailiffref05_deep.u9.f k x0 x1 x2 (fun y0 y1 y2 => K .normal (frameL [(0, .slice y0), (3, .slice y1), (4, .int .i64 y2)])) :=
  by
    have h := bailiffref05_deep.u7.ok k x0 x1 x2 (seqK (fun ρ => evC T (env k) k bailiffref05_deep.u8.c ρ K) K)
    simp only [seqK_normal, seqK_exit, seqK_ret, seqK_pan, bailiffref05_deep.u8.ok] at h
    exact evC_seq_of h
theorem bailiffref05_deep.u10.ok {α : Type} (k : Nat) (x0 : Sl) (x1 : Sl) (x2 : Int) (K : Ex → Frame → M α) :
    evC T (env k) k bailiffref05_deep.u10.c (frameL [(0, .slice x0), (3, .slice x1), (4, .int .i64 x2)]) K =
      bailiffref05_deep.u10.f k x0 x1 x2 (fun y0 y1 y2 => K .normal (frameL [(0, .slice y0), (3, .slice y1), (4, .int .i64 y2)])) (fun y0 => K (.exit 0) (frameL [(3, .slice y0)])) :=
  (bailiffref05_deep.u3.ok k x0 x1 x2 bailiffref05_deep.u9.c K).trans
    (congrArg (fun z => bailiffref05_deep.u3.f k x0 x1 x2 z (fun y0 => K (.exit 0) (frameL [(3, .slice y0)]))) (funext fun y0 => (funext fun y1 => (funext fun y2 => bailiffref05_deep.u9.ok k y0 y1 y2 K))))
theorem bailiffref05_deep.u11.ls {α : Type} (k : Nat) (kx0 : Sl → M α) (j : Nat) (x0 : Sl) (x1 : Sl) (x2 : Int) : bailiffref05_deep.u11.l k kx0 (j + 1) x0 x1 x2 =
  bailiffref05_deep.u10.f k x0 x1 x2 (fun y0 y1 y2 => bailiffref05_deep.u11.l k kx0 j y0 y1 y2) kx0 := rfl
theorem bailiffref05_deep.u11.okl {α : Type} (k : Nat) (K : Ex → Frame → M α) : ∀ (j : Nat) (x0 : Sl) (x1 : Sl) (x2 : Int),
    evLoop (evC T (env k) k bailiffref05_deep.u10.c) [0, 3, 4] j (frameL [(0, .slice x0), (3, .slice x1), (4, .int .i64 x2)]) K = bailiffref05_deep.u11.l k (fun y0 => K (.exit 0) (frameL [(3, .slice y0)])) j x0 x1 x2
  | 0, _, _, _ => rfl
  | j + 1, x0, x1, x2 => by
      have h := bailiffref05_deep.u10.ok k x0 x1 x2 (seqK (fun ρ => evLoop (evC T (env k) k bailiffref05_deep.u10.c) [0, 3, 4] j ρ K) K)
      simp only [seqK_exit, seqK_ret, seqK_pan, seqK_normal, bailiffref05_deep.u11.okl k K j] at h
      exact (evLoop_step (by kernel_rfl) h).trans (bailiffref05_deep.u11.ls k (fun y0 => K (.exit 0) (frameL [(3, .slice y0)])) j x0 x1 x2).symm
theorem bailiffref05_deep.u11.ok {α : Type} (k : Nat) (x0 : Sl) (x1 : Sl) (x2 : Int) (K : Ex → Frame → M α) :
    evC T (env k) k bailiffref05_deep.u11.c (frameL [(0, .slice x0), (3, .slice x1), (4, .int .i64 x2)]) K =
      bailiffref05_deep.u11.f k x0 x1 x2 (fun y0 => K (.exit 0) (frameL [(3, .slice y0)])) :=
  evC_loop.trans <| (evLoop_keep (body := evC T (env k) k bailiffref05_deep.u10.c) (keep := [0, 3, 4]) (ρ := (frameL [(0, .slice x0), (3, .slice x1), (4, .int .i64 x2)])) (ρ' := (frameL [(0, .slice x0), (3, .slice x1), (4, .int .i64 x2)])) (by kernel_rfl) k K).trans (bailiffref05_deep.u11.okl k K k x0 x1 x2)
theorem bailiffref05_deep.u12.ok {α : Type} (k : Nat) (x0 : Sl) (x1 : Sl) (x2 : Int) (K : Ex → Frame → M α) :
    evC T (env k) k bailiffref05_deep.u12.c (frameL [(0, .slice x0), (3, .slice x1), (4, .int .i64 x2)]) K =
      bailiffref05_deep.u12.f k x0 x1 x2 (fun y0 => K .normal (frameL [(3, .slice y0)])) :=
  (evC_block.trans (bailiffref05_deep.u11.ok k x0 x1 x2 (blockK 0 K))).trans (by kernel_rfl)
theorem bailiffref05_deep.u13.ok {α : Type} (k : Nat) (x0 : Sl) (x1 : Sl) (K : Ex → Frame → M α) :
    evC T (env k) k bailiffref05_deep.u13.c (frameL [(0, .slice x0), (3, .slice x1)]) K =
      bailiffref05_deep.u13.f k x0 x1 (fun y0 => K .normal (frameL [(3, .slice y0)])) :=
  (bailiffref05_deep.u2.ok k x0 x1 bailiffref05_deep.u12.c K).trans
    (congrArg (fun z => bailiffref05_deep.u2.f k x0 x1 z) (funext fun y0 => (funext fun y1 => (funext fun y2 => bailiffref05_deep.u12.ok k y0 y1 y2 K))))
theorem bailiffref05_deep.u14.ok {α : Type} (k : Nat) (x0 : Sl) (K : Ex → Frame → M α) :
    evC T (env k) k bailiffref05_deep.u14.c (frameL [(3, .slice x0)]) K =
      bailiffref05_deep.u14.f k x0 (fun y0 => K .ret (frameL [(2, .slice y0)])) := by kernel_rfl
theorem bailiffref05_deep.u15.ok {α : Type} (k : Nat) (x0 : Sl) (x1 : Sl) (K : Ex → Frame → M α) :
    evC T (env k) k bailiffref05_deep.u15.c (frameL [(0, .slice x0), (3, .slice x1)]) K =
      bailiffref05_deep.u15.f k x0 x1 (fun y0 => K .ret (frameL [(2, .slice y0)])) :=
  by
    have h := bailiffref05_deep.u13.ok k x0 x1 (seqK (fun ρ => evC T (env k) k bailiffref05_deep.u14.c ρ K) K)
    simp only [seqK_normal, seqK_exit, seqK_ret, seqK_pan, bailiffref05_deep.u14.ok] at h
    exact evC_seq_of h
theorem bailiffref05_deep.u16.ok {α : Type} (k : Nat) (x0 : Sl) (K : Ex → Frame → M α) :
    evC T (env k) k bailiffref05_deep.u16.c (frameL [(0, .slice x0)]) K =
      bailiffref05_deep.u16.f k x0 (fun y0 => K .ret (frameL [(2, .slice y0)])) :=
  (bailiffref05_deep.u1.ok k x0 bailiffref05_deep.u15.c K).trans
    (congrArg (fun z => bailiffref05_deep.u1.f k x0 z) (funext fun y0 => (funext fun y1 => bailiffref05_deep.u15.ok k y0 y1 K)))
theorem bailiffref05_deep.ok {α : Type} (k : Nat) (x0 : Sl) (κ : Res → M α) :
    evF T (env k) k bailiffref05_deep.c bailiffref05_deep.res [.slice x0] κ = bailiffref05_deep.f (k + 1) x0 (fun o0 => κ (.ret (.slice o0))) :=
  (bailiffref05_deep.u16.ok k x0 (retK T bailiffref05_deep.res κ)).trans (by kernel_rfl)
theorem bailiffref05_deep.code : bailiffref05_deep.c.code = bodyOf Try.f32 := by kernel_rfl

noncomputable def bailiffref05_binder.c : IC := bailiffref05_binder.u9.c
noncomputable def bailiffref05_binder.res : List ResultVar := [(.tmp 6), (.tmp 7)]
theorem bailiffref05_binder.u1.ok {α : Type} (k : Nat) (x0 : Sl) (x1 : Sl) (x2 : Int) (R : IC) (K : Ex → Frame → M α) :
    evC T (env k) k (bailiffref05_binder.u1.c R) (frameL [(0, .slice x0), (1, .slice x1), (2, .int .i64 x2)]) K =
      bailiffref05_binder.u1.f k x0 x1 x2 (fun y0 y1 y2 y3 => evC T (env k) k R (frameL [(0, .slice y0), (1, .slice y1), (2, .int .i64 y2), (8, .int .i64 y3)]) K) := by kernel_rfl
theorem bailiffref05_binder.u2.ok {α : Type} (k : Nat) (x0 : Sl) (x1 : Sl) (x2 : Int) (x3 : Int) (R : IC) (K : Ex → Frame → M α) :
    evC T (env k) k (bailiffref05_binder.u2.c R) (frameL [(0, .slice x0), (1, .slice x1), (2, .int .i64 x2), (8, .int .i64 x3)]) K =
      bailiffref05_binder.u2.f k x0 x1 x2 x3 (fun y0 y1 y2 y3 y4 => evC T (env k) k R (frameL [(0, .slice y0), (1, .slice y1), (2, .int .i64 y2), (8, .int .i64 y3), (9, .int .i64 y4)]) K) := by kernel_rfl
theorem bailiffref05_binder.u3.ok {α : Type} (k : Nat) (x0 : Sl) (x1 : Sl) (x2 : Int) (x3 : Int) (x4 : Int) (K : Ex → Frame → M α) :
    evC T (env k) k bailiffref05_binder.u3.c (frameL [(0, .slice x0), (1, .slice x1), (2, .int .i64 x2), (8, .int .i64 x3), (9, .int .i64 x4)]) K =
      bailiffref05_binder.u3.f k x0 x1 x2 x3 x4 (fun y0 y1 y2 y3 y4 => K .normal (frameL [(0, .slice y0), (1, .slice y1), (2, .int .i64 y2), (8, .int .i64 y3), (9, .int .i64 y4)])) (fun y0 y1 => K .ret (frameL [(6, .int .i64 y0), (7, .int .i64 y1)])) (K (.exit 0) (frameL [])) := by kernel_rfl
theorem bailiffref05_binder.u4.ls {α : Type} (k : Nat) (kr : Int → Int → M α) (kx0 : M α) (j : Nat) (x0 : Sl) (x1 : Sl) (x2 : Int) (x3 : Int) (x4 : Int) : bailiffref05_binder.u4.l k kr kx0 (j + 1) x0 x1 x2 x3 x4 =
  bailiffref05_binder.u3.f k x0 x1 x2 x3 x4 (fun y0 y1 y2 y3 y4 => bailiffref05_binder.u4.l k kr kx0 j y0 y1 y2 y3 y4) kr kx0 := rfl
theorem bailiffref05_binder.u4.okl {α : Type} (k : Nat) (K : Ex → Frame → M α) : ∀ (j : Nat) (x0 : Sl) (x1 : Sl) (x2 : Int) (x3 : Int) (x4 : Int),
    evLoop (evC T (env k) k bailiffref05_binder.u3.c) [0, 1, 2, 8, 9] j (frameL [(0, .slice x0), (1, .slice x1), (2, .int .i64 x2), (8, .int .i64 x3), (9, .int .i64 x4)]) K = bailiffref05_binder.u4.l k (fun y0 y1 => K .ret (frameL [(6, .int .i64 y0), (7, .int .i64 y1)])) (K (.exit 0) (frameL [])) j x0 x1 x2 x3 x4
  | 0, _, _, _, _, _ => rfl
  | j + 1, x0, x1, x2, x3, x4 => by
      have h := bailiffref05_binder.u3.ok k x0 x1 x2 x3 x4 (seqK (fun ρ => evLoop (evC T (env k) k bailiffref05_binder.u3.c) [0, 1, 2, 8, 9] j ρ K) K)
      simp only [seqK_exit, seqK_ret, seqK_pan, seqK_normal, bailiffref05_binder.u4.okl k K j] at h
      exact (evLoop_step (by kernel_rfl) h).trans (bailiffref05_binder.u4.ls k (fun y0 y1 => K .ret (frameL [(6, .int .i64 y0), (7, .int .i64 y1)])) (K (.exit 0) (frameL [])) j x0 x1 x2 x3 x4).symm
theorem bailiffref05_binder.u4.ok {α : Type} (k : Nat) (x0 : Sl) (x1 : Sl) (x2 : Int) (x3 : Int) (x4 : Int) (K : Ex → Frame → M α) :
    evC T (env k) k bailiffref05_binder.u4.c (frameL [(0, .slice x0), (1, .slice x1), (2, .int .i64 x2), (8, .int .i64 x3), (9, .int .i64 x4)]) K =
      bailiffref05_binder.u4.f k x0 x1 x2 x3 x4 (fun y0 y1 => K .ret (frameL [(6, .int .i64 y0), (7, .int .i64 y1)])) (K (.exit 0) (frameL [])) :=
  evC_loop.trans <| (evLoop_keep (body := evC T (env k) k bailiffref05_binder.u3.c) (keep := [0, 1, 2, 8, 9]) (ρ := (frameL [(0, .slice x0), (1, .slice x1), (2, .int .i64 x2), (8, .int .i64 x3), (9, .int .i64 x4)])) (ρ' := (frameL [(0, .slice x0), (1, .slice x1), (2, .int .i64 x2), (8, .int .i64 x3), (9, .int .i64 x4)])) (by kernel_rfl) k K).trans (bailiffref05_binder.u4.okl k K k x0 x1 x2 x3 x4)
theorem bailiffref05_binder.u5.ok {α : Type} (k : Nat) (x0 : Sl) (x1 : Sl) (x2 : Int) (x3 : Int) (x4 : Int) (K : Ex → Frame → M α) :
    evC T (env k) k bailiffref05_binder.u5.c (frameL [(0, .slice x0), (1, .slice x1), (2, .int .i64 x2), (8, .int .i64 x3), (9, .int .i64 x4)]) K =
      bailiffref05_binder.u5.f k x0 x1 x2 x3 x4 (K .normal (frameL [])) (fun y0 y1 => K .ret (frameL [(6, .int .i64 y0), (7, .int .i64 y1)])) :=
  (evC_block.trans (bailiffref05_binder.u4.ok k x0 x1 x2 x3 x4 (blockK 0 K))).trans (by kernel_rfl)
theorem bailiffref05_binder.u6.ok {α : Type} (k : Nat) (x0 : Sl) (x1 : Sl) (x2 : Int) (x3 : Int) (K : Ex → Frame → M α) :
    evC T (env k) k bailiffref05_binder.u6.c (frameL [(0, .slice x0), (1, .slice x1), (2, .int .i64 x2), (8, .int .i64 x3)]) K =
      bailiffref05_binder.u6.f k x0 x1 x2 x3 (K .normal (frameL [])) (fun y0 y1 => K .ret (frameL [(6, .int .i64 y0), (7, .int .i64 y1)])) :=
  (bailiffref05_binder.u2.ok k x0 x1 x2 x3 bailiffref05_binder.u5.c K).trans
    (congrArg (fun z => bailiffref05_binder.u2.f k x0 x1 x2 x3 z) (funext fun y0 => (funext fun y1 => (funext fun y2 => (funext fun y3 => (funext fun y4 => bailiffref05_binder.u5.ok k y0 y1 y2 y3 y4 K))))))
theorem bailiffref05_binder.u7.ok {α : Type} (k : Nat) (K : Ex → Frame → M α) :
    evC T (env k) k bailiffref05_binder.u7.c (frameL []) K =
      bailiffref05_binder.u7.f k (fun y0 y1 => K .ret (frameL [(6, .int .i64 y0), (7, .int .i64 y1)])) := by kernel_rfl
theorem bailiffref05_binder.u8.ok {α : Type} (k : Nat) (x0 : Sl) (x1 : Sl) (x2 : Int) (x3 : Int) (K : Ex → Frame → M α) :
    evC T (env k) k bailiffref05_binder.u8.c (frameL [(0, .slice x0), (1, .slice x1), (2, .int .i64 x2), (8, .int .i64 x3)]) K =
      bailiffref05_binder.u8.f k x0 x1 x2 x3 (fun y0 y1 => K .ret (frameL [(6, .int .i64 y0), (7, .int .i64 y1)])) :=
  by
    have h := bailiffref05_binder.u6.ok k x0 x1 x2 x3 (seqK (fun ρ => evC T (env k) k bailiffref05_binder.u7.c ρ K) K)
    simp only [seqK_normal, seqK_exit, seqK_ret, seqK_pan, bailiffref05_binder.u7.ok] at h
    exact evC_seq_of h
theorem bailiffref05_binder.u9.ok {α : Type} (k : Nat) (x0 : Sl) (x1 : Sl) (x2 : Int) (K : Ex → Frame → M α) :
    evC T (env k) k bailiffref05_binder.u9.c (frameL [(0, .slice x0), (1, .slice x1), (2, .int .i64 x2)]) K =
      bailiffref05_binder.u9.f k x0 x1 x2 (fun y0 y1 => K .ret (frameL [(6, .int .i64 y0), (7, .int .i64 y1)])) :=
  (bailiffref05_binder.u1.ok k x0 x1 x2 bailiffref05_binder.u8.c K).trans
    (congrArg (fun z => bailiffref05_binder.u1.f k x0 x1 x2 z) (funext fun y0 => (funext fun y1 => (funext fun y2 => (funext fun y3 => bailiffref05_binder.u8.ok k y0 y1 y2 y3 K)))))
theorem bailiffref05_binder.ok {α : Type} (k : Nat) (x0 : Sl) (x1 : Sl) (x2 : Int) (κ : Res → M α) :
    evF T (env k) k bailiffref05_binder.c bailiffref05_binder.res [.slice x0, .slice x1, .int .i64 x2] κ = bailiffref05_binder.f (k + 1) x0 x1 x2 (fun o0 o1 => κ (.ret (.tuple [.int .i64 o0, .int .i64 o1]))) :=
  (bailiffref05_binder.u9.ok k x0 x1 x2 (retK T bailiffref05_binder.res κ)).trans (by kernel_rfl)
theorem bailiffref05_binder.code : bailiffref05_binder.c.code = bodyOf Try.f33 := by kernel_rfl

noncomputable def bailiffref05_Check.c : IC := bailiffref05_Check.u24.c
noncomputable def bailiffref05_Check.res : List ResultVar := [(.tmp 2), (.tmp 3)]
theorem bailiffref05_Check.u1.ok {α : Type} (k : Nat) (x0 : Sl) (R : IC) (K : Ex → Frame → M α) :
    evC T (env k) k (bailiffref05_Check.u1.c R) (frameL [(0, .slice x0)]) K =
      bailiffref05_Check.u1.f k x0 (fun y0 y1 y2 => evC T (env k) k R (frameL [(0, .slice y0), (5, .slice y1), (6, .slice y2)]) K) (fun y0 y1 => K .ret (frameL [(2, .int .i64 y0), (3, .int .i64 y1)])) := by kernel_rfl
theorem bailiffref05_Check.u2.ok {α : Type} (k : Nat) (x0 : Sl) (x1 : Sl) (x2 : Sl) (R : IC) (K : Ex → Frame → M α) :
    evC T (env k) k (bailiffref05_Check.u2.c R) (frameL [(0, .slice x0), (5, .slice x1), (6, .slice x2)]) K =
      bailiffref05_Check.u2.f k x0 x1 x2 (fun y0 y1 y2 y3 => evC T (env k) k R (frameL [(0, .slice y0), (5, .slice y1), (6, .slice y2), (7, .int .i64 y3)]) K) := by kernel_rfl
theorem bailiffref05_Check.u3.ok {α : Type} (k : Nat) (x0 : Sl) (x1 : Sl) (x2 : Sl) (x3 : Int) (R : IC) (K : Ex → Frame → M α) :
    evC T (env k) k (bailiffref05_Check.u3.c R) (frameL [(0, .slice x0), (5, .slice x1), (6, .slice x2), (7, .int .i64 x3)]) K =
      bailiffref05_Check.u3.f k x0 x1 x2 x3 (fun y0 y1 y2 y3 => evC T (env k) k R (frameL [(0, .slice y0), (5, .slice y1), (6, .slice y2), (7, .int .i64 y3)]) K) (K (.exit 0) (frameL [])) := by kernel_rfl
theorem bailiffref05_Check.u4.ok {α : Type} (k : Nat) (x0 : Sl) (x1 : Sl) (x2 : Sl) (x3 : Int) (R : IC) (K : Ex → Frame → M α) :
    evC T (env k) k (bailiffref05_Check.u4.c R) (frameL [(0, .slice x0), (5, .slice x1), (6, .slice x2), (7, .int .i64 x3)]) K =
      bailiffref05_Check.u4.f k x0 x1 x2 x3 (fun y0 y1 y2 y3 => evC T (env k) k R (frameL [(0, .slice y0), (5, .slice y1), (6, .slice y2), (7, .int .i64 y3)]) K) (fun y0 y1 => K .ret (frameL [(2, .int .i64 y0), (3, .int .i64 y1)])) := by kernel_rfl
theorem bailiffref05_Check.u5.ok {α : Type} (k : Nat) (x0 : Sl) (x1 : Sl) (x2 : Sl) (x3 : Int) (R : IC) (K : Ex → Frame → M α) :
    evC T (env k) k (bailiffref05_Check.u5.c R) (frameL [(0, .slice x0), (5, .slice x1), (6, .slice x2), (7, .int .i64 x3)]) K =
      bailiffref05_Check.u5.f k x0 x1 x2 x3 (fun y0 y1 y2 y3 => evC T (env k) k R (frameL [(0, .slice y0), (5, .slice y1), (6, .slice y2), (7, .int .i64 y3)]) K) (fun y0 y1 y2 y3 => K (.exit 1) (frameL [(0, .slice y0), (5, .slice y1), (6, .slice y2), (7, .int .i64 y3)])) := by kernel_rfl
theorem bailiffref05_Check.u6.ok {α : Type} (k : Nat) (x0 : Sl) (x1 : Sl) (x2 : Sl) (x3 : Int) (R : IC) (K : Ex → Frame → M α) :
    evC T (env k) k (bailiffref05_Check.u6.c R) (frameL [(0, .slice x0), (5, .slice x1), (6, .slice x2), (7, .int .i64 x3)]) K =
      bailiffref05_Check.u6.f k x0 x1 x2 x3 (fun y0 y1 y2 y3 y4 => evC T (env k) k R (frameL [(0, .slice y0), (5, .slice y1), (6, .slice y2), (7, .int .i64 y3), (11, .int .i64 y4)]) K) := by kernel_rfl
theorem bailiffref05_Check.u7.ok {α : Type} (k : Nat) (x0 : Sl) (x1 : Sl) (x2 : Sl) (x3 : Int) (x4 : Int) (K : Ex → Frame → M α) :
    evC T (env k) k bailiffref05_Check.u7.c (frameL [(0, .slice x0), (5, .slice x1), (6, .slice x2), (7, .int .i64 x3), (11, .int .i64 x4)]) K =
      bailiffref05_Check.u7.f k x0 x1 x2 x3 x4 (fun y0 y1 y2 y3 y4 => K .normal (frameL [(0, .slice y0), (5, .slice y1), (6, .slice y2), (7, .int .i64 y3), (11, .int .i64 y4)])) (fun y0 y1 => K .ret (frameL [(2, .int .i64 y0), (3, .int .i64 y1)])) (fun y0 y1 y2 y3 => K (.exit 2) (frameL [(0, .slice y0), (5, .slice y1), (6, .slice y2), (7, .int .i64 y3)])) := by kernel_rfl
theorem bailiffref05_Check.u8.ls {α : Type} (k : Nat) (kr : Int → Int → M α) (kx2 : Sl → Sl → Sl → Int → M α) (j : Nat) (x0 : Sl) (x1 : Sl) (x2 : Sl) (x3 : Int) (x4 : Int) : bailiffref05_Check.u8.l k kr kx2 (j + 1) x0 x1 x2 x3 x4 =
  bailiffref05_Check.u7.f k x0 x1 x2 x3 x4 (fun y0 y1 y2 y3 y4 => bailiffref05_Check.u8.l k kr kx2 j y0 y1 y2 y3 y4) kr kx2 := rfl
theorem bailiffref05_Check.u8.okl {α : Type} (k : Nat) (K : Ex → Frame → M α) : ∀ (j : Nat) (x0 : Sl) (x1 : Sl) (x2 : Sl) (x3 : Int) (x4 : Int),
    evLoop (evC T (env k) k bailiffref05_Check.u7.c) [0, 5, 6, 7, 11] j (frameL [(0, .slice x0), (5, .slice x1), (6, .slice x2), (7, .int .i64 x3), (11, .int .i64 x4)]) K = bailiffref05_Check.u8.l k (fun y0 y1 => K .ret (frameL [(2, .int .i64 y0), (3, .int .i64 y1)])) (fun y0 y1 y2 y3 => K (.exit 2) (frameL [(0, .slice y0), (5, .slice y1), (6, .slice y2), (7, .int .i64 y3)])) j x0 x1 x2 x3 x4
  | 0, _, _, _, _, _ => rfl
  | j + 1, x0, x1, x2, x3, x4 => by
      have h := bailiffref05_Check.u7.ok k x0 x1 x2 x3 x4 (seqK (fun ρ => evLoop (evC T (env k) k bailiffref05_Check.u7.c) [0, 5, 6, 7, 11] j ρ K) K)
      simp only [seqK_exit, seqK_ret, seqK_pan, seqK_normal, bailiffref05_Check.u8.okl k K j] at h
      exact (evLoop_step (by kernel_rfl) h).trans (bailiffref05_Check.u8.ls k (fun y0 y1 => K .ret (frameL [(2, .int .i64 y0), (3, .int .i64 y1)])) (fun y0 y1 y2 y3 => K (.exit 2) (frameL [(0, .slice y0), (5, .slice y1), (6, .slice y2), (7, .int .i64 y3)])) j x0 x1 x2 x3 x4).symm
theorem bailiffref05_Check.u8.ok {α : Type} (k : Nat) (x0 : Sl) (x1 : Sl) (x2 : Sl) (x3 : Int) (x4 : Int) (K : Ex → Frame → M α) :
    evC T (env k) k bailiffref05_Check.u8.c (frameL [(0, .slice x0), (5, .slice x1), (6, .slice x2), (7, .int .i64 x3), (11, .int .i64 x4)]) K =
      bailiffref05_Check.u8.f k x0 x1 x2 x3 x4 (fun y0 y1 => K .ret (frameL [(2, .int .i64 y0), (3, .int .i64 y1)])) (fun y0 y1 y2 y3 => K (.exit 2) (frameL [(0, .slice y0), (5, .slice y1), (6, .slice y2), (7, .int .i64 y3)])) :=
  evC_loop.trans <| (evLoop_keep (body := evC T (env k) k bailiffref05_Check.u7.c) (keep := [0, 5, 6, 7, 11]) (ρ := (frameL [(0, .slice x0), (5, .slice x1), (6, .slice x2), (7, .int .i64 x3), (11, .int .i64 x4)])) (ρ' := (frameL [(0, .slice x0), (5, .slice x1), (6, .slice x2), (7, .int .i64 x3), (11, .int .i64 x4)])) (by kernel_rfl) k K).trans (bailiffref05_Check.u8.okl k K k x0 x1 x2 x3 x4)
theorem bailiffref05_Check.u9.ok {α : Type} (k : Nat) (x0 : Sl) (x1 : Sl) (x2 : Sl) (x3 : Int) (x4 : Int) (K : Ex → Frame → M α) :
    evC T (env k) k bailiffref05_Check.u9.c (frameL [(0, .slice x0), (5, .slice x1), (6, .slice x2), (7, .int .i64 x3), (11, .int .i64 x4)]) K =
      bailiffref05_Check.u9.f k x0 x1 x2 x3 x4 (fun y0 y1 y2 y3 => K .normal (frameL [(0, .slice y0), (5, .slice y1), (6, .slice y2), (7, .int .i64 y3)])) (fun y0 y1 => K .ret (frameL [(2, .int .i64 y0), (3, .int .i64 y1)])) :=
  (evC_block.trans (bailiffref05_Check.u8.ok k x0 x1 x2 x3 x4 (blockK 2 K))).trans (by kernel_rfl)
theorem bailiffref05_Check.u10.ok {α : Type} (k : Nat) (x0 : Sl) (x1 : Sl) (x2 : Sl) (x3 : Int) (K : Ex → Frame → M α) :
    evC T (env k) k bailiffref05_Check.u10.c (frameL [(0, .slice x0), (5, .slice x1), (6, .slice x2), (7, .int .i64 x3)]) K =
      bailiffref05_Check.u10.f k x0 x1 x2 x3 (fun y0 y1 y2 y3 => K .normal (frameL [(0, .slice y0), (5, .slice y1), (6, .slice y2), (7, .int .i64 y3)])) (fun y0 y1 => K .ret (frameL [(2, .int .i64 y0), (3, .int .i64 y1)])) :=
  (bailiffref05_Check.u6.ok k x0 x1 x2 x3 bailiffref05_Check.u9.c K).trans
    (congrArg (fun z => bailiffref05_Check.u6.f k x0 x1 x2 x3 z) (funext fun y0 => (funext fun y1 => (funext fun y2 => (funext fun y3 => (funext fun y4 => bailiffref05_Check.u9.ok k y0 y1 y2 y3 y4 K))))))
theorem bailiffref05_Check.u11.ok {α : Type} (k : Nat) (x0 : Sl) (x1 : Sl) (x2 : Sl) (x3 : Int) (K : Ex → Frame → M α) :
    evC T (env k) k bailiffref05_Check.u11.c (frameL [(0, .slice x0), (5, .slice x1), (6, .slice x2), (7, .int .i64 x3)]) K =
      bailiffref05_Check.u11.f k x0 x1 x2 x3 (fun y0 y1 y2 y3 => K .normal (frameL [(0, .slice y0), (5, .slice y1), (6, .slice y2), (7, .int .i64 y3)])) (fun y0 y1 => K .ret (frameL [(2, .int .i64 y0), (3, .int .i64 y1)])) := by kernel_rfl
theorem bailiffref05_Check.u12.ok {α : Type} (k : Nat) (x0 : Sl) (x1 : Sl) (x2 : Sl) (x3 : Int) (K : Ex → Frame → M α) :
    evC T (env k) k bailiffref05_Check.u12.c (frameL [(0, .slice x0), (5, .slice x1), (6, .slice x2), (7, .int .i64 x3)]) K =
      bailiffref05_Check.u12.f k x0 x1 x2 x3 (fun y0 y1 y2 y3 => K .normal (frameL [(0, .slice y0), (5, .slice y1), (6, .slice y2), (7, .int .i64 y3)])) (fun y0 y1 => K .ret (frameL [(2, .int .i64 y0), (3, .int .i64 y1)])) :=
  by
    have h := bailiffref05_Check.u10.ok k x0 x1 x2 x3 (seqK (fun ρ => evC T (env k) k bailiffref05_Check.u11.c ρ K) K)
    simp only [seqK_normal, seqK_exit, seqK_ret, seqK_pan, bailiffref05_Check.u11.ok] at h
    exact evC_seq_of h
theorem bailiffref05_Check.u13.ok {α : Type} (k : Nat) (x0 : Sl) (x1 : Sl) (x2 : Sl) (x3 : Int) (K : Ex → Frame → M α) :
    evC T (env k) k bailiffref05_Check.u13.c (frameL [(0, .slice x0), (5, .slice x1), (6, .slice x2), (7, .int .i64 x3)]) K =
      bailiffref05_Check.u13.f k x0 x1 x2 x3 (fun y0 y1 y2 y3 => K .normal (frameL [(0, .slice y0), (5, .slice y1), (6, .slice y2), (7, .int .i64 y3)])) (fun y0 y1 => K .ret (frameL [(2, .int .i64 y0), (3, .int .i64 y1)])) (fun y0 y1 y2 y3 => K (.exit 1) (frameL [(0, .slice y0), (5, .slice y1), (6, .slice y2), (7, .int .i64 y3)])) :=
  (bailiffref05_Check.u5.ok k x0 x1 x2 x3 bailiffref05_Check.u12.c K).trans
    (congrArg (fun z => bailiffref05_Check.u5.f k x0 x1 x2 x3 z (fun y0 y1 y2 y3 => K (.exit 1) (frameL [(0, .slice y0), (5, .slice y1), (6, .slice y2), (7, .int .i64 y3)]))) (funext fun y0 => (funext fun y1 => (funext fun y2 => (funext fun y3 => bailiffref05_Check.u12.ok k y0 y1 y2 y3 K)))))
theorem bailiffref05_Check.u14.ok {α : Type} (k : Nat) (x0 : Sl) (x1 : Sl) (x2 : Sl) (x3 : Int) (K : Ex → Frame → M α) :
    evC T (env k) k bailiffref05_Check.u14.c (frameL [(0, .slice x0), (5, .slice x1), (6, .slice x2), (7, .int .i64 x3)]) K =
      bailiffref05_Check.u14.f k x0 x1 x2 x3 (fun y0 y1 y2 y3 => K .normal (frameL [(0, .slice y0), (5, .slice y1), (6, .slice y2), (7, .int .i64 y3)])) (fun y0 y1 => K .ret (frameL [(2, .int .i64 y0), (3, .int .i64 y1)])) (fun y0 y1 y2 y3 => K (.exit 1) (frameL [(0, .slice y0), (5, .slice y1), (6, .slice y2), (7, .int .i64 y3)])) :=
  (bailiffref05_Check.u4.ok k x0 x1 x2 x3 bailiffref05_Check.u13.c K).trans
    (congrArg (fun z => bailiffref05_Check.u4.f k x0 x1 x2 x3 z (fun y0 y1 => K .ret (frameL [(2, .int .i64 y0), (3, .int .i64 y1)]))) (funext fun y0 => (funext fun y1 => (funext fun y2 => (funext fun y3 => bailiffref05_Check.u13.ok k y0 y1 y2 y3 K)))))
theorem bailiffref05_Check.u15.ok {α : Type} (k : Nat) (x0 : Sl) (x1 : Sl) (x2 : Sl) (x3 : Int) (K : Ex → Frame → M α) :
    evC T (env k) k bailiffref05_Check.u15.c (frameL [(0, .slice x0), (5, .slice x1), (6, .slice x2), (7, .int .i64 x3)]) K =
      bailiffref05_Check.u15.f k x0 x1 x2 x3 (fun y0 y1 y2 y3 => K .normal (frameL [(0, .slice y0), (5, .slice y1), (6, .slice y2), (7, .int .i64 y3)])) (fun y0 y1 => K .ret (frameL [(2, .int .i64 y0), (3, .int .i64 y1)])) :=
  (evC_block.trans (bailiffref05_Check.u14.ok k x0 x1 x2 x3 (blockK 1 K))).trans (by kernel_rfl)
theorem bailiffref05_Check.u16.ok {α : Type} (k : Nat) (x0 : Sl) (x1 : Sl) (x2 : Sl) (x3 : Int) (K : Ex → Frame → M α) :
    evC T (env k) k bailiffref05_Check.u16.c (frameL [(0, .slice x0), (5, .slice x1), (6, .slice x2), (7, .int .i64 x3)]) K =
      bailiffref05_Check.u16.f k x0 x1 x2 x3 (fun y0 y1 y2 y3 => K .normal (frameL [(0, .slice y0), (5, .slice y1), (6, .slice y2), (7, .int .i64 y3)])) := by kernel_rfl
theorem bailiffref05_Check.u17.ok {α : Type} (k : Nat) (x0 : Sl) (x1 : Sl) (x2 : Sl) (x3 : Int) (K : Ex → Frame → M α) :
    evC T (env k) k bailiffref05_Check.u17.c (frameL [(0, .slice x0), (5, .slice x1), (6, .slice x2), (7, .int .i64 x3)]) K =
      bailiffref05_Check.u17.f k x0 x1 x2 x3 (fun y0 y1 y2 y3 => K .normal (frameL [(0, .slice y0), (5, .slice y1), (6, .slice y2), (7, .int .i64 y3)])) (fun y0 y1 => K .ret (frameL [(2, .int .i64 y0), (3, .int .i64 y1)])) :=
  by
    have h := bailiffref05_Check.u15.ok k x0 x1 x2 x3 (seqK (fun ρ => evC T (env k) k bailiffref05_Check.u16.c ρ K) K)
    simp only [seqK_normal, seqK_exit, seqK_ret, seqK_pan, bailiffref05_Check.u16.ok] at h
    exact evC_seq_of h
theorem bailiffref05_Check.u18.ok {α : Type} (k : Nat) (x0 : Sl) (x1 : Sl) (x2 : Sl) (x3 : Int) (K : Ex → Frame → M α) :
    evC T (env k) k bailiffref05_Check.u18.c (frameL [(0, .slice x0), (5, .slice x1), (6, .slice x2), (7, .int .i64 x3)]) K =
      bailiffref05_Check.u18.f k x0 x1 x2 x3 (fun y0 y1 y2 y3 => K .normal (frameL [(0, .slice y0), (5, .slice y1), (6, .slice y2), (7, .int .i64 y3)])) (fun y0 y1 => K .ret (frameL [(2, .int .i64 y0), (3, .int .i64 y1)])) (K (.exit 0) (frameL [])) :=
  (bailiffref05_Check.u3.ok k x0 x1 x2 x3 bailiffref05_Check.u17.c K).trans
    (congrArg (fun z => bailiffref05_Check.u3.f k x0 x1 x2 x3 z (K (.exit 0) (frameL []))) (funext fun y0 => (funext fun y1 => (funext fun y2 => (funext fun y3 => bailiffref05_Check.u17.ok k y0 y1 y2 y3 K)))))
theorem bailiffref05_Check.u19.ls {α : Type} (k : Nat) (kr : Int → Int → M α) (kx0 : M α) (j : Nat) (x0 : Sl) (x1 : Sl) (x2 : Sl) (x3 : Int) : bailiffref05_Check.u19.l k kr kx0 (j + 1) x0 x1 x2 x3 =
  bailiffref05_Check.u18.f k x0 x1 x2 x3 (fun y0 y1 y2 y3 => bailiffref05_Check.u19.l k kr kx0 j y0 y1 y2 y3) kr kx0 := rfl
theorem bailiffref05_Check.u19.okl {α : Type} (k : Nat) (K : Ex → Frame → M α) : ∀ (j : Nat) (x0 : Sl) (x1 : Sl) (x2 : Sl) (x3 : Int),
    evLoop (evC T (env k) k bailiffref05_Check.u18.c) [0, 5, 6, 7] j (frameL [(0, .slice x0), (5, .slice x1), (6, .slice x2), (7, .int .i64 x3)]) K = bailiffref05_Check.u19.l k (fun y0 y1 => K .ret (frameL [(2, .int .i64 y0), (3, .int .i64 y1)])) (K (.exit 0) (frameL [])) j x0 x1 x2 x3
  | 0, _, _, _, _ => rfl
  | j + 1, x0, x1, x2, x3 => by
      have h := bailiffref05_Check.u18.ok k x0 x1 x2 x3 (seqK (fun ρ => evLoop (evC T (env k) k bailiffref05_Check.u18.c) [0, 5, 6, 7] j ρ K) K)
      simp only [seqK_exit, seqK_ret, seqK_pan, seqK_normal, bailiffref05_Check.u19.okl k K j] at h
      exact (evLoop_step (by kernel_rfl) h).trans (bailiffref05_Check.u19.ls k (fun y0 y1 => K .ret (frameL [(2, .int .i64 y0), (3, .int .i64 y1)])) (K (.exit 0) (frameL [])) j x0 x1 x2 x3).symm
theorem bailiffref05_Check.u19.ok {α : Type} (k : Nat) (x0 : Sl) (x1 : Sl) (x2 : Sl) (x3 : Int) (K : Ex → Frame → M α) :
    evC T (env k) k bailiffref05_Check.u19.c (frameL [(0, .slice x0), (5, .slice x1), (6, .slice x2), (7, .int .i64 x3)]) K =
      bailiffref05_Check.u19.f k x0 x1 x2 x3 (fun y0 y1 => K .ret (frameL [(2, .int .i64 y0), (3, .int .i64 y1)])) (K (.exit 0) (frameL [])) :=
  evC_loop.trans <| (evLoop_keep (body := evC T (env k) k bailiffref05_Check.u18.c) (keep := [0, 5, 6, 7]) (ρ := (frameL [(0, .slice x0), (5, .slice x1), (6, .slice x2), (7, .int .i64 x3)])) (ρ' := (frameL [(0, .slice x0), (5, .slice x1), (6, .slice x2), (7, .int .i64 x3)])) (by kernel_rfl) k K).trans (bailiffref05_Check.u19.okl k K k x0 x1 x2 x3)
theorem bailiffref05_Check.u20.ok {α : Type} (k : Nat) (x0 : Sl) (x1 : Sl) (x2 : Sl) (x3 : Int) (K : Ex → Frame → M α) :
    evC T (env k) k bailiffref05_Check.u20.c (frameL [(0, .slice x0), (5, .slice x1), (6, .slice x2), (7, .int .i64 x3)]) K =
      bailiffref05_Check.u20.f k x0 x1 x2 x3 (K .normal (frameL [])) (fun y0 y1 => K .ret (frameL [(2, .int .i64 y0), (3, .int .i64 y1)])) :=
  (evC_block.trans (bailiffref05_Check.u19.ok k x0 x1 x2 x3 (blockK 0 K))).trans (by kernel_rfl)
theorem bailiffref05_Check.u21.ok {α : Type} (k : Nat) (x0 : Sl) (x1 : Sl) (x2 : Sl) (K : Ex → Frame → M α) :
    evC T (env k) k bailiffref05_Check.u21.c (frameL [(0, .slice x0), (5, .slice x1), (6, .slice x2)]) K =
      bailiffref05_Check.u21.f k x0 x1 x2 (K .normal (frameL [])) (fun y0 y1 => K .ret (frameL [(2, .int .i64 y0), (3, .int .i64 y1)])) :=
  (bailiffref05_Check.u2.ok k x0 x1 x2 bailiffref05_Check.u20.c K).trans
    (congrArg (fun z => bailiffref05_Check.u2.f k x0 x1 x2 z) (funext fun y0 => (funext fun y1 => (funext fun y2 => (funext fun y3 => bailiffref05_Check.u20.ok k y0 y1 y2 y3 K)))))
theorem bailiffref05_Check.u22.ok {α : Type} (k : Nat) (K : Ex → Frame → M α) :
    evC T (env k) k bailiffref05_Check.u22.c (frameL []) K =
      bailiffref05_Check.u22.f k (fun y0 y1 => K .ret (frameL [(2, .int .i64 y0), (3, .int .i64 y1)])) := by kernel_rfl
theorem bailiffref05_Check.u23.ok {α : Type} (k : Nat) (x0 : Sl) (x1 : Sl) (x2 : Sl) (K : Ex → Frame → M α) :
    evC T (env k) k bailiffref05_Check.u23.c (frameL [(0, .slice x0), (5, .slice x1), (6, .slice x2)]) K =
      bailiffref05_Check.u23.f k x0 x1 x2 (fun y0 y1 => K .ret (frameL [(2, .int .i64 y0), (3, .int .i64 y1)])) :=
  by
    have h := bailiffref05_Check.u21.ok k x0 x1 x2 (seqK (fun ρ => evC T (env k) k bailiffref05_Check.u22.c ρ K) K)
    simp only [seqK_normal, seqK_exit, seqK_ret, seqK_pan, bailiffref05_Check.u22.ok] at h
    exact evC_seq_of h
theorem bailiffref05_Check.u24.ok {α : Type} (k : Nat) (x0 : Sl) (K : Ex → Frame → M α) :
    evC T (env k) k bailiffref05_Check.u24.c (frameL [(0, .slice x0)]) K =
      bailiffref05_Check.u24.f k x0 (fun y0 y1 => K .ret (frameL [(2, .int .i64 y0), (3, .int .i64 y1)])) :=
  (bailiffref05_Check.u1.ok k x0 bailiffref05_Check.u23.c K).trans
    (congrArg (fun z => bailiffref05_Check.u1.f k x0 z (fun y0 y1 => K .ret (frameL [(2, .int .i64 y0), (3, .int .i64 y1)]))) (funext fun y0 => (funext fun y1 => (funext fun y2 => bailiffref05_Check.u23.ok k y0 y1 y2 K))))
theorem bailiffref05_Check.ok {α : Type} (k : Nat) (x0 : Sl) (κ : Res → M α) :
    evF T (env k) k bailiffref05_Check.c bailiffref05_Check.res [.slice x0] κ = bailiffref05_Check.f (k + 1) x0 (fun o0 o1 => κ (.ret (.tuple [.int .i64 o0, .int .i64 o1]))) :=
  (bailiffref05_Check.u24.ok k x0 (retK T bailiffref05_Check.res κ)).trans (by kernel_rfl)
theorem bailiffref05_Check.code : bailiffref05_Check.c.code = bodyOf Try.f15 := by kernel_rfl

noncomputable def bailiffref04_Same.c : IC := bailiffref04_Same.u9.c
noncomputable def bailiffref04_Same.res : List ResultVar := [(.tmp 6)]
theorem bailiffref04_Same.u1.ok {α : Type} (k : Nat) (x0 : Sl) (x1 : Sl) (x2 : Bool) (R : IC) (K : Ex → Frame → M α) :
    evC T (env k) k (bailiffref04_Same.u1.c R) (frameL [(0, .slice x0), (1, .slice x1), (2, .bool x2)]) K =
      bailiffref04_Same.u1.f k x0 x1 x2 (fun y0 y1 y2 => evC T (env k) k R (frameL [(0, .slice y0), (1, .slice y1), (2, .bool y2)]) K) (fun y0 => K .ret (frameL [(6, .bool y0)])) := by kernel_rfl
theorem bailiffref04_Same.u2.ok {α : Type} (k : Nat) (x0 : Sl) (x1 : Sl) (x2 : Bool) (R : IC) (K : Ex → Frame → M α) :
    evC T (env k) k (bailiffref04_Same.u2.c R) (frameL [(0, .slice x0), (1, .slice x1), (2, .bool x2)]) K =
      bailiffref04_Same.u2.f k x0 x1 x2 (fun y0 y1 y2 y3 => evC T (env k) k R (frameL [(0, .slice y0), (1, .slice y1), (2, .bool y2), (7, .int .i64 y3)]) K) := by kernel_rfl
theorem bailiffref04_Same.u3.ok {α : Type} (k : Nat) (x0 : Sl) (x1 : Sl) (x2 : Bool) (x3 : Int) (K : Ex → Frame → M α) :
    evC T (env k) k bailiffref04_Same.u3.c (frameL [(0, .slice x0), (1, .slice x1), (2, .bool x2), (7, .int .i64 x3)]) K =
      bailiffref04_Same.u3.f k x0 x1 x2 x3 (fun y0 y1 y2 y3 => K .normal (frameL [(0, .slice y0), (1, .slice y1), (2, .bool y2), (7, .int .i64 y3)])) (fun y0 => K .ret (frameL [(6, .bool y0)])) (K (.exit 0) (frameL [])) := by kernel_rfl
theorem bailiffref04_Same.u4.ls {α : Type} (k : Nat) (kr : Bool → M α) (kx0 : M α) (j : Nat) (x0 : Sl) (x1 : Sl) (x2 : Bool) (x3 : Int) : bailiffref04_Same.u4.l k kr kx0 (j + 1) x0 x1 x2 x3 =
  bailiffref04_Same.u3.f k x0 x1 x2 x3 (fun y0 y1 y2 y3 => bailiffref04_Same.u4.l k kr kx0 j y0 y1 y2 y3) kr kx0 := rfl
theorem bailiffref04_Same.u4.okl {α : Type} (k : Nat) (K : Ex → Frame → M α) : ∀ (j : Nat) (x0 : Sl) (x1 : Sl) (x2 : Bool) (x3 : Int),
    evLoop (evC T (env k) k bailiffref04_Same.u3.c) [0, 1, 2, 7] j (frameL [(0, .slice x0), (1, .slice x1), (2, .bool x2), (7, .int .i64 x3)]) K = bailiffref04_Same.u4.l k (fun y0 => K .ret (frameL [(6, .bool y0)])) (K (.exit 0) (frameL [])) j x0 x1 x2 x3
  | 0, _, _, _, _ => rfl
  | j + 1, x0, x1, x2, x3 => by
      have h := bailiffref04_Same.u3.ok k x0 x1 x2 x3 (seqK (fun ρ => evLoop (evC T (env k) k bailiffref04_Same.u3.c) [0, 1, 2, 7] j ρ K) K)
      simp only [seqK_exit, seqK_ret, seqK_pan, seqK_normal, bailiffref04_Same.u4.okl k K j] at h
      exact (evLoop_step (by kernel_rfl) h).trans (bailiffref04_Same.u4.ls k (fun y0 => K .ret (frameL [(6, .bool y0)])) (K (.exit 0) (frameL [])) j x0 x1 x2 x3).symm
theorem bailiffref04_Same.u4.ok {α : Type} (k : Nat) (x0 : Sl) (x1 : Sl) (x2 : Bool) (x3 : Int) (K : Ex → Frame → M α) :
    evC T (env k) k bailiffref04_Same.u4.c (frameL [(0, .slice x0), (1, .slice x1), (2, .bool x2), (7, .int .i64 x3)]) K =
      bailiffref04_Same.u4.f k x0 x1 x2 x3 (fun y0 => K .ret (frameL [(6, .bool y0)])) (K (.exit 0) (frameL [])) :=
  evC_loop.trans <| (evLoop_keep (body := evC T (env k) k bailiffref04_Same.u3.c) (keep := [0, 1, 2, 7]) (ρ := (frameL [(0, .slice x0), (1, .slice x1), (2, .bool x2), (7, .int .i64 x3)])) (ρ' := (frameL [(0, .slice x0), (1, .slice x1), (2, .bool x2), (7, .int .i64 x3)])) (by kernel_rfl) k K).trans (bailiffref04_Same.u4.okl k K k x0 x1 x2 x3)
theorem bailiffref04_Same.u5.ok {α : Type} (k : Nat) (x0 : Sl) (x1 : Sl) (x2 : Bool) (x3 : Int) (K : Ex → Frame → M α) :
    evC T (env k) k bailiffref04_Same.u5.c (frameL [(0, .slice x0), (1, .slice x1), (2, .bool x2), (7, .int .i64 x3)]) K =
      bailiffref04_Same.u5.f k x0 x1 x2 x3 (K .normal (frameL [])) (fun y0 => K .ret (frameL [(6, .bool y0)])) :=
  (evC_block.trans (bailiffref04_Same.u4.ok k x0 x1 x2 x3 (blockK 0 K))).trans (by kernel_rfl)
theorem bailiffref04_Same.u6.ok {α : Type} (k : Nat) (x0 : Sl) (x1 : Sl) (x2 : Bool) (K : Ex → Frame → M α) :
    evC T (env k) k bailiffref04_Same.u6.c (frameL [(0, .slice x0), (1, .slice x1), (2, .bool x2)]) K =
      bailiffref04_Same.u6.f k x0 x1 x2 (K .normal (frameL [])) (fun y0 => K .ret (frameL [(6, .bool y0)])) :=
  (bailiffref04_Same.u2.ok k x0 x1 x2 bailiffref04_Same.u5.c K).trans
    (congrArg (fun z => bailiffref04_Same.u2.f k x0 x1 x2 z) (funext fun y0 => (funext fun y1 => (funext fun y2 => (funext fun y3 => bailiffref04_Same.u5.ok k y0 y1 y2 y3 K)))))
theorem bailiffref04_Same.u7.ok {α : Type} (k : Nat) (K : Ex → Frame → M α) :
    evC T (env k) k bailiffref04_Same.u7.c (frameL []) K =
      bailiffref04_Same.u7.f k (fun y0 => K .ret (frameL [(6, .bool y0)])) := by kernel_rfl
theorem bailiffref04_Same.u8.ok {α : Type} (k : Nat) (x0 : Sl) (x1 : Sl) (x2 : Bool) (K : Ex → Frame → M α) :
    evC T (env k) k bailiffref04_Same.u8.c (frameL [(0, .slice x0), (1, .slice x1), (2, .bool x2)]) K =
      bailiffref04_Same.u8.f k x0 x1 x2 (fun y0 => K .ret (frameL [(6, .bool y0)])) :=
  by
    have h := bailiffref04_Same.u6.ok k x0 x1 x2 (seqK (fun ρ => evC T (env k) k bailiffref04_Same.u7.c ρ K) K)
    simp only [seqK_normal, seqK_exit, seqK_ret, seqK_pan, bailiffref04_Same.u7.ok] at h
    exact evC_seq_of h
theorem bailiffref04_Same.u9.ok {α : Type} (k : Nat) (x0 : Sl) (x1 : Sl) (x2 : Bool) (K : Ex → Frame → M α) :
    evC T (env k) k bailiffref04_Same.u9.c (frameL [(0, .slice x0), (1, .slice x1), (2, .bool x2)]) K =
      bailiffref04_Same.u9.f k x0 x1 x2 (fun y0 => K .ret (frameL [(6, .bool y0)])) :=
  (bailiffref04_Same.u1.ok k x0 x1 x2 bailiffref04_Same.u8.c K).trans
    (congrArg (fun z => bailiffref04_Same.u1.f k x0 x1 x2 z (fun y0 => K .ret (frameL [(6, .bool y0)]))) (funext fun y0 => (funext fun y1 => (funext fun y2 => bailiffref04_Same.u8.ok k y0 y1 y2 K))))
theorem bailiffref04_Same.ok {α : Type} (k : Nat) (x0 : Sl) (x1 : Sl) (x2 : Bool) (κ : Res → M α) :
    evF T (env k) k bailiffref04_Same.c bailiffref04_Same.res [.slice x0, .slice x1, .bool x2] κ = bailiffref04_Same.f (k + 1) x0 x1 x2 (fun o0 => κ (.ret (.bool o0))) :=
  (bailiffref04_Same.u9.ok k x0 x1 x2 (retK T bailiffref04_Same.res κ)).trans (by kernel_rfl)
theorem bailiffref04_Same.code : bailiffref04_Same.c.code = bodyOf Try.f35 := by kernel_rfl

noncomputable def bailifflaw05_kept.c : IC := bailifflaw05_kept.u1.c
noncomputable def bailifflaw05_kept.res : List ResultVar := [(.tmp 4)]
theorem bailifflaw05_kept.u1.ok {α : Type} (k : Nat) (x0 : Sl) (x1 : Sl) (K : Ex → Frame → M α) :
    evC T (env k) k bailifflaw05_kept.u1.c (frameL [(0, .slice x0), (1, .slice x1)]) K =
      bailifflaw05_kept.u1.f k x0 x1 (fun y0 => K .ret (frameL [(4, .bool y0)])) := by kernel_rfl
theorem bailifflaw05_kept.ok {α : Type} (k : Nat) (x0 : Sl) (x1 : Sl) (κ : Res → M α) :
    evF T (env k) k bailifflaw05_kept.c bailifflaw05_kept.res [.slice x0, .slice x1] κ = bailifflaw05_kept.f (k + 1) x0 x1 (fun o0 => κ (.ret (.bool o0))) :=
  (bailifflaw05_kept.u1.ok k x0 x1 (retK T bailifflaw05_kept.res κ)).trans (by kernel_rfl)
theorem bailifflaw05_kept.code : bailifflaw05_kept.c.code = bodyOf Try.f16 := by kernel_rfl

noncomputable def bailifflaw05_BindChecks.c : IC := bailifflaw05_BindChecks.u1.c
noncomputable def bailifflaw05_BindChecks.res : List ResultVar := [(.tmp 2)]
theorem bailifflaw05_BindChecks.u1.ok {α : Type} (k : Nat) (x0 : Sl) (K : Ex → Frame → M α) :
    evC T (env k) k bailifflaw05_BindChecks.u1.c (frameL [(0, .slice x0)]) K =
      bailifflaw05_BindChecks.u1.f k x0 (fun y0 => K .ret (frameL [(2, .bool y0)])) := by kernel_rfl
theorem bailifflaw05_BindChecks.ok {α : Type} (k : Nat) (x0 : Sl) (κ : Res → M α) :
    evF T (env k) k bailifflaw05_BindChecks.c bailifflaw05_BindChecks.res [.slice x0] κ = bailifflaw05_BindChecks.f (k + 1) x0 (fun o0 => κ (.ret (.bool o0))) :=
  (bailifflaw05_BindChecks.u1.ok k x0 (retK T bailifflaw05_BindChecks.res κ)).trans (by kernel_rfl)
theorem bailifflaw05_BindChecks.code : bailifflaw05_BindChecks.c.code = bodyOf Try.f3 := by kernel_rfl

noncomputable def bailiffref05_Binders.c : IC := bailiffref05_Binders.u9.c
noncomputable def bailiffref05_Binders.res : List ResultVar := [(.tmp 2)]
theorem bailiffref05_Binders.u1.ok {α : Type} (k : Nat) (x0 : Sl) (R : IC) (K : Ex → Frame → M α) :
    evC T (env k) k (bailiffref05_Binders.u1.c R) (frameL [(0, .slice x0)]) K =
      bailiffref05_Binders.u1.f k x0 (fun y0 y1 y2 => evC T (env k) k R (frameL [(0, .slice y0), (4, .slice y1), (5, .slice y2)]) K) (fun y0 => K .ret (frameL [(2, .slice y0)])) := by kernel_rfl
theorem bailiffref05_Binders.u2.ok {α : Type} (k : Nat) (x0 : Sl) (x1 : Sl) (x2 : Sl) (R : IC) (K : Ex → Frame → M α) :
    evC T (env k) k (bailiffref05_Binders.u2.c R) (frameL [(0, .slice x0), (4, .slice x1), (5, .slice x2)]) K =
      bailiffref05_Binders.u2.f k x0 x1 x2 (fun y0 y1 y2 y3 => evC T (env k) k R (frameL [(0, .slice y0), (4, .slice y1), (5, .slice y2), (6, .int .i64 y3)]) K) := by kernel_rfl
theorem bailiffref05_Binders.u3.ok {α : Type} (k : Nat) (x0 : Sl) (x1 : Sl) (x2 : Sl) (x3 : Int) (K : Ex → Frame → M α) :
    evC T (env k) k bailiffref05_Binders.u3.c (frameL [(0, .slice x0), (4, .slice x1), (5, .slice x2), (6, .int .i64 x3)]) K =
      bailiffref05_Binders.u3.f k x0 x1 x2 x3 (fun y0 y1 y2 y3 => K .normal (frameL [(0, .slice y0), (4, .slice y1), (5, .slice y2), (6, .int .i64 y3)])) (fun y0 => K (.exit 0) (frameL [(5, .slice y0)])) := by kernel_rfl
theorem bailiffref05_Binders.u4.ls {α : Type} (k : Nat) (kx0 : Sl → M α) (j : Nat) (x0 : Sl) (x1 : Sl) (x2 : Sl) (x3 : Int) : bailiffref05_Binders.u4.l k kx0 (j + 1) x0 x1 x2 x3 =
  bailiffref05_Binders.u3.f k x0 x1 x2 x3 (fun y0 y1 y2 y3 => bailiffref05_Binders.u4.l k kx0 j y0 y1 y2 y3) kx0 := rfl
theorem bailiffref05_Binders.u4.okl {α : Type} (k : Nat) (K : Ex → Frame → M α) : ∀ (j : Nat) (x0 : Sl) (x1 : Sl) (x2 : Sl) (x3 : Int),
    evLoop (evC T (env k) k bailiffref05_Binders.u3.c) [0, 4, 5, 6] j (frameL [(0, .slice x0), (4, .slice x1), (5, .slice x2), (6, .int .i64 x3)]) K = bailiffref05_Binders.u4.l k (fun y0 => K (.exit 0) (frameL [(5, .slice y0)])) j x0 x1 x2 x3
  | 0, _, _, _, _ => rfl
  | j + 1, x0, x1, x2, x3 => by
      have h := bailiffref05_Binders.u3.ok k x0 x1 x2 x3 (seqK (fun ρ => evLoop (evC T (env k) k bailiffref05_Binders.u3.c) [0, 4, 5, 6] j ρ K) K)
      simp only [seqK_exit, seqK_ret, seqK_pan, seqK_normal, bailiffref05_Binders.u4.okl k K j] at h
      exact (evLoop_step (by kernel_rfl) h).trans (bailiffref05_Binders.u4.ls k (fun y0 => K (.exit 0) (frameL [(5, .slice y0)])) j x0 x1 x2 x3).symm
theorem bailiffref05_Binders.u4.ok {α : Type} (k : Nat) (x0 : Sl) (x1 : Sl) (x2 : Sl) (x3 : Int) (K : Ex → Frame → M α) :
    evC T (env k) k bailiffref05_Binders.u4.c (frameL [(0, .slice x0), (4, .slice x1), (5, .slice x2), (6, .int .i64 x3)]) K =
      bailiffref05_Binders.u4.f k x0 x1 x2 x3 (fun y0 => K (.exit 0) (frameL [(5, .slice y0)])) :=
  evC_loop.trans <| (evLoop_keep (body := evC T (env k) k bailiffref05_Binders.u3.c) (keep := [0, 4, 5, 6]) (ρ := (frameL [(0, .slice x0), (4, .slice x1), (5, .slice x2), (6, .int .i64 x3)])) (ρ' := (frameL [(0, .slice x0), (4, .slice x1), (5, .slice x2), (6, .int .i64 x3)])) (by kernel_rfl) k K).trans (bailiffref05_Binders.u4.okl k K k x0 x1 x2 x3)
theorem bailiffref05_Binders.u5.ok {α : Type} (k : Nat) (x0 : Sl) (x1 : Sl) (x2 : Sl) (x3 : Int) (K : Ex → Frame → M α) :
    evC T (env k) k bailiffref05_Binders.u5.c (frameL [(0, .slice x0), (4, .slice x1), (5, .slice x2), (6, .int .i64 x3)]) K =
      bailiffref05_Binders.u5.f k x0 x1 x2 x3 (fun y0 => K .normal (frameL [(5, .slice y0)])) :=
  (evC_block.trans (bailiffref05_Binders.u4.ok k x0 x1 x2 x3 (blockK 0 K))).trans (by kernel_rfl)
theorem bailiffref05_Binders.u6.ok {α : Type} (k : Nat) (x0 : Sl) (x1 : Sl) (x2 : Sl) (K : Ex → Frame → M α) :
    evC T (env k) k bailiffref05_Binders.u6.c (frameL [(0, .slice x0), (4, .slice x1), (5, .slice x2)]) K =
      bailiffref05_Binders.u6.f k x0 x1 x2 (fun y0 => K .normal (frameL [(5, .slice y0)])) :=
  (bailiffref05_Binders.u2.ok k x0 x1 x2 bailiffref05_Binders.u5.c K).trans
    (congrArg (fun z => bailiffref05_Binders.u2.f k x0 x1 x2 z) (funext fun y0 => (funext fun y1 => (funext fun y2 => (funext fun y3 => bailiffref05_Binders.u5.ok k y0 y1 y2 y3 K)))))
theorem bailiffref05_Binders.u7.ok {α : Type} (k : Nat) (x0 : Sl) (K : Ex → Frame → M α) :
    evC T (env k) k bailiffref05_Binders.u7.c (frameL [(5, .slice x0)]) K =
      bailiffref05_Binders.u7.f k x0 (fun y0 => K .ret (frameL [(2, .slice y0)])) := by kernel_rfl
theorem bailiffref05_Binders.u8.ok {α : Type} (k : Nat) (x0 : Sl) (x1 : Sl) (x2 : Sl) (K : Ex → Frame → M α) :
    evC T (env k) k bailiffref05_Binders.u8.c (frameL [(0, .slice x0), (4, .slice x1), (5, .slice x2)]) K =
      bailiffref05_Binders.u8.f k x0 x1 x2 (fun y0 => K .ret (frameL [(2, .slice y0)])) :=
  by
    have h := bailiffref05_Binders.u6.ok k x0 x1 x2 (seqK (fun ρ => evC T (env k) k bailiffref05_Binders.u7.c ρ K) K)
    simp only [seqK_normal, seqK_exit, seqK_ret, seqK_pan, bailiffref05_Binders.u7.ok] at h
    exact evC_seq_of h
theorem bailiffref05_Binders.u9.ok {α : Type} (k : Nat) (x0 : Sl) (K : Ex → Frame → M α) :
    evC T (env k) k bailiffref05_Binders.u9.c (frameL [(0, .slice x0)]) K =
      bailiffref05_Binders.u9.f k x0 (fun y0 => K .ret (frameL [(2, .slice y0)])) :=
  (bailiffref05_Binders.u1.ok k x0 bailiffref05_Binders.u8.c K).trans
    (congrArg (fun z => bailiffref05_Binders.u1.f k x0 z (fun y0 => K .ret (frameL [(2, .slice y0)]))) (funext fun y0 => (funext fun y1 => (funext fun y2 => bailiffref05_Binders.u8.ok k y0 y1 y2 K))))
theorem bailiffref05_Binders.ok {α : Type} (k : Nat) (x0 : Sl) (κ : Res → M α) :
    evF T (env k) k bailiffref05_Binders.c bailiffref05_Binders.res [.slice x0] κ = bailiffref05_Binders.f (k + 1) x0 (fun o0 => κ (.ret (.slice o0))) :=
  (bailiffref05_Binders.u9.ok k x0 (retK T bailiffref05_Binders.res κ)).trans (by kernel_rfl)
theorem bailiffref05_Binders.code : bailiffref05_Binders.c.code = bodyOf Try.f17 := by kernel_rfl

noncomputable def bailifflaw05_BindBinders.c : IC := bailifflaw05_BindBinders.u26.c
noncomputable def bailifflaw05_BindBinders.res : List ResultVar := [(.tmp 2)]
theorem bailifflaw05_BindBinders.u1.ok {α : Type} (k : Nat) (x0 : Sl) (R : IC) (K : Ex → Frame → M α) :
    evC T (env k) k (bailifflaw05_BindBinders.u1.c R) (frameL [(0, .slice x0)]) K =
      bailifflaw05_BindBinders.u1.f k x0 (fun y0 y1 y2 y3 => evC T (env k) k R (frameL [(0, .slice y0), (3, .bool y1), (4, .slice y2), (5, .slice y3)]) K) := by kernel_rfl
theorem bailifflaw05_BindBinders.u2.ok {α : Type} (k : Nat) (x0 : Sl) (x1 : Bool) (x2 : Sl) (x3 : Sl) (R : IC) (K : Ex → Frame → M α) :
    evC T (env k) k (bailifflaw05_BindBinders.u2.c R) (frameL [(0, .slice x0), (3, .bool x1), (4, .slice x2), (5, .slice x3)]) K =
      bailifflaw05_BindBinders.u2.f k x0 x1 x2 x3 (fun y0 y1 y2 y3 y4 => evC T (env k) k R (frameL [(0, .slice y0), (3, .bool y1), (4, .slice y2), (5, .slice y3), (6, .int .i64 y4)]) K) := by kernel_rfl
theorem bailifflaw05_BindBinders.u3.ok {α : Type} (k : Nat) (x0 : Sl) (x1 : Bool) (x2 : Sl) (x3 : Sl) (x4 : Int) (R : IC) (K : Ex → Frame → M α) :
    evC T (env k) k (bailifflaw05_BindBinders.u3.c R) (frameL [(0, .slice x0), (3, .bool x1), (4, .slice x2), (5, .slice x3), (6, .int .i64 x4)]) K =
      bailifflaw05_BindBinders.u3.f k x0 x1 x2 x3 x4 (fun y0 y1 y2 y3 y4 => evC T (env k) k R (frameL [(0, .slice y0), (3, .bool y1), (4, .slice y2), (5, .slice y3), (6, .int .i64 y4)]) K) (fun y0 y1 => K (.exit 0) (frameL [(0, .slice y0), (4, .slice y1)])) := by kernel_rfl
theorem bailifflaw05_BindBinders.u4.ok {α : Type} (k : Nat) (x0 : Sl) (x1 : Bool) (x2 : Sl) (x3 : Sl) (x4 : Int) (R : IC) (K : Ex → Frame → M α) :
    evC T (env k) k (bailifflaw05_BindBinders.u4.c R) (frameL [(0, .slice x0), (3, .bool x1), (4, .slice x2), (5, .slice x3), (6, .int .i64 x4)]) K =
      bailifflaw05_BindBinders.u4.f k x0 x1 x2 x3 x4 (fun y0 y1 y2 y3 y4 y5 => evC T (env k) k R (frameL [(0, .slice y0), (3, .bool y1), (4, .slice y2), (5, .slice y3), (6, .int .i64 y4), (7, .slice y5)]) K) (fun y0 => K .ret (frameL [(2, .bool y0)])) := by kernel_rfl
theorem bailifflaw05_BindBinders.u5.ok {α : Type} (k : Nat) (x0 : Sl) (x1 : Bool) (x2 : Sl) (x3 : Sl) (x4 : Int) (x5 : Sl) (R : IC) (K : Ex → Frame → M α) :
    evC T (env k) k (bailifflaw05_BindBinders.u5.c R) (frameL [(0, .slice x0), (3, .bool x1), (4, .slice x2), (5, .slice x3), (6, .int .i64 x4), (7, .slice x5)]) K =
      bailifflaw05_BindBinders.u5.f k x0 x1 x2 x3 x4 x5 (fun y0 y1 y2 y3 y4 y5 y6 => evC T (env k) k R (frameL [(0, .slice y0), (3, .bool y1), (4, .slice y2), (5, .slice y3), (6, .int .i64 y4), (7, .slice y5), (8, .int .i64 y6)]) K) := by kernel_rfl
theorem bailifflaw05_BindBinders.u6.ok {α : Type} (k : Nat) (x0 : Sl) (x1 : Bool) (x2 : Sl) (x3 : Sl) (x4 : Int) (x5 : Sl) (x6 : Int) (K : Ex → Frame → M α) :
    evC T (env k) k bailifflaw05_BindBinders.u6.c (frameL [(0, .slice x0), (3, .bool x1), (4, .slice x2), (5, .slice x3), (6, .int .i64 x4), (7, .slice x5), (8, .int .i64 x6)]) K =
      bailifflaw05_BindBinders.u6.f k x0 x1 x2 x3 x4 x5 x6 (fun y0 y1 y2 y3 y4 y5 y6 => K .normal (frameL [(0, .slice y0), (3, .bool y1), (4, .slice y2), (5, .slice y3), (6, .int .i64 y4), (7, .slice y5), (8, .int .i64 y6)])) (fun y0 => K .ret (frameL [(2, .bool y0)])) (fun y0 y1 y2 y3 y4 y5 => K (.exit 2) (frameL [(0, .slice y0), (3, .bool y1), (4, .slice y2), (5, .slice y3), (6, .int .i64 y4), (7, .slice y5)])) := by kernel_rfl
theorem bailifflaw05_BindBinders.u7.ls {α : Type} (k : Nat) (kr : Bool → M α) (kx2 : Sl → Bool → Sl → Sl → Int → Sl → M α) (j : Nat) (x0 : Sl) (x1 : Bool) (x2 : Sl) (x3 : Sl) (x4 : Int) (x5 : Sl) (x6 : Int) : bailifflaw05_BindBinders.u7.l k kr kx2 (j + 1) x0 x1 x2 x3 x4 x5 x6 =
  bailifflaw05_BindBinders.u6.f k x0 x1 x2 x3 x4 x5 x6 (fun y0 y1 y2 y3 y4 y5 y6 => bailifflaw05_BindBinders.u7.l k kr kx2 j y0 y1 y2 y3 y4 y5 y6) kr kx2 := rfl
theorem bailifflaw05_BindBinders.u7.okl {α : Type} (k : Nat) (K : Ex → Frame → M α) : ∀ (j : Nat) (x0 : Sl) (x1 : Bool) (x2 : Sl) (x3 : Sl) (x4 : Int) (x5 : Sl) (x6 : Int),
    evLoop (evC T (env k) k bailifflaw05_BindBinders.u6.c) [0, 3, 4, 5, 6, 7, 8] j (frameL [(0, .slice x0), (3, .bool x1), (4, .slice x2), (5, .slice x3), (6, .int .i64 x4), (7, .slice x5), (8, .int .i64 x6)]) K = bailifflaw05_BindBinders.u7.l k (fun y0 => K .ret (frameL [(2, .bool y0)])) (fun y0 y1 y2 y3 y4 y5 => K (.exit 2) (frameL [(0, .slice y0), (3, .bool y1), (4, .slice y2), (5, .slice y3), (6, .int .i64 y4), (7, .slice y5)])) j x0 x1 x2 x3 x4 x5 x6
  | 0, _, _, _, _, _, _, _ => rfl
  | j + 1, x0, x1, x2, x3, x4, x5, x6 => by
      have h := bailifflaw05_BindBinders.u6.ok k x0 x1 x2 x3 x4 x5 x6 (seqK (fun ρ => evLoop (evC T (env k) k bailifflaw05_BindBinders.u6.c) [0, 3, 4, 5, 6, 7, 8] j ρ K) K)
      simp only [seqK_exit, seqK_ret, seqK_pan, seqK_normal, bailifflaw05_BindBinders.u7.okl k K j] at h
      exact (evLoop_step (by kernel_rfl) h).trans (bailifflaw05_BindBinders.u7.ls k (fun y0 => K .ret (frameL [(2, .bool y0)])) (fun y0 y1 y2 y3 y4 y5 => K (.exit 2) (frameL [(0, .slice y0), (3, .bool y1), (4, .slice y2), (5, .slice y3), (6, .int .i64 y4), (7, .slice y5)])) j x0 x1 x2 x3 x4 x5 x6).symm
theorem bailifflaw05_BindBinders.u7.ok {α : Type} (k : Nat) (x0 : Sl) (x1 : Bool) (x2 : Sl) (x3 : Sl) (x4 : Int) (x5 : Sl) (x6 : Int) (K : Ex → Frame → M α) :
    evC T (env k) k bailifflaw05_BindBinders.u7.c (frameL [(0, .slice x0), (3, .bool x1), (4, .slice x2), (5, .slice x3), (6, .int .i64 x4), (7, .slice x5), (8, .int .i64 x6)]) K =
      bailifflaw05_BindBinders.u7.f k x0 x1 x2 x3 x4 x5 x6 (fun y0 => K .ret (frameL [(2, .bool y0)])) (fun y0 y1 y2 y3 y4 y5 => K (.exit 2) (frameL [(0, .slice y0), (3, .bool y1), (4, .slice y2), (5, .slice y3), (6, .int .i64 y4), (7, .slice y5)])) :=
  evC_loop.trans <| (evLoop_keep (body := evC T (env k) k bailifflaw05_BindBinders.u6.c) (keep := [0, 3, 4, 5, 6, 7, 8]) (ρ := (frameL [(0, .slice x0), (3, .bool x1), (4, .slice x2), (5, .slice x3), (6, .int .i64 x4), (7, .slice x5), (8, .int .i64 x6)])) (ρ' := (frameL [(0, .slice x0), (3, .bool x1), (4, .slice x2), (5, .slice x3), (6, .int .i64 x4), (7, .slice x5), (8, .int .i64 x6)])) (by kernel_rfl) k K).trans (bailifflaw05_BindBinders.u7.okl k K k x0 x1 x2 x3 x4 x5 x6)
theorem bailifflaw05_BindBinders.u8.ok {α : Type} (k : Nat) (x0 : Sl) (x1 : Bool) (x2 : Sl) (x3 : Sl) (x4 : Int) (x5 : Sl) (x6 : Int) (K : Ex → Frame → M α) :
    evC T (env k) k bailifflaw05_BindBinders.u8.c (frameL [(0, .slice x0), (3, .bool x1), (4, .slice x2), (5, .slice x3), (6, .int .i64 x4), (7, .slice x5), (8, .int .i64 x6)]) K =
      bailifflaw05_BindBinders.u8.f k x0 x1 x2 x3 x4 x5 x6 (fun y0 y1 y2 y3 y4 y5 => K .normal (frameL [(0, .slice y0), (3, .bool y1), (4, .slice y2), (5, .slice y3), (6, .int .i64 y4), (7, .slice y5)])) (fun y0 => K .ret (frameL [(2, .bool y0)])) :=
  (evC_block.trans (bailifflaw05_BindBinders.u7.ok k x0 x1 x2 x3 x4 x5 x6 (blockK 2 K))).trans (by kernel_rfl)
theorem bailifflaw05_BindBinders.u9.ok {α : Type} (k : Nat) (x0 : Sl) (x1 : Bool) (x2 : Sl) (x3 : Sl) (x4 : Int) (x5 : Sl) (K : Ex → Frame → M α) :
    evC T (env k) k bailifflaw05_BindBinders.u9.c (frameL [(0, .slice x0), (3, .bool x1), (4, .slice x2), (5, .slice x3), (6, .int .i64 x4), (7, .slice x5)]) K =
      bailifflaw05_BindBinders.u9.f k x0 x1 x2 x3 x4 x5 (fun y0 y1 y2 y3 y4 y5 => K .normal (frameL [(0, .slice y0), (3, .bool y1), (4, .slice y2), (5, .slice y3), (6, .int .i64 y4), (7, .slice y5)])) (fun y0 => K .ret (frameL [(2, .bool y0)])) :=
  (bailifflaw05_BindBinders.u5.ok k x0 x1 x2 x3 x4 x5 bailifflaw05_BindBinders.u8.c K).trans
    (congrArg (fun z => bailifflaw05_BindBinders.u5.f k x0 x1 x2 x3 x4 x5 z) (funext fun y0 => (funext fun y1 => (funext fun y2 => (funext fun y3 => (funext fun y4 => (funext fun y5 => (funext fun y6 => bailifflaw05_BindBinders.u8.ok k y0 y1 y2 y3 y4 y5 y6 K))))))))
theorem bailifflaw05_BindBinders.u10.ok {α : Type} (k : Nat) (x0 : Sl) (x1 : Bool) (x2 : Sl) (x3 : Sl) (x4 : Int) (x5 : Sl) (R : IC) (K : Ex → Frame → M α) :
    evC T (env k) k (bailifflaw05_BindBinders.u10.c R) (frameL [(0, .slice x0), (3, .bool x1), (4, .slice x2), (5, .slice x3), (6, .int .i64 x4), (7, .slice x5)]) K =
      bailifflaw05_BindBinders.u10.f k x0 x1 x2 x3 x4 x5 (fun y0 y1 y2 y3 y4 y5 y6 => evC T (env k) k R (frameL [(0, .slice y0), (3, .bool y1), (4, .slice y2), (5, .slice y3), (6, .int .i64 y4), (7, .slice y5), (9, .int .i64 y6)]) K) := by kernel_rfl
theorem bailifflaw05_BindBinders.u11.ok {α : Type} (k : Nat) (x0 : Sl) (x1 : Bool) (x2 : Sl) (x3 : Sl) (x4 : Int) (x5 : Sl) (x6 : Int) (K : Ex → Frame → M α) :
    evC T (env k) k bailifflaw05_BindBinders.u11.c (frameL [(0, .slice x0), (3, .bool x1), (4, .slice x2), (5, .slice x3), (6, .int .i64 x4), (7, .slice x5), (9, .int .i64 x6)]) K =
      bailifflaw05_BindBinders.u11.f k x0 x1 x2 x3 x4 x5 x6 (fun y0 y1 y2 y3 y4 y5 y6 => K .normal (frameL [(0, .slice y0), (3, .bool y1), (4, .slice y2), (5, .slice y3), (6, .int .i64 y4), (7, .slice y5), (9, .int .i64 y6)])) (fun y0 y1 y2 y3 y4 => K (.exit 4) (frameL [(0, .slice y0), (3, .bool y1), (4, .slice y2), (5, .slice y3), (6, .int .i64 y4)])) := by kernel_rfl
theorem bailifflaw05_BindBinders.u12.ls {α : Type} (k : Nat) (kx4 : Sl → Bool → Sl → Sl → Int → M α) (j : Nat) (x0 : Sl) (x1 : Bool) (x2 : Sl) (x3 : Sl) (x4 : Int) (x5 : Sl) (x6 : Int) : bailifflaw05_BindBinders.u12.l k kx4 (j + 1) x0 x1 x2 x3 x4 x5 x6 =
  bailifflaw05_BindBinders.u11.f k x0 x1 x2 x3 x4 x5 x6 (fun y0 y1 y2 y3 y4 y5 y6 => bailifflaw05_BindBinders.u12.l k kx4 j y0 y1 y2 y3 y4 y5 y6) kx4 := rfl
theorem bailifflaw05_BindBinders.u12.okl {α : Type} (k : Nat) (K : Ex → Frame → M α) : ∀ (j : Nat) (x0 : Sl) (x1 : Bool) (x2 : Sl) (x3 : Sl) (x4 : Int) (x5 : Sl) (x6 : Int),
    evLoop (evC T (env k) k bailifflaw05_BindBinders.u11.c) [0, 3, 4, 5, 6, 7, 9] j (frameL [(0, .slice x0), (3, .bool x1), (4, .slice x2), (5, .slice x3), (6, .int .i64 x4), (7, .slice x5), (9, .int .i64 x6)]) K = bailifflaw05_BindBinders.u12.l k (fun y0 y1 y2 y3 y4 => K (.exit 4) (frameL [(0, .slice y0), (3, .bool y1), (4, .slice y2), (5, .slice y3), (6, .int .i64 y4)])) j x0 x1 x2 x3 x4 x5 x6
  | 0, _, _, _, _, _, _, _ => rfl
  | j + 1, x0, x1, x2, x3, x4, x5, x6 => by
      have h := bailifflaw05_BindBinders.u11.ok k x0 x1 x2 x3 x4 x5 x6 (seqK (fun ρ => evLoop (evC T (env k) k bailifflaw05_BindBinders.u11.c) [0, 3, 4, 5, 6, 7, 9] j ρ K) K)
      simp only [seqK_exit, seqK_ret, seqK_pan, seqK_normal, bailifflaw05_BindBinders.u12.okl k K j] at h
      exact (evLoop_step (by kernel_rfl) h).trans (bailifflaw05_BindBinders.u12.ls k (fun y0 y1 y2 y3 y4 => K (.exit 4) (frameL [(0, .slice y0), (3, .bool y1), (4, .slice y2), (5, .slice y3), (6, .int .i64 y4)])) j x0 x1 x2 x3 x4 x5 x6).symm
theorem bailifflaw05_BindBinders.u12.ok {α : Type} (k : Nat) (x0 : Sl) (x1 : Bool) (x2 : Sl) (x3 : Sl) (x4 : Int) (x5 : Sl) (x6 : Int) (K : Ex → Frame → M α) :
    evC T (env k) k bailifflaw05_BindBinders.u12.c (frameL [(0, .slice x0), (3, .bool x1), (4, .slice x2), (5, .slice x3), (6, .int .i64 x4), (7, .slice x5), (9, .int .i64 x6)]) K =
      bailifflaw05_BindBinders.u12.f k x0 x1 x2 x3 x4 x5 x6 (fun y0 y1 y2 y3 y4 => K (.exit 4) (frameL [(0, .slice y0), (3, .bool y1), (4, .slice y2), (5, .slice y3), (6, .int .i64 y4)])) :=
  evC_loop.trans <| (evLoop_keep (body := evC T (env k) k bailifflaw05_BindBinders.u11.c) (keep := [0, 3, 4, 5, 6, 7, 9]) (ρ := (frameL [(0, .slice x0), (3, .bool x1), (4, .slice x2), (5, .slice x3), (6, .int .i64 x4), (7, .slice x5), (9, .int .i64 x6)])) (ρ' := (frameL [(0, .slice x0), (3, .bool x1), (4, .slice x2), (5, .slice x3), (6, .int .i64 x4), (7, .slice x5), (9, .int .i64 x6)])) (by kernel_rfl) k K).trans (bailifflaw05_BindBinders.u12.okl k K k x0 x1 x2 x3 x4 x5 x6)
theorem bailifflaw05_BindBinders.u13.ok {α : Type} (k : Nat) (x0 : Sl) (x1 : Bool) (x2 : Sl) (x3 : Sl) (x4 : Int) (x5 : Sl) (x6 : Int) (K : Ex → Frame → M α) :
    evC T (env k) k bailifflaw05_BindBinders.u13.c (frameL [(0, .slice x0), (3, .bool x1), (4, .slice x2), (5, .slice x3), (6, .int .i64 x4), (7, .slice x5), (9, .int .i64 x6)]) K =
      bailifflaw05_BindBinders.u13.f k x0 x1 x2 x3 x4 x5 x6 (fun y0 y1 y2 y3 y4 => K .normal (frameL [(0, .slice y0), (3, .bool y1), (4, .slice y2), (5, .slice y3), (6, .int .i64 y4)])) :=
  (evC_block.trans (bailifflaw05_BindBinders.u12.ok k x0 x1 x2 x3 x4 x5 x6 (blockK 4 K))).trans (by kernel_rfl)
theorem bailifflaw05_BindBinders.u14.ok {α : Type} (k : Nat) (x0 : Sl) (x1 : Bool) (x2 : Sl) (x3 : Sl) (x4 : Int) (x5 : Sl) (K : Ex → Frame → M α) :
    evC T (env k) k bailifflaw05_BindBinders.u14.c (frameL [(0, .slice x0), (3, .bool x1), (4, .slice x2), (5, .slice x3), (6, .int .i64 x4), (7, .slice x5)]) K =
      bailifflaw05_BindBinders.u14.f k x0 x1 x2 x3 x4 x5 (fun y0 y1 y2 y3 y4 => K .normal (frameL [(0, .slice y0), (3, .bool y1), (4, .slice y2), (5, .slice y3), (6, .int .i64 y4)])) :=
  (bailifflaw05_BindBinders.u10.ok k x0 x1 x2 x3 x4 x5 bailifflaw05_BindBinders.u13.c K).trans
    (congrArg (fun z => bailifflaw05_BindBinders.u10.f k x0 x1 x2 x3 x4 x5 z) (funext fun y0 => (funext fun y1 => (funext fun y2 => (funext fun y3 => (funext fun y4 => (funext fun y5 => (funext fun y6 => bailifflaw05_BindBinders.u13.ok k y0 y1 y2 y3 y4 y5 y6 K))))))))
theorem bailifflaw05_BindBinders.u15.ok {α : Type} (k : Nat) (x0 : Sl) (x1 : Bool) (x2 : Sl) (x3 : Sl) (x4 : Int) (x5 : Sl) (K : Ex → Frame → M α) :
    evC T (env k) k bailifflaw05_BindBinders.u15.c (frameL [(0, .slice x0), (3, .bool x1), (4, .slice x2), (5, .slice x3), (6, .int .i64 x4), (7, .slice x5)]) K =
      bailifflaw05_BindBinders.u15.f k x0 x1 x2 x3 x4 x5 (fun y0 y1 y2 y3 y4 => K .normal (frameL [(0, .slice y0), (3, .bool y1), (4, .slice y2), (5, .slice y3), (6, .int .i64 y4)])) (fun y0 => K .ret (frameL [(2, .bool y0)])) :=
  by
    have h := bailifflaw05_BindBinders.u9.ok k x0 x1 x2 x3 x4 x5 (seqK (fun ρ => evC T (env k) k bailifflaw05_BindBinders.u14.c ρ K) K)
    simp only [seqK_normal, seqK_exit, seqK_ret, seqK_pan, bailifflaw05_BindBinders.u14.ok] at h
    exact evC_seq_of h
theorem bailifflaw05_BindBinders.u16.ok {α : Type} (k : Nat) (x0 : Sl) (x1 : Bool) (x2 : Sl) (x3 : Sl) (x4 : Int) (K : Ex → Frame → M α) :
    evC T (env k) k bailifflaw05_BindBinders.u16.c (frameL [(0, .slice x0), (3, .bool x1), (4, .slice x2), (5, .slice x3), (6, .int .i64 x4)]) K =
      bailifflaw05_BindBinders.u16.f k x0 x1 x2 x3 x4 (fun y0 y1 y2 y3 y4 => K .normal (frameL [(0, .slice y0), (3, .bool y1), (4, .slice y2), (5, .slice y3), (6, .int .i64 y4)])) (fun y0 => K .ret (frameL [(2, .bool y0)])) :=
  (bailifflaw05_BindBinders.u4.ok k x0 x1 x2 x3 x4 bailifflaw05_BindBinders.u15.c K).trans
    (congrArg (fun z => bailifflaw05_BindBinders.u4.f k x0 x1 x2 x3 x4 z (fun y0 => K .ret (frameL [(2, .bool y0)]))) (funext fun y0 => (funext fun y1 => (funext fun y2 => (funext fun y3 => (funext fun y4 => (funext fun y5 => bailifflaw05_BindBinders.u15.ok k y0 y1 y2 y3 y4 y5 K)))))))
theorem bailifflaw05_BindBinders.u17.ok {α : Type} (k : Nat) (x0 : Sl) (x1 : Bool) (x2 : Sl) (x3 : Sl) (x4 : Int) (K : Ex → Frame → M α) :
    evC T (env k) k bailifflaw05_BindBinders.u17.c (frameL [(0, .slice x0), (3, .bool x1), (4, .slice x2), (5, .slice x3), (6, .int .i64 x4)]) K =
      bailifflaw05_BindBinders.u17.f k x0 x1 x2 x3 x4 (fun y0 y1 y2 y3 y4 => K .normal (frameL [(0, .slice y0), (3, .bool y1), (4, .slice y2), (5, .slice y3), (6, .int .i64 y4)])) (fun y0 => K .ret (frameL [(2, .bool y0)])) :=
  (evC_block.trans (bailifflaw05_BindBinders.u16.ok k x0 x1 x2 x3 x4 (blockK 1 K))).trans (by kernel_rfl)
theorem bailifflaw05_BindBinders.u18.ok {α : Type} (k : Nat) (x0 : Sl) (x1 : Bool) (x2 : Sl) (x3 : Sl) (x4 : Int) (K : Ex → Frame → M α) :
    evC T (env k) k bailifflaw05_BindBinders.u18.c (frameL [(0, .slice x0), (3, .bool x1), (4, .slice x2), (5, .slice x3), (6, .int .i64 x4)]) K =
      bailifflaw05_BindBinders.u18.f k x0 x1 x2 x3 x4 (fun y0 y1 y2 y3 y4 => K .normal (frameL [(0, .slice y0), (3, .bool y1), (4, .slice y2), (5, .slice y3), (6, .int .i64 y4)])) := by kernel_rfl
theorem bailifflaw05_BindBinders.u19.ok {α : Type} (k : Nat) (x0 : Sl) (x1 : Bool) (x2 : Sl) (x3 : Sl) (x4 : Int) (K : Ex → Frame → M α) :
    evC T (env k) k bailifflaw05_BindBinders.u19.c (frameL [(0, .slice x0), (3, .bool x1), (4, .slice x2), (5, .slice x3), (6, .int .i64 x4)]) K =
      bailifflaw05_BindBinders.u19.f k x0 x1 x2 x3 x4 (fun y0 y1 y2 y3 y4 => K .normal (frameL [(0, .slice y0), (3, .bool y1), (4, .slice y2), (5, .slice y3), (6, .int .i64 y4)])) (fun y0 => K .ret (frameL [(2, .bool y0)])) :=
  by
    have h := bailifflaw05_BindBinders.u17.ok k x0 x1 x2 x3 x4 (seqK (fun ρ => evC T (env k) k bailifflaw05_BindBinders.u18.c ρ K) K)
    simp only [seqK_normal, seqK_exit, seqK_ret, seqK_pan, bailifflaw05_BindBinders.u18.ok] at h
    exact evC_seq_of h
theorem bailifflaw05_BindBinders.u20.ok {α : Type} (k : Nat) (x0 : Sl) (x1 : Bool) (x2 : Sl) (x3 : Sl) (x4 : Int) (K : Ex → Frame → M α) :
    evC T (env k) k bailifflaw05_BindBinders.u20.c (frameL [(0, .slice x0), (3, .bool x1), (4, .slice x2), (5, .slice x3), (6, .int .i64 x4)]) K =
      bailifflaw05_BindBinders.u20.f k x0 x1 x2 x3 x4 (fun y0 y1 y2 y3 y4 => K .normal (frameL [(0, .slice y0), (3, .bool y1), (4, .slice y2), (5, .slice y3), (6, .int .i64 y4)])) (fun y0 => K .ret (frameL [(2, .bool y0)])) (fun y0 y1 => K (.exit 0) (frameL [(0, .slice y0), (4, .slice y1)])) :=
  (bailifflaw05_BindBinders.u3.ok k x0 x1 x2 x3 x4 bailifflaw05_BindBinders.u19.c K).trans
    (congrArg (fun z => bailifflaw05_BindBinders.u3.f k x0 x1 x2 x3 x4 z (fun y0 y1 => K (.exit 0) (frameL [(0, .slice y0), (4, .slice y1)]))) (funext fun y0 => (funext fun y1 => (funext fun y2 => (funext fun y3 => (funext fun y4 => bailifflaw05_BindBinders.u19.ok k y0 y1 y2 y3 y4 K))))))
theorem bailifflaw05_BindBinders.u21.ls {α : Type} (k : Nat) (kr : Bool → M α) (kx0 : Sl → Sl → M α) (j : Nat) (x0 : Sl) (x1 : Bool) (x2 : Sl) (x3 : Sl) (x4 : Int) : bailifflaw05_BindBinders.u21.l k kr kx0 (j + 1) x0 x1 x2 x3 x4 =
  bailifflaw05_BindBinders.u20.f k x0 x1 x2 x3 x4 (fun y0 y1 y2 y3 y4 => bailifflaw05_BindBinders.u21.l k kr kx0 j y0 y1 y2 y3 y4) kr kx0 := rfl
theorem bailifflaw05_BindBinders.u21.okl {α : Type} (k : Nat) (K : Ex → Frame → M α) : ∀ (j : Nat) (x0 : Sl) (x1 : Bool) (x2 : Sl) (x3 : Sl) (x4 : Int),
    evLoop (evC T (env k) k bailifflaw05_BindBinders.u20.c) [0, 3, 4, 5, 6] j (frameL [(0, .slice x0), (3, .bool x1), (4, .slice x2), (5, .slice x3), (6, .int .i64 x4)]) K = bailifflaw05_BindBinders.u21.l k (fun y0 => K .ret (frameL [(2, .bool y0)])) (fun y0 y1 => K (.exit 0) (frameL [(0, .slice y0), (4, .slice y1)])) j x0 x1 x2 x3 x4
  | 0, _, _, _, _, _ => rfl
  | j + 1, x0, x1, x2, x3, x4 => by
      have h := bailifflaw05_BindBinders.u20.ok k x0 x1 x2 x3 x4 (seqK (fun ρ => evLoop (evC T (env k) k bailifflaw05_BindBinders.u20.c) [0, 3, 4, 5, 6] j ρ K) K)
      simp only [seqK_exit, seqK_ret, seqK_pan, seqK_normal, bailifflaw05_BindBinders.u21.okl k K j] at h
      exact (evLoop_step (by kernel_rfl) h).trans (bailifflaw05_BindBinders.u21.ls k (fun y0 => K .ret (frameL [(2, .bool y0)])) (fun y0 y1 => K (.exit 0) (frameL [(0, .slice y0), (4, .slice y1)])) j x0 x1 x2 x3 x4).symm
theorem bailifflaw05_BindBinders.u21.ok {α : Type} (k : Nat) (x0 : Sl) (x1 : Bool) (x2 : Sl) (x3 : Sl) (x4 : Int) (K : Ex → Frame → M α) :
    evC T (env k) k bailifflaw05_BindBinders.u21.c (frameL [(0, .slice x0), (3, .bool x1), (4, .slice x2), (5, .slice x3), (6, .int .i64 x4)]) K =
      bailifflaw05_BindBinders.u21.f k x0 x1 x2 x3 x4 (fun y0 => K .ret (frameL [(2, .bool y0)])) (fun y0 y1 => K (.exit 0) (frameL [(0, .slice y0), (4, .slice y1)])) :=
  evC_loop.trans <| (evLoop_keep (body := evC T (env k) k bailifflaw05_BindBinders.u20.c) (keep := [0, 3, 4, 5, 6]) (ρ := (frameL [(0, .slice x0), (3, .bool x1), (4, .slice x2), (5, .slice x3), (6, .int .i64 x4)])) (ρ' := (frameL [(0, .slice x0), (3, .bool x1), (4, .slice x2), (5, .slice x3), (6, .int .i64 x4)])) (by kernel_rfl) k K).trans (bailifflaw05_BindBinders.u21.okl k K k x0 x1 x2 x3 x4)
theorem bailifflaw05_BindBinders.u22.ok {α : Type} (k : Nat) (x0 : Sl) (x1 : Bool) (x2 : Sl) (x3 : Sl) (x4 : Int) (K : Ex → Frame → M α) :
    evC T (env k) k bailifflaw05_BindBinders.u22.c (frameL [(0, .slice x0), (3, .bool x1), (4, .slice x2), (5, .slice x3), (6, .int .i64 x4)]) K =
      bailifflaw05_BindBinders.u22.f k x0 x1 x2 x3 x4 (fun y0 y1 => K .normal (frameL [(0, .slice y0), (4, .slice y1)])) (fun y0 => K .ret (frameL [(2, .bool y0)])) :=
  (evC_block.trans (bailifflaw05_BindBinders.u21.ok k x0 x1 x2 x3 x4 (blockK 0 K))).trans (by kernel_rfl)
theorem bailifflaw05_BindBinders.u23.ok {α : Type} (k : Nat) (x0 : Sl) (x1 : Bool) (x2 : Sl) (x3 : Sl) (K : Ex → Frame → M α) :
    evC T (env k) k bailifflaw05_BindBinders.u23.c (frameL [(0, .slice x0), (3, .bool x1), (4, .slice x2), (5, .slice x3)]) K =
      bailifflaw05_BindBinders.u23.f k x0 x1 x2 x3 (fun y0 y1 => K .normal (frameL [(0, .slice y0), (4, .slice y1)])) (fun y0 => K .ret (frameL [(2, .bool y0)])) :=
  (bailifflaw05_BindBinders.u2.ok k x0 x1 x2 x3 bailifflaw05_BindBinders.u22.c K).trans
    (congrArg (fun z => bailifflaw05_BindBinders.u2.f k x0 x1 x2 x3 z) (funext fun y0 => (funext fun y1 => (funext fun y2 => (funext fun y3 => (funext fun y4 => bailifflaw05_BindBinders.u22.ok k y0 y1 y2 y3 y4 K))))))
theorem bailifflaw05_BindBinders.u24.ok {α : Type} (k : Nat) (x0 : Sl) (x1 : Sl) (K : Ex → Frame → M α) :
    evC T (env k) k bailifflaw05_BindBinders.u24.c (frameL [(0, .slice x0), (4, .slice x1)]) K =
      bailifflaw05_BindBinders.u24.f k x0 x1 (fun y0 => K .ret (frameL [(2, .bool y0)])) := by kernel_rfl
theorem bailifflaw05_BindBinders.u25.ok {α : Type} (k : Nat) (x0 : Sl) (x1 : Bool) (x2 : Sl) (x3 : Sl) (K : Ex → Frame → M α) :
    evC T (env k) k bailifflaw05_BindBinders.u25.c (frameL [(0, .slice x0), (3, .bool x1), (4, .slice x2), (5, .slice x3)]) K =
      bailifflaw05_BindBinders.u25.f k x0 x1 x2 x3 (fun y0 => K .ret (frameL [(2, .bool y0)])) :=
  by
    have h := bailifflaw05_BindBinders.u23.ok k x0 x1 x2 x3 (seqK (fun ρ => evC T (env k) k bailifflaw05_BindBinders.u24.c ρ K) K)
    simp only [seqK_normal, seqK_exit, seqK_ret, seqK_pan, bailifflaw05_BindBinders.u24.ok] at h
    exact evC_seq_of h
theorem bailifflaw05_BindBinders.u26.ok {α : Type} (k : Nat) (x0 : Sl) (K : Ex → Frame → M α) :
    evC T (env k) k bailifflaw05_BindBinders.u26.c (frameL [(0, .slice x0)]) K =
      bailifflaw05_BindBinders.u26.f k x0 (fun y0 => K .ret (frameL [(2, .bool y0)])) :=
  (bailifflaw05_BindBinders.u1.ok k x0 bailifflaw05_BindBinders.u25.c K).trans
    (congrArg (fun z => bailifflaw05_BindBinders.u1.f k x0 z) (funext fun y0 => (funext fun y1 => (funext fun y2 => (funext fun y3 => bailifflaw05_BindBinders.u25.ok k y0 y1 y2 y3 K)))))
theorem bailifflaw05_BindBinders.ok {α : Type} (k : Nat) (x0 : Sl) (κ : Res → M α) :
    evF T (env k) k bailifflaw05_BindBinders.c bailifflaw05_BindBinders.res [.slice x0] κ = bailifflaw05_BindBinders.f (k + 1) x0 (fun o0 => κ (.ret (.bool o0))) :=
  (bailifflaw05_BindBinders.u26.ok k x0 (retK T bailifflaw05_BindBinders.res κ)).trans (by kernel_rfl)
theorem bailifflaw05_BindBinders.code : bailifflaw05_BindBinders.c.code = bodyOf Try.f4 := by kernel_rfl
end Go.Ab.S3
