import Derived.Test.YtmanohnlcedeaaaS4a0
import Derived.Test.YtmanohnlcedeaaaAb20
import Derived.Shelf.Strings.Builder1
import Derived.Test.YtmanohnlcedeaaaProg
import Derived.KernelRfl
namespace Go.Ab.S4
section
variable {α : Type}
open Go.Proofs
set_option linter.unusedVariables false
set_option linter.unusedSimpArgs false
noncomputable def syntax_word.c : IC := syntax_word.u1.c
noncomputable def syntax_word.res : List ResultVar := [(.tmp 2)]
theorem syntax_word.u1.ok (k : Nat) (x0 : List UInt8) (K : Ex → Frame → M α) :
    evC T (env k) k syntax_word.u1.c (frameL [(0, .str x0)]) K =
      syntax_word.u1.f k x0 (fun y0 => K .ret (frameL [(2, .bool y0)])) := by kernel_rfl
theorem syntax_word.ok (k : Nat) (x0 : List UInt8) (κ : Res → M α) :
    evF T (env k) k syntax_word.c syntax_word.res [.str x0] κ = syntax_word.f (k + 1) x0 (fun o0 => κ (.ret (.bool o0))) :=
  (syntax_word.u1.ok k x0 (retK T syntax_word.res κ)).trans (by kernel_rfl)
theorem syntax_word.code : syntax_word.c.code = bodyOf Try.f63 := by kernel_rfl
noncomputable def spneed.c : IC := spneed.u1.c
noncomputable def spneed.res : List ResultVar := []
theorem spneed.u1.ok (k : Nat) (x0 : Ad) (x1 : List UInt8) (K : Ex → Frame → M α) :
    evC T (env k) k spneed.u1.c (frameL [(0, .ptr (some x0)), (1, .str x1)]) K =
      spneed.u1.f k x0 x1 (K .normal (frameL [])) (fun v => K (.pan v) (frameL [])) := by kernel_rfl
theorem spneed.ok (k : Nat) (x0 : Ad) (x1 : List UInt8) (κ : Res → M α) :
    evF T (env k) k spneed.c spneed.res [.ptr (some x0), .str x1] κ = spneed.f (k + 1) x0 x1 (fun v => κ (.pan v)) (κ (.ret (.tuple []))) :=
  (spneed.u1.ok k x0 x1 (retK T spneed.res κ)).trans (by kernel_rfl)
theorem spneed.code : spneed.c.code = bodyOf Try.f77 := by kernel_rfl
noncomputable def spstep.c : IC := spstep.u1.c
noncomputable def spstep.res : List ResultVar := [(.tmp 4)]
theorem spstep.u1.ok (k : Nat) (x0 : Ad) (x1 : List UInt8) (K : Ex → Frame → M α) :
    evC T (env k) k spstep.u1.c (frameL [(0, .ptr (some x0)), (1, .str x1)]) K =
      spstep.u1.f k x0 x1 (fun y0 => K .ret (frameL [(4, .str y0)])) (fun v => K (.pan v) (frameL [])) := by kernel_rfl
theorem spstep.ok (k : Nat) (x0 : Ad) (x1 : List UInt8) (κ : Res → M α) :
    evF T (env k) k spstep.c spstep.res [.ptr (some x0), .str x1] κ = spstep.f (k + 1) x0 x1 (fun v => κ (.pan v)) (fun o0 => κ (.ret (.str o0))) :=
  (spstep.u1.ok k x0 x1 (retK T spstep.res κ)).trans (by kernel_rfl)
theorem spstep.code : spstep.c.code = bodyOf Try.f76 := by kernel_rfl
noncomputable def spformula.c : IC := spformula.u1.c
noncomputable def spformula.res : List ResultVar := [(.tmp 2)]
theorem spformula.u1.ok (k : Nat) (x0 : Ad) (K : Ex → Frame → M α) :
    evC T (env k) k spformula.u1.c (frameL [(0, .ptr (some x0))]) K =
      spformula.u1.f k (sprow.f k) x0 (fun y0 => K .ret (frameL [(2, .int .i64 y0)])) (fun v => K (.pan v) (frameL [])) := by kernel_rfl
theorem spformula.ok (k : Nat) (x0 : Ad) (κ : Res → M α) :
    evF T (env k) k spformula.c spformula.res [.ptr (some x0)] κ = spformula.f (k + 1) x0 (fun v => κ (.pan v)) (fun o0 => κ (.ret (.int .i64 o0))) :=
  (spformula.u1.ok k x0 (retK T spformula.res κ)).trans (by kernel_rfl)
theorem spformula.code : spformula.c.code = bodyOf Try.f38 := by kernel_rfl
noncomputable def sprow.c : IC := sprow.u7.c
noncomputable def sprow.res : List ResultVar := [(.tmp 8)]
theorem sprow.u1.ok (k : Nat) (x0 : Ad) (x1 : List UInt8) (x2 : Int) (x3 : V) (R : IC) (K : Ex → Frame → M α) :
    evC T (env k) k (sprow.u1.c R) (frameL [(0, .ptr (some x0)), (1, .str x1), (2, .int .i64 x2), (3, x3)]) K =
      sprow.u1.f k (spand.f k) (spunary.f k) x0 x1 x2 x3 (fun y0 y1 y2 y3 y4 => evC T (env k) k R (frameL [(0, .ptr (some y0)), (1, .str y1), (2, .int .i64 y2), (3, y3), (9, .int .i64 y4)]) K) (fun v => K (.pan v) (frameL [])) := by kernel_rfl
theorem sprow.u2.ok (k : Nat) (x0 : Ad) (x1 : List UInt8) (x2 : Int) (x3 : V) (x4 : Int) (K : Ex → Frame → M α) :
    evC T (env k) k sprow.u2.c (frameL [(0, .ptr (some x0)), (1, .str x1), (2, .int .i64 x2), (3, x3), (9, .int .i64 x4)]) K =
      sprow.u2.f k (spand.f k) (spunary.f k) x0 x1 x2 x3 x4 (fun y0 y1 y2 y3 y4 => K .normal (frameL [(0, .ptr (some y0)), (1, .str y1), (2, .int .i64 y2), (3, y3), (9, .int .i64 y4)])) (fun y0 => K (.exit 0) (frameL [(9, .int .i64 y0)])) (fun v => K (.pan v) (frameL [])) := by kernel_rfl
theorem sprow.u3.ls (k : Nat) (rr54 : Ad → (V → M α) → (Int → M α) → M α) (rr71 : Ad → (V → M α) → (Int → M α) → M α) (kx0 : Int → M α) (kp : V → M α) (j : Nat) (x0 : Ad) (x1 : List UInt8) (x2 : Int) (x3 : V) (x4 : Int) : sprow.u3.l k rr54 rr71 kx0 kp (j + 1) x0 x1 x2 x3 x4 =
  sprow.u2.f k rr54 rr71 x0 x1 x2 x3 x4 (fun y0 y1 y2 y3 y4 => sprow.u3.l k rr54 rr71 kx0 kp j y0 y1 y2 y3 y4) kx0 kp := rfl
theorem sprow.u3.okl (k : Nat) (K : Ex → Frame → M α) : ∀ (j : Nat) (x0 : Ad) (x1 : List UInt8) (x2 : Int) (x3 : V) (x4 : Int),
    evLoop (evC T (env k) k sprow.u2.c) [0, 1, 2, 3, 9] j (frameL [(0, .ptr (some x0)), (1, .str x1), (2, .int .i64 x2), (3, x3), (9, .int .i64 x4)]) K = sprow.u3.l k (spand.f k) (spunary.f k) (fun y0 => K (.exit 0) (frameL [(9, .int .i64 y0)])) (fun v => K (.pan v) (frameL [])) j x0 x1 x2 x3 x4
  | 0, _, _, _, _, _ => rfl
  | j + 1, x0, x1, x2, x3, x4 => by
      have h := sprow.u2.ok k x0 x1 x2 x3 x4 (seqK (fun ρ => evLoop (evC T (env k) k sprow.u2.c) [0, 1, 2, 3, 9] j ρ K) K)
      simp only [seqK_exit, seqK_ret, seqK_pan, seqK_normal, sprow.u3.okl k K j] at h
      exact (evLoop_step (by kernel_rfl) h).trans (sprow.u3.ls k (spand.f k) (spunary.f k) (fun y0 => K (.exit 0) (frameL [(9, .int .i64 y0)])) (fun v => K (.pan v) (frameL [])) j x0 x1 x2 x3 x4).symm
theorem sprow.u3.ok (k : Nat) (x0 : Ad) (x1 : List UInt8) (x2 : Int) (x3 : V) (x4 : Int) (K : Ex → Frame → M α) :
    evC T (env k) k sprow.u3.c (frameL [(0, .ptr (some x0)), (1, .str x1), (2, .int .i64 x2), (3, x3), (9, .int .i64 x4)]) K =
      sprow.u3.f k (spand.f k) (spunary.f k) x0 x1 x2 x3 x4 (fun y0 => K (.exit 0) (frameL [(9, .int .i64 y0)])) (fun v => K (.pan v) (frameL [])) :=
  evC_loop.trans <| (evLoop_keep (body := evC T (env k) k sprow.u2.c) (keep := [0, 1, 2, 3, 9]) (ρ := (frameL [(0, .ptr (some x0)), (1, .str x1), (2, .int .i64 x2), (3, x3), (9, .int .i64 x4)])) (ρ' := (frameL [(0, .ptr (some x0)), (1, .str x1), (2, .int .i64 x2), (3, x3), (9, .int .i64 x4)])) (by kernel_rfl) k K).trans (sprow.u3.okl k K k x0 x1 x2 x3 x4)
theorem sprow.u4.ok (k : Nat) (x0 : Ad) (x1 : List UInt8) (x2 : Int) (x3 : V) (x4 : Int) (K : Ex → Frame → M α) :
    evC T (env k) k sprow.u4.c (frameL [(0, .ptr (some x0)), (1, .str x1), (2, .int .i64 x2), (3, x3), (9, .int .i64 x4)]) K =
      sprow.u4.f k (spand.f k) (spunary.f k) x0 x1 x2 x3 x4 (fun y0 => K .normal (frameL [(9, .int .i64 y0)])) (fun v => K (.pan v) (frameL [])) :=
  (evC_block.trans (sprow.u3.ok k x0 x1 x2 x3 x4 (blockK 0 K))).trans (by kernel_rfl)
theorem sprow.u5.ok (k : Nat) (x0 : Int) (K : Ex → Frame → M α) :
    evC T (env k) k sprow.u5.c (frameL [(9, .int .i64 x0)]) K =
      sprow.u5.f k x0 (fun y0 => K .ret (frameL [(8, .int .i64 y0)])) := by kernel_rfl
theorem sprow.u6.ok (k : Nat) (x0 : Ad) (x1 : List UInt8) (x2 : Int) (x3 : V) (x4 : Int) (K : Ex → Frame → M α) :
    evC T (env k) k sprow.u6.c (frameL [(0, .ptr (some x0)), (1, .str x1), (2, .int .i64 x2), (3, x3), (9, .int .i64 x4)]) K =
      sprow.u6.f k (spand.f k) (spunary.f k) x0 x1 x2 x3 x4 (fun y0 => K .ret (frameL [(8, .int .i64 y0)])) (fun v => K (.pan v) (frameL [])) :=
  by
    have h := sprow.u4.ok k x0 x1 x2 x3 x4 (seqK (fun ρ => evC T (env k) k sprow.u5.c ρ K) K)
    simp only [seqK_normal, seqK_exit, seqK_ret, seqK_pan, sprow.u5.ok] at h
    exact evC_seq_of h
theorem sprow.u7.ok (k : Nat) (x0 : Ad) (x1 : List UInt8) (x2 : Int) (x3 : V) (K : Ex → Frame → M α) :
    evC T (env k) k sprow.u7.c (frameL [(0, .ptr (some x0)), (1, .str x1), (2, .int .i64 x2), (3, x3)]) K =
      sprow.u7.f k (spand.f k) (spunary.f k) x0 x1 x2 x3 (fun y0 => K .ret (frameL [(8, .int .i64 y0)])) (fun v => K (.pan v) (frameL [])) :=
  (sprow.u1.ok k x0 x1 x2 x3 sprow.u6.c K).trans
    (congrArg (fun z => sprow.u1.f k (spand.f k) (spunary.f k) x0 x1 x2 x3 z (fun v => K (.pan v) (frameL []))) (funext fun y0 => (funext fun y1 => (funext fun y2 => (funext fun y3 => (funext fun y4 => sprow.u6.ok k y0 y1 y2 y3 y4 K))))))
theorem sprow.ok (k : Nat) (x0 : Ad) (x1 : List UInt8) (x2 : Int) (x3 : V) (κ : Res → M α) :
    evF T (env k) k sprow.c sprow.res [.ptr (some x0), .str x1, .int .i64 x2, x3] κ = sprow.f (k + 1) x0 x1 x2 x3 (fun v => κ (.pan v)) (fun o0 => κ (.ret (.int .i64 o0))) :=
  (sprow.u7.ok k x0 x1 x2 x3 (retK T sprow.res κ)).trans (by kernel_rfl)
theorem sprow.code : sprow.c.code = bodyOf Try.f53 := by kernel_rfl
noncomputable def spand.c : IC := spand.u1.c
noncomputable def spand.res : List ResultVar := [(.tmp 2)]
theorem spand.u1.ok (k : Nat) (x0 : Ad) (K : Ex → Frame → M α) :
    evC T (env k) k spand.u1.c (frameL [(0, .ptr (some x0))]) K =
      spand.u1.f k (sprow.f k) x0 (fun y0 => K .ret (frameL [(2, .int .i64 y0)])) (fun v => K (.pan v) (frameL [])) := by kernel_rfl
theorem spand.ok (k : Nat) (x0 : Ad) (κ : Res → M α) :
    evF T (env k) k spand.c spand.res [.ptr (some x0)] κ = spand.f (k + 1) x0 (fun v => κ (.pan v)) (fun o0 => κ (.ret (.int .i64 o0))) :=
  (spand.u1.ok k x0 (retK T spand.res κ)).trans (by kernel_rfl)
theorem spand.code : spand.c.code = bodyOf Try.f54 := by kernel_rfl
noncomputable def spunary.c : IC := spunary.u18.c
noncomputable def spunary.res : List ResultVar := [(.tmp 2)]
theorem spunary.u1.ok (k : Nat) (x0 : Ad) (R : IC) (K : Ex → Frame → M α) :
    evC T (env k) k (spunary.u1.c R) (frameL [(0, .ptr (some x0))]) K =
      spunary.u1.f k x0 (fun y0 => evC T (env k) k R (frameL [(0, .ptr (some y0))]) K) := by kernel_rfl
theorem spunary.u2.ok (k : Nat) (x0 : Ad) (R : IC) (K : Ex → Frame → M α) :
    evC T (env k) k (spunary.u2.c R) (frameL [(0, .ptr (some x0))]) K =
      spunary.u2.f k x0 (fun y0 y1 => evC T (env k) k R (frameL [(0, .ptr (some y0)), (10, .bool y1)]) K) := by kernel_rfl
theorem spunary.u3.ok (k : Nat) (x0 : Ad) (x1 : Bool) (K : Ex → Frame → M α) :
    evC T (env k) k spunary.u3.c (frameL [(0, .ptr (some x0)), (10, .bool x1)]) K =
      spunary.u3.f k (spunary.f k) x0 x1 (fun y0 => K .ret (frameL [(2, .int .i64 y0)])) (fun v => K (.pan v) (frameL [])) := by kernel_rfl
theorem spunary.u4.ok (k : Nat) (x0 : Ad) (x1 : Bool) (R : IC) (K : Ex → Frame → M α) :
    evC T (env k) k (spunary.u4.c R) (frameL [(0, .ptr (some x0)), (10, .bool x1)]) K =
      spunary.u4.f k x0 x1 (fun y0 y1 => evC T (env k) k R (frameL [(0, .ptr (some y0)), (22, .bool y1)]) K) := by kernel_rfl
theorem spunary.u5.ok (k : Nat) (x0 : Ad) (x1 : Bool) (K : Ex → Frame → M α) :
    evC T (env k) k spunary.u5.c (frameL [(0, .ptr (some x0)), (22, .bool x1)]) K =
      spunary.u5.f k (spunary.f k) x0 x1 (fun y0 => K .ret (frameL [(2, .int .i64 y0)])) (fun v => K (.pan v) (frameL [])) := by kernel_rfl
theorem spunary.u6.ok (k : Nat) (x0 : Ad) (x1 : Bool) (R : IC) (K : Ex → Frame → M α) :
    evC T (env k) k (spunary.u6.c R) (frameL [(0, .ptr (some x0)), (22, .bool x1)]) K =
      spunary.u6.f k x0 x1 (fun y0 y1 => evC T (env k) k R (frameL [(0, .ptr (some y0)), (37, .bool y1)]) K) := by kernel_rfl
theorem spunary.u7.ok (k : Nat) (x0 : Ad) (x1 : Bool) (K : Ex → Frame → M α) :
    evC T (env k) k spunary.u7.c (frameL [(0, .ptr (some x0)), (37, .bool x1)]) K =
      spunary.u7.f k (spunary.f k) x0 x1 (fun y0 => K .ret (frameL [(2, .int .i64 y0)])) (fun v => K (.pan v) (frameL [])) := by kernel_rfl
theorem spunary.u8.ok (k : Nat) (x0 : Ad) (x1 : Bool) (K : Ex → Frame → M α) :
    evC T (env k) k spunary.u8.c (frameL [(0, .ptr (some x0)), (37, .bool x1)]) K =
      spunary.u8.f k (spformula.f k) (spword.f k) x0 x1 (fun y0 => K .normal (frameL [(0, .ptr (some y0))])) (fun y0 => K .ret (frameL [(2, .int .i64 y0)])) (fun v => K (.pan v) (frameL [])) := by kernel_rfl
theorem spunary.u9.ok (k : Nat) (x0 : Ad) (x1 : Bool) (K : Ex → Frame → M α) :
    evC T (env k) k spunary.u9.c (frameL [(0, .ptr (some x0)), (37, .bool x1)]) K =
      spunary.u9.f k (spunary.f k) (spformula.f k) (spword.f k) x0 x1 (fun y0 => K .normal (frameL [(0, .ptr (some y0))])) (fun y0 => K .ret (frameL [(2, .int .i64 y0)])) (fun v => K (.pan v) (frameL [])) :=
  evC_cond_run (g := x1) (by kernel_rfl) (spunary.u7.ok k x0 x1 K) (spunary.u8.ok k x0 x1 K)
theorem spunary.u10.ok (k : Nat) (x0 : Ad) (x1 : Bool) (K : Ex → Frame → M α) :
    evC T (env k) k spunary.u10.c (frameL [(0, .ptr (some x0)), (22, .bool x1)]) K =
      spunary.u10.f k (spunary.f k) (spformula.f k) (spword.f k) x0 x1 (fun y0 => K .normal (frameL [(0, .ptr (some y0))])) (fun y0 => K .ret (frameL [(2, .int .i64 y0)])) (fun v => K (.pan v) (frameL [])) :=
  (spunary.u6.ok k x0 x1 spunary.u9.c K).trans
    (congrArg (fun z => spunary.u6.f k x0 x1 z) (funext fun y0 => (funext fun y1 => spunary.u9.ok k y0 y1 K)))
theorem spunary.u11.ok (k : Nat) (x0 : Ad) (x1 : Bool) (K : Ex → Frame → M α) :
    evC T (env k) k spunary.u11.c (frameL [(0, .ptr (some x0)), (22, .bool x1)]) K =
      spunary.u11.f k (spunary.f k) (spformula.f k) (spword.f k) x0 x1 (fun y0 => K .normal (frameL [(0, .ptr (some y0))])) (fun y0 => K .ret (frameL [(2, .int .i64 y0)])) (fun v => K (.pan v) (frameL [])) :=
  evC_cond_run (g := x1) (by kernel_rfl) (spunary.u5.ok k x0 x1 K) (spunary.u10.ok k x0 x1 K)
theorem spunary.u12.ok (k : Nat) (x0 : Ad) (x1 : Bool) (K : Ex → Frame → M α) :
    evC T (env k) k spunary.u12.c (frameL [(0, .ptr (some x0)), (10, .bool x1)]) K =
      spunary.u12.f k (spunary.f k) (spformula.f k) (spword.f k) x0 x1 (fun y0 => K .normal (frameL [(0, .ptr (some y0))])) (fun y0 => K .ret (frameL [(2, .int .i64 y0)])) (fun v => K (.pan v) (frameL [])) :=
  (spunary.u4.ok k x0 x1 spunary.u11.c K).trans
    (congrArg (fun z => spunary.u4.f k x0 x1 z) (funext fun y0 => (funext fun y1 => spunary.u11.ok k y0 y1 K)))
theorem spunary.u13.ok (k : Nat) (x0 : Ad) (x1 : Bool) (K : Ex → Frame → M α) :
    evC T (env k) k spunary.u13.c (frameL [(0, .ptr (some x0)), (10, .bool x1)]) K =
      spunary.u13.f k (spunary.f k) (spformula.f k) (spword.f k) x0 x1 (fun y0 => K .normal (frameL [(0, .ptr (some y0))])) (fun y0 => K .ret (frameL [(2, .int .i64 y0)])) (fun v => K (.pan v) (frameL [])) :=
  evC_cond_run (g := x1) (by kernel_rfl) (spunary.u3.ok k x0 x1 K) (spunary.u12.ok k x0 x1 K)
theorem spunary.u14.ok (k : Nat) (x0 : Ad) (K : Ex → Frame → M α) :
    evC T (env k) k spunary.u14.c (frameL [(0, .ptr (some x0))]) K =
      spunary.u14.f k (spunary.f k) (spformula.f k) (spword.f k) x0 (fun y0 => K .normal (frameL [(0, .ptr (some y0))])) (fun y0 => K .ret (frameL [(2, .int .i64 y0)])) (fun v => K (.pan v) (frameL [])) :=
  (spunary.u2.ok k x0 spunary.u13.c K).trans
    (congrArg (fun z => spunary.u2.f k x0 z) (funext fun y0 => (funext fun y1 => spunary.u13.ok k y0 y1 K)))
theorem spunary.u15.ok (k : Nat) (x0 : Ad) (K : Ex → Frame → M α) :
    evC T (env k) k spunary.u15.c (frameL [(0, .ptr (some x0))]) K =
      spunary.u15.f k (spunary.f k) (spformula.f k) (spword.f k) x0 (fun y0 => K .normal (frameL [(0, .ptr (some y0))])) (fun y0 => K .ret (frameL [(2, .int .i64 y0)])) (fun v => K (.pan v) (frameL [])) :=
  (evC_block.trans (spunary.u14.ok k x0 (blockK 0 K))).trans (by kernel_rfl)
theorem spunary.u16.ok (k : Nat) (x0 : Ad) (K : Ex → Frame → M α) :
    evC T (env k) k spunary.u16.c (frameL [(0, .ptr (some x0))]) K =
      spunary.u16.f k x0 (fun y0 => K .ret (frameL [(2, .int .i64 y0)])) (fun v => K (.pan v) (frameL [])) := by kernel_rfl
theorem spunary.u17.ok (k : Nat) (x0 : Ad) (K : Ex → Frame → M α) :
    evC T (env k) k spunary.u17.c (frameL [(0, .ptr (some x0))]) K =
      spunary.u17.f k (spunary.f k) (spformula.f k) (spword.f k) x0 (fun y0 => K .ret (frameL [(2, .int .i64 y0)])) (fun v => K (.pan v) (frameL [])) :=
  by
    have h := spunary.u15.ok k x0 (seqK (fun ρ => evC T (env k) k spunary.u16.c ρ K) K)
    simp only [seqK_normal, seqK_exit, seqK_ret, seqK_pan, spunary.u16.ok] at h
    exact evC_seq_of h
theorem spunary.u18.ok (k : Nat) (x0 : Ad) (K : Ex → Frame → M α) :
    evC T (env k) k spunary.u18.c (frameL [(0, .ptr (some x0))]) K =
      spunary.u18.f k (spunary.f k) (spformula.f k) (spword.f k) x0 (fun y0 => K .ret (frameL [(2, .int .i64 y0)])) (fun v => K (.pan v) (frameL [])) :=
  (spunary.u1.ok k x0 spunary.u17.c K).trans
    (congrArg (fun z => spunary.u1.f k x0 z) (funext fun y0 => spunary.u17.ok k y0 K))
theorem spunary.ok (k : Nat) (x0 : Ad) (κ : Res → M α) :
    evF T (env k) k spunary.c spunary.res [.ptr (some x0)] κ = spunary.f (k + 1) x0 (fun v => κ (.pan v)) (fun o0 => κ (.ret (.int .i64 o0))) :=
  (spunary.u18.ok k x0 (retK T spunary.res κ)).trans (by kernel_rfl)
theorem spunary.code : spunary.c.code = bodyOf Try.f71 := by kernel_rfl
noncomputable def spword.c : IC := spword.u5.c
noncomputable def spword.res : List ResultVar := [(.tmp 2)]
theorem spword.u1.ok (k : Nat) (x0 : Ad) (R : IC) (K : Ex → Frame → M α) :
    evC T (env k) k (spword.u1.c R) (frameL [(0, .ptr (some x0))]) K =
      spword.u1.f k x0 (fun y0 y1 y2 => evC T (env k) k R (frameL [(0, .ptr (some y0)), (3, .ptr (some y1)), (4, .int .i64 y2)]) K) (fun y0 => K .ret (frameL [(2, .int .i64 y0)])) (fun v => K (.pan v) (frameL [])) := by kernel_rfl
theorem spword.u2.ok (k : Nat) (x0 : Ad) (x1 : Ad) (x2 : Int) (R : IC) (K : Ex → Frame → M α) :
    evC T (env k) k (spword.u2.c R) (frameL [(0, .ptr (some x0)), (3, .ptr (some x1)), (4, .int .i64 x2)]) K =
      spword.u2.f k x0 x1 x2 (fun y0 y1 y2 => evC T (env k) k R (frameL [(0, .ptr (some y0)), (3, .ptr (some y1)), (4, .int .i64 y2)]) K) (fun v => K (.pan v) (frameL [])) := by kernel_rfl
theorem spword.u3.ok (k : Nat) (x0 : Ad) (x1 : Ad) (x2 : Int) (K : Ex → Frame → M α) :
    evC T (env k) k spword.u3.c (frameL [(0, .ptr (some x0)), (3, .ptr (some x1)), (4, .int .i64 x2)]) K =
      spword.u3.f k (spformula.f k) x0 x1 x2 (fun y0 => K .ret (frameL [(2, .int .i64 y0)])) (fun v => K (.pan v) (frameL [])) := by kernel_rfl
theorem spword.u4.ok (k : Nat) (x0 : Ad) (x1 : Ad) (x2 : Int) (K : Ex → Frame → M α) :
    evC T (env k) k spword.u4.c (frameL [(0, .ptr (some x0)), (3, .ptr (some x1)), (4, .int .i64 x2)]) K =
      spword.u4.f k (spformula.f k) x0 x1 x2 (fun y0 => K .ret (frameL [(2, .int .i64 y0)])) (fun v => K (.pan v) (frameL [])) :=
  (spword.u2.ok k x0 x1 x2 spword.u3.c K).trans
    (congrArg (fun z => spword.u2.f k x0 x1 x2 z (fun v => K (.pan v) (frameL []))) (funext fun y0 => (funext fun y1 => (funext fun y2 => spword.u3.ok k y0 y1 y2 K))))
theorem spword.u5.ok (k : Nat) (x0 : Ad) (K : Ex → Frame → M α) :
    evC T (env k) k spword.u5.c (frameL [(0, .ptr (some x0))]) K =
      spword.u5.f k (spformula.f k) x0 (fun y0 => K .ret (frameL [(2, .int .i64 y0)])) (fun v => K (.pan v) (frameL [])) :=
  (spword.u1.ok k x0 spword.u4.c K).trans
    (congrArg (fun z => spword.u1.f k x0 z (fun y0 => K .ret (frameL [(2, .int .i64 y0)])) (fun v => K (.pan v) (frameL []))) (funext fun y0 => (funext fun y1 => (funext fun y2 => spword.u4.ok k y0 y1 y2 K))))
theorem spword.ok (k : Nat) (x0 : Ad) (κ : Res → M α) :
    evF T (env k) k spword.c spword.res [.ptr (some x0)] κ = spword.f (k + 1) x0 (fun v => κ (.pan v)) (fun o0 => κ (.ret (.int .i64 o0))) :=
  (spword.u5.ok k x0 (retK T spword.res κ)).trans (by kernel_rfl)
theorem spword.code : spword.c.code = bodyOf Try.f78 := by kernel_rfl
noncomputable def syntax_Parse.res : List ResultVar := [(.cell 2 22), (.cell 3 35)]
theorem syntax_Parse.sp (k : Nat) (x0 : List UInt8) (K : Ex → Frame → M α) (Kn : Frame → M α) :
    evSpine T (env k) k syntax_Parse.as (frameL [(0, .str x0)]) K Kn = syntax_Parse.u1.f k x0 (fun y0 y1 y2 => Kn (frameL [(2, .ptr (some y0)), (3, .ptr (some y1)), (4, .slice y2)])) (fun y0 y1 => K .ret (frameL [(2, .ptr (some y0)), (3, .ptr (some y1))])) := by kernel_rfl
theorem syntax_Parse.bok (k : Nat) (y0 : Ad) (y1 : Ad) (y2 : Sl) (K : Ex → Frame → M α) :
    evC T (env k) k syntax_Parse.u2.c (Frame.put (frameL [(2, .ptr (some y0)), (3, .ptr (some y1)), (4, .slice y2)]) (some 14) (.func 35 [] [.ptr (some y0), .ptr (some y1)])) K = syntax_Parse.u2.f k y0 y1 y2 (fun z0 z1 => K .ret (frameL [(2, .ptr (some z0)), (3, .ptr (some z1))])) (fun v => K (.pan v) (frameL [])) := by kernel_rfl
theorem syntax_Parse.ret (k : Nat) (y0 : Ad) (y1 : Ad) (y2 : Sl) (z0 : Ad) (z1 : Ad) (κ : Res → M α) :
    (deferB T (env k) k syntax_Parse.C.u1.c 5 [2, 3] syntax_Parse.res [.ptr (some y0), .ptr (some y1)] (frameL [(2, .ptr (some y0)), (3, .ptr (some y1)), (4, .slice y2)]) κ) .ret (frameL [(2, .ptr (some z0)), (3, .ptr (some z1))]) = syntax_Parse.C.u1.f k y0 y1 .nilIface (
  ldS (z0.add 0) fun o501 =>
  ld (z1.add 0) fun o502 =>
  (fun o0 o1 => κ (.ret (.tuple [.slice o0, o1]))) o501 o502) := by kernel_rfl
theorem syntax_Parse.pan (k : Nat) (y0 : Ad) (y1 : Ad) (y2 : Sl) (v : V) (ρ : Frame) (κ : Res → M α) :
    (deferB T (env k) k syntax_Parse.C.u1.c 5 [2, 3] syntax_Parse.res [.ptr (some y0), .ptr (some y1)] (frameL [(2, .ptr (some y0)), (3, .ptr (some y1)), (4, .slice y2)]) κ) (.pan v) ρ = syntax_Parse.C.u1.f k y0 y1 v (
  ldS (y0.add 0) fun o501 =>
  ld (y1.add 0) fun o502 =>
  (fun o0 o1 => κ (.ret (.tuple [.slice o0, o1]))) o501 o502) := by kernel_rfl
theorem syntax_Parse.reta (y0 : Ad) (y1 : Ad) (κ : Res → M α) :
    deferA T syntax_Parse.res κ .ret (frameL [(2, .ptr (some y0)), (3, .ptr (some y1))]) = (
  ldS (y0.add 0) fun o501 =>
  ld (y1.add 0) fun o502 =>
  (fun o0 o1 => κ (.ret (.tuple [.slice o0, o1]))) o501 o502) := by kernel_rfl
theorem syntax_Parse.ok (k : Nat) (x0 : List UInt8) (κ : Res → M α) :
    evDefer T (env k) k syntax_Parse.as syntax_Parse.u2.c syntax_Parse.C.u1.c 35 14 5 [.tmp 2, .tmp 3] [2, 3] syntax_Parse.res [.str x0] κ = syntax_Parse.f (k + 1) x0 (fun o0 o1 => κ (.ret (.tuple [.slice o0, o1]))) :=
  (syntax_Parse.sp k x0 _ _).trans (congr (congrArg (fun a b => syntax_Parse.u1.f k x0 a b) (funext fun y0 => funext fun y1 => funext fun y2 => (syntax_Parse.bok k y0 y1 y2 _).trans (congr (congrArg (fun a b => syntax_Parse.u2.f k y0 y1 y2 a b) (funext fun z0 => funext fun z1 => syntax_Parse.ret k y0 y1 y2 z0 z1 κ)) (funext fun v => syntax_Parse.pan k y0 y1 y2 v _ κ)))) (funext fun y0 => funext fun y1 => syntax_Parse.reta y0 y1 κ))
noncomputable def slices_Clone_Node_Node.c : IC := slices_Clone_Node_Node.u1.c
noncomputable def slices_Clone_Node_Node.res : List ResultVar := [(.tmp 2)]
theorem slices_Clone_Node_Node.u1.ok (k : Nat) (x0 : Sl) (K : Ex → Frame → M α) :
    evC T (env k) k slices_Clone_Node_Node.u1.c (frameL [(0, .slice x0)]) K =
      slices_Clone_Node_Node.u1.f k x0 (fun y0 => K .ret (frameL [(2, .slice y0)])) := by kernel_rfl
theorem slices_Clone_Node_Node.ok (k : Nat) (x0 : Sl) (κ : Res → M α) :
    evF T (env k) k slices_Clone_Node_Node.c slices_Clone_Node_Node.res [.slice x0] κ = slices_Clone_Node_Node.f (k + 1) x0 (fun o0 => κ (.ret (.slice o0))) :=
  (slices_Clone_Node_Node.u1.ok k x0 (retK T slices_Clone_Node_Node.res κ)).trans (by kernel_rfl)
theorem slices_Clone_Node_Node.code : slices_Clone_Node_Node.c.code = bodyOf Try.f45 := by kernel_rfl
noncomputable def syntax_spelt.c : IC := syntax_spelt.u9.c
noncomputable def syntax_spelt.res : List ResultVar := [(.tmp 6)]
theorem syntax_spelt.u1.ok (k : Nat) (x0 : List UInt8) (x1 : Int) (x2 : Int) (R : IC) (K : Ex → Frame → M α) :
    evC T (env k) k (syntax_spelt.u1.c R) (frameL [(0, .str x0), (1, .int .u8 x1), (2, .int .u8 x2)]) K =
      syntax_spelt.u1.f k x0 x1 x2 (fun y0 => evC T (env k) k R (frameL [(0, .str y0)]) K) (fun y0 => K .ret (frameL [(6, .bool y0)])) := by kernel_rfl
theorem syntax_spelt.u2.ok (k : Nat) (x0 : List UInt8) (R : IC) (K : Ex → Frame → M α) :
    evC T (env k) k (syntax_spelt.u2.c R) (frameL [(0, .str x0)]) K =
      syntax_spelt.u2.f k x0 (fun y0 y1 y2 => evC T (env k) k R (frameL [(0, .str y0), (30, .int .i64 y1), (31, .int .i64 y2)]) K) := by kernel_rfl
theorem syntax_spelt.u3.ok (k : Nat) (x0 : List UInt8) (x1 : Int) (x2 : Int) (K : Ex → Frame → M α) :
    evC T (env k) k syntax_spelt.u3.c (frameL [(0, .str x0), (30, .int .i64 x1), (31, .int .i64 x2)]) K =
      syntax_spelt.u3.f k x0 x1 x2 (fun y0 y1 y2 => K .normal (frameL [(0, .str y0), (30, .int .i64 y1), (31, .int .i64 y2)])) (fun y0 => K .ret (frameL [(6, .bool y0)])) (K (.exit 0) (frameL [])) := by kernel_rfl
theorem syntax_spelt.u4.ls (k : Nat) (kr : Bool → M α) (kx0 : M α) (j : Nat) (x0 : List UInt8) (x1 : Int) (x2 : Int) : syntax_spelt.u4.l k kr kx0 (j + 1) x0 x1 x2 =
  syntax_spelt.u3.f k x0 x1 x2 (fun y0 y1 y2 => syntax_spelt.u4.l k kr kx0 j y0 y1 y2) kr kx0 := rfl
theorem syntax_spelt.u4.okl (k : Nat) (K : Ex → Frame → M α) : ∀ (j : Nat) (x0 : List UInt8) (x1 : Int) (x2 : Int),
    evLoop (evC T (env k) k syntax_spelt.u3.c) [0, 30, 31] j (frameL [(0, .str x0), (30, .int .i64 x1), (31, .int .i64 x2)]) K = syntax_spelt.u4.l k (fun y0 => K .ret (frameL [(6, .bool y0)])) (K (.exit 0) (frameL [])) j x0 x1 x2
  | 0, _, _, _ => rfl
  | j + 1, x0, x1, x2 => by
      have h := syntax_spelt.u3.ok k x0 x1 x2 (seqK (fun ρ => evLoop (evC T (env k) k syntax_spelt.u3.c) [0, 30, 31] j ρ K) K)
      simp only [seqK_exit, seqK_ret, seqK_pan, seqK_normal, syntax_spelt.u4.okl k K j] at h
      exact (evLoop_step (by kernel_rfl) h).trans (syntax_spelt.u4.ls k (fun y0 => K .ret (frameL [(6, .bool y0)])) (K (.exit 0) (frameL [])) j x0 x1 x2).symm
theorem syntax_spelt.u4.ok (k : Nat) (x0 : List UInt8) (x1 : Int) (x2 : Int) (K : Ex → Frame → M α) :
    evC T (env k) k syntax_spelt.u4.c (frameL [(0, .str x0), (30, .int .i64 x1), (31, .int .i64 x2)]) K =
      syntax_spelt.u4.f k x0 x1 x2 (fun y0 => K .ret (frameL [(6, .bool y0)])) (K (.exit 0) (frameL [])) :=
  evC_loop.trans <| (evLoop_keep (body := evC T (env k) k syntax_spelt.u3.c) (keep := [0, 30, 31]) (ρ := (frameL [(0, .str x0), (30, .int .i64 x1), (31, .int .i64 x2)])) (ρ' := (frameL [(0, .str x0), (30, .int .i64 x1), (31, .int .i64 x2)])) (by kernel_rfl) k K).trans (syntax_spelt.u4.okl k K k x0 x1 x2)
theorem syntax_spelt.u5.ok (k : Nat) (x0 : List UInt8) (x1 : Int) (x2 : Int) (K : Ex → Frame → M α) :
    evC T (env k) k syntax_spelt.u5.c (frameL [(0, .str x0), (30, .int .i64 x1), (31, .int .i64 x2)]) K =
      syntax_spelt.u5.f k x0 x1 x2 (K .normal (frameL [])) (fun y0 => K .ret (frameL [(6, .bool y0)])) :=
  (evC_block.trans (syntax_spelt.u4.ok k x0 x1 x2 (blockK 0 K))).trans (by kernel_rfl)
theorem syntax_spelt.u6.ok (k : Nat) (x0 : List UInt8) (K : Ex → Frame → M α) :
    evC T (env k) k syntax_spelt.u6.c (frameL [(0, .str x0)]) K =
      syntax_spelt.u6.f k x0 (K .normal (frameL [])) (fun y0 => K .ret (frameL [(6, .bool y0)])) :=
  (syntax_spelt.u2.ok k x0 syntax_spelt.u5.c K).trans
    (congrArg (fun z => syntax_spelt.u2.f k x0 z) (funext fun y0 => (funext fun y1 => (funext fun y2 => syntax_spelt.u5.ok k y0 y1 y2 K))))
theorem syntax_spelt.u7.ok (k : Nat) (K : Ex → Frame → M α) :
    evC T (env k) k syntax_spelt.u7.c (frameL []) K =
      syntax_spelt.u7.f k (fun y0 => K .ret (frameL [(6, .bool y0)])) := by kernel_rfl
theorem syntax_spelt.u8.ok (k : Nat) (x0 : List UInt8) (K : Ex → Frame → M α) :
    evC T (env k) k syntax_spelt.u8.c (frameL [(0, .str x0)]) K =
      syntax_spelt.u8.f k x0 (fun y0 => K .ret (frameL [(6, .bool y0)])) :=
  by
    have h := syntax_spelt.u6.ok k x0 (seqK (fun ρ => evC T (env k) k syntax_spelt.u7.c ρ K) K)
    simp only [seqK_normal, seqK_exit, seqK_ret, seqK_pan, syntax_spelt.u7.ok] at h
    exact evC_seq_of h
theorem syntax_spelt.u9.ok (k : Nat) (x0 : List UInt8) (x1 : Int) (x2 : Int) (K : Ex → Frame → M α) :
    evC T (env k) k syntax_spelt.u9.c (frameL [(0, .str x0), (1, .int .u8 x1), (2, .int .u8 x2)]) K =
      syntax_spelt.u9.f k x0 x1 x2 (fun y0 => K .ret (frameL [(6, .bool y0)])) :=
  (syntax_spelt.u1.ok k x0 x1 x2 syntax_spelt.u8.c K).trans
    (congrArg (fun z => syntax_spelt.u1.f k x0 x1 x2 z (fun y0 => K .ret (frameL [(6, .bool y0)]))) (funext fun y0 => syntax_spelt.u8.ok k y0 K))
theorem syntax_spelt.ok (k : Nat) (x0 : List UInt8) (x1 : Int) (x2 : Int) (κ : Res → M α) :
    evF T (env k) k syntax_spelt.c syntax_spelt.res [.str x0, .int .u8 x1, .int .u8 x2] κ = syntax_spelt.f (k + 1) x0 x1 x2 (fun o0 => κ (.ret (.bool o0))) :=
  (syntax_spelt.u9.ok k x0 x1 x2 (retK T syntax_spelt.res κ)).trans (by kernel_rfl)
theorem syntax_spelt.code : syntax_spelt.c.code = bodyOf Try.f62 := by kernel_rfl
noncomputable def syntax_name.c : IC := syntax_name.u1.c
noncomputable def syntax_name.res : List ResultVar := [(.tmp 2)]
theorem syntax_name.u1.ok (k : Nat) (x0 : List UInt8) (K : Ex → Frame → M α) :
    evC T (env k) k syntax_name.u1.c (frameL [(0, .str x0)]) K =
      syntax_name.u1.f k x0 (fun y0 => K .ret (frameL [(2, .bool y0)])) := by kernel_rfl
theorem syntax_name.ok (k : Nat) (x0 : List UInt8) (κ : Res → M α) :
    evF T (env k) k syntax_name.c syntax_name.res [.str x0] κ = syntax_name.f (k + 1) x0 (fun o0 => κ (.ret (.bool o0))) :=
  (syntax_name.u1.ok k x0 (retK T syntax_name.res κ)).trans (by kernel_rfl)
theorem syntax_name.code : syntax_name.c.code = bodyOf Try.f47 := by kernel_rfl
noncomputable def syntax_variable.c : IC := syntax_variable.u1.c
noncomputable def syntax_variable.res : List ResultVar := [(.tmp 2)]
theorem syntax_variable.u1.ok (k : Nat) (x0 : List UInt8) (K : Ex → Frame → M α) :
    evC T (env k) k syntax_variable.u1.c (frameL [(0, .str x0)]) K =
      syntax_variable.u1.f k x0 (fun y0 => K .ret (frameL [(2, .bool y0)])) := by kernel_rfl
theorem syntax_variable.ok (k : Nat) (x0 : List UInt8) (κ : Res → M α) :
    evF T (env k) k syntax_variable.c syntax_variable.res [.str x0] κ = syntax_variable.f (k + 1) x0 (fun o0 => κ (.ret (.bool o0))) :=
  (syntax_variable.u1.ok k x0 (retK T syntax_variable.res κ)).trans (by kernel_rfl)
theorem syntax_variable.code : syntax_variable.c.code = bodyOf Try.f48 := by kernel_rfl
noncomputable def syntax_below.c : IC := syntax_below.u1.c
noncomputable def syntax_below.res : List ResultVar := [(.tmp 2), (.tmp 3)]
theorem syntax_below.u1.ok (k : Nat) (x0 : Int) (x1 : Int) (x2 : Int) (x3 : List UInt8) (x4 : Int) (K : Ex → Frame → M α) :
    evC T (env k) k syntax_below.u1.c (frameL [(0, .agg [.int .i64 x0, .int .i64 x1, .int .i64 x2, .str x3, .int .i64 x4])]) K =
      syntax_below.u1.f k x0 x1 x2 x3 x4 (fun y0 y1 => K .ret (frameL [(2, .int .i64 y0), (3, .bool y1)])) := by kernel_rfl
theorem syntax_below.ok (k : Nat) (x0 : Int) (x1 : Int) (x2 : Int) (x3 : List UInt8) (x4 : Int) (κ : Res → M α) :
    evF T (env k) k syntax_below.c syntax_below.res [.agg [.int .i64 x0, .int .i64 x1, .int .i64 x2, .str x3, .int .i64 x4]] κ = syntax_below.f (k + 1) x0 x1 x2 x3 x4 (fun o0 o1 => κ (.ret (.tuple [.int .i64 o0, .bool o1]))) :=
  (syntax_below.u1.ok k x0 x1 x2 x3 x4 (retK T syntax_below.res κ)).trans (by kernel_rfl)
theorem syntax_below.code : syntax_below.c.code = bodyOf Try.f30 := by kernel_rfl
noncomputable def syntax_Right_c1.c : IC := syntax_Right_c1.u1.c
noncomputable def syntax_Right_c1.res : List ResultVar := [(.tmp 2)]
theorem syntax_Right_c1.u1.ok (k : Nat) (x0 : Int) (K : Ex → Frame → M α) :
    evC T (env k) k syntax_Right_c1.u1.c (frameL [(0, .int .i64 x0)]) K =
      syntax_Right_c1.u1.f k x0 (fun y0 => K .ret (frameL [(2, .bool y0)])) := by kernel_rfl
theorem syntax_Right_c1.ok (k : Nat) (x0 : Int) (κ : Res → M α) :
    evF T (env k) k syntax_Right_c1.c syntax_Right_c1.res [.int .i64 x0] κ = syntax_Right_c1.f (k + 1) x0 (fun o0 => κ (.ret (.bool o0))) :=
  (syntax_Right_c1.u1.ok k x0 (retK T syntax_Right_c1.res κ)).trans (by kernel_rfl)
theorem syntax_Right_c1.code : syntax_Right_c1.c.code = bodyOf Try.f32 := by kernel_rfl
noncomputable def slices_IndexFunc_int_int_32.c : IC := slices_IndexFunc_int_int_32.u9.c
noncomputable def slices_IndexFunc_int_int_32.res : List ResultVar := [(.tmp 4)]
theorem slices_IndexFunc_int_int_32.u1.ok (k : Nat) (x0 : Sl) (R : IC) (K : Ex → Frame → M α) :
    evC T (env k) k (slices_IndexFunc_int_int_32.u1.c R) (frameL [(0, .slice x0), (1, .func 32 [] [])]) K =
      slices_IndexFunc_int_int_32.u1.f k x0 (fun y0 => evC T (env k) k R (frameL [(0, .slice y0), (1, .func 32 [] [])]) K) := by kernel_rfl
theorem slices_IndexFunc_int_int_32.u2.ok (k : Nat) (x0 : Sl) (R : IC) (K : Ex → Frame → M α) :
    evC T (env k) k (slices_IndexFunc_int_int_32.u2.c R) (frameL [(0, .slice x0), (1, .func 32 [] [])]) K =
      slices_IndexFunc_int_int_32.u2.f k x0 (fun y0 y1 y2 => evC T (env k) k R (frameL [(0, .slice y0), (1, .func 32 [] []), (7, .int .i64 y1), (8, .int .i64 y2)]) K) := by kernel_rfl
theorem slices_IndexFunc_int_int_32.u3.ok (k : Nat) (x0 : Sl) (x1 : Int) (x2 : Int) (K : Ex → Frame → M α) :
    evC T (env k) k slices_IndexFunc_int_int_32.u3.c (frameL [(0, .slice x0), (1, .func 32 [] []), (7, .int .i64 x1), (8, .int .i64 x2)]) K =
      slices_IndexFunc_int_int_32.u3.f k x0 x1 x2 (fun y0 y1 y2 => K .normal (frameL [(0, .slice y0), (1, .func 32 [] []), (7, .int .i64 y1), (8, .int .i64 y2)])) (fun y0 => K .ret (frameL [(4, .int .i64 y0)])) (K (.exit 0) (frameL [])) := by kernel_rfl
theorem slices_IndexFunc_int_int_32.u4.ls (k : Nat) (kr : Int → M α) (kx0 : M α) (j : Nat) (x0 : Sl) (x1 : Int) (x2 : Int) : slices_IndexFunc_int_int_32.u4.l k kr kx0 (j + 1) x0 x1 x2 =
  slices_IndexFunc_int_int_32.u3.f k x0 x1 x2 (fun y0 y1 y2 => slices_IndexFunc_int_int_32.u4.l k kr kx0 j y0 y1 y2) kr kx0 := rfl
theorem slices_IndexFunc_int_int_32.u4.okl (k : Nat) (K : Ex → Frame → M α) : ∀ (j : Nat) (x0 : Sl) (x1 : Int) (x2 : Int),
    evLoop (evC T (env k) k slices_IndexFunc_int_int_32.u3.c) [0, 1, 7, 8] j (frameL [(0, .slice x0), (1, .func 32 [] []), (7, .int .i64 x1), (8, .int .i64 x2)]) K = slices_IndexFunc_int_int_32.u4.l k (fun y0 => K .ret (frameL [(4, .int .i64 y0)])) (K (.exit 0) (frameL [])) j x0 x1 x2
  | 0, _, _, _ => rfl
  | j + 1, x0, x1, x2 => by
      have h := slices_IndexFunc_int_int_32.u3.ok k x0 x1 x2 (seqK (fun ρ => evLoop (evC T (env k) k slices_IndexFunc_int_int_32.u3.c) [0, 1, 7, 8] j ρ K) K)
      simp only [seqK_exit, seqK_ret, seqK_pan, seqK_normal, slices_IndexFunc_int_int_32.u4.okl k K j] at h
      exact (evLoop_step (by kernel_rfl) h).trans (slices_IndexFunc_int_int_32.u4.ls k (fun y0 => K .ret (frameL [(4, .int .i64 y0)])) (K (.exit 0) (frameL [])) j x0 x1 x2).symm
theorem slices_IndexFunc_int_int_32.u4.ok (k : Nat) (x0 : Sl) (x1 : Int) (x2 : Int) (K : Ex → Frame → M α) :
    evC T (env k) k slices_IndexFunc_int_int_32.u4.c (frameL [(0, .slice x0), (1, .func 32 [] []), (7, .int .i64 x1), (8, .int .i64 x2)]) K =
      slices_IndexFunc_int_int_32.u4.f k x0 x1 x2 (fun y0 => K .ret (frameL [(4, .int .i64 y0)])) (K (.exit 0) (frameL [])) :=
  evC_loop.trans <| (evLoop_keep (body := evC T (env k) k slices_IndexFunc_int_int_32.u3.c) (keep := [0, 1, 7, 8]) (ρ := (frameL [(0, .slice x0), (1, .func 32 [] []), (7, .int .i64 x1), (8, .int .i64 x2)])) (ρ' := (frameL [(0, .slice x0), (1, .func 32 [] []), (7, .int .i64 x1), (8, .int .i64 x2)])) (by kernel_rfl) k K).trans (slices_IndexFunc_int_int_32.u4.okl k K k x0 x1 x2)
theorem slices_IndexFunc_int_int_32.u5.ok (k : Nat) (x0 : Sl) (x1 : Int) (x2 : Int) (K : Ex → Frame → M α) :
    evC T (env k) k slices_IndexFunc_int_int_32.u5.c (frameL [(0, .slice x0), (1, .func 32 [] []), (7, .int .i64 x1), (8, .int .i64 x2)]) K =
      slices_IndexFunc_int_int_32.u5.f k x0 x1 x2 (K .normal (frameL [])) (fun y0 => K .ret (frameL [(4, .int .i64 y0)])) :=
  (evC_block.trans (slices_IndexFunc_int_int_32.u4.ok k x0 x1 x2 (blockK 0 K))).trans (by kernel_rfl)
theorem slices_IndexFunc_int_int_32.u6.ok (k : Nat) (x0 : Sl) (K : Ex → Frame → M α) :
    evC T (env k) k slices_IndexFunc_int_int_32.u6.c (frameL [(0, .slice x0), (1, .func 32 [] [])]) K =
      slices_IndexFunc_int_int_32.u6.f k x0 (K .normal (frameL [])) (fun y0 => K .ret (frameL [(4, .int .i64 y0)])) :=
  (slices_IndexFunc_int_int_32.u2.ok k x0 slices_IndexFunc_int_int_32.u5.c K).trans
    (congrArg (fun z => slices_IndexFunc_int_int_32.u2.f k x0 z) (funext fun y0 => (funext fun y1 => (funext fun y2 => slices_IndexFunc_int_int_32.u5.ok k y0 y1 y2 K))))
theorem slices_IndexFunc_int_int_32.u7.ok (k : Nat) (K : Ex → Frame → M α) :
    evC T (env k) k slices_IndexFunc_int_int_32.u7.c (frameL []) K =
      slices_IndexFunc_int_int_32.u7.f k (fun y0 => K .ret (frameL [(4, .int .i64 y0)])) := by kernel_rfl
theorem slices_IndexFunc_int_int_32.u8.ok (k : Nat) (x0 : Sl) (K : Ex → Frame → M α) :
    evC T (env k) k slices_IndexFunc_int_int_32.u8.c (frameL [(0, .slice x0), (1, .func 32 [] [])]) K =
      slices_IndexFunc_int_int_32.u8.f k x0 (fun y0 => K .ret (frameL [(4, .int .i64 y0)])) :=
  by
    have h := slices_IndexFunc_int_int_32.u6.ok k x0 (seqK (fun ρ => evC T (env k) k slices_IndexFunc_int_int_32.u7.c ρ K) K)
    simp only [seqK_normal, seqK_exit, seqK_ret, seqK_pan, slices_IndexFunc_int_int_32.u7.ok] at h
    exact evC_seq_of h
theorem slices_IndexFunc_int_int_32.u9.ok (k : Nat) (x0 : Sl) (K : Ex → Frame → M α) :
    evC T (env k) k slices_IndexFunc_int_int_32.u9.c (frameL [(0, .slice x0), (1, .func 32 [] [])]) K =
      slices_IndexFunc_int_int_32.u9.f k x0 (fun y0 => K .ret (frameL [(4, .int .i64 y0)])) :=
  (slices_IndexFunc_int_int_32.u1.ok k x0 slices_IndexFunc_int_int_32.u8.c K).trans
    (congrArg (fun z => slices_IndexFunc_int_int_32.u1.f k x0 z) (funext fun y0 => slices_IndexFunc_int_int_32.u8.ok k y0 K))
theorem slices_IndexFunc_int_int_32.ok (k : Nat) (x0 : Sl) (κ : Res → M α) :
    evF T (env k) k slices_IndexFunc_int_int_32.c slices_IndexFunc_int_int_32.res [.slice x0, .func 32 [] []] κ = slices_IndexFunc_int_int_32.f (k + 1) x0 (fun o0 => κ (.ret (.int .i64 o0))) :=
  (slices_IndexFunc_int_int_32.u9.ok k x0 (retK T slices_IndexFunc_int_int_32.res κ)).trans (by kernel_rfl)
theorem slices_IndexFunc_int_int_32.code : slices_IndexFunc_int_int_32.c.code = bodyOf Try.f49 := by kernel_rfl
noncomputable def slices_ContainsFunc_int_int_32.c : IC := slices_ContainsFunc_int_int_32.u1.c
noncomputable def slices_ContainsFunc_int_int_32.res : List ResultVar := [(.tmp 4)]
theorem slices_ContainsFunc_int_int_32.u1.ok (k : Nat) (x0 : Sl) (K : Ex → Frame → M α) :
    evC T (env k) k slices_ContainsFunc_int_int_32.u1.c (frameL [(0, .slice x0), (1, .func 32 [] [])]) K =
      slices_ContainsFunc_int_int_32.u1.f k x0 (fun y0 => K .ret (frameL [(4, .bool y0)])) := by kernel_rfl
theorem slices_ContainsFunc_int_int_32.ok (k : Nat) (x0 : Sl) (κ : Res → M α) :
    evF T (env k) k slices_ContainsFunc_int_int_32.c slices_ContainsFunc_int_int_32.res [.slice x0, .func 32 [] []] κ = slices_ContainsFunc_int_int_32.f (k + 1) x0 (fun o0 => κ (.ret (.bool o0))) :=
  (slices_ContainsFunc_int_int_32.u1.ok k x0 (retK T slices_ContainsFunc_int_int_32.res κ)).trans (by kernel_rfl)
theorem slices_ContainsFunc_int_int_32.code : slices_ContainsFunc_int_int_32.c.code = bodyOf Try.f31 := by kernel_rfl
noncomputable def slEq.c : IC := slEq.u9.c
noncomputable def slEq.res : List ResultVar := [(.tmp 4)]
theorem slEq.u1.ok (k : Nat) (x0 : Sl) (x1 : Sl) (R : IC) (K : Ex → Frame → M α) :
    evC T (env k) k (slEq.u1.c R) (frameL [(0, .slice x0), (1, .slice x1)]) K =
      slEq.u1.f k x0 x1 (fun y0 y1 => evC T (env k) k R (frameL [(0, .slice y0), (1, .slice y1)]) K) (fun y0 => K .ret (frameL [(4, .bool y0)])) := by kernel_rfl
theorem slEq.u2.ok (k : Nat) (x0 : Sl) (x1 : Sl) (R : IC) (K : Ex → Frame → M α) :
    evC T (env k) k (slEq.u2.c R) (frameL [(0, .slice x0), (1, .slice x1)]) K =
      slEq.u2.f k x0 x1 (fun y0 y1 y2 y3 => evC T (env k) k R (frameL [(0, .slice y0), (1, .slice y1), (12, .int .i64 y2), (13, .int .i64 y3)]) K) := by kernel_rfl
theorem slEq.u3.ok (k : Nat) (x0 : Sl) (x1 : Sl) (x2 : Int) (x3 : Int) (K : Ex → Frame → M α) :
    evC T (env k) k slEq.u3.c (frameL [(0, .slice x0), (1, .slice x1), (12, .int .i64 x2), (13, .int .i64 x3)]) K =
      slEq.u3.f k x0 x1 x2 x3 (fun y0 y1 y2 y3 => K .normal (frameL [(0, .slice y0), (1, .slice y1), (12, .int .i64 y2), (13, .int .i64 y3)])) (fun y0 => K .ret (frameL [(4, .bool y0)])) (K (.exit 0) (frameL [])) := by kernel_rfl
theorem slEq.u4.ls (k : Nat) (kr : Bool → M α) (kx0 : M α) (j : Nat) (x0 : Sl) (x1 : Sl) (x2 : Int) (x3 : Int) : slEq.u4.l k kr kx0 (j + 1) x0 x1 x2 x3 =
  slEq.u3.f k x0 x1 x2 x3 (fun y0 y1 y2 y3 => slEq.u4.l k kr kx0 j y0 y1 y2 y3) kr kx0 := rfl
theorem slEq.u4.okl (k : Nat) (K : Ex → Frame → M α) : ∀ (j : Nat) (x0 : Sl) (x1 : Sl) (x2 : Int) (x3 : Int),
    evLoop (evC T (env k) k slEq.u3.c) [0, 1, 12, 13] j (frameL [(0, .slice x0), (1, .slice x1), (12, .int .i64 x2), (13, .int .i64 x3)]) K = slEq.u4.l k (fun y0 => K .ret (frameL [(4, .bool y0)])) (K (.exit 0) (frameL [])) j x0 x1 x2 x3
  | 0, _, _, _, _ => rfl
  | j + 1, x0, x1, x2, x3 => by
      have h := slEq.u3.ok k x0 x1 x2 x3 (seqK (fun ρ => evLoop (evC T (env k) k slEq.u3.c) [0, 1, 12, 13] j ρ K) K)
      simp only [seqK_exit, seqK_ret, seqK_pan, seqK_normal, slEq.u4.okl k K j] at h
      exact (evLoop_step (by kernel_rfl) h).trans (slEq.u4.ls k (fun y0 => K .ret (frameL [(4, .bool y0)])) (K (.exit 0) (frameL [])) j x0 x1 x2 x3).symm
theorem slEq.u4.ok (k : Nat) (x0 : Sl) (x1 : Sl) (x2 : Int) (x3 : Int) (K : Ex → Frame → M α) :
    evC T (env k) k slEq.u4.c (frameL [(0, .slice x0), (1, .slice x1), (12, .int .i64 x2), (13, .int .i64 x3)]) K =
      slEq.u4.f k x0 x1 x2 x3 (fun y0 => K .ret (frameL [(4, .bool y0)])) (K (.exit 0) (frameL [])) :=
  evC_loop.trans <| (evLoop_keep (body := evC T (env k) k slEq.u3.c) (keep := [0, 1, 12, 13]) (ρ := (frameL [(0, .slice x0), (1, .slice x1), (12, .int .i64 x2), (13, .int .i64 x3)])) (ρ' := (frameL [(0, .slice x0), (1, .slice x1), (12, .int .i64 x2), (13, .int .i64 x3)])) (by kernel_rfl) k K).trans (slEq.u4.okl k K k x0 x1 x2 x3)
theorem slEq.u5.ok (k : Nat) (x0 : Sl) (x1 : Sl) (x2 : Int) (x3 : Int) (K : Ex → Frame → M α) :
    evC T (env k) k slEq.u5.c (frameL [(0, .slice x0), (1, .slice x1), (12, .int .i64 x2), (13, .int .i64 x3)]) K =
      slEq.u5.f k x0 x1 x2 x3 (K .normal (frameL [])) (fun y0 => K .ret (frameL [(4, .bool y0)])) :=
  (evC_block.trans (slEq.u4.ok k x0 x1 x2 x3 (blockK 0 K))).trans (by kernel_rfl)
theorem slEq.u6.ok (k : Nat) (x0 : Sl) (x1 : Sl) (K : Ex → Frame → M α) :
    evC T (env k) k slEq.u6.c (frameL [(0, .slice x0), (1, .slice x1)]) K =
      slEq.u6.f k x0 x1 (K .normal (frameL [])) (fun y0 => K .ret (frameL [(4, .bool y0)])) :=
  (slEq.u2.ok k x0 x1 slEq.u5.c K).trans
    (congrArg (fun z => slEq.u2.f k x0 x1 z) (funext fun y0 => (funext fun y1 => (funext fun y2 => (funext fun y3 => slEq.u5.ok k y0 y1 y2 y3 K)))))
theorem slEq.u7.ok (k : Nat) (K : Ex → Frame → M α) :
    evC T (env k) k slEq.u7.c (frameL []) K =
      slEq.u7.f k (fun y0 => K .ret (frameL [(4, .bool y0)])) := by kernel_rfl
theorem slEq.u8.ok (k : Nat) (x0 : Sl) (x1 : Sl) (K : Ex → Frame → M α) :
    evC T (env k) k slEq.u8.c (frameL [(0, .slice x0), (1, .slice x1)]) K =
      slEq.u8.f k x0 x1 (fun y0 => K .ret (frameL [(4, .bool y0)])) :=
  by
    have h := slEq.u6.ok k x0 x1 (seqK (fun ρ => evC T (env k) k slEq.u7.c ρ K) K)
    simp only [seqK_normal, seqK_exit, seqK_ret, seqK_pan, slEq.u7.ok] at h
    exact evC_seq_of h
theorem slEq.u9.ok (k : Nat) (x0 : Sl) (x1 : Sl) (K : Ex → Frame → M α) :
    evC T (env k) k slEq.u9.c (frameL [(0, .slice x0), (1, .slice x1)]) K =
      slEq.u9.f k x0 x1 (fun y0 => K .ret (frameL [(4, .bool y0)])) :=
  (slEq.u1.ok k x0 x1 slEq.u8.c K).trans
    (congrArg (fun z => slEq.u1.f k x0 x1 z (fun y0 => K .ret (frameL [(4, .bool y0)]))) (funext fun y0 => (funext fun y1 => slEq.u8.ok k y0 y1 K)))
theorem slEq.ok (k : Nat) (x0 : Sl) (x1 : Sl) (κ : Res → M α) :
    evF T (env k) k slEq.c slEq.res [.slice x0, .slice x1] κ = slEq.f (k + 1) x0 x1 (fun o0 => κ (.ret (.bool o0))) :=
  (slEq.u9.ok k x0 x1 (retK T slEq.res κ)).trans (by kernel_rfl)
theorem slEq.code : slEq.c.code = bodyOf Try.f33 := by kernel_rfl
noncomputable def syntax_Right.c : IC := syntax_Right.u9.c
noncomputable def syntax_Right.res : List ResultVar := [(.tmp 2)]
theorem syntax_Right.u1.ok (k : Nat) (x0 : Sl) (R : IC) (K : Ex → Frame → M α) :
    evC T (env k) k (syntax_Right.u1.c R) (frameL [(0, .slice x0)]) K =
      syntax_Right.u1.f k x0 (fun y0 y1 => evC T (env k) k R (frameL [(0, .slice y0), (3, .slice y1)]) K) (fun y0 => K .ret (frameL [(2, .bool y0)])) := by kernel_rfl
theorem syntax_Right.u2.ok (k : Nat) (x0 : Sl) (x1 : Sl) (R : IC) (K : Ex → Frame → M α) :
    evC T (env k) k (syntax_Right.u2.c R) (frameL [(0, .slice x0), (3, .slice x1)]) K =
      syntax_Right.u2.f k x0 x1 (fun y0 y1 y2 y3 => evC T (env k) k R (frameL [(3, .slice y0), (17, .slice y1), (18, .int .i64 y2), (19, .int .i64 y3)]) K) := by kernel_rfl
theorem syntax_Right.u3.ok (k : Nat) (x0 : Sl) (x1 : Sl) (x2 : Int) (x3 : Int) (K : Ex → Frame → M α) :
    evC T (env k) k syntax_Right.u3.c (frameL [(3, .slice x0), (17, .slice x1), (18, .int .i64 x2), (19, .int .i64 x3)]) K =
      syntax_Right.u3.f k x0 x1 x2 x3 (fun y0 y1 y2 y3 => K .normal (frameL [(3, .slice y0), (17, .slice y1), (18, .int .i64 y2), (19, .int .i64 y3)])) (fun y0 => K .ret (frameL [(2, .bool y0)])) (fun y0 => K (.exit 0) (frameL [(3, .slice y0)])) := by kernel_rfl
theorem syntax_Right.u4.ls (k : Nat) (kr : Bool → M α) (kx0 : Sl → M α) (j : Nat) (x0 : Sl) (x1 : Sl) (x2 : Int) (x3 : Int) : syntax_Right.u4.l k kr kx0 (j + 1) x0 x1 x2 x3 =
  syntax_Right.u3.f k x0 x1 x2 x3 (fun y0 y1 y2 y3 => syntax_Right.u4.l k kr kx0 j y0 y1 y2 y3) kr kx0 := rfl
theorem syntax_Right.u4.okl (k : Nat) (K : Ex → Frame → M α) : ∀ (j : Nat) (x0 : Sl) (x1 : Sl) (x2 : Int) (x3 : Int),
    evLoop (evC T (env k) k syntax_Right.u3.c) [3, 17, 18, 19] j (frameL [(3, .slice x0), (17, .slice x1), (18, .int .i64 x2), (19, .int .i64 x3)]) K = syntax_Right.u4.l k (fun y0 => K .ret (frameL [(2, .bool y0)])) (fun y0 => K (.exit 0) (frameL [(3, .slice y0)])) j x0 x1 x2 x3
  | 0, _, _, _, _ => rfl
  | j + 1, x0, x1, x2, x3 => by
      have h := syntax_Right.u3.ok k x0 x1 x2 x3 (seqK (fun ρ => evLoop (evC T (env k) k syntax_Right.u3.c) [3, 17, 18, 19] j ρ K) K)
      simp only [seqK_exit, seqK_ret, seqK_pan, seqK_normal, syntax_Right.u4.okl k K j] at h
      exact (evLoop_step (by kernel_rfl) h).trans (syntax_Right.u4.ls k (fun y0 => K .ret (frameL [(2, .bool y0)])) (fun y0 => K (.exit 0) (frameL [(3, .slice y0)])) j x0 x1 x2 x3).symm
theorem syntax_Right.u4.ok (k : Nat) (x0 : Sl) (x1 : Sl) (x2 : Int) (x3 : Int) (K : Ex → Frame → M α) :
    evC T (env k) k syntax_Right.u4.c (frameL [(3, .slice x0), (17, .slice x1), (18, .int .i64 x2), (19, .int .i64 x3)]) K =
      syntax_Right.u4.f k x0 x1 x2 x3 (fun y0 => K .ret (frameL [(2, .bool y0)])) (fun y0 => K (.exit 0) (frameL [(3, .slice y0)])) :=
  evC_loop.trans <| (evLoop_keep (body := evC T (env k) k syntax_Right.u3.c) (keep := [3, 17, 18, 19]) (ρ := (frameL [(3, .slice x0), (17, .slice x1), (18, .int .i64 x2), (19, .int .i64 x3)])) (ρ' := (frameL [(3, .slice x0), (17, .slice x1), (18, .int .i64 x2), (19, .int .i64 x3)])) (by kernel_rfl) k K).trans (syntax_Right.u4.okl k K k x0 x1 x2 x3)
theorem syntax_Right.u5.ok (k : Nat) (x0 : Sl) (x1 : Sl) (x2 : Int) (x3 : Int) (K : Ex → Frame → M α) :
    evC T (env k) k syntax_Right.u5.c (frameL [(3, .slice x0), (17, .slice x1), (18, .int .i64 x2), (19, .int .i64 x3)]) K =
      syntax_Right.u5.f k x0 x1 x2 x3 (fun y0 => K .normal (frameL [(3, .slice y0)])) (fun y0 => K .ret (frameL [(2, .bool y0)])) :=
  (evC_block.trans (syntax_Right.u4.ok k x0 x1 x2 x3 (blockK 0 K))).trans (by kernel_rfl)
theorem syntax_Right.u6.ok (k : Nat) (x0 : Sl) (x1 : Sl) (K : Ex → Frame → M α) :
    evC T (env k) k syntax_Right.u6.c (frameL [(0, .slice x0), (3, .slice x1)]) K =
      syntax_Right.u6.f k x0 x1 (fun y0 => K .normal (frameL [(3, .slice y0)])) (fun y0 => K .ret (frameL [(2, .bool y0)])) :=
  (syntax_Right.u2.ok k x0 x1 syntax_Right.u5.c K).trans
    (congrArg (fun z => syntax_Right.u2.f k x0 x1 z) (funext fun y0 => (funext fun y1 => (funext fun y2 => (funext fun y3 => syntax_Right.u5.ok k y0 y1 y2 y3 K)))))
theorem syntax_Right.u7.ok (k : Nat) (x0 : Sl) (K : Ex → Frame → M α) :
    evC T (env k) k syntax_Right.u7.c (frameL [(3, .slice x0)]) K =
      syntax_Right.u7.f k x0 (fun y0 => K .ret (frameL [(2, .bool y0)])) := by kernel_rfl
theorem syntax_Right.u8.ok (k : Nat) (x0 : Sl) (x1 : Sl) (K : Ex → Frame → M α) :
    evC T (env k) k syntax_Right.u8.c (frameL [(0, .slice x0), (3, .slice x1)]) K =
      syntax_Right.u8.f k x0 x1 (fun y0 => K .ret (frameL [(2, .bool y0)])) :=
  by
    have h := syntax_Right.u6.ok k x0 x1 (seqK (fun ρ => evC T (env k) k syntax_Right.u7.c ρ K) K)
    simp only [seqK_normal, seqK_exit, seqK_ret, seqK_pan, syntax_Right.u7.ok] at h
    exact evC_seq_of h
theorem syntax_Right.u9.ok (k : Nat) (x0 : Sl) (K : Ex → Frame → M α) :
    evC T (env k) k syntax_Right.u9.c (frameL [(0, .slice x0)]) K =
      syntax_Right.u9.f k x0 (fun y0 => K .ret (frameL [(2, .bool y0)])) :=
  (syntax_Right.u1.ok k x0 syntax_Right.u8.c K).trans
    (congrArg (fun z => syntax_Right.u1.f k x0 z (fun y0 => K .ret (frameL [(2, .bool y0)]))) (funext fun y0 => (funext fun y1 => syntax_Right.u8.ok k y0 y1 K)))
theorem syntax_Right.ok (k : Nat) (x0 : Sl) (κ : Res → M α) :
    evF T (env k) k syntax_Right.c syntax_Right.res [.slice x0] κ = syntax_Right.f (k + 1) x0 (fun o0 => κ (.ret (.bool o0))) :=
  (syntax_Right.u9.ok k x0 (retK T syntax_Right.res κ)).trans (by kernel_rfl)
theorem syntax_Right.code : syntax_Right.c.code = bodyOf Try.f20 := by kernel_rfl
noncomputable def bwfind.c : IC := bwfind.u9.c
noncomputable def bwfind.res : List ResultVar := [(.cell 4 89), (.tmp 5)]
theorem bwfind.u1.ok (k : Nat) (x0 : Ad) (x1 : List UInt8) (R : IC) (K : Ex → Frame → M α) :
    evC T (env k) k (bwfind.u1.c R) (frameL [(0, .ptr (some x0)), (1, .str x1)]) K =
      bwfind.u1.f k x0 x1 (fun y0 y1 y2 => evC T (env k) k R (frameL [(0, .ptr (some y0)), (1, .str y1), (4, .ptr (some y2))]) K) := by kernel_rfl
theorem bwfind.u2.ok (k : Nat) (x0 : Ad) (x1 : List UInt8) (x2 : Ad) (R : IC) (K : Ex → Frame → M α) :
    evC T (env k) k (bwfind.u2.c R) (frameL [(0, .ptr (some x0)), (1, .str x1), (4, .ptr (some x2))]) K =
      bwfind.u2.f k x0 x1 x2 (fun y0 y1 y2 y3 => evC T (env k) k R (frameL [(0, .ptr (some y0)), (1, .str y1), (4, .ptr (some y2)), (6, .int .i64 y3)]) K) := by kernel_rfl
theorem bwfind.u3.ok (k : Nat) (x0 : Ad) (x1 : List UInt8) (x2 : Ad) (x3 : Int) (K : Ex → Frame → M α) :
    evC T (env k) k bwfind.u3.c (frameL [(0, .ptr (some x0)), (1, .str x1), (4, .ptr (some x2)), (6, .int .i64 x3)]) K =
      bwfind.u3.f k x0 x1 x2 x3 (fun y0 y1 y2 y3 => K .normal (frameL [(0, .ptr (some y0)), (1, .str y1), (4, .ptr (some y2)), (6, .int .i64 y3)])) (fun y0 y1 => K .ret (frameL [(4, .ptr (some y0)), (5, .bool y1)])) (fun y0 => K (.exit 0) (frameL [(4, .ptr (some y0))])) := by kernel_rfl
theorem bwfind.u4.ls (k : Nat) (kr : Ad → Bool → M α) (kx0 : Ad → M α) (j : Nat) (x0 : Ad) (x1 : List UInt8) (x2 : Ad) (x3 : Int) : bwfind.u4.l k kr kx0 (j + 1) x0 x1 x2 x3 =
  bwfind.u3.f k x0 x1 x2 x3 (fun y0 y1 y2 y3 => bwfind.u4.l k kr kx0 j y0 y1 y2 y3) kr kx0 := rfl
theorem bwfind.u4.okl (k : Nat) (K : Ex → Frame → M α) : ∀ (j : Nat) (x0 : Ad) (x1 : List UInt8) (x2 : Ad) (x3 : Int),
    evLoop (evC T (env k) k bwfind.u3.c) [0, 1, 4, 6] j (frameL [(0, .ptr (some x0)), (1, .str x1), (4, .ptr (some x2)), (6, .int .i64 x3)]) K = bwfind.u4.l k (fun y0 y1 => K .ret (frameL [(4, .ptr (some y0)), (5, .bool y1)])) (fun y0 => K (.exit 0) (frameL [(4, .ptr (some y0))])) j x0 x1 x2 x3
  | 0, _, _, _, _ => rfl
  | j + 1, x0, x1, x2, x3 => by
      have h := bwfind.u3.ok k x0 x1 x2 x3 (seqK (fun ρ => evLoop (evC T (env k) k bwfind.u3.c) [0, 1, 4, 6] j ρ K) K)
      simp only [seqK_exit, seqK_ret, seqK_pan, seqK_normal, bwfind.u4.okl k K j] at h
      exact (evLoop_step (by kernel_rfl) h).trans (bwfind.u4.ls k (fun y0 y1 => K .ret (frameL [(4, .ptr (some y0)), (5, .bool y1)])) (fun y0 => K (.exit 0) (frameL [(4, .ptr (some y0))])) j x0 x1 x2 x3).symm
theorem bwfind.u4.ok (k : Nat) (x0 : Ad) (x1 : List UInt8) (x2 : Ad) (x3 : Int) (K : Ex → Frame → M α) :
    evC T (env k) k bwfind.u4.c (frameL [(0, .ptr (some x0)), (1, .str x1), (4, .ptr (some x2)), (6, .int .i64 x3)]) K =
      bwfind.u4.f k x0 x1 x2 x3 (fun y0 y1 => K .ret (frameL [(4, .ptr (some y0)), (5, .bool y1)])) (fun y0 => K (.exit 0) (frameL [(4, .ptr (some y0))])) :=
  evC_loop.trans <| (evLoop_keep (body := evC T (env k) k bwfind.u3.c) (keep := [0, 1, 4, 6]) (ρ := (frameL [(0, .ptr (some x0)), (1, .str x1), (4, .ptr (some x2)), (6, .int .i64 x3)])) (ρ' := (frameL [(0, .ptr (some x0)), (1, .str x1), (4, .ptr (some x2)), (6, .int .i64 x3)])) (by kernel_rfl) k K).trans (bwfind.u4.okl k K k x0 x1 x2 x3)
theorem bwfind.u5.ok (k : Nat) (x0 : Ad) (x1 : List UInt8) (x2 : Ad) (x3 : Int) (K : Ex → Frame → M α) :
    evC T (env k) k bwfind.u5.c (frameL [(0, .ptr (some x0)), (1, .str x1), (4, .ptr (some x2)), (6, .int .i64 x3)]) K =
      bwfind.u5.f k x0 x1 x2 x3 (fun y0 => K .normal (frameL [(4, .ptr (some y0))])) (fun y0 y1 => K .ret (frameL [(4, .ptr (some y0)), (5, .bool y1)])) :=
  (evC_block.trans (bwfind.u4.ok k x0 x1 x2 x3 (blockK 0 K))).trans (by kernel_rfl)
theorem bwfind.u6.ok (k : Nat) (x0 : Ad) (x1 : List UInt8) (x2 : Ad) (K : Ex → Frame → M α) :
    evC T (env k) k bwfind.u6.c (frameL [(0, .ptr (some x0)), (1, .str x1), (4, .ptr (some x2))]) K =
      bwfind.u6.f k x0 x1 x2 (fun y0 => K .normal (frameL [(4, .ptr (some y0))])) (fun y0 y1 => K .ret (frameL [(4, .ptr (some y0)), (5, .bool y1)])) :=
  (bwfind.u2.ok k x0 x1 x2 bwfind.u5.c K).trans
    (congrArg (fun z => bwfind.u2.f k x0 x1 x2 z) (funext fun y0 => (funext fun y1 => (funext fun y2 => (funext fun y3 => bwfind.u5.ok k y0 y1 y2 y3 K)))))
theorem bwfind.u7.ok (k : Nat) (x0 : Ad) (K : Ex → Frame → M α) :
    evC T (env k) k bwfind.u7.c (frameL [(4, .ptr (some x0))]) K =
      bwfind.u7.f k x0 (fun y0 y1 => K .ret (frameL [(4, .ptr (some y0)), (5, .bool y1)])) := by kernel_rfl
theorem bwfind.u8.ok (k : Nat) (x0 : Ad) (x1 : List UInt8) (x2 : Ad) (K : Ex → Frame → M α) :
    evC T (env k) k bwfind.u8.c (frameL [(0, .ptr (some x0)), (1, .str x1), (4, .ptr (some x2))]) K =
      bwfind.u8.f k x0 x1 x2 (fun y0 y1 => K .ret (frameL [(4, .ptr (some y0)), (5, .bool y1)])) :=
  by
    have h := bwfind.u6.ok k x0 x1 x2 (seqK (fun ρ => evC T (env k) k bwfind.u7.c ρ K) K)
    simp only [seqK_normal, seqK_exit, seqK_ret, seqK_pan, bwfind.u7.ok] at h
    exact evC_seq_of h
theorem bwfind.u9.ok (k : Nat) (x0 : Ad) (x1 : List UInt8) (K : Ex → Frame → M α) :
    evC T (env k) k bwfind.u9.c (frameL [(0, .ptr (some x0)), (1, .str x1)]) K =
      bwfind.u9.f k x0 x1 (fun y0 y1 => K .ret (frameL [(4, .ptr (some y0)), (5, .bool y1)])) :=
  (bwfind.u1.ok k x0 x1 bwfind.u8.c K).trans
    (congrArg (fun z => bwfind.u1.f k x0 x1 z) (funext fun y0 => (funext fun y1 => (funext fun y2 => bwfind.u8.ok k y0 y1 y2 K))))
theorem bwfind.ok (k : Nat) (x0 : Ad) (x1 : List UInt8) (κ : Res → M α) :
    evF T (env k) k bwfind.c bwfind.res [.ptr (some x0), .str x1] κ = bwfind.f (k + 1) x0 x1 (fun o0 o1 o2 => κ (.ret (.tuple [.agg [.int .i64 o0, .int .i64 o1], .bool o2]))) :=
  (bwfind.u9.ok k x0 x1 (retK T bwfind.res κ)).trans (by kernel_rfl)
theorem bwfind.code : bwfind.c.code = bodyOf Try.f61 := by kernel_rfl
noncomputable def bwnode.c : IC := bwnode.u22.c
noncomputable def bwnode.res : List ResultVar := []
theorem bwnode.u1.ok (k : Nat) (x0 : Ad) (x1 : Int) (R : IC) (K : Ex → Frame → M α) :
    evC T (env k) k (bwnode.u1.c R) (frameL [(0, .ptr (some x0)), (1, .int .i64 x1)]) K =
      bwnode.u1.f k x0 x1 (fun y0 y1 y2 y3 => evC T (env k) k R (frameL [(0, .ptr (some y0)), (1, .int .i64 y1), (4, .ptr (some y2)), (15, .int .i64 y3)]) K) := by kernel_rfl
theorem bwnode.u2.ok (k : Nat) (x0 : Ad) (x1 : Int) (x2 : Ad) (x3 : Int) (R : IC) (K : Ex → Frame → M α) :
    evC T (env k) k (bwnode.u2.c R) (frameL [(0, .ptr (some x0)), (1, .int .i64 x1), (4, .ptr (some x2)), (15, .int .i64 x3)]) K =
      bwnode.u2.f k x0 x1 x2 x3 (fun y0 y1 y2 y3 y4 => evC T (env k) k R (frameL [(0, .ptr (some y0)), (1, .int .i64 y1), (4, .ptr (some y2)), (15, .int .i64 y3), (16, .bool y4)]) K) := by kernel_rfl
theorem bwnode.u3.ok (k : Nat) (x0 : Ad) (x1 : Int) (x2 : Ad) (x3 : Int) (x4 : Bool) (K : Ex → Frame → M α) :
    evC T (env k) k bwnode.u3.c (frameL [(0, .ptr (some x0)), (1, .int .i64 x1), (4, .ptr (some x2)), (15, .int .i64 x3), (16, .bool x4)]) K =
      bwnode.u3.f k x0 x1 x2 x3 x4 (K .normal (frameL [])) := by kernel_rfl
theorem bwnode.u4.ok (k : Nat) (x0 : Ad) (x1 : Int) (x2 : Ad) (x3 : Int) (x4 : Bool) (R : IC) (K : Ex → Frame → M α) :
    evC T (env k) k (bwnode.u4.c R) (frameL [(0, .ptr (some x0)), (1, .int .i64 x1), (4, .ptr (some x2)), (15, .int .i64 x3), (16, .bool x4)]) K =
      bwnode.u4.f k x0 x1 x2 x3 x4 (fun y0 y1 y2 y3 y4 => evC T (env k) k R (frameL [(0, .ptr (some y0)), (1, .int .i64 y1), (4, .ptr (some y2)), (15, .int .i64 y3), (49, .bool y4)]) K) := by kernel_rfl
theorem bwnode.u5.ok (k : Nat) (x0 : Ad) (x1 : Int) (x2 : Ad) (x3 : Int) (x4 : Bool) (K : Ex → Frame → M α) :
    evC T (env k) k bwnode.u5.c (frameL [(0, .ptr (some x0)), (1, .int .i64 x1), (4, .ptr (some x2)), (15, .int .i64 x3), (49, .bool x4)]) K =
      bwnode.u5.f k (bwnode.f k) x0 x1 x2 x3 x4 (K .normal (frameL [])) := by kernel_rfl
theorem bwnode.u6.ok (k : Nat) (x0 : Ad) (x1 : Int) (x2 : Ad) (x3 : Int) (x4 : Bool) (R : IC) (K : Ex → Frame → M α) :
    evC T (env k) k (bwnode.u6.c R) (frameL [(0, .ptr (some x0)), (1, .int .i64 x1), (4, .ptr (some x2)), (15, .int .i64 x3), (49, .bool x4)]) K =
      bwnode.u6.f k x0 x1 x2 x3 x4 (fun y0 y1 y2 y3 y4 => evC T (env k) k R (frameL [(0, .ptr (some y0)), (1, .int .i64 y1), (4, .ptr (some y2)), (15, .int .i64 y3), (83, .bool y4)]) K) := by kernel_rfl
theorem bwnode.u7.ok (k : Nat) (x0 : Ad) (x1 : Int) (x2 : Ad) (x3 : Int) (x4 : Bool) (K : Ex → Frame → M α) :
    evC T (env k) k bwnode.u7.c (frameL [(0, .ptr (some x0)), (1, .int .i64 x1), (4, .ptr (some x2)), (15, .int .i64 x3), (83, .bool x4)]) K =
      bwnode.u7.f k (bwnode.f k) x0 x1 x2 x3 x4 (K .normal (frameL [])) := by kernel_rfl
theorem bwnode.u8.ok (k : Nat) (x0 : Ad) (x1 : Int) (x2 : Ad) (x3 : Int) (x4 : Bool) (R : IC) (K : Ex → Frame → M α) :
    evC T (env k) k (bwnode.u8.c R) (frameL [(0, .ptr (some x0)), (1, .int .i64 x1), (4, .ptr (some x2)), (15, .int .i64 x3), (83, .bool x4)]) K =
      bwnode.u8.f k x0 x1 x2 x3 x4 (fun y0 y1 y2 y3 y4 => evC T (env k) k R (frameL [(0, .ptr (some y0)), (1, .int .i64 y1), (4, .ptr (some y2)), (15, .int .i64 y3), (104, .bool y4)]) K) := by kernel_rfl
theorem bwnode.u9.ok (k : Nat) (x0 : Ad) (x1 : Int) (x2 : Ad) (x3 : Int) (x4 : Bool) (K : Ex → Frame → M α) :
    evC T (env k) k bwnode.u9.c (frameL [(0, .ptr (some x0)), (1, .int .i64 x1), (4, .ptr (some x2)), (15, .int .i64 x3), (104, .bool x4)]) K =
      bwnode.u9.f k (bwnode.f k) x0 x1 x2 x3 x4 (K .normal (frameL [])) := by kernel_rfl
theorem bwnode.u10.ok (k : Nat) (x0 : Ad) (x1 : Int) (x2 : Ad) (x3 : Int) (x4 : Bool) (R : IC) (K : Ex → Frame → M α) :
    evC T (env k) k (bwnode.u10.c R) (frameL [(0, .ptr (some x0)), (1, .int .i64 x1), (4, .ptr (some x2)), (15, .int .i64 x3), (104, .bool x4)]) K =
      bwnode.u10.f k x0 x1 x2 x3 x4 (fun y0 y1 y2 y3 => evC T (env k) k R (frameL [(0, .ptr (some y0)), (1, .int .i64 y1), (4, .ptr (some y2)), (138, .bool y3)]) K) := by kernel_rfl
theorem bwnode.u11.ok (k : Nat) (x0 : Ad) (x1 : Int) (x2 : Ad) (x3 : Bool) (K : Ex → Frame → M α) :
    evC T (env k) k bwnode.u11.c (frameL [(0, .ptr (some x0)), (1, .int .i64 x1), (4, .ptr (some x2)), (138, .bool x3)]) K =
      bwnode.u11.f k (bwnode.f k) x0 x1 x2 x3 (K .normal (frameL [])) := by kernel_rfl
theorem bwnode.u12.ok (k : Nat) (x0 : Ad) (x1 : Int) (x2 : Ad) (x3 : Int) (x4 : Bool) (K : Ex → Frame → M α) :
    evC T (env k) k bwnode.u12.c (frameL [(0, .ptr (some x0)), (1, .int .i64 x1), (4, .ptr (some x2)), (15, .int .i64 x3), (104, .bool x4)]) K =
      bwnode.u12.f k (bwnode.f k) x0 x1 x2 x3 x4 (K .normal (frameL [])) :=
  (bwnode.u10.ok k x0 x1 x2 x3 x4 bwnode.u11.c K).trans
    (congrArg (fun z => bwnode.u10.f k x0 x1 x2 x3 x4 z) (funext fun y0 => (funext fun y1 => (funext fun y2 => (funext fun y3 => bwnode.u11.ok k y0 y1 y2 y3 K)))))
theorem bwnode.u13.ok (k : Nat) (x0 : Ad) (x1 : Int) (x2 : Ad) (x3 : Int) (x4 : Bool) (K : Ex → Frame → M α) :
    evC T (env k) k bwnode.u13.c (frameL [(0, .ptr (some x0)), (1, .int .i64 x1), (4, .ptr (some x2)), (15, .int .i64 x3), (104, .bool x4)]) K =
      bwnode.u13.f k (bwnode.f k) x0 x1 x2 x3 x4 (K .normal (frameL [])) :=
  evC_cond_run (g := x4) (by kernel_rfl) (bwnode.u9.ok k x0 x1 x2 x3 x4 K) (bwnode.u12.ok k x0 x1 x2 x3 x4 K)
theorem bwnode.u14.ok (k : Nat) (x0 : Ad) (x1 : Int) (x2 : Ad) (x3 : Int) (x4 : Bool) (K : Ex → Frame → M α) :
    evC T (env k) k bwnode.u14.c (frameL [(0, .ptr (some x0)), (1, .int .i64 x1), (4, .ptr (some x2)), (15, .int .i64 x3), (83, .bool x4)]) K =
      bwnode.u14.f k (bwnode.f k) x0 x1 x2 x3 x4 (K .normal (frameL [])) :=
  (bwnode.u8.ok k x0 x1 x2 x3 x4 bwnode.u13.c K).trans
    (congrArg (fun z => bwnode.u8.f k x0 x1 x2 x3 x4 z) (funext fun y0 => (funext fun y1 => (funext fun y2 => (funext fun y3 => (funext fun y4 => bwnode.u13.ok k y0 y1 y2 y3 y4 K))))))
theorem bwnode.u15.ok (k : Nat) (x0 : Ad) (x1 : Int) (x2 : Ad) (x3 : Int) (x4 : Bool) (K : Ex → Frame → M α) :
    evC T (env k) k bwnode.u15.c (frameL [(0, .ptr (some x0)), (1, .int .i64 x1), (4, .ptr (some x2)), (15, .int .i64 x3), (83, .bool x4)]) K =
      bwnode.u15.f k (bwnode.f k) x0 x1 x2 x3 x4 (K .normal (frameL [])) :=
  evC_cond_run (g := x4) (by kernel_rfl) (bwnode.u7.ok k x0 x1 x2 x3 x4 K) (bwnode.u14.ok k x0 x1 x2 x3 x4 K)
theorem bwnode.u16.ok (k : Nat) (x0 : Ad) (x1 : Int) (x2 : Ad) (x3 : Int) (x4 : Bool) (K : Ex → Frame → M α) :
    evC T (env k) k bwnode.u16.c (frameL [(0, .ptr (some x0)), (1, .int .i64 x1), (4, .ptr (some x2)), (15, .int .i64 x3), (49, .bool x4)]) K =
      bwnode.u16.f k (bwnode.f k) x0 x1 x2 x3 x4 (K .normal (frameL [])) :=
  (bwnode.u6.ok k x0 x1 x2 x3 x4 bwnode.u15.c K).trans
    (congrArg (fun z => bwnode.u6.f k x0 x1 x2 x3 x4 z) (funext fun y0 => (funext fun y1 => (funext fun y2 => (funext fun y3 => (funext fun y4 => bwnode.u15.ok k y0 y1 y2 y3 y4 K))))))
theorem bwnode.u17.ok (k : Nat) (x0 : Ad) (x1 : Int) (x2 : Ad) (x3 : Int) (x4 : Bool) (K : Ex → Frame → M α) :
    evC T (env k) k bwnode.u17.c (frameL [(0, .ptr (some x0)), (1, .int .i64 x1), (4, .ptr (some x2)), (15, .int .i64 x3), (49, .bool x4)]) K =
      bwnode.u17.f k (bwnode.f k) x0 x1 x2 x3 x4 (K .normal (frameL [])) :=
  evC_cond_run (g := x4) (by kernel_rfl) (bwnode.u5.ok k x0 x1 x2 x3 x4 K) (bwnode.u16.ok k x0 x1 x2 x3 x4 K)
theorem bwnode.u18.ok (k : Nat) (x0 : Ad) (x1 : Int) (x2 : Ad) (x3 : Int) (x4 : Bool) (K : Ex → Frame → M α) :
    evC T (env k) k bwnode.u18.c (frameL [(0, .ptr (some x0)), (1, .int .i64 x1), (4, .ptr (some x2)), (15, .int .i64 x3), (16, .bool x4)]) K =
      bwnode.u18.f k (bwnode.f k) x0 x1 x2 x3 x4 (K .normal (frameL [])) :=
  (bwnode.u4.ok k x0 x1 x2 x3 x4 bwnode.u17.c K).trans
    (congrArg (fun z => bwnode.u4.f k x0 x1 x2 x3 x4 z) (funext fun y0 => (funext fun y1 => (funext fun y2 => (funext fun y3 => (funext fun y4 => bwnode.u17.ok k y0 y1 y2 y3 y4 K))))))
theorem bwnode.u19.ok (k : Nat) (x0 : Ad) (x1 : Int) (x2 : Ad) (x3 : Int) (x4 : Bool) (K : Ex → Frame → M α) :
    evC T (env k) k bwnode.u19.c (frameL [(0, .ptr (some x0)), (1, .int .i64 x1), (4, .ptr (some x2)), (15, .int .i64 x3), (16, .bool x4)]) K =
      bwnode.u19.f k (bwnode.f k) x0 x1 x2 x3 x4 (K .normal (frameL [])) :=
  evC_cond_run (g := x4) (by kernel_rfl) (bwnode.u3.ok k x0 x1 x2 x3 x4 K) (bwnode.u18.ok k x0 x1 x2 x3 x4 K)
theorem bwnode.u20.ok (k : Nat) (x0 : Ad) (x1 : Int) (x2 : Ad) (x3 : Int) (K : Ex → Frame → M α) :
    evC T (env k) k bwnode.u20.c (frameL [(0, .ptr (some x0)), (1, .int .i64 x1), (4, .ptr (some x2)), (15, .int .i64 x3)]) K =
      bwnode.u20.f k (bwnode.f k) x0 x1 x2 x3 (K .normal (frameL [])) :=
  (bwnode.u2.ok k x0 x1 x2 x3 bwnode.u19.c K).trans
    (congrArg (fun z => bwnode.u2.f k x0 x1 x2 x3 z) (funext fun y0 => (funext fun y1 => (funext fun y2 => (funext fun y3 => (funext fun y4 => bwnode.u19.ok k y0 y1 y2 y3 y4 K))))))
theorem bwnode.u21.ok (k : Nat) (x0 : Ad) (x1 : Int) (x2 : Ad) (x3 : Int) (K : Ex → Frame → M α) :
    evC T (env k) k bwnode.u21.c (frameL [(0, .ptr (some x0)), (1, .int .i64 x1), (4, .ptr (some x2)), (15, .int .i64 x3)]) K =
      bwnode.u21.f k (bwnode.f k) x0 x1 x2 x3 (K .normal (frameL [])) :=
  (evC_block.trans (bwnode.u20.ok k x0 x1 x2 x3 (blockK 0 K))).trans (by kernel_rfl)
theorem bwnode.u22.ok (k : Nat) (x0 : Ad) (x1 : Int) (K : Ex → Frame → M α) :
    evC T (env k) k bwnode.u22.c (frameL [(0, .ptr (some x0)), (1, .int .i64 x1)]) K =
      bwnode.u22.f k (bwnode.f k) x0 x1 (K .normal (frameL [])) :=
  (bwnode.u1.ok k x0 x1 bwnode.u21.c K).trans
    (congrArg (fun z => bwnode.u1.f k x0 x1 z) (funext fun y0 => (funext fun y1 => (funext fun y2 => (funext fun y3 => bwnode.u21.ok k y0 y1 y2 y3 K)))))
theorem bwnode.ok (k : Nat) (x0 : Ad) (x1 : Int) (κ : Res → M α) :
    evF T (env k) k bwnode.c bwnode.res [.ptr (some x0), .int .i64 x1] κ = bwnode.f (k + 1) x0 x1 (κ (.ret (.tuple []))) :=
  (bwnode.u22.ok k x0 x1 (retK T bwnode.res κ)).trans (by kernel_rfl)
theorem bwnode.code : bwnode.c.code = bodyOf Try.f46 := by kernel_rfl
noncomputable def bind_walked.c : IC := bind_walked.u9.c
noncomputable def bind_walked.res : List ResultVar := [(.tmp 2)]
theorem bind_walked.u1.ok (k : Nat) (x0 : Sl) (R : IC) (K : Ex → Frame → M α) :
    evC T (env k) k (bind_walked.u1.c R) (frameL [(0, .slice x0)]) K =
      bind_walked.u1.f k x0 (fun y0 y1 => evC T (env k) k R (frameL [(0, .slice y0), (3, .ptr (some y1))]) K) := by kernel_rfl
theorem bind_walked.u2.ok (k : Nat) (x0 : Sl) (x1 : Ad) (R : IC) (K : Ex → Frame → M α) :
    evC T (env k) k (bind_walked.u2.c R) (frameL [(0, .slice x0), (3, .ptr (some x1))]) K =
      bind_walked.u2.f k x0 x1 (fun y0 y1 y2 y3 => evC T (env k) k R (frameL [(0, .slice y0), (3, .ptr (some y1)), (21, .int .i64 y2), (22, .int .i64 y3)]) K) := by kernel_rfl
theorem bind_walked.u3.ok (k : Nat) (x0 : Sl) (x1 : Ad) (x2 : Int) (x3 : Int) (K : Ex → Frame → M α) :
    evC T (env k) k bind_walked.u3.c (frameL [(0, .slice x0), (3, .ptr (some x1)), (21, .int .i64 x2), (22, .int .i64 x3)]) K =
      bind_walked.u3.f k x0 x1 x2 x3 (fun y0 y1 y2 y3 => K .normal (frameL [(0, .slice y0), (3, .ptr (some y1)), (21, .int .i64 y2), (22, .int .i64 y3)])) (fun y0 y1 => K (.exit 0) (frameL [(0, .slice y0), (3, .ptr (some y1))])) := by kernel_rfl
theorem bind_walked.u4.ls (k : Nat) (kx0 : Sl → Ad → M α) (j : Nat) (x0 : Sl) (x1 : Ad) (x2 : Int) (x3 : Int) : bind_walked.u4.l k kx0 (j + 1) x0 x1 x2 x3 =
  bind_walked.u3.f k x0 x1 x2 x3 (fun y0 y1 y2 y3 => bind_walked.u4.l k kx0 j y0 y1 y2 y3) kx0 := rfl
theorem bind_walked.u4.okl (k : Nat) (K : Ex → Frame → M α) : ∀ (j : Nat) (x0 : Sl) (x1 : Ad) (x2 : Int) (x3 : Int),
    evLoop (evC T (env k) k bind_walked.u3.c) [0, 3, 21, 22] j (frameL [(0, .slice x0), (3, .ptr (some x1)), (21, .int .i64 x2), (22, .int .i64 x3)]) K = bind_walked.u4.l k (fun y0 y1 => K (.exit 0) (frameL [(0, .slice y0), (3, .ptr (some y1))])) j x0 x1 x2 x3
  | 0, _, _, _, _ => rfl
  | j + 1, x0, x1, x2, x3 => by
      have h := bind_walked.u3.ok k x0 x1 x2 x3 (seqK (fun ρ => evLoop (evC T (env k) k bind_walked.u3.c) [0, 3, 21, 22] j ρ K) K)
      simp only [seqK_exit, seqK_ret, seqK_pan, seqK_normal, bind_walked.u4.okl k K j] at h
      exact (evLoop_step (by kernel_rfl) h).trans (bind_walked.u4.ls k (fun y0 y1 => K (.exit 0) (frameL [(0, .slice y0), (3, .ptr (some y1))])) j x0 x1 x2 x3).symm
theorem bind_walked.u4.ok (k : Nat) (x0 : Sl) (x1 : Ad) (x2 : Int) (x3 : Int) (K : Ex → Frame → M α) :
    evC T (env k) k bind_walked.u4.c (frameL [(0, .slice x0), (3, .ptr (some x1)), (21, .int .i64 x2), (22, .int .i64 x3)]) K =
      bind_walked.u4.f k x0 x1 x2 x3 (fun y0 y1 => K (.exit 0) (frameL [(0, .slice y0), (3, .ptr (some y1))])) :=
  evC_loop.trans <| (evLoop_keep (body := evC T (env k) k bind_walked.u3.c) (keep := [0, 3, 21, 22]) (ρ := (frameL [(0, .slice x0), (3, .ptr (some x1)), (21, .int .i64 x2), (22, .int .i64 x3)])) (ρ' := (frameL [(0, .slice x0), (3, .ptr (some x1)), (21, .int .i64 x2), (22, .int .i64 x3)])) (by kernel_rfl) k K).trans (bind_walked.u4.okl k K k x0 x1 x2 x3)
theorem bind_walked.u5.ok (k : Nat) (x0 : Sl) (x1 : Ad) (x2 : Int) (x3 : Int) (K : Ex → Frame → M α) :
    evC T (env k) k bind_walked.u5.c (frameL [(0, .slice x0), (3, .ptr (some x1)), (21, .int .i64 x2), (22, .int .i64 x3)]) K =
      bind_walked.u5.f k x0 x1 x2 x3 (fun y0 y1 => K .normal (frameL [(0, .slice y0), (3, .ptr (some y1))])) :=
  (evC_block.trans (bind_walked.u4.ok k x0 x1 x2 x3 (blockK 0 K))).trans (by kernel_rfl)
theorem bind_walked.u6.ok (k : Nat) (x0 : Sl) (x1 : Ad) (K : Ex → Frame → M α) :
    evC T (env k) k bind_walked.u6.c (frameL [(0, .slice x0), (3, .ptr (some x1))]) K =
      bind_walked.u6.f k x0 x1 (fun y0 y1 => K .normal (frameL [(0, .slice y0), (3, .ptr (some y1))])) :=
  (bind_walked.u2.ok k x0 x1 bind_walked.u5.c K).trans
    (congrArg (fun z => bind_walked.u2.f k x0 x1 z) (funext fun y0 => (funext fun y1 => (funext fun y2 => (funext fun y3 => bind_walked.u5.ok k y0 y1 y2 y3 K)))))
theorem bind_walked.u7.ok (k : Nat) (x0 : Sl) (x1 : Ad) (K : Ex → Frame → M α) :
    evC T (env k) k bind_walked.u7.c (frameL [(0, .slice x0), (3, .ptr (some x1))]) K =
      bind_walked.u7.f k x0 x1 (fun y0 => K .ret (frameL [(2, .ptr (some y0))])) := by kernel_rfl
theorem bind_walked.u8.ok (k : Nat) (x0 : Sl) (x1 : Ad) (K : Ex → Frame → M α) :
    evC T (env k) k bind_walked.u8.c (frameL [(0, .slice x0), (3, .ptr (some x1))]) K =
      bind_walked.u8.f k x0 x1 (fun y0 => K .ret (frameL [(2, .ptr (some y0))])) :=
  by
    have h := bind_walked.u6.ok k x0 x1 (seqK (fun ρ => evC T (env k) k bind_walked.u7.c ρ K) K)
    simp only [seqK_normal, seqK_exit, seqK_ret, seqK_pan, bind_walked.u7.ok] at h
    exact evC_seq_of h
theorem bind_walked.u9.ok (k : Nat) (x0 : Sl) (K : Ex → Frame → M α) :
    evC T (env k) k bind_walked.u9.c (frameL [(0, .slice x0)]) K =
      bind_walked.u9.f k x0 (fun y0 => K .ret (frameL [(2, .ptr (some y0))])) :=
  (bind_walked.u1.ok k x0 bind_walked.u8.c K).trans
    (congrArg (fun z => bind_walked.u1.f k x0 z) (funext fun y0 => (funext fun y1 => bind_walked.u8.ok k y0 y1 K)))
theorem bind_walked.ok (k : Nat) (x0 : Sl) (κ : Res → M α) :
    evF T (env k) k bind_walked.c bind_walked.res [.slice x0] κ = bind_walked.f (k + 1) x0 (fun o0 => κ (.ret (.ptr (some o0)))) :=
  (bind_walked.u9.ok k x0 (retK T bind_walked.res κ)).trans (by kernel_rfl)
theorem bind_walked.code : bind_walked.c.code = bodyOf Try.f28 := by kernel_rfl
noncomputable def bind_fix.c : IC := bind_fix.u1.c
noncomputable def bind_fix.res : List ResultVar := [(.tmp 2)]
theorem bind_fix.u1.ok (k : Nat) (x0 : Int) (x1 : Int) (x2 : Int) (x3 : List UInt8) (x4 : Int) (K : Ex → Frame → M α) :
    evC T (env k) k bind_fix.u1.c (frameL [(0, .agg [.int .i64 x0, .int .i64 x1, .int .i64 x2, .str x3, .int .i64 x4])]) K =
      bind_fix.u1.f k x0 x1 x2 x3 x4 (fun y0 => K .ret (frameL [(2, .bool y0)])) := by kernel_rfl
theorem bind_fix.ok (k : Nat) (x0 : Int) (x1 : Int) (x2 : Int) (x3 : List UInt8) (x4 : Int) (κ : Res → M α) :
    evF T (env k) k bind_fix.c bind_fix.res [.agg [.int .i64 x0, .int .i64 x1, .int .i64 x2, .str x3, .int .i64 x4]] κ = bind_fix.f (k + 1) x0 x1 x2 x3 x4 (fun o0 => κ (.ret (.bool o0))) :=
  (bind_fix.u1.ok k x0 x1 x2 x3 x4 (retK T bind_fix.res κ)).trans (by kernel_rfl)
theorem bind_fix.code : bind_fix.c.code = bodyOf Try.f29 := by kernel_rfl
noncomputable def bind_Check.c : IC := bind_Check.u29.c
noncomputable def bind_Check.res : List ResultVar := [(.tmp 2), (.tmp 3)]
theorem bind_Check.u1.ok (k : Nat) (x0 : Sl) (R : IC) (K : Ex → Frame → M α) :
    evC T (env k) k (bind_Check.u1.c R) (frameL [(0, .slice x0)]) K =
      bind_Check.u1.f k x0 (fun y0 y1 y2 => evC T (env k) k R (frameL [(0, .slice y0), (4, .ptr (some y1)), (5, .map y2)]) K) (fun y0 y1 => K .ret (frameL [(2, .int .i64 y0), (3, .int .i64 y1)])) := by kernel_rfl
theorem bind_Check.u2.ok (k : Nat) (x0 : Sl) (x1 : Ad) (x2 : Option Nat) (R : IC) (K : Ex → Frame → M α) :
    evC T (env k) k (bind_Check.u2.c R) (frameL [(0, .slice x0), (4, .ptr (some x1)), (5, .map x2)]) K =
      bind_Check.u2.f k x0 x1 x2 (fun y0 y1 y2 y3 y4 => evC T (env k) k R (frameL [(4, .ptr (some y0)), (5, .map y1), (14, .slice y2), (15, .int .i64 y3), (16, .int .i64 y4)]) K) := by kernel_rfl
theorem bind_Check.u3.ok (k : Nat) (x0 : Ad) (x1 : Option Nat) (x2 : Sl) (x3 : Int) (x4 : Int) (R : IC) (K : Ex → Frame → M α) :
    evC T (env k) k (bind_Check.u3.c R) (frameL [(4, .ptr (some x0)), (5, .map x1), (14, .slice x2), (15, .int .i64 x3), (16, .int .i64 x4)]) K =
      bind_Check.u3.f k x0 x1 x2 x3 x4 (fun y0 y1 y2 y3 y4 => evC T (env k) k R (frameL [(4, .ptr (some y0)), (5, .map y1), (14, .slice y2), (15, .int .i64 y3), (16, .int .i64 y4)]) K) (K (.exit 0) (frameL [])) := by kernel_rfl
theorem bind_Check.u4.ok (k : Nat) (x0 : Ad) (x1 : Option Nat) (x2 : Sl) (x3 : Int) (x4 : Int) (R : IC) (K : Ex → Frame → M α) :
    evC T (env k) k (bind_Check.u4.c R) (frameL [(4, .ptr (some x0)), (5, .map x1), (14, .slice x2), (15, .int .i64 x3), (16, .int .i64 x4)]) K =
      bind_Check.u4.f k x0 x1 x2 x3 x4 (fun y0 y1 y2 y3 y4 y5 y6 => evC T (env k) k R (frameL [(4, .ptr (some y0)), (5, .map y1), (6, .int .i64 y2), (7, .ptr (some y3)), (14, .slice y4), (15, .int .i64 y5), (16, .int .i64 y6)]) K) := by kernel_rfl
theorem bind_Check.u5.ok (k : Nat) (x0 : Ad) (x1 : Option Nat) (x2 : Int) (x3 : Ad) (x4 : Sl) (x5 : Int) (x6 : Int) (R : IC) (K : Ex → Frame → M α) :
    evC T (env k) k (bind_Check.u5.c R) (frameL [(4, .ptr (some x0)), (5, .map x1), (6, .int .i64 x2), (7, .ptr (some x3)), (14, .slice x4), (15, .int .i64 x5), (16, .int .i64 x6)]) K =
      bind_Check.u5.f k x0 x1 x2 x3 x4 x5 x6 (fun y0 y1 y2 y3 y4 y5 y6 y7 => evC T (env k) k R (frameL [(4, .ptr (some y0)), (5, .map y1), (6, .int .i64 y2), (7, .ptr (some y3)), (14, .slice y4), (15, .int .i64 y5), (16, .int .i64 y6), (21, .bool y7)]) K) := by kernel_rfl
theorem bind_Check.u6.ok (k : Nat) (x0 : Ad) (x1 : Option Nat) (x2 : Int) (x3 : Ad) (x4 : Sl) (x5 : Int) (x6 : Int) (x7 : Bool) (K : Ex → Frame → M α) :
    evC T (env k) k bind_Check.u6.c (frameL [(4, .ptr (some x0)), (5, .map x1), (6, .int .i64 x2), (7, .ptr (some x3)), (14, .slice x4), (15, .int .i64 x5), (16, .int .i64 x6), (21, .bool x7)]) K =
      bind_Check.u6.f k x0 x1 x2 x3 x4 x5 x6 x7 (fun y0 y1 => K .ret (frameL [(2, .int .i64 y0), (3, .int .i64 y1)])) := by kernel_rfl
theorem bind_Check.u7.ok (k : Nat) (x0 : Ad) (x1 : Option Nat) (x2 : Int) (x3 : Ad) (x4 : Sl) (x5 : Int) (x6 : Int) (x7 : Bool) (R : IC) (K : Ex → Frame → M α) :
    evC T (env k) k (bind_Check.u7.c R) (frameL [(4, .ptr (some x0)), (5, .map x1), (6, .int .i64 x2), (7, .ptr (some x3)), (14, .slice x4), (15, .int .i64 x5), (16, .int .i64 x6), (21, .bool x7)]) K =
      bind_Check.u7.f k x0 x1 x2 x3 x4 x5 x6 x7 (fun y0 y1 y2 y3 y4 y5 y6 y7 => evC T (env k) k R (frameL [(4, .ptr (some y0)), (5, .map y1), (6, .int .i64 y2), (7, .ptr (some y3)), (14, .slice y4), (15, .int .i64 y5), (16, .int .i64 y6), (36, .bool y7)]) K) := by kernel_rfl
theorem bind_Check.u8.ok (k : Nat) (x0 : Ad) (x1 : Option Nat) (x2 : Int) (x3 : Ad) (x4 : Sl) (x5 : Int) (x6 : Int) (x7 : Bool) (K : Ex → Frame → M α) :
    evC T (env k) k bind_Check.u8.c (frameL [(4, .ptr (some x0)), (5, .map x1), (6, .int .i64 x2), (7, .ptr (some x3)), (14, .slice x4), (15, .int .i64 x5), (16, .int .i64 x6), (36, .bool x7)]) K =
      bind_Check.u8.f k x0 x1 x2 x3 x4 x5 x6 x7 (fun y0 y1 => K .ret (frameL [(2, .int .i64 y0), (3, .int .i64 y1)])) := by kernel_rfl
theorem bind_Check.u9.ok (k : Nat) (x0 : Ad) (x1 : Option Nat) (x2 : Int) (x3 : Ad) (x4 : Sl) (x5 : Int) (x6 : Int) (x7 : Bool) (R : IC) (K : Ex → Frame → M α) :
    evC T (env k) k (bind_Check.u9.c R) (frameL [(4, .ptr (some x0)), (5, .map x1), (6, .int .i64 x2), (7, .ptr (some x3)), (14, .slice x4), (15, .int .i64 x5), (16, .int .i64 x6), (36, .bool x7)]) K =
      bind_Check.u9.f k x0 x1 x2 x3 x4 x5 x6 x7 (fun y0 y1 y2 y3 y4 y5 y6 y7 => evC T (env k) k R (frameL [(4, .ptr (some y0)), (5, .map y1), (6, .int .i64 y2), (7, .ptr (some y3)), (14, .slice y4), (15, .int .i64 y5), (16, .int .i64 y6), (50, .bool y7)]) K) := by kernel_rfl
theorem bind_Check.u10.ok (k : Nat) (x0 : Ad) (x1 : Option Nat) (x2 : Int) (x3 : Ad) (x4 : Sl) (x5 : Int) (x6 : Int) (x7 : Bool) (K : Ex → Frame → M α) :
    evC T (env k) k bind_Check.u10.c (frameL [(4, .ptr (some x0)), (5, .map x1), (6, .int .i64 x2), (7, .ptr (some x3)), (14, .slice x4), (15, .int .i64 x5), (16, .int .i64 x6), (50, .bool x7)]) K =
      bind_Check.u10.f k x0 x1 x2 x3 x4 x5 x6 x7 (fun y0 y1 y2 y3 y4 y5 => K .normal (frameL [(4, .ptr (some y0)), (5, .map y1), (7, .ptr (some y2)), (14, .slice y3), (15, .int .i64 y4), (16, .int .i64 y5)])) (fun y0 y1 => K .ret (frameL [(2, .int .i64 y0), (3, .int .i64 y1)])) := by kernel_rfl
theorem bind_Check.u11.ok (k : Nat) (x0 : Ad) (x1 : Option Nat) (x2 : Int) (x3 : Ad) (x4 : Sl) (x5 : Int) (x6 : Int) (x7 : Bool) (K : Ex → Frame → M α) :
    evC T (env k) k bind_Check.u11.c (frameL [(4, .ptr (some x0)), (5, .map x1), (6, .int .i64 x2), (7, .ptr (some x3)), (14, .slice x4), (15, .int .i64 x5), (16, .int .i64 x6), (36, .bool x7)]) K =
      bind_Check.u11.f k x0 x1 x2 x3 x4 x5 x6 x7 (fun y0 y1 y2 y3 y4 y5 => K .normal (frameL [(4, .ptr (some y0)), (5, .map y1), (7, .ptr (some y2)), (14, .slice y3), (15, .int .i64 y4), (16, .int .i64 y5)])) (fun y0 y1 => K .ret (frameL [(2, .int .i64 y0), (3, .int .i64 y1)])) :=
  (bind_Check.u9.ok k x0 x1 x2 x3 x4 x5 x6 x7 bind_Check.u10.c K).trans
    (congrArg (fun z => bind_Check.u9.f k x0 x1 x2 x3 x4 x5 x6 x7 z) (funext fun y0 => (funext fun y1 => (funext fun y2 => (funext fun y3 => (funext fun y4 => (funext fun y5 => (funext fun y6 => (funext fun y7 => bind_Check.u10.ok k y0 y1 y2 y3 y4 y5 y6 y7 K)))))))))
theorem bind_Check.u12.ok (k : Nat) (x0 : Ad) (x1 : Option Nat) (x2 : Int) (x3 : Ad) (x4 : Sl) (x5 : Int) (x6 : Int) (x7 : Bool) (K : Ex → Frame → M α) :
    evC T (env k) k bind_Check.u12.c (frameL [(4, .ptr (some x0)), (5, .map x1), (6, .int .i64 x2), (7, .ptr (some x3)), (14, .slice x4), (15, .int .i64 x5), (16, .int .i64 x6), (36, .bool x7)]) K =
      bind_Check.u12.f k x0 x1 x2 x3 x4 x5 x6 x7 (fun y0 y1 y2 y3 y4 y5 => K .normal (frameL [(4, .ptr (some y0)), (5, .map y1), (7, .ptr (some y2)), (14, .slice y3), (15, .int .i64 y4), (16, .int .i64 y5)])) (fun y0 y1 => K .ret (frameL [(2, .int .i64 y0), (3, .int .i64 y1)])) :=
  evC_cond_run (g := x7) (by kernel_rfl) (bind_Check.u8.ok k x0 x1 x2 x3 x4 x5 x6 x7 K) (bind_Check.u11.ok k x0 x1 x2 x3 x4 x5 x6 x7 K)
theorem bind_Check.u13.ok (k : Nat) (x0 : Ad) (x1 : Option Nat) (x2 : Int) (x3 : Ad) (x4 : Sl) (x5 : Int) (x6 : Int) (x7 : Bool) (K : Ex → Frame → M α) :
    evC T (env k) k bind_Check.u13.c (frameL [(4, .ptr (some x0)), (5, .map x1), (6, .int .i64 x2), (7, .ptr (some x3)), (14, .slice x4), (15, .int .i64 x5), (16, .int .i64 x6), (21, .bool x7)]) K =
      bind_Check.u13.f k x0 x1 x2 x3 x4 x5 x6 x7 (fun y0 y1 y2 y3 y4 y5 => K .normal (frameL [(4, .ptr (some y0)), (5, .map y1), (7, .ptr (some y2)), (14, .slice y3), (15, .int .i64 y4), (16, .int .i64 y5)])) (fun y0 y1 => K .ret (frameL [(2, .int .i64 y0), (3, .int .i64 y1)])) :=
  (bind_Check.u7.ok k x0 x1 x2 x3 x4 x5 x6 x7 bind_Check.u12.c K).trans
    (congrArg (fun z => bind_Check.u7.f k x0 x1 x2 x3 x4 x5 x6 x7 z) (funext fun y0 => (funext fun y1 => (funext fun y2 => (funext fun y3 => (funext fun y4 => (funext fun y5 => (funext fun y6 => (funext fun y7 => bind_Check.u12.ok k y0 y1 y2 y3 y4 y5 y6 y7 K)))))))))
theorem bind_Check.u14.ok (k : Nat) (x0 : Ad) (x1 : Option Nat) (x2 : Int) (x3 : Ad) (x4 : Sl) (x5 : Int) (x6 : Int) (x7 : Bool) (K : Ex → Frame → M α) :
    evC T (env k) k bind_Check.u14.c (frameL [(4, .ptr (some x0)), (5, .map x1), (6, .int .i64 x2), (7, .ptr (some x3)), (14, .slice x4), (15, .int .i64 x5), (16, .int .i64 x6), (21, .bool x7)]) K =
      bind_Check.u14.f k x0 x1 x2 x3 x4 x5 x6 x7 (fun y0 y1 y2 y3 y4 y5 => K .normal (frameL [(4, .ptr (some y0)), (5, .map y1), (7, .ptr (some y2)), (14, .slice y3), (15, .int .i64 y4), (16, .int .i64 y5)])) (fun y0 y1 => K .ret (frameL [(2, .int .i64 y0), (3, .int .i64 y1)])) :=
  evC_cond_run (g := x7) (by kernel_rfl) (bind_Check.u6.ok k x0 x1 x2 x3 x4 x5 x6 x7 K) (bind_Check.u13.ok k x0 x1 x2 x3 x4 x5 x6 x7 K)
theorem bind_Check.u15.ok (k : Nat) (x0 : Ad) (x1 : Option Nat) (x2 : Int) (x3 : Ad) (x4 : Sl) (x5 : Int) (x6 : Int) (K : Ex → Frame → M α) :
    evC T (env k) k bind_Check.u15.c (frameL [(4, .ptr (some x0)), (5, .map x1), (6, .int .i64 x2), (7, .ptr (some x3)), (14, .slice x4), (15, .int .i64 x5), (16, .int .i64 x6)]) K =
      bind_Check.u15.f k x0 x1 x2 x3 x4 x5 x6 (fun y0 y1 y2 y3 y4 y5 => K .normal (frameL [(4, .ptr (some y0)), (5, .map y1), (7, .ptr (some y2)), (14, .slice y3), (15, .int .i64 y4), (16, .int .i64 y5)])) (fun y0 y1 => K .ret (frameL [(2, .int .i64 y0), (3, .int .i64 y1)])) :=
  (bind_Check.u5.ok k x0 x1 x2 x3 x4 x5 x6 bind_Check.u14.c K).trans
    (congrArg (fun z => bind_Check.u5.f k x0 x1 x2 x3 x4 x5 x6 z) (funext fun y0 => (funext fun y1 => (funext fun y2 => (funext fun y3 => (funext fun y4 => (funext fun y5 => (funext fun y6 => (funext fun y7 => bind_Check.u14.ok k y0 y1 y2 y3 y4 y5 y6 y7 K)))))))))
theorem bind_Check.u16.ok (k : Nat) (x0 : Ad) (x1 : Option Nat) (x2 : Int) (x3 : Ad) (x4 : Sl) (x5 : Int) (x6 : Int) (K : Ex → Frame → M α) :
    evC T (env k) k bind_Check.u16.c (frameL [(4, .ptr (some x0)), (5, .map x1), (6, .int .i64 x2), (7, .ptr (some x3)), (14, .slice x4), (15, .int .i64 x5), (16, .int .i64 x6)]) K =
      bind_Check.u16.f k x0 x1 x2 x3 x4 x5 x6 (fun y0 y1 y2 y3 y4 y5 => K .normal (frameL [(4, .ptr (some y0)), (5, .map y1), (7, .ptr (some y2)), (14, .slice y3), (15, .int .i64 y4), (16, .int .i64 y5)])) (fun y0 y1 => K .ret (frameL [(2, .int .i64 y0), (3, .int .i64 y1)])) :=
  (evC_block.trans (bind_Check.u15.ok k x0 x1 x2 x3 x4 x5 x6 (blockK 2 K))).trans (by kernel_rfl)
theorem bind_Check.u17.ok (k : Nat) (x0 : Ad) (x1 : Option Nat) (x2 : Ad) (x3 : Sl) (x4 : Int) (x5 : Int) (K : Ex → Frame → M α) :
    evC T (env k) k bind_Check.u17.c (frameL [(4, .ptr (some x0)), (5, .map x1), (7, .ptr (some x2)), (14, .slice x3), (15, .int .i64 x4), (16, .int .i64 x5)]) K =
      bind_Check.u17.f k x0 x1 x2 x3 x4 x5 (fun y0 y1 y2 y3 y4 => K .normal (frameL [(4, .ptr (some y0)), (5, .map y1), (14, .slice y2), (15, .int .i64 y3), (16, .int .i64 y4)])) := by kernel_rfl
theorem bind_Check.u18.ok (k : Nat) (x0 : Ad) (x1 : Option Nat) (x2 : Int) (x3 : Ad) (x4 : Sl) (x5 : Int) (x6 : Int) (K : Ex → Frame → M α) :
    evC T (env k) k bind_Check.u18.c (frameL [(4, .ptr (some x0)), (5, .map x1), (6, .int .i64 x2), (7, .ptr (some x3)), (14, .slice x4), (15, .int .i64 x5), (16, .int .i64 x6)]) K =
      bind_Check.u18.f k x0 x1 x2 x3 x4 x5 x6 (fun y0 y1 y2 y3 y4 => K .normal (frameL [(4, .ptr (some y0)), (5, .map y1), (14, .slice y2), (15, .int .i64 y3), (16, .int .i64 y4)])) (fun y0 y1 => K .ret (frameL [(2, .int .i64 y0), (3, .int .i64 y1)])) :=
  by
    have h := bind_Check.u16.ok k x0 x1 x2 x3 x4 x5 x6 (seqK (fun ρ => evC T (env k) k bind_Check.u17.c ρ K) K)
    simp only [seqK_normal, seqK_exit, seqK_ret, seqK_pan, bind_Check.u17.ok] at h
    exact evC_seq_of h
theorem bind_Check.u19.ok (k : Nat) (x0 : Ad) (x1 : Option Nat) (x2 : Sl) (x3 : Int) (x4 : Int) (K : Ex → Frame → M α) :
    evC T (env k) k bind_Check.u19.c (frameL [(4, .ptr (some x0)), (5, .map x1), (14, .slice x2), (15, .int .i64 x3), (16, .int .i64 x4)]) K =
      bind_Check.u19.f k x0 x1 x2 x3 x4 (fun y0 y1 y2 y3 y4 => K .normal (frameL [(4, .ptr (some y0)), (5, .map y1), (14, .slice y2), (15, .int .i64 y3), (16, .int .i64 y4)])) (fun y0 y1 => K .ret (frameL [(2, .int .i64 y0), (3, .int .i64 y1)])) :=
  (bind_Check.u4.ok k x0 x1 x2 x3 x4 bind_Check.u18.c K).trans
    (congrArg (fun z => bind_Check.u4.f k x0 x1 x2 x3 x4 z) (funext fun y0 => (funext fun y1 => (funext fun y2 => (funext fun y3 => (funext fun y4 => (funext fun y5 => (funext fun y6 => bind_Check.u18.ok k y0 y1 y2 y3 y4 y5 y6 K))))))))
theorem bind_Check.u20.ok (k : Nat) (x0 : Ad) (x1 : Option Nat) (x2 : Sl) (x3 : Int) (x4 : Int) (K : Ex → Frame → M α) :
    evC T (env k) k bind_Check.u20.c (frameL [(4, .ptr (some x0)), (5, .map x1), (14, .slice x2), (15, .int .i64 x3), (16, .int .i64 x4)]) K =
      bind_Check.u20.f k x0 x1 x2 x3 x4 (fun y0 y1 y2 y3 y4 => K .normal (frameL [(4, .ptr (some y0)), (5, .map y1), (14, .slice y2), (15, .int .i64 y3), (16, .int .i64 y4)])) (fun y0 y1 => K .ret (frameL [(2, .int .i64 y0), (3, .int .i64 y1)])) :=
  (evC_block.trans (bind_Check.u19.ok k x0 x1 x2 x3 x4 (blockK 1 K))).trans (by kernel_rfl)
theorem bind_Check.u21.ok (k : Nat) (x0 : Ad) (x1 : Option Nat) (x2 : Sl) (x3 : Int) (x4 : Int) (K : Ex → Frame → M α) :
    evC T (env k) k bind_Check.u21.c (frameL [(4, .ptr (some x0)), (5, .map x1), (14, .slice x2), (15, .int .i64 x3), (16, .int .i64 x4)]) K =
      bind_Check.u21.f k x0 x1 x2 x3 x4 (fun y0 y1 y2 y3 y4 => K .normal (frameL [(4, .ptr (some y0)), (5, .map y1), (14, .slice y2), (15, .int .i64 y3), (16, .int .i64 y4)])) := by kernel_rfl
theorem bind_Check.u22.ok (k : Nat) (x0 : Ad) (x1 : Option Nat) (x2 : Sl) (x3 : Int) (x4 : Int) (K : Ex → Frame → M α) :
    evC T (env k) k bind_Check.u22.c (frameL [(4, .ptr (some x0)), (5, .map x1), (14, .slice x2), (15, .int .i64 x3), (16, .int .i64 x4)]) K =
      bind_Check.u22.f k x0 x1 x2 x3 x4 (fun y0 y1 y2 y3 y4 => K .normal (frameL [(4, .ptr (some y0)), (5, .map y1), (14, .slice y2), (15, .int .i64 y3), (16, .int .i64 y4)])) (fun y0 y1 => K .ret (frameL [(2, .int .i64 y0), (3, .int .i64 y1)])) :=
  by
    have h := bind_Check.u20.ok k x0 x1 x2 x3 x4 (seqK (fun ρ => evC T (env k) k bind_Check.u21.c ρ K) K)
    simp only [seqK_normal, seqK_exit, seqK_ret, seqK_pan, bind_Check.u21.ok] at h
    exact evC_seq_of h
theorem bind_Check.u23.ok (k : Nat) (x0 : Ad) (x1 : Option Nat) (x2 : Sl) (x3 : Int) (x4 : Int) (K : Ex → Frame → M α) :
    evC T (env k) k bind_Check.u23.c (frameL [(4, .ptr (some x0)), (5, .map x1), (14, .slice x2), (15, .int .i64 x3), (16, .int .i64 x4)]) K =
      bind_Check.u23.f k x0 x1 x2 x3 x4 (fun y0 y1 y2 y3 y4 => K .normal (frameL [(4, .ptr (some y0)), (5, .map y1), (14, .slice y2), (15, .int .i64 y3), (16, .int .i64 y4)])) (fun y0 y1 => K .ret (frameL [(2, .int .i64 y0), (3, .int .i64 y1)])) (K (.exit 0) (frameL [])) :=
  (bind_Check.u3.ok k x0 x1 x2 x3 x4 bind_Check.u22.c K).trans
    (congrArg (fun z => bind_Check.u3.f k x0 x1 x2 x3 x4 z (K (.exit 0) (frameL []))) (funext fun y0 => (funext fun y1 => (funext fun y2 => (funext fun y3 => (funext fun y4 => bind_Check.u22.ok k y0 y1 y2 y3 y4 K))))))
theorem bind_Check.u24.ls (k : Nat) (kr : Int → Int → M α) (kx0 : M α) (j : Nat) (x0 : Ad) (x1 : Option Nat) (x2 : Sl) (x3 : Int) (x4 : Int) : bind_Check.u24.l k kr kx0 (j + 1) x0 x1 x2 x3 x4 =
  bind_Check.u23.f k x0 x1 x2 x3 x4 (fun y0 y1 y2 y3 y4 => bind_Check.u24.l k kr kx0 j y0 y1 y2 y3 y4) kr kx0 := rfl
theorem bind_Check.u24.okl (k : Nat) (K : Ex → Frame → M α) : ∀ (j : Nat) (x0 : Ad) (x1 : Option Nat) (x2 : Sl) (x3 : Int) (x4 : Int),
    evLoop (evC T (env k) k bind_Check.u23.c) [4, 5, 14, 15, 16] j (frameL [(4, .ptr (some x0)), (5, .map x1), (14, .slice x2), (15, .int .i64 x3), (16, .int .i64 x4)]) K = bind_Check.u24.l k (fun y0 y1 => K .ret (frameL [(2, .int .i64 y0), (3, .int .i64 y1)])) (K (.exit 0) (frameL [])) j x0 x1 x2 x3 x4
  | 0, _, _, _, _, _ => rfl
  | j + 1, x0, x1, x2, x3, x4 => by
      have h := bind_Check.u23.ok k x0 x1 x2 x3 x4 (seqK (fun ρ => evLoop (evC T (env k) k bind_Check.u23.c) [4, 5, 14, 15, 16] j ρ K) K)
      simp only [seqK_exit, seqK_ret, seqK_pan, seqK_normal, bind_Check.u24.okl k K j] at h
      exact (evLoop_step (by kernel_rfl) h).trans (bind_Check.u24.ls k (fun y0 y1 => K .ret (frameL [(2, .int .i64 y0), (3, .int .i64 y1)])) (K (.exit 0) (frameL [])) j x0 x1 x2 x3 x4).symm
theorem bind_Check.u24.ok (k : Nat) (x0 : Ad) (x1 : Option Nat) (x2 : Sl) (x3 : Int) (x4 : Int) (K : Ex → Frame → M α) :
    evC T (env k) k bind_Check.u24.c (frameL [(4, .ptr (some x0)), (5, .map x1), (14, .slice x2), (15, .int .i64 x3), (16, .int .i64 x4)]) K =
      bind_Check.u24.f k x0 x1 x2 x3 x4 (fun y0 y1 => K .ret (frameL [(2, .int .i64 y0), (3, .int .i64 y1)])) (K (.exit 0) (frameL [])) :=
  evC_loop.trans <| (evLoop_keep (body := evC T (env k) k bind_Check.u23.c) (keep := [4, 5, 14, 15, 16]) (ρ := (frameL [(4, .ptr (some x0)), (5, .map x1), (14, .slice x2), (15, .int .i64 x3), (16, .int .i64 x4)])) (ρ' := (frameL [(4, .ptr (some x0)), (5, .map x1), (14, .slice x2), (15, .int .i64 x3), (16, .int .i64 x4)])) (by kernel_rfl) k K).trans (bind_Check.u24.okl k K k x0 x1 x2 x3 x4)
theorem bind_Check.u25.ok (k : Nat) (x0 : Ad) (x1 : Option Nat) (x2 : Sl) (x3 : Int) (x4 : Int) (K : Ex → Frame → M α) :
    evC T (env k) k bind_Check.u25.c (frameL [(4, .ptr (some x0)), (5, .map x1), (14, .slice x2), (15, .int .i64 x3), (16, .int .i64 x4)]) K =
      bind_Check.u25.f k x0 x1 x2 x3 x4 (K .normal (frameL [])) (fun y0 y1 => K .ret (frameL [(2, .int .i64 y0), (3, .int .i64 y1)])) :=
  (evC_block.trans (bind_Check.u24.ok k x0 x1 x2 x3 x4 (blockK 0 K))).trans (by kernel_rfl)
theorem bind_Check.u26.ok (k : Nat) (x0 : Sl) (x1 : Ad) (x2 : Option Nat) (K : Ex → Frame → M α) :
    evC T (env k) k bind_Check.u26.c (frameL [(0, .slice x0), (4, .ptr (some x1)), (5, .map x2)]) K =
      bind_Check.u26.f k x0 x1 x2 (K .normal (frameL [])) (fun y0 y1 => K .ret (frameL [(2, .int .i64 y0), (3, .int .i64 y1)])) :=
  (bind_Check.u2.ok k x0 x1 x2 bind_Check.u25.c K).trans
    (congrArg (fun z => bind_Check.u2.f k x0 x1 x2 z) (funext fun y0 => (funext fun y1 => (funext fun y2 => (funext fun y3 => (funext fun y4 => bind_Check.u25.ok k y0 y1 y2 y3 y4 K))))))
theorem bind_Check.u27.ok (k : Nat) (K : Ex → Frame → M α) :
    evC T (env k) k bind_Check.u27.c (frameL []) K =
      bind_Check.u27.f k (fun y0 y1 => K .ret (frameL [(2, .int .i64 y0), (3, .int .i64 y1)])) := by kernel_rfl
theorem bind_Check.u28.ok (k : Nat) (x0 : Sl) (x1 : Ad) (x2 : Option Nat) (K : Ex → Frame → M α) :
    evC T (env k) k bind_Check.u28.c (frameL [(0, .slice x0), (4, .ptr (some x1)), (5, .map x2)]) K =
      bind_Check.u28.f k x0 x1 x2 (fun y0 y1 => K .ret (frameL [(2, .int .i64 y0), (3, .int .i64 y1)])) :=
  by
    have h := bind_Check.u26.ok k x0 x1 x2 (seqK (fun ρ => evC T (env k) k bind_Check.u27.c ρ K) K)
    simp only [seqK_normal, seqK_exit, seqK_ret, seqK_pan, bind_Check.u27.ok] at h
    exact evC_seq_of h
theorem bind_Check.u29.ok (k : Nat) (x0 : Sl) (K : Ex → Frame → M α) :
    evC T (env k) k bind_Check.u29.c (frameL [(0, .slice x0)]) K =
      bind_Check.u29.f k x0 (fun y0 y1 => K .ret (frameL [(2, .int .i64 y0), (3, .int .i64 y1)])) :=
  (bind_Check.u1.ok k x0 bind_Check.u28.c K).trans
    (congrArg (fun z => bind_Check.u1.f k x0 z (fun y0 y1 => K .ret (frameL [(2, .int .i64 y0), (3, .int .i64 y1)]))) (funext fun y0 => (funext fun y1 => (funext fun y2 => bind_Check.u28.ok k y0 y1 y2 K))))
theorem bind_Check.ok (k : Nat) (x0 : Sl) (κ : Res → M α) :
    evF T (env k) k bind_Check.c bind_Check.res [.slice x0] κ = bind_Check.f (k + 1) x0 (fun o0 o1 => κ (.ret (.tuple [.int .i64 o0, .int .i64 o1]))) :=
  (bind_Check.u29.ok k x0 (retK T bind_Check.res κ)).trans (by kernel_rfl)
theorem bind_Check.code : bind_Check.c.code = bodyOf Try.f19 := by kernel_rfl
noncomputable def norm_wide.c : IC := norm_wide.u9.c
noncomputable def norm_wide.res : List ResultVar := [(.tmp 2)]
theorem norm_wide.u1.ok (k : Nat) (x0 : Sl) (R : IC) (K : Ex → Frame → M α) :
    evC T (env k) k (norm_wide.u1.c R) (frameL [(0, .slice x0)]) K =
      norm_wide.u1.f k x0 (fun y0 => evC T (env k) k R (frameL [(3, .slice y0)]) K) := by kernel_rfl
theorem norm_wide.u2.ok (k : Nat) (x0 : Sl) (R : IC) (K : Ex → Frame → M α) :
    evC T (env k) k (norm_wide.u2.c R) (frameL [(3, .slice x0)]) K =
      norm_wide.u2.f k x0 (fun y0 y1 y2 => evC T (env k) k R (frameL [(3, .slice y0), (10, .int .i64 y1), (11, .int .i64 y2)]) K) := by kernel_rfl
theorem norm_wide.u3.ok (k : Nat) (x0 : Sl) (x1 : Int) (x2 : Int) (K : Ex → Frame → M α) :
    evC T (env k) k norm_wide.u3.c (frameL [(3, .slice x0), (10, .int .i64 x1), (11, .int .i64 x2)]) K =
      norm_wide.u3.f k x0 x1 x2 (fun y0 y1 y2 => K .normal (frameL [(3, .slice y0), (10, .int .i64 y1), (11, .int .i64 y2)])) (fun y0 => K (.exit 0) (frameL [(3, .slice y0)])) := by kernel_rfl
theorem norm_wide.u4.ls (k : Nat) (kx0 : Sl → M α) (j : Nat) (x0 : Sl) (x1 : Int) (x2 : Int) : norm_wide.u4.l k kx0 (j + 1) x0 x1 x2 =
  norm_wide.u3.f k x0 x1 x2 (fun y0 y1 y2 => norm_wide.u4.l k kx0 j y0 y1 y2) kx0 := rfl
theorem norm_wide.u4.okl (k : Nat) (K : Ex → Frame → M α) : ∀ (j : Nat) (x0 : Sl) (x1 : Int) (x2 : Int),
    evLoop (evC T (env k) k norm_wide.u3.c) [3, 10, 11] j (frameL [(3, .slice x0), (10, .int .i64 x1), (11, .int .i64 x2)]) K = norm_wide.u4.l k (fun y0 => K (.exit 0) (frameL [(3, .slice y0)])) j x0 x1 x2
  | 0, _, _, _ => rfl
  | j + 1, x0, x1, x2 => by
      have h := norm_wide.u3.ok k x0 x1 x2 (seqK (fun ρ => evLoop (evC T (env k) k norm_wide.u3.c) [3, 10, 11] j ρ K) K)
      simp only [seqK_exit, seqK_ret, seqK_pan, seqK_normal, norm_wide.u4.okl k K j] at h
      exact (evLoop_step (by kernel_rfl) h).trans (norm_wide.u4.ls k (fun y0 => K (.exit 0) (frameL [(3, .slice y0)])) j x0 x1 x2).symm
theorem norm_wide.u4.ok (k : Nat) (x0 : Sl) (x1 : Int) (x2 : Int) (K : Ex → Frame → M α) :
    evC T (env k) k norm_wide.u4.c (frameL [(3, .slice x0), (10, .int .i64 x1), (11, .int .i64 x2)]) K =
      norm_wide.u4.f k x0 x1 x2 (fun y0 => K (.exit 0) (frameL [(3, .slice y0)])) :=
  evC_loop.trans <| (evLoop_keep (body := evC T (env k) k norm_wide.u3.c) (keep := [3, 10, 11]) (ρ := (frameL [(3, .slice x0), (10, .int .i64 x1), (11, .int .i64 x2)])) (ρ' := (frameL [(3, .slice x0), (10, .int .i64 x1), (11, .int .i64 x2)])) (by kernel_rfl) k K).trans (norm_wide.u4.okl k K k x0 x1 x2)
theorem norm_wide.u5.ok (k : Nat) (x0 : Sl) (x1 : Int) (x2 : Int) (K : Ex → Frame → M α) :
    evC T (env k) k norm_wide.u5.c (frameL [(3, .slice x0), (10, .int .i64 x1), (11, .int .i64 x2)]) K =
      norm_wide.u5.f k x0 x1 x2 (fun y0 => K .normal (frameL [(3, .slice y0)])) :=
  (evC_block.trans (norm_wide.u4.ok k x0 x1 x2 (blockK 0 K))).trans (by kernel_rfl)
theorem norm_wide.u6.ok (k : Nat) (x0 : Sl) (K : Ex → Frame → M α) :
    evC T (env k) k norm_wide.u6.c (frameL [(3, .slice x0)]) K =
      norm_wide.u6.f k x0 (fun y0 => K .normal (frameL [(3, .slice y0)])) :=
  (norm_wide.u2.ok k x0 norm_wide.u5.c K).trans
    (congrArg (fun z => norm_wide.u2.f k x0 z) (funext fun y0 => (funext fun y1 => (funext fun y2 => norm_wide.u5.ok k y0 y1 y2 K))))
theorem norm_wide.u7.ok (k : Nat) (x0 : Sl) (K : Ex → Frame → M α) :
    evC T (env k) k norm_wide.u7.c (frameL [(3, .slice x0)]) K =
      norm_wide.u7.f k x0 (fun y0 => K .ret (frameL [(2, .bool y0)])) := by kernel_rfl
theorem norm_wide.u8.ok (k : Nat) (x0 : Sl) (K : Ex → Frame → M α) :
    evC T (env k) k norm_wide.u8.c (frameL [(3, .slice x0)]) K =
      norm_wide.u8.f k x0 (fun y0 => K .ret (frameL [(2, .bool y0)])) :=
  by
    have h := norm_wide.u6.ok k x0 (seqK (fun ρ => evC T (env k) k norm_wide.u7.c ρ K) K)
    simp only [seqK_normal, seqK_exit, seqK_ret, seqK_pan, norm_wide.u7.ok] at h
    exact evC_seq_of h
theorem norm_wide.u9.ok (k : Nat) (x0 : Sl) (K : Ex → Frame → M α) :
    evC T (env k) k norm_wide.u9.c (frameL [(0, .slice x0)]) K =
      norm_wide.u9.f k x0 (fun y0 => K .ret (frameL [(2, .bool y0)])) :=
  (norm_wide.u1.ok k x0 norm_wide.u8.c K).trans
    (congrArg (fun z => norm_wide.u1.f k x0 z) (funext fun y0 => norm_wide.u8.ok k y0 K))
theorem norm_wide.ok (k : Nat) (x0 : Sl) (κ : Res → M α) :
    evF T (env k) k norm_wide.c norm_wide.res [.slice x0] κ = norm_wide.f (k + 1) x0 (fun o0 => κ (.ret (.bool o0))) :=
  (norm_wide.u9.ok k x0 (retK T norm_wide.res κ)).trans (by kernel_rfl)
theorem norm_wide.code : norm_wide.c.code = bodyOf Try.f27 := by kernel_rfl
noncomputable def norm_dual.c : IC := norm_dual.u1.c
noncomputable def norm_dual.res : List ResultVar := [(.tmp 2)]
theorem norm_dual.u1.ok (k : Nat) (x0 : Int) (K : Ex → Frame → M α) :
    evC T (env k) k norm_dual.u1.c (frameL [(0, .int .i64 x0)]) K =
      norm_dual.u1.f k x0 (fun y0 => K .ret (frameL [(2, .int .i64 y0)])) := by kernel_rfl
theorem norm_dual.ok (k : Nat) (x0 : Int) (κ : Res → M α) :
    evF T (env k) k norm_dual.c norm_dual.res [.int .i64 x0] κ = norm_dual.f (k + 1) x0 (fun o0 => κ (.ret (.int .i64 o0))) :=
  (norm_dual.u1.ok k x0 (retK T norm_dual.res κ)).trans (by kernel_rfl)
theorem norm_dual.code : norm_dual.c.code = bodyOf Try.f55 := by kernel_rfl
noncomputable def norm_maker_node.c : IC := norm_maker_node.u5.c
noncomputable def norm_maker_node.res : List ResultVar := [(.tmp 6)]
theorem norm_maker_node.u1.ok (k : Nat) (x0 : Ad) (x1 : Int) (x2 : Bool) (R : IC) (K : Ex → Frame → M α) :
    evC T (env k) k (norm_maker_node.u1.c R) (frameL [(0, .ptr (some x0)), (1, .int .i64 x1), (2, .bool x2)]) K =
      norm_maker_node.u1.f k (norm_maker_node.f k) x0 x1 x2 (fun y0 y1 y2 => evC T (env k) k R (frameL [(0, .ptr (some y0)), (2, .bool y1), (7, .ptr (some y2))]) K) (fun y0 => K .ret (frameL [(6, .int .i64 y0)])) := by kernel_rfl
theorem norm_maker_node.u2.ok (k : Nat) (x0 : Ad) (x1 : Bool) (x2 : Ad) (R : IC) (K : Ex → Frame → M α) :
    evC T (env k) k (norm_maker_node.u2.c R) (frameL [(0, .ptr (some x0)), (2, .bool x1), (7, .ptr (some x2))]) K =
      norm_maker_node.u2.f k x0 x1 x2 (fun y0 y1 => evC T (env k) k R (frameL [(0, .ptr (some y0)), (7, .ptr (some y1))]) K) := by kernel_rfl
theorem norm_maker_node.u3.ok (k : Nat) (x0 : Ad) (x1 : Ad) (K : Ex → Frame → M α) :
    evC T (env k) k norm_maker_node.u3.c (frameL [(0, .ptr (some x0)), (7, .ptr (some x1))]) K =
      norm_maker_node.u3.f k x0 x1 (fun y0 => K .ret (frameL [(6, .int .i64 y0)])) := by kernel_rfl
theorem norm_maker_node.u4.ok (k : Nat) (x0 : Ad) (x1 : Bool) (x2 : Ad) (K : Ex → Frame → M α) :
    evC T (env k) k norm_maker_node.u4.c (frameL [(0, .ptr (some x0)), (2, .bool x1), (7, .ptr (some x2))]) K =
      norm_maker_node.u4.f k x0 x1 x2 (fun y0 => K .ret (frameL [(6, .int .i64 y0)])) :=
  (norm_maker_node.u2.ok k x0 x1 x2 norm_maker_node.u3.c K).trans
    (congrArg (fun z => norm_maker_node.u2.f k x0 x1 x2 z) (funext fun y0 => (funext fun y1 => norm_maker_node.u3.ok k y0 y1 K)))
theorem norm_maker_node.u5.ok (k : Nat) (x0 : Ad) (x1 : Int) (x2 : Bool) (K : Ex → Frame → M α) :
    evC T (env k) k norm_maker_node.u5.c (frameL [(0, .ptr (some x0)), (1, .int .i64 x1), (2, .bool x2)]) K =
      norm_maker_node.u5.f k (norm_maker_node.f k) x0 x1 x2 (fun y0 => K .ret (frameL [(6, .int .i64 y0)])) :=
  (norm_maker_node.u1.ok k x0 x1 x2 norm_maker_node.u4.c K).trans
    (congrArg (fun z => norm_maker_node.u1.f k (norm_maker_node.f k) x0 x1 x2 z (fun y0 => K .ret (frameL [(6, .int .i64 y0)]))) (funext fun y0 => (funext fun y1 => (funext fun y2 => norm_maker_node.u4.ok k y0 y1 y2 K))))
theorem norm_maker_node.ok (k : Nat) (x0 : Ad) (x1 : Int) (x2 : Bool) (κ : Res → M α) :
    evF T (env k) k norm_maker_node.c norm_maker_node.res [.ptr (some x0), .int .i64 x1, .bool x2] κ = norm_maker_node.f (k + 1) x0 x1 x2 (fun o0 => κ (.ret (.int .i64 o0))) :=
  (norm_maker_node.u5.ok k x0 x1 x2 (retK T norm_maker_node.res κ)).trans (by kernel_rfl)
theorem norm_maker_node.code : norm_maker_node.c.code = bodyOf Try.f40 := by kernel_rfl
noncomputable def norm_form.c : IC := norm_form.u1.c
noncomputable def norm_form.res : List ResultVar := [(.tmp 4)]
theorem norm_form.u1.ok (k : Nat) (x0 : Sl) (x1 : Bool) (K : Ex → Frame → M α) :
    evC T (env k) k norm_form.u1.c (frameL [(0, .slice x0), (1, .bool x1)]) K =
      norm_form.u1.f k x0 x1 (fun y0 => K .ret (frameL [(4, .slice y0)])) := by kernel_rfl
theorem norm_form.ok (k : Nat) (x0 : Sl) (x1 : Bool) (κ : Res → M α) :
    evF T (env k) k norm_form.c norm_form.res [.slice x0, .bool x1] κ = norm_form.f (k + 1) x0 x1 (fun o0 => κ (.ret (.slice o0))) :=
  (norm_form.u1.ok k x0 x1 (retK T norm_form.res κ)).trans (by kernel_rfl)
theorem norm_form.code : norm_form.c.code = bodyOf Try.f22 := by kernel_rfl
noncomputable def norm_Positive.c : IC := norm_Positive.u1.c
noncomputable def norm_Positive.res : List ResultVar := [(.tmp 2)]
theorem norm_Positive.u1.ok (k : Nat) (x0 : Sl) (K : Ex → Frame → M α) :
    evC T (env k) k norm_Positive.u1.c (frameL [(0, .slice x0)]) K =
      norm_Positive.u1.f k x0 (fun y0 => K .ret (frameL [(2, .slice y0)])) := by kernel_rfl
theorem norm_Positive.ok (k : Nat) (x0 : Sl) (κ : Res → M α) :
    evF T (env k) k norm_Positive.c norm_Positive.res [.slice x0] κ = norm_Positive.f (k + 1) x0 (fun o0 => κ (.ret (.slice o0))) :=
  (norm_Positive.u1.ok k x0 (retK T norm_Positive.res κ)).trans (by kernel_rfl)
theorem norm_Positive.code : norm_Positive.c.code = bodyOf Try.f9 := by kernel_rfl
noncomputable def r4Same.c : IC := r4Same.u9.c
noncomputable def r4Same.res : List ResultVar := [(.tmp 6)]
theorem r4Same.u1.ok (k : Nat) (x0 : Sl) (x1 : Sl) (x2 : Bool) (R : IC) (K : Ex → Frame → M α) :
    evC T (env k) k (r4Same.u1.c R) (frameL [(0, .slice x0), (1, .slice x1), (2, .bool x2)]) K =
      r4Same.u1.f k x0 x1 x2 (fun y0 y1 y2 => evC T (env k) k R (frameL [(0, .slice y0), (1, .slice y1), (2, .bool y2)]) K) (fun y0 => K .ret (frameL [(6, .bool y0)])) := by kernel_rfl
theorem r4Same.u2.ok (k : Nat) (x0 : Sl) (x1 : Sl) (x2 : Bool) (R : IC) (K : Ex → Frame → M α) :
    evC T (env k) k (r4Same.u2.c R) (frameL [(0, .slice x0), (1, .slice x1), (2, .bool x2)]) K =
      r4Same.u2.f k x0 x1 x2 (fun y0 y1 y2 y3 => evC T (env k) k R (frameL [(0, .slice y0), (1, .slice y1), (2, .bool y2), (7, .int .i64 y3)]) K) := by kernel_rfl
theorem r4Same.u3.ok (k : Nat) (x0 : Sl) (x1 : Sl) (x2 : Bool) (x3 : Int) (K : Ex → Frame → M α) :
    evC T (env k) k r4Same.u3.c (frameL [(0, .slice x0), (1, .slice x1), (2, .bool x2), (7, .int .i64 x3)]) K =
      r4Same.u3.f k x0 x1 x2 x3 (fun y0 y1 y2 y3 => K .normal (frameL [(0, .slice y0), (1, .slice y1), (2, .bool y2), (7, .int .i64 y3)])) (fun y0 => K .ret (frameL [(6, .bool y0)])) (K (.exit 0) (frameL [])) := by kernel_rfl
theorem r4Same.u4.ls (k : Nat) (kr : Bool → M α) (kx0 : M α) (j : Nat) (x0 : Sl) (x1 : Sl) (x2 : Bool) (x3 : Int) : r4Same.u4.l k kr kx0 (j + 1) x0 x1 x2 x3 =
  r4Same.u3.f k x0 x1 x2 x3 (fun y0 y1 y2 y3 => r4Same.u4.l k kr kx0 j y0 y1 y2 y3) kr kx0 := rfl
theorem r4Same.u4.okl (k : Nat) (K : Ex → Frame → M α) : ∀ (j : Nat) (x0 : Sl) (x1 : Sl) (x2 : Bool) (x3 : Int),
    evLoop (evC T (env k) k r4Same.u3.c) [0, 1, 2, 7] j (frameL [(0, .slice x0), (1, .slice x1), (2, .bool x2), (7, .int .i64 x3)]) K = r4Same.u4.l k (fun y0 => K .ret (frameL [(6, .bool y0)])) (K (.exit 0) (frameL [])) j x0 x1 x2 x3
  | 0, _, _, _, _ => rfl
  | j + 1, x0, x1, x2, x3 => by
      have h := r4Same.u3.ok k x0 x1 x2 x3 (seqK (fun ρ => evLoop (evC T (env k) k r4Same.u3.c) [0, 1, 2, 7] j ρ K) K)
      simp only [seqK_exit, seqK_ret, seqK_pan, seqK_normal, r4Same.u4.okl k K j] at h
      exact (evLoop_step (by kernel_rfl) h).trans (r4Same.u4.ls k (fun y0 => K .ret (frameL [(6, .bool y0)])) (K (.exit 0) (frameL [])) j x0 x1 x2 x3).symm
theorem r4Same.u4.ok (k : Nat) (x0 : Sl) (x1 : Sl) (x2 : Bool) (x3 : Int) (K : Ex → Frame → M α) :
    evC T (env k) k r4Same.u4.c (frameL [(0, .slice x0), (1, .slice x1), (2, .bool x2), (7, .int .i64 x3)]) K =
      r4Same.u4.f k x0 x1 x2 x3 (fun y0 => K .ret (frameL [(6, .bool y0)])) (K (.exit 0) (frameL [])) :=
  evC_loop.trans <| (evLoop_keep (body := evC T (env k) k r4Same.u3.c) (keep := [0, 1, 2, 7]) (ρ := (frameL [(0, .slice x0), (1, .slice x1), (2, .bool x2), (7, .int .i64 x3)])) (ρ' := (frameL [(0, .slice x0), (1, .slice x1), (2, .bool x2), (7, .int .i64 x3)])) (by kernel_rfl) k K).trans (r4Same.u4.okl k K k x0 x1 x2 x3)
theorem r4Same.u5.ok (k : Nat) (x0 : Sl) (x1 : Sl) (x2 : Bool) (x3 : Int) (K : Ex → Frame → M α) :
    evC T (env k) k r4Same.u5.c (frameL [(0, .slice x0), (1, .slice x1), (2, .bool x2), (7, .int .i64 x3)]) K =
      r4Same.u5.f k x0 x1 x2 x3 (K .normal (frameL [])) (fun y0 => K .ret (frameL [(6, .bool y0)])) :=
  (evC_block.trans (r4Same.u4.ok k x0 x1 x2 x3 (blockK 0 K))).trans (by kernel_rfl)
theorem r4Same.u6.ok (k : Nat) (x0 : Sl) (x1 : Sl) (x2 : Bool) (K : Ex → Frame → M α) :
    evC T (env k) k r4Same.u6.c (frameL [(0, .slice x0), (1, .slice x1), (2, .bool x2)]) K =
      r4Same.u6.f k x0 x1 x2 (K .normal (frameL [])) (fun y0 => K .ret (frameL [(6, .bool y0)])) :=
  (r4Same.u2.ok k x0 x1 x2 r4Same.u5.c K).trans
    (congrArg (fun z => r4Same.u2.f k x0 x1 x2 z) (funext fun y0 => (funext fun y1 => (funext fun y2 => (funext fun y3 => r4Same.u5.ok k y0 y1 y2 y3 K)))))
theorem r4Same.u7.ok (k : Nat) (K : Ex → Frame → M α) :
    evC T (env k) k r4Same.u7.c (frameL []) K =
      r4Same.u7.f k (fun y0 => K .ret (frameL [(6, .bool y0)])) := by kernel_rfl
theorem r4Same.u8.ok (k : Nat) (x0 : Sl) (x1 : Sl) (x2 : Bool) (K : Ex → Frame → M α) :
    evC T (env k) k r4Same.u8.c (frameL [(0, .slice x0), (1, .slice x1), (2, .bool x2)]) K =
      r4Same.u8.f k x0 x1 x2 (fun y0 => K .ret (frameL [(6, .bool y0)])) :=
  by
    have h := r4Same.u6.ok k x0 x1 x2 (seqK (fun ρ => evC T (env k) k r4Same.u7.c ρ K) K)
    simp only [seqK_normal, seqK_exit, seqK_ret, seqK_pan, r4Same.u7.ok] at h
    exact evC_seq_of h
theorem r4Same.u9.ok (k : Nat) (x0 : Sl) (x1 : Sl) (x2 : Bool) (K : Ex → Frame → M α) :
    evC T (env k) k r4Same.u9.c (frameL [(0, .slice x0), (1, .slice x1), (2, .bool x2)]) K =
      r4Same.u9.f k x0 x1 x2 (fun y0 => K .ret (frameL [(6, .bool y0)])) :=
  (r4Same.u1.ok k x0 x1 x2 r4Same.u8.c K).trans
    (congrArg (fun z => r4Same.u1.f k x0 x1 x2 z (fun y0 => K .ret (frameL [(6, .bool y0)]))) (funext fun y0 => (funext fun y1 => (funext fun y2 => r4Same.u8.ok k y0 y1 y2 K))))
theorem r4Same.ok (k : Nat) (x0 : Sl) (x1 : Sl) (x2 : Bool) (κ : Res → M α) :
    evF T (env k) k r4Same.c r4Same.res [.slice x0, .slice x1, .bool x2] κ = r4Same.f (k + 1) x0 x1 x2 (fun o0 => κ (.ret (.bool o0))) :=
  (r4Same.u9.ok k x0 x1 x2 (retK T r4Same.res κ)).trans (by kernel_rfl)
theorem r4Same.code : r4Same.c.code = bodyOf Try.f12 := by kernel_rfl
noncomputable def norm_Is_c1.c : IC := norm_Is_c1.u1.c
noncomputable def norm_Is_c1.res : List ResultVar := [(.tmp 2)]
theorem norm_Is_c1.u1.ok (k : Nat) (x0 : Int) (x1 : Int) (x2 : Int) (x3 : List UInt8) (x4 : Int) (K : Ex → Frame → M α) :
    evC T (env k) k norm_Is_c1.u1.c (frameL [(0, .agg [.int .i64 x0, .int .i64 x1, .int .i64 x2, .str x3, .int .i64 x4])]) K =
      norm_Is_c1.u1.f k x0 x1 x2 x3 x4 (fun y0 => K .ret (frameL [(2, .bool y0)])) := by kernel_rfl
theorem norm_Is_c1.ok (k : Nat) (x0 : Int) (x1 : Int) (x2 : Int) (x3 : List UInt8) (x4 : Int) (κ : Res → M α) :
    evF T (env k) k norm_Is_c1.c norm_Is_c1.res [.agg [.int .i64 x0, .int .i64 x1, .int .i64 x2, .str x3, .int .i64 x4]] κ = norm_Is_c1.f (k + 1) x0 x1 x2 x3 x4 (fun o0 => κ (.ret (.bool o0))) :=
  (norm_Is_c1.u1.ok k x0 x1 x2 x3 x4 (retK T norm_Is_c1.res κ)).trans (by kernel_rfl)
theorem norm_Is_c1.code : norm_Is_c1.c.code = bodyOf Try.f26 := by kernel_rfl
noncomputable def slices_IndexFunc_Node_Node_26.c : IC := slices_IndexFunc_Node_Node_26.u9.c
noncomputable def slices_IndexFunc_Node_Node_26.res : List ResultVar := [(.tmp 4)]
theorem slices_IndexFunc_Node_Node_26.u1.ok (k : Nat) (x0 : Sl) (R : IC) (K : Ex → Frame → M α) :
    evC T (env k) k (slices_IndexFunc_Node_Node_26.u1.c R) (frameL [(0, .slice x0), (1, .func 26 [] [])]) K =
      slices_IndexFunc_Node_Node_26.u1.f k x0 (fun y0 => evC T (env k) k R (frameL [(0, .slice y0), (1, .func 26 [] [])]) K) := by kernel_rfl
theorem slices_IndexFunc_Node_Node_26.u2.ok (k : Nat) (x0 : Sl) (R : IC) (K : Ex → Frame → M α) :
    evC T (env k) k (slices_IndexFunc_Node_Node_26.u2.c R) (frameL [(0, .slice x0), (1, .func 26 [] [])]) K =
      slices_IndexFunc_Node_Node_26.u2.f k x0 (fun y0 y1 y2 => evC T (env k) k R (frameL [(0, .slice y0), (1, .func 26 [] []), (7, .int .i64 y1), (8, .int .i64 y2)]) K) := by kernel_rfl
theorem slices_IndexFunc_Node_Node_26.u3.ok (k : Nat) (x0 : Sl) (x1 : Int) (x2 : Int) (K : Ex → Frame → M α) :
    evC T (env k) k slices_IndexFunc_Node_Node_26.u3.c (frameL [(0, .slice x0), (1, .func 26 [] []), (7, .int .i64 x1), (8, .int .i64 x2)]) K =
      slices_IndexFunc_Node_Node_26.u3.f k x0 x1 x2 (fun y0 y1 y2 => K .normal (frameL [(0, .slice y0), (1, .func 26 [] []), (7, .int .i64 y1), (8, .int .i64 y2)])) (fun y0 => K .ret (frameL [(4, .int .i64 y0)])) (K (.exit 0) (frameL [])) := by kernel_rfl
theorem slices_IndexFunc_Node_Node_26.u4.ls (k : Nat) (kr : Int → M α) (kx0 : M α) (j : Nat) (x0 : Sl) (x1 : Int) (x2 : Int) : slices_IndexFunc_Node_Node_26.u4.l k kr kx0 (j + 1) x0 x1 x2 =
  slices_IndexFunc_Node_Node_26.u3.f k x0 x1 x2 (fun y0 y1 y2 => slices_IndexFunc_Node_Node_26.u4.l k kr kx0 j y0 y1 y2) kr kx0 := rfl
theorem slices_IndexFunc_Node_Node_26.u4.okl (k : Nat) (K : Ex → Frame → M α) : ∀ (j : Nat) (x0 : Sl) (x1 : Int) (x2 : Int),
    evLoop (evC T (env k) k slices_IndexFunc_Node_Node_26.u3.c) [0, 1, 7, 8] j (frameL [(0, .slice x0), (1, .func 26 [] []), (7, .int .i64 x1), (8, .int .i64 x2)]) K = slices_IndexFunc_Node_Node_26.u4.l k (fun y0 => K .ret (frameL [(4, .int .i64 y0)])) (K (.exit 0) (frameL [])) j x0 x1 x2
  | 0, _, _, _ => rfl
  | j + 1, x0, x1, x2 => by
      have h := slices_IndexFunc_Node_Node_26.u3.ok k x0 x1 x2 (seqK (fun ρ => evLoop (evC T (env k) k slices_IndexFunc_Node_Node_26.u3.c) [0, 1, 7, 8] j ρ K) K)
      simp only [seqK_exit, seqK_ret, seqK_pan, seqK_normal, slices_IndexFunc_Node_Node_26.u4.okl k K j] at h
      exact (evLoop_step (by kernel_rfl) h).trans (slices_IndexFunc_Node_Node_26.u4.ls k (fun y0 => K .ret (frameL [(4, .int .i64 y0)])) (K (.exit 0) (frameL [])) j x0 x1 x2).symm
theorem slices_IndexFunc_Node_Node_26.u4.ok (k : Nat) (x0 : Sl) (x1 : Int) (x2 : Int) (K : Ex → Frame → M α) :
    evC T (env k) k slices_IndexFunc_Node_Node_26.u4.c (frameL [(0, .slice x0), (1, .func 26 [] []), (7, .int .i64 x1), (8, .int .i64 x2)]) K =
      slices_IndexFunc_Node_Node_26.u4.f k x0 x1 x2 (fun y0 => K .ret (frameL [(4, .int .i64 y0)])) (K (.exit 0) (frameL [])) :=
  evC_loop.trans <| (evLoop_keep (body := evC T (env k) k slices_IndexFunc_Node_Node_26.u3.c) (keep := [0, 1, 7, 8]) (ρ := (frameL [(0, .slice x0), (1, .func 26 [] []), (7, .int .i64 x1), (8, .int .i64 x2)])) (ρ' := (frameL [(0, .slice x0), (1, .func 26 [] []), (7, .int .i64 x1), (8, .int .i64 x2)])) (by kernel_rfl) k K).trans (slices_IndexFunc_Node_Node_26.u4.okl k K k x0 x1 x2)
theorem slices_IndexFunc_Node_Node_26.u5.ok (k : Nat) (x0 : Sl) (x1 : Int) (x2 : Int) (K : Ex → Frame → M α) :
    evC T (env k) k slices_IndexFunc_Node_Node_26.u5.c (frameL [(0, .slice x0), (1, .func 26 [] []), (7, .int .i64 x1), (8, .int .i64 x2)]) K =
      slices_IndexFunc_Node_Node_26.u5.f k x0 x1 x2 (K .normal (frameL [])) (fun y0 => K .ret (frameL [(4, .int .i64 y0)])) :=
  (evC_block.trans (slices_IndexFunc_Node_Node_26.u4.ok k x0 x1 x2 (blockK 0 K))).trans (by kernel_rfl)
theorem slices_IndexFunc_Node_Node_26.u6.ok (k : Nat) (x0 : Sl) (K : Ex → Frame → M α) :
    evC T (env k) k slices_IndexFunc_Node_Node_26.u6.c (frameL [(0, .slice x0), (1, .func 26 [] [])]) K =
      slices_IndexFunc_Node_Node_26.u6.f k x0 (K .normal (frameL [])) (fun y0 => K .ret (frameL [(4, .int .i64 y0)])) :=
  (slices_IndexFunc_Node_Node_26.u2.ok k x0 slices_IndexFunc_Node_Node_26.u5.c K).trans
    (congrArg (fun z => slices_IndexFunc_Node_Node_26.u2.f k x0 z) (funext fun y0 => (funext fun y1 => (funext fun y2 => slices_IndexFunc_Node_Node_26.u5.ok k y0 y1 y2 K))))
theorem slices_IndexFunc_Node_Node_26.u7.ok (k : Nat) (K : Ex → Frame → M α) :
    evC T (env k) k slices_IndexFunc_Node_Node_26.u7.c (frameL []) K =
      slices_IndexFunc_Node_Node_26.u7.f k (fun y0 => K .ret (frameL [(4, .int .i64 y0)])) := by kernel_rfl
theorem slices_IndexFunc_Node_Node_26.u8.ok (k : Nat) (x0 : Sl) (K : Ex → Frame → M α) :
    evC T (env k) k slices_IndexFunc_Node_Node_26.u8.c (frameL [(0, .slice x0), (1, .func 26 [] [])]) K =
      slices_IndexFunc_Node_Node_26.u8.f k x0 (fun y0 => K .ret (frameL [(4, .int .i64 y0)])) :=
  by
    have h := slices_IndexFunc_Node_Node_26.u6.ok k x0 (seqK (fun ρ => evC T (env k) k slices_IndexFunc_Node_Node_26.u7.c ρ K) K)
    simp only [seqK_normal, seqK_exit, seqK_ret, seqK_pan, slices_IndexFunc_Node_Node_26.u7.ok] at h
    exact evC_seq_of h
theorem slices_IndexFunc_Node_Node_26.u9.ok (k : Nat) (x0 : Sl) (K : Ex → Frame → M α) :
    evC T (env k) k slices_IndexFunc_Node_Node_26.u9.c (frameL [(0, .slice x0), (1, .func 26 [] [])]) K =
      slices_IndexFunc_Node_Node_26.u9.f k x0 (fun y0 => K .ret (frameL [(4, .int .i64 y0)])) :=
  (slices_IndexFunc_Node_Node_26.u1.ok k x0 slices_IndexFunc_Node_Node_26.u8.c K).trans
    (congrArg (fun z => slices_IndexFunc_Node_Node_26.u1.f k x0 z) (funext fun y0 => slices_IndexFunc_Node_Node_26.u8.ok k y0 K))
theorem slices_IndexFunc_Node_Node_26.ok (k : Nat) (x0 : Sl) (κ : Res → M α) :
    evF T (env k) k slices_IndexFunc_Node_Node_26.c slices_IndexFunc_Node_Node_26.res [.slice x0, .func 26 [] []] κ = slices_IndexFunc_Node_Node_26.f (k + 1) x0 (fun o0 => κ (.ret (.int .i64 o0))) :=
  (slices_IndexFunc_Node_Node_26.u9.ok k x0 (retK T slices_IndexFunc_Node_Node_26.res κ)).trans (by kernel_rfl)
theorem slices_IndexFunc_Node_Node_26.code : slices_IndexFunc_Node_Node_26.c.code = bodyOf Try.f44 := by kernel_rfl
noncomputable def slices_ContainsFunc_Node_Node_26.c : IC := slices_ContainsFunc_Node_Node_26.u1.c
noncomputable def slices_ContainsFunc_Node_Node_26.res : List ResultVar := [(.tmp 4)]
theorem slices_ContainsFunc_Node_Node_26.u1.ok (k : Nat) (x0 : Sl) (K : Ex → Frame → M α) :
    evC T (env k) k slices_ContainsFunc_Node_Node_26.u1.c (frameL [(0, .slice x0), (1, .func 26 [] [])]) K =
      slices_ContainsFunc_Node_Node_26.u1.f k x0 (fun y0 => K .ret (frameL [(4, .bool y0)])) := by kernel_rfl
theorem slices_ContainsFunc_Node_Node_26.ok (k : Nat) (x0 : Sl) (κ : Res → M α) :
    evF T (env k) k slices_ContainsFunc_Node_Node_26.c slices_ContainsFunc_Node_Node_26.res [.slice x0, .func 26 [] []] κ = slices_ContainsFunc_Node_Node_26.f (k + 1) x0 (fun o0 => κ (.ret (.bool o0))) :=
  (slices_ContainsFunc_Node_Node_26.u1.ok k x0 (retK T slices_ContainsFunc_Node_Node_26.res κ)).trans (by kernel_rfl)
theorem slices_ContainsFunc_Node_Node_26.code : slices_ContainsFunc_Node_Node_26.c.code = bodyOf Try.f25 := by kernel_rfl
noncomputable def norm_Is.c : IC := norm_Is.u1.c
noncomputable def norm_Is.res : List ResultVar := [(.tmp 2)]
theorem norm_Is.u1.ok (k : Nat) (x0 : Sl) (K : Ex → Frame → M α) :
    evC T (env k) k norm_Is.u1.c (frameL [(0, .slice x0)]) K =
      norm_Is.u1.f k x0 (fun y0 => K .ret (frameL [(2, .bool y0)])) := by kernel_rfl
theorem norm_Is.ok (k : Nat) (x0 : Sl) (κ : Res → M α) :
    evF T (env k) k norm_Is.c norm_Is.res [.slice x0] κ = norm_Is.f (k + 1) x0 (fun o0 => κ (.ret (.bool o0))) :=
  (norm_Is.u1.ok k x0 (retK T norm_Is.res κ)).trans (by kernel_rfl)
theorem norm_Is.code : norm_Is.c.code = bodyOf Try.f15 := by kernel_rfl
noncomputable def w6shown.c : IC := w6shown.u1.c
noncomputable def w6shown.res : List ResultVar := [(.tmp 0)]
theorem w6shown.u1.ok (k : Nat) (K : Ex → Frame → M α) :
    evC T (env k) k w6shown.u1.c (frameL []) K =
      w6shown.u1.f k (fun y0 => K .ret (frameL [(0, .bool y0)])) := by kernel_rfl
theorem w6shown.ok (k : Nat) (κ : Res → M α) :
    evF T (env k) k w6shown.c w6shown.res [] κ = w6shown.f (k + 1) (fun o0 => κ (.ret (.bool o0))) :=
  (w6shown.u1.ok k (retK T w6shown.res κ)).trans (by kernel_rfl)
theorem w6shown.code : w6shown.c.code = bodyOf Try.f8 := by kernel_rfl
noncomputable def w6NormNames.c : IC := w6NormNames.u24.c
noncomputable def w6NormNames.res : List ResultVar := [(.tmp 2)]
theorem w6NormNames.u1.ok (k : Nat) (x0 : Sl) (R : IC) (K : Ex → Frame → M α) :
    evC T (env k) k (w6NormNames.u1.c R) (frameL [(0, .slice x0)]) K =
      w6NormNames.u1.f k x0 (fun y0 y1 y2 => evC T (env k) k R (frameL [(0, .slice y0), (3, .bool y1), (4, .slice y2)]) K) := by kernel_rfl
theorem w6NormNames.u2.ok (k : Nat) (x0 : Sl) (x1 : Bool) (x2 : Sl) (R : IC) (K : Ex → Frame → M α) :
    evC T (env k) k (w6NormNames.u2.c R) (frameL [(0, .slice x0), (3, .bool x1), (4, .slice x2)]) K =
      w6NormNames.u2.f k x0 x1 x2 (fun y0 y1 y2 y3 => evC T (env k) k R (frameL [(0, .slice y0), (3, .bool y1), (4, .slice y2), (5, .int .i64 y3)]) K) := by kernel_rfl
theorem w6NormNames.u3.ok (k : Nat) (x0 : Sl) (x1 : Bool) (x2 : Sl) (x3 : Int) (K : Ex → Frame → M α) :
    evC T (env k) k w6NormNames.u3.c (frameL [(0, .slice x0), (3, .bool x1), (4, .slice x2), (5, .int .i64 x3)]) K =
      w6NormNames.u3.f k x0 x1 x2 x3 (fun y0 y1 y2 y3 => K .normal (frameL [(0, .slice y0), (3, .bool y1), (4, .slice y2), (5, .int .i64 y3)])) (fun y0 y1 y2 => K (.exit 0) (frameL [(0, .slice y0), (3, .bool y1), (4, .slice y2)])) := by kernel_rfl
theorem w6NormNames.u4.ls (k : Nat) (kx0 : Sl → Bool → Sl → M α) (j : Nat) (x0 : Sl) (x1 : Bool) (x2 : Sl) (x3 : Int) : w6NormNames.u4.l k kx0 (j + 1) x0 x1 x2 x3 =
  w6NormNames.u3.f k x0 x1 x2 x3 (fun y0 y1 y2 y3 => w6NormNames.u4.l k kx0 j y0 y1 y2 y3) kx0 := rfl
theorem w6NormNames.u4.okl (k : Nat) (K : Ex → Frame → M α) : ∀ (j : Nat) (x0 : Sl) (x1 : Bool) (x2 : Sl) (x3 : Int),
    evLoop (evC T (env k) k w6NormNames.u3.c) [0, 3, 4, 5] j (frameL [(0, .slice x0), (3, .bool x1), (4, .slice x2), (5, .int .i64 x3)]) K = w6NormNames.u4.l k (fun y0 y1 y2 => K (.exit 0) (frameL [(0, .slice y0), (3, .bool y1), (4, .slice y2)])) j x0 x1 x2 x3
  | 0, _, _, _, _ => rfl
  | j + 1, x0, x1, x2, x3 => by
      have h := w6NormNames.u3.ok k x0 x1 x2 x3 (seqK (fun ρ => evLoop (evC T (env k) k w6NormNames.u3.c) [0, 3, 4, 5] j ρ K) K)
      simp only [seqK_exit, seqK_ret, seqK_pan, seqK_normal, w6NormNames.u4.okl k K j] at h
      exact (evLoop_step (by kernel_rfl) h).trans (w6NormNames.u4.ls k (fun y0 y1 y2 => K (.exit 0) (frameL [(0, .slice y0), (3, .bool y1), (4, .slice y2)])) j x0 x1 x2 x3).symm
theorem w6NormNames.u4.ok (k : Nat) (x0 : Sl) (x1 : Bool) (x2 : Sl) (x3 : Int) (K : Ex → Frame → M α) :
    evC T (env k) k w6NormNames.u4.c (frameL [(0, .slice x0), (3, .bool x1), (4, .slice x2), (5, .int .i64 x3)]) K =
      w6NormNames.u4.f k x0 x1 x2 x3 (fun y0 y1 y2 => K (.exit 0) (frameL [(0, .slice y0), (3, .bool y1), (4, .slice y2)])) :=
  evC_loop.trans <| (evLoop_keep (body := evC T (env k) k w6NormNames.u3.c) (keep := [0, 3, 4, 5]) (ρ := (frameL [(0, .slice x0), (3, .bool x1), (4, .slice x2), (5, .int .i64 x3)])) (ρ' := (frameL [(0, .slice x0), (3, .bool x1), (4, .slice x2), (5, .int .i64 x3)])) (by kernel_rfl) k K).trans (w6NormNames.u4.okl k K k x0 x1 x2 x3)
theorem w6NormNames.u5.ok (k : Nat) (x0 : Sl) (x1 : Bool) (x2 : Sl) (x3 : Int) (K : Ex → Frame → M α) :
    evC T (env k) k w6NormNames.u5.c (frameL [(0, .slice x0), (3, .bool x1), (4, .slice x2), (5, .int .i64 x3)]) K =
      w6NormNames.u5.f k x0 x1 x2 x3 (fun y0 y1 y2 => K .normal (frameL [(0, .slice y0), (3, .bool y1), (4, .slice y2)])) :=
  (evC_block.trans (w6NormNames.u4.ok k x0 x1 x2 x3 (blockK 0 K))).trans (by kernel_rfl)
theorem w6NormNames.u6.ok (k : Nat) (x0 : Sl) (x1 : Bool) (x2 : Sl) (K : Ex → Frame → M α) :
    evC T (env k) k w6NormNames.u6.c (frameL [(0, .slice x0), (3, .bool x1), (4, .slice x2)]) K =
      w6NormNames.u6.f k x0 x1 x2 (fun y0 y1 y2 => K .normal (frameL [(0, .slice y0), (3, .bool y1), (4, .slice y2)])) :=
  (w6NormNames.u2.ok k x0 x1 x2 w6NormNames.u5.c K).trans
    (congrArg (fun z => w6NormNames.u2.f k x0 x1 x2 z) (funext fun y0 => (funext fun y1 => (funext fun y2 => (funext fun y3 => w6NormNames.u5.ok k y0 y1 y2 y3 K)))))
theorem w6NormNames.u7.ok (k : Nat) (x0 : Sl) (x1 : Bool) (x2 : Sl) (R : IC) (K : Ex → Frame → M α) :
    evC T (env k) k (w6NormNames.u7.c R) (frameL [(0, .slice x0), (3, .bool x1), (4, .slice x2)]) K =
      w6NormNames.u7.f k x0 x1 x2 (fun y0 y1 => evC T (env k) k R (frameL [(6, .slice y0), (7, .slice y1)]) K) (fun y0 => K .ret (frameL [(2, .bool y0)])) := by kernel_rfl
theorem w6NormNames.u8.ok (k : Nat) (x0 : Sl) (x1 : Sl) (R : IC) (K : Ex → Frame → M α) :
    evC T (env k) k (w6NormNames.u8.c R) (frameL [(6, .slice x0), (7, .slice x1)]) K =
      w6NormNames.u8.f k x0 x1 (fun y0 y1 => evC T (env k) k R (frameL [(6, .slice y0), (7, .slice y1)]) K) (fun y0 => K .ret (frameL [(2, .bool y0)])) := by kernel_rfl
theorem w6NormNames.u9.ok (k : Nat) (x0 : Sl) (x1 : Sl) (R : IC) (K : Ex → Frame → M α) :
    evC T (env k) k (w6NormNames.u9.c R) (frameL [(6, .slice x0), (7, .slice x1)]) K =
      w6NormNames.u9.f k x0 x1 (fun y0 y1 y2 => evC T (env k) k R (frameL [(6, .slice y0), (7, .slice y1), (8, .int .i64 y2)]) K) := by kernel_rfl
theorem w6NormNames.u10.ok (k : Nat) (x0 : Sl) (x1 : Sl) (x2 : Int) (R : IC) (K : Ex → Frame → M α) :
    evC T (env k) k (w6NormNames.u10.c R) (frameL [(6, .slice x0), (7, .slice x1), (8, .int .i64 x2)]) K =
      w6NormNames.u10.f k x0 x1 x2 (fun y0 y1 y2 => evC T (env k) k R (frameL [(6, .slice y0), (7, .slice y1), (8, .int .i64 y2)]) K) (fun y0 y1 => K (.exit 3) (frameL [(6, .slice y0), (7, .slice y1)])) := by kernel_rfl
theorem w6NormNames.u11.ok (k : Nat) (x0 : Sl) (x1 : Sl) (x2 : Int) (K : Ex → Frame → M α) :
    evC T (env k) k w6NormNames.u11.c (frameL [(6, .slice x0), (7, .slice x1), (8, .int .i64 x2)]) K =
      w6NormNames.u11.f k x0 x1 x2 (fun y0 y1 y2 => K .normal (frameL [(6, .slice y0), (7, .slice y1), (8, .int .i64 y2)])) (fun y0 => K .ret (frameL [(2, .bool y0)])) := by kernel_rfl
theorem w6NormNames.u12.ok (k : Nat) (x0 : Sl) (x1 : Sl) (x2 : Int) (K : Ex → Frame → M α) :
    evC T (env k) k w6NormNames.u12.c (frameL [(6, .slice x0), (7, .slice x1), (8, .int .i64 x2)]) K =
      w6NormNames.u12.f k x0 x1 x2 (fun y0 y1 y2 => K .normal (frameL [(6, .slice y0), (7, .slice y1), (8, .int .i64 y2)])) (fun y0 => K .ret (frameL [(2, .bool y0)])) :=
  (evC_block.trans (w6NormNames.u11.ok k x0 x1 x2 (blockK 4 K))).trans (by kernel_rfl)
theorem w6NormNames.u13.ok (k : Nat) (x0 : Sl) (x1 : Sl) (x2 : Int) (K : Ex → Frame → M α) :
    evC T (env k) k w6NormNames.u13.c (frameL [(6, .slice x0), (7, .slice x1), (8, .int .i64 x2)]) K =
      w6NormNames.u13.f k x0 x1 x2 (fun y0 y1 y2 => K .normal (frameL [(6, .slice y0), (7, .slice y1), (8, .int .i64 y2)])) := by kernel_rfl
theorem w6NormNames.u14.ok (k : Nat) (x0 : Sl) (x1 : Sl) (x2 : Int) (K : Ex → Frame → M α) :
    evC T (env k) k w6NormNames.u14.c (frameL [(6, .slice x0), (7, .slice x1), (8, .int .i64 x2)]) K =
      w6NormNames.u14.f k x0 x1 x2 (fun y0 y1 y2 => K .normal (frameL [(6, .slice y0), (7, .slice y1), (8, .int .i64 y2)])) (fun y0 => K .ret (frameL [(2, .bool y0)])) :=
  by
    have h := w6NormNames.u12.ok k x0 x1 x2 (seqK (fun ρ => evC T (env k) k w6NormNames.u13.c ρ K) K)
    simp only [seqK_normal, seqK_exit, seqK_ret, seqK_pan, w6NormNames.u13.ok] at h
    exact evC_seq_of h
theorem w6NormNames.u15.ok (k : Nat) (x0 : Sl) (x1 : Sl) (x2 : Int) (K : Ex → Frame → M α) :
    evC T (env k) k w6NormNames.u15.c (frameL [(6, .slice x0), (7, .slice x1), (8, .int .i64 x2)]) K =
      w6NormNames.u15.f k x0 x1 x2 (fun y0 y1 y2 => K .normal (frameL [(6, .slice y0), (7, .slice y1), (8, .int .i64 y2)])) (fun y0 => K .ret (frameL [(2, .bool y0)])) (fun y0 y1 => K (.exit 3) (frameL [(6, .slice y0), (7, .slice y1)])) :=
  (w6NormNames.u10.ok k x0 x1 x2 w6NormNames.u14.c K).trans
    (congrArg (fun z => w6NormNames.u10.f k x0 x1 x2 z (fun y0 y1 => K (.exit 3) (frameL [(6, .slice y0), (7, .slice y1)]))) (funext fun y0 => (funext fun y1 => (funext fun y2 => w6NormNames.u14.ok k y0 y1 y2 K))))
theorem w6NormNames.u16.ls (k : Nat) (kr : Bool → M α) (kx3 : Sl → Sl → M α) (j : Nat) (x0 : Sl) (x1 : Sl) (x2 : Int) : w6NormNames.u16.l k kr kx3 (j + 1) x0 x1 x2 =
  w6NormNames.u15.f k x0 x1 x2 (fun y0 y1 y2 => w6NormNames.u16.l k kr kx3 j y0 y1 y2) kr kx3 := rfl
theorem w6NormNames.u16.okl (k : Nat) (K : Ex → Frame → M α) : ∀ (j : Nat) (x0 : Sl) (x1 : Sl) (x2 : Int),
    evLoop (evC T (env k) k w6NormNames.u15.c) [6, 7, 8] j (frameL [(6, .slice x0), (7, .slice x1), (8, .int .i64 x2)]) K = w6NormNames.u16.l k (fun y0 => K .ret (frameL [(2, .bool y0)])) (fun y0 y1 => K (.exit 3) (frameL [(6, .slice y0), (7, .slice y1)])) j x0 x1 x2
  | 0, _, _, _ => rfl
  | j + 1, x0, x1, x2 => by
      have h := w6NormNames.u15.ok k x0 x1 x2 (seqK (fun ρ => evLoop (evC T (env k) k w6NormNames.u15.c) [6, 7, 8] j ρ K) K)
      simp only [seqK_exit, seqK_ret, seqK_pan, seqK_normal, w6NormNames.u16.okl k K j] at h
      exact (evLoop_step (by kernel_rfl) h).trans (w6NormNames.u16.ls k (fun y0 => K .ret (frameL [(2, .bool y0)])) (fun y0 y1 => K (.exit 3) (frameL [(6, .slice y0), (7, .slice y1)])) j x0 x1 x2).symm
theorem w6NormNames.u16.ok (k : Nat) (x0 : Sl) (x1 : Sl) (x2 : Int) (K : Ex → Frame → M α) :
    evC T (env k) k w6NormNames.u16.c (frameL [(6, .slice x0), (7, .slice x1), (8, .int .i64 x2)]) K =
      w6NormNames.u16.f k x0 x1 x2 (fun y0 => K .ret (frameL [(2, .bool y0)])) (fun y0 y1 => K (.exit 3) (frameL [(6, .slice y0), (7, .slice y1)])) :=
  evC_loop.trans <| (evLoop_keep (body := evC T (env k) k w6NormNames.u15.c) (keep := [6, 7, 8]) (ρ := (frameL [(6, .slice x0), (7, .slice x1), (8, .int .i64 x2)])) (ρ' := (frameL [(6, .slice x0), (7, .slice x1), (8, .int .i64 x2)])) (by kernel_rfl) k K).trans (w6NormNames.u16.okl k K k x0 x1 x2)
theorem w6NormNames.u17.ok (k : Nat) (x0 : Sl) (x1 : Sl) (x2 : Int) (K : Ex → Frame → M α) :
    evC T (env k) k w6NormNames.u17.c (frameL [(6, .slice x0), (7, .slice x1), (8, .int .i64 x2)]) K =
      w6NormNames.u17.f k x0 x1 x2 (fun y0 y1 => K .normal (frameL [(6, .slice y0), (7, .slice y1)])) (fun y0 => K .ret (frameL [(2, .bool y0)])) :=
  (evC_block.trans (w6NormNames.u16.ok k x0 x1 x2 (blockK 3 K))).trans (by kernel_rfl)
theorem w6NormNames.u18.ok (k : Nat) (x0 : Sl) (x1 : Sl) (K : Ex → Frame → M α) :
    evC T (env k) k w6NormNames.u18.c (frameL [(6, .slice x0), (7, .slice x1)]) K =
      w6NormNames.u18.f k x0 x1 (fun y0 y1 => K .normal (frameL [(6, .slice y0), (7, .slice y1)])) (fun y0 => K .ret (frameL [(2, .bool y0)])) :=
  (w6NormNames.u9.ok k x0 x1 w6NormNames.u17.c K).trans
    (congrArg (fun z => w6NormNames.u9.f k x0 x1 z) (funext fun y0 => (funext fun y1 => (funext fun y2 => w6NormNames.u17.ok k y0 y1 y2 K))))
theorem w6NormNames.u19.ok (k : Nat) (x0 : Sl) (x1 : Sl) (K : Ex → Frame → M α) :
    evC T (env k) k w6NormNames.u19.c (frameL [(6, .slice x0), (7, .slice x1)]) K =
      w6NormNames.u19.f k x0 x1 (fun y0 => K .ret (frameL [(2, .bool y0)])) := by kernel_rfl
theorem w6NormNames.u20.ok (k : Nat) (x0 : Sl) (x1 : Sl) (K : Ex → Frame → M α) :
    evC T (env k) k w6NormNames.u20.c (frameL [(6, .slice x0), (7, .slice x1)]) K =
      w6NormNames.u20.f k x0 x1 (fun y0 => K .ret (frameL [(2, .bool y0)])) :=
  by
    have h := w6NormNames.u18.ok k x0 x1 (seqK (fun ρ => evC T (env k) k w6NormNames.u19.c ρ K) K)
    simp only [seqK_normal, seqK_exit, seqK_ret, seqK_pan, w6NormNames.u19.ok] at h
    exact evC_seq_of h
theorem w6NormNames.u21.ok (k : Nat) (x0 : Sl) (x1 : Sl) (K : Ex → Frame → M α) :
    evC T (env k) k w6NormNames.u21.c (frameL [(6, .slice x0), (7, .slice x1)]) K =
      w6NormNames.u21.f k x0 x1 (fun y0 => K .ret (frameL [(2, .bool y0)])) :=
  (w6NormNames.u8.ok k x0 x1 w6NormNames.u20.c K).trans
    (congrArg (fun z => w6NormNames.u8.f k x0 x1 z (fun y0 => K .ret (frameL [(2, .bool y0)]))) (funext fun y0 => (funext fun y1 => w6NormNames.u20.ok k y0 y1 K)))
theorem w6NormNames.u22.ok (k : Nat) (x0 : Sl) (x1 : Bool) (x2 : Sl) (K : Ex → Frame → M α) :
    evC T (env k) k w6NormNames.u22.c (frameL [(0, .slice x0), (3, .bool x1), (4, .slice x2)]) K =
      w6NormNames.u22.f k x0 x1 x2 (fun y0 => K .ret (frameL [(2, .bool y0)])) :=
  (w6NormNames.u7.ok k x0 x1 x2 w6NormNames.u21.c K).trans
    (congrArg (fun z => w6NormNames.u7.f k x0 x1 x2 z (fun y0 => K .ret (frameL [(2, .bool y0)]))) (funext fun y0 => (funext fun y1 => w6NormNames.u21.ok k y0 y1 K)))
theorem w6NormNames.u23.ok (k : Nat) (x0 : Sl) (x1 : Bool) (x2 : Sl) (K : Ex → Frame → M α) :
    evC T (env k) k w6NormNames.u23.c (frameL [(0, .slice x0), (3, .bool x1), (4, .slice x2)]) K =
      w6NormNames.u23.f k x0 x1 x2 (fun y0 => K .ret (frameL [(2, .bool y0)])) :=
  by
    have h := w6NormNames.u6.ok k x0 x1 x2 (seqK (fun ρ => evC T (env k) k w6NormNames.u22.c ρ K) K)
    simp only [seqK_normal, seqK_exit, seqK_ret, seqK_pan, w6NormNames.u22.ok] at h
    exact evC_seq_of h
theorem w6NormNames.u24.ok (k : Nat) (x0 : Sl) (K : Ex → Frame → M α) :
    evC T (env k) k w6NormNames.u24.c (frameL [(0, .slice x0)]) K =
      w6NormNames.u24.f k x0 (fun y0 => K .ret (frameL [(2, .bool y0)])) :=
  (w6NormNames.u1.ok k x0 w6NormNames.u23.c K).trans
    (congrArg (fun z => w6NormNames.u1.f k x0 z) (funext fun y0 => (funext fun y1 => (funext fun y2 => w6NormNames.u23.ok k y0 y1 y2 K))))
theorem w6NormNames.ok (k : Nat) (x0 : Sl) (κ : Res → M α) :
    evF T (env k) k w6NormNames.c w6NormNames.res [.slice x0] κ = w6NormNames.f (k + 1) x0 (fun o0 => κ (.ret (.bool o0))) :=
  (w6NormNames.u24.ok k x0 (retK T w6NormNames.res κ)).trans (by kernel_rfl)
theorem w6NormNames.code : w6NormNames.c.code = bodyOf Try.f3 := by kernel_rfl
noncomputable def norm_Negate.c : IC := norm_Negate.u1.c
noncomputable def norm_Negate.res : List ResultVar := [(.tmp 2)]
theorem norm_Negate.u1.ok (k : Nat) (x0 : Sl) (K : Ex → Frame → M α) :
    evC T (env k) k norm_Negate.u1.c (frameL [(0, .slice x0)]) K =
      norm_Negate.u1.f k x0 (fun y0 => K .ret (frameL [(2, .slice y0)])) := by kernel_rfl
theorem norm_Negate.ok (k : Nat) (x0 : Sl) (κ : Res → M α) :
    evF T (env k) k norm_Negate.c norm_Negate.res [.slice x0] κ = norm_Negate.f (k + 1) x0 (fun o0 => κ (.ret (.slice o0))) :=
  (norm_Negate.u1.ok k x0 (retK T norm_Negate.res κ)).trans (by kernel_rfl)
theorem norm_Negate.code : norm_Negate.c.code = bodyOf Try.f11 := by kernel_rfl
end
end Go.Ab.S4
