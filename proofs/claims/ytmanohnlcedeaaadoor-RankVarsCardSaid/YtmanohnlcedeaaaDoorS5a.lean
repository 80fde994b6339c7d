import Derived.Test.YtmanohnlcedeaaaDoorS5a0
import Derived.Test.YtmanohnlcedeaaaDoorAb20
import Derived.Shelf.Strings.Builder1
import Derived.Test.YtmanohnlcedeaaaDoorProg
import Derived.KernelRfl
import Derived.Lib.TrailingZeros
namespace Go.Ab.S5
abbrev fr19 (x0 : Sl) : Frame := za [(4, .slice x0)]
abbrev fr20 (x0 : Sl) (x1 : Int) : Frame := za [(0, .slice x0), (5, .int .i64 x1)]
abbrev fr21 (x0 : Bool) : Frame := za [(4, .bool x0)]
abbrev fr22 (x0 : TX) : Frame := za [(4, .str x0)]
abbrev fr23 (x0 : Int) : Frame := za [(9, .int .i64 x0)]
abbrev fr24 (x0 : Int) : Frame := za [(8, .int .i64 x0)]
abbrev fr25 (x0 : Sl) : Frame := za [(0, .slice x0)]
abbrev fr26 (x0 : Sl) : Frame := za [(2, .slice x0)]
abbrev fr27 (x0 : TX) (x1 x2 : Int) : Frame := za [(0, .str x0), (1, .int .u8 x1), (2, .int .u8 x2)]
abbrev fr28 (x0 : Bool) : Frame := za [(6, .bool x0)]
abbrev fr29 (x0 : TX) (x1 x2 : Int) : Frame := za [(0, .str x0), (30, .int .i64 x1), (31, .int .i64 x2)]
abbrev fr30 (x0 : Int) : Frame := za [(0, .int .i64 x0)]
abbrev fr31 (x0 x1 : Sl) : Frame := za [(0, .slice x0), (1, .slice x1)]
abbrev fr32 (x0 x1 : Sl) (x2 x3 : Int) : Frame := za [(0, .slice x0), (1, .slice x1), (12, .int .i64 x2), (13, .int .i64 x3)]
abbrev fr33 (x0 x1 : Sl) : Frame := za [(0, .slice x0), (3, .slice x1)]
abbrev fr34 (x0 x1 : Sl) (x2 x3 : Int) : Frame := za [(3, .slice x0), (17, .slice x1), (18, .int .i64 x2), (19, .int .i64 x3)]
abbrev fr35 (x0 : Sl) : Frame := za [(3, .slice x0)]
abbrev fr36 (x0 x1 : Int) : Frame := za [(2, .int .i64 x0), (3, .int .i64 x1)]
abbrev fr37 (x0 : Sl) (x1 x2 : Int) : Frame := za [(3, .slice x0), (10, .int .i64 x1), (11, .int .i64 x2)]
abbrev fr38 (x0 : Sl) (x1 x2 : Int) : Frame := za [(3, .slice x0), (8, .int .i64 x1), (9, .int .i64 x2)]
abbrev fr39 (x0 x1 x2 : Sl) : Frame := za [(0, .slice x0), (3, .slice x1), (4, .slice x2)]
abbrev fr40 (x0 x1 x2 : Sl) (x3 x4 : Int) : Frame := za [(3, .slice x0), (4, .slice x1), (15, .slice x2), (16, .int .i64 x3), (17, .int .i64 x4)]
abbrev fr41 (x0 x1 : Sl) (x2 x3 : Sl) : Frame := za [(0, .slice x0), (3, .slice x1), (4, .slice x2), (5, .slice x3)]
abbrev fr42 (x0 x1 : Sl) (x2 x3 : Sl) (x4 x5 : Int) : Frame := za [(3, .slice x0), (4, .slice x1), (5, .slice x2), (22, .slice x3), (23, .int .i64 x4), (24, .int .i64 x5)]
abbrev fr43 (x0 x1 x2 : Sl) (x3 x4 : Int) (x5 : Sl) (x6 x7 : Int) : Frame := za [(3, .slice x0), (4, .slice x1), (5, .slice x2), (6, .int .i64 x3), (8, .int .i64 x4), (22, .slice x5), (23, .int .i64 x6), (24, .int .i64 x7)]
abbrev fr44 (x0 x1 x2 : Sl) (x3 x4 : Int) (x5 : Sl) (x6 x7 : Int) : Frame := za [(3, .slice x0), (4, .slice x1), (5, .slice x2), (6, .int .i64 x3), (9, .int .u64 x4), (22, .slice x5), (23, .int .i64 x6), (24, .int .i64 x7)]
abbrev fr45 (x0 : Bool) : Frame := za [(0, .bool x0)]
abbrev fr46 (x0 x1 x2 : Sl) : Frame := za [(0, .slice x0), (4, .slice x1), (5, .slice x2)]
abbrev fr47 (x0 x1 x2 : Sl) (x3 : Int) : Frame := za [(0, .slice x0), (4, .slice x1), (5, .slice x2), (6, .int .i64 x3)]
abbrev fr48 (x0 x1 x2 : Sl) : Frame := za [(0, .slice x0), (4, .slice x1), (7, .slice x2)]
abbrev fr49 (x0 x1 x2 : Sl) (x3 : Int) : Frame := za [(0, .slice x0), (4, .slice x1), (7, .slice x2), (8, .int .i64 x3)]
section
variable {α : Type}
open Go.Proofs
set_option linter.unusedVariables false
set_option linter.unusedSimpArgs false
noncomputable def qm.c : IC := qm.u9.c
noncomputable def qm.res : List ResultVar := [(.tmp 4)]
theorem qm.u1.ok (k : Nat) (x0 : Sl) (R : IC) (K : KF α) :
  eC k (qm.u1.c R) (za [(0, .slice x0), (1, .func 35 [] [])]) K =
   qm.u1.f k x0 (fun y0 y1 => eC k R (za [(0, .slice y0), (1, .func 35 [] []), (5, .int .i64 y1)]) K) (fun y0 => K .ret (fr19 y0)) := by kernel_rfl
theorem qm.u2.ok (k : Nat) (x0 : Sl) (x1 : Int) (R : IC) (K : KF α) :
  eC k (qm.u2.c R) (za [(0, .slice x0), (1, .func 35 [] []), (5, .int .i64 x1)]) K =
   qm.u2.f k x0 x1 (fun y0 y1 y2 => eC k R (za [(0, .slice y0), (1, .func 35 [] []), (5, .int .i64 y1), (6, .int .i64 y2)]) K) := by kernel_rfl
theorem qm.u3.ok (k : Nat) (x0 : Sl) (x1 x2 : Int) (K : KF α) :
  eC k qm.u3.c (za [(0, .slice x0), (1, .func 35 [] []), (5, .int .i64 x1), (6, .int .i64 x2)]) K =
   qm.u3.f k x0 x1 x2 (fun y0 y1 y2 => K .normal (za [(0, .slice y0), (1, .func 35 [] []), (5, .int .i64 y1), (6, .int .i64 y2)])) (fun y0 y1 => K (.exit 0) (fr20 y0 y1)) := by kernel_rfl
theorem qm.u4.ls (k : Nat) (kx0 : Sl->Int->M α) (j : Nat) (x0 : Sl) (x1 x2 : Int) : qm.u4.l k kx0 (j + 1) x0 x1 x2 =
 qm.u3.f k x0 x1 x2 (fun y0 y1 y2 => qm.u4.l k kx0 j y0 y1 y2) kx0 := rfl
theorem qm.u4.okl (k : Nat) (K : KF α) : ∀ (j : Nat) (x0 : Sl) (x1 x2 : Int),
  zw (eC k qm.u3.c) [0, 1, 5, 6] j (za [(0, .slice x0), (1, .func 35 [] []), (5, .int .i64 x1), (6, .int .i64 x2)]) K = qm.u4.l k (fun y0 y1 => K (.exit 0) (fr20 y0 y1)) j x0 x1 x2
 | 0, _, _, _ => rfl
 | j + 1, x0, x1, x2 => by
   have h := qm.u3.ok k x0 x1 x2 (seqK (fun ρ => zw (eC k qm.u3.c) [0, 1, 5, 6] j ρ K) K)
   simp only [zh, zj, zk, zf, qm.u4.okl k K j] at h
   exact (ja (by kernel_rfl) h).trans (qm.u4.ls k (fun y0 y1 => K (.exit 0) (fr20 y0 y1)) j x0 x1 x2).symm
theorem qm.u4.ok (k : Nat) (x0 : Sl) (x1 x2 : Int) (K : KF α) :
  eC k qm.u4.c (za [(0, .slice x0), (1, .func 35 [] []), (5, .int .i64 x1), (6, .int .i64 x2)]) K =
   qm.u4.f k x0 x1 x2 (fun y0 y1 => K (.exit 0) (fr20 y0 y1)) :=
 jy.trans <| (jb (body := eC k qm.u3.c) (keep := [0, 1, 5, 6]) (ρ := (za [(0, .slice x0), (1, .func 35 [] []), (5, .int .i64 x1), (6, .int .i64 x2)])) (ρ' := (za [(0, .slice x0), (1, .func 35 [] []), (5, .int .i64 x1), (6, .int .i64 x2)])) (by kernel_rfl) k K).trans (qm.u4.okl k K k x0 x1 x2)
theorem qm.u5.ok (k : Nat) (x0 : Sl) (x1 x2 : Int) (K : KF α) :
  eC k qm.u5.c (za [(0, .slice x0), (1, .func 35 [] []), (5, .int .i64 x1), (6, .int .i64 x2)]) K =
   qm.u5.f k x0 x1 x2 (fun y0 y1 => K .normal (fr20 y0 y1)) :=
 (zu.trans (qm.u4.ok k x0 x1 x2 (jt 0 K))).trans (by kernel_rfl)
theorem qm.u6.ok (k : Nat) (x0 : Sl) (x1 : Int) (K : KF α) :
  eC k qm.u6.c (za [(0, .slice x0), (1, .func 35 [] []), (5, .int .i64 x1)]) K =
   qm.u6.f k x0 x1 (fun y0 y1 => K .normal (fr20 y0 y1)) :=
 (qm.u2.ok k x0 x1 qm.u5.c K).trans
  (congrArg (fun z => qm.u2.f k x0 x1 z) (funext fun y0 => (funext fun y1 => (funext fun y2 => qm.u5.ok k y0 y1 y2 K))))
theorem qm.u7.ok (k : Nat) (x0 : Sl) (x1 : Int) (K : KF α) :
  eC k qm.u7.c (fr20 x0 x1) K =
   qm.u7.f k x0 x1 (fun y0 => K .ret (fr19 y0)) := by kernel_rfl
theorem qm.u8.ok (k : Nat) (x0 : Sl) (x1 : Int) (K : KF α) :
  eC k qm.u8.c (za [(0, .slice x0), (1, .func 35 [] []), (5, .int .i64 x1)]) K =
   qm.u8.f k x0 x1 (fun y0 => K .ret (fr19 y0)) :=
 by
  have h := qm.u6.ok k x0 x1 (seqK (fun ρ => eC k qm.u7.c ρ K) K)
  simp only [zf, zh, zj, zk, qm.u7.ok] at h
  exact zx h
theorem qm.u9.ok (k : Nat) (x0 : Sl) (K : KF α) :
  eC k qm.u9.c (za [(0, .slice x0), (1, .func 35 [] [])]) K =
   qm.u9.f k x0 (fun y0 => K .ret (fr19 y0)) :=
 (qm.u1.ok k x0 qm.u8.c K).trans
  (congrArg (fun z => qm.u1.f k x0 z (fun y0 => K .ret (fr19 y0))) (funext fun y0 => (funext fun y1 => qm.u8.ok k y0 y1 K)))
theorem qm.ok (k : Nat) (x0 : Sl) (κ : Res->M α) :
  evF T (env k) k qm.c qm.res [.slice x0, .func 35 [] []] κ = qm.f (k + 1) x0 (fun o0 => κ (.ret (.slice o0))) :=
 (qm.u9.ok k x0 (retK T qm.res κ)).trans (by kernel_rfl)
theorem qm.code : qm.c.code = zz Tryd.f34 := by kernel_rfl
noncomputable def qai.c : IC := qai.u1.c
noncomputable def qai.res : List ResultVar := [(.tmp 4)]
theorem qai.u1.ok (k : Nat) (x0 : Ad) (x1 : TX) (K : KF α) :
  eC k qai.u1.c (za [(0, .ptr (some x0)), (1, .str x1)]) K =
   qai.u1.f k x0 x1 (fun y0 => K .ret (fr21 y0)) := by kernel_rfl
theorem qai.ok (k : Nat) (x0 : Ad) (x1 : TX) (κ : Res->M α) :
  evF T (env k) k qai.c qai.res [.ptr (some x0), .str x1] κ = qai.f (k + 1) x0 x1 (fun o0 => κ (.ret (.bool o0))) :=
 (qai.u1.ok k x0 x1 (retK T qai.res κ)).trans (by kernel_rfl)
theorem qai.code : qai.c.code = zz Tryd.f69 := by kernel_rfl
noncomputable def qac.c : IC := qac.u1.c
noncomputable def qac.res : List ResultVar := [(.cell 2 61)]
theorem qac.u1.ok (k : Nat) (x0 : Ad) (K : KF α) :
  eC k qac.u1.c (za [(0, .ptr (some x0))]) K =
   qac.u1.f k x0 (fun y0 => K .ret (za [(2, .ptr (some y0))])) := by kernel_rfl
theorem qac.ok (k : Nat) (x0 : Ad) (κ : Res->M α) :
  evF T (env k) k qac.c qac.res [.ptr (some x0)] κ = qac.f (k + 1) x0 (fun o0 o1 o2 o3 => κ (.ret (.agg [.int .i64 o0, .int .i64 o1, .str o2, .int .i64 o3]))) :=
 (qac.u1.ok k x0 (retK T qac.res κ)).trans (by kernel_rfl)
theorem qac.code : qac.c.code = zz Tryd.f78 := by kernel_rfl
noncomputable def qab.c : IC := qab.u1.c
noncomputable def qab.res : List ResultVar := [(.cell 2 61)]
theorem qab.u1.ok (k : Nat) (x0 : Ad) (K : KF α) :
  eC k qab.u1.c (za [(0, .ptr (some x0))]) K =
   qab.u1.f k x0 (fun y0 => K .ret (za [(2, .ptr (some y0))])) (fun v => K (.pan v) (za [])) := by kernel_rfl
theorem qab.ok (k : Nat) (x0 : Ad) (κ : Res->M α) :
  evF T (env k) k qab.c qab.res [.ptr (some x0)] κ = qab.f (k + 1) x0 (fun v => κ (.pan v)) (fun o0 o1 o2 o3 => κ (.ret (.agg [.int .i64 o0, .int .i64 o1, .str o2, .int .i64 o3]))) :=
 (qab.u1.ok k x0 (retK T qab.res κ)).trans (by kernel_rfl)
theorem qab.code : qab.c.code = zz Tryd.f70 := by kernel_rfl
noncomputable def qy.c : IC := qy.u1.c
noncomputable def qy.res : List ResultVar := [(.tmp 4)]
theorem qy.u1.ok (k : Nat) (x0 : Ad) (x1 x2 x3 : Int) (x4 : TX) (x5 : Int) (K : KF α) :
  eC k qy.u1.c (za [(0, .ptr (some x0)), (1, .agg [.int .i64 x1, .int .i64 x2, .int .i64 x3, .str x4, .int .i64 x5])]) K =
   qy.u1.f k x0 x1 x2 x3 x4 x5 (fun y0 => K .ret (fr1 y0)) := by kernel_rfl
theorem qy.ok (k : Nat) (x0 : Ad) (x1 x2 x3 : Int) (x4 : TX) (x5 : Int) (κ : Res->M α) :
  evF T (env k) k qy.c qy.res [.ptr (some x0), .agg [.int .i64 x1, .int .i64 x2, .int .i64 x3, .str x4, .int .i64 x5]] κ = qy.f (k + 1) x0 x1 x2 x3 x4 x5 (fun o0 => κ (.ret (.int .i64 o0))) :=
 (qy.u1.ok k x0 x1 x2 x3 x4 x5 (retK T qy.res κ)).trans (by kernel_rfl)
theorem qy.code : qy.c.code = zz Tryd.f71 := by kernel_rfl
noncomputable def qah.c : IC := qah.u1.c
noncomputable def qah.res : List ResultVar := []
theorem qah.u1.ok (k : Nat) (x0 : Ad) (K : KF α) :
  eC k qah.u1.c (za [(0, .ptr (some x0))]) K =
   qah.u1.f k x0 (fun v => K (.pan v) (za [])) := by kernel_rfl
theorem qah.ok (k : Nat) (x0 : Ad) (κ : Res->M α) :
  evF T (env k) k qah.c qah.res [.ptr (some x0)] κ = qah.f (k + 1) x0 (fun v => κ (.pan v)) (κ (.ret (.tuple []))) :=
 (qah.u1.ok k x0 (retK T qah.res κ)).trans (by kernel_rfl)
theorem qah.code : qah.c.code = zz Tryd.f37 := by kernel_rfl
noncomputable def qan.c : IC := qan.u1.c
noncomputable def qan.res : List ResultVar := [(.tmp 2)]
theorem qan.u1.ok (k : Nat) (x0 : TX) (K : KF α) :
  eC k qan.u1.c (fr11 x0) K =
   qan.u1.f k x0 (fun y0 => K .ret (fr18 y0)) := by kernel_rfl
theorem qan.ok (k : Nat) (x0 : TX) (κ : Res->M α) :
  evF T (env k) k qan.c qan.res [.str x0] κ = qan.f (k + 1) x0 (fun o0 => κ (.ret (.bool o0))) :=
 (qan.u1.ok k x0 (retK T qan.res κ)).trans (by kernel_rfl)
theorem qan.code : qan.c.code = zz Tryd.f76 := by kernel_rfl
noncomputable def qaa.c : IC := qaa.u1.c
noncomputable def qaa.res : List ResultVar := []
theorem qaa.u1.ok (k : Nat) (x0 : Ad) (x1 : TX) (K : KF α) :
  eC k qaa.u1.c (za [(0, .ptr (some x0)), (1, .str x1)]) K =
   qaa.u1.f k x0 x1 (K .normal (za [])) (fun v => K (.pan v) (za [])) := by kernel_rfl
theorem qaa.ok (k : Nat) (x0 : Ad) (x1 : TX) (κ : Res->M α) :
  evF T (env k) k qaa.c qaa.res [.ptr (some x0), .str x1] κ = qaa.f (k + 1) x0 x1 (fun v => κ (.pan v)) (κ (.ret (.tuple []))) :=
 (qaa.u1.ok k x0 x1 (retK T qaa.res κ)).trans (by kernel_rfl)
theorem qaa.code : qaa.c.code = zz Tryd.f80 := by kernel_rfl
noncomputable def qag.c : IC := qag.u1.c
noncomputable def qag.res : List ResultVar := [(.tmp 4)]
theorem qag.u1.ok (k : Nat) (x0 : Ad) (x1 : TX) (K : KF α) :
  eC k qag.u1.c (za [(0, .ptr (some x0)), (1, .str x1)]) K =
   qag.u1.f k x0 x1 (fun y0 => K .ret (fr22 y0)) (fun v => K (.pan v) (za [])) := by kernel_rfl
theorem qag.ok (k : Nat) (x0 : Ad) (x1 : TX) (κ : Res->M α) :
  evF T (env k) k qag.c qag.res [.ptr (some x0), .str x1] κ = qag.f (k + 1) x0 x1 (fun v => κ (.pan v)) (fun o0 => κ (.ret (.str o0))) :=
 (qag.u1.ok k x0 x1 (retK T qag.res κ)).trans (by kernel_rfl)
theorem qag.code : qag.c.code = zz Tryd.f79 := by kernel_rfl
noncomputable def qz.c : IC := qz.u1.c
noncomputable def qz.res : List ResultVar := [(.tmp 2)]
theorem qz.u1.ok (k : Nat) (x0 : Ad) (K : KF α) :
  eC k qz.u1.c (za [(0, .ptr (some x0))]) K =
   qz.u1.f k (qv.f k) x0 (fun y0 => K .ret (fr3 y0)) (fun v => K (.pan v) (za [])) := by kernel_rfl
theorem qz.ok (k : Nat) (x0 : Ad) (κ : Res->M α) :
  evF T (env k) k qz.c qz.res [.ptr (some x0)] κ = qz.f (k + 1) x0 (fun v => κ (.pan v)) (fun o0 => κ (.ret (.int .i64 o0))) :=
 (qz.u1.ok k x0 (retK T qz.res κ)).trans (by kernel_rfl)
theorem qz.code : qz.c.code = zz Tryd.f36 := by kernel_rfl
noncomputable def qv.c : IC := qv.u7.c
noncomputable def qv.res : List ResultVar := [(.tmp 8)]
theorem qv.u1.ok (k : Nat) (x0 : Ad) (x1 : TX) (x2 : Int) (x3 : V) (R : IC) (K : KF α) :
  eC k (qv.u1.c R) (za [(0, .ptr (some x0)), (1, .str x1), (2, .int .i64 x2), (3, x3)]) K =
   qv.u1.f k (qae.f k) (qg.f k) x0 x1 x2 x3 (fun y0 y1 y2 y3 y4 => eC k R (za [(0, .ptr (some y0)), (1, .str y1), (2, .int .i64 y2), (3, y3), (9, .int .i64 y4)]) K) (fun v => K (.pan v) (za [])) := by kernel_rfl
theorem qv.u2.ok (k : Nat) (x0 : Ad) (x1 : TX) (x2 : Int) (x3 : V) (x4 : Int) (K : KF α) :
  eC k qv.u2.c (za [(0, .ptr (some x0)), (1, .str x1), (2, .int .i64 x2), (3, x3), (9, .int .i64 x4)]) K =
   qv.u2.f k (qae.f k) (qg.f k) x0 x1 x2 x3 x4 (fun y0 y1 y2 y3 y4 => K .normal (za [(0, .ptr (some y0)), (1, .str y1), (2, .int .i64 y2), (3, y3), (9, .int .i64 y4)])) (fun y0 => K (.exit 0) (fr23 y0)) (fun v => K (.pan v) (za [])) := by kernel_rfl
theorem qv.u3.ls (k : Nat) (rr55 : Ad->(V->M α)->(Int->M α)->M α) (rr72 : Ad->(V->M α)->(Int->M α)->M α) (kx0 : Int->M α) (kp : V->M α) (j : Nat) (x0 : Ad) (x1 : TX) (x2 : Int) (x3 : V) (x4 : Int) : qv.u3.l k rr55 rr72 kx0 kp (j + 1) x0 x1 x2 x3 x4 =
 qv.u2.f k rr55 rr72 x0 x1 x2 x3 x4 (fun y0 y1 y2 y3 y4 => qv.u3.l k rr55 rr72 kx0 kp j y0 y1 y2 y3 y4) kx0 kp := rfl
theorem qv.u3.okl (k : Nat) (K : KF α) : ∀ (j : Nat) (x0 : Ad) (x1 : TX) (x2 : Int) (x3 : V) (x4 : Int),
  zw (eC k qv.u2.c) [0, 1, 2, 3, 9] j (za [(0, .ptr (some x0)), (1, .str x1), (2, .int .i64 x2), (3, x3), (9, .int .i64 x4)]) K = qv.u3.l k (qae.f k) (qg.f k) (fun y0 => K (.exit 0) (fr23 y0)) (fun v => K (.pan v) (za [])) j x0 x1 x2 x3 x4
 | 0, _, _, _, _, _ => rfl
 | j + 1, x0, x1, x2, x3, x4 => by
   have h := qv.u2.ok k x0 x1 x2 x3 x4 (seqK (fun ρ => zw (eC k qv.u2.c) [0, 1, 2, 3, 9] j ρ K) K)
   simp only [zh, zj, zk, zf, qv.u3.okl k K j] at h
   exact (ja (by kernel_rfl) h).trans (qv.u3.ls k (qae.f k) (qg.f k) (fun y0 => K (.exit 0) (fr23 y0)) (fun v => K (.pan v) (za [])) j x0 x1 x2 x3 x4).symm
theorem qv.u3.ok (k : Nat) (x0 : Ad) (x1 : TX) (x2 : Int) (x3 : V) (x4 : Int) (K : KF α) :
  eC k qv.u3.c (za [(0, .ptr (some x0)), (1, .str x1), (2, .int .i64 x2), (3, x3), (9, .int .i64 x4)]) K =
   qv.u3.f k (qae.f k) (qg.f k) x0 x1 x2 x3 x4 (fun y0 => K (.exit 0) (fr23 y0)) (fun v => K (.pan v) (za [])) :=
 jy.trans <| (jb (body := eC k qv.u2.c) (keep := [0, 1, 2, 3, 9]) (ρ := (za [(0, .ptr (some x0)), (1, .str x1), (2, .int .i64 x2), (3, x3), (9, .int .i64 x4)])) (ρ' := (za [(0, .ptr (some x0)), (1, .str x1), (2, .int .i64 x2), (3, x3), (9, .int .i64 x4)])) (by kernel_rfl) k K).trans (qv.u3.okl k K k x0 x1 x2 x3 x4)
theorem qv.u4.ok (k : Nat) (x0 : Ad) (x1 : TX) (x2 : Int) (x3 : V) (x4 : Int) (K : KF α) :
  eC k qv.u4.c (za [(0, .ptr (some x0)), (1, .str x1), (2, .int .i64 x2), (3, x3), (9, .int .i64 x4)]) K =
   qv.u4.f k (qae.f k) (qg.f k) x0 x1 x2 x3 x4 (fun y0 => K .normal (fr23 y0)) (fun v => K (.pan v) (za [])) :=
 (zu.trans (qv.u3.ok k x0 x1 x2 x3 x4 (jt 0 K))).trans (by kernel_rfl)
theorem qv.u5.ok (k : Nat) (x0 : Int) (K : KF α) :
  eC k qv.u5.c (fr23 x0) K =
   qv.u5.f k x0 (fun y0 => K .ret (fr24 y0)) := by kernel_rfl
theorem qv.u6.ok (k : Nat) (x0 : Ad) (x1 : TX) (x2 : Int) (x3 : V) (x4 : Int) (K : KF α) :
  eC k qv.u6.c (za [(0, .ptr (some x0)), (1, .str x1), (2, .int .i64 x2), (3, x3), (9, .int .i64 x4)]) K =
   qv.u6.f k (qae.f k) (qg.f k) x0 x1 x2 x3 x4 (fun y0 => K .ret (fr24 y0)) (fun v => K (.pan v) (za [])) :=
 by
  have h := qv.u4.ok k x0 x1 x2 x3 x4 (seqK (fun ρ => eC k qv.u5.c ρ K) K)
  simp only [zf, zh, zj, zk, qv.u5.ok] at h
  exact zx h
theorem qv.u7.ok (k : Nat) (x0 : Ad) (x1 : TX) (x2 : Int) (x3 : V) (K : KF α) :
  eC k qv.u7.c (za [(0, .ptr (some x0)), (1, .str x1), (2, .int .i64 x2), (3, x3)]) K =
   qv.u7.f k (qae.f k) (qg.f k) x0 x1 x2 x3 (fun y0 => K .ret (fr24 y0)) (fun v => K (.pan v) (za [])) :=
 (qv.u1.ok k x0 x1 x2 x3 qv.u6.c K).trans
  (congrArg (fun z => qv.u1.f k (qae.f k) (qg.f k) x0 x1 x2 x3 z (fun v => K (.pan v) (za []))) (funext fun y0 => (funext fun y1 => (funext fun y2 => (funext fun y3 => (funext fun y4 => qv.u6.ok k y0 y1 y2 y3 y4 K))))))
theorem qv.ok (k : Nat) (x0 : Ad) (x1 : TX) (x2 : Int) (x3 : V) (κ : Res->M α) :
  evF T (env k) k qv.c qv.res [.ptr (some x0), .str x1, .int .i64 x2, x3] κ = qv.f (k + 1) x0 x1 x2 x3 (fun v => κ (.pan v)) (fun o0 => κ (.ret (.int .i64 o0))) :=
 (qv.u7.ok k x0 x1 x2 x3 (retK T qv.res κ)).trans (by kernel_rfl)
theorem qv.code : qv.c.code = zz Tryd.f54 := by kernel_rfl
noncomputable def qae.c : IC := qae.u1.c
noncomputable def qae.res : List ResultVar := [(.tmp 2)]
theorem qae.u1.ok (k : Nat) (x0 : Ad) (K : KF α) :
  eC k qae.u1.c (za [(0, .ptr (some x0))]) K =
   qae.u1.f k (qv.f k) x0 (fun y0 => K .ret (fr3 y0)) (fun v => K (.pan v) (za [])) := by kernel_rfl
theorem qae.ok (k : Nat) (x0 : Ad) (κ : Res->M α) :
  evF T (env k) k qae.c qae.res [.ptr (some x0)] κ = qae.f (k + 1) x0 (fun v => κ (.pan v)) (fun o0 => κ (.ret (.int .i64 o0))) :=
 (qae.u1.ok k x0 (retK T qae.res κ)).trans (by kernel_rfl)
theorem qae.code : qae.c.code = zz Tryd.f55 := by kernel_rfl
noncomputable def qg.c : IC := qg.u18.c
noncomputable def qg.res : List ResultVar := [(.tmp 2)]
theorem qg.u1.ok (k : Nat) (x0 : Ad) (R : IC) (K : KF α) :
  eC k (qg.u1.c R) (za [(0, .ptr (some x0))]) K =
   qg.u1.f k x0 (fun y0 => eC k R (za [(0, .ptr (some y0))]) K) := by kernel_rfl
theorem qg.u2.ok (k : Nat) (x0 : Ad) (R : IC) (K : KF α) :
  eC k (qg.u2.c R) (za [(0, .ptr (some x0))]) K =
   qg.u2.f k x0 (fun y0 y1 => eC k R (za [(0, .ptr (some y0)), (10, .bool y1)]) K) := by kernel_rfl
theorem qg.u3.ok (k : Nat) (x0 : Ad) (x1 : Bool) (K : KF α) :
  eC k qg.u3.c (za [(0, .ptr (some x0)), (10, .bool x1)]) K =
   qg.u3.f k (qg.f k) x0 x1 (fun y0 => K .ret (fr3 y0)) (fun v => K (.pan v) (za [])) := by kernel_rfl
theorem qg.u4.ok (k : Nat) (x0 : Ad) (x1 : Bool) (R : IC) (K : KF α) :
  eC k (qg.u4.c R) (za [(0, .ptr (some x0)), (10, .bool x1)]) K =
   qg.u4.f k x0 x1 (fun y0 y1 => eC k R (za [(0, .ptr (some y0)), (22, .bool y1)]) K) := by kernel_rfl
theorem qg.u5.ok (k : Nat) (x0 : Ad) (x1 : Bool) (K : KF α) :
  eC k qg.u5.c (za [(0, .ptr (some x0)), (22, .bool x1)]) K =
   qg.u5.f k (qg.f k) x0 x1 (fun y0 => K .ret (fr3 y0)) (fun v => K (.pan v) (za [])) := by kernel_rfl
theorem qg.u6.ok (k : Nat) (x0 : Ad) (x1 : Bool) (R : IC) (K : KF α) :
  eC k (qg.u6.c R) (za [(0, .ptr (some x0)), (22, .bool x1)]) K =
   qg.u6.f k x0 x1 (fun y0 y1 => eC k R (za [(0, .ptr (some y0)), (37, .bool y1)]) K) := by kernel_rfl
theorem qg.u7.ok (k : Nat) (x0 : Ad) (x1 : Bool) (K : KF α) :
  eC k qg.u7.c (za [(0, .ptr (some x0)), (37, .bool x1)]) K =
   qg.u7.f k (qg.f k) x0 x1 (fun y0 => K .ret (fr3 y0)) (fun v => K (.pan v) (za [])) := by kernel_rfl
theorem qg.u8.ok (k : Nat) (x0 : Ad) (x1 : Bool) (K : KF α) :
  eC k qg.u8.c (za [(0, .ptr (some x0)), (37, .bool x1)]) K =
   qg.u8.f k (qz.f k) (qw.f k) x0 x1 (fun y0 => K .normal (za [(0, .ptr (some y0))])) (fun y0 => K .ret (fr3 y0)) (fun v => K (.pan v) (za [])) := by kernel_rfl
theorem qg.u9.ok (k : Nat) (x0 : Ad) (x1 : Bool) (K : KF α) :
  eC k qg.u9.c (za [(0, .ptr (some x0)), (37, .bool x1)]) K =
   qg.u9.f k (qg.f k) (qz.f k) (qw.f k) x0 x1 (fun y0 => K .normal (za [(0, .ptr (some y0))])) (fun y0 => K .ret (fr3 y0)) (fun v => K (.pan v) (za [])) :=
 jw (g := x1) (by kernel_rfl) (qg.u7.ok k x0 x1 K) (qg.u8.ok k x0 x1 K)
theorem qg.u10.ok (k : Nat) (x0 : Ad) (x1 : Bool) (K : KF α) :
  eC k qg.u10.c (za [(0, .ptr (some x0)), (22, .bool x1)]) K =
   qg.u10.f k (qg.f k) (qz.f k) (qw.f k) x0 x1 (fun y0 => K .normal (za [(0, .ptr (some y0))])) (fun y0 => K .ret (fr3 y0)) (fun v => K (.pan v) (za [])) :=
 (qg.u6.ok k x0 x1 qg.u9.c K).trans
  (congrArg (fun z => qg.u6.f k x0 x1 z) (funext fun y0 => (funext fun y1 => qg.u9.ok k y0 y1 K)))
theorem qg.u11.ok (k : Nat) (x0 : Ad) (x1 : Bool) (K : KF α) :
  eC k qg.u11.c (za [(0, .ptr (some x0)), (22, .bool x1)]) K =
   qg.u11.f k (qg.f k) (qz.f k) (qw.f k) x0 x1 (fun y0 => K .normal (za [(0, .ptr (some y0))])) (fun y0 => K .ret (fr3 y0)) (fun v => K (.pan v) (za [])) :=
 jw (g := x1) (by kernel_rfl) (qg.u5.ok k x0 x1 K) (qg.u10.ok k x0 x1 K)
theorem qg.u12.ok (k : Nat) (x0 : Ad) (x1 : Bool) (K : KF α) :
  eC k qg.u12.c (za [(0, .ptr (some x0)), (10, .bool x1)]) K =
   qg.u12.f k (qg.f k) (qz.f k) (qw.f k) x0 x1 (fun y0 => K .normal (za [(0, .ptr (some y0))])) (fun y0 => K .ret (fr3 y0)) (fun v => K (.pan v) (za [])) :=
 (qg.u4.ok k x0 x1 qg.u11.c K).trans
  (congrArg (fun z => qg.u4.f k x0 x1 z) (funext fun y0 => (funext fun y1 => qg.u11.ok k y0 y1 K)))
theorem qg.u13.ok (k : Nat) (x0 : Ad) (x1 : Bool) (K : KF α) :
  eC k qg.u13.c (za [(0, .ptr (some x0)), (10, .bool x1)]) K =
   qg.u13.f k (qg.f k) (qz.f k) (qw.f k) x0 x1 (fun y0 => K .normal (za [(0, .ptr (some y0))])) (fun y0 => K .ret (fr3 y0)) (fun v => K (.pan v) (za [])) :=
 jw (g := x1) (by kernel_rfl) (qg.u3.ok k x0 x1 K) (qg.u12.ok k x0 x1 K)
theorem qg.u14.ok (k : Nat) (x0 : Ad) (K : KF α) :
  eC k qg.u14.c (za [(0, .ptr (some x0))]) K =
   qg.u14.f k (qg.f k) (qz.f k) (qw.f k) x0 (fun y0 => K .normal (za [(0, .ptr (some y0))])) (fun y0 => K .ret (fr3 y0)) (fun v => K (.pan v) (za [])) :=
 (qg.u2.ok k x0 qg.u13.c K).trans
  (congrArg (fun z => qg.u2.f k x0 z) (funext fun y0 => (funext fun y1 => qg.u13.ok k y0 y1 K)))
theorem qg.u15.ok (k : Nat) (x0 : Ad) (K : KF α) :
  eC k qg.u15.c (za [(0, .ptr (some x0))]) K =
   qg.u15.f k (qg.f k) (qz.f k) (qw.f k) x0 (fun y0 => K .normal (za [(0, .ptr (some y0))])) (fun y0 => K .ret (fr3 y0)) (fun v => K (.pan v) (za [])) :=
 (zu.trans (qg.u14.ok k x0 (jt 0 K))).trans (by kernel_rfl)
theorem qg.u16.ok (k : Nat) (x0 : Ad) (K : KF α) :
  eC k qg.u16.c (za [(0, .ptr (some x0))]) K =
   qg.u16.f k x0 (fun y0 => K .ret (fr3 y0)) (fun v => K (.pan v) (za [])) := by kernel_rfl
theorem qg.u17.ok (k : Nat) (x0 : Ad) (K : KF α) :
  eC k qg.u17.c (za [(0, .ptr (some x0))]) K =
   qg.u17.f k (qg.f k) (qz.f k) (qw.f k) x0 (fun y0 => K .ret (fr3 y0)) (fun v => K (.pan v) (za [])) :=
 by
  have h := qg.u15.ok k x0 (seqK (fun ρ => eC k qg.u16.c ρ K) K)
  simp only [zf, zh, zj, zk, qg.u16.ok] at h
  exact zx h
theorem qg.u18.ok (k : Nat) (x0 : Ad) (K : KF α) :
  eC k qg.u18.c (za [(0, .ptr (some x0))]) K =
   qg.u18.f k (qg.f k) (qz.f k) (qw.f k) x0 (fun y0 => K .ret (fr3 y0)) (fun v => K (.pan v) (za [])) :=
 (qg.u1.ok k x0 qg.u17.c K).trans
  (congrArg (fun z => qg.u1.f k x0 z) (funext fun y0 => qg.u17.ok k y0 K))
theorem qg.ok (k : Nat) (x0 : Ad) (κ : Res->M α) :
  evF T (env k) k qg.c qg.res [.ptr (some x0)] κ = qg.f (k + 1) x0 (fun v => κ (.pan v)) (fun o0 => κ (.ret (.int .i64 o0))) :=
 (qg.u18.ok k x0 (retK T qg.res κ)).trans (by kernel_rfl)
theorem qg.code : qg.c.code = zz Tryd.f72 := by kernel_rfl
noncomputable def qw.c : IC := qw.u5.c
noncomputable def qw.res : List ResultVar := [(.tmp 2)]
theorem qw.u1.ok (k : Nat) (x0 : Ad) (R : IC) (K : KF α) :
  eC k (qw.u1.c R) (za [(0, .ptr (some x0))]) K =
   qw.u1.f k x0 (fun y0 y1 y2 => eC k R (za [(0, .ptr (some y0)), (3, .ptr (some y1)), (4, .int .i64 y2)]) K) (fun y0 => K .ret (fr3 y0)) (fun v => K (.pan v) (za [])) := by kernel_rfl
theorem qw.u2.ok (k : Nat) (x0 x1 : Ad) (x2 : Int) (R : IC) (K : KF α) :
  eC k (qw.u2.c R) (za [(0, .ptr (some x0)), (3, .ptr (some x1)), (4, .int .i64 x2)]) K =
   qw.u2.f k x0 x1 x2 (fun y0 y1 y2 => eC k R (za [(0, .ptr (some y0)), (3, .ptr (some y1)), (4, .int .i64 y2)]) K) (fun v => K (.pan v) (za [])) := by kernel_rfl
theorem qw.u3.ok (k : Nat) (x0 x1 : Ad) (x2 : Int) (K : KF α) :
  eC k qw.u3.c (za [(0, .ptr (some x0)), (3, .ptr (some x1)), (4, .int .i64 x2)]) K =
   qw.u3.f k (qz.f k) x0 x1 x2 (fun y0 => K .ret (fr3 y0)) (fun v => K (.pan v) (za [])) := by kernel_rfl
theorem qw.u4.ok (k : Nat) (x0 x1 : Ad) (x2 : Int) (K : KF α) :
  eC k qw.u4.c (za [(0, .ptr (some x0)), (3, .ptr (some x1)), (4, .int .i64 x2)]) K =
   qw.u4.f k (qz.f k) x0 x1 x2 (fun y0 => K .ret (fr3 y0)) (fun v => K (.pan v) (za [])) :=
 (qw.u2.ok k x0 x1 x2 qw.u3.c K).trans
  (congrArg (fun z => qw.u2.f k x0 x1 x2 z (fun v => K (.pan v) (za []))) (funext fun y0 => (funext fun y1 => (funext fun y2 => qw.u3.ok k y0 y1 y2 K))))
theorem qw.u5.ok (k : Nat) (x0 : Ad) (K : KF α) :
  eC k qw.u5.c (za [(0, .ptr (some x0))]) K =
   qw.u5.f k (qz.f k) x0 (fun y0 => K .ret (fr3 y0)) (fun v => K (.pan v) (za [])) :=
 (qw.u1.ok k x0 qw.u4.c K).trans
  (congrArg (fun z => qw.u1.f k x0 z (fun y0 => K .ret (fr3 y0)) (fun v => K (.pan v) (za []))) (funext fun y0 => (funext fun y1 => (funext fun y2 => qw.u4.ok k y0 y1 y2 K))))
theorem qw.ok (k : Nat) (x0 : Ad) (κ : Res->M α) :
  evF T (env k) k qw.c qw.res [.ptr (some x0)] κ = qw.f (k + 1) x0 (fun v => κ (.pan v)) (fun o0 => κ (.ret (.int .i64 o0))) :=
 (qw.u5.ok k x0 (retK T qw.res κ)).trans (by kernel_rfl)
theorem qw.code : qw.c.code = zz Tryd.f81 := by kernel_rfl
noncomputable def qx.res : List ResultVar := [(.cell 2 22), (.cell 3 36)]
theorem qx.sp (k : Nat) (x0 : TX) (K : KF α) (Kn : Frame->M α) :
  zij T (env k) k qx.as (fr11 x0) K Kn = qx.u1.f k x0 (fun y0 y1 y2 => Kn (za [(2, .ptr (some y0)), (3, .ptr (some y1)), (4, .slice y2)])) (fun y0 y1 => K .ret (za [(2, .ptr (some y0)), (3, .ptr (some y1))])) := by kernel_rfl
theorem qx.bok (k : Nat) (y0 : Ad) (y1 : Ad) (y2 : Sl) (K : KF α) :
  eC k qx.u2.c (Frame.put (za [(2, .ptr (some y0)), (3, .ptr (some y1)), (4, .slice y2)]) (some 14) (.func 33 [] [.ptr (some y0), .ptr (some y1)])) K = qx.u2.f k y0 y1 y2 (fun z0 z1 => K .ret (za [(2, .ptr (some z0)), (3, .ptr (some z1))])) (fun v => K (.pan v) (za [])) := by kernel_rfl
theorem qx.ret (k : Nat) (y0 : Ad) (y1 : Ad) (y2 : Sl) (z0 : Ad) (z1 : Ad) (κ : Res->M α) :
  (deferB T (env k) k qx.C.u1.c 5 [2, 3] qx.res [.ptr (some y0), .ptr (some y1)] (za [(2, .ptr (some y0)), (3, .ptr (some y1)), (4, .slice y2)]) κ) .ret (za [(2, .ptr (some z0)), (3, .ptr (some z1))]) = qx.C.u1.f k y0 y1 .nilIface (
 ldS (z0.add 0) fun o501 =>
 ld (z1.add 0) fun o502 =>
 (fun o0 o1 => κ (.ret (.tuple [.slice o0, o1]))) o501 o502) := by kernel_rfl
theorem qx.pan (k : Nat) (y0 : Ad) (y1 : Ad) (y2 : Sl) (v : V) (ρ : Frame) (κ : Res->M α) :
  (deferB T (env k) k qx.C.u1.c 5 [2, 3] qx.res [.ptr (some y0), .ptr (some y1)] (za [(2, .ptr (some y0)), (3, .ptr (some y1)), (4, .slice y2)]) κ) (.pan v) ρ = qx.C.u1.f k y0 y1 v (
 ldS (y0.add 0) fun o501 =>
 ld (y1.add 0) fun o502 =>
 (fun o0 o1 => κ (.ret (.tuple [.slice o0, o1]))) o501 o502) := by kernel_rfl
theorem qx.reta (y0 : Ad) (y1 : Ad) (κ : Res->M α) :
  deferA T qx.res κ .ret (za [(2, .ptr (some y0)), (3, .ptr (some y1))]) = (
 ldS (y0.add 0) fun o501 =>
 ld (y1.add 0) fun o502 =>
 (fun o0 o1 => κ (.ret (.tuple [.slice o0, o1]))) o501 o502) := by kernel_rfl
theorem qx.ok (k : Nat) (x0 : TX) (κ : Res->M α) :
  zmk T (env k) k qx.as qx.u2.c qx.C.u1.c 33 14 5 [.tmp 2, .tmp 3] [2, 3] qx.res [.str x0] κ = qx.f (k + 1) x0 (fun o0 o1 => κ (.ret (.tuple [.slice o0, o1]))) :=
 (qx.sp k x0 _ _).trans (congr (congrArg (fun a b => qx.u1.f k x0 a b) (funext fun y0 => funext fun y1 => funext fun y2 => (qx.bok k y0 y1 y2 _).trans (congr (congrArg (fun a b => qx.u2.f k y0 y1 y2 a b) (funext fun z0 => funext fun z1 => qx.ret k y0 y1 y2 z0 z1 κ)) (funext fun v => qx.pan k y0 y1 y2 v _ κ)))) (funext fun y0 => funext fun y1 => qx.reta y0 y1 κ))
noncomputable def qaw.c : IC := qaw.u1.c
noncomputable def qaw.res : List ResultVar := [(.tmp 2)]
theorem qaw.u1.ok (k : Nat) (x0 x1 x2 : Int) (x3 : TX) (x4 : Int) (K : KF α) :
  eC k qaw.u1.c (za [(0, .agg [.int .i64 x0, .int .i64 x1, .int .i64 x2, .str x3, .int .i64 x4])]) K =
   qaw.u1.f k x0 x1 x2 x3 x4 (fun y0 => K .ret (fr18 y0)) := by kernel_rfl
theorem qaw.ok (k : Nat) (x0 x1 x2 : Int) (x3 : TX) (x4 : Int) (κ : Res->M α) :
  evF T (env k) k qaw.c qaw.res [.agg [.int .i64 x0, .int .i64 x1, .int .i64 x2, .str x3, .int .i64 x4]] κ = qaw.f (k + 1) x0 x1 x2 x3 x4 (fun o0 => κ (.ret (.bool o0))) :=
 (qaw.u1.ok k x0 x1 x2 x3 x4 (retK T qaw.res κ)).trans (by kernel_rfl)
theorem qaw.code : qaw.c.code = zz Tryd.f27 := by kernel_rfl
noncomputable def qo.c : IC := qo.u9.c
noncomputable def qo.res : List ResultVar := [(.tmp 4)]
theorem qo.u1.ok (k : Nat) (x0 : Sl) (R : IC) (K : KF α) :
  eC k (qo.u1.c R) (za [(0, .slice x0), (1, .func 27 [] [])]) K =
   qo.u1.f k x0 (fun y0 => eC k R (za [(0, .slice y0), (1, .func 27 [] [])]) K) := by kernel_rfl
theorem qo.u2.ok (k : Nat) (x0 : Sl) (R : IC) (K : KF α) :
  eC k (qo.u2.c R) (za [(0, .slice x0), (1, .func 27 [] [])]) K =
   qo.u2.f k x0 (fun y0 y1 y2 => eC k R (za [(0, .slice y0), (1, .func 27 [] []), (7, .int .i64 y1), (8, .int .i64 y2)]) K) := by kernel_rfl
theorem qo.u3.ok (k : Nat) (x0 : Sl) (x1 x2 : Int) (K : KF α) :
  eC k qo.u3.c (za [(0, .slice x0), (1, .func 27 [] []), (7, .int .i64 x1), (8, .int .i64 x2)]) K =
   qo.u3.f k x0 x1 x2 (fun y0 y1 y2 => K .normal (za [(0, .slice y0), (1, .func 27 [] []), (7, .int .i64 y1), (8, .int .i64 y2)])) (fun y0 => K .ret (fr1 y0)) (K (.exit 0) (za [])) := by kernel_rfl
theorem qo.u4.ls (k : Nat) (kr : Int->M α) (kx0 : M α) (j : Nat) (x0 : Sl) (x1 x2 : Int) : qo.u4.l k kr kx0 (j + 1) x0 x1 x2 =
 qo.u3.f k x0 x1 x2 (fun y0 y1 y2 => qo.u4.l k kr kx0 j y0 y1 y2) kr kx0 := rfl
theorem qo.u4.okl (k : Nat) (K : KF α) : ∀ (j : Nat) (x0 : Sl) (x1 x2 : Int),
  zw (eC k qo.u3.c) [0, 1, 7, 8] j (za [(0, .slice x0), (1, .func 27 [] []), (7, .int .i64 x1), (8, .int .i64 x2)]) K = qo.u4.l k (fun y0 => K .ret (fr1 y0)) (K (.exit 0) (za [])) j x0 x1 x2
 | 0, _, _, _ => rfl
 | j + 1, x0, x1, x2 => by
   have h := qo.u3.ok k x0 x1 x2 (seqK (fun ρ => zw (eC k qo.u3.c) [0, 1, 7, 8] j ρ K) K)
   simp only [zh, zj, zk, zf, qo.u4.okl k K j] at h
   exact (ja (by kernel_rfl) h).trans (qo.u4.ls k (fun y0 => K .ret (fr1 y0)) (K (.exit 0) (za [])) j x0 x1 x2).symm
theorem qo.u4.ok (k : Nat) (x0 : Sl) (x1 x2 : Int) (K : KF α) :
  eC k qo.u4.c (za [(0, .slice x0), (1, .func 27 [] []), (7, .int .i64 x1), (8, .int .i64 x2)]) K =
   qo.u4.f k x0 x1 x2 (fun y0 => K .ret (fr1 y0)) (K (.exit 0) (za [])) :=
 jy.trans <| (jb (body := eC k qo.u3.c) (keep := [0, 1, 7, 8]) (ρ := (za [(0, .slice x0), (1, .func 27 [] []), (7, .int .i64 x1), (8, .int .i64 x2)])) (ρ' := (za [(0, .slice x0), (1, .func 27 [] []), (7, .int .i64 x1), (8, .int .i64 x2)])) (by kernel_rfl) k K).trans (qo.u4.okl k K k x0 x1 x2)
theorem qo.u5.ok (k : Nat) (x0 : Sl) (x1 x2 : Int) (K : KF α) :
  eC k qo.u5.c (za [(0, .slice x0), (1, .func 27 [] []), (7, .int .i64 x1), (8, .int .i64 x2)]) K =
   qo.u5.f k x0 x1 x2 (K .normal (za [])) (fun y0 => K .ret (fr1 y0)) :=
 (zu.trans (qo.u4.ok k x0 x1 x2 (jt 0 K))).trans (by kernel_rfl)
theorem qo.u6.ok (k : Nat) (x0 : Sl) (K : KF α) :
  eC k qo.u6.c (za [(0, .slice x0), (1, .func 27 [] [])]) K =
   qo.u6.f k x0 (K .normal (za [])) (fun y0 => K .ret (fr1 y0)) :=
 (qo.u2.ok k x0 qo.u5.c K).trans
  (congrArg (fun z => qo.u2.f k x0 z) (funext fun y0 => (funext fun y1 => (funext fun y2 => qo.u5.ok k y0 y1 y2 K))))
theorem qo.u7.ok (k : Nat) (K : KF α) :
  eC k qo.u7.c (za []) K =
   qo.u7.f k (fun y0 => K .ret (fr1 y0)) := by kernel_rfl
theorem qo.u8.ok (k : Nat) (x0 : Sl) (K : KF α) :
  eC k qo.u8.c (za [(0, .slice x0), (1, .func 27 [] [])]) K =
   qo.u8.f k x0 (fun y0 => K .ret (fr1 y0)) :=
 by
  have h := qo.u6.ok k x0 (seqK (fun ρ => eC k qo.u7.c ρ K) K)
  simp only [zf, zh, zj, zk, qo.u7.ok] at h
  exact zx h
theorem qo.u9.ok (k : Nat) (x0 : Sl) (K : KF α) :
  eC k qo.u9.c (za [(0, .slice x0), (1, .func 27 [] [])]) K =
   qo.u9.f k x0 (fun y0 => K .ret (fr1 y0)) :=
 (qo.u1.ok k x0 qo.u8.c K).trans
  (congrArg (fun z => qo.u1.f k x0 z) (funext fun y0 => qo.u8.ok k y0 K))
theorem qo.ok (k : Nat) (x0 : Sl) (κ : Res->M α) :
  evF T (env k) k qo.c qo.res [.slice x0, .func 27 [] []] κ = qo.f (k + 1) x0 (fun o0 => κ (.ret (.int .i64 o0))) :=
 (qo.u9.ok k x0 (retK T qo.res κ)).trans (by kernel_rfl)
theorem qo.code : qo.c.code = zz Tryd.f43 := by kernel_rfl
noncomputable def qav.c : IC := qav.u1.c
noncomputable def qav.res : List ResultVar := [(.tmp 4)]
theorem qav.u1.ok (k : Nat) (x0 : Sl) (K : KF α) :
  eC k qav.u1.c (za [(0, .slice x0), (1, .func 27 [] [])]) K =
   qav.u1.f k x0 (fun y0 => K .ret (fr21 y0)) := by kernel_rfl
theorem qav.ok (k : Nat) (x0 : Sl) (κ : Res->M α) :
  evF T (env k) k qav.c qav.res [.slice x0, .func 27 [] []] κ = qav.f (k + 1) x0 (fun o0 => κ (.ret (.bool o0))) :=
 (qav.u1.ok k x0 (retK T qav.res κ)).trans (by kernel_rfl)
theorem qav.code : qav.c.code = zz Tryd.f26 := by kernel_rfl
noncomputable def qak.c : IC := qak.u1.c
noncomputable def qak.res : List ResultVar := [(.tmp 2)]
theorem qak.u1.ok (k : Nat) (x0 : Sl) (K : KF α) :
  eC k qak.u1.c (fr25 x0) K =
   qak.u1.f k x0 (fun y0 => K .ret (fr26 y0)) := by kernel_rfl
theorem qak.ok (k : Nat) (x0 : Sl) (κ : Res->M α) :
  evF T (env k) k qak.c qak.res [.slice x0] κ = qak.f (k + 1) x0 (fun o0 => κ (.ret (.slice o0))) :=
 (qak.u1.ok k x0 (retK T qak.res κ)).trans (by kernel_rfl)
theorem qak.code : qak.c.code = zz Tryd.f42 := by kernel_rfl
noncomputable def qt.c : IC := qt.u9.c
noncomputable def qt.res : List ResultVar := [(.tmp 6)]
theorem qt.u1.ok (k : Nat) (x0 : TX) (x1 x2 : Int) (R : IC) (K : KF α) :
  eC k (qt.u1.c R) (fr27 x0 x1 x2) K =
   qt.u1.f k x0 x1 x2 (fun y0 => eC k R (fr11 y0) K) (fun y0 => K .ret (fr28 y0)) := by kernel_rfl
theorem qt.u2.ok (k : Nat) (x0 : TX) (R : IC) (K : KF α) :
  eC k (qt.u2.c R) (fr11 x0) K =
   qt.u2.f k x0 (fun y0 y1 y2 => eC k R (fr29 y0 y1 y2) K) := by kernel_rfl
theorem qt.u3.ok (k : Nat) (x0 : TX) (x1 x2 : Int) (K : KF α) :
  eC k qt.u3.c (fr29 x0 x1 x2) K =
   qt.u3.f k x0 x1 x2 (fun y0 y1 y2 => K .normal (fr29 y0 y1 y2)) (fun y0 => K .ret (fr28 y0)) (K (.exit 0) (za [])) := by kernel_rfl
theorem qt.u4.ls (k : Nat) (kr : Bool->M α) (kx0 : M α) (j : Nat) (x0 : TX) (x1 x2 : Int) : qt.u4.l k kr kx0 (j + 1) x0 x1 x2 =
 qt.u3.f k x0 x1 x2 (fun y0 y1 y2 => qt.u4.l k kr kx0 j y0 y1 y2) kr kx0 := rfl
theorem qt.u4.okl (k : Nat) (K : KF α) : ∀ (j : Nat) (x0 : TX) (x1 x2 : Int),
  zw (eC k qt.u3.c) [0, 30, 31] j (fr29 x0 x1 x2) K = qt.u4.l k (fun y0 => K .ret (fr28 y0)) (K (.exit 0) (za [])) j x0 x1 x2
 | 0, _, _, _ => rfl
 | j + 1, x0, x1, x2 => by
   have h := qt.u3.ok k x0 x1 x2 (seqK (fun ρ => zw (eC k qt.u3.c) [0, 30, 31] j ρ K) K)
   simp only [zh, zj, zk, zf, qt.u4.okl k K j] at h
   exact (ja (by kernel_rfl) h).trans (qt.u4.ls k (fun y0 => K .ret (fr28 y0)) (K (.exit 0) (za [])) j x0 x1 x2).symm
theorem qt.u4.ok (k : Nat) (x0 : TX) (x1 x2 : Int) (K : KF α) :
  eC k qt.u4.c (fr29 x0 x1 x2) K =
   qt.u4.f k x0 x1 x2 (fun y0 => K .ret (fr28 y0)) (K (.exit 0) (za [])) :=
 jy.trans <| (jb (body := eC k qt.u3.c) (keep := [0, 30, 31]) (ρ := (fr29 x0 x1 x2)) (ρ' := (fr29 x0 x1 x2)) (by kernel_rfl) k K).trans (qt.u4.okl k K k x0 x1 x2)
theorem qt.u5.ok (k : Nat) (x0 : TX) (x1 x2 : Int) (K : KF α) :
  eC k qt.u5.c (fr29 x0 x1 x2) K =
   qt.u5.f k x0 x1 x2 (K .normal (za [])) (fun y0 => K .ret (fr28 y0)) :=
 (zu.trans (qt.u4.ok k x0 x1 x2 (jt 0 K))).trans (by kernel_rfl)
theorem qt.u6.ok (k : Nat) (x0 : TX) (K : KF α) :
  eC k qt.u6.c (fr11 x0) K =
   qt.u6.f k x0 (K .normal (za [])) (fun y0 => K .ret (fr28 y0)) :=
 (qt.u2.ok k x0 qt.u5.c K).trans
  (congrArg (fun z => qt.u2.f k x0 z) (funext fun y0 => (funext fun y1 => (funext fun y2 => qt.u5.ok k y0 y1 y2 K))))
theorem qt.u7.ok (k : Nat) (K : KF α) :
  eC k qt.u7.c (za []) K =
   qt.u7.f k (fun y0 => K .ret (fr28 y0)) := by kernel_rfl
theorem qt.u8.ok (k : Nat) (x0 : TX) (K : KF α) :
  eC k qt.u8.c (fr11 x0) K =
   qt.u8.f k x0 (fun y0 => K .ret (fr28 y0)) :=
 by
  have h := qt.u6.ok k x0 (seqK (fun ρ => eC k qt.u7.c ρ K) K)
  simp only [zf, zh, zj, zk, qt.u7.ok] at h
  exact zx h
theorem qt.u9.ok (k : Nat) (x0 : TX) (x1 x2 : Int) (K : KF α) :
  eC k qt.u9.c (fr27 x0 x1 x2) K =
   qt.u9.f k x0 x1 x2 (fun y0 => K .ret (fr28 y0)) :=
 (qt.u1.ok k x0 x1 x2 qt.u8.c K).trans
  (congrArg (fun z => qt.u1.f k x0 x1 x2 z (fun y0 => K .ret (fr28 y0))) (funext fun y0 => qt.u8.ok k y0 K))
theorem qt.ok (k : Nat) (x0 : TX) (x1 x2 : Int) (κ : Res->M α) :
  evF T (env k) k qt.c qt.res [.str x0, .int .u8 x1, .int .u8 x2] κ = qt.f (k + 1) x0 x1 x2 (fun o0 => κ (.ret (.bool o0))) :=
 (qt.u9.ok k x0 x1 x2 (retK T qt.res κ)).trans (by kernel_rfl)
theorem qt.code : qt.c.code = zz Tryd.f75 := by kernel_rfl
noncomputable def qaj.c : IC := qaj.u1.c
noncomputable def qaj.res : List ResultVar := [(.tmp 2)]
theorem qaj.u1.ok (k : Nat) (x0 : TX) (K : KF α) :
  eC k qaj.u1.c (fr11 x0) K =
   qaj.u1.f k x0 (fun y0 => K .ret (fr18 y0)) := by kernel_rfl
theorem qaj.ok (k : Nat) (x0 : TX) (κ : Res->M α) :
  evF T (env k) k qaj.c qaj.res [.str x0] κ = qaj.f (k + 1) x0 (fun o0 => κ (.ret (.bool o0))) :=
 (qaj.u1.ok k x0 (retK T qaj.res κ)).trans (by kernel_rfl)
theorem qaj.code : qaj.c.code = zz Tryd.f60 := by kernel_rfl
noncomputable def qad.c : IC := qad.u1.c
noncomputable def qad.res : List ResultVar := [(.tmp 2)]
theorem qad.u1.ok (k : Nat) (x0 : TX) (K : KF α) :
  eC k qad.u1.c (fr11 x0) K =
   qad.u1.f k x0 (fun y0 => K .ret (fr18 y0)) := by kernel_rfl
theorem qad.ok (k : Nat) (x0 : TX) (κ : Res->M α) :
  evF T (env k) k qad.c qad.res [.str x0] κ = qad.f (k + 1) x0 (fun o0 => κ (.ret (.bool o0))) :=
 (qad.u1.ok k x0 (retK T qad.res κ)).trans (by kernel_rfl)
theorem qad.code : qad.c.code = zz Tryd.f61 := by kernel_rfl
noncomputable def qas.c : IC := qas.u1.c
noncomputable def qas.res : List ResultVar := [(.tmp 2), (.tmp 3)]
theorem qas.u1.ok (k : Nat) (x0 x1 x2 : Int) (x3 : TX) (x4 : Int) (K : KF α) :
  eC k qas.u1.c (za [(0, .agg [.int .i64 x0, .int .i64 x1, .int .i64 x2, .str x3, .int .i64 x4])]) K =
   qas.u1.f k x0 x1 x2 x3 x4 (fun y0 y1 => K .ret (fr12 y0 y1)) := by kernel_rfl
theorem qas.ok (k : Nat) (x0 x1 x2 : Int) (x3 : TX) (x4 : Int) (κ : Res->M α) :
  evF T (env k) k qas.c qas.res [.agg [.int .i64 x0, .int .i64 x1, .int .i64 x2, .str x3, .int .i64 x4]] κ = qas.f (k + 1) x0 x1 x2 x3 x4 (fun o0 o1 => κ (.ret (.tuple [.int .i64 o0, .bool o1]))) :=
 (qas.u1.ok k x0 x1 x2 x3 x4 (retK T qas.res κ)).trans (by kernel_rfl)
theorem qas.code : qas.c.code = zz Tryd.f45 := by kernel_rfl
noncomputable def qax.c : IC := qax.u1.c
noncomputable def qax.res : List ResultVar := [(.tmp 2)]
theorem qax.u1.ok (k : Nat) (x0 : Int) (K : KF α) :
  eC k qax.u1.c (fr30 x0) K =
   qax.u1.f k x0 (fun y0 => K .ret (fr18 y0)) := by kernel_rfl
theorem qax.ok (k : Nat) (x0 : Int) (κ : Res->M α) :
  evF T (env k) k qax.c qax.res [.int .i64 x0] κ = qax.f (k + 1) x0 (fun o0 => κ (.ret (.bool o0))) :=
 (qax.u1.ok k x0 (retK T qax.res κ)).trans (by kernel_rfl)
theorem qax.code : qax.c.code = zz Tryd.f47 := by kernel_rfl
noncomputable def qu.c : IC := qu.u9.c
noncomputable def qu.res : List ResultVar := [(.tmp 4)]
theorem qu.u1.ok (k : Nat) (x0 : Sl) (R : IC) (K : KF α) :
  eC k (qu.u1.c R) (za [(0, .slice x0), (1, .func 47 [] [])]) K =
   qu.u1.f k x0 (fun y0 => eC k R (za [(0, .slice y0), (1, .func 47 [] [])]) K) := by kernel_rfl
theorem qu.u2.ok (k : Nat) (x0 : Sl) (R : IC) (K : KF α) :
  eC k (qu.u2.c R) (za [(0, .slice x0), (1, .func 47 [] [])]) K =
   qu.u2.f k x0 (fun y0 y1 y2 => eC k R (za [(0, .slice y0), (1, .func 47 [] []), (7, .int .i64 y1), (8, .int .i64 y2)]) K) := by kernel_rfl
theorem qu.u3.ok (k : Nat) (x0 : Sl) (x1 x2 : Int) (K : KF α) :
  eC k qu.u3.c (za [(0, .slice x0), (1, .func 47 [] []), (7, .int .i64 x1), (8, .int .i64 x2)]) K =
   qu.u3.f k x0 x1 x2 (fun y0 y1 y2 => K .normal (za [(0, .slice y0), (1, .func 47 [] []), (7, .int .i64 y1), (8, .int .i64 y2)])) (fun y0 => K .ret (fr1 y0)) (K (.exit 0) (za [])) := by kernel_rfl
theorem qu.u4.ls (k : Nat) (kr : Int->M α) (kx0 : M α) (j : Nat) (x0 : Sl) (x1 x2 : Int) : qu.u4.l k kr kx0 (j + 1) x0 x1 x2 =
 qu.u3.f k x0 x1 x2 (fun y0 y1 y2 => qu.u4.l k kr kx0 j y0 y1 y2) kr kx0 := rfl
theorem qu.u4.okl (k : Nat) (K : KF α) : ∀ (j : Nat) (x0 : Sl) (x1 x2 : Int),
  zw (eC k qu.u3.c) [0, 1, 7, 8] j (za [(0, .slice x0), (1, .func 47 [] []), (7, .int .i64 x1), (8, .int .i64 x2)]) K = qu.u4.l k (fun y0 => K .ret (fr1 y0)) (K (.exit 0) (za [])) j x0 x1 x2
 | 0, _, _, _ => rfl
 | j + 1, x0, x1, x2 => by
   have h := qu.u3.ok k x0 x1 x2 (seqK (fun ρ => zw (eC k qu.u3.c) [0, 1, 7, 8] j ρ K) K)
   simp only [zh, zj, zk, zf, qu.u4.okl k K j] at h
   exact (ja (by kernel_rfl) h).trans (qu.u4.ls k (fun y0 => K .ret (fr1 y0)) (K (.exit 0) (za [])) j x0 x1 x2).symm
theorem qu.u4.ok (k : Nat) (x0 : Sl) (x1 x2 : Int) (K : KF α) :
  eC k qu.u4.c (za [(0, .slice x0), (1, .func 47 [] []), (7, .int .i64 x1), (8, .int .i64 x2)]) K =
   qu.u4.f k x0 x1 x2 (fun y0 => K .ret (fr1 y0)) (K (.exit 0) (za [])) :=
 jy.trans <| (jb (body := eC k qu.u3.c) (keep := [0, 1, 7, 8]) (ρ := (za [(0, .slice x0), (1, .func 47 [] []), (7, .int .i64 x1), (8, .int .i64 x2)])) (ρ' := (za [(0, .slice x0), (1, .func 47 [] []), (7, .int .i64 x1), (8, .int .i64 x2)])) (by kernel_rfl) k K).trans (qu.u4.okl k K k x0 x1 x2)
theorem qu.u5.ok (k : Nat) (x0 : Sl) (x1 x2 : Int) (K : KF α) :
  eC k qu.u5.c (za [(0, .slice x0), (1, .func 47 [] []), (7, .int .i64 x1), (8, .int .i64 x2)]) K =
   qu.u5.f k x0 x1 x2 (K .normal (za [])) (fun y0 => K .ret (fr1 y0)) :=
 (zu.trans (qu.u4.ok k x0 x1 x2 (jt 0 K))).trans (by kernel_rfl)
theorem qu.u6.ok (k : Nat) (x0 : Sl) (K : KF α) :
  eC k qu.u6.c (za [(0, .slice x0), (1, .func 47 [] [])]) K =
   qu.u6.f k x0 (K .normal (za [])) (fun y0 => K .ret (fr1 y0)) :=
 (qu.u2.ok k x0 qu.u5.c K).trans
  (congrArg (fun z => qu.u2.f k x0 z) (funext fun y0 => (funext fun y1 => (funext fun y2 => qu.u5.ok k y0 y1 y2 K))))
theorem qu.u7.ok (k : Nat) (K : KF α) :
  eC k qu.u7.c (za []) K =
   qu.u7.f k (fun y0 => K .ret (fr1 y0)) := by kernel_rfl
theorem qu.u8.ok (k : Nat) (x0 : Sl) (K : KF α) :
  eC k qu.u8.c (za [(0, .slice x0), (1, .func 47 [] [])]) K =
   qu.u8.f k x0 (fun y0 => K .ret (fr1 y0)) :=
 by
  have h := qu.u6.ok k x0 (seqK (fun ρ => eC k qu.u7.c ρ K) K)
  simp only [zf, zh, zj, zk, qu.u7.ok] at h
  exact zx h
theorem qu.u9.ok (k : Nat) (x0 : Sl) (K : KF α) :
  eC k qu.u9.c (za [(0, .slice x0), (1, .func 47 [] [])]) K =
   qu.u9.f k x0 (fun y0 => K .ret (fr1 y0)) :=
 (qu.u1.ok k x0 qu.u8.c K).trans
  (congrArg (fun z => qu.u1.f k x0 z) (funext fun y0 => qu.u8.ok k y0 K))
theorem qu.ok (k : Nat) (x0 : Sl) (κ : Res->M α) :
  evF T (env k) k qu.c qu.res [.slice x0, .func 47 [] []] κ = qu.f (k + 1) x0 (fun o0 => κ (.ret (.int .i64 o0))) :=
 (qu.u9.ok k x0 (retK T qu.res κ)).trans (by kernel_rfl)
theorem qu.code : qu.c.code = zz Tryd.f62 := by kernel_rfl
noncomputable def qat.c : IC := qat.u1.c
noncomputable def qat.res : List ResultVar := [(.tmp 4)]
theorem qat.u1.ok (k : Nat) (x0 : Sl) (K : KF α) :
  eC k qat.u1.c (za [(0, .slice x0), (1, .func 47 [] [])]) K =
   qat.u1.f k x0 (fun y0 => K .ret (fr21 y0)) := by kernel_rfl
theorem qat.ok (k : Nat) (x0 : Sl) (κ : Res->M α) :
  evF T (env k) k qat.c qat.res [.slice x0, .func 47 [] []] κ = qat.f (k + 1) x0 (fun o0 => κ (.ret (.bool o0))) :=
 (qat.u1.ok k x0 (retK T qat.res κ)).trans (by kernel_rfl)
theorem qat.code : qat.c.code = zz Tryd.f46 := by kernel_rfl
noncomputable def qs.c : IC := qs.u9.c
noncomputable def qs.res : List ResultVar := [(.tmp 4)]
theorem qs.u1.ok (k : Nat) (x0 x1 : Sl) (R : IC) (K : KF α) :
  eC k (qs.u1.c R) (fr31 x0 x1) K =
   qs.u1.f k x0 x1 (fun y0 y1 => eC k R (fr31 y0 y1) K) (fun y0 => K .ret (fr21 y0)) := by kernel_rfl
theorem qs.u2.ok (k : Nat) (x0 x1 : Sl) (R : IC) (K : KF α) :
  eC k (qs.u2.c R) (fr31 x0 x1) K =
   qs.u2.f k x0 x1 (fun y0 y1 y2 y3 => eC k R (fr32 y0 y1 y2 y3) K) := by kernel_rfl
theorem qs.u3.ok (k : Nat) (x0 x1 : Sl) (x2 x3 : Int) (K : KF α) :
  eC k qs.u3.c (fr32 x0 x1 x2 x3) K =
   qs.u3.f k x0 x1 x2 x3 (fun y0 y1 y2 y3 => K .normal (fr32 y0 y1 y2 y3)) (fun y0 => K .ret (fr21 y0)) (K (.exit 0) (za [])) := by kernel_rfl
theorem qs.u4.ls (k : Nat) (kr : Bool->M α) (kx0 : M α) (j : Nat) (x0 x1 : Sl) (x2 x3 : Int) : qs.u4.l k kr kx0 (j + 1) x0 x1 x2 x3 =
 qs.u3.f k x0 x1 x2 x3 (fun y0 y1 y2 y3 => qs.u4.l k kr kx0 j y0 y1 y2 y3) kr kx0 := rfl
theorem qs.u4.okl (k : Nat) (K : KF α) : ∀ (j : Nat) (x0 x1 : Sl) (x2 x3 : Int),
  zw (eC k qs.u3.c) [0, 1, 12, 13] j (fr32 x0 x1 x2 x3) K = qs.u4.l k (fun y0 => K .ret (fr21 y0)) (K (.exit 0) (za [])) j x0 x1 x2 x3
 | 0, _, _, _, _ => rfl
 | j + 1, x0, x1, x2, x3 => by
   have h := qs.u3.ok k x0 x1 x2 x3 (seqK (fun ρ => zw (eC k qs.u3.c) [0, 1, 12, 13] j ρ K) K)
   simp only [zh, zj, zk, zf, qs.u4.okl k K j] at h
   exact (ja (by kernel_rfl) h).trans (qs.u4.ls k (fun y0 => K .ret (fr21 y0)) (K (.exit 0) (za [])) j x0 x1 x2 x3).symm
theorem qs.u4.ok (k : Nat) (x0 x1 : Sl) (x2 x3 : Int) (K : KF α) :
  eC k qs.u4.c (fr32 x0 x1 x2 x3) K =
   qs.u4.f k x0 x1 x2 x3 (fun y0 => K .ret (fr21 y0)) (K (.exit 0) (za [])) :=
 jy.trans <| (jb (body := eC k qs.u3.c) (keep := [0, 1, 12, 13]) (ρ := (fr32 x0 x1 x2 x3)) (ρ' := (fr32 x0 x1 x2 x3)) (by kernel_rfl) k K).trans (qs.u4.okl k K k x0 x1 x2 x3)
theorem qs.u5.ok (k : Nat) (x0 x1 : Sl) (x2 x3 : Int) (K : KF α) :
  eC k qs.u5.c (fr32 x0 x1 x2 x3) K =
   qs.u5.f k x0 x1 x2 x3 (K .normal (za [])) (fun y0 => K .ret (fr21 y0)) :=
 (zu.trans (qs.u4.ok k x0 x1 x2 x3 (jt 0 K))).trans (by kernel_rfl)
theorem qs.u6.ok (k : Nat) (x0 x1 : Sl) (K : KF α) :
  eC k qs.u6.c (fr31 x0 x1) K =
   qs.u6.f k x0 x1 (K .normal (za [])) (fun y0 => K .ret (fr21 y0)) :=
 (qs.u2.ok k x0 x1 qs.u5.c K).trans
  (congrArg (fun z => qs.u2.f k x0 x1 z) (funext fun y0 => (funext fun y1 => (funext fun y2 => (funext fun y3 => qs.u5.ok k y0 y1 y2 y3 K)))))
theorem qs.u7.ok (k : Nat) (K : KF α) :
  eC k qs.u7.c (za []) K =
   qs.u7.f k (fun y0 => K .ret (fr21 y0)) := by kernel_rfl
theorem qs.u8.ok (k : Nat) (x0 x1 : Sl) (K : KF α) :
  eC k qs.u8.c (fr31 x0 x1) K =
   qs.u8.f k x0 x1 (fun y0 => K .ret (fr21 y0)) :=
 by
  have h := qs.u6.ok k x0 x1 (seqK (fun ρ => eC k qs.u7.c ρ K) K)
  simp only [zf, zh, zj, zk, qs.u7.ok] at h
  exact zx h
theorem qs.u9.ok (k : Nat) (x0 x1 : Sl) (K : KF α) :
  eC k qs.u9.c (fr31 x0 x1) K =
   qs.u9.f k x0 x1 (fun y0 => K .ret (fr21 y0)) :=
 (qs.u1.ok k x0 x1 qs.u8.c K).trans
  (congrArg (fun z => qs.u1.f k x0 x1 z (fun y0 => K .ret (fr21 y0))) (funext fun y0 => (funext fun y1 => qs.u8.ok k y0 y1 K)))
theorem qs.ok (k : Nat) (x0 x1 : Sl) (κ : Res->M α) :
  evF T (env k) k qs.c qs.res [.slice x0, .slice x1] κ = qs.f (k + 1) x0 x1 (fun o0 => κ (.ret (.bool o0))) :=
 (qs.u9.ok k x0 x1 (retK T qs.res κ)).trans (by kernel_rfl)
theorem qs.code : qs.c.code = zz Tryd.f48 := by kernel_rfl
noncomputable def qk.c : IC := qk.u9.c
noncomputable def qk.res : List ResultVar := [(.tmp 2)]
theorem qk.u1.ok (k : Nat) (x0 : Sl) (R : IC) (K : KF α) :
  eC k (qk.u1.c R) (fr25 x0) K =
   qk.u1.f k x0 (fun y0 y1 => eC k R (fr33 y0 y1) K) (fun y0 => K .ret (fr18 y0)) := by kernel_rfl
theorem qk.u2.ok (k : Nat) (x0 x1 : Sl) (R : IC) (K : KF α) :
  eC k (qk.u2.c R) (fr33 x0 x1) K =
   qk.u2.f k x0 x1 (fun y0 y1 y2 y3 => eC k R (fr34 y0 y1 y2 y3) K) := by kernel_rfl
theorem qk.u3.ok (k : Nat) (x0 x1 : Sl) (x2 x3 : Int) (K : KF α) :
  eC k qk.u3.c (fr34 x0 x1 x2 x3) K =
   qk.u3.f k x0 x1 x2 x3 (fun y0 y1 y2 y3 => K .normal (fr34 y0 y1 y2 y3)) (fun y0 => K .ret (fr18 y0)) (fun y0 => K (.exit 0) (fr35 y0)) := by kernel_rfl
theorem qk.u4.ls (k : Nat) (kr : Bool->M α) (kx0 : Sl->M α) (j : Nat) (x0 x1 : Sl) (x2 x3 : Int) : qk.u4.l k kr kx0 (j + 1) x0 x1 x2 x3 =
 qk.u3.f k x0 x1 x2 x3 (fun y0 y1 y2 y3 => qk.u4.l k kr kx0 j y0 y1 y2 y3) kr kx0 := rfl
theorem qk.u4.okl (k : Nat) (K : KF α) : ∀ (j : Nat) (x0 x1 : Sl) (x2 x3 : Int),
  zw (eC k qk.u3.c) [3, 17, 18, 19] j (fr34 x0 x1 x2 x3) K = qk.u4.l k (fun y0 => K .ret (fr18 y0)) (fun y0 => K (.exit 0) (fr35 y0)) j x0 x1 x2 x3
 | 0, _, _, _, _ => rfl
 | j + 1, x0, x1, x2, x3 => by
   have h := qk.u3.ok k x0 x1 x2 x3 (seqK (fun ρ => zw (eC k qk.u3.c) [3, 17, 18, 19] j ρ K) K)
   simp only [zh, zj, zk, zf, qk.u4.okl k K j] at h
   exact (ja (by kernel_rfl) h).trans (qk.u4.ls k (fun y0 => K .ret (fr18 y0)) (fun y0 => K (.exit 0) (fr35 y0)) j x0 x1 x2 x3).symm
theorem qk.u4.ok (k : Nat) (x0 x1 : Sl) (x2 x3 : Int) (K : KF α) :
  eC k qk.u4.c (fr34 x0 x1 x2 x3) K =
   qk.u4.f k x0 x1 x2 x3 (fun y0 => K .ret (fr18 y0)) (fun y0 => K (.exit 0) (fr35 y0)) :=
 jy.trans <| (jb (body := eC k qk.u3.c) (keep := [3, 17, 18, 19]) (ρ := (fr34 x0 x1 x2 x3)) (ρ' := (fr34 x0 x1 x2 x3)) (by kernel_rfl) k K).trans (qk.u4.okl k K k x0 x1 x2 x3)
theorem qk.u5.ok (k : Nat) (x0 x1 : Sl) (x2 x3 : Int) (K : KF α) :
  eC k qk.u5.c (fr34 x0 x1 x2 x3) K =
   qk.u5.f k x0 x1 x2 x3 (fun y0 => K .normal (fr35 y0)) (fun y0 => K .ret (fr18 y0)) :=
 (zu.trans (qk.u4.ok k x0 x1 x2 x3 (jt 0 K))).trans (by kernel_rfl)
theorem qk.u6.ok (k : Nat) (x0 x1 : Sl) (K : KF α) :
  eC k qk.u6.c (fr33 x0 x1) K =
   qk.u6.f k x0 x1 (fun y0 => K .normal (fr35 y0)) (fun y0 => K .ret (fr18 y0)) :=
 (qk.u2.ok k x0 x1 qk.u5.c K).trans
  (congrArg (fun z => qk.u2.f k x0 x1 z) (funext fun y0 => (funext fun y1 => (funext fun y2 => (funext fun y3 => qk.u5.ok k y0 y1 y2 y3 K)))))
theorem qk.u7.ok (k : Nat) (x0 : Sl) (K : KF α) :
  eC k qk.u7.c (fr35 x0) K =
   qk.u7.f k x0 (fun y0 => K .ret (fr18 y0)) := by kernel_rfl
theorem qk.u8.ok (k : Nat) (x0 x1 : Sl) (K : KF α) :
  eC k qk.u8.c (fr33 x0 x1) K =
   qk.u8.f k x0 x1 (fun y0 => K .ret (fr18 y0)) :=
 by
  have h := qk.u6.ok k x0 x1 (seqK (fun ρ => eC k qk.u7.c ρ K) K)
  simp only [zf, zh, zj, zk, qk.u7.ok] at h
  exact zx h
theorem qk.u9.ok (k : Nat) (x0 : Sl) (K : KF α) :
  eC k qk.u9.c (fr25 x0) K =
   qk.u9.f k x0 (fun y0 => K .ret (fr18 y0)) :=
 (qk.u1.ok k x0 qk.u8.c K).trans
  (congrArg (fun z => qk.u1.f k x0 z (fun y0 => K .ret (fr18 y0))) (funext fun y0 => (funext fun y1 => qk.u8.ok k y0 y1 K)))
theorem qk.ok (k : Nat) (x0 : Sl) (κ : Res->M α) :
  evF T (env k) k qk.c qk.res [.slice x0] κ = qk.f (k + 1) x0 (fun o0 => κ (.ret (.bool o0))) :=
 (qk.u9.ok k x0 (retK T qk.res κ)).trans (by kernel_rfl)
theorem qk.code : qk.c.code = zz Tryd.f29 := by kernel_rfl
noncomputable def qn.c : IC := qn.u9.c
noncomputable def qn.res : List ResultVar := [(.cell 4 92), (.tmp 5)]
theorem qn.u1.ok (k : Nat) (x0 : Ad) (x1 : TX) (R : IC) (K : KF α) :
  eC k (qn.u1.c R) (za [(0, .ptr (some x0)), (1, .str x1)]) K =
   qn.u1.f k x0 x1 (fun y0 y1 y2 => eC k R (za [(0, .ptr (some y0)), (1, .str y1), (4, .ptr (some y2))]) K) := by kernel_rfl
theorem qn.u2.ok (k : Nat) (x0 : Ad) (x1 : TX) (x2 : Ad) (R : IC) (K : KF α) :
  eC k (qn.u2.c R) (za [(0, .ptr (some x0)), (1, .str x1), (4, .ptr (some x2))]) K =
   qn.u2.f k x0 x1 x2 (fun y0 y1 y2 y3 => eC k R (za [(0, .ptr (some y0)), (1, .str y1), (4, .ptr (some y2)), (6, .int .i64 y3)]) K) := by kernel_rfl
theorem qn.u3.ok (k : Nat) (x0 : Ad) (x1 : TX) (x2 : Ad) (x3 : Int) (K : KF α) :
  eC k qn.u3.c (za [(0, .ptr (some x0)), (1, .str x1), (4, .ptr (some x2)), (6, .int .i64 x3)]) K =
   qn.u3.f k x0 x1 x2 x3 (fun y0 y1 y2 y3 => K .normal (za [(0, .ptr (some y0)), (1, .str y1), (4, .ptr (some y2)), (6, .int .i64 y3)])) (fun y0 y1 => K .ret (za [(4, .ptr (some y0)), (5, .bool y1)])) (fun y0 => K (.exit 0) (za [(4, .ptr (some y0))])) := by kernel_rfl
theorem qn.u4.ls (k : Nat) (kr : Ad->Bool->M α) (kx0 : Ad->M α) (j : Nat) (x0 : Ad) (x1 : TX) (x2 : Ad) (x3 : Int) : qn.u4.l k kr kx0 (j + 1) x0 x1 x2 x3 =
 qn.u3.f k x0 x1 x2 x3 (fun y0 y1 y2 y3 => qn.u4.l k kr kx0 j y0 y1 y2 y3) kr kx0 := rfl
theorem qn.u4.okl (k : Nat) (K : KF α) : ∀ (j : Nat) (x0 : Ad) (x1 : TX) (x2 : Ad) (x3 : Int),
  zw (eC k qn.u3.c) [0, 1, 4, 6] j (za [(0, .ptr (some x0)), (1, .str x1), (4, .ptr (some x2)), (6, .int .i64 x3)]) K = qn.u4.l k (fun y0 y1 => K .ret (za [(4, .ptr (some y0)), (5, .bool y1)])) (fun y0 => K (.exit 0) (za [(4, .ptr (some y0))])) j x0 x1 x2 x3
 | 0, _, _, _, _ => rfl
 | j + 1, x0, x1, x2, x3 => by
   have h := qn.u3.ok k x0 x1 x2 x3 (seqK (fun ρ => zw (eC k qn.u3.c) [0, 1, 4, 6] j ρ K) K)
   simp only [zh, zj, zk, zf, qn.u4.okl k K j] at h
   exact (ja (by kernel_rfl) h).trans (qn.u4.ls k (fun y0 y1 => K .ret (za [(4, .ptr (some y0)), (5, .bool y1)])) (fun y0 => K (.exit 0) (za [(4, .ptr (some y0))])) j x0 x1 x2 x3).symm
theorem qn.u4.ok (k : Nat) (x0 : Ad) (x1 : TX) (x2 : Ad) (x3 : Int) (K : KF α) :
  eC k qn.u4.c (za [(0, .ptr (some x0)), (1, .str x1), (4, .ptr (some x2)), (6, .int .i64 x3)]) K =
   qn.u4.f k x0 x1 x2 x3 (fun y0 y1 => K .ret (za [(4, .ptr (some y0)), (5, .bool y1)])) (fun y0 => K (.exit 0) (za [(4, .ptr (some y0))])) :=
 jy.trans <| (jb (body := eC k qn.u3.c) (keep := [0, 1, 4, 6]) (ρ := (za [(0, .ptr (some x0)), (1, .str x1), (4, .ptr (some x2)), (6, .int .i64 x3)])) (ρ' := (za [(0, .ptr (some x0)), (1, .str x1), (4, .ptr (some x2)), (6, .int .i64 x3)])) (by kernel_rfl) k K).trans (qn.u4.okl k K k x0 x1 x2 x3)
theorem qn.u5.ok (k : Nat) (x0 : Ad) (x1 : TX) (x2 : Ad) (x3 : Int) (K : KF α) :
  eC k qn.u5.c (za [(0, .ptr (some x0)), (1, .str x1), (4, .ptr (some x2)), (6, .int .i64 x3)]) K =
   qn.u5.f k x0 x1 x2 x3 (fun y0 => K .normal (za [(4, .ptr (some y0))])) (fun y0 y1 => K .ret (za [(4, .ptr (some y0)), (5, .bool y1)])) :=
 (zu.trans (qn.u4.ok k x0 x1 x2 x3 (jt 0 K))).trans (by kernel_rfl)
theorem qn.u6.ok (k : Nat) (x0 : Ad) (x1 : TX) (x2 : Ad) (K : KF α) :
  eC k qn.u6.c (za [(0, .ptr (some x0)), (1, .str x1), (4, .ptr (some x2))]) K =
   qn.u6.f k x0 x1 x2 (fun y0 => K .normal (za [(4, .ptr (some y0))])) (fun y0 y1 => K .ret (za [(4, .ptr (some y0)), (5, .bool y1)])) :=
 (qn.u2.ok k x0 x1 x2 qn.u5.c K).trans
  (congrArg (fun z => qn.u2.f k x0 x1 x2 z) (funext fun y0 => (funext fun y1 => (funext fun y2 => (funext fun y3 => qn.u5.ok k y0 y1 y2 y3 K)))))
theorem qn.u7.ok (k : Nat) (x0 : Ad) (K : KF α) :
  eC k qn.u7.c (za [(4, .ptr (some x0))]) K =
   qn.u7.f k x0 (fun y0 y1 => K .ret (za [(4, .ptr (some y0)), (5, .bool y1)])) := by kernel_rfl
theorem qn.u8.ok (k : Nat) (x0 : Ad) (x1 : TX) (x2 : Ad) (K : KF α) :
  eC k qn.u8.c (za [(0, .ptr (some x0)), (1, .str x1), (4, .ptr (some x2))]) K =
   qn.u8.f k x0 x1 x2 (fun y0 y1 => K .ret (za [(4, .ptr (some y0)), (5, .bool y1)])) :=
 by
  have h := qn.u6.ok k x0 x1 x2 (seqK (fun ρ => eC k qn.u7.c ρ K) K)
  simp only [zf, zh, zj, zk, qn.u7.ok] at h
  exact zx h
theorem qn.u9.ok (k : Nat) (x0 : Ad) (x1 : TX) (K : KF α) :
  eC k qn.u9.c (za [(0, .ptr (some x0)), (1, .str x1)]) K =
   qn.u9.f k x0 x1 (fun y0 y1 => K .ret (za [(4, .ptr (some y0)), (5, .bool y1)])) :=
 (qn.u1.ok k x0 x1 qn.u8.c K).trans
  (congrArg (fun z => qn.u1.f k x0 x1 z) (funext fun y0 => (funext fun y1 => (funext fun y2 => qn.u8.ok k y0 y1 y2 K))))
theorem qn.ok (k : Nat) (x0 : Ad) (x1 : TX) (κ : Res->M α) :
  evF T (env k) k qn.c qn.res [.ptr (some x0), .str x1] κ = qn.f (k + 1) x0 x1 (fun o0 o1 o2 => κ (.ret (.tuple [.agg [.int .i64 o0, .int .i64 o1], .bool o2]))) :=
 (qn.u9.ok k x0 x1 (retK T qn.res κ)).trans (by kernel_rfl)
theorem qn.code : qn.c.code = zz Tryd.f63 := by kernel_rfl
noncomputable def qc.c : IC := qc.u22.c
noncomputable def qc.res : List ResultVar := []
theorem qc.u1.ok (k : Nat) (x0 : Ad) (x1 : Int) (R : IC) (K : KF α) :
  eC k (qc.u1.c R) (za [(0, .ptr (some x0)), (1, .int .i64 x1)]) K =
   qc.u1.f k x0 x1 (fun y0 y1 y2 y3 => eC k R (za [(0, .ptr (some y0)), (1, .int .i64 y1), (4, .ptr (some y2)), (15, .int .i64 y3)]) K) := by kernel_rfl
theorem qc.u2.ok (k : Nat) (x0 : Ad) (x1 : Int) (x2 : Ad) (x3 : Int) (R : IC) (K : KF α) :
  eC k (qc.u2.c R) (za [(0, .ptr (some x0)), (1, .int .i64 x1), (4, .ptr (some x2)), (15, .int .i64 x3)]) K =
   qc.u2.f k x0 x1 x2 x3 (fun y0 y1 y2 y3 y4 => eC k R (za [(0, .ptr (some y0)), (1, .int .i64 y1), (4, .ptr (some y2)), (15, .int .i64 y3), (16, .bool y4)]) K) := by kernel_rfl
theorem qc.u3.ok (k : Nat) (x0 : Ad) (x1 : Int) (x2 : Ad) (x3 : Int) (x4 : Bool) (K : KF α) :
  eC k qc.u3.c (za [(0, .ptr (some x0)), (1, .int .i64 x1), (4, .ptr (some x2)), (15, .int .i64 x3), (16, .bool x4)]) K =
   qc.u3.f k x0 x1 x2 x3 x4 (K .normal (za [])) := by kernel_rfl
theorem qc.u4.ok (k : Nat) (x0 : Ad) (x1 : Int) (x2 : Ad) (x3 : Int) (x4 : Bool) (R : IC) (K : KF α) :
  eC k (qc.u4.c R) (za [(0, .ptr (some x0)), (1, .int .i64 x1), (4, .ptr (some x2)), (15, .int .i64 x3), (16, .bool x4)]) K =
   qc.u4.f k x0 x1 x2 x3 x4 (fun y0 y1 y2 y3 y4 => eC k R (za [(0, .ptr (some y0)), (1, .int .i64 y1), (4, .ptr (some y2)), (15, .int .i64 y3), (49, .bool y4)]) K) := by kernel_rfl
theorem qc.u5.ok (k : Nat) (x0 : Ad) (x1 : Int) (x2 : Ad) (x3 : Int) (x4 : Bool) (K : KF α) :
  eC k qc.u5.c (za [(0, .ptr (some x0)), (1, .int .i64 x1), (4, .ptr (some x2)), (15, .int .i64 x3), (49, .bool x4)]) K =
   qc.u5.f k (qc.f k) x0 x1 x2 x3 x4 (K .normal (za [])) := by kernel_rfl
theorem qc.u6.ok (k : Nat) (x0 : Ad) (x1 : Int) (x2 : Ad) (x3 : Int) (x4 : Bool) (R : IC) (K : KF α) :
  eC k (qc.u6.c R) (za [(0, .ptr (some x0)), (1, .int .i64 x1), (4, .ptr (some x2)), (15, .int .i64 x3), (49, .bool x4)]) K =
   qc.u6.f k x0 x1 x2 x3 x4 (fun y0 y1 y2 y3 y4 => eC k R (za [(0, .ptr (some y0)), (1, .int .i64 y1), (4, .ptr (some y2)), (15, .int .i64 y3), (83, .bool y4)]) K) := by kernel_rfl
theorem qc.u7.ok (k : Nat) (x0 : Ad) (x1 : Int) (x2 : Ad) (x3 : Int) (x4 : Bool) (K : KF α) :
  eC k qc.u7.c (za [(0, .ptr (some x0)), (1, .int .i64 x1), (4, .ptr (some x2)), (15, .int .i64 x3), (83, .bool x4)]) K =
   qc.u7.f k (qc.f k) x0 x1 x2 x3 x4 (K .normal (za [])) := by kernel_rfl
theorem qc.u8.ok (k : Nat) (x0 : Ad) (x1 : Int) (x2 : Ad) (x3 : Int) (x4 : Bool) (R : IC) (K : KF α) :
  eC k (qc.u8.c R) (za [(0, .ptr (some x0)), (1, .int .i64 x1), (4, .ptr (some x2)), (15, .int .i64 x3), (83, .bool x4)]) K =
   qc.u8.f k x0 x1 x2 x3 x4 (fun y0 y1 y2 y3 y4 => eC k R (za [(0, .ptr (some y0)), (1, .int .i64 y1), (4, .ptr (some y2)), (15, .int .i64 y3), (104, .bool y4)]) K) := by kernel_rfl
theorem qc.u9.ok (k : Nat) (x0 : Ad) (x1 : Int) (x2 : Ad) (x3 : Int) (x4 : Bool) (K : KF α) :
  eC k qc.u9.c (za [(0, .ptr (some x0)), (1, .int .i64 x1), (4, .ptr (some x2)), (15, .int .i64 x3), (104, .bool x4)]) K =
   qc.u9.f k (qc.f k) x0 x1 x2 x3 x4 (K .normal (za [])) := by kernel_rfl
theorem qc.u10.ok (k : Nat) (x0 : Ad) (x1 : Int) (x2 : Ad) (x3 : Int) (x4 : Bool) (R : IC) (K : KF α) :
  eC k (qc.u10.c R) (za [(0, .ptr (some x0)), (1, .int .i64 x1), (4, .ptr (some x2)), (15, .int .i64 x3), (104, .bool x4)]) K =
   qc.u10.f k x0 x1 x2 x3 x4 (fun y0 y1 y2 y3 => eC k R (za [(0, .ptr (some y0)), (1, .int .i64 y1), (4, .ptr (some y2)), (138, .bool y3)]) K) := by kernel_rfl
theorem qc.u11.ok (k : Nat) (x0 : Ad) (x1 : Int) (x2 : Ad) (x3 : Bool) (K : KF α) :
  eC k qc.u11.c (za [(0, .ptr (some x0)), (1, .int .i64 x1), (4, .ptr (some x2)), (138, .bool x3)]) K =
   qc.u11.f k (qc.f k) x0 x1 x2 x3 (K .normal (za [])) := by kernel_rfl
theorem qc.u12.ok (k : Nat) (x0 : Ad) (x1 : Int) (x2 : Ad) (x3 : Int) (x4 : Bool) (K : KF α) :
  eC k qc.u12.c (za [(0, .ptr (some x0)), (1, .int .i64 x1), (4, .ptr (some x2)), (15, .int .i64 x3), (104, .bool x4)]) K =
   qc.u12.f k (qc.f k) x0 x1 x2 x3 x4 (K .normal (za [])) :=
 (qc.u10.ok k x0 x1 x2 x3 x4 qc.u11.c K).trans
  (congrArg (fun z => qc.u10.f k x0 x1 x2 x3 x4 z) (funext fun y0 => (funext fun y1 => (funext fun y2 => (funext fun y3 => qc.u11.ok k y0 y1 y2 y3 K)))))
theorem qc.u13.ok (k : Nat) (x0 : Ad) (x1 : Int) (x2 : Ad) (x3 : Int) (x4 : Bool) (K : KF α) :
  eC k qc.u13.c (za [(0, .ptr (some x0)), (1, .int .i64 x1), (4, .ptr (some x2)), (15, .int .i64 x3), (104, .bool x4)]) K =
   qc.u13.f k (qc.f k) x0 x1 x2 x3 x4 (K .normal (za [])) :=
 jw (g := x4) (by kernel_rfl) (qc.u9.ok k x0 x1 x2 x3 x4 K) (qc.u12.ok k x0 x1 x2 x3 x4 K)
theorem qc.u14.ok (k : Nat) (x0 : Ad) (x1 : Int) (x2 : Ad) (x3 : Int) (x4 : Bool) (K : KF α) :
  eC k qc.u14.c (za [(0, .ptr (some x0)), (1, .int .i64 x1), (4, .ptr (some x2)), (15, .int .i64 x3), (83, .bool x4)]) K =
   qc.u14.f k (qc.f k) x0 x1 x2 x3 x4 (K .normal (za [])) :=
 (qc.u8.ok k x0 x1 x2 x3 x4 qc.u13.c K).trans
  (congrArg (fun z => qc.u8.f k x0 x1 x2 x3 x4 z) (funext fun y0 => (funext fun y1 => (funext fun y2 => (funext fun y3 => (funext fun y4 => qc.u13.ok k y0 y1 y2 y3 y4 K))))))
theorem qc.u15.ok (k : Nat) (x0 : Ad) (x1 : Int) (x2 : Ad) (x3 : Int) (x4 : Bool) (K : KF α) :
  eC k qc.u15.c (za [(0, .ptr (some x0)), (1, .int .i64 x1), (4, .ptr (some x2)), (15, .int .i64 x3), (83, .bool x4)]) K =
   qc.u15.f k (qc.f k) x0 x1 x2 x3 x4 (K .normal (za [])) :=
 jw (g := x4) (by kernel_rfl) (qc.u7.ok k x0 x1 x2 x3 x4 K) (qc.u14.ok k x0 x1 x2 x3 x4 K)
theorem qc.u16.ok (k : Nat) (x0 : Ad) (x1 : Int) (x2 : Ad) (x3 : Int) (x4 : Bool) (K : KF α) :
  eC k qc.u16.c (za [(0, .ptr (some x0)), (1, .int .i64 x1), (4, .ptr (some x2)), (15, .int .i64 x3), (49, .bool x4)]) K =
   qc.u16.f k (qc.f k) x0 x1 x2 x3 x4 (K .normal (za [])) :=
 (qc.u6.ok k x0 x1 x2 x3 x4 qc.u15.c K).trans
  (congrArg (fun z => qc.u6.f k x0 x1 x2 x3 x4 z) (funext fun y0 => (funext fun y1 => (funext fun y2 => (funext fun y3 => (funext fun y4 => qc.u15.ok k y0 y1 y2 y3 y4 K))))))
theorem qc.u17.ok (k : Nat) (x0 : Ad) (x1 : Int) (x2 : Ad) (x3 : Int) (x4 : Bool) (K : KF α) :
  eC k qc.u17.c (za [(0, .ptr (some x0)), (1, .int .i64 x1), (4, .ptr (some x2)), (15, .int .i64 x3), (49, .bool x4)]) K =
   qc.u17.f k (qc.f k) x0 x1 x2 x3 x4 (K .normal (za [])) :=
 jw (g := x4) (by kernel_rfl) (qc.u5.ok k x0 x1 x2 x3 x4 K) (qc.u16.ok k x0 x1 x2 x3 x4 K)
theorem qc.u18.ok (k : Nat) (x0 : Ad) (x1 : Int) (x2 : Ad) (x3 : Int) (x4 : Bool) (K : KF α) :
  eC k qc.u18.c (za [(0, .ptr (some x0)), (1, .int .i64 x1), (4, .ptr (some x2)), (15, .int .i64 x3), (16, .bool x4)]) K =
   qc.u18.f k (qc.f k) x0 x1 x2 x3 x4 (K .normal (za [])) :=
 (qc.u4.ok k x0 x1 x2 x3 x4 qc.u17.c K).trans
  (congrArg (fun z => qc.u4.f k x0 x1 x2 x3 x4 z) (funext fun y0 => (funext fun y1 => (funext fun y2 => (funext fun y3 => (funext fun y4 => qc.u17.ok k y0 y1 y2 y3 y4 K))))))
theorem qc.u19.ok (k : Nat) (x0 : Ad) (x1 : Int) (x2 : Ad) (x3 : Int) (x4 : Bool) (K : KF α) :
  eC k qc.u19.c (za [(0, .ptr (some x0)), (1, .int .i64 x1), (4, .ptr (some x2)), (15, .int .i64 x3), (16, .bool x4)]) K =
   qc.u19.f k (qc.f k) x0 x1 x2 x3 x4 (K .normal (za [])) :=
 jw (g := x4) (by kernel_rfl) (qc.u3.ok k x0 x1 x2 x3 x4 K) (qc.u18.ok k x0 x1 x2 x3 x4 K)
theorem qc.u20.ok (k : Nat) (x0 : Ad) (x1 : Int) (x2 : Ad) (x3 : Int) (K : KF α) :
  eC k qc.u20.c (za [(0, .ptr (some x0)), (1, .int .i64 x1), (4, .ptr (some x2)), (15, .int .i64 x3)]) K =
   qc.u20.f k (qc.f k) x0 x1 x2 x3 (K .normal (za [])) :=
 (qc.u2.ok k x0 x1 x2 x3 qc.u19.c K).trans
  (congrArg (fun z => qc.u2.f k x0 x1 x2 x3 z) (funext fun y0 => (funext fun y1 => (funext fun y2 => (funext fun y3 => (funext fun y4 => qc.u19.ok k y0 y1 y2 y3 y4 K))))))
theorem qc.u21.ok (k : Nat) (x0 : Ad) (x1 : Int) (x2 : Ad) (x3 : Int) (K : KF α) :
  eC k qc.u21.c (za [(0, .ptr (some x0)), (1, .int .i64 x1), (4, .ptr (some x2)), (15, .int .i64 x3)]) K =
   qc.u21.f k (qc.f k) x0 x1 x2 x3 (K .normal (za [])) :=
 (zu.trans (qc.u20.ok k x0 x1 x2 x3 (jt 0 K))).trans (by kernel_rfl)
theorem qc.u22.ok (k : Nat) (x0 : Ad) (x1 : Int) (K : KF α) :
  eC k qc.u22.c (za [(0, .ptr (some x0)), (1, .int .i64 x1)]) K =
   qc.u22.f k (qc.f k) x0 x1 (K .normal (za [])) :=
 (qc.u1.ok k x0 x1 qc.u21.c K).trans
  (congrArg (fun z => qc.u1.f k x0 x1 z) (funext fun y0 => (funext fun y1 => (funext fun y2 => (funext fun y3 => qc.u21.ok k y0 y1 y2 y3 K)))))
theorem qc.ok (k : Nat) (x0 : Ad) (x1 : Int) (κ : Res->M α) :
  evF T (env k) k qc.c qc.res [.ptr (some x0), .int .i64 x1] κ = qc.f (k + 1) x0 x1 (κ (.ret (.tuple []))) :=
 (qc.u22.ok k x0 x1 (retK T qc.res κ)).trans (by kernel_rfl)
theorem qc.code : qc.c.code = zz Tryd.f49 := by kernel_rfl
noncomputable def qr.c : IC := qr.u9.c
noncomputable def qr.res : List ResultVar := [(.tmp 2)]
theorem qr.u1.ok (k : Nat) (x0 : Sl) (R : IC) (K : KF α) :
  eC k (qr.u1.c R) (fr25 x0) K =
   qr.u1.f k x0 (fun y0 y1 => eC k R (za [(0, .slice y0), (3, .ptr (some y1))]) K) := by kernel_rfl
theorem qr.u2.ok (k : Nat) (x0 : Sl) (x1 : Ad) (R : IC) (K : KF α) :
  eC k (qr.u2.c R) (za [(0, .slice x0), (3, .ptr (some x1))]) K =
   qr.u2.f k x0 x1 (fun y0 y1 y2 y3 => eC k R (za [(0, .slice y0), (3, .ptr (some y1)), (21, .int .i64 y2), (22, .int .i64 y3)]) K) := by kernel_rfl
theorem qr.u3.ok (k : Nat) (x0 : Sl) (x1 : Ad) (x2 x3 : Int) (K : KF α) :
  eC k qr.u3.c (za [(0, .slice x0), (3, .ptr (some x1)), (21, .int .i64 x2), (22, .int .i64 x3)]) K =
   qr.u3.f k x0 x1 x2 x3 (fun y0 y1 y2 y3 => K .normal (za [(0, .slice y0), (3, .ptr (some y1)), (21, .int .i64 y2), (22, .int .i64 y3)])) (fun y0 y1 => K (.exit 0) (za [(0, .slice y0), (3, .ptr (some y1))])) := by kernel_rfl
theorem qr.u4.ls (k : Nat) (kx0 : Sl->Ad->M α) (j : Nat) (x0 : Sl) (x1 : Ad) (x2 x3 : Int) : qr.u4.l k kx0 (j + 1) x0 x1 x2 x3 =
 qr.u3.f k x0 x1 x2 x3 (fun y0 y1 y2 y3 => qr.u4.l k kx0 j y0 y1 y2 y3) kx0 := rfl
theorem qr.u4.okl (k : Nat) (K : KF α) : ∀ (j : Nat) (x0 : Sl) (x1 : Ad) (x2 x3 : Int),
  zw (eC k qr.u3.c) [0, 3, 21, 22] j (za [(0, .slice x0), (3, .ptr (some x1)), (21, .int .i64 x2), (22, .int .i64 x3)]) K = qr.u4.l k (fun y0 y1 => K (.exit 0) (za [(0, .slice y0), (3, .ptr (some y1))])) j x0 x1 x2 x3
 | 0, _, _, _, _ => rfl
 | j + 1, x0, x1, x2, x3 => by
   have h := qr.u3.ok k x0 x1 x2 x3 (seqK (fun ρ => zw (eC k qr.u3.c) [0, 3, 21, 22] j ρ K) K)
   simp only [zh, zj, zk, zf, qr.u4.okl k K j] at h
   exact (ja (by kernel_rfl) h).trans (qr.u4.ls k (fun y0 y1 => K (.exit 0) (za [(0, .slice y0), (3, .ptr (some y1))])) j x0 x1 x2 x3).symm
theorem qr.u4.ok (k : Nat) (x0 : Sl) (x1 : Ad) (x2 x3 : Int) (K : KF α) :
  eC k qr.u4.c (za [(0, .slice x0), (3, .ptr (some x1)), (21, .int .i64 x2), (22, .int .i64 x3)]) K =
   qr.u4.f k x0 x1 x2 x3 (fun y0 y1 => K (.exit 0) (za [(0, .slice y0), (3, .ptr (some y1))])) :=
 jy.trans <| (jb (body := eC k qr.u3.c) (keep := [0, 3, 21, 22]) (ρ := (za [(0, .slice x0), (3, .ptr (some x1)), (21, .int .i64 x2), (22, .int .i64 x3)])) (ρ' := (za [(0, .slice x0), (3, .ptr (some x1)), (21, .int .i64 x2), (22, .int .i64 x3)])) (by kernel_rfl) k K).trans (qr.u4.okl k K k x0 x1 x2 x3)
theorem qr.u5.ok (k : Nat) (x0 : Sl) (x1 : Ad) (x2 x3 : Int) (K : KF α) :
  eC k qr.u5.c (za [(0, .slice x0), (3, .ptr (some x1)), (21, .int .i64 x2), (22, .int .i64 x3)]) K =
   qr.u5.f k x0 x1 x2 x3 (fun y0 y1 => K .normal (za [(0, .slice y0), (3, .ptr (some y1))])) :=
 (zu.trans (qr.u4.ok k x0 x1 x2 x3 (jt 0 K))).trans (by kernel_rfl)
theorem qr.u6.ok (k : Nat) (x0 : Sl) (x1 : Ad) (K : KF α) :
  eC k qr.u6.c (za [(0, .slice x0), (3, .ptr (some x1))]) K =
   qr.u6.f k x0 x1 (fun y0 y1 => K .normal (za [(0, .slice y0), (3, .ptr (some y1))])) :=
 (qr.u2.ok k x0 x1 qr.u5.c K).trans
  (congrArg (fun z => qr.u2.f k x0 x1 z) (funext fun y0 => (funext fun y1 => (funext fun y2 => (funext fun y3 => qr.u5.ok k y0 y1 y2 y3 K)))))
theorem qr.u7.ok (k : Nat) (x0 : Sl) (x1 : Ad) (K : KF α) :
  eC k qr.u7.c (za [(0, .slice x0), (3, .ptr (some x1))]) K =
   qr.u7.f k x0 x1 (fun y0 => K .ret (za [(2, .ptr (some y0))])) := by kernel_rfl
theorem qr.u8.ok (k : Nat) (x0 : Sl) (x1 : Ad) (K : KF α) :
  eC k qr.u8.c (za [(0, .slice x0), (3, .ptr (some x1))]) K =
   qr.u8.f k x0 x1 (fun y0 => K .ret (za [(2, .ptr (some y0))])) :=
 by
  have h := qr.u6.ok k x0 x1 (seqK (fun ρ => eC k qr.u7.c ρ K) K)
  simp only [zf, zh, zj, zk, qr.u7.ok] at h
  exact zx h
theorem qr.u9.ok (k : Nat) (x0 : Sl) (K : KF α) :
  eC k qr.u9.c (fr25 x0) K =
   qr.u9.f k x0 (fun y0 => K .ret (za [(2, .ptr (some y0))])) :=
 (qr.u1.ok k x0 qr.u8.c K).trans
  (congrArg (fun z => qr.u1.f k x0 z) (funext fun y0 => (funext fun y1 => qr.u8.ok k y0 y1 K)))
theorem qr.ok (k : Nat) (x0 : Sl) (κ : Res->M α) :
  evF T (env k) k qr.c qr.res [.slice x0] κ = qr.f (k + 1) x0 (fun o0 => κ (.ret (.ptr (some o0)))) :=
 (qr.u9.ok k x0 (retK T qr.res κ)).trans (by kernel_rfl)
theorem qr.code : qr.c.code = zz Tryd.f30 := by kernel_rfl
noncomputable def qal.c : IC := qal.u1.c
noncomputable def qal.res : List ResultVar := [(.tmp 2)]
theorem qal.u1.ok (k : Nat) (x0 x1 x2 : Int) (x3 : TX) (x4 : Int) (K : KF α) :
  eC k qal.u1.c (za [(0, .agg [.int .i64 x0, .int .i64 x1, .int .i64 x2, .str x3, .int .i64 x4])]) K =
   qal.u1.f k x0 x1 x2 x3 x4 (fun y0 => K .ret (fr18 y0)) := by kernel_rfl
theorem qal.ok (k : Nat) (x0 x1 x2 : Int) (x3 : TX) (x4 : Int) (κ : Res->M α) :
  evF T (env k) k qal.c qal.res [.agg [.int .i64 x0, .int .i64 x1, .int .i64 x2, .str x3, .int .i64 x4]] κ = qal.f (k + 1) x0 x1 x2 x3 x4 (fun o0 => κ (.ret (.bool o0))) :=
 (qal.u1.ok k x0 x1 x2 x3 x4 (retK T qal.res κ)).trans (by kernel_rfl)
theorem qal.code : qal.c.code = zz Tryd.f59 := by kernel_rfl
noncomputable def qa.c : IC := qa.u29.c
noncomputable def qa.res : List ResultVar := [(.tmp 2), (.tmp 3)]
theorem qa.u1.ok (k : Nat) (x0 : Sl) (R : IC) (K : KF α) :
  eC k (qa.u1.c R) (fr25 x0) K =
   qa.u1.f k x0 (fun y0 y1 y2 => eC k R (za [(0, .slice y0), (4, .ptr (some y1)), (5, .map y2)]) K) (fun y0 y1 => K .ret (fr36 y0 y1)) := by kernel_rfl
theorem qa.u2.ok (k : Nat) (x0 : Sl) (x1 : Ad) (x2 : Option Nat) (R : IC) (K : KF α) :
  eC k (qa.u2.c R) (za [(0, .slice x0), (4, .ptr (some x1)), (5, .map x2)]) K =
   qa.u2.f k x0 x1 x2 (fun y0 y1 y2 y3 y4 => eC k R (za [(4, .ptr (some y0)), (5, .map y1), (14, .slice y2), (15, .int .i64 y3), (16, .int .i64 y4)]) K) := by kernel_rfl
theorem qa.u3.ok (k : Nat) (x0 : Ad) (x1 : Option Nat) (x2 : Sl) (x3 x4 : Int) (R : IC) (K : KF α) :
  eC k (qa.u3.c R) (za [(4, .ptr (some x0)), (5, .map x1), (14, .slice x2), (15, .int .i64 x3), (16, .int .i64 x4)]) K =
   qa.u3.f k x0 x1 x2 x3 x4 (fun y0 y1 y2 y3 y4 => eC k R (za [(4, .ptr (some y0)), (5, .map y1), (14, .slice y2), (15, .int .i64 y3), (16, .int .i64 y4)]) K) (K (.exit 0) (za [])) := by kernel_rfl
theorem qa.u4.ok (k : Nat) (x0 : Ad) (x1 : Option Nat) (x2 : Sl) (x3 x4 : Int) (R : IC) (K : KF α) :
  eC k (qa.u4.c R) (za [(4, .ptr (some x0)), (5, .map x1), (14, .slice x2), (15, .int .i64 x3), (16, .int .i64 x4)]) K =
   qa.u4.f k x0 x1 x2 x3 x4 (fun y0 y1 y2 y3 y4 y5 y6 => eC k R (za [(4, .ptr (some y0)), (5, .map y1), (6, .int .i64 y2), (7, .ptr (some y3)), (14, .slice y4), (15, .int .i64 y5), (16, .int .i64 y6)]) K) := by kernel_rfl
theorem qa.u5.ok (k : Nat) (x0 : Ad) (x1 : Option Nat) (x2 : Int) (x3 : Ad) (x4 : Sl) (x5 x6 : Int) (R : IC) (K : KF α) :
  eC k (qa.u5.c R) (za [(4, .ptr (some x0)), (5, .map x1), (6, .int .i64 x2), (7, .ptr (some x3)), (14, .slice x4), (15, .int .i64 x5), (16, .int .i64 x6)]) K =
   qa.u5.f k x0 x1 x2 x3 x4 x5 x6 (fun y0 y1 y2 y3 y4 y5 y6 y7 => eC k R (za [(4, .ptr (some y0)), (5, .map y1), (6, .int .i64 y2), (7, .ptr (some y3)), (14, .slice y4), (15, .int .i64 y5), (16, .int .i64 y6), (21, .bool y7)]) K) := by kernel_rfl
theorem qa.u6.ok (k : Nat) (x0 : Ad) (x1 : Option Nat) (x2 : Int) (x3 : Ad) (x4 : Sl) (x5 x6 : Int) (x7 : Bool) (K : KF α) :
  eC k qa.u6.c (za [(4, .ptr (some x0)), (5, .map x1), (6, .int .i64 x2), (7, .ptr (some x3)), (14, .slice x4), (15, .int .i64 x5), (16, .int .i64 x6), (21, .bool x7)]) K =
   qa.u6.f k x0 x1 x2 x3 x4 x5 x6 x7 (fun y0 y1 => K .ret (fr36 y0 y1)) := by kernel_rfl
theorem qa.u7.ok (k : Nat) (x0 : Ad) (x1 : Option Nat) (x2 : Int) (x3 : Ad) (x4 : Sl) (x5 x6 : Int) (x7 : Bool) (R : IC) (K : KF α) :
  eC k (qa.u7.c R) (za [(4, .ptr (some x0)), (5, .map x1), (6, .int .i64 x2), (7, .ptr (some x3)), (14, .slice x4), (15, .int .i64 x5), (16, .int .i64 x6), (21, .bool x7)]) K =
   qa.u7.f k x0 x1 x2 x3 x4 x5 x6 x7 (fun y0 y1 y2 y3 y4 y5 y6 y7 => eC k R (za [(4, .ptr (some y0)), (5, .map y1), (6, .int .i64 y2), (7, .ptr (some y3)), (14, .slice y4), (15, .int .i64 y5), (16, .int .i64 y6), (36, .bool y7)]) K) := by kernel_rfl
theorem qa.u8.ok (k : Nat) (x0 : Ad) (x1 : Option Nat) (x2 : Int) (x3 : Ad) (x4 : Sl) (x5 x6 : Int) (x7 : Bool) (K : KF α) :
  eC k qa.u8.c (za [(4, .ptr (some x0)), (5, .map x1), (6, .int .i64 x2), (7, .ptr (some x3)), (14, .slice x4), (15, .int .i64 x5), (16, .int .i64 x6), (36, .bool x7)]) K =
   qa.u8.f k x0 x1 x2 x3 x4 x5 x6 x7 (fun y0 y1 => K .ret (fr36 y0 y1)) := by kernel_rfl
theorem qa.u9.ok (k : Nat) (x0 : Ad) (x1 : Option Nat) (x2 : Int) (x3 : Ad) (x4 : Sl) (x5 x6 : Int) (x7 : Bool) (R : IC) (K : KF α) :
  eC k (qa.u9.c R) (za [(4, .ptr (some x0)), (5, .map x1), (6, .int .i64 x2), (7, .ptr (some x3)), (14, .slice x4), (15, .int .i64 x5), (16, .int .i64 x6), (36, .bool x7)]) K =
   qa.u9.f k x0 x1 x2 x3 x4 x5 x6 x7 (fun y0 y1 y2 y3 y4 y5 y6 y7 => eC k R (za [(4, .ptr (some y0)), (5, .map y1), (6, .int .i64 y2), (7, .ptr (some y3)), (14, .slice y4), (15, .int .i64 y5), (16, .int .i64 y6), (50, .bool y7)]) K) := by kernel_rfl
theorem qa.u10.ok (k : Nat) (x0 : Ad) (x1 : Option Nat) (x2 : Int) (x3 : Ad) (x4 : Sl) (x5 x6 : Int) (x7 : Bool) (K : KF α) :
  eC k qa.u10.c (za [(4, .ptr (some x0)), (5, .map x1), (6, .int .i64 x2), (7, .ptr (some x3)), (14, .slice x4), (15, .int .i64 x5), (16, .int .i64 x6), (50, .bool x7)]) K =
   qa.u10.f k x0 x1 x2 x3 x4 x5 x6 x7 (fun y0 y1 y2 y3 y4 y5 => K .normal (za [(4, .ptr (some y0)), (5, .map y1), (7, .ptr (some y2)), (14, .slice y3), (15, .int .i64 y4), (16, .int .i64 y5)])) (fun y0 y1 => K .ret (fr36 y0 y1)) := by kernel_rfl
theorem qa.u11.ok (k : Nat) (x0 : Ad) (x1 : Option Nat) (x2 : Int) (x3 : Ad) (x4 : Sl) (x5 x6 : Int) (x7 : Bool) (K : KF α) :
  eC k qa.u11.c (za [(4, .ptr (some x0)), (5, .map x1), (6, .int .i64 x2), (7, .ptr (some x3)), (14, .slice x4), (15, .int .i64 x5), (16, .int .i64 x6), (36, .bool x7)]) K =
   qa.u11.f k x0 x1 x2 x3 x4 x5 x6 x7 (fun y0 y1 y2 y3 y4 y5 => K .normal (za [(4, .ptr (some y0)), (5, .map y1), (7, .ptr (some y2)), (14, .slice y3), (15, .int .i64 y4), (16, .int .i64 y5)])) (fun y0 y1 => K .ret (fr36 y0 y1)) :=
 (qa.u9.ok k x0 x1 x2 x3 x4 x5 x6 x7 qa.u10.c K).trans
  (congrArg (fun z => qa.u9.f k x0 x1 x2 x3 x4 x5 x6 x7 z) (funext fun y0 => (funext fun y1 => (funext fun y2 => (funext fun y3 => (funext fun y4 => (funext fun y5 => (funext fun y6 => (funext fun y7 => qa.u10.ok k y0 y1 y2 y3 y4 y5 y6 y7 K)))))))))
theorem qa.u12.ok (k : Nat) (x0 : Ad) (x1 : Option Nat) (x2 : Int) (x3 : Ad) (x4 : Sl) (x5 x6 : Int) (x7 : Bool) (K : KF α) :
  eC k qa.u12.c (za [(4, .ptr (some x0)), (5, .map x1), (6, .int .i64 x2), (7, .ptr (some x3)), (14, .slice x4), (15, .int .i64 x5), (16, .int .i64 x6), (36, .bool x7)]) K =
   qa.u12.f k x0 x1 x2 x3 x4 x5 x6 x7 (fun y0 y1 y2 y3 y4 y5 => K .normal (za [(4, .ptr (some y0)), (5, .map y1), (7, .ptr (some y2)), (14, .slice y3), (15, .int .i64 y4), (16, .int .i64 y5)])) (fun y0 y1 => K .ret (fr36 y0 y1)) :=
 jw (g := x7) (by kernel_rfl) (qa.u8.ok k x0 x1 x2 x3 x4 x5 x6 x7 K) (qa.u11.ok k x0 x1 x2 x3 x4 x5 x6 x7 K)
theorem qa.u13.ok (k : Nat) (x0 : Ad) (x1 : Option Nat) (x2 : Int) (x3 : Ad) (x4 : Sl) (x5 x6 : Int) (x7 : Bool) (K : KF α) :
  eC k qa.u13.c (za [(4, .ptr (some x0)), (5, .map x1), (6, .int .i64 x2), (7, .ptr (some x3)), (14, .slice x4), (15, .int .i64 x5), (16, .int .i64 x6), (21, .bool x7)]) K =
   qa.u13.f k x0 x1 x2 x3 x4 x5 x6 x7 (fun y0 y1 y2 y3 y4 y5 => K .normal (za [(4, .ptr (some y0)), (5, .map y1), (7, .ptr (some y2)), (14, .slice y3), (15, .int .i64 y4), (16, .int .i64 y5)])) (fun y0 y1 => K .ret (fr36 y0 y1)) :=
 (qa.u7.ok k x0 x1 x2 x3 x4 x5 x6 x7 qa.u12.c K).trans
  (congrArg (fun z => qa.u7.f k x0 x1 x2 x3 x4 x5 x6 x7 z) (funext fun y0 => (funext fun y1 => (funext fun y2 => (funext fun y3 => (funext fun y4 => (funext fun y5 => (funext fun y6 => (funext fun y7 => qa.u12.ok k y0 y1 y2 y3 y4 y5 y6 y7 K)))))))))
theorem qa.u14.ok (k : Nat) (x0 : Ad) (x1 : Option Nat) (x2 : Int) (x3 : Ad) (x4 : Sl) (x5 x6 : Int) (x7 : Bool) (K : KF α) :
  eC k qa.u14.c (za [(4, .ptr (some x0)), (5, .map x1), (6, .int .i64 x2), (7, .ptr (some x3)), (14, .slice x4), (15, .int .i64 x5), (16, .int .i64 x6), (21, .bool x7)]) K =
   qa.u14.f k x0 x1 x2 x3 x4 x5 x6 x7 (fun y0 y1 y2 y3 y4 y5 => K .normal (za [(4, .ptr (some y0)), (5, .map y1), (7, .ptr (some y2)), (14, .slice y3), (15, .int .i64 y4), (16, .int .i64 y5)])) (fun y0 y1 => K .ret (fr36 y0 y1)) :=
 jw (g := x7) (by kernel_rfl) (qa.u6.ok k x0 x1 x2 x3 x4 x5 x6 x7 K) (qa.u13.ok k x0 x1 x2 x3 x4 x5 x6 x7 K)
theorem qa.u15.ok (k : Nat) (x0 : Ad) (x1 : Option Nat) (x2 : Int) (x3 : Ad) (x4 : Sl) (x5 x6 : Int) (K : KF α) :
  eC k qa.u15.c (za [(4, .ptr (some x0)), (5, .map x1), (6, .int .i64 x2), (7, .ptr (some x3)), (14, .slice x4), (15, .int .i64 x5), (16, .int .i64 x6)]) K =
   qa.u15.f k x0 x1 x2 x3 x4 x5 x6 (fun y0 y1 y2 y3 y4 y5 => K .normal (za [(4, .ptr (some y0)), (5, .map y1), (7, .ptr (some y2)), (14, .slice y3), (15, .int .i64 y4), (16, .int .i64 y5)])) (fun y0 y1 => K .ret (fr36 y0 y1)) :=
 (qa.u5.ok k x0 x1 x2 x3 x4 x5 x6 qa.u14.c K).trans
  (congrArg (fun z => qa.u5.f k x0 x1 x2 x3 x4 x5 x6 z) (funext fun y0 => (funext fun y1 => (funext fun y2 => (funext fun y3 => (funext fun y4 => (funext fun y5 => (funext fun y6 => (funext fun y7 => qa.u14.ok k y0 y1 y2 y3 y4 y5 y6 y7 K)))))))))
theorem qa.u16.ok (k : Nat) (x0 : Ad) (x1 : Option Nat) (x2 : Int) (x3 : Ad) (x4 : Sl) (x5 x6 : Int) (K : KF α) :
  eC k qa.u16.c (za [(4, .ptr (some x0)), (5, .map x1), (6, .int .i64 x2), (7, .ptr (some x3)), (14, .slice x4), (15, .int .i64 x5), (16, .int .i64 x6)]) K =
   qa.u16.f k x0 x1 x2 x3 x4 x5 x6 (fun y0 y1 y2 y3 y4 y5 => K .normal (za [(4, .ptr (some y0)), (5, .map y1), (7, .ptr (some y2)), (14, .slice y3), (15, .int .i64 y4), (16, .int .i64 y5)])) (fun y0 y1 => K .ret (fr36 y0 y1)) :=
 (zu.trans (qa.u15.ok k x0 x1 x2 x3 x4 x5 x6 (jt 2 K))).trans (by kernel_rfl)
theorem qa.u17.ok (k : Nat) (x0 : Ad) (x1 : Option Nat) (x2 : Ad) (x3 : Sl) (x4 x5 : Int) (K : KF α) :
  eC k qa.u17.c (za [(4, .ptr (some x0)), (5, .map x1), (7, .ptr (some x2)), (14, .slice x3), (15, .int .i64 x4), (16, .int .i64 x5)]) K =
   qa.u17.f k x0 x1 x2 x3 x4 x5 (fun y0 y1 y2 y3 y4 => K .normal (za [(4, .ptr (some y0)), (5, .map y1), (14, .slice y2), (15, .int .i64 y3), (16, .int .i64 y4)])) := by kernel_rfl
theorem qa.u18.ok (k : Nat) (x0 : Ad) (x1 : Option Nat) (x2 : Int) (x3 : Ad) (x4 : Sl) (x5 x6 : Int) (K : KF α) :
  eC k qa.u18.c (za [(4, .ptr (some x0)), (5, .map x1), (6, .int .i64 x2), (7, .ptr (some x3)), (14, .slice x4), (15, .int .i64 x5), (16, .int .i64 x6)]) K =
   qa.u18.f k x0 x1 x2 x3 x4 x5 x6 (fun y0 y1 y2 y3 y4 => K .normal (za [(4, .ptr (some y0)), (5, .map y1), (14, .slice y2), (15, .int .i64 y3), (16, .int .i64 y4)])) (fun y0 y1 => K .ret (fr36 y0 y1)) :=
 by
  have h := qa.u16.ok k x0 x1 x2 x3 x4 x5 x6 (seqK (fun ρ => eC k qa.u17.c ρ K) K)
  simp only [zf, zh, zj, zk, qa.u17.ok] at h
  exact zx h
theorem qa.u19.ok (k : Nat) (x0 : Ad) (x1 : Option Nat) (x2 : Sl) (x3 x4 : Int) (K : KF α) :
  eC k qa.u19.c (za [(4, .ptr (some x0)), (5, .map x1), (14, .slice x2), (15, .int .i64 x3), (16, .int .i64 x4)]) K =
   qa.u19.f k x0 x1 x2 x3 x4 (fun y0 y1 y2 y3 y4 => K .normal (za [(4, .ptr (some y0)), (5, .map y1), (14, .slice y2), (15, .int .i64 y3), (16, .int .i64 y4)])) (fun y0 y1 => K .ret (fr36 y0 y1)) :=
 (qa.u4.ok k x0 x1 x2 x3 x4 qa.u18.c K).trans
  (congrArg (fun z => qa.u4.f k x0 x1 x2 x3 x4 z) (funext fun y0 => (funext fun y1 => (funext fun y2 => (funext fun y3 => (funext fun y4 => (funext fun y5 => (funext fun y6 => qa.u18.ok k y0 y1 y2 y3 y4 y5 y6 K))))))))
theorem qa.u20.ok (k : Nat) (x0 : Ad) (x1 : Option Nat) (x2 : Sl) (x3 x4 : Int) (K : KF α) :
  eC k qa.u20.c (za [(4, .ptr (some x0)), (5, .map x1), (14, .slice x2), (15, .int .i64 x3), (16, .int .i64 x4)]) K =
   qa.u20.f k x0 x1 x2 x3 x4 (fun y0 y1 y2 y3 y4 => K .normal (za [(4, .ptr (some y0)), (5, .map y1), (14, .slice y2), (15, .int .i64 y3), (16, .int .i64 y4)])) (fun y0 y1 => K .ret (fr36 y0 y1)) :=
 (zu.trans (qa.u19.ok k x0 x1 x2 x3 x4 (jt 1 K))).trans (by kernel_rfl)
theorem qa.u21.ok (k : Nat) (x0 : Ad) (x1 : Option Nat) (x2 : Sl) (x3 x4 : Int) (K : KF α) :
  eC k qa.u21.c (za [(4, .ptr (some x0)), (5, .map x1), (14, .slice x2), (15, .int .i64 x3), (16, .int .i64 x4)]) K =
   qa.u21.f k x0 x1 x2 x3 x4 (fun y0 y1 y2 y3 y4 => K .normal (za [(4, .ptr (some y0)), (5, .map y1), (14, .slice y2), (15, .int .i64 y3), (16, .int .i64 y4)])) := by kernel_rfl
theorem qa.u22.ok (k : Nat) (x0 : Ad) (x1 : Option Nat) (x2 : Sl) (x3 x4 : Int) (K : KF α) :
  eC k qa.u22.c (za [(4, .ptr (some x0)), (5, .map x1), (14, .slice x2), (15, .int .i64 x3), (16, .int .i64 x4)]) K =
   qa.u22.f k x0 x1 x2 x3 x4 (fun y0 y1 y2 y3 y4 => K .normal (za [(4, .ptr (some y0)), (5, .map y1), (14, .slice y2), (15, .int .i64 y3), (16, .int .i64 y4)])) (fun y0 y1 => K .ret (fr36 y0 y1)) :=
 by
  have h := qa.u20.ok k x0 x1 x2 x3 x4 (seqK (fun ρ => eC k qa.u21.c ρ K) K)
  simp only [zf, zh, zj, zk, qa.u21.ok] at h
  exact zx h
theorem qa.u23.ok (k : Nat) (x0 : Ad) (x1 : Option Nat) (x2 : Sl) (x3 x4 : Int) (K : KF α) :
  eC k qa.u23.c (za [(4, .ptr (some x0)), (5, .map x1), (14, .slice x2), (15, .int .i64 x3), (16, .int .i64 x4)]) K =
   qa.u23.f k x0 x1 x2 x3 x4 (fun y0 y1 y2 y3 y4 => K .normal (za [(4, .ptr (some y0)), (5, .map y1), (14, .slice y2), (15, .int .i64 y3), (16, .int .i64 y4)])) (fun y0 y1 => K .ret (fr36 y0 y1)) (K (.exit 0) (za [])) :=
 (qa.u3.ok k x0 x1 x2 x3 x4 qa.u22.c K).trans
  (congrArg (fun z => qa.u3.f k x0 x1 x2 x3 x4 z (K (.exit 0) (za []))) (funext fun y0 => (funext fun y1 => (funext fun y2 => (funext fun y3 => (funext fun y4 => qa.u22.ok k y0 y1 y2 y3 y4 K))))))
theorem qa.u24.ls (k : Nat) (kr : Int->Int->M α) (kx0 : M α) (j : Nat) (x0 : Ad) (x1 : Option Nat) (x2 : Sl) (x3 x4 : Int) : qa.u24.l k kr kx0 (j + 1) x0 x1 x2 x3 x4 =
 qa.u23.f k x0 x1 x2 x3 x4 (fun y0 y1 y2 y3 y4 => qa.u24.l k kr kx0 j y0 y1 y2 y3 y4) kr kx0 := rfl
theorem qa.u24.okl (k : Nat) (K : KF α) : ∀ (j : Nat) (x0 : Ad) (x1 : Option Nat) (x2 : Sl) (x3 x4 : Int),
  zw (eC k qa.u23.c) [4, 5, 14, 15, 16] j (za [(4, .ptr (some x0)), (5, .map x1), (14, .slice x2), (15, .int .i64 x3), (16, .int .i64 x4)]) K = qa.u24.l k (fun y0 y1 => K .ret (fr36 y0 y1)) (K (.exit 0) (za [])) j x0 x1 x2 x3 x4
 | 0, _, _, _, _, _ => rfl
 | j + 1, x0, x1, x2, x3, x4 => by
   have h := qa.u23.ok k x0 x1 x2 x3 x4 (seqK (fun ρ => zw (eC k qa.u23.c) [4, 5, 14, 15, 16] j ρ K) K)
   simp only [zh, zj, zk, zf, qa.u24.okl k K j] at h
   exact (ja (by kernel_rfl) h).trans (qa.u24.ls k (fun y0 y1 => K .ret (fr36 y0 y1)) (K (.exit 0) (za [])) j x0 x1 x2 x3 x4).symm
theorem qa.u24.ok (k : Nat) (x0 : Ad) (x1 : Option Nat) (x2 : Sl) (x3 x4 : Int) (K : KF α) :
  eC k qa.u24.c (za [(4, .ptr (some x0)), (5, .map x1), (14, .slice x2), (15, .int .i64 x3), (16, .int .i64 x4)]) K =
   qa.u24.f k x0 x1 x2 x3 x4 (fun y0 y1 => K .ret (fr36 y0 y1)) (K (.exit 0) (za [])) :=
 jy.trans <| (jb (body := eC k qa.u23.c) (keep := [4, 5, 14, 15, 16]) (ρ := (za [(4, .ptr (some x0)), (5, .map x1), (14, .slice x2), (15, .int .i64 x3), (16, .int .i64 x4)])) (ρ' := (za [(4, .ptr (some x0)), (5, .map x1), (14, .slice x2), (15, .int .i64 x3), (16, .int .i64 x4)])) (by kernel_rfl) k K).trans (qa.u24.okl k K k x0 x1 x2 x3 x4)
theorem qa.u25.ok (k : Nat) (x0 : Ad) (x1 : Option Nat) (x2 : Sl) (x3 x4 : Int) (K : KF α) :
  eC k qa.u25.c (za [(4, .ptr (some x0)), (5, .map x1), (14, .slice x2), (15, .int .i64 x3), (16, .int .i64 x4)]) K =
   qa.u25.f k x0 x1 x2 x3 x4 (K .normal (za [])) (fun y0 y1 => K .ret (fr36 y0 y1)) :=
 (zu.trans (qa.u24.ok k x0 x1 x2 x3 x4 (jt 0 K))).trans (by kernel_rfl)
theorem qa.u26.ok (k : Nat) (x0 : Sl) (x1 : Ad) (x2 : Option Nat) (K : KF α) :
  eC k qa.u26.c (za [(0, .slice x0), (4, .ptr (some x1)), (5, .map x2)]) K =
   qa.u26.f k x0 x1 x2 (K .normal (za [])) (fun y0 y1 => K .ret (fr36 y0 y1)) :=
 (qa.u2.ok k x0 x1 x2 qa.u25.c K).trans
  (congrArg (fun z => qa.u2.f k x0 x1 x2 z) (funext fun y0 => (funext fun y1 => (funext fun y2 => (funext fun y3 => (funext fun y4 => qa.u25.ok k y0 y1 y2 y3 y4 K))))))
theorem qa.u27.ok (k : Nat) (K : KF α) :
  eC k qa.u27.c (za []) K =
   qa.u27.f k (fun y0 y1 => K .ret (fr36 y0 y1)) := by kernel_rfl
theorem qa.u28.ok (k : Nat) (x0 : Sl) (x1 : Ad) (x2 : Option Nat) (K : KF α) :
  eC k qa.u28.c (za [(0, .slice x0), (4, .ptr (some x1)), (5, .map x2)]) K =
   qa.u28.f k x0 x1 x2 (fun y0 y1 => K .ret (fr36 y0 y1)) :=
 by
  have h := qa.u26.ok k x0 x1 x2 (seqK (fun ρ => eC k qa.u27.c ρ K) K)
  simp only [zf, zh, zj, zk, qa.u27.ok] at h
  exact zx h
theorem qa.u29.ok (k : Nat) (x0 : Sl) (K : KF α) :
  eC k qa.u29.c (fr25 x0) K =
   qa.u29.f k x0 (fun y0 y1 => K .ret (fr36 y0 y1)) :=
 (qa.u1.ok k x0 qa.u28.c K).trans
  (congrArg (fun z => qa.u1.f k x0 z (fun y0 y1 => K .ret (fr36 y0 y1))) (funext fun y0 => (funext fun y1 => (funext fun y2 => qa.u28.ok k y0 y1 y2 K))))
theorem qa.ok (k : Nat) (x0 : Sl) (κ : Res->M α) :
  evF T (env k) k qa.c qa.res [.slice x0] κ = qa.f (k + 1) x0 (fun o0 o1 => κ (.ret (.tuple [.int .i64 o0, .int .i64 o1]))) :=
 (qa.u29.ok k x0 (retK T qa.res κ)).trans (by kernel_rfl)
theorem qa.code : qa.c.code = zz Tryd.f44 := by kernel_rfl
noncomputable def ql.c : IC := ql.u9.c
noncomputable def ql.res : List ResultVar := [(.tmp 2)]
theorem ql.u1.ok (k : Nat) (x0 : Sl) (R : IC) (K : KF α) :
  eC k (ql.u1.c R) (fr25 x0) K =
   ql.u1.f k x0 (fun y0 => eC k R (fr35 y0) K) := by kernel_rfl
theorem ql.u2.ok (k : Nat) (x0 : Sl) (R : IC) (K : KF α) :
  eC k (ql.u2.c R) (fr35 x0) K =
   ql.u2.f k x0 (fun y0 y1 y2 => eC k R (fr37 y0 y1 y2) K) := by kernel_rfl
theorem ql.u3.ok (k : Nat) (x0 : Sl) (x1 x2 : Int) (K : KF α) :
  eC k ql.u3.c (fr37 x0 x1 x2) K =
   ql.u3.f k x0 x1 x2 (fun y0 y1 y2 => K .normal (fr37 y0 y1 y2)) (fun y0 => K (.exit 0) (fr35 y0)) := by kernel_rfl
theorem ql.u4.ls (k : Nat) (kx0 : Sl->M α) (j : Nat) (x0 : Sl) (x1 x2 : Int) : ql.u4.l k kx0 (j + 1) x0 x1 x2 =
 ql.u3.f k x0 x1 x2 (fun y0 y1 y2 => ql.u4.l k kx0 j y0 y1 y2) kx0 := rfl
theorem ql.u4.okl (k : Nat) (K : KF α) : ∀ (j : Nat) (x0 : Sl) (x1 x2 : Int),
  zw (eC k ql.u3.c) [3, 10, 11] j (fr37 x0 x1 x2) K = ql.u4.l k (fun y0 => K (.exit 0) (fr35 y0)) j x0 x1 x2
 | 0, _, _, _ => rfl
 | j + 1, x0, x1, x2 => by
   have h := ql.u3.ok k x0 x1 x2 (seqK (fun ρ => zw (eC k ql.u3.c) [3, 10, 11] j ρ K) K)
   simp only [zh, zj, zk, zf, ql.u4.okl k K j] at h
   exact (ja (by kernel_rfl) h).trans (ql.u4.ls k (fun y0 => K (.exit 0) (fr35 y0)) j x0 x1 x2).symm
theorem ql.u4.ok (k : Nat) (x0 : Sl) (x1 x2 : Int) (K : KF α) :
  eC k ql.u4.c (fr37 x0 x1 x2) K =
   ql.u4.f k x0 x1 x2 (fun y0 => K (.exit 0) (fr35 y0)) :=
 jy.trans <| (jb (body := eC k ql.u3.c) (keep := [3, 10, 11]) (ρ := (fr37 x0 x1 x2)) (ρ' := (fr37 x0 x1 x2)) (by kernel_rfl) k K).trans (ql.u4.okl k K k x0 x1 x2)
theorem ql.u5.ok (k : Nat) (x0 : Sl) (x1 x2 : Int) (K : KF α) :
  eC k ql.u5.c (fr37 x0 x1 x2) K =
   ql.u5.f k x0 x1 x2 (fun y0 => K .normal (fr35 y0)) :=
 (zu.trans (ql.u4.ok k x0 x1 x2 (jt 0 K))).trans (by kernel_rfl)
theorem ql.u6.ok (k : Nat) (x0 : Sl) (K : KF α) :
  eC k ql.u6.c (fr35 x0) K =
   ql.u6.f k x0 (fun y0 => K .normal (fr35 y0)) :=
 (ql.u2.ok k x0 ql.u5.c K).trans
  (congrArg (fun z => ql.u2.f k x0 z) (funext fun y0 => (funext fun y1 => (funext fun y2 => ql.u5.ok k y0 y1 y2 K))))
theorem ql.u7.ok (k : Nat) (x0 : Sl) (K : KF α) :
  eC k ql.u7.c (fr35 x0) K =
   ql.u7.f k x0 (fun y0 => K .ret (fr18 y0)) := by kernel_rfl
theorem ql.u8.ok (k : Nat) (x0 : Sl) (K : KF α) :
  eC k ql.u8.c (fr35 x0) K =
   ql.u8.f k x0 (fun y0 => K .ret (fr18 y0)) :=
 by
  have h := ql.u6.ok k x0 (seqK (fun ρ => eC k ql.u7.c ρ K) K)
  simp only [zf, zh, zj, zk, ql.u7.ok] at h
  exact zx h
theorem ql.u9.ok (k : Nat) (x0 : Sl) (K : KF α) :
  eC k ql.u9.c (fr25 x0) K =
   ql.u9.f k x0 (fun y0 => K .ret (fr18 y0)) :=
 (ql.u1.ok k x0 ql.u8.c K).trans
  (congrArg (fun z => ql.u1.f k x0 z) (funext fun y0 => ql.u8.ok k y0 K))
theorem ql.ok (k : Nat) (x0 : Sl) (κ : Res->M α) :
  evF T (env k) k ql.c ql.res [.slice x0] κ = ql.f (k + 1) x0 (fun o0 => κ (.ret (.bool o0))) :=
 (ql.u9.ok k x0 (retK T ql.res κ)).trans (by kernel_rfl)
theorem ql.code : ql.c.code = zz Tryd.f28 := by kernel_rfl
noncomputable def qaf.c : IC := qaf.u1.c
noncomputable def qaf.res : List ResultVar := [(.tmp 2)]
theorem qaf.u1.ok (k : Nat) (x0 : Sl) (K : KF α) :
  eC k qaf.u1.c (fr25 x0) K =
   qaf.u1.f k x0 (fun y0 => K .ret (fr18 y0)) := by kernel_rfl
theorem qaf.ok (k : Nat) (x0 : Sl) (κ : Res->M α) :
  evF T (env k) k qaf.c qaf.res [.slice x0] κ = qaf.f (k + 1) x0 (fun o0 => κ (.ret (.bool o0))) :=
 (qaf.u1.ok k x0 (retK T qaf.res κ)).trans (by kernel_rfl)
theorem qaf.code : qaf.c.code = zz Tryd.f13 := by kernel_rfl
noncomputable def qap.c : IC := qap.u1.c
noncomputable def qap.res : List ResultVar := [(.tmp 2)]
theorem qap.u1.ok (k : Nat) (x0 : Sl) (K : KF α) :
  eC k qap.u1.c (fr25 x0) K =
   qap.u1.f k x0 (fun y0 => K .ret (fr26 y0)) := by kernel_rfl
theorem qap.ok (k : Nat) (x0 : Sl) (κ : Res->M α) :
  evF T (env k) k qap.c qap.res [.slice x0] κ = qap.f (k + 1) x0 (fun o0 => κ (.ret (.slice o0))) :=
 (qap.u1.ok k x0 (retK T qap.res κ)).trans (by kernel_rfl)
theorem qap.code : qap.c.code = zz Tryd.f15 := by kernel_rfl
noncomputable def qq.c : IC := qq.u9.c
noncomputable def qq.res : List ResultVar := [(.tmp 2)]
theorem qq.u1.ok (k : Nat) (x0 : Sl) (R : IC) (K : KF α) :
  eC k (qq.u1.c R) (fr25 x0) K =
   qq.u1.f k x0 (fun y0 => eC k R (fr35 y0) K) := by kernel_rfl
theorem qq.u2.ok (k : Nat) (x0 : Sl) (R : IC) (K : KF α) :
  eC k (qq.u2.c R) (fr35 x0) K =
   qq.u2.f k x0 (fun y0 y1 y2 => eC k R (fr38 y0 y1 y2) K) := by kernel_rfl
theorem qq.u3.ok (k : Nat) (x0 : Sl) (x1 x2 : Int) (K : KF α) :
  eC k qq.u3.c (fr38 x0 x1 x2) K =
   qq.u3.f k x0 x1 x2 (fun y0 y1 y2 => K .normal (fr38 y0 y1 y2)) (fun y0 => K (.exit 0) (fr35 y0)) := by kernel_rfl
theorem qq.u4.ls (k : Nat) (kx0 : Sl->M α) (j : Nat) (x0 : Sl) (x1 x2 : Int) : qq.u4.l k kx0 (j + 1) x0 x1 x2 =
 qq.u3.f k x0 x1 x2 (fun y0 y1 y2 => qq.u4.l k kx0 j y0 y1 y2) kx0 := rfl
theorem qq.u4.okl (k : Nat) (K : KF α) : ∀ (j : Nat) (x0 : Sl) (x1 x2 : Int),
  zw (eC k qq.u3.c) [3, 8, 9] j (fr38 x0 x1 x2) K = qq.u4.l k (fun y0 => K (.exit 0) (fr35 y0)) j x0 x1 x2
 | 0, _, _, _ => rfl
 | j + 1, x0, x1, x2 => by
   have h := qq.u3.ok k x0 x1 x2 (seqK (fun ρ => zw (eC k qq.u3.c) [3, 8, 9] j ρ K) K)
   simp only [zh, zj, zk, zf, qq.u4.okl k K j] at h
   exact (ja (by kernel_rfl) h).trans (qq.u4.ls k (fun y0 => K (.exit 0) (fr35 y0)) j x0 x1 x2).symm
theorem qq.u4.ok (k : Nat) (x0 : Sl) (x1 x2 : Int) (K : KF α) :
  eC k qq.u4.c (fr38 x0 x1 x2) K =
   qq.u4.f k x0 x1 x2 (fun y0 => K (.exit 0) (fr35 y0)) :=
 jy.trans <| (jb (body := eC k qq.u3.c) (keep := [3, 8, 9]) (ρ := (fr38 x0 x1 x2)) (ρ' := (fr38 x0 x1 x2)) (by kernel_rfl) k K).trans (qq.u4.okl k K k x0 x1 x2)
theorem qq.u5.ok (k : Nat) (x0 : Sl) (x1 x2 : Int) (K : KF α) :
  eC k qq.u5.c (fr38 x0 x1 x2) K =
   qq.u5.f k x0 x1 x2 (fun y0 => K .normal (fr35 y0)) :=
 (zu.trans (qq.u4.ok k x0 x1 x2 (jt 0 K))).trans (by kernel_rfl)
theorem qq.u6.ok (k : Nat) (x0 : Sl) (K : KF α) :
  eC k qq.u6.c (fr35 x0) K =
   qq.u6.f k x0 (fun y0 => K .normal (fr35 y0)) :=
 (qq.u2.ok k x0 qq.u5.c K).trans
  (congrArg (fun z => qq.u2.f k x0 z) (funext fun y0 => (funext fun y1 => (funext fun y2 => qq.u5.ok k y0 y1 y2 K))))
theorem qq.u7.ok (k : Nat) (x0 : Sl) (K : KF α) :
  eC k qq.u7.c (fr35 x0) K =
   qq.u7.f k x0 (fun y0 => K .ret (fr26 y0)) := by kernel_rfl
theorem qq.u8.ok (k : Nat) (x0 : Sl) (K : KF α) :
  eC k qq.u8.c (fr35 x0) K =
   qq.u8.f k x0 (fun y0 => K .ret (fr26 y0)) :=
 by
  have h := qq.u6.ok k x0 (seqK (fun ρ => eC k qq.u7.c ρ K) K)
  simp only [zf, zh, zj, zk, qq.u7.ok] at h
  exact zx h
theorem qq.u9.ok (k : Nat) (x0 : Sl) (K : KF α) :
  eC k qq.u9.c (fr25 x0) K =
   qq.u9.f k x0 (fun y0 => K .ret (fr26 y0)) :=
 (qq.u1.ok k x0 qq.u8.c K).trans
  (congrArg (fun z => qq.u1.f k x0 z) (funext fun y0 => qq.u8.ok k y0 K))
theorem qq.ok (k : Nat) (x0 : Sl) (κ : Res->M α) :
  evF T (env k) k qq.c qq.res [.slice x0] κ = qq.f (k + 1) x0 (fun o0 => κ (.ret (.slice o0))) :=
 (qq.u9.ok k x0 (retK T qq.res κ)).trans (by kernel_rfl)
theorem qq.code : qq.c.code = zz Tryd.f23 := by kernel_rfl
noncomputable def qb.c : IC := qb.u27.c
noncomputable def qb.res : List ResultVar := [(.tmp 2)]
theorem qb.u1.ok (k : Nat) (x0 : Sl) (R : IC) (K : KF α) :
  eC k (qb.u1.c R) (fr25 x0) K =
   qb.u1.f k x0 (fun y0 y1 y2 => eC k R (fr39 y0 y1 y2) K) (fun y0 => K .ret (fr26 y0)) := by kernel_rfl
theorem qb.u2.ok (k : Nat) (x0 x1 x2 : Sl) (R : IC) (K : KF α) :
  eC k (qb.u2.c R) (fr39 x0 x1 x2) K =
   qb.u2.f k x0 x1 x2 (fun y0 y1 y2 y3 y4 => eC k R (fr40 y0 y1 y2 y3 y4) K) := by kernel_rfl
theorem qb.u3.ok (k : Nat) (x0 x1 x2 : Sl) (x3 x4 : Int) (R : IC) (K : KF α) :
  eC k (qb.u3.c R) (fr40 x0 x1 x2 x3 x4) K =
   qb.u3.f k x0 x1 x2 x3 x4 (fun y0 y1 y2 y3 y4 => eC k R (fr40 y0 y1 y2 y3 y4) K) (fun y0 => K (.exit 0) (fr19 y0)) := by kernel_rfl
theorem qb.u4.ok (k : Nat) (x0 x1 x2 : Sl) (x3 x4 : Int) (R : IC) (K : KF α) :
  eC k (qb.u4.c R) (fr40 x0 x1 x2 x3 x4) K =
   qb.u4.f k x0 x1 x2 x3 x4 (fun y0 y1 y2 y3 y4 y5 y6 y7 => eC k R (za [(3, .slice y0), (4, .slice y1), (5, .int .i64 y2), (6, .ptr (some y3)), (15, .slice y4), (16, .int .i64 y5), (17, .int .i64 y6), (23, .int .i64 y7)]) K) := by kernel_rfl
theorem qb.u5.ok (k : Nat) (x0 x1 : Sl) (x2 : Int) (x3 : Ad) (x4 : Sl) (x5 x6 x7 : Int) (R : IC) (K : KF α) :
  eC k (qb.u5.c R) (za [(3, .slice x0), (4, .slice x1), (5, .int .i64 x2), (6, .ptr (some x3)), (15, .slice x4), (16, .int .i64 x5), (17, .int .i64 x6), (23, .int .i64 x7)]) K =
   qb.u5.f k x0 x1 x2 x3 x4 x5 x6 x7 (fun y0 y1 y2 y3 y4 y5 y6 y7 y8 => eC k R (za [(3, .slice y0), (4, .slice y1), (5, .int .i64 y2), (6, .ptr (some y3)), (15, .slice y4), (16, .int .i64 y5), (17, .int .i64 y6), (23, .int .i64 y7), (24, .bool y8)]) K) := by kernel_rfl
theorem qb.u6.ok (k : Nat) (x0 x1 : Sl) (x2 : Int) (x3 : Ad) (x4 : Sl) (x5 x6 x7 : Int) (x8 : Bool) (K : KF α) :
  eC k qb.u6.c (za [(3, .slice x0), (4, .slice x1), (5, .int .i64 x2), (6, .ptr (some x3)), (15, .slice x4), (16, .int .i64 x5), (17, .int .i64 x6), (23, .int .i64 x7), (24, .bool x8)]) K =
   qb.u6.f k x0 x1 x2 x3 x4 x5 x6 x7 x8 (fun y0 y1 y2 y3 y4 => K .normal (fr40 y0 y1 y2 y3 y4)) := by kernel_rfl
theorem qb.u7.ok (k : Nat) (x0 x1 : Sl) (x2 : Int) (x3 : Ad) (x4 : Sl) (x5 x6 x7 : Int) (x8 : Bool) (R : IC) (K : KF α) :
  eC k (qb.u7.c R) (za [(3, .slice x0), (4, .slice x1), (5, .int .i64 x2), (6, .ptr (some x3)), (15, .slice x4), (16, .int .i64 x5), (17, .int .i64 x6), (23, .int .i64 x7), (24, .bool x8)]) K =
   qb.u7.f k x0 x1 x2 x3 x4 x5 x6 x7 x8 (fun y0 y1 y2 y3 y4 y5 y6 y7 y8 => eC k R (za [(3, .slice y0), (4, .slice y1), (5, .int .i64 y2), (6, .ptr (some y3)), (15, .slice y4), (16, .int .i64 y5), (17, .int .i64 y6), (23, .int .i64 y7), (34, .bool y8)]) K) := by kernel_rfl
theorem qb.u8.ok (k : Nat) (x0 x1 : Sl) (x2 : Int) (x3 : Ad) (x4 : Sl) (x5 x6 x7 : Int) (x8 : Bool) (K : KF α) :
  eC k qb.u8.c (za [(3, .slice x0), (4, .slice x1), (5, .int .i64 x2), (6, .ptr (some x3)), (15, .slice x4), (16, .int .i64 x5), (17, .int .i64 x6), (23, .int .i64 x7), (34, .bool x8)]) K =
   qb.u8.f k x0 x1 x2 x3 x4 x5 x6 x7 x8 (fun y0 y1 y2 y3 y4 => K .normal (fr40 y0 y1 y2 y3 y4)) := by kernel_rfl
theorem qb.u9.ok (k : Nat) (x0 x1 : Sl) (x2 : Int) (x3 : Ad) (x4 : Sl) (x5 x6 x7 : Int) (x8 : Bool) (R : IC) (K : KF α) :
  eC k (qb.u9.c R) (za [(3, .slice x0), (4, .slice x1), (5, .int .i64 x2), (6, .ptr (some x3)), (15, .slice x4), (16, .int .i64 x5), (17, .int .i64 x6), (23, .int .i64 x7), (34, .bool x8)]) K =
   qb.u9.f k x0 x1 x2 x3 x4 x5 x6 x7 x8 (fun y0 y1 y2 y3 y4 y5 y6 y7 y8 => eC k R (za [(3, .slice y0), (4, .slice y1), (5, .int .i64 y2), (6, .ptr (some y3)), (15, .slice y4), (16, .int .i64 y5), (17, .int .i64 y6), (23, .int .i64 y7), (51, .bool y8)]) K) := by kernel_rfl
theorem qb.u10.ok (k : Nat) (x0 x1 : Sl) (x2 : Int) (x3 : Ad) (x4 : Sl) (x5 x6 x7 : Int) (x8 : Bool) (K : KF α) :
  eC k qb.u10.c (za [(3, .slice x0), (4, .slice x1), (5, .int .i64 x2), (6, .ptr (some x3)), (15, .slice x4), (16, .int .i64 x5), (17, .int .i64 x6), (23, .int .i64 x7), (51, .bool x8)]) K =
   qb.u10.f k x0 x1 x2 x3 x4 x5 x6 x7 x8 (fun y0 y1 y2 y3 y4 => K .normal (fr40 y0 y1 y2 y3 y4)) := by kernel_rfl
theorem qb.u11.ok (k : Nat) (x0 x1 : Sl) (x2 : Int) (x3 : Ad) (x4 : Sl) (x5 x6 x7 : Int) (x8 : Bool) (K : KF α) :
  eC k qb.u11.c (za [(3, .slice x0), (4, .slice x1), (5, .int .i64 x2), (6, .ptr (some x3)), (15, .slice x4), (16, .int .i64 x5), (17, .int .i64 x6), (23, .int .i64 x7), (34, .bool x8)]) K =
   qb.u11.f k x0 x1 x2 x3 x4 x5 x6 x7 x8 (fun y0 y1 y2 y3 y4 => K .normal (fr40 y0 y1 y2 y3 y4)) :=
 (qb.u9.ok k x0 x1 x2 x3 x4 x5 x6 x7 x8 qb.u10.c K).trans
  (congrArg (fun z => qb.u9.f k x0 x1 x2 x3 x4 x5 x6 x7 x8 z) (funext fun y0 => (funext fun y1 => (funext fun y2 => (funext fun y3 => (funext fun y4 => (funext fun y5 => (funext fun y6 => (funext fun y7 => (funext fun y8 => qb.u10.ok k y0 y1 y2 y3 y4 y5 y6 y7 y8 K))))))))))
theorem qb.u12.ok (k : Nat) (x0 x1 : Sl) (x2 : Int) (x3 : Ad) (x4 : Sl) (x5 x6 x7 : Int) (x8 : Bool) (K : KF α) :
  eC k qb.u12.c (za [(3, .slice x0), (4, .slice x1), (5, .int .i64 x2), (6, .ptr (some x3)), (15, .slice x4), (16, .int .i64 x5), (17, .int .i64 x6), (23, .int .i64 x7), (34, .bool x8)]) K =
   qb.u12.f k x0 x1 x2 x3 x4 x5 x6 x7 x8 (fun y0 y1 y2 y3 y4 => K .normal (fr40 y0 y1 y2 y3 y4)) :=
 jw (g := x8) (by kernel_rfl) (qb.u8.ok k x0 x1 x2 x3 x4 x5 x6 x7 x8 K) (qb.u11.ok k x0 x1 x2 x3 x4 x5 x6 x7 x8 K)
theorem qb.u13.ok (k : Nat) (x0 x1 : Sl) (x2 : Int) (x3 : Ad) (x4 : Sl) (x5 x6 x7 : Int) (x8 : Bool) (K : KF α) :
  eC k qb.u13.c (za [(3, .slice x0), (4, .slice x1), (5, .int .i64 x2), (6, .ptr (some x3)), (15, .slice x4), (16, .int .i64 x5), (17, .int .i64 x6), (23, .int .i64 x7), (24, .bool x8)]) K =
   qb.u13.f k x0 x1 x2 x3 x4 x5 x6 x7 x8 (fun y0 y1 y2 y3 y4 => K .normal (fr40 y0 y1 y2 y3 y4)) :=
 (qb.u7.ok k x0 x1 x2 x3 x4 x5 x6 x7 x8 qb.u12.c K).trans
  (congrArg (fun z => qb.u7.f k x0 x1 x2 x3 x4 x5 x6 x7 x8 z) (funext fun y0 => (funext fun y1 => (funext fun y2 => (funext fun y3 => (funext fun y4 => (funext fun y5 => (funext fun y6 => (funext fun y7 => (funext fun y8 => qb.u12.ok k y0 y1 y2 y3 y4 y5 y6 y7 y8 K))))))))))
theorem qb.u14.ok (k : Nat) (x0 x1 : Sl) (x2 : Int) (x3 : Ad) (x4 : Sl) (x5 x6 x7 : Int) (x8 : Bool) (K : KF α) :
  eC k qb.u14.c (za [(3, .slice x0), (4, .slice x1), (5, .int .i64 x2), (6, .ptr (some x3)), (15, .slice x4), (16, .int .i64 x5), (17, .int .i64 x6), (23, .int .i64 x7), (24, .bool x8)]) K =
   qb.u14.f k x0 x1 x2 x3 x4 x5 x6 x7 x8 (fun y0 y1 y2 y3 y4 => K .normal (fr40 y0 y1 y2 y3 y4)) :=
 jw (g := x8) (by kernel_rfl) (qb.u6.ok k x0 x1 x2 x3 x4 x5 x6 x7 x8 K) (qb.u13.ok k x0 x1 x2 x3 x4 x5 x6 x7 x8 K)
theorem qb.u15.ok (k : Nat) (x0 x1 : Sl) (x2 : Int) (x3 : Ad) (x4 : Sl) (x5 x6 x7 : Int) (K : KF α) :
  eC k qb.u15.c (za [(3, .slice x0), (4, .slice x1), (5, .int .i64 x2), (6, .ptr (some x3)), (15, .slice x4), (16, .int .i64 x5), (17, .int .i64 x6), (23, .int .i64 x7)]) K =
   qb.u15.f k x0 x1 x2 x3 x4 x5 x6 x7 (fun y0 y1 y2 y3 y4 => K .normal (fr40 y0 y1 y2 y3 y4)) :=
 (qb.u5.ok k x0 x1 x2 x3 x4 x5 x6 x7 qb.u14.c K).trans
  (congrArg (fun z => qb.u5.f k x0 x1 x2 x3 x4 x5 x6 x7 z) (funext fun y0 => (funext fun y1 => (funext fun y2 => (funext fun y3 => (funext fun y4 => (funext fun y5 => (funext fun y6 => (funext fun y7 => (funext fun y8 => qb.u14.ok k y0 y1 y2 y3 y4 y5 y6 y7 y8 K))))))))))
theorem qb.u16.ok (k : Nat) (x0 x1 : Sl) (x2 : Int) (x3 : Ad) (x4 : Sl) (x5 x6 x7 : Int) (K : KF α) :
  eC k qb.u16.c (za [(3, .slice x0), (4, .slice x1), (5, .int .i64 x2), (6, .ptr (some x3)), (15, .slice x4), (16, .int .i64 x5), (17, .int .i64 x6), (23, .int .i64 x7)]) K =
   qb.u16.f k x0 x1 x2 x3 x4 x5 x6 x7 (fun y0 y1 y2 y3 y4 => K .normal (fr40 y0 y1 y2 y3 y4)) :=
 (zu.trans (qb.u15.ok k x0 x1 x2 x3 x4 x5 x6 x7 (jt 2 K))).trans (by kernel_rfl)
theorem qb.u17.ok (k : Nat) (x0 x1 x2 : Sl) (x3 x4 : Int) (K : KF α) :
  eC k qb.u17.c (fr40 x0 x1 x2 x3 x4) K =
   qb.u17.f k x0 x1 x2 x3 x4 (fun y0 y1 y2 y3 y4 => K .normal (fr40 y0 y1 y2 y3 y4)) :=
 (qb.u4.ok k x0 x1 x2 x3 x4 qb.u16.c K).trans
  (congrArg (fun z => qb.u4.f k x0 x1 x2 x3 x4 z) (funext fun y0 => (funext fun y1 => (funext fun y2 => (funext fun y3 => (funext fun y4 => (funext fun y5 => (funext fun y6 => (funext fun y7 => qb.u16.ok k y0 y1 y2 y3 y4 y5 y6 y7 K)))))))))
theorem qb.u18.ok (k : Nat) (x0 x1 x2 : Sl) (x3 x4 : Int) (K : KF α) :
  eC k qb.u18.c (fr40 x0 x1 x2 x3 x4) K =
   qb.u18.f k x0 x1 x2 x3 x4 (fun y0 y1 y2 y3 y4 => K .normal (fr40 y0 y1 y2 y3 y4)) :=
 (zu.trans (qb.u17.ok k x0 x1 x2 x3 x4 (jt 1 K))).trans (by kernel_rfl)
theorem qb.u19.ok (k : Nat) (x0 x1 x2 : Sl) (x3 x4 : Int) (K : KF α) :
  eC k qb.u19.c (fr40 x0 x1 x2 x3 x4) K =
   qb.u19.f k x0 x1 x2 x3 x4 (fun y0 y1 y2 y3 y4 => K .normal (fr40 y0 y1 y2 y3 y4)) := by kernel_rfl
theorem qb.u20.ok (k : Nat) (x0 x1 x2 : Sl) (x3 x4 : Int) (K : KF α) :
  eC k qb.u20.c (fr40 x0 x1 x2 x3 x4) K =
   qb.u20.f k x0 x1 x2 x3 x4 (fun y0 y1 y2 y3 y4 => K .normal (fr40 y0 y1 y2 y3 y4)) :=
 by
  have h := qb.u18.ok k x0 x1 x2 x3 x4 (seqK (fun ρ => eC k qb.u19.c ρ K) K)
  simp only [zf, zh, zj, zk, qb.u19.ok] at h
  exact zx h
theorem qb.u21.ok (k : Nat) (x0 x1 x2 : Sl) (x3 x4 : Int) (K : KF α) :
  eC k qb.u21.c (fr40 x0 x1 x2 x3 x4) K =
   qb.u21.f k x0 x1 x2 x3 x4 (fun y0 y1 y2 y3 y4 => K .normal (fr40 y0 y1 y2 y3 y4)) (fun y0 => K (.exit 0) (fr19 y0)) :=
 (qb.u3.ok k x0 x1 x2 x3 x4 qb.u20.c K).trans
  (congrArg (fun z => qb.u3.f k x0 x1 x2 x3 x4 z (fun y0 => K (.exit 0) (fr19 y0))) (funext fun y0 => (funext fun y1 => (funext fun y2 => (funext fun y3 => (funext fun y4 => qb.u20.ok k y0 y1 y2 y3 y4 K))))))
theorem qb.u22.ls (k : Nat) (kx0 : Sl->M α) (j : Nat) (x0 x1 x2 : Sl) (x3 x4 : Int) : qb.u22.l k kx0 (j + 1) x0 x1 x2 x3 x4 =
 qb.u21.f k x0 x1 x2 x3 x4 (fun y0 y1 y2 y3 y4 => qb.u22.l k kx0 j y0 y1 y2 y3 y4) kx0 := rfl
theorem qb.u22.okl (k : Nat) (K : KF α) : ∀ (j : Nat) (x0 x1 x2 : Sl) (x3 x4 : Int),
  zw (eC k qb.u21.c) [3, 4, 15, 16, 17] j (fr40 x0 x1 x2 x3 x4) K = qb.u22.l k (fun y0 => K (.exit 0) (fr19 y0)) j x0 x1 x2 x3 x4
 | 0, _, _, _, _, _ => rfl
 | j + 1, x0, x1, x2, x3, x4 => by
   have h := qb.u21.ok k x0 x1 x2 x3 x4 (seqK (fun ρ => zw (eC k qb.u21.c) [3, 4, 15, 16, 17] j ρ K) K)
   simp only [zh, zj, zk, zf, qb.u22.okl k K j] at h
   exact (ja (by kernel_rfl) h).trans (qb.u22.ls k (fun y0 => K (.exit 0) (fr19 y0)) j x0 x1 x2 x3 x4).symm
theorem qb.u22.ok (k : Nat) (x0 x1 x2 : Sl) (x3 x4 : Int) (K : KF α) :
  eC k qb.u22.c (fr40 x0 x1 x2 x3 x4) K =
   qb.u22.f k x0 x1 x2 x3 x4 (fun y0 => K (.exit 0) (fr19 y0)) :=
 jy.trans <| (jb (body := eC k qb.u21.c) (keep := [3, 4, 15, 16, 17]) (ρ := (fr40 x0 x1 x2 x3 x4)) (ρ' := (fr40 x0 x1 x2 x3 x4)) (by kernel_rfl) k K).trans (qb.u22.okl k K k x0 x1 x2 x3 x4)
theorem qb.u23.ok (k : Nat) (x0 x1 x2 : Sl) (x3 x4 : Int) (K : KF α) :
  eC k qb.u23.c (fr40 x0 x1 x2 x3 x4) K =
   qb.u23.f k x0 x1 x2 x3 x4 (fun y0 => K .normal (fr19 y0)) :=
 (zu.trans (qb.u22.ok k x0 x1 x2 x3 x4 (jt 0 K))).trans (by kernel_rfl)
theorem qb.u24.ok (k : Nat) (x0 x1 x2 : Sl) (K : KF α) :
  eC k qb.u24.c (fr39 x0 x1 x2) K =
   qb.u24.f k x0 x1 x2 (fun y0 => K .normal (fr19 y0)) :=
 (qb.u2.ok k x0 x1 x2 qb.u23.c K).trans
  (congrArg (fun z => qb.u2.f k x0 x1 x2 z) (funext fun y0 => (funext fun y1 => (funext fun y2 => (funext fun y3 => (funext fun y4 => qb.u23.ok k y0 y1 y2 y3 y4 K))))))
theorem qb.u25.ok (k : Nat) (x0 : Sl) (K : KF α) :
  eC k qb.u25.c (fr19 x0) K =
   qb.u25.f k x0 (fun y0 => K .ret (fr26 y0)) := by kernel_rfl
theorem qb.u26.ok (k : Nat) (x0 x1 x2 : Sl) (K : KF α) :
  eC k qb.u26.c (fr39 x0 x1 x2) K =
   qb.u26.f k x0 x1 x2 (fun y0 => K .ret (fr26 y0)) :=
 by
  have h := qb.u24.ok k x0 x1 x2 (seqK (fun ρ => eC k qb.u25.c ρ K) K)
  simp only [zf, zh, zj, zk, qb.u25.ok] at h
  exact zx h
theorem qb.u27.ok (k : Nat) (x0 : Sl) (K : KF α) :
  eC k qb.u27.c (fr25 x0) K =
   qb.u27.f k x0 (fun y0 => K .ret (fr26 y0)) :=
 (qb.u1.ok k x0 qb.u26.c K).trans
  (congrArg (fun z => qb.u1.f k x0 z (fun y0 => K .ret (fr26 y0))) (funext fun y0 => (funext fun y1 => (funext fun y2 => qb.u26.ok k y0 y1 y2 K))))
theorem qb.ok (k : Nat) (x0 : Sl) (κ : Res->M α) :
  evF T (env k) k qb.c qb.res [.slice x0] κ = qb.f (k + 1) x0 (fun o0 => κ (.ret (.slice o0))) :=
 (qb.u27.ok k x0 (retK T qb.res κ)).trans (by kernel_rfl)
theorem qb.code : qb.c.code = zz Tryd.f10 := by kernel_rfl
noncomputable def qd.c : IC := qd.u22.c
noncomputable def qd.res : List ResultVar := [(.tmp 2)]
theorem qd.u1.ok (k : Nat) (x0 : Sl) (R : IC) (K : KF α) :
  eC k (qd.u1.c R) (fr25 x0) K =
   qd.u1.f k x0 (fun y0 y1 y2 y3 => eC k R (fr41 y0 y1 y2 y3) K) := by kernel_rfl
theorem qd.u2.ok (k : Nat) (x0 x1 : Sl) (x2 x3 : Sl) (R : IC) (K : KF α) :
  eC k (qd.u2.c R) (fr41 x0 x1 x2 x3) K =
   qd.u2.f k x0 x1 x2 x3 (fun y0 y1 y2 y3 y4 y5 => eC k R (fr42 y0 y1 y2 y3 y4 y5) K) := by kernel_rfl
theorem qd.u3.ok (k : Nat) (x0 x1 : Sl) (x2 x3 : Sl) (x4 x5 : Int) (R : IC) (K : KF α) :
  eC k (qd.u3.c R) (fr42 x0 x1 x2 x3 x4 x5) K =
   qd.u3.f k x0 x1 x2 x3 x4 x5 (fun y0 y1 y2 y3 y4 y5 => eC k R (fr42 y0 y1 y2 y3 y4 y5) K) (fun y0 => K (.exit 0) (fr19 y0)) := by kernel_rfl
theorem qd.u4.ok (k : Nat) (x0 x1 : Sl) (x2 x3 : Sl) (x4 x5 : Int) (R : IC) (K : KF α) :
  eC k (qd.u4.c R) (fr42 x0 x1 x2 x3 x4 x5) K =
   qd.u4.f k x0 x1 x2 x3 x4 x5 (fun y0 y1 y2 y3 y4 y5 y6 y7 => eC k R (za [(3, .slice y0), (4, .slice y1), (5, .slice y2), (6, .int .i64 y3), (7, .ptr (some y4)), (22, .slice y5), (23, .int .i64 y6), (24, .int .i64 y7)]) K) (fun y0 y1 y2 y3 y4 y5 => K (.exit 1) (fr42 y0 y1 y2 y3 y4 y5)) := by kernel_rfl
theorem qd.u5.ok (k : Nat) (x0 x1 x2 : Sl) (x3 : Int) (x4 : Ad) (x5 : Sl) (x6 x7 : Int) (R : IC) (K : KF α) :
  eC k (qd.u5.c R) (za [(3, .slice x0), (4, .slice x1), (5, .slice x2), (6, .int .i64 x3), (7, .ptr (some x4)), (22, .slice x5), (23, .int .i64 x6), (24, .int .i64 x7)]) K =
   qd.u5.f k x0 x1 x2 x3 x4 x5 x6 x7 (fun y0 y1 y2 y3 y4 y5 y6 y7 => eC k R (fr43 y0 y1 y2 y3 y4 y5 y6 y7) K) := by kernel_rfl
theorem qd.u6.ok (k : Nat) (x0 x1 x2 : Sl) (x3 x4 : Int) (x5 : Sl) (x6 x7 : Int) (R : IC) (K : KF α) :
  eC k (qd.u6.c R) (fr43 x0 x1 x2 x3 x4 x5 x6 x7) K =
   qd.u6.f k x0 x1 x2 x3 x4 x5 x6 x7 (fun y0 y1 y2 y3 y4 y5 y6 y7 => eC k R (fr44 y0 y1 y2 y3 y4 y5 y6 y7) K) := by kernel_rfl
theorem qd.u7.ok (k : Nat) (x0 x1 x2 : Sl) (x3 x4 : Int) (x5 : Sl) (x6 x7 : Int) (K : KF α) :
  eC k qd.u7.c (fr44 x0 x1 x2 x3 x4 x5 x6 x7) K =
   qd.u7.f k x0 x1 x2 x3 x4 x5 x6 x7 (fun y0 y1 y2 y3 y4 y5 y6 y7 => K .normal (fr44 y0 y1 y2 y3 y4 y5 y6 y7)) (fun y0 y1 y2 y3 y4 y5 => K (.exit 2) (fr42 y0 y1 y2 y3 y4 y5)) := by kernel_rfl
theorem qd.u8.ls (k : Nat) (kx2 : Sl->Sl->Sl->Sl->Int->Int->M α) (j : Nat) (x0 x1 x2 : Sl) (x3 x4 : Int) (x5 : Sl) (x6 x7 : Int) : qd.u8.l k kx2 (j + 1) x0 x1 x2 x3 x4 x5 x6 x7 =
 qd.u7.f k x0 x1 x2 x3 x4 x5 x6 x7 (fun y0 y1 y2 y3 y4 y5 y6 y7 => qd.u8.l k kx2 j y0 y1 y2 y3 y4 y5 y6 y7) kx2 := rfl
theorem qd.u8.okl (k : Nat) (K : KF α) : ∀ (j : Nat) (x0 x1 x2 : Sl) (x3 x4 : Int) (x5 : Sl) (x6 x7 : Int),
  zw (eC k qd.u7.c) [3, 4, 5, 6, 9, 22, 23, 24] j (fr44 x0 x1 x2 x3 x4 x5 x6 x7) K = qd.u8.l k (fun y0 y1 y2 y3 y4 y5 => K (.exit 2) (fr42 y0 y1 y2 y3 y4 y5)) j x0 x1 x2 x3 x4 x5 x6 x7
 | 0, _, _, _, _, _, _, _, _ => rfl
 | j + 1, x0, x1, x2, x3, x4, x5, x6, x7 => by
   have h := qd.u7.ok k x0 x1 x2 x3 x4 x5 x6 x7 (seqK (fun ρ => zw (eC k qd.u7.c) [3, 4, 5, 6, 9, 22, 23, 24] j ρ K) K)
   simp only [zh, zj, zk, zf, qd.u8.okl k K j] at h
   exact (ja (by kernel_rfl) h).trans (qd.u8.ls k (fun y0 y1 y2 y3 y4 y5 => K (.exit 2) (fr42 y0 y1 y2 y3 y4 y5)) j x0 x1 x2 x3 x4 x5 x6 x7).symm
theorem qd.u8.ok (k : Nat) (x0 x1 x2 : Sl) (x3 x4 : Int) (x5 : Sl) (x6 x7 : Int) (K : KF α) :
  eC k qd.u8.c (fr44 x0 x1 x2 x3 x4 x5 x6 x7) K =
   qd.u8.f k x0 x1 x2 x3 x4 x5 x6 x7 (fun y0 y1 y2 y3 y4 y5 => K (.exit 2) (fr42 y0 y1 y2 y3 y4 y5)) :=
 jy.trans <| (jb (body := eC k qd.u7.c) (keep := [3, 4, 5, 6, 9, 22, 23, 24]) (ρ := (fr44 x0 x1 x2 x3 x4 x5 x6 x7)) (ρ' := (fr44 x0 x1 x2 x3 x4 x5 x6 x7)) (by kernel_rfl) k K).trans (qd.u8.okl k K k x0 x1 x2 x3 x4 x5 x6 x7)
theorem qd.u9.ok (k : Nat) (x0 x1 x2 : Sl) (x3 x4 : Int) (x5 : Sl) (x6 x7 : Int) (K : KF α) :
  eC k qd.u9.c (fr44 x0 x1 x2 x3 x4 x5 x6 x7) K =
   qd.u9.f k x0 x1 x2 x3 x4 x5 x6 x7 (fun y0 y1 y2 y3 y4 y5 => K .normal (fr42 y0 y1 y2 y3 y4 y5)) :=
 (zu.trans (qd.u8.ok k x0 x1 x2 x3 x4 x5 x6 x7 (jt 2 K))).trans (by kernel_rfl)
theorem qd.u10.ok (k : Nat) (x0 x1 x2 : Sl) (x3 x4 : Int) (x5 : Sl) (x6 x7 : Int) (K : KF α) :
  eC k qd.u10.c (fr43 x0 x1 x2 x3 x4 x5 x6 x7) K =
   qd.u10.f k x0 x1 x2 x3 x4 x5 x6 x7 (fun y0 y1 y2 y3 y4 y5 => K .normal (fr42 y0 y1 y2 y3 y4 y5)) :=
 (qd.u6.ok k x0 x1 x2 x3 x4 x5 x6 x7 qd.u9.c K).trans
  (congrArg (fun z => qd.u6.f k x0 x1 x2 x3 x4 x5 x6 x7 z) (funext fun y0 => (funext fun y1 => (funext fun y2 => (funext fun y3 => (funext fun y4 => (funext fun y5 => (funext fun y6 => (funext fun y7 => qd.u9.ok k y0 y1 y2 y3 y4 y5 y6 y7 K)))))))))
theorem qd.u11.ok (k : Nat) (x0 x1 x2 : Sl) (x3 : Int) (x4 : Ad) (x5 : Sl) (x6 x7 : Int) (K : KF α) :
  eC k qd.u11.c (za [(3, .slice x0), (4, .slice x1), (5, .slice x2), (6, .int .i64 x3), (7, .ptr (some x4)), (22, .slice x5), (23, .int .i64 x6), (24, .int .i64 x7)]) K =
   qd.u11.f k x0 x1 x2 x3 x4 x5 x6 x7 (fun y0 y1 y2 y3 y4 y5 => K .normal (fr42 y0 y1 y2 y3 y4 y5)) :=
 (qd.u5.ok k x0 x1 x2 x3 x4 x5 x6 x7 qd.u10.c K).trans
  (congrArg (fun z => qd.u5.f k x0 x1 x2 x3 x4 x5 x6 x7 z) (funext fun y0 => (funext fun y1 => (funext fun y2 => (funext fun y3 => (funext fun y4 => (funext fun y5 => (funext fun y6 => (funext fun y7 => qd.u10.ok k y0 y1 y2 y3 y4 y5 y6 y7 K)))))))))
theorem qd.u12.ok (k : Nat) (x0 x1 : Sl) (x2 x3 : Sl) (x4 x5 : Int) (K : KF α) :
  eC k qd.u12.c (fr42 x0 x1 x2 x3 x4 x5) K =
   qd.u12.f k x0 x1 x2 x3 x4 x5 (fun y0 y1 y2 y3 y4 y5 => K .normal (fr42 y0 y1 y2 y3 y4 y5)) (fun y0 y1 y2 y3 y4 y5 => K (.exit 1) (fr42 y0 y1 y2 y3 y4 y5)) :=
 (qd.u4.ok k x0 x1 x2 x3 x4 x5 qd.u11.c K).trans
  (congrArg (fun z => qd.u4.f k x0 x1 x2 x3 x4 x5 z (fun y0 y1 y2 y3 y4 y5 => K (.exit 1) (fr42 y0 y1 y2 y3 y4 y5))) (funext fun y0 => (funext fun y1 => (funext fun y2 => (funext fun y3 => (funext fun y4 => (funext fun y5 => (funext fun y6 => (funext fun y7 => qd.u11.ok k y0 y1 y2 y3 y4 y5 y6 y7 K)))))))))
theorem qd.u13.ok (k : Nat) (x0 x1 : Sl) (x2 x3 : Sl) (x4 x5 : Int) (K : KF α) :
  eC k qd.u13.c (fr42 x0 x1 x2 x3 x4 x5) K =
   qd.u13.f k x0 x1 x2 x3 x4 x5 (fun y0 y1 y2 y3 y4 y5 => K .normal (fr42 y0 y1 y2 y3 y4 y5)) :=
 (zu.trans (qd.u12.ok k x0 x1 x2 x3 x4 x5 (jt 1 K))).trans (by kernel_rfl)
theorem qd.u14.ok (k : Nat) (x0 x1 : Sl) (x2 x3 : Sl) (x4 x5 : Int) (K : KF α) :
  eC k qd.u14.c (fr42 x0 x1 x2 x3 x4 x5) K =
   qd.u14.f k x0 x1 x2 x3 x4 x5 (fun y0 y1 y2 y3 y4 y5 => K .normal (fr42 y0 y1 y2 y3 y4 y5)) := by kernel_rfl
theorem qd.u15.ok (k : Nat) (x0 x1 : Sl) (x2 x3 : Sl) (x4 x5 : Int) (K : KF α) :
  eC k qd.u15.c (fr42 x0 x1 x2 x3 x4 x5) K =
   qd.u15.f k x0 x1 x2 x3 x4 x5 (fun y0 y1 y2 y3 y4 y5 => K .normal (fr42 y0 y1 y2 y3 y4 y5)) :=
 by
  have h := qd.u13.ok k x0 x1 x2 x3 x4 x5 (seqK (fun ρ => eC k qd.u14.c ρ K) K)
  simp only [zf, zh, zj, zk, qd.u14.ok] at h
  exact zx h
theorem qd.u16.ok (k : Nat) (x0 x1 : Sl) (x2 x3 : Sl) (x4 x5 : Int) (K : KF α) :
  eC k qd.u16.c (fr42 x0 x1 x2 x3 x4 x5) K =
   qd.u16.f k x0 x1 x2 x3 x4 x5 (fun y0 y1 y2 y3 y4 y5 => K .normal (fr42 y0 y1 y2 y3 y4 y5)) (fun y0 => K (.exit 0) (fr19 y0)) :=
 (qd.u3.ok k x0 x1 x2 x3 x4 x5 qd.u15.c K).trans
  (congrArg (fun z => qd.u3.f k x0 x1 x2 x3 x4 x5 z (fun y0 => K (.exit 0) (fr19 y0))) (funext fun y0 => (funext fun y1 => (funext fun y2 => (funext fun y3 => (funext fun y4 => (funext fun y5 => qd.u15.ok k y0 y1 y2 y3 y4 y5 K)))))))
theorem qd.u17.ls (k : Nat) (kx0 : Sl->M α) (j : Nat) (x0 x1 : Sl) (x2 x3 : Sl) (x4 x5 : Int) : qd.u17.l k kx0 (j + 1) x0 x1 x2 x3 x4 x5 =
 qd.u16.f k x0 x1 x2 x3 x4 x5 (fun y0 y1 y2 y3 y4 y5 => qd.u17.l k kx0 j y0 y1 y2 y3 y4 y5) kx0 := rfl
theorem qd.u17.okl (k : Nat) (K : KF α) : ∀ (j : Nat) (x0 x1 : Sl) (x2 x3 : Sl) (x4 x5 : Int),
  zw (eC k qd.u16.c) [3, 4, 5, 22, 23, 24] j (fr42 x0 x1 x2 x3 x4 x5) K = qd.u17.l k (fun y0 => K (.exit 0) (fr19 y0)) j x0 x1 x2 x3 x4 x5
 | 0, _, _, _, _, _, _ => rfl
 | j + 1, x0, x1, x2, x3, x4, x5 => by
   have h := qd.u16.ok k x0 x1 x2 x3 x4 x5 (seqK (fun ρ => zw (eC k qd.u16.c) [3, 4, 5, 22, 23, 24] j ρ K) K)
   simp only [zh, zj, zk, zf, qd.u17.okl k K j] at h
   exact (ja (by kernel_rfl) h).trans (qd.u17.ls k (fun y0 => K (.exit 0) (fr19 y0)) j x0 x1 x2 x3 x4 x5).symm
theorem qd.u17.ok (k : Nat) (x0 x1 : Sl) (x2 x3 : Sl) (x4 x5 : Int) (K : KF α) :
  eC k qd.u17.c (fr42 x0 x1 x2 x3 x4 x5) K =
   qd.u17.f k x0 x1 x2 x3 x4 x5 (fun y0 => K (.exit 0) (fr19 y0)) :=
 jy.trans <| (jb (body := eC k qd.u16.c) (keep := [3, 4, 5, 22, 23, 24]) (ρ := (fr42 x0 x1 x2 x3 x4 x5)) (ρ' := (fr42 x0 x1 x2 x3 x4 x5)) (by kernel_rfl) k K).trans (qd.u17.okl k K k x0 x1 x2 x3 x4 x5)
theorem qd.u18.ok (k : Nat) (x0 x1 : Sl) (x2 x3 : Sl) (x4 x5 : Int) (K : KF α) :
  eC k qd.u18.c (fr42 x0 x1 x2 x3 x4 x5) K =
   qd.u18.f k x0 x1 x2 x3 x4 x5 (fun y0 => K .normal (fr19 y0)) :=
 (zu.trans (qd.u17.ok k x0 x1 x2 x3 x4 x5 (jt 0 K))).trans (by kernel_rfl)
theorem qd.u19.ok (k : Nat) (x0 x1 : Sl) (x2 x3 : Sl) (K : KF α) :
  eC k qd.u19.c (fr41 x0 x1 x2 x3) K =
   qd.u19.f k x0 x1 x2 x3 (fun y0 => K .normal (fr19 y0)) :=
 (qd.u2.ok k x0 x1 x2 x3 qd.u18.c K).trans
  (congrArg (fun z => qd.u2.f k x0 x1 x2 x3 z) (funext fun y0 => (funext fun y1 => (funext fun y2 => (funext fun y3 => (funext fun y4 => (funext fun y5 => qd.u18.ok k y0 y1 y2 y3 y4 y5 K)))))))
theorem qd.u20.ok (k : Nat) (x0 : Sl) (K : KF α) :
  eC k qd.u20.c (fr19 x0) K =
   qd.u20.f k x0 (fun y0 => K .ret (fr26 y0)) := by kernel_rfl
theorem qd.u21.ok (k : Nat) (x0 x1 : Sl) (x2 x3 : Sl) (K : KF α) :
  eC k qd.u21.c (fr41 x0 x1 x2 x3) K =
   qd.u21.f k x0 x1 x2 x3 (fun y0 => K .ret (fr26 y0)) :=
 by
  have h := qd.u19.ok k x0 x1 x2 x3 (seqK (fun ρ => eC k qd.u20.c ρ K) K)
  simp only [zf, zh, zj, zk, qd.u20.ok] at h
  exact zx h
theorem qd.u22.ok (k : Nat) (x0 : Sl) (K : KF α) :
  eC k qd.u22.c (fr25 x0) K =
   qd.u22.f k x0 (fun y0 => K .ret (fr26 y0)) :=
 (qd.u1.ok k x0 qd.u21.c K).trans
  (congrArg (fun z => qd.u1.f k x0 z) (funext fun y0 => (funext fun y1 => (funext fun y2 => (funext fun y3 => qd.u21.ok k y0 y1 y2 y3 K)))))
theorem qd.ok (k : Nat) (x0 : Sl) (κ : Res->M α) :
  evF T (env k) k qd.c qd.res [.slice x0] κ = qd.f (k + 1) x0 (fun o0 => κ (.ret (.slice o0))) :=
 (qd.u22.ok k x0 (retK T qd.res κ)).trans (by kernel_rfl)
theorem qd.code : qd.c.code = zz Tryd.f12 := by kernel_rfl
noncomputable def qaq.c : IC := qaq.u1.c
noncomputable def qaq.res : List ResultVar := [(.tmp 0)]
theorem qaq.u1.ok (k : Nat) (K : KF α) :
  eC k qaq.u1.c (za []) K =
   qaq.u1.f k (fun y0 => K .ret (fr45 y0)) := by kernel_rfl
theorem qaq.ok (k : Nat) (κ : Res->M α) :
  evF T (env k) k qaq.c qaq.res [] κ = qaq.f (k + 1) (fun o0 => κ (.ret (.bool o0))) :=
 (qaq.u1.ok k (retK T qaq.res κ)).trans (by kernel_rfl)
theorem qaq.code : qaq.c.code = zz Tryd.f8 := by kernel_rfl
noncomputable def qao.c : IC := qao.u1.c
noncomputable def qao.res : List ResultVar := [(.tmp 2)]
theorem qao.u1.ok (k : Nat) (x0 x1 x2 : Int) (x3 : TX) (x4 : Int) (K : KF α) :
  eC k qao.u1.c (za [(0, .agg [.int .i64 x0, .int .i64 x1, .int .i64 x2, .str x3, .int .i64 x4])]) K =
   qao.u1.f k x0 x1 x2 x3 x4 (fun y0 => K .ret (fr18 y0)) := by kernel_rfl
theorem qao.ok (k : Nat) (x0 x1 x2 : Int) (x3 : TX) (x4 : Int) (κ : Res->M α) :
  evF T (env k) k qao.c qao.res [.agg [.int .i64 x0, .int .i64 x1, .int .i64 x2, .str x3, .int .i64 x4]] κ = qao.f (k + 1) x0 x1 x2 x3 x4 (fun o0 => κ (.ret (.bool o0))) :=
 (qao.u1.ok k x0 x1 x2 x3 x4 (retK T qao.res κ)).trans (by kernel_rfl)
theorem qao.code : qao.c.code = zz Tryd.f14 := by kernel_rfl
noncomputable def qf.c : IC := qf.u22.c
noncomputable def qf.res : List ResultVar := [(.tmp 2)]
theorem qf.u1.ok (k : Nat) (x0 : Sl) (R : IC) (K : KF α) :
  eC k (qf.u1.c R) (fr25 x0) K =
   qf.u1.f k x0 (fun y0 y1 y2 => eC k R (fr46 y0 y1 y2) K) (fun y0 => K .ret (fr18 y0)) := by kernel_rfl
theorem qf.u2.ok (k : Nat) (x0 x1 x2 : Sl) (R : IC) (K : KF α) :
  eC k (qf.u2.c R) (fr46 x0 x1 x2) K =
   qf.u2.f k x0 x1 x2 (fun y0 y1 y2 y3 => eC k R (fr47 y0 y1 y2 y3) K) := by kernel_rfl
theorem qf.u3.ok (k : Nat) (x0 x1 x2 : Sl) (x3 : Int) (K : KF α) :
  eC k qf.u3.c (fr47 x0 x1 x2 x3) K =
   qf.u3.f k x0 x1 x2 x3 (fun y0 y1 y2 y3 => K .normal (fr47 y0 y1 y2 y3)) (fun y0 y1 y2 => K (.exit 0) (fr46 y0 y1 y2)) := by kernel_rfl
theorem qf.u4.ls (k : Nat) (kx0 : Sl->Sl->Sl->M α) (j : Nat) (x0 x1 x2 : Sl) (x3 : Int) : qf.u4.l k kx0 (j + 1) x0 x1 x2 x3 =
 qf.u3.f k x0 x1 x2 x3 (fun y0 y1 y2 y3 => qf.u4.l k kx0 j y0 y1 y2 y3) kx0 := rfl
theorem qf.u4.okl (k : Nat) (K : KF α) : ∀ (j : Nat) (x0 x1 x2 : Sl) (x3 : Int),
  zw (eC k qf.u3.c) [0, 4, 5, 6] j (fr47 x0 x1 x2 x3) K = qf.u4.l k (fun y0 y1 y2 => K (.exit 0) (fr46 y0 y1 y2)) j x0 x1 x2 x3
 | 0, _, _, _, _ => rfl
 | j + 1, x0, x1, x2, x3 => by
   have h := qf.u3.ok k x0 x1 x2 x3 (seqK (fun ρ => zw (eC k qf.u3.c) [0, 4, 5, 6] j ρ K) K)
   simp only [zh, zj, zk, zf, qf.u4.okl k K j] at h
   exact (ja (by kernel_rfl) h).trans (qf.u4.ls k (fun y0 y1 y2 => K (.exit 0) (fr46 y0 y1 y2)) j x0 x1 x2 x3).symm
theorem qf.u4.ok (k : Nat) (x0 x1 x2 : Sl) (x3 : Int) (K : KF α) :
  eC k qf.u4.c (fr47 x0 x1 x2 x3) K =
   qf.u4.f k x0 x1 x2 x3 (fun y0 y1 y2 => K (.exit 0) (fr46 y0 y1 y2)) :=
 jy.trans <| (jb (body := eC k qf.u3.c) (keep := [0, 4, 5, 6]) (ρ := (fr47 x0 x1 x2 x3)) (ρ' := (fr47 x0 x1 x2 x3)) (by kernel_rfl) k K).trans (qf.u4.okl k K k x0 x1 x2 x3)
theorem qf.u5.ok (k : Nat) (x0 x1 x2 : Sl) (x3 : Int) (K : KF α) :
  eC k qf.u5.c (fr47 x0 x1 x2 x3) K =
   qf.u5.f k x0 x1 x2 x3 (fun y0 y1 y2 => K .normal (fr46 y0 y1 y2)) :=
 (zu.trans (qf.u4.ok k x0 x1 x2 x3 (jt 0 K))).trans (by kernel_rfl)
theorem qf.u6.ok (k : Nat) (x0 x1 x2 : Sl) (K : KF α) :
  eC k qf.u6.c (fr46 x0 x1 x2) K =
   qf.u6.f k x0 x1 x2 (fun y0 y1 y2 => K .normal (fr46 y0 y1 y2)) :=
 (qf.u2.ok k x0 x1 x2 qf.u5.c K).trans
  (congrArg (fun z => qf.u2.f k x0 x1 x2 z) (funext fun y0 => (funext fun y1 => (funext fun y2 => (funext fun y3 => qf.u5.ok k y0 y1 y2 y3 K)))))
theorem qf.u7.ok (k : Nat) (x0 x1 x2 : Sl) (R : IC) (K : KF α) :
  eC k (qf.u7.c R) (fr46 x0 x1 x2) K =
   qf.u7.f k x0 x1 x2 (fun y0 y1 y2 => eC k R (fr48 y0 y1 y2) K) := by kernel_rfl
theorem qf.u8.ok (k : Nat) (x0 x1 x2 : Sl) (R : IC) (K : KF α) :
  eC k (qf.u8.c R) (fr48 x0 x1 x2) K =
   qf.u8.f k x0 x1 x2 (fun y0 y1 y2 y3 => eC k R (fr49 y0 y1 y2 y3) K) := by kernel_rfl
theorem qf.u9.ok (k : Nat) (x0 x1 x2 : Sl) (x3 : Int) (R : IC) (K : KF α) :
  eC k (qf.u9.c R) (fr49 x0 x1 x2 x3) K =
   qf.u9.f k x0 x1 x2 x3 (fun y0 y1 y2 y3 => eC k R (fr49 y0 y1 y2 y3) K) (K (.exit 2) (za [])) := by kernel_rfl
theorem qf.u10.ok (k : Nat) (x0 x1 x2 : Sl) (x3 : Int) (K : KF α) :
  eC k qf.u10.c (fr49 x0 x1 x2 x3) K =
   qf.u10.f k x0 x1 x2 x3 (fun y0 y1 y2 y3 => K .normal (fr49 y0 y1 y2 y3)) (fun y0 => K .ret (fr18 y0)) := by kernel_rfl
theorem qf.u11.ok (k : Nat) (x0 x1 x2 : Sl) (x3 : Int) (K : KF α) :
  eC k qf.u11.c (fr49 x0 x1 x2 x3) K =
   qf.u11.f k x0 x1 x2 x3 (fun y0 y1 y2 y3 => K .normal (fr49 y0 y1 y2 y3)) (fun y0 => K .ret (fr18 y0)) :=
 (zu.trans (qf.u10.ok k x0 x1 x2 x3 (jt 3 K))).trans (by kernel_rfl)
theorem qf.u12.ok (k : Nat) (x0 x1 x2 : Sl) (x3 : Int) (K : KF α) :
  eC k qf.u12.c (fr49 x0 x1 x2 x3) K =
   qf.u12.f k x0 x1 x2 x3 (fun y0 y1 y2 y3 => K .normal (fr49 y0 y1 y2 y3)) := by kernel_rfl
theorem qf.u13.ok (k : Nat) (x0 x1 x2 : Sl) (x3 : Int) (K : KF α) :
  eC k qf.u13.c (fr49 x0 x1 x2 x3) K =
   qf.u13.f k x0 x1 x2 x3 (fun y0 y1 y2 y3 => K .normal (fr49 y0 y1 y2 y3)) (fun y0 => K .ret (fr18 y0)) :=
 by
  have h := qf.u11.ok k x0 x1 x2 x3 (seqK (fun ρ => eC k qf.u12.c ρ K) K)
  simp only [zf, zh, zj, zk, qf.u12.ok] at h
  exact zx h
theorem qf.u14.ok (k : Nat) (x0 x1 x2 : Sl) (x3 : Int) (K : KF α) :
  eC k qf.u14.c (fr49 x0 x1 x2 x3) K =
   qf.u14.f k x0 x1 x2 x3 (fun y0 y1 y2 y3 => K .normal (fr49 y0 y1 y2 y3)) (fun y0 => K .ret (fr18 y0)) (K (.exit 2) (za [])) :=
 (qf.u9.ok k x0 x1 x2 x3 qf.u13.c K).trans
  (congrArg (fun z => qf.u9.f k x0 x1 x2 x3 z (K (.exit 2) (za []))) (funext fun y0 => (funext fun y1 => (funext fun y2 => (funext fun y3 => qf.u13.ok k y0 y1 y2 y3 K)))))
theorem qf.u15.ls (k : Nat) (kr : Bool->M α) (kx2 : M α) (j : Nat) (x0 x1 x2 : Sl) (x3 : Int) : qf.u15.l k kr kx2 (j + 1) x0 x1 x2 x3 =
 qf.u14.f k x0 x1 x2 x3 (fun y0 y1 y2 y3 => qf.u15.l k kr kx2 j y0 y1 y2 y3) kr kx2 := rfl
theorem qf.u15.okl (k : Nat) (K : KF α) : ∀ (j : Nat) (x0 x1 x2 : Sl) (x3 : Int),
  zw (eC k qf.u14.c) [0, 4, 7, 8] j (fr49 x0 x1 x2 x3) K = qf.u15.l k (fun y0 => K .ret (fr18 y0)) (K (.exit 2) (za [])) j x0 x1 x2 x3
 | 0, _, _, _, _ => rfl
 | j + 1, x0, x1, x2, x3 => by
   have h := qf.u14.ok k x0 x1 x2 x3 (seqK (fun ρ => zw (eC k qf.u14.c) [0, 4, 7, 8] j ρ K) K)
   simp only [zh, zj, zk, zf, qf.u15.okl k K j] at h
   exact (ja (by kernel_rfl) h).trans (qf.u15.ls k (fun y0 => K .ret (fr18 y0)) (K (.exit 2) (za [])) j x0 x1 x2 x3).symm
theorem qf.u15.ok (k : Nat) (x0 x1 x2 : Sl) (x3 : Int) (K : KF α) :
  eC k qf.u15.c (fr49 x0 x1 x2 x3) K =
   qf.u15.f k x0 x1 x2 x3 (fun y0 => K .ret (fr18 y0)) (K (.exit 2) (za [])) :=
 jy.trans <| (jb (body := eC k qf.u14.c) (keep := [0, 4, 7, 8]) (ρ := (fr49 x0 x1 x2 x3)) (ρ' := (fr49 x0 x1 x2 x3)) (by kernel_rfl) k K).trans (qf.u15.okl k K k x0 x1 x2 x3)
theorem qf.u16.ok (k : Nat) (x0 x1 x2 : Sl) (x3 : Int) (K : KF α) :
  eC k qf.u16.c (fr49 x0 x1 x2 x3) K =
   qf.u16.f k x0 x1 x2 x3 (K .normal (za [])) (fun y0 => K .ret (fr18 y0)) :=
 (zu.trans (qf.u15.ok k x0 x1 x2 x3 (jt 2 K))).trans (by kernel_rfl)
theorem qf.u17.ok (k : Nat) (x0 x1 x2 : Sl) (K : KF α) :
  eC k qf.u17.c (fr48 x0 x1 x2) K =
   qf.u17.f k x0 x1 x2 (K .normal (za [])) (fun y0 => K .ret (fr18 y0)) :=
 (qf.u8.ok k x0 x1 x2 qf.u16.c K).trans
  (congrArg (fun z => qf.u8.f k x0 x1 x2 z) (funext fun y0 => (funext fun y1 => (funext fun y2 => (funext fun y3 => qf.u16.ok k y0 y1 y2 y3 K)))))
theorem qf.u18.ok (k : Nat) (K : KF α) :
  eC k qf.u18.c (za []) K =
   qf.u18.f k (fun y0 => K .ret (fr18 y0)) := by kernel_rfl
theorem qf.u19.ok (k : Nat) (x0 x1 x2 : Sl) (K : KF α) :
  eC k qf.u19.c (fr48 x0 x1 x2) K =
   qf.u19.f k x0 x1 x2 (fun y0 => K .ret (fr18 y0)) :=
 by
  have h := qf.u17.ok k x0 x1 x2 (seqK (fun ρ => eC k qf.u18.c ρ K) K)
  simp only [zf, zh, zj, zk, qf.u18.ok] at h
  exact zx h
theorem qf.u20.ok (k : Nat) (x0 x1 x2 : Sl) (K : KF α) :
  eC k qf.u20.c (fr46 x0 x1 x2) K =
   qf.u20.f k x0 x1 x2 (fun y0 => K .ret (fr18 y0)) :=
 (qf.u7.ok k x0 x1 x2 qf.u19.c K).trans
  (congrArg (fun z => qf.u7.f k x0 x1 x2 z) (funext fun y0 => (funext fun y1 => (funext fun y2 => qf.u19.ok k y0 y1 y2 K))))
theorem qf.u21.ok (k : Nat) (x0 x1 x2 : Sl) (K : KF α) :
  eC k qf.u21.c (fr46 x0 x1 x2) K =
   qf.u21.f k x0 x1 x2 (fun y0 => K .ret (fr18 y0)) :=
 by
  have h := qf.u6.ok k x0 x1 x2 (seqK (fun ρ => eC k qf.u20.c ρ K) K)
  simp only [zf, zh, zj, zk, qf.u20.ok] at h
  exact zx h
theorem qf.u22.ok (k : Nat) (x0 : Sl) (K : KF α) :
  eC k qf.u22.c (fr25 x0) K =
   qf.u22.f k x0 (fun y0 => K .ret (fr18 y0)) :=
 (qf.u1.ok k x0 qf.u21.c K).trans
  (congrArg (fun z => qf.u1.f k x0 z (fun y0 => K .ret (fr18 y0))) (funext fun y0 => (funext fun y1 => (funext fun y2 => qf.u21.ok k y0 y1 y2 K))))
theorem qf.ok (k : Nat) (x0 : Sl) (κ : Res->M α) :
  evF T (env k) k qf.c qf.res [.slice x0] κ = qf.f (k + 1) x0 (fun o0 => κ (.ret (.bool o0))) :=
 (qf.u22.ok k x0 (retK T qf.res κ)).trans (by kernel_rfl)
theorem qf.code : qf.c.code = zz Tryd.f6 := by kernel_rfl
end
end Go.Ab.S5
