import Derived.Test.YtmanohnlcedeaaaDoorS5a0
import Derived.Test.YtmanohnlcedeaaaDoorAb20
import Derived.Shelf.Strings.Builder1
import Derived.Test.YtmanohnlcedeaaaDoorProg
import Derived.KernelRfl
import Derived.Lib.TrailingZeros
namespace Go.Ab.S5
abbrev fr19 (x0 : Sl) : Frame := za [(4, .slice x0)]
abbrev fr20 (x0 : Sl) (x1 : Int) : Frame := za [(0, .slice x0), (5, .int .i64 x1)]
abbrev fr21 (x0 : Bool) : Frame := za [(4, .bool x0)]
abbrev fr22 (x0 : TX) : Frame := za [(4, .str x0)]
abbrev fr23 (x0 : Int) : Frame := za [(9, .int .i64 x0)]
abbrev fr24 (x0 : Int) : Frame := za [(8, .int .i64 x0)]
abbrev fr25 (x0 : Sl) : Frame := za [(0, .slice x0)]
abbrev fr26 (x0 : Sl) : Frame := za [(2, .slice x0)]
abbrev fr27 (x0 : TX) (x1 x2 : Int) : Frame := za [(0, .str x0), (1, .int .u8 x1), (2, .int .u8 x2)]
abbrev fr28 (x0 : Bool) : Frame := za [(6, .bool x0)]
abbrev fr29 (x0 : TX) (x1 x2 : Int) : Frame := za [(0, .str x0), (30, .int .i64 x1), (31, .int .i64 x2)]
abbrev fr30 (x0 : Int) : Frame := za [(0, .int .i64 x0)]
abbrev fr31 (x0 x1 : Sl) : Frame := za [(0, .slice x0), (1, .slice x1)]
abbrev fr32 (x0 x1 : Sl) (x2 x3 : Int) : Frame := za [(0, .slice x0), (1, .slice x1), (12, .int .i64 x2), (13, .int .i64 x3)]
abbrev fr33 (x0 x1 : Sl) : Frame := za [(0, .slice x0), (3, .slice x1)]
abbrev fr34 (x0 x1 : Sl) (x2 x3 : Int) : Frame := za [(3, .slice x0), (17, .slice x1), (18, .int .i64 x2), (19, .int .i64 x3)]
abbrev fr35 (x0 : Sl) : Frame := za [(3, .slice x0)]
abbrev fr36 (x0 x1 : Int) : Frame := za [(2, .int .i64 x0), (3, .int .i64 x1)]
abbrev fr37 (x0 : Sl) (x1 x2 : Int) : Frame := za [(3, .slice x0), (10, .int .i64 x1), (11, .int .i64 x2)]
abbrev fr38 (x0 : Sl) (x1 x2 : Int) : Frame := za [(3, .slice x0), (8, .int .i64 x1), (9, .int .i64 x2)]
abbrev fr39 (x0 x1 x2 : Sl) : Frame := za [(0, .slice x0), (3, .slice x1), (4, .slice x2)]
abbrev fr40 (x0 x1 x2 : Sl) (x3 x4 : Int) : Frame := za [(3, .slice x0), (4, .slice x1), (15, .slice x2), (16, .int .i64 x3), (17, .int .i64 x4)]
abbrev fr41 (x0 x1 : Sl) (x2 x3 : Sl) : Frame := za [(0, .slice x0), (3, .slice x1), (4, .slice x2), (5, .slice x3)]
abbrev fr42 (x0 x1 : Sl) (x2 x3 : Sl) (x4 x5 : Int) : Frame := za [(3, .slice x0), (4, .slice x1), (5, .slice x2), (22, .slice x3), (23, .int .i64 x4), (24, .int .i64 x5)]
abbrev fr43 (x0 x1 x2 : Sl) (x3 x4 : Int) (x5 : Sl) (x6 x7 : Int) : Frame := za [(3, .slice x0), (4, .slice x1), (5, .slice x2), (6, .int .i64 x3), (8, .int .i64 x4), (22, .slice x5), (23, .int .i64 x6), (24, .int .i64 x7)]
abbrev fr44 (x0 x1 x2 : Sl) (x3 x4 : Int) (x5 : Sl) (x6 x7 : Int) : Frame := za [(3, .slice x0), (4, .slice x1), (5, .slice x2), (6, .int .i64 x3), (9, .int .u64 x4), (22, .slice x5), (23, .int .i64 x6), (24, .int .i64 x7)]
abbrev fr45 (x0 : Bool) : Frame := za [(0, .bool x0)]
abbrev fr46 (x0 : Int) : Frame := za [(6, .int .i64 x0)]
abbrev fr47 (x0 : Sl) (x1 : Bool) : Frame := za [(0, .slice x0), (1, .bool x1)]
abbrev fr48 (x0 x1 : Sl) (x2 x3 x4 : Sl) : Frame := za [(4, .slice x0), (6, .slice x1), (7, .slice x2), (8, .slice x3), (9, .slice x4)]
abbrev fr49 (x0 x1 : Sl) (x2 x3 x4 : Sl) (x5 : Int) : Frame := za [(4, .slice x0), (6, .slice x1), (7, .slice x2), (8, .slice x3), (9, .slice x4), (10, .int .i64 x5)]
section
variable {α : Type}
open Go.Proofs
set_option linter.unusedVariables false
set_option linter.unusedSimpArgs false
noncomputable def qm.c : IC := qm.u9.c
noncomputable def qm.res : List ResultVar := [(.tmp 4)]
theorem qm.u1.ok (k : Nat) (x0 : Sl) (R : IC) (K : KF α) :
  eC k (qm.u1.c R) (za [(0, .slice x0), (1, .func 35 [] [])]) K =
   qm.u1.f k x0 (fun y0 y1 => eC k R (za [(0, .slice y0), (1, .func 35 [] []), (5, .int .i64 y1)]) K) (fun y0 => K .ret (fr19 y0)) := by kernel_rfl
theorem qm.u2.ok (k : Nat) (x0 : Sl) (x1 : Int) (R : IC) (K : KF α) :
  eC k (qm.u2.c R) (za [(0, .slice x0), (1, .func 35 [] []), (5, .int .i64 x1)]) K =
   qm.u2.f k x0 x1 (fun y0 y1 y2 => eC k R (za [(0, .slice y0), (1, .func 35 [] []), (5, .int .i64 y1), (6, .int .i64 y2)]) K) := by kernel_rfl
theorem qm.u3.ok (k : Nat) (x0 : Sl) (x1 x2 : Int) (K : KF α) :
  eC k qm.u3.c (za [(0, .slice x0), (1, .func 35 [] []), (5, .int .i64 x1), (6, .int .i64 x2)]) K =
   qm.u3.f k x0 x1 x2 (fun y0 y1 y2 => K .normal (za [(0, .slice y0), (1, .func 35 [] []), (5, .int .i64 y1), (6, .int .i64 y2)])) (fun y0 y1 => K (.exit 0) (fr20 y0 y1)) := by kernel_rfl
theorem qm.u4.ls (k : Nat) (kx0 : Sl->Int->M α) (j : Nat) (x0 : Sl) (x1 x2 : Int) : qm.u4.l k kx0 (j + 1) x0 x1 x2 =
 qm.u3.f k x0 x1 x2 (fun y0 y1 y2 => qm.u4.l k kx0 j y0 y1 y2) kx0 := rfl
theorem qm.u4.okl (k : Nat) (K : KF α) : ∀ (j : Nat) (x0 : Sl) (x1 x2 : Int),
  zy (eC k qm.u3.c) [0, 1, 5, 6] j (za [(0, .slice x0), (1, .func 35 [] []), (5, .int .i64 x1), (6, .int .i64 x2)]) K = qm.u4.l k (fun y0 y1 => K (.exit 0) (fr20 y0 y1)) j x0 x1 x2
 | 0, _, _, _ => rfl
 | j + 1, x0, x1, x2 => by
   have h := qm.u3.ok k x0 x1 x2 (seqK (fun ρ => zy (eC k qm.u3.c) [0, 1, 5, 6] j ρ K) K)
   simp only [zk, zp, zo, zf, qm.u4.okl k K j] at h
   exact (jg (by kernel_rfl) h).trans (qm.u4.ls k (fun y0 y1 => K (.exit 0) (fr20 y0 y1)) j x0 x1 x2).symm
theorem qm.u4.ok (k : Nat) (x0 : Sl) (x1 x2 : Int) (K : KF α) :
  eC k qm.u4.c (za [(0, .slice x0), (1, .func 35 [] []), (5, .int .i64 x1), (6, .int .i64 x2)]) K =
   qm.u4.f k x0 x1 x2 (fun y0 y1 => K (.exit 0) (fr20 y0 y1)) :=
 yb.trans <| (jf (body := eC k qm.u3.c) (keep := [0, 1, 5, 6]) (ρ := (za [(0, .slice x0), (1, .func 35 [] []), (5, .int .i64 x1), (6, .int .i64 x2)])) (ρ' := (za [(0, .slice x0), (1, .func 35 [] []), (5, .int .i64 x1), (6, .int .i64 x2)])) (by kernel_rfl) k K).trans (qm.u4.okl k K k x0 x1 x2)
theorem qm.u5.ok (k : Nat) (x0 : Sl) (x1 x2 : Int) (K : KF α) :
  eC k qm.u5.c (za [(0, .slice x0), (1, .func 35 [] []), (5, .int .i64 x1), (6, .int .i64 x2)]) K =
   qm.u5.f k x0 x1 x2 (fun y0 y1 => K .normal (fr20 y0 y1)) :=
 (zx.trans (qm.u4.ok k x0 x1 x2 (jx 0 K))).trans (by kernel_rfl)
theorem qm.u6.ok (k : Nat) (x0 : Sl) (x1 : Int) (K : KF α) :
  eC k qm.u6.c (za [(0, .slice x0), (1, .func 35 [] []), (5, .int .i64 x1)]) K =
   qm.u6.f k x0 x1 (fun y0 y1 => K .normal (fr20 y0 y1)) :=
 (qm.u2.ok k x0 x1 qm.u5.c K).trans
  (congrArg (fun z => qm.u2.f k x0 x1 z) (funext fun y0 => (funext fun y1 => (funext fun y2 => qm.u5.ok k y0 y1 y2 K))))
theorem qm.u7.ok (k : Nat) (x0 : Sl) (x1 : Int) (K : KF α) :
  eC k qm.u7.c (fr20 x0 x1) K =
   qm.u7.f k x0 x1 (fun y0 => K .ret (fr19 y0)) := by kernel_rfl
theorem qm.u8.ok (k : Nat) (x0 : Sl) (x1 : Int) (K : KF α) :
  eC k qm.u8.c (za [(0, .slice x0), (1, .func 35 [] []), (5, .int .i64 x1)]) K =
   qm.u8.f k x0 x1 (fun y0 => K .ret (fr19 y0)) :=
 by
  have h := qm.u6.ok k x0 x1 (seqK (fun ρ => eC k qm.u7.c ρ K) K)
  simp only [zf, zk, zp, zo, qm.u7.ok] at h
  exact jd h
theorem qm.u9.ok (k : Nat) (x0 : Sl) (K : KF α) :
  eC k qm.u9.c (za [(0, .slice x0), (1, .func 35 [] [])]) K =
   qm.u9.f k x0 (fun y0 => K .ret (fr19 y0)) :=
 (qm.u1.ok k x0 qm.u8.c K).trans
  (congrArg (fun z => qm.u1.f k x0 z (fun y0 => K .ret (fr19 y0))) (funext fun y0 => (funext fun y1 => qm.u8.ok k y0 y1 K)))
theorem qm.ok (k : Nat) (x0 : Sl) (κ : Res->M α) :
  evF T (env k) k qm.c qm.res [.slice x0, .func 35 [] []] κ = qm.f (k + 1) x0 (fun o0 => κ (.ret (.slice o0))) :=
 (qm.u9.ok k x0 (retK T qm.res κ)).trans (by kernel_rfl)
theorem qm.code : qm.c.code = zu Tryd.f34 := by kernel_rfl
noncomputable def qaj.c : IC := qaj.u1.c
noncomputable def qaj.res : List ResultVar := [(.tmp 4)]
theorem qaj.u1.ok (k : Nat) (x0 : Ad) (x1 : TX) (K : KF α) :
  eC k qaj.u1.c (za [(0, .ptr (some x0)), (1, .str x1)]) K =
   qaj.u1.f k x0 x1 (fun y0 => K .ret (fr21 y0)) := by kernel_rfl
theorem qaj.ok (k : Nat) (x0 : Ad) (x1 : TX) (κ : Res->M α) :
  evF T (env k) k qaj.c qaj.res [.ptr (some x0), .str x1] κ = qaj.f (k + 1) x0 x1 (fun o0 => κ (.ret (.bool o0))) :=
 (qaj.u1.ok k x0 x1 (retK T qaj.res κ)).trans (by kernel_rfl)
theorem qaj.code : qaj.c.code = zu Tryd.f69 := by kernel_rfl
noncomputable def qae.c : IC := qae.u1.c
noncomputable def qae.res : List ResultVar := [(.cell 2 61)]
theorem qae.u1.ok (k : Nat) (x0 : Ad) (K : KF α) :
  eC k qae.u1.c (za [(0, .ptr (some x0))]) K =
   qae.u1.f k x0 (fun y0 => K .ret (za [(2, .ptr (some y0))])) := by kernel_rfl
theorem qae.ok (k : Nat) (x0 : Ad) (κ : Res->M α) :
  evF T (env k) k qae.c qae.res [.ptr (some x0)] κ = qae.f (k + 1) x0 (fun o0 o1 o2 o3 => κ (.ret (.agg [.int .i64 o0, .int .i64 o1, .str o2, .int .i64 o3]))) :=
 (qae.u1.ok k x0 (retK T qae.res κ)).trans (by kernel_rfl)
theorem qae.code : qae.c.code = zu Tryd.f78 := by kernel_rfl
noncomputable def qac.c : IC := qac.u1.c
noncomputable def qac.res : List ResultVar := [(.cell 2 61)]
theorem qac.u1.ok (k : Nat) (x0 : Ad) (K : KF α) :
  eC k qac.u1.c (za [(0, .ptr (some x0))]) K =
   qac.u1.f k x0 (fun y0 => K .ret (za [(2, .ptr (some y0))])) (fun v => K (.pan v) (za [])) := by kernel_rfl
theorem qac.ok (k : Nat) (x0 : Ad) (κ : Res->M α) :
  evF T (env k) k qac.c qac.res [.ptr (some x0)] κ = qac.f (k + 1) x0 (fun v => κ (.pan v)) (fun o0 o1 o2 o3 => κ (.ret (.agg [.int .i64 o0, .int .i64 o1, .str o2, .int .i64 o3]))) :=
 (qac.u1.ok k x0 (retK T qac.res κ)).trans (by kernel_rfl)
theorem qac.code : qac.c.code = zu Tryd.f70 := by kernel_rfl
noncomputable def qz.c : IC := qz.u1.c
noncomputable def qz.res : List ResultVar := [(.tmp 4)]
theorem qz.u1.ok (k : Nat) (x0 : Ad) (x1 x2 x3 : Int) (x4 : TX) (x5 : Int) (K : KF α) :
  eC k qz.u1.c (za [(0, .ptr (some x0)), (1, .agg [.int .i64 x1, .int .i64 x2, .int .i64 x3, .str x4, .int .i64 x5])]) K =
   qz.u1.f k x0 x1 x2 x3 x4 x5 (fun y0 => K .ret (fr1 y0)) := by kernel_rfl
theorem qz.ok (k : Nat) (x0 : Ad) (x1 x2 x3 : Int) (x4 : TX) (x5 : Int) (κ : Res->M α) :
  evF T (env k) k qz.c qz.res [.ptr (some x0), .agg [.int .i64 x1, .int .i64 x2, .int .i64 x3, .str x4, .int .i64 x5]] κ = qz.f (k + 1) x0 x1 x2 x3 x4 x5 (fun o0 => κ (.ret (.int .i64 o0))) :=
 (qz.u1.ok k x0 x1 x2 x3 x4 x5 (retK T qz.res κ)).trans (by kernel_rfl)
theorem qz.code : qz.c.code = zu Tryd.f71 := by kernel_rfl
noncomputable def qai.c : IC := qai.u1.c
noncomputable def qai.res : List ResultVar := []
theorem qai.u1.ok (k : Nat) (x0 : Ad) (K : KF α) :
  eC k qai.u1.c (za [(0, .ptr (some x0))]) K =
   qai.u1.f k x0 (fun v => K (.pan v) (za [])) := by kernel_rfl
theorem qai.ok (k : Nat) (x0 : Ad) (κ : Res->M α) :
  evF T (env k) k qai.c qai.res [.ptr (some x0)] κ = qai.f (k + 1) x0 (fun v => κ (.pan v)) (κ (.ret (.tuple []))) :=
 (qai.u1.ok k x0 (retK T qai.res κ)).trans (by kernel_rfl)
theorem qai.code : qai.c.code = zu Tryd.f37 := by kernel_rfl
noncomputable def qaq.c : IC := qaq.u1.c
noncomputable def qaq.res : List ResultVar := [(.tmp 2)]
theorem qaq.u1.ok (k : Nat) (x0 : TX) (K : KF α) :
  eC k qaq.u1.c (fr11 x0) K =
   qaq.u1.f k x0 (fun y0 => K .ret (fr18 y0)) := by kernel_rfl
theorem qaq.ok (k : Nat) (x0 : TX) (κ : Res->M α) :
  evF T (env k) k qaq.c qaq.res [.str x0] κ = qaq.f (k + 1) x0 (fun o0 => κ (.ret (.bool o0))) :=
 (qaq.u1.ok k x0 (retK T qaq.res κ)).trans (by kernel_rfl)
theorem qaq.code : qaq.c.code = zu Tryd.f76 := by kernel_rfl
noncomputable def qab.c : IC := qab.u1.c
noncomputable def qab.res : List ResultVar := []
theorem qab.u1.ok (k : Nat) (x0 : Ad) (x1 : TX) (K : KF α) :
  eC k qab.u1.c (za [(0, .ptr (some x0)), (1, .str x1)]) K =
   qab.u1.f k x0 x1 (K .normal (za [])) (fun v => K (.pan v) (za [])) := by kernel_rfl
theorem qab.ok (k : Nat) (x0 : Ad) (x1 : TX) (κ : Res->M α) :
  evF T (env k) k qab.c qab.res [.ptr (some x0), .str x1] κ = qab.f (k + 1) x0 x1 (fun v => κ (.pan v)) (κ (.ret (.tuple []))) :=
 (qab.u1.ok k x0 x1 (retK T qab.res κ)).trans (by kernel_rfl)
theorem qab.code : qab.c.code = zu Tryd.f80 := by kernel_rfl
noncomputable def qah.c : IC := qah.u1.c
noncomputable def qah.res : List ResultVar := [(.tmp 4)]
theorem qah.u1.ok (k : Nat) (x0 : Ad) (x1 : TX) (K : KF α) :
  eC k qah.u1.c (za [(0, .ptr (some x0)), (1, .str x1)]) K =
   qah.u1.f k x0 x1 (fun y0 => K .ret (fr22 y0)) (fun v => K (.pan v) (za [])) := by kernel_rfl
theorem qah.ok (k : Nat) (x0 : Ad) (x1 : TX) (κ : Res->M α) :
  evF T (env k) k qah.c qah.res [.ptr (some x0), .str x1] κ = qah.f (k + 1) x0 x1 (fun v => κ (.pan v)) (fun o0 => κ (.ret (.str o0))) :=
 (qah.u1.ok k x0 x1 (retK T qah.res κ)).trans (by kernel_rfl)
theorem qah.code : qah.c.code = zu Tryd.f79 := by kernel_rfl
noncomputable def qaa.c : IC := qaa.u1.c
noncomputable def qaa.res : List ResultVar := [(.tmp 2)]
theorem qaa.u1.ok (k : Nat) (x0 : Ad) (K : KF α) :
  eC k qaa.u1.c (za [(0, .ptr (some x0))]) K =
   qaa.u1.f k (qv.f k) x0 (fun y0 => K .ret (fr3 y0)) (fun v => K (.pan v) (za [])) := by kernel_rfl
theorem qaa.ok (k : Nat) (x0 : Ad) (κ : Res->M α) :
  evF T (env k) k qaa.c qaa.res [.ptr (some x0)] κ = qaa.f (k + 1) x0 (fun v => κ (.pan v)) (fun o0 => κ (.ret (.int .i64 o0))) :=
 (qaa.u1.ok k x0 (retK T qaa.res κ)).trans (by kernel_rfl)
theorem qaa.code : qaa.c.code = zu Tryd.f36 := by kernel_rfl
noncomputable def qv.c : IC := qv.u7.c
noncomputable def qv.res : List ResultVar := [(.tmp 8)]
theorem qv.u1.ok (k : Nat) (x0 : Ad) (x1 : TX) (x2 : Int) (x3 : V) (R : IC) (K : KF α) :
  eC k (qv.u1.c R) (za [(0, .ptr (some x0)), (1, .str x1), (2, .int .i64 x2), (3, x3)]) K =
   qv.u1.f k (qaf.f k) (qf.f k) x0 x1 x2 x3 (fun y0 y1 y2 y3 y4 => eC k R (za [(0, .ptr (some y0)), (1, .str y1), (2, .int .i64 y2), (3, y3), (9, .int .i64 y4)]) K) (fun v => K (.pan v) (za [])) := by kernel_rfl
theorem qv.u2.ok (k : Nat) (x0 : Ad) (x1 : TX) (x2 : Int) (x3 : V) (x4 : Int) (K : KF α) :
  eC k qv.u2.c (za [(0, .ptr (some x0)), (1, .str x1), (2, .int .i64 x2), (3, x3), (9, .int .i64 x4)]) K =
   qv.u2.f k (qaf.f k) (qf.f k) x0 x1 x2 x3 x4 (fun y0 y1 y2 y3 y4 => K .normal (za [(0, .ptr (some y0)), (1, .str y1), (2, .int .i64 y2), (3, y3), (9, .int .i64 y4)])) (fun y0 => K (.exit 0) (fr23 y0)) (fun v => K (.pan v) (za [])) := by kernel_rfl
theorem qv.u3.ls (k : Nat) (rr55 : Ad->(V->M α)->(Int->M α)->M α) (rr72 : Ad->(V->M α)->(Int->M α)->M α) (kx0 : Int->M α) (kp : V->M α) (j : Nat) (x0 : Ad) (x1 : TX) (x2 : Int) (x3 : V) (x4 : Int) : qv.u3.l k rr55 rr72 kx0 kp (j + 1) x0 x1 x2 x3 x4 =
 qv.u2.f k rr55 rr72 x0 x1 x2 x3 x4 (fun y0 y1 y2 y3 y4 => qv.u3.l k rr55 rr72 kx0 kp j y0 y1 y2 y3 y4) kx0 kp := rfl
theorem qv.u3.okl (k : Nat) (K : KF α) : ∀ (j : Nat) (x0 : Ad) (x1 : TX) (x2 : Int) (x3 : V) (x4 : Int),
  zy (eC k qv.u2.c) [0, 1, 2, 3, 9] j (za [(0, .ptr (some x0)), (1, .str x1), (2, .int .i64 x2), (3, x3), (9, .int .i64 x4)]) K = qv.u3.l k (qaf.f k) (qf.f k) (fun y0 => K (.exit 0) (fr23 y0)) (fun v => K (.pan v) (za [])) j x0 x1 x2 x3 x4
 | 0, _, _, _, _, _ => rfl
 | j + 1, x0, x1, x2, x3, x4 => by
   have h := qv.u2.ok k x0 x1 x2 x3 x4 (seqK (fun ρ => zy (eC k qv.u2.c) [0, 1, 2, 3, 9] j ρ K) K)
   simp only [zk, zp, zo, zf, qv.u3.okl k K j] at h
   exact (jg (by kernel_rfl) h).trans (qv.u3.ls k (qaf.f k) (qf.f k) (fun y0 => K (.exit 0) (fr23 y0)) (fun v => K (.pan v) (za [])) j x0 x1 x2 x3 x4).symm
theorem qv.u3.ok (k : Nat) (x0 : Ad) (x1 : TX) (x2 : Int) (x3 : V) (x4 : Int) (K : KF α) :
  eC k qv.u3.c (za [(0, .ptr (some x0)), (1, .str x1), (2, .int .i64 x2), (3, x3), (9, .int .i64 x4)]) K =
   qv.u3.f k (qaf.f k) (qf.f k) x0 x1 x2 x3 x4 (fun y0 => K (.exit 0) (fr23 y0)) (fun v => K (.pan v) (za [])) :=
 yb.trans <| (jf (body := eC k qv.u2.c) (keep := [0, 1, 2, 3, 9]) (ρ := (za [(0, .ptr (some x0)), (1, .str x1), (2, .int .i64 x2), (3, x3), (9, .int .i64 x4)])) (ρ' := (za [(0, .ptr (some x0)), (1, .str x1), (2, .int .i64 x2), (3, x3), (9, .int .i64 x4)])) (by kernel_rfl) k K).trans (qv.u3.okl k K k x0 x1 x2 x3 x4)
theorem qv.u4.ok (k : Nat) (x0 : Ad) (x1 : TX) (x2 : Int) (x3 : V) (x4 : Int) (K : KF α) :
  eC k qv.u4.c (za [(0, .ptr (some x0)), (1, .str x1), (2, .int .i64 x2), (3, x3), (9, .int .i64 x4)]) K =
   qv.u4.f k (qaf.f k) (qf.f k) x0 x1 x2 x3 x4 (fun y0 => K .normal (fr23 y0)) (fun v => K (.pan v) (za [])) :=
 (zx.trans (qv.u3.ok k x0 x1 x2 x3 x4 (jx 0 K))).trans (by kernel_rfl)
theorem qv.u5.ok (k : Nat) (x0 : Int) (K : KF α) :
  eC k qv.u5.c (fr23 x0) K =
   qv.u5.f k x0 (fun y0 => K .ret (fr24 y0)) := by kernel_rfl
theorem qv.u6.ok (k : Nat) (x0 : Ad) (x1 : TX) (x2 : Int) (x3 : V) (x4 : Int) (K : KF α) :
  eC k qv.u6.c (za [(0, .ptr (some x0)), (1, .str x1), (2, .int .i64 x2), (3, x3), (9, .int .i64 x4)]) K =
   qv.u6.f k (qaf.f k) (qf.f k) x0 x1 x2 x3 x4 (fun y0 => K .ret (fr24 y0)) (fun v => K (.pan v) (za [])) :=
 by
  have h := qv.u4.ok k x0 x1 x2 x3 x4 (seqK (fun ρ => eC k qv.u5.c ρ K) K)
  simp only [zf, zk, zp, zo, qv.u5.ok] at h
  exact jd h
theorem qv.u7.ok (k : Nat) (x0 : Ad) (x1 : TX) (x2 : Int) (x3 : V) (K : KF α) :
  eC k qv.u7.c (za [(0, .ptr (some x0)), (1, .str x1), (2, .int .i64 x2), (3, x3)]) K =
   qv.u7.f k (qaf.f k) (qf.f k) x0 x1 x2 x3 (fun y0 => K .ret (fr24 y0)) (fun v => K (.pan v) (za [])) :=
 (qv.u1.ok k x0 x1 x2 x3 qv.u6.c K).trans
  (congrArg (fun z => qv.u1.f k (qaf.f k) (qf.f k) x0 x1 x2 x3 z (fun v => K (.pan v) (za []))) (funext fun y0 => (funext fun y1 => (funext fun y2 => (funext fun y3 => (funext fun y4 => qv.u6.ok k y0 y1 y2 y3 y4 K))))))
theorem qv.ok (k : Nat) (x0 : Ad) (x1 : TX) (x2 : Int) (x3 : V) (κ : Res->M α) :
  evF T (env k) k qv.c qv.res [.ptr (some x0), .str x1, .int .i64 x2, x3] κ = qv.f (k + 1) x0 x1 x2 x3 (fun v => κ (.pan v)) (fun o0 => κ (.ret (.int .i64 o0))) :=
 (qv.u7.ok k x0 x1 x2 x3 (retK T qv.res κ)).trans (by kernel_rfl)
theorem qv.code : qv.c.code = zu Tryd.f54 := by kernel_rfl
noncomputable def qaf.c : IC := qaf.u1.c
noncomputable def qaf.res : List ResultVar := [(.tmp 2)]
theorem qaf.u1.ok (k : Nat) (x0 : Ad) (K : KF α) :
  eC k qaf.u1.c (za [(0, .ptr (some x0))]) K =
   qaf.u1.f k (qv.f k) x0 (fun y0 => K .ret (fr3 y0)) (fun v => K (.pan v) (za [])) := by kernel_rfl
theorem qaf.ok (k : Nat) (x0 : Ad) (κ : Res->M α) :
  evF T (env k) k qaf.c qaf.res [.ptr (some x0)] κ = qaf.f (k + 1) x0 (fun v => κ (.pan v)) (fun o0 => κ (.ret (.int .i64 o0))) :=
 (qaf.u1.ok k x0 (retK T qaf.res κ)).trans (by kernel_rfl)
theorem qaf.code : qaf.c.code = zu Tryd.f55 := by kernel_rfl
noncomputable def qf.c : IC := qf.u18.c
noncomputable def qf.res : List ResultVar := [(.tmp 2)]
theorem qf.u1.ok (k : Nat) (x0 : Ad) (R : IC) (K : KF α) :
  eC k (qf.u1.c R) (za [(0, .ptr (some x0))]) K =
   qf.u1.f k x0 (fun y0 => eC k R (za [(0, .ptr (some y0))]) K) := by kernel_rfl
theorem qf.u2.ok (k : Nat) (x0 : Ad) (R : IC) (K : KF α) :
  eC k (qf.u2.c R) (za [(0, .ptr (some x0))]) K =
   qf.u2.f k x0 (fun y0 y1 => eC k R (za [(0, .ptr (some y0)), (10, .bool y1)]) K) := by kernel_rfl
theorem qf.u3.ok (k : Nat) (x0 : Ad) (x1 : Bool) (K : KF α) :
  eC k qf.u3.c (za [(0, .ptr (some x0)), (10, .bool x1)]) K =
   qf.u3.f k (qf.f k) x0 x1 (fun y0 => K .ret (fr3 y0)) (fun v => K (.pan v) (za [])) := by kernel_rfl
theorem qf.u4.ok (k : Nat) (x0 : Ad) (x1 : Bool) (R : IC) (K : KF α) :
  eC k (qf.u4.c R) (za [(0, .ptr (some x0)), (10, .bool x1)]) K =
   qf.u4.f k x0 x1 (fun y0 y1 => eC k R (za [(0, .ptr (some y0)), (22, .bool y1)]) K) := by kernel_rfl
theorem qf.u5.ok (k : Nat) (x0 : Ad) (x1 : Bool) (K : KF α) :
  eC k qf.u5.c (za [(0, .ptr (some x0)), (22, .bool x1)]) K =
   qf.u5.f k (qf.f k) x0 x1 (fun y0 => K .ret (fr3 y0)) (fun v => K (.pan v) (za [])) := by kernel_rfl
theorem qf.u6.ok (k : Nat) (x0 : Ad) (x1 : Bool) (R : IC) (K : KF α) :
  eC k (qf.u6.c R) (za [(0, .ptr (some x0)), (22, .bool x1)]) K =
   qf.u6.f k x0 x1 (fun y0 y1 => eC k R (za [(0, .ptr (some y0)), (37, .bool y1)]) K) := by kernel_rfl
theorem qf.u7.ok (k : Nat) (x0 : Ad) (x1 : Bool) (K : KF α) :
  eC k qf.u7.c (za [(0, .ptr (some x0)), (37, .bool x1)]) K =
   qf.u7.f k (qf.f k) x0 x1 (fun y0 => K .ret (fr3 y0)) (fun v => K (.pan v) (za [])) := by kernel_rfl
theorem qf.u8.ok (k : Nat) (x0 : Ad) (x1 : Bool) (K : KF α) :
  eC k qf.u8.c (za [(0, .ptr (some x0)), (37, .bool x1)]) K =
   qf.u8.f k (qaa.f k) (qx.f k) x0 x1 (fun y0 => K .normal (za [(0, .ptr (some y0))])) (fun y0 => K .ret (fr3 y0)) (fun v => K (.pan v) (za [])) := by kernel_rfl
theorem qf.u9.ok (k : Nat) (x0 : Ad) (x1 : Bool) (K : KF α) :
  eC k qf.u9.c (za [(0, .ptr (some x0)), (37, .bool x1)]) K =
   qf.u9.f k (qf.f k) (qaa.f k) (qx.f k) x0 x1 (fun y0 => K .normal (za [(0, .ptr (some y0))])) (fun y0 => K .ret (fr3 y0)) (fun v => K (.pan v) (za [])) :=
 jw (g := x1) (by kernel_rfl) (qf.u7.ok k x0 x1 K) (qf.u8.ok k x0 x1 K)
theorem qf.u10.ok (k : Nat) (x0 : Ad) (x1 : Bool) (K : KF α) :
  eC k qf.u10.c (za [(0, .ptr (some x0)), (22, .bool x1)]) K =
   qf.u10.f k (qf.f k) (qaa.f k) (qx.f k) x0 x1 (fun y0 => K .normal (za [(0, .ptr (some y0))])) (fun y0 => K .ret (fr3 y0)) (fun v => K (.pan v) (za [])) :=
 (qf.u6.ok k x0 x1 qf.u9.c K).trans
  (congrArg (fun z => qf.u6.f k x0 x1 z) (funext fun y0 => (funext fun y1 => qf.u9.ok k y0 y1 K)))
theorem qf.u11.ok (k : Nat) (x0 : Ad) (x1 : Bool) (K : KF α) :
  eC k qf.u11.c (za [(0, .ptr (some x0)), (22, .bool x1)]) K =
   qf.u11.f k (qf.f k) (qaa.f k) (qx.f k) x0 x1 (fun y0 => K .normal (za [(0, .ptr (some y0))])) (fun y0 => K .ret (fr3 y0)) (fun v => K (.pan v) (za [])) :=
 jw (g := x1) (by kernel_rfl) (qf.u5.ok k x0 x1 K) (qf.u10.ok k x0 x1 K)
theorem qf.u12.ok (k : Nat) (x0 : Ad) (x1 : Bool) (K : KF α) :
  eC k qf.u12.c (za [(0, .ptr (some x0)), (10, .bool x1)]) K =
   qf.u12.f k (qf.f k) (qaa.f k) (qx.f k) x0 x1 (fun y0 => K .normal (za [(0, .ptr (some y0))])) (fun y0 => K .ret (fr3 y0)) (fun v => K (.pan v) (za [])) :=
 (qf.u4.ok k x0 x1 qf.u11.c K).trans
  (congrArg (fun z => qf.u4.f k x0 x1 z) (funext fun y0 => (funext fun y1 => qf.u11.ok k y0 y1 K)))
theorem qf.u13.ok (k : Nat) (x0 : Ad) (x1 : Bool) (K : KF α) :
  eC k qf.u13.c (za [(0, .ptr (some x0)), (10, .bool x1)]) K =
   qf.u13.f k (qf.f k) (qaa.f k) (qx.f k) x0 x1 (fun y0 => K .normal (za [(0, .ptr (some y0))])) (fun y0 => K .ret (fr3 y0)) (fun v => K (.pan v) (za [])) :=
 jw (g := x1) (by kernel_rfl) (qf.u3.ok k x0 x1 K) (qf.u12.ok k x0 x1 K)
theorem qf.u14.ok (k : Nat) (x0 : Ad) (K : KF α) :
  eC k qf.u14.c (za [(0, .ptr (some x0))]) K =
   qf.u14.f k (qf.f k) (qaa.f k) (qx.f k) x0 (fun y0 => K .normal (za [(0, .ptr (some y0))])) (fun y0 => K .ret (fr3 y0)) (fun v => K (.pan v) (za [])) :=
 (qf.u2.ok k x0 qf.u13.c K).trans
  (congrArg (fun z => qf.u2.f k x0 z) (funext fun y0 => (funext fun y1 => qf.u13.ok k y0 y1 K)))
theorem qf.u15.ok (k : Nat) (x0 : Ad) (K : KF α) :
  eC k qf.u15.c (za [(0, .ptr (some x0))]) K =
   qf.u15.f k (qf.f k) (qaa.f k) (qx.f k) x0 (fun y0 => K .normal (za [(0, .ptr (some y0))])) (fun y0 => K .ret (fr3 y0)) (fun v => K (.pan v) (za [])) :=
 (zx.trans (qf.u14.ok k x0 (jx 0 K))).trans (by kernel_rfl)
theorem qf.u16.ok (k : Nat) (x0 : Ad) (K : KF α) :
  eC k qf.u16.c (za [(0, .ptr (some x0))]) K =
   qf.u16.f k x0 (fun y0 => K .ret (fr3 y0)) (fun v => K (.pan v) (za [])) := by kernel_rfl
theorem qf.u17.ok (k : Nat) (x0 : Ad) (K : KF α) :
  eC k qf.u17.c (za [(0, .ptr (some x0))]) K =
   qf.u17.f k (qf.f k) (qaa.f k) (qx.f k) x0 (fun y0 => K .ret (fr3 y0)) (fun v => K (.pan v) (za [])) :=
 by
  have h := qf.u15.ok k x0 (seqK (fun ρ => eC k qf.u16.c ρ K) K)
  simp only [zf, zk, zp, zo, qf.u16.ok] at h
  exact jd h
theorem qf.u18.ok (k : Nat) (x0 : Ad) (K : KF α) :
  eC k qf.u18.c (za [(0, .ptr (some x0))]) K =
   qf.u18.f k (qf.f k) (qaa.f k) (qx.f k) x0 (fun y0 => K .ret (fr3 y0)) (fun v => K (.pan v) (za [])) :=
 (qf.u1.ok k x0 qf.u17.c K).trans
  (congrArg (fun z => qf.u1.f k x0 z) (funext fun y0 => qf.u17.ok k y0 K))
theorem qf.ok (k : Nat) (x0 : Ad) (κ : Res->M α) :
  evF T (env k) k qf.c qf.res [.ptr (some x0)] κ = qf.f (k + 1) x0 (fun v => κ (.pan v)) (fun o0 => κ (.ret (.int .i64 o0))) :=
 (qf.u18.ok k x0 (retK T qf.res κ)).trans (by kernel_rfl)
theorem qf.code : qf.c.code = zu Tryd.f72 := by kernel_rfl
noncomputable def qx.c : IC := qx.u5.c
noncomputable def qx.res : List ResultVar := [(.tmp 2)]
theorem qx.u1.ok (k : Nat) (x0 : Ad) (R : IC) (K : KF α) :
  eC k (qx.u1.c R) (za [(0, .ptr (some x0))]) K =
   qx.u1.f k x0 (fun y0 y1 y2 => eC k R (za [(0, .ptr (some y0)), (3, .ptr (some y1)), (4, .int .i64 y2)]) K) (fun y0 => K .ret (fr3 y0)) (fun v => K (.pan v) (za [])) := by kernel_rfl
theorem qx.u2.ok (k : Nat) (x0 x1 : Ad) (x2 : Int) (R : IC) (K : KF α) :
  eC k (qx.u2.c R) (za [(0, .ptr (some x0)), (3, .ptr (some x1)), (4, .int .i64 x2)]) K =
   qx.u2.f k x0 x1 x2 (fun y0 y1 y2 => eC k R (za [(0, .ptr (some y0)), (3, .ptr (some y1)), (4, .int .i64 y2)]) K) (fun v => K (.pan v) (za [])) := by kernel_rfl
theorem qx.u3.ok (k : Nat) (x0 x1 : Ad) (x2 : Int) (K : KF α) :
  eC k qx.u3.c (za [(0, .ptr (some x0)), (3, .ptr (some x1)), (4, .int .i64 x2)]) K =
   qx.u3.f k (qaa.f k) x0 x1 x2 (fun y0 => K .ret (fr3 y0)) (fun v => K (.pan v) (za [])) := by kernel_rfl
theorem qx.u4.ok (k : Nat) (x0 x1 : Ad) (x2 : Int) (K : KF α) :
  eC k qx.u4.c (za [(0, .ptr (some x0)), (3, .ptr (some x1)), (4, .int .i64 x2)]) K =
   qx.u4.f k (qaa.f k) x0 x1 x2 (fun y0 => K .ret (fr3 y0)) (fun v => K (.pan v) (za [])) :=
 (qx.u2.ok k x0 x1 x2 qx.u3.c K).trans
  (congrArg (fun z => qx.u2.f k x0 x1 x2 z (fun v => K (.pan v) (za []))) (funext fun y0 => (funext fun y1 => (funext fun y2 => qx.u3.ok k y0 y1 y2 K))))
theorem qx.u5.ok (k : Nat) (x0 : Ad) (K : KF α) :
  eC k qx.u5.c (za [(0, .ptr (some x0))]) K =
   qx.u5.f k (qaa.f k) x0 (fun y0 => K .ret (fr3 y0)) (fun v => K (.pan v) (za [])) :=
 (qx.u1.ok k x0 qx.u4.c K).trans
  (congrArg (fun z => qx.u1.f k x0 z (fun y0 => K .ret (fr3 y0)) (fun v => K (.pan v) (za []))) (funext fun y0 => (funext fun y1 => (funext fun y2 => qx.u4.ok k y0 y1 y2 K))))
theorem qx.ok (k : Nat) (x0 : Ad) (κ : Res->M α) :
  evF T (env k) k qx.c qx.res [.ptr (some x0)] κ = qx.f (k + 1) x0 (fun v => κ (.pan v)) (fun o0 => κ (.ret (.int .i64 o0))) :=
 (qx.u5.ok k x0 (retK T qx.res κ)).trans (by kernel_rfl)
theorem qx.code : qx.c.code = zu Tryd.f81 := by kernel_rfl
noncomputable def qy.res : List ResultVar := [(.cell 2 22), (.cell 3 36)]
theorem qy.sp (k : Nat) (x0 : TX) (K : KF α) (Kn : Frame->M α) :
  zjo T (env k) k qy.as (fr11 x0) K Kn = qy.u1.f k x0 (fun y0 y1 y2 => Kn (za [(2, .ptr (some y0)), (3, .ptr (some y1)), (4, .slice y2)])) (fun y0 y1 => K .ret (za [(2, .ptr (some y0)), (3, .ptr (some y1))])) := by kernel_rfl
theorem qy.bok (k : Nat) (y0 : Ad) (y1 : Ad) (y2 : Sl) (K : KF α) :
  eC k qy.u2.c (Frame.put (za [(2, .ptr (some y0)), (3, .ptr (some y1)), (4, .slice y2)]) (some 14) (.func 33 [] [.ptr (some y0), .ptr (some y1)])) K = qy.u2.f k y0 y1 y2 (fun z0 z1 => K .ret (za [(2, .ptr (some z0)), (3, .ptr (some z1))])) (fun v => K (.pan v) (za [])) := by kernel_rfl
theorem qy.ret (k : Nat) (y0 : Ad) (y1 : Ad) (y2 : Sl) (z0 : Ad) (z1 : Ad) (κ : Res->M α) :
  (deferB T (env k) k qy.C.u1.c 5 [2, 3] qy.res [.ptr (some y0), .ptr (some y1)] (za [(2, .ptr (some y0)), (3, .ptr (some y1)), (4, .slice y2)]) κ) .ret (za [(2, .ptr (some z0)), (3, .ptr (some z1))]) = qy.C.u1.f k y0 y1 .nilIface (
 ldS (z0.add 0) fun o501 =>
 ld (z1.add 0) fun o502 =>
 (fun o0 o1 => κ (.ret (.tuple [.slice o0, o1]))) o501 o502) := by kernel_rfl
theorem qy.pan (k : Nat) (y0 : Ad) (y1 : Ad) (y2 : Sl) (v : V) (ρ : Frame) (κ : Res->M α) :
  (deferB T (env k) k qy.C.u1.c 5 [2, 3] qy.res [.ptr (some y0), .ptr (some y1)] (za [(2, .ptr (some y0)), (3, .ptr (some y1)), (4, .slice y2)]) κ) (.pan v) ρ = qy.C.u1.f k y0 y1 v (
 ldS (y0.add 0) fun o501 =>
 ld (y1.add 0) fun o502 =>
 (fun o0 o1 => κ (.ret (.tuple [.slice o0, o1]))) o501 o502) := by kernel_rfl
theorem qy.reta (y0 : Ad) (y1 : Ad) (κ : Res->M α) :
  deferA T qy.res κ .ret (za [(2, .ptr (some y0)), (3, .ptr (some y1))]) = (
 ldS (y0.add 0) fun o501 =>
 ld (y1.add 0) fun o502 =>
 (fun o0 o1 => κ (.ret (.tuple [.slice o0, o1]))) o501 o502) := by kernel_rfl
theorem qy.ok (k : Nat) (x0 : TX) (κ : Res->M α) :
  zoo T (env k) k qy.as qy.u2.c qy.C.u1.c 33 14 5 [.tmp 2, .tmp 3] [2, 3] qy.res [.str x0] κ = qy.f (k + 1) x0 (fun o0 o1 => κ (.ret (.tuple [.slice o0, o1]))) :=
 (qy.sp k x0 _ _).trans (congr (congrArg (fun a b => qy.u1.f k x0 a b) (funext fun y0 => funext fun y1 => funext fun y2 => (qy.bok k y0 y1 y2 _).trans (congr (congrArg (fun a b => qy.u2.f k y0 y1 y2 a b) (funext fun z0 => funext fun z1 => qy.ret k y0 y1 y2 z0 z1 κ)) (funext fun v => qy.pan k y0 y1 y2 v _ κ)))) (funext fun y0 => funext fun y1 => qy.reta y0 y1 κ))
noncomputable def qau.c : IC := qau.u1.c
noncomputable def qau.res : List ResultVar := [(.tmp 2)]
theorem qau.u1.ok (k : Nat) (x0 x1 x2 : Int) (x3 : TX) (x4 : Int) (K : KF α) :
  eC k qau.u1.c (za [(0, .agg [.int .i64 x0, .int .i64 x1, .int .i64 x2, .str x3, .int .i64 x4])]) K =
   qau.u1.f k x0 x1 x2 x3 x4 (fun y0 => K .ret (fr18 y0)) := by kernel_rfl
theorem qau.ok (k : Nat) (x0 x1 x2 : Int) (x3 : TX) (x4 : Int) (κ : Res->M α) :
  evF T (env k) k qau.c qau.res [.agg [.int .i64 x0, .int .i64 x1, .int .i64 x2, .str x3, .int .i64 x4]] κ = qau.f (k + 1) x0 x1 x2 x3 x4 (fun o0 => κ (.ret (.bool o0))) :=
 (qau.u1.ok k x0 x1 x2 x3 x4 (retK T qau.res κ)).trans (by kernel_rfl)
theorem qau.code : qau.c.code = zu Tryd.f27 := by kernel_rfl
noncomputable def qp.c : IC := qp.u9.c
noncomputable def qp.res : List ResultVar := [(.tmp 4)]
theorem qp.u1.ok (k : Nat) (x0 : Sl) (R : IC) (K : KF α) :
  eC k (qp.u1.c R) (za [(0, .slice x0), (1, .func 27 [] [])]) K =
   qp.u1.f k x0 (fun y0 => eC k R (za [(0, .slice y0), (1, .func 27 [] [])]) K) := by kernel_rfl
theorem qp.u2.ok (k : Nat) (x0 : Sl) (R : IC) (K : KF α) :
  eC k (qp.u2.c R) (za [(0, .slice x0), (1, .func 27 [] [])]) K =
   qp.u2.f k x0 (fun y0 y1 y2 => eC k R (za [(0, .slice y0), (1, .func 27 [] []), (7, .int .i64 y1), (8, .int .i64 y2)]) K) := by kernel_rfl
theorem qp.u3.ok (k : Nat) (x0 : Sl) (x1 x2 : Int) (K : KF α) :
  eC k qp.u3.c (za [(0, .slice x0), (1, .func 27 [] []), (7, .int .i64 x1), (8, .int .i64 x2)]) K =
   qp.u3.f k x0 x1 x2 (fun y0 y1 y2 => K .normal (za [(0, .slice y0), (1, .func 27 [] []), (7, .int .i64 y1), (8, .int .i64 y2)])) (fun y0 => K .ret (fr1 y0)) (K (.exit 0) (za [])) := by kernel_rfl
theorem qp.u4.ls (k : Nat) (kr : Int->M α) (kx0 : M α) (j : Nat) (x0 : Sl) (x1 x2 : Int) : qp.u4.l k kr kx0 (j + 1) x0 x1 x2 =
 qp.u3.f k x0 x1 x2 (fun y0 y1 y2 => qp.u4.l k kr kx0 j y0 y1 y2) kr kx0 := rfl
theorem qp.u4.okl (k : Nat) (K : KF α) : ∀ (j : Nat) (x0 : Sl) (x1 x2 : Int),
  zy (eC k qp.u3.c) [0, 1, 7, 8] j (za [(0, .slice x0), (1, .func 27 [] []), (7, .int .i64 x1), (8, .int .i64 x2)]) K = qp.u4.l k (fun y0 => K .ret (fr1 y0)) (K (.exit 0) (za [])) j x0 x1 x2
 | 0, _, _, _ => rfl
 | j + 1, x0, x1, x2 => by
   have h := qp.u3.ok k x0 x1 x2 (seqK (fun ρ => zy (eC k qp.u3.c) [0, 1, 7, 8] j ρ K) K)
   simp only [zk, zp, zo, zf, qp.u4.okl k K j] at h
   exact (jg (by kernel_rfl) h).trans (qp.u4.ls k (fun y0 => K .ret (fr1 y0)) (K (.exit 0) (za [])) j x0 x1 x2).symm
theorem qp.u4.ok (k : Nat) (x0 : Sl) (x1 x2 : Int) (K : KF α) :
  eC k qp.u4.c (za [(0, .slice x0), (1, .func 27 [] []), (7, .int .i64 x1), (8, .int .i64 x2)]) K =
   qp.u4.f k x0 x1 x2 (fun y0 => K .ret (fr1 y0)) (K (.exit 0) (za [])) :=
 yb.trans <| (jf (body := eC k qp.u3.c) (keep := [0, 1, 7, 8]) (ρ := (za [(0, .slice x0), (1, .func 27 [] []), (7, .int .i64 x1), (8, .int .i64 x2)])) (ρ' := (za [(0, .slice x0), (1, .func 27 [] []), (7, .int .i64 x1), (8, .int .i64 x2)])) (by kernel_rfl) k K).trans (qp.u4.okl k K k x0 x1 x2)
theorem qp.u5.ok (k : Nat) (x0 : Sl) (x1 x2 : Int) (K : KF α) :
  eC k qp.u5.c (za [(0, .slice x0), (1, .func 27 [] []), (7, .int .i64 x1), (8, .int .i64 x2)]) K =
   qp.u5.f k x0 x1 x2 (K .normal (za [])) (fun y0 => K .ret (fr1 y0)) :=
 (zx.trans (qp.u4.ok k x0 x1 x2 (jx 0 K))).trans (by kernel_rfl)
theorem qp.u6.ok (k : Nat) (x0 : Sl) (K : KF α) :
  eC k qp.u6.c (za [(0, .slice x0), (1, .func 27 [] [])]) K =
   qp.u6.f k x0 (K .normal (za [])) (fun y0 => K .ret (fr1 y0)) :=
 (qp.u2.ok k x0 qp.u5.c K).trans
  (congrArg (fun z => qp.u2.f k x0 z) (funext fun y0 => (funext fun y1 => (funext fun y2 => qp.u5.ok k y0 y1 y2 K))))
theorem qp.u7.ok (k : Nat) (K : KF α) :
  eC k qp.u7.c (za []) K =
   qp.u7.f k (fun y0 => K .ret (fr1 y0)) := by kernel_rfl
theorem qp.u8.ok (k : Nat) (x0 : Sl) (K : KF α) :
  eC k qp.u8.c (za [(0, .slice x0), (1, .func 27 [] [])]) K =
   qp.u8.f k x0 (fun y0 => K .ret (fr1 y0)) :=
 by
  have h := qp.u6.ok k x0 (seqK (fun ρ => eC k qp.u7.c ρ K) K)
  simp only [zf, zk, zp, zo, qp.u7.ok] at h
  exact jd h
theorem qp.u9.ok (k : Nat) (x0 : Sl) (K : KF α) :
  eC k qp.u9.c (za [(0, .slice x0), (1, .func 27 [] [])]) K =
   qp.u9.f k x0 (fun y0 => K .ret (fr1 y0)) :=
 (qp.u1.ok k x0 qp.u8.c K).trans
  (congrArg (fun z => qp.u1.f k x0 z) (funext fun y0 => qp.u8.ok k y0 K))
theorem qp.ok (k : Nat) (x0 : Sl) (κ : Res->M α) :
  evF T (env k) k qp.c qp.res [.slice x0, .func 27 [] []] κ = qp.f (k + 1) x0 (fun o0 => κ (.ret (.int .i64 o0))) :=
 (qp.u9.ok k x0 (retK T qp.res κ)).trans (by kernel_rfl)
theorem qp.code : qp.c.code = zu Tryd.f43 := by kernel_rfl
noncomputable def qav.c : IC := qav.u1.c
noncomputable def qav.res : List ResultVar := [(.tmp 4)]
theorem qav.u1.ok (k : Nat) (x0 : Sl) (K : KF α) :
  eC k qav.u1.c (za [(0, .slice x0), (1, .func 27 [] [])]) K =
   qav.u1.f k x0 (fun y0 => K .ret (fr21 y0)) := by kernel_rfl
theorem qav.ok (k : Nat) (x0 : Sl) (κ : Res->M α) :
  evF T (env k) k qav.c qav.res [.slice x0, .func 27 [] []] κ = qav.f (k + 1) x0 (fun o0 => κ (.ret (.bool o0))) :=
 (qav.u1.ok k x0 (retK T qav.res κ)).trans (by kernel_rfl)
theorem qav.code : qav.c.code = zu Tryd.f26 := by kernel_rfl
noncomputable def qam.c : IC := qam.u1.c
noncomputable def qam.res : List ResultVar := [(.tmp 2)]
theorem qam.u1.ok (k : Nat) (x0 : Sl) (K : KF α) :
  eC k qam.u1.c (fr25 x0) K =
   qam.u1.f k x0 (fun y0 => K .ret (fr26 y0)) := by kernel_rfl
theorem qam.ok (k : Nat) (x0 : Sl) (κ : Res->M α) :
  evF T (env k) k qam.c qam.res [.slice x0] κ = qam.f (k + 1) x0 (fun o0 => κ (.ret (.slice o0))) :=
 (qam.u1.ok k x0 (retK T qam.res κ)).trans (by kernel_rfl)
theorem qam.code : qam.c.code = zu Tryd.f42 := by kernel_rfl
noncomputable def qt.c : IC := qt.u9.c
noncomputable def qt.res : List ResultVar := [(.tmp 6)]
theorem qt.u1.ok (k : Nat) (x0 : TX) (x1 x2 : Int) (R : IC) (K : KF α) :
  eC k (qt.u1.c R) (fr27 x0 x1 x2) K =
   qt.u1.f k x0 x1 x2 (fun y0 => eC k R (fr11 y0) K) (fun y0 => K .ret (fr28 y0)) := by kernel_rfl
theorem qt.u2.ok (k : Nat) (x0 : TX) (R : IC) (K : KF α) :
  eC k (qt.u2.c R) (fr11 x0) K =
   qt.u2.f k x0 (fun y0 y1 y2 => eC k R (fr29 y0 y1 y2) K) := by kernel_rfl
theorem qt.u3.ok (k : Nat) (x0 : TX) (x1 x2 : Int) (K : KF α) :
  eC k qt.u3.c (fr29 x0 x1 x2) K =
   qt.u3.f k x0 x1 x2 (fun y0 y1 y2 => K .normal (fr29 y0 y1 y2)) (fun y0 => K .ret (fr28 y0)) (K (.exit 0) (za [])) := by kernel_rfl
theorem qt.u4.ls (k : Nat) (kr : Bool->M α) (kx0 : M α) (j : Nat) (x0 : TX) (x1 x2 : Int) : qt.u4.l k kr kx0 (j + 1) x0 x1 x2 =
 qt.u3.f k x0 x1 x2 (fun y0 y1 y2 => qt.u4.l k kr kx0 j y0 y1 y2) kr kx0 := rfl
theorem qt.u4.okl (k : Nat) (K : KF α) : ∀ (j : Nat) (x0 : TX) (x1 x2 : Int),
  zy (eC k qt.u3.c) [0, 30, 31] j (fr29 x0 x1 x2) K = qt.u4.l k (fun y0 => K .ret (fr28 y0)) (K (.exit 0) (za [])) j x0 x1 x2
 | 0, _, _, _ => rfl
 | j + 1, x0, x1, x2 => by
   have h := qt.u3.ok k x0 x1 x2 (seqK (fun ρ => zy (eC k qt.u3.c) [0, 30, 31] j ρ K) K)
   simp only [zk, zp, zo, zf, qt.u4.okl k K j] at h
   exact (jg (by kernel_rfl) h).trans (qt.u4.ls k (fun y0 => K .ret (fr28 y0)) (K (.exit 0) (za [])) j x0 x1 x2).symm
theorem qt.u4.ok (k : Nat) (x0 : TX) (x1 x2 : Int) (K : KF α) :
  eC k qt.u4.c (fr29 x0 x1 x2) K =
   qt.u4.f k x0 x1 x2 (fun y0 => K .ret (fr28 y0)) (K (.exit 0) (za [])) :=
 yb.trans <| (jf (body := eC k qt.u3.c) (keep := [0, 30, 31]) (ρ := (fr29 x0 x1 x2)) (ρ' := (fr29 x0 x1 x2)) (by kernel_rfl) k K).trans (qt.u4.okl k K k x0 x1 x2)
theorem qt.u5.ok (k : Nat) (x0 : TX) (x1 x2 : Int) (K : KF α) :
  eC k qt.u5.c (fr29 x0 x1 x2) K =
   qt.u5.f k x0 x1 x2 (K .normal (za [])) (fun y0 => K .ret (fr28 y0)) :=
 (zx.trans (qt.u4.ok k x0 x1 x2 (jx 0 K))).trans (by kernel_rfl)
theorem qt.u6.ok (k : Nat) (x0 : TX) (K : KF α) :
  eC k qt.u6.c (fr11 x0) K =
   qt.u6.f k x0 (K .normal (za [])) (fun y0 => K .ret (fr28 y0)) :=
 (qt.u2.ok k x0 qt.u5.c K).trans
  (congrArg (fun z => qt.u2.f k x0 z) (funext fun y0 => (funext fun y1 => (funext fun y2 => qt.u5.ok k y0 y1 y2 K))))
theorem qt.u7.ok (k : Nat) (K : KF α) :
  eC k qt.u7.c (za []) K =
   qt.u7.f k (fun y0 => K .ret (fr28 y0)) := by kernel_rfl
theorem qt.u8.ok (k : Nat) (x0 : TX) (K : KF α) :
  eC k qt.u8.c (fr11 x0) K =
   qt.u8.f k x0 (fun y0 => K .ret (fr28 y0)) :=
 by
  have h := qt.u6.ok k x0 (seqK (fun ρ => eC k qt.u7.c ρ K) K)
  simp only [zf, zk, zp, zo, qt.u7.ok] at h
  exact jd h
theorem qt.u9.ok (k : Nat) (x0 : TX) (x1 x2 : Int) (K : KF α) :
  eC k qt.u9.c (fr27 x0 x1 x2) K =
   qt.u9.f k x0 x1 x2 (fun y0 => K .ret (fr28 y0)) :=
 (qt.u1.ok k x0 x1 x2 qt.u8.c K).trans
  (congrArg (fun z => qt.u1.f k x0 x1 x2 z (fun y0 => K .ret (fr28 y0))) (funext fun y0 => qt.u8.ok k y0 K))
theorem qt.ok (k : Nat) (x0 : TX) (x1 x2 : Int) (κ : Res->M α) :
  evF T (env k) k qt.c qt.res [.str x0, .int .u8 x1, .int .u8 x2] κ = qt.f (k + 1) x0 x1 x2 (fun o0 => κ (.ret (.bool o0))) :=
 (qt.u9.ok k x0 x1 x2 (retK T qt.res κ)).trans (by kernel_rfl)
theorem qt.code : qt.c.code = zu Tryd.f75 := by kernel_rfl
noncomputable def qal.c : IC := qal.u1.c
noncomputable def qal.res : List ResultVar := [(.tmp 2)]
theorem qal.u1.ok (k : Nat) (x0 : TX) (K : KF α) :
  eC k qal.u1.c (fr11 x0) K =
   qal.u1.f k x0 (fun y0 => K .ret (fr18 y0)) := by kernel_rfl
theorem qal.ok (k : Nat) (x0 : TX) (κ : Res->M α) :
  evF T (env k) k qal.c qal.res [.str x0] κ = qal.f (k + 1) x0 (fun o0 => κ (.ret (.bool o0))) :=
 (qal.u1.ok k x0 (retK T qal.res κ)).trans (by kernel_rfl)
theorem qal.code : qal.c.code = zu Tryd.f60 := by kernel_rfl
noncomputable def qad.c : IC := qad.u1.c
noncomputable def qad.res : List ResultVar := [(.tmp 2)]
theorem qad.u1.ok (k : Nat) (x0 : TX) (K : KF α) :
  eC k qad.u1.c (fr11 x0) K =
   qad.u1.f k x0 (fun y0 => K .ret (fr18 y0)) := by kernel_rfl
theorem qad.ok (k : Nat) (x0 : TX) (κ : Res->M α) :
  evF T (env k) k qad.c qad.res [.str x0] κ = qad.f (k + 1) x0 (fun o0 => κ (.ret (.bool o0))) :=
 (qad.u1.ok k x0 (retK T qad.res κ)).trans (by kernel_rfl)
theorem qad.code : qad.c.code = zu Tryd.f61 := by kernel_rfl
noncomputable def qay.c : IC := qay.u1.c
noncomputable def qay.res : List ResultVar := [(.tmp 2), (.tmp 3)]
theorem qay.u1.ok (k : Nat) (x0 x1 x2 : Int) (x3 : TX) (x4 : Int) (K : KF α) :
  eC k qay.u1.c (za [(0, .agg [.int .i64 x0, .int .i64 x1, .int .i64 x2, .str x3, .int .i64 x4])]) K =
   qay.u1.f k x0 x1 x2 x3 x4 (fun y0 y1 => K .ret (fr12 y0 y1)) := by kernel_rfl
theorem qay.ok (k : Nat) (x0 x1 x2 : Int) (x3 : TX) (x4 : Int) (κ : Res->M α) :
  evF T (env k) k qay.c qay.res [.agg [.int .i64 x0, .int .i64 x1, .int .i64 x2, .str x3, .int .i64 x4]] κ = qay.f (k + 1) x0 x1 x2 x3 x4 (fun o0 o1 => κ (.ret (.tuple [.int .i64 o0, .bool o1]))) :=
 (qay.u1.ok k x0 x1 x2 x3 x4 (retK T qay.res κ)).trans (by kernel_rfl)
theorem qay.code : qay.c.code = zu Tryd.f45 := by kernel_rfl
noncomputable def qbc.c : IC := qbc.u1.c
noncomputable def qbc.res : List ResultVar := [(.tmp 2)]
theorem qbc.u1.ok (k : Nat) (x0 : Int) (K : KF α) :
  eC k qbc.u1.c (fr30 x0) K =
   qbc.u1.f k x0 (fun y0 => K .ret (fr18 y0)) := by kernel_rfl
theorem qbc.ok (k : Nat) (x0 : Int) (κ : Res->M α) :
  evF T (env k) k qbc.c qbc.res [.int .i64 x0] κ = qbc.f (k + 1) x0 (fun o0 => κ (.ret (.bool o0))) :=
 (qbc.u1.ok k x0 (retK T qbc.res κ)).trans (by kernel_rfl)
theorem qbc.code : qbc.c.code = zu Tryd.f47 := by kernel_rfl
noncomputable def qu.c : IC := qu.u9.c
noncomputable def qu.res : List ResultVar := [(.tmp 4)]
theorem qu.u1.ok (k : Nat) (x0 : Sl) (R : IC) (K : KF α) :
  eC k (qu.u1.c R) (za [(0, .slice x0), (1, .func 47 [] [])]) K =
   qu.u1.f k x0 (fun y0 => eC k R (za [(0, .slice y0), (1, .func 47 [] [])]) K) := by kernel_rfl
theorem qu.u2.ok (k : Nat) (x0 : Sl) (R : IC) (K : KF α) :
  eC k (qu.u2.c R) (za [(0, .slice x0), (1, .func 47 [] [])]) K =
   qu.u2.f k x0 (fun y0 y1 y2 => eC k R (za [(0, .slice y0), (1, .func 47 [] []), (7, .int .i64 y1), (8, .int .i64 y2)]) K) := by kernel_rfl
theorem qu.u3.ok (k : Nat) (x0 : Sl) (x1 x2 : Int) (K : KF α) :
  eC k qu.u3.c (za [(0, .slice x0), (1, .func 47 [] []), (7, .int .i64 x1), (8, .int .i64 x2)]) K =
   qu.u3.f k x0 x1 x2 (fun y0 y1 y2 => K .normal (za [(0, .slice y0), (1, .func 47 [] []), (7, .int .i64 y1), (8, .int .i64 y2)])) (fun y0 => K .ret (fr1 y0)) (K (.exit 0) (za [])) := by kernel_rfl
theorem qu.u4.ls (k : Nat) (kr : Int->M α) (kx0 : M α) (j : Nat) (x0 : Sl) (x1 x2 : Int) : qu.u4.l k kr kx0 (j + 1) x0 x1 x2 =
 qu.u3.f k x0 x1 x2 (fun y0 y1 y2 => qu.u4.l k kr kx0 j y0 y1 y2) kr kx0 := rfl
theorem qu.u4.okl (k : Nat) (K : KF α) : ∀ (j : Nat) (x0 : Sl) (x1 x2 : Int),
  zy (eC k qu.u3.c) [0, 1, 7, 8] j (za [(0, .slice x0), (1, .func 47 [] []), (7, .int .i64 x1), (8, .int .i64 x2)]) K = qu.u4.l k (fun y0 => K .ret (fr1 y0)) (K (.exit 0) (za [])) j x0 x1 x2
 | 0, _, _, _ => rfl
 | j + 1, x0, x1, x2 => by
   have h := qu.u3.ok k x0 x1 x2 (seqK (fun ρ => zy (eC k qu.u3.c) [0, 1, 7, 8] j ρ K) K)
   simp only [zk, zp, zo, zf, qu.u4.okl k K j] at h
   exact (jg (by kernel_rfl) h).trans (qu.u4.ls k (fun y0 => K .ret (fr1 y0)) (K (.exit 0) (za [])) j x0 x1 x2).symm
theorem qu.u4.ok (k : Nat) (x0 : Sl) (x1 x2 : Int) (K : KF α) :
  eC k qu.u4.c (za [(0, .slice x0), (1, .func 47 [] []), (7, .int .i64 x1), (8, .int .i64 x2)]) K =
   qu.u4.f k x0 x1 x2 (fun y0 => K .ret (fr1 y0)) (K (.exit 0) (za [])) :=
 yb.trans <| (jf (body := eC k qu.u3.c) (keep := [0, 1, 7, 8]) (ρ := (za [(0, .slice x0), (1, .func 47 [] []), (7, .int .i64 x1), (8, .int .i64 x2)])) (ρ' := (za [(0, .slice x0), (1, .func 47 [] []), (7, .int .i64 x1), (8, .int .i64 x2)])) (by kernel_rfl) k K).trans (qu.u4.okl k K k x0 x1 x2)
theorem qu.u5.ok (k : Nat) (x0 : Sl) (x1 x2 : Int) (K : KF α) :
  eC k qu.u5.c (za [(0, .slice x0), (1, .func 47 [] []), (7, .int .i64 x1), (8, .int .i64 x2)]) K =
   qu.u5.f k x0 x1 x2 (K .normal (za [])) (fun y0 => K .ret (fr1 y0)) :=
 (zx.trans (qu.u4.ok k x0 x1 x2 (jx 0 K))).trans (by kernel_rfl)
theorem qu.u6.ok (k : Nat) (x0 : Sl) (K : KF α) :
  eC k qu.u6.c (za [(0, .slice x0), (1, .func 47 [] [])]) K =
   qu.u6.f k x0 (K .normal (za [])) (fun y0 => K .ret (fr1 y0)) :=
 (qu.u2.ok k x0 qu.u5.c K).trans
  (congrArg (fun z => qu.u2.f k x0 z) (funext fun y0 => (funext fun y1 => (funext fun y2 => qu.u5.ok k y0 y1 y2 K))))
theorem qu.u7.ok (k : Nat) (K : KF α) :
  eC k qu.u7.c (za []) K =
   qu.u7.f k (fun y0 => K .ret (fr1 y0)) := by kernel_rfl
theorem qu.u8.ok (k : Nat) (x0 : Sl) (K : KF α) :
  eC k qu.u8.c (za [(0, .slice x0), (1, .func 47 [] [])]) K =
   qu.u8.f k x0 (fun y0 => K .ret (fr1 y0)) :=
 by
  have h := qu.u6.ok k x0 (seqK (fun ρ => eC k qu.u7.c ρ K) K)
  simp only [zf, zk, zp, zo, qu.u7.ok] at h
  exact jd h
theorem qu.u9.ok (k : Nat) (x0 : Sl) (K : KF α) :
  eC k qu.u9.c (za [(0, .slice x0), (1, .func 47 [] [])]) K =
   qu.u9.f k x0 (fun y0 => K .ret (fr1 y0)) :=
 (qu.u1.ok k x0 qu.u8.c K).trans
  (congrArg (fun z => qu.u1.f k x0 z) (funext fun y0 => qu.u8.ok k y0 K))
theorem qu.ok (k : Nat) (x0 : Sl) (κ : Res->M α) :
  evF T (env k) k qu.c qu.res [.slice x0, .func 47 [] []] κ = qu.f (k + 1) x0 (fun o0 => κ (.ret (.int .i64 o0))) :=
 (qu.u9.ok k x0 (retK T qu.res κ)).trans (by kernel_rfl)
theorem qu.code : qu.c.code = zu Tryd.f62 := by kernel_rfl
noncomputable def qaz.c : IC := qaz.u1.c
noncomputable def qaz.res : List ResultVar := [(.tmp 4)]
theorem qaz.u1.ok (k : Nat) (x0 : Sl) (K : KF α) :
  eC k qaz.u1.c (za [(0, .slice x0), (1, .func 47 [] [])]) K =
   qaz.u1.f k x0 (fun y0 => K .ret (fr21 y0)) := by kernel_rfl
theorem qaz.ok (k : Nat) (x0 : Sl) (κ : Res->M α) :
  evF T (env k) k qaz.c qaz.res [.slice x0, .func 47 [] []] κ = qaz.f (k + 1) x0 (fun o0 => κ (.ret (.bool o0))) :=
 (qaz.u1.ok k x0 (retK T qaz.res κ)).trans (by kernel_rfl)
theorem qaz.code : qaz.c.code = zu Tryd.f46 := by kernel_rfl
noncomputable def qs.c : IC := qs.u9.c
noncomputable def qs.res : List ResultVar := [(.tmp 4)]
theorem qs.u1.ok (k : Nat) (x0 x1 : Sl) (R : IC) (K : KF α) :
  eC k (qs.u1.c R) (fr31 x0 x1) K =
   qs.u1.f k x0 x1 (fun y0 y1 => eC k R (fr31 y0 y1) K) (fun y0 => K .ret (fr21 y0)) := by kernel_rfl
theorem qs.u2.ok (k : Nat) (x0 x1 : Sl) (R : IC) (K : KF α) :
  eC k (qs.u2.c R) (fr31 x0 x1) K =
   qs.u2.f k x0 x1 (fun y0 y1 y2 y3 => eC k R (fr32 y0 y1 y2 y3) K) := by kernel_rfl
theorem qs.u3.ok (k : Nat) (x0 x1 : Sl) (x2 x3 : Int) (K : KF α) :
  eC k qs.u3.c (fr32 x0 x1 x2 x3) K =
   qs.u3.f k x0 x1 x2 x3 (fun y0 y1 y2 y3 => K .normal (fr32 y0 y1 y2 y3)) (fun y0 => K .ret (fr21 y0)) (K (.exit 0) (za [])) := by kernel_rfl
theorem qs.u4.ls (k : Nat) (kr : Bool->M α) (kx0 : M α) (j : Nat) (x0 x1 : Sl) (x2 x3 : Int) : qs.u4.l k kr kx0 (j + 1) x0 x1 x2 x3 =
 qs.u3.f k x0 x1 x2 x3 (fun y0 y1 y2 y3 => qs.u4.l k kr kx0 j y0 y1 y2 y3) kr kx0 := rfl
theorem qs.u4.okl (k : Nat) (K : KF α) : ∀ (j : Nat) (x0 x1 : Sl) (x2 x3 : Int),
  zy (eC k qs.u3.c) [0, 1, 12, 13] j (fr32 x0 x1 x2 x3) K = qs.u4.l k (fun y0 => K .ret (fr21 y0)) (K (.exit 0) (za [])) j x0 x1 x2 x3
 | 0, _, _, _, _ => rfl
 | j + 1, x0, x1, x2, x3 => by
   have h := qs.u3.ok k x0 x1 x2 x3 (seqK (fun ρ => zy (eC k qs.u3.c) [0, 1, 12, 13] j ρ K) K)
   simp only [zk, zp, zo, zf, qs.u4.okl k K j] at h
   exact (jg (by kernel_rfl) h).trans (qs.u4.ls k (fun y0 => K .ret (fr21 y0)) (K (.exit 0) (za [])) j x0 x1 x2 x3).symm
theorem qs.u4.ok (k : Nat) (x0 x1 : Sl) (x2 x3 : Int) (K : KF α) :
  eC k qs.u4.c (fr32 x0 x1 x2 x3) K =
   qs.u4.f k x0 x1 x2 x3 (fun y0 => K .ret (fr21 y0)) (K (.exit 0) (za [])) :=
 yb.trans <| (jf (body := eC k qs.u3.c) (keep := [0, 1, 12, 13]) (ρ := (fr32 x0 x1 x2 x3)) (ρ' := (fr32 x0 x1 x2 x3)) (by kernel_rfl) k K).trans (qs.u4.okl k K k x0 x1 x2 x3)
theorem qs.u5.ok (k : Nat) (x0 x1 : Sl) (x2 x3 : Int) (K : KF α) :
  eC k qs.u5.c (fr32 x0 x1 x2 x3) K =
   qs.u5.f k x0 x1 x2 x3 (K .normal (za [])) (fun y0 => K .ret (fr21 y0)) :=
 (zx.trans (qs.u4.ok k x0 x1 x2 x3 (jx 0 K))).trans (by kernel_rfl)
theorem qs.u6.ok (k : Nat) (x0 x1 : Sl) (K : KF α) :
  eC k qs.u6.c (fr31 x0 x1) K =
   qs.u6.f k x0 x1 (K .normal (za [])) (fun y0 => K .ret (fr21 y0)) :=
 (qs.u2.ok k x0 x1 qs.u5.c K).trans
  (congrArg (fun z => qs.u2.f k x0 x1 z) (funext fun y0 => (funext fun y1 => (funext fun y2 => (funext fun y3 => qs.u5.ok k y0 y1 y2 y3 K)))))
theorem qs.u7.ok (k : Nat) (K : KF α) :
  eC k qs.u7.c (za []) K =
   qs.u7.f k (fun y0 => K .ret (fr21 y0)) := by kernel_rfl
theorem qs.u8.ok (k : Nat) (x0 x1 : Sl) (K : KF α) :
  eC k qs.u8.c (fr31 x0 x1) K =
   qs.u8.f k x0 x1 (fun y0 => K .ret (fr21 y0)) :=
 by
  have h := qs.u6.ok k x0 x1 (seqK (fun ρ => eC k qs.u7.c ρ K) K)
  simp only [zf, zk, zp, zo, qs.u7.ok] at h
  exact jd h
theorem qs.u9.ok (k : Nat) (x0 x1 : Sl) (K : KF α) :
  eC k qs.u9.c (fr31 x0 x1) K =
   qs.u9.f k x0 x1 (fun y0 => K .ret (fr21 y0)) :=
 (qs.u1.ok k x0 x1 qs.u8.c K).trans
  (congrArg (fun z => qs.u1.f k x0 x1 z (fun y0 => K .ret (fr21 y0))) (funext fun y0 => (funext fun y1 => qs.u8.ok k y0 y1 K)))
theorem qs.ok (k : Nat) (x0 x1 : Sl) (κ : Res->M α) :
  evF T (env k) k qs.c qs.res [.slice x0, .slice x1] κ = qs.f (k + 1) x0 x1 (fun o0 => κ (.ret (.bool o0))) :=
 (qs.u9.ok k x0 x1 (retK T qs.res κ)).trans (by kernel_rfl)
theorem qs.code : qs.c.code = zu Tryd.f48 := by kernel_rfl
noncomputable def qj.c : IC := qj.u9.c
noncomputable def qj.res : List ResultVar := [(.tmp 2)]
theorem qj.u1.ok (k : Nat) (x0 : Sl) (R : IC) (K : KF α) :
  eC k (qj.u1.c R) (fr25 x0) K =
   qj.u1.f k x0 (fun y0 y1 => eC k R (fr33 y0 y1) K) (fun y0 => K .ret (fr18 y0)) := by kernel_rfl
theorem qj.u2.ok (k : Nat) (x0 x1 : Sl) (R : IC) (K : KF α) :
  eC k (qj.u2.c R) (fr33 x0 x1) K =
   qj.u2.f k x0 x1 (fun y0 y1 y2 y3 => eC k R (fr34 y0 y1 y2 y3) K) := by kernel_rfl
theorem qj.u3.ok (k : Nat) (x0 x1 : Sl) (x2 x3 : Int) (K : KF α) :
  eC k qj.u3.c (fr34 x0 x1 x2 x3) K =
   qj.u3.f k x0 x1 x2 x3 (fun y0 y1 y2 y3 => K .normal (fr34 y0 y1 y2 y3)) (fun y0 => K .ret (fr18 y0)) (fun y0 => K (.exit 0) (fr35 y0)) := by kernel_rfl
theorem qj.u4.ls (k : Nat) (kr : Bool->M α) (kx0 : Sl->M α) (j : Nat) (x0 x1 : Sl) (x2 x3 : Int) : qj.u4.l k kr kx0 (j + 1) x0 x1 x2 x3 =
 qj.u3.f k x0 x1 x2 x3 (fun y0 y1 y2 y3 => qj.u4.l k kr kx0 j y0 y1 y2 y3) kr kx0 := rfl
theorem qj.u4.okl (k : Nat) (K : KF α) : ∀ (j : Nat) (x0 x1 : Sl) (x2 x3 : Int),
  zy (eC k qj.u3.c) [3, 17, 18, 19] j (fr34 x0 x1 x2 x3) K = qj.u4.l k (fun y0 => K .ret (fr18 y0)) (fun y0 => K (.exit 0) (fr35 y0)) j x0 x1 x2 x3
 | 0, _, _, _, _ => rfl
 | j + 1, x0, x1, x2, x3 => by
   have h := qj.u3.ok k x0 x1 x2 x3 (seqK (fun ρ => zy (eC k qj.u3.c) [3, 17, 18, 19] j ρ K) K)
   simp only [zk, zp, zo, zf, qj.u4.okl k K j] at h
   exact (jg (by kernel_rfl) h).trans (qj.u4.ls k (fun y0 => K .ret (fr18 y0)) (fun y0 => K (.exit 0) (fr35 y0)) j x0 x1 x2 x3).symm
theorem qj.u4.ok (k : Nat) (x0 x1 : Sl) (x2 x3 : Int) (K : KF α) :
  eC k qj.u4.c (fr34 x0 x1 x2 x3) K =
   qj.u4.f k x0 x1 x2 x3 (fun y0 => K .ret (fr18 y0)) (fun y0 => K (.exit 0) (fr35 y0)) :=
 yb.trans <| (jf (body := eC k qj.u3.c) (keep := [3, 17, 18, 19]) (ρ := (fr34 x0 x1 x2 x3)) (ρ' := (fr34 x0 x1 x2 x3)) (by kernel_rfl) k K).trans (qj.u4.okl k K k x0 x1 x2 x3)
theorem qj.u5.ok (k : Nat) (x0 x1 : Sl) (x2 x3 : Int) (K : KF α) :
  eC k qj.u5.c (fr34 x0 x1 x2 x3) K =
   qj.u5.f k x0 x1 x2 x3 (fun y0 => K .normal (fr35 y0)) (fun y0 => K .ret (fr18 y0)) :=
 (zx.trans (qj.u4.ok k x0 x1 x2 x3 (jx 0 K))).trans (by kernel_rfl)
theorem qj.u6.ok (k : Nat) (x0 x1 : Sl) (K : KF α) :
  eC k qj.u6.c (fr33 x0 x1) K =
   qj.u6.f k x0 x1 (fun y0 => K .normal (fr35 y0)) (fun y0 => K .ret (fr18 y0)) :=
 (qj.u2.ok k x0 x1 qj.u5.c K).trans
  (congrArg (fun z => qj.u2.f k x0 x1 z) (funext fun y0 => (funext fun y1 => (funext fun y2 => (funext fun y3 => qj.u5.ok k y0 y1 y2 y3 K)))))
theorem qj.u7.ok (k : Nat) (x0 : Sl) (K : KF α) :
  eC k qj.u7.c (fr35 x0) K =
   qj.u7.f k x0 (fun y0 => K .ret (fr18 y0)) := by kernel_rfl
theorem qj.u8.ok (k : Nat) (x0 x1 : Sl) (K : KF α) :
  eC k qj.u8.c (fr33 x0 x1) K =
   qj.u8.f k x0 x1 (fun y0 => K .ret (fr18 y0)) :=
 by
  have h := qj.u6.ok k x0 x1 (seqK (fun ρ => eC k qj.u7.c ρ K) K)
  simp only [zf, zk, zp, zo, qj.u7.ok] at h
  exact jd h
theorem qj.u9.ok (k : Nat) (x0 : Sl) (K : KF α) :
  eC k qj.u9.c (fr25 x0) K =
   qj.u9.f k x0 (fun y0 => K .ret (fr18 y0)) :=
 (qj.u1.ok k x0 qj.u8.c K).trans
  (congrArg (fun z => qj.u1.f k x0 z (fun y0 => K .ret (fr18 y0))) (funext fun y0 => (funext fun y1 => qj.u8.ok k y0 y1 K)))
theorem qj.ok (k : Nat) (x0 : Sl) (κ : Res->M α) :
  evF T (env k) k qj.c qj.res [.slice x0] κ = qj.f (k + 1) x0 (fun o0 => κ (.ret (.bool o0))) :=
 (qj.u9.ok k x0 (retK T qj.res κ)).trans (by kernel_rfl)
theorem qj.code : qj.c.code = zu Tryd.f29 := by kernel_rfl
noncomputable def qn.c : IC := qn.u9.c
noncomputable def qn.res : List ResultVar := [(.cell 4 92), (.tmp 5)]
theorem qn.u1.ok (k : Nat) (x0 : Ad) (x1 : TX) (R : IC) (K : KF α) :
  eC k (qn.u1.c R) (za [(0, .ptr (some x0)), (1, .str x1)]) K =
   qn.u1.f k x0 x1 (fun y0 y1 y2 => eC k R (za [(0, .ptr (some y0)), (1, .str y1), (4, .ptr (some y2))]) K) := by kernel_rfl
theorem qn.u2.ok (k : Nat) (x0 : Ad) (x1 : TX) (x2 : Ad) (R : IC) (K : KF α) :
  eC k (qn.u2.c R) (za [(0, .ptr (some x0)), (1, .str x1), (4, .ptr (some x2))]) K =
   qn.u2.f k x0 x1 x2 (fun y0 y1 y2 y3 => eC k R (za [(0, .ptr (some y0)), (1, .str y1), (4, .ptr (some y2)), (6, .int .i64 y3)]) K) := by kernel_rfl
theorem qn.u3.ok (k : Nat) (x0 : Ad) (x1 : TX) (x2 : Ad) (x3 : Int) (K : KF α) :
  eC k qn.u3.c (za [(0, .ptr (some x0)), (1, .str x1), (4, .ptr (some x2)), (6, .int .i64 x3)]) K =
   qn.u3.f k x0 x1 x2 x3 (fun y0 y1 y2 y3 => K .normal (za [(0, .ptr (some y0)), (1, .str y1), (4, .ptr (some y2)), (6, .int .i64 y3)])) (fun y0 y1 => K .ret (za [(4, .ptr (some y0)), (5, .bool y1)])) (fun y0 => K (.exit 0) (za [(4, .ptr (some y0))])) := by kernel_rfl
theorem qn.u4.ls (k : Nat) (kr : Ad->Bool->M α) (kx0 : Ad->M α) (j : Nat) (x0 : Ad) (x1 : TX) (x2 : Ad) (x3 : Int) : qn.u4.l k kr kx0 (j + 1) x0 x1 x2 x3 =
 qn.u3.f k x0 x1 x2 x3 (fun y0 y1 y2 y3 => qn.u4.l k kr kx0 j y0 y1 y2 y3) kr kx0 := rfl
theorem qn.u4.okl (k : Nat) (K : KF α) : ∀ (j : Nat) (x0 : Ad) (x1 : TX) (x2 : Ad) (x3 : Int),
  zy (eC k qn.u3.c) [0, 1, 4, 6] j (za [(0, .ptr (some x0)), (1, .str x1), (4, .ptr (some x2)), (6, .int .i64 x3)]) K = qn.u4.l k (fun y0 y1 => K .ret (za [(4, .ptr (some y0)), (5, .bool y1)])) (fun y0 => K (.exit 0) (za [(4, .ptr (some y0))])) j x0 x1 x2 x3
 | 0, _, _, _, _ => rfl
 | j + 1, x0, x1, x2, x3 => by
   have h := qn.u3.ok k x0 x1 x2 x3 (seqK (fun ρ => zy (eC k qn.u3.c) [0, 1, 4, 6] j ρ K) K)
   simp only [zk, zp, zo, zf, qn.u4.okl k K j] at h
   exact (jg (by kernel_rfl) h).trans (qn.u4.ls k (fun y0 y1 => K .ret (za [(4, .ptr (some y0)), (5, .bool y1)])) (fun y0 => K (.exit 0) (za [(4, .ptr (some y0))])) j x0 x1 x2 x3).symm
theorem qn.u4.ok (k : Nat) (x0 : Ad) (x1 : TX) (x2 : Ad) (x3 : Int) (K : KF α) :
  eC k qn.u4.c (za [(0, .ptr (some x0)), (1, .str x1), (4, .ptr (some x2)), (6, .int .i64 x3)]) K =
   qn.u4.f k x0 x1 x2 x3 (fun y0 y1 => K .ret (za [(4, .ptr (some y0)), (5, .bool y1)])) (fun y0 => K (.exit 0) (za [(4, .ptr (some y0))])) :=
 yb.trans <| (jf (body := eC k qn.u3.c) (keep := [0, 1, 4, 6]) (ρ := (za [(0, .ptr (some x0)), (1, .str x1), (4, .ptr (some x2)), (6, .int .i64 x3)])) (ρ' := (za [(0, .ptr (some x0)), (1, .str x1), (4, .ptr (some x2)), (6, .int .i64 x3)])) (by kernel_rfl) k K).trans (qn.u4.okl k K k x0 x1 x2 x3)
theorem qn.u5.ok (k : Nat) (x0 : Ad) (x1 : TX) (x2 : Ad) (x3 : Int) (K : KF α) :
  eC k qn.u5.c (za [(0, .ptr (some x0)), (1, .str x1), (4, .ptr (some x2)), (6, .int .i64 x3)]) K =
   qn.u5.f k x0 x1 x2 x3 (fun y0 => K .normal (za [(4, .ptr (some y0))])) (fun y0 y1 => K .ret (za [(4, .ptr (some y0)), (5, .bool y1)])) :=
 (zx.trans (qn.u4.ok k x0 x1 x2 x3 (jx 0 K))).trans (by kernel_rfl)
theorem qn.u6.ok (k : Nat) (x0 : Ad) (x1 : TX) (x2 : Ad) (K : KF α) :
  eC k qn.u6.c (za [(0, .ptr (some x0)), (1, .str x1), (4, .ptr (some x2))]) K =
   qn.u6.f k x0 x1 x2 (fun y0 => K .normal (za [(4, .ptr (some y0))])) (fun y0 y1 => K .ret (za [(4, .ptr (some y0)), (5, .bool y1)])) :=
 (qn.u2.ok k x0 x1 x2 qn.u5.c K).trans
  (congrArg (fun z => qn.u2.f k x0 x1 x2 z) (funext fun y0 => (funext fun y1 => (funext fun y2 => (funext fun y3 => qn.u5.ok k y0 y1 y2 y3 K)))))
theorem qn.u7.ok (k : Nat) (x0 : Ad) (K : KF α) :
  eC k qn.u7.c (za [(4, .ptr (some x0))]) K =
   qn.u7.f k x0 (fun y0 y1 => K .ret (za [(4, .ptr (some y0)), (5, .bool y1)])) := by kernel_rfl
theorem qn.u8.ok (k : Nat) (x0 : Ad) (x1 : TX) (x2 : Ad) (K : KF α) :
  eC k qn.u8.c (za [(0, .ptr (some x0)), (1, .str x1), (4, .ptr (some x2))]) K =
   qn.u8.f k x0 x1 x2 (fun y0 y1 => K .ret (za [(4, .ptr (some y0)), (5, .bool y1)])) :=
 by
  have h := qn.u6.ok k x0 x1 x2 (seqK (fun ρ => eC k qn.u7.c ρ K) K)
  simp only [zf, zk, zp, zo, qn.u7.ok] at h
  exact jd h
theorem qn.u9.ok (k : Nat) (x0 : Ad) (x1 : TX) (K : KF α) :
  eC k qn.u9.c (za [(0, .ptr (some x0)), (1, .str x1)]) K =
   qn.u9.f k x0 x1 (fun y0 y1 => K .ret (za [(4, .ptr (some y0)), (5, .bool y1)])) :=
 (qn.u1.ok k x0 x1 qn.u8.c K).trans
  (congrArg (fun z => qn.u1.f k x0 x1 z) (funext fun y0 => (funext fun y1 => (funext fun y2 => qn.u8.ok k y0 y1 y2 K))))
theorem qn.ok (k : Nat) (x0 : Ad) (x1 : TX) (κ : Res->M α) :
  evF T (env k) k qn.c qn.res [.ptr (some x0), .str x1] κ = qn.f (k + 1) x0 x1 (fun o0 o1 o2 => κ (.ret (.tuple [.agg [.int .i64 o0, .int .i64 o1], .bool o2]))) :=
 (qn.u9.ok k x0 x1 (retK T qn.res κ)).trans (by kernel_rfl)
theorem qn.code : qn.c.code = zu Tryd.f63 := by kernel_rfl
noncomputable def qc.c : IC := qc.u22.c
noncomputable def qc.res : List ResultVar := []
theorem qc.u1.ok (k : Nat) (x0 : Ad) (x1 : Int) (R : IC) (K : KF α) :
  eC k (qc.u1.c R) (za [(0, .ptr (some x0)), (1, .int .i64 x1)]) K =
   qc.u1.f k x0 x1 (fun y0 y1 y2 y3 => eC k R (za [(0, .ptr (some y0)), (1, .int .i64 y1), (4, .ptr (some y2)), (15, .int .i64 y3)]) K) := by kernel_rfl
theorem qc.u2.ok (k : Nat) (x0 : Ad) (x1 : Int) (x2 : Ad) (x3 : Int) (R : IC) (K : KF α) :
  eC k (qc.u2.c R) (za [(0, .ptr (some x0)), (1, .int .i64 x1), (4, .ptr (some x2)), (15, .int .i64 x3)]) K =
   qc.u2.f k x0 x1 x2 x3 (fun y0 y1 y2 y3 y4 => eC k R (za [(0, .ptr (some y0)), (1, .int .i64 y1), (4, .ptr (some y2)), (15, .int .i64 y3), (16, .bool y4)]) K) := by kernel_rfl
theorem qc.u3.ok (k : Nat) (x0 : Ad) (x1 : Int) (x2 : Ad) (x3 : Int) (x4 : Bool) (K : KF α) :
  eC k qc.u3.c (za [(0, .ptr (some x0)), (1, .int .i64 x1), (4, .ptr (some x2)), (15, .int .i64 x3), (16, .bool x4)]) K =
   qc.u3.f k x0 x1 x2 x3 x4 (K .normal (za [])) := by kernel_rfl
theorem qc.u4.ok (k : Nat) (x0 : Ad) (x1 : Int) (x2 : Ad) (x3 : Int) (x4 : Bool) (R : IC) (K : KF α) :
  eC k (qc.u4.c R) (za [(0, .ptr (some x0)), (1, .int .i64 x1), (4, .ptr (some x2)), (15, .int .i64 x3), (16, .bool x4)]) K =
   qc.u4.f k x0 x1 x2 x3 x4 (fun y0 y1 y2 y3 y4 => eC k R (za [(0, .ptr (some y0)), (1, .int .i64 y1), (4, .ptr (some y2)), (15, .int .i64 y3), (49, .bool y4)]) K) := by kernel_rfl
theorem qc.u5.ok (k : Nat) (x0 : Ad) (x1 : Int) (x2 : Ad) (x3 : Int) (x4 : Bool) (K : KF α) :
  eC k qc.u5.c (za [(0, .ptr (some x0)), (1, .int .i64 x1), (4, .ptr (some x2)), (15, .int .i64 x3), (49, .bool x4)]) K =
   qc.u5.f k (qc.f k) x0 x1 x2 x3 x4 (K .normal (za [])) := by kernel_rfl
theorem qc.u6.ok (k : Nat) (x0 : Ad) (x1 : Int) (x2 : Ad) (x3 : Int) (x4 : Bool) (R : IC) (K : KF α) :
  eC k (qc.u6.c R) (za [(0, .ptr (some x0)), (1, .int .i64 x1), (4, .ptr (some x2)), (15, .int .i64 x3), (49, .bool x4)]) K =
   qc.u6.f k x0 x1 x2 x3 x4 (fun y0 y1 y2 y3 y4 => eC k R (za [(0, .ptr (some y0)), (1, .int .i64 y1), (4, .ptr (some y2)), (15, .int .i64 y3), (83, .bool y4)]) K) := by kernel_rfl
theorem qc.u7.ok (k : Nat) (x0 : Ad) (x1 : Int) (x2 : Ad) (x3 : Int) (x4 : Bool) (K : KF α) :
  eC k qc.u7.c (za [(0, .ptr (some x0)), (1, .int .i64 x1), (4, .ptr (some x2)), (15, .int .i64 x3), (83, .bool x4)]) K =
   qc.u7.f k (qc.f k) x0 x1 x2 x3 x4 (K .normal (za [])) := by kernel_rfl
theorem qc.u8.ok (k : Nat) (x0 : Ad) (x1 : Int) (x2 : Ad) (x3 : Int) (x4 : Bool) (R : IC) (K : KF α) :
  eC k (qc.u8.c R) (za [(0, .ptr (some x0)), (1, .int .i64 x1), (4, .ptr (some x2)), (15, .int .i64 x3), (83, .bool x4)]) K =
   qc.u8.f k x0 x1 x2 x3 x4 (fun y0 y1 y2 y3 y4 => eC k R (za [(0, .ptr (some y0)), (1, .int .i64 y1), (4, .ptr (some y2)), (15, .int .i64 y3), (104, .bool y4)]) K) := by kernel_rfl
theorem qc.u9.ok (k : Nat) (x0 : Ad) (x1 : Int) (x2 : Ad) (x3 : Int) (x4 : Bool) (K : KF α) :
  eC k qc.u9.c (za [(0, .ptr (some x0)), (1, .int .i64 x1), (4, .ptr (some x2)), (15, .int .i64 x3), (104, .bool x4)]) K =
   qc.u9.f k (qc.f k) x0 x1 x2 x3 x4 (K .normal (za [])) := by kernel_rfl
theorem qc.u10.ok (k : Nat) (x0 : Ad) (x1 : Int) (x2 : Ad) (x3 : Int) (x4 : Bool) (R : IC) (K : KF α) :
  eC k (qc.u10.c R) (za [(0, .ptr (some x0)), (1, .int .i64 x1), (4, .ptr (some x2)), (15, .int .i64 x3), (104, .bool x4)]) K =
   qc.u10.f k x0 x1 x2 x3 x4 (fun y0 y1 y2 y3 => eC k R (za [(0, .ptr (some y0)), (1, .int .i64 y1), (4, .ptr (some y2)), (138, .bool y3)]) K) := by kernel_rfl
theorem qc.u11.ok (k : Nat) (x0 : Ad) (x1 : Int) (x2 : Ad) (x3 : Bool) (K : KF α) :
  eC k qc.u11.c (za [(0, .ptr (some x0)), (1, .int .i64 x1), (4, .ptr (some x2)), (138, .bool x3)]) K =
   qc.u11.f k (qc.f k) x0 x1 x2 x3 (K .normal (za [])) := by kernel_rfl
theorem qc.u12.ok (k : Nat) (x0 : Ad) (x1 : Int) (x2 : Ad) (x3 : Int) (x4 : Bool) (K : KF α) :
  eC k qc.u12.c (za [(0, .ptr (some x0)), (1, .int .i64 x1), (4, .ptr (some x2)), (15, .int .i64 x3), (104, .bool x4)]) K =
   qc.u12.f k (qc.f k) x0 x1 x2 x3 x4 (K .normal (za [])) :=
 (qc.u10.ok k x0 x1 x2 x3 x4 qc.u11.c K).trans
  (congrArg (fun z => qc.u10.f k x0 x1 x2 x3 x4 z) (funext fun y0 => (funext fun y1 => (funext fun y2 => (funext fun y3 => qc.u11.ok k y0 y1 y2 y3 K)))))
theorem qc.u13.ok (k : Nat) (x0 : Ad) (x1 : Int) (x2 : Ad) (x3 : Int) (x4 : Bool) (K : KF α) :
  eC k qc.u13.c (za [(0, .ptr (some x0)), (1, .int .i64 x1), (4, .ptr (some x2)), (15, .int .i64 x3), (104, .bool x4)]) K =
   qc.u13.f k (qc.f k) x0 x1 x2 x3 x4 (K .normal (za [])) :=
 jw (g := x4) (by kernel_rfl) (qc.u9.ok k x0 x1 x2 x3 x4 K) (qc.u12.ok k x0 x1 x2 x3 x4 K)
theorem qc.u14.ok (k : Nat) (x0 : Ad) (x1 : Int) (x2 : Ad) (x3 : Int) (x4 : Bool) (K : KF α) :
  eC k qc.u14.c (za [(0, .ptr (some x0)), (1, .int .i64 x1), (4, .ptr (some x2)), (15, .int .i64 x3), (83, .bool x4)]) K =
   qc.u14.f k (qc.f k) x0 x1 x2 x3 x4 (K .normal (za [])) :=
 (qc.u8.ok k x0 x1 x2 x3 x4 qc.u13.c K).trans
  (congrArg (fun z => qc.u8.f k x0 x1 x2 x3 x4 z) (funext fun y0 => (funext fun y1 => (funext fun y2 => (funext fun y3 => (funext fun y4 => qc.u13.ok k y0 y1 y2 y3 y4 K))))))
theorem qc.u15.ok (k : Nat) (x0 : Ad) (x1 : Int) (x2 : Ad) (x3 : Int) (x4 : Bool) (K : KF α) :
  eC k qc.u15.c (za [(0, .ptr (some x0)), (1, .int .i64 x1), (4, .ptr (some x2)), (15, .int .i64 x3), (83, .bool x4)]) K =
   qc.u15.f k (qc.f k) x0 x1 x2 x3 x4 (K .normal (za [])) :=
 jw (g := x4) (by kernel_rfl) (qc.u7.ok k x0 x1 x2 x3 x4 K) (qc.u14.ok k x0 x1 x2 x3 x4 K)
theorem qc.u16.ok (k : Nat) (x0 : Ad) (x1 : Int) (x2 : Ad) (x3 : Int) (x4 : Bool) (K : KF α) :
  eC k qc.u16.c (za [(0, .ptr (some x0)), (1, .int .i64 x1), (4, .ptr (some x2)), (15, .int .i64 x3), (49, .bool x4)]) K =
   qc.u16.f k (qc.f k) x0 x1 x2 x3 x4 (K .normal (za [])) :=
 (qc.u6.ok k x0 x1 x2 x3 x4 qc.u15.c K).trans
  (congrArg (fun z => qc.u6.f k x0 x1 x2 x3 x4 z) (funext fun y0 => (funext fun y1 => (funext fun y2 => (funext fun y3 => (funext fun y4 => qc.u15.ok k y0 y1 y2 y3 y4 K))))))
theorem qc.u17.ok (k : Nat) (x0 : Ad) (x1 : Int) (x2 : Ad) (x3 : Int) (x4 : Bool) (K : KF α) :
  eC k qc.u17.c (za [(0, .ptr (some x0)), (1, .int .i64 x1), (4, .ptr (some x2)), (15, .int .i64 x3), (49, .bool x4)]) K =
   qc.u17.f k (qc.f k) x0 x1 x2 x3 x4 (K .normal (za [])) :=
 jw (g := x4) (by kernel_rfl) (qc.u5.ok k x0 x1 x2 x3 x4 K) (qc.u16.ok k x0 x1 x2 x3 x4 K)
theorem qc.u18.ok (k : Nat) (x0 : Ad) (x1 : Int) (x2 : Ad) (x3 : Int) (x4 : Bool) (K : KF α) :
  eC k qc.u18.c (za [(0, .ptr (some x0)), (1, .int .i64 x1), (4, .ptr (some x2)), (15, .int .i64 x3), (16, .bool x4)]) K =
   qc.u18.f k (qc.f k) x0 x1 x2 x3 x4 (K .normal (za [])) :=
 (qc.u4.ok k x0 x1 x2 x3 x4 qc.u17.c K).trans
  (congrArg (fun z => qc.u4.f k x0 x1 x2 x3 x4 z) (funext fun y0 => (funext fun y1 => (funext fun y2 => (funext fun y3 => (funext fun y4 => qc.u17.ok k y0 y1 y2 y3 y4 K))))))
theorem qc.u19.ok (k : Nat) (x0 : Ad) (x1 : Int) (x2 : Ad) (x3 : Int) (x4 : Bool) (K : KF α) :
  eC k qc.u19.c (za [(0, .ptr (some x0)), (1, .int .i64 x1), (4, .ptr (some x2)), (15, .int .i64 x3), (16, .bool x4)]) K =
   qc.u19.f k (qc.f k) x0 x1 x2 x3 x4 (K .normal (za [])) :=
 jw (g := x4) (by kernel_rfl) (qc.u3.ok k x0 x1 x2 x3 x4 K) (qc.u18.ok k x0 x1 x2 x3 x4 K)
theorem qc.u20.ok (k : Nat) (x0 : Ad) (x1 : Int) (x2 : Ad) (x3 : Int) (K : KF α) :
  eC k qc.u20.c (za [(0, .ptr (some x0)), (1, .int .i64 x1), (4, .ptr (some x2)), (15, .int .i64 x3)]) K =
   qc.u20.f k (qc.f k) x0 x1 x2 x3 (K .normal (za [])) :=
 (qc.u2.ok k x0 x1 x2 x3 qc.u19.c K).trans
  (congrArg (fun z => qc.u2.f k x0 x1 x2 x3 z) (funext fun y0 => (funext fun y1 => (funext fun y2 => (funext fun y3 => (funext fun y4 => qc.u19.ok k y0 y1 y2 y3 y4 K))))))
theorem qc.u21.ok (k : Nat) (x0 : Ad) (x1 : Int) (x2 : Ad) (x3 : Int) (K : KF α) :
  eC k qc.u21.c (za [(0, .ptr (some x0)), (1, .int .i64 x1), (4, .ptr (some x2)), (15, .int .i64 x3)]) K =
   qc.u21.f k (qc.f k) x0 x1 x2 x3 (K .normal (za [])) :=
 (zx.trans (qc.u20.ok k x0 x1 x2 x3 (jx 0 K))).trans (by kernel_rfl)
theorem qc.u22.ok (k : Nat) (x0 : Ad) (x1 : Int) (K : KF α) :
  eC k qc.u22.c (za [(0, .ptr (some x0)), (1, .int .i64 x1)]) K =
   qc.u22.f k (qc.f k) x0 x1 (K .normal (za [])) :=
 (qc.u1.ok k x0 x1 qc.u21.c K).trans
  (congrArg (fun z => qc.u1.f k x0 x1 z) (funext fun y0 => (funext fun y1 => (funext fun y2 => (funext fun y3 => qc.u21.ok k y0 y1 y2 y3 K)))))
theorem qc.ok (k : Nat) (x0 : Ad) (x1 : Int) (κ : Res->M α) :
  evF T (env k) k qc.c qc.res [.ptr (some x0), .int .i64 x1] κ = qc.f (k + 1) x0 x1 (κ (.ret (.tuple []))) :=
 (qc.u22.ok k x0 x1 (retK T qc.res κ)).trans (by kernel_rfl)
theorem qc.code : qc.c.code = zu Tryd.f49 := by kernel_rfl
noncomputable def qr.c : IC := qr.u9.c
noncomputable def qr.res : List ResultVar := [(.tmp 2)]
theorem qr.u1.ok (k : Nat) (x0 : Sl) (R : IC) (K : KF α) :
  eC k (qr.u1.c R) (fr25 x0) K =
   qr.u1.f k x0 (fun y0 y1 => eC k R (za [(0, .slice y0), (3, .ptr (some y1))]) K) := by kernel_rfl
theorem qr.u2.ok (k : Nat) (x0 : Sl) (x1 : Ad) (R : IC) (K : KF α) :
  eC k (qr.u2.c R) (za [(0, .slice x0), (3, .ptr (some x1))]) K =
   qr.u2.f k x0 x1 (fun y0 y1 y2 y3 => eC k R (za [(0, .slice y0), (3, .ptr (some y1)), (21, .int .i64 y2), (22, .int .i64 y3)]) K) := by kernel_rfl
theorem qr.u3.ok (k : Nat) (x0 : Sl) (x1 : Ad) (x2 x3 : Int) (K : KF α) :
  eC k qr.u3.c (za [(0, .slice x0), (3, .ptr (some x1)), (21, .int .i64 x2), (22, .int .i64 x3)]) K =
   qr.u3.f k x0 x1 x2 x3 (fun y0 y1 y2 y3 => K .normal (za [(0, .slice y0), (3, .ptr (some y1)), (21, .int .i64 y2), (22, .int .i64 y3)])) (fun y0 y1 => K (.exit 0) (za [(0, .slice y0), (3, .ptr (some y1))])) := by kernel_rfl
theorem qr.u4.ls (k : Nat) (kx0 : Sl->Ad->M α) (j : Nat) (x0 : Sl) (x1 : Ad) (x2 x3 : Int) : qr.u4.l k kx0 (j + 1) x0 x1 x2 x3 =
 qr.u3.f k x0 x1 x2 x3 (fun y0 y1 y2 y3 => qr.u4.l k kx0 j y0 y1 y2 y3) kx0 := rfl
theorem qr.u4.okl (k : Nat) (K : KF α) : ∀ (j : Nat) (x0 : Sl) (x1 : Ad) (x2 x3 : Int),
  zy (eC k qr.u3.c) [0, 3, 21, 22] j (za [(0, .slice x0), (3, .ptr (some x1)), (21, .int .i64 x2), (22, .int .i64 x3)]) K = qr.u4.l k (fun y0 y1 => K (.exit 0) (za [(0, .slice y0), (3, .ptr (some y1))])) j x0 x1 x2 x3
 | 0, _, _, _, _ => rfl
 | j + 1, x0, x1, x2, x3 => by
   have h := qr.u3.ok k x0 x1 x2 x3 (seqK (fun ρ => zy (eC k qr.u3.c) [0, 3, 21, 22] j ρ K) K)
   simp only [zk, zp, zo, zf, qr.u4.okl k K j] at h
   exact (jg (by kernel_rfl) h).trans (qr.u4.ls k (fun y0 y1 => K (.exit 0) (za [(0, .slice y0), (3, .ptr (some y1))])) j x0 x1 x2 x3).symm
theorem qr.u4.ok (k : Nat) (x0 : Sl) (x1 : Ad) (x2 x3 : Int) (K : KF α) :
  eC k qr.u4.c (za [(0, .slice x0), (3, .ptr (some x1)), (21, .int .i64 x2), (22, .int .i64 x3)]) K =
   qr.u4.f k x0 x1 x2 x3 (fun y0 y1 => K (.exit 0) (za [(0, .slice y0), (3, .ptr (some y1))])) :=
 yb.trans <| (jf (body := eC k qr.u3.c) (keep := [0, 3, 21, 22]) (ρ := (za [(0, .slice x0), (3, .ptr (some x1)), (21, .int .i64 x2), (22, .int .i64 x3)])) (ρ' := (za [(0, .slice x0), (3, .ptr (some x1)), (21, .int .i64 x2), (22, .int .i64 x3)])) (by kernel_rfl) k K).trans (qr.u4.okl k K k x0 x1 x2 x3)
theorem qr.u5.ok (k : Nat) (x0 : Sl) (x1 : Ad) (x2 x3 : Int) (K : KF α) :
  eC k qr.u5.c (za [(0, .slice x0), (3, .ptr (some x1)), (21, .int .i64 x2), (22, .int .i64 x3)]) K =
   qr.u5.f k x0 x1 x2 x3 (fun y0 y1 => K .normal (za [(0, .slice y0), (3, .ptr (some y1))])) :=
 (zx.trans (qr.u4.ok k x0 x1 x2 x3 (jx 0 K))).trans (by kernel_rfl)
theorem qr.u6.ok (k : Nat) (x0 : Sl) (x1 : Ad) (K : KF α) :
  eC k qr.u6.c (za [(0, .slice x0), (3, .ptr (some x1))]) K =
   qr.u6.f k x0 x1 (fun y0 y1 => K .normal (za [(0, .slice y0), (3, .ptr (some y1))])) :=
 (qr.u2.ok k x0 x1 qr.u5.c K).trans
  (congrArg (fun z => qr.u2.f k x0 x1 z) (funext fun y0 => (funext fun y1 => (funext fun y2 => (funext fun y3 => qr.u5.ok k y0 y1 y2 y3 K)))))
theorem qr.u7.ok (k : Nat) (x0 : Sl) (x1 : Ad) (K : KF α) :
  eC k qr.u7.c (za [(0, .slice x0), (3, .ptr (some x1))]) K =
   qr.u7.f k x0 x1 (fun y0 => K .ret (za [(2, .ptr (some y0))])) := by kernel_rfl
theorem qr.u8.ok (k : Nat) (x0 : Sl) (x1 : Ad) (K : KF α) :
  eC k qr.u8.c (za [(0, .slice x0), (3, .ptr (some x1))]) K =
   qr.u8.f k x0 x1 (fun y0 => K .ret (za [(2, .ptr (some y0))])) :=
 by
  have h := qr.u6.ok k x0 x1 (seqK (fun ρ => eC k qr.u7.c ρ K) K)
  simp only [zf, zk, zp, zo, qr.u7.ok] at h
  exact jd h
theorem qr.u9.ok (k : Nat) (x0 : Sl) (K : KF α) :
  eC k qr.u9.c (fr25 x0) K =
   qr.u9.f k x0 (fun y0 => K .ret (za [(2, .ptr (some y0))])) :=
 (qr.u1.ok k x0 qr.u8.c K).trans
  (congrArg (fun z => qr.u1.f k x0 z) (funext fun y0 => (funext fun y1 => qr.u8.ok k y0 y1 K)))
theorem qr.ok (k : Nat) (x0 : Sl) (κ : Res->M α) :
  evF T (env k) k qr.c qr.res [.slice x0] κ = qr.f (k + 1) x0 (fun o0 => κ (.ret (.ptr (some o0)))) :=
 (qr.u9.ok k x0 (retK T qr.res κ)).trans (by kernel_rfl)
theorem qr.code : qr.c.code = zu Tryd.f30 := by kernel_rfl
noncomputable def qap.c : IC := qap.u1.c
noncomputable def qap.res : List ResultVar := [(.tmp 2)]
theorem qap.u1.ok (k : Nat) (x0 x1 x2 : Int) (x3 : TX) (x4 : Int) (K : KF α) :
  eC k qap.u1.c (za [(0, .agg [.int .i64 x0, .int .i64 x1, .int .i64 x2, .str x3, .int .i64 x4])]) K =
   qap.u1.f k x0 x1 x2 x3 x4 (fun y0 => K .ret (fr18 y0)) := by kernel_rfl
theorem qap.ok (k : Nat) (x0 x1 x2 : Int) (x3 : TX) (x4 : Int) (κ : Res->M α) :
  evF T (env k) k qap.c qap.res [.agg [.int .i64 x0, .int .i64 x1, .int .i64 x2, .str x3, .int .i64 x4]] κ = qap.f (k + 1) x0 x1 x2 x3 x4 (fun o0 => κ (.ret (.bool o0))) :=
 (qap.u1.ok k x0 x1 x2 x3 x4 (retK T qap.res κ)).trans (by kernel_rfl)
theorem qap.code : qap.c.code = zu Tryd.f59 := by kernel_rfl
noncomputable def qa.c : IC := qa.u29.c
noncomputable def qa.res : List ResultVar := [(.tmp 2), (.tmp 3)]
theorem qa.u1.ok (k : Nat) (x0 : Sl) (R : IC) (K : KF α) :
  eC k (qa.u1.c R) (fr25 x0) K =
   qa.u1.f k x0 (fun y0 y1 y2 => eC k R (za [(0, .slice y0), (4, .ptr (some y1)), (5, .map y2)]) K) (fun y0 y1 => K .ret (fr36 y0 y1)) := by kernel_rfl
theorem qa.u2.ok (k : Nat) (x0 : Sl) (x1 : Ad) (x2 : Option Nat) (R : IC) (K : KF α) :
  eC k (qa.u2.c R) (za [(0, .slice x0), (4, .ptr (some x1)), (5, .map x2)]) K =
   qa.u2.f k x0 x1 x2 (fun y0 y1 y2 y3 y4 => eC k R (za [(4, .ptr (some y0)), (5, .map y1), (14, .slice y2), (15, .int .i64 y3), (16, .int .i64 y4)]) K) := by kernel_rfl
theorem qa.u3.ok (k : Nat) (x0 : Ad) (x1 : Option Nat) (x2 : Sl) (x3 x4 : Int) (R : IC) (K : KF α) :
  eC k (qa.u3.c R) (za [(4, .ptr (some x0)), (5, .map x1), (14, .slice x2), (15, .int .i64 x3), (16, .int .i64 x4)]) K =
   qa.u3.f k x0 x1 x2 x3 x4 (fun y0 y1 y2 y3 y4 => eC k R (za [(4, .ptr (some y0)), (5, .map y1), (14, .slice y2), (15, .int .i64 y3), (16, .int .i64 y4)]) K) (K (.exit 0) (za [])) := by kernel_rfl
theorem qa.u4.ok (k : Nat) (x0 : Ad) (x1 : Option Nat) (x2 : Sl) (x3 x4 : Int) (R : IC) (K : KF α) :
  eC k (qa.u4.c R) (za [(4, .ptr (some x0)), (5, .map x1), (14, .slice x2), (15, .int .i64 x3), (16, .int .i64 x4)]) K =
   qa.u4.f k x0 x1 x2 x3 x4 (fun y0 y1 y2 y3 y4 y5 y6 => eC k R (za [(4, .ptr (some y0)), (5, .map y1), (6, .int .i64 y2), (7, .ptr (some y3)), (14, .slice y4), (15, .int .i64 y5), (16, .int .i64 y6)]) K) := by kernel_rfl
theorem qa.u5.ok (k : Nat) (x0 : Ad) (x1 : Option Nat) (x2 : Int) (x3 : Ad) (x4 : Sl) (x5 x6 : Int) (R : IC) (K : KF α) :
  eC k (qa.u5.c R) (za [(4, .ptr (some x0)), (5, .map x1), (6, .int .i64 x2), (7, .ptr (some x3)), (14, .slice x4), (15, .int .i64 x5), (16, .int .i64 x6)]) K =
   qa.u5.f k x0 x1 x2 x3 x4 x5 x6 (fun y0 y1 y2 y3 y4 y5 y6 y7 => eC k R (za [(4, .ptr (some y0)), (5, .map y1), (6, .int .i64 y2), (7, .ptr (some y3)), (14, .slice y4), (15, .int .i64 y5), (16, .int .i64 y6), (21, .bool y7)]) K) := by kernel_rfl
theorem qa.u6.ok (k : Nat) (x0 : Ad) (x1 : Option Nat) (x2 : Int) (x3 : Ad) (x4 : Sl) (x5 x6 : Int) (x7 : Bool) (K : KF α) :
  eC k qa.u6.c (za [(4, .ptr (some x0)), (5, .map x1), (6, .int .i64 x2), (7, .ptr (some x3)), (14, .slice x4), (15, .int .i64 x5), (16, .int .i64 x6), (21, .bool x7)]) K =
   qa.u6.f k x0 x1 x2 x3 x4 x5 x6 x7 (fun y0 y1 => K .ret (fr36 y0 y1)) := by kernel_rfl
theorem qa.u7.ok (k : Nat) (x0 : Ad) (x1 : Option Nat) (x2 : Int) (x3 : Ad) (x4 : Sl) (x5 x6 : Int) (x7 : Bool) (R : IC) (K : KF α) :
  eC k (qa.u7.c R) (za [(4, .ptr (some x0)), (5, .map x1), (6, .int .i64 x2), (7, .ptr (some x3)), (14, .slice x4), (15, .int .i64 x5), (16, .int .i64 x6), (21, .bool x7)]) K =
   qa.u7.f k x0 x1 x2 x3 x4 x5 x6 x7 (fun y0 y1 y2 y3 y4 y5 y6 y7 => eC k R (za [(4, .ptr (some y0)), (5, .map y1), (6, .int .i64 y2), (7, .ptr (some y3)), (14, .slice y4), (15, .int .i64 y5), (16, .int .i64 y6), (36, .bool y7)]) K) := by kernel_rfl
theorem qa.u8.ok (k : Nat) (x0 : Ad) (x1 : Option Nat) (x2 : Int) (x3 : Ad) (x4 : Sl) (x5 x6 : Int) (x7 : Bool) (K : KF α) :
  eC k qa.u8.c (za [(4, .ptr (some x0)), (5, .map x1), (6, .int .i64 x2), (7, .ptr (some x3)), (14, .slice x4), (15, .int .i64 x5), (16, .int .i64 x6), (36, .bool x7)]) K =
   qa.u8.f k x0 x1 x2 x3 x4 x5 x6 x7 (fun y0 y1 => K .ret (fr36 y0 y1)) := by kernel_rfl
theorem qa.u9.ok (k : Nat) (x0 : Ad) (x1 : Option Nat) (x2 : Int) (x3 : Ad) (x4 : Sl) (x5 x6 : Int) (x7 : Bool) (R : IC) (K : KF α) :
  eC k (qa.u9.c R) (za [(4, .ptr (some x0)), (5, .map x1), (6, .int .i64 x2), (7, .ptr (some x3)), (14, .slice x4), (15, .int .i64 x5), (16, .int .i64 x6), (36, .bool x7)]) K =
   qa.u9.f k x0 x1 x2 x3 x4 x5 x6 x7 (fun y0 y1 y2 y3 y4 y5 y6 y7 => eC k R (za [(4, .ptr (some y0)), (5, .map y1), (6, .int .i64 y2), (7, .ptr (some y3)), (14, .slice y4), (15, .int .i64 y5), (16, .int .i64 y6), (50, .bool y7)]) K) := by kernel_rfl
theorem qa.u10.ok (k : Nat) (x0 : Ad) (x1 : Option Nat) (x2 : Int) (x3 : Ad) (x4 : Sl) (x5 x6 : Int) (x7 : Bool) (K : KF α) :
  eC k qa.u10.c (za [(4, .ptr (some x0)), (5, .map x1), (6, .int .i64 x2), (7, .ptr (some x3)), (14, .slice x4), (15, .int .i64 x5), (16, .int .i64 x6), (50, .bool x7)]) K =
   qa.u10.f k x0 x1 x2 x3 x4 x5 x6 x7 (fun y0 y1 y2 y3 y4 y5 => K .normal (za [(4, .ptr (some y0)), (5, .map y1), (7, .ptr (some y2)), (14, .slice y3), (15, .int .i64 y4), (16, .int .i64 y5)])) (fun y0 y1 => K .ret (fr36 y0 y1)) := by kernel_rfl
theorem qa.u11.ok (k : Nat) (x0 : Ad) (x1 : Option Nat) (x2 : Int) (x3 : Ad) (x4 : Sl) (x5 x6 : Int) (x7 : Bool) (K : KF α) :
  eC k qa.u11.c (za [(4, .ptr (some x0)), (5, .map x1), (6, .int .i64 x2), (7, .ptr (some x3)), (14, .slice x4), (15, .int .i64 x5), (16, .int .i64 x6), (36, .bool x7)]) K =
   qa.u11.f k x0 x1 x2 x3 x4 x5 x6 x7 (fun y0 y1 y2 y3 y4 y5 => K .normal (za [(4, .ptr (some y0)), (5, .map y1), (7, .ptr (some y2)), (14, .slice y3), (15, .int .i64 y4), (16, .int .i64 y5)])) (fun y0 y1 => K .ret (fr36 y0 y1)) :=
 (qa.u9.ok k x0 x1 x2 x3 x4 x5 x6 x7 qa.u10.c K).trans
  (congrArg (fun z => qa.u9.f k x0 x1 x2 x3 x4 x5 x6 x7 z) (funext fun y0 => (funext fun y1 => (funext fun y2 => (funext fun y3 => (funext fun y4 => (funext fun y5 => (funext fun y6 => (funext fun y7 => qa.u10.ok k y0 y1 y2 y3 y4 y5 y6 y7 K)))))))))
theorem qa.u12.ok (k : Nat) (x0 : Ad) (x1 : Option Nat) (x2 : Int) (x3 : Ad) (x4 : Sl) (x5 x6 : Int) (x7 : Bool) (K : KF α) :
  eC k qa.u12.c (za [(4, .ptr (some x0)), (5, .map x1), (6, .int .i64 x2), (7, .ptr (some x3)), (14, .slice x4), (15, .int .i64 x5), (16, .int .i64 x6), (36, .bool x7)]) K =
   qa.u12.f k x0 x1 x2 x3 x4 x5 x6 x7 (fun y0 y1 y2 y3 y4 y5 => K .normal (za [(4, .ptr (some y0)), (5, .map y1), (7, .ptr (some y2)), (14, .slice y3), (15, .int .i64 y4), (16, .int .i64 y5)])) (fun y0 y1 => K .ret (fr36 y0 y1)) :=
 jw (g := x7) (by kernel_rfl) (qa.u8.ok k x0 x1 x2 x3 x4 x5 x6 x7 K) (qa.u11.ok k x0 x1 x2 x3 x4 x5 x6 x7 K)
theorem qa.u13.ok (k : Nat) (x0 : Ad) (x1 : Option Nat) (x2 : Int) (x3 : Ad) (x4 : Sl) (x5 x6 : Int) (x7 : Bool) (K : KF α) :
  eC k qa.u13.c (za [(4, .ptr (some x0)), (5, .map x1), (6, .int .i64 x2), (7, .ptr (some x3)), (14, .slice x4), (15, .int .i64 x5), (16, .int .i64 x6), (21, .bool x7)]) K =
   qa.u13.f k x0 x1 x2 x3 x4 x5 x6 x7 (fun y0 y1 y2 y3 y4 y5 => K .normal (za [(4, .ptr (some y0)), (5, .map y1), (7, .ptr (some y2)), (14, .slice y3), (15, .int .i64 y4), (16, .int .i64 y5)])) (fun y0 y1 => K .ret (fr36 y0 y1)) :=
 (qa.u7.ok k x0 x1 x2 x3 x4 x5 x6 x7 qa.u12.c K).trans
  (congrArg (fun z => qa.u7.f k x0 x1 x2 x3 x4 x5 x6 x7 z) (funext fun y0 => (funext fun y1 => (funext fun y2 => (funext fun y3 => (funext fun y4 => (funext fun y5 => (funext fun y6 => (funext fun y7 => qa.u12.ok k y0 y1 y2 y3 y4 y5 y6 y7 K)))))))))
theorem qa.u14.ok (k : Nat) (x0 : Ad) (x1 : Option Nat) (x2 : Int) (x3 : Ad) (x4 : Sl) (x5 x6 : Int) (x7 : Bool) (K : KF α) :
  eC k qa.u14.c (za [(4, .ptr (some x0)), (5, .map x1), (6, .int .i64 x2), (7, .ptr (some x3)), (14, .slice x4), (15, .int .i64 x5), (16, .int .i64 x6), (21, .bool x7)]) K =
   qa.u14.f k x0 x1 x2 x3 x4 x5 x6 x7 (fun y0 y1 y2 y3 y4 y5 => K .normal (za [(4, .ptr (some y0)), (5, .map y1), (7, .ptr (some y2)), (14, .slice y3), (15, .int .i64 y4), (16, .int .i64 y5)])) (fun y0 y1 => K .ret (fr36 y0 y1)) :=
 jw (g := x7) (by kernel_rfl) (qa.u6.ok k x0 x1 x2 x3 x4 x5 x6 x7 K) (qa.u13.ok k x0 x1 x2 x3 x4 x5 x6 x7 K)
theorem qa.u15.ok (k : Nat) (x0 : Ad) (x1 : Option Nat) (x2 : Int) (x3 : Ad) (x4 : Sl) (x5 x6 : Int) (K : KF α) :
  eC k qa.u15.c (za [(4, .ptr (some x0)), (5, .map x1), (6, .int .i64 x2), (7, .ptr (some x3)), (14, .slice x4), (15, .int .i64 x5), (16, .int .i64 x6)]) K =
   qa.u15.f k x0 x1 x2 x3 x4 x5 x6 (fun y0 y1 y2 y3 y4 y5 => K .normal (za [(4, .ptr (some y0)), (5, .map y1), (7, .ptr (some y2)), (14, .slice y3), (15, .int .i64 y4), (16, .int .i64 y5)])) (fun y0 y1 => K .ret (fr36 y0 y1)) :=
 (qa.u5.ok k x0 x1 x2 x3 x4 x5 x6 qa.u14.c K).trans
  (congrArg (fun z => qa.u5.f k x0 x1 x2 x3 x4 x5 x6 z) (funext fun y0 => (funext fun y1 => (funext fun y2 => (funext fun y3 => (funext fun y4 => (funext fun y5 => (funext fun y6 => (funext fun y7 => qa.u14.ok k y0 y1 y2 y3 y4 y5 y6 y7 K)))))))))
theorem qa.u16.ok (k : Nat) (x0 : Ad) (x1 : Option Nat) (x2 : Int) (x3 : Ad) (x4 : Sl) (x5 x6 : Int) (K : KF α) :
  eC k qa.u16.c (za [(4, .ptr (some x0)), (5, .map x1), (6, .int .i64 x2), (7, .ptr (some x3)), (14, .slice x4), (15, .int .i64 x5), (16, .int .i64 x6)]) K =
   qa.u16.f k x0 x1 x2 x3 x4 x5 x6 (fun y0 y1 y2 y3 y4 y5 => K .normal (za [(4, .ptr (some y0)), (5, .map y1), (7, .ptr (some y2)), (14, .slice y3), (15, .int .i64 y4), (16, .int .i64 y5)])) (fun y0 y1 => K .ret (fr36 y0 y1)) :=
 (zx.trans (qa.u15.ok k x0 x1 x2 x3 x4 x5 x6 (jx 2 K))).trans (by kernel_rfl)
theorem qa.u17.ok (k : Nat) (x0 : Ad) (x1 : Option Nat) (x2 : Ad) (x3 : Sl) (x4 x5 : Int) (K : KF α) :
  eC k qa.u17.c (za [(4, .ptr (some x0)), (5, .map x1), (7, .ptr (some x2)), (14, .slice x3), (15, .int .i64 x4), (16, .int .i64 x5)]) K =
   qa.u17.f k x0 x1 x2 x3 x4 x5 (fun y0 y1 y2 y3 y4 => K .normal (za [(4, .ptr (some y0)), (5, .map y1), (14, .slice y2), (15, .int .i64 y3), (16, .int .i64 y4)])) := by kernel_rfl
theorem qa.u18.ok (k : Nat) (x0 : Ad) (x1 : Option Nat) (x2 : Int) (x3 : Ad) (x4 : Sl) (x5 x6 : Int) (K : KF α) :
  eC k qa.u18.c (za [(4, .ptr (some x0)), (5, .map x1), (6, .int .i64 x2), (7, .ptr (some x3)), (14, .slice x4), (15, .int .i64 x5), (16, .int .i64 x6)]) K =
   qa.u18.f k x0 x1 x2 x3 x4 x5 x6 (fun y0 y1 y2 y3 y4 => K .normal (za [(4, .ptr (some y0)), (5, .map y1), (14, .slice y2), (15, .int .i64 y3), (16, .int .i64 y4)])) (fun y0 y1 => K .ret (fr36 y0 y1)) :=
 by
  have h := qa.u16.ok k x0 x1 x2 x3 x4 x5 x6 (seqK (fun ρ => eC k qa.u17.c ρ K) K)
  simp only [zf, zk, zp, zo, qa.u17.ok] at h
  exact jd h
theorem qa.u19.ok (k : Nat) (x0 : Ad) (x1 : Option Nat) (x2 : Sl) (x3 x4 : Int) (K : KF α) :
  eC k qa.u19.c (za [(4, .ptr (some x0)), (5, .map x1), (14, .slice x2), (15, .int .i64 x3), (16, .int .i64 x4)]) K =
   qa.u19.f k x0 x1 x2 x3 x4 (fun y0 y1 y2 y3 y4 => K .normal (za [(4, .ptr (some y0)), (5, .map y1), (14, .slice y2), (15, .int .i64 y3), (16, .int .i64 y4)])) (fun y0 y1 => K .ret (fr36 y0 y1)) :=
 (qa.u4.ok k x0 x1 x2 x3 x4 qa.u18.c K).trans
  (congrArg (fun z => qa.u4.f k x0 x1 x2 x3 x4 z) (funext fun y0 => (funext fun y1 => (funext fun y2 => (funext fun y3 => (funext fun y4 => (funext fun y5 => (funext fun y6 => qa.u18.ok k y0 y1 y2 y3 y4 y5 y6 K))))))))
theorem qa.u20.ok (k : Nat) (x0 : Ad) (x1 : Option Nat) (x2 : Sl) (x3 x4 : Int) (K : KF α) :
  eC k qa.u20.c (za [(4, .ptr (some x0)), (5, .map x1), (14, .slice x2), (15, .int .i64 x3), (16, .int .i64 x4)]) K =
   qa.u20.f k x0 x1 x2 x3 x4 (fun y0 y1 y2 y3 y4 => K .normal (za [(4, .ptr (some y0)), (5, .map y1), (14, .slice y2), (15, .int .i64 y3), (16, .int .i64 y4)])) (fun y0 y1 => K .ret (fr36 y0 y1)) :=
 (zx.trans (qa.u19.ok k x0 x1 x2 x3 x4 (jx 1 K))).trans (by kernel_rfl)
theorem qa.u21.ok (k : Nat) (x0 : Ad) (x1 : Option Nat) (x2 : Sl) (x3 x4 : Int) (K : KF α) :
  eC k qa.u21.c (za [(4, .ptr (some x0)), (5, .map x1), (14, .slice x2), (15, .int .i64 x3), (16, .int .i64 x4)]) K =
   qa.u21.f k x0 x1 x2 x3 x4 (fun y0 y1 y2 y3 y4 => K .normal (za [(4, .ptr (some y0)), (5, .map y1), (14, .slice y2), (15, .int .i64 y3), (16, .int .i64 y4)])) := by kernel_rfl
theorem qa.u22.ok (k : Nat) (x0 : Ad) (x1 : Option Nat) (x2 : Sl) (x3 x4 : Int) (K : KF α) :
  eC k qa.u22.c (za [(4, .ptr (some x0)), (5, .map x1), (14, .slice x2), (15, .int .i64 x3), (16, .int .i64 x4)]) K =
   qa.u22.f k x0 x1 x2 x3 x4 (fun y0 y1 y2 y3 y4 => K .normal (za [(4, .ptr (some y0)), (5, .map y1), (14, .slice y2), (15, .int .i64 y3), (16, .int .i64 y4)])) (fun y0 y1 => K .ret (fr36 y0 y1)) :=
 by
  have h := qa.u20.ok k x0 x1 x2 x3 x4 (seqK (fun ρ => eC k qa.u21.c ρ K) K)
  simp only [zf, zk, zp, zo, qa.u21.ok] at h
  exact jd h
theorem qa.u23.ok (k : Nat) (x0 : Ad) (x1 : Option Nat) (x2 : Sl) (x3 x4 : Int) (K : KF α) :
  eC k qa.u23.c (za [(4, .ptr (some x0)), (5, .map x1), (14, .slice x2), (15, .int .i64 x3), (16, .int .i64 x4)]) K =
   qa.u23.f k x0 x1 x2 x3 x4 (fun y0 y1 y2 y3 y4 => K .normal (za [(4, .ptr (some y0)), (5, .map y1), (14, .slice y2), (15, .int .i64 y3), (16, .int .i64 y4)])) (fun y0 y1 => K .ret (fr36 y0 y1)) (K (.exit 0) (za [])) :=
 (qa.u3.ok k x0 x1 x2 x3 x4 qa.u22.c K).trans
  (congrArg (fun z => qa.u3.f k x0 x1 x2 x3 x4 z (K (.exit 0) (za []))) (funext fun y0 => (funext fun y1 => (funext fun y2 => (funext fun y3 => (funext fun y4 => qa.u22.ok k y0 y1 y2 y3 y4 K))))))
theorem qa.u24.ls (k : Nat) (kr : Int->Int->M α) (kx0 : M α) (j : Nat) (x0 : Ad) (x1 : Option Nat) (x2 : Sl) (x3 x4 : Int) : qa.u24.l k kr kx0 (j + 1) x0 x1 x2 x3 x4 =
 qa.u23.f k x0 x1 x2 x3 x4 (fun y0 y1 y2 y3 y4 => qa.u24.l k kr kx0 j y0 y1 y2 y3 y4) kr kx0 := rfl
theorem qa.u24.okl (k : Nat) (K : KF α) : ∀ (j : Nat) (x0 : Ad) (x1 : Option Nat) (x2 : Sl) (x3 x4 : Int),
  zy (eC k qa.u23.c) [4, 5, 14, 15, 16] j (za [(4, .ptr (some x0)), (5, .map x1), (14, .slice x2), (15, .int .i64 x3), (16, .int .i64 x4)]) K = qa.u24.l k (fun y0 y1 => K .ret (fr36 y0 y1)) (K (.exit 0) (za [])) j x0 x1 x2 x3 x4
 | 0, _, _, _, _, _ => rfl
 | j + 1, x0, x1, x2, x3, x4 => by
   have h := qa.u23.ok k x0 x1 x2 x3 x4 (seqK (fun ρ => zy (eC k qa.u23.c) [4, 5, 14, 15, 16] j ρ K) K)
   simp only [zk, zp, zo, zf, qa.u24.okl k K j] at h
   exact (jg (by kernel_rfl) h).trans (qa.u24.ls k (fun y0 y1 => K .ret (fr36 y0 y1)) (K (.exit 0) (za [])) j x0 x1 x2 x3 x4).symm
theorem qa.u24.ok (k : Nat) (x0 : Ad) (x1 : Option Nat) (x2 : Sl) (x3 x4 : Int) (K : KF α) :
  eC k qa.u24.c (za [(4, .ptr (some x0)), (5, .map x1), (14, .slice x2), (15, .int .i64 x3), (16, .int .i64 x4)]) K =
   qa.u24.f k x0 x1 x2 x3 x4 (fun y0 y1 => K .ret (fr36 y0 y1)) (K (.exit 0) (za [])) :=
 yb.trans <| (jf (body := eC k qa.u23.c) (keep := [4, 5, 14, 15, 16]) (ρ := (za [(4, .ptr (some x0)), (5, .map x1), (14, .slice x2), (15, .int .i64 x3), (16, .int .i64 x4)])) (ρ' := (za [(4, .ptr (some x0)), (5, .map x1), (14, .slice x2), (15, .int .i64 x3), (16, .int .i64 x4)])) (by kernel_rfl) k K).trans (qa.u24.okl k K k x0 x1 x2 x3 x4)
theorem qa.u25.ok (k : Nat) (x0 : Ad) (x1 : Option Nat) (x2 : Sl) (x3 x4 : Int) (K : KF α) :
  eC k qa.u25.c (za [(4, .ptr (some x0)), (5, .map x1), (14, .slice x2), (15, .int .i64 x3), (16, .int .i64 x4)]) K =
   qa.u25.f k x0 x1 x2 x3 x4 (K .normal (za [])) (fun y0 y1 => K .ret (fr36 y0 y1)) :=
 (zx.trans (qa.u24.ok k x0 x1 x2 x3 x4 (jx 0 K))).trans (by kernel_rfl)
theorem qa.u26.ok (k : Nat) (x0 : Sl) (x1 : Ad) (x2 : Option Nat) (K : KF α) :
  eC k qa.u26.c (za [(0, .slice x0), (4, .ptr (some x1)), (5, .map x2)]) K =
   qa.u26.f k x0 x1 x2 (K .normal (za [])) (fun y0 y1 => K .ret (fr36 y0 y1)) :=
 (qa.u2.ok k x0 x1 x2 qa.u25.c K).trans
  (congrArg (fun z => qa.u2.f k x0 x1 x2 z) (funext fun y0 => (funext fun y1 => (funext fun y2 => (funext fun y3 => (funext fun y4 => qa.u25.ok k y0 y1 y2 y3 y4 K))))))
theorem qa.u27.ok (k : Nat) (K : KF α) :
  eC k qa.u27.c (za []) K =
   qa.u27.f k (fun y0 y1 => K .ret (fr36 y0 y1)) := by kernel_rfl
theorem qa.u28.ok (k : Nat) (x0 : Sl) (x1 : Ad) (x2 : Option Nat) (K : KF α) :
  eC k qa.u28.c (za [(0, .slice x0), (4, .ptr (some x1)), (5, .map x2)]) K =
   qa.u28.f k x0 x1 x2 (fun y0 y1 => K .ret (fr36 y0 y1)) :=
 by
  have h := qa.u26.ok k x0 x1 x2 (seqK (fun ρ => eC k qa.u27.c ρ K) K)
  simp only [zf, zk, zp, zo, qa.u27.ok] at h
  exact jd h
theorem qa.u29.ok (k : Nat) (x0 : Sl) (K : KF α) :
  eC k qa.u29.c (fr25 x0) K =
   qa.u29.f k x0 (fun y0 y1 => K .ret (fr36 y0 y1)) :=
 (qa.u1.ok k x0 qa.u28.c K).trans
  (congrArg (fun z => qa.u1.f k x0 z (fun y0 y1 => K .ret (fr36 y0 y1))) (funext fun y0 => (funext fun y1 => (funext fun y2 => qa.u28.ok k y0 y1 y2 K))))
theorem qa.ok (k : Nat) (x0 : Sl) (κ : Res->M α) :
  evF T (env k) k qa.c qa.res [.slice x0] κ = qa.f (k + 1) x0 (fun o0 o1 => κ (.ret (.tuple [.int .i64 o0, .int .i64 o1]))) :=
 (qa.u29.ok k x0 (retK T qa.res κ)).trans (by kernel_rfl)
theorem qa.code : qa.c.code = zu Tryd.f44 := by kernel_rfl
noncomputable def ql.c : IC := ql.u9.c
noncomputable def ql.res : List ResultVar := [(.tmp 2)]
theorem ql.u1.ok (k : Nat) (x0 : Sl) (R : IC) (K : KF α) :
  eC k (ql.u1.c R) (fr25 x0) K =
   ql.u1.f k x0 (fun y0 => eC k R (fr35 y0) K) := by kernel_rfl
theorem ql.u2.ok (k : Nat) (x0 : Sl) (R : IC) (K : KF α) :
  eC k (ql.u2.c R) (fr35 x0) K =
   ql.u2.f k x0 (fun y0 y1 y2 => eC k R (fr37 y0 y1 y2) K) := by kernel_rfl
theorem ql.u3.ok (k : Nat) (x0 : Sl) (x1 x2 : Int) (K : KF α) :
  eC k ql.u3.c (fr37 x0 x1 x2) K =
   ql.u3.f k x0 x1 x2 (fun y0 y1 y2 => K .normal (fr37 y0 y1 y2)) (fun y0 => K (.exit 0) (fr35 y0)) := by kernel_rfl
theorem ql.u4.ls (k : Nat) (kx0 : Sl->M α) (j : Nat) (x0 : Sl) (x1 x2 : Int) : ql.u4.l k kx0 (j + 1) x0 x1 x2 =
 ql.u3.f k x0 x1 x2 (fun y0 y1 y2 => ql.u4.l k kx0 j y0 y1 y2) kx0 := rfl
theorem ql.u4.okl (k : Nat) (K : KF α) : ∀ (j : Nat) (x0 : Sl) (x1 x2 : Int),
  zy (eC k ql.u3.c) [3, 10, 11] j (fr37 x0 x1 x2) K = ql.u4.l k (fun y0 => K (.exit 0) (fr35 y0)) j x0 x1 x2
 | 0, _, _, _ => rfl
 | j + 1, x0, x1, x2 => by
   have h := ql.u3.ok k x0 x1 x2 (seqK (fun ρ => zy (eC k ql.u3.c) [3, 10, 11] j ρ K) K)
   simp only [zk, zp, zo, zf, ql.u4.okl k K j] at h
   exact (jg (by kernel_rfl) h).trans (ql.u4.ls k (fun y0 => K (.exit 0) (fr35 y0)) j x0 x1 x2).symm
theorem ql.u4.ok (k : Nat) (x0 : Sl) (x1 x2 : Int) (K : KF α) :
  eC k ql.u4.c (fr37 x0 x1 x2) K =
   ql.u4.f k x0 x1 x2 (fun y0 => K (.exit 0) (fr35 y0)) :=
 yb.trans <| (jf (body := eC k ql.u3.c) (keep := [3, 10, 11]) (ρ := (fr37 x0 x1 x2)) (ρ' := (fr37 x0 x1 x2)) (by kernel_rfl) k K).trans (ql.u4.okl k K k x0 x1 x2)
theorem ql.u5.ok (k : Nat) (x0 : Sl) (x1 x2 : Int) (K : KF α) :
  eC k ql.u5.c (fr37 x0 x1 x2) K =
   ql.u5.f k x0 x1 x2 (fun y0 => K .normal (fr35 y0)) :=
 (zx.trans (ql.u4.ok k x0 x1 x2 (jx 0 K))).trans (by kernel_rfl)
theorem ql.u6.ok (k : Nat) (x0 : Sl) (K : KF α) :
  eC k ql.u6.c (fr35 x0) K =
   ql.u6.f k x0 (fun y0 => K .normal (fr35 y0)) :=
 (ql.u2.ok k x0 ql.u5.c K).trans
  (congrArg (fun z => ql.u2.f k x0 z) (funext fun y0 => (funext fun y1 => (funext fun y2 => ql.u5.ok k y0 y1 y2 K))))
theorem ql.u7.ok (k : Nat) (x0 : Sl) (K : KF α) :
  eC k ql.u7.c (fr35 x0) K =
   ql.u7.f k x0 (fun y0 => K .ret (fr18 y0)) := by kernel_rfl
theorem ql.u8.ok (k : Nat) (x0 : Sl) (K : KF α) :
  eC k ql.u8.c (fr35 x0) K =
   ql.u8.f k x0 (fun y0 => K .ret (fr18 y0)) :=
 by
  have h := ql.u6.ok k x0 (seqK (fun ρ => eC k ql.u7.c ρ K) K)
  simp only [zf, zk, zp, zo, ql.u7.ok] at h
  exact jd h
theorem ql.u9.ok (k : Nat) (x0 : Sl) (K : KF α) :
  eC k ql.u9.c (fr25 x0) K =
   ql.u9.f k x0 (fun y0 => K .ret (fr18 y0)) :=
 (ql.u1.ok k x0 ql.u8.c K).trans
  (congrArg (fun z => ql.u1.f k x0 z) (funext fun y0 => ql.u8.ok k y0 K))
theorem ql.ok (k : Nat) (x0 : Sl) (κ : Res->M α) :
  evF T (env k) k ql.c ql.res [.slice x0] κ = ql.f (k + 1) x0 (fun o0 => κ (.ret (.bool o0))) :=
 (ql.u9.ok k x0 (retK T ql.res κ)).trans (by kernel_rfl)
theorem ql.code : ql.c.code = zu Tryd.f28 := by kernel_rfl
noncomputable def qag.c : IC := qag.u1.c
noncomputable def qag.res : List ResultVar := [(.tmp 2)]
theorem qag.u1.ok (k : Nat) (x0 : Sl) (K : KF α) :
  eC k qag.u1.c (fr25 x0) K =
   qag.u1.f k x0 (fun y0 => K .ret (fr18 y0)) := by kernel_rfl
theorem qag.ok (k : Nat) (x0 : Sl) (κ : Res->M α) :
  evF T (env k) k qag.c qag.res [.slice x0] κ = qag.f (k + 1) x0 (fun o0 => κ (.ret (.bool o0))) :=
 (qag.u1.ok k x0 (retK T qag.res κ)).trans (by kernel_rfl)
theorem qag.code : qag.c.code = zu Tryd.f13 := by kernel_rfl
noncomputable def qbb.c : IC := qbb.u1.c
noncomputable def qbb.res : List ResultVar := [(.tmp 2)]
theorem qbb.u1.ok (k : Nat) (x0 : Sl) (K : KF α) :
  eC k qbb.u1.c (fr25 x0) K =
   qbb.u1.f k x0 (fun y0 => K .ret (fr26 y0)) := by kernel_rfl
theorem qbb.ok (k : Nat) (x0 : Sl) (κ : Res->M α) :
  evF T (env k) k qbb.c qbb.res [.slice x0] κ = qbb.f (k + 1) x0 (fun o0 => κ (.ret (.slice o0))) :=
 (qbb.u1.ok k x0 (retK T qbb.res κ)).trans (by kernel_rfl)
theorem qbb.code : qbb.c.code = zu Tryd.f15 := by kernel_rfl
noncomputable def qq.c : IC := qq.u9.c
noncomputable def qq.res : List ResultVar := [(.tmp 2)]
theorem qq.u1.ok (k : Nat) (x0 : Sl) (R : IC) (K : KF α) :
  eC k (qq.u1.c R) (fr25 x0) K =
   qq.u1.f k x0 (fun y0 => eC k R (fr35 y0) K) := by kernel_rfl
theorem qq.u2.ok (k : Nat) (x0 : Sl) (R : IC) (K : KF α) :
  eC k (qq.u2.c R) (fr35 x0) K =
   qq.u2.f k x0 (fun y0 y1 y2 => eC k R (fr38 y0 y1 y2) K) := by kernel_rfl
theorem qq.u3.ok (k : Nat) (x0 : Sl) (x1 x2 : Int) (K : KF α) :
  eC k qq.u3.c (fr38 x0 x1 x2) K =
   qq.u3.f k x0 x1 x2 (fun y0 y1 y2 => K .normal (fr38 y0 y1 y2)) (fun y0 => K (.exit 0) (fr35 y0)) := by kernel_rfl
theorem qq.u4.ls (k : Nat) (kx0 : Sl->M α) (j : Nat) (x0 : Sl) (x1 x2 : Int) : qq.u4.l k kx0 (j + 1) x0 x1 x2 =
 qq.u3.f k x0 x1 x2 (fun y0 y1 y2 => qq.u4.l k kx0 j y0 y1 y2) kx0 := rfl
theorem qq.u4.okl (k : Nat) (K : KF α) : ∀ (j : Nat) (x0 : Sl) (x1 x2 : Int),
  zy (eC k qq.u3.c) [3, 8, 9] j (fr38 x0 x1 x2) K = qq.u4.l k (fun y0 => K (.exit 0) (fr35 y0)) j x0 x1 x2
 | 0, _, _, _ => rfl
 | j + 1, x0, x1, x2 => by
   have h := qq.u3.ok k x0 x1 x2 (seqK (fun ρ => zy (eC k qq.u3.c) [3, 8, 9] j ρ K) K)
   simp only [zk, zp, zo, zf, qq.u4.okl k K j] at h
   exact (jg (by kernel_rfl) h).trans (qq.u4.ls k (fun y0 => K (.exit 0) (fr35 y0)) j x0 x1 x2).symm
theorem qq.u4.ok (k : Nat) (x0 : Sl) (x1 x2 : Int) (K : KF α) :
  eC k qq.u4.c (fr38 x0 x1 x2) K =
   qq.u4.f k x0 x1 x2 (fun y0 => K (.exit 0) (fr35 y0)) :=
 yb.trans <| (jf (body := eC k qq.u3.c) (keep := [3, 8, 9]) (ρ := (fr38 x0 x1 x2)) (ρ' := (fr38 x0 x1 x2)) (by kernel_rfl) k K).trans (qq.u4.okl k K k x0 x1 x2)
theorem qq.u5.ok (k : Nat) (x0 : Sl) (x1 x2 : Int) (K : KF α) :
  eC k qq.u5.c (fr38 x0 x1 x2) K =
   qq.u5.f k x0 x1 x2 (fun y0 => K .normal (fr35 y0)) :=
 (zx.trans (qq.u4.ok k x0 x1 x2 (jx 0 K))).trans (by kernel_rfl)
theorem qq.u6.ok (k : Nat) (x0 : Sl) (K : KF α) :
  eC k qq.u6.c (fr35 x0) K =
   qq.u6.f k x0 (fun y0 => K .normal (fr35 y0)) :=
 (qq.u2.ok k x0 qq.u5.c K).trans
  (congrArg (fun z => qq.u2.f k x0 z) (funext fun y0 => (funext fun y1 => (funext fun y2 => qq.u5.ok k y0 y1 y2 K))))
theorem qq.u7.ok (k : Nat) (x0 : Sl) (K : KF α) :
  eC k qq.u7.c (fr35 x0) K =
   qq.u7.f k x0 (fun y0 => K .ret (fr26 y0)) := by kernel_rfl
theorem qq.u8.ok (k : Nat) (x0 : Sl) (K : KF α) :
  eC k qq.u8.c (fr35 x0) K =
   qq.u8.f k x0 (fun y0 => K .ret (fr26 y0)) :=
 by
  have h := qq.u6.ok k x0 (seqK (fun ρ => eC k qq.u7.c ρ K) K)
  simp only [zf, zk, zp, zo, qq.u7.ok] at h
  exact jd h
theorem qq.u9.ok (k : Nat) (x0 : Sl) (K : KF α) :
  eC k qq.u9.c (fr25 x0) K =
   qq.u9.f k x0 (fun y0 => K .ret (fr26 y0)) :=
 (qq.u1.ok k x0 qq.u8.c K).trans
  (congrArg (fun z => qq.u1.f k x0 z) (funext fun y0 => qq.u8.ok k y0 K))
theorem qq.ok (k : Nat) (x0 : Sl) (κ : Res->M α) :
  evF T (env k) k qq.c qq.res [.slice x0] κ = qq.f (k + 1) x0 (fun o0 => κ (.ret (.slice o0))) :=
 (qq.u9.ok k x0 (retK T qq.res κ)).trans (by kernel_rfl)
theorem qq.code : qq.c.code = zu Tryd.f23 := by kernel_rfl
noncomputable def qb.c : IC := qb.u27.c
noncomputable def qb.res : List ResultVar := [(.tmp 2)]
theorem qb.u1.ok (k : Nat) (x0 : Sl) (R : IC) (K : KF α) :
  eC k (qb.u1.c R) (fr25 x0) K =
   qb.u1.f k x0 (fun y0 y1 y2 => eC k R (fr39 y0 y1 y2) K) (fun y0 => K .ret (fr26 y0)) := by kernel_rfl
theorem qb.u2.ok (k : Nat) (x0 x1 x2 : Sl) (R : IC) (K : KF α) :
  eC k (qb.u2.c R) (fr39 x0 x1 x2) K =
   qb.u2.f k x0 x1 x2 (fun y0 y1 y2 y3 y4 => eC k R (fr40 y0 y1 y2 y3 y4) K) := by kernel_rfl
theorem qb.u3.ok (k : Nat) (x0 x1 x2 : Sl) (x3 x4 : Int) (R : IC) (K : KF α) :
  eC k (qb.u3.c R) (fr40 x0 x1 x2 x3 x4) K =
   qb.u3.f k x0 x1 x2 x3 x4 (fun y0 y1 y2 y3 y4 => eC k R (fr40 y0 y1 y2 y3 y4) K) (fun y0 => K (.exit 0) (fr19 y0)) := by kernel_rfl
theorem qb.u4.ok (k : Nat) (x0 x1 x2 : Sl) (x3 x4 : Int) (R : IC) (K : KF α) :
  eC k (qb.u4.c R) (fr40 x0 x1 x2 x3 x4) K =
   qb.u4.f k x0 x1 x2 x3 x4 (fun y0 y1 y2 y3 y4 y5 y6 y7 => eC k R (za [(3, .slice y0), (4, .slice y1), (5, .int .i64 y2), (6, .ptr (some y3)), (15, .slice y4), (16, .int .i64 y5), (17, .int .i64 y6), (23, .int .i64 y7)]) K) := by kernel_rfl
theorem qb.u5.ok (k : Nat) (x0 x1 : Sl) (x2 : Int) (x3 : Ad) (x4 : Sl) (x5 x6 x7 : Int) (R : IC) (K : KF α) :
  eC k (qb.u5.c R) (za [(3, .slice x0), (4, .slice x1), (5, .int .i64 x2), (6, .ptr (some x3)), (15, .slice x4), (16, .int .i64 x5), (17, .int .i64 x6), (23, .int .i64 x7)]) K =
   qb.u5.f k x0 x1 x2 x3 x4 x5 x6 x7 (fun y0 y1 y2 y3 y4 y5 y6 y7 y8 => eC k R (za [(3, .slice y0), (4, .slice y1), (5, .int .i64 y2), (6, .ptr (some y3)), (15, .slice y4), (16, .int .i64 y5), (17, .int .i64 y6), (23, .int .i64 y7), (24, .bool y8)]) K) := by kernel_rfl
theorem qb.u6.ok (k : Nat) (x0 x1 : Sl) (x2 : Int) (x3 : Ad) (x4 : Sl) (x5 x6 x7 : Int) (x8 : Bool) (K : KF α) :
  eC k qb.u6.c (za [(3, .slice x0), (4, .slice x1), (5, .int .i64 x2), (6, .ptr (some x3)), (15, .slice x4), (16, .int .i64 x5), (17, .int .i64 x6), (23, .int .i64 x7), (24, .bool x8)]) K =
   qb.u6.f k x0 x1 x2 x3 x4 x5 x6 x7 x8 (fun y0 y1 y2 y3 y4 => K .normal (fr40 y0 y1 y2 y3 y4)) := by kernel_rfl
theorem qb.u7.ok (k : Nat) (x0 x1 : Sl) (x2 : Int) (x3 : Ad) (x4 : Sl) (x5 x6 x7 : Int) (x8 : Bool) (R : IC) (K : KF α) :
  eC k (qb.u7.c R) (za [(3, .slice x0), (4, .slice x1), (5, .int .i64 x2), (6, .ptr (some x3)), (15, .slice x4), (16, .int .i64 x5), (17, .int .i64 x6), (23, .int .i64 x7), (24, .bool x8)]) K =
   qb.u7.f k x0 x1 x2 x3 x4 x5 x6 x7 x8 (fun y0 y1 y2 y3 y4 y5 y6 y7 y8 => eC k R (za [(3, .slice y0), (4, .slice y1), (5, .int .i64 y2), (6, .ptr (some y3)), (15, .slice y4), (16, .int .i64 y5), (17, .int .i64 y6), (23, .int .i64 y7), (34, .bool y8)]) K) := by kernel_rfl
theorem qb.u8.ok (k : Nat) (x0 x1 : Sl) (x2 : Int) (x3 : Ad) (x4 : Sl) (x5 x6 x7 : Int) (x8 : Bool) (K : KF α) :
  eC k qb.u8.c (za [(3, .slice x0), (4, .slice x1), (5, .int .i64 x2), (6, .ptr (some x3)), (15, .slice x4), (16, .int .i64 x5), (17, .int .i64 x6), (23, .int .i64 x7), (34, .bool x8)]) K =
   qb.u8.f k x0 x1 x2 x3 x4 x5 x6 x7 x8 (fun y0 y1 y2 y3 y4 => K .normal (fr40 y0 y1 y2 y3 y4)) := by kernel_rfl
theorem qb.u9.ok (k : Nat) (x0 x1 : Sl) (x2 : Int) (x3 : Ad) (x4 : Sl) (x5 x6 x7 : Int) (x8 : Bool) (R : IC) (K : KF α) :
  eC k (qb.u9.c R) (za [(3, .slice x0), (4, .slice x1), (5, .int .i64 x2), (6, .ptr (some x3)), (15, .slice x4), (16, .int .i64 x5), (17, .int .i64 x6), (23, .int .i64 x7), (34, .bool x8)]) K =
   qb.u9.f k x0 x1 x2 x3 x4 x5 x6 x7 x8 (fun y0 y1 y2 y3 y4 y5 y6 y7 y8 => eC k R (za [(3, .slice y0), (4, .slice y1), (5, .int .i64 y2), (6, .ptr (some y3)), (15, .slice y4), (16, .int .i64 y5), (17, .int .i64 y6), (23, .int .i64 y7), (51, .bool y8)]) K) := by kernel_rfl
theorem qb.u10.ok (k : Nat) (x0 x1 : Sl) (x2 : Int) (x3 : Ad) (x4 : Sl) (x5 x6 x7 : Int) (x8 : Bool) (K : KF α) :
  eC k qb.u10.c (za [(3, .slice x0), (4, .slice x1), (5, .int .i64 x2), (6, .ptr (some x3)), (15, .slice x4), (16, .int .i64 x5), (17, .int .i64 x6), (23, .int .i64 x7), (51, .bool x8)]) K =
   qb.u10.f k x0 x1 x2 x3 x4 x5 x6 x7 x8 (fun y0 y1 y2 y3 y4 => K .normal (fr40 y0 y1 y2 y3 y4)) := by kernel_rfl
theorem qb.u11.ok (k : Nat) (x0 x1 : Sl) (x2 : Int) (x3 : Ad) (x4 : Sl) (x5 x6 x7 : Int) (x8 : Bool) (K : KF α) :
  eC k qb.u11.c (za [(3, .slice x0), (4, .slice x1), (5, .int .i64 x2), (6, .ptr (some x3)), (15, .slice x4), (16, .int .i64 x5), (17, .int .i64 x6), (23, .int .i64 x7), (34, .bool x8)]) K =
   qb.u11.f k x0 x1 x2 x3 x4 x5 x6 x7 x8 (fun y0 y1 y2 y3 y4 => K .normal (fr40 y0 y1 y2 y3 y4)) :=
 (qb.u9.ok k x0 x1 x2 x3 x4 x5 x6 x7 x8 qb.u10.c K).trans
  (congrArg (fun z => qb.u9.f k x0 x1 x2 x3 x4 x5 x6 x7 x8 z) (funext fun y0 => (funext fun y1 => (funext fun y2 => (funext fun y3 => (funext fun y4 => (funext fun y5 => (funext fun y6 => (funext fun y7 => (funext fun y8 => qb.u10.ok k y0 y1 y2 y3 y4 y5 y6 y7 y8 K))))))))))
theorem qb.u12.ok (k : Nat) (x0 x1 : Sl) (x2 : Int) (x3 : Ad) (x4 : Sl) (x5 x6 x7 : Int) (x8 : Bool) (K : KF α) :
  eC k qb.u12.c (za [(3, .slice x0), (4, .slice x1), (5, .int .i64 x2), (6, .ptr (some x3)), (15, .slice x4), (16, .int .i64 x5), (17, .int .i64 x6), (23, .int .i64 x7), (34, .bool x8)]) K =
   qb.u12.f k x0 x1 x2 x3 x4 x5 x6 x7 x8 (fun y0 y1 y2 y3 y4 => K .normal (fr40 y0 y1 y2 y3 y4)) :=
 jw (g := x8) (by kernel_rfl) (qb.u8.ok k x0 x1 x2 x3 x4 x5 x6 x7 x8 K) (qb.u11.ok k x0 x1 x2 x3 x4 x5 x6 x7 x8 K)
theorem qb.u13.ok (k : Nat) (x0 x1 : Sl) (x2 : Int) (x3 : Ad) (x4 : Sl) (x5 x6 x7 : Int) (x8 : Bool) (K : KF α) :
  eC k qb.u13.c (za [(3, .slice x0), (4, .slice x1), (5, .int .i64 x2), (6, .ptr (some x3)), (15, .slice x4), (16, .int .i64 x5), (17, .int .i64 x6), (23, .int .i64 x7), (24, .bool x8)]) K =
   qb.u13.f k x0 x1 x2 x3 x4 x5 x6 x7 x8 (fun y0 y1 y2 y3 y4 => K .normal (fr40 y0 y1 y2 y3 y4)) :=
 (qb.u7.ok k x0 x1 x2 x3 x4 x5 x6 x7 x8 qb.u12.c K).trans
  (congrArg (fun z => qb.u7.f k x0 x1 x2 x3 x4 x5 x6 x7 x8 z) (funext fun y0 => (funext fun y1 => (funext fun y2 => (funext fun y3 => (funext fun y4 => (funext fun y5 => (funext fun y6 => (funext fun y7 => (funext fun y8 => qb.u12.ok k y0 y1 y2 y3 y4 y5 y6 y7 y8 K))))))))))
theorem qb.u14.ok (k : Nat) (x0 x1 : Sl) (x2 : Int) (x3 : Ad) (x4 : Sl) (x5 x6 x7 : Int) (x8 : Bool) (K : KF α) :
  eC k qb.u14.c (za [(3, .slice x0), (4, .slice x1), (5, .int .i64 x2), (6, .ptr (some x3)), (15, .slice x4), (16, .int .i64 x5), (17, .int .i64 x6), (23, .int .i64 x7), (24, .bool x8)]) K =
   qb.u14.f k x0 x1 x2 x3 x4 x5 x6 x7 x8 (fun y0 y1 y2 y3 y4 => K .normal (fr40 y0 y1 y2 y3 y4)) :=
 jw (g := x8) (by kernel_rfl) (qb.u6.ok k x0 x1 x2 x3 x4 x5 x6 x7 x8 K) (qb.u13.ok k x0 x1 x2 x3 x4 x5 x6 x7 x8 K)
theorem qb.u15.ok (k : Nat) (x0 x1 : Sl) (x2 : Int) (x3 : Ad) (x4 : Sl) (x5 x6 x7 : Int) (K : KF α) :
  eC k qb.u15.c (za [(3, .slice x0), (4, .slice x1), (5, .int .i64 x2), (6, .ptr (some x3)), (15, .slice x4), (16, .int .i64 x5), (17, .int .i64 x6), (23, .int .i64 x7)]) K =
   qb.u15.f k x0 x1 x2 x3 x4 x5 x6 x7 (fun y0 y1 y2 y3 y4 => K .normal (fr40 y0 y1 y2 y3 y4)) :=
 (qb.u5.ok k x0 x1 x2 x3 x4 x5 x6 x7 qb.u14.c K).trans
  (congrArg (fun z => qb.u5.f k x0 x1 x2 x3 x4 x5 x6 x7 z) (funext fun y0 => (funext fun y1 => (funext fun y2 => (funext fun y3 => (funext fun y4 => (funext fun y5 => (funext fun y6 => (funext fun y7 => (funext fun y8 => qb.u14.ok k y0 y1 y2 y3 y4 y5 y6 y7 y8 K))))))))))
theorem qb.u16.ok (k : Nat) (x0 x1 : Sl) (x2 : Int) (x3 : Ad) (x4 : Sl) (x5 x6 x7 : Int) (K : KF α) :
  eC k qb.u16.c (za [(3, .slice x0), (4, .slice x1), (5, .int .i64 x2), (6, .ptr (some x3)), (15, .slice x4), (16, .int .i64 x5), (17, .int .i64 x6), (23, .int .i64 x7)]) K =
   qb.u16.f k x0 x1 x2 x3 x4 x5 x6 x7 (fun y0 y1 y2 y3 y4 => K .normal (fr40 y0 y1 y2 y3 y4)) :=
 (zx.trans (qb.u15.ok k x0 x1 x2 x3 x4 x5 x6 x7 (jx 2 K))).trans (by kernel_rfl)
theorem qb.u17.ok (k : Nat) (x0 x1 x2 : Sl) (x3 x4 : Int) (K : KF α) :
  eC k qb.u17.c (fr40 x0 x1 x2 x3 x4) K =
   qb.u17.f k x0 x1 x2 x3 x4 (fun y0 y1 y2 y3 y4 => K .normal (fr40 y0 y1 y2 y3 y4)) :=
 (qb.u4.ok k x0 x1 x2 x3 x4 qb.u16.c K).trans
  (congrArg (fun z => qb.u4.f k x0 x1 x2 x3 x4 z) (funext fun y0 => (funext fun y1 => (funext fun y2 => (funext fun y3 => (funext fun y4 => (funext fun y5 => (funext fun y6 => (funext fun y7 => qb.u16.ok k y0 y1 y2 y3 y4 y5 y6 y7 K)))))))))
theorem qb.u18.ok (k : Nat) (x0 x1 x2 : Sl) (x3 x4 : Int) (K : KF α) :
  eC k qb.u18.c (fr40 x0 x1 x2 x3 x4) K =
   qb.u18.f k x0 x1 x2 x3 x4 (fun y0 y1 y2 y3 y4 => K .normal (fr40 y0 y1 y2 y3 y4)) :=
 (zx.trans (qb.u17.ok k x0 x1 x2 x3 x4 (jx 1 K))).trans (by kernel_rfl)
theorem qb.u19.ok (k : Nat) (x0 x1 x2 : Sl) (x3 x4 : Int) (K : KF α) :
  eC k qb.u19.c (fr40 x0 x1 x2 x3 x4) K =
   qb.u19.f k x0 x1 x2 x3 x4 (fun y0 y1 y2 y3 y4 => K .normal (fr40 y0 y1 y2 y3 y4)) := by kernel_rfl
theorem qb.u20.ok (k : Nat) (x0 x1 x2 : Sl) (x3 x4 : Int) (K : KF α) :
  eC k qb.u20.c (fr40 x0 x1 x2 x3 x4) K =
   qb.u20.f k x0 x1 x2 x3 x4 (fun y0 y1 y2 y3 y4 => K .normal (fr40 y0 y1 y2 y3 y4)) :=
 by
  have h := qb.u18.ok k x0 x1 x2 x3 x4 (seqK (fun ρ => eC k qb.u19.c ρ K) K)
  simp only [zf, zk, zp, zo, qb.u19.ok] at h
  exact jd h
theorem qb.u21.ok (k : Nat) (x0 x1 x2 : Sl) (x3 x4 : Int) (K : KF α) :
  eC k qb.u21.c (fr40 x0 x1 x2 x3 x4) K =
   qb.u21.f k x0 x1 x2 x3 x4 (fun y0 y1 y2 y3 y4 => K .normal (fr40 y0 y1 y2 y3 y4)) (fun y0 => K (.exit 0) (fr19 y0)) :=
 (qb.u3.ok k x0 x1 x2 x3 x4 qb.u20.c K).trans
  (congrArg (fun z => qb.u3.f k x0 x1 x2 x3 x4 z (fun y0 => K (.exit 0) (fr19 y0))) (funext fun y0 => (funext fun y1 => (funext fun y2 => (funext fun y3 => (funext fun y4 => qb.u20.ok k y0 y1 y2 y3 y4 K))))))
theorem qb.u22.ls (k : Nat) (kx0 : Sl->M α) (j : Nat) (x0 x1 x2 : Sl) (x3 x4 : Int) : qb.u22.l k kx0 (j + 1) x0 x1 x2 x3 x4 =
 qb.u21.f k x0 x1 x2 x3 x4 (fun y0 y1 y2 y3 y4 => qb.u22.l k kx0 j y0 y1 y2 y3 y4) kx0 := rfl
theorem qb.u22.okl (k : Nat) (K : KF α) : ∀ (j : Nat) (x0 x1 x2 : Sl) (x3 x4 : Int),
  zy (eC k qb.u21.c) [3, 4, 15, 16, 17] j (fr40 x0 x1 x2 x3 x4) K = qb.u22.l k (fun y0 => K (.exit 0) (fr19 y0)) j x0 x1 x2 x3 x4
 | 0, _, _, _, _, _ => rfl
 | j + 1, x0, x1, x2, x3, x4 => by
   have h := qb.u21.ok k x0 x1 x2 x3 x4 (seqK (fun ρ => zy (eC k qb.u21.c) [3, 4, 15, 16, 17] j ρ K) K)
   simp only [zk, zp, zo, zf, qb.u22.okl k K j] at h
   exact (jg (by kernel_rfl) h).trans (qb.u22.ls k (fun y0 => K (.exit 0) (fr19 y0)) j x0 x1 x2 x3 x4).symm
theorem qb.u22.ok (k : Nat) (x0 x1 x2 : Sl) (x3 x4 : Int) (K : KF α) :
  eC k qb.u22.c (fr40 x0 x1 x2 x3 x4) K =
   qb.u22.f k x0 x1 x2 x3 x4 (fun y0 => K (.exit 0) (fr19 y0)) :=
 yb.trans <| (jf (body := eC k qb.u21.c) (keep := [3, 4, 15, 16, 17]) (ρ := (fr40 x0 x1 x2 x3 x4)) (ρ' := (fr40 x0 x1 x2 x3 x4)) (by kernel_rfl) k K).trans (qb.u22.okl k K k x0 x1 x2 x3 x4)
theorem qb.u23.ok (k : Nat) (x0 x1 x2 : Sl) (x3 x4 : Int) (K : KF α) :
  eC k qb.u23.c (fr40 x0 x1 x2 x3 x4) K =
   qb.u23.f k x0 x1 x2 x3 x4 (fun y0 => K .normal (fr19 y0)) :=
 (zx.trans (qb.u22.ok k x0 x1 x2 x3 x4 (jx 0 K))).trans (by kernel_rfl)
theorem qb.u24.ok (k : Nat) (x0 x1 x2 : Sl) (K : KF α) :
  eC k qb.u24.c (fr39 x0 x1 x2) K =
   qb.u24.f k x0 x1 x2 (fun y0 => K .normal (fr19 y0)) :=
 (qb.u2.ok k x0 x1 x2 qb.u23.c K).trans
  (congrArg (fun z => qb.u2.f k x0 x1 x2 z) (funext fun y0 => (funext fun y1 => (funext fun y2 => (funext fun y3 => (funext fun y4 => qb.u23.ok k y0 y1 y2 y3 y4 K))))))
theorem qb.u25.ok (k : Nat) (x0 : Sl) (K : KF α) :
  eC k qb.u25.c (fr19 x0) K =
   qb.u25.f k x0 (fun y0 => K .ret (fr26 y0)) := by kernel_rfl
theorem qb.u26.ok (k : Nat) (x0 x1 x2 : Sl) (K : KF α) :
  eC k qb.u26.c (fr39 x0 x1 x2) K =
   qb.u26.f k x0 x1 x2 (fun y0 => K .ret (fr26 y0)) :=
 by
  have h := qb.u24.ok k x0 x1 x2 (seqK (fun ρ => eC k qb.u25.c ρ K) K)
  simp only [zf, zk, zp, zo, qb.u25.ok] at h
  exact jd h
theorem qb.u27.ok (k : Nat) (x0 : Sl) (K : KF α) :
  eC k qb.u27.c (fr25 x0) K =
   qb.u27.f k x0 (fun y0 => K .ret (fr26 y0)) :=
 (qb.u1.ok k x0 qb.u26.c K).trans
  (congrArg (fun z => qb.u1.f k x0 z (fun y0 => K .ret (fr26 y0))) (funext fun y0 => (funext fun y1 => (funext fun y2 => qb.u26.ok k y0 y1 y2 K))))
theorem qb.ok (k : Nat) (x0 : Sl) (κ : Res->M α) :
  evF T (env k) k qb.c qb.res [.slice x0] κ = qb.f (k + 1) x0 (fun o0 => κ (.ret (.slice o0))) :=
 (qb.u27.ok k x0 (retK T qb.res κ)).trans (by kernel_rfl)
theorem qb.code : qb.c.code = zu Tryd.f10 := by kernel_rfl
noncomputable def qd.c : IC := qd.u22.c
noncomputable def qd.res : List ResultVar := [(.tmp 2)]
theorem qd.u1.ok (k : Nat) (x0 : Sl) (R : IC) (K : KF α) :
  eC k (qd.u1.c R) (fr25 x0) K =
   qd.u1.f k x0 (fun y0 y1 y2 y3 => eC k R (fr41 y0 y1 y2 y3) K) := by kernel_rfl
theorem qd.u2.ok (k : Nat) (x0 x1 : Sl) (x2 x3 : Sl) (R : IC) (K : KF α) :
  eC k (qd.u2.c R) (fr41 x0 x1 x2 x3) K =
   qd.u2.f k x0 x1 x2 x3 (fun y0 y1 y2 y3 y4 y5 => eC k R (fr42 y0 y1 y2 y3 y4 y5) K) := by kernel_rfl
theorem qd.u3.ok (k : Nat) (x0 x1 : Sl) (x2 x3 : Sl) (x4 x5 : Int) (R : IC) (K : KF α) :
  eC k (qd.u3.c R) (fr42 x0 x1 x2 x3 x4 x5) K =
   qd.u3.f k x0 x1 x2 x3 x4 x5 (fun y0 y1 y2 y3 y4 y5 => eC k R (fr42 y0 y1 y2 y3 y4 y5) K) (fun y0 => K (.exit 0) (fr19 y0)) := by kernel_rfl
theorem qd.u4.ok (k : Nat) (x0 x1 : Sl) (x2 x3 : Sl) (x4 x5 : Int) (R : IC) (K : KF α) :
  eC k (qd.u4.c R) (fr42 x0 x1 x2 x3 x4 x5) K =
   qd.u4.f k x0 x1 x2 x3 x4 x5 (fun y0 y1 y2 y3 y4 y5 y6 y7 => eC k R (za [(3, .slice y0), (4, .slice y1), (5, .slice y2), (6, .int .i64 y3), (7, .ptr (some y4)), (22, .slice y5), (23, .int .i64 y6), (24, .int .i64 y7)]) K) (fun y0 y1 y2 y3 y4 y5 => K (.exit 1) (fr42 y0 y1 y2 y3 y4 y5)) := by kernel_rfl
theorem qd.u5.ok (k : Nat) (x0 x1 x2 : Sl) (x3 : Int) (x4 : Ad) (x5 : Sl) (x6 x7 : Int) (R : IC) (K : KF α) :
  eC k (qd.u5.c R) (za [(3, .slice x0), (4, .slice x1), (5, .slice x2), (6, .int .i64 x3), (7, .ptr (some x4)), (22, .slice x5), (23, .int .i64 x6), (24, .int .i64 x7)]) K =
   qd.u5.f k x0 x1 x2 x3 x4 x5 x6 x7 (fun y0 y1 y2 y3 y4 y5 y6 y7 => eC k R (fr43 y0 y1 y2 y3 y4 y5 y6 y7) K) := by kernel_rfl
theorem qd.u6.ok (k : Nat) (x0 x1 x2 : Sl) (x3 x4 : Int) (x5 : Sl) (x6 x7 : Int) (R : IC) (K : KF α) :
  eC k (qd.u6.c R) (fr43 x0 x1 x2 x3 x4 x5 x6 x7) K =
   qd.u6.f k x0 x1 x2 x3 x4 x5 x6 x7 (fun y0 y1 y2 y3 y4 y5 y6 y7 => eC k R (fr44 y0 y1 y2 y3 y4 y5 y6 y7) K) := by kernel_rfl
theorem qd.u7.ok (k : Nat) (x0 x1 x2 : Sl) (x3 x4 : Int) (x5 : Sl) (x6 x7 : Int) (K : KF α) :
  eC k qd.u7.c (fr44 x0 x1 x2 x3 x4 x5 x6 x7) K =
   qd.u7.f k x0 x1 x2 x3 x4 x5 x6 x7 (fun y0 y1 y2 y3 y4 y5 y6 y7 => K .normal (fr44 y0 y1 y2 y3 y4 y5 y6 y7)) (fun y0 y1 y2 y3 y4 y5 => K (.exit 2) (fr42 y0 y1 y2 y3 y4 y5)) := by kernel_rfl
theorem qd.u8.ls (k : Nat) (kx2 : Sl->Sl->Sl->Sl->Int->Int->M α) (j : Nat) (x0 x1 x2 : Sl) (x3 x4 : Int) (x5 : Sl) (x6 x7 : Int) : qd.u8.l k kx2 (j + 1) x0 x1 x2 x3 x4 x5 x6 x7 =
 qd.u7.f k x0 x1 x2 x3 x4 x5 x6 x7 (fun y0 y1 y2 y3 y4 y5 y6 y7 => qd.u8.l k kx2 j y0 y1 y2 y3 y4 y5 y6 y7) kx2 := rfl
theorem qd.u8.okl (k : Nat) (K : KF α) : ∀ (j : Nat) (x0 x1 x2 : Sl) (x3 x4 : Int) (x5 : Sl) (x6 x7 : Int),
  zy (eC k qd.u7.c) [3, 4, 5, 6, 9, 22, 23, 24] j (fr44 x0 x1 x2 x3 x4 x5 x6 x7) K = qd.u8.l k (fun y0 y1 y2 y3 y4 y5 => K (.exit 2) (fr42 y0 y1 y2 y3 y4 y5)) j x0 x1 x2 x3 x4 x5 x6 x7
 | 0, _, _, _, _, _, _, _, _ => rfl
 | j + 1, x0, x1, x2, x3, x4, x5, x6, x7 => by
   have h := qd.u7.ok k x0 x1 x2 x3 x4 x5 x6 x7 (seqK (fun ρ => zy (eC k qd.u7.c) [3, 4, 5, 6, 9, 22, 23, 24] j ρ K) K)
   simp only [zk, zp, zo, zf, qd.u8.okl k K j] at h
   exact (jg (by kernel_rfl) h).trans (qd.u8.ls k (fun y0 y1 y2 y3 y4 y5 => K (.exit 2) (fr42 y0 y1 y2 y3 y4 y5)) j x0 x1 x2 x3 x4 x5 x6 x7).symm
theorem qd.u8.ok (k : Nat) (x0 x1 x2 : Sl) (x3 x4 : Int) (x5 : Sl) (x6 x7 : Int) (K : KF α) :
  eC k qd.u8.c (fr44 x0 x1 x2 x3 x4 x5 x6 x7) K =
   qd.u8.f k x0 x1 x2 x3 x4 x5 x6 x7 (fun y0 y1 y2 y3 y4 y5 => K (.exit 2) (fr42 y0 y1 y2 y3 y4 y5)) :=
 yb.trans <| (jf (body := eC k qd.u7.c) (keep := [3, 4, 5, 6, 9, 22, 23, 24]) (ρ := (fr44 x0 x1 x2 x3 x4 x5 x6 x7)) (ρ' := (fr44 x0 x1 x2 x3 x4 x5 x6 x7)) (by kernel_rfl) k K).trans (qd.u8.okl k K k x0 x1 x2 x3 x4 x5 x6 x7)
theorem qd.u9.ok (k : Nat) (x0 x1 x2 : Sl) (x3 x4 : Int) (x5 : Sl) (x6 x7 : Int) (K : KF α) :
  eC k qd.u9.c (fr44 x0 x1 x2 x3 x4 x5 x6 x7) K =
   qd.u9.f k x0 x1 x2 x3 x4 x5 x6 x7 (fun y0 y1 y2 y3 y4 y5 => K .normal (fr42 y0 y1 y2 y3 y4 y5)) :=
 (zx.trans (qd.u8.ok k x0 x1 x2 x3 x4 x5 x6 x7 (jx 2 K))).trans (by kernel_rfl)
theorem qd.u10.ok (k : Nat) (x0 x1 x2 : Sl) (x3 x4 : Int) (x5 : Sl) (x6 x7 : Int) (K : KF α) :
  eC k qd.u10.c (fr43 x0 x1 x2 x3 x4 x5 x6 x7) K =
   qd.u10.f k x0 x1 x2 x3 x4 x5 x6 x7 (fun y0 y1 y2 y3 y4 y5 => K .normal (fr42 y0 y1 y2 y3 y4 y5)) :=
 (qd.u6.ok k x0 x1 x2 x3 x4 x5 x6 x7 qd.u9.c K).trans
  (congrArg (fun z => qd.u6.f k x0 x1 x2 x3 x4 x5 x6 x7 z) (funext fun y0 => (funext fun y1 => (funext fun y2 => (funext fun y3 => (funext fun y4 => (funext fun y5 => (funext fun y6 => (funext fun y7 => qd.u9.ok k y0 y1 y2 y3 y4 y5 y6 y7 K)))))))))
theorem qd.u11.ok (k : Nat) (x0 x1 x2 : Sl) (x3 : Int) (x4 : Ad) (x5 : Sl) (x6 x7 : Int) (K : KF α) :
  eC k qd.u11.c (za [(3, .slice x0), (4, .slice x1), (5, .slice x2), (6, .int .i64 x3), (7, .ptr (some x4)), (22, .slice x5), (23, .int .i64 x6), (24, .int .i64 x7)]) K =
   qd.u11.f k x0 x1 x2 x3 x4 x5 x6 x7 (fun y0 y1 y2 y3 y4 y5 => K .normal (fr42 y0 y1 y2 y3 y4 y5)) :=
 (qd.u5.ok k x0 x1 x2 x3 x4 x5 x6 x7 qd.u10.c K).trans
  (congrArg (fun z => qd.u5.f k x0 x1 x2 x3 x4 x5 x6 x7 z) (funext fun y0 => (funext fun y1 => (funext fun y2 => (funext fun y3 => (funext fun y4 => (funext fun y5 => (funext fun y6 => (funext fun y7 => qd.u10.ok k y0 y1 y2 y3 y4 y5 y6 y7 K)))))))))
theorem qd.u12.ok (k : Nat) (x0 x1 : Sl) (x2 x3 : Sl) (x4 x5 : Int) (K : KF α) :
  eC k qd.u12.c (fr42 x0 x1 x2 x3 x4 x5) K =
   qd.u12.f k x0 x1 x2 x3 x4 x5 (fun y0 y1 y2 y3 y4 y5 => K .normal (fr42 y0 y1 y2 y3 y4 y5)) (fun y0 y1 y2 y3 y4 y5 => K (.exit 1) (fr42 y0 y1 y2 y3 y4 y5)) :=
 (qd.u4.ok k x0 x1 x2 x3 x4 x5 qd.u11.c K).trans
  (congrArg (fun z => qd.u4.f k x0 x1 x2 x3 x4 x5 z (fun y0 y1 y2 y3 y4 y5 => K (.exit 1) (fr42 y0 y1 y2 y3 y4 y5))) (funext fun y0 => (funext fun y1 => (funext fun y2 => (funext fun y3 => (funext fun y4 => (funext fun y5 => (funext fun y6 => (funext fun y7 => qd.u11.ok k y0 y1 y2 y3 y4 y5 y6 y7 K)))))))))
theorem qd.u13.ok (k : Nat) (x0 x1 : Sl) (x2 x3 : Sl) (x4 x5 : Int) (K : KF α) :
  eC k qd.u13.c (fr42 x0 x1 x2 x3 x4 x5) K =
   qd.u13.f k x0 x1 x2 x3 x4 x5 (fun y0 y1 y2 y3 y4 y5 => K .normal (fr42 y0 y1 y2 y3 y4 y5)) :=
 (zx.trans (qd.u12.ok k x0 x1 x2 x3 x4 x5 (jx 1 K))).trans (by kernel_rfl)
theorem qd.u14.ok (k : Nat) (x0 x1 : Sl) (x2 x3 : Sl) (x4 x5 : Int) (K : KF α) :
  eC k qd.u14.c (fr42 x0 x1 x2 x3 x4 x5) K =
   qd.u14.f k x0 x1 x2 x3 x4 x5 (fun y0 y1 y2 y3 y4 y5 => K .normal (fr42 y0 y1 y2 y3 y4 y5)) := by kernel_rfl
theorem qd.u15.ok (k : Nat) (x0 x1 : Sl) (x2 x3 : Sl) (x4 x5 : Int) (K : KF α) :
  eC k qd.u15.c (fr42 x0 x1 x2 x3 x4 x5) K =
   qd.u15.f k x0 x1 x2 x3 x4 x5 (fun y0 y1 y2 y3 y4 y5 => K .normal (fr42 y0 y1 y2 y3 y4 y5)) :=
 by
  have h := qd.u13.ok k x0 x1 x2 x3 x4 x5 (seqK (fun ρ => eC k qd.u14.c ρ K) K)
  simp only [zf, zk, zp, zo, qd.u14.ok] at h
  exact jd h
theorem qd.u16.ok (k : Nat) (x0 x1 : Sl) (x2 x3 : Sl) (x4 x5 : Int) (K : KF α) :
  eC k qd.u16.c (fr42 x0 x1 x2 x3 x4 x5) K =
   qd.u16.f k x0 x1 x2 x3 x4 x5 (fun y0 y1 y2 y3 y4 y5 => K .normal (fr42 y0 y1 y2 y3 y4 y5)) (fun y0 => K (.exit 0) (fr19 y0)) :=
 (qd.u3.ok k x0 x1 x2 x3 x4 x5 qd.u15.c K).trans
  (congrArg (fun z => qd.u3.f k x0 x1 x2 x3 x4 x5 z (fun y0 => K (.exit 0) (fr19 y0))) (funext fun y0 => (funext fun y1 => (funext fun y2 => (funext fun y3 => (funext fun y4 => (funext fun y5 => qd.u15.ok k y0 y1 y2 y3 y4 y5 K)))))))
theorem qd.u17.ls (k : Nat) (kx0 : Sl->M α) (j : Nat) (x0 x1 : Sl) (x2 x3 : Sl) (x4 x5 : Int) : qd.u17.l k kx0 (j + 1) x0 x1 x2 x3 x4 x5 =
 qd.u16.f k x0 x1 x2 x3 x4 x5 (fun y0 y1 y2 y3 y4 y5 => qd.u17.l k kx0 j y0 y1 y2 y3 y4 y5) kx0 := rfl
theorem qd.u17.okl (k : Nat) (K : KF α) : ∀ (j : Nat) (x0 x1 : Sl) (x2 x3 : Sl) (x4 x5 : Int),
  zy (eC k qd.u16.c) [3, 4, 5, 22, 23, 24] j (fr42 x0 x1 x2 x3 x4 x5) K = qd.u17.l k (fun y0 => K (.exit 0) (fr19 y0)) j x0 x1 x2 x3 x4 x5
 | 0, _, _, _, _, _, _ => rfl
 | j + 1, x0, x1, x2, x3, x4, x5 => by
   have h := qd.u16.ok k x0 x1 x2 x3 x4 x5 (seqK (fun ρ => zy (eC k qd.u16.c) [3, 4, 5, 22, 23, 24] j ρ K) K)
   simp only [zk, zp, zo, zf, qd.u17.okl k K j] at h
   exact (jg (by kernel_rfl) h).trans (qd.u17.ls k (fun y0 => K (.exit 0) (fr19 y0)) j x0 x1 x2 x3 x4 x5).symm
theorem qd.u17.ok (k : Nat) (x0 x1 : Sl) (x2 x3 : Sl) (x4 x5 : Int) (K : KF α) :
  eC k qd.u17.c (fr42 x0 x1 x2 x3 x4 x5) K =
   qd.u17.f k x0 x1 x2 x3 x4 x5 (fun y0 => K (.exit 0) (fr19 y0)) :=
 yb.trans <| (jf (body := eC k qd.u16.c) (keep := [3, 4, 5, 22, 23, 24]) (ρ := (fr42 x0 x1 x2 x3 x4 x5)) (ρ' := (fr42 x0 x1 x2 x3 x4 x5)) (by kernel_rfl) k K).trans (qd.u17.okl k K k x0 x1 x2 x3 x4 x5)
theorem qd.u18.ok (k : Nat) (x0 x1 : Sl) (x2 x3 : Sl) (x4 x5 : Int) (K : KF α) :
  eC k qd.u18.c (fr42 x0 x1 x2 x3 x4 x5) K =
   qd.u18.f k x0 x1 x2 x3 x4 x5 (fun y0 => K .normal (fr19 y0)) :=
 (zx.trans (qd.u17.ok k x0 x1 x2 x3 x4 x5 (jx 0 K))).trans (by kernel_rfl)
theorem qd.u19.ok (k : Nat) (x0 x1 : Sl) (x2 x3 : Sl) (K : KF α) :
  eC k qd.u19.c (fr41 x0 x1 x2 x3) K =
   qd.u19.f k x0 x1 x2 x3 (fun y0 => K .normal (fr19 y0)) :=
 (qd.u2.ok k x0 x1 x2 x3 qd.u18.c K).trans
  (congrArg (fun z => qd.u2.f k x0 x1 x2 x3 z) (funext fun y0 => (funext fun y1 => (funext fun y2 => (funext fun y3 => (funext fun y4 => (funext fun y5 => qd.u18.ok k y0 y1 y2 y3 y4 y5 K)))))))
theorem qd.u20.ok (k : Nat) (x0 : Sl) (K : KF α) :
  eC k qd.u20.c (fr19 x0) K =
   qd.u20.f k x0 (fun y0 => K .ret (fr26 y0)) := by kernel_rfl
theorem qd.u21.ok (k : Nat) (x0 x1 : Sl) (x2 x3 : Sl) (K : KF α) :
  eC k qd.u21.c (fr41 x0 x1 x2 x3) K =
   qd.u21.f k x0 x1 x2 x3 (fun y0 => K .ret (fr26 y0)) :=
 by
  have h := qd.u19.ok k x0 x1 x2 x3 (seqK (fun ρ => eC k qd.u20.c ρ K) K)
  simp only [zf, zk, zp, zo, qd.u20.ok] at h
  exact jd h
theorem qd.u22.ok (k : Nat) (x0 : Sl) (K : KF α) :
  eC k qd.u22.c (fr25 x0) K =
   qd.u22.f k x0 (fun y0 => K .ret (fr26 y0)) :=
 (qd.u1.ok k x0 qd.u21.c K).trans
  (congrArg (fun z => qd.u1.f k x0 z) (funext fun y0 => (funext fun y1 => (funext fun y2 => (funext fun y3 => qd.u21.ok k y0 y1 y2 y3 K)))))
theorem qd.ok (k : Nat) (x0 : Sl) (κ : Res->M α) :
  evF T (env k) k qd.c qd.res [.slice x0] κ = qd.f (k + 1) x0 (fun o0 => κ (.ret (.slice o0))) :=
 (qd.u22.ok k x0 (retK T qd.res κ)).trans (by kernel_rfl)
theorem qd.code : qd.c.code = zu Tryd.f12 := by kernel_rfl
noncomputable def qba.c : IC := qba.u1.c
noncomputable def qba.res : List ResultVar := [(.tmp 0)]
theorem qba.u1.ok (k : Nat) (K : KF α) :
  eC k qba.u1.c (za []) K =
   qba.u1.f k (fun y0 => K .ret (fr45 y0)) := by kernel_rfl
theorem qba.ok (k : Nat) (κ : Res->M α) :
  evF T (env k) k qba.c qba.res [] κ = qba.f (k + 1) (fun o0 => κ (.ret (.bool o0))) :=
 (qba.u1.ok k (retK T qba.res κ)).trans (by kernel_rfl)
theorem qba.code : qba.c.code = zu Tryd.f8 := by kernel_rfl
noncomputable def qat.c : IC := qat.u1.c
noncomputable def qat.res : List ResultVar := [(.tmp 2)]
theorem qat.u1.ok (k : Nat) (x0 : Int) (K : KF α) :
  eC k qat.u1.c (fr30 x0) K =
   qat.u1.f k x0 (fun y0 => K .ret (fr3 y0)) := by kernel_rfl
theorem qat.ok (k : Nat) (x0 : Int) (κ : Res->M α) :
  evF T (env k) k qat.c qat.res [.int .i64 x0] κ = qat.f (k + 1) x0 (fun o0 => κ (.ret (.int .i64 o0))) :=
 (qat.u1.ok k x0 (retK T qat.res κ)).trans (by kernel_rfl)
theorem qat.code : qat.c.code = zu Tryd.f64 := by kernel_rfl
noncomputable def qw.c : IC := qw.u5.c
noncomputable def qw.res : List ResultVar := [(.tmp 6)]
theorem qw.u1.ok (k : Nat) (x0 : Ad) (x1 : Int) (x2 : Bool) (R : IC) (K : KF α) :
  eC k (qw.u1.c R) (za [(0, .ptr (some x0)), (1, .int .i64 x1), (2, .bool x2)]) K =
   qw.u1.f k (qw.f k) x0 x1 x2 (fun y0 y1 y2 => eC k R (za [(0, .ptr (some y0)), (2, .bool y1), (7, .ptr (some y2))]) K) (fun y0 => K .ret (fr46 y0)) := by kernel_rfl
theorem qw.u2.ok (k : Nat) (x0 : Ad) (x1 : Bool) (x2 : Ad) (R : IC) (K : KF α) :
  eC k (qw.u2.c R) (za [(0, .ptr (some x0)), (2, .bool x1), (7, .ptr (some x2))]) K =
   qw.u2.f k x0 x1 x2 (fun y0 y1 => eC k R (za [(0, .ptr (some y0)), (7, .ptr (some y1))]) K) := by kernel_rfl
theorem qw.u3.ok (k : Nat) (x0 x1 : Ad) (K : KF α) :
  eC k qw.u3.c (za [(0, .ptr (some x0)), (7, .ptr (some x1))]) K =
   qw.u3.f k x0 x1 (fun y0 => K .ret (fr46 y0)) := by kernel_rfl
theorem qw.u4.ok (k : Nat) (x0 : Ad) (x1 : Bool) (x2 : Ad) (K : KF α) :
  eC k qw.u4.c (za [(0, .ptr (some x0)), (2, .bool x1), (7, .ptr (some x2))]) K =
   qw.u4.f k x0 x1 x2 (fun y0 => K .ret (fr46 y0)) :=
 (qw.u2.ok k x0 x1 x2 qw.u3.c K).trans
  (congrArg (fun z => qw.u2.f k x0 x1 x2 z) (funext fun y0 => (funext fun y1 => qw.u3.ok k y0 y1 K)))
theorem qw.u5.ok (k : Nat) (x0 : Ad) (x1 : Int) (x2 : Bool) (K : KF α) :
  eC k qw.u5.c (za [(0, .ptr (some x0)), (1, .int .i64 x1), (2, .bool x2)]) K =
   qw.u5.f k (qw.f k) x0 x1 x2 (fun y0 => K .ret (fr46 y0)) :=
 (qw.u1.ok k x0 x1 x2 qw.u4.c K).trans
  (congrArg (fun z => qw.u1.f k (qw.f k) x0 x1 x2 z (fun y0 => K .ret (fr46 y0))) (funext fun y0 => (funext fun y1 => (funext fun y2 => qw.u4.ok k y0 y1 y2 K))))
theorem qw.ok (k : Nat) (x0 : Ad) (x1 : Int) (x2 : Bool) (κ : Res->M α) :
  evF T (env k) k qw.c qw.res [.ptr (some x0), .int .i64 x1, .bool x2] κ = qw.f (k + 1) x0 x1 x2 (fun o0 => κ (.ret (.int .i64 o0))) :=
 (qw.u5.ok k x0 x1 x2 (retK T qw.res κ)).trans (by kernel_rfl)
theorem qw.code : qw.c.code = zu Tryd.f50 := by kernel_rfl
noncomputable def qak.c : IC := qak.u1.c
noncomputable def qak.res : List ResultVar := [(.tmp 4)]
theorem qak.u1.ok (k : Nat) (x0 : Sl) (x1 : Bool) (K : KF α) :
  eC k qak.u1.c (fr47 x0 x1) K =
   qak.u1.f k x0 x1 (fun y0 => K .ret (fr19 y0)) := by kernel_rfl
theorem qak.ok (k : Nat) (x0 : Sl) (x1 : Bool) (κ : Res->M α) :
  evF T (env k) k qak.c qak.res [.slice x0, .bool x1] κ = qak.f (k + 1) x0 x1 (fun o0 => κ (.ret (.slice o0))) :=
 (qak.u1.ok k x0 x1 (retK T qak.res κ)).trans (by kernel_rfl)
theorem qak.code : qak.c.code = zu Tryd.f31 := by kernel_rfl
noncomputable def qan.c : IC := qan.u1.c
noncomputable def qan.res : List ResultVar := [(.tmp 2)]
theorem qan.u1.ok (k : Nat) (x0 : Sl) (K : KF α) :
  eC k qan.u1.c (fr25 x0) K =
   qan.u1.f k x0 (fun y0 => K .ret (fr26 y0)) := by kernel_rfl
theorem qan.ok (k : Nat) (x0 : Sl) (κ : Res->M α) :
  evF T (env k) k qan.c qan.res [.slice x0] κ = qan.f (k + 1) x0 (fun o0 => κ (.ret (.slice o0))) :=
 (qan.u1.ok k x0 (retK T qan.res κ)).trans (by kernel_rfl)
theorem qan.code : qan.c.code = zu Tryd.f16 := by kernel_rfl
noncomputable def qao.c : IC := qao.u1.c
noncomputable def qao.res : List ResultVar := [(.tmp 2)]
theorem qao.u1.ok (k : Nat) (x0 : Sl) (K : KF α) :
  eC k qao.u1.c (fr25 x0) K =
   qao.u1.f k x0 (fun y0 => K .ret (fr26 y0)) := by kernel_rfl
theorem qao.ok (k : Nat) (x0 : Sl) (κ : Res->M α) :
  evF T (env k) k qao.c qao.res [.slice x0] κ = qao.f (k + 1) x0 (fun o0 => κ (.ret (.slice o0))) :=
 (qao.u1.ok k x0 (retK T qao.res κ)).trans (by kernel_rfl)
theorem qao.code : qao.c.code = zu Tryd.f17 := by kernel_rfl
noncomputable def qaw.c : IC := qaw.u1.c
noncomputable def qaw.res : List ResultVar := [(.tmp 2)]
theorem qaw.u1.ok (k : Nat) (x0 x1 x2 : Int) (x3 : TX) (x4 : Int) (K : KF α) :
  eC k qaw.u1.c (za [(0, .agg [.int .i64 x0, .int .i64 x1, .int .i64 x2, .str x3, .int .i64 x4])]) K =
   qaw.u1.f k x0 x1 x2 x3 x4 (fun y0 => K .ret (fr18 y0)) := by kernel_rfl
theorem qaw.ok (k : Nat) (x0 x1 x2 : Int) (x3 : TX) (x4 : Int) (κ : Res->M α) :
  evF T (env k) k qaw.c qaw.res [.agg [.int .i64 x0, .int .i64 x1, .int .i64 x2, .str x3, .int .i64 x4]] κ = qaw.f (k + 1) x0 x1 x2 x3 x4 (fun o0 => κ (.ret (.bool o0))) :=
 (qaw.u1.ok k x0 x1 x2 x3 x4 (retK T qaw.res κ)).trans (by kernel_rfl)
theorem qaw.code : qaw.c.code = zu Tryd.f14 := by kernel_rfl
noncomputable def qk.c : IC := qk.u9.c
noncomputable def qk.res : List ResultVar := [(.tmp 2)]
theorem qk.u1.ok (k : Nat) (x0 : Sl) (R : IC) (K : KF α) :
  eC k (qk.u1.c R) (fr25 x0) K =
   qk.u1.f k x0 (fun y0 y1 y2 y3 y4 => eC k R (fr48 y0 y1 y2 y3 y4) K) (fun y0 => K .ret (fr18 y0)) := by kernel_rfl
theorem qk.u2.ok (k : Nat) (x0 x1 : Sl) (x2 x3 x4 : Sl) (R : IC) (K : KF α) :
  eC k (qk.u2.c R) (fr48 x0 x1 x2 x3 x4) K =
   qk.u2.f k x0 x1 x2 x3 x4 (fun y0 y1 y2 y3 y4 y5 => eC k R (fr49 y0 y1 y2 y3 y4 y5) K) := by kernel_rfl
theorem qk.u3.ok (k : Nat) (x0 x1 : Sl) (x2 x3 x4 : Sl) (x5 : Int) (K : KF α) :
  eC k qk.u3.c (fr49 x0 x1 x2 x3 x4 x5) K =
   qk.u3.f k x0 x1 x2 x3 x4 x5 (fun y0 y1 y2 y3 y4 y5 => K .normal (fr49 y0 y1 y2 y3 y4 y5)) (fun y0 => K .ret (fr18 y0)) (K (.exit 0) (za [])) := by kernel_rfl
theorem qk.u4.ls (k : Nat) (kr : Bool->M α) (kx0 : M α) (j : Nat) (x0 x1 : Sl) (x2 x3 x4 : Sl) (x5 : Int) : qk.u4.l k kr kx0 (j + 1) x0 x1 x2 x3 x4 x5 =
 qk.u3.f k x0 x1 x2 x3 x4 x5 (fun y0 y1 y2 y3 y4 y5 => qk.u4.l k kr kx0 j y0 y1 y2 y3 y4 y5) kr kx0 := rfl
theorem qk.u4.okl (k : Nat) (K : KF α) : ∀ (j : Nat) (x0 x1 : Sl) (x2 x3 x4 : Sl) (x5 : Int),
  zy (eC k qk.u3.c) [4, 6, 7, 8, 9, 10] j (fr49 x0 x1 x2 x3 x4 x5) K = qk.u4.l k (fun y0 => K .ret (fr18 y0)) (K (.exit 0) (za [])) j x0 x1 x2 x3 x4 x5
 | 0, _, _, _, _, _, _ => rfl
 | j + 1, x0, x1, x2, x3, x4, x5 => by
   have h := qk.u3.ok k x0 x1 x2 x3 x4 x5 (seqK (fun ρ => zy (eC k qk.u3.c) [4, 6, 7, 8, 9, 10] j ρ K) K)
   simp only [zk, zp, zo, zf, qk.u4.okl k K j] at h
   exact (jg (by kernel_rfl) h).trans (qk.u4.ls k (fun y0 => K .ret (fr18 y0)) (K (.exit 0) (za [])) j x0 x1 x2 x3 x4 x5).symm
theorem qk.u4.ok (k : Nat) (x0 x1 : Sl) (x2 x3 x4 : Sl) (x5 : Int) (K : KF α) :
  eC k qk.u4.c (fr49 x0 x1 x2 x3 x4 x5) K =
   qk.u4.f k x0 x1 x2 x3 x4 x5 (fun y0 => K .ret (fr18 y0)) (K (.exit 0) (za [])) :=
 yb.trans <| (jf (body := eC k qk.u3.c) (keep := [4, 6, 7, 8, 9, 10]) (ρ := (fr49 x0 x1 x2 x3 x4 x5)) (ρ' := (fr49 x0 x1 x2 x3 x4 x5)) (by kernel_rfl) k K).trans (qk.u4.okl k K k x0 x1 x2 x3 x4 x5)
theorem qk.u5.ok (k : Nat) (x0 x1 : Sl) (x2 x3 x4 : Sl) (x5 : Int) (K : KF α) :
  eC k qk.u5.c (fr49 x0 x1 x2 x3 x4 x5) K =
   qk.u5.f k x0 x1 x2 x3 x4 x5 (K .normal (za [])) (fun y0 => K .ret (fr18 y0)) :=
 (zx.trans (qk.u4.ok k x0 x1 x2 x3 x4 x5 (jx 0 K))).trans (by kernel_rfl)
theorem qk.u6.ok (k : Nat) (x0 x1 : Sl) (x2 x3 x4 : Sl) (K : KF α) :
  eC k qk.u6.c (fr48 x0 x1 x2 x3 x4) K =
   qk.u6.f k x0 x1 x2 x3 x4 (K .normal (za [])) (fun y0 => K .ret (fr18 y0)) :=
 (qk.u2.ok k x0 x1 x2 x3 x4 qk.u5.c K).trans
  (congrArg (fun z => qk.u2.f k x0 x1 x2 x3 x4 z) (funext fun y0 => (funext fun y1 => (funext fun y2 => (funext fun y3 => (funext fun y4 => (funext fun y5 => qk.u5.ok k y0 y1 y2 y3 y4 y5 K)))))))
theorem qk.u7.ok (k : Nat) (K : KF α) :
  eC k qk.u7.c (za []) K =
   qk.u7.f k (fun y0 => K .ret (fr18 y0)) := by kernel_rfl
theorem qk.u8.ok (k : Nat) (x0 x1 : Sl) (x2 x3 x4 : Sl) (K : KF α) :
  eC k qk.u8.c (fr48 x0 x1 x2 x3 x4) K =
   qk.u8.f k x0 x1 x2 x3 x4 (fun y0 => K .ret (fr18 y0)) :=
 by
  have h := qk.u6.ok k x0 x1 x2 x3 x4 (seqK (fun ρ => eC k qk.u7.c ρ K) K)
  simp only [zf, zk, zp, zo, qk.u7.ok] at h
  exact jd h
theorem qk.u9.ok (k : Nat) (x0 : Sl) (K : KF α) :
  eC k qk.u9.c (fr25 x0) K =
   qk.u9.f k x0 (fun y0 => K .ret (fr18 y0)) :=
 (qk.u1.ok k x0 qk.u8.c K).trans
  (congrArg (fun z => qk.u1.f k x0 z (fun y0 => K .ret (fr18 y0))) (funext fun y0 => (funext fun y1 => (funext fun y2 => (funext fun y3 => (funext fun y4 => qk.u8.ok k y0 y1 y2 y3 y4 K))))))
theorem qk.ok (k : Nat) (x0 : Sl) (κ : Res->M α) :
  evF T (env k) k qk.c qk.res [.slice x0] κ = qk.f (k + 1) x0 (fun o0 => κ (.ret (.bool o0))) :=
 (qk.u9.ok k x0 (retK T qk.res κ)).trans (by kernel_rfl)
theorem qk.code : qk.c.code = zu Tryd.f7 := by kernel_rfl
end
end Go.Ab.S5
