import Derived.Test.YtmanohnlcedeaaaS7a1
import Derived.Test.YtmanohnlcedeaaaAb20
import Derived.Shelf.Strings.Builder1
import Derived.Test.YtmanohnlcedeaaaProg
import Derived.KernelRfl
set_option linter.unusedVariables false
set_option linter.unusedSimpArgs false
namespace Go.Ab.S7
abbrev fr45 (x0 x1:Sl) (x2:Int):Frame:=za [(0, .slice x0), (3, .slice x1), (4, .int .i64 x2)]
abbrev fr46 (x0 x1:Sl) (x2 x3 x4:Int):Frame:=za [(0, .slice x0), (3, .slice x1), (4, .int .i64 x2), (5, .int .i64 x3), (7, .int .i64 x4)]
abbrev fr47 (x0 x1:Sl) (x2:Int):Frame:=za [(0, .slice x0), (3, .slice x1), (5, .int .i64 x2)]
abbrev fr48 (x0 x1:Sl) (x2 x3:Int):Frame:=za [(0, .slice x0), (3, .slice x1), (4, .int .i64 x2), (5, .int .i64 x3)]
abbrev fr49 (x0 x1:Sl) (x2:Int):Frame:=za [(0, .slice x0), (1, .slice x1), (2, .int .i64 x2)]
abbrev fr50 (x0 x1:Sl) (x2 x3:Int):Frame:=za [(0, .slice x0), (1, .slice x1), (2, .int .i64 x2), (8, .int .i64 x3)]
abbrev fr51 (x0 x1:Sl) (x2 x3 x4:Int):Frame:=za [(0, .slice x0), (1, .slice x1), (2, .int .i64 x2), (8, .int .i64 x3), (9, .int .i64 x4)]
abbrev fr52 (x0 x1:Int):Frame:=za [(6, .int .i64 x0), (7, .int .i64 x1)]
abbrev fr53 (x0 x1 x2:Sl):Frame:=za [(0, .slice x0), (5, .slice x1), (6, .slice x2)]
abbrev fr54 (x0 x1 x2:Sl) (x3:Int):Frame:=za [(0, .slice x0), (5, .slice x1), (6, .slice x2), (7, .int .i64 x3)]
abbrev fr55 (x0 x1 x2:Sl) (x3 x4:Int):Frame:=za [(0, .slice x0), (5, .slice x1), (6, .slice x2), (7, .int .i64 x3), (11, .int .i64 x4)]
abbrev fr56 (x0:Sl) (x1:Int) (x2:Bool) (x3:Sl):Frame:=za [(0, .slice x0), (1, .int .i64 x1), (2, .bool x2), (3, .slice x3)]
abbrev fr57 (x0:Sl):Frame:=za [(8, .slice x0)]
abbrev fr58 (x0:Sl) (x1:Int):Frame:=za [(0, .slice x0), (3, .int .i64 x1)]
abbrev fr59 (x0:Sl) (x1:Int):Frame:=za [(0, .slice x0), (2, .int .i64 x1)]
abbrev fr60 (x0:Sl) (x1:Bool) (x2:Sl):Frame:=za [(0, .slice x0), (3, .bool x1), (4, .slice x2)]
abbrev fr61 (x0:Sl) (x1:Bool) (x2:Sl) (x3:Int):Frame:=za [(0, .slice x0), (3, .bool x1), (4, .slice x2), (5, .int .i64 x3)]
abbrev fr62 (x0 x1:Sl):Frame:=za [(0, .slice x0), (4, .slice x1)]
section
variable {α:Type}
open Go.Proofs
noncomputable def qbo.c:IC:=qbo.u1.c
noncomputable def qbo.res:List ResultVar:=[(.tmp 2)]
theorem qbo.u1.ok (k:Nat) (x0 x1 x2:Int) (x3:TX) (x4:Int) (K:KF α) :
  eC k qbo.u1.c (za [(0, .agg [.int .i64 x0, .int .i64 x1, .int .i64 x2, .str x3, .int .i64 x4])]) K =
   qbo.u1.f k x0 x1 x2 x3 x4 (fun y0=>K .ret (fr18 y0)):=by kernel_rfl
theorem qbo.ok (k:Nat) (x0 x1 x2:Int) (x3:TX) (x4:Int) (κ:Res->M α) :
  evF T (env k) k qbo.c qbo.res [.agg [.int .i64 x0, .int .i64 x1, .int .i64 x2, .str x3, .int .i64 x4]] κ = qbo.f (k + 1) x0 x1 x2 x3 x4 (fun o0=>κ (.ret (.bool o0))):=
 (qbo.u1.ok k x0 x1 x2 x3 x4 (retK T qbo.res κ)).trans (by kernel_rfl)
theorem qbo.code:qbo.c.code = zr Try.f73:=by kernel_rfl
noncomputable def qg.c:IC:=qg.u16.c
noncomputable def qg.res:List ResultVar:=[(.tmp 2)]
theorem qg.u1.ok (k:Nat) (x0:Sl) (R:IC) (K:KF α) :
  eC k (qg.u1.c R) (fr25 x0) K =
   qg.u1.f k x0 (fun y0 y1=>eC k R (fr33 y0 y1) K) (fun y0=>K .ret (fr18 y0)):=by kernel_rfl
theorem qg.u2.ok (k:Nat) (x0 x1:Sl) (R:IC) (K:KF α) :
  eC k (qg.u2.c R) (fr33 x0 x1) K =
   qg.u2.f k x0 x1 (fun y0 y1 y2=>eC k R (fr45 y0 y1 y2) K):=by kernel_rfl
theorem qg.u3.ok (k:Nat) (x0 x1:Sl) (x2:Int) (R:IC) (K:KF α) :
  eC k (qg.u3.c R) (fr45 x0 x1 x2) K =
   qg.u3.f k x0 x1 x2 (fun y0 y1 y2=>eC k R (fr45 y0 y1 y2) K) (fun y0=>K (.exit 0) (fr35 y0)):=by kernel_rfl
theorem qg.u4.ok (k:Nat) (x0 x1:Sl) (x2:Int) (R:IC) (K:KF α) :
  eC k (qg.u4.c R) (fr45 x0 x1 x2) K =
   qg.u4.f k x0 x1 x2 (fun y0 y1 y2 y3 y4=>eC k R (fr46 y0 y1 y2 y3 y4) K) (fun y0=>K .ret (fr18 y0)):=by kernel_rfl
theorem qg.u5.ok (k:Nat) (x0 x1:Sl) (x2 x3 x4:Int) (K:KF α) :
  eC k qg.u5.c (fr46 x0 x1 x2 x3 x4) K =
   qg.u5.f k x0 x1 x2 x3 x4 (fun y0 y1 y2=>K .normal (fr45 y0 y1 y2)) (fun y0=>K .ret (fr18 y0)):=by kernel_rfl
theorem qg.u6.ok (k:Nat) (x0 x1:Sl) (x2:Int) (K:KF α) :
  eC k qg.u6.c (fr45 x0 x1 x2) K =
   qg.u6.f k x0 x1 x2 (fun y0 y1 y2=>K .normal (fr45 y0 y1 y2)) (fun y0=>K .ret (fr18 y0)):=
 (qg.u4.ok k x0 x1 x2 qg.u5.c K).trans
  (congrArg (fun z=>qg.u4.f k x0 x1 x2 z (fun y0=>K .ret (fr18 y0))) (funext fun y0=>(funext fun y1=>(funext fun y2=>(funext fun y3=>(funext fun y4=>qg.u5.ok k y0 y1 y2 y3 y4 K))))))
theorem qg.u7.ok (k:Nat) (x0 x1:Sl) (x2:Int) (K:KF α) :
  eC k qg.u7.c (fr45 x0 x1 x2) K =
   qg.u7.f k x0 x1 x2 (fun y0 y1 y2=>K .normal (fr45 y0 y1 y2)) (fun y0=>K .ret (fr18 y0)):=
 (zx.trans (qg.u6.ok k x0 x1 x2 (js 1 K))).trans (by kernel_rfl)
theorem qg.u8.ok (k:Nat) (x0 x1:Sl) (x2:Int) (K:KF α) :
  eC k qg.u8.c (fr45 x0 x1 x2) K =
   qg.u8.f k x0 x1 x2 (fun y0 y1 y2=>K .normal (fr45 y0 y1 y2)):=by kernel_rfl
theorem qg.u9.ok (k:Nat) (x0 x1:Sl) (x2:Int) (K:KF α) :
  eC k qg.u9.c (fr45 x0 x1 x2) K =
   qg.u9.f k x0 x1 x2 (fun y0 y1 y2=>K .normal (fr45 y0 y1 y2)) (fun y0=>K .ret (fr18 y0)):=
 by
  have h:=qg.u7.ok k x0 x1 x2 (seqK (fun ρ=>eC k qg.u8.c ρ K) K)
  simp only [ze, zh, zm, zn, qg.u8.ok] at h
  exact zt h
theorem qg.u10.ok (k:Nat) (x0 x1:Sl) (x2:Int) (K:KF α) :
  eC k qg.u10.c (fr45 x0 x1 x2) K =
   qg.u10.f k x0 x1 x2 (fun y0 y1 y2=>K .normal (fr45 y0 y1 y2)) (fun y0=>K .ret (fr18 y0)) (fun y0=>K (.exit 0) (fr35 y0)):=
 (qg.u3.ok k x0 x1 x2 qg.u9.c K).trans
  (congrArg (fun z=>qg.u3.f k x0 x1 x2 z (fun y0=>K (.exit 0) (fr35 y0))) (funext fun y0=>(funext fun y1=>(funext fun y2=>qg.u9.ok k y0 y1 y2 K))))
theorem qg.u11.ls (k:Nat) (kr:Bool->M α) (kx0:Sl->M α) (j:Nat) (x0 x1:Sl) (x2:Int):qg.u11.l k kr kx0 (j + 1) x0 x1 x2 =
 qg.u10.f k x0 x1 x2 (fun y0 y1 y2=>qg.u11.l k kr kx0 j y0 y1 y2) kr kx0:=rfl
theorem qg.u11.okl (k:Nat) (K:KF α):∀ (j:Nat) (x0 x1:Sl) (x2:Int),
  zy (eC k qg.u10.c) [0, 3, 4] j (fr45 x0 x1 x2) K = qg.u11.l k (fun y0=>K .ret (fr18 y0)) (fun y0=>K (.exit 0) (fr35 y0)) j x0 x1 x2
 | 0, _, _, _=>rfl
 | j + 1, x0, x1, x2=>by
   have h:=qg.u10.ok k x0 x1 x2 (seqK (fun ρ=>zy (eC k qg.u10.c) [0, 3, 4] j ρ K) K)
   simp only [zh, zm, zn, ze, qg.u11.okl k K j] at h
   exact (zz (by kernel_rfl) h).trans (qg.u11.ls k (fun y0=>K .ret (fr18 y0)) (fun y0=>K (.exit 0) (fr35 y0)) j x0 x1 x2).symm
theorem qg.u11.ok (k:Nat) (x0 x1:Sl) (x2:Int) (K:KF α) :
  eC k qg.u11.c (fr45 x0 x1 x2) K =
   qg.u11.f k x0 x1 x2 (fun y0=>K .ret (fr18 y0)) (fun y0=>K (.exit 0) (fr35 y0)):=
 jr.trans <| (ja (body:=eC k qg.u10.c) (keep:=[0, 3, 4]) (ρ:=(fr45 x0 x1 x2)) (ρ':=(fr45 x0 x1 x2)) (by kernel_rfl) k K).trans (qg.u11.okl k K k x0 x1 x2)
theorem qg.u12.ok (k:Nat) (x0 x1:Sl) (x2:Int) (K:KF α) :
  eC k qg.u12.c (fr45 x0 x1 x2) K =
   qg.u12.f k x0 x1 x2 (fun y0=>K .normal (fr35 y0)) (fun y0=>K .ret (fr18 y0)):=
 (zx.trans (qg.u11.ok k x0 x1 x2 (js 0 K))).trans (by kernel_rfl)
theorem qg.u13.ok (k:Nat) (x0 x1:Sl) (K:KF α) :
  eC k qg.u13.c (fr33 x0 x1) K =
   qg.u13.f k x0 x1 (fun y0=>K .normal (fr35 y0)) (fun y0=>K .ret (fr18 y0)):=
 (qg.u2.ok k x0 x1 qg.u12.c K).trans
  (congrArg (fun z=>qg.u2.f k x0 x1 z) (funext fun y0=>(funext fun y1=>(funext fun y2=>qg.u12.ok k y0 y1 y2 K))))
theorem qg.u14.ok (k:Nat) (x0:Sl) (K:KF α) :
  eC k qg.u14.c (fr35 x0) K =
   qg.u14.f k x0 (fun y0=>K .ret (fr18 y0)):=by kernel_rfl
theorem qg.u15.ok (k:Nat) (x0 x1:Sl) (K:KF α) :
  eC k qg.u15.c (fr33 x0 x1) K =
   qg.u15.f k x0 x1 (fun y0=>K .ret (fr18 y0)):=
 by
  have h:=qg.u13.ok k x0 x1 (seqK (fun ρ=>eC k qg.u14.c ρ K) K)
  simp only [ze, zh, zm, zn, qg.u14.ok] at h
  exact zt h
theorem qg.u16.ok (k:Nat) (x0:Sl) (K:KF α) :
  eC k qg.u16.c (fr25 x0) K =
   qg.u16.f k x0 (fun y0=>K .ret (fr18 y0)):=
 (qg.u1.ok k x0 qg.u15.c K).trans
  (congrArg (fun z=>qg.u1.f k x0 z (fun y0=>K .ret (fr18 y0))) (funext fun y0=>(funext fun y1=>qg.u15.ok k y0 y1 K)))
theorem qg.ok (k:Nat) (x0:Sl) (κ:Res->M α) :
  evF T (env k) k qg.c qg.res [.slice x0] κ = qg.f (k + 1) x0 (fun o0=>κ (.ret (.bool o0))):=
 (qg.u16.ok k x0 (retK T qg.res κ)).trans (by kernel_rfl)
theorem qg.code:qg.c.code = zr Try.f56:=by kernel_rfl
noncomputable def qh.c:IC:=qh.u15.c
noncomputable def qh.res:List ResultVar:=[(.tmp 2)]
theorem qh.u1.ok (k:Nat) (x0:Sl) (R:IC) (K:KF α) :
  eC k (qh.u1.c R) (fr25 x0) K =
   qh.u1.f k x0 (fun y0 y1=>eC k R (fr33 y0 y1) K):=by kernel_rfl
theorem qh.u2.ok (k:Nat) (x0 x1:Sl) (R:IC) (K:KF α) :
  eC k (qh.u2.c R) (fr33 x0 x1) K =
   qh.u2.f k x0 x1 (fun y0 y1 y2=>eC k R (fr45 y0 y1 y2) K):=by kernel_rfl
theorem qh.u3.ok (k:Nat) (x0 x1:Sl) (x2:Int) (K:KF α) :
  eC k qh.u3.c (fr45 x0 x1 x2) K =
   qh.u3.f k x0 x1 x2 (fun y0 y1 y2=>K .normal (fr45 y0 y1 y2)) (fun y0 y1=>K (.exit 0) (fr33 y0 y1)):=by kernel_rfl
theorem qh.u4.ls (k:Nat) (kx0:Sl->Sl->M α) (j:Nat) (x0 x1:Sl) (x2:Int):qh.u4.l k kx0 (j + 1) x0 x1 x2 =
 qh.u3.f k x0 x1 x2 (fun y0 y1 y2=>qh.u4.l k kx0 j y0 y1 y2) kx0:=rfl
theorem qh.u4.okl (k:Nat) (K:KF α):∀ (j:Nat) (x0 x1:Sl) (x2:Int),
  zy (eC k qh.u3.c) [0, 3, 4] j (fr45 x0 x1 x2) K = qh.u4.l k (fun y0 y1=>K (.exit 0) (fr33 y0 y1)) j x0 x1 x2
 | 0, _, _, _=>rfl
 | j + 1, x0, x1, x2=>by
   have h:=qh.u3.ok k x0 x1 x2 (seqK (fun ρ=>zy (eC k qh.u3.c) [0, 3, 4] j ρ K) K)
   simp only [zh, zm, zn, ze, qh.u4.okl k K j] at h
   exact (zz (by kernel_rfl) h).trans (qh.u4.ls k (fun y0 y1=>K (.exit 0) (fr33 y0 y1)) j x0 x1 x2).symm
theorem qh.u4.ok (k:Nat) (x0 x1:Sl) (x2:Int) (K:KF α) :
  eC k qh.u4.c (fr45 x0 x1 x2) K =
   qh.u4.f k x0 x1 x2 (fun y0 y1=>K (.exit 0) (fr33 y0 y1)):=
 jr.trans <| (ja (body:=eC k qh.u3.c) (keep:=[0, 3, 4]) (ρ:=(fr45 x0 x1 x2)) (ρ':=(fr45 x0 x1 x2)) (by kernel_rfl) k K).trans (qh.u4.okl k K k x0 x1 x2)
theorem qh.u5.ok (k:Nat) (x0 x1:Sl) (x2:Int) (K:KF α) :
  eC k qh.u5.c (fr45 x0 x1 x2) K =
   qh.u5.f k x0 x1 x2 (fun y0 y1=>K .normal (fr33 y0 y1)):=
 (zx.trans (qh.u4.ok k x0 x1 x2 (js 0 K))).trans (by kernel_rfl)
theorem qh.u6.ok (k:Nat) (x0 x1:Sl) (K:KF α) :
  eC k qh.u6.c (fr33 x0 x1) K =
   qh.u6.f k x0 x1 (fun y0 y1=>K .normal (fr33 y0 y1)):=
 (qh.u2.ok k x0 x1 qh.u5.c K).trans
  (congrArg (fun z=>qh.u2.f k x0 x1 z) (funext fun y0=>(funext fun y1=>(funext fun y2=>qh.u5.ok k y0 y1 y2 K))))
theorem qh.u7.ok (k:Nat) (x0 x1:Sl) (R:IC) (K:KF α) :
  eC k (qh.u7.c R) (fr33 x0 x1) K =
   qh.u7.f k x0 x1 (fun y0 y1 y2=>eC k R (fr47 y0 y1 y2) K):=by kernel_rfl
theorem qh.u8.ok (k:Nat) (x0 x1:Sl) (x2:Int) (K:KF α) :
  eC k qh.u8.c (fr47 x0 x1 x2) K =
   qh.u8.f k x0 x1 x2 (fun y0 y1 y2=>K .normal (fr47 y0 y1 y2)) (fun y0=>K (.exit 2) (fr35 y0)):=by kernel_rfl
theorem qh.u9.ls (k:Nat) (kx2:Sl->M α) (j:Nat) (x0 x1:Sl) (x2:Int):qh.u9.l k kx2 (j + 1) x0 x1 x2 =
 qh.u8.f k x0 x1 x2 (fun y0 y1 y2=>qh.u9.l k kx2 j y0 y1 y2) kx2:=rfl
theorem qh.u9.okl (k:Nat) (K:KF α):∀ (j:Nat) (x0 x1:Sl) (x2:Int),
  zy (eC k qh.u8.c) [0, 3, 5] j (fr47 x0 x1 x2) K = qh.u9.l k (fun y0=>K (.exit 2) (fr35 y0)) j x0 x1 x2
 | 0, _, _, _=>rfl
 | j + 1, x0, x1, x2=>by
   have h:=qh.u8.ok k x0 x1 x2 (seqK (fun ρ=>zy (eC k qh.u8.c) [0, 3, 5] j ρ K) K)
   simp only [zh, zm, zn, ze, qh.u9.okl k K j] at h
   exact (zz (by kernel_rfl) h).trans (qh.u9.ls k (fun y0=>K (.exit 2) (fr35 y0)) j x0 x1 x2).symm
theorem qh.u9.ok (k:Nat) (x0 x1:Sl) (x2:Int) (K:KF α) :
  eC k qh.u9.c (fr47 x0 x1 x2) K =
   qh.u9.f k x0 x1 x2 (fun y0=>K (.exit 2) (fr35 y0)):=
 jr.trans <| (ja (body:=eC k qh.u8.c) (keep:=[0, 3, 5]) (ρ:=(fr47 x0 x1 x2)) (ρ':=(fr47 x0 x1 x2)) (by kernel_rfl) k K).trans (qh.u9.okl k K k x0 x1 x2)
theorem qh.u10.ok (k:Nat) (x0 x1:Sl) (x2:Int) (K:KF α) :
  eC k qh.u10.c (fr47 x0 x1 x2) K =
   qh.u10.f k x0 x1 x2 (fun y0=>K .normal (fr35 y0)):=
 (zx.trans (qh.u9.ok k x0 x1 x2 (js 2 K))).trans (by kernel_rfl)
theorem qh.u11.ok (k:Nat) (x0 x1:Sl) (K:KF α) :
  eC k qh.u11.c (fr33 x0 x1) K =
   qh.u11.f k x0 x1 (fun y0=>K .normal (fr35 y0)):=
 (qh.u7.ok k x0 x1 qh.u10.c K).trans
  (congrArg (fun z=>qh.u7.f k x0 x1 z) (funext fun y0=>(funext fun y1=>(funext fun y2=>qh.u10.ok k y0 y1 y2 K))))
theorem qh.u12.ok (k:Nat) (x0:Sl) (K:KF α) :
  eC k qh.u12.c (fr35 x0) K =
   qh.u12.f k x0 (fun y0=>K .ret (fr26 y0)):=by kernel_rfl
theorem qh.u13.ok (k:Nat) (x0 x1:Sl) (K:KF α) :
  eC k qh.u13.c (fr33 x0 x1) K =
   qh.u13.f k x0 x1 (fun y0=>K .ret (fr26 y0)):=
 by
  have h:=qh.u11.ok k x0 x1 (seqK (fun ρ=>eC k qh.u12.c ρ K) K)
  simp only [ze, zh, zm, zn, qh.u12.ok] at h
  exact zt h
theorem qh.u14.ok (k:Nat) (x0 x1:Sl) (K:KF α) :
  eC k qh.u14.c (fr33 x0 x1) K =
   qh.u14.f k x0 x1 (fun y0=>K .ret (fr26 y0)):=
 by
  have h:=qh.u6.ok k x0 x1 (seqK (fun ρ=>eC k qh.u13.c ρ K) K)
  simp only [ze, zh, zm, zn, qh.u13.ok] at h
  exact zt h
theorem qh.u15.ok (k:Nat) (x0:Sl) (K:KF α) :
  eC k qh.u15.c (fr25 x0) K =
   qh.u15.f k x0 (fun y0=>K .ret (fr26 y0)):=
 (qh.u1.ok k x0 qh.u14.c K).trans
  (congrArg (fun z=>qh.u1.f k x0 z) (funext fun y0=>(funext fun y1=>qh.u14.ok k y0 y1 K)))
theorem qh.ok (k:Nat) (x0:Sl) (κ:Res->M α) :
  evF T (env k) k qh.c qh.res [.slice x0] κ = qh.f (k + 1) x0 (fun o0=>κ (.ret (.slice o0))):=
 (qh.u15.ok k x0 (retK T qh.res κ)).trans (by kernel_rfl)
theorem qh.code:qh.c.code = zr Try.f57:=by kernel_rfl
noncomputable def qau.c:IC:=qau.u1.c
noncomputable def qau.res:List ResultVar:=[(.tmp 2)]
theorem qau.u1.ok (k:Nat) (x0 x1 x2:Int) (x3:TX) (x4:Int) (K:KF α) :
  eC k qau.u1.c (za [(0, .agg [.int .i64 x0, .int .i64 x1, .int .i64 x2, .str x3, .int .i64 x4])]) K =
   qau.u1.f k x0 x1 x2 x3 x4 (fun y0=>K .ret (fr18 y0)):=by kernel_rfl
theorem qau.ok (k:Nat) (x0 x1 x2:Int) (x3:TX) (x4:Int) (κ:Res->M α) :
  evF T (env k) k qau.c qau.res [.agg [.int .i64 x0, .int .i64 x1, .int .i64 x2, .str x3, .int .i64 x4]] κ = qau.f (k + 1) x0 x1 x2 x3 x4 (fun o0=>κ (.ret (.bool o0))):=
 (qau.u1.ok k x0 x1 x2 x3 x4 (retK T qau.res κ)).trans (by kernel_rfl)
theorem qau.code:qau.c.code = zr Try.f60:=by kernel_rfl
noncomputable def qi.c:IC:=qi.u16.c
noncomputable def qi.res:List ResultVar:=[(.tmp 2)]
theorem qi.u1.ok (k:Nat) (x0:Sl) (R:IC) (K:KF α) :
  eC k (qi.u1.c R) (fr25 x0) K =
   qi.u1.f k x0 (fun y0 y1=>eC k R (fr33 y0 y1) K):=by kernel_rfl
theorem qi.u2.ok (k:Nat) (x0 x1:Sl) (R:IC) (K:KF α) :
  eC k (qi.u2.c R) (fr33 x0 x1) K =
   qi.u2.f k x0 x1 (fun y0 y1 y2=>eC k R (fr45 y0 y1 y2) K):=by kernel_rfl
theorem qi.u3.ok (k:Nat) (x0 x1:Sl) (x2:Int) (R:IC) (K:KF α) :
  eC k (qi.u3.c R) (fr45 x0 x1 x2) K =
   qi.u3.f k x0 x1 x2 (fun y0 y1 y2=>eC k R (fr45 y0 y1 y2) K) (fun y0=>K (.exit 0) (fr35 y0)):=by kernel_rfl
theorem qi.u4.ok (k:Nat) (x0 x1:Sl) (x2:Int) (R:IC) (K:KF α) :
  eC k (qi.u4.c R) (fr45 x0 x1 x2) K =
   qi.u4.f k x0 x1 x2 (fun y0 y1 y2 y3=>eC k R (fr48 y0 y1 y2 y3) K):=by kernel_rfl
theorem qi.u5.ok (k:Nat) (x0 x1:Sl) (x2 x3:Int) (K:KF α) :
  eC k qi.u5.c (fr48 x0 x1 x2 x3) K =
   qi.u5.f k x0 x1 x2 x3 (fun y0 y1 y2=>K .normal (fr45 y0 y1 y2)):=by kernel_rfl
theorem qi.u6.ok (k:Nat) (x0 x1:Sl) (x2:Int) (K:KF α) :
  eC k qi.u6.c (fr45 x0 x1 x2) K =
   qi.u6.f k x0 x1 x2 (fun y0 y1 y2=>K .normal (fr45 y0 y1 y2)):=
 (qi.u4.ok k x0 x1 x2 qi.u5.c K).trans
  (congrArg (fun z=>qi.u4.f k x0 x1 x2 z) (funext fun y0=>(funext fun y1=>(funext fun y2=>(funext fun y3=>qi.u5.ok k y0 y1 y2 y3 K)))))
theorem qi.u7.ok (k:Nat) (x0 x1:Sl) (x2:Int) (K:KF α) :
  eC k qi.u7.c (fr45 x0 x1 x2) K =
   qi.u7.f k x0 x1 x2 (fun y0 y1 y2=>K .normal (fr45 y0 y1 y2)):=
 (zx.trans (qi.u6.ok k x0 x1 x2 (js 1 K))).trans (by kernel_rfl)
theorem qi.u8.ok (k:Nat) (x0 x1:Sl) (x2:Int) (K:KF α) :
  eC k qi.u8.c (fr45 x0 x1 x2) K =
   qi.u8.f k x0 x1 x2 (fun y0 y1 y2=>K .normal (fr45 y0 y1 y2)):=by kernel_rfl
theorem qi.u9.ok (k:Nat) (x0 x1:Sl) (x2:Int) (K:KF α) :
  eC k qi.u9.c (fr45 x0 x1 x2) K =
   qi.u9.f k x0 x1 x2 (fun y0 y1 y2=>K .normal (fr45 y0 y1 y2)):=
 by
  have h:=qi.u7.ok k x0 x1 x2 (seqK (fun ρ=>eC k qi.u8.c ρ K) K)
  simp only [ze, zh, zm, zn, qi.u8.ok] at h
  exact zt h
theorem qi.u10.ok (k:Nat) (x0 x1:Sl) (x2:Int) (K:KF α) :
  eC k qi.u10.c (fr45 x0 x1 x2) K =
   qi.u10.f k x0 x1 x2 (fun y0 y1 y2=>K .normal (fr45 y0 y1 y2)) (fun y0=>K (.exit 0) (fr35 y0)):=
 (qi.u3.ok k x0 x1 x2 qi.u9.c K).trans
  (congrArg (fun z=>qi.u3.f k x0 x1 x2 z (fun y0=>K (.exit 0) (fr35 y0))) (funext fun y0=>(funext fun y1=>(funext fun y2=>qi.u9.ok k y0 y1 y2 K))))
theorem qi.u11.ls (k:Nat) (kx0:Sl->M α) (j:Nat) (x0 x1:Sl) (x2:Int):qi.u11.l k kx0 (j + 1) x0 x1 x2 =
 qi.u10.f k x0 x1 x2 (fun y0 y1 y2=>qi.u11.l k kx0 j y0 y1 y2) kx0:=rfl
theorem qi.u11.okl (k:Nat) (K:KF α):∀ (j:Nat) (x0 x1:Sl) (x2:Int),
  zy (eC k qi.u10.c) [0, 3, 4] j (fr45 x0 x1 x2) K = qi.u11.l k (fun y0=>K (.exit 0) (fr35 y0)) j x0 x1 x2
 | 0, _, _, _=>rfl
 | j + 1, x0, x1, x2=>by
   have h:=qi.u10.ok k x0 x1 x2 (seqK (fun ρ=>zy (eC k qi.u10.c) [0, 3, 4] j ρ K) K)
   simp only [zh, zm, zn, ze, qi.u11.okl k K j] at h
   exact (zz (by kernel_rfl) h).trans (qi.u11.ls k (fun y0=>K (.exit 0) (fr35 y0)) j x0 x1 x2).symm
theorem qi.u11.ok (k:Nat) (x0 x1:Sl) (x2:Int) (K:KF α) :
  eC k qi.u11.c (fr45 x0 x1 x2) K =
   qi.u11.f k x0 x1 x2 (fun y0=>K (.exit 0) (fr35 y0)):=
 jr.trans <| (ja (body:=eC k qi.u10.c) (keep:=[0, 3, 4]) (ρ:=(fr45 x0 x1 x2)) (ρ':=(fr45 x0 x1 x2)) (by kernel_rfl) k K).trans (qi.u11.okl k K k x0 x1 x2)
theorem qi.u12.ok (k:Nat) (x0 x1:Sl) (x2:Int) (K:KF α) :
  eC k qi.u12.c (fr45 x0 x1 x2) K =
   qi.u12.f k x0 x1 x2 (fun y0=>K .normal (fr35 y0)):=
 (zx.trans (qi.u11.ok k x0 x1 x2 (js 0 K))).trans (by kernel_rfl)
theorem qi.u13.ok (k:Nat) (x0 x1:Sl) (K:KF α) :
  eC k qi.u13.c (fr33 x0 x1) K =
   qi.u13.f k x0 x1 (fun y0=>K .normal (fr35 y0)):=
 (qi.u2.ok k x0 x1 qi.u12.c K).trans
  (congrArg (fun z=>qi.u2.f k x0 x1 z) (funext fun y0=>(funext fun y1=>(funext fun y2=>qi.u12.ok k y0 y1 y2 K))))
theorem qi.u14.ok (k:Nat) (x0:Sl) (K:KF α) :
  eC k qi.u14.c (fr35 x0) K =
   qi.u14.f k x0 (fun y0=>K .ret (fr26 y0)):=by kernel_rfl
theorem qi.u15.ok (k:Nat) (x0 x1:Sl) (K:KF α) :
  eC k qi.u15.c (fr33 x0 x1) K =
   qi.u15.f k x0 x1 (fun y0=>K .ret (fr26 y0)):=
 by
  have h:=qi.u13.ok k x0 x1 (seqK (fun ρ=>eC k qi.u14.c ρ K) K)
  simp only [ze, zh, zm, zn, qi.u14.ok] at h
  exact zt h
theorem qi.u16.ok (k:Nat) (x0:Sl) (K:KF α) :
  eC k qi.u16.c (fr25 x0) K =
   qi.u16.f k x0 (fun y0=>K .ret (fr26 y0)):=
 (qi.u1.ok k x0 qi.u15.c K).trans
  (congrArg (fun z=>qi.u1.f k x0 z) (funext fun y0=>(funext fun y1=>qi.u15.ok k y0 y1 K)))
theorem qi.ok (k:Nat) (x0:Sl) (κ:Res->M α) :
  evF T (env k) k qi.c qi.res [.slice x0] κ = qi.f (k + 1) x0 (fun o0=>κ (.ret (.slice o0))):=
 (qi.u16.ok k x0 (retK T qi.res κ)).trans (by kernel_rfl)
theorem qi.code:qi.c.code = zr Try.f58:=by kernel_rfl
noncomputable def qt.c:IC:=qt.u9.c
noncomputable def qt.res:List ResultVar:=[(.tmp 6), (.tmp 7)]
theorem qt.u1.ok (k:Nat) (x0 x1:Sl) (x2:Int) (R:IC) (K:KF α) :
  eC k (qt.u1.c R) (fr49 x0 x1 x2) K =
   qt.u1.f k x0 x1 x2 (fun y0 y1 y2 y3=>eC k R (fr50 y0 y1 y2 y3) K):=by kernel_rfl
theorem qt.u2.ok (k:Nat) (x0 x1:Sl) (x2 x3:Int) (R:IC) (K:KF α) :
  eC k (qt.u2.c R) (fr50 x0 x1 x2 x3) K =
   qt.u2.f k x0 x1 x2 x3 (fun y0 y1 y2 y3 y4=>eC k R (fr51 y0 y1 y2 y3 y4) K):=by kernel_rfl
theorem qt.u3.ok (k:Nat) (x0 x1:Sl) (x2 x3 x4:Int) (K:KF α) :
  eC k qt.u3.c (fr51 x0 x1 x2 x3 x4) K =
   qt.u3.f k x0 x1 x2 x3 x4 (fun y0 y1 y2 y3 y4=>K .normal (fr51 y0 y1 y2 y3 y4)) (fun y0 y1=>K .ret (fr52 y0 y1)) (K (.exit 0) (za [])):=by kernel_rfl
theorem qt.u4.ls (k:Nat) (kr:Int->Int->M α) (kx0:M α) (j:Nat) (x0 x1:Sl) (x2 x3 x4:Int):qt.u4.l k kr kx0 (j + 1) x0 x1 x2 x3 x4 =
 qt.u3.f k x0 x1 x2 x3 x4 (fun y0 y1 y2 y3 y4=>qt.u4.l k kr kx0 j y0 y1 y2 y3 y4) kr kx0:=rfl
theorem qt.u4.okl (k:Nat) (K:KF α):∀ (j:Nat) (x0 x1:Sl) (x2 x3 x4:Int),
  zy (eC k qt.u3.c) [0, 1, 2, 8, 9] j (fr51 x0 x1 x2 x3 x4) K = qt.u4.l k (fun y0 y1=>K .ret (fr52 y0 y1)) (K (.exit 0) (za [])) j x0 x1 x2 x3 x4
 | 0, _, _, _, _, _=>rfl
 | j + 1, x0, x1, x2, x3, x4=>by
   have h:=qt.u3.ok k x0 x1 x2 x3 x4 (seqK (fun ρ=>zy (eC k qt.u3.c) [0, 1, 2, 8, 9] j ρ K) K)
   simp only [zh, zm, zn, ze, qt.u4.okl k K j] at h
   exact (zz (by kernel_rfl) h).trans (qt.u4.ls k (fun y0 y1=>K .ret (fr52 y0 y1)) (K (.exit 0) (za [])) j x0 x1 x2 x3 x4).symm
theorem qt.u4.ok (k:Nat) (x0 x1:Sl) (x2 x3 x4:Int) (K:KF α) :
  eC k qt.u4.c (fr51 x0 x1 x2 x3 x4) K =
   qt.u4.f k x0 x1 x2 x3 x4 (fun y0 y1=>K .ret (fr52 y0 y1)) (K (.exit 0) (za [])):=
 jr.trans <| (ja (body:=eC k qt.u3.c) (keep:=[0, 1, 2, 8, 9]) (ρ:=(fr51 x0 x1 x2 x3 x4)) (ρ':=(fr51 x0 x1 x2 x3 x4)) (by kernel_rfl) k K).trans (qt.u4.okl k K k x0 x1 x2 x3 x4)
theorem qt.u5.ok (k:Nat) (x0 x1:Sl) (x2 x3 x4:Int) (K:KF α) :
  eC k qt.u5.c (fr51 x0 x1 x2 x3 x4) K =
   qt.u5.f k x0 x1 x2 x3 x4 (K .normal (za [])) (fun y0 y1=>K .ret (fr52 y0 y1)):=
 (zx.trans (qt.u4.ok k x0 x1 x2 x3 x4 (js 0 K))).trans (by kernel_rfl)
theorem qt.u6.ok (k:Nat) (x0 x1:Sl) (x2 x3:Int) (K:KF α) :
  eC k qt.u6.c (fr50 x0 x1 x2 x3) K =
   qt.u6.f k x0 x1 x2 x3 (K .normal (za [])) (fun y0 y1=>K .ret (fr52 y0 y1)):=
 (qt.u2.ok k x0 x1 x2 x3 qt.u5.c K).trans
  (congrArg (fun z=>qt.u2.f k x0 x1 x2 x3 z) (funext fun y0=>(funext fun y1=>(funext fun y2=>(funext fun y3=>(funext fun y4=>qt.u5.ok k y0 y1 y2 y3 y4 K))))))
theorem qt.u7.ok (k:Nat) (K:KF α) :
  eC k qt.u7.c (za []) K =
   qt.u7.f k (fun y0 y1=>K .ret (fr52 y0 y1)):=by kernel_rfl
theorem qt.u8.ok (k:Nat) (x0 x1:Sl) (x2 x3:Int) (K:KF α) :
  eC k qt.u8.c (fr50 x0 x1 x2 x3) K =
   qt.u8.f k x0 x1 x2 x3 (fun y0 y1=>K .ret (fr52 y0 y1)):=
 by
  have h:=qt.u6.ok k x0 x1 x2 x3 (seqK (fun ρ=>eC k qt.u7.c ρ K) K)
  simp only [ze, zh, zm, zn, qt.u7.ok] at h
  exact zt h
theorem qt.u9.ok (k:Nat) (x0 x1:Sl) (x2:Int) (K:KF α) :
  eC k qt.u9.c (fr49 x0 x1 x2) K =
   qt.u9.f k x0 x1 x2 (fun y0 y1=>K .ret (fr52 y0 y1)):=
 (qt.u1.ok k x0 x1 x2 qt.u8.c K).trans
  (congrArg (fun z=>qt.u1.f k x0 x1 x2 z) (funext fun y0=>(funext fun y1=>(funext fun y2=>(funext fun y3=>qt.u8.ok k y0 y1 y2 y3 K)))))
theorem qt.ok (k:Nat) (x0 x1:Sl) (x2:Int) (κ:Res->M α) :
  evF T (env k) k qt.c qt.res [.slice x0, .slice x1, .int .i64 x2] κ = qt.f (k + 1) x0 x1 x2 (fun o0 o1=>κ (.ret (.tuple [.int .i64 o0, .int .i64 o1]))):=
 (qt.u9.ok k x0 x1 x2 (retK T qt.res κ)).trans (by kernel_rfl)
theorem qt.code:qt.c.code = zr Try.f59:=by kernel_rfl
noncomputable def qc.c:IC:=qc.u24.c
noncomputable def qc.res:List ResultVar:=[(.tmp 2), (.tmp 3)]
theorem qc.u1.ok (k:Nat) (x0:Sl) (R:IC) (K:KF α) :
  eC k (qc.u1.c R) (fr25 x0) K =
   qc.u1.f k x0 (fun y0 y1 y2=>eC k R (fr53 y0 y1 y2) K) (fun y0 y1=>K .ret (fr36 y0 y1)):=by kernel_rfl
theorem qc.u2.ok (k:Nat) (x0 x1 x2:Sl) (R:IC) (K:KF α) :
  eC k (qc.u2.c R) (fr53 x0 x1 x2) K =
   qc.u2.f k x0 x1 x2 (fun y0 y1 y2 y3=>eC k R (fr54 y0 y1 y2 y3) K):=by kernel_rfl
theorem qc.u3.ok (k:Nat) (x0 x1 x2:Sl) (x3:Int) (R:IC) (K:KF α) :
  eC k (qc.u3.c R) (fr54 x0 x1 x2 x3) K =
   qc.u3.f k x0 x1 x2 x3 (fun y0 y1 y2 y3=>eC k R (fr54 y0 y1 y2 y3) K) (K (.exit 0) (za [])):=by kernel_rfl
theorem qc.u4.ok (k:Nat) (x0 x1 x2:Sl) (x3:Int) (R:IC) (K:KF α) :
  eC k (qc.u4.c R) (fr54 x0 x1 x2 x3) K =
   qc.u4.f k x0 x1 x2 x3 (fun y0 y1 y2 y3=>eC k R (fr54 y0 y1 y2 y3) K) (fun y0 y1=>K .ret (fr36 y0 y1)):=by kernel_rfl
theorem qc.u5.ok (k:Nat) (x0 x1 x2:Sl) (x3:Int) (R:IC) (K:KF α) :
  eC k (qc.u5.c R) (fr54 x0 x1 x2 x3) K =
   qc.u5.f k x0 x1 x2 x3 (fun y0 y1 y2 y3=>eC k R (fr54 y0 y1 y2 y3) K) (fun y0 y1 y2 y3=>K (.exit 1) (fr54 y0 y1 y2 y3)):=by kernel_rfl
theorem qc.u6.ok (k:Nat) (x0 x1 x2:Sl) (x3:Int) (R:IC) (K:KF α) :
  eC k (qc.u6.c R) (fr54 x0 x1 x2 x3) K =
   qc.u6.f k x0 x1 x2 x3 (fun y0 y1 y2 y3 y4=>eC k R (fr55 y0 y1 y2 y3 y4) K):=by kernel_rfl
theorem qc.u7.ok (k:Nat) (x0 x1 x2:Sl) (x3 x4:Int) (K:KF α) :
  eC k qc.u7.c (fr55 x0 x1 x2 x3 x4) K =
   qc.u7.f k x0 x1 x2 x3 x4 (fun y0 y1 y2 y3 y4=>K .normal (fr55 y0 y1 y2 y3 y4)) (fun y0 y1=>K .ret (fr36 y0 y1)) (fun y0 y1 y2 y3=>K (.exit 2) (fr54 y0 y1 y2 y3)):=by kernel_rfl
theorem qc.u8.ls (k:Nat) (kr:Int->Int->M α) (kx2:Sl->Sl->Sl->Int->M α) (j:Nat) (x0 x1 x2:Sl) (x3 x4:Int):qc.u8.l k kr kx2 (j + 1) x0 x1 x2 x3 x4 =
 qc.u7.f k x0 x1 x2 x3 x4 (fun y0 y1 y2 y3 y4=>qc.u8.l k kr kx2 j y0 y1 y2 y3 y4) kr kx2:=rfl
theorem qc.u8.okl (k:Nat) (K:KF α):∀ (j:Nat) (x0 x1 x2:Sl) (x3 x4:Int),
  zy (eC k qc.u7.c) [0, 5, 6, 7, 11] j (fr55 x0 x1 x2 x3 x4) K = qc.u8.l k (fun y0 y1=>K .ret (fr36 y0 y1)) (fun y0 y1 y2 y3=>K (.exit 2) (fr54 y0 y1 y2 y3)) j x0 x1 x2 x3 x4
 | 0, _, _, _, _, _=>rfl
 | j + 1, x0, x1, x2, x3, x4=>by
   have h:=qc.u7.ok k x0 x1 x2 x3 x4 (seqK (fun ρ=>zy (eC k qc.u7.c) [0, 5, 6, 7, 11] j ρ K) K)
   simp only [zh, zm, zn, ze, qc.u8.okl k K j] at h
   exact (zz (by kernel_rfl) h).trans (qc.u8.ls k (fun y0 y1=>K .ret (fr36 y0 y1)) (fun y0 y1 y2 y3=>K (.exit 2) (fr54 y0 y1 y2 y3)) j x0 x1 x2 x3 x4).symm
theorem qc.u8.ok (k:Nat) (x0 x1 x2:Sl) (x3 x4:Int) (K:KF α) :
  eC k qc.u8.c (fr55 x0 x1 x2 x3 x4) K =
   qc.u8.f k x0 x1 x2 x3 x4 (fun y0 y1=>K .ret (fr36 y0 y1)) (fun y0 y1 y2 y3=>K (.exit 2) (fr54 y0 y1 y2 y3)):=
 jr.trans <| (ja (body:=eC k qc.u7.c) (keep:=[0, 5, 6, 7, 11]) (ρ:=(fr55 x0 x1 x2 x3 x4)) (ρ':=(fr55 x0 x1 x2 x3 x4)) (by kernel_rfl) k K).trans (qc.u8.okl k K k x0 x1 x2 x3 x4)
theorem qc.u9.ok (k:Nat) (x0 x1 x2:Sl) (x3 x4:Int) (K:KF α) :
  eC k qc.u9.c (fr55 x0 x1 x2 x3 x4) K =
   qc.u9.f k x0 x1 x2 x3 x4 (fun y0 y1 y2 y3=>K .normal (fr54 y0 y1 y2 y3)) (fun y0 y1=>K .ret (fr36 y0 y1)):=
 (zx.trans (qc.u8.ok k x0 x1 x2 x3 x4 (js 2 K))).trans (by kernel_rfl)
theorem qc.u10.ok (k:Nat) (x0 x1 x2:Sl) (x3:Int) (K:KF α) :
  eC k qc.u10.c (fr54 x0 x1 x2 x3) K =
   qc.u10.f k x0 x1 x2 x3 (fun y0 y1 y2 y3=>K .normal (fr54 y0 y1 y2 y3)) (fun y0 y1=>K .ret (fr36 y0 y1)):=
 (qc.u6.ok k x0 x1 x2 x3 qc.u9.c K).trans
  (congrArg (fun z=>qc.u6.f k x0 x1 x2 x3 z) (funext fun y0=>(funext fun y1=>(funext fun y2=>(funext fun y3=>(funext fun y4=>qc.u9.ok k y0 y1 y2 y3 y4 K))))))
theorem qc.u11.ok (k:Nat) (x0 x1 x2:Sl) (x3:Int) (K:KF α) :
  eC k qc.u11.c (fr54 x0 x1 x2 x3) K =
   qc.u11.f k x0 x1 x2 x3 (fun y0 y1 y2 y3=>K .normal (fr54 y0 y1 y2 y3)) (fun y0 y1=>K .ret (fr36 y0 y1)):=by kernel_rfl
theorem qc.u12.ok (k:Nat) (x0 x1 x2:Sl) (x3:Int) (K:KF α) :
  eC k qc.u12.c (fr54 x0 x1 x2 x3) K =
   qc.u12.f k x0 x1 x2 x3 (fun y0 y1 y2 y3=>K .normal (fr54 y0 y1 y2 y3)) (fun y0 y1=>K .ret (fr36 y0 y1)):=
 by
  have h:=qc.u10.ok k x0 x1 x2 x3 (seqK (fun ρ=>eC k qc.u11.c ρ K) K)
  simp only [ze, zh, zm, zn, qc.u11.ok] at h
  exact zt h
theorem qc.u13.ok (k:Nat) (x0 x1 x2:Sl) (x3:Int) (K:KF α) :
  eC k qc.u13.c (fr54 x0 x1 x2 x3) K =
   qc.u13.f k x0 x1 x2 x3 (fun y0 y1 y2 y3=>K .normal (fr54 y0 y1 y2 y3)) (fun y0 y1=>K .ret (fr36 y0 y1)) (fun y0 y1 y2 y3=>K (.exit 1) (fr54 y0 y1 y2 y3)):=
 (qc.u5.ok k x0 x1 x2 x3 qc.u12.c K).trans
  (congrArg (fun z=>qc.u5.f k x0 x1 x2 x3 z (fun y0 y1 y2 y3=>K (.exit 1) (fr54 y0 y1 y2 y3))) (funext fun y0=>(funext fun y1=>(funext fun y2=>(funext fun y3=>qc.u12.ok k y0 y1 y2 y3 K)))))
theorem qc.u14.ok (k:Nat) (x0 x1 x2:Sl) (x3:Int) (K:KF α) :
  eC k qc.u14.c (fr54 x0 x1 x2 x3) K =
   qc.u14.f k x0 x1 x2 x3 (fun y0 y1 y2 y3=>K .normal (fr54 y0 y1 y2 y3)) (fun y0 y1=>K .ret (fr36 y0 y1)) (fun y0 y1 y2 y3=>K (.exit 1) (fr54 y0 y1 y2 y3)):=
 (qc.u4.ok k x0 x1 x2 x3 qc.u13.c K).trans
  (congrArg (fun z=>qc.u4.f k x0 x1 x2 x3 z (fun y0 y1=>K .ret (fr36 y0 y1))) (funext fun y0=>(funext fun y1=>(funext fun y2=>(funext fun y3=>qc.u13.ok k y0 y1 y2 y3 K)))))
theorem qc.u15.ok (k:Nat) (x0 x1 x2:Sl) (x3:Int) (K:KF α) :
  eC k qc.u15.c (fr54 x0 x1 x2 x3) K =
   qc.u15.f k x0 x1 x2 x3 (fun y0 y1 y2 y3=>K .normal (fr54 y0 y1 y2 y3)) (fun y0 y1=>K .ret (fr36 y0 y1)):=
 (zx.trans (qc.u14.ok k x0 x1 x2 x3 (js 1 K))).trans (by kernel_rfl)
theorem qc.u16.ok (k:Nat) (x0 x1 x2:Sl) (x3:Int) (K:KF α) :
  eC k qc.u16.c (fr54 x0 x1 x2 x3) K =
   qc.u16.f k x0 x1 x2 x3 (fun y0 y1 y2 y3=>K .normal (fr54 y0 y1 y2 y3)):=by kernel_rfl
theorem qc.u17.ok (k:Nat) (x0 x1 x2:Sl) (x3:Int) (K:KF α) :
  eC k qc.u17.c (fr54 x0 x1 x2 x3) K =
   qc.u17.f k x0 x1 x2 x3 (fun y0 y1 y2 y3=>K .normal (fr54 y0 y1 y2 y3)) (fun y0 y1=>K .ret (fr36 y0 y1)):=
 by
  have h:=qc.u15.ok k x0 x1 x2 x3 (seqK (fun ρ=>eC k qc.u16.c ρ K) K)
  simp only [ze, zh, zm, zn, qc.u16.ok] at h
  exact zt h
theorem qc.u18.ok (k:Nat) (x0 x1 x2:Sl) (x3:Int) (K:KF α) :
  eC k qc.u18.c (fr54 x0 x1 x2 x3) K =
   qc.u18.f k x0 x1 x2 x3 (fun y0 y1 y2 y3=>K .normal (fr54 y0 y1 y2 y3)) (fun y0 y1=>K .ret (fr36 y0 y1)) (K (.exit 0) (za [])):=
 (qc.u3.ok k x0 x1 x2 x3 qc.u17.c K).trans
  (congrArg (fun z=>qc.u3.f k x0 x1 x2 x3 z (K (.exit 0) (za []))) (funext fun y0=>(funext fun y1=>(funext fun y2=>(funext fun y3=>qc.u17.ok k y0 y1 y2 y3 K)))))
theorem qc.u19.ls (k:Nat) (kr:Int->Int->M α) (kx0:M α) (j:Nat) (x0 x1 x2:Sl) (x3:Int):qc.u19.l k kr kx0 (j + 1) x0 x1 x2 x3 =
 qc.u18.f k x0 x1 x2 x3 (fun y0 y1 y2 y3=>qc.u19.l k kr kx0 j y0 y1 y2 y3) kr kx0:=rfl
theorem qc.u19.okl (k:Nat) (K:KF α):∀ (j:Nat) (x0 x1 x2:Sl) (x3:Int),
  zy (eC k qc.u18.c) [0, 5, 6, 7] j (fr54 x0 x1 x2 x3) K = qc.u19.l k (fun y0 y1=>K .ret (fr36 y0 y1)) (K (.exit 0) (za [])) j x0 x1 x2 x3
 | 0, _, _, _, _=>rfl
 | j + 1, x0, x1, x2, x3=>by
   have h:=qc.u18.ok k x0 x1 x2 x3 (seqK (fun ρ=>zy (eC k qc.u18.c) [0, 5, 6, 7] j ρ K) K)
   simp only [zh, zm, zn, ze, qc.u19.okl k K j] at h
   exact (zz (by kernel_rfl) h).trans (qc.u19.ls k (fun y0 y1=>K .ret (fr36 y0 y1)) (K (.exit 0) (za [])) j x0 x1 x2 x3).symm
theorem qc.u19.ok (k:Nat) (x0 x1 x2:Sl) (x3:Int) (K:KF α) :
  eC k qc.u19.c (fr54 x0 x1 x2 x3) K =
   qc.u19.f k x0 x1 x2 x3 (fun y0 y1=>K .ret (fr36 y0 y1)) (K (.exit 0) (za [])):=
 jr.trans <| (ja (body:=eC k qc.u18.c) (keep:=[0, 5, 6, 7]) (ρ:=(fr54 x0 x1 x2 x3)) (ρ':=(fr54 x0 x1 x2 x3)) (by kernel_rfl) k K).trans (qc.u19.okl k K k x0 x1 x2 x3)
theorem qc.u20.ok (k:Nat) (x0 x1 x2:Sl) (x3:Int) (K:KF α) :
  eC k qc.u20.c (fr54 x0 x1 x2 x3) K =
   qc.u20.f k x0 x1 x2 x3 (K .normal (za [])) (fun y0 y1=>K .ret (fr36 y0 y1)):=
 (zx.trans (qc.u19.ok k x0 x1 x2 x3 (js 0 K))).trans (by kernel_rfl)
theorem qc.u21.ok (k:Nat) (x0 x1 x2:Sl) (K:KF α) :
  eC k qc.u21.c (fr53 x0 x1 x2) K =
   qc.u21.f k x0 x1 x2 (K .normal (za [])) (fun y0 y1=>K .ret (fr36 y0 y1)):=
 (qc.u2.ok k x0 x1 x2 qc.u20.c K).trans
  (congrArg (fun z=>qc.u2.f k x0 x1 x2 z) (funext fun y0=>(funext fun y1=>(funext fun y2=>(funext fun y3=>qc.u20.ok k y0 y1 y2 y3 K)))))
theorem qc.u22.ok (k:Nat) (K:KF α) :
  eC k qc.u22.c (za []) K =
   qc.u22.f k (fun y0 y1=>K .ret (fr36 y0 y1)):=by kernel_rfl
theorem qc.u23.ok (k:Nat) (x0 x1 x2:Sl) (K:KF α) :
  eC k qc.u23.c (fr53 x0 x1 x2) K =
   qc.u23.f k x0 x1 x2 (fun y0 y1=>K .ret (fr36 y0 y1)):=
 by
  have h:=qc.u21.ok k x0 x1 x2 (seqK (fun ρ=>eC k qc.u22.c ρ K) K)
  simp only [ze, zh, zm, zn, qc.u22.ok] at h
  exact zt h
theorem qc.u24.ok (k:Nat) (x0:Sl) (K:KF α) :
  eC k qc.u24.c (fr25 x0) K =
   qc.u24.f k x0 (fun y0 y1=>K .ret (fr36 y0 y1)):=
 (qc.u1.ok k x0 qc.u23.c K).trans
  (congrArg (fun z=>qc.u1.f k x0 z (fun y0 y1=>K .ret (fr36 y0 y1))) (funext fun y0=>(funext fun y1=>(funext fun y2=>qc.u23.ok k y0 y1 y2 K))))
theorem qc.ok (k:Nat) (x0:Sl) (κ:Res->M α) :
  evF T (env k) k qc.c qc.res [.slice x0] κ = qc.f (k + 1) x0 (fun o0 o1=>κ (.ret (.tuple [.int .i64 o0, .int .i64 o1]))):=
 (qc.u24.ok k x0 (retK T qc.res κ)).trans (by kernel_rfl)
theorem qc.code:qc.c.code = zr Try.f41:=by kernel_rfl
noncomputable def qal.c:IC:=qal.u1.c
noncomputable def qal.res:List ResultVar:=[(.tmp 2)]
theorem qal.u1.ok (k:Nat) (x0:Sl) (K:KF α) :
  eC k qal.u1.c (fr25 x0) K =
   qal.u1.f k x0 (fun y0=>K .ret (fr18 y0)):=by kernel_rfl
theorem qal.ok (k:Nat) (x0:Sl) (κ:Res->M α) :
  evF T (env k) k qal.c qal.res [.slice x0] κ = qal.f (k + 1) x0 (fun o0=>κ (.ret (.bool o0))):=
 (qal.u1.ok k x0 (retK T qal.res κ)).trans (by kernel_rfl)
theorem qal.code:qal.c.code = zr Try.f23:=by kernel_rfl
noncomputable def qbk.c:IC:=qbk.u1.c
noncomputable def qbk.res:List ResultVar:=[(.tmp 2)]
theorem qbk.u1.ok (k:Nat) (x0:Int) (K:KF α) :
  eC k qbk.u1.c (fr30 x0) K =
   qbk.u1.f k x0 (fun y0=>K .ret (fr3 y0)):=by kernel_rfl
theorem qbk.ok (k:Nat) (x0:Int) (κ:Res->M α) :
  evF T (env k) k qbk.c qbk.res [.int .i64 x0] κ = qbk.f (k + 1) x0 (fun o0=>κ (.ret (.int .i64 o0))):=
 (qbk.u1.ok k x0 (retK T qbk.res κ)).trans (by kernel_rfl)
theorem qbk.code:qbk.c.code = zr Try.f43:=by kernel_rfl
noncomputable def qag.c:IC:=qag.u3.c
noncomputable def qag.res:List ResultVar:=[(.tmp 8)]
theorem qag.u1.ok (k:Nat) (x0:Sl) (x1:Int) (x2:Bool) (x3:Sl) (R:IC) (K:KF α) :
  eC k (qag.u1.c R) (fr56 x0 x1 x2 x3) K =
   qag.u1.f k (qag.f k) x0 x1 x2 x3 (fun y0 y1 y2 y3=>eC k R (za [(0, .slice y0), (2, .bool y1), (3, .slice y2), (9, .ptr (some y3))]) K) (fun y0=>K .ret (fr57 y0)):=by kernel_rfl
theorem qag.u2.ok (k:Nat) (x0:Sl) (x1:Bool) (x2:Sl) (x3:Ad) (K:KF α) :
  eC k qag.u2.c (za [(0, .slice x0), (2, .bool x1), (3, .slice x2), (9, .ptr (some x3))]) K =
   qag.u2.f k (qag.f k) x0 x1 x2 x3 (fun y0=>K .ret (fr57 y0)):=by kernel_rfl
theorem qag.u3.ok (k:Nat) (x0:Sl) (x1:Int) (x2:Bool) (x3:Sl) (K:KF α) :
  eC k qag.u3.c (fr56 x0 x1 x2 x3) K =
   qag.u3.f k (qag.f k) x0 x1 x2 x3 (fun y0=>K .ret (fr57 y0)):=
 (qag.u1.ok k x0 x1 x2 x3 qag.u2.c K).trans
  (congrArg (fun z=>qag.u1.f k (qag.f k) x0 x1 x2 x3 z (fun y0=>K .ret (fr57 y0))) (funext fun y0=>(funext fun y1=>(funext fun y2=>(funext fun y3=>qag.u2.ok k y0 y1 y2 y3 K)))))
theorem qag.ok (k:Nat) (x0:Sl) (x1:Int) (x2:Bool) (x3:Sl) (κ:Res->M α) :
  evF T (env k) k qag.c qag.res [.slice x0, .int .i64 x1, .bool x2, .slice x3] κ = qag.f (k + 1) x0 x1 x2 x3 (fun o0=>κ (.ret (.slice o0))):=
 (qag.u3.ok k x0 x1 x2 x3 (retK T qag.res κ)).trans (by kernel_rfl)
theorem qag.code:qag.c.code = zr Try.f24:=by kernel_rfl
noncomputable def qas.c:IC:=qas.u1.c
noncomputable def qas.res:List ResultVar:=[(.tmp 2)]
theorem qas.u1.ok (k:Nat) (x0:Sl) (K:KF α) :
  eC k qas.u1.c (fr25 x0) K =
   qas.u1.f k x0 (fun y0=>K .ret (fr26 y0)):=by kernel_rfl
theorem qas.ok (k:Nat) (x0:Sl) (κ:Res->M α) :
  evF T (env k) k qas.c qas.res [.slice x0] κ = qas.f (k + 1) x0 (fun o0=>κ (.ret (.slice o0))):=
 (qas.u1.ok k x0 (retK T qas.res κ)).trans (by kernel_rfl)
theorem qas.code:qas.c.code = zr Try.f13:=by kernel_rfl
noncomputable def qar.c:IC:=qar.u1.c
noncomputable def qar.res:List ResultVar:=[(.tmp 2)]
theorem qar.u1.ok (k:Nat) (x0:Sl) (K:KF α) :
  eC k qar.u1.c (fr25 x0) K =
   qar.u1.f k x0 (fun y0=>K .ret (fr26 y0)):=by kernel_rfl
theorem qar.ok (k:Nat) (x0:Sl) (κ:Res->M α) :
  evF T (env k) k qar.c qar.res [.slice x0] κ = qar.f (k + 1) x0 (fun o0=>κ (.ret (.slice o0))):=
 (qar.u1.ok k x0 (retK T qar.res κ)).trans (by kernel_rfl)
theorem qar.code:qar.c.code = zr Try.f14:=by kernel_rfl
noncomputable def qw.c:IC:=qw.u9.c
noncomputable def qw.res:List ResultVar:=[(.tmp 2)]
theorem qw.u1.ok (k:Nat) (x0:Sl) (R:IC) (K:KF α) :
  eC k (qw.u1.c R) (fr25 x0) K =
   qw.u1.f k x0 (fun y0=>eC k R (fr25 y0) K):=by kernel_rfl
theorem qw.u2.ok (k:Nat) (x0:Sl) (R:IC) (K:KF α) :
  eC k (qw.u2.c R) (fr25 x0) K =
   qw.u2.f k x0 (fun y0 y1=>eC k R (fr58 y0 y1) K):=by kernel_rfl
theorem qw.u3.ok (k:Nat) (x0:Sl) (x1:Int) (K:KF α) :
  eC k qw.u3.c (fr58 x0 x1) K =
   qw.u3.f k x0 x1 (fun y0 y1=>K .normal (fr58 y0 y1)) (fun y0=>K .ret (fr18 y0)) (fun y0=>K (.exit 0) (fr25 y0)):=by kernel_rfl
theorem qw.u4.ls (k:Nat) (kr:Bool->M α) (kx0:Sl->M α) (j:Nat) (x0:Sl) (x1:Int):qw.u4.l k kr kx0 (j + 1) x0 x1 =
 qw.u3.f k x0 x1 (fun y0 y1=>qw.u4.l k kr kx0 j y0 y1) kr kx0:=rfl
theorem qw.u4.okl (k:Nat) (K:KF α):∀ (j:Nat) (x0:Sl) (x1:Int),
  zy (eC k qw.u3.c) [0, 3] j (fr58 x0 x1) K = qw.u4.l k (fun y0=>K .ret (fr18 y0)) (fun y0=>K (.exit 0) (fr25 y0)) j x0 x1
 | 0, _, _=>rfl
 | j + 1, x0, x1=>by
   have h:=qw.u3.ok k x0 x1 (seqK (fun ρ=>zy (eC k qw.u3.c) [0, 3] j ρ K) K)
   simp only [zh, zm, zn, ze, qw.u4.okl k K j] at h
   exact (zz (by kernel_rfl) h).trans (qw.u4.ls k (fun y0=>K .ret (fr18 y0)) (fun y0=>K (.exit 0) (fr25 y0)) j x0 x1).symm
theorem qw.u4.ok (k:Nat) (x0:Sl) (x1:Int) (K:KF α) :
  eC k qw.u4.c (fr58 x0 x1) K =
   qw.u4.f k x0 x1 (fun y0=>K .ret (fr18 y0)) (fun y0=>K (.exit 0) (fr25 y0)):=
 jr.trans <| (ja (body:=eC k qw.u3.c) (keep:=[0, 3]) (ρ:=(fr58 x0 x1)) (ρ':=(fr58 x0 x1)) (by kernel_rfl) k K).trans (qw.u4.okl k K k x0 x1)
theorem qw.u5.ok (k:Nat) (x0:Sl) (x1:Int) (K:KF α) :
  eC k qw.u5.c (fr58 x0 x1) K =
   qw.u5.f k x0 x1 (fun y0=>K .normal (fr25 y0)) (fun y0=>K .ret (fr18 y0)):=
 (zx.trans (qw.u4.ok k x0 x1 (js 0 K))).trans (by kernel_rfl)
theorem qw.u6.ok (k:Nat) (x0:Sl) (K:KF α) :
  eC k qw.u6.c (fr25 x0) K =
   qw.u6.f k x0 (fun y0=>K .normal (fr25 y0)) (fun y0=>K .ret (fr18 y0)):=
 (qw.u2.ok k x0 qw.u5.c K).trans
  (congrArg (fun z=>qw.u2.f k x0 z) (funext fun y0=>(funext fun y1=>qw.u5.ok k y0 y1 K)))
theorem qw.u7.ok (k:Nat) (x0:Sl) (K:KF α) :
  eC k qw.u7.c (fr25 x0) K =
   qw.u7.f k x0 (fun y0=>K .ret (fr18 y0)):=by kernel_rfl
theorem qw.u8.ok (k:Nat) (x0:Sl) (K:KF α) :
  eC k qw.u8.c (fr25 x0) K =
   qw.u8.f k x0 (fun y0=>K .ret (fr18 y0)):=
 by
  have h:=qw.u6.ok k x0 (seqK (fun ρ=>eC k qw.u7.c ρ K) K)
  simp only [ze, zh, zm, zn, qw.u7.ok] at h
  exact zt h
theorem qw.u9.ok (k:Nat) (x0:Sl) (K:KF α) :
  eC k qw.u9.c (fr25 x0) K =
   qw.u9.f k x0 (fun y0=>K .ret (fr18 y0)):=
 (qw.u1.ok k x0 qw.u8.c K).trans
  (congrArg (fun z=>qw.u1.f k x0 z) (funext fun y0=>qw.u8.ok k y0 K))
theorem qw.ok (k:Nat) (x0:Sl) (κ:Res->M α) :
  evF T (env k) k qw.c qw.res [.slice x0] κ = qw.f (k + 1) x0 (fun o0=>κ (.ret (.bool o0))):=
 (qw.u9.ok k x0 (retK T qw.res κ)).trans (by kernel_rfl)
theorem qw.code:qw.c.code = zr Try.f16:=by kernel_rfl
noncomputable def qac.c:IC:=qac.u5.c
noncomputable def qac.res:List ResultVar:=[]
theorem qac.u1.ok (k:Nat) (x0:Sl) (R:IC) (K:KF α) :
  eC k (qac.u1.c R) (fr25 x0) K =
   qac.u1.f k x0 (fun y0 y1=>eC k R (fr59 y0 y1) K):=by kernel_rfl
theorem qac.u2.ok (k:Nat) (x0:Sl) (x1:Int) (K:KF α) :
  eC k qac.u2.c (fr59 x0 x1) K =
   qac.u2.f k x0 x1 (fun y0 y1=>K .normal (fr59 y0 y1)) (K (.exit 0) (za [])):=by kernel_rfl
theorem qac.u3.ls (k:Nat) (kx0:M α) (j:Nat) (x0:Sl) (x1:Int):qac.u3.l k kx0 (j + 1) x0 x1 =
 qac.u2.f k x0 x1 (fun y0 y1=>qac.u3.l k kx0 j y0 y1) kx0:=rfl
theorem qac.u3.okl (k:Nat) (K:KF α):∀ (j:Nat) (x0:Sl) (x1:Int),
  zy (eC k qac.u2.c) [0, 2] j (fr59 x0 x1) K = qac.u3.l k (K (.exit 0) (za [])) j x0 x1
 | 0, _, _=>rfl
 | j + 1, x0, x1=>by
   have h:=qac.u2.ok k x0 x1 (seqK (fun ρ=>zy (eC k qac.u2.c) [0, 2] j ρ K) K)
   simp only [zh, zm, zn, ze, qac.u3.okl k K j] at h
   exact (zz (by kernel_rfl) h).trans (qac.u3.ls k (K (.exit 0) (za [])) j x0 x1).symm
theorem qac.u3.ok (k:Nat) (x0:Sl) (x1:Int) (K:KF α) :
  eC k qac.u3.c (fr59 x0 x1) K =
   qac.u3.f k x0 x1 (K (.exit 0) (za [])):=
 jr.trans <| (ja (body:=eC k qac.u2.c) (keep:=[0, 2]) (ρ:=(fr59 x0 x1)) (ρ':=(fr59 x0 x1)) (by kernel_rfl) k K).trans (qac.u3.okl k K k x0 x1)
theorem qac.u4.ok (k:Nat) (x0:Sl) (x1:Int) (K:KF α) :
  eC k qac.u4.c (fr59 x0 x1) K =
   qac.u4.f k x0 x1 (K .normal (za [])):=
 (zx.trans (qac.u3.ok k x0 x1 (js 0 K))).trans (by kernel_rfl)
theorem qac.u5.ok (k:Nat) (x0:Sl) (K:KF α) :
  eC k qac.u5.c (fr25 x0) K =
   qac.u5.f k x0 (K .normal (za [])):=
 (qac.u1.ok k x0 qac.u4.c K).trans
  (congrArg (fun z=>qac.u1.f k x0 z) (funext fun y0=>(funext fun y1=>qac.u4.ok k y0 y1 K)))
theorem qac.ok (k:Nat) (x0:Sl) (κ:Res->M α) :
  evF T (env k) k qac.c qac.res [.slice x0] κ = qac.f (k + 1) x0 (κ (.ret (.tuple []))):=
 (qac.u5.ok k x0 (retK T qac.res κ)).trans (by kernel_rfl)
theorem qac.code:qac.c.code = zr Try.f17:=by kernel_rfl
noncomputable def qbg.c:IC:=qbg.u1.c
noncomputable def qbg.res:List ResultVar:=[(.tmp 4)]
theorem qbg.u1.ok (k:Nat) (x0 x1:Sl) (K:KF α) :
  eC k qbg.u1.c (fr31 x0 x1) K =
   qbg.u1.f k x0 x1 (fun y0=>K .ret (fr21 y0)):=by kernel_rfl
theorem qbg.ok (k:Nat) (x0 x1:Sl) (κ:Res->M α) :
  evF T (env k) k qbg.c qbg.res [.slice x0, .slice x1] κ = qbg.f (k + 1) x0 x1 (fun o0=>κ (.ret (.bool o0))):=
 (qbg.u1.ok k x0 x1 (retK T qbg.res κ)).trans (by kernel_rfl)
theorem qbg.code:qbg.c.code = zr Try.f18:=by kernel_rfl
noncomputable def qq.c:IC:=qq.u9.c
noncomputable def qq.res:List ResultVar:=[(.tmp 2)]
theorem qq.u1.ok (k:Nat) (x0:Sl) (R:IC) (K:KF α) :
  eC k (qq.u1.c R) (fr25 x0) K =
   qq.u1.f k x0 (fun y0 y1 y2=>eC k R (fr60 y0 y1 y2) K):=by kernel_rfl
theorem qq.u2.ok (k:Nat) (x0:Sl) (x1:Bool) (x2:Sl) (R:IC) (K:KF α) :
  eC k (qq.u2.c R) (fr60 x0 x1 x2) K =
   qq.u2.f k x0 x1 x2 (fun y0 y1 y2 y3=>eC k R (fr61 y0 y1 y2 y3) K):=by kernel_rfl
theorem qq.u3.ok (k:Nat) (x0:Sl) (x1:Bool) (x2:Sl) (x3:Int) (K:KF α) :
  eC k qq.u3.c (fr61 x0 x1 x2 x3) K =
   qq.u3.f k x0 x1 x2 x3 (fun y0 y1 y2 y3=>K .normal (fr61 y0 y1 y2 y3)) (fun y0=>K .ret (fr18 y0)) (fun y0 y1=>K (.exit 0) (fr62 y0 y1)):=by kernel_rfl
theorem qq.u4.ls (k:Nat) (kr:Bool->M α) (kx0:Sl->Sl->M α) (j:Nat) (x0:Sl) (x1:Bool) (x2:Sl) (x3:Int):qq.u4.l k kr kx0 (j + 1) x0 x1 x2 x3 =
 qq.u3.f k x0 x1 x2 x3 (fun y0 y1 y2 y3=>qq.u4.l k kr kx0 j y0 y1 y2 y3) kr kx0:=rfl
theorem qq.u4.okl (k:Nat) (K:KF α):∀ (j:Nat) (x0:Sl) (x1:Bool) (x2:Sl) (x3:Int),
  zy (eC k qq.u3.c) [0, 3, 4, 5] j (fr61 x0 x1 x2 x3) K = qq.u4.l k (fun y0=>K .ret (fr18 y0)) (fun y0 y1=>K (.exit 0) (fr62 y0 y1)) j x0 x1 x2 x3
 | 0, _, _, _, _=>rfl
 | j + 1, x0, x1, x2, x3=>by
   have h:=qq.u3.ok k x0 x1 x2 x3 (seqK (fun ρ=>zy (eC k qq.u3.c) [0, 3, 4, 5] j ρ K) K)
   simp only [zh, zm, zn, ze, qq.u4.okl k K j] at h
   exact (zz (by kernel_rfl) h).trans (qq.u4.ls k (fun y0=>K .ret (fr18 y0)) (fun y0 y1=>K (.exit 0) (fr62 y0 y1)) j x0 x1 x2 x3).symm
theorem qq.u4.ok (k:Nat) (x0:Sl) (x1:Bool) (x2:Sl) (x3:Int) (K:KF α) :
  eC k qq.u4.c (fr61 x0 x1 x2 x3) K =
   qq.u4.f k x0 x1 x2 x3 (fun y0=>K .ret (fr18 y0)) (fun y0 y1=>K (.exit 0) (fr62 y0 y1)):=
 jr.trans <| (ja (body:=eC k qq.u3.c) (keep:=[0, 3, 4, 5]) (ρ:=(fr61 x0 x1 x2 x3)) (ρ':=(fr61 x0 x1 x2 x3)) (by kernel_rfl) k K).trans (qq.u4.okl k K k x0 x1 x2 x3)
theorem qq.u5.ok (k:Nat) (x0:Sl) (x1:Bool) (x2:Sl) (x3:Int) (K:KF α) :
  eC k qq.u5.c (fr61 x0 x1 x2 x3) K =
   qq.u5.f k x0 x1 x2 x3 (fun y0 y1=>K .normal (fr62 y0 y1)) (fun y0=>K .ret (fr18 y0)):=
 (zx.trans (qq.u4.ok k x0 x1 x2 x3 (js 0 K))).trans (by kernel_rfl)
theorem qq.u6.ok (k:Nat) (x0:Sl) (x1:Bool) (x2:Sl) (K:KF α) :
  eC k qq.u6.c (fr60 x0 x1 x2) K =
   qq.u6.f k x0 x1 x2 (fun y0 y1=>K .normal (fr62 y0 y1)) (fun y0=>K .ret (fr18 y0)):=
 (qq.u2.ok k x0 x1 x2 qq.u5.c K).trans
  (congrArg (fun z=>qq.u2.f k x0 x1 x2 z) (funext fun y0=>(funext fun y1=>(funext fun y2=>(funext fun y3=>qq.u5.ok k y0 y1 y2 y3 K)))))
theorem qq.u7.ok (k:Nat) (x0 x1:Sl) (K:KF α) :
  eC k qq.u7.c (fr62 x0 x1) K =
   qq.u7.f k x0 x1 (fun y0=>K .ret (fr18 y0)):=by kernel_rfl
theorem qq.u8.ok (k:Nat) (x0:Sl) (x1:Bool) (x2:Sl) (K:KF α) :
  eC k qq.u8.c (fr60 x0 x1 x2) K =
   qq.u8.f k x0 x1 x2 (fun y0=>K .ret (fr18 y0)):=
 by
  have h:=qq.u6.ok k x0 x1 x2 (seqK (fun ρ=>eC k qq.u7.c ρ K) K)
  simp only [ze, zh, zm, zn, qq.u7.ok] at h
  exact zt h
theorem qq.u9.ok (k:Nat) (x0:Sl) (K:KF α) :
  eC k qq.u9.c (fr25 x0) K =
   qq.u9.f k x0 (fun y0=>K .ret (fr18 y0)):=
 (qq.u1.ok k x0 qq.u8.c K).trans
  (congrArg (fun z=>qq.u1.f k x0 z) (funext fun y0=>(funext fun y1=>(funext fun y2=>qq.u8.ok k y0 y1 y2 K))))
theorem qq.ok (k:Nat) (x0:Sl) (κ:Res->M α) :
  evF T (env k) k qq.c qq.res [.slice x0] κ = qq.f (k + 1) x0 (fun o0=>κ (.ret (.bool o0))):=
 (qq.u9.ok k x0 (retK T qq.res κ)).trans (by kernel_rfl)
theorem qq.code:qq.c.code = zr Try.f4:=by kernel_rfl
end
end Go.Ab.S7
