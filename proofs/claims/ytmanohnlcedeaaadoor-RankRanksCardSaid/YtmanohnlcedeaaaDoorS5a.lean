import Derived.Test.YtmanohnlcedeaaaDoorS5a1
import Derived.Test.YtmanohnlcedeaaaDoorAb20
import Derived.Shelf.Strings.Builder1
import Derived.Test.YtmanohnlcedeaaaDoorProg
import Derived.KernelRfl
import Derived.Lib.TrailingZeros
set_option linter.unusedVariables false
set_option linter.unusedSimpArgs false
namespace Go.Ab.S5
abbrev fr41 (x0 x1:Sl) (x2 x3:Sl):Frame:=za [(0, .slice x0), (3, .slice x1), (4, .slice x2), (5, .slice x3)]
abbrev fr42 (x0 x1:Sl) (x2 x3:Sl) (x4 x5:Int):Frame:=za [(3, .slice x0), (4, .slice x1), (5, .slice x2), (22, .slice x3), (23, .int .i64 x4), (24, .int .i64 x5)]
abbrev fr43 (x0 x1 x2:Sl) (x3 x4:Int) (x5:Sl) (x6 x7:Int):Frame:=za [(3, .slice x0), (4, .slice x1), (5, .slice x2), (6, .int .i64 x3), (8, .int .i64 x4), (22, .slice x5), (23, .int .i64 x6), (24, .int .i64 x7)]
abbrev fr44 (x0 x1 x2:Sl) (x3 x4:Int) (x5:Sl) (x6 x7:Int):Frame:=za [(3, .slice x0), (4, .slice x1), (5, .slice x2), (6, .int .i64 x3), (9, .int .u64 x4), (22, .slice x5), (23, .int .i64 x6), (24, .int .i64 x7)]
abbrev fr45 (x0:Bool):Frame:=za [(0, .bool x0)]
abbrev fr46 (x0:Sl) (x1:Int):Frame:=za [(3, .slice x0), (4, .int .i64 x1)]
abbrev fr47 (x0:TX) (x1:Int):Frame:=za [(0, .str x0), (3, .int .i64 x1)]
abbrev fr48 (x0 x1:Sl) (x2:Int):Frame:=za [(0, .slice x0), (3, .slice x1), (4, .int .i64 x2)]
abbrev fr49 (x0 x1:Sl) (x2 x3 x4:Int):Frame:=za [(0, .slice x0), (3, .slice x1), (4, .int .i64 x2), (5, .int .i64 x3), (7, .int .i64 x4)]
abbrev fr50 (x0 x1:Sl) (x2:Int):Frame:=za [(0, .slice x0), (3, .slice x1), (5, .int .i64 x2)]
abbrev fr51 (x0 x1:Sl) (x2 x3:Int):Frame:=za [(0, .slice x0), (3, .slice x1), (4, .int .i64 x2), (5, .int .i64 x3)]
abbrev fr52 (x0 x1:Sl) (x2:Int):Frame:=za [(0, .slice x0), (1, .slice x1), (2, .int .i64 x2)]
abbrev fr53 (x0 x1:Sl) (x2 x3:Int):Frame:=za [(0, .slice x0), (1, .slice x1), (2, .int .i64 x2), (8, .int .i64 x3)]
abbrev fr54 (x0 x1:Sl) (x2 x3 x4:Int):Frame:=za [(0, .slice x0), (1, .slice x1), (2, .int .i64 x2), (8, .int .i64 x3), (9, .int .i64 x4)]
abbrev fr55 (x0 x1:Int):Frame:=za [(6, .int .i64 x0), (7, .int .i64 x1)]
abbrev fr56 (x0 x1 x2:Sl):Frame:=za [(0, .slice x0), (5, .slice x1), (6, .slice x2)]
abbrev fr57 (x0 x1 x2:Sl) (x3:Int):Frame:=za [(0, .slice x0), (5, .slice x1), (6, .slice x2), (7, .int .i64 x3)]
abbrev fr58 (x0 x1 x2:Sl) (x3 x4:Int):Frame:=za [(0, .slice x0), (5, .slice x1), (6, .slice x2), (7, .int .i64 x3), (11, .int .i64 x4)]
abbrev fr59 (x0:Sl) (x1:Int):Frame:=za [(0, .slice x0), (3, .int .i64 x1)]
abbrev fr60 (x0 x1 x2:Sl):Frame:=za [(0, .slice x0), (4, .slice x1), (5, .slice x2)]
abbrev fr61 (x0 x1 x2:Sl) (x3:Int):Frame:=za [(0, .slice x0), (4, .slice x1), (5, .slice x2), (6, .int .i64 x3)]
abbrev fr62 (x0:Sl):Frame:=za [(5, .slice x0)]
abbrev fr63 (x0:Sl) (x1 x2:Int):Frame:=za [(0, .slice x0), (1, .int .i64 x1), (2, .int .i64 x2)]
abbrev fr64 (x0 x1:Sl) (x2 x3:Sl):Frame:=za [(0, .slice x0), (4, .slice x1), (5, .slice x2), (6, .slice x3)]
abbrev fr65 (x0 x1:Sl) (x2 x3:Sl) (x4:Int):Frame:=za [(0, .slice x0), (4, .slice x1), (5, .slice x2), (6, .slice x3), (7, .int .i64 x4)]
abbrev fr66 (x0:Sl):Frame:=za [(6, .slice x0)]
abbrev fr67 (x0 x1:Sl) (x2 x3:Sl) (x4 x5:Int):Frame:=za [(0, .slice x0), (4, .slice x1), (5, .slice x2), (6, .slice x3), (7, .int .i64 x4), (8, .int .u64 x5)]
abbrev fr68 (x0 x1:Sl) (x2 x3:Sl) (x4 x5 x6:Int):Frame:=za [(0, .slice x0), (4, .slice x1), (5, .slice x2), (6, .slice x3), (7, .int .i64 x4), (8, .int .u64 x5), (9, .int .i64 x6)]
abbrev fr69 (x0 x1:Sl) (x2 x3:Sl) (x4 x5:Int):Frame:=za [(0, .slice x0), (4, .slice x1), (5, .slice x2), (6, .slice x3), (7, .int .i64 x4), (9, .int .i64 x5)]
abbrev fr70 (x0 x1:Sl) (x2 x3:Sl) (x4 x5 x6:Int):Frame:=za [(0, .slice x0), (4, .slice x1), (5, .slice x2), (6, .slice x3), (7, .int .i64 x4), (9, .int .i64 x5), (10, .int .i64 x6)]
abbrev fr71 (x0 x1:Sl) (x2 x3:Sl) (x4 x5 x6:Int):Frame:=za [(0, .slice x0), (4, .slice x1), (5, .slice x2), (6, .slice x3), (7, .int .i64 x4), (9, .int .i64 x5), (12, .int .i64 x6)]
abbrev fr72 (x0:Sl) (x1:Bool) (x2 x3:Sl):Frame:=za [(0, .slice x0), (3, .bool x1), (4, .slice x2), (5, .slice x3)]
abbrev fr73 (x0:Sl) (x1:Bool) (x2 x3:Sl) (x4:Int):Frame:=za [(0, .slice x0), (3, .bool x1), (4, .slice x2), (5, .slice x3), (6, .int .i64 x4)]
abbrev fr74 (x0 x1:Sl):Frame:=za [(0, .slice x0), (5, .slice x1)]
abbrev fr75 (x0:Sl) (x1:Bool) (x2 x3:Sl) (x4:Int) (x5:Sl) (x6:Int):Frame:=za [(0, .slice x0), (3, .bool x1), (4, .slice x2), (5, .slice x3), (6, .int .i64 x4), (7, .slice x5), (8, .int .i64 x6)]
section
variable {α:Type}
open Go.Proofs
noncomputable def qg.c:IC:=qg.u22.c
noncomputable def qg.res:List ResultVar:=[(.tmp 2)]
theorem qg.u1.ok (k:Nat) (x0:Sl) (R:IC) (K:KF α) :
  eC k (qg.u1.c R) (fr25 x0) K =
   qg.u1.f k x0 (fun y0 y1 y2 y3=>eC k R (fr41 y0 y1 y2 y3) K):=by kernel_rfl
theorem qg.u2.ok (k:Nat) (x0 x1:Sl) (x2 x3:Sl) (R:IC) (K:KF α) :
  eC k (qg.u2.c R) (fr41 x0 x1 x2 x3) K =
   qg.u2.f k x0 x1 x2 x3 (fun y0 y1 y2 y3 y4 y5=>eC k R (fr42 y0 y1 y2 y3 y4 y5) K):=by kernel_rfl
theorem qg.u3.ok (k:Nat) (x0 x1:Sl) (x2 x3:Sl) (x4 x5:Int) (R:IC) (K:KF α) :
  eC k (qg.u3.c R) (fr42 x0 x1 x2 x3 x4 x5) K =
   qg.u3.f k x0 x1 x2 x3 x4 x5 (fun y0 y1 y2 y3 y4 y5=>eC k R (fr42 y0 y1 y2 y3 y4 y5) K) (fun y0=>K (.exit 0) (fr19 y0)):=by kernel_rfl
theorem qg.u4.ok (k:Nat) (x0 x1:Sl) (x2 x3:Sl) (x4 x5:Int) (R:IC) (K:KF α) :
  eC k (qg.u4.c R) (fr42 x0 x1 x2 x3 x4 x5) K =
   qg.u4.f k x0 x1 x2 x3 x4 x5 (fun y0 y1 y2 y3 y4 y5 y6 y7=>eC k R (za [(3, .slice y0), (4, .slice y1), (5, .slice y2), (6, .int .i64 y3), (7, .ptr (some y4)), (22, .slice y5), (23, .int .i64 y6), (24, .int .i64 y7)]) K) (fun y0 y1 y2 y3 y4 y5=>K (.exit 1) (fr42 y0 y1 y2 y3 y4 y5)):=by kernel_rfl
theorem qg.u5.ok (k:Nat) (x0 x1 x2:Sl) (x3:Int) (x4:Ad) (x5:Sl) (x6 x7:Int) (R:IC) (K:KF α) :
  eC k (qg.u5.c R) (za [(3, .slice x0), (4, .slice x1), (5, .slice x2), (6, .int .i64 x3), (7, .ptr (some x4)), (22, .slice x5), (23, .int .i64 x6), (24, .int .i64 x7)]) K =
   qg.u5.f k x0 x1 x2 x3 x4 x5 x6 x7 (fun y0 y1 y2 y3 y4 y5 y6 y7=>eC k R (fr43 y0 y1 y2 y3 y4 y5 y6 y7) K):=by kernel_rfl
theorem qg.u6.ok (k:Nat) (x0 x1 x2:Sl) (x3 x4:Int) (x5:Sl) (x6 x7:Int) (R:IC) (K:KF α) :
  eC k (qg.u6.c R) (fr43 x0 x1 x2 x3 x4 x5 x6 x7) K =
   qg.u6.f k x0 x1 x2 x3 x4 x5 x6 x7 (fun y0 y1 y2 y3 y4 y5 y6 y7=>eC k R (fr44 y0 y1 y2 y3 y4 y5 y6 y7) K):=by kernel_rfl
theorem qg.u7.ok (k:Nat) (x0 x1 x2:Sl) (x3 x4:Int) (x5:Sl) (x6 x7:Int) (K:KF α) :
  eC k qg.u7.c (fr44 x0 x1 x2 x3 x4 x5 x6 x7) K =
   qg.u7.f k x0 x1 x2 x3 x4 x5 x6 x7 (fun y0 y1 y2 y3 y4 y5 y6 y7=>K .normal (fr44 y0 y1 y2 y3 y4 y5 y6 y7)) (fun y0 y1 y2 y3 y4 y5=>K (.exit 2) (fr42 y0 y1 y2 y3 y4 y5)):=by kernel_rfl
theorem qg.u8.ls (k:Nat) (kx2:Sl->Sl->Sl->Sl->Int->Int->M α) (j:Nat) (x0 x1 x2:Sl) (x3 x4:Int) (x5:Sl) (x6 x7:Int):qg.u8.l k kx2 (j + 1) x0 x1 x2 x3 x4 x5 x6 x7 =
 qg.u7.f k x0 x1 x2 x3 x4 x5 x6 x7 (fun y0 y1 y2 y3 y4 y5 y6 y7=>qg.u8.l k kx2 j y0 y1 y2 y3 y4 y5 y6 y7) kx2:=rfl
theorem qg.u8.okl (k:Nat) (K:KF α):∀ (j:Nat) (x0 x1 x2:Sl) (x3 x4:Int) (x5:Sl) (x6 x7:Int),
  zr (eC k qg.u7.c) [3, 4, 5, 6, 9, 22, 23, 24] j (fr44 x0 x1 x2 x3 x4 x5 x6 x7) K = qg.u8.l k (fun y0 y1 y2 y3 y4 y5=>K (.exit 2) (fr42 y0 y1 y2 y3 y4 y5)) j x0 x1 x2 x3 x4 x5 x6 x7
 | 0, _, _, _, _, _, _, _, _=>rfl
 | j + 1, x0, x1, x2, x3, x4, x5, x6, x7=>by
   have h:=qg.u7.ok k x0 x1 x2 x3 x4 x5 x6 x7 (seqK (fun ρ=>zr (eC k qg.u7.c) [3, 4, 5, 6, 9, 22, 23, 24] j ρ K) K)
   simp only [zf, zh, zg, zd, qg.u8.okl k K j] at h
   exact (zo (by kernel_rfl) h).trans (qg.u8.ls k (fun y0 y1 y2 y3 y4 y5=>K (.exit 2) (fr42 y0 y1 y2 y3 y4 y5)) j x0 x1 x2 x3 x4 x5 x6 x7).symm
theorem qg.u8.ok (k:Nat) (x0 x1 x2:Sl) (x3 x4:Int) (x5:Sl) (x6 x7:Int) (K:KF α) :
  eC k qg.u8.c (fr44 x0 x1 x2 x3 x4 x5 x6 x7) K =
   qg.u8.f k x0 x1 x2 x3 x4 x5 x6 x7 (fun y0 y1 y2 y3 y4 y5=>K (.exit 2) (fr42 y0 y1 y2 y3 y4 y5)):=
 jd.trans <| (zp (body:=eC k qg.u7.c) (keep:=[3, 4, 5, 6, 9, 22, 23, 24]) (ρ:=(fr44 x0 x1 x2 x3 x4 x5 x6 x7)) (ρ':=(fr44 x0 x1 x2 x3 x4 x5 x6 x7)) (by kernel_rfl) k K).trans (qg.u8.okl k K k x0 x1 x2 x3 x4 x5 x6 x7)
theorem qg.u9.ok (k:Nat) (x0 x1 x2:Sl) (x3 x4:Int) (x5:Sl) (x6 x7:Int) (K:KF α) :
  eC k qg.u9.c (fr44 x0 x1 x2 x3 x4 x5 x6 x7) K =
   qg.u9.f k x0 x1 x2 x3 x4 x5 x6 x7 (fun y0 y1 y2 y3 y4 y5=>K .normal (fr42 y0 y1 y2 y3 y4 y5)):=
 (zm.trans (qg.u8.ok k x0 x1 x2 x3 x4 x5 x6 x7 (jf 2 K))).trans (by kernel_rfl)
theorem qg.u10.ok (k:Nat) (x0 x1 x2:Sl) (x3 x4:Int) (x5:Sl) (x6 x7:Int) (K:KF α) :
  eC k qg.u10.c (fr43 x0 x1 x2 x3 x4 x5 x6 x7) K =
   qg.u10.f k x0 x1 x2 x3 x4 x5 x6 x7 (fun y0 y1 y2 y3 y4 y5=>K .normal (fr42 y0 y1 y2 y3 y4 y5)):=
 (qg.u6.ok k x0 x1 x2 x3 x4 x5 x6 x7 qg.u9.c K).trans
  (congrArg (fun z=>qg.u6.f k x0 x1 x2 x3 x4 x5 x6 x7 z) (funext fun y0=>(funext fun y1=>(funext fun y2=>(funext fun y3=>(funext fun y4=>(funext fun y5=>(funext fun y6=>(funext fun y7=>qg.u9.ok k y0 y1 y2 y3 y4 y5 y6 y7 K)))))))))
theorem qg.u11.ok (k:Nat) (x0 x1 x2:Sl) (x3:Int) (x4:Ad) (x5:Sl) (x6 x7:Int) (K:KF α) :
  eC k qg.u11.c (za [(3, .slice x0), (4, .slice x1), (5, .slice x2), (6, .int .i64 x3), (7, .ptr (some x4)), (22, .slice x5), (23, .int .i64 x6), (24, .int .i64 x7)]) K =
   qg.u11.f k x0 x1 x2 x3 x4 x5 x6 x7 (fun y0 y1 y2 y3 y4 y5=>K .normal (fr42 y0 y1 y2 y3 y4 y5)):=
 (qg.u5.ok k x0 x1 x2 x3 x4 x5 x6 x7 qg.u10.c K).trans
  (congrArg (fun z=>qg.u5.f k x0 x1 x2 x3 x4 x5 x6 x7 z) (funext fun y0=>(funext fun y1=>(funext fun y2=>(funext fun y3=>(funext fun y4=>(funext fun y5=>(funext fun y6=>(funext fun y7=>qg.u10.ok k y0 y1 y2 y3 y4 y5 y6 y7 K)))))))))
theorem qg.u12.ok (k:Nat) (x0 x1:Sl) (x2 x3:Sl) (x4 x5:Int) (K:KF α) :
  eC k qg.u12.c (fr42 x0 x1 x2 x3 x4 x5) K =
   qg.u12.f k x0 x1 x2 x3 x4 x5 (fun y0 y1 y2 y3 y4 y5=>K .normal (fr42 y0 y1 y2 y3 y4 y5)) (fun y0 y1 y2 y3 y4 y5=>K (.exit 1) (fr42 y0 y1 y2 y3 y4 y5)):=
 (qg.u4.ok k x0 x1 x2 x3 x4 x5 qg.u11.c K).trans
  (congrArg (fun z=>qg.u4.f k x0 x1 x2 x3 x4 x5 z (fun y0 y1 y2 y3 y4 y5=>K (.exit 1) (fr42 y0 y1 y2 y3 y4 y5))) (funext fun y0=>(funext fun y1=>(funext fun y2=>(funext fun y3=>(funext fun y4=>(funext fun y5=>(funext fun y6=>(funext fun y7=>qg.u11.ok k y0 y1 y2 y3 y4 y5 y6 y7 K)))))))))
theorem qg.u13.ok (k:Nat) (x0 x1:Sl) (x2 x3:Sl) (x4 x5:Int) (K:KF α) :
  eC k qg.u13.c (fr42 x0 x1 x2 x3 x4 x5) K =
   qg.u13.f k x0 x1 x2 x3 x4 x5 (fun y0 y1 y2 y3 y4 y5=>K .normal (fr42 y0 y1 y2 y3 y4 y5)):=
 (zm.trans (qg.u12.ok k x0 x1 x2 x3 x4 x5 (jf 1 K))).trans (by kernel_rfl)
theorem qg.u14.ok (k:Nat) (x0 x1:Sl) (x2 x3:Sl) (x4 x5:Int) (K:KF α) :
  eC k qg.u14.c (fr42 x0 x1 x2 x3 x4 x5) K =
   qg.u14.f k x0 x1 x2 x3 x4 x5 (fun y0 y1 y2 y3 y4 y5=>K .normal (fr42 y0 y1 y2 y3 y4 y5)):=by kernel_rfl
theorem qg.u15.ok (k:Nat) (x0 x1:Sl) (x2 x3:Sl) (x4 x5:Int) (K:KF α) :
  eC k qg.u15.c (fr42 x0 x1 x2 x3 x4 x5) K =
   qg.u15.f k x0 x1 x2 x3 x4 x5 (fun y0 y1 y2 y3 y4 y5=>K .normal (fr42 y0 y1 y2 y3 y4 y5)):=
 by
  have h:=qg.u13.ok k x0 x1 x2 x3 x4 x5 (seqK (fun ρ=>eC k qg.u14.c ρ K) K)
  simp only [zd, zf, zh, zg, qg.u14.ok] at h
  exact zk h
theorem qg.u16.ok (k:Nat) (x0 x1:Sl) (x2 x3:Sl) (x4 x5:Int) (K:KF α) :
  eC k qg.u16.c (fr42 x0 x1 x2 x3 x4 x5) K =
   qg.u16.f k x0 x1 x2 x3 x4 x5 (fun y0 y1 y2 y3 y4 y5=>K .normal (fr42 y0 y1 y2 y3 y4 y5)) (fun y0=>K (.exit 0) (fr19 y0)):=
 (qg.u3.ok k x0 x1 x2 x3 x4 x5 qg.u15.c K).trans
  (congrArg (fun z=>qg.u3.f k x0 x1 x2 x3 x4 x5 z (fun y0=>K (.exit 0) (fr19 y0))) (funext fun y0=>(funext fun y1=>(funext fun y2=>(funext fun y3=>(funext fun y4=>(funext fun y5=>qg.u15.ok k y0 y1 y2 y3 y4 y5 K)))))))
theorem qg.u17.ls (k:Nat) (kx0:Sl->M α) (j:Nat) (x0 x1:Sl) (x2 x3:Sl) (x4 x5:Int):qg.u17.l k kx0 (j + 1) x0 x1 x2 x3 x4 x5 =
 qg.u16.f k x0 x1 x2 x3 x4 x5 (fun y0 y1 y2 y3 y4 y5=>qg.u17.l k kx0 j y0 y1 y2 y3 y4 y5) kx0:=rfl
theorem qg.u17.okl (k:Nat) (K:KF α):∀ (j:Nat) (x0 x1:Sl) (x2 x3:Sl) (x4 x5:Int),
  zr (eC k qg.u16.c) [3, 4, 5, 22, 23, 24] j (fr42 x0 x1 x2 x3 x4 x5) K = qg.u17.l k (fun y0=>K (.exit 0) (fr19 y0)) j x0 x1 x2 x3 x4 x5
 | 0, _, _, _, _, _, _=>rfl
 | j + 1, x0, x1, x2, x3, x4, x5=>by
   have h:=qg.u16.ok k x0 x1 x2 x3 x4 x5 (seqK (fun ρ=>zr (eC k qg.u16.c) [3, 4, 5, 22, 23, 24] j ρ K) K)
   simp only [zf, zh, zg, zd, qg.u17.okl k K j] at h
   exact (zo (by kernel_rfl) h).trans (qg.u17.ls k (fun y0=>K (.exit 0) (fr19 y0)) j x0 x1 x2 x3 x4 x5).symm
theorem qg.u17.ok (k:Nat) (x0 x1:Sl) (x2 x3:Sl) (x4 x5:Int) (K:KF α) :
  eC k qg.u17.c (fr42 x0 x1 x2 x3 x4 x5) K =
   qg.u17.f k x0 x1 x2 x3 x4 x5 (fun y0=>K (.exit 0) (fr19 y0)):=
 jd.trans <| (zp (body:=eC k qg.u16.c) (keep:=[3, 4, 5, 22, 23, 24]) (ρ:=(fr42 x0 x1 x2 x3 x4 x5)) (ρ':=(fr42 x0 x1 x2 x3 x4 x5)) (by kernel_rfl) k K).trans (qg.u17.okl k K k x0 x1 x2 x3 x4 x5)
theorem qg.u18.ok (k:Nat) (x0 x1:Sl) (x2 x3:Sl) (x4 x5:Int) (K:KF α) :
  eC k qg.u18.c (fr42 x0 x1 x2 x3 x4 x5) K =
   qg.u18.f k x0 x1 x2 x3 x4 x5 (fun y0=>K .normal (fr19 y0)):=
 (zm.trans (qg.u17.ok k x0 x1 x2 x3 x4 x5 (jf 0 K))).trans (by kernel_rfl)
theorem qg.u19.ok (k:Nat) (x0 x1:Sl) (x2 x3:Sl) (K:KF α) :
  eC k qg.u19.c (fr41 x0 x1 x2 x3) K =
   qg.u19.f k x0 x1 x2 x3 (fun y0=>K .normal (fr19 y0)):=
 (qg.u2.ok k x0 x1 x2 x3 qg.u18.c K).trans
  (congrArg (fun z=>qg.u2.f k x0 x1 x2 x3 z) (funext fun y0=>(funext fun y1=>(funext fun y2=>(funext fun y3=>(funext fun y4=>(funext fun y5=>qg.u18.ok k y0 y1 y2 y3 y4 y5 K)))))))
theorem qg.u20.ok (k:Nat) (x0:Sl) (K:KF α) :
  eC k qg.u20.c (fr19 x0) K =
   qg.u20.f k x0 (fun y0=>K .ret (fr26 y0)):=by kernel_rfl
theorem qg.u21.ok (k:Nat) (x0 x1:Sl) (x2 x3:Sl) (K:KF α) :
  eC k qg.u21.c (fr41 x0 x1 x2 x3) K =
   qg.u21.f k x0 x1 x2 x3 (fun y0=>K .ret (fr26 y0)):=
 by
  have h:=qg.u19.ok k x0 x1 x2 x3 (seqK (fun ρ=>eC k qg.u20.c ρ K) K)
  simp only [zd, zf, zh, zg, qg.u20.ok] at h
  exact zk h
theorem qg.u22.ok (k:Nat) (x0:Sl) (K:KF α) :
  eC k qg.u22.c (fr25 x0) K =
   qg.u22.f k x0 (fun y0=>K .ret (fr26 y0)):=
 (qg.u1.ok k x0 qg.u21.c K).trans
  (congrArg (fun z=>qg.u1.f k x0 z) (funext fun y0=>(funext fun y1=>(funext fun y2=>(funext fun y3=>qg.u21.ok k y0 y1 y2 y3 K)))))
theorem qg.ok (k:Nat) (x0:Sl) (κ:Res->M α) :
  evF T (env k) k qg.c qg.res [.slice x0] κ = qg.f (k + 1) x0 (fun o0=>κ (.ret (.slice o0))):=
 (qg.u22.ok k x0 (retK T qg.res κ)).trans (by kernel_rfl)
theorem qg.code:qg.c.code = zy Tryd.f12:=by kernel_rfl
noncomputable def qbl.c:IC:=qbl.u1.c
noncomputable def qbl.res:List ResultVar:=[(.tmp 0)]
theorem qbl.u1.ok (k:Nat) (K:KF α) :
  eC k qbl.u1.c (za []) K =
   qbl.u1.f k (fun y0=>K .ret (fr45 y0)):=by kernel_rfl
theorem qbl.ok (k:Nat) (κ:Res->M α) :
  evF T (env k) k qbl.c qbl.res [] κ = qbl.f (k + 1) (fun o0=>κ (.ret (.bool o0))):=
 (qbl.u1.ok k (retK T qbl.res κ)).trans (by kernel_rfl)
theorem qbl.code:qbl.c.code = zy Tryd.f8:=by kernel_rfl
noncomputable def qt.c:IC:=qt.u9.c
noncomputable def qt.res:List ResultVar:=[(.tmp 2)]
theorem qt.u1.ok (k:Nat) (x0:Sl) (R:IC) (K:KF α) :
  eC k (qt.u1.c R) (fr25 x0) K =
   qt.u1.f k x0 (fun y0=>eC k R (fr35 y0) K):=by kernel_rfl
theorem qt.u2.ok (k:Nat) (x0:Sl) (R:IC) (K:KF α) :
  eC k (qt.u2.c R) (fr35 x0) K =
   qt.u2.f k x0 (fun y0 y1=>eC k R (fr46 y0 y1) K):=by kernel_rfl
theorem qt.u3.ok (k:Nat) (x0:Sl) (x1:Int) (K:KF α) :
  eC k qt.u3.c (fr46 x0 x1) K =
   qt.u3.f k x0 x1 (fun y0 y1=>K .normal (fr46 y0 y1)) (fun y0=>K (.exit 0) (fr35 y0)):=by kernel_rfl
theorem qt.u4.ls (k:Nat) (kx0:Sl->M α) (j:Nat) (x0:Sl) (x1:Int):qt.u4.l k kx0 (j + 1) x0 x1 =
 qt.u3.f k x0 x1 (fun y0 y1=>qt.u4.l k kx0 j y0 y1) kx0:=rfl
theorem qt.u4.okl (k:Nat) (K:KF α):∀ (j:Nat) (x0:Sl) (x1:Int),
  zr (eC k qt.u3.c) [3, 4] j (fr46 x0 x1) K = qt.u4.l k (fun y0=>K (.exit 0) (fr35 y0)) j x0 x1
 | 0, _, _=>rfl
 | j + 1, x0, x1=>by
   have h:=qt.u3.ok k x0 x1 (seqK (fun ρ=>zr (eC k qt.u3.c) [3, 4] j ρ K) K)
   simp only [zf, zh, zg, zd, qt.u4.okl k K j] at h
   exact (zo (by kernel_rfl) h).trans (qt.u4.ls k (fun y0=>K (.exit 0) (fr35 y0)) j x0 x1).symm
theorem qt.u4.ok (k:Nat) (x0:Sl) (x1:Int) (K:KF α) :
  eC k qt.u4.c (fr46 x0 x1) K =
   qt.u4.f k x0 x1 (fun y0=>K (.exit 0) (fr35 y0)):=
 jd.trans <| (zp (body:=eC k qt.u3.c) (keep:=[3, 4]) (ρ:=(fr46 x0 x1)) (ρ':=(fr46 x0 x1)) (by kernel_rfl) k K).trans (qt.u4.okl k K k x0 x1)
theorem qt.u5.ok (k:Nat) (x0:Sl) (x1:Int) (K:KF α) :
  eC k qt.u5.c (fr46 x0 x1) K =
   qt.u5.f k x0 x1 (fun y0=>K .normal (fr35 y0)):=
 (zm.trans (qt.u4.ok k x0 x1 (jf 0 K))).trans (by kernel_rfl)
theorem qt.u6.ok (k:Nat) (x0:Sl) (K:KF α) :
  eC k qt.u6.c (fr35 x0) K =
   qt.u6.f k x0 (fun y0=>K .normal (fr35 y0)):=
 (qt.u2.ok k x0 qt.u5.c K).trans
  (congrArg (fun z=>qt.u2.f k x0 z) (funext fun y0=>(funext fun y1=>qt.u5.ok k y0 y1 K)))
theorem qt.u7.ok (k:Nat) (x0:Sl) (K:KF α) :
  eC k qt.u7.c (fr35 x0) K =
   qt.u7.f k x0 (fun y0=>K .ret (fr26 y0)):=by kernel_rfl
theorem qt.u8.ok (k:Nat) (x0:Sl) (K:KF α) :
  eC k qt.u8.c (fr35 x0) K =
   qt.u8.f k x0 (fun y0=>K .ret (fr26 y0)):=
 by
  have h:=qt.u6.ok k x0 (seqK (fun ρ=>eC k qt.u7.c ρ K) K)
  simp only [zd, zf, zh, zg, qt.u7.ok] at h
  exact zk h
theorem qt.u9.ok (k:Nat) (x0:Sl) (K:KF α) :
  eC k qt.u9.c (fr25 x0) K =
   qt.u9.f k x0 (fun y0=>K .ret (fr26 y0)):=
 (qt.u1.ok k x0 qt.u8.c K).trans
  (congrArg (fun z=>qt.u1.f k x0 z) (funext fun y0=>qt.u8.ok k y0 K))
theorem qt.ok (k:Nat) (x0:Sl) (κ:Res->M α) :
  evF T (env k) k qt.c qt.res [.slice x0] κ = qt.f (k + 1) x0 (fun o0=>κ (.ret (.slice o0))):=
 (qt.u9.ok k x0 (retK T qt.res κ)).trans (by kernel_rfl)
theorem qt.code:qt.c.code = zy Tryd.f41:=by kernel_rfl
noncomputable def qbb.c:IC:=qbb.u1.c
noncomputable def qbb.res:List ResultVar:=[(.tmp 2)]
theorem qbb.u1.ok (k:Nat) (x0:Int) (K:KF α) :
  eC k qbb.u1.c (fr30 x0) K =
   qbb.u1.f k x0 (fun y0=>K .ret (fr3 y0)):=by kernel_rfl
theorem qbb.ok (k:Nat) (x0:Int) (κ:Res->M α) :
  evF T (env k) k qbb.c qbb.res [.int .i64 x0] κ = qbb.f (k + 1) x0 (fun o0=>κ (.ret (.int .i64 o0))):=
 (qbb.u1.ok k x0 (retK T qbb.res κ)).trans (by kernel_rfl)
theorem qbb.code:qbb.c.code = zy Tryd.f39:=by kernel_rfl
noncomputable def qo.c:IC:=qo.u14.c
noncomputable def qo.res:List ResultVar:=[(.tmp 2)]
theorem qo.u1.ok (k:Nat) (x0:TX) (R:IC) (K:KF α) :
  eC k (qo.u1.c R) (fr11 x0) K =
   qo.u1.f k x0 (fun y0=>eC k R (fr11 y0) K) (fun y0=>K .ret (fr18 y0)):=by kernel_rfl
theorem qo.u2.ok (k:Nat) (x0:TX) (R:IC) (K:KF α) :
  eC k (qo.u2.c R) (fr11 x0) K =
   qo.u2.f k x0 (fun y0 y1=>eC k R (fr47 y0 y1) K):=by kernel_rfl
theorem qo.u3.ok (k:Nat) (x0:TX) (x1:Int) (R:IC) (K:KF α) :
  eC k (qo.u3.c R) (fr47 x0 x1) K =
   qo.u3.f k x0 x1 (fun y0 y1=>eC k R (fr47 y0 y1) K) (K (.exit 0) (za [])):=by kernel_rfl
theorem qo.u4.ok (k:Nat) (x0:TX) (x1:Int) (K:KF α) :
  eC k qo.u4.c (fr47 x0 x1) K =
   qo.u4.f k x0 x1 (fun y0 y1=>K .normal (fr47 y0 y1)) (fun y0=>K .ret (fr18 y0)):=by kernel_rfl
theorem qo.u5.ok (k:Nat) (x0:TX) (x1:Int) (K:KF α) :
  eC k qo.u5.c (fr47 x0 x1) K =
   qo.u5.f k x0 x1 (fun y0 y1=>K .normal (fr47 y0 y1)) (fun y0=>K .ret (fr18 y0)):=
 (zm.trans (qo.u4.ok k x0 x1 (jf 1 K))).trans (by kernel_rfl)
theorem qo.u6.ok (k:Nat) (x0:TX) (x1:Int) (K:KF α) :
  eC k qo.u6.c (fr47 x0 x1) K =
   qo.u6.f k x0 x1 (fun y0 y1=>K .normal (fr47 y0 y1)):=by kernel_rfl
theorem qo.u7.ok (k:Nat) (x0:TX) (x1:Int) (K:KF α) :
  eC k qo.u7.c (fr47 x0 x1) K =
   qo.u7.f k x0 x1 (fun y0 y1=>K .normal (fr47 y0 y1)) (fun y0=>K .ret (fr18 y0)):=
 by
  have h:=qo.u5.ok k x0 x1 (seqK (fun ρ=>eC k qo.u6.c ρ K) K)
  simp only [zd, zf, zh, zg, qo.u6.ok] at h
  exact zk h
theorem qo.u8.ok (k:Nat) (x0:TX) (x1:Int) (K:KF α) :
  eC k qo.u8.c (fr47 x0 x1) K =
   qo.u8.f k x0 x1 (fun y0 y1=>K .normal (fr47 y0 y1)) (fun y0=>K .ret (fr18 y0)) (K (.exit 0) (za [])):=
 (qo.u3.ok k x0 x1 qo.u7.c K).trans
  (congrArg (fun z=>qo.u3.f k x0 x1 z (K (.exit 0) (za []))) (funext fun y0=>(funext fun y1=>qo.u7.ok k y0 y1 K)))
theorem qo.u9.ls (k:Nat) (kr:Bool->M α) (kx0:M α) (j:Nat) (x0:TX) (x1:Int):qo.u9.l k kr kx0 (j + 1) x0 x1 =
 qo.u8.f k x0 x1 (fun y0 y1=>qo.u9.l k kr kx0 j y0 y1) kr kx0:=rfl
theorem qo.u9.okl (k:Nat) (K:KF α):∀ (j:Nat) (x0:TX) (x1:Int),
  zr (eC k qo.u8.c) [0, 3] j (fr47 x0 x1) K = qo.u9.l k (fun y0=>K .ret (fr18 y0)) (K (.exit 0) (za [])) j x0 x1
 | 0, _, _=>rfl
 | j + 1, x0, x1=>by
   have h:=qo.u8.ok k x0 x1 (seqK (fun ρ=>zr (eC k qo.u8.c) [0, 3] j ρ K) K)
   simp only [zf, zh, zg, zd, qo.u9.okl k K j] at h
   exact (zo (by kernel_rfl) h).trans (qo.u9.ls k (fun y0=>K .ret (fr18 y0)) (K (.exit 0) (za [])) j x0 x1).symm
theorem qo.u9.ok (k:Nat) (x0:TX) (x1:Int) (K:KF α) :
  eC k qo.u9.c (fr47 x0 x1) K =
   qo.u9.f k x0 x1 (fun y0=>K .ret (fr18 y0)) (K (.exit 0) (za [])):=
 jd.trans <| (zp (body:=eC k qo.u8.c) (keep:=[0, 3]) (ρ:=(fr47 x0 x1)) (ρ':=(fr47 x0 x1)) (by kernel_rfl) k K).trans (qo.u9.okl k K k x0 x1)
theorem qo.u10.ok (k:Nat) (x0:TX) (x1:Int) (K:KF α) :
  eC k qo.u10.c (fr47 x0 x1) K =
   qo.u10.f k x0 x1 (K .normal (za [])) (fun y0=>K .ret (fr18 y0)):=
 (zm.trans (qo.u9.ok k x0 x1 (jf 0 K))).trans (by kernel_rfl)
theorem qo.u11.ok (k:Nat) (x0:TX) (K:KF α) :
  eC k qo.u11.c (fr11 x0) K =
   qo.u11.f k x0 (K .normal (za [])) (fun y0=>K .ret (fr18 y0)):=
 (qo.u2.ok k x0 qo.u10.c K).trans
  (congrArg (fun z=>qo.u2.f k x0 z) (funext fun y0=>(funext fun y1=>qo.u10.ok k y0 y1 K)))
theorem qo.u12.ok (k:Nat) (K:KF α) :
  eC k qo.u12.c (za []) K =
   qo.u12.f k (fun y0=>K .ret (fr18 y0)):=by kernel_rfl
theorem qo.u13.ok (k:Nat) (x0:TX) (K:KF α) :
  eC k qo.u13.c (fr11 x0) K =
   qo.u13.f k x0 (fun y0=>K .ret (fr18 y0)):=
 by
  have h:=qo.u11.ok k x0 (seqK (fun ρ=>eC k qo.u12.c ρ K) K)
  simp only [zd, zf, zh, zg, qo.u12.ok] at h
  exact zk h
theorem qo.u14.ok (k:Nat) (x0:TX) (K:KF α) :
  eC k qo.u14.c (fr11 x0) K =
   qo.u14.f k x0 (fun y0=>K .ret (fr18 y0)):=
 (qo.u1.ok k x0 qo.u13.c K).trans
  (congrArg (fun z=>qo.u1.f k x0 z (fun y0=>K .ret (fr18 y0))) (funext fun y0=>qo.u13.ok k y0 K))
theorem qo.ok (k:Nat) (x0:TX) (κ:Res->M α) :
  evF T (env k) k qo.c qo.res [.str x0] κ = qo.f (k + 1) x0 (fun o0=>κ (.ret (.bool o0))):=
 (qo.u14.ok k x0 (retK T qo.res κ)).trans (by kernel_rfl)
theorem qo.code:qo.c.code = zy Tryd.f82:=by kernel_rfl
noncomputable def qba.c:IC:=qba.u1.c
noncomputable def qba.res:List ResultVar:=[(.tmp 2)]
theorem qba.u1.ok (k:Nat) (x0:TX) (K:KF α) :
  eC k qba.u1.c (fr11 x0) K =
   qba.u1.f k x0 (fun y0=>K .ret (fr18 y0)):=by kernel_rfl
theorem qba.ok (k:Nat) (x0:TX) (κ:Res->M α) :
  evF T (env k) k qba.c qba.res [.str x0] κ = qba.f (k + 1) x0 (fun o0=>κ (.ret (.bool o0))):=
 (qba.u1.ok k x0 (retK T qba.res κ)).trans (by kernel_rfl)
theorem qba.code:qba.c.code = zy Tryd.f83:=by kernel_rfl
noncomputable def qbk.c:IC:=qbk.u1.c
noncomputable def qbk.res:List ResultVar:=[(.tmp 2)]
theorem qbk.u1.ok (k:Nat) (x0 x1 x2:Int) (x3:TX) (x4:Int) (K:KF α) :
  eC k qbk.u1.c (za [(0, .agg [.int .i64 x0, .int .i64 x1, .int .i64 x2, .str x3, .int .i64 x4])]) K =
   qbk.u1.f k x0 x1 x2 x3 x4 (fun y0=>K .ret (fr18 y0)):=by kernel_rfl
theorem qbk.ok (k:Nat) (x0 x1 x2:Int) (x3:TX) (x4:Int) (κ:Res->M α) :
  evF T (env k) k qbk.c qbk.res [.agg [.int .i64 x0, .int .i64 x1, .int .i64 x2, .str x3, .int .i64 x4]] κ = qbk.f (k + 1) x0 x1 x2 x3 x4 (fun o0=>κ (.ret (.bool o0))):=
 (qbk.u1.ok k x0 x1 x2 x3 x4 (retK T qbk.res κ)).trans (by kernel_rfl)
theorem qbk.code:qbk.c.code = zy Tryd.f74:=by kernel_rfl
noncomputable def qm.c:IC:=qm.u16.c
noncomputable def qm.res:List ResultVar:=[(.tmp 2)]
theorem qm.u1.ok (k:Nat) (x0:Sl) (R:IC) (K:KF α) :
  eC k (qm.u1.c R) (fr25 x0) K =
   qm.u1.f k x0 (fun y0 y1=>eC k R (fr33 y0 y1) K) (fun y0=>K .ret (fr18 y0)):=by kernel_rfl
theorem qm.u2.ok (k:Nat) (x0 x1:Sl) (R:IC) (K:KF α) :
  eC k (qm.u2.c R) (fr33 x0 x1) K =
   qm.u2.f k x0 x1 (fun y0 y1 y2=>eC k R (fr48 y0 y1 y2) K):=by kernel_rfl
theorem qm.u3.ok (k:Nat) (x0 x1:Sl) (x2:Int) (R:IC) (K:KF α) :
  eC k (qm.u3.c R) (fr48 x0 x1 x2) K =
   qm.u3.f k x0 x1 x2 (fun y0 y1 y2=>eC k R (fr48 y0 y1 y2) K) (fun y0=>K (.exit 0) (fr35 y0)):=by kernel_rfl
theorem qm.u4.ok (k:Nat) (x0 x1:Sl) (x2:Int) (R:IC) (K:KF α) :
  eC k (qm.u4.c R) (fr48 x0 x1 x2) K =
   qm.u4.f k x0 x1 x2 (fun y0 y1 y2 y3 y4=>eC k R (fr49 y0 y1 y2 y3 y4) K) (fun y0=>K .ret (fr18 y0)):=by kernel_rfl
theorem qm.u5.ok (k:Nat) (x0 x1:Sl) (x2 x3 x4:Int) (K:KF α) :
  eC k qm.u5.c (fr49 x0 x1 x2 x3 x4) K =
   qm.u5.f k x0 x1 x2 x3 x4 (fun y0 y1 y2=>K .normal (fr48 y0 y1 y2)) (fun y0=>K .ret (fr18 y0)):=by kernel_rfl
theorem qm.u6.ok (k:Nat) (x0 x1:Sl) (x2:Int) (K:KF α) :
  eC k qm.u6.c (fr48 x0 x1 x2) K =
   qm.u6.f k x0 x1 x2 (fun y0 y1 y2=>K .normal (fr48 y0 y1 y2)) (fun y0=>K .ret (fr18 y0)):=
 (qm.u4.ok k x0 x1 x2 qm.u5.c K).trans
  (congrArg (fun z=>qm.u4.f k x0 x1 x2 z (fun y0=>K .ret (fr18 y0))) (funext fun y0=>(funext fun y1=>(funext fun y2=>(funext fun y3=>(funext fun y4=>qm.u5.ok k y0 y1 y2 y3 y4 K))))))
theorem qm.u7.ok (k:Nat) (x0 x1:Sl) (x2:Int) (K:KF α) :
  eC k qm.u7.c (fr48 x0 x1 x2) K =
   qm.u7.f k x0 x1 x2 (fun y0 y1 y2=>K .normal (fr48 y0 y1 y2)) (fun y0=>K .ret (fr18 y0)):=
 (zm.trans (qm.u6.ok k x0 x1 x2 (jf 1 K))).trans (by kernel_rfl)
theorem qm.u8.ok (k:Nat) (x0 x1:Sl) (x2:Int) (K:KF α) :
  eC k qm.u8.c (fr48 x0 x1 x2) K =
   qm.u8.f k x0 x1 x2 (fun y0 y1 y2=>K .normal (fr48 y0 y1 y2)):=by kernel_rfl
theorem qm.u9.ok (k:Nat) (x0 x1:Sl) (x2:Int) (K:KF α) :
  eC k qm.u9.c (fr48 x0 x1 x2) K =
   qm.u9.f k x0 x1 x2 (fun y0 y1 y2=>K .normal (fr48 y0 y1 y2)) (fun y0=>K .ret (fr18 y0)):=
 by
  have h:=qm.u7.ok k x0 x1 x2 (seqK (fun ρ=>eC k qm.u8.c ρ K) K)
  simp only [zd, zf, zh, zg, qm.u8.ok] at h
  exact zk h
theorem qm.u10.ok (k:Nat) (x0 x1:Sl) (x2:Int) (K:KF α) :
  eC k qm.u10.c (fr48 x0 x1 x2) K =
   qm.u10.f k x0 x1 x2 (fun y0 y1 y2=>K .normal (fr48 y0 y1 y2)) (fun y0=>K .ret (fr18 y0)) (fun y0=>K (.exit 0) (fr35 y0)):=
 (qm.u3.ok k x0 x1 x2 qm.u9.c K).trans
  (congrArg (fun z=>qm.u3.f k x0 x1 x2 z (fun y0=>K (.exit 0) (fr35 y0))) (funext fun y0=>(funext fun y1=>(funext fun y2=>qm.u9.ok k y0 y1 y2 K))))
theorem qm.u11.ls (k:Nat) (kr:Bool->M α) (kx0:Sl->M α) (j:Nat) (x0 x1:Sl) (x2:Int):qm.u11.l k kr kx0 (j + 1) x0 x1 x2 =
 qm.u10.f k x0 x1 x2 (fun y0 y1 y2=>qm.u11.l k kr kx0 j y0 y1 y2) kr kx0:=rfl
theorem qm.u11.okl (k:Nat) (K:KF α):∀ (j:Nat) (x0 x1:Sl) (x2:Int),
  zr (eC k qm.u10.c) [0, 3, 4] j (fr48 x0 x1 x2) K = qm.u11.l k (fun y0=>K .ret (fr18 y0)) (fun y0=>K (.exit 0) (fr35 y0)) j x0 x1 x2
 | 0, _, _, _=>rfl
 | j + 1, x0, x1, x2=>by
   have h:=qm.u10.ok k x0 x1 x2 (seqK (fun ρ=>zr (eC k qm.u10.c) [0, 3, 4] j ρ K) K)
   simp only [zf, zh, zg, zd, qm.u11.okl k K j] at h
   exact (zo (by kernel_rfl) h).trans (qm.u11.ls k (fun y0=>K .ret (fr18 y0)) (fun y0=>K (.exit 0) (fr35 y0)) j x0 x1 x2).symm
theorem qm.u11.ok (k:Nat) (x0 x1:Sl) (x2:Int) (K:KF α) :
  eC k qm.u11.c (fr48 x0 x1 x2) K =
   qm.u11.f k x0 x1 x2 (fun y0=>K .ret (fr18 y0)) (fun y0=>K (.exit 0) (fr35 y0)):=
 jd.trans <| (zp (body:=eC k qm.u10.c) (keep:=[0, 3, 4]) (ρ:=(fr48 x0 x1 x2)) (ρ':=(fr48 x0 x1 x2)) (by kernel_rfl) k K).trans (qm.u11.okl k K k x0 x1 x2)
theorem qm.u12.ok (k:Nat) (x0 x1:Sl) (x2:Int) (K:KF α) :
  eC k qm.u12.c (fr48 x0 x1 x2) K =
   qm.u12.f k x0 x1 x2 (fun y0=>K .normal (fr35 y0)) (fun y0=>K .ret (fr18 y0)):=
 (zm.trans (qm.u11.ok k x0 x1 x2 (jf 0 K))).trans (by kernel_rfl)
theorem qm.u13.ok (k:Nat) (x0 x1:Sl) (K:KF α) :
  eC k qm.u13.c (fr33 x0 x1) K =
   qm.u13.f k x0 x1 (fun y0=>K .normal (fr35 y0)) (fun y0=>K .ret (fr18 y0)):=
 (qm.u2.ok k x0 x1 qm.u12.c K).trans
  (congrArg (fun z=>qm.u2.f k x0 x1 z) (funext fun y0=>(funext fun y1=>(funext fun y2=>qm.u12.ok k y0 y1 y2 K))))
theorem qm.u14.ok (k:Nat) (x0:Sl) (K:KF α) :
  eC k qm.u14.c (fr35 x0) K =
   qm.u14.f k x0 (fun y0=>K .ret (fr18 y0)):=by kernel_rfl
theorem qm.u15.ok (k:Nat) (x0 x1:Sl) (K:KF α) :
  eC k qm.u15.c (fr33 x0 x1) K =
   qm.u15.f k x0 x1 (fun y0=>K .ret (fr18 y0)):=
 by
  have h:=qm.u13.ok k x0 x1 (seqK (fun ρ=>eC k qm.u14.c ρ K) K)
  simp only [zd, zf, zh, zg, qm.u14.ok] at h
  exact zk h
theorem qm.u16.ok (k:Nat) (x0:Sl) (K:KF α) :
  eC k qm.u16.c (fr25 x0) K =
   qm.u16.f k x0 (fun y0=>K .ret (fr18 y0)):=
 (qm.u1.ok k x0 qm.u15.c K).trans
  (congrArg (fun z=>qm.u1.f k x0 z (fun y0=>K .ret (fr18 y0))) (funext fun y0=>(funext fun y1=>qm.u15.ok k y0 y1 K)))
theorem qm.ok (k:Nat) (x0:Sl) (κ:Res->M α) :
  evF T (env k) k qm.c qm.res [.slice x0] κ = qm.f (k + 1) x0 (fun o0=>κ (.ret (.bool o0))):=
 (qm.u16.ok k x0 (retK T qm.res κ)).trans (by kernel_rfl)
theorem qm.code:qm.c.code = zy Tryd.f57:=by kernel_rfl
noncomputable def ql.c:IC:=ql.u15.c
noncomputable def ql.res:List ResultVar:=[(.tmp 2)]
theorem ql.u1.ok (k:Nat) (x0:Sl) (R:IC) (K:KF α) :
  eC k (ql.u1.c R) (fr25 x0) K =
   ql.u1.f k x0 (fun y0 y1=>eC k R (fr33 y0 y1) K):=by kernel_rfl
theorem ql.u2.ok (k:Nat) (x0 x1:Sl) (R:IC) (K:KF α) :
  eC k (ql.u2.c R) (fr33 x0 x1) K =
   ql.u2.f k x0 x1 (fun y0 y1 y2=>eC k R (fr48 y0 y1 y2) K):=by kernel_rfl
theorem ql.u3.ok (k:Nat) (x0 x1:Sl) (x2:Int) (K:KF α) :
  eC k ql.u3.c (fr48 x0 x1 x2) K =
   ql.u3.f k x0 x1 x2 (fun y0 y1 y2=>K .normal (fr48 y0 y1 y2)) (fun y0 y1=>K (.exit 0) (fr33 y0 y1)):=by kernel_rfl
theorem ql.u4.ls (k:Nat) (kx0:Sl->Sl->M α) (j:Nat) (x0 x1:Sl) (x2:Int):ql.u4.l k kx0 (j + 1) x0 x1 x2 =
 ql.u3.f k x0 x1 x2 (fun y0 y1 y2=>ql.u4.l k kx0 j y0 y1 y2) kx0:=rfl
theorem ql.u4.okl (k:Nat) (K:KF α):∀ (j:Nat) (x0 x1:Sl) (x2:Int),
  zr (eC k ql.u3.c) [0, 3, 4] j (fr48 x0 x1 x2) K = ql.u4.l k (fun y0 y1=>K (.exit 0) (fr33 y0 y1)) j x0 x1 x2
 | 0, _, _, _=>rfl
 | j + 1, x0, x1, x2=>by
   have h:=ql.u3.ok k x0 x1 x2 (seqK (fun ρ=>zr (eC k ql.u3.c) [0, 3, 4] j ρ K) K)
   simp only [zf, zh, zg, zd, ql.u4.okl k K j] at h
   exact (zo (by kernel_rfl) h).trans (ql.u4.ls k (fun y0 y1=>K (.exit 0) (fr33 y0 y1)) j x0 x1 x2).symm
theorem ql.u4.ok (k:Nat) (x0 x1:Sl) (x2:Int) (K:KF α) :
  eC k ql.u4.c (fr48 x0 x1 x2) K =
   ql.u4.f k x0 x1 x2 (fun y0 y1=>K (.exit 0) (fr33 y0 y1)):=
 jd.trans <| (zp (body:=eC k ql.u3.c) (keep:=[0, 3, 4]) (ρ:=(fr48 x0 x1 x2)) (ρ':=(fr48 x0 x1 x2)) (by kernel_rfl) k K).trans (ql.u4.okl k K k x0 x1 x2)
theorem ql.u5.ok (k:Nat) (x0 x1:Sl) (x2:Int) (K:KF α) :
  eC k ql.u5.c (fr48 x0 x1 x2) K =
   ql.u5.f k x0 x1 x2 (fun y0 y1=>K .normal (fr33 y0 y1)):=
 (zm.trans (ql.u4.ok k x0 x1 x2 (jf 0 K))).trans (by kernel_rfl)
theorem ql.u6.ok (k:Nat) (x0 x1:Sl) (K:KF α) :
  eC k ql.u6.c (fr33 x0 x1) K =
   ql.u6.f k x0 x1 (fun y0 y1=>K .normal (fr33 y0 y1)):=
 (ql.u2.ok k x0 x1 ql.u5.c K).trans
  (congrArg (fun z=>ql.u2.f k x0 x1 z) (funext fun y0=>(funext fun y1=>(funext fun y2=>ql.u5.ok k y0 y1 y2 K))))
theorem ql.u7.ok (k:Nat) (x0 x1:Sl) (R:IC) (K:KF α) :
  eC k (ql.u7.c R) (fr33 x0 x1) K =
   ql.u7.f k x0 x1 (fun y0 y1 y2=>eC k R (fr50 y0 y1 y2) K):=by kernel_rfl
theorem ql.u8.ok (k:Nat) (x0 x1:Sl) (x2:Int) (K:KF α) :
  eC k ql.u8.c (fr50 x0 x1 x2) K =
   ql.u8.f k x0 x1 x2 (fun y0 y1 y2=>K .normal (fr50 y0 y1 y2)) (fun y0=>K (.exit 2) (fr35 y0)):=by kernel_rfl
theorem ql.u9.ls (k:Nat) (kx2:Sl->M α) (j:Nat) (x0 x1:Sl) (x2:Int):ql.u9.l k kx2 (j + 1) x0 x1 x2 =
 ql.u8.f k x0 x1 x2 (fun y0 y1 y2=>ql.u9.l k kx2 j y0 y1 y2) kx2:=rfl
theorem ql.u9.okl (k:Nat) (K:KF α):∀ (j:Nat) (x0 x1:Sl) (x2:Int),
  zr (eC k ql.u8.c) [0, 3, 5] j (fr50 x0 x1 x2) K = ql.u9.l k (fun y0=>K (.exit 2) (fr35 y0)) j x0 x1 x2
 | 0, _, _, _=>rfl
 | j + 1, x0, x1, x2=>by
   have h:=ql.u8.ok k x0 x1 x2 (seqK (fun ρ=>zr (eC k ql.u8.c) [0, 3, 5] j ρ K) K)
   simp only [zf, zh, zg, zd, ql.u9.okl k K j] at h
   exact (zo (by kernel_rfl) h).trans (ql.u9.ls k (fun y0=>K (.exit 2) (fr35 y0)) j x0 x1 x2).symm
theorem ql.u9.ok (k:Nat) (x0 x1:Sl) (x2:Int) (K:KF α) :
  eC k ql.u9.c (fr50 x0 x1 x2) K =
   ql.u9.f k x0 x1 x2 (fun y0=>K (.exit 2) (fr35 y0)):=
 jd.trans <| (zp (body:=eC k ql.u8.c) (keep:=[0, 3, 5]) (ρ:=(fr50 x0 x1 x2)) (ρ':=(fr50 x0 x1 x2)) (by kernel_rfl) k K).trans (ql.u9.okl k K k x0 x1 x2)
theorem ql.u10.ok (k:Nat) (x0 x1:Sl) (x2:Int) (K:KF α) :
  eC k ql.u10.c (fr50 x0 x1 x2) K =
   ql.u10.f k x0 x1 x2 (fun y0=>K .normal (fr35 y0)):=
 (zm.trans (ql.u9.ok k x0 x1 x2 (jf 2 K))).trans (by kernel_rfl)
theorem ql.u11.ok (k:Nat) (x0 x1:Sl) (K:KF α) :
  eC k ql.u11.c (fr33 x0 x1) K =
   ql.u11.f k x0 x1 (fun y0=>K .normal (fr35 y0)):=
 (ql.u7.ok k x0 x1 ql.u10.c K).trans
  (congrArg (fun z=>ql.u7.f k x0 x1 z) (funext fun y0=>(funext fun y1=>(funext fun y2=>ql.u10.ok k y0 y1 y2 K))))
theorem ql.u12.ok (k:Nat) (x0:Sl) (K:KF α) :
  eC k ql.u12.c (fr35 x0) K =
   ql.u12.f k x0 (fun y0=>K .ret (fr26 y0)):=by kernel_rfl
theorem ql.u13.ok (k:Nat) (x0 x1:Sl) (K:KF α) :
  eC k ql.u13.c (fr33 x0 x1) K =
   ql.u13.f k x0 x1 (fun y0=>K .ret (fr26 y0)):=
 by
  have h:=ql.u11.ok k x0 x1 (seqK (fun ρ=>eC k ql.u12.c ρ K) K)
  simp only [zd, zf, zh, zg, ql.u12.ok] at h
  exact zk h
theorem ql.u14.ok (k:Nat) (x0 x1:Sl) (K:KF α) :
  eC k ql.u14.c (fr33 x0 x1) K =
   ql.u14.f k x0 x1 (fun y0=>K .ret (fr26 y0)):=
 by
  have h:=ql.u6.ok k x0 x1 (seqK (fun ρ=>eC k ql.u13.c ρ K) K)
  simp only [zd, zf, zh, zg, ql.u13.ok] at h
  exact zk h
theorem ql.u15.ok (k:Nat) (x0:Sl) (K:KF α) :
  eC k ql.u15.c (fr25 x0) K =
   ql.u15.f k x0 (fun y0=>K .ret (fr26 y0)):=
 (ql.u1.ok k x0 ql.u14.c K).trans
  (congrArg (fun z=>ql.u1.f k x0 z) (funext fun y0=>(funext fun y1=>ql.u14.ok k y0 y1 K)))
theorem ql.ok (k:Nat) (x0:Sl) (κ:Res->M α) :
  evF T (env k) k ql.c ql.res [.slice x0] κ = ql.f (k + 1) x0 (fun o0=>κ (.ret (.slice o0))):=
 (ql.u15.ok k x0 (retK T ql.res κ)).trans (by kernel_rfl)
theorem ql.code:ql.c.code = zy Tryd.f20:=by kernel_rfl
noncomputable def qar.c:IC:=qar.u1.c
noncomputable def qar.res:List ResultVar:=[(.tmp 2)]
theorem qar.u1.ok (k:Nat) (x0 x1 x2:Int) (x3:TX) (x4:Int) (K:KF α) :
  eC k qar.u1.c (za [(0, .agg [.int .i64 x0, .int .i64 x1, .int .i64 x2, .str x3, .int .i64 x4])]) K =
   qar.u1.f k x0 x1 x2 x3 x4 (fun y0=>K .ret (fr18 y0)):=by kernel_rfl
theorem qar.ok (k:Nat) (x0 x1 x2:Int) (x3:TX) (x4:Int) (κ:Res->M α) :
  evF T (env k) k qar.c qar.res [.agg [.int .i64 x0, .int .i64 x1, .int .i64 x2, .str x3, .int .i64 x4]] κ = qar.f (k + 1) x0 x1 x2 x3 x4 (fun o0=>κ (.ret (.bool o0))):=
 (qar.u1.ok k x0 x1 x2 x3 x4 (retK T qar.res κ)).trans (by kernel_rfl)
theorem qar.code:qar.c.code = zy Tryd.f24:=by kernel_rfl
noncomputable def qn.c:IC:=qn.u16.c
noncomputable def qn.res:List ResultVar:=[(.tmp 2)]
theorem qn.u1.ok (k:Nat) (x0:Sl) (R:IC) (K:KF α) :
  eC k (qn.u1.c R) (fr25 x0) K =
   qn.u1.f k x0 (fun y0 y1=>eC k R (fr33 y0 y1) K):=by kernel_rfl
theorem qn.u2.ok (k:Nat) (x0 x1:Sl) (R:IC) (K:KF α) :
  eC k (qn.u2.c R) (fr33 x0 x1) K =
   qn.u2.f k x0 x1 (fun y0 y1 y2=>eC k R (fr48 y0 y1 y2) K):=by kernel_rfl
theorem qn.u3.ok (k:Nat) (x0 x1:Sl) (x2:Int) (R:IC) (K:KF α) :
  eC k (qn.u3.c R) (fr48 x0 x1 x2) K =
   qn.u3.f k x0 x1 x2 (fun y0 y1 y2=>eC k R (fr48 y0 y1 y2) K) (fun y0=>K (.exit 0) (fr35 y0)):=by kernel_rfl
theorem qn.u4.ok (k:Nat) (x0 x1:Sl) (x2:Int) (R:IC) (K:KF α) :
  eC k (qn.u4.c R) (fr48 x0 x1 x2) K =
   qn.u4.f k x0 x1 x2 (fun y0 y1 y2 y3=>eC k R (fr51 y0 y1 y2 y3) K):=by kernel_rfl
theorem qn.u5.ok (k:Nat) (x0 x1:Sl) (x2 x3:Int) (K:KF α) :
  eC k qn.u5.c (fr51 x0 x1 x2 x3) K =
   qn.u5.f k x0 x1 x2 x3 (fun y0 y1 y2=>K .normal (fr48 y0 y1 y2)):=by kernel_rfl
theorem qn.u6.ok (k:Nat) (x0 x1:Sl) (x2:Int) (K:KF α) :
  eC k qn.u6.c (fr48 x0 x1 x2) K =
   qn.u6.f k x0 x1 x2 (fun y0 y1 y2=>K .normal (fr48 y0 y1 y2)):=
 (qn.u4.ok k x0 x1 x2 qn.u5.c K).trans
  (congrArg (fun z=>qn.u4.f k x0 x1 x2 z) (funext fun y0=>(funext fun y1=>(funext fun y2=>(funext fun y3=>qn.u5.ok k y0 y1 y2 y3 K)))))
theorem qn.u7.ok (k:Nat) (x0 x1:Sl) (x2:Int) (K:KF α) :
  eC k qn.u7.c (fr48 x0 x1 x2) K =
   qn.u7.f k x0 x1 x2 (fun y0 y1 y2=>K .normal (fr48 y0 y1 y2)):=
 (zm.trans (qn.u6.ok k x0 x1 x2 (jf 1 K))).trans (by kernel_rfl)
theorem qn.u8.ok (k:Nat) (x0 x1:Sl) (x2:Int) (K:KF α) :
  eC k qn.u8.c (fr48 x0 x1 x2) K =
   qn.u8.f k x0 x1 x2 (fun y0 y1 y2=>K .normal (fr48 y0 y1 y2)):=by kernel_rfl
theorem qn.u9.ok (k:Nat) (x0 x1:Sl) (x2:Int) (K:KF α) :
  eC k qn.u9.c (fr48 x0 x1 x2) K =
   qn.u9.f k x0 x1 x2 (fun y0 y1 y2=>K .normal (fr48 y0 y1 y2)):=
 by
  have h:=qn.u7.ok k x0 x1 x2 (seqK (fun ρ=>eC k qn.u8.c ρ K) K)
  simp only [zd, zf, zh, zg, qn.u8.ok] at h
  exact zk h
theorem qn.u10.ok (k:Nat) (x0 x1:Sl) (x2:Int) (K:KF α) :
  eC k qn.u10.c (fr48 x0 x1 x2) K =
   qn.u10.f k x0 x1 x2 (fun y0 y1 y2=>K .normal (fr48 y0 y1 y2)) (fun y0=>K (.exit 0) (fr35 y0)):=
 (qn.u3.ok k x0 x1 x2 qn.u9.c K).trans
  (congrArg (fun z=>qn.u3.f k x0 x1 x2 z (fun y0=>K (.exit 0) (fr35 y0))) (funext fun y0=>(funext fun y1=>(funext fun y2=>qn.u9.ok k y0 y1 y2 K))))
theorem qn.u11.ls (k:Nat) (kx0:Sl->M α) (j:Nat) (x0 x1:Sl) (x2:Int):qn.u11.l k kx0 (j + 1) x0 x1 x2 =
 qn.u10.f k x0 x1 x2 (fun y0 y1 y2=>qn.u11.l k kx0 j y0 y1 y2) kx0:=rfl
theorem qn.u11.okl (k:Nat) (K:KF α):∀ (j:Nat) (x0 x1:Sl) (x2:Int),
  zr (eC k qn.u10.c) [0, 3, 4] j (fr48 x0 x1 x2) K = qn.u11.l k (fun y0=>K (.exit 0) (fr35 y0)) j x0 x1 x2
 | 0, _, _, _=>rfl
 | j + 1, x0, x1, x2=>by
   have h:=qn.u10.ok k x0 x1 x2 (seqK (fun ρ=>zr (eC k qn.u10.c) [0, 3, 4] j ρ K) K)
   simp only [zf, zh, zg, zd, qn.u11.okl k K j] at h
   exact (zo (by kernel_rfl) h).trans (qn.u11.ls k (fun y0=>K (.exit 0) (fr35 y0)) j x0 x1 x2).symm
theorem qn.u11.ok (k:Nat) (x0 x1:Sl) (x2:Int) (K:KF α) :
  eC k qn.u11.c (fr48 x0 x1 x2) K =
   qn.u11.f k x0 x1 x2 (fun y0=>K (.exit 0) (fr35 y0)):=
 jd.trans <| (zp (body:=eC k qn.u10.c) (keep:=[0, 3, 4]) (ρ:=(fr48 x0 x1 x2)) (ρ':=(fr48 x0 x1 x2)) (by kernel_rfl) k K).trans (qn.u11.okl k K k x0 x1 x2)
theorem qn.u12.ok (k:Nat) (x0 x1:Sl) (x2:Int) (K:KF α) :
  eC k qn.u12.c (fr48 x0 x1 x2) K =
   qn.u12.f k x0 x1 x2 (fun y0=>K .normal (fr35 y0)):=
 (zm.trans (qn.u11.ok k x0 x1 x2 (jf 0 K))).trans (by kernel_rfl)
theorem qn.u13.ok (k:Nat) (x0 x1:Sl) (K:KF α) :
  eC k qn.u13.c (fr33 x0 x1) K =
   qn.u13.f k x0 x1 (fun y0=>K .normal (fr35 y0)):=
 (qn.u2.ok k x0 x1 qn.u12.c K).trans
  (congrArg (fun z=>qn.u2.f k x0 x1 z) (funext fun y0=>(funext fun y1=>(funext fun y2=>qn.u12.ok k y0 y1 y2 K))))
theorem qn.u14.ok (k:Nat) (x0:Sl) (K:KF α) :
  eC k qn.u14.c (fr35 x0) K =
   qn.u14.f k x0 (fun y0=>K .ret (fr26 y0)):=by kernel_rfl
theorem qn.u15.ok (k:Nat) (x0 x1:Sl) (K:KF α) :
  eC k qn.u15.c (fr33 x0 x1) K =
   qn.u15.f k x0 x1 (fun y0=>K .ret (fr26 y0)):=
 by
  have h:=qn.u13.ok k x0 x1 (seqK (fun ρ=>eC k qn.u14.c ρ K) K)
  simp only [zd, zf, zh, zg, qn.u14.ok] at h
  exact zk h
theorem qn.u16.ok (k:Nat) (x0:Sl) (K:KF α) :
  eC k qn.u16.c (fr25 x0) K =
   qn.u16.f k x0 (fun y0=>K .ret (fr26 y0)):=
 (qn.u1.ok k x0 qn.u15.c K).trans
  (congrArg (fun z=>qn.u1.f k x0 z) (funext fun y0=>(funext fun y1=>qn.u15.ok k y0 y1 K)))
theorem qn.ok (k:Nat) (x0:Sl) (κ:Res->M α) :
  evF T (env k) k qn.c qn.res [.slice x0] κ = qn.f (k + 1) x0 (fun o0=>κ (.ret (.slice o0))):=
 (qn.u16.ok k x0 (retK T qn.res κ)).trans (by kernel_rfl)
theorem qn.code:qn.c.code = zy Tryd.f73:=by kernel_rfl
noncomputable def qx.c:IC:=qx.u9.c
noncomputable def qx.res:List ResultVar:=[(.tmp 6), (.tmp 7)]
theorem qx.u1.ok (k:Nat) (x0 x1:Sl) (x2:Int) (R:IC) (K:KF α) :
  eC k (qx.u1.c R) (fr52 x0 x1 x2) K =
   qx.u1.f k x0 x1 x2 (fun y0 y1 y2 y3=>eC k R (fr53 y0 y1 y2 y3) K):=by kernel_rfl
theorem qx.u2.ok (k:Nat) (x0 x1:Sl) (x2 x3:Int) (R:IC) (K:KF α) :
  eC k (qx.u2.c R) (fr53 x0 x1 x2 x3) K =
   qx.u2.f k x0 x1 x2 x3 (fun y0 y1 y2 y3 y4=>eC k R (fr54 y0 y1 y2 y3 y4) K):=by kernel_rfl
theorem qx.u3.ok (k:Nat) (x0 x1:Sl) (x2 x3 x4:Int) (K:KF α) :
  eC k qx.u3.c (fr54 x0 x1 x2 x3 x4) K =
   qx.u3.f k x0 x1 x2 x3 x4 (fun y0 y1 y2 y3 y4=>K .normal (fr54 y0 y1 y2 y3 y4)) (fun y0 y1=>K .ret (fr55 y0 y1)) (K (.exit 0) (za [])):=by kernel_rfl
theorem qx.u4.ls (k:Nat) (kr:Int->Int->M α) (kx0:M α) (j:Nat) (x0 x1:Sl) (x2 x3 x4:Int):qx.u4.l k kr kx0 (j + 1) x0 x1 x2 x3 x4 =
 qx.u3.f k x0 x1 x2 x3 x4 (fun y0 y1 y2 y3 y4=>qx.u4.l k kr kx0 j y0 y1 y2 y3 y4) kr kx0:=rfl
theorem qx.u4.okl (k:Nat) (K:KF α):∀ (j:Nat) (x0 x1:Sl) (x2 x3 x4:Int),
  zr (eC k qx.u3.c) [0, 1, 2, 8, 9] j (fr54 x0 x1 x2 x3 x4) K = qx.u4.l k (fun y0 y1=>K .ret (fr55 y0 y1)) (K (.exit 0) (za [])) j x0 x1 x2 x3 x4
 | 0, _, _, _, _, _=>rfl
 | j + 1, x0, x1, x2, x3, x4=>by
   have h:=qx.u3.ok k x0 x1 x2 x3 x4 (seqK (fun ρ=>zr (eC k qx.u3.c) [0, 1, 2, 8, 9] j ρ K) K)
   simp only [zf, zh, zg, zd, qx.u4.okl k K j] at h
   exact (zo (by kernel_rfl) h).trans (qx.u4.ls k (fun y0 y1=>K .ret (fr55 y0 y1)) (K (.exit 0) (za [])) j x0 x1 x2 x3 x4).symm
theorem qx.u4.ok (k:Nat) (x0 x1:Sl) (x2 x3 x4:Int) (K:KF α) :
  eC k qx.u4.c (fr54 x0 x1 x2 x3 x4) K =
   qx.u4.f k x0 x1 x2 x3 x4 (fun y0 y1=>K .ret (fr55 y0 y1)) (K (.exit 0) (za [])):=
 jd.trans <| (zp (body:=eC k qx.u3.c) (keep:=[0, 1, 2, 8, 9]) (ρ:=(fr54 x0 x1 x2 x3 x4)) (ρ':=(fr54 x0 x1 x2 x3 x4)) (by kernel_rfl) k K).trans (qx.u4.okl k K k x0 x1 x2 x3 x4)
theorem qx.u5.ok (k:Nat) (x0 x1:Sl) (x2 x3 x4:Int) (K:KF α) :
  eC k qx.u5.c (fr54 x0 x1 x2 x3 x4) K =
   qx.u5.f k x0 x1 x2 x3 x4 (K .normal (za [])) (fun y0 y1=>K .ret (fr55 y0 y1)):=
 (zm.trans (qx.u4.ok k x0 x1 x2 x3 x4 (jf 0 K))).trans (by kernel_rfl)
theorem qx.u6.ok (k:Nat) (x0 x1:Sl) (x2 x3:Int) (K:KF α) :
  eC k qx.u6.c (fr53 x0 x1 x2 x3) K =
   qx.u6.f k x0 x1 x2 x3 (K .normal (za [])) (fun y0 y1=>K .ret (fr55 y0 y1)):=
 (qx.u2.ok k x0 x1 x2 x3 qx.u5.c K).trans
  (congrArg (fun z=>qx.u2.f k x0 x1 x2 x3 z) (funext fun y0=>(funext fun y1=>(funext fun y2=>(funext fun y3=>(funext fun y4=>qx.u5.ok k y0 y1 y2 y3 y4 K))))))
theorem qx.u7.ok (k:Nat) (K:KF α) :
  eC k qx.u7.c (za []) K =
   qx.u7.f k (fun y0 y1=>K .ret (fr55 y0 y1)):=by kernel_rfl
theorem qx.u8.ok (k:Nat) (x0 x1:Sl) (x2 x3:Int) (K:KF α) :
  eC k qx.u8.c (fr53 x0 x1 x2 x3) K =
   qx.u8.f k x0 x1 x2 x3 (fun y0 y1=>K .ret (fr55 y0 y1)):=
 by
  have h:=qx.u6.ok k x0 x1 x2 x3 (seqK (fun ρ=>eC k qx.u7.c ρ K) K)
  simp only [zd, zf, zh, zg, qx.u7.ok] at h
  exact zk h
theorem qx.u9.ok (k:Nat) (x0 x1:Sl) (x2:Int) (K:KF α) :
  eC k qx.u9.c (fr52 x0 x1 x2) K =
   qx.u9.f k x0 x1 x2 (fun y0 y1=>K .ret (fr55 y0 y1)):=
 (qx.u1.ok k x0 x1 x2 qx.u8.c K).trans
  (congrArg (fun z=>qx.u1.f k x0 x1 x2 z) (funext fun y0=>(funext fun y1=>(funext fun y2=>(funext fun y3=>qx.u8.ok k y0 y1 y2 y3 K)))))
theorem qx.ok (k:Nat) (x0 x1:Sl) (x2:Int) (κ:Res->M α) :
  evF T (env k) k qx.c qx.res [.slice x0, .slice x1, .int .i64 x2] κ = qx.f (k + 1) x0 x1 x2 (fun o0 o1=>κ (.ret (.tuple [.int .i64 o0, .int .i64 o1]))):=
 (qx.u9.ok k x0 x1 x2 (retK T qx.res κ)).trans (by kernel_rfl)
theorem qx.code:qx.c.code = zy Tryd.f58:=by kernel_rfl
noncomputable def qf.c:IC:=qf.u24.c
noncomputable def qf.res:List ResultVar:=[(.tmp 2), (.tmp 3)]
theorem qf.u1.ok (k:Nat) (x0:Sl) (R:IC) (K:KF α) :
  eC k (qf.u1.c R) (fr25 x0) K =
   qf.u1.f k x0 (fun y0 y1 y2=>eC k R (fr56 y0 y1 y2) K) (fun y0 y1=>K .ret (fr36 y0 y1)):=by kernel_rfl
theorem qf.u2.ok (k:Nat) (x0 x1 x2:Sl) (R:IC) (K:KF α) :
  eC k (qf.u2.c R) (fr56 x0 x1 x2) K =
   qf.u2.f k x0 x1 x2 (fun y0 y1 y2 y3=>eC k R (fr57 y0 y1 y2 y3) K):=by kernel_rfl
theorem qf.u3.ok (k:Nat) (x0 x1 x2:Sl) (x3:Int) (R:IC) (K:KF α) :
  eC k (qf.u3.c R) (fr57 x0 x1 x2 x3) K =
   qf.u3.f k x0 x1 x2 x3 (fun y0 y1 y2 y3=>eC k R (fr57 y0 y1 y2 y3) K) (K (.exit 0) (za [])):=by kernel_rfl
theorem qf.u4.ok (k:Nat) (x0 x1 x2:Sl) (x3:Int) (R:IC) (K:KF α) :
  eC k (qf.u4.c R) (fr57 x0 x1 x2 x3) K =
   qf.u4.f k x0 x1 x2 x3 (fun y0 y1 y2 y3=>eC k R (fr57 y0 y1 y2 y3) K) (fun y0 y1=>K .ret (fr36 y0 y1)):=by kernel_rfl
theorem qf.u5.ok (k:Nat) (x0 x1 x2:Sl) (x3:Int) (R:IC) (K:KF α) :
  eC k (qf.u5.c R) (fr57 x0 x1 x2 x3) K =
   qf.u5.f k x0 x1 x2 x3 (fun y0 y1 y2 y3=>eC k R (fr57 y0 y1 y2 y3) K) (fun y0 y1 y2 y3=>K (.exit 1) (fr57 y0 y1 y2 y3)):=by kernel_rfl
theorem qf.u6.ok (k:Nat) (x0 x1 x2:Sl) (x3:Int) (R:IC) (K:KF α) :
  eC k (qf.u6.c R) (fr57 x0 x1 x2 x3) K =
   qf.u6.f k x0 x1 x2 x3 (fun y0 y1 y2 y3 y4=>eC k R (fr58 y0 y1 y2 y3 y4) K):=by kernel_rfl
theorem qf.u7.ok (k:Nat) (x0 x1 x2:Sl) (x3 x4:Int) (K:KF α) :
  eC k qf.u7.c (fr58 x0 x1 x2 x3 x4) K =
   qf.u7.f k x0 x1 x2 x3 x4 (fun y0 y1 y2 y3 y4=>K .normal (fr58 y0 y1 y2 y3 y4)) (fun y0 y1=>K .ret (fr36 y0 y1)) (fun y0 y1 y2 y3=>K (.exit 2) (fr57 y0 y1 y2 y3)):=by kernel_rfl
theorem qf.u8.ls (k:Nat) (kr:Int->Int->M α) (kx2:Sl->Sl->Sl->Int->M α) (j:Nat) (x0 x1 x2:Sl) (x3 x4:Int):qf.u8.l k kr kx2 (j + 1) x0 x1 x2 x3 x4 =
 qf.u7.f k x0 x1 x2 x3 x4 (fun y0 y1 y2 y3 y4=>qf.u8.l k kr kx2 j y0 y1 y2 y3 y4) kr kx2:=rfl
theorem qf.u8.okl (k:Nat) (K:KF α):∀ (j:Nat) (x0 x1 x2:Sl) (x3 x4:Int),
  zr (eC k qf.u7.c) [0, 5, 6, 7, 11] j (fr58 x0 x1 x2 x3 x4) K = qf.u8.l k (fun y0 y1=>K .ret (fr36 y0 y1)) (fun y0 y1 y2 y3=>K (.exit 2) (fr57 y0 y1 y2 y3)) j x0 x1 x2 x3 x4
 | 0, _, _, _, _, _=>rfl
 | j + 1, x0, x1, x2, x3, x4=>by
   have h:=qf.u7.ok k x0 x1 x2 x3 x4 (seqK (fun ρ=>zr (eC k qf.u7.c) [0, 5, 6, 7, 11] j ρ K) K)
   simp only [zf, zh, zg, zd, qf.u8.okl k K j] at h
   exact (zo (by kernel_rfl) h).trans (qf.u8.ls k (fun y0 y1=>K .ret (fr36 y0 y1)) (fun y0 y1 y2 y3=>K (.exit 2) (fr57 y0 y1 y2 y3)) j x0 x1 x2 x3 x4).symm
theorem qf.u8.ok (k:Nat) (x0 x1 x2:Sl) (x3 x4:Int) (K:KF α) :
  eC k qf.u8.c (fr58 x0 x1 x2 x3 x4) K =
   qf.u8.f k x0 x1 x2 x3 x4 (fun y0 y1=>K .ret (fr36 y0 y1)) (fun y0 y1 y2 y3=>K (.exit 2) (fr57 y0 y1 y2 y3)):=
 jd.trans <| (zp (body:=eC k qf.u7.c) (keep:=[0, 5, 6, 7, 11]) (ρ:=(fr58 x0 x1 x2 x3 x4)) (ρ':=(fr58 x0 x1 x2 x3 x4)) (by kernel_rfl) k K).trans (qf.u8.okl k K k x0 x1 x2 x3 x4)
theorem qf.u9.ok (k:Nat) (x0 x1 x2:Sl) (x3 x4:Int) (K:KF α) :
  eC k qf.u9.c (fr58 x0 x1 x2 x3 x4) K =
   qf.u9.f k x0 x1 x2 x3 x4 (fun y0 y1 y2 y3=>K .normal (fr57 y0 y1 y2 y3)) (fun y0 y1=>K .ret (fr36 y0 y1)):=
 (zm.trans (qf.u8.ok k x0 x1 x2 x3 x4 (jf 2 K))).trans (by kernel_rfl)
theorem qf.u10.ok (k:Nat) (x0 x1 x2:Sl) (x3:Int) (K:KF α) :
  eC k qf.u10.c (fr57 x0 x1 x2 x3) K =
   qf.u10.f k x0 x1 x2 x3 (fun y0 y1 y2 y3=>K .normal (fr57 y0 y1 y2 y3)) (fun y0 y1=>K .ret (fr36 y0 y1)):=
 (qf.u6.ok k x0 x1 x2 x3 qf.u9.c K).trans
  (congrArg (fun z=>qf.u6.f k x0 x1 x2 x3 z) (funext fun y0=>(funext fun y1=>(funext fun y2=>(funext fun y3=>(funext fun y4=>qf.u9.ok k y0 y1 y2 y3 y4 K))))))
theorem qf.u11.ok (k:Nat) (x0 x1 x2:Sl) (x3:Int) (K:KF α) :
  eC k qf.u11.c (fr57 x0 x1 x2 x3) K =
   qf.u11.f k x0 x1 x2 x3 (fun y0 y1 y2 y3=>K .normal (fr57 y0 y1 y2 y3)) (fun y0 y1=>K .ret (fr36 y0 y1)):=by kernel_rfl
theorem qf.u12.ok (k:Nat) (x0 x1 x2:Sl) (x3:Int) (K:KF α) :
  eC k qf.u12.c (fr57 x0 x1 x2 x3) K =
   qf.u12.f k x0 x1 x2 x3 (fun y0 y1 y2 y3=>K .normal (fr57 y0 y1 y2 y3)) (fun y0 y1=>K .ret (fr36 y0 y1)):=
 by
  have h:=qf.u10.ok k x0 x1 x2 x3 (seqK (fun ρ=>eC k qf.u11.c ρ K) K)
  simp only [zd, zf, zh, zg, qf.u11.ok] at h
  exact zk h
theorem qf.u13.ok (k:Nat) (x0 x1 x2:Sl) (x3:Int) (K:KF α) :
  eC k qf.u13.c (fr57 x0 x1 x2 x3) K =
   qf.u13.f k x0 x1 x2 x3 (fun y0 y1 y2 y3=>K .normal (fr57 y0 y1 y2 y3)) (fun y0 y1=>K .ret (fr36 y0 y1)) (fun y0 y1 y2 y3=>K (.exit 1) (fr57 y0 y1 y2 y3)):=
 (qf.u5.ok k x0 x1 x2 x3 qf.u12.c K).trans
  (congrArg (fun z=>qf.u5.f k x0 x1 x2 x3 z (fun y0 y1 y2 y3=>K (.exit 1) (fr57 y0 y1 y2 y3))) (funext fun y0=>(funext fun y1=>(funext fun y2=>(funext fun y3=>qf.u12.ok k y0 y1 y2 y3 K)))))
theorem qf.u14.ok (k:Nat) (x0 x1 x2:Sl) (x3:Int) (K:KF α) :
  eC k qf.u14.c (fr57 x0 x1 x2 x3) K =
   qf.u14.f k x0 x1 x2 x3 (fun y0 y1 y2 y3=>K .normal (fr57 y0 y1 y2 y3)) (fun y0 y1=>K .ret (fr36 y0 y1)) (fun y0 y1 y2 y3=>K (.exit 1) (fr57 y0 y1 y2 y3)):=
 (qf.u4.ok k x0 x1 x2 x3 qf.u13.c K).trans
  (congrArg (fun z=>qf.u4.f k x0 x1 x2 x3 z (fun y0 y1=>K .ret (fr36 y0 y1))) (funext fun y0=>(funext fun y1=>(funext fun y2=>(funext fun y3=>qf.u13.ok k y0 y1 y2 y3 K)))))
theorem qf.u15.ok (k:Nat) (x0 x1 x2:Sl) (x3:Int) (K:KF α) :
  eC k qf.u15.c (fr57 x0 x1 x2 x3) K =
   qf.u15.f k x0 x1 x2 x3 (fun y0 y1 y2 y3=>K .normal (fr57 y0 y1 y2 y3)) (fun y0 y1=>K .ret (fr36 y0 y1)):=
 (zm.trans (qf.u14.ok k x0 x1 x2 x3 (jf 1 K))).trans (by kernel_rfl)
theorem qf.u16.ok (k:Nat) (x0 x1 x2:Sl) (x3:Int) (K:KF α) :
  eC k qf.u16.c (fr57 x0 x1 x2 x3) K =
   qf.u16.f k x0 x1 x2 x3 (fun y0 y1 y2 y3=>K .normal (fr57 y0 y1 y2 y3)):=by kernel_rfl
theorem qf.u17.ok (k:Nat) (x0 x1 x2:Sl) (x3:Int) (K:KF α) :
  eC k qf.u17.c (fr57 x0 x1 x2 x3) K =
   qf.u17.f k x0 x1 x2 x3 (fun y0 y1 y2 y3=>K .normal (fr57 y0 y1 y2 y3)) (fun y0 y1=>K .ret (fr36 y0 y1)):=
 by
  have h:=qf.u15.ok k x0 x1 x2 x3 (seqK (fun ρ=>eC k qf.u16.c ρ K) K)
  simp only [zd, zf, zh, zg, qf.u16.ok] at h
  exact zk h
theorem qf.u18.ok (k:Nat) (x0 x1 x2:Sl) (x3:Int) (K:KF α) :
  eC k qf.u18.c (fr57 x0 x1 x2 x3) K =
   qf.u18.f k x0 x1 x2 x3 (fun y0 y1 y2 y3=>K .normal (fr57 y0 y1 y2 y3)) (fun y0 y1=>K .ret (fr36 y0 y1)) (K (.exit 0) (za [])):=
 (qf.u3.ok k x0 x1 x2 x3 qf.u17.c K).trans
  (congrArg (fun z=>qf.u3.f k x0 x1 x2 x3 z (K (.exit 0) (za []))) (funext fun y0=>(funext fun y1=>(funext fun y2=>(funext fun y3=>qf.u17.ok k y0 y1 y2 y3 K)))))
theorem qf.u19.ls (k:Nat) (kr:Int->Int->M α) (kx0:M α) (j:Nat) (x0 x1 x2:Sl) (x3:Int):qf.u19.l k kr kx0 (j + 1) x0 x1 x2 x3 =
 qf.u18.f k x0 x1 x2 x3 (fun y0 y1 y2 y3=>qf.u19.l k kr kx0 j y0 y1 y2 y3) kr kx0:=rfl
theorem qf.u19.okl (k:Nat) (K:KF α):∀ (j:Nat) (x0 x1 x2:Sl) (x3:Int),
  zr (eC k qf.u18.c) [0, 5, 6, 7] j (fr57 x0 x1 x2 x3) K = qf.u19.l k (fun y0 y1=>K .ret (fr36 y0 y1)) (K (.exit 0) (za [])) j x0 x1 x2 x3
 | 0, _, _, _, _=>rfl
 | j + 1, x0, x1, x2, x3=>by
   have h:=qf.u18.ok k x0 x1 x2 x3 (seqK (fun ρ=>zr (eC k qf.u18.c) [0, 5, 6, 7] j ρ K) K)
   simp only [zf, zh, zg, zd, qf.u19.okl k K j] at h
   exact (zo (by kernel_rfl) h).trans (qf.u19.ls k (fun y0 y1=>K .ret (fr36 y0 y1)) (K (.exit 0) (za [])) j x0 x1 x2 x3).symm
theorem qf.u19.ok (k:Nat) (x0 x1 x2:Sl) (x3:Int) (K:KF α) :
  eC k qf.u19.c (fr57 x0 x1 x2 x3) K =
   qf.u19.f k x0 x1 x2 x3 (fun y0 y1=>K .ret (fr36 y0 y1)) (K (.exit 0) (za [])):=
 jd.trans <| (zp (body:=eC k qf.u18.c) (keep:=[0, 5, 6, 7]) (ρ:=(fr57 x0 x1 x2 x3)) (ρ':=(fr57 x0 x1 x2 x3)) (by kernel_rfl) k K).trans (qf.u19.okl k K k x0 x1 x2 x3)
theorem qf.u20.ok (k:Nat) (x0 x1 x2:Sl) (x3:Int) (K:KF α) :
  eC k qf.u20.c (fr57 x0 x1 x2 x3) K =
   qf.u20.f k x0 x1 x2 x3 (K .normal (za [])) (fun y0 y1=>K .ret (fr36 y0 y1)):=
 (zm.trans (qf.u19.ok k x0 x1 x2 x3 (jf 0 K))).trans (by kernel_rfl)
theorem qf.u21.ok (k:Nat) (x0 x1 x2:Sl) (K:KF α) :
  eC k qf.u21.c (fr56 x0 x1 x2) K =
   qf.u21.f k x0 x1 x2 (K .normal (za [])) (fun y0 y1=>K .ret (fr36 y0 y1)):=
 (qf.u2.ok k x0 x1 x2 qf.u20.c K).trans
  (congrArg (fun z=>qf.u2.f k x0 x1 x2 z) (funext fun y0=>(funext fun y1=>(funext fun y2=>(funext fun y3=>qf.u20.ok k y0 y1 y2 y3 K)))))
theorem qf.u22.ok (k:Nat) (K:KF α) :
  eC k qf.u22.c (za []) K =
   qf.u22.f k (fun y0 y1=>K .ret (fr36 y0 y1)):=by kernel_rfl
theorem qf.u23.ok (k:Nat) (x0 x1 x2:Sl) (K:KF α) :
  eC k qf.u23.c (fr56 x0 x1 x2) K =
   qf.u23.f k x0 x1 x2 (fun y0 y1=>K .ret (fr36 y0 y1)):=
 by
  have h:=qf.u21.ok k x0 x1 x2 (seqK (fun ρ=>eC k qf.u22.c ρ K) K)
  simp only [zd, zf, zh, zg, qf.u22.ok] at h
  exact zk h
theorem qf.u24.ok (k:Nat) (x0:Sl) (K:KF α) :
  eC k qf.u24.c (fr25 x0) K =
   qf.u24.f k x0 (fun y0 y1=>K .ret (fr36 y0 y1)):=
 (qf.u1.ok k x0 qf.u23.c K).trans
  (congrArg (fun z=>qf.u1.f k x0 z (fun y0 y1=>K .ret (fr36 y0 y1))) (funext fun y0=>(funext fun y1=>(funext fun y2=>qf.u23.ok k y0 y1 y2 K))))
theorem qf.ok (k:Nat) (x0:Sl) (κ:Res->M α) :
  evF T (env k) k qf.c qf.res [.slice x0] κ = qf.f (k + 1) x0 (fun o0 o1=>κ (.ret (.tuple [.int .i64 o0, .int .i64 o1]))):=
 (qf.u24.ok k x0 (retK T qf.res κ)).trans (by kernel_rfl)
theorem qf.code:qf.c.code = zy Tryd.f56:=by kernel_rfl
noncomputable def qau.c:IC:=qau.u1.c
noncomputable def qau.res:List ResultVar:=[(.tmp 2)]
theorem qau.u1.ok (k:Nat) (x0:Sl) (K:KF α) :
  eC k qau.u1.c (fr25 x0) K =
   qau.u1.f k x0 (fun y0=>K .ret (fr18 y0)):=by kernel_rfl
theorem qau.ok (k:Nat) (x0:Sl) (κ:Res->M α) :
  evF T (env k) k qau.c qau.res [.slice x0] κ = qau.f (k + 1) x0 (fun o0=>κ (.ret (.bool o0))):=
 (qau.u1.ok k x0 (retK T qau.res κ)).trans (by kernel_rfl)
theorem qau.code:qau.c.code = zy Tryd.f38:=by kernel_rfl
noncomputable def qv.c:IC:=qv.u9.c
noncomputable def qv.res:List ResultVar:=[(.tmp 2)]
theorem qv.u1.ok (k:Nat) (x0:Sl) (R:IC) (K:KF α) :
  eC k (qv.u1.c R) (fr25 x0) K =
   qv.u1.f k x0 (fun y0=>eC k R (fr25 y0) K):=by kernel_rfl
theorem qv.u2.ok (k:Nat) (x0:Sl) (R:IC) (K:KF α) :
  eC k (qv.u2.c R) (fr25 x0) K =
   qv.u2.f k x0 (fun y0 y1=>eC k R (fr59 y0 y1) K):=by kernel_rfl
theorem qv.u3.ok (k:Nat) (x0:Sl) (x1:Int) (K:KF α) :
  eC k qv.u3.c (fr59 x0 x1) K =
   qv.u3.f k x0 x1 (fun y0 y1=>K .normal (fr59 y0 y1)) (fun y0=>K .ret (fr18 y0)) (fun y0=>K (.exit 0) (fr25 y0)):=by kernel_rfl
theorem qv.u4.ls (k:Nat) (kr:Bool->M α) (kx0:Sl->M α) (j:Nat) (x0:Sl) (x1:Int):qv.u4.l k kr kx0 (j + 1) x0 x1 =
 qv.u3.f k x0 x1 (fun y0 y1=>qv.u4.l k kr kx0 j y0 y1) kr kx0:=rfl
theorem qv.u4.okl (k:Nat) (K:KF α):∀ (j:Nat) (x0:Sl) (x1:Int),
  zr (eC k qv.u3.c) [0, 3] j (fr59 x0 x1) K = qv.u4.l k (fun y0=>K .ret (fr18 y0)) (fun y0=>K (.exit 0) (fr25 y0)) j x0 x1
 | 0, _, _=>rfl
 | j + 1, x0, x1=>by
   have h:=qv.u3.ok k x0 x1 (seqK (fun ρ=>zr (eC k qv.u3.c) [0, 3] j ρ K) K)
   simp only [zf, zh, zg, zd, qv.u4.okl k K j] at h
   exact (zo (by kernel_rfl) h).trans (qv.u4.ls k (fun y0=>K .ret (fr18 y0)) (fun y0=>K (.exit 0) (fr25 y0)) j x0 x1).symm
theorem qv.u4.ok (k:Nat) (x0:Sl) (x1:Int) (K:KF α) :
  eC k qv.u4.c (fr59 x0 x1) K =
   qv.u4.f k x0 x1 (fun y0=>K .ret (fr18 y0)) (fun y0=>K (.exit 0) (fr25 y0)):=
 jd.trans <| (zp (body:=eC k qv.u3.c) (keep:=[0, 3]) (ρ:=(fr59 x0 x1)) (ρ':=(fr59 x0 x1)) (by kernel_rfl) k K).trans (qv.u4.okl k K k x0 x1)
theorem qv.u5.ok (k:Nat) (x0:Sl) (x1:Int) (K:KF α) :
  eC k qv.u5.c (fr59 x0 x1) K =
   qv.u5.f k x0 x1 (fun y0=>K .normal (fr25 y0)) (fun y0=>K .ret (fr18 y0)):=
 (zm.trans (qv.u4.ok k x0 x1 (jf 0 K))).trans (by kernel_rfl)
theorem qv.u6.ok (k:Nat) (x0:Sl) (K:KF α) :
  eC k qv.u6.c (fr25 x0) K =
   qv.u6.f k x0 (fun y0=>K .normal (fr25 y0)) (fun y0=>K .ret (fr18 y0)):=
 (qv.u2.ok k x0 qv.u5.c K).trans
  (congrArg (fun z=>qv.u2.f k x0 z) (funext fun y0=>(funext fun y1=>qv.u5.ok k y0 y1 K)))
theorem qv.u7.ok (k:Nat) (x0:Sl) (K:KF α) :
  eC k qv.u7.c (fr25 x0) K =
   qv.u7.f k x0 (fun y0=>K .ret (fr18 y0)):=by kernel_rfl
theorem qv.u8.ok (k:Nat) (x0:Sl) (K:KF α) :
  eC k qv.u8.c (fr25 x0) K =
   qv.u8.f k x0 (fun y0=>K .ret (fr18 y0)):=
 by
  have h:=qv.u6.ok k x0 (seqK (fun ρ=>eC k qv.u7.c ρ K) K)
  simp only [zd, zf, zh, zg, qv.u7.ok] at h
  exact zk h
theorem qv.u9.ok (k:Nat) (x0:Sl) (K:KF α) :
  eC k qv.u9.c (fr25 x0) K =
   qv.u9.f k x0 (fun y0=>K .ret (fr18 y0)):=
 (qv.u1.ok k x0 qv.u8.c K).trans
  (congrArg (fun z=>qv.u1.f k x0 z) (funext fun y0=>qv.u8.ok k y0 K))
theorem qv.ok (k:Nat) (x0:Sl) (κ:Res->M α) :
  evF T (env k) k qv.c qv.res [.slice x0] κ = qv.f (k + 1) x0 (fun o0=>κ (.ret (.bool o0))):=
 (qv.u9.ok k x0 (retK T qv.res κ)).trans (by kernel_rfl)
theorem qv.code:qv.c.code = zy Tryd.f19:=by kernel_rfl
noncomputable def qy.c:IC:=qy.u9.c
noncomputable def qy.res:List ResultVar:=[(.tmp 2)]
theorem qy.u1.ok (k:Nat) (x0:Sl) (R:IC) (K:KF α) :
  eC k (qy.u1.c R) (fr25 x0) K =
   qy.u1.f k x0 (fun y0 y1 y2=>eC k R (fr60 y0 y1 y2) K) (fun y0=>K .ret (fr26 y0)):=by kernel_rfl
theorem qy.u2.ok (k:Nat) (x0 x1 x2:Sl) (R:IC) (K:KF α) :
  eC k (qy.u2.c R) (fr60 x0 x1 x2) K =
   qy.u2.f k x0 x1 x2 (fun y0 y1 y2 y3=>eC k R (fr61 y0 y1 y2 y3) K):=by kernel_rfl
theorem qy.u3.ok (k:Nat) (x0 x1 x2:Sl) (x3:Int) (K:KF α) :
  eC k qy.u3.c (fr61 x0 x1 x2 x3) K =
   qy.u3.f k x0 x1 x2 x3 (fun y0 y1 y2 y3=>K .normal (fr61 y0 y1 y2 y3)) (fun y0=>K (.exit 0) (fr62 y0)):=by kernel_rfl
theorem qy.u4.ls (k:Nat) (kx0:Sl->M α) (j:Nat) (x0 x1 x2:Sl) (x3:Int):qy.u4.l k kx0 (j + 1) x0 x1 x2 x3 =
 qy.u3.f k x0 x1 x2 x3 (fun y0 y1 y2 y3=>qy.u4.l k kx0 j y0 y1 y2 y3) kx0:=rfl
theorem qy.u4.okl (k:Nat) (K:KF α):∀ (j:Nat) (x0 x1 x2:Sl) (x3:Int),
  zr (eC k qy.u3.c) [0, 4, 5, 6] j (fr61 x0 x1 x2 x3) K = qy.u4.l k (fun y0=>K (.exit 0) (fr62 y0)) j x0 x1 x2 x3
 | 0, _, _, _, _=>rfl
 | j + 1, x0, x1, x2, x3=>by
   have h:=qy.u3.ok k x0 x1 x2 x3 (seqK (fun ρ=>zr (eC k qy.u3.c) [0, 4, 5, 6] j ρ K) K)
   simp only [zf, zh, zg, zd, qy.u4.okl k K j] at h
   exact (zo (by kernel_rfl) h).trans (qy.u4.ls k (fun y0=>K (.exit 0) (fr62 y0)) j x0 x1 x2 x3).symm
theorem qy.u4.ok (k:Nat) (x0 x1 x2:Sl) (x3:Int) (K:KF α) :
  eC k qy.u4.c (fr61 x0 x1 x2 x3) K =
   qy.u4.f k x0 x1 x2 x3 (fun y0=>K (.exit 0) (fr62 y0)):=
 jd.trans <| (zp (body:=eC k qy.u3.c) (keep:=[0, 4, 5, 6]) (ρ:=(fr61 x0 x1 x2 x3)) (ρ':=(fr61 x0 x1 x2 x3)) (by kernel_rfl) k K).trans (qy.u4.okl k K k x0 x1 x2 x3)
theorem qy.u5.ok (k:Nat) (x0 x1 x2:Sl) (x3:Int) (K:KF α) :
  eC k qy.u5.c (fr61 x0 x1 x2 x3) K =
   qy.u5.f k x0 x1 x2 x3 (fun y0=>K .normal (fr62 y0)):=
 (zm.trans (qy.u4.ok k x0 x1 x2 x3 (jf 0 K))).trans (by kernel_rfl)
theorem qy.u6.ok (k:Nat) (x0 x1 x2:Sl) (K:KF α) :
  eC k qy.u6.c (fr60 x0 x1 x2) K =
   qy.u6.f k x0 x1 x2 (fun y0=>K .normal (fr62 y0)):=
 (qy.u2.ok k x0 x1 x2 qy.u5.c K).trans
  (congrArg (fun z=>qy.u2.f k x0 x1 x2 z) (funext fun y0=>(funext fun y1=>(funext fun y2=>(funext fun y3=>qy.u5.ok k y0 y1 y2 y3 K)))))
theorem qy.u7.ok (k:Nat) (x0:Sl) (K:KF α) :
  eC k qy.u7.c (fr62 x0) K =
   qy.u7.f k x0 (fun y0=>K .ret (fr26 y0)):=by kernel_rfl
theorem qy.u8.ok (k:Nat) (x0 x1 x2:Sl) (K:KF α) :
  eC k qy.u8.c (fr60 x0 x1 x2) K =
   qy.u8.f k x0 x1 x2 (fun y0=>K .ret (fr26 y0)):=
 by
  have h:=qy.u6.ok k x0 x1 x2 (seqK (fun ρ=>eC k qy.u7.c ρ K) K)
  simp only [zd, zf, zh, zg, qy.u7.ok] at h
  exact zk h
theorem qy.u9.ok (k:Nat) (x0:Sl) (K:KF α) :
  eC k qy.u9.c (fr25 x0) K =
   qy.u9.f k x0 (fun y0=>K .ret (fr26 y0)):=
 (qy.u1.ok k x0 qy.u8.c K).trans
  (congrArg (fun z=>qy.u1.f k x0 z (fun y0=>K .ret (fr26 y0))) (funext fun y0=>(funext fun y1=>(funext fun y2=>qy.u8.ok k y0 y1 y2 K))))
theorem qy.ok (k:Nat) (x0:Sl) (κ:Res->M α) :
  evF T (env k) k qy.c qy.res [.slice x0] κ = qy.f (k + 1) x0 (fun o0=>κ (.ret (.slice o0))):=
 (qy.u9.ok k x0 (retK T qy.res κ)).trans (by kernel_rfl)
theorem qy.code:qy.c.code = zy Tryd.f40:=by kernel_rfl
noncomputable def qbh.c:IC:=qbh.u1.c
noncomputable def qbh.res:List ResultVar:=[(.tmp 2)]
theorem qbh.u1.ok (k:Nat) (x0:Sl) (K:KF α) :
  eC k qbh.u1.c (fr25 x0) K =
   qbh.u1.f k x0 (fun y0=>K .ret (fr26 y0)):=by kernel_rfl
theorem qbh.ok (k:Nat) (x0:Sl) (κ:Res->M α) :
  evF T (env k) k qbh.c qbh.res [.slice x0] κ = qbh.f (k + 1) x0 (fun o0=>κ (.ret (.slice o0))):=
 (qbh.u1.ok k x0 (retK T qbh.res κ)).trans (by kernel_rfl)
theorem qbh.code:qbh.c.code = zy Tryd.f21:=by kernel_rfl
noncomputable def qag.c:IC:=qag.u7.c
noncomputable def qag.res:List ResultVar:=[(.tmp 6)]
theorem qag.u1.ok (k:Nat) (x0:Sl) (x1 x2:Int) (R:IC) (K:KF α) :
  eC k (qag.u1.c R) (fr63 x0 x1 x2) K =
   qag.u1.f k x0 x1 x2 (fun y0 y1 y2=>eC k R (fr63 y0 y1 y2) K):=by kernel_rfl
theorem qag.u2.ok (k:Nat) (x0:Sl) (x1 x2:Int) (K:KF α) :
  eC k qag.u2.c (fr63 x0 x1 x2) K =
   qag.u2.f k x0 x1 x2 (fun y0 y1 y2=>K .normal (fr63 y0 y1 y2)) (fun y0=>K .ret (fr28 y0)) (K (.exit 0) (za [])):=by kernel_rfl
theorem qag.u3.ls (k:Nat) (kr:Bool->M α) (kx0:M α) (j:Nat) (x0:Sl) (x1 x2:Int):qag.u3.l k kr kx0 (j + 1) x0 x1 x2 =
 qag.u2.f k x0 x1 x2 (fun y0 y1 y2=>qag.u3.l k kr kx0 j y0 y1 y2) kr kx0:=rfl
theorem qag.u3.okl (k:Nat) (K:KF α):∀ (j:Nat) (x0:Sl) (x1 x2:Int),
  zr (eC k qag.u2.c) [0, 1, 2] j (fr63 x0 x1 x2) K = qag.u3.l k (fun y0=>K .ret (fr28 y0)) (K (.exit 0) (za [])) j x0 x1 x2
 | 0, _, _, _=>rfl
 | j + 1, x0, x1, x2=>by
   have h:=qag.u2.ok k x0 x1 x2 (seqK (fun ρ=>zr (eC k qag.u2.c) [0, 1, 2] j ρ K) K)
   simp only [zf, zh, zg, zd, qag.u3.okl k K j] at h
   exact (zo (by kernel_rfl) h).trans (qag.u3.ls k (fun y0=>K .ret (fr28 y0)) (K (.exit 0) (za [])) j x0 x1 x2).symm
theorem qag.u3.ok (k:Nat) (x0:Sl) (x1 x2:Int) (K:KF α) :
  eC k qag.u3.c (fr63 x0 x1 x2) K =
   qag.u3.f k x0 x1 x2 (fun y0=>K .ret (fr28 y0)) (K (.exit 0) (za [])):=
 jd.trans <| (zp (body:=eC k qag.u2.c) (keep:=[0, 1, 2]) (ρ:=(fr63 x0 x1 x2)) (ρ':=(fr63 x0 x1 x2)) (by kernel_rfl) k K).trans (qag.u3.okl k K k x0 x1 x2)
theorem qag.u4.ok (k:Nat) (x0:Sl) (x1 x2:Int) (K:KF α) :
  eC k qag.u4.c (fr63 x0 x1 x2) K =
   qag.u4.f k x0 x1 x2 (K .normal (za [])) (fun y0=>K .ret (fr28 y0)):=
 (zm.trans (qag.u3.ok k x0 x1 x2 (jf 0 K))).trans (by kernel_rfl)
theorem qag.u5.ok (k:Nat) (K:KF α) :
  eC k qag.u5.c (za []) K =
   qag.u5.f k (fun y0=>K .ret (fr28 y0)):=by kernel_rfl
theorem qag.u6.ok (k:Nat) (x0:Sl) (x1 x2:Int) (K:KF α) :
  eC k qag.u6.c (fr63 x0 x1 x2) K =
   qag.u6.f k x0 x1 x2 (fun y0=>K .ret (fr28 y0)):=
 by
  have h:=qag.u4.ok k x0 x1 x2 (seqK (fun ρ=>eC k qag.u5.c ρ K) K)
  simp only [zd, zf, zh, zg, qag.u5.ok] at h
  exact zk h
theorem qag.u7.ok (k:Nat) (x0:Sl) (x1 x2:Int) (K:KF α) :
  eC k qag.u7.c (fr63 x0 x1 x2) K =
   qag.u7.f k x0 x1 x2 (fun y0=>K .ret (fr28 y0)):=
 (qag.u1.ok k x0 x1 x2 qag.u6.c K).trans
  (congrArg (fun z=>qag.u1.f k x0 x1 x2 z) (funext fun y0=>(funext fun y1=>(funext fun y2=>qag.u6.ok k y0 y1 y2 K))))
theorem qag.ok (k:Nat) (x0:Sl) (x1 x2:Int) (κ:Res->M α) :
  evF T (env k) k qag.c qag.res [.slice x0, .int .i64 x1, .int .i64 x2] κ = qag.f (k + 1) x0 x1 x2 (fun o0=>κ (.ret (.bool o0))):=
 (qag.u7.ok k x0 x1 x2 (retK T qag.res κ)).trans (by kernel_rfl)
theorem qag.code:qag.c.code = zy Tryd.f22:=by kernel_rfl
noncomputable def qi.c:IC:=qi.u22.c
noncomputable def qi.res:List ResultVar:=[(.tmp 2)]
theorem qi.u1.ok (k:Nat) (x0:Sl) (R:IC) (K:KF α) :
  eC k (qi.u1.c R) (fr25 x0) K =
   qi.u1.f k x0 (fun y0 y1 y2 y3=>eC k R (fr64 y0 y1 y2 y3) K) (fun y0=>K .ret (fr26 y0)):=by kernel_rfl
theorem qi.u2.ok (k:Nat) (x0 x1:Sl) (x2 x3:Sl) (R:IC) (K:KF α) :
  eC k (qi.u2.c R) (fr64 x0 x1 x2 x3) K =
   qi.u2.f k x0 x1 x2 x3 (fun y0 y1 y2 y3 y4=>eC k R (fr65 y0 y1 y2 y3 y4) K):=by kernel_rfl
theorem qi.u3.ok (k:Nat) (x0 x1:Sl) (x2 x3:Sl) (x4:Int) (R:IC) (K:KF α) :
  eC k (qi.u3.c R) (fr65 x0 x1 x2 x3 x4) K =
   qi.u3.f k x0 x1 x2 x3 x4 (fun y0 y1 y2 y3 y4=>eC k R (fr65 y0 y1 y2 y3 y4) K) (fun y0=>K (.exit 0) (fr66 y0)):=by kernel_rfl
theorem qi.u4.ok (k:Nat) (x0 x1:Sl) (x2 x3:Sl) (x4:Int) (R:IC) (K:KF α) :
  eC k (qi.u4.c R) (fr65 x0 x1 x2 x3 x4) K =
   qi.u4.f k x0 x1 x2 x3 x4 (fun y0 y1 y2 y3 y4 y5=>eC k R (fr67 y0 y1 y2 y3 y4 y5) K):=by kernel_rfl
theorem qi.u5.ok (k:Nat) (x0 x1:Sl) (x2 x3:Sl) (x4 x5:Int) (R:IC) (K:KF α) :
  eC k (qi.u5.c R) (fr67 x0 x1 x2 x3 x4 x5) K =
   qi.u5.f k x0 x1 x2 x3 x4 x5 (fun y0 y1 y2 y3 y4 y5 y6=>eC k R (fr68 y0 y1 y2 y3 y4 y5 y6) K):=by kernel_rfl
theorem qi.u6.ok (k:Nat) (x0 x1:Sl) (x2 x3:Sl) (x4 x5 x6:Int) (K:KF α) :
  eC k qi.u6.c (fr68 x0 x1 x2 x3 x4 x5 x6) K =
   qi.u6.f k x0 x1 x2 x3 x4 x5 x6 (fun y0 y1 y2 y3 y4 y5 y6=>K .normal (fr68 y0 y1 y2 y3 y4 y5 y6)) (fun y0 y1 y2 y3 y4 y5=>K (.exit 2) (fr67 y0 y1 y2 y3 y4 y5)):=by kernel_rfl
theorem qi.u7.ls (k:Nat) (kx2:Sl->Sl->Sl->Sl->Int->Int->M α) (j:Nat) (x0 x1:Sl) (x2 x3:Sl) (x4 x5 x6:Int):qi.u7.l k kx2 (j + 1) x0 x1 x2 x3 x4 x5 x6 =
 qi.u6.f k x0 x1 x2 x3 x4 x5 x6 (fun y0 y1 y2 y3 y4 y5 y6=>qi.u7.l k kx2 j y0 y1 y2 y3 y4 y5 y6) kx2:=rfl
theorem qi.u7.okl (k:Nat) (K:KF α):∀ (j:Nat) (x0 x1:Sl) (x2 x3:Sl) (x4 x5 x6:Int),
  zr (eC k qi.u6.c) [0, 4, 5, 6, 7, 8, 9] j (fr68 x0 x1 x2 x3 x4 x5 x6) K = qi.u7.l k (fun y0 y1 y2 y3 y4 y5=>K (.exit 2) (fr67 y0 y1 y2 y3 y4 y5)) j x0 x1 x2 x3 x4 x5 x6
 | 0, _, _, _, _, _, _, _=>rfl
 | j + 1, x0, x1, x2, x3, x4, x5, x6=>by
   have h:=qi.u6.ok k x0 x1 x2 x3 x4 x5 x6 (seqK (fun ρ=>zr (eC k qi.u6.c) [0, 4, 5, 6, 7, 8, 9] j ρ K) K)
   simp only [zf, zh, zg, zd, qi.u7.okl k K j] at h
   exact (zo (by kernel_rfl) h).trans (qi.u7.ls k (fun y0 y1 y2 y3 y4 y5=>K (.exit 2) (fr67 y0 y1 y2 y3 y4 y5)) j x0 x1 x2 x3 x4 x5 x6).symm
theorem qi.u7.ok (k:Nat) (x0 x1:Sl) (x2 x3:Sl) (x4 x5 x6:Int) (K:KF α) :
  eC k qi.u7.c (fr68 x0 x1 x2 x3 x4 x5 x6) K =
   qi.u7.f k x0 x1 x2 x3 x4 x5 x6 (fun y0 y1 y2 y3 y4 y5=>K (.exit 2) (fr67 y0 y1 y2 y3 y4 y5)):=
 jd.trans <| (zp (body:=eC k qi.u6.c) (keep:=[0, 4, 5, 6, 7, 8, 9]) (ρ:=(fr68 x0 x1 x2 x3 x4 x5 x6)) (ρ':=(fr68 x0 x1 x2 x3 x4 x5 x6)) (by kernel_rfl) k K).trans (qi.u7.okl k K k x0 x1 x2 x3 x4 x5 x6)
theorem qi.u8.ok (k:Nat) (x0 x1:Sl) (x2 x3:Sl) (x4 x5 x6:Int) (K:KF α) :
  eC k qi.u8.c (fr68 x0 x1 x2 x3 x4 x5 x6) K =
   qi.u8.f k x0 x1 x2 x3 x4 x5 x6 (fun y0 y1 y2 y3 y4 y5=>K .normal (fr67 y0 y1 y2 y3 y4 y5)):=
 (zm.trans (qi.u7.ok k x0 x1 x2 x3 x4 x5 x6 (jf 2 K))).trans (by kernel_rfl)
theorem qi.u9.ok (k:Nat) (x0 x1:Sl) (x2 x3:Sl) (x4 x5:Int) (K:KF α) :
  eC k qi.u9.c (fr67 x0 x1 x2 x3 x4 x5) K =
   qi.u9.f k x0 x1 x2 x3 x4 x5 (fun y0 y1 y2 y3 y4 y5=>K .normal (fr67 y0 y1 y2 y3 y4 y5)):=
 (qi.u5.ok k x0 x1 x2 x3 x4 x5 qi.u8.c K).trans
  (congrArg (fun z=>qi.u5.f k x0 x1 x2 x3 x4 x5 z) (funext fun y0=>(funext fun y1=>(funext fun y2=>(funext fun y3=>(funext fun y4=>(funext fun y5=>(funext fun y6=>qi.u8.ok k y0 y1 y2 y3 y4 y5 y6 K))))))))
theorem qi.u10.ok (k:Nat) (x0 x1:Sl) (x2 x3:Sl) (x4 x5:Int) (K:KF α) :
  eC k qi.u10.c (fr67 x0 x1 x2 x3 x4 x5) K =
   qi.u10.f k x0 x1 x2 x3 x4 x5 (fun y0 y1 y2 y3 y4=>K .normal (fr65 y0 y1 y2 y3 y4)):=by kernel_rfl
theorem qi.u11.ok (k:Nat) (x0 x1:Sl) (x2 x3:Sl) (x4 x5:Int) (K:KF α) :
  eC k qi.u11.c (fr67 x0 x1 x2 x3 x4 x5) K =
   qi.u11.f k x0 x1 x2 x3 x4 x5 (fun y0 y1 y2 y3 y4=>K .normal (fr65 y0 y1 y2 y3 y4)):=
 by
  have h:=qi.u9.ok k x0 x1 x2 x3 x4 x5 (seqK (fun ρ=>eC k qi.u10.c ρ K) K)
  simp only [zd, zf, zh, zg, qi.u10.ok] at h
  exact zk h
theorem qi.u12.ok (k:Nat) (x0 x1:Sl) (x2 x3:Sl) (x4:Int) (K:KF α) :
  eC k qi.u12.c (fr65 x0 x1 x2 x3 x4) K =
   qi.u12.f k x0 x1 x2 x3 x4 (fun y0 y1 y2 y3 y4=>K .normal (fr65 y0 y1 y2 y3 y4)):=
 (qi.u4.ok k x0 x1 x2 x3 x4 qi.u11.c K).trans
  (congrArg (fun z=>qi.u4.f k x0 x1 x2 x3 x4 z) (funext fun y0=>(funext fun y1=>(funext fun y2=>(funext fun y3=>(funext fun y4=>(funext fun y5=>qi.u11.ok k y0 y1 y2 y3 y4 y5 K)))))))
theorem qi.u13.ok (k:Nat) (x0 x1:Sl) (x2 x3:Sl) (x4:Int) (K:KF α) :
  eC k qi.u13.c (fr65 x0 x1 x2 x3 x4) K =
   qi.u13.f k x0 x1 x2 x3 x4 (fun y0 y1 y2 y3 y4=>K .normal (fr65 y0 y1 y2 y3 y4)):=
 (zm.trans (qi.u12.ok k x0 x1 x2 x3 x4 (jf 1 K))).trans (by kernel_rfl)
theorem qi.u14.ok (k:Nat) (x0 x1:Sl) (x2 x3:Sl) (x4:Int) (K:KF α) :
  eC k qi.u14.c (fr65 x0 x1 x2 x3 x4) K =
   qi.u14.f k x0 x1 x2 x3 x4 (fun y0 y1 y2 y3 y4=>K .normal (fr65 y0 y1 y2 y3 y4)):=by kernel_rfl
theorem qi.u15.ok (k:Nat) (x0 x1:Sl) (x2 x3:Sl) (x4:Int) (K:KF α) :
  eC k qi.u15.c (fr65 x0 x1 x2 x3 x4) K =
   qi.u15.f k x0 x1 x2 x3 x4 (fun y0 y1 y2 y3 y4=>K .normal (fr65 y0 y1 y2 y3 y4)):=
 by
  have h:=qi.u13.ok k x0 x1 x2 x3 x4 (seqK (fun ρ=>eC k qi.u14.c ρ K) K)
  simp only [zd, zf, zh, zg, qi.u14.ok] at h
  exact zk h
theorem qi.u16.ok (k:Nat) (x0 x1:Sl) (x2 x3:Sl) (x4:Int) (K:KF α) :
  eC k qi.u16.c (fr65 x0 x1 x2 x3 x4) K =
   qi.u16.f k x0 x1 x2 x3 x4 (fun y0 y1 y2 y3 y4=>K .normal (fr65 y0 y1 y2 y3 y4)) (fun y0=>K (.exit 0) (fr66 y0)):=
 (qi.u3.ok k x0 x1 x2 x3 x4 qi.u15.c K).trans
  (congrArg (fun z=>qi.u3.f k x0 x1 x2 x3 x4 z (fun y0=>K (.exit 0) (fr66 y0))) (funext fun y0=>(funext fun y1=>(funext fun y2=>(funext fun y3=>(funext fun y4=>qi.u15.ok k y0 y1 y2 y3 y4 K))))))
theorem qi.u17.ls (k:Nat) (kx0:Sl->M α) (j:Nat) (x0 x1:Sl) (x2 x3:Sl) (x4:Int):qi.u17.l k kx0 (j + 1) x0 x1 x2 x3 x4 =
 qi.u16.f k x0 x1 x2 x3 x4 (fun y0 y1 y2 y3 y4=>qi.u17.l k kx0 j y0 y1 y2 y3 y4) kx0:=rfl
theorem qi.u17.okl (k:Nat) (K:KF α):∀ (j:Nat) (x0 x1:Sl) (x2 x3:Sl) (x4:Int),
  zr (eC k qi.u16.c) [0, 4, 5, 6, 7] j (fr65 x0 x1 x2 x3 x4) K = qi.u17.l k (fun y0=>K (.exit 0) (fr66 y0)) j x0 x1 x2 x3 x4
 | 0, _, _, _, _, _=>rfl
 | j + 1, x0, x1, x2, x3, x4=>by
   have h:=qi.u16.ok k x0 x1 x2 x3 x4 (seqK (fun ρ=>zr (eC k qi.u16.c) [0, 4, 5, 6, 7] j ρ K) K)
   simp only [zf, zh, zg, zd, qi.u17.okl k K j] at h
   exact (zo (by kernel_rfl) h).trans (qi.u17.ls k (fun y0=>K (.exit 0) (fr66 y0)) j x0 x1 x2 x3 x4).symm
theorem qi.u17.ok (k:Nat) (x0 x1:Sl) (x2 x3:Sl) (x4:Int) (K:KF α) :
  eC k qi.u17.c (fr65 x0 x1 x2 x3 x4) K =
   qi.u17.f k x0 x1 x2 x3 x4 (fun y0=>K (.exit 0) (fr66 y0)):=
 jd.trans <| (zp (body:=eC k qi.u16.c) (keep:=[0, 4, 5, 6, 7]) (ρ:=(fr65 x0 x1 x2 x3 x4)) (ρ':=(fr65 x0 x1 x2 x3 x4)) (by kernel_rfl) k K).trans (qi.u17.okl k K k x0 x1 x2 x3 x4)
theorem qi.u18.ok (k:Nat) (x0 x1:Sl) (x2 x3:Sl) (x4:Int) (K:KF α) :
  eC k qi.u18.c (fr65 x0 x1 x2 x3 x4) K =
   qi.u18.f k x0 x1 x2 x3 x4 (fun y0=>K .normal (fr66 y0)):=
 (zm.trans (qi.u17.ok k x0 x1 x2 x3 x4 (jf 0 K))).trans (by kernel_rfl)
theorem qi.u19.ok (k:Nat) (x0 x1:Sl) (x2 x3:Sl) (K:KF α) :
  eC k qi.u19.c (fr64 x0 x1 x2 x3) K =
   qi.u19.f k x0 x1 x2 x3 (fun y0=>K .normal (fr66 y0)):=
 (qi.u2.ok k x0 x1 x2 x3 qi.u18.c K).trans
  (congrArg (fun z=>qi.u2.f k x0 x1 x2 x3 z) (funext fun y0=>(funext fun y1=>(funext fun y2=>(funext fun y3=>(funext fun y4=>qi.u18.ok k y0 y1 y2 y3 y4 K))))))
theorem qi.u20.ok (k:Nat) (x0:Sl) (K:KF α) :
  eC k qi.u20.c (fr66 x0) K =
   qi.u20.f k x0 (fun y0=>K .ret (fr26 y0)):=by kernel_rfl
theorem qi.u21.ok (k:Nat) (x0 x1:Sl) (x2 x3:Sl) (K:KF α) :
  eC k qi.u21.c (fr64 x0 x1 x2 x3) K =
   qi.u21.f k x0 x1 x2 x3 (fun y0=>K .ret (fr26 y0)):=
 by
  have h:=qi.u19.ok k x0 x1 x2 x3 (seqK (fun ρ=>eC k qi.u20.c ρ K) K)
  simp only [zd, zf, zh, zg, qi.u20.ok] at h
  exact zk h
theorem qi.u22.ok (k:Nat) (x0:Sl) (K:KF α) :
  eC k qi.u22.c (fr25 x0) K =
   qi.u22.f k x0 (fun y0=>K .ret (fr26 y0)):=
 (qi.u1.ok k x0 qi.u21.c K).trans
  (congrArg (fun z=>qi.u1.f k x0 z (fun y0=>K .ret (fr26 y0))) (funext fun y0=>(funext fun y1=>(funext fun y2=>(funext fun y3=>qi.u21.ok k y0 y1 y2 y3 K)))))
theorem qi.ok (k:Nat) (x0:Sl) (κ:Res->M α) :
  evF T (env k) k qi.c qi.res [.slice x0] κ = qi.f (k + 1) x0 (fun o0=>κ (.ret (.slice o0))):=
 (qi.u22.ok k x0 (retK T qi.res κ)).trans (by kernel_rfl)
theorem qi.code:qi.c.code = zy Tryd.f9:=by kernel_rfl
noncomputable def qd.c:IC:=qd.u24.c
noncomputable def qd.res:List ResultVar:=[(.tmp 2)]
theorem qd.u1.ok (k:Nat) (x0:Sl) (R:IC) (K:KF α) :
  eC k (qd.u1.c R) (fr25 x0) K =
   qd.u1.f k x0 (fun y0 y1 y2 y3=>eC k R (fr64 y0 y1 y2 y3) K) (fun y0=>K .ret (fr26 y0)):=by kernel_rfl
theorem qd.u2.ok (k:Nat) (x0 x1:Sl) (x2 x3:Sl) (R:IC) (K:KF α) :
  eC k (qd.u2.c R) (fr64 x0 x1 x2 x3) K =
   qd.u2.f k x0 x1 x2 x3 (fun y0 y1 y2 y3 y4=>eC k R (fr65 y0 y1 y2 y3 y4) K):=by kernel_rfl
theorem qd.u3.ok (k:Nat) (x0 x1:Sl) (x2 x3:Sl) (x4:Int) (R:IC) (K:KF α) :
  eC k (qd.u3.c R) (fr65 x0 x1 x2 x3 x4) K =
   qd.u3.f k x0 x1 x2 x3 x4 (fun y0 y1 y2 y3 y4=>eC k R (fr65 y0 y1 y2 y3 y4) K) (fun y0=>K (.exit 0) (fr66 y0)):=by kernel_rfl
theorem qd.u4.ok (k:Nat) (x0 x1:Sl) (x2 x3:Sl) (x4:Int) (R:IC) (K:KF α) :
  eC k (qd.u4.c R) (fr65 x0 x1 x2 x3 x4) K =
   qd.u4.f k x0 x1 x2 x3 x4 (fun y0 y1 y2 y3 y4 y5=>eC k R (fr69 y0 y1 y2 y3 y4 y5) K) (fun y0 y1 y2 y3 y4=>K (.exit 1) (fr65 y0 y1 y2 y3 y4)):=by kernel_rfl
theorem qd.u5.ok (k:Nat) (x0 x1:Sl) (x2 x3:Sl) (x4 x5:Int) (R:IC) (K:KF α) :
  eC k (qd.u5.c R) (fr69 x0 x1 x2 x3 x4 x5) K =
   qd.u5.f k x0 x1 x2 x3 x4 x5 (fun y0 y1 y2 y3 y4 y5 y6=>eC k R (fr70 y0 y1 y2 y3 y4 y5 y6) K):=by kernel_rfl
theorem qd.u6.ok (k:Nat) (x0 x1:Sl) (x2 x3:Sl) (x4 x5 x6:Int) (K:KF α) :
  eC k qd.u6.c (fr70 x0 x1 x2 x3 x4 x5 x6) K =
   qd.u6.f k x0 x1 x2 x3 x4 x5 x6 (fun y0 y1 y2 y3 y4 y5 y6=>K .normal (fr70 y0 y1 y2 y3 y4 y5 y6)) (fun y0 y1 y2 y3 y4 y5=>K (.exit 2) (fr69 y0 y1 y2 y3 y4 y5)):=by kernel_rfl
theorem qd.u7.ls (k:Nat) (kx2:Sl->Sl->Sl->Sl->Int->Int->M α) (j:Nat) (x0 x1:Sl) (x2 x3:Sl) (x4 x5 x6:Int):qd.u7.l k kx2 (j + 1) x0 x1 x2 x3 x4 x5 x6 =
 qd.u6.f k x0 x1 x2 x3 x4 x5 x6 (fun y0 y1 y2 y3 y4 y5 y6=>qd.u7.l k kx2 j y0 y1 y2 y3 y4 y5 y6) kx2:=rfl
theorem qd.u7.okl (k:Nat) (K:KF α):∀ (j:Nat) (x0 x1:Sl) (x2 x3:Sl) (x4 x5 x6:Int),
  zr (eC k qd.u6.c) [0, 4, 5, 6, 7, 9, 10] j (fr70 x0 x1 x2 x3 x4 x5 x6) K = qd.u7.l k (fun y0 y1 y2 y3 y4 y5=>K (.exit 2) (fr69 y0 y1 y2 y3 y4 y5)) j x0 x1 x2 x3 x4 x5 x6
 | 0, _, _, _, _, _, _, _=>rfl
 | j + 1, x0, x1, x2, x3, x4, x5, x6=>by
   have h:=qd.u6.ok k x0 x1 x2 x3 x4 x5 x6 (seqK (fun ρ=>zr (eC k qd.u6.c) [0, 4, 5, 6, 7, 9, 10] j ρ K) K)
   simp only [zf, zh, zg, zd, qd.u7.okl k K j] at h
   exact (zo (by kernel_rfl) h).trans (qd.u7.ls k (fun y0 y1 y2 y3 y4 y5=>K (.exit 2) (fr69 y0 y1 y2 y3 y4 y5)) j x0 x1 x2 x3 x4 x5 x6).symm
theorem qd.u7.ok (k:Nat) (x0 x1:Sl) (x2 x3:Sl) (x4 x5 x6:Int) (K:KF α) :
  eC k qd.u7.c (fr70 x0 x1 x2 x3 x4 x5 x6) K =
   qd.u7.f k x0 x1 x2 x3 x4 x5 x6 (fun y0 y1 y2 y3 y4 y5=>K (.exit 2) (fr69 y0 y1 y2 y3 y4 y5)):=
 jd.trans <| (zp (body:=eC k qd.u6.c) (keep:=[0, 4, 5, 6, 7, 9, 10]) (ρ:=(fr70 x0 x1 x2 x3 x4 x5 x6)) (ρ':=(fr70 x0 x1 x2 x3 x4 x5 x6)) (by kernel_rfl) k K).trans (qd.u7.okl k K k x0 x1 x2 x3 x4 x5 x6)
theorem qd.u8.ok (k:Nat) (x0 x1:Sl) (x2 x3:Sl) (x4 x5 x6:Int) (K:KF α) :
  eC k qd.u8.c (fr70 x0 x1 x2 x3 x4 x5 x6) K =
   qd.u8.f k x0 x1 x2 x3 x4 x5 x6 (fun y0 y1 y2 y3 y4 y5=>K .normal (fr69 y0 y1 y2 y3 y4 y5)):=
 (zm.trans (qd.u7.ok k x0 x1 x2 x3 x4 x5 x6 (jf 2 K))).trans (by kernel_rfl)
theorem qd.u9.ok (k:Nat) (x0 x1:Sl) (x2 x3:Sl) (x4 x5:Int) (K:KF α) :
  eC k qd.u9.c (fr69 x0 x1 x2 x3 x4 x5) K =
   qd.u9.f k x0 x1 x2 x3 x4 x5 (fun y0 y1 y2 y3 y4 y5=>K .normal (fr69 y0 y1 y2 y3 y4 y5)):=
 (qd.u5.ok k x0 x1 x2 x3 x4 x5 qd.u8.c K).trans
  (congrArg (fun z=>qd.u5.f k x0 x1 x2 x3 x4 x5 z) (funext fun y0=>(funext fun y1=>(funext fun y2=>(funext fun y3=>(funext fun y4=>(funext fun y5=>(funext fun y6=>qd.u8.ok k y0 y1 y2 y3 y4 y5 y6 K))))))))
theorem qd.u10.ok (k:Nat) (x0 x1:Sl) (x2 x3:Sl) (x4 x5:Int) (R:IC) (K:KF α) :
  eC k (qd.u10.c R) (fr69 x0 x1 x2 x3 x4 x5) K =
   qd.u10.f k x0 x1 x2 x3 x4 x5 (fun y0 y1 y2 y3 y4 y5 y6=>eC k R (fr71 y0 y1 y2 y3 y4 y5 y6) K):=by kernel_rfl
theorem qd.u11.ok (k:Nat) (x0 x1:Sl) (x2 x3:Sl) (x4 x5 x6:Int) (K:KF α) :
  eC k qd.u11.c (fr71 x0 x1 x2 x3 x4 x5 x6) K =
   qd.u11.f k x0 x1 x2 x3 x4 x5 x6 (fun y0 y1 y2 y3 y4=>K .normal (fr65 y0 y1 y2 y3 y4)):=by kernel_rfl
theorem qd.u12.ok (k:Nat) (x0 x1:Sl) (x2 x3:Sl) (x4 x5:Int) (K:KF α) :
  eC k qd.u12.c (fr69 x0 x1 x2 x3 x4 x5) K =
   qd.u12.f k x0 x1 x2 x3 x4 x5 (fun y0 y1 y2 y3 y4=>K .normal (fr65 y0 y1 y2 y3 y4)):=
 (qd.u10.ok k x0 x1 x2 x3 x4 x5 qd.u11.c K).trans
  (congrArg (fun z=>qd.u10.f k x0 x1 x2 x3 x4 x5 z) (funext fun y0=>(funext fun y1=>(funext fun y2=>(funext fun y3=>(funext fun y4=>(funext fun y5=>(funext fun y6=>qd.u11.ok k y0 y1 y2 y3 y4 y5 y6 K))))))))
theorem qd.u13.ok (k:Nat) (x0 x1:Sl) (x2 x3:Sl) (x4 x5:Int) (K:KF α) :
  eC k qd.u13.c (fr69 x0 x1 x2 x3 x4 x5) K =
   qd.u13.f k x0 x1 x2 x3 x4 x5 (fun y0 y1 y2 y3 y4=>K .normal (fr65 y0 y1 y2 y3 y4)):=
 by
  have h:=qd.u9.ok k x0 x1 x2 x3 x4 x5 (seqK (fun ρ=>eC k qd.u12.c ρ K) K)
  simp only [zd, zf, zh, zg, qd.u12.ok] at h
  exact zk h
theorem qd.u14.ok (k:Nat) (x0 x1:Sl) (x2 x3:Sl) (x4:Int) (K:KF α) :
  eC k qd.u14.c (fr65 x0 x1 x2 x3 x4) K =
   qd.u14.f k x0 x1 x2 x3 x4 (fun y0 y1 y2 y3 y4=>K .normal (fr65 y0 y1 y2 y3 y4)) (fun y0 y1 y2 y3 y4=>K (.exit 1) (fr65 y0 y1 y2 y3 y4)):=
 (qd.u4.ok k x0 x1 x2 x3 x4 qd.u13.c K).trans
  (congrArg (fun z=>qd.u4.f k x0 x1 x2 x3 x4 z (fun y0 y1 y2 y3 y4=>K (.exit 1) (fr65 y0 y1 y2 y3 y4))) (funext fun y0=>(funext fun y1=>(funext fun y2=>(funext fun y3=>(funext fun y4=>(funext fun y5=>qd.u13.ok k y0 y1 y2 y3 y4 y5 K)))))))
theorem qd.u15.ok (k:Nat) (x0 x1:Sl) (x2 x3:Sl) (x4:Int) (K:KF α) :
  eC k qd.u15.c (fr65 x0 x1 x2 x3 x4) K =
   qd.u15.f k x0 x1 x2 x3 x4 (fun y0 y1 y2 y3 y4=>K .normal (fr65 y0 y1 y2 y3 y4)):=
 (zm.trans (qd.u14.ok k x0 x1 x2 x3 x4 (jf 1 K))).trans (by kernel_rfl)
theorem qd.u16.ok (k:Nat) (x0 x1:Sl) (x2 x3:Sl) (x4:Int) (K:KF α) :
  eC k qd.u16.c (fr65 x0 x1 x2 x3 x4) K =
   qd.u16.f k x0 x1 x2 x3 x4 (fun y0 y1 y2 y3 y4=>K .normal (fr65 y0 y1 y2 y3 y4)):=by kernel_rfl
theorem qd.u17.ok (k:Nat) (x0 x1:Sl) (x2 x3:Sl) (x4:Int) (K:KF α) :
  eC k qd.u17.c (fr65 x0 x1 x2 x3 x4) K =
   qd.u17.f k x0 x1 x2 x3 x4 (fun y0 y1 y2 y3 y4=>K .normal (fr65 y0 y1 y2 y3 y4)):=
 by
  have h:=qd.u15.ok k x0 x1 x2 x3 x4 (seqK (fun ρ=>eC k qd.u16.c ρ K) K)
  simp only [zd, zf, zh, zg, qd.u16.ok] at h
  exact zk h
theorem qd.u18.ok (k:Nat) (x0 x1:Sl) (x2 x3:Sl) (x4:Int) (K:KF α) :
  eC k qd.u18.c (fr65 x0 x1 x2 x3 x4) K =
   qd.u18.f k x0 x1 x2 x3 x4 (fun y0 y1 y2 y3 y4=>K .normal (fr65 y0 y1 y2 y3 y4)) (fun y0=>K (.exit 0) (fr66 y0)):=
 (qd.u3.ok k x0 x1 x2 x3 x4 qd.u17.c K).trans
  (congrArg (fun z=>qd.u3.f k x0 x1 x2 x3 x4 z (fun y0=>K (.exit 0) (fr66 y0))) (funext fun y0=>(funext fun y1=>(funext fun y2=>(funext fun y3=>(funext fun y4=>qd.u17.ok k y0 y1 y2 y3 y4 K))))))
theorem qd.u19.ls (k:Nat) (kx0:Sl->M α) (j:Nat) (x0 x1:Sl) (x2 x3:Sl) (x4:Int):qd.u19.l k kx0 (j + 1) x0 x1 x2 x3 x4 =
 qd.u18.f k x0 x1 x2 x3 x4 (fun y0 y1 y2 y3 y4=>qd.u19.l k kx0 j y0 y1 y2 y3 y4) kx0:=rfl
theorem qd.u19.okl (k:Nat) (K:KF α):∀ (j:Nat) (x0 x1:Sl) (x2 x3:Sl) (x4:Int),
  zr (eC k qd.u18.c) [0, 4, 5, 6, 7] j (fr65 x0 x1 x2 x3 x4) K = qd.u19.l k (fun y0=>K (.exit 0) (fr66 y0)) j x0 x1 x2 x3 x4
 | 0, _, _, _, _, _=>rfl
 | j + 1, x0, x1, x2, x3, x4=>by
   have h:=qd.u18.ok k x0 x1 x2 x3 x4 (seqK (fun ρ=>zr (eC k qd.u18.c) [0, 4, 5, 6, 7] j ρ K) K)
   simp only [zf, zh, zg, zd, qd.u19.okl k K j] at h
   exact (zo (by kernel_rfl) h).trans (qd.u19.ls k (fun y0=>K (.exit 0) (fr66 y0)) j x0 x1 x2 x3 x4).symm
theorem qd.u19.ok (k:Nat) (x0 x1:Sl) (x2 x3:Sl) (x4:Int) (K:KF α) :
  eC k qd.u19.c (fr65 x0 x1 x2 x3 x4) K =
   qd.u19.f k x0 x1 x2 x3 x4 (fun y0=>K (.exit 0) (fr66 y0)):=
 jd.trans <| (zp (body:=eC k qd.u18.c) (keep:=[0, 4, 5, 6, 7]) (ρ:=(fr65 x0 x1 x2 x3 x4)) (ρ':=(fr65 x0 x1 x2 x3 x4)) (by kernel_rfl) k K).trans (qd.u19.okl k K k x0 x1 x2 x3 x4)
theorem qd.u20.ok (k:Nat) (x0 x1:Sl) (x2 x3:Sl) (x4:Int) (K:KF α) :
  eC k qd.u20.c (fr65 x0 x1 x2 x3 x4) K =
   qd.u20.f k x0 x1 x2 x3 x4 (fun y0=>K .normal (fr66 y0)):=
 (zm.trans (qd.u19.ok k x0 x1 x2 x3 x4 (jf 0 K))).trans (by kernel_rfl)
theorem qd.u21.ok (k:Nat) (x0 x1:Sl) (x2 x3:Sl) (K:KF α) :
  eC k qd.u21.c (fr64 x0 x1 x2 x3) K =
   qd.u21.f k x0 x1 x2 x3 (fun y0=>K .normal (fr66 y0)):=
 (qd.u2.ok k x0 x1 x2 x3 qd.u20.c K).trans
  (congrArg (fun z=>qd.u2.f k x0 x1 x2 x3 z) (funext fun y0=>(funext fun y1=>(funext fun y2=>(funext fun y3=>(funext fun y4=>qd.u20.ok k y0 y1 y2 y3 y4 K))))))
theorem qd.u22.ok (k:Nat) (x0:Sl) (K:KF α) :
  eC k qd.u22.c (fr66 x0) K =
   qd.u22.f k x0 (fun y0=>K .ret (fr26 y0)):=by kernel_rfl
theorem qd.u23.ok (k:Nat) (x0 x1:Sl) (x2 x3:Sl) (K:KF α) :
  eC k qd.u23.c (fr64 x0 x1 x2 x3) K =
   qd.u23.f k x0 x1 x2 x3 (fun y0=>K .ret (fr26 y0)):=
 by
  have h:=qd.u21.ok k x0 x1 x2 x3 (seqK (fun ρ=>eC k qd.u22.c ρ K) K)
  simp only [zd, zf, zh, zg, qd.u22.ok] at h
  exact zk h
theorem qd.u24.ok (k:Nat) (x0:Sl) (K:KF α) :
  eC k qd.u24.c (fr25 x0) K =
   qd.u24.f k x0 (fun y0=>K .ret (fr26 y0)):=
 (qd.u1.ok k x0 qd.u23.c K).trans
  (congrArg (fun z=>qd.u1.f k x0 z (fun y0=>K .ret (fr26 y0))) (funext fun y0=>(funext fun y1=>(funext fun y2=>(funext fun y3=>qd.u23.ok k y0 y1 y2 y3 K)))))
theorem qd.ok (k:Nat) (x0:Sl) (κ:Res->M α) :
  evF T (env k) k qd.c qd.res [.slice x0] κ = qd.f (k + 1) x0 (fun o0=>κ (.ret (.slice o0))):=
 (qd.u24.ok k x0 (retK T qd.res κ)).trans (by kernel_rfl)
theorem qd.code:qd.c.code = zy Tryd.f11:=by kernel_rfl
noncomputable def qj.c:IC:=qj.u18.c
noncomputable def qj.res:List ResultVar:=[(.tmp 2)]
theorem qj.u1.ok (k:Nat) (x0:Sl) (R:IC) (K:KF α) :
  eC k (qj.u1.c R) (fr25 x0) K =
   qj.u1.f k x0 (fun y0 y1 y2 y3=>eC k R (fr72 y0 y1 y2 y3) K):=by kernel_rfl
theorem qj.u2.ok (k:Nat) (x0:Sl) (x1:Bool) (x2 x3:Sl) (R:IC) (K:KF α) :
  eC k (qj.u2.c R) (fr72 x0 x1 x2 x3) K =
   qj.u2.f k x0 x1 x2 x3 (fun y0 y1 y2 y3 y4=>eC k R (fr73 y0 y1 y2 y3 y4) K):=by kernel_rfl
theorem qj.u3.ok (k:Nat) (x0:Sl) (x1:Bool) (x2 x3:Sl) (x4:Int) (R:IC) (K:KF α) :
  eC k (qj.u3.c R) (fr73 x0 x1 x2 x3 x4) K =
   qj.u3.f k x0 x1 x2 x3 x4 (fun y0 y1 y2 y3 y4=>eC k R (fr73 y0 y1 y2 y3 y4) K) (fun y0 y1=>K (.exit 0) (fr74 y0 y1)):=by kernel_rfl
theorem qj.u4.ok (k:Nat) (x0:Sl) (x1:Bool) (x2 x3:Sl) (x4:Int) (R:IC) (K:KF α) :
  eC k (qj.u4.c R) (fr73 x0 x1 x2 x3 x4) K =
   qj.u4.f k x0 x1 x2 x3 x4 (fun y0 y1 y2 y3 y4 y5 y6=>eC k R (fr75 y0 y1 y2 y3 y4 y5 y6) K) (fun y0=>K .ret (fr18 y0)):=by kernel_rfl
theorem qj.u5.ok (k:Nat) (x0:Sl) (x1:Bool) (x2 x3:Sl) (x4:Int) (x5:Sl) (x6:Int) (K:KF α) :
  eC k qj.u5.c (fr75 x0 x1 x2 x3 x4 x5 x6) K =
   qj.u5.f k x0 x1 x2 x3 x4 x5 x6 (fun y0 y1 y2 y3 y4 y5 y6=>K .normal (fr75 y0 y1 y2 y3 y4 y5 y6)) (fun y0=>K .ret (fr18 y0)) (fun y0 y1 y2 y3 y4=>K (.exit 2) (fr73 y0 y1 y2 y3 y4)):=by kernel_rfl
theorem qj.u6.ls (k:Nat) (kr:Bool->M α) (kx2:Sl->Bool->Sl->Sl->Int->M α) (j:Nat) (x0:Sl) (x1:Bool) (x2 x3:Sl) (x4:Int) (x5:Sl) (x6:Int):qj.u6.l k kr kx2 (j + 1) x0 x1 x2 x3 x4 x5 x6 =
 qj.u5.f k x0 x1 x2 x3 x4 x5 x6 (fun y0 y1 y2 y3 y4 y5 y6=>qj.u6.l k kr kx2 j y0 y1 y2 y3 y4 y5 y6) kr kx2:=rfl
theorem qj.u6.okl (k:Nat) (K:KF α):∀ (j:Nat) (x0:Sl) (x1:Bool) (x2 x3:Sl) (x4:Int) (x5:Sl) (x6:Int),
  zr (eC k qj.u5.c) [0, 3, 4, 5, 6, 7, 8] j (fr75 x0 x1 x2 x3 x4 x5 x6) K = qj.u6.l k (fun y0=>K .ret (fr18 y0)) (fun y0 y1 y2 y3 y4=>K (.exit 2) (fr73 y0 y1 y2 y3 y4)) j x0 x1 x2 x3 x4 x5 x6
 | 0, _, _, _, _, _, _, _=>rfl
 | j + 1, x0, x1, x2, x3, x4, x5, x6=>by
   have h:=qj.u5.ok k x0 x1 x2 x3 x4 x5 x6 (seqK (fun ρ=>zr (eC k qj.u5.c) [0, 3, 4, 5, 6, 7, 8] j ρ K) K)
   simp only [zf, zh, zg, zd, qj.u6.okl k K j] at h
   exact (zo (by kernel_rfl) h).trans (qj.u6.ls k (fun y0=>K .ret (fr18 y0)) (fun y0 y1 y2 y3 y4=>K (.exit 2) (fr73 y0 y1 y2 y3 y4)) j x0 x1 x2 x3 x4 x5 x6).symm
theorem qj.u6.ok (k:Nat) (x0:Sl) (x1:Bool) (x2 x3:Sl) (x4:Int) (x5:Sl) (x6:Int) (K:KF α) :
  eC k qj.u6.c (fr75 x0 x1 x2 x3 x4 x5 x6) K =
   qj.u6.f k x0 x1 x2 x3 x4 x5 x6 (fun y0=>K .ret (fr18 y0)) (fun y0 y1 y2 y3 y4=>K (.exit 2) (fr73 y0 y1 y2 y3 y4)):=
 jd.trans <| (zp (body:=eC k qj.u5.c) (keep:=[0, 3, 4, 5, 6, 7, 8]) (ρ:=(fr75 x0 x1 x2 x3 x4 x5 x6)) (ρ':=(fr75 x0 x1 x2 x3 x4 x5 x6)) (by kernel_rfl) k K).trans (qj.u6.okl k K k x0 x1 x2 x3 x4 x5 x6)
theorem qj.u7.ok (k:Nat) (x0:Sl) (x1:Bool) (x2 x3:Sl) (x4:Int) (x5:Sl) (x6:Int) (K:KF α) :
  eC k qj.u7.c (fr75 x0 x1 x2 x3 x4 x5 x6) K =
   qj.u7.f k x0 x1 x2 x3 x4 x5 x6 (fun y0 y1 y2 y3 y4=>K .normal (fr73 y0 y1 y2 y3 y4)) (fun y0=>K .ret (fr18 y0)):=
 (zm.trans (qj.u6.ok k x0 x1 x2 x3 x4 x5 x6 (jf 2 K))).trans (by kernel_rfl)
theorem qj.u8.ok (k:Nat) (x0:Sl) (x1:Bool) (x2 x3:Sl) (x4:Int) (K:KF α) :
  eC k qj.u8.c (fr73 x0 x1 x2 x3 x4) K =
   qj.u8.f k x0 x1 x2 x3 x4 (fun y0 y1 y2 y3 y4=>K .normal (fr73 y0 y1 y2 y3 y4)) (fun y0=>K .ret (fr18 y0)):=
 (qj.u4.ok k x0 x1 x2 x3 x4 qj.u7.c K).trans
  (congrArg (fun z=>qj.u4.f k x0 x1 x2 x3 x4 z (fun y0=>K .ret (fr18 y0))) (funext fun y0=>(funext fun y1=>(funext fun y2=>(funext fun y3=>(funext fun y4=>(funext fun y5=>(funext fun y6=>qj.u7.ok k y0 y1 y2 y3 y4 y5 y6 K))))))))
theorem qj.u9.ok (k:Nat) (x0:Sl) (x1:Bool) (x2 x3:Sl) (x4:Int) (K:KF α) :
  eC k qj.u9.c (fr73 x0 x1 x2 x3 x4) K =
   qj.u9.f k x0 x1 x2 x3 x4 (fun y0 y1 y2 y3 y4=>K .normal (fr73 y0 y1 y2 y3 y4)) (fun y0=>K .ret (fr18 y0)):=
 (zm.trans (qj.u8.ok k x0 x1 x2 x3 x4 (jf 1 K))).trans (by kernel_rfl)
theorem qj.u10.ok (k:Nat) (x0:Sl) (x1:Bool) (x2 x3:Sl) (x4:Int) (K:KF α) :
  eC k qj.u10.c (fr73 x0 x1 x2 x3 x4) K =
   qj.u10.f k x0 x1 x2 x3 x4 (fun y0 y1 y2 y3 y4=>K .normal (fr73 y0 y1 y2 y3 y4)):=by kernel_rfl
theorem qj.u11.ok (k:Nat) (x0:Sl) (x1:Bool) (x2 x3:Sl) (x4:Int) (K:KF α) :
  eC k qj.u11.c (fr73 x0 x1 x2 x3 x4) K =
   qj.u11.f k x0 x1 x2 x3 x4 (fun y0 y1 y2 y3 y4=>K .normal (fr73 y0 y1 y2 y3 y4)) (fun y0=>K .ret (fr18 y0)):=
 by
  have h:=qj.u9.ok k x0 x1 x2 x3 x4 (seqK (fun ρ=>eC k qj.u10.c ρ K) K)
  simp only [zd, zf, zh, zg, qj.u10.ok] at h
  exact zk h
theorem qj.u12.ok (k:Nat) (x0:Sl) (x1:Bool) (x2 x3:Sl) (x4:Int) (K:KF α) :
  eC k qj.u12.c (fr73 x0 x1 x2 x3 x4) K =
   qj.u12.f k x0 x1 x2 x3 x4 (fun y0 y1 y2 y3 y4=>K .normal (fr73 y0 y1 y2 y3 y4)) (fun y0=>K .ret (fr18 y0)) (fun y0 y1=>K (.exit 0) (fr74 y0 y1)):=
 (qj.u3.ok k x0 x1 x2 x3 x4 qj.u11.c K).trans
  (congrArg (fun z=>qj.u3.f k x0 x1 x2 x3 x4 z (fun y0 y1=>K (.exit 0) (fr74 y0 y1))) (funext fun y0=>(funext fun y1=>(funext fun y2=>(funext fun y3=>(funext fun y4=>qj.u11.ok k y0 y1 y2 y3 y4 K))))))
theorem qj.u13.ls (k:Nat) (kr:Bool->M α) (kx0:Sl->Sl->M α) (j:Nat) (x0:Sl) (x1:Bool) (x2 x3:Sl) (x4:Int):qj.u13.l k kr kx0 (j + 1) x0 x1 x2 x3 x4 =
 qj.u12.f k x0 x1 x2 x3 x4 (fun y0 y1 y2 y3 y4=>qj.u13.l k kr kx0 j y0 y1 y2 y3 y4) kr kx0:=rfl
theorem qj.u13.okl (k:Nat) (K:KF α):∀ (j:Nat) (x0:Sl) (x1:Bool) (x2 x3:Sl) (x4:Int),
  zr (eC k qj.u12.c) [0, 3, 4, 5, 6] j (fr73 x0 x1 x2 x3 x4) K = qj.u13.l k (fun y0=>K .ret (fr18 y0)) (fun y0 y1=>K (.exit 0) (fr74 y0 y1)) j x0 x1 x2 x3 x4
 | 0, _, _, _, _, _=>rfl
 | j + 1, x0, x1, x2, x3, x4=>by
   have h:=qj.u12.ok k x0 x1 x2 x3 x4 (seqK (fun ρ=>zr (eC k qj.u12.c) [0, 3, 4, 5, 6] j ρ K) K)
   simp only [zf, zh, zg, zd, qj.u13.okl k K j] at h
   exact (zo (by kernel_rfl) h).trans (qj.u13.ls k (fun y0=>K .ret (fr18 y0)) (fun y0 y1=>K (.exit 0) (fr74 y0 y1)) j x0 x1 x2 x3 x4).symm
theorem qj.u13.ok (k:Nat) (x0:Sl) (x1:Bool) (x2 x3:Sl) (x4:Int) (K:KF α) :
  eC k qj.u13.c (fr73 x0 x1 x2 x3 x4) K =
   qj.u13.f k x0 x1 x2 x3 x4 (fun y0=>K .ret (fr18 y0)) (fun y0 y1=>K (.exit 0) (fr74 y0 y1)):=
 jd.trans <| (zp (body:=eC k qj.u12.c) (keep:=[0, 3, 4, 5, 6]) (ρ:=(fr73 x0 x1 x2 x3 x4)) (ρ':=(fr73 x0 x1 x2 x3 x4)) (by kernel_rfl) k K).trans (qj.u13.okl k K k x0 x1 x2 x3 x4)
theorem qj.u14.ok (k:Nat) (x0:Sl) (x1:Bool) (x2 x3:Sl) (x4:Int) (K:KF α) :
  eC k qj.u14.c (fr73 x0 x1 x2 x3 x4) K =
   qj.u14.f k x0 x1 x2 x3 x4 (fun y0 y1=>K .normal (fr74 y0 y1)) (fun y0=>K .ret (fr18 y0)):=
 (zm.trans (qj.u13.ok k x0 x1 x2 x3 x4 (jf 0 K))).trans (by kernel_rfl)
theorem qj.u15.ok (k:Nat) (x0:Sl) (x1:Bool) (x2 x3:Sl) (K:KF α) :
  eC k qj.u15.c (fr72 x0 x1 x2 x3) K =
   qj.u15.f k x0 x1 x2 x3 (fun y0 y1=>K .normal (fr74 y0 y1)) (fun y0=>K .ret (fr18 y0)):=
 (qj.u2.ok k x0 x1 x2 x3 qj.u14.c K).trans
  (congrArg (fun z=>qj.u2.f k x0 x1 x2 x3 z) (funext fun y0=>(funext fun y1=>(funext fun y2=>(funext fun y3=>(funext fun y4=>qj.u14.ok k y0 y1 y2 y3 y4 K))))))
theorem qj.u16.ok (k:Nat) (x0 x1:Sl) (K:KF α) :
  eC k qj.u16.c (fr74 x0 x1) K =
   qj.u16.f k x0 x1 (fun y0=>K .ret (fr18 y0)):=by kernel_rfl
theorem qj.u17.ok (k:Nat) (x0:Sl) (x1:Bool) (x2 x3:Sl) (K:KF α) :
  eC k qj.u17.c (fr72 x0 x1 x2 x3) K =
   qj.u17.f k x0 x1 x2 x3 (fun y0=>K .ret (fr18 y0)):=
 by
  have h:=qj.u15.ok k x0 x1 x2 x3 (seqK (fun ρ=>eC k qj.u16.c ρ K) K)
  simp only [zd, zf, zh, zg, qj.u16.ok] at h
  exact zk h
theorem qj.u18.ok (k:Nat) (x0:Sl) (K:KF α) :
  eC k qj.u18.c (fr25 x0) K =
   qj.u18.f k x0 (fun y0=>K .ret (fr18 y0)):=
 (qj.u1.ok k x0 qj.u17.c K).trans
  (congrArg (fun z=>qj.u1.f k x0 z) (funext fun y0=>(funext fun y1=>(funext fun y2=>(funext fun y3=>qj.u17.ok k y0 y1 y2 y3 K)))))
theorem qj.ok (k:Nat) (x0:Sl) (κ:Res->M α) :
  evF T (env k) k qj.c qj.res [.slice x0] κ = qj.f (k + 1) x0 (fun o0=>κ (.ret (.bool o0))):=
 (qj.u18.ok k x0 (retK T qj.res κ)).trans (by kernel_rfl)
theorem qj.code:qj.c.code = zy Tryd.f4:=by kernel_rfl
end
end Go.Ab.S5
