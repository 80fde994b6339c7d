import Derived.Test.YtdhjpnacjnkbgaaGreatDoorS9a0
import Derived.Test.YtdhjpnacjnkbgaaGreatDoorS9t
import Derived.KernelRfl
import Derived.Lib.TrailingZeros
set_option linter.unusedVariables false
set_option linter.unusedSimpArgs false
set_option linter.unusedSectionVars false
namespace Go.Ab.S9
abbrev fr15 (x0:Bool):Frame:=za [(4, .bool x0)]
section
variable {α:Type}
open Go.Proofs
noncomputable def qg.c:IC:=qg.u9.c
noncomputable def qg.res:List ResultVar:=[(.cell 4 36)]
theorem qg.u1.ok (k:Nat) (x0 x1 x2:Sl) (x3 x4:Int) (x5 x6:Int) (R:IC) (K:KF α) :
  eC k (qg.u1.c R) (za [(0, .agg [.slice x0, .slice x1, .slice x2]), (1, .agg [.int .u64 x3, .int .u64 x4, .int .u64 x5, .int .u64 x6])]) K =
   qg.u1.f k x0 x1 x2 x3 x4 x5 x6 (fun y0 y1 y2 y3 y4=>eC k R (za [(2, .ptr (some y0)), (3, .ptr (some y1)), (4, .ptr (some y2)), (5, .int .i64 y3), (6, .ptr (some y4))]) K):=by kernel_rfl
theorem qg.u2.ok (k:Nat) (x0 x1 x2:Ad) (x3:Int) (x4:Ad) (R:IC) (K:KF α) :
  eC k (qg.u2.c R) (za [(2, .ptr (some x0)), (3, .ptr (some x1)), (4, .ptr (some x2)), (5, .int .i64 x3), (6, .ptr (some x4))]) K =
   qg.u2.f k x0 x1 x2 x3 x4 (fun y0 y1 y2 y3 y4 y5 y6=>eC k R (za [(2, .ptr (some y0)), (4, .ptr (some y1)), (5, .int .i64 y2), (6, .ptr (some y3)), (11, .slice y4), (12, .int .i64 y5), (13, .int .i64 y6)]) K):=by kernel_rfl
theorem qg.u3.ok (k:Nat) (x0 x1:Ad) (x2:Int) (x3:Ad) (x4:Sl) (x5 x6:Int) (K:KF α) :
  eC k qg.u3.c (za [(2, .ptr (some x0)), (4, .ptr (some x1)), (5, .int .i64 x2), (6, .ptr (some x3)), (11, .slice x4), (12, .int .i64 x5), (13, .int .i64 x6)]) K =
   qg.u3.f k x0 x1 x2 x3 x4 x5 x6 (fun y0 y1 y2 y3 y4 y5 y6=>K .normal (za [(2, .ptr (some y0)), (4, .ptr (some y1)), (5, .int .i64 y2), (6, .ptr (some y3)), (11, .slice y4), (12, .int .i64 y5), (13, .int .i64 y6)])) (fun y0 y1=>K (.exit 0) (za [(4, .ptr (some y0)), (6, .ptr (some y1))])):=by kernel_rfl
theorem qg.u4.ls (k:Nat) (kx0:Ad->Ad->M α) (j:Nat) (x0 x1:Ad) (x2:Int) (x3:Ad) (x4:Sl) (x5 x6:Int):qg.u4.l k kx0 (j + 1) x0 x1 x2 x3 x4 x5 x6 =
 qg.u3.f k x0 x1 x2 x3 x4 x5 x6 (fun y0 y1 y2 y3 y4 y5 y6=>qg.u4.l k kx0 j y0 y1 y2 y3 y4 y5 y6) kx0:=rfl
theorem qg.u4.okl (k:Nat) (K:KF α):∀ (j:Nat) (x0 x1:Ad) (x2:Int) (x3:Ad) (x4:Sl) (x5 x6:Int),
  zu (eC k qg.u3.c) [2, 4, 5, 6, 11, 12, 13] j (za [(2, .ptr (some x0)), (4, .ptr (some x1)), (5, .int .i64 x2), (6, .ptr (some x3)), (11, .slice x4), (12, .int .i64 x5), (13, .int .i64 x6)]) K = qg.u4.l k (fun y0 y1=>K (.exit 0) (za [(4, .ptr (some y0)), (6, .ptr (some y1))])) j x0 x1 x2 x3 x4 x5 x6
 | 0, _, _, _, _, _, _, _=>rfl
 | j + 1, x0, x1, x2, x3, x4, x5, x6=>by
   have h:=qg.u3.ok k x0 x1 x2 x3 x4 x5 x6 (seqK (fun ρ=>zu (eC k qg.u3.c) [2, 4, 5, 6, 11, 12, 13] j ρ K) K)
   simp only [zn, zq, zp, zj, qg.u4.okl k K j] at h
   exact (zy (by kernel_rfl) h).trans (qg.u4.ls k (fun y0 y1=>K (.exit 0) (za [(4, .ptr (some y0)), (6, .ptr (some y1))])) j x0 x1 x2 x3 x4 x5 x6).symm
theorem qg.u4.ok (k:Nat) (x0 x1:Ad) (x2:Int) (x3:Ad) (x4:Sl) (x5 x6:Int) (K:KF α) :
  eC k qg.u4.c (za [(2, .ptr (some x0)), (4, .ptr (some x1)), (5, .int .i64 x2), (6, .ptr (some x3)), (11, .slice x4), (12, .int .i64 x5), (13, .int .i64 x6)]) K =
   qg.u4.f k x0 x1 x2 x3 x4 x5 x6 (fun y0 y1=>K (.exit 0) (za [(4, .ptr (some y0)), (6, .ptr (some y1))])):=
 jo.trans <| (zx (body:=eC k qg.u3.c) (keep:=[2, 4, 5, 6, 11, 12, 13]) (ρ:=(za [(2, .ptr (some x0)), (4, .ptr (some x1)), (5, .int .i64 x2), (6, .ptr (some x3)), (11, .slice x4), (12, .int .i64 x5), (13, .int .i64 x6)])) (ρ':=(za [(2, .ptr (some x0)), (4, .ptr (some x1)), (5, .int .i64 x2), (6, .ptr (some x3)), (11, .slice x4), (12, .int .i64 x5), (13, .int .i64 x6)])) (by kernel_rfl) k K).trans (qg.u4.okl k K k x0 x1 x2 x3 x4 x5 x6)
theorem qg.u5.ok (k:Nat) (x0 x1:Ad) (x2:Int) (x3:Ad) (x4:Sl) (x5 x6:Int) (K:KF α) :
  eC k qg.u5.c (za [(2, .ptr (some x0)), (4, .ptr (some x1)), (5, .int .i64 x2), (6, .ptr (some x3)), (11, .slice x4), (12, .int .i64 x5), (13, .int .i64 x6)]) K =
   qg.u5.f k x0 x1 x2 x3 x4 x5 x6 (fun y0 y1=>K .normal (za [(4, .ptr (some y0)), (6, .ptr (some y1))])):=
 (ja.trans (qg.u4.ok k x0 x1 x2 x3 x4 x5 x6 (jp 0 K))).trans (by kernel_rfl)
theorem qg.u6.ok (k:Nat) (x0 x1 x2:Ad) (x3:Int) (x4:Ad) (K:KF α) :
  eC k qg.u6.c (za [(2, .ptr (some x0)), (3, .ptr (some x1)), (4, .ptr (some x2)), (5, .int .i64 x3), (6, .ptr (some x4))]) K =
   qg.u6.f k x0 x1 x2 x3 x4 (fun y0 y1=>K .normal (za [(4, .ptr (some y0)), (6, .ptr (some y1))])):=
 (qg.u2.ok k x0 x1 x2 x3 x4 qg.u5.c K).trans
  (congrArg (fun z=>qg.u2.f k x0 x1 x2 x3 x4 z) (funext fun y0=>(funext fun y1=>(funext fun y2=>(funext fun y3=>(funext fun y4=>(funext fun y5=>(funext fun y6=>qg.u5.ok k y0 y1 y2 y3 y4 y5 y6 K))))))))
theorem qg.u7.ok (k:Nat) (x0 x1:Ad) (K:KF α) :
  eC k qg.u7.c (za [(4, .ptr (some x0)), (6, .ptr (some x1))]) K =
   qg.u7.f k x0 x1 (fun y0=>K .ret (za [(4, .ptr (some y0))])):=by kernel_rfl
theorem qg.u8.ok (k:Nat) (x0 x1 x2:Ad) (x3:Int) (x4:Ad) (K:KF α) :
  eC k qg.u8.c (za [(2, .ptr (some x0)), (3, .ptr (some x1)), (4, .ptr (some x2)), (5, .int .i64 x3), (6, .ptr (some x4))]) K =
   qg.u8.f k x0 x1 x2 x3 x4 (fun y0=>K .ret (za [(4, .ptr (some y0))])):=
 by
  have h:=qg.u6.ok k x0 x1 x2 x3 x4 (seqK (fun ρ=>eC k qg.u7.c ρ K) K)
  simp only [zj, zn, zq, zp, qg.u7.ok] at h
  exact jd h
theorem qg.u9.ok (k:Nat) (x0 x1 x2:Sl) (x3 x4:Int) (x5 x6:Int) (K:KF α) :
  eC k qg.u9.c (za [(0, .agg [.slice x0, .slice x1, .slice x2]), (1, .agg [.int .u64 x3, .int .u64 x4, .int .u64 x5, .int .u64 x6])]) K =
   qg.u9.f k x0 x1 x2 x3 x4 x5 x6 (fun y0=>K .ret (za [(4, .ptr (some y0))])):=
 (qg.u1.ok k x0 x1 x2 x3 x4 x5 x6 qg.u8.c K).trans
  (congrArg (fun z=>qg.u1.f k x0 x1 x2 x3 x4 x5 x6 z) (funext fun y0=>(funext fun y1=>(funext fun y2=>(funext fun y3=>(funext fun y4=>qg.u8.ok k y0 y1 y2 y3 y4 K))))))
theorem qg.ok (k:Nat) (x0 x1 x2:Sl) (x3 x4:Int) (x5 x6:Int) (κ:Res->M α) :
  evF T (env k) k qg.c qg.res [.agg [.slice x0, .slice x1, .slice x2], .agg [.int .u64 x3, .int .u64 x4, .int .u64 x5, .int .u64 x6]] κ = qg.f (k + 1) x0 x1 x2 x3 x4 x5 x6 (fun o0 o1 o2 o3=>κ (.ret (.agg [.int .u64 o0, .int .u64 o1, .int .u64 o2, .int .u64 o3]))):=
 (qg.u9.ok k x0 x1 x2 x3 x4 x5 x6 (retK T qg.res κ)).trans (by kernel_rfl)
theorem qg.code:qg.c.code = jt Tryz.f48:=by kernel_rfl
noncomputable def qp.c:IC:=qp.u9.c
noncomputable def qp.res:List ResultVar:=[(.tmp 2)]
theorem qp.u1.ok (k:Nat) (x0 x1:Int) (x2 x3:Int) (R:IC) (K:KF α) :
  eC k (qp.u1.c R) (za [(0, .agg [.int .u64 x0, .int .u64 x1, .int .u64 x2, .int .u64 x3])]) K =
   qp.u1.f k x0 x1 x2 x3 (fun y0=>eC k R (za [(1, .ptr (some y0))]) K):=by kernel_rfl
theorem qp.u2.ok (k:Nat) (x0:Ad) (R:IC) (K:KF α) :
  eC k (qp.u2.c R) (za [(1, .ptr (some x0))]) K =
   qp.u2.f k x0 (fun y0 y1 y2 y3 y4=>eC k R (za [(5, .agg [.int .u64 y0, .int .u64 y1, .int .u64 y2, .int .u64 y3]), (6, .int .i64 y4)]) K):=by kernel_rfl
theorem qp.u3.ok (k:Nat) (x0 x1:Int) (x2 x3 x4:Int) (K:KF α) :
  eC k qp.u3.c (za [(5, .agg [.int .u64 x0, .int .u64 x1, .int .u64 x2, .int .u64 x3]), (6, .int .i64 x4)]) K =
   qp.u3.f k x0 x1 x2 x3 x4 (fun y0 y1 y2 y3 y4=>K .normal (za [(5, .agg [.int .u64 y0, .int .u64 y1, .int .u64 y2, .int .u64 y3]), (6, .int .i64 y4)])) (fun y0=>K .ret (fr10 y0)) (K (.exit 0) (za [])):=by kernel_rfl
theorem qp.u4.ls (k:Nat) (kr:Int->M α) (kx0:M α) (j:Nat) (x0 x1:Int) (x2 x3 x4:Int):qp.u4.l k kr kx0 (j + 1) x0 x1 x2 x3 x4 =
 qp.u3.f k x0 x1 x2 x3 x4 (fun y0 y1 y2 y3 y4=>qp.u4.l k kr kx0 j y0 y1 y2 y3 y4) kr kx0:=rfl
theorem qp.u4.okl (k:Nat) (K:KF α):∀ (j:Nat) (x0 x1:Int) (x2 x3 x4:Int),
  zu (eC k qp.u3.c) [5, 6] j (za [(5, .agg [.int .u64 x0, .int .u64 x1, .int .u64 x2, .int .u64 x3]), (6, .int .i64 x4)]) K = qp.u4.l k (fun y0=>K .ret (fr10 y0)) (K (.exit 0) (za [])) j x0 x1 x2 x3 x4
 | 0, _, _, _, _, _=>rfl
 | j + 1, x0, x1, x2, x3, x4=>by
   have h:=qp.u3.ok k x0 x1 x2 x3 x4 (seqK (fun ρ=>zu (eC k qp.u3.c) [5, 6] j ρ K) K)
   simp only [zn, zq, zp, zj, qp.u4.okl k K j] at h
   exact (zy (by kernel_rfl) h).trans (qp.u4.ls k (fun y0=>K .ret (fr10 y0)) (K (.exit 0) (za [])) j x0 x1 x2 x3 x4).symm
theorem qp.u4.ok (k:Nat) (x0 x1:Int) (x2 x3 x4:Int) (K:KF α) :
  eC k qp.u4.c (za [(5, .agg [.int .u64 x0, .int .u64 x1, .int .u64 x2, .int .u64 x3]), (6, .int .i64 x4)]) K =
   qp.u4.f k x0 x1 x2 x3 x4 (fun y0=>K .ret (fr10 y0)) (K (.exit 0) (za [])):=
 jo.trans <| (zx (body:=eC k qp.u3.c) (keep:=[5, 6]) (ρ:=(za [(5, .agg [.int .u64 x0, .int .u64 x1, .int .u64 x2, .int .u64 x3]), (6, .int .i64 x4)])) (ρ':=(za [(5, .agg [.int .u64 x0, .int .u64 x1, .int .u64 x2, .int .u64 x3]), (6, .int .i64 x4)])) (by kernel_rfl) k K).trans (qp.u4.okl k K k x0 x1 x2 x3 x4)
theorem qp.u5.ok (k:Nat) (x0 x1:Int) (x2 x3 x4:Int) (K:KF α) :
  eC k qp.u5.c (za [(5, .agg [.int .u64 x0, .int .u64 x1, .int .u64 x2, .int .u64 x3]), (6, .int .i64 x4)]) K =
   qp.u5.f k x0 x1 x2 x3 x4 (K .normal (za [])) (fun y0=>K .ret (fr10 y0)):=
 (ja.trans (qp.u4.ok k x0 x1 x2 x3 x4 (jp 0 K))).trans (by kernel_rfl)
theorem qp.u6.ok (k:Nat) (x0:Ad) (K:KF α) :
  eC k qp.u6.c (za [(1, .ptr (some x0))]) K =
   qp.u6.f k x0 (K .normal (za [])) (fun y0=>K .ret (fr10 y0)):=
 (qp.u2.ok k x0 qp.u5.c K).trans
  (congrArg (fun z=>qp.u2.f k x0 z) (funext fun y0=>(funext fun y1=>(funext fun y2=>(funext fun y3=>(funext fun y4=>qp.u5.ok k y0 y1 y2 y3 y4 K))))))
theorem qp.u7.ok (k:Nat) (K:KF α) :
  eC k qp.u7.c (za []) K =
   qp.u7.f k (fun y0=>K .ret (fr10 y0)):=by kernel_rfl
theorem qp.u8.ok (k:Nat) (x0:Ad) (K:KF α) :
  eC k qp.u8.c (za [(1, .ptr (some x0))]) K =
   qp.u8.f k x0 (fun y0=>K .ret (fr10 y0)):=
 by
  have h:=qp.u6.ok k x0 (seqK (fun ρ=>eC k qp.u7.c ρ K) K)
  simp only [zj, zn, zq, zp, qp.u7.ok] at h
  exact jd h
theorem qp.u9.ok (k:Nat) (x0 x1:Int) (x2 x3:Int) (K:KF α) :
  eC k qp.u9.c (za [(0, .agg [.int .u64 x0, .int .u64 x1, .int .u64 x2, .int .u64 x3])]) K =
   qp.u9.f k x0 x1 x2 x3 (fun y0=>K .ret (fr10 y0)):=
 (qp.u1.ok k x0 x1 x2 x3 qp.u8.c K).trans
  (congrArg (fun z=>qp.u1.f k x0 x1 x2 x3 z) (funext fun y0=>qp.u8.ok k y0 K))
theorem qp.ok (k:Nat) (x0 x1:Int) (x2 x3:Int) (κ:Res->M α) :
  evF T (env k) k qp.c qp.res [.agg [.int .u64 x0, .int .u64 x1, .int .u64 x2, .int .u64 x3]] κ = qp.f (k + 1) x0 x1 x2 x3 (fun o0=>κ (.ret (.int .i64 o0))):=
 (qp.u9.ok k x0 x1 x2 x3 (retK T qp.res κ)).trans (by kernel_rfl)
theorem qp.code:qp.c.code = jt Tryz.f49:=by kernel_rfl
noncomputable def qj.c:IC:=qj.u9.c
noncomputable def qj.res:List ResultVar:=[(.cell 4 36)]
theorem qj.u1.ok (k:Nat) (x0 x1:Int) (x2 x3:Int) (x4 x5:Int) (x6 x7:Int) (R:IC) (K:KF α) :
  eC k (qj.u1.c R) (za [(0, .agg [.int .u64 x0, .int .u64 x1, .int .u64 x2, .int .u64 x3]), (1, .agg [.int .u64 x4, .int .u64 x5, .int .u64 x6, .int .u64 x7])]) K =
   qj.u1.f k x0 x1 x2 x3 x4 x5 x6 x7 (fun y0 y1 y2=>eC k R (za [(2, .ptr (some y0)), (3, .ptr (some y1)), (4, .ptr (some y2))]) K):=by kernel_rfl
theorem qj.u2.ok (k:Nat) (x0 x1 x2:Ad) (R:IC) (K:KF α) :
  eC k (qj.u2.c R) (za [(2, .ptr (some x0)), (3, .ptr (some x1)), (4, .ptr (some x2))]) K =
   qj.u2.f k x0 x1 x2 (fun y0 y1 y2 y3=>eC k R (za [(2, .ptr (some y0)), (3, .ptr (some y1)), (4, .ptr (some y2)), (6, .int .i64 y3)]) K):=by kernel_rfl
theorem qj.u3.ok (k:Nat) (x0 x1 x2:Ad) (x3:Int) (K:KF α) :
  eC k qj.u3.c (za [(2, .ptr (some x0)), (3, .ptr (some x1)), (4, .ptr (some x2)), (6, .int .i64 x3)]) K =
   qj.u3.f k x0 x1 x2 x3 (fun y0 y1 y2 y3=>K .normal (za [(2, .ptr (some y0)), (3, .ptr (some y1)), (4, .ptr (some y2)), (6, .int .i64 y3)])) (fun y0 y1=>K (.exit 0) (za [(2, .ptr (some y0)), (4, .ptr (some y1))])):=by kernel_rfl
theorem qj.u4.ls (k:Nat) (kx0:Ad->Ad->M α) (j:Nat) (x0 x1 x2:Ad) (x3:Int):qj.u4.l k kx0 (j + 1) x0 x1 x2 x3 =
 qj.u3.f k x0 x1 x2 x3 (fun y0 y1 y2 y3=>qj.u4.l k kx0 j y0 y1 y2 y3) kx0:=rfl
theorem qj.u4.okl (k:Nat) (K:KF α):∀ (j:Nat) (x0 x1 x2:Ad) (x3:Int),
  zu (eC k qj.u3.c) [2, 3, 4, 6] j (za [(2, .ptr (some x0)), (3, .ptr (some x1)), (4, .ptr (some x2)), (6, .int .i64 x3)]) K = qj.u4.l k (fun y0 y1=>K (.exit 0) (za [(2, .ptr (some y0)), (4, .ptr (some y1))])) j x0 x1 x2 x3
 | 0, _, _, _, _=>rfl
 | j + 1, x0, x1, x2, x3=>by
   have h:=qj.u3.ok k x0 x1 x2 x3 (seqK (fun ρ=>zu (eC k qj.u3.c) [2, 3, 4, 6] j ρ K) K)
   simp only [zn, zq, zp, zj, qj.u4.okl k K j] at h
   exact (zy (by kernel_rfl) h).trans (qj.u4.ls k (fun y0 y1=>K (.exit 0) (za [(2, .ptr (some y0)), (4, .ptr (some y1))])) j x0 x1 x2 x3).symm
theorem qj.u4.ok (k:Nat) (x0 x1 x2:Ad) (x3:Int) (K:KF α) :
  eC k qj.u4.c (za [(2, .ptr (some x0)), (3, .ptr (some x1)), (4, .ptr (some x2)), (6, .int .i64 x3)]) K =
   qj.u4.f k x0 x1 x2 x3 (fun y0 y1=>K (.exit 0) (za [(2, .ptr (some y0)), (4, .ptr (some y1))])):=
 jo.trans <| (zx (body:=eC k qj.u3.c) (keep:=[2, 3, 4, 6]) (ρ:=(za [(2, .ptr (some x0)), (3, .ptr (some x1)), (4, .ptr (some x2)), (6, .int .i64 x3)])) (ρ':=(za [(2, .ptr (some x0)), (3, .ptr (some x1)), (4, .ptr (some x2)), (6, .int .i64 x3)])) (by kernel_rfl) k K).trans (qj.u4.okl k K k x0 x1 x2 x3)
theorem qj.u5.ok (k:Nat) (x0 x1 x2:Ad) (x3:Int) (K:KF α) :
  eC k qj.u5.c (za [(2, .ptr (some x0)), (3, .ptr (some x1)), (4, .ptr (some x2)), (6, .int .i64 x3)]) K =
   qj.u5.f k x0 x1 x2 x3 (fun y0 y1=>K .normal (za [(2, .ptr (some y0)), (4, .ptr (some y1))])):=
 (ja.trans (qj.u4.ok k x0 x1 x2 x3 (jp 0 K))).trans (by kernel_rfl)
theorem qj.u6.ok (k:Nat) (x0 x1 x2:Ad) (K:KF α) :
  eC k qj.u6.c (za [(2, .ptr (some x0)), (3, .ptr (some x1)), (4, .ptr (some x2))]) K =
   qj.u6.f k x0 x1 x2 (fun y0 y1=>K .normal (za [(2, .ptr (some y0)), (4, .ptr (some y1))])):=
 (qj.u2.ok k x0 x1 x2 qj.u5.c K).trans
  (congrArg (fun z=>qj.u2.f k x0 x1 x2 z) (funext fun y0=>(funext fun y1=>(funext fun y2=>(funext fun y3=>qj.u5.ok k y0 y1 y2 y3 K)))))
theorem qj.u7.ok (k:Nat) (x0 x1:Ad) (K:KF α) :
  eC k qj.u7.c (za [(2, .ptr (some x0)), (4, .ptr (some x1))]) K =
   qj.u7.f k x0 x1 (fun y0=>K .ret (za [(4, .ptr (some y0))])):=by kernel_rfl
theorem qj.u8.ok (k:Nat) (x0 x1 x2:Ad) (K:KF α) :
  eC k qj.u8.c (za [(2, .ptr (some x0)), (3, .ptr (some x1)), (4, .ptr (some x2))]) K =
   qj.u8.f k x0 x1 x2 (fun y0=>K .ret (za [(4, .ptr (some y0))])):=
 by
  have h:=qj.u6.ok k x0 x1 x2 (seqK (fun ρ=>eC k qj.u7.c ρ K) K)
  simp only [zj, zn, zq, zp, qj.u7.ok] at h
  exact jd h
theorem qj.u9.ok (k:Nat) (x0 x1:Int) (x2 x3:Int) (x4 x5:Int) (x6 x7:Int) (K:KF α) :
  eC k qj.u9.c (za [(0, .agg [.int .u64 x0, .int .u64 x1, .int .u64 x2, .int .u64 x3]), (1, .agg [.int .u64 x4, .int .u64 x5, .int .u64 x6, .int .u64 x7])]) K =
   qj.u9.f k x0 x1 x2 x3 x4 x5 x6 x7 (fun y0=>K .ret (za [(4, .ptr (some y0))])):=
 (qj.u1.ok k x0 x1 x2 x3 x4 x5 x6 x7 qj.u8.c K).trans
  (congrArg (fun z=>qj.u1.f k x0 x1 x2 x3 x4 x5 x6 x7 z) (funext fun y0=>(funext fun y1=>(funext fun y2=>qj.u8.ok k y0 y1 y2 K))))
theorem qj.ok (k:Nat) (x0 x1:Int) (x2 x3:Int) (x4 x5:Int) (x6 x7:Int) (κ:Res->M α) :
  evF T (env k) k qj.c qj.res [.agg [.int .u64 x0, .int .u64 x1, .int .u64 x2, .int .u64 x3], .agg [.int .u64 x4, .int .u64 x5, .int .u64 x6, .int .u64 x7]] κ = qj.f (k + 1) x0 x1 x2 x3 x4 x5 x6 x7 (fun o0 o1 o2 o3=>κ (.ret (.agg [.int .u64 o0, .int .u64 o1, .int .u64 o2, .int .u64 o3]))):=
 (qj.u9.ok k x0 x1 x2 x3 x4 x5 x6 x7 (retK T qj.res κ)).trans (by kernel_rfl)
theorem qj.code:qj.c.code = jt Tryz.f22:=by kernel_rfl
noncomputable def qw.c:IC:=qw.u1.c
noncomputable def qw.res:List ResultVar:=[(.tmp 4)]
theorem qw.u1.ok (k:Nat) (x0 x1:Int) (x2 x3 x4:Int) (K:KF α) :
  eC k qw.u1.c (za [(0, .agg [.int .u64 x0, .int .u64 x1, .int .u64 x2, .int .u64 x3]), (1, .int .i64 x4)]) K =
   qw.u1.f k x0 x1 x2 x3 x4 (fun y0=>K .ret (fr15 y0)):=by kernel_rfl
theorem qw.ok (k:Nat) (x0 x1:Int) (x2 x3 x4:Int) (κ:Res->M α) :
  evF T (env k) k qw.c qw.res [.agg [.int .u64 x0, .int .u64 x1, .int .u64 x2, .int .u64 x3], .int .i64 x4] κ = qw.f (k + 1) x0 x1 x2 x3 x4 (fun o0=>κ (.ret (.bool o0))):=
 (qw.u1.ok k x0 x1 x2 x3 x4 (retK T qw.res κ)).trans (by kernel_rfl)
theorem qw.code:qw.c.code = jt Tryz.f21:=by kernel_rfl
noncomputable def qa.c:IC:=qa.u44.c
noncomputable def qa.res:List ResultVar:=[(.cell 8 36), (.tmp 9)]
theorem qa.u1.ok (k:Nat) (x0 x1 x2:Sl) (x3 x4:Int) (x5 x6:Int) (x7 x8:Int) (x9 x10 x11:Int) (R:IC) (K:KF α) :
  eC k (qa.u1.c R) (za [(0, .agg [.slice x0, .slice x1, .slice x2]), (1, .agg [.int .u64 x3, .int .u64 x4, .int .u64 x5, .int .u64 x6]), (2, .int .i64 x7), (3, .agg [.int .u64 x8, .int .u64 x9, .int .u64 x10, .int .u64 x11])]) K =
   qa.u1.f k x0 x1 x2 x3 x4 x5 x6 x7 x8 x9 x10 x11 (fun y0 y1 y2 y3 y4=>eC k R (za [(2, .int .i64 y0), (4, .ptr (some y1)), (5, .ptr (some y2)), (7, .ptr (some y3)), (8, .ptr (some y4))]) K) (fun y0 y1=>K .ret (za [(8, .ptr (some y0)), (9, .slice y1)])):=by kernel_rfl
theorem qa.u2.ok (k:Nat) (x0:Int) (x1 x2:Ad) (x3 x4:Ad) (R:IC) (K:KF α) :
  eC k (qa.u2.c R) (za [(2, .int .i64 x0), (4, .ptr (some x1)), (5, .ptr (some x2)), (7, .ptr (some x3)), (8, .ptr (some x4))]) K =
   qa.u2.f k x0 x1 x2 x3 x4 (fun y0 y1 y2 y3 y4 y5 y6 y7 y8=>eC k R (za [(2, .int .i64 y0), (4, .ptr (some y1)), (5, .ptr (some y2)), (7, .ptr (some y3)), (8, .ptr (some y4)), (12, .int .i64 y5), (13, .slice y6), (14, .slice y7), (15, .slice y8)]) K):=by kernel_rfl
theorem qa.u3.ok (k:Nat) (x0:Int) (x1 x2:Ad) (x3 x4:Ad) (x5:Int) (x6 x7 x8:Sl) (R:IC) (K:KF α) :
  eC k (qa.u3.c R) (za [(2, .int .i64 x0), (4, .ptr (some x1)), (5, .ptr (some x2)), (7, .ptr (some x3)), (8, .ptr (some x4)), (12, .int .i64 x5), (13, .slice x6), (14, .slice x7), (15, .slice x8)]) K =
   qa.u3.f k x0 x1 x2 x3 x4 x5 x6 x7 x8 (fun y0 y1 y2 y3 y4 y5 y6 y7 y8 y9=>eC k R (za [(2, .int .i64 y0), (4, .ptr (some y1)), (5, .ptr (some y2)), (7, .ptr (some y3)), (8, .ptr (some y4)), (13, .slice y5), (14, .slice y6), (15, .slice y7), (53, .int .i64 y8), (54, .int .i64 y9)]) K):=by kernel_rfl
theorem qa.u4.ok (k:Nat) (x0:Int) (x1 x2:Ad) (x3 x4:Ad) (x5 x6 x7:Sl) (x8 x9:Int) (R:IC) (K:KF α) :
  eC k (qa.u4.c R) (za [(2, .int .i64 x0), (4, .ptr (some x1)), (5, .ptr (some x2)), (7, .ptr (some x3)), (8, .ptr (some x4)), (13, .slice x5), (14, .slice x6), (15, .slice x7), (53, .int .i64 x8), (54, .int .i64 x9)]) K =
   qa.u4.f k x0 x1 x2 x3 x4 x5 x6 x7 x8 x9 (fun y0 y1 y2 y3 y4 y5 y6 y7 y8 y9=>eC k R (za [(2, .int .i64 y0), (4, .ptr (some y1)), (5, .ptr (some y2)), (7, .ptr (some y3)), (8, .ptr (some y4)), (13, .slice y5), (14, .slice y6), (15, .slice y7), (53, .int .i64 y8), (54, .int .i64 y9)]) K) (fun y0 y1 y2 y3 y4 y5 y6 y7=>K (.exit 0) (za [(2, .int .i64 y0), (4, .ptr (some y1)), (5, .ptr (some y2)), (7, .ptr (some y3)), (8, .ptr (some y4)), (13, .slice y5), (14, .slice y6), (15, .slice y7)])):=by kernel_rfl
theorem qa.u5.ok (k:Nat) (x0:Int) (x1 x2:Ad) (x3 x4:Ad) (x5 x6 x7:Sl) (x8 x9:Int) (R:IC) (K:KF α) :
  eC k (qa.u5.c R) (za [(2, .int .i64 x0), (4, .ptr (some x1)), (5, .ptr (some x2)), (7, .ptr (some x3)), (8, .ptr (some x4)), (13, .slice x5), (14, .slice x6), (15, .slice x7), (53, .int .i64 x8), (54, .int .i64 x9)]) K =
   qa.u5.f k x0 x1 x2 x3 x4 x5 x6 x7 x8 x9 (fun y0 y1 y2 y3 y4 y5 y6 y7 y8 y9 y10 y11 y12 y13=>eC k R (za [(2, .int .i64 y0), (4, .ptr (some y1)), (5, .ptr (some y2)), (7, .ptr (some y3)), (8, .ptr (some y4)), (13, .slice y5), (14, .slice y6), (15, .slice y7), (16, .int .i64 y8), (53, .int .i64 y9), (54, .int .i64 y10), (68, .slice y11), (69, .int .i64 y12), (70, .int .i64 y13)]) K) (fun y0 y1 y2 y3 y4 y5 y6 y7 y8 y9=>K (.exit 1) (za [(2, .int .i64 y0), (4, .ptr (some y1)), (5, .ptr (some y2)), (7, .ptr (some y3)), (8, .ptr (some y4)), (13, .slice y5), (14, .slice y6), (15, .slice y7), (53, .int .i64 y8), (54, .int .i64 y9)])):=by kernel_rfl
theorem qa.u6.ok (k:Nat) (x0:Int) (x1 x2:Ad) (x3 x4:Ad) (x5 x6 x7:Sl) (x8 x9 x10:Int) (x11:Sl) (x12 x13:Int) (K:KF α) :
  eC k qa.u6.c (za [(2, .int .i64 x0), (4, .ptr (some x1)), (5, .ptr (some x2)), (7, .ptr (some x3)), (8, .ptr (some x4)), (13, .slice x5), (14, .slice x6), (15, .slice x7), (16, .int .i64 x8), (53, .int .i64 x9), (54, .int .i64 x10), (68, .slice x11), (69, .int .i64 x12), (70, .int .i64 x13)]) K =
   qa.u6.f k x0 x1 x2 x3 x4 x5 x6 x7 x8 x9 x10 x11 x12 x13 (fun y0 y1 y2 y3 y4 y5 y6 y7 y8 y9 y10 y11 y12 y13=>K .normal (za [(2, .int .i64 y0), (4, .ptr (some y1)), (5, .ptr (some y2)), (7, .ptr (some y3)), (8, .ptr (some y4)), (13, .slice y5), (14, .slice y6), (15, .slice y7), (16, .int .i64 y8), (53, .int .i64 y9), (54, .int .i64 y10), (68, .slice y11), (69, .int .i64 y12), (70, .int .i64 y13)])) (fun y0 y1 y2 y3 y4 y5 y6 y7 y8 y9=>K (.exit 2) (za [(2, .int .i64 y0), (4, .ptr (some y1)), (5, .ptr (some y2)), (7, .ptr (some y3)), (8, .ptr (some y4)), (13, .slice y5), (14, .slice y6), (15, .slice y7), (53, .int .i64 y8), (54, .int .i64 y9)])):=by kernel_rfl
theorem qa.u7.ls (k:Nat) (kx2:Int->Ad->Ad->Ad->Ad->Sl->Sl->Sl->Int->Int->M α) (j:Nat) (x0:Int) (x1 x2:Ad) (x3 x4:Ad) (x5 x6 x7:Sl) (x8 x9 x10:Int) (x11:Sl) (x12 x13:Int):qa.u7.l k kx2 (j + 1) x0 x1 x2 x3 x4 x5 x6 x7 x8 x9 x10 x11 x12 x13 =
 qa.u6.f k x0 x1 x2 x3 x4 x5 x6 x7 x8 x9 x10 x11 x12 x13 (fun y0 y1 y2 y3 y4 y5 y6 y7 y8 y9 y10 y11 y12 y13=>qa.u7.l k kx2 j y0 y1 y2 y3 y4 y5 y6 y7 y8 y9 y10 y11 y12 y13) kx2:=rfl
theorem qa.u7.okl (k:Nat) (K:KF α):∀ (j:Nat) (x0:Int) (x1 x2:Ad) (x3 x4:Ad) (x5 x6 x7:Sl) (x8 x9 x10:Int) (x11:Sl) (x12 x13:Int),
  zu (eC k qa.u6.c) [2, 4, 5, 7, 8, 13, 14, 15, 16, 53, 54, 68, 69, 70] j (za [(2, .int .i64 x0), (4, .ptr (some x1)), (5, .ptr (some x2)), (7, .ptr (some x3)), (8, .ptr (some x4)), (13, .slice x5), (14, .slice x6), (15, .slice x7), (16, .int .i64 x8), (53, .int .i64 x9), (54, .int .i64 x10), (68, .slice x11), (69, .int .i64 x12), (70, .int .i64 x13)]) K = qa.u7.l k (fun y0 y1 y2 y3 y4 y5 y6 y7 y8 y9=>K (.exit 2) (za [(2, .int .i64 y0), (4, .ptr (some y1)), (5, .ptr (some y2)), (7, .ptr (some y3)), (8, .ptr (some y4)), (13, .slice y5), (14, .slice y6), (15, .slice y7), (53, .int .i64 y8), (54, .int .i64 y9)])) j x0 x1 x2 x3 x4 x5 x6 x7 x8 x9 x10 x11 x12 x13
 | 0, _, _, _, _, _, _, _, _, _, _, _, _, _, _=>rfl
 | j + 1, x0, x1, x2, x3, x4, x5, x6, x7, x8, x9, x10, x11, x12, x13=>by
   have h:=qa.u6.ok k x0 x1 x2 x3 x4 x5 x6 x7 x8 x9 x10 x11 x12 x13 (seqK (fun ρ=>zu (eC k qa.u6.c) [2, 4, 5, 7, 8, 13, 14, 15, 16, 53, 54, 68, 69, 70] j ρ K) K)
   simp only [zn, zq, zp, zj, qa.u7.okl k K j] at h
   exact (zy (by kernel_rfl) h).trans (qa.u7.ls k (fun y0 y1 y2 y3 y4 y5 y6 y7 y8 y9=>K (.exit 2) (za [(2, .int .i64 y0), (4, .ptr (some y1)), (5, .ptr (some y2)), (7, .ptr (some y3)), (8, .ptr (some y4)), (13, .slice y5), (14, .slice y6), (15, .slice y7), (53, .int .i64 y8), (54, .int .i64 y9)])) j x0 x1 x2 x3 x4 x5 x6 x7 x8 x9 x10 x11 x12 x13).symm
theorem qa.u7.ok (k:Nat) (x0:Int) (x1 x2:Ad) (x3 x4:Ad) (x5 x6 x7:Sl) (x8 x9 x10:Int) (x11:Sl) (x12 x13:Int) (K:KF α) :
  eC k qa.u7.c (za [(2, .int .i64 x0), (4, .ptr (some x1)), (5, .ptr (some x2)), (7, .ptr (some x3)), (8, .ptr (some x4)), (13, .slice x5), (14, .slice x6), (15, .slice x7), (16, .int .i64 x8), (53, .int .i64 x9), (54, .int .i64 x10), (68, .slice x11), (69, .int .i64 x12), (70, .int .i64 x13)]) K =
   qa.u7.f k x0 x1 x2 x3 x4 x5 x6 x7 x8 x9 x10 x11 x12 x13 (fun y0 y1 y2 y3 y4 y5 y6 y7 y8 y9=>K (.exit 2) (za [(2, .int .i64 y0), (4, .ptr (some y1)), (5, .ptr (some y2)), (7, .ptr (some y3)), (8, .ptr (some y4)), (13, .slice y5), (14, .slice y6), (15, .slice y7), (53, .int .i64 y8), (54, .int .i64 y9)])):=
 jo.trans <| (zx (body:=eC k qa.u6.c) (keep:=[2, 4, 5, 7, 8, 13, 14, 15, 16, 53, 54, 68, 69, 70]) (ρ:=(za [(2, .int .i64 x0), (4, .ptr (some x1)), (5, .ptr (some x2)), (7, .ptr (some x3)), (8, .ptr (some x4)), (13, .slice x5), (14, .slice x6), (15, .slice x7), (16, .int .i64 x8), (53, .int .i64 x9), (54, .int .i64 x10), (68, .slice x11), (69, .int .i64 x12), (70, .int .i64 x13)])) (ρ':=(za [(2, .int .i64 x0), (4, .ptr (some x1)), (5, .ptr (some x2)), (7, .ptr (some x3)), (8, .ptr (some x4)), (13, .slice x5), (14, .slice x6), (15, .slice x7), (16, .int .i64 x8), (53, .int .i64 x9), (54, .int .i64 x10), (68, .slice x11), (69, .int .i64 x12), (70, .int .i64 x13)])) (by kernel_rfl) k K).trans (qa.u7.okl k K k x0 x1 x2 x3 x4 x5 x6 x7 x8 x9 x10 x11 x12 x13)
theorem qa.u8.ok (k:Nat) (x0:Int) (x1 x2:Ad) (x3 x4:Ad) (x5 x6 x7:Sl) (x8 x9 x10:Int) (x11:Sl) (x12 x13:Int) (K:KF α) :
  eC k qa.u8.c (za [(2, .int .i64 x0), (4, .ptr (some x1)), (5, .ptr (some x2)), (7, .ptr (some x3)), (8, .ptr (some x4)), (13, .slice x5), (14, .slice x6), (15, .slice x7), (16, .int .i64 x8), (53, .int .i64 x9), (54, .int .i64 x10), (68, .slice x11), (69, .int .i64 x12), (70, .int .i64 x13)]) K =
   qa.u8.f k x0 x1 x2 x3 x4 x5 x6 x7 x8 x9 x10 x11 x12 x13 (fun y0 y1 y2 y3 y4 y5 y6 y7 y8 y9=>K .normal (za [(2, .int .i64 y0), (4, .ptr (some y1)), (5, .ptr (some y2)), (7, .ptr (some y3)), (8, .ptr (some y4)), (13, .slice y5), (14, .slice y6), (15, .slice y7), (53, .int .i64 y8), (54, .int .i64 y9)])):=
 (ja.trans (qa.u7.ok k x0 x1 x2 x3 x4 x5 x6 x7 x8 x9 x10 x11 x12 x13 (jp 2 K))).trans (by kernel_rfl)
theorem qa.u9.ok (k:Nat) (x0:Int) (x1 x2:Ad) (x3 x4:Ad) (x5 x6 x7:Sl) (x8 x9:Int) (K:KF α) :
  eC k qa.u9.c (za [(2, .int .i64 x0), (4, .ptr (some x1)), (5, .ptr (some x2)), (7, .ptr (some x3)), (8, .ptr (some x4)), (13, .slice x5), (14, .slice x6), (15, .slice x7), (53, .int .i64 x8), (54, .int .i64 x9)]) K =
   qa.u9.f k x0 x1 x2 x3 x4 x5 x6 x7 x8 x9 (fun y0 y1 y2 y3 y4 y5 y6 y7 y8 y9=>K .normal (za [(2, .int .i64 y0), (4, .ptr (some y1)), (5, .ptr (some y2)), (7, .ptr (some y3)), (8, .ptr (some y4)), (13, .slice y5), (14, .slice y6), (15, .slice y7), (53, .int .i64 y8), (54, .int .i64 y9)])) (fun y0 y1 y2 y3 y4 y5 y6 y7 y8 y9=>K (.exit 1) (za [(2, .int .i64 y0), (4, .ptr (some y1)), (5, .ptr (some y2)), (7, .ptr (some y3)), (8, .ptr (some y4)), (13, .slice y5), (14, .slice y6), (15, .slice y7), (53, .int .i64 y8), (54, .int .i64 y9)])):=
 (qa.u5.ok k x0 x1 x2 x3 x4 x5 x6 x7 x8 x9 qa.u8.c K).trans
  (congrArg (fun z=>qa.u5.f k x0 x1 x2 x3 x4 x5 x6 x7 x8 x9 z (fun y0 y1 y2 y3 y4 y5 y6 y7 y8 y9=>K (.exit 1) (za [(2, .int .i64 y0), (4, .ptr (some y1)), (5, .ptr (some y2)), (7, .ptr (some y3)), (8, .ptr (some y4)), (13, .slice y5), (14, .slice y6), (15, .slice y7), (53, .int .i64 y8), (54, .int .i64 y9)]))) (funext fun y0=>(funext fun y1=>(funext fun y2=>(funext fun y3=>(funext fun y4=>(funext fun y5=>(funext fun y6=>(funext fun y7=>(funext fun y8=>(funext fun y9=>(funext fun y10=>(funext fun y11=>(funext fun y12=>(funext fun y13=>qa.u8.ok k y0 y1 y2 y3 y4 y5 y6 y7 y8 y9 y10 y11 y12 y13 K)))))))))))))))
theorem qa.u10.ok (k:Nat) (x0:Int) (x1 x2:Ad) (x3 x4:Ad) (x5 x6 x7:Sl) (x8 x9:Int) (K:KF α) :
  eC k qa.u10.c (za [(2, .int .i64 x0), (4, .ptr (some x1)), (5, .ptr (some x2)), (7, .ptr (some x3)), (8, .ptr (some x4)), (13, .slice x5), (14, .slice x6), (15, .slice x7), (53, .int .i64 x8), (54, .int .i64 x9)]) K =
   qa.u10.f k x0 x1 x2 x3 x4 x5 x6 x7 x8 x9 (fun y0 y1 y2 y3 y4 y5 y6 y7 y8 y9=>K .normal (za [(2, .int .i64 y0), (4, .ptr (some y1)), (5, .ptr (some y2)), (7, .ptr (some y3)), (8, .ptr (some y4)), (13, .slice y5), (14, .slice y6), (15, .slice y7), (53, .int .i64 y8), (54, .int .i64 y9)])):=
 (ja.trans (qa.u9.ok k x0 x1 x2 x3 x4 x5 x6 x7 x8 x9 (jp 1 K))).trans (by kernel_rfl)
theorem qa.u11.ok (k:Nat) (x0:Int) (x1 x2:Ad) (x3 x4:Ad) (x5 x6 x7:Sl) (x8 x9:Int) (K:KF α) :
  eC k qa.u11.c (za [(2, .int .i64 x0), (4, .ptr (some x1)), (5, .ptr (some x2)), (7, .ptr (some x3)), (8, .ptr (some x4)), (13, .slice x5), (14, .slice x6), (15, .slice x7), (53, .int .i64 x8), (54, .int .i64 x9)]) K =
   qa.u11.f k x0 x1 x2 x3 x4 x5 x6 x7 x8 x9 (fun y0 y1 y2 y3 y4 y5 y6 y7 y8 y9=>K .normal (za [(2, .int .i64 y0), (4, .ptr (some y1)), (5, .ptr (some y2)), (7, .ptr (some y3)), (8, .ptr (some y4)), (13, .slice y5), (14, .slice y6), (15, .slice y7), (53, .int .i64 y8), (54, .int .i64 y9)])):=by kernel_rfl
theorem qa.u12.ok (k:Nat) (x0:Int) (x1 x2:Ad) (x3 x4:Ad) (x5 x6 x7:Sl) (x8 x9:Int) (K:KF α) :
  eC k qa.u12.c (za [(2, .int .i64 x0), (4, .ptr (some x1)), (5, .ptr (some x2)), (7, .ptr (some x3)), (8, .ptr (some x4)), (13, .slice x5), (14, .slice x6), (15, .slice x7), (53, .int .i64 x8), (54, .int .i64 x9)]) K =
   qa.u12.f k x0 x1 x2 x3 x4 x5 x6 x7 x8 x9 (fun y0 y1 y2 y3 y4 y5 y6 y7 y8 y9=>K .normal (za [(2, .int .i64 y0), (4, .ptr (some y1)), (5, .ptr (some y2)), (7, .ptr (some y3)), (8, .ptr (some y4)), (13, .slice y5), (14, .slice y6), (15, .slice y7), (53, .int .i64 y8), (54, .int .i64 y9)])):=
 by
  have h:=qa.u10.ok k x0 x1 x2 x3 x4 x5 x6 x7 x8 x9 (seqK (fun ρ=>eC k qa.u11.c ρ K) K)
  simp only [zj, zn, zq, zp, qa.u11.ok] at h
  exact jd h
theorem qa.u13.ok (k:Nat) (x0:Int) (x1 x2:Ad) (x3 x4:Ad) (x5 x6 x7:Sl) (x8 x9:Int) (K:KF α) :
  eC k qa.u13.c (za [(2, .int .i64 x0), (4, .ptr (some x1)), (5, .ptr (some x2)), (7, .ptr (some x3)), (8, .ptr (some x4)), (13, .slice x5), (14, .slice x6), (15, .slice x7), (53, .int .i64 x8), (54, .int .i64 x9)]) K =
   qa.u13.f k x0 x1 x2 x3 x4 x5 x6 x7 x8 x9 (fun y0 y1 y2 y3 y4 y5 y6 y7 y8 y9=>K .normal (za [(2, .int .i64 y0), (4, .ptr (some y1)), (5, .ptr (some y2)), (7, .ptr (some y3)), (8, .ptr (some y4)), (13, .slice y5), (14, .slice y6), (15, .slice y7), (53, .int .i64 y8), (54, .int .i64 y9)])) (fun y0 y1 y2 y3 y4 y5 y6 y7=>K (.exit 0) (za [(2, .int .i64 y0), (4, .ptr (some y1)), (5, .ptr (some y2)), (7, .ptr (some y3)), (8, .ptr (some y4)), (13, .slice y5), (14, .slice y6), (15, .slice y7)])):=
 (qa.u4.ok k x0 x1 x2 x3 x4 x5 x6 x7 x8 x9 qa.u12.c K).trans
  (congrArg (fun z=>qa.u4.f k x0 x1 x2 x3 x4 x5 x6 x7 x8 x9 z (fun y0 y1 y2 y3 y4 y5 y6 y7=>K (.exit 0) (za [(2, .int .i64 y0), (4, .ptr (some y1)), (5, .ptr (some y2)), (7, .ptr (some y3)), (8, .ptr (some y4)), (13, .slice y5), (14, .slice y6), (15, .slice y7)]))) (funext fun y0=>(funext fun y1=>(funext fun y2=>(funext fun y3=>(funext fun y4=>(funext fun y5=>(funext fun y6=>(funext fun y7=>(funext fun y8=>(funext fun y9=>qa.u12.ok k y0 y1 y2 y3 y4 y5 y6 y7 y8 y9 K)))))))))))
theorem qa.u14.ls (k:Nat) (kx0:Int->Ad->Ad->Ad->Ad->Sl->Sl->Sl->M α) (j:Nat) (x0:Int) (x1 x2:Ad) (x3 x4:Ad) (x5 x6 x7:Sl) (x8 x9:Int):qa.u14.l k kx0 (j + 1) x0 x1 x2 x3 x4 x5 x6 x7 x8 x9 =
 qa.u13.f k x0 x1 x2 x3 x4 x5 x6 x7 x8 x9 (fun y0 y1 y2 y3 y4 y5 y6 y7 y8 y9=>qa.u14.l k kx0 j y0 y1 y2 y3 y4 y5 y6 y7 y8 y9) kx0:=rfl
theorem qa.u14.okl (k:Nat) (K:KF α):∀ (j:Nat) (x0:Int) (x1 x2:Ad) (x3 x4:Ad) (x5 x6 x7:Sl) (x8 x9:Int),
  zu (eC k qa.u13.c) [2, 4, 5, 7, 8, 13, 14, 15, 53, 54] j (za [(2, .int .i64 x0), (4, .ptr (some x1)), (5, .ptr (some x2)), (7, .ptr (some x3)), (8, .ptr (some x4)), (13, .slice x5), (14, .slice x6), (15, .slice x7), (53, .int .i64 x8), (54, .int .i64 x9)]) K = qa.u14.l k (fun y0 y1 y2 y3 y4 y5 y6 y7=>K (.exit 0) (za [(2, .int .i64 y0), (4, .ptr (some y1)), (5, .ptr (some y2)), (7, .ptr (some y3)), (8, .ptr (some y4)), (13, .slice y5), (14, .slice y6), (15, .slice y7)])) j x0 x1 x2 x3 x4 x5 x6 x7 x8 x9
 | 0, _, _, _, _, _, _, _, _, _, _=>rfl
 | j + 1, x0, x1, x2, x3, x4, x5, x6, x7, x8, x9=>by
   have h:=qa.u13.ok k x0 x1 x2 x3 x4 x5 x6 x7 x8 x9 (seqK (fun ρ=>zu (eC k qa.u13.c) [2, 4, 5, 7, 8, 13, 14, 15, 53, 54] j ρ K) K)
   simp only [zn, zq, zp, zj, qa.u14.okl k K j] at h
   exact (zy (by kernel_rfl) h).trans (qa.u14.ls k (fun y0 y1 y2 y3 y4 y5 y6 y7=>K (.exit 0) (za [(2, .int .i64 y0), (4, .ptr (some y1)), (5, .ptr (some y2)), (7, .ptr (some y3)), (8, .ptr (some y4)), (13, .slice y5), (14, .slice y6), (15, .slice y7)])) j x0 x1 x2 x3 x4 x5 x6 x7 x8 x9).symm
theorem qa.u14.ok (k:Nat) (x0:Int) (x1 x2:Ad) (x3 x4:Ad) (x5 x6 x7:Sl) (x8 x9:Int) (K:KF α) :
  eC k qa.u14.c (za [(2, .int .i64 x0), (4, .ptr (some x1)), (5, .ptr (some x2)), (7, .ptr (some x3)), (8, .ptr (some x4)), (13, .slice x5), (14, .slice x6), (15, .slice x7), (53, .int .i64 x8), (54, .int .i64 x9)]) K =
   qa.u14.f k x0 x1 x2 x3 x4 x5 x6 x7 x8 x9 (fun y0 y1 y2 y3 y4 y5 y6 y7=>K (.exit 0) (za [(2, .int .i64 y0), (4, .ptr (some y1)), (5, .ptr (some y2)), (7, .ptr (some y3)), (8, .ptr (some y4)), (13, .slice y5), (14, .slice y6), (15, .slice y7)])):=
 jo.trans <| (zx (body:=eC k qa.u13.c) (keep:=[2, 4, 5, 7, 8, 13, 14, 15, 53, 54]) (ρ:=(za [(2, .int .i64 x0), (4, .ptr (some x1)), (5, .ptr (some x2)), (7, .ptr (some x3)), (8, .ptr (some x4)), (13, .slice x5), (14, .slice x6), (15, .slice x7), (53, .int .i64 x8), (54, .int .i64 x9)])) (ρ':=(za [(2, .int .i64 x0), (4, .ptr (some x1)), (5, .ptr (some x2)), (7, .ptr (some x3)), (8, .ptr (some x4)), (13, .slice x5), (14, .slice x6), (15, .slice x7), (53, .int .i64 x8), (54, .int .i64 x9)])) (by kernel_rfl) k K).trans (qa.u14.okl k K k x0 x1 x2 x3 x4 x5 x6 x7 x8 x9)
theorem qa.u15.ok (k:Nat) (x0:Int) (x1 x2:Ad) (x3 x4:Ad) (x5 x6 x7:Sl) (x8 x9:Int) (K:KF α) :
  eC k qa.u15.c (za [(2, .int .i64 x0), (4, .ptr (some x1)), (5, .ptr (some x2)), (7, .ptr (some x3)), (8, .ptr (some x4)), (13, .slice x5), (14, .slice x6), (15, .slice x7), (53, .int .i64 x8), (54, .int .i64 x9)]) K =
   qa.u15.f k x0 x1 x2 x3 x4 x5 x6 x7 x8 x9 (fun y0 y1 y2 y3 y4 y5 y6 y7=>K .normal (za [(2, .int .i64 y0), (4, .ptr (some y1)), (5, .ptr (some y2)), (7, .ptr (some y3)), (8, .ptr (some y4)), (13, .slice y5), (14, .slice y6), (15, .slice y7)])):=
 (ja.trans (qa.u14.ok k x0 x1 x2 x3 x4 x5 x6 x7 x8 x9 (jp 0 K))).trans (by kernel_rfl)
theorem qa.u16.ok (k:Nat) (x0:Int) (x1 x2:Ad) (x3 x4:Ad) (x5:Int) (x6 x7 x8:Sl) (K:KF α) :
  eC k qa.u16.c (za [(2, .int .i64 x0), (4, .ptr (some x1)), (5, .ptr (some x2)), (7, .ptr (some x3)), (8, .ptr (some x4)), (12, .int .i64 x5), (13, .slice x6), (14, .slice x7), (15, .slice x8)]) K =
   qa.u16.f k x0 x1 x2 x3 x4 x5 x6 x7 x8 (fun y0 y1 y2 y3 y4 y5 y6 y7=>K .normal (za [(2, .int .i64 y0), (4, .ptr (some y1)), (5, .ptr (some y2)), (7, .ptr (some y3)), (8, .ptr (some y4)), (13, .slice y5), (14, .slice y6), (15, .slice y7)])):=
 (qa.u3.ok k x0 x1 x2 x3 x4 x5 x6 x7 x8 qa.u15.c K).trans
  (congrArg (fun z=>qa.u3.f k x0 x1 x2 x3 x4 x5 x6 x7 x8 z) (funext fun y0=>(funext fun y1=>(funext fun y2=>(funext fun y3=>(funext fun y4=>(funext fun y5=>(funext fun y6=>(funext fun y7=>(funext fun y8=>(funext fun y9=>qa.u15.ok k y0 y1 y2 y3 y4 y5 y6 y7 y8 y9 K)))))))))))
theorem qa.u17.ok (k:Nat) (x0:Int) (x1 x2:Ad) (x3 x4:Ad) (x5 x6 x7:Sl) (R:IC) (K:KF α) :
  eC k (qa.u17.c R) (za [(2, .int .i64 x0), (4, .ptr (some x1)), (5, .ptr (some x2)), (7, .ptr (some x3)), (8, .ptr (some x4)), (13, .slice x5), (14, .slice x6), (15, .slice x7)]) K =
   qa.u17.f k x0 x1 x2 x3 x4 x5 x6 x7 (fun y0 y1 y2 y3 y4 y5 y6=>eC k R (za [(2, .int .i64 y0), (4, .ptr (some y1)), (8, .ptr (some y2)), (13, .slice y3), (14, .slice y4), (15, .slice y5), (19, .ptr (some y6))]) K):=by kernel_rfl
theorem qa.u18.ok (k:Nat) (x0:Int) (x1 x2:Ad) (x3 x4 x5:Sl) (x6:Ad) (R:IC) (K:KF α) :
  eC k (qa.u18.c R) (za [(2, .int .i64 x0), (4, .ptr (some x1)), (8, .ptr (some x2)), (13, .slice x3), (14, .slice x4), (15, .slice x5), (19, .ptr (some x6))]) K =
   qa.u18.f k x0 x1 x2 x3 x4 x5 x6 (fun y0 y1 y2 y3 y4 y5 y6 y7=>eC k R (za [(2, .int .i64 y0), (4, .ptr (some y1)), (8, .ptr (some y2)), (13, .slice y3), (14, .slice y4), (15, .slice y5), (19, .ptr (some y6)), (20, .slice y7)]) K):=by kernel_rfl
theorem qa.u19.ok (k:Nat) (x0:Int) (x1 x2:Ad) (x3 x4 x5:Sl) (x6:Ad) (x7:Sl) (R:IC) (K:KF α) :
  eC k (qa.u19.c R) (za [(2, .int .i64 x0), (4, .ptr (some x1)), (8, .ptr (some x2)), (13, .slice x3), (14, .slice x4), (15, .slice x5), (19, .ptr (some x6)), (20, .slice x7)]) K =
   qa.u19.f k x0 x1 x2 x3 x4 x5 x6 x7 (fun y0 y1 y2 y3 y4 y5 y6 y7=>eC k R (za [(2, .int .i64 y0), (4, .ptr (some y1)), (8, .ptr (some y2)), (13, .slice y3), (14, .slice y4), (15, .slice y5), (19, .ptr (some y6)), (20, .slice y7)]) K) (fun y0 y1 y2=>K (.exit 4) (za [(8, .ptr (some y0)), (15, .slice y1), (19, .ptr (some y2))])):=by kernel_rfl
theorem qa.u20.ok (k:Nat) (x0:Int) (x1 x2:Ad) (x3 x4 x5:Sl) (x6:Ad) (x7:Sl) (R:IC) (K:KF α) :
  eC k (qa.u20.c R) (za [(2, .int .i64 x0), (4, .ptr (some x1)), (8, .ptr (some x2)), (13, .slice x3), (14, .slice x4), (15, .slice x5), (19, .ptr (some x6)), (20, .slice x7)]) K =
   qa.u20.f k x0 x1 x2 x3 x4 x5 x6 x7 (fun y0 y1 y2 y3 y4 y5 y6 y7 y8 y9 y10 y11=>eC k R (za [(2, .int .i64 y0), (4, .ptr (some y1)), (8, .ptr (some y2)), (13, .slice y3), (14, .slice y4), (15, .slice y5), (19, .ptr (some y6)), (20, .slice y7), (21, .int .i64 y8), (111, .slice y9), (112, .int .i64 y10), (113, .int .i64 y11)]) K):=by kernel_rfl
theorem qa.u21.ok (k:Nat) (x0:Int) (x1 x2:Ad) (x3 x4 x5:Sl) (x6:Ad) (x7:Sl) (x8:Int) (x9:Sl) (x10 x11:Int) (R:IC) (K:KF α) :
  eC k (qa.u21.c R) (za [(2, .int .i64 x0), (4, .ptr (some x1)), (8, .ptr (some x2)), (13, .slice x3), (14, .slice x4), (15, .slice x5), (19, .ptr (some x6)), (20, .slice x7), (21, .int .i64 x8), (111, .slice x9), (112, .int .i64 x10), (113, .int .i64 x11)]) K =
   qa.u21.f k x0 x1 x2 x3 x4 x5 x6 x7 x8 x9 x10 x11 (fun y0 y1 y2 y3 y4 y5 y6 y7 y8 y9 y10 y11=>eC k R (za [(2, .int .i64 y0), (4, .ptr (some y1)), (8, .ptr (some y2)), (13, .slice y3), (14, .slice y4), (15, .slice y5), (19, .ptr (some y6)), (20, .slice y7), (21, .int .i64 y8), (111, .slice y9), (112, .int .i64 y10), (113, .int .i64 y11)]) K) (fun y0 y1 y2 y3 y4 y5 y6 y7=>K (.exit 6) (za [(2, .int .i64 y0), (4, .ptr (some y1)), (8, .ptr (some y2)), (13, .slice y3), (14, .slice y4), (15, .slice y5), (19, .ptr (some y6)), (20, .slice y7)])):=by kernel_rfl
theorem qa.u22.ok (k:Nat) (x0:Int) (x1 x2:Ad) (x3 x4 x5:Sl) (x6:Ad) (x7:Sl) (x8:Int) (x9:Sl) (x10 x11:Int) (R:IC) (K:KF α) :
  eC k (qa.u22.c R) (za [(2, .int .i64 x0), (4, .ptr (some x1)), (8, .ptr (some x2)), (13, .slice x3), (14, .slice x4), (15, .slice x5), (19, .ptr (some x6)), (20, .slice x7), (21, .int .i64 x8), (111, .slice x9), (112, .int .i64 x10), (113, .int .i64 x11)]) K =
   qa.u22.f k x0 x1 x2 x3 x4 x5 x6 x7 x8 x9 x10 x11 (fun y0 y1 y2 y3 y4 y5 y6 y7 y8 y9 y10 y11 y12=>eC k R (za [(2, .int .i64 y0), (4, .ptr (some y1)), (8, .ptr (some y2)), (13, .slice y3), (14, .slice y4), (15, .slice y5), (19, .ptr (some y6)), (20, .slice y7), (21, .int .i64 y8), (23, .int .i64 y9), (111, .slice y10), (112, .int .i64 y11), (113, .int .i64 y12)]) K) (fun y0 y1 y2 y3 y4 y5 y6 y7 y8 y9 y10 y11=>K (.exit 7) (za [(2, .int .i64 y0), (4, .ptr (some y1)), (8, .ptr (some y2)), (13, .slice y3), (14, .slice y4), (15, .slice y5), (19, .ptr (some y6)), (20, .slice y7), (21, .int .i64 y8), (111, .slice y9), (112, .int .i64 y10), (113, .int .i64 y11)])):=by kernel_rfl
theorem qa.u23.ok (k:Nat) (x0:Int) (x1 x2:Ad) (x3 x4 x5:Sl) (x6:Ad) (x7:Sl) (x8 x9:Int) (x10:Sl) (x11 x12:Int) (K:KF α) :
  eC k qa.u23.c (za [(2, .int .i64 x0), (4, .ptr (some x1)), (8, .ptr (some x2)), (13, .slice x3), (14, .slice x4), (15, .slice x5), (19, .ptr (some x6)), (20, .slice x7), (21, .int .i64 x8), (23, .int .i64 x9), (111, .slice x10), (112, .int .i64 x11), (113, .int .i64 x12)]) K =
   qa.u23.f k x0 x1 x2 x3 x4 x5 x6 x7 x8 x9 x10 x11 x12 (fun y0 y1 y2 y3 y4 y5 y6 y7 y8 y9 y10 y11=>K .normal (za [(2, .int .i64 y0), (4, .ptr (some y1)), (8, .ptr (some y2)), (13, .slice y3), (14, .slice y4), (15, .slice y5), (19, .ptr (some y6)), (20, .slice y7), (21, .int .i64 y8), (111, .slice y9), (112, .int .i64 y10), (113, .int .i64 y11)])):=by kernel_rfl
theorem qa.u24.ok (k:Nat) (x0:Int) (x1 x2:Ad) (x3 x4 x5:Sl) (x6:Ad) (x7:Sl) (x8:Int) (x9:Sl) (x10 x11:Int) (K:KF α) :
  eC k qa.u24.c (za [(2, .int .i64 x0), (4, .ptr (some x1)), (8, .ptr (some x2)), (13, .slice x3), (14, .slice x4), (15, .slice x5), (19, .ptr (some x6)), (20, .slice x7), (21, .int .i64 x8), (111, .slice x9), (112, .int .i64 x10), (113, .int .i64 x11)]) K =
   qa.u24.f k x0 x1 x2 x3 x4 x5 x6 x7 x8 x9 x10 x11 (fun y0 y1 y2 y3 y4 y5 y6 y7 y8 y9 y10 y11=>K .normal (za [(2, .int .i64 y0), (4, .ptr (some y1)), (8, .ptr (some y2)), (13, .slice y3), (14, .slice y4), (15, .slice y5), (19, .ptr (some y6)), (20, .slice y7), (21, .int .i64 y8), (111, .slice y9), (112, .int .i64 y10), (113, .int .i64 y11)])) (fun y0 y1 y2 y3 y4 y5 y6 y7 y8 y9 y10 y11=>K (.exit 7) (za [(2, .int .i64 y0), (4, .ptr (some y1)), (8, .ptr (some y2)), (13, .slice y3), (14, .slice y4), (15, .slice y5), (19, .ptr (some y6)), (20, .slice y7), (21, .int .i64 y8), (111, .slice y9), (112, .int .i64 y10), (113, .int .i64 y11)])):=
 (qa.u22.ok k x0 x1 x2 x3 x4 x5 x6 x7 x8 x9 x10 x11 qa.u23.c K).trans
  (congrArg (fun z=>qa.u22.f k x0 x1 x2 x3 x4 x5 x6 x7 x8 x9 x10 x11 z (fun y0 y1 y2 y3 y4 y5 y6 y7 y8 y9 y10 y11=>K (.exit 7) (za [(2, .int .i64 y0), (4, .ptr (some y1)), (8, .ptr (some y2)), (13, .slice y3), (14, .slice y4), (15, .slice y5), (19, .ptr (some y6)), (20, .slice y7), (21, .int .i64 y8), (111, .slice y9), (112, .int .i64 y10), (113, .int .i64 y11)]))) (funext fun y0=>(funext fun y1=>(funext fun y2=>(funext fun y3=>(funext fun y4=>(funext fun y5=>(funext fun y6=>(funext fun y7=>(funext fun y8=>(funext fun y9=>(funext fun y10=>(funext fun y11=>(funext fun y12=>qa.u23.ok k y0 y1 y2 y3 y4 y5 y6 y7 y8 y9 y10 y11 y12 K))))))))))))))
theorem qa.u25.ok (k:Nat) (x0:Int) (x1 x2:Ad) (x3 x4 x5:Sl) (x6:Ad) (x7:Sl) (x8:Int) (x9:Sl) (x10 x11:Int) (K:KF α) :
  eC k qa.u25.c (za [(2, .int .i64 x0), (4, .ptr (some x1)), (8, .ptr (some x2)), (13, .slice x3), (14, .slice x4), (15, .slice x5), (19, .ptr (some x6)), (20, .slice x7), (21, .int .i64 x8), (111, .slice x9), (112, .int .i64 x10), (113, .int .i64 x11)]) K =
   qa.u25.f k x0 x1 x2 x3 x4 x5 x6 x7 x8 x9 x10 x11 (fun y0 y1 y2 y3 y4 y5 y6 y7 y8 y9 y10 y11=>K .normal (za [(2, .int .i64 y0), (4, .ptr (some y1)), (8, .ptr (some y2)), (13, .slice y3), (14, .slice y4), (15, .slice y5), (19, .ptr (some y6)), (20, .slice y7), (21, .int .i64 y8), (111, .slice y9), (112, .int .i64 y10), (113, .int .i64 y11)])):=
 (ja.trans (qa.u24.ok k x0 x1 x2 x3 x4 x5 x6 x7 x8 x9 x10 x11 (jp 7 K))).trans (by kernel_rfl)
theorem qa.u26.ok (k:Nat) (x0:Int) (x1 x2:Ad) (x3 x4 x5:Sl) (x6:Ad) (x7:Sl) (x8:Int) (x9:Sl) (x10 x11:Int) (K:KF α) :
  eC k qa.u26.c (za [(2, .int .i64 x0), (4, .ptr (some x1)), (8, .ptr (some x2)), (13, .slice x3), (14, .slice x4), (15, .slice x5), (19, .ptr (some x6)), (20, .slice x7), (21, .int .i64 x8), (111, .slice x9), (112, .int .i64 x10), (113, .int .i64 x11)]) K =
   qa.u26.f k x0 x1 x2 x3 x4 x5 x6 x7 x8 x9 x10 x11 (fun y0 y1 y2 y3 y4 y5 y6 y7 y8 y9 y10 y11=>K .normal (za [(2, .int .i64 y0), (4, .ptr (some y1)), (8, .ptr (some y2)), (13, .slice y3), (14, .slice y4), (15, .slice y5), (19, .ptr (some y6)), (20, .slice y7), (21, .int .i64 y8), (111, .slice y9), (112, .int .i64 y10), (113, .int .i64 y11)])):=by kernel_rfl
theorem qa.u27.ok (k:Nat) (x0:Int) (x1 x2:Ad) (x3 x4 x5:Sl) (x6:Ad) (x7:Sl) (x8:Int) (x9:Sl) (x10 x11:Int) (K:KF α) :
  eC k qa.u27.c (za [(2, .int .i64 x0), (4, .ptr (some x1)), (8, .ptr (some x2)), (13, .slice x3), (14, .slice x4), (15, .slice x5), (19, .ptr (some x6)), (20, .slice x7), (21, .int .i64 x8), (111, .slice x9), (112, .int .i64 x10), (113, .int .i64 x11)]) K =
   qa.u27.f k x0 x1 x2 x3 x4 x5 x6 x7 x8 x9 x10 x11 (fun y0 y1 y2 y3 y4 y5 y6 y7 y8 y9 y10 y11=>K .normal (za [(2, .int .i64 y0), (4, .ptr (some y1)), (8, .ptr (some y2)), (13, .slice y3), (14, .slice y4), (15, .slice y5), (19, .ptr (some y6)), (20, .slice y7), (21, .int .i64 y8), (111, .slice y9), (112, .int .i64 y10), (113, .int .i64 y11)])):=
 by
  have h:=qa.u25.ok k x0 x1 x2 x3 x4 x5 x6 x7 x8 x9 x10 x11 (seqK (fun ρ=>eC k qa.u26.c ρ K) K)
  simp only [zj, zn, zq, zp, qa.u26.ok] at h
  exact jd h
theorem qa.u28.ok (k:Nat) (x0:Int) (x1 x2:Ad) (x3 x4 x5:Sl) (x6:Ad) (x7:Sl) (x8:Int) (x9:Sl) (x10 x11:Int) (K:KF α) :
  eC k qa.u28.c (za [(2, .int .i64 x0), (4, .ptr (some x1)), (8, .ptr (some x2)), (13, .slice x3), (14, .slice x4), (15, .slice x5), (19, .ptr (some x6)), (20, .slice x7), (21, .int .i64 x8), (111, .slice x9), (112, .int .i64 x10), (113, .int .i64 x11)]) K =
   qa.u28.f k x0 x1 x2 x3 x4 x5 x6 x7 x8 x9 x10 x11 (fun y0 y1 y2 y3 y4 y5 y6 y7 y8 y9 y10 y11=>K .normal (za [(2, .int .i64 y0), (4, .ptr (some y1)), (8, .ptr (some y2)), (13, .slice y3), (14, .slice y4), (15, .slice y5), (19, .ptr (some y6)), (20, .slice y7), (21, .int .i64 y8), (111, .slice y9), (112, .int .i64 y10), (113, .int .i64 y11)])) (fun y0 y1 y2 y3 y4 y5 y6 y7=>K (.exit 6) (za [(2, .int .i64 y0), (4, .ptr (some y1)), (8, .ptr (some y2)), (13, .slice y3), (14, .slice y4), (15, .slice y5), (19, .ptr (some y6)), (20, .slice y7)])):=
 (qa.u21.ok k x0 x1 x2 x3 x4 x5 x6 x7 x8 x9 x10 x11 qa.u27.c K).trans
  (congrArg (fun z=>qa.u21.f k x0 x1 x2 x3 x4 x5 x6 x7 x8 x9 x10 x11 z (fun y0 y1 y2 y3 y4 y5 y6 y7=>K (.exit 6) (za [(2, .int .i64 y0), (4, .ptr (some y1)), (8, .ptr (some y2)), (13, .slice y3), (14, .slice y4), (15, .slice y5), (19, .ptr (some y6)), (20, .slice y7)]))) (funext fun y0=>(funext fun y1=>(funext fun y2=>(funext fun y3=>(funext fun y4=>(funext fun y5=>(funext fun y6=>(funext fun y7=>(funext fun y8=>(funext fun y9=>(funext fun y10=>(funext fun y11=>qa.u27.ok k y0 y1 y2 y3 y4 y5 y6 y7 y8 y9 y10 y11 K)))))))))))))
theorem qa.u29.ls (k:Nat) (kx6:Int->Ad->Ad->Sl->Sl->Sl->Ad->Sl->M α) (j:Nat) (x0:Int) (x1 x2:Ad) (x3 x4 x5:Sl) (x6:Ad) (x7:Sl) (x8:Int) (x9:Sl) (x10 x11:Int):qa.u29.l k kx6 (j + 1) x0 x1 x2 x3 x4 x5 x6 x7 x8 x9 x10 x11 =
 qa.u28.f k x0 x1 x2 x3 x4 x5 x6 x7 x8 x9 x10 x11 (fun y0 y1 y2 y3 y4 y5 y6 y7 y8 y9 y10 y11=>qa.u29.l k kx6 j y0 y1 y2 y3 y4 y5 y6 y7 y8 y9 y10 y11) kx6:=rfl
theorem qa.u29.okl (k:Nat) (K:KF α):∀ (j:Nat) (x0:Int) (x1 x2:Ad) (x3 x4 x5:Sl) (x6:Ad) (x7:Sl) (x8:Int) (x9:Sl) (x10 x11:Int),
  zu (eC k qa.u28.c) [2, 4, 8, 13, 14, 15, 19, 20, 21, 111, 112, 113] j (za [(2, .int .i64 x0), (4, .ptr (some x1)), (8, .ptr (some x2)), (13, .slice x3), (14, .slice x4), (15, .slice x5), (19, .ptr (some x6)), (20, .slice x7), (21, .int .i64 x8), (111, .slice x9), (112, .int .i64 x10), (113, .int .i64 x11)]) K = qa.u29.l k (fun y0 y1 y2 y3 y4 y5 y6 y7=>K (.exit 6) (za [(2, .int .i64 y0), (4, .ptr (some y1)), (8, .ptr (some y2)), (13, .slice y3), (14, .slice y4), (15, .slice y5), (19, .ptr (some y6)), (20, .slice y7)])) j x0 x1 x2 x3 x4 x5 x6 x7 x8 x9 x10 x11
 | 0, _, _, _, _, _, _, _, _, _, _, _, _=>rfl
 | j + 1, x0, x1, x2, x3, x4, x5, x6, x7, x8, x9, x10, x11=>by
   have h:=qa.u28.ok k x0 x1 x2 x3 x4 x5 x6 x7 x8 x9 x10 x11 (seqK (fun ρ=>zu (eC k qa.u28.c) [2, 4, 8, 13, 14, 15, 19, 20, 21, 111, 112, 113] j ρ K) K)
   simp only [zn, zq, zp, zj, qa.u29.okl k K j] at h
   exact (zy (by kernel_rfl) h).trans (qa.u29.ls k (fun y0 y1 y2 y3 y4 y5 y6 y7=>K (.exit 6) (za [(2, .int .i64 y0), (4, .ptr (some y1)), (8, .ptr (some y2)), (13, .slice y3), (14, .slice y4), (15, .slice y5), (19, .ptr (some y6)), (20, .slice y7)])) j x0 x1 x2 x3 x4 x5 x6 x7 x8 x9 x10 x11).symm
theorem qa.u29.ok (k:Nat) (x0:Int) (x1 x2:Ad) (x3 x4 x5:Sl) (x6:Ad) (x7:Sl) (x8:Int) (x9:Sl) (x10 x11:Int) (K:KF α) :
  eC k qa.u29.c (za [(2, .int .i64 x0), (4, .ptr (some x1)), (8, .ptr (some x2)), (13, .slice x3), (14, .slice x4), (15, .slice x5), (19, .ptr (some x6)), (20, .slice x7), (21, .int .i64 x8), (111, .slice x9), (112, .int .i64 x10), (113, .int .i64 x11)]) K =
   qa.u29.f k x0 x1 x2 x3 x4 x5 x6 x7 x8 x9 x10 x11 (fun y0 y1 y2 y3 y4 y5 y6 y7=>K (.exit 6) (za [(2, .int .i64 y0), (4, .ptr (some y1)), (8, .ptr (some y2)), (13, .slice y3), (14, .slice y4), (15, .slice y5), (19, .ptr (some y6)), (20, .slice y7)])):=
 jo.trans <| (zx (body:=eC k qa.u28.c) (keep:=[2, 4, 8, 13, 14, 15, 19, 20, 21, 111, 112, 113]) (ρ:=(za [(2, .int .i64 x0), (4, .ptr (some x1)), (8, .ptr (some x2)), (13, .slice x3), (14, .slice x4), (15, .slice x5), (19, .ptr (some x6)), (20, .slice x7), (21, .int .i64 x8), (111, .slice x9), (112, .int .i64 x10), (113, .int .i64 x11)])) (ρ':=(za [(2, .int .i64 x0), (4, .ptr (some x1)), (8, .ptr (some x2)), (13, .slice x3), (14, .slice x4), (15, .slice x5), (19, .ptr (some x6)), (20, .slice x7), (21, .int .i64 x8), (111, .slice x9), (112, .int .i64 x10), (113, .int .i64 x11)])) (by kernel_rfl) k K).trans (qa.u29.okl k K k x0 x1 x2 x3 x4 x5 x6 x7 x8 x9 x10 x11)
theorem qa.u30.ok (k:Nat) (x0:Int) (x1 x2:Ad) (x3 x4 x5:Sl) (x6:Ad) (x7:Sl) (x8:Int) (x9:Sl) (x10 x11:Int) (K:KF α) :
  eC k qa.u30.c (za [(2, .int .i64 x0), (4, .ptr (some x1)), (8, .ptr (some x2)), (13, .slice x3), (14, .slice x4), (15, .slice x5), (19, .ptr (some x6)), (20, .slice x7), (21, .int .i64 x8), (111, .slice x9), (112, .int .i64 x10), (113, .int .i64 x11)]) K =
   qa.u30.f k x0 x1 x2 x3 x4 x5 x6 x7 x8 x9 x10 x11 (fun y0 y1 y2 y3 y4 y5 y6 y7=>K .normal (za [(2, .int .i64 y0), (4, .ptr (some y1)), (8, .ptr (some y2)), (13, .slice y3), (14, .slice y4), (15, .slice y5), (19, .ptr (some y6)), (20, .slice y7)])):=
 (ja.trans (qa.u29.ok k x0 x1 x2 x3 x4 x5 x6 x7 x8 x9 x10 x11 (jp 6 K))).trans (by kernel_rfl)
theorem qa.u31.ok (k:Nat) (x0:Int) (x1 x2:Ad) (x3 x4 x5:Sl) (x6:Ad) (x7:Sl) (K:KF α) :
  eC k qa.u31.c (za [(2, .int .i64 x0), (4, .ptr (some x1)), (8, .ptr (some x2)), (13, .slice x3), (14, .slice x4), (15, .slice x5), (19, .ptr (some x6)), (20, .slice x7)]) K =
   qa.u31.f k x0 x1 x2 x3 x4 x5 x6 x7 (fun y0 y1 y2 y3 y4 y5 y6 y7=>K .normal (za [(2, .int .i64 y0), (4, .ptr (some y1)), (8, .ptr (some y2)), (13, .slice y3), (14, .slice y4), (15, .slice y5), (19, .ptr (some y6)), (20, .slice y7)])):=
 (qa.u20.ok k x0 x1 x2 x3 x4 x5 x6 x7 qa.u30.c K).trans
  (congrArg (fun z=>qa.u20.f k x0 x1 x2 x3 x4 x5 x6 x7 z) (funext fun y0=>(funext fun y1=>(funext fun y2=>(funext fun y3=>(funext fun y4=>(funext fun y5=>(funext fun y6=>(funext fun y7=>(funext fun y8=>(funext fun y9=>(funext fun y10=>(funext fun y11=>qa.u30.ok k y0 y1 y2 y3 y4 y5 y6 y7 y8 y9 y10 y11 K)))))))))))))
theorem qa.u32.ok (k:Nat) (x0:Int) (x1 x2:Ad) (x3 x4 x5:Sl) (x6:Ad) (x7:Sl) (K:KF α) :
  eC k qa.u32.c (za [(2, .int .i64 x0), (4, .ptr (some x1)), (8, .ptr (some x2)), (13, .slice x3), (14, .slice x4), (15, .slice x5), (19, .ptr (some x6)), (20, .slice x7)]) K =
   qa.u32.f k x0 x1 x2 x3 x4 x5 x6 x7 (fun y0 y1 y2 y3 y4 y5 y6 y7=>K .normal (za [(2, .int .i64 y0), (4, .ptr (some y1)), (8, .ptr (some y2)), (13, .slice y3), (14, .slice y4), (15, .slice y5), (19, .ptr (some y6)), (20, .slice y7)])):=
 (ja.trans (qa.u31.ok k x0 x1 x2 x3 x4 x5 x6 x7 (jp 5 K))).trans (by kernel_rfl)
theorem qa.u33.ok (k:Nat) (x0:Int) (x1 x2:Ad) (x3 x4 x5:Sl) (x6:Ad) (x7:Sl) (K:KF α) :
  eC k qa.u33.c (za [(2, .int .i64 x0), (4, .ptr (some x1)), (8, .ptr (some x2)), (13, .slice x3), (14, .slice x4), (15, .slice x5), (19, .ptr (some x6)), (20, .slice x7)]) K =
   qa.u33.f k x0 x1 x2 x3 x4 x5 x6 x7 (fun y0 y1 y2 y3 y4 y5 y6 y7=>K .normal (za [(2, .int .i64 y0), (4, .ptr (some y1)), (8, .ptr (some y2)), (13, .slice y3), (14, .slice y4), (15, .slice y5), (19, .ptr (some y6)), (20, .slice y7)])):=by kernel_rfl
theorem qa.u34.ok (k:Nat) (x0:Int) (x1 x2:Ad) (x3 x4 x5:Sl) (x6:Ad) (x7:Sl) (K:KF α) :
  eC k qa.u34.c (za [(2, .int .i64 x0), (4, .ptr (some x1)), (8, .ptr (some x2)), (13, .slice x3), (14, .slice x4), (15, .slice x5), (19, .ptr (some x6)), (20, .slice x7)]) K =
   qa.u34.f k x0 x1 x2 x3 x4 x5 x6 x7 (fun y0 y1 y2 y3 y4 y5 y6 y7=>K .normal (za [(2, .int .i64 y0), (4, .ptr (some y1)), (8, .ptr (some y2)), (13, .slice y3), (14, .slice y4), (15, .slice y5), (19, .ptr (some y6)), (20, .slice y7)])):=
 by
  have h:=qa.u32.ok k x0 x1 x2 x3 x4 x5 x6 x7 (seqK (fun ρ=>eC k qa.u33.c ρ K) K)
  simp only [zj, zn, zq, zp, qa.u33.ok] at h
  exact jd h
theorem qa.u35.ok (k:Nat) (x0:Int) (x1 x2:Ad) (x3 x4 x5:Sl) (x6:Ad) (x7:Sl) (K:KF α) :
  eC k qa.u35.c (za [(2, .int .i64 x0), (4, .ptr (some x1)), (8, .ptr (some x2)), (13, .slice x3), (14, .slice x4), (15, .slice x5), (19, .ptr (some x6)), (20, .slice x7)]) K =
   qa.u35.f k x0 x1 x2 x3 x4 x5 x6 x7 (fun y0 y1 y2 y3 y4 y5 y6 y7=>K .normal (za [(2, .int .i64 y0), (4, .ptr (some y1)), (8, .ptr (some y2)), (13, .slice y3), (14, .slice y4), (15, .slice y5), (19, .ptr (some y6)), (20, .slice y7)])) (fun y0 y1 y2=>K (.exit 4) (za [(8, .ptr (some y0)), (15, .slice y1), (19, .ptr (some y2))])):=
 (qa.u19.ok k x0 x1 x2 x3 x4 x5 x6 x7 qa.u34.c K).trans
  (congrArg (fun z=>qa.u19.f k x0 x1 x2 x3 x4 x5 x6 x7 z (fun y0 y1 y2=>K (.exit 4) (za [(8, .ptr (some y0)), (15, .slice y1), (19, .ptr (some y2))]))) (funext fun y0=>(funext fun y1=>(funext fun y2=>(funext fun y3=>(funext fun y4=>(funext fun y5=>(funext fun y6=>(funext fun y7=>qa.u34.ok k y0 y1 y2 y3 y4 y5 y6 y7 K)))))))))
theorem qa.u36.ls (k:Nat) (kx4:Ad->Sl->Ad->M α) (j:Nat) (x0:Int) (x1 x2:Ad) (x3 x4 x5:Sl) (x6:Ad) (x7:Sl):qa.u36.l k kx4 (j + 1) x0 x1 x2 x3 x4 x5 x6 x7 =
 qa.u35.f k x0 x1 x2 x3 x4 x5 x6 x7 (fun y0 y1 y2 y3 y4 y5 y6 y7=>qa.u36.l k kx4 j y0 y1 y2 y3 y4 y5 y6 y7) kx4:=rfl
theorem qa.u36.okl (k:Nat) (K:KF α):∀ (j:Nat) (x0:Int) (x1 x2:Ad) (x3 x4 x5:Sl) (x6:Ad) (x7:Sl),
  zu (eC k qa.u35.c) [2, 4, 8, 13, 14, 15, 19, 20] j (za [(2, .int .i64 x0), (4, .ptr (some x1)), (8, .ptr (some x2)), (13, .slice x3), (14, .slice x4), (15, .slice x5), (19, .ptr (some x6)), (20, .slice x7)]) K = qa.u36.l k (fun y0 y1 y2=>K (.exit 4) (za [(8, .ptr (some y0)), (15, .slice y1), (19, .ptr (some y2))])) j x0 x1 x2 x3 x4 x5 x6 x7
 | 0, _, _, _, _, _, _, _, _=>rfl
 | j + 1, x0, x1, x2, x3, x4, x5, x6, x7=>by
   have h:=qa.u35.ok k x0 x1 x2 x3 x4 x5 x6 x7 (seqK (fun ρ=>zu (eC k qa.u35.c) [2, 4, 8, 13, 14, 15, 19, 20] j ρ K) K)
   simp only [zn, zq, zp, zj, qa.u36.okl k K j] at h
   exact (zy (by kernel_rfl) h).trans (qa.u36.ls k (fun y0 y1 y2=>K (.exit 4) (za [(8, .ptr (some y0)), (15, .slice y1), (19, .ptr (some y2))])) j x0 x1 x2 x3 x4 x5 x6 x7).symm
theorem qa.u36.ok (k:Nat) (x0:Int) (x1 x2:Ad) (x3 x4 x5:Sl) (x6:Ad) (x7:Sl) (K:KF α) :
  eC k qa.u36.c (za [(2, .int .i64 x0), (4, .ptr (some x1)), (8, .ptr (some x2)), (13, .slice x3), (14, .slice x4), (15, .slice x5), (19, .ptr (some x6)), (20, .slice x7)]) K =
   qa.u36.f k x0 x1 x2 x3 x4 x5 x6 x7 (fun y0 y1 y2=>K (.exit 4) (za [(8, .ptr (some y0)), (15, .slice y1), (19, .ptr (some y2))])):=
 jo.trans <| (zx (body:=eC k qa.u35.c) (keep:=[2, 4, 8, 13, 14, 15, 19, 20]) (ρ:=(za [(2, .int .i64 x0), (4, .ptr (some x1)), (8, .ptr (some x2)), (13, .slice x3), (14, .slice x4), (15, .slice x5), (19, .ptr (some x6)), (20, .slice x7)])) (ρ':=(za [(2, .int .i64 x0), (4, .ptr (some x1)), (8, .ptr (some x2)), (13, .slice x3), (14, .slice x4), (15, .slice x5), (19, .ptr (some x6)), (20, .slice x7)])) (by kernel_rfl) k K).trans (qa.u36.okl k K k x0 x1 x2 x3 x4 x5 x6 x7)
theorem qa.u37.ok (k:Nat) (x0:Int) (x1 x2:Ad) (x3 x4 x5:Sl) (x6:Ad) (x7:Sl) (K:KF α) :
  eC k qa.u37.c (za [(2, .int .i64 x0), (4, .ptr (some x1)), (8, .ptr (some x2)), (13, .slice x3), (14, .slice x4), (15, .slice x5), (19, .ptr (some x6)), (20, .slice x7)]) K =
   qa.u37.f k x0 x1 x2 x3 x4 x5 x6 x7 (fun y0 y1 y2=>K .normal (za [(8, .ptr (some y0)), (15, .slice y1), (19, .ptr (some y2))])):=
 (ja.trans (qa.u36.ok k x0 x1 x2 x3 x4 x5 x6 x7 (jp 4 K))).trans (by kernel_rfl)
theorem qa.u38.ok (k:Nat) (x0:Int) (x1 x2:Ad) (x3 x4 x5:Sl) (x6:Ad) (K:KF α) :
  eC k qa.u38.c (za [(2, .int .i64 x0), (4, .ptr (some x1)), (8, .ptr (some x2)), (13, .slice x3), (14, .slice x4), (15, .slice x5), (19, .ptr (some x6))]) K =
   qa.u38.f k x0 x1 x2 x3 x4 x5 x6 (fun y0 y1 y2=>K .normal (za [(8, .ptr (some y0)), (15, .slice y1), (19, .ptr (some y2))])):=
 (qa.u18.ok k x0 x1 x2 x3 x4 x5 x6 qa.u37.c K).trans
  (congrArg (fun z=>qa.u18.f k x0 x1 x2 x3 x4 x5 x6 z) (funext fun y0=>(funext fun y1=>(funext fun y2=>(funext fun y3=>(funext fun y4=>(funext fun y5=>(funext fun y6=>(funext fun y7=>qa.u37.ok k y0 y1 y2 y3 y4 y5 y6 y7 K)))))))))
theorem qa.u39.ok (k:Nat) (x0:Ad) (x1:Sl) (x2:Ad) (K:KF α) :
  eC k qa.u39.c (za [(8, .ptr (some x0)), (15, .slice x1), (19, .ptr (some x2))]) K =
   qa.u39.f k x0 x1 x2 (fun y0 y1=>K .ret (za [(8, .ptr (some y0)), (9, .slice y1)])):=by kernel_rfl
theorem qa.u40.ok (k:Nat) (x0:Int) (x1 x2:Ad) (x3 x4 x5:Sl) (x6:Ad) (K:KF α) :
  eC k qa.u40.c (za [(2, .int .i64 x0), (4, .ptr (some x1)), (8, .ptr (some x2)), (13, .slice x3), (14, .slice x4), (15, .slice x5), (19, .ptr (some x6))]) K =
   qa.u40.f k x0 x1 x2 x3 x4 x5 x6 (fun y0 y1=>K .ret (za [(8, .ptr (some y0)), (9, .slice y1)])):=
 by
  have h:=qa.u38.ok k x0 x1 x2 x3 x4 x5 x6 (seqK (fun ρ=>eC k qa.u39.c ρ K) K)
  simp only [zj, zn, zq, zp, qa.u39.ok] at h
  exact jd h
theorem qa.u41.ok (k:Nat) (x0:Int) (x1 x2:Ad) (x3 x4:Ad) (x5 x6 x7:Sl) (K:KF α) :
  eC k qa.u41.c (za [(2, .int .i64 x0), (4, .ptr (some x1)), (5, .ptr (some x2)), (7, .ptr (some x3)), (8, .ptr (some x4)), (13, .slice x5), (14, .slice x6), (15, .slice x7)]) K =
   qa.u41.f k x0 x1 x2 x3 x4 x5 x6 x7 (fun y0 y1=>K .ret (za [(8, .ptr (some y0)), (9, .slice y1)])):=
 (qa.u17.ok k x0 x1 x2 x3 x4 x5 x6 x7 qa.u40.c K).trans
  (congrArg (fun z=>qa.u17.f k x0 x1 x2 x3 x4 x5 x6 x7 z) (funext fun y0=>(funext fun y1=>(funext fun y2=>(funext fun y3=>(funext fun y4=>(funext fun y5=>(funext fun y6=>qa.u40.ok k y0 y1 y2 y3 y4 y5 y6 K))))))))
theorem qa.u42.ok (k:Nat) (x0:Int) (x1 x2:Ad) (x3 x4:Ad) (x5:Int) (x6 x7 x8:Sl) (K:KF α) :
  eC k qa.u42.c (za [(2, .int .i64 x0), (4, .ptr (some x1)), (5, .ptr (some x2)), (7, .ptr (some x3)), (8, .ptr (some x4)), (12, .int .i64 x5), (13, .slice x6), (14, .slice x7), (15, .slice x8)]) K =
   qa.u42.f k x0 x1 x2 x3 x4 x5 x6 x7 x8 (fun y0 y1=>K .ret (za [(8, .ptr (some y0)), (9, .slice y1)])):=
 by
  have h:=qa.u16.ok k x0 x1 x2 x3 x4 x5 x6 x7 x8 (seqK (fun ρ=>eC k qa.u41.c ρ K) K)
  simp only [zj, zn, zq, zp, qa.u41.ok] at h
  exact jd h
theorem qa.u43.ok (k:Nat) (x0:Int) (x1 x2:Ad) (x3 x4:Ad) (K:KF α) :
  eC k qa.u43.c (za [(2, .int .i64 x0), (4, .ptr (some x1)), (5, .ptr (some x2)), (7, .ptr (some x3)), (8, .ptr (some x4))]) K =
   qa.u43.f k x0 x1 x2 x3 x4 (fun y0 y1=>K .ret (za [(8, .ptr (some y0)), (9, .slice y1)])):=
 (qa.u2.ok k x0 x1 x2 x3 x4 qa.u42.c K).trans
  (congrArg (fun z=>qa.u2.f k x0 x1 x2 x3 x4 z) (funext fun y0=>(funext fun y1=>(funext fun y2=>(funext fun y3=>(funext fun y4=>(funext fun y5=>(funext fun y6=>(funext fun y7=>(funext fun y8=>qa.u42.ok k y0 y1 y2 y3 y4 y5 y6 y7 y8 K))))))))))
theorem qa.u44.ok (k:Nat) (x0 x1 x2:Sl) (x3 x4:Int) (x5 x6:Int) (x7 x8:Int) (x9 x10 x11:Int) (K:KF α) :
  eC k qa.u44.c (za [(0, .agg [.slice x0, .slice x1, .slice x2]), (1, .agg [.int .u64 x3, .int .u64 x4, .int .u64 x5, .int .u64 x6]), (2, .int .i64 x7), (3, .agg [.int .u64 x8, .int .u64 x9, .int .u64 x10, .int .u64 x11])]) K =
   qa.u44.f k x0 x1 x2 x3 x4 x5 x6 x7 x8 x9 x10 x11 (fun y0 y1=>K .ret (za [(8, .ptr (some y0)), (9, .slice y1)])):=
 (qa.u1.ok k x0 x1 x2 x3 x4 x5 x6 x7 x8 x9 x10 x11 qa.u43.c K).trans
  (congrArg (fun z=>qa.u1.f k x0 x1 x2 x3 x4 x5 x6 x7 x8 x9 x10 x11 z (fun y0 y1=>K .ret (za [(8, .ptr (some y0)), (9, .slice y1)]))) (funext fun y0=>(funext fun y1=>(funext fun y2=>(funext fun y3=>(funext fun y4=>qa.u43.ok k y0 y1 y2 y3 y4 K))))))
theorem qa.ok (k:Nat) (x0 x1 x2:Sl) (x3 x4:Int) (x5 x6:Int) (x7 x8:Int) (x9 x10 x11:Int) (κ:Res->M α) :
  evF T (env k) k qa.c qa.res [.agg [.slice x0, .slice x1, .slice x2], .agg [.int .u64 x3, .int .u64 x4, .int .u64 x5, .int .u64 x6], .int .i64 x7, .agg [.int .u64 x8, .int .u64 x9, .int .u64 x10, .int .u64 x11]] κ = qa.f (k + 1) x0 x1 x2 x3 x4 x5 x6 x7 x8 x9 x10 x11 (fun o0 o1 o2 o3 o4=>κ (.ret (.tuple [.agg [.int .u64 o0, .int .u64 o1, .int .u64 o2, .int .u64 o3], .slice o4]))):=
 (qa.u44.ok k x0 x1 x2 x3 x4 x5 x6 x7 x8 x9 x10 x11 (retK T qa.res κ)).trans (by kernel_rfl)
theorem qa.code:qa.c.code = jt Tryz.f50:=by kernel_rfl
noncomputable def qk.c:IC:=qk.u9.c
noncomputable def qk.res:List ResultVar:=[(.cell 4 36)]
theorem qk.u1.ok (k:Nat) (x0 x1:Int) (x2 x3:Int) (x4 x5:Int) (x6 x7:Int) (R:IC) (K:KF α) :
  eC k (qk.u1.c R) (za [(0, .agg [.int .u64 x0, .int .u64 x1, .int .u64 x2, .int .u64 x3]), (1, .agg [.int .u64 x4, .int .u64 x5, .int .u64 x6, .int .u64 x7])]) K =
   qk.u1.f k x0 x1 x2 x3 x4 x5 x6 x7 (fun y0 y1 y2=>eC k R (za [(2, .ptr (some y0)), (3, .ptr (some y1)), (4, .ptr (some y2))]) K):=by kernel_rfl
theorem qk.u2.ok (k:Nat) (x0 x1 x2:Ad) (R:IC) (K:KF α) :
  eC k (qk.u2.c R) (za [(2, .ptr (some x0)), (3, .ptr (some x1)), (4, .ptr (some x2))]) K =
   qk.u2.f k x0 x1 x2 (fun y0 y1 y2 y3=>eC k R (za [(2, .ptr (some y0)), (3, .ptr (some y1)), (4, .ptr (some y2)), (6, .int .i64 y3)]) K):=by kernel_rfl
theorem qk.u3.ok (k:Nat) (x0 x1 x2:Ad) (x3:Int) (K:KF α) :
  eC k qk.u3.c (za [(2, .ptr (some x0)), (3, .ptr (some x1)), (4, .ptr (some x2)), (6, .int .i64 x3)]) K =
   qk.u3.f k x0 x1 x2 x3 (fun y0 y1 y2 y3=>K .normal (za [(2, .ptr (some y0)), (3, .ptr (some y1)), (4, .ptr (some y2)), (6, .int .i64 y3)])) (fun y0 y1=>K (.exit 0) (za [(2, .ptr (some y0)), (4, .ptr (some y1))])):=by kernel_rfl
theorem qk.u4.ls (k:Nat) (kx0:Ad->Ad->M α) (j:Nat) (x0 x1 x2:Ad) (x3:Int):qk.u4.l k kx0 (j + 1) x0 x1 x2 x3 =
 qk.u3.f k x0 x1 x2 x3 (fun y0 y1 y2 y3=>qk.u4.l k kx0 j y0 y1 y2 y3) kx0:=rfl
theorem qk.u4.okl (k:Nat) (K:KF α):∀ (j:Nat) (x0 x1 x2:Ad) (x3:Int),
  zu (eC k qk.u3.c) [2, 3, 4, 6] j (za [(2, .ptr (some x0)), (3, .ptr (some x1)), (4, .ptr (some x2)), (6, .int .i64 x3)]) K = qk.u4.l k (fun y0 y1=>K (.exit 0) (za [(2, .ptr (some y0)), (4, .ptr (some y1))])) j x0 x1 x2 x3
 | 0, _, _, _, _=>rfl
 | j + 1, x0, x1, x2, x3=>by
   have h:=qk.u3.ok k x0 x1 x2 x3 (seqK (fun ρ=>zu (eC k qk.u3.c) [2, 3, 4, 6] j ρ K) K)
   simp only [zn, zq, zp, zj, qk.u4.okl k K j] at h
   exact (zy (by kernel_rfl) h).trans (qk.u4.ls k (fun y0 y1=>K (.exit 0) (za [(2, .ptr (some y0)), (4, .ptr (some y1))])) j x0 x1 x2 x3).symm
theorem qk.u4.ok (k:Nat) (x0 x1 x2:Ad) (x3:Int) (K:KF α) :
  eC k qk.u4.c (za [(2, .ptr (some x0)), (3, .ptr (some x1)), (4, .ptr (some x2)), (6, .int .i64 x3)]) K =
   qk.u4.f k x0 x1 x2 x3 (fun y0 y1=>K (.exit 0) (za [(2, .ptr (some y0)), (4, .ptr (some y1))])):=
 jo.trans <| (zx (body:=eC k qk.u3.c) (keep:=[2, 3, 4, 6]) (ρ:=(za [(2, .ptr (some x0)), (3, .ptr (some x1)), (4, .ptr (some x2)), (6, .int .i64 x3)])) (ρ':=(za [(2, .ptr (some x0)), (3, .ptr (some x1)), (4, .ptr (some x2)), (6, .int .i64 x3)])) (by kernel_rfl) k K).trans (qk.u4.okl k K k x0 x1 x2 x3)
theorem qk.u5.ok (k:Nat) (x0 x1 x2:Ad) (x3:Int) (K:KF α) :
  eC k qk.u5.c (za [(2, .ptr (some x0)), (3, .ptr (some x1)), (4, .ptr (some x2)), (6, .int .i64 x3)]) K =
   qk.u5.f k x0 x1 x2 x3 (fun y0 y1=>K .normal (za [(2, .ptr (some y0)), (4, .ptr (some y1))])):=
 (ja.trans (qk.u4.ok k x0 x1 x2 x3 (jp 0 K))).trans (by kernel_rfl)
theorem qk.u6.ok (k:Nat) (x0 x1 x2:Ad) (K:KF α) :
  eC k qk.u6.c (za [(2, .ptr (some x0)), (3, .ptr (some x1)), (4, .ptr (some x2))]) K =
   qk.u6.f k x0 x1 x2 (fun y0 y1=>K .normal (za [(2, .ptr (some y0)), (4, .ptr (some y1))])):=
 (qk.u2.ok k x0 x1 x2 qk.u5.c K).trans
  (congrArg (fun z=>qk.u2.f k x0 x1 x2 z) (funext fun y0=>(funext fun y1=>(funext fun y2=>(funext fun y3=>qk.u5.ok k y0 y1 y2 y3 K)))))
theorem qk.u7.ok (k:Nat) (x0 x1:Ad) (K:KF α) :
  eC k qk.u7.c (za [(2, .ptr (some x0)), (4, .ptr (some x1))]) K =
   qk.u7.f k x0 x1 (fun y0=>K .ret (za [(4, .ptr (some y0))])):=by kernel_rfl
theorem qk.u8.ok (k:Nat) (x0 x1 x2:Ad) (K:KF α) :
  eC k qk.u8.c (za [(2, .ptr (some x0)), (3, .ptr (some x1)), (4, .ptr (some x2))]) K =
   qk.u8.f k x0 x1 x2 (fun y0=>K .ret (za [(4, .ptr (some y0))])):=
 by
  have h:=qk.u6.ok k x0 x1 x2 (seqK (fun ρ=>eC k qk.u7.c ρ K) K)
  simp only [zj, zn, zq, zp, qk.u7.ok] at h
  exact jd h
theorem qk.u9.ok (k:Nat) (x0 x1:Int) (x2 x3:Int) (x4 x5:Int) (x6 x7:Int) (K:KF α) :
  eC k qk.u9.c (za [(0, .agg [.int .u64 x0, .int .u64 x1, .int .u64 x2, .int .u64 x3]), (1, .agg [.int .u64 x4, .int .u64 x5, .int .u64 x6, .int .u64 x7])]) K =
   qk.u9.f k x0 x1 x2 x3 x4 x5 x6 x7 (fun y0=>K .ret (za [(4, .ptr (some y0))])):=
 (qk.u1.ok k x0 x1 x2 x3 x4 x5 x6 x7 qk.u8.c K).trans
  (congrArg (fun z=>qk.u1.f k x0 x1 x2 x3 x4 x5 x6 x7 z) (funext fun y0=>(funext fun y1=>(funext fun y2=>qk.u8.ok k y0 y1 y2 K))))
theorem qk.ok (k:Nat) (x0 x1:Int) (x2 x3:Int) (x4 x5:Int) (x6 x7:Int) (κ:Res->M α) :
  evF T (env k) k qk.c qk.res [.agg [.int .u64 x0, .int .u64 x1, .int .u64 x2, .int .u64 x3], .agg [.int .u64 x4, .int .u64 x5, .int .u64 x6, .int .u64 x7]] κ = qk.f (k + 1) x0 x1 x2 x3 x4 x5 x6 x7 (fun o0 o1 o2 o3=>κ (.ret (.agg [.int .u64 o0, .int .u64 o1, .int .u64 o2, .int .u64 o3]))):=
 (qk.u9.ok k x0 x1 x2 x3 x4 x5 x6 x7 (retK T qk.res κ)).trans (by kernel_rfl)
theorem qk.code:qk.c.code = jt Tryz.f20:=by kernel_rfl
noncomputable def qs.c:IC:=qs.u5.c
noncomputable def qs.res:List ResultVar:=[]
theorem qs.u1.ok (k:Nat) (x0:Int) (x1:Sl) (x2:Ad) (R:IC) (K:KF α) :
  eC k (qs.u1.c R) (za [(0, .int .i64 x0), (1, .slice x1), (2, .ptr (some x2))]) K =
   qs.u1.f k x0 x1 x2 (fun y0 y1 y2 y3 y4=>eC k R (za [(0, .int .i64 y0), (2, .ptr (some y1)), (7, .slice y2), (8, .int .i64 y3), (9, .int .i64 y4)]) K):=by kernel_rfl
theorem qs.u2.ok (k:Nat) (x0:Int) (x1:Ad) (x2:Sl) (x3 x4:Int) (K:KF α) :
  eC k qs.u2.c (za [(0, .int .i64 x0), (2, .ptr (some x1)), (7, .slice x2), (8, .int .i64 x3), (9, .int .i64 x4)]) K =
   qs.u2.f k x0 x1 x2 x3 x4 (fun y0 y1 y2 y3 y4=>K .normal (za [(0, .int .i64 y0), (2, .ptr (some y1)), (7, .slice y2), (8, .int .i64 y3), (9, .int .i64 y4)])) (K (.exit 0) (za [])):=by kernel_rfl
theorem qs.u3.ls (k:Nat) (kx0:M α) (j:Nat) (x0:Int) (x1:Ad) (x2:Sl) (x3 x4:Int):qs.u3.l k kx0 (j + 1) x0 x1 x2 x3 x4 =
 qs.u2.f k x0 x1 x2 x3 x4 (fun y0 y1 y2 y3 y4=>qs.u3.l k kx0 j y0 y1 y2 y3 y4) kx0:=rfl
theorem qs.u3.okl (k:Nat) (K:KF α):∀ (j:Nat) (x0:Int) (x1:Ad) (x2:Sl) (x3 x4:Int),
  zu (eC k qs.u2.c) [0, 2, 7, 8, 9] j (za [(0, .int .i64 x0), (2, .ptr (some x1)), (7, .slice x2), (8, .int .i64 x3), (9, .int .i64 x4)]) K = qs.u3.l k (K (.exit 0) (za [])) j x0 x1 x2 x3 x4
 | 0, _, _, _, _, _=>rfl
 | j + 1, x0, x1, x2, x3, x4=>by
   have h:=qs.u2.ok k x0 x1 x2 x3 x4 (seqK (fun ρ=>zu (eC k qs.u2.c) [0, 2, 7, 8, 9] j ρ K) K)
   simp only [zn, zq, zp, zj, qs.u3.okl k K j] at h
   exact (zy (by kernel_rfl) h).trans (qs.u3.ls k (K (.exit 0) (za [])) j x0 x1 x2 x3 x4).symm
theorem qs.u3.ok (k:Nat) (x0:Int) (x1:Ad) (x2:Sl) (x3 x4:Int) (K:KF α) :
  eC k qs.u3.c (za [(0, .int .i64 x0), (2, .ptr (some x1)), (7, .slice x2), (8, .int .i64 x3), (9, .int .i64 x4)]) K =
   qs.u3.f k x0 x1 x2 x3 x4 (K (.exit 0) (za [])):=
 jo.trans <| (zx (body:=eC k qs.u2.c) (keep:=[0, 2, 7, 8, 9]) (ρ:=(za [(0, .int .i64 x0), (2, .ptr (some x1)), (7, .slice x2), (8, .int .i64 x3), (9, .int .i64 x4)])) (ρ':=(za [(0, .int .i64 x0), (2, .ptr (some x1)), (7, .slice x2), (8, .int .i64 x3), (9, .int .i64 x4)])) (by kernel_rfl) k K).trans (qs.u3.okl k K k x0 x1 x2 x3 x4)
theorem qs.u4.ok (k:Nat) (x0:Int) (x1:Ad) (x2:Sl) (x3 x4:Int) (K:KF α) :
  eC k qs.u4.c (za [(0, .int .i64 x0), (2, .ptr (some x1)), (7, .slice x2), (8, .int .i64 x3), (9, .int .i64 x4)]) K =
   qs.u4.f k x0 x1 x2 x3 x4 (K .normal (za [])):=
 (ja.trans (qs.u3.ok k x0 x1 x2 x3 x4 (jp 0 K))).trans (by kernel_rfl)
theorem qs.u5.ok (k:Nat) (x0:Int) (x1:Sl) (x2:Ad) (K:KF α) :
  eC k qs.u5.c (za [(0, .int .i64 x0), (1, .slice x1), (2, .ptr (some x2))]) K =
   qs.u5.f k x0 x1 x2 (K .normal (za [])):=
 (qs.u1.ok k x0 x1 x2 qs.u4.c K).trans
  (congrArg (fun z=>qs.u1.f k x0 x1 x2 z) (funext fun y0=>(funext fun y1=>(funext fun y2=>(funext fun y3=>(funext fun y4=>qs.u4.ok k y0 y1 y2 y3 y4 K))))))
theorem qs.ok (k:Nat) (x0:Int) (x1:Sl) (x2:Ad) (κ:Res->M α) :
  evF T (env k) k qs.c qs.res [.int .i64 x0, .slice x1, .ptr (some x2)] κ = qs.f (k + 1) x0 x1 x2 (κ (.ret (.tuple []))):=
 (qs.u5.ok k x0 x1 x2 (retK T qs.res κ)).trans (by kernel_rfl)
theorem qs.code:qs.c.code = jt Tryz.f46:=by kernel_rfl
noncomputable def ql.c:IC:=ql.u9.c
noncomputable def ql.res:List ResultVar:=[(.cell 4 36)]
theorem ql.u1.ok (k:Nat) (x0 x1:Int) (x2 x3:Int) (x4 x5:Int) (x6 x7:Int) (R:IC) (K:KF α) :
  eC k (ql.u1.c R) (za [(0, .agg [.int .u64 x0, .int .u64 x1, .int .u64 x2, .int .u64 x3]), (1, .agg [.int .u64 x4, .int .u64 x5, .int .u64 x6, .int .u64 x7])]) K =
   ql.u1.f k x0 x1 x2 x3 x4 x5 x6 x7 (fun y0 y1 y2=>eC k R (za [(2, .ptr (some y0)), (3, .ptr (some y1)), (4, .ptr (some y2))]) K):=by kernel_rfl
theorem ql.u2.ok (k:Nat) (x0 x1 x2:Ad) (R:IC) (K:KF α) :
  eC k (ql.u2.c R) (za [(2, .ptr (some x0)), (3, .ptr (some x1)), (4, .ptr (some x2))]) K =
   ql.u2.f k x0 x1 x2 (fun y0 y1 y2 y3=>eC k R (za [(2, .ptr (some y0)), (3, .ptr (some y1)), (4, .ptr (some y2)), (6, .int .i64 y3)]) K):=by kernel_rfl
theorem ql.u3.ok (k:Nat) (x0 x1 x2:Ad) (x3:Int) (K:KF α) :
  eC k ql.u3.c (za [(2, .ptr (some x0)), (3, .ptr (some x1)), (4, .ptr (some x2)), (6, .int .i64 x3)]) K =
   ql.u3.f k x0 x1 x2 x3 (fun y0 y1 y2 y3=>K .normal (za [(2, .ptr (some y0)), (3, .ptr (some y1)), (4, .ptr (some y2)), (6, .int .i64 y3)])) (fun y0 y1=>K (.exit 0) (za [(2, .ptr (some y0)), (4, .ptr (some y1))])):=by kernel_rfl
theorem ql.u4.ls (k:Nat) (kx0:Ad->Ad->M α) (j:Nat) (x0 x1 x2:Ad) (x3:Int):ql.u4.l k kx0 (j + 1) x0 x1 x2 x3 =
 ql.u3.f k x0 x1 x2 x3 (fun y0 y1 y2 y3=>ql.u4.l k kx0 j y0 y1 y2 y3) kx0:=rfl
theorem ql.u4.okl (k:Nat) (K:KF α):∀ (j:Nat) (x0 x1 x2:Ad) (x3:Int),
  zu (eC k ql.u3.c) [2, 3, 4, 6] j (za [(2, .ptr (some x0)), (3, .ptr (some x1)), (4, .ptr (some x2)), (6, .int .i64 x3)]) K = ql.u4.l k (fun y0 y1=>K (.exit 0) (za [(2, .ptr (some y0)), (4, .ptr (some y1))])) j x0 x1 x2 x3
 | 0, _, _, _, _=>rfl
 | j + 1, x0, x1, x2, x3=>by
   have h:=ql.u3.ok k x0 x1 x2 x3 (seqK (fun ρ=>zu (eC k ql.u3.c) [2, 3, 4, 6] j ρ K) K)
   simp only [zn, zq, zp, zj, ql.u4.okl k K j] at h
   exact (zy (by kernel_rfl) h).trans (ql.u4.ls k (fun y0 y1=>K (.exit 0) (za [(2, .ptr (some y0)), (4, .ptr (some y1))])) j x0 x1 x2 x3).symm
theorem ql.u4.ok (k:Nat) (x0 x1 x2:Ad) (x3:Int) (K:KF α) :
  eC k ql.u4.c (za [(2, .ptr (some x0)), (3, .ptr (some x1)), (4, .ptr (some x2)), (6, .int .i64 x3)]) K =
   ql.u4.f k x0 x1 x2 x3 (fun y0 y1=>K (.exit 0) (za [(2, .ptr (some y0)), (4, .ptr (some y1))])):=
 jo.trans <| (zx (body:=eC k ql.u3.c) (keep:=[2, 3, 4, 6]) (ρ:=(za [(2, .ptr (some x0)), (3, .ptr (some x1)), (4, .ptr (some x2)), (6, .int .i64 x3)])) (ρ':=(za [(2, .ptr (some x0)), (3, .ptr (some x1)), (4, .ptr (some x2)), (6, .int .i64 x3)])) (by kernel_rfl) k K).trans (ql.u4.okl k K k x0 x1 x2 x3)
theorem ql.u5.ok (k:Nat) (x0 x1 x2:Ad) (x3:Int) (K:KF α) :
  eC k ql.u5.c (za [(2, .ptr (some x0)), (3, .ptr (some x1)), (4, .ptr (some x2)), (6, .int .i64 x3)]) K =
   ql.u5.f k x0 x1 x2 x3 (fun y0 y1=>K .normal (za [(2, .ptr (some y0)), (4, .ptr (some y1))])):=
 (ja.trans (ql.u4.ok k x0 x1 x2 x3 (jp 0 K))).trans (by kernel_rfl)
theorem ql.u6.ok (k:Nat) (x0 x1 x2:Ad) (K:KF α) :
  eC k ql.u6.c (za [(2, .ptr (some x0)), (3, .ptr (some x1)), (4, .ptr (some x2))]) K =
   ql.u6.f k x0 x1 x2 (fun y0 y1=>K .normal (za [(2, .ptr (some y0)), (4, .ptr (some y1))])):=
 (ql.u2.ok k x0 x1 x2 ql.u5.c K).trans
  (congrArg (fun z=>ql.u2.f k x0 x1 x2 z) (funext fun y0=>(funext fun y1=>(funext fun y2=>(funext fun y3=>ql.u5.ok k y0 y1 y2 y3 K)))))
theorem ql.u7.ok (k:Nat) (x0 x1:Ad) (K:KF α) :
  eC k ql.u7.c (za [(2, .ptr (some x0)), (4, .ptr (some x1))]) K =
   ql.u7.f k x0 x1 (fun y0=>K .ret (za [(4, .ptr (some y0))])):=by kernel_rfl
theorem ql.u8.ok (k:Nat) (x0 x1 x2:Ad) (K:KF α) :
  eC k ql.u8.c (za [(2, .ptr (some x0)), (3, .ptr (some x1)), (4, .ptr (some x2))]) K =
   ql.u8.f k x0 x1 x2 (fun y0=>K .ret (za [(4, .ptr (some y0))])):=
 by
  have h:=ql.u6.ok k x0 x1 x2 (seqK (fun ρ=>eC k ql.u7.c ρ K) K)
  simp only [zj, zn, zq, zp, ql.u7.ok] at h
  exact jd h
theorem ql.u9.ok (k:Nat) (x0 x1:Int) (x2 x3:Int) (x4 x5:Int) (x6 x7:Int) (K:KF α) :
  eC k ql.u9.c (za [(0, .agg [.int .u64 x0, .int .u64 x1, .int .u64 x2, .int .u64 x3]), (1, .agg [.int .u64 x4, .int .u64 x5, .int .u64 x6, .int .u64 x7])]) K =
   ql.u9.f k x0 x1 x2 x3 x4 x5 x6 x7 (fun y0=>K .ret (za [(4, .ptr (some y0))])):=
 (ql.u1.ok k x0 x1 x2 x3 x4 x5 x6 x7 ql.u8.c K).trans
  (congrArg (fun z=>ql.u1.f k x0 x1 x2 x3 x4 x5 x6 x7 z) (funext fun y0=>(funext fun y1=>(funext fun y2=>ql.u8.ok k y0 y1 y2 K))))
theorem ql.ok (k:Nat) (x0 x1:Int) (x2 x3:Int) (x4 x5:Int) (x6 x7:Int) (κ:Res->M α) :
  evF T (env k) k ql.c ql.res [.agg [.int .u64 x0, .int .u64 x1, .int .u64 x2, .int .u64 x3], .agg [.int .u64 x4, .int .u64 x5, .int .u64 x6, .int .u64 x7]] κ = ql.f (k + 1) x0 x1 x2 x3 x4 x5 x6 x7 (fun o0 o1 o2 o3=>κ (.ret (.agg [.int .u64 o0, .int .u64 o1, .int .u64 o2, .int .u64 o3]))):=
 (ql.u9.ok k x0 x1 x2 x3 x4 x5 x6 x7 (retK T ql.res κ)).trans (by kernel_rfl)
theorem ql.code:ql.c.code = jt Tryz.f53:=by kernel_rfl
noncomputable def qd.c:IC:=qd.u27.c
noncomputable def qd.res:List ResultVar:=[(.cell 10 101)]
theorem qd.u1.ok (k:Nat) (x0 x1:Int) (x2 x3 x4:Int) (x5 x6:Ad) (x7 x8:Ad) (x9 x10:Ad) (R:IC) (K:KF α) :
  eC k (qd.u1.c R) (za [(0, .agg [.int .u64 x0, .int .u64 x1, .int .u64 x2, .int .u64 x3]), (1, .int .i64 x4), (2, .ptr (some x5)), (3, .ptr (some x6)), (4, .ptr (some x7)), (5, .ptr (some x8)), (6, .ptr (some x9)), (7, .ptr (some x10))]) K =
   qd.u1.f k (qd.f k) x0 x1 x2 x3 x4 x5 x6 x7 x8 x9 x10 (fun y0 y1 y2 y3 y4 y5 y6 y7 y8 y9 y10 y11=>eC k R (za [(1, .int .i64 y0), (3, .ptr (some y1)), (4, .ptr (some y2)), (5, .ptr (some y3)), (6, .ptr (some y4)), (7, .ptr (some y5)), (8, .ptr (some y6)), (10, .ptr (some y7)), (11, .ptr (some y8)), (12, .int .i64 y9), (14, .slice y10), (15, .ptr (some y11))]) K) (fun y0=>K .ret (za [(10, .ptr (some y0))])):=by kernel_rfl
theorem qd.u2.ok (k:Nat) (x0:Int) (x1 x2:Ad) (x3 x4:Ad) (x5 x6:Ad) (x7 x8:Ad) (x9:Int) (x10:Sl) (x11:Ad) (R:IC) (K:KF α) :
  eC k (qd.u2.c R) (za [(1, .int .i64 x0), (3, .ptr (some x1)), (4, .ptr (some x2)), (5, .ptr (some x3)), (6, .ptr (some x4)), (7, .ptr (some x5)), (8, .ptr (some x6)), (10, .ptr (some x7)), (11, .ptr (some x8)), (12, .int .i64 x9), (14, .slice x10), (15, .ptr (some x11))]) K =
   qd.u2.f k x0 x1 x2 x3 x4 x5 x6 x7 x8 x9 x10 x11 (fun y0 y1 y2 y3 y4 y5 y6 y7 y8 y9 y10 y11=>eC k R (za [(1, .int .i64 y0), (3, .ptr (some y1)), (4, .ptr (some y2)), (5, .ptr (some y3)), (6, .ptr (some y4)), (7, .ptr (some y5)), (8, .ptr (some y6)), (10, .ptr (some y7)), (11, .ptr (some y8)), (12, .int .i64 y9), (14, .slice y10), (16, .ptr (some y11))]) K):=by kernel_rfl
theorem qd.u3.ok (k:Nat) (x0:Int) (x1 x2:Ad) (x3 x4:Ad) (x5 x6:Ad) (x7 x8:Ad) (x9:Int) (x10:Sl) (x11:Ad) (R:IC) (K:KF α) :
  eC k (qd.u3.c R) (za [(1, .int .i64 x0), (3, .ptr (some x1)), (4, .ptr (some x2)), (5, .ptr (some x3)), (6, .ptr (some x4)), (7, .ptr (some x5)), (8, .ptr (some x6)), (10, .ptr (some x7)), (11, .ptr (some x8)), (12, .int .i64 x9), (14, .slice x10), (16, .ptr (some x11))]) K =
   qd.u3.f k x0 x1 x2 x3 x4 x5 x6 x7 x8 x9 x10 x11 (fun y0 y1 y2 y3 y4 y5 y6 y7 y8 y9 y10 y11 y12=>eC k R (za [(1, .int .i64 y0), (3, .ptr (some y1)), (4, .ptr (some y2)), (5, .ptr (some y3)), (6, .ptr (some y4)), (7, .ptr (some y5)), (8, .ptr (some y6)), (10, .ptr (some y7)), (11, .ptr (some y8)), (12, .int .i64 y9), (14, .slice y10), (16, .ptr (some y11)), (61, .bool y12)]) K):=by kernel_rfl
theorem qd.u4.ok (k:Nat) (x0:Int) (x1 x2:Ad) (x3 x4:Ad) (x5 x6:Ad) (x7 x8:Ad) (x9:Int) (x10:Sl) (x11:Ad) (x12:Bool) (R:IC) (K:KF α) :
  eC k (qd.u4.c R) (za [(1, .int .i64 x0), (3, .ptr (some x1)), (4, .ptr (some x2)), (5, .ptr (some x3)), (6, .ptr (some x4)), (7, .ptr (some x5)), (8, .ptr (some x6)), (10, .ptr (some x7)), (11, .ptr (some x8)), (12, .int .i64 x9), (14, .slice x10), (16, .ptr (some x11)), (61, .bool x12)]) K =
   qd.u4.f k x0 x1 x2 x3 x4 x5 x6 x7 x8 x9 x10 x11 x12 (fun y0 y1 y2 y3 y4 y5=>eC k R (za [(3, .ptr (some y0)), (6, .ptr (some y1)), (8, .ptr (some y2)), (10, .ptr (some y3)), (11, .ptr (some y4)), (12, .int .i64 y5)]) K):=by kernel_rfl
theorem qd.u5.ok (k:Nat) (x0 x1:Ad) (x2 x3 x4:Ad) (x5:Int) (R:IC) (K:KF α) :
  eC k (qd.u5.c R) (za [(3, .ptr (some x0)), (6, .ptr (some x1)), (8, .ptr (some x2)), (10, .ptr (some x3)), (11, .ptr (some x4)), (12, .int .i64 x5)]) K =
   qd.u5.f k x0 x1 x2 x3 x4 x5 (fun y0 y1 y2 y3 y4 y5 y6 y7=>eC k R (za [(3, .ptr (some y0)), (6, .ptr (some y1)), (8, .ptr (some y2)), (10, .ptr (some y3)), (12, .int .i64 y4), (67, .slice y5), (68, .int .i64 y6), (69, .int .i64 y7)]) K):=by kernel_rfl
theorem qd.u6.ok (k:Nat) (x0 x1:Ad) (x2 x3:Ad) (x4:Int) (x5:Sl) (x6 x7:Int) (K:KF α) :
  eC k qd.u6.c (za [(3, .ptr (some x0)), (6, .ptr (some x1)), (8, .ptr (some x2)), (10, .ptr (some x3)), (12, .int .i64 x4), (67, .slice x5), (68, .int .i64 x6), (69, .int .i64 x7)]) K =
   qd.u6.f k x0 x1 x2 x3 x4 x5 x6 x7 (fun y0 y1 y2 y3 y4 y5 y6 y7=>K .normal (za [(3, .ptr (some y0)), (6, .ptr (some y1)), (8, .ptr (some y2)), (10, .ptr (some y3)), (12, .int .i64 y4), (67, .slice y5), (68, .int .i64 y6), (69, .int .i64 y7)])) (fun y0 y1 y2=>K (.exit 0) (za [(8, .ptr (some y0)), (10, .ptr (some y1)), (12, .int .i64 y2)])):=by kernel_rfl
theorem qd.u7.ls (k:Nat) (kx0:Ad->Ad->Int->M α) (j:Nat) (x0 x1:Ad) (x2 x3:Ad) (x4:Int) (x5:Sl) (x6 x7:Int):qd.u7.l k kx0 (j + 1) x0 x1 x2 x3 x4 x5 x6 x7 =
 qd.u6.f k x0 x1 x2 x3 x4 x5 x6 x7 (fun y0 y1 y2 y3 y4 y5 y6 y7=>qd.u7.l k kx0 j y0 y1 y2 y3 y4 y5 y6 y7) kx0:=rfl
theorem qd.u7.okl (k:Nat) (K:KF α):∀ (j:Nat) (x0 x1:Ad) (x2 x3:Ad) (x4:Int) (x5:Sl) (x6 x7:Int),
  zu (eC k qd.u6.c) [3, 6, 8, 10, 12, 67, 68, 69] j (za [(3, .ptr (some x0)), (6, .ptr (some x1)), (8, .ptr (some x2)), (10, .ptr (some x3)), (12, .int .i64 x4), (67, .slice x5), (68, .int .i64 x6), (69, .int .i64 x7)]) K = qd.u7.l k (fun y0 y1 y2=>K (.exit 0) (za [(8, .ptr (some y0)), (10, .ptr (some y1)), (12, .int .i64 y2)])) j x0 x1 x2 x3 x4 x5 x6 x7
 | 0, _, _, _, _, _, _, _, _=>rfl
 | j + 1, x0, x1, x2, x3, x4, x5, x6, x7=>by
   have h:=qd.u6.ok k x0 x1 x2 x3 x4 x5 x6 x7 (seqK (fun ρ=>zu (eC k qd.u6.c) [3, 6, 8, 10, 12, 67, 68, 69] j ρ K) K)
   simp only [zn, zq, zp, zj, qd.u7.okl k K j] at h
   exact (zy (by kernel_rfl) h).trans (qd.u7.ls k (fun y0 y1 y2=>K (.exit 0) (za [(8, .ptr (some y0)), (10, .ptr (some y1)), (12, .int .i64 y2)])) j x0 x1 x2 x3 x4 x5 x6 x7).symm
theorem qd.u7.ok (k:Nat) (x0 x1:Ad) (x2 x3:Ad) (x4:Int) (x5:Sl) (x6 x7:Int) (K:KF α) :
  eC k qd.u7.c (za [(3, .ptr (some x0)), (6, .ptr (some x1)), (8, .ptr (some x2)), (10, .ptr (some x3)), (12, .int .i64 x4), (67, .slice x5), (68, .int .i64 x6), (69, .int .i64 x7)]) K =
   qd.u7.f k x0 x1 x2 x3 x4 x5 x6 x7 (fun y0 y1 y2=>K (.exit 0) (za [(8, .ptr (some y0)), (10, .ptr (some y1)), (12, .int .i64 y2)])):=
 jo.trans <| (zx (body:=eC k qd.u6.c) (keep:=[3, 6, 8, 10, 12, 67, 68, 69]) (ρ:=(za [(3, .ptr (some x0)), (6, .ptr (some x1)), (8, .ptr (some x2)), (10, .ptr (some x3)), (12, .int .i64 x4), (67, .slice x5), (68, .int .i64 x6), (69, .int .i64 x7)])) (ρ':=(za [(3, .ptr (some x0)), (6, .ptr (some x1)), (8, .ptr (some x2)), (10, .ptr (some x3)), (12, .int .i64 x4), (67, .slice x5), (68, .int .i64 x6), (69, .int .i64 x7)])) (by kernel_rfl) k K).trans (qd.u7.okl k K k x0 x1 x2 x3 x4 x5 x6 x7)
theorem qd.u8.ok (k:Nat) (x0 x1:Ad) (x2 x3:Ad) (x4:Int) (x5:Sl) (x6 x7:Int) (K:KF α) :
  eC k qd.u8.c (za [(3, .ptr (some x0)), (6, .ptr (some x1)), (8, .ptr (some x2)), (10, .ptr (some x3)), (12, .int .i64 x4), (67, .slice x5), (68, .int .i64 x6), (69, .int .i64 x7)]) K =
   qd.u8.f k x0 x1 x2 x3 x4 x5 x6 x7 (fun y0 y1 y2=>K .normal (za [(8, .ptr (some y0)), (10, .ptr (some y1)), (12, .int .i64 y2)])):=
 (ja.trans (qd.u7.ok k x0 x1 x2 x3 x4 x5 x6 x7 (jp 0 K))).trans (by kernel_rfl)
theorem qd.u9.ok (k:Nat) (x0 x1:Ad) (x2 x3 x4:Ad) (x5:Int) (K:KF α) :
  eC k qd.u9.c (za [(3, .ptr (some x0)), (6, .ptr (some x1)), (8, .ptr (some x2)), (10, .ptr (some x3)), (11, .ptr (some x4)), (12, .int .i64 x5)]) K =
   qd.u9.f k x0 x1 x2 x3 x4 x5 (fun y0 y1 y2=>K .normal (za [(8, .ptr (some y0)), (10, .ptr (some y1)), (12, .int .i64 y2)])):=
 (qd.u5.ok k x0 x1 x2 x3 x4 x5 qd.u8.c K).trans
  (congrArg (fun z=>qd.u5.f k x0 x1 x2 x3 x4 x5 z) (funext fun y0=>(funext fun y1=>(funext fun y2=>(funext fun y3=>(funext fun y4=>(funext fun y5=>(funext fun y6=>(funext fun y7=>qd.u8.ok k y0 y1 y2 y3 y4 y5 y6 y7 K)))))))))
theorem qd.u10.ok (k:Nat) (x0 x1:Ad) (x2:Int) (K:KF α) :
  eC k qd.u10.c (za [(8, .ptr (some x0)), (10, .ptr (some x1)), (12, .int .i64 x2)]) K =
   qd.u10.f k x0 x1 x2 (fun y0=>K .ret (za [(10, .ptr (some y0))])):=by kernel_rfl
theorem qd.u11.ok (k:Nat) (x0 x1:Ad) (x2 x3 x4:Ad) (x5:Int) (K:KF α) :
  eC k qd.u11.c (za [(3, .ptr (some x0)), (6, .ptr (some x1)), (8, .ptr (some x2)), (10, .ptr (some x3)), (11, .ptr (some x4)), (12, .int .i64 x5)]) K =
   qd.u11.f k x0 x1 x2 x3 x4 x5 (fun y0=>K .ret (za [(10, .ptr (some y0))])):=
 by
  have h:=qd.u9.ok k x0 x1 x2 x3 x4 x5 (seqK (fun ρ=>eC k qd.u10.c ρ K) K)
  simp only [zj, zn, zq, zp, qd.u10.ok] at h
  exact jd h
theorem qd.u12.ok (k:Nat) (x0:Int) (x1 x2:Ad) (x3 x4:Ad) (x5 x6:Ad) (x7 x8:Ad) (x9:Int) (x10:Sl) (x11:Ad) (x12:Bool) (K:KF α) :
  eC k qd.u12.c (za [(1, .int .i64 x0), (3, .ptr (some x1)), (4, .ptr (some x2)), (5, .ptr (some x3)), (6, .ptr (some x4)), (7, .ptr (some x5)), (8, .ptr (some x6)), (10, .ptr (some x7)), (11, .ptr (some x8)), (12, .int .i64 x9), (14, .slice x10), (16, .ptr (some x11)), (61, .bool x12)]) K =
   qd.u12.f k x0 x1 x2 x3 x4 x5 x6 x7 x8 x9 x10 x11 x12 (fun y0=>K .ret (za [(10, .ptr (some y0))])):=
 (qd.u4.ok k x0 x1 x2 x3 x4 x5 x6 x7 x8 x9 x10 x11 x12 qd.u11.c K).trans
  (congrArg (fun z=>qd.u4.f k x0 x1 x2 x3 x4 x5 x6 x7 x8 x9 x10 x11 x12 z) (funext fun y0=>(funext fun y1=>(funext fun y2=>(funext fun y3=>(funext fun y4=>(funext fun y5=>qd.u11.ok k y0 y1 y2 y3 y4 y5 K)))))))
theorem qd.u13.ok (k:Nat) (x0:Int) (x1 x2:Ad) (x3 x4:Ad) (x5 x6:Ad) (x7 x8:Ad) (x9:Int) (x10:Sl) (x11:Ad) (x12:Bool) (K:KF α) :
  eC k qd.u13.c (za [(1, .int .i64 x0), (3, .ptr (some x1)), (4, .ptr (some x2)), (5, .ptr (some x3)), (6, .ptr (some x4)), (7, .ptr (some x5)), (8, .ptr (some x6)), (10, .ptr (some x7)), (11, .ptr (some x8)), (12, .int .i64 x9), (14, .slice x10), (16, .ptr (some x11)), (61, .bool x12)]) K =
   qd.u13.f k x0 x1 x2 x3 x4 x5 x6 x7 x8 x9 x10 x11 x12 (fun y0 y1 y2 y3 y4 y5 y6 y7 y8 y9=>K .normal (za [(1, .int .i64 y0), (3, .ptr (some y1)), (4, .ptr (some y2)), (5, .ptr (some y3)), (6, .ptr (some y4)), (7, .ptr (some y5)), (8, .ptr (some y6)), (10, .ptr (some y7)), (12, .int .i64 y8), (16, .ptr (some y9))])):=by kernel_rfl
theorem qd.u14.ok (k:Nat) (x0:Int) (x1 x2:Ad) (x3 x4:Ad) (x5 x6:Ad) (x7 x8:Ad) (x9:Int) (x10:Sl) (x11:Ad) (x12:Bool) (K:KF α) :
  eC k qd.u14.c (za [(1, .int .i64 x0), (3, .ptr (some x1)), (4, .ptr (some x2)), (5, .ptr (some x3)), (6, .ptr (some x4)), (7, .ptr (some x5)), (8, .ptr (some x6)), (10, .ptr (some x7)), (11, .ptr (some x8)), (12, .int .i64 x9), (14, .slice x10), (16, .ptr (some x11)), (61, .bool x12)]) K =
   qd.u14.f k x0 x1 x2 x3 x4 x5 x6 x7 x8 x9 x10 x11 x12 (fun y0 y1 y2 y3 y4 y5 y6 y7 y8 y9=>K .normal (za [(1, .int .i64 y0), (3, .ptr (some y1)), (4, .ptr (some y2)), (5, .ptr (some y3)), (6, .ptr (some y4)), (7, .ptr (some y5)), (8, .ptr (some y6)), (10, .ptr (some y7)), (12, .int .i64 y8), (16, .ptr (some y9))])) (fun y0=>K .ret (za [(10, .ptr (some y0))])):=
 zjq (g:=x12) (by kernel_rfl) (qd.u12.ok k x0 x1 x2 x3 x4 x5 x6 x7 x8 x9 x10 x11 x12 K) (qd.u13.ok k x0 x1 x2 x3 x4 x5 x6 x7 x8 x9 x10 x11 x12 K)
theorem qd.u15.ok (k:Nat) (x0:Int) (x1 x2:Ad) (x3 x4:Ad) (x5 x6:Ad) (x7 x8:Ad) (x9:Int) (x10:Sl) (x11:Ad) (K:KF α) :
  eC k qd.u15.c (za [(1, .int .i64 x0), (3, .ptr (some x1)), (4, .ptr (some x2)), (5, .ptr (some x3)), (6, .ptr (some x4)), (7, .ptr (some x5)), (8, .ptr (some x6)), (10, .ptr (some x7)), (11, .ptr (some x8)), (12, .int .i64 x9), (14, .slice x10), (16, .ptr (some x11))]) K =
   qd.u15.f k x0 x1 x2 x3 x4 x5 x6 x7 x8 x9 x10 x11 (fun y0 y1 y2 y3 y4 y5 y6 y7 y8 y9=>K .normal (za [(1, .int .i64 y0), (3, .ptr (some y1)), (4, .ptr (some y2)), (5, .ptr (some y3)), (6, .ptr (some y4)), (7, .ptr (some y5)), (8, .ptr (some y6)), (10, .ptr (some y7)), (12, .int .i64 y8), (16, .ptr (some y9))])) (fun y0=>K .ret (za [(10, .ptr (some y0))])):=
 (qd.u3.ok k x0 x1 x2 x3 x4 x5 x6 x7 x8 x9 x10 x11 qd.u14.c K).trans
  (congrArg (fun z=>qd.u3.f k x0 x1 x2 x3 x4 x5 x6 x7 x8 x9 x10 x11 z) (funext fun y0=>(funext fun y1=>(funext fun y2=>(funext fun y3=>(funext fun y4=>(funext fun y5=>(funext fun y6=>(funext fun y7=>(funext fun y8=>(funext fun y9=>(funext fun y10=>(funext fun y11=>(funext fun y12=>qd.u14.ok k y0 y1 y2 y3 y4 y5 y6 y7 y8 y9 y10 y11 y12 K))))))))))))))
theorem qd.u16.ok (k:Nat) (x0:Int) (x1 x2:Ad) (x3 x4:Ad) (x5 x6 x7:Ad) (x8:Int) (x9:Ad) (R:IC) (K:KF α) :
  eC k (qd.u16.c R) (za [(1, .int .i64 x0), (3, .ptr (some x1)), (4, .ptr (some x2)), (5, .ptr (some x3)), (6, .ptr (some x4)), (7, .ptr (some x5)), (8, .ptr (some x6)), (10, .ptr (some x7)), (12, .int .i64 x8), (16, .ptr (some x9))]) K =
   qd.u16.f k x0 x1 x2 x3 x4 x5 x6 x7 x8 x9 (fun y0 y1 y2 y3 y4 y5 y6 y7 y8=>eC k R (za [(1, .int .i64 y0), (4, .ptr (some y1)), (6, .ptr (some y2)), (7, .ptr (some y3)), (8, .ptr (some y4)), (10, .ptr (some y5)), (12, .int .i64 y6), (16, .ptr (some y7)), (20, .ptr (some y8))]) K):=by kernel_rfl
theorem qd.u17.ok (k:Nat) (x0:Int) (x1 x2:Ad) (x3 x4 x5:Ad) (x6:Int) (x7 x8:Ad) (R:IC) (K:KF α) :
  eC k (qd.u17.c R) (za [(1, .int .i64 x0), (4, .ptr (some x1)), (6, .ptr (some x2)), (7, .ptr (some x3)), (8, .ptr (some x4)), (10, .ptr (some x5)), (12, .int .i64 x6), (16, .ptr (some x7)), (20, .ptr (some x8))]) K =
   qd.u17.f k x0 x1 x2 x3 x4 x5 x6 x7 x8 (fun y0 y1 y2 y3 y4 y5 y6 y7 y8 y9=>eC k R (za [(1, .int .i64 y0), (4, .ptr (some y1)), (6, .ptr (some y2)), (8, .ptr (some y3)), (10, .ptr (some y4)), (12, .int .i64 y5), (16, .ptr (some y6)), (20, .ptr (some y7)), (113, .int .i64 y8), (114, .int .i64 y9)]) K):=by kernel_rfl
theorem qd.u18.ok (k:Nat) (x0:Int) (x1 x2:Ad) (x3 x4:Ad) (x5:Int) (x6 x7:Ad) (x8 x9:Int) (K:KF α) :
  eC k qd.u18.c (za [(1, .int .i64 x0), (4, .ptr (some x1)), (6, .ptr (some x2)), (8, .ptr (some x3)), (10, .ptr (some x4)), (12, .int .i64 x5), (16, .ptr (some x6)), (20, .ptr (some x7)), (113, .int .i64 x8), (114, .int .i64 x9)]) K =
   qd.u18.f k x0 x1 x2 x3 x4 x5 x6 x7 x8 x9 (fun y0 y1 y2 y3 y4 y5 y6 y7 y8 y9=>K .normal (za [(1, .int .i64 y0), (4, .ptr (some y1)), (6, .ptr (some y2)), (8, .ptr (some y3)), (10, .ptr (some y4)), (12, .int .i64 y5), (16, .ptr (some y6)), (20, .ptr (some y7)), (113, .int .i64 y8), (114, .int .i64 y9)])) (fun y0 y1 y2 y3 y4 y5=>K (.exit 2) (za [(1, .int .i64 y0), (4, .ptr (some y1)), (8, .ptr (some y2)), (10, .ptr (some y3)), (12, .int .i64 y4), (20, .ptr (some y5))])):=by kernel_rfl
theorem qd.u19.ls (k:Nat) (kx2:Int->Ad->Ad->Ad->Int->Ad->M α) (j:Nat) (x0:Int) (x1 x2:Ad) (x3 x4:Ad) (x5:Int) (x6 x7:Ad) (x8 x9:Int):qd.u19.l k kx2 (j + 1) x0 x1 x2 x3 x4 x5 x6 x7 x8 x9 =
 qd.u18.f k x0 x1 x2 x3 x4 x5 x6 x7 x8 x9 (fun y0 y1 y2 y3 y4 y5 y6 y7 y8 y9=>qd.u19.l k kx2 j y0 y1 y2 y3 y4 y5 y6 y7 y8 y9) kx2:=rfl
theorem qd.u19.okl (k:Nat) (K:KF α):∀ (j:Nat) (x0:Int) (x1 x2:Ad) (x3 x4:Ad) (x5:Int) (x6 x7:Ad) (x8 x9:Int),
  zu (eC k qd.u18.c) [1, 4, 6, 8, 10, 12, 16, 20, 113, 114] j (za [(1, .int .i64 x0), (4, .ptr (some x1)), (6, .ptr (some x2)), (8, .ptr (some x3)), (10, .ptr (some x4)), (12, .int .i64 x5), (16, .ptr (some x6)), (20, .ptr (some x7)), (113, .int .i64 x8), (114, .int .i64 x9)]) K = qd.u19.l k (fun y0 y1 y2 y3 y4 y5=>K (.exit 2) (za [(1, .int .i64 y0), (4, .ptr (some y1)), (8, .ptr (some y2)), (10, .ptr (some y3)), (12, .int .i64 y4), (20, .ptr (some y5))])) j x0 x1 x2 x3 x4 x5 x6 x7 x8 x9
 | 0, _, _, _, _, _, _, _, _, _, _=>rfl
 | j + 1, x0, x1, x2, x3, x4, x5, x6, x7, x8, x9=>by
   have h:=qd.u18.ok k x0 x1 x2 x3 x4 x5 x6 x7 x8 x9 (seqK (fun ρ=>zu (eC k qd.u18.c) [1, 4, 6, 8, 10, 12, 16, 20, 113, 114] j ρ K) K)
   simp only [zn, zq, zp, zj, qd.u19.okl k K j] at h
   exact (zy (by kernel_rfl) h).trans (qd.u19.ls k (fun y0 y1 y2 y3 y4 y5=>K (.exit 2) (za [(1, .int .i64 y0), (4, .ptr (some y1)), (8, .ptr (some y2)), (10, .ptr (some y3)), (12, .int .i64 y4), (20, .ptr (some y5))])) j x0 x1 x2 x3 x4 x5 x6 x7 x8 x9).symm
theorem qd.u19.ok (k:Nat) (x0:Int) (x1 x2:Ad) (x3 x4:Ad) (x5:Int) (x6 x7:Ad) (x8 x9:Int) (K:KF α) :
  eC k qd.u19.c (za [(1, .int .i64 x0), (4, .ptr (some x1)), (6, .ptr (some x2)), (8, .ptr (some x3)), (10, .ptr (some x4)), (12, .int .i64 x5), (16, .ptr (some x6)), (20, .ptr (some x7)), (113, .int .i64 x8), (114, .int .i64 x9)]) K =
   qd.u19.f k x0 x1 x2 x3 x4 x5 x6 x7 x8 x9 (fun y0 y1 y2 y3 y4 y5=>K (.exit 2) (za [(1, .int .i64 y0), (4, .ptr (some y1)), (8, .ptr (some y2)), (10, .ptr (some y3)), (12, .int .i64 y4), (20, .ptr (some y5))])):=
 jo.trans <| (zx (body:=eC k qd.u18.c) (keep:=[1, 4, 6, 8, 10, 12, 16, 20, 113, 114]) (ρ:=(za [(1, .int .i64 x0), (4, .ptr (some x1)), (6, .ptr (some x2)), (8, .ptr (some x3)), (10, .ptr (some x4)), (12, .int .i64 x5), (16, .ptr (some x6)), (20, .ptr (some x7)), (113, .int .i64 x8), (114, .int .i64 x9)])) (ρ':=(za [(1, .int .i64 x0), (4, .ptr (some x1)), (6, .ptr (some x2)), (8, .ptr (some x3)), (10, .ptr (some x4)), (12, .int .i64 x5), (16, .ptr (some x6)), (20, .ptr (some x7)), (113, .int .i64 x8), (114, .int .i64 x9)])) (by kernel_rfl) k K).trans (qd.u19.okl k K k x0 x1 x2 x3 x4 x5 x6 x7 x8 x9)
theorem qd.u20.ok (k:Nat) (x0:Int) (x1 x2:Ad) (x3 x4:Ad) (x5:Int) (x6 x7:Ad) (x8 x9:Int) (K:KF α) :
  eC k qd.u20.c (za [(1, .int .i64 x0), (4, .ptr (some x1)), (6, .ptr (some x2)), (8, .ptr (some x3)), (10, .ptr (some x4)), (12, .int .i64 x5), (16, .ptr (some x6)), (20, .ptr (some x7)), (113, .int .i64 x8), (114, .int .i64 x9)]) K =
   qd.u20.f k x0 x1 x2 x3 x4 x5 x6 x7 x8 x9 (fun y0 y1 y2 y3 y4 y5=>K .normal (za [(1, .int .i64 y0), (4, .ptr (some y1)), (8, .ptr (some y2)), (10, .ptr (some y3)), (12, .int .i64 y4), (20, .ptr (some y5))])):=
 (ja.trans (qd.u19.ok k x0 x1 x2 x3 x4 x5 x6 x7 x8 x9 (jp 2 K))).trans (by kernel_rfl)
theorem qd.u21.ok (k:Nat) (x0:Int) (x1 x2:Ad) (x3 x4 x5:Ad) (x6:Int) (x7 x8:Ad) (K:KF α) :
  eC k qd.u21.c (za [(1, .int .i64 x0), (4, .ptr (some x1)), (6, .ptr (some x2)), (7, .ptr (some x3)), (8, .ptr (some x4)), (10, .ptr (some x5)), (12, .int .i64 x6), (16, .ptr (some x7)), (20, .ptr (some x8))]) K =
   qd.u21.f k x0 x1 x2 x3 x4 x5 x6 x7 x8 (fun y0 y1 y2 y3 y4 y5=>K .normal (za [(1, .int .i64 y0), (4, .ptr (some y1)), (8, .ptr (some y2)), (10, .ptr (some y3)), (12, .int .i64 y4), (20, .ptr (some y5))])):=
 (qd.u17.ok k x0 x1 x2 x3 x4 x5 x6 x7 x8 qd.u20.c K).trans
  (congrArg (fun z=>qd.u17.f k x0 x1 x2 x3 x4 x5 x6 x7 x8 z) (funext fun y0=>(funext fun y1=>(funext fun y2=>(funext fun y3=>(funext fun y4=>(funext fun y5=>(funext fun y6=>(funext fun y7=>(funext fun y8=>(funext fun y9=>qd.u20.ok k y0 y1 y2 y3 y4 y5 y6 y7 y8 y9 K)))))))))))
theorem qd.u22.ok (k:Nat) (x0:Int) (x1 x2 x3:Ad) (x4:Int) (x5:Ad) (K:KF α) :
  eC k qd.u22.c (za [(1, .int .i64 x0), (4, .ptr (some x1)), (8, .ptr (some x2)), (10, .ptr (some x3)), (12, .int .i64 x4), (20, .ptr (some x5))]) K =
   qd.u22.f k (qd.f k) x0 x1 x2 x3 x4 x5 (fun y0=>K .ret (za [(10, .ptr (some y0))])):=by kernel_rfl
theorem qd.u23.ok (k:Nat) (x0:Int) (x1 x2:Ad) (x3 x4 x5:Ad) (x6:Int) (x7 x8:Ad) (K:KF α) :
  eC k qd.u23.c (za [(1, .int .i64 x0), (4, .ptr (some x1)), (6, .ptr (some x2)), (7, .ptr (some x3)), (8, .ptr (some x4)), (10, .ptr (some x5)), (12, .int .i64 x6), (16, .ptr (some x7)), (20, .ptr (some x8))]) K =
   qd.u23.f k (qd.f k) x0 x1 x2 x3 x4 x5 x6 x7 x8 (fun y0=>K .ret (za [(10, .ptr (some y0))])):=
 by
  have h:=qd.u21.ok k x0 x1 x2 x3 x4 x5 x6 x7 x8 (seqK (fun ρ=>eC k qd.u22.c ρ K) K)
  simp only [zj, zn, zq, zp, qd.u22.ok] at h
  exact jd h
theorem qd.u24.ok (k:Nat) (x0:Int) (x1 x2:Ad) (x3 x4:Ad) (x5 x6 x7:Ad) (x8:Int) (x9:Ad) (K:KF α) :
  eC k qd.u24.c (za [(1, .int .i64 x0), (3, .ptr (some x1)), (4, .ptr (some x2)), (5, .ptr (some x3)), (6, .ptr (some x4)), (7, .ptr (some x5)), (8, .ptr (some x6)), (10, .ptr (some x7)), (12, .int .i64 x8), (16, .ptr (some x9))]) K =
   qd.u24.f k (qd.f k) x0 x1 x2 x3 x4 x5 x6 x7 x8 x9 (fun y0=>K .ret (za [(10, .ptr (some y0))])):=
 (qd.u16.ok k x0 x1 x2 x3 x4 x5 x6 x7 x8 x9 qd.u23.c K).trans
  (congrArg (fun z=>qd.u16.f k x0 x1 x2 x3 x4 x5 x6 x7 x8 x9 z) (funext fun y0=>(funext fun y1=>(funext fun y2=>(funext fun y3=>(funext fun y4=>(funext fun y5=>(funext fun y6=>(funext fun y7=>(funext fun y8=>qd.u23.ok k y0 y1 y2 y3 y4 y5 y6 y7 y8 K))))))))))
theorem qd.u25.ok (k:Nat) (x0:Int) (x1 x2:Ad) (x3 x4:Ad) (x5 x6:Ad) (x7 x8:Ad) (x9:Int) (x10:Sl) (x11:Ad) (K:KF α) :
  eC k qd.u25.c (za [(1, .int .i64 x0), (3, .ptr (some x1)), (4, .ptr (some x2)), (5, .ptr (some x3)), (6, .ptr (some x4)), (7, .ptr (some x5)), (8, .ptr (some x6)), (10, .ptr (some x7)), (11, .ptr (some x8)), (12, .int .i64 x9), (14, .slice x10), (16, .ptr (some x11))]) K =
   qd.u25.f k (qd.f k) x0 x1 x2 x3 x4 x5 x6 x7 x8 x9 x10 x11 (fun y0=>K .ret (za [(10, .ptr (some y0))])):=
 by
  have h:=qd.u15.ok k x0 x1 x2 x3 x4 x5 x6 x7 x8 x9 x10 x11 (seqK (fun ρ=>eC k qd.u24.c ρ K) K)
  simp only [zj, zn, zq, zp, qd.u24.ok] at h
  exact jd h
theorem qd.u26.ok (k:Nat) (x0:Int) (x1 x2:Ad) (x3 x4:Ad) (x5 x6:Ad) (x7 x8:Ad) (x9:Int) (x10:Sl) (x11:Ad) (K:KF α) :
  eC k qd.u26.c (za [(1, .int .i64 x0), (3, .ptr (some x1)), (4, .ptr (some x2)), (5, .ptr (some x3)), (6, .ptr (some x4)), (7, .ptr (some x5)), (8, .ptr (some x6)), (10, .ptr (some x7)), (11, .ptr (some x8)), (12, .int .i64 x9), (14, .slice x10), (15, .ptr (some x11))]) K =
   qd.u26.f k (qd.f k) x0 x1 x2 x3 x4 x5 x6 x7 x8 x9 x10 x11 (fun y0=>K .ret (za [(10, .ptr (some y0))])):=
 (qd.u2.ok k x0 x1 x2 x3 x4 x5 x6 x7 x8 x9 x10 x11 qd.u25.c K).trans
  (congrArg (fun z=>qd.u2.f k x0 x1 x2 x3 x4 x5 x6 x7 x8 x9 x10 x11 z) (funext fun y0=>(funext fun y1=>(funext fun y2=>(funext fun y3=>(funext fun y4=>(funext fun y5=>(funext fun y6=>(funext fun y7=>(funext fun y8=>(funext fun y9=>(funext fun y10=>(funext fun y11=>qd.u25.ok k y0 y1 y2 y3 y4 y5 y6 y7 y8 y9 y10 y11 K)))))))))))))
theorem qd.u27.ok (k:Nat) (x0 x1:Int) (x2 x3 x4:Int) (x5 x6:Ad) (x7 x8:Ad) (x9 x10:Ad) (K:KF α) :
  eC k qd.u27.c (za [(0, .agg [.int .u64 x0, .int .u64 x1, .int .u64 x2, .int .u64 x3]), (1, .int .i64 x4), (2, .ptr (some x5)), (3, .ptr (some x6)), (4, .ptr (some x7)), (5, .ptr (some x8)), (6, .ptr (some x9)), (7, .ptr (some x10))]) K =
   qd.u27.f k (qd.f k) x0 x1 x2 x3 x4 x5 x6 x7 x8 x9 x10 (fun y0=>K .ret (za [(10, .ptr (some y0))])):=
 (qd.u1.ok k x0 x1 x2 x3 x4 x5 x6 x7 x8 x9 x10 qd.u26.c K).trans
  (congrArg (fun z=>qd.u1.f k (qd.f k) x0 x1 x2 x3 x4 x5 x6 x7 x8 x9 x10 z (fun y0=>K .ret (za [(10, .ptr (some y0))]))) (funext fun y0=>(funext fun y1=>(funext fun y2=>(funext fun y3=>(funext fun y4=>(funext fun y5=>(funext fun y6=>(funext fun y7=>(funext fun y8=>(funext fun y9=>(funext fun y10=>(funext fun y11=>qd.u26.ok k y0 y1 y2 y3 y4 y5 y6 y7 y8 y9 y10 y11 K)))))))))))))
theorem qd.ok (k:Nat) (x0 x1:Int) (x2 x3 x4:Int) (x5 x6:Ad) (x7 x8:Ad) (x9 x10:Ad) (κ:Res->M α) :
  evF T (env k) k qd.c qd.res [.agg [.int .u64 x0, .int .u64 x1, .int .u64 x2, .int .u64 x3], .int .i64 x4, .ptr (some x5), .ptr (some x6), .ptr (some x7), .ptr (some x8), .ptr (some x9), .ptr (some x10)] κ = qd.f (k + 1) x0 x1 x2 x3 x4 x5 x6 x7 x8 x9 x10 (fun o0 o1 o2 o3 o4 o5 o6 o7=>κ (.ret (.agg [.int .u64 o0, .int .u64 o1, .int .u64 o2, .int .u64 o3, .int .u64 o4, .int .u64 o5, .int .u64 o6, .int .u64 o7]))):=
 (qd.u27.ok k x0 x1 x2 x3 x4 x5 x6 x7 x8 x9 x10 (retK T qd.res κ)).trans (by kernel_rfl)
theorem qd.code:qd.c.code = jt Tryz.f47:=by kernel_rfl
noncomputable def qc.c:IC:=qc.u28.c
noncomputable def qc.res:List ResultVar:=[(.cell 2 30), (.tmp 3)]
theorem qc.u1.ok (k:Nat) (x0 x1 x2:Sl) (R:IC) (K:KF α) :
  eC k (qc.u1.c R) (za [(0, .agg [.slice x0, .slice x1, .slice x2])]) K =
   qc.u1.f k x0 x1 x2 (fun y0 y1 y2 y3 y4=>eC k R (za [(1, .ptr (some y0)), (2, .ptr (some y1)), (6, .ptr (some y2)), (7, .ptr (some y3)), (8, .ptr (some y4))]) K) (fun y0 y1=>K .ret (za [(2, .ptr (some y0)), (3, .int .i64 y1)])):=by kernel_rfl
theorem qc.u2.ok (k:Nat) (x0 x1:Ad) (x2 x3 x4:Ad) (R:IC) (K:KF α) :
  eC k (qc.u2.c R) (za [(1, .ptr (some x0)), (2, .ptr (some x1)), (6, .ptr (some x2)), (7, .ptr (some x3)), (8, .ptr (some x4))]) K =
   qc.u2.f k x0 x1 x2 x3 x4 (fun y0 y1 y2 y3 y4 y5=>eC k R (za [(1, .ptr (some y0)), (2, .ptr (some y1)), (6, .ptr (some y2)), (7, .ptr (some y3)), (8, .ptr (some y4)), (27, .int .i64 y5)]) K):=by kernel_rfl
theorem qc.u3.ok (k:Nat) (x0 x1:Ad) (x2 x3 x4:Ad) (x5:Int) (K:KF α) :
  eC k qc.u3.c (za [(1, .ptr (some x0)), (2, .ptr (some x1)), (6, .ptr (some x2)), (7, .ptr (some x3)), (8, .ptr (some x4)), (27, .int .i64 x5)]) K =
   qc.u3.f k x0 x1 x2 x3 x4 x5 (fun y0 y1 y2 y3 y4 y5=>K .normal (za [(1, .ptr (some y0)), (2, .ptr (some y1)), (6, .ptr (some y2)), (7, .ptr (some y3)), (8, .ptr (some y4)), (27, .int .i64 y5)])) (fun y0 y1 y2 y3 y4=>K (.exit 0) (za [(1, .ptr (some y0)), (2, .ptr (some y1)), (6, .ptr (some y2)), (7, .ptr (some y3)), (8, .ptr (some y4))])):=by kernel_rfl
theorem qc.u4.ls (k:Nat) (kx0:Ad->Ad->Ad->Ad->Ad->M α) (j:Nat) (x0 x1:Ad) (x2 x3 x4:Ad) (x5:Int):qc.u4.l k kx0 (j + 1) x0 x1 x2 x3 x4 x5 =
 qc.u3.f k x0 x1 x2 x3 x4 x5 (fun y0 y1 y2 y3 y4 y5=>qc.u4.l k kx0 j y0 y1 y2 y3 y4 y5) kx0:=rfl
theorem qc.u4.okl (k:Nat) (K:KF α):∀ (j:Nat) (x0 x1:Ad) (x2 x3 x4:Ad) (x5:Int),
  zu (eC k qc.u3.c) [1, 2, 6, 7, 8, 27] j (za [(1, .ptr (some x0)), (2, .ptr (some x1)), (6, .ptr (some x2)), (7, .ptr (some x3)), (8, .ptr (some x4)), (27, .int .i64 x5)]) K = qc.u4.l k (fun y0 y1 y2 y3 y4=>K (.exit 0) (za [(1, .ptr (some y0)), (2, .ptr (some y1)), (6, .ptr (some y2)), (7, .ptr (some y3)), (8, .ptr (some y4))])) j x0 x1 x2 x3 x4 x5
 | 0, _, _, _, _, _, _=>rfl
 | j + 1, x0, x1, x2, x3, x4, x5=>by
   have h:=qc.u3.ok k x0 x1 x2 x3 x4 x5 (seqK (fun ρ=>zu (eC k qc.u3.c) [1, 2, 6, 7, 8, 27] j ρ K) K)
   simp only [zn, zq, zp, zj, qc.u4.okl k K j] at h
   exact (zy (by kernel_rfl) h).trans (qc.u4.ls k (fun y0 y1 y2 y3 y4=>K (.exit 0) (za [(1, .ptr (some y0)), (2, .ptr (some y1)), (6, .ptr (some y2)), (7, .ptr (some y3)), (8, .ptr (some y4))])) j x0 x1 x2 x3 x4 x5).symm
theorem qc.u4.ok (k:Nat) (x0 x1:Ad) (x2 x3 x4:Ad) (x5:Int) (K:KF α) :
  eC k qc.u4.c (za [(1, .ptr (some x0)), (2, .ptr (some x1)), (6, .ptr (some x2)), (7, .ptr (some x3)), (8, .ptr (some x4)), (27, .int .i64 x5)]) K =
   qc.u4.f k x0 x1 x2 x3 x4 x5 (fun y0 y1 y2 y3 y4=>K (.exit 0) (za [(1, .ptr (some y0)), (2, .ptr (some y1)), (6, .ptr (some y2)), (7, .ptr (some y3)), (8, .ptr (some y4))])):=
 jo.trans <| (zx (body:=eC k qc.u3.c) (keep:=[1, 2, 6, 7, 8, 27]) (ρ:=(za [(1, .ptr (some x0)), (2, .ptr (some x1)), (6, .ptr (some x2)), (7, .ptr (some x3)), (8, .ptr (some x4)), (27, .int .i64 x5)])) (ρ':=(za [(1, .ptr (some x0)), (2, .ptr (some x1)), (6, .ptr (some x2)), (7, .ptr (some x3)), (8, .ptr (some x4)), (27, .int .i64 x5)])) (by kernel_rfl) k K).trans (qc.u4.okl k K k x0 x1 x2 x3 x4 x5)
theorem qc.u5.ok (k:Nat) (x0 x1:Ad) (x2 x3 x4:Ad) (x5:Int) (K:KF α) :
  eC k qc.u5.c (za [(1, .ptr (some x0)), (2, .ptr (some x1)), (6, .ptr (some x2)), (7, .ptr (some x3)), (8, .ptr (some x4)), (27, .int .i64 x5)]) K =
   qc.u5.f k x0 x1 x2 x3 x4 x5 (fun y0 y1 y2 y3 y4=>K .normal (za [(1, .ptr (some y0)), (2, .ptr (some y1)), (6, .ptr (some y2)), (7, .ptr (some y3)), (8, .ptr (some y4))])):=
 (ja.trans (qc.u4.ok k x0 x1 x2 x3 x4 x5 (jp 0 K))).trans (by kernel_rfl)
theorem qc.u6.ok (k:Nat) (x0 x1:Ad) (x2 x3 x4:Ad) (K:KF α) :
  eC k qc.u6.c (za [(1, .ptr (some x0)), (2, .ptr (some x1)), (6, .ptr (some x2)), (7, .ptr (some x3)), (8, .ptr (some x4))]) K =
   qc.u6.f k x0 x1 x2 x3 x4 (fun y0 y1 y2 y3 y4=>K .normal (za [(1, .ptr (some y0)), (2, .ptr (some y1)), (6, .ptr (some y2)), (7, .ptr (some y3)), (8, .ptr (some y4))])):=
 (qc.u2.ok k x0 x1 x2 x3 x4 qc.u5.c K).trans
  (congrArg (fun z=>qc.u2.f k x0 x1 x2 x3 x4 z) (funext fun y0=>(funext fun y1=>(funext fun y2=>(funext fun y3=>(funext fun y4=>(funext fun y5=>qc.u5.ok k y0 y1 y2 y3 y4 y5 K)))))))
theorem qc.u7.ok (k:Nat) (x0 x1:Ad) (x2 x3 x4:Ad) (R:IC) (K:KF α) :
  eC k (qc.u7.c R) (za [(1, .ptr (some x0)), (2, .ptr (some x1)), (6, .ptr (some x2)), (7, .ptr (some x3)), (8, .ptr (some x4))]) K =
   qc.u7.f k x0 x1 x2 x3 x4 (fun y0 y1 y2 y3 y4 y5=>eC k R (za [(1, .ptr (some y0)), (2, .ptr (some y1)), (6, .ptr (some y2)), (7, .ptr (some y3)), (8, .ptr (some y4)), (12, .ptr (some y5))]) K):=by kernel_rfl
theorem qc.u8.ok (k:Nat) (x0 x1:Ad) (x2 x3:Ad) (x4 x5:Ad) (R:IC) (K:KF α) :
  eC k (qc.u8.c R) (za [(1, .ptr (some x0)), (2, .ptr (some x1)), (6, .ptr (some x2)), (7, .ptr (some x3)), (8, .ptr (some x4)), (12, .ptr (some x5))]) K =
   qc.u8.f k x0 x1 x2 x3 x4 x5 (fun y0 y1 y2 y3 y4 y5=>eC k R (za [(1, .ptr (some y0)), (2, .ptr (some y1)), (6, .ptr (some y2)), (7, .ptr (some y3)), (12, .ptr (some y4)), (13, .ptr (some y5))]) K):=by kernel_rfl
theorem qc.u9.ok (k:Nat) (x0 x1:Ad) (x2 x3:Ad) (x4 x5:Ad) (R:IC) (K:KF α) :
  eC k (qc.u9.c R) (za [(1, .ptr (some x0)), (2, .ptr (some x1)), (6, .ptr (some x2)), (7, .ptr (some x3)), (12, .ptr (some x4)), (13, .ptr (some x5))]) K =
   qc.u9.f k x0 x1 x2 x3 x4 x5 (fun y0 y1 y2 y3 y4 y5 y6=>eC k R (za [(1, .ptr (some y0)), (2, .ptr (some y1)), (6, .ptr (some y2)), (7, .ptr (some y3)), (12, .ptr (some y4)), (13, .ptr (some y5)), (44, .int .i64 y6)]) K):=by kernel_rfl
theorem qc.u10.ok (k:Nat) (x0 x1:Ad) (x2 x3:Ad) (x4 x5:Ad) (x6:Int) (R:IC) (K:KF α) :
  eC k (qc.u10.c R) (za [(1, .ptr (some x0)), (2, .ptr (some x1)), (6, .ptr (some x2)), (7, .ptr (some x3)), (12, .ptr (some x4)), (13, .ptr (some x5)), (44, .int .i64 x6)]) K =
   qc.u10.f k x0 x1 x2 x3 x4 x5 x6 (fun y0 y1 y2 y3 y4 y5 y6=>eC k R (za [(1, .ptr (some y0)), (2, .ptr (some y1)), (6, .ptr (some y2)), (7, .ptr (some y3)), (12, .ptr (some y4)), (13, .ptr (some y5)), (44, .int .i64 y6)]) K) (fun y0 y1 y2=>K (.exit 2) (za [(2, .ptr (some y0)), (7, .ptr (some y1)), (13, .ptr (some y2))])):=by kernel_rfl
theorem qc.u11.ok (k:Nat) (x0 x1:Ad) (x2 x3:Ad) (x4 x5:Ad) (x6:Int) (R:IC) (K:KF α) :
  eC k (qc.u11.c R) (za [(1, .ptr (some x0)), (2, .ptr (some x1)), (6, .ptr (some x2)), (7, .ptr (some x3)), (12, .ptr (some x4)), (13, .ptr (some x5)), (44, .int .i64 x6)]) K =
   qc.u11.f k x0 x1 x2 x3 x4 x5 x6 (fun y0 y1 y2 y3 y4 y5 y6 y7 y8 y9=>eC k R (za [(1, .ptr (some y0)), (2, .ptr (some y1)), (6, .ptr (some y2)), (7, .ptr (some y3)), (12, .ptr (some y4)), (13, .ptr (some y5)), (14, .int .i64 y6), (44, .int .i64 y7), (54, .int .i64 y8), (55, .int .i64 y9)]) K):=by kernel_rfl
theorem qc.u12.ok (k:Nat) (x0 x1:Ad) (x2 x3:Ad) (x4 x5:Ad) (x6 x7:Int) (x8 x9:Int) (K:KF α) :
  eC k qc.u12.c (za [(1, .ptr (some x0)), (2, .ptr (some x1)), (6, .ptr (some x2)), (7, .ptr (some x3)), (12, .ptr (some x4)), (13, .ptr (some x5)), (14, .int .i64 x6), (44, .int .i64 x7), (54, .int .i64 x8), (55, .int .i64 x9)]) K =
   qc.u12.f k x0 x1 x2 x3 x4 x5 x6 x7 x8 x9 (fun y0 y1 y2 y3 y4 y5 y6 y7 y8 y9=>K .normal (za [(1, .ptr (some y0)), (2, .ptr (some y1)), (6, .ptr (some y2)), (7, .ptr (some y3)), (12, .ptr (some y4)), (13, .ptr (some y5)), (14, .int .i64 y6), (44, .int .i64 y7), (54, .int .i64 y8), (55, .int .i64 y9)])) (fun y0 y1 y2 y3 y4 y5 y6=>K (.exit 4) (za [(1, .ptr (some y0)), (2, .ptr (some y1)), (6, .ptr (some y2)), (7, .ptr (some y3)), (12, .ptr (some y4)), (13, .ptr (some y5)), (44, .int .i64 y6)])):=by kernel_rfl
theorem qc.u13.ls (k:Nat) (kx4:Ad->Ad->Ad->Ad->Ad->Ad->Int->M α) (j:Nat) (x0 x1:Ad) (x2 x3:Ad) (x4 x5:Ad) (x6 x7:Int) (x8 x9:Int):qc.u13.l k kx4 (j + 1) x0 x1 x2 x3 x4 x5 x6 x7 x8 x9 =
 qc.u12.f k x0 x1 x2 x3 x4 x5 x6 x7 x8 x9 (fun y0 y1 y2 y3 y4 y5 y6 y7 y8 y9=>qc.u13.l k kx4 j y0 y1 y2 y3 y4 y5 y6 y7 y8 y9) kx4:=rfl
theorem qc.u13.okl (k:Nat) (K:KF α):∀ (j:Nat) (x0 x1:Ad) (x2 x3:Ad) (x4 x5:Ad) (x6 x7:Int) (x8 x9:Int),
  zu (eC k qc.u12.c) [1, 2, 6, 7, 12, 13, 14, 44, 54, 55] j (za [(1, .ptr (some x0)), (2, .ptr (some x1)), (6, .ptr (some x2)), (7, .ptr (some x3)), (12, .ptr (some x4)), (13, .ptr (some x5)), (14, .int .i64 x6), (44, .int .i64 x7), (54, .int .i64 x8), (55, .int .i64 x9)]) K = qc.u13.l k (fun y0 y1 y2 y3 y4 y5 y6=>K (.exit 4) (za [(1, .ptr (some y0)), (2, .ptr (some y1)), (6, .ptr (some y2)), (7, .ptr (some y3)), (12, .ptr (some y4)), (13, .ptr (some y5)), (44, .int .i64 y6)])) j x0 x1 x2 x3 x4 x5 x6 x7 x8 x9
 | 0, _, _, _, _, _, _, _, _, _, _=>rfl
 | j + 1, x0, x1, x2, x3, x4, x5, x6, x7, x8, x9=>by
   have h:=qc.u12.ok k x0 x1 x2 x3 x4 x5 x6 x7 x8 x9 (seqK (fun ρ=>zu (eC k qc.u12.c) [1, 2, 6, 7, 12, 13, 14, 44, 54, 55] j ρ K) K)
   simp only [zn, zq, zp, zj, qc.u13.okl k K j] at h
   exact (zy (by kernel_rfl) h).trans (qc.u13.ls k (fun y0 y1 y2 y3 y4 y5 y6=>K (.exit 4) (za [(1, .ptr (some y0)), (2, .ptr (some y1)), (6, .ptr (some y2)), (7, .ptr (some y3)), (12, .ptr (some y4)), (13, .ptr (some y5)), (44, .int .i64 y6)])) j x0 x1 x2 x3 x4 x5 x6 x7 x8 x9).symm
theorem qc.u13.ok (k:Nat) (x0 x1:Ad) (x2 x3:Ad) (x4 x5:Ad) (x6 x7:Int) (x8 x9:Int) (K:KF α) :
  eC k qc.u13.c (za [(1, .ptr (some x0)), (2, .ptr (some x1)), (6, .ptr (some x2)), (7, .ptr (some x3)), (12, .ptr (some x4)), (13, .ptr (some x5)), (14, .int .i64 x6), (44, .int .i64 x7), (54, .int .i64 x8), (55, .int .i64 x9)]) K =
   qc.u13.f k x0 x1 x2 x3 x4 x5 x6 x7 x8 x9 (fun y0 y1 y2 y3 y4 y5 y6=>K (.exit 4) (za [(1, .ptr (some y0)), (2, .ptr (some y1)), (6, .ptr (some y2)), (7, .ptr (some y3)), (12, .ptr (some y4)), (13, .ptr (some y5)), (44, .int .i64 y6)])):=
 jo.trans <| (zx (body:=eC k qc.u12.c) (keep:=[1, 2, 6, 7, 12, 13, 14, 44, 54, 55]) (ρ:=(za [(1, .ptr (some x0)), (2, .ptr (some x1)), (6, .ptr (some x2)), (7, .ptr (some x3)), (12, .ptr (some x4)), (13, .ptr (some x5)), (14, .int .i64 x6), (44, .int .i64 x7), (54, .int .i64 x8), (55, .int .i64 x9)])) (ρ':=(za [(1, .ptr (some x0)), (2, .ptr (some x1)), (6, .ptr (some x2)), (7, .ptr (some x3)), (12, .ptr (some x4)), (13, .ptr (some x5)), (14, .int .i64 x6), (44, .int .i64 x7), (54, .int .i64 x8), (55, .int .i64 x9)])) (by kernel_rfl) k K).trans (qc.u13.okl k K k x0 x1 x2 x3 x4 x5 x6 x7 x8 x9)
theorem qc.u14.ok (k:Nat) (x0 x1:Ad) (x2 x3:Ad) (x4 x5:Ad) (x6 x7:Int) (x8 x9:Int) (K:KF α) :
  eC k qc.u14.c (za [(1, .ptr (some x0)), (2, .ptr (some x1)), (6, .ptr (some x2)), (7, .ptr (some x3)), (12, .ptr (some x4)), (13, .ptr (some x5)), (14, .int .i64 x6), (44, .int .i64 x7), (54, .int .i64 x8), (55, .int .i64 x9)]) K =
   qc.u14.f k x0 x1 x2 x3 x4 x5 x6 x7 x8 x9 (fun y0 y1 y2 y3 y4 y5 y6=>K .normal (za [(1, .ptr (some y0)), (2, .ptr (some y1)), (6, .ptr (some y2)), (7, .ptr (some y3)), (12, .ptr (some y4)), (13, .ptr (some y5)), (44, .int .i64 y6)])):=
 (ja.trans (qc.u13.ok k x0 x1 x2 x3 x4 x5 x6 x7 x8 x9 (jp 4 K))).trans (by kernel_rfl)
theorem qc.u15.ok (k:Nat) (x0 x1:Ad) (x2 x3:Ad) (x4 x5:Ad) (x6:Int) (K:KF α) :
  eC k qc.u15.c (za [(1, .ptr (some x0)), (2, .ptr (some x1)), (6, .ptr (some x2)), (7, .ptr (some x3)), (12, .ptr (some x4)), (13, .ptr (some x5)), (44, .int .i64 x6)]) K =
   qc.u15.f k x0 x1 x2 x3 x4 x5 x6 (fun y0 y1 y2 y3 y4 y5 y6=>K .normal (za [(1, .ptr (some y0)), (2, .ptr (some y1)), (6, .ptr (some y2)), (7, .ptr (some y3)), (12, .ptr (some y4)), (13, .ptr (some y5)), (44, .int .i64 y6)])):=
 (qc.u11.ok k x0 x1 x2 x3 x4 x5 x6 qc.u14.c K).trans
  (congrArg (fun z=>qc.u11.f k x0 x1 x2 x3 x4 x5 x6 z) (funext fun y0=>(funext fun y1=>(funext fun y2=>(funext fun y3=>(funext fun y4=>(funext fun y5=>(funext fun y6=>(funext fun y7=>(funext fun y8=>(funext fun y9=>qc.u14.ok k y0 y1 y2 y3 y4 y5 y6 y7 y8 y9 K)))))))))))
theorem qc.u16.ok (k:Nat) (x0 x1:Ad) (x2 x3:Ad) (x4 x5:Ad) (x6:Int) (K:KF α) :
  eC k qc.u16.c (za [(1, .ptr (some x0)), (2, .ptr (some x1)), (6, .ptr (some x2)), (7, .ptr (some x3)), (12, .ptr (some x4)), (13, .ptr (some x5)), (44, .int .i64 x6)]) K =
   qc.u16.f k x0 x1 x2 x3 x4 x5 x6 (fun y0 y1 y2 y3 y4 y5 y6=>K .normal (za [(1, .ptr (some y0)), (2, .ptr (some y1)), (6, .ptr (some y2)), (7, .ptr (some y3)), (12, .ptr (some y4)), (13, .ptr (some y5)), (44, .int .i64 y6)])):=
 (ja.trans (qc.u15.ok k x0 x1 x2 x3 x4 x5 x6 (jp 3 K))).trans (by kernel_rfl)
theorem qc.u17.ok (k:Nat) (x0 x1:Ad) (x2 x3:Ad) (x4 x5:Ad) (x6:Int) (K:KF α) :
  eC k qc.u17.c (za [(1, .ptr (some x0)), (2, .ptr (some x1)), (6, .ptr (some x2)), (7, .ptr (some x3)), (12, .ptr (some x4)), (13, .ptr (some x5)), (44, .int .i64 x6)]) K =
   qc.u17.f k x0 x1 x2 x3 x4 x5 x6 (fun y0 y1 y2 y3 y4 y5 y6=>K .normal (za [(1, .ptr (some y0)), (2, .ptr (some y1)), (6, .ptr (some y2)), (7, .ptr (some y3)), (12, .ptr (some y4)), (13, .ptr (some y5)), (44, .int .i64 y6)])):=by kernel_rfl
theorem qc.u18.ok (k:Nat) (x0 x1:Ad) (x2 x3:Ad) (x4 x5:Ad) (x6:Int) (K:KF α) :
  eC k qc.u18.c (za [(1, .ptr (some x0)), (2, .ptr (some x1)), (6, .ptr (some x2)), (7, .ptr (some x3)), (12, .ptr (some x4)), (13, .ptr (some x5)), (44, .int .i64 x6)]) K =
   qc.u18.f k x0 x1 x2 x3 x4 x5 x6 (fun y0 y1 y2 y3 y4 y5 y6=>K .normal (za [(1, .ptr (some y0)), (2, .ptr (some y1)), (6, .ptr (some y2)), (7, .ptr (some y3)), (12, .ptr (some y4)), (13, .ptr (some y5)), (44, .int .i64 y6)])):=
 by
  have h:=qc.u16.ok k x0 x1 x2 x3 x4 x5 x6 (seqK (fun ρ=>eC k qc.u17.c ρ K) K)
  simp only [zj, zn, zq, zp, qc.u17.ok] at h
  exact jd h
theorem qc.u19.ok (k:Nat) (x0 x1:Ad) (x2 x3:Ad) (x4 x5:Ad) (x6:Int) (K:KF α) :
  eC k qc.u19.c (za [(1, .ptr (some x0)), (2, .ptr (some x1)), (6, .ptr (some x2)), (7, .ptr (some x3)), (12, .ptr (some x4)), (13, .ptr (some x5)), (44, .int .i64 x6)]) K =
   qc.u19.f k x0 x1 x2 x3 x4 x5 x6 (fun y0 y1 y2 y3 y4 y5 y6=>K .normal (za [(1, .ptr (some y0)), (2, .ptr (some y1)), (6, .ptr (some y2)), (7, .ptr (some y3)), (12, .ptr (some y4)), (13, .ptr (some y5)), (44, .int .i64 y6)])) (fun y0 y1 y2=>K (.exit 2) (za [(2, .ptr (some y0)), (7, .ptr (some y1)), (13, .ptr (some y2))])):=
 (qc.u10.ok k x0 x1 x2 x3 x4 x5 x6 qc.u18.c K).trans
  (congrArg (fun z=>qc.u10.f k x0 x1 x2 x3 x4 x5 x6 z (fun y0 y1 y2=>K (.exit 2) (za [(2, .ptr (some y0)), (7, .ptr (some y1)), (13, .ptr (some y2))]))) (funext fun y0=>(funext fun y1=>(funext fun y2=>(funext fun y3=>(funext fun y4=>(funext fun y5=>(funext fun y6=>qc.u18.ok k y0 y1 y2 y3 y4 y5 y6 K))))))))
theorem qc.u20.ls (k:Nat) (kx2:Ad->Ad->Ad->M α) (j:Nat) (x0 x1:Ad) (x2 x3:Ad) (x4 x5:Ad) (x6:Int):qc.u20.l k kx2 (j + 1) x0 x1 x2 x3 x4 x5 x6 =
 qc.u19.f k x0 x1 x2 x3 x4 x5 x6 (fun y0 y1 y2 y3 y4 y5 y6=>qc.u20.l k kx2 j y0 y1 y2 y3 y4 y5 y6) kx2:=rfl
theorem qc.u20.okl (k:Nat) (K:KF α):∀ (j:Nat) (x0 x1:Ad) (x2 x3:Ad) (x4 x5:Ad) (x6:Int),
  zu (eC k qc.u19.c) [1, 2, 6, 7, 12, 13, 44] j (za [(1, .ptr (some x0)), (2, .ptr (some x1)), (6, .ptr (some x2)), (7, .ptr (some x3)), (12, .ptr (some x4)), (13, .ptr (some x5)), (44, .int .i64 x6)]) K = qc.u20.l k (fun y0 y1 y2=>K (.exit 2) (za [(2, .ptr (some y0)), (7, .ptr (some y1)), (13, .ptr (some y2))])) j x0 x1 x2 x3 x4 x5 x6
 | 0, _, _, _, _, _, _, _=>rfl
 | j + 1, x0, x1, x2, x3, x4, x5, x6=>by
   have h:=qc.u19.ok k x0 x1 x2 x3 x4 x5 x6 (seqK (fun ρ=>zu (eC k qc.u19.c) [1, 2, 6, 7, 12, 13, 44] j ρ K) K)
   simp only [zn, zq, zp, zj, qc.u20.okl k K j] at h
   exact (zy (by kernel_rfl) h).trans (qc.u20.ls k (fun y0 y1 y2=>K (.exit 2) (za [(2, .ptr (some y0)), (7, .ptr (some y1)), (13, .ptr (some y2))])) j x0 x1 x2 x3 x4 x5 x6).symm
theorem qc.u20.ok (k:Nat) (x0 x1:Ad) (x2 x3:Ad) (x4 x5:Ad) (x6:Int) (K:KF α) :
  eC k qc.u20.c (za [(1, .ptr (some x0)), (2, .ptr (some x1)), (6, .ptr (some x2)), (7, .ptr (some x3)), (12, .ptr (some x4)), (13, .ptr (some x5)), (44, .int .i64 x6)]) K =
   qc.u20.f k x0 x1 x2 x3 x4 x5 x6 (fun y0 y1 y2=>K (.exit 2) (za [(2, .ptr (some y0)), (7, .ptr (some y1)), (13, .ptr (some y2))])):=
 jo.trans <| (zx (body:=eC k qc.u19.c) (keep:=[1, 2, 6, 7, 12, 13, 44]) (ρ:=(za [(1, .ptr (some x0)), (2, .ptr (some x1)), (6, .ptr (some x2)), (7, .ptr (some x3)), (12, .ptr (some x4)), (13, .ptr (some x5)), (44, .int .i64 x6)])) (ρ':=(za [(1, .ptr (some x0)), (2, .ptr (some x1)), (6, .ptr (some x2)), (7, .ptr (some x3)), (12, .ptr (some x4)), (13, .ptr (some x5)), (44, .int .i64 x6)])) (by kernel_rfl) k K).trans (qc.u20.okl k K k x0 x1 x2 x3 x4 x5 x6)
theorem qc.u21.ok (k:Nat) (x0 x1:Ad) (x2 x3:Ad) (x4 x5:Ad) (x6:Int) (K:KF α) :
  eC k qc.u21.c (za [(1, .ptr (some x0)), (2, .ptr (some x1)), (6, .ptr (some x2)), (7, .ptr (some x3)), (12, .ptr (some x4)), (13, .ptr (some x5)), (44, .int .i64 x6)]) K =
   qc.u21.f k x0 x1 x2 x3 x4 x5 x6 (fun y0 y1 y2=>K .normal (za [(2, .ptr (some y0)), (7, .ptr (some y1)), (13, .ptr (some y2))])):=
 (ja.trans (qc.u20.ok k x0 x1 x2 x3 x4 x5 x6 (jp 2 K))).trans (by kernel_rfl)
theorem qc.u22.ok (k:Nat) (x0 x1:Ad) (x2 x3:Ad) (x4 x5:Ad) (K:KF α) :
  eC k qc.u22.c (za [(1, .ptr (some x0)), (2, .ptr (some x1)), (6, .ptr (some x2)), (7, .ptr (some x3)), (12, .ptr (some x4)), (13, .ptr (some x5))]) K =
   qc.u22.f k x0 x1 x2 x3 x4 x5 (fun y0 y1 y2=>K .normal (za [(2, .ptr (some y0)), (7, .ptr (some y1)), (13, .ptr (some y2))])):=
 (qc.u9.ok k x0 x1 x2 x3 x4 x5 qc.u21.c K).trans
  (congrArg (fun z=>qc.u9.f k x0 x1 x2 x3 x4 x5 z) (funext fun y0=>(funext fun y1=>(funext fun y2=>(funext fun y3=>(funext fun y4=>(funext fun y5=>(funext fun y6=>qc.u21.ok k y0 y1 y2 y3 y4 y5 y6 K))))))))
theorem qc.u23.ok (k:Nat) (x0 x1 x2:Ad) (K:KF α) :
  eC k qc.u23.c (za [(2, .ptr (some x0)), (7, .ptr (some x1)), (13, .ptr (some x2))]) K =
   qc.u23.f k x0 x1 x2 (fun y0 y1=>K .ret (za [(2, .ptr (some y0)), (3, .int .i64 y1)])):=by kernel_rfl
theorem qc.u24.ok (k:Nat) (x0 x1:Ad) (x2 x3:Ad) (x4 x5:Ad) (K:KF α) :
  eC k qc.u24.c (za [(1, .ptr (some x0)), (2, .ptr (some x1)), (6, .ptr (some x2)), (7, .ptr (some x3)), (12, .ptr (some x4)), (13, .ptr (some x5))]) K =
   qc.u24.f k x0 x1 x2 x3 x4 x5 (fun y0 y1=>K .ret (za [(2, .ptr (some y0)), (3, .int .i64 y1)])):=
 by
  have h:=qc.u22.ok k x0 x1 x2 x3 x4 x5 (seqK (fun ρ=>eC k qc.u23.c ρ K) K)
  simp only [zj, zn, zq, zp, qc.u23.ok] at h
  exact jd h
theorem qc.u25.ok (k:Nat) (x0 x1:Ad) (x2 x3:Ad) (x4 x5:Ad) (K:KF α) :
  eC k qc.u25.c (za [(1, .ptr (some x0)), (2, .ptr (some x1)), (6, .ptr (some x2)), (7, .ptr (some x3)), (8, .ptr (some x4)), (12, .ptr (some x5))]) K =
   qc.u25.f k x0 x1 x2 x3 x4 x5 (fun y0 y1=>K .ret (za [(2, .ptr (some y0)), (3, .int .i64 y1)])):=
 (qc.u8.ok k x0 x1 x2 x3 x4 x5 qc.u24.c K).trans
  (congrArg (fun z=>qc.u8.f k x0 x1 x2 x3 x4 x5 z) (funext fun y0=>(funext fun y1=>(funext fun y2=>(funext fun y3=>(funext fun y4=>(funext fun y5=>qc.u24.ok k y0 y1 y2 y3 y4 y5 K)))))))
theorem qc.u26.ok (k:Nat) (x0 x1:Ad) (x2 x3 x4:Ad) (K:KF α) :
  eC k qc.u26.c (za [(1, .ptr (some x0)), (2, .ptr (some x1)), (6, .ptr (some x2)), (7, .ptr (some x3)), (8, .ptr (some x4))]) K =
   qc.u26.f k x0 x1 x2 x3 x4 (fun y0 y1=>K .ret (za [(2, .ptr (some y0)), (3, .int .i64 y1)])):=
 (qc.u7.ok k x0 x1 x2 x3 x4 qc.u25.c K).trans
  (congrArg (fun z=>qc.u7.f k x0 x1 x2 x3 x4 z) (funext fun y0=>(funext fun y1=>(funext fun y2=>(funext fun y3=>(funext fun y4=>(funext fun y5=>qc.u25.ok k y0 y1 y2 y3 y4 y5 K)))))))
theorem qc.u27.ok (k:Nat) (x0 x1:Ad) (x2 x3 x4:Ad) (K:KF α) :
  eC k qc.u27.c (za [(1, .ptr (some x0)), (2, .ptr (some x1)), (6, .ptr (some x2)), (7, .ptr (some x3)), (8, .ptr (some x4))]) K =
   qc.u27.f k x0 x1 x2 x3 x4 (fun y0 y1=>K .ret (za [(2, .ptr (some y0)), (3, .int .i64 y1)])):=
 by
  have h:=qc.u6.ok k x0 x1 x2 x3 x4 (seqK (fun ρ=>eC k qc.u26.c ρ K) K)
  simp only [zj, zn, zq, zp, qc.u26.ok] at h
  exact jd h
theorem qc.u28.ok (k:Nat) (x0 x1 x2:Sl) (K:KF α) :
  eC k qc.u28.c (za [(0, .agg [.slice x0, .slice x1, .slice x2])]) K =
   qc.u28.f k x0 x1 x2 (fun y0 y1=>K .ret (za [(2, .ptr (some y0)), (3, .int .i64 y1)])):=
 (qc.u1.ok k x0 x1 x2 qc.u27.c K).trans
  (congrArg (fun z=>qc.u1.f k x0 x1 x2 z (fun y0 y1=>K .ret (za [(2, .ptr (some y0)), (3, .int .i64 y1)]))) (funext fun y0=>(funext fun y1=>(funext fun y2=>(funext fun y3=>(funext fun y4=>qc.u27.ok k y0 y1 y2 y3 y4 K))))))
theorem qc.ok (k:Nat) (x0 x1 x2:Sl) (κ:Res->M α) :
  evF T (env k) k qc.c qc.res [.agg [.slice x0, .slice x1, .slice x2]] κ = qc.f (k + 1) x0 x1 x2 (fun o0 o1 o2 o3 o4=>κ (.ret (.tuple [.agg [.slice o0, .slice o1, .slice o2, .slice o3], .int .i64 o4]))):=
 (qc.u28.ok k x0 x1 x2 (retK T qc.res κ)).trans (by kernel_rfl)
theorem qc.code:qc.c.code = jt Tryz.f13:=by kernel_rfl
noncomputable def qz.c:IC:=qz.u1.c
noncomputable def qz.res:List ResultVar:=[(.tmp 2)]
theorem qz.u1.ok (k:Nat) (x0:Sl) (K:KF α) :
  eC k qz.u1.c (fr14 x0) K =
   qz.u1.f k x0 (fun y0=>K .ret (fr13 y0)):=by kernel_rfl
theorem qz.ok (k:Nat) (x0:Sl) (κ:Res->M α) :
  evF T (env k) k qz.c qz.res [.slice x0] κ = qz.f (k + 1) x0 (fun o0=>κ (.ret (.slice o0))):=
 (qz.u1.ok k x0 (retK T qz.res κ)).trans (by kernel_rfl)
theorem qz.code:qz.c.code = jt Tryz.f54:=by kernel_rfl
noncomputable def qh.c:IC:=qh.u9.c
noncomputable def qh.res:List ResultVar:=[(.cell 2 25)]
theorem qh.u1.ok (k:Nat) (x0 x1 x2:Sl) (R:IC) (K:KF α) :
  eC k (qh.u1.c R) (za [(0, .agg [.slice x0, .slice x1, .slice x2])]) K =
   qh.u1.f k x0 x1 x2 (fun y0 y1 y2=>eC k R (za [(1, .ptr (some y0)), (2, .ptr (some y1)), (3, .ptr (some y2))]) K):=by kernel_rfl
theorem qh.u2.ok (k:Nat) (x0 x1 x2:Ad) (R:IC) (K:KF α) :
  eC k (qh.u2.c R) (za [(1, .ptr (some x0)), (2, .ptr (some x1)), (3, .ptr (some x2))]) K =
   qh.u2.f k x0 x1 x2 (fun y0 y1 y2 y3 y4=>eC k R (za [(2, .ptr (some y0)), (3, .ptr (some y1)), (14, .slice y2), (15, .int .i64 y3), (16, .int .i64 y4)]) K):=by kernel_rfl
theorem qh.u3.ok (k:Nat) (x0 x1:Ad) (x2:Sl) (x3 x4:Int) (K:KF α) :
  eC k qh.u3.c (za [(2, .ptr (some x0)), (3, .ptr (some x1)), (14, .slice x2), (15, .int .i64 x3), (16, .int .i64 x4)]) K =
   qh.u3.f k x0 x1 x2 x3 x4 (fun y0 y1 y2 y3 y4=>K .normal (za [(2, .ptr (some y0)), (3, .ptr (some y1)), (14, .slice y2), (15, .int .i64 y3), (16, .int .i64 y4)])) (fun y0 y1=>K (.exit 0) (za [(2, .ptr (some y0)), (3, .ptr (some y1))])):=by kernel_rfl
theorem qh.u4.ls (k:Nat) (kx0:Ad->Ad->M α) (j:Nat) (x0 x1:Ad) (x2:Sl) (x3 x4:Int):qh.u4.l k kx0 (j + 1) x0 x1 x2 x3 x4 =
 qh.u3.f k x0 x1 x2 x3 x4 (fun y0 y1 y2 y3 y4=>qh.u4.l k kx0 j y0 y1 y2 y3 y4) kx0:=rfl
theorem qh.u4.okl (k:Nat) (K:KF α):∀ (j:Nat) (x0 x1:Ad) (x2:Sl) (x3 x4:Int),
  zu (eC k qh.u3.c) [2, 3, 14, 15, 16] j (za [(2, .ptr (some x0)), (3, .ptr (some x1)), (14, .slice x2), (15, .int .i64 x3), (16, .int .i64 x4)]) K = qh.u4.l k (fun y0 y1=>K (.exit 0) (za [(2, .ptr (some y0)), (3, .ptr (some y1))])) j x0 x1 x2 x3 x4
 | 0, _, _, _, _, _=>rfl
 | j + 1, x0, x1, x2, x3, x4=>by
   have h:=qh.u3.ok k x0 x1 x2 x3 x4 (seqK (fun ρ=>zu (eC k qh.u3.c) [2, 3, 14, 15, 16] j ρ K) K)
   simp only [zn, zq, zp, zj, qh.u4.okl k K j] at h
   exact (zy (by kernel_rfl) h).trans (qh.u4.ls k (fun y0 y1=>K (.exit 0) (za [(2, .ptr (some y0)), (3, .ptr (some y1))])) j x0 x1 x2 x3 x4).symm
theorem qh.u4.ok (k:Nat) (x0 x1:Ad) (x2:Sl) (x3 x4:Int) (K:KF α) :
  eC k qh.u4.c (za [(2, .ptr (some x0)), (3, .ptr (some x1)), (14, .slice x2), (15, .int .i64 x3), (16, .int .i64 x4)]) K =
   qh.u4.f k x0 x1 x2 x3 x4 (fun y0 y1=>K (.exit 0) (za [(2, .ptr (some y0)), (3, .ptr (some y1))])):=
 jo.trans <| (zx (body:=eC k qh.u3.c) (keep:=[2, 3, 14, 15, 16]) (ρ:=(za [(2, .ptr (some x0)), (3, .ptr (some x1)), (14, .slice x2), (15, .int .i64 x3), (16, .int .i64 x4)])) (ρ':=(za [(2, .ptr (some x0)), (3, .ptr (some x1)), (14, .slice x2), (15, .int .i64 x3), (16, .int .i64 x4)])) (by kernel_rfl) k K).trans (qh.u4.okl k K k x0 x1 x2 x3 x4)
theorem qh.u5.ok (k:Nat) (x0 x1:Ad) (x2:Sl) (x3 x4:Int) (K:KF α) :
  eC k qh.u5.c (za [(2, .ptr (some x0)), (3, .ptr (some x1)), (14, .slice x2), (15, .int .i64 x3), (16, .int .i64 x4)]) K =
   qh.u5.f k x0 x1 x2 x3 x4 (fun y0 y1=>K .normal (za [(2, .ptr (some y0)), (3, .ptr (some y1))])):=
 (ja.trans (qh.u4.ok k x0 x1 x2 x3 x4 (jp 0 K))).trans (by kernel_rfl)
theorem qh.u6.ok (k:Nat) (x0 x1 x2:Ad) (K:KF α) :
  eC k qh.u6.c (za [(1, .ptr (some x0)), (2, .ptr (some x1)), (3, .ptr (some x2))]) K =
   qh.u6.f k x0 x1 x2 (fun y0 y1=>K .normal (za [(2, .ptr (some y0)), (3, .ptr (some y1))])):=
 (qh.u2.ok k x0 x1 x2 qh.u5.c K).trans
  (congrArg (fun z=>qh.u2.f k x0 x1 x2 z) (funext fun y0=>(funext fun y1=>(funext fun y2=>(funext fun y3=>(funext fun y4=>qh.u5.ok k y0 y1 y2 y3 y4 K))))))
theorem qh.u7.ok (k:Nat) (x0 x1:Ad) (K:KF α) :
  eC k qh.u7.c (za [(2, .ptr (some x0)), (3, .ptr (some x1))]) K =
   qh.u7.f k x0 x1 (fun y0=>K .ret (za [(2, .ptr (some y0))])):=by kernel_rfl
theorem qh.u8.ok (k:Nat) (x0 x1 x2:Ad) (K:KF α) :
  eC k qh.u8.c (za [(1, .ptr (some x0)), (2, .ptr (some x1)), (3, .ptr (some x2))]) K =
   qh.u8.f k x0 x1 x2 (fun y0=>K .ret (za [(2, .ptr (some y0))])):=
 by
  have h:=qh.u6.ok k x0 x1 x2 (seqK (fun ρ=>eC k qh.u7.c ρ K) K)
  simp only [zj, zn, zq, zp, qh.u7.ok] at h
  exact jd h
theorem qh.u9.ok (k:Nat) (x0 x1 x2:Sl) (K:KF α) :
  eC k qh.u9.c (za [(0, .agg [.slice x0, .slice x1, .slice x2])]) K =
   qh.u9.f k x0 x1 x2 (fun y0=>K .ret (za [(2, .ptr (some y0))])):=
 (qh.u1.ok k x0 x1 x2 qh.u8.c K).trans
  (congrArg (fun z=>qh.u1.f k x0 x1 x2 z) (funext fun y0=>(funext fun y1=>(funext fun y2=>qh.u8.ok k y0 y1 y2 K))))
theorem qh.ok (k:Nat) (x0 x1 x2:Sl) (κ:Res->M α) :
  evF T (env k) k qh.c qh.res [.agg [.slice x0, .slice x1, .slice x2]] κ = qh.f (k + 1) x0 x1 x2 (fun o0 o1 o2=>κ (.ret (.agg [.slice o0, .slice o1, .slice o2]))):=
 (qh.u9.ok k x0 x1 x2 (retK T qh.res κ)).trans (by kernel_rfl)
theorem qh.code:qh.c.code = jt Tryz.f14:=by kernel_rfl
noncomputable def qu.c:IC:=qu.u1.c
noncomputable def qu.res:List ResultVar:=[(.cell 2 36)]
theorem qu.u1.ok (k:Nat) (x0:Sl) (K:KF α) :
  eC k qu.u1.c (fr14 x0) K =
   qu.u1.f k x0 (fun y0=>K .ret (za [(2, .ptr (some y0))])):=by kernel_rfl
theorem qu.ok (k:Nat) (x0:Sl) (κ:Res->M α) :
  evF T (env k) k qu.c qu.res [.slice x0] κ = qu.f (k + 1) x0 (fun o0 o1 o2 o3=>κ (.ret (.agg [.int .u64 o0, .int .u64 o1, .int .u64 o2, .int .u64 o3]))):=
 (qu.u1.ok k x0 (retK T qu.res κ)).trans (by kernel_rfl)
theorem qu.code:qu.c.code = jt Tryz.f15:=by kernel_rfl
noncomputable def qaa.c:IC:=qaa.u1.c
noncomputable def qaa.res:List ResultVar:=[(.tmp 4)]
theorem qaa.u1.ok (k:Nat) (x0 x1:Int) (x2 x3:Int) (x4 x5:Int) (x6 x7:Int) (K:KF α) :
  eC k qaa.u1.c (za [(0, .agg [.int .u64 x0, .int .u64 x1, .int .u64 x2, .int .u64 x3]), (1, .agg [.int .u64 x4, .int .u64 x5, .int .u64 x6, .int .u64 x7])]) K =
   qaa.u1.f k x0 x1 x2 x3 x4 x5 x6 x7 (fun y0=>K .ret (fr15 y0)):=by kernel_rfl
theorem qaa.ok (k:Nat) (x0 x1:Int) (x2 x3:Int) (x4 x5:Int) (x6 x7:Int) (κ:Res->M α) :
  evF T (env k) k qaa.c qaa.res [.agg [.int .u64 x0, .int .u64 x1, .int .u64 x2, .int .u64 x3], .agg [.int .u64 x4, .int .u64 x5, .int .u64 x6, .int .u64 x7]] κ = qaa.f (k + 1) x0 x1 x2 x3 x4 x5 x6 x7 (fun o0=>κ (.ret (.bool o0))):=
 (qaa.u1.ok k x0 x1 x2 x3 x4 x5 x6 x7 (retK T qaa.res κ)).trans (by kernel_rfl)
theorem qaa.code:qaa.c.code = jt Tryz.f16:=by kernel_rfl
noncomputable def qv.c:IC:=qv.u1.c
noncomputable def qv.res:List ResultVar:=[(.tmp 4)]
theorem qv.u1.ok (k:Nat) (x0 x1 x2:Sl) (x3:Int) (K:KF α) :
  eC k qv.u1.c (za [(0, .agg [.slice x0, .slice x1, .slice x2]), (1, .int .i64 x3)]) K =
   qv.u1.f k x0 x1 x2 x3 (fun y0=>K .ret (fr15 y0)):=by kernel_rfl
theorem qv.ok (k:Nat) (x0 x1 x2:Sl) (x3:Int) (κ:Res->M α) :
  evF T (env k) k qv.c qv.res [.agg [.slice x0, .slice x1, .slice x2], .int .i64 x3] κ = qv.f (k + 1) x0 x1 x2 x3 (fun o0=>κ (.ret (.bool o0))):=
 (qv.u1.ok k x0 x1 x2 x3 (retK T qv.res κ)).trans (by kernel_rfl)
theorem qv.code:qv.c.code = jt Tryz.f4:=by kernel_rfl
end
end Go.Ab.S9
