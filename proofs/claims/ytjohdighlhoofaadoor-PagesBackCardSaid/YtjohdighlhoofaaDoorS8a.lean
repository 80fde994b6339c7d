import Derived.Test.YtjohdighlhoofaaDoorS8a0
import Derived.Test.YtjohdighlhoofaaDoorAb20
import Derived.Shelf.Strings.Builder1
import Derived.Test.YtjohdighlhoofaaDoorProg
import Derived.KernelRfl
import Derived.Lib.ItoaNum
set_option linter.unusedVariables false
set_option linter.unusedSimpArgs false
namespace Go.Ab.S8
section
variable {α:Type}
open Go.Proofs
noncomputable def qg.c:IC:=qg.u14.c
noncomputable def qg.res:List ResultVar:=[(.tmp 4)]
theorem qg.u1.ok (k:Nat) (x0 x1:Sl) (x2 x3:Sl) (R:IC) (K:KF α) :
  eC k (qg.u1.c R) (za [(0, .agg [.slice x0, .slice x1, .slice x2]), (1, .slice x3)]) K =
   qg.u1.f k x0 x1 x2 x3 (fun y0 y1 y2 y3 y4 y5 y6=>eC k R (za [(1, .slice y0), (2, .ptr (some y1)), (8, .str y2), (10, y3), (11, .bool y4), (12, .slice y5), (13, .int .i64 y6)]) K) (fun y0=>K .ret (fr32 y0)):=by kernel_rfl
theorem qg.u2.ok (k:Nat) (x0:Sl) (x1:Ad) (x2:TX) (x3:V) (x4:Bool) (x5:Sl) (x6:Int) (R:IC) (K:KF α) :
  eC k (qg.u2.c R) (za [(1, .slice x0), (2, .ptr (some x1)), (8, .str x2), (10, x3), (11, .bool x4), (12, .slice x5), (13, .int .i64 x6)]) K =
   qg.u2.f k x0 x1 x2 x3 x4 x5 x6 (fun y0 y1 y2 y3 y4 y5 y6 y7=>eC k R (za [(1, .slice y0), (2, .ptr (some y1)), (8, .str y2), (10, y3), (11, .bool y4), (12, .slice y5), (13, .int .i64 y6), (14, .int .i64 y7)]) K):=by kernel_rfl
theorem qg.u3.ok (k:Nat) (x0:Sl) (x1:Ad) (x2:TX) (x3:V) (x4:Bool) (x5:Sl) (x6 x7:Int) (R:IC) (K:KF α) :
  eC k (qg.u3.c R) (za [(1, .slice x0), (2, .ptr (some x1)), (8, .str x2), (10, x3), (11, .bool x4), (12, .slice x5), (13, .int .i64 x6), (14, .int .i64 x7)]) K =
   qg.u3.f k x0 x1 x2 x3 x4 x5 x6 x7 (fun y0 y1 y2 y3 y4 y5 y6 y7=>eC k R (za [(1, .slice y0), (2, .ptr (some y1)), (8, .str y2), (10, y3), (11, .bool y4), (12, .slice y5), (13, .int .i64 y6), (14, .int .i64 y7)]) K) (fun y0 y1 y2 y3=>K (.exit 0) (za [(2, .ptr (some y0)), (10, y1), (11, .bool y2), (12, .slice y3)])):=by kernel_rfl
theorem qg.u4.ok (k:Nat) (x0:Sl) (x1:Ad) (x2:TX) (x3:V) (x4:Bool) (x5:Sl) (x6 x7:Int) (K:KF α) :
  eC k qg.u4.c (za [(1, .slice x0), (2, .ptr (some x1)), (8, .str x2), (10, x3), (11, .bool x4), (12, .slice x5), (13, .int .i64 x6), (14, .int .i64 x7)]) K =
   qg.u4.f k x0 x1 x2 x3 x4 x5 x6 x7 (fun y0 y1 y2 y3 y4 y5 y6 y7=>K .normal (za [(1, .slice y0), (2, .ptr (some y1)), (8, .str y2), (10, y3), (11, .bool y4), (12, .slice y5), (13, .int .i64 y6), (14, .int .i64 y7)])):=by kernel_rfl
theorem qg.u5.ok (k:Nat) (x0:Sl) (x1:Ad) (x2:TX) (x3:V) (x4:Bool) (x5:Sl) (x6 x7:Int) (K:KF α) :
  eC k qg.u5.c (za [(1, .slice x0), (2, .ptr (some x1)), (8, .str x2), (10, x3), (11, .bool x4), (12, .slice x5), (13, .int .i64 x6), (14, .int .i64 x7)]) K =
   qg.u5.f k x0 x1 x2 x3 x4 x5 x6 x7 (fun y0 y1 y2 y3 y4 y5 y6 y7=>K .normal (za [(1, .slice y0), (2, .ptr (some y1)), (8, .str y2), (10, y3), (11, .bool y4), (12, .slice y5), (13, .int .i64 y6), (14, .int .i64 y7)])):=
 (zy.trans (qg.u4.ok k x0 x1 x2 x3 x4 x5 x6 x7 (yc 1 K))).trans (by kernel_rfl)
theorem qg.u6.ok (k:Nat) (x0:Sl) (x1:Ad) (x2:TX) (x3:V) (x4:Bool) (x5:Sl) (x6 x7:Int) (K:KF α) :
  eC k qg.u6.c (za [(1, .slice x0), (2, .ptr (some x1)), (8, .str x2), (10, x3), (11, .bool x4), (12, .slice x5), (13, .int .i64 x6), (14, .int .i64 x7)]) K =
   qg.u6.f k x0 x1 x2 x3 x4 x5 x6 x7 (fun y0 y1 y2 y3 y4 y5 y6 y7=>K .normal (za [(1, .slice y0), (2, .ptr (some y1)), (8, .str y2), (10, y3), (11, .bool y4), (12, .slice y5), (13, .int .i64 y6), (14, .int .i64 y7)])):=by kernel_rfl
theorem qg.u7.ok (k:Nat) (x0:Sl) (x1:Ad) (x2:TX) (x3:V) (x4:Bool) (x5:Sl) (x6 x7:Int) (K:KF α) :
  eC k qg.u7.c (za [(1, .slice x0), (2, .ptr (some x1)), (8, .str x2), (10, x3), (11, .bool x4), (12, .slice x5), (13, .int .i64 x6), (14, .int .i64 x7)]) K =
   qg.u7.f k x0 x1 x2 x3 x4 x5 x6 x7 (fun y0 y1 y2 y3 y4 y5 y6 y7=>K .normal (za [(1, .slice y0), (2, .ptr (some y1)), (8, .str y2), (10, y3), (11, .bool y4), (12, .slice y5), (13, .int .i64 y6), (14, .int .i64 y7)])):=
 by
  have h:=qg.u5.ok k x0 x1 x2 x3 x4 x5 x6 x7 (seqK (fun ρ=>eC k qg.u6.c ρ K) K)
  simp only [zg, zi, zn, zo, qg.u6.ok] at h
  exact jg h
theorem qg.u8.ok (k:Nat) (x0:Sl) (x1:Ad) (x2:TX) (x3:V) (x4:Bool) (x5:Sl) (x6 x7:Int) (K:KF α) :
  eC k qg.u8.c (za [(1, .slice x0), (2, .ptr (some x1)), (8, .str x2), (10, x3), (11, .bool x4), (12, .slice x5), (13, .int .i64 x6), (14, .int .i64 x7)]) K =
   qg.u8.f k x0 x1 x2 x3 x4 x5 x6 x7 (fun y0 y1 y2 y3 y4 y5 y6 y7=>K .normal (za [(1, .slice y0), (2, .ptr (some y1)), (8, .str y2), (10, y3), (11, .bool y4), (12, .slice y5), (13, .int .i64 y6), (14, .int .i64 y7)])) (fun y0 y1 y2 y3=>K (.exit 0) (za [(2, .ptr (some y0)), (10, y1), (11, .bool y2), (12, .slice y3)])):=
 (qg.u3.ok k x0 x1 x2 x3 x4 x5 x6 x7 qg.u7.c K).trans
  (congrArg (fun z=>qg.u3.f k x0 x1 x2 x3 x4 x5 x6 x7 z (fun y0 y1 y2 y3=>K (.exit 0) (za [(2, .ptr (some y0)), (10, y1), (11, .bool y2), (12, .slice y3)]))) (funext fun y0=>(funext fun y1=>(funext fun y2=>(funext fun y3=>(funext fun y4=>(funext fun y5=>(funext fun y6=>(funext fun y7=>qg.u7.ok k y0 y1 y2 y3 y4 y5 y6 y7 K)))))))))
theorem qg.u9.ls (k:Nat) (kx0:Ad->V->Bool->Sl->M α) (j:Nat) (x0:Sl) (x1:Ad) (x2:TX) (x3:V) (x4:Bool) (x5:Sl) (x6 x7:Int):qg.u9.l k kx0 (j + 1) x0 x1 x2 x3 x4 x5 x6 x7 =
 qg.u8.f k x0 x1 x2 x3 x4 x5 x6 x7 (fun y0 y1 y2 y3 y4 y5 y6 y7=>qg.u9.l k kx0 j y0 y1 y2 y3 y4 y5 y6 y7) kx0:=rfl
theorem qg.u9.okl (k:Nat) (K:KF α):∀ (j:Nat) (x0:Sl) (x1:Ad) (x2:TX) (x3:V) (x4:Bool) (x5:Sl) (x6 x7:Int),
  zw (eC k qg.u8.c) [1, 2, 8, 10, 11, 12, 13, 14] j (za [(1, .slice x0), (2, .ptr (some x1)), (8, .str x2), (10, x3), (11, .bool x4), (12, .slice x5), (13, .int .i64 x6), (14, .int .i64 x7)]) K = qg.u9.l k (fun y0 y1 y2 y3=>K (.exit 0) (za [(2, .ptr (some y0)), (10, y1), (11, .bool y2), (12, .slice y3)])) j x0 x1 x2 x3 x4 x5 x6 x7
 | 0, _, _, _, _, _, _, _, _=>rfl
 | j + 1, x0, x1, x2, x3, x4, x5, x6, x7=>by
   have h:=qg.u8.ok k x0 x1 x2 x3 x4 x5 x6 x7 (seqK (fun ρ=>zw (eC k qg.u8.c) [1, 2, 8, 10, 11, 12, 13, 14] j ρ K) K)
   simp only [zi, zn, zo, zg, qg.u9.okl k K j] at h
   exact (jb (by kernel_rfl) h).trans (qg.u9.ls k (fun y0 y1 y2 y3=>K (.exit 0) (za [(2, .ptr (some y0)), (10, y1), (11, .bool y2), (12, .slice y3)])) j x0 x1 x2 x3 x4 x5 x6 x7).symm
theorem qg.u9.ok (k:Nat) (x0:Sl) (x1:Ad) (x2:TX) (x3:V) (x4:Bool) (x5:Sl) (x6 x7:Int) (K:KF α) :
  eC k qg.u9.c (za [(1, .slice x0), (2, .ptr (some x1)), (8, .str x2), (10, x3), (11, .bool x4), (12, .slice x5), (13, .int .i64 x6), (14, .int .i64 x7)]) K =
   qg.u9.f k x0 x1 x2 x3 x4 x5 x6 x7 (fun y0 y1 y2 y3=>K (.exit 0) (za [(2, .ptr (some y0)), (10, y1), (11, .bool y2), (12, .slice y3)])):=
 ye.trans <| (ja (body:=eC k qg.u8.c) (keep:=[1, 2, 8, 10, 11, 12, 13, 14]) (ρ:=(za [(1, .slice x0), (2, .ptr (some x1)), (8, .str x2), (10, x3), (11, .bool x4), (12, .slice x5), (13, .int .i64 x6), (14, .int .i64 x7)])) (ρ':=(za [(1, .slice x0), (2, .ptr (some x1)), (8, .str x2), (10, x3), (11, .bool x4), (12, .slice x5), (13, .int .i64 x6), (14, .int .i64 x7)])) (by kernel_rfl) k K).trans (qg.u9.okl k K k x0 x1 x2 x3 x4 x5 x6 x7)
theorem qg.u10.ok (k:Nat) (x0:Sl) (x1:Ad) (x2:TX) (x3:V) (x4:Bool) (x5:Sl) (x6 x7:Int) (K:KF α) :
  eC k qg.u10.c (za [(1, .slice x0), (2, .ptr (some x1)), (8, .str x2), (10, x3), (11, .bool x4), (12, .slice x5), (13, .int .i64 x6), (14, .int .i64 x7)]) K =
   qg.u10.f k x0 x1 x2 x3 x4 x5 x6 x7 (fun y0 y1 y2 y3=>K .normal (za [(2, .ptr (some y0)), (10, y1), (11, .bool y2), (12, .slice y3)])):=
 (zy.trans (qg.u9.ok k x0 x1 x2 x3 x4 x5 x6 x7 (yc 0 K))).trans (by kernel_rfl)
theorem qg.u11.ok (k:Nat) (x0:Sl) (x1:Ad) (x2:TX) (x3:V) (x4:Bool) (x5:Sl) (x6:Int) (K:KF α) :
  eC k qg.u11.c (za [(1, .slice x0), (2, .ptr (some x1)), (8, .str x2), (10, x3), (11, .bool x4), (12, .slice x5), (13, .int .i64 x6)]) K =
   qg.u11.f k x0 x1 x2 x3 x4 x5 x6 (fun y0 y1 y2 y3=>K .normal (za [(2, .ptr (some y0)), (10, y1), (11, .bool y2), (12, .slice y3)])):=
 (qg.u2.ok k x0 x1 x2 x3 x4 x5 x6 qg.u10.c K).trans
  (congrArg (fun z=>qg.u2.f k x0 x1 x2 x3 x4 x5 x6 z) (funext fun y0=>(funext fun y1=>(funext fun y2=>(funext fun y3=>(funext fun y4=>(funext fun y5=>(funext fun y6=>(funext fun y7=>qg.u10.ok k y0 y1 y2 y3 y4 y5 y6 y7 K)))))))))
theorem qg.u12.ok (k:Nat) (x0:Ad) (x1:V) (x2:Bool) (x3:Sl) (K:KF α) :
  eC k qg.u12.c (za [(2, .ptr (some x0)), (10, x1), (11, .bool x2), (12, .slice x3)]) K =
   qg.u12.f k x0 x1 x2 x3 (fun y0=>K .ret (fr32 y0)):=by kernel_rfl
theorem qg.u13.ok (k:Nat) (x0:Sl) (x1:Ad) (x2:TX) (x3:V) (x4:Bool) (x5:Sl) (x6:Int) (K:KF α) :
  eC k qg.u13.c (za [(1, .slice x0), (2, .ptr (some x1)), (8, .str x2), (10, x3), (11, .bool x4), (12, .slice x5), (13, .int .i64 x6)]) K =
   qg.u13.f k x0 x1 x2 x3 x4 x5 x6 (fun y0=>K .ret (fr32 y0)):=
 by
  have h:=qg.u11.ok k x0 x1 x2 x3 x4 x5 x6 (seqK (fun ρ=>eC k qg.u12.c ρ K) K)
  simp only [zg, zi, zn, zo, qg.u12.ok] at h
  exact jg h
theorem qg.u14.ok (k:Nat) (x0 x1:Sl) (x2 x3:Sl) (K:KF α) :
  eC k qg.u14.c (za [(0, .agg [.slice x0, .slice x1, .slice x2]), (1, .slice x3)]) K =
   qg.u14.f k x0 x1 x2 x3 (fun y0=>K .ret (fr32 y0)):=
 (qg.u1.ok k x0 x1 x2 x3 qg.u13.c K).trans
  (congrArg (fun z=>qg.u1.f k x0 x1 x2 x3 z (fun y0=>K .ret (fr32 y0))) (funext fun y0=>(funext fun y1=>(funext fun y2=>(funext fun y3=>(funext fun y4=>(funext fun y5=>(funext fun y6=>qg.u13.ok k y0 y1 y2 y3 y4 y5 y6 K))))))))
theorem qg.ok (k:Nat) (x0 x1:Sl) (x2 x3:Sl) (κ:Res->M α) :
  evF T (env k) k qg.c qg.res [.agg [.slice x0, .slice x1, .slice x2], .slice x3] κ = qg.f (k + 1) x0 x1 x2 x3 (fun o0=>κ (.ret (.bool o0))):=
 (qg.u14.ok k x0 x1 x2 x3 (retK T qg.res κ)).trans (by kernel_rfl)
theorem qg.code:qg.c.code = js Tryd.f5:=by kernel_rfl
end
end Go.Ab.S8
