import Derived.Test.YtjohdighlhoofaaDoorS8a0
import Derived.Test.YtjohdighlhoofaaDoorAb20
import Derived.Shelf.Strings.Builder1
import Derived.Test.YtjohdighlhoofaaDoorProg
import Derived.KernelRfl
import Derived.Lib.ItoaNum
set_option linter.unusedVariables false
set_option linter.unusedSimpArgs false
namespace Go.Ab.S8
abbrev fr31 (x0 x1:Sl):zb:=za [(0, .slice x0), (1, .slice x1)]
abbrev fr32 (x0:Bool):zb:=za [(4, .bool x0)]
abbrev fr33 (x0 x1:Sl) (x2:Int):zb:=za [(0, .slice x0), (1, .slice x1), (5, .int .i64 x2)]
abbrev fr34 (x0:Bool):zb:=za [(2, .bool x0)]
abbrev fr35 (x0:Int) (x1:TX):zb:=za [(0, .int .i64 x0), (3, .str x1)]
abbrev fr36 (x0:TX):zb:=za [(3, .str x0)]
section
variable {α:Type}
open Go.Proofs
noncomputable def qq.c:IC:=qq.u9.c
noncomputable def qq.res:List ResultVar:=[(.cell 2 25)]
theorem qq.u1.ok (k:Nat) (x0 x1 x2:Sl) (R:IC) (K:KF α) :
  eC k (qq.u1.c R) (za [(0, .agg [.slice x0, .slice x1, .slice x2])]) K =
   qq.u1.f k x0 x1 x2 (fun y0 y1 y2=>eC k R (za [(1, .ptr (some y0)), (2, .ptr (some y1)), (3, .ptr (some y2))]) K):=by kernel_rfl
theorem qq.u2.ok (k:Nat) (x0 x1 x2:Ad) (R:IC) (K:KF α) :
  eC k (qq.u2.c R) (za [(1, .ptr (some x0)), (2, .ptr (some x1)), (3, .ptr (some x2))]) K =
   qq.u2.f k x0 x1 x2 (fun y0 y1 y2 y3=>eC k R (za [(1, .ptr (some y0)), (2, .ptr (some y1)), (3, .ptr (some y2)), (4, .int .i64 y3)]) K):=by kernel_rfl
theorem qq.u3.ok (k:Nat) (x0 x1 x2:Ad) (x3:Int) (K:KF α) :
  eC k qq.u3.c (za [(1, .ptr (some x0)), (2, .ptr (some x1)), (3, .ptr (some x2)), (4, .int .i64 x3)]) K =
   qq.u3.f k x0 x1 x2 x3 (fun y0 y1 y2 y3=>K .normal (za [(1, .ptr (some y0)), (2, .ptr (some y1)), (3, .ptr (some y2)), (4, .int .i64 y3)])) (fun y0 y1=>K (.exit 0) (za [(2, .ptr (some y0)), (3, .ptr (some y1))])):=by kernel_rfl
theorem qq.u4.ls (k:Nat) (kx0:Ad->Ad->M α) (j:Nat) (x0 x1 x2:Ad) (x3:Int):qq.u4.l k kx0 (j + 1) x0 x1 x2 x3 =
 qq.u3.f k x0 x1 x2 x3 (fun y0 y1 y2 y3=>qq.u4.l k kx0 j y0 y1 y2 y3) kx0:=rfl
theorem qq.u4.okl (k:Nat) (K:KF α):∀ (j:Nat) (x0 x1 x2:Ad) (x3:Int),
  zt (eC k qq.u3.c) [1, 2, 3, 4] j (za [(1, .ptr (some x0)), (2, .ptr (some x1)), (3, .ptr (some x2)), (4, .int .i64 x3)]) K = qq.u4.l k (fun y0 y1=>K (.exit 0) (za [(2, .ptr (some y0)), (3, .ptr (some y1))])) j x0 x1 x2 x3
 | 0, _, _, _, _=>rfl
 | j + 1, x0, x1, x2, x3=>by
   have h:=qq.u3.ok k x0 x1 x2 x3 (seqK (fun ρ=>zt (eC k qq.u3.c) [1, 2, 3, 4] j ρ K) K)
   simp only [zi, zk, zj, zg, qq.u4.okl k K j] at h
   exact (ja (by kernel_rfl) h).trans (qq.u4.ls k (fun y0 y1=>K (.exit 0) (za [(2, .ptr (some y0)), (3, .ptr (some y1))])) j x0 x1 x2 x3).symm
theorem qq.u4.ok (k:Nat) (x0 x1 x2:Ad) (x3:Int) (K:KF α) :
  eC k qq.u4.c (za [(1, .ptr (some x0)), (2, .ptr (some x1)), (3, .ptr (some x2)), (4, .int .i64 x3)]) K =
   qq.u4.f k x0 x1 x2 x3 (fun y0 y1=>K (.exit 0) (za [(2, .ptr (some y0)), (3, .ptr (some y1))])):=
 jq.trans <| (zz (body:=eC k qq.u3.c) (keep:=[1, 2, 3, 4]) (ρ:=(za [(1, .ptr (some x0)), (2, .ptr (some x1)), (3, .ptr (some x2)), (4, .int .i64 x3)])) (ρ':=(za [(1, .ptr (some x0)), (2, .ptr (some x1)), (3, .ptr (some x2)), (4, .int .i64 x3)])) (by kernel_rfl) k K).trans (qq.u4.okl k K k x0 x1 x2 x3)
theorem qq.u5.ok (k:Nat) (x0 x1 x2:Ad) (x3:Int) (K:KF α) :
  eC k qq.u5.c (za [(1, .ptr (some x0)), (2, .ptr (some x1)), (3, .ptr (some x2)), (4, .int .i64 x3)]) K =
   qq.u5.f k x0 x1 x2 x3 (fun y0 y1=>K .normal (za [(2, .ptr (some y0)), (3, .ptr (some y1))])):=
 (zy.trans (qq.u4.ok k x0 x1 x2 x3 (jo 0 K))).trans (by kernel_rfl)
theorem qq.u6.ok (k:Nat) (x0 x1 x2:Ad) (K:KF α) :
  eC k qq.u6.c (za [(1, .ptr (some x0)), (2, .ptr (some x1)), (3, .ptr (some x2))]) K =
   qq.u6.f k x0 x1 x2 (fun y0 y1=>K .normal (za [(2, .ptr (some y0)), (3, .ptr (some y1))])):=
 (qq.u2.ok k x0 x1 x2 qq.u5.c K).trans
  (congrArg (fun z=>qq.u2.f k x0 x1 x2 z) (funext fun y0=>(funext fun y1=>(funext fun y2=>(funext fun y3=>qq.u5.ok k y0 y1 y2 y3 K)))))
theorem qq.u7.ok (k:Nat) (x0 x1:Ad) (K:KF α) :
  eC k qq.u7.c (za [(2, .ptr (some x0)), (3, .ptr (some x1))]) K =
   qq.u7.f k x0 x1 (fun y0=>K .ret (za [(2, .ptr (some y0))])):=by kernel_rfl
theorem qq.u8.ok (k:Nat) (x0 x1 x2:Ad) (K:KF α) :
  eC k qq.u8.c (za [(1, .ptr (some x0)), (2, .ptr (some x1)), (3, .ptr (some x2))]) K =
   qq.u8.f k x0 x1 x2 (fun y0=>K .ret (za [(2, .ptr (some y0))])):=
 by
  have h:=qq.u6.ok k x0 x1 x2 (seqK (fun ρ=>eC k qq.u7.c ρ K) K)
  simp only [zg, zi, zk, zj, qq.u7.ok] at h
  exact jc h
theorem qq.u9.ok (k:Nat) (x0 x1 x2:Sl) (K:KF α) :
  eC k qq.u9.c (za [(0, .agg [.slice x0, .slice x1, .slice x2])]) K =
   qq.u9.f k x0 x1 x2 (fun y0=>K .ret (za [(2, .ptr (some y0))])):=
 (qq.u1.ok k x0 x1 x2 qq.u8.c K).trans
  (congrArg (fun z=>qq.u1.f k x0 x1 x2 z) (funext fun y0=>(funext fun y1=>(funext fun y2=>qq.u8.ok k y0 y1 y2 K))))
theorem qq.ok (k:Nat) (x0 x1 x2:Sl) (κ:Res->M α) :
  evF T (env k) k qq.c qq.res [.agg [.slice x0, .slice x1, .slice x2]] κ = qq.f (k + 1) x0 x1 x2 (fun o0 o1 o2=>κ (.ret (.agg [.slice o0, .slice o1, .slice o2]))):=
 (qq.u9.ok k x0 x1 x2 (retK T qq.res κ)).trans (by kernel_rfl)
theorem qq.code:qq.c.code = jm Tryd.f11:=by kernel_rfl
noncomputable def qr.c:IC:=qr.u9.c
noncomputable def qr.res:List ResultVar:=[(.tmp 4)]
theorem qr.u1.ok (k:Nat) (x0 x1:Sl) (R:IC) (K:KF α) :
  eC k (qr.u1.c R) (fr31 x0 x1) K =
   qr.u1.f k x0 x1 (fun y0 y1=>eC k R (fr31 y0 y1) K) (fun y0=>K .ret (fr32 y0)):=by kernel_rfl
theorem qr.u2.ok (k:Nat) (x0 x1:Sl) (R:IC) (K:KF α) :
  eC k (qr.u2.c R) (fr31 x0 x1) K =
   qr.u2.f k x0 x1 (fun y0 y1 y2=>eC k R (fr33 y0 y1 y2) K):=by kernel_rfl
theorem qr.u3.ok (k:Nat) (x0 x1:Sl) (x2:Int) (K:KF α) :
  eC k qr.u3.c (fr33 x0 x1 x2) K =
   qr.u3.f k x0 x1 x2 (fun y0 y1 y2=>K .normal (fr33 y0 y1 y2)) (fun y0=>K .ret (fr32 y0)) (K (.exit 0) (za [])):=by kernel_rfl
theorem qr.u4.ls (k:Nat) (kr:Bool->M α) (kx0:M α) (j:Nat) (x0 x1:Sl) (x2:Int):qr.u4.l k kr kx0 (j + 1) x0 x1 x2 =
 qr.u3.f k x0 x1 x2 (fun y0 y1 y2=>qr.u4.l k kr kx0 j y0 y1 y2) kr kx0:=rfl
theorem qr.u4.okl (k:Nat) (K:KF α):∀ (j:Nat) (x0 x1:Sl) (x2:Int),
  zt (eC k qr.u3.c) [0, 1, 5] j (fr33 x0 x1 x2) K = qr.u4.l k (fun y0=>K .ret (fr32 y0)) (K (.exit 0) (za [])) j x0 x1 x2
 | 0, _, _, _=>rfl
 | j + 1, x0, x1, x2=>by
   have h:=qr.u3.ok k x0 x1 x2 (seqK (fun ρ=>zt (eC k qr.u3.c) [0, 1, 5] j ρ K) K)
   simp only [zi, zk, zj, zg, qr.u4.okl k K j] at h
   exact (ja (by kernel_rfl) h).trans (qr.u4.ls k (fun y0=>K .ret (fr32 y0)) (K (.exit 0) (za [])) j x0 x1 x2).symm
theorem qr.u4.ok (k:Nat) (x0 x1:Sl) (x2:Int) (K:KF α) :
  eC k qr.u4.c (fr33 x0 x1 x2) K =
   qr.u4.f k x0 x1 x2 (fun y0=>K .ret (fr32 y0)) (K (.exit 0) (za [])):=
 jq.trans <| (zz (body:=eC k qr.u3.c) (keep:=[0, 1, 5]) (ρ:=(fr33 x0 x1 x2)) (ρ':=(fr33 x0 x1 x2)) (by kernel_rfl) k K).trans (qr.u4.okl k K k x0 x1 x2)
theorem qr.u5.ok (k:Nat) (x0 x1:Sl) (x2:Int) (K:KF α) :
  eC k qr.u5.c (fr33 x0 x1 x2) K =
   qr.u5.f k x0 x1 x2 (K .normal (za [])) (fun y0=>K .ret (fr32 y0)):=
 (zy.trans (qr.u4.ok k x0 x1 x2 (jo 0 K))).trans (by kernel_rfl)
theorem qr.u6.ok (k:Nat) (x0 x1:Sl) (K:KF α) :
  eC k qr.u6.c (fr31 x0 x1) K =
   qr.u6.f k x0 x1 (K .normal (za [])) (fun y0=>K .ret (fr32 y0)):=
 (qr.u2.ok k x0 x1 qr.u5.c K).trans
  (congrArg (fun z=>qr.u2.f k x0 x1 z) (funext fun y0=>(funext fun y1=>(funext fun y2=>qr.u5.ok k y0 y1 y2 K))))
theorem qr.u7.ok (k:Nat) (K:KF α) :
  eC k qr.u7.c (za []) K =
   qr.u7.f k (fun y0=>K .ret (fr32 y0)):=by kernel_rfl
theorem qr.u8.ok (k:Nat) (x0 x1:Sl) (K:KF α) :
  eC k qr.u8.c (fr31 x0 x1) K =
   qr.u8.f k x0 x1 (fun y0=>K .ret (fr32 y0)):=
 by
  have h:=qr.u6.ok k x0 x1 (seqK (fun ρ=>eC k qr.u7.c ρ K) K)
  simp only [zg, zi, zk, zj, qr.u7.ok] at h
  exact jc h
theorem qr.u9.ok (k:Nat) (x0 x1:Sl) (K:KF α) :
  eC k qr.u9.c (fr31 x0 x1) K =
   qr.u9.f k x0 x1 (fun y0=>K .ret (fr32 y0)):=
 (qr.u1.ok k x0 x1 qr.u8.c K).trans
  (congrArg (fun z=>qr.u1.f k x0 x1 z (fun y0=>K .ret (fr32 y0))) (funext fun y0=>(funext fun y1=>qr.u8.ok k y0 y1 K)))
theorem qr.ok (k:Nat) (x0 x1:Sl) (κ:Res->M α) :
  evF T (env k) k qr.c qr.res [.slice x0, .slice x1] κ = qr.f (k + 1) x0 x1 (fun o0=>κ (.ret (.bool o0))):=
 (qr.u9.ok k x0 x1 (retK T qr.res κ)).trans (by kernel_rfl)
theorem qr.code:qr.c.code = jm Tryd.f22:=by kernel_rfl
noncomputable def qs.c:IC:=qs.u9.c
noncomputable def qs.res:List ResultVar:=[(.tmp 4)]
theorem qs.u1.ok (k:Nat) (x0 x1:Sl) (x2 x3:Sl) (x4 x5:Sl) (R:IC) (K:KF α) :
  eC k (qs.u1.c R) (za [(0, .agg [.slice x0, .slice x1, .slice x2]), (1, .agg [.slice x3, .slice x4, .slice x5])]) K =
   qs.u1.f k x0 x1 x2 x3 x4 x5 (fun y0 y1=>eC k R (za [(2, .ptr (some y0)), (3, .ptr (some y1))]) K) (fun y0=>K .ret (fr32 y0)):=by kernel_rfl
theorem qs.u2.ok (k:Nat) (x0 x1:Ad) (R:IC) (K:KF α) :
  eC k (qs.u2.c R) (za [(2, .ptr (some x0)), (3, .ptr (some x1))]) K =
   qs.u2.f k x0 x1 (fun y0 y1 y2=>eC k R (za [(2, .ptr (some y0)), (3, .ptr (some y1)), (7, .int .i64 y2)]) K):=by kernel_rfl
theorem qs.u3.ok (k:Nat) (x0 x1:Ad) (x2:Int) (K:KF α) :
  eC k qs.u3.c (za [(2, .ptr (some x0)), (3, .ptr (some x1)), (7, .int .i64 x2)]) K =
   qs.u3.f k x0 x1 x2 (fun y0 y1 y2=>K .normal (za [(2, .ptr (some y0)), (3, .ptr (some y1)), (7, .int .i64 y2)])) (fun y0=>K .ret (fr32 y0)) (K (.exit 0) (za [])):=by kernel_rfl
theorem qs.u4.ls (k:Nat) (kr:Bool->M α) (kx0:M α) (j:Nat) (x0 x1:Ad) (x2:Int):qs.u4.l k kr kx0 (j + 1) x0 x1 x2 =
 qs.u3.f k x0 x1 x2 (fun y0 y1 y2=>qs.u4.l k kr kx0 j y0 y1 y2) kr kx0:=rfl
theorem qs.u4.okl (k:Nat) (K:KF α):∀ (j:Nat) (x0 x1:Ad) (x2:Int),
  zt (eC k qs.u3.c) [2, 3, 7] j (za [(2, .ptr (some x0)), (3, .ptr (some x1)), (7, .int .i64 x2)]) K = qs.u4.l k (fun y0=>K .ret (fr32 y0)) (K (.exit 0) (za [])) j x0 x1 x2
 | 0, _, _, _=>rfl
 | j + 1, x0, x1, x2=>by
   have h:=qs.u3.ok k x0 x1 x2 (seqK (fun ρ=>zt (eC k qs.u3.c) [2, 3, 7] j ρ K) K)
   simp only [zi, zk, zj, zg, qs.u4.okl k K j] at h
   exact (ja (by kernel_rfl) h).trans (qs.u4.ls k (fun y0=>K .ret (fr32 y0)) (K (.exit 0) (za [])) j x0 x1 x2).symm
theorem qs.u4.ok (k:Nat) (x0 x1:Ad) (x2:Int) (K:KF α) :
  eC k qs.u4.c (za [(2, .ptr (some x0)), (3, .ptr (some x1)), (7, .int .i64 x2)]) K =
   qs.u4.f k x0 x1 x2 (fun y0=>K .ret (fr32 y0)) (K (.exit 0) (za [])):=
 jq.trans <| (zz (body:=eC k qs.u3.c) (keep:=[2, 3, 7]) (ρ:=(za [(2, .ptr (some x0)), (3, .ptr (some x1)), (7, .int .i64 x2)])) (ρ':=(za [(2, .ptr (some x0)), (3, .ptr (some x1)), (7, .int .i64 x2)])) (by kernel_rfl) k K).trans (qs.u4.okl k K k x0 x1 x2)
theorem qs.u5.ok (k:Nat) (x0 x1:Ad) (x2:Int) (K:KF α) :
  eC k qs.u5.c (za [(2, .ptr (some x0)), (3, .ptr (some x1)), (7, .int .i64 x2)]) K =
   qs.u5.f k x0 x1 x2 (K .normal (za [])) (fun y0=>K .ret (fr32 y0)):=
 (zy.trans (qs.u4.ok k x0 x1 x2 (jo 0 K))).trans (by kernel_rfl)
theorem qs.u6.ok (k:Nat) (x0 x1:Ad) (K:KF α) :
  eC k qs.u6.c (za [(2, .ptr (some x0)), (3, .ptr (some x1))]) K =
   qs.u6.f k x0 x1 (K .normal (za [])) (fun y0=>K .ret (fr32 y0)):=
 (qs.u2.ok k x0 x1 qs.u5.c K).trans
  (congrArg (fun z=>qs.u2.f k x0 x1 z) (funext fun y0=>(funext fun y1=>(funext fun y2=>qs.u5.ok k y0 y1 y2 K))))
theorem qs.u7.ok (k:Nat) (K:KF α) :
  eC k qs.u7.c (za []) K =
   qs.u7.f k (fun y0=>K .ret (fr32 y0)):=by kernel_rfl
theorem qs.u8.ok (k:Nat) (x0 x1:Ad) (K:KF α) :
  eC k qs.u8.c (za [(2, .ptr (some x0)), (3, .ptr (some x1))]) K =
   qs.u8.f k x0 x1 (fun y0=>K .ret (fr32 y0)):=
 by
  have h:=qs.u6.ok k x0 x1 (seqK (fun ρ=>eC k qs.u7.c ρ K) K)
  simp only [zg, zi, zk, zj, qs.u7.ok] at h
  exact jc h
theorem qs.u9.ok (k:Nat) (x0 x1:Sl) (x2 x3:Sl) (x4 x5:Sl) (K:KF α) :
  eC k qs.u9.c (za [(0, .agg [.slice x0, .slice x1, .slice x2]), (1, .agg [.slice x3, .slice x4, .slice x5])]) K =
   qs.u9.f k x0 x1 x2 x3 x4 x5 (fun y0=>K .ret (fr32 y0)):=
 (qs.u1.ok k x0 x1 x2 x3 x4 x5 qs.u8.c K).trans
  (congrArg (fun z=>qs.u1.f k x0 x1 x2 x3 x4 x5 z (fun y0=>K .ret (fr32 y0))) (funext fun y0=>(funext fun y1=>qs.u8.ok k y0 y1 K)))
theorem qs.ok (k:Nat) (x0 x1:Sl) (x2 x3:Sl) (x4 x5:Sl) (κ:Res->M α) :
  evF T (env k) k qs.c qs.res [.agg [.slice x0, .slice x1, .slice x2], .agg [.slice x3, .slice x4, .slice x5]] κ = qs.f (k + 1) x0 x1 x2 x3 x4 x5 (fun o0=>κ (.ret (.bool o0))):=
 (qs.u9.ok k x0 x1 x2 x3 x4 x5 (retK T qs.res κ)).trans (by kernel_rfl)
theorem qs.code:qs.c.code = jm Tryd.f13:=by kernel_rfl
noncomputable def qf.c:IC:=qf.u20.c
noncomputable def qf.res:List ResultVar:=[(.tmp 2), (.tmp 3)]
theorem qf.u1.ok (k:Nat) (x0 x1 x2:Sl) (R:IC) (K:KF α) :
  eC k (qf.u1.c R) (za [(0, .agg [.slice x0, .slice x1, .slice x2])]) K =
   qf.u1.f k x0 x1 x2 (fun y0 y1=>eC k R (za [(1, .ptr (some y0)), (4, .int .i64 y1)]) K) (fun y0 y1=>K .ret (fr21 y0 y1)):=by kernel_rfl
theorem qf.u2.ok (k:Nat) (x0:Ad) (x1:Int) (R:IC) (K:KF α) :
  eC k (qf.u2.c R) (za [(1, .ptr (some x0)), (4, .int .i64 x1)]) K =
   qf.u2.f k x0 x1 (fun y0 y1 y2=>eC k R (za [(1, .ptr (some y0)), (4, .int .i64 y1), (5, .int .i64 y2)]) K):=by kernel_rfl
theorem qf.u3.ok (k:Nat) (x0:Ad) (x1 x2:Int) (R:IC) (K:KF α) :
  eC k (qf.u3.c R) (za [(1, .ptr (some x0)), (4, .int .i64 x1), (5, .int .i64 x2)]) K =
   qf.u3.f k x0 x1 x2 (fun y0 y1 y2=>eC k R (za [(1, .ptr (some y0)), (4, .int .i64 y1), (5, .int .i64 y2)]) K) (K (.exit 0) (za [])):=by kernel_rfl
theorem qf.u4.ok (k:Nat) (x0:Ad) (x1 x2:Int) (R:IC) (K:KF α) :
  eC k (qf.u4.c R) (za [(1, .ptr (some x0)), (4, .int .i64 x1), (5, .int .i64 x2)]) K =
   qf.u4.f k x0 x1 x2 (fun y0 y1 y2=>eC k R (za [(1, .ptr (some y0)), (4, .int .i64 y1), (5, .int .i64 y2)]) K) (fun y0 y1=>K .ret (fr21 y0 y1)):=by kernel_rfl
theorem qf.u5.ok (k:Nat) (x0:Ad) (x1 x2:Int) (R:IC) (K:KF α) :
  eC k (qf.u5.c R) (za [(1, .ptr (some x0)), (4, .int .i64 x1), (5, .int .i64 x2)]) K =
   qf.u5.f k x0 x1 x2 (fun y0 y1 y2 y3 y4=>eC k R (za [(1, .ptr (some y0)), (4, .int .i64 y1), (5, .int .i64 y2), (6, .int .i64 y3), (7, .int .i64 y4)]) K) (fun y0 y1=>K .ret (fr21 y0 y1)):=by kernel_rfl
theorem qf.u6.ok (k:Nat) (x0:Ad) (x1 x2:Int) (x3 x4:Int) (K:KF α) :
  eC k qf.u6.c (za [(1, .ptr (some x0)), (4, .int .i64 x1), (5, .int .i64 x2), (6, .int .i64 x3), (7, .int .i64 x4)]) K =
   qf.u6.f k x0 x1 x2 x3 x4 (fun y0 y1 y2 y3 y4=>K .normal (za [(1, .ptr (some y0)), (4, .int .i64 y1), (5, .int .i64 y2), (6, .int .i64 y3), (7, .int .i64 y4)])) (fun y0 y1=>K .ret (fr21 y0 y1)) (fun y0 y1 y2=>K (.exit 2) (za [(1, .ptr (some y0)), (4, .int .i64 y1), (5, .int .i64 y2)])):=by kernel_rfl
theorem qf.u7.ls (k:Nat) (kr:Int->Int->M α) (kx2:Ad->Int->Int->M α) (j:Nat) (x0:Ad) (x1 x2:Int) (x3 x4:Int):qf.u7.l k kr kx2 (j + 1) x0 x1 x2 x3 x4 =
 qf.u6.f k x0 x1 x2 x3 x4 (fun y0 y1 y2 y3 y4=>qf.u7.l k kr kx2 j y0 y1 y2 y3 y4) kr kx2:=rfl
theorem qf.u7.okl (k:Nat) (K:KF α):∀ (j:Nat) (x0:Ad) (x1 x2:Int) (x3 x4:Int),
  zt (eC k qf.u6.c) [1, 4, 5, 6, 7] j (za [(1, .ptr (some x0)), (4, .int .i64 x1), (5, .int .i64 x2), (6, .int .i64 x3), (7, .int .i64 x4)]) K = qf.u7.l k (fun y0 y1=>K .ret (fr21 y0 y1)) (fun y0 y1 y2=>K (.exit 2) (za [(1, .ptr (some y0)), (4, .int .i64 y1), (5, .int .i64 y2)])) j x0 x1 x2 x3 x4
 | 0, _, _, _, _, _=>rfl
 | j + 1, x0, x1, x2, x3, x4=>by
   have h:=qf.u6.ok k x0 x1 x2 x3 x4 (seqK (fun ρ=>zt (eC k qf.u6.c) [1, 4, 5, 6, 7] j ρ K) K)
   simp only [zi, zk, zj, zg, qf.u7.okl k K j] at h
   exact (ja (by kernel_rfl) h).trans (qf.u7.ls k (fun y0 y1=>K .ret (fr21 y0 y1)) (fun y0 y1 y2=>K (.exit 2) (za [(1, .ptr (some y0)), (4, .int .i64 y1), (5, .int .i64 y2)])) j x0 x1 x2 x3 x4).symm
theorem qf.u7.ok (k:Nat) (x0:Ad) (x1 x2:Int) (x3 x4:Int) (K:KF α) :
  eC k qf.u7.c (za [(1, .ptr (some x0)), (4, .int .i64 x1), (5, .int .i64 x2), (6, .int .i64 x3), (7, .int .i64 x4)]) K =
   qf.u7.f k x0 x1 x2 x3 x4 (fun y0 y1=>K .ret (fr21 y0 y1)) (fun y0 y1 y2=>K (.exit 2) (za [(1, .ptr (some y0)), (4, .int .i64 y1), (5, .int .i64 y2)])):=
 jq.trans <| (zz (body:=eC k qf.u6.c) (keep:=[1, 4, 5, 6, 7]) (ρ:=(za [(1, .ptr (some x0)), (4, .int .i64 x1), (5, .int .i64 x2), (6, .int .i64 x3), (7, .int .i64 x4)])) (ρ':=(za [(1, .ptr (some x0)), (4, .int .i64 x1), (5, .int .i64 x2), (6, .int .i64 x3), (7, .int .i64 x4)])) (by kernel_rfl) k K).trans (qf.u7.okl k K k x0 x1 x2 x3 x4)
theorem qf.u8.ok (k:Nat) (x0:Ad) (x1 x2:Int) (x3 x4:Int) (K:KF α) :
  eC k qf.u8.c (za [(1, .ptr (some x0)), (4, .int .i64 x1), (5, .int .i64 x2), (6, .int .i64 x3), (7, .int .i64 x4)]) K =
   qf.u8.f k x0 x1 x2 x3 x4 (fun y0 y1 y2=>K .normal (za [(1, .ptr (some y0)), (4, .int .i64 y1), (5, .int .i64 y2)])) (fun y0 y1=>K .ret (fr21 y0 y1)):=
 (zy.trans (qf.u7.ok k x0 x1 x2 x3 x4 (jo 2 K))).trans (by kernel_rfl)
theorem qf.u9.ok (k:Nat) (x0:Ad) (x1 x2:Int) (K:KF α) :
  eC k qf.u9.c (za [(1, .ptr (some x0)), (4, .int .i64 x1), (5, .int .i64 x2)]) K =
   qf.u9.f k x0 x1 x2 (fun y0 y1 y2=>K .normal (za [(1, .ptr (some y0)), (4, .int .i64 y1), (5, .int .i64 y2)])) (fun y0 y1=>K .ret (fr21 y0 y1)):=
 (qf.u5.ok k x0 x1 x2 qf.u8.c K).trans
  (congrArg (fun z=>qf.u5.f k x0 x1 x2 z (fun y0 y1=>K .ret (fr21 y0 y1))) (funext fun y0=>(funext fun y1=>(funext fun y2=>(funext fun y3=>(funext fun y4=>qf.u8.ok k y0 y1 y2 y3 y4 K))))))
theorem qf.u10.ok (k:Nat) (x0:Ad) (x1 x2:Int) (K:KF α) :
  eC k qf.u10.c (za [(1, .ptr (some x0)), (4, .int .i64 x1), (5, .int .i64 x2)]) K =
   qf.u10.f k x0 x1 x2 (fun y0 y1 y2=>K .normal (za [(1, .ptr (some y0)), (4, .int .i64 y1), (5, .int .i64 y2)])) (fun y0 y1=>K .ret (fr21 y0 y1)):=
 (qf.u4.ok k x0 x1 x2 qf.u9.c K).trans
  (congrArg (fun z=>qf.u4.f k x0 x1 x2 z (fun y0 y1=>K .ret (fr21 y0 y1))) (funext fun y0=>(funext fun y1=>(funext fun y2=>qf.u9.ok k y0 y1 y2 K))))
theorem qf.u11.ok (k:Nat) (x0:Ad) (x1 x2:Int) (K:KF α) :
  eC k qf.u11.c (za [(1, .ptr (some x0)), (4, .int .i64 x1), (5, .int .i64 x2)]) K =
   qf.u11.f k x0 x1 x2 (fun y0 y1 y2=>K .normal (za [(1, .ptr (some y0)), (4, .int .i64 y1), (5, .int .i64 y2)])) (fun y0 y1=>K .ret (fr21 y0 y1)):=
 (zy.trans (qf.u10.ok k x0 x1 x2 (jo 1 K))).trans (by kernel_rfl)
theorem qf.u12.ok (k:Nat) (x0:Ad) (x1 x2:Int) (K:KF α) :
  eC k qf.u12.c (za [(1, .ptr (some x0)), (4, .int .i64 x1), (5, .int .i64 x2)]) K =
   qf.u12.f k x0 x1 x2 (fun y0 y1 y2=>K .normal (za [(1, .ptr (some y0)), (4, .int .i64 y1), (5, .int .i64 y2)])):=by kernel_rfl
theorem qf.u13.ok (k:Nat) (x0:Ad) (x1 x2:Int) (K:KF α) :
  eC k qf.u13.c (za [(1, .ptr (some x0)), (4, .int .i64 x1), (5, .int .i64 x2)]) K =
   qf.u13.f k x0 x1 x2 (fun y0 y1 y2=>K .normal (za [(1, .ptr (some y0)), (4, .int .i64 y1), (5, .int .i64 y2)])) (fun y0 y1=>K .ret (fr21 y0 y1)):=
 by
  have h:=qf.u11.ok k x0 x1 x2 (seqK (fun ρ=>eC k qf.u12.c ρ K) K)
  simp only [zg, zi, zk, zj, qf.u12.ok] at h
  exact jc h
theorem qf.u14.ok (k:Nat) (x0:Ad) (x1 x2:Int) (K:KF α) :
  eC k qf.u14.c (za [(1, .ptr (some x0)), (4, .int .i64 x1), (5, .int .i64 x2)]) K =
   qf.u14.f k x0 x1 x2 (fun y0 y1 y2=>K .normal (za [(1, .ptr (some y0)), (4, .int .i64 y1), (5, .int .i64 y2)])) (fun y0 y1=>K .ret (fr21 y0 y1)) (K (.exit 0) (za [])):=
 (qf.u3.ok k x0 x1 x2 qf.u13.c K).trans
  (congrArg (fun z=>qf.u3.f k x0 x1 x2 z (K (.exit 0) (za []))) (funext fun y0=>(funext fun y1=>(funext fun y2=>qf.u13.ok k y0 y1 y2 K))))
theorem qf.u15.ls (k:Nat) (kr:Int->Int->M α) (kx0:M α) (j:Nat) (x0:Ad) (x1 x2:Int):qf.u15.l k kr kx0 (j + 1) x0 x1 x2 =
 qf.u14.f k x0 x1 x2 (fun y0 y1 y2=>qf.u15.l k kr kx0 j y0 y1 y2) kr kx0:=rfl
theorem qf.u15.okl (k:Nat) (K:KF α):∀ (j:Nat) (x0:Ad) (x1 x2:Int),
  zt (eC k qf.u14.c) [1, 4, 5] j (za [(1, .ptr (some x0)), (4, .int .i64 x1), (5, .int .i64 x2)]) K = qf.u15.l k (fun y0 y1=>K .ret (fr21 y0 y1)) (K (.exit 0) (za [])) j x0 x1 x2
 | 0, _, _, _=>rfl
 | j + 1, x0, x1, x2=>by
   have h:=qf.u14.ok k x0 x1 x2 (seqK (fun ρ=>zt (eC k qf.u14.c) [1, 4, 5] j ρ K) K)
   simp only [zi, zk, zj, zg, qf.u15.okl k K j] at h
   exact (ja (by kernel_rfl) h).trans (qf.u15.ls k (fun y0 y1=>K .ret (fr21 y0 y1)) (K (.exit 0) (za [])) j x0 x1 x2).symm
theorem qf.u15.ok (k:Nat) (x0:Ad) (x1 x2:Int) (K:KF α) :
  eC k qf.u15.c (za [(1, .ptr (some x0)), (4, .int .i64 x1), (5, .int .i64 x2)]) K =
   qf.u15.f k x0 x1 x2 (fun y0 y1=>K .ret (fr21 y0 y1)) (K (.exit 0) (za [])):=
 jq.trans <| (zz (body:=eC k qf.u14.c) (keep:=[1, 4, 5]) (ρ:=(za [(1, .ptr (some x0)), (4, .int .i64 x1), (5, .int .i64 x2)])) (ρ':=(za [(1, .ptr (some x0)), (4, .int .i64 x1), (5, .int .i64 x2)])) (by kernel_rfl) k K).trans (qf.u15.okl k K k x0 x1 x2)
theorem qf.u16.ok (k:Nat) (x0:Ad) (x1 x2:Int) (K:KF α) :
  eC k qf.u16.c (za [(1, .ptr (some x0)), (4, .int .i64 x1), (5, .int .i64 x2)]) K =
   qf.u16.f k x0 x1 x2 (K .normal (za [])) (fun y0 y1=>K .ret (fr21 y0 y1)):=
 (zy.trans (qf.u15.ok k x0 x1 x2 (jo 0 K))).trans (by kernel_rfl)
theorem qf.u17.ok (k:Nat) (x0:Ad) (x1:Int) (K:KF α) :
  eC k qf.u17.c (za [(1, .ptr (some x0)), (4, .int .i64 x1)]) K =
   qf.u17.f k x0 x1 (K .normal (za [])) (fun y0 y1=>K .ret (fr21 y0 y1)):=
 (qf.u2.ok k x0 x1 qf.u16.c K).trans
  (congrArg (fun z=>qf.u2.f k x0 x1 z) (funext fun y0=>(funext fun y1=>(funext fun y2=>qf.u16.ok k y0 y1 y2 K))))
theorem qf.u18.ok (k:Nat) (K:KF α) :
  eC k qf.u18.c (za []) K =
   qf.u18.f k (fun y0 y1=>K .ret (fr21 y0 y1)):=by kernel_rfl
theorem qf.u19.ok (k:Nat) (x0:Ad) (x1:Int) (K:KF α) :
  eC k qf.u19.c (za [(1, .ptr (some x0)), (4, .int .i64 x1)]) K =
   qf.u19.f k x0 x1 (fun y0 y1=>K .ret (fr21 y0 y1)):=
 by
  have h:=qf.u17.ok k x0 x1 (seqK (fun ρ=>eC k qf.u18.c ρ K) K)
  simp only [zg, zi, zk, zj, qf.u18.ok] at h
  exact jc h
theorem qf.u20.ok (k:Nat) (x0 x1 x2:Sl) (K:KF α) :
  eC k qf.u20.c (za [(0, .agg [.slice x0, .slice x1, .slice x2])]) K =
   qf.u20.f k x0 x1 x2 (fun y0 y1=>K .ret (fr21 y0 y1)):=
 (qf.u1.ok k x0 x1 x2 qf.u19.c K).trans
  (congrArg (fun z=>qf.u1.f k x0 x1 x2 z (fun y0 y1=>K .ret (fr21 y0 y1))) (funext fun y0=>(funext fun y1=>qf.u19.ok k y0 y1 K)))
theorem qf.ok (k:Nat) (x0 x1 x2:Sl) (κ:Res->M α) :
  evF T (env k) k qf.c qf.res [.agg [.slice x0, .slice x1, .slice x2]] κ = qf.f (k + 1) x0 x1 x2 (fun o0 o1=>κ (.ret (.tuple [.int .i64 o0, .int .i64 o1]))):=
 (qf.u20.ok k x0 x1 x2 (retK T qf.res κ)).trans (by kernel_rfl)
theorem qf.code:qf.c.code = jm Tryd.f39:=by kernel_rfl
noncomputable def qac.c:IC:=qac.u1.c
noncomputable def qac.res:List ResultVar:=[(.tmp 2)]
theorem qac.u1.ok (k:Nat) (x0 x1 x2:Sl) (K:KF α) :
  eC k qac.u1.c (za [(0, .agg [.slice x0, .slice x1, .slice x2])]) K =
   qac.u1.f k x0 x1 x2 (fun y0=>K .ret (fr34 y0)):=by kernel_rfl
theorem qac.ok (k:Nat) (x0 x1 x2:Sl) (κ:Res->M α) :
  evF T (env k) k qac.c qac.res [.agg [.slice x0, .slice x1, .slice x2]] κ = qac.f (k + 1) x0 x1 x2 (fun o0=>κ (.ret (.bool o0))):=
 (qac.u1.ok k x0 x1 x2 (retK T qac.res κ)).trans (by kernel_rfl)
theorem qac.code:qac.c.code = jm Tryd.f23:=by kernel_rfl
noncomputable def qp.c:IC:=qp.u9.c
noncomputable def qp.res:List ResultVar:=[(.tmp 2)]
theorem qp.u1.ok (k:Nat) (x0:Int) (R:IC) (K:KF α) :
  eC k (qp.u1.c R) (fr22 x0) K =
   qp.u1.f k x0 (fun y0 y1=>eC k R (fr35 y0 y1) K):=by kernel_rfl
theorem qp.u2.ok (k:Nat) (x0:Int) (x1:TX) (R:IC) (K:KF α) :
  eC k (qp.u2.c R) (fr35 x0 x1) K =
   qp.u2.f k x0 x1 (fun y0 y1=>eC k R (fr35 y0 y1) K):=by kernel_rfl
theorem qp.u3.ok (k:Nat) (x0:Int) (x1:TX) (K:KF α) :
  eC k qp.u3.c (fr35 x0 x1) K =
   qp.u3.f k x0 x1 (fun y0 y1=>K .normal (fr35 y0 y1)) (fun y0=>K (.exit 0) (fr36 y0)):=by kernel_rfl
theorem qp.u4.ls (k:Nat) (kx0:TX->M α) (j:Nat) (x0:Int) (x1:TX):qp.u4.l k kx0 (j + 1) x0 x1 =
 qp.u3.f k x0 x1 (fun y0 y1=>qp.u4.l k kx0 j y0 y1) kx0:=rfl
theorem qp.u4.okl (k:Nat) (K:KF α):∀ (j:Nat) (x0:Int) (x1:TX),
  zt (eC k qp.u3.c) [0, 3] j (fr35 x0 x1) K = qp.u4.l k (fun y0=>K (.exit 0) (fr36 y0)) j x0 x1
 | 0, _, _=>rfl
 | j + 1, x0, x1=>by
   have h:=qp.u3.ok k x0 x1 (seqK (fun ρ=>zt (eC k qp.u3.c) [0, 3] j ρ K) K)
   simp only [zi, zk, zj, zg, qp.u4.okl k K j] at h
   exact (ja (by kernel_rfl) h).trans (qp.u4.ls k (fun y0=>K (.exit 0) (fr36 y0)) j x0 x1).symm
theorem qp.u4.ok (k:Nat) (x0:Int) (x1:TX) (K:KF α) :
  eC k qp.u4.c (fr35 x0 x1) K =
   qp.u4.f k x0 x1 (fun y0=>K (.exit 0) (fr36 y0)):=
 jq.trans <| (zz (body:=eC k qp.u3.c) (keep:=[0, 3]) (ρ:=(fr35 x0 x1)) (ρ':=(fr35 x0 x1)) (by kernel_rfl) k K).trans (qp.u4.okl k K k x0 x1)
theorem qp.u5.ok (k:Nat) (x0:Int) (x1:TX) (K:KF α) :
  eC k qp.u5.c (fr35 x0 x1) K =
   qp.u5.f k x0 x1 (fun y0=>K .normal (fr36 y0)):=
 (zy.trans (qp.u4.ok k x0 x1 (jo 0 K))).trans (by kernel_rfl)
theorem qp.u6.ok (k:Nat) (x0:Int) (x1:TX) (K:KF α) :
  eC k qp.u6.c (fr35 x0 x1) K =
   qp.u6.f k x0 x1 (fun y0=>K .normal (fr36 y0)):=
 (qp.u2.ok k x0 x1 qp.u5.c K).trans
  (congrArg (fun z=>qp.u2.f k x0 x1 z) (funext fun y0=>(funext fun y1=>qp.u5.ok k y0 y1 K)))
theorem qp.u7.ok (k:Nat) (x0:TX) (K:KF α) :
  eC k qp.u7.c (fr36 x0) K =
   qp.u7.f k x0 (fun y0=>K .ret (fr23 y0)):=by kernel_rfl
theorem qp.u8.ok (k:Nat) (x0:Int) (x1:TX) (K:KF α) :
  eC k qp.u8.c (fr35 x0 x1) K =
   qp.u8.f k x0 x1 (fun y0=>K .ret (fr23 y0)):=
 by
  have h:=qp.u6.ok k x0 x1 (seqK (fun ρ=>eC k qp.u7.c ρ K) K)
  simp only [zg, zi, zk, zj, qp.u7.ok] at h
  exact jc h
theorem qp.u9.ok (k:Nat) (x0:Int) (K:KF α) :
  eC k qp.u9.c (fr22 x0) K =
   qp.u9.f k x0 (fun y0=>K .ret (fr23 y0)):=
 (qp.u1.ok k x0 qp.u8.c K).trans
  (congrArg (fun z=>qp.u1.f k x0 z) (funext fun y0=>(funext fun y1=>qp.u8.ok k y0 y1 K)))
theorem qp.ok (k:Nat) (x0:Int) (κ:Res->M α) :
  evF T (env k) k qp.c qp.res [.int .i64 x0] κ = qp.f (k + 1) x0 (fun o0=>κ (.ret (.str o0))):=
 (qp.u9.ok k x0 (retK T qp.res κ)).trans (by kernel_rfl)
theorem qp.code:qp.c.code = jm Tryd.f24:=by kernel_rfl
noncomputable def qd.c:IC:=qd.u22.c
noncomputable def qd.res:List ResultVar:=[(.tmp 2)]
theorem qd.u1.ok (k:Nat) (x0 x1 x2:Sl) (R:IC) (K:KF α) :
  eC k (qd.u1.c R) (za [(0, .agg [.slice x0, .slice x1, .slice x2])]) K =
   qd.u1.f k x0 x1 x2 (fun y0 y1=>eC k R (za [(1, .ptr (some y0)), (4, .slice y1)]) K) (fun y0=>K .ret (fr23 y0)):=by kernel_rfl
theorem qd.u2.ok (k:Nat) (x0:Ad) (x1:Sl) (R:IC) (K:KF α) :
  eC k (qd.u2.c R) (za [(1, .ptr (some x0)), (4, .slice x1)]) K =
   qd.u2.f k x0 x1 (fun y0 y1 y2=>eC k R (za [(1, .ptr (some y0)), (4, .slice y1), (5, .int .i64 y2)]) K):=by kernel_rfl
theorem qd.u3.ok (k:Nat) (x0:Ad) (x1:Sl) (x2:Int) (R:IC) (K:KF α) :
  eC k (qd.u3.c R) (za [(1, .ptr (some x0)), (4, .slice x1), (5, .int .i64 x2)]) K =
   qd.u3.f k x0 x1 x2 (fun y0 y1 y2=>eC k R (za [(1, .ptr (some y0)), (4, .slice y1), (5, .int .i64 y2)]) K) (fun y0=>K (.exit 0) (fr20 y0)):=by kernel_rfl
theorem qd.u4.ok (k:Nat) (x0:Ad) (x1:Sl) (x2:Int) (R:IC) (K:KF α) :
  eC k (qd.u4.c R) (za [(1, .ptr (some x0)), (4, .slice x1), (5, .int .i64 x2)]) K =
   qd.u4.f k x0 x1 x2 (fun y0 y1 y2=>eC k R (za [(1, .ptr (some y0)), (4, .slice y1), (5, .int .i64 y2)]) K):=by kernel_rfl
theorem qd.u5.ok (k:Nat) (x0:Ad) (x1:Sl) (x2:Int) (R:IC) (K:KF α) :
  eC k (qd.u5.c R) (za [(1, .ptr (some x0)), (4, .slice x1), (5, .int .i64 x2)]) K =
   qd.u5.f k x0 x1 x2 (fun y0 y1 y2 y3=>eC k R (za [(1, .ptr (some y0)), (4, .slice y1), (5, .int .i64 y2), (6, .int .i64 y3)]) K):=by kernel_rfl
theorem qd.u6.ok (k:Nat) (x0:Ad) (x1:Sl) (x2 x3:Int) (K:KF α) :
  eC k qd.u6.c (za [(1, .ptr (some x0)), (4, .slice x1), (5, .int .i64 x2), (6, .int .i64 x3)]) K =
   qd.u6.f k x0 x1 x2 x3 (fun y0 y1 y2 y3=>K .normal (za [(1, .ptr (some y0)), (4, .slice y1), (5, .int .i64 y2), (6, .int .i64 y3)])) (fun y0 y1 y2=>K (.exit 2) (za [(1, .ptr (some y0)), (4, .slice y1), (5, .int .i64 y2)])):=by kernel_rfl
theorem qd.u7.ls (k:Nat) (kx2:Ad->Sl->Int->M α) (j:Nat) (x0:Ad) (x1:Sl) (x2 x3:Int):qd.u7.l k kx2 (j + 1) x0 x1 x2 x3 =
 qd.u6.f k x0 x1 x2 x3 (fun y0 y1 y2 y3=>qd.u7.l k kx2 j y0 y1 y2 y3) kx2:=rfl
theorem qd.u7.okl (k:Nat) (K:KF α):∀ (j:Nat) (x0:Ad) (x1:Sl) (x2 x3:Int),
  zt (eC k qd.u6.c) [1, 4, 5, 6] j (za [(1, .ptr (some x0)), (4, .slice x1), (5, .int .i64 x2), (6, .int .i64 x3)]) K = qd.u7.l k (fun y0 y1 y2=>K (.exit 2) (za [(1, .ptr (some y0)), (4, .slice y1), (5, .int .i64 y2)])) j x0 x1 x2 x3
 | 0, _, _, _, _=>rfl
 | j + 1, x0, x1, x2, x3=>by
   have h:=qd.u6.ok k x0 x1 x2 x3 (seqK (fun ρ=>zt (eC k qd.u6.c) [1, 4, 5, 6] j ρ K) K)
   simp only [zi, zk, zj, zg, qd.u7.okl k K j] at h
   exact (ja (by kernel_rfl) h).trans (qd.u7.ls k (fun y0 y1 y2=>K (.exit 2) (za [(1, .ptr (some y0)), (4, .slice y1), (5, .int .i64 y2)])) j x0 x1 x2 x3).symm
theorem qd.u7.ok (k:Nat) (x0:Ad) (x1:Sl) (x2 x3:Int) (K:KF α) :
  eC k qd.u7.c (za [(1, .ptr (some x0)), (4, .slice x1), (5, .int .i64 x2), (6, .int .i64 x3)]) K =
   qd.u7.f k x0 x1 x2 x3 (fun y0 y1 y2=>K (.exit 2) (za [(1, .ptr (some y0)), (4, .slice y1), (5, .int .i64 y2)])):=
 jq.trans <| (zz (body:=eC k qd.u6.c) (keep:=[1, 4, 5, 6]) (ρ:=(za [(1, .ptr (some x0)), (4, .slice x1), (5, .int .i64 x2), (6, .int .i64 x3)])) (ρ':=(za [(1, .ptr (some x0)), (4, .slice x1), (5, .int .i64 x2), (6, .int .i64 x3)])) (by kernel_rfl) k K).trans (qd.u7.okl k K k x0 x1 x2 x3)
theorem qd.u8.ok (k:Nat) (x0:Ad) (x1:Sl) (x2 x3:Int) (K:KF α) :
  eC k qd.u8.c (za [(1, .ptr (some x0)), (4, .slice x1), (5, .int .i64 x2), (6, .int .i64 x3)]) K =
   qd.u8.f k x0 x1 x2 x3 (fun y0 y1 y2=>K .normal (za [(1, .ptr (some y0)), (4, .slice y1), (5, .int .i64 y2)])):=
 (zy.trans (qd.u7.ok k x0 x1 x2 x3 (jo 2 K))).trans (by kernel_rfl)
theorem qd.u9.ok (k:Nat) (x0:Ad) (x1:Sl) (x2:Int) (K:KF α) :
  eC k qd.u9.c (za [(1, .ptr (some x0)), (4, .slice x1), (5, .int .i64 x2)]) K =
   qd.u9.f k x0 x1 x2 (fun y0 y1 y2=>K .normal (za [(1, .ptr (some y0)), (4, .slice y1), (5, .int .i64 y2)])):=
 (qd.u5.ok k x0 x1 x2 qd.u8.c K).trans
  (congrArg (fun z=>qd.u5.f k x0 x1 x2 z) (funext fun y0=>(funext fun y1=>(funext fun y2=>(funext fun y3=>qd.u8.ok k y0 y1 y2 y3 K)))))
theorem qd.u10.ok (k:Nat) (x0:Ad) (x1:Sl) (x2:Int) (K:KF α) :
  eC k qd.u10.c (za [(1, .ptr (some x0)), (4, .slice x1), (5, .int .i64 x2)]) K =
   qd.u10.f k x0 x1 x2 (fun y0 y1 y2=>K .normal (za [(1, .ptr (some y0)), (4, .slice y1), (5, .int .i64 y2)])):=by kernel_rfl
theorem qd.u11.ok (k:Nat) (x0:Ad) (x1:Sl) (x2:Int) (K:KF α) :
  eC k qd.u11.c (za [(1, .ptr (some x0)), (4, .slice x1), (5, .int .i64 x2)]) K =
   qd.u11.f k x0 x1 x2 (fun y0 y1 y2=>K .normal (za [(1, .ptr (some y0)), (4, .slice y1), (5, .int .i64 y2)])):=
 by
  have h:=qd.u9.ok k x0 x1 x2 (seqK (fun ρ=>eC k qd.u10.c ρ K) K)
  simp only [zg, zi, zk, zj, qd.u10.ok] at h
  exact jc h
theorem qd.u12.ok (k:Nat) (x0:Ad) (x1:Sl) (x2:Int) (K:KF α) :
  eC k qd.u12.c (za [(1, .ptr (some x0)), (4, .slice x1), (5, .int .i64 x2)]) K =
   qd.u12.f k x0 x1 x2 (fun y0 y1 y2=>K .normal (za [(1, .ptr (some y0)), (4, .slice y1), (5, .int .i64 y2)])):=
 (qd.u4.ok k x0 x1 x2 qd.u11.c K).trans
  (congrArg (fun z=>qd.u4.f k x0 x1 x2 z) (funext fun y0=>(funext fun y1=>(funext fun y2=>qd.u11.ok k y0 y1 y2 K))))
theorem qd.u13.ok (k:Nat) (x0:Ad) (x1:Sl) (x2:Int) (K:KF α) :
  eC k qd.u13.c (za [(1, .ptr (some x0)), (4, .slice x1), (5, .int .i64 x2)]) K =
   qd.u13.f k x0 x1 x2 (fun y0 y1 y2=>K .normal (za [(1, .ptr (some y0)), (4, .slice y1), (5, .int .i64 y2)])):=
 (zy.trans (qd.u12.ok k x0 x1 x2 (jo 1 K))).trans (by kernel_rfl)
theorem qd.u14.ok (k:Nat) (x0:Ad) (x1:Sl) (x2:Int) (K:KF α) :
  eC k qd.u14.c (za [(1, .ptr (some x0)), (4, .slice x1), (5, .int .i64 x2)]) K =
   qd.u14.f k x0 x1 x2 (fun y0 y1 y2=>K .normal (za [(1, .ptr (some y0)), (4, .slice y1), (5, .int .i64 y2)])):=by kernel_rfl
theorem qd.u15.ok (k:Nat) (x0:Ad) (x1:Sl) (x2:Int) (K:KF α) :
  eC k qd.u15.c (za [(1, .ptr (some x0)), (4, .slice x1), (5, .int .i64 x2)]) K =
   qd.u15.f k x0 x1 x2 (fun y0 y1 y2=>K .normal (za [(1, .ptr (some y0)), (4, .slice y1), (5, .int .i64 y2)])):=
 by
  have h:=qd.u13.ok k x0 x1 x2 (seqK (fun ρ=>eC k qd.u14.c ρ K) K)
  simp only [zg, zi, zk, zj, qd.u14.ok] at h
  exact jc h
theorem qd.u16.ok (k:Nat) (x0:Ad) (x1:Sl) (x2:Int) (K:KF α) :
  eC k qd.u16.c (za [(1, .ptr (some x0)), (4, .slice x1), (5, .int .i64 x2)]) K =
   qd.u16.f k x0 x1 x2 (fun y0 y1 y2=>K .normal (za [(1, .ptr (some y0)), (4, .slice y1), (5, .int .i64 y2)])) (fun y0=>K (.exit 0) (fr20 y0)):=
 (qd.u3.ok k x0 x1 x2 qd.u15.c K).trans
  (congrArg (fun z=>qd.u3.f k x0 x1 x2 z (fun y0=>K (.exit 0) (fr20 y0))) (funext fun y0=>(funext fun y1=>(funext fun y2=>qd.u15.ok k y0 y1 y2 K))))
theorem qd.u17.ls (k:Nat) (kx0:Sl->M α) (j:Nat) (x0:Ad) (x1:Sl) (x2:Int):qd.u17.l k kx0 (j + 1) x0 x1 x2 =
 qd.u16.f k x0 x1 x2 (fun y0 y1 y2=>qd.u17.l k kx0 j y0 y1 y2) kx0:=rfl
theorem qd.u17.okl (k:Nat) (K:KF α):∀ (j:Nat) (x0:Ad) (x1:Sl) (x2:Int),
  zt (eC k qd.u16.c) [1, 4, 5] j (za [(1, .ptr (some x0)), (4, .slice x1), (5, .int .i64 x2)]) K = qd.u17.l k (fun y0=>K (.exit 0) (fr20 y0)) j x0 x1 x2
 | 0, _, _, _=>rfl
 | j + 1, x0, x1, x2=>by
   have h:=qd.u16.ok k x0 x1 x2 (seqK (fun ρ=>zt (eC k qd.u16.c) [1, 4, 5] j ρ K) K)
   simp only [zi, zk, zj, zg, qd.u17.okl k K j] at h
   exact (ja (by kernel_rfl) h).trans (qd.u17.ls k (fun y0=>K (.exit 0) (fr20 y0)) j x0 x1 x2).symm
theorem qd.u17.ok (k:Nat) (x0:Ad) (x1:Sl) (x2:Int) (K:KF α) :
  eC k qd.u17.c (za [(1, .ptr (some x0)), (4, .slice x1), (5, .int .i64 x2)]) K =
   qd.u17.f k x0 x1 x2 (fun y0=>K (.exit 0) (fr20 y0)):=
 jq.trans <| (zz (body:=eC k qd.u16.c) (keep:=[1, 4, 5]) (ρ:=(za [(1, .ptr (some x0)), (4, .slice x1), (5, .int .i64 x2)])) (ρ':=(za [(1, .ptr (some x0)), (4, .slice x1), (5, .int .i64 x2)])) (by kernel_rfl) k K).trans (qd.u17.okl k K k x0 x1 x2)
theorem qd.u18.ok (k:Nat) (x0:Ad) (x1:Sl) (x2:Int) (K:KF α) :
  eC k qd.u18.c (za [(1, .ptr (some x0)), (4, .slice x1), (5, .int .i64 x2)]) K =
   qd.u18.f k x0 x1 x2 (fun y0=>K .normal (fr20 y0)):=
 (zy.trans (qd.u17.ok k x0 x1 x2 (jo 0 K))).trans (by kernel_rfl)
theorem qd.u19.ok (k:Nat) (x0:Ad) (x1:Sl) (K:KF α) :
  eC k qd.u19.c (za [(1, .ptr (some x0)), (4, .slice x1)]) K =
   qd.u19.f k x0 x1 (fun y0=>K .normal (fr20 y0)):=
 (qd.u2.ok k x0 x1 qd.u18.c K).trans
  (congrArg (fun z=>qd.u2.f k x0 x1 z) (funext fun y0=>(funext fun y1=>(funext fun y2=>qd.u18.ok k y0 y1 y2 K))))
theorem qd.u20.ok (k:Nat) (x0:Sl) (K:KF α) :
  eC k qd.u20.c (fr20 x0) K =
   qd.u20.f k x0 (fun y0=>K .ret (fr23 y0)):=by kernel_rfl
theorem qd.u21.ok (k:Nat) (x0:Ad) (x1:Sl) (K:KF α) :
  eC k qd.u21.c (za [(1, .ptr (some x0)), (4, .slice x1)]) K =
   qd.u21.f k x0 x1 (fun y0=>K .ret (fr23 y0)):=
 by
  have h:=qd.u19.ok k x0 x1 (seqK (fun ρ=>eC k qd.u20.c ρ K) K)
  simp only [zg, zi, zk, zj, qd.u20.ok] at h
  exact jc h
theorem qd.u22.ok (k:Nat) (x0 x1 x2:Sl) (K:KF α) :
  eC k qd.u22.c (za [(0, .agg [.slice x0, .slice x1, .slice x2])]) K =
   qd.u22.f k x0 x1 x2 (fun y0=>K .ret (fr23 y0)):=
 (qd.u1.ok k x0 x1 x2 qd.u21.c K).trans
  (congrArg (fun z=>qd.u1.f k x0 x1 x2 z (fun y0=>K .ret (fr23 y0))) (funext fun y0=>(funext fun y1=>qd.u21.ok k y0 y1 K)))
theorem qd.ok (k:Nat) (x0 x1 x2:Sl) (κ:Res->M α) :
  evF T (env k) k qd.c qd.res [.agg [.slice x0, .slice x1, .slice x2]] κ = qd.f (k + 1) x0 x1 x2 (fun o0=>κ (.ret (.str o0))):=
 (qd.u22.ok k x0 x1 x2 (retK T qd.res κ)).trans (by kernel_rfl)
theorem qd.code:qd.c.code = jm Tryd.f14:=by kernel_rfl
noncomputable def qy.c:IC:=qy.u1.c
noncomputable def qy.res:List ResultVar:=[(.tmp 2)]
theorem qy.u1.ok (k:Nat) (x0 x1 x2:Sl) (K:KF α) :
  eC k qy.u1.c (za [(0, .agg [.slice x0, .slice x1, .slice x2])]) K =
   qy.u1.f k x0 x1 x2 (fun y0=>K .ret (fr34 y0)):=by kernel_rfl
theorem qy.ok (k:Nat) (x0 x1 x2:Sl) (κ:Res->M α) :
  evF T (env k) k qy.c qy.res [.agg [.slice x0, .slice x1, .slice x2]] κ = qy.f (k + 1) x0 x1 x2 (fun o0=>κ (.ret (.bool o0))):=
 (qy.u1.ok k x0 x1 x2 (retK T qy.res κ)).trans (by kernel_rfl)
theorem qy.code:qy.c.code = jm Tryd.f3:=by kernel_rfl
end
end Go.Ab.S8
