import Derived.Test.YtjohdighlhoofaaDoorS8a0
import Derived.Test.YtjohdighlhoofaaDoorAb20
import Derived.Shelf.Strings.Builder1
import Derived.Test.YtjohdighlhoofaaDoorProg
import Derived.KernelRfl
import Derived.Lib.ItoaNum
set_option linter.unusedVariables false
set_option linter.unusedSimpArgs false
namespace Go.Ab.S8
abbrev fr22 (x0:Int):zd:=za [(0, .int .i64 x0)]
abbrev fr23 (x0:TX):zd:=za [(2, .str x0)]
abbrev fr24 (x0:Sl) (x1:Int):zd:=za [(0, .slice x0), (1, .int .u64 x1)]
abbrev fr25 (x0:Sl) (x1 x2:Int):zd:=za [(0, .slice x0), (1, .int .u64 x1), (4, .int .i64 x2)]
abbrev fr26 (x0:Sl) (x1 x2:Int):zd:=za [(0, .slice x0), (1, .int .u64 x1), (2, .int .i64 x2)]
abbrev fr27 (x0:Sl):zd:=za [(6, .slice x0)]
abbrev fr28 (x0:Sl) (x1 x2:Int):zd:=za [(0, .slice x0), (1, .int .i64 x1), (2, .int .i64 x2)]
abbrev fr29 (x0:Sl):zd:=za [(5, .slice x0)]
abbrev fr30 (x0:Bool):zd:=za [(0, .bool x0)]
abbrev fr31 (x0:Bool):zd:=za [(2, .bool x0)]
abbrev fr32 (x0:TX) (x1:Int):zd:=za [(0, .str x0), (5, .int .i64 x1)]
abbrev fr33 (x0:TX) (x1 x2:Int):zd:=za [(0, .str x0), (6, .int .i64 x1), (7, .int .i64 x2)]
abbrev fr34 (x0 x1:Int):zd:=za [(6, .int .i64 x0), (7, .int .i64 x1)]
abbrev fr35 (x0 x1:Int):zd:=za [(4, .int .i64 x0), (5, .int .i64 x1)]
abbrev fr36 (x0:TX) (x1:Sl) (x2:Int):zd:=za [(0, .str x0), (5, .slice x1), (6, .int .i64 x2)]
abbrev fr37 (x0:Sl) (x1 x2:Int):zd:=za [(2, .slice x0), (3, .int .i64 x1), (4, .int .i64 x2)]
abbrev fr38 (x0:TX) (x1:Sl):zd:=za [(0, .str x0), (5, .slice x1)]
abbrev fr39 (x0:TX) (x1:Sl) (x2 x3:Int):zd:=za [(0, .str x0), (5, .slice x1), (6, .int .i64 x2), (18, .int .u8 x3)]
abbrev fr40 (x0:TX) (x1:Sl) (x2 x3:Int) (x4:Bool):zd:=za [(0, .str x0), (5, .slice x1), (6, .int .i64 x2), (18, .int .u8 x3), (19, .bool x4)]
abbrev fr41 (x0:TX) (x1:Sl) (x2:Int) (x3:Bool):zd:=za [(0, .str x0), (5, .slice x1), (6, .int .i64 x2), (24, .bool x3)]
abbrev fr42 (x0 x1:Sl):zd:=za [(0, .slice x0), (1, .slice x1)]
abbrev fr43 (x0:Bool):zd:=za [(4, .bool x0)]
abbrev fr44 (x0 x1:Sl) (x2:Int):zd:=za [(0, .slice x0), (1, .slice x1), (5, .int .i64 x2)]
section
variable {α:Type}
open Go.Proofs
noncomputable def qi.c:IC:=qi.u18.c
noncomputable def qi.res:List ResultVar:=[(.tmp 2), (.tmp 3)]
theorem qi.u1.ok (k:Nat) (x0 x1 x2:Sl) (R:IC) (K:KF α) :
  eC k (qi.u1.c R) (za [(0, .agg [.slice x0, .slice x1, .slice x2])]) K =
   qi.u1.f k x0 x1 x2 (fun y0 y1=>eC k R (za [(1, .ptr (some y0)), (4, .int .i64 y1)]) K) (fun y0 y1=>K .ret (fr21 y0 y1)):=by kernel_rfl
theorem qi.u2.ok (k:Nat) (x0:Ad) (x1:Int) (R:IC) (K:KF α) :
  eC k (qi.u2.c R) (za [(1, .ptr (some x0)), (4, .int .i64 x1)]) K =
   qi.u2.f k x0 x1 (fun y0 y1 y2 y3 y4=>eC k R (za [(1, .ptr (some y0)), (4, .int .i64 y1), (33, .slice y2), (34, .int .i64 y3), (35, .int .i64 y4)]) K):=by kernel_rfl
theorem qi.u3.ok (k:Nat) (x0:Ad) (x1:Int) (x2:Sl) (x3 x4:Int) (R:IC) (K:KF α) :
  eC k (qi.u3.c R) (za [(1, .ptr (some x0)), (4, .int .i64 x1), (33, .slice x2), (34, .int .i64 x3), (35, .int .i64 x4)]) K =
   qi.u3.f k x0 x1 x2 x3 x4 (fun y0 y1 y2 y3 y4=>eC k R (za [(1, .ptr (some y0)), (4, .int .i64 y1), (33, .slice y2), (34, .int .i64 y3), (35, .int .i64 y4)]) K) (K (.exit 1) (za [])):=by kernel_rfl
theorem qi.u4.ok (k:Nat) (x0:Ad) (x1:Int) (x2:Sl) (x3 x4:Int) (R:IC) (K:KF α) :
  eC k (qi.u4.c R) (za [(1, .ptr (some x0)), (4, .int .i64 x1), (33, .slice x2), (34, .int .i64 x3), (35, .int .i64 x4)]) K =
   qi.u4.f k x0 x1 x2 x3 x4 (fun y0 y1 y2 y3 y4 y5 y6 y7 y8 y9=>eC k R (za [(1, .ptr (some y0)), (4, .int .i64 y1), (5, .int .i64 y2), (6, .slice y3), (33, .slice y4), (34, .int .i64 y5), (35, .int .i64 y6), (77, .slice y7), (78, .int .i64 y8), (79, .int .i64 y9)]) K) (fun y0 y1=>K .ret (fr21 y0 y1)):=by kernel_rfl
theorem qi.u5.ok (k:Nat) (x0:Ad) (x1 x2:Int) (x3 x4:Sl) (x5 x6:Int) (x7:Sl) (x8 x9:Int) (K:KF α) :
  eC k qi.u5.c (za [(1, .ptr (some x0)), (4, .int .i64 x1), (5, .int .i64 x2), (6, .slice x3), (33, .slice x4), (34, .int .i64 x5), (35, .int .i64 x6), (77, .slice x7), (78, .int .i64 x8), (79, .int .i64 x9)]) K =
   qi.u5.f k x0 x1 x2 x3 x4 x5 x6 x7 x8 x9 (fun y0 y1 y2 y3 y4 y5 y6 y7 y8 y9=>K .normal (za [(1, .ptr (some y0)), (4, .int .i64 y1), (5, .int .i64 y2), (6, .slice y3), (33, .slice y4), (34, .int .i64 y5), (35, .int .i64 y6), (77, .slice y7), (78, .int .i64 y8), (79, .int .i64 y9)])) (fun y0 y1=>K .ret (fr21 y0 y1)) (fun y0 y1 y2 y3 y4=>K (.exit 4) (za [(1, .ptr (some y0)), (4, .int .i64 y1), (33, .slice y2), (34, .int .i64 y3), (35, .int .i64 y4)])):=by kernel_rfl
theorem qi.u6.ls (k:Nat) (kr:Int->Int->M α) (kx4:Ad->Int->Sl->Int->Int->M α) (j:Nat) (x0:Ad) (x1 x2:Int) (x3 x4:Sl) (x5 x6:Int) (x7:Sl) (x8 x9:Int):qi.u6.l k kr kx4 (j + 1) x0 x1 x2 x3 x4 x5 x6 x7 x8 x9 =
 qi.u5.f k x0 x1 x2 x3 x4 x5 x6 x7 x8 x9 (fun y0 y1 y2 y3 y4 y5 y6 y7 y8 y9=>qi.u6.l k kr kx4 j y0 y1 y2 y3 y4 y5 y6 y7 y8 y9) kr kx4:=rfl
theorem qi.u6.okl (k:Nat) (K:KF α):∀ (j:Nat) (x0:Ad) (x1 x2:Int) (x3 x4:Sl) (x5 x6:Int) (x7:Sl) (x8 x9:Int),
  zx (eC k qi.u5.c) [1, 4, 5, 6, 33, 34, 35, 77, 78, 79] j (za [(1, .ptr (some x0)), (4, .int .i64 x1), (5, .int .i64 x2), (6, .slice x3), (33, .slice x4), (34, .int .i64 x5), (35, .int .i64 x6), (77, .slice x7), (78, .int .i64 x8), (79, .int .i64 x9)]) K = qi.u6.l k (fun y0 y1=>K .ret (fr21 y0 y1)) (fun y0 y1 y2 y3 y4=>K (.exit 4) (za [(1, .ptr (some y0)), (4, .int .i64 y1), (33, .slice y2), (34, .int .i64 y3), (35, .int .i64 y4)])) j x0 x1 x2 x3 x4 x5 x6 x7 x8 x9
 | 0, _, _, _, _, _, _, _, _, _, _=>rfl
 | j + 1, x0, x1, x2, x3, x4, x5, x6, x7, x8, x9=>by
   have h:=qi.u5.ok k x0 x1 x2 x3 x4 x5 x6 x7 x8 x9 (seqK (fun ρ=>zx (eC k qi.u5.c) [1, 4, 5, 6, 33, 34, 35, 77, 78, 79] j ρ K) K)
   simp only [zi, zm, zn, zg, qi.u6.okl k K j] at h
   exact (zz (by kernel_rfl) h).trans (qi.u6.ls k (fun y0 y1=>K .ret (fr21 y0 y1)) (fun y0 y1 y2 y3 y4=>K (.exit 4) (za [(1, .ptr (some y0)), (4, .int .i64 y1), (33, .slice y2), (34, .int .i64 y3), (35, .int .i64 y4)])) j x0 x1 x2 x3 x4 x5 x6 x7 x8 x9).symm
theorem qi.u6.ok (k:Nat) (x0:Ad) (x1 x2:Int) (x3 x4:Sl) (x5 x6:Int) (x7:Sl) (x8 x9:Int) (K:KF α) :
  eC k qi.u6.c (za [(1, .ptr (some x0)), (4, .int .i64 x1), (5, .int .i64 x2), (6, .slice x3), (33, .slice x4), (34, .int .i64 x5), (35, .int .i64 x6), (77, .slice x7), (78, .int .i64 x8), (79, .int .i64 x9)]) K =
   qi.u6.f k x0 x1 x2 x3 x4 x5 x6 x7 x8 x9 (fun y0 y1=>K .ret (fr21 y0 y1)) (fun y0 y1 y2 y3 y4=>K (.exit 4) (za [(1, .ptr (some y0)), (4, .int .i64 y1), (33, .slice y2), (34, .int .i64 y3), (35, .int .i64 y4)])):=
 ya.trans <| (jb (body:=eC k qi.u5.c) (keep:=[1, 4, 5, 6, 33, 34, 35, 77, 78, 79]) (ρ:=(za [(1, .ptr (some x0)), (4, .int .i64 x1), (5, .int .i64 x2), (6, .slice x3), (33, .slice x4), (34, .int .i64 x5), (35, .int .i64 x6), (77, .slice x7), (78, .int .i64 x8), (79, .int .i64 x9)])) (ρ':=(za [(1, .ptr (some x0)), (4, .int .i64 x1), (5, .int .i64 x2), (6, .slice x3), (33, .slice x4), (34, .int .i64 x5), (35, .int .i64 x6), (77, .slice x7), (78, .int .i64 x8), (79, .int .i64 x9)])) (by kernel_rfl) k K).trans (qi.u6.okl k K k x0 x1 x2 x3 x4 x5 x6 x7 x8 x9)
theorem qi.u7.ok (k:Nat) (x0:Ad) (x1 x2:Int) (x3 x4:Sl) (x5 x6:Int) (x7:Sl) (x8 x9:Int) (K:KF α) :
  eC k qi.u7.c (za [(1, .ptr (some x0)), (4, .int .i64 x1), (5, .int .i64 x2), (6, .slice x3), (33, .slice x4), (34, .int .i64 x5), (35, .int .i64 x6), (77, .slice x7), (78, .int .i64 x8), (79, .int .i64 x9)]) K =
   qi.u7.f k x0 x1 x2 x3 x4 x5 x6 x7 x8 x9 (fun y0 y1 y2 y3 y4=>K .normal (za [(1, .ptr (some y0)), (4, .int .i64 y1), (33, .slice y2), (34, .int .i64 y3), (35, .int .i64 y4)])) (fun y0 y1=>K .ret (fr21 y0 y1)):=
 (zw.trans (qi.u6.ok k x0 x1 x2 x3 x4 x5 x6 x7 x8 x9 (jz 4 K))).trans (by kernel_rfl)
theorem qi.u8.ok (k:Nat) (x0:Ad) (x1:Int) (x2:Sl) (x3 x4:Int) (K:KF α) :
  eC k qi.u8.c (za [(1, .ptr (some x0)), (4, .int .i64 x1), (33, .slice x2), (34, .int .i64 x3), (35, .int .i64 x4)]) K =
   qi.u8.f k x0 x1 x2 x3 x4 (fun y0 y1 y2 y3 y4=>K .normal (za [(1, .ptr (some y0)), (4, .int .i64 y1), (33, .slice y2), (34, .int .i64 y3), (35, .int .i64 y4)])) (fun y0 y1=>K .ret (fr21 y0 y1)):=
 (qi.u4.ok k x0 x1 x2 x3 x4 qi.u7.c K).trans
  (congrArg (fun z=>qi.u4.f k x0 x1 x2 x3 x4 z (fun y0 y1=>K .ret (fr21 y0 y1))) (funext fun y0=>(funext fun y1=>(funext fun y2=>(funext fun y3=>(funext fun y4=>(funext fun y5=>(funext fun y6=>(funext fun y7=>(funext fun y8=>(funext fun y9=>qi.u7.ok k y0 y1 y2 y3 y4 y5 y6 y7 y8 y9 K)))))))))))
theorem qi.u9.ok (k:Nat) (x0:Ad) (x1:Int) (x2:Sl) (x3 x4:Int) (K:KF α) :
  eC k qi.u9.c (za [(1, .ptr (some x0)), (4, .int .i64 x1), (33, .slice x2), (34, .int .i64 x3), (35, .int .i64 x4)]) K =
   qi.u9.f k x0 x1 x2 x3 x4 (fun y0 y1 y2 y3 y4=>K .normal (za [(1, .ptr (some y0)), (4, .int .i64 y1), (33, .slice y2), (34, .int .i64 y3), (35, .int .i64 y4)])) (fun y0 y1=>K .ret (fr21 y0 y1)):=
 (zw.trans (qi.u8.ok k x0 x1 x2 x3 x4 (jz 2 K))).trans (by kernel_rfl)
theorem qi.u10.ok (k:Nat) (x0:Ad) (x1:Int) (x2:Sl) (x3 x4:Int) (K:KF α) :
  eC k qi.u10.c (za [(1, .ptr (some x0)), (4, .int .i64 x1), (33, .slice x2), (34, .int .i64 x3), (35, .int .i64 x4)]) K =
   qi.u10.f k x0 x1 x2 x3 x4 (fun y0 y1 y2 y3 y4=>K .normal (za [(1, .ptr (some y0)), (4, .int .i64 y1), (33, .slice y2), (34, .int .i64 y3), (35, .int .i64 y4)])):=by kernel_rfl
theorem qi.u11.ok (k:Nat) (x0:Ad) (x1:Int) (x2:Sl) (x3 x4:Int) (K:KF α) :
  eC k qi.u11.c (za [(1, .ptr (some x0)), (4, .int .i64 x1), (33, .slice x2), (34, .int .i64 x3), (35, .int .i64 x4)]) K =
   qi.u11.f k x0 x1 x2 x3 x4 (fun y0 y1 y2 y3 y4=>K .normal (za [(1, .ptr (some y0)), (4, .int .i64 y1), (33, .slice y2), (34, .int .i64 y3), (35, .int .i64 y4)])) (fun y0 y1=>K .ret (fr21 y0 y1)):=
 by
  have h:=qi.u9.ok k x0 x1 x2 x3 x4 (seqK (fun ρ=>eC k qi.u10.c ρ K) K)
  simp only [zg, zi, zm, zn, qi.u10.ok] at h
  exact jc h
theorem qi.u12.ok (k:Nat) (x0:Ad) (x1:Int) (x2:Sl) (x3 x4:Int) (K:KF α) :
  eC k qi.u12.c (za [(1, .ptr (some x0)), (4, .int .i64 x1), (33, .slice x2), (34, .int .i64 x3), (35, .int .i64 x4)]) K =
   qi.u12.f k x0 x1 x2 x3 x4 (fun y0 y1 y2 y3 y4=>K .normal (za [(1, .ptr (some y0)), (4, .int .i64 y1), (33, .slice y2), (34, .int .i64 y3), (35, .int .i64 y4)])) (fun y0 y1=>K .ret (fr21 y0 y1)) (K (.exit 1) (za [])):=
 (qi.u3.ok k x0 x1 x2 x3 x4 qi.u11.c K).trans
  (congrArg (fun z=>qi.u3.f k x0 x1 x2 x3 x4 z (K (.exit 1) (za []))) (funext fun y0=>(funext fun y1=>(funext fun y2=>(funext fun y3=>(funext fun y4=>qi.u11.ok k y0 y1 y2 y3 y4 K))))))
theorem qi.u13.ls (k:Nat) (kr:Int->Int->M α) (kx1:M α) (j:Nat) (x0:Ad) (x1:Int) (x2:Sl) (x3 x4:Int):qi.u13.l k kr kx1 (j + 1) x0 x1 x2 x3 x4 =
 qi.u12.f k x0 x1 x2 x3 x4 (fun y0 y1 y2 y3 y4=>qi.u13.l k kr kx1 j y0 y1 y2 y3 y4) kr kx1:=rfl
theorem qi.u13.okl (k:Nat) (K:KF α):∀ (j:Nat) (x0:Ad) (x1:Int) (x2:Sl) (x3 x4:Int),
  zx (eC k qi.u12.c) [1, 4, 33, 34, 35] j (za [(1, .ptr (some x0)), (4, .int .i64 x1), (33, .slice x2), (34, .int .i64 x3), (35, .int .i64 x4)]) K = qi.u13.l k (fun y0 y1=>K .ret (fr21 y0 y1)) (K (.exit 1) (za [])) j x0 x1 x2 x3 x4
 | 0, _, _, _, _, _=>rfl
 | j + 1, x0, x1, x2, x3, x4=>by
   have h:=qi.u12.ok k x0 x1 x2 x3 x4 (seqK (fun ρ=>zx (eC k qi.u12.c) [1, 4, 33, 34, 35] j ρ K) K)
   simp only [zi, zm, zn, zg, qi.u13.okl k K j] at h
   exact (zz (by kernel_rfl) h).trans (qi.u13.ls k (fun y0 y1=>K .ret (fr21 y0 y1)) (K (.exit 1) (za [])) j x0 x1 x2 x3 x4).symm
theorem qi.u13.ok (k:Nat) (x0:Ad) (x1:Int) (x2:Sl) (x3 x4:Int) (K:KF α) :
  eC k qi.u13.c (za [(1, .ptr (some x0)), (4, .int .i64 x1), (33, .slice x2), (34, .int .i64 x3), (35, .int .i64 x4)]) K =
   qi.u13.f k x0 x1 x2 x3 x4 (fun y0 y1=>K .ret (fr21 y0 y1)) (K (.exit 1) (za [])):=
 ya.trans <| (jb (body:=eC k qi.u12.c) (keep:=[1, 4, 33, 34, 35]) (ρ:=(za [(1, .ptr (some x0)), (4, .int .i64 x1), (33, .slice x2), (34, .int .i64 x3), (35, .int .i64 x4)])) (ρ':=(za [(1, .ptr (some x0)), (4, .int .i64 x1), (33, .slice x2), (34, .int .i64 x3), (35, .int .i64 x4)])) (by kernel_rfl) k K).trans (qi.u13.okl k K k x0 x1 x2 x3 x4)
theorem qi.u14.ok (k:Nat) (x0:Ad) (x1:Int) (x2:Sl) (x3 x4:Int) (K:KF α) :
  eC k qi.u14.c (za [(1, .ptr (some x0)), (4, .int .i64 x1), (33, .slice x2), (34, .int .i64 x3), (35, .int .i64 x4)]) K =
   qi.u14.f k x0 x1 x2 x3 x4 (K .normal (za [])) (fun y0 y1=>K .ret (fr21 y0 y1)):=
 (zw.trans (qi.u13.ok k x0 x1 x2 x3 x4 (jz 1 K))).trans (by kernel_rfl)
theorem qi.u15.ok (k:Nat) (x0:Ad) (x1:Int) (K:KF α) :
  eC k qi.u15.c (za [(1, .ptr (some x0)), (4, .int .i64 x1)]) K =
   qi.u15.f k x0 x1 (K .normal (za [])) (fun y0 y1=>K .ret (fr21 y0 y1)):=
 (qi.u2.ok k x0 x1 qi.u14.c K).trans
  (congrArg (fun z=>qi.u2.f k x0 x1 z) (funext fun y0=>(funext fun y1=>(funext fun y2=>(funext fun y3=>(funext fun y4=>qi.u14.ok k y0 y1 y2 y3 y4 K))))))
theorem qi.u16.ok (k:Nat) (K:KF α) :
  eC k qi.u16.c (za []) K =
   qi.u16.f k (fun y0 y1=>K .ret (fr21 y0 y1)):=by kernel_rfl
theorem qi.u17.ok (k:Nat) (x0:Ad) (x1:Int) (K:KF α) :
  eC k qi.u17.c (za [(1, .ptr (some x0)), (4, .int .i64 x1)]) K =
   qi.u17.f k x0 x1 (fun y0 y1=>K .ret (fr21 y0 y1)):=
 by
  have h:=qi.u15.ok k x0 x1 (seqK (fun ρ=>eC k qi.u16.c ρ K) K)
  simp only [zg, zi, zm, zn, qi.u16.ok] at h
  exact jc h
theorem qi.u18.ok (k:Nat) (x0 x1 x2:Sl) (K:KF α) :
  eC k qi.u18.c (za [(0, .agg [.slice x0, .slice x1, .slice x2])]) K =
   qi.u18.f k x0 x1 x2 (fun y0 y1=>K .ret (fr21 y0 y1)):=
 (qi.u1.ok k x0 x1 x2 qi.u17.c K).trans
  (congrArg (fun z=>qi.u1.f k x0 x1 x2 z (fun y0 y1=>K .ret (fr21 y0 y1))) (funext fun y0=>(funext fun y1=>qi.u17.ok k y0 y1 K)))
theorem qi.ok (k:Nat) (x0 x1 x2:Sl) (κ:Res->M α) :
  evF T (env k) k qi.c qi.res [.agg [.slice x0, .slice x1, .slice x2]] κ = qi.f (k + 1) x0 x1 x2 (fun o0 o1=>κ (.ret (.tuple [.int .i64 o0, .int .i64 o1]))):=
 (qi.u18.ok k x0 x1 x2 (retK T qi.res κ)).trans (by kernel_rfl)
theorem qi.code:qi.c.code = jt Tryd.f18:=by kernel_rfl
noncomputable def qam.c:IC:=qam.u1.c
noncomputable def qam.res:List ResultVar:=[(.tmp 2)]
theorem qam.u1.ok (k:Nat) (x0:Int) (K:KF α) :
  eC k qam.u1.c (fr22 x0) K =
   qam.u1.f k x0 (fun y0=>K .ret (fr23 y0)):=by kernel_rfl
theorem qam.ok (k:Nat) (x0:Int) (κ:Res->M α) :
  evF T (env k) k qam.c qam.res [.int .i64 x0] κ = qam.f (k + 1) x0 (fun o0=>κ (.ret (.str o0))):=
 (qam.u1.ok k x0 (retK T qam.res κ)).trans (by kernel_rfl)
theorem qam.code:qam.c.code = jt Tryd.f63:=by kernel_rfl
noncomputable def qk.c:IC:=qk.u12.c
noncomputable def qk.res:List ResultVar:=[]
theorem qk.u1.ok (k:Nat) (x0:Sl) (x1:Int) (R:IC) (K:KF α) :
  eC k (qk.u1.c R) (fr24 x0 x1) K =
   qk.u1.f k x0 x1 (fun y0 y1 y2=>eC k R (fr25 y0 y1 y2) K):=by kernel_rfl
theorem qk.u2.ok (k:Nat) (x0:Sl) (x1 x2:Int) (R:IC) (K:KF α) :
  eC k (qk.u2.c R) (fr25 x0 x1 x2) K =
   qk.u2.f k x0 x1 x2 (fun y0 y1 y2=>eC k R (fr25 y0 y1 y2) K) (fun y0 y1 y2=>K (.exit 0) (fr25 y0 y1 y2)):=by kernel_rfl
theorem qk.u3.ok (k:Nat) (x0:Sl) (x1 x2:Int) (K:KF α) :
  eC k qk.u3.c (fr25 x0 x1 x2) K =
   qk.u3.f k x0 x1 x2 (fun y0 y1 y2=>K .normal (fr25 y0 y1 y2)):=by kernel_rfl
theorem qk.u4.ok (k:Nat) (x0:Sl) (x1 x2:Int) (K:KF α) :
  eC k qk.u4.c (fr25 x0 x1 x2) K =
   qk.u4.f k x0 x1 x2 (fun y0 y1 y2=>K .normal (fr25 y0 y1 y2)):=
 (zw.trans (qk.u3.ok k x0 x1 x2 (jz 1 K))).trans (by kernel_rfl)
theorem qk.u5.ok (k:Nat) (x0:Sl) (x1 x2:Int) (K:KF α) :
  eC k qk.u5.c (fr25 x0 x1 x2) K =
   qk.u5.f k x0 x1 x2 (fun y0 y1 y2=>K .normal (fr25 y0 y1 y2)) (fun y0 y1 y2=>K (.exit 0) (fr25 y0 y1 y2)):=
 (qk.u2.ok k x0 x1 x2 qk.u4.c K).trans
  (congrArg (fun z=>qk.u2.f k x0 x1 x2 z (fun y0 y1 y2=>K (.exit 0) (fr25 y0 y1 y2))) (funext fun y0=>(funext fun y1=>(funext fun y2=>qk.u4.ok k y0 y1 y2 K))))
theorem qk.u6.ls (k:Nat) (kx0:Sl->Int->Int->M α) (j:Nat) (x0:Sl) (x1 x2:Int):qk.u6.l k kx0 (j + 1) x0 x1 x2 =
 qk.u5.f k x0 x1 x2 (fun y0 y1 y2=>qk.u6.l k kx0 j y0 y1 y2) kx0:=rfl
theorem qk.u6.okl (k:Nat) (K:KF α):∀ (j:Nat) (x0:Sl) (x1 x2:Int),
  zx (eC k qk.u5.c) [0, 1, 4] j (fr25 x0 x1 x2) K = qk.u6.l k (fun y0 y1 y2=>K (.exit 0) (fr25 y0 y1 y2)) j x0 x1 x2
 | 0, _, _, _=>rfl
 | j + 1, x0, x1, x2=>by
   have h:=qk.u5.ok k x0 x1 x2 (seqK (fun ρ=>zx (eC k qk.u5.c) [0, 1, 4] j ρ K) K)
   simp only [zi, zm, zn, zg, qk.u6.okl k K j] at h
   exact (zz (by kernel_rfl) h).trans (qk.u6.ls k (fun y0 y1 y2=>K (.exit 0) (fr25 y0 y1 y2)) j x0 x1 x2).symm
theorem qk.u6.ok (k:Nat) (x0:Sl) (x1 x2:Int) (K:KF α) :
  eC k qk.u6.c (fr25 x0 x1 x2) K =
   qk.u6.f k x0 x1 x2 (fun y0 y1 y2=>K (.exit 0) (fr25 y0 y1 y2)):=
 ya.trans <| (jb (body:=eC k qk.u5.c) (keep:=[0, 1, 4]) (ρ:=(fr25 x0 x1 x2)) (ρ':=(fr25 x0 x1 x2)) (by kernel_rfl) k K).trans (qk.u6.okl k K k x0 x1 x2)
theorem qk.u7.ok (k:Nat) (x0:Sl) (x1 x2:Int) (K:KF α) :
  eC k qk.u7.c (fr25 x0 x1 x2) K =
   qk.u7.f k x0 x1 x2 (fun y0 y1 y2=>K .normal (fr25 y0 y1 y2)):=
 (zw.trans (qk.u6.ok k x0 x1 x2 (jz 0 K))).trans (by kernel_rfl)
theorem qk.u8.ok (k:Nat) (x0:Sl) (x1 x2:Int) (R:IC) (K:KF α) :
  eC k (qk.u8.c R) (fr25 x0 x1 x2) K =
   qk.u8.f k x0 x1 x2 (fun y0 y1 y2=>eC k R (za [(0, .slice y0), (4, .int .i64 y1), (12, .int .u32 y2)]) K):=by kernel_rfl
theorem qk.u9.ok (k:Nat) (x0:Sl) (x1 x2:Int) (K:KF α) :
  eC k qk.u9.c (za [(0, .slice x0), (4, .int .i64 x1), (12, .int .u32 x2)]) K =
   qk.u9.f k x0 x1 x2 (K .normal (za [])):=by kernel_rfl
theorem qk.u10.ok (k:Nat) (x0:Sl) (x1 x2:Int) (K:KF α) :
  eC k qk.u10.c (fr25 x0 x1 x2) K =
   qk.u10.f k x0 x1 x2 (K .normal (za [])):=
 (qk.u8.ok k x0 x1 x2 qk.u9.c K).trans
  (congrArg (fun z=>qk.u8.f k x0 x1 x2 z) (funext fun y0=>(funext fun y1=>(funext fun y2=>qk.u9.ok k y0 y1 y2 K))))
theorem qk.u11.ok (k:Nat) (x0:Sl) (x1 x2:Int) (K:KF α) :
  eC k qk.u11.c (fr25 x0 x1 x2) K =
   qk.u11.f k x0 x1 x2 (K .normal (za [])):=
 by
  have h:=qk.u7.ok k x0 x1 x2 (seqK (fun ρ=>eC k qk.u10.c ρ K) K)
  simp only [zg, zi, zm, zn, qk.u10.ok] at h
  exact jc h
theorem qk.u12.ok (k:Nat) (x0:Sl) (x1:Int) (K:KF α) :
  eC k qk.u12.c (fr24 x0 x1) K =
   qk.u12.f k x0 x1 (K .normal (za [])):=
 (qk.u1.ok k x0 x1 qk.u11.c K).trans
  (congrArg (fun z=>qk.u1.f k x0 x1 z) (funext fun y0=>(funext fun y1=>(funext fun y2=>qk.u11.ok k y0 y1 y2 K))))
theorem qk.ok (k:Nat) (x0:Sl) (x1:Int) (κ:Res->M α) :
  evF T (env k) k qk.c qk.res [.slice x0, .int .u64 x1] κ = qk.f (k + 1) x0 x1 (κ (.ret (.tuple []))):=
 (qk.u12.ok k x0 x1 (retK T qk.res κ)).trans (by kernel_rfl)
theorem qk.code:qk.c.code = jt Tryd.f65:=by kernel_rfl
noncomputable def qah.c:IC:=qah.u1.c
noncomputable def qah.res:List ResultVar:=[(.tmp 6)]
theorem qah.u1.ok (k:Nat) (x0:Sl) (x1 x2:Int) (K:KF α) :
  eC k qah.u1.c (fr26 x0 x1 x2) K =
   qah.u1.f k x0 x1 x2 (fun y0=>K .ret (fr27 y0)):=by kernel_rfl
theorem qah.ok (k:Nat) (x0:Sl) (x1 x2:Int) (κ:Res->M α) :
  evF T (env k) k qah.c qah.res [.slice x0, .int .u64 x1, .int .i64 x2] κ = qah.f (k + 1) x0 x1 x2 (fun o0=>κ (.ret (.slice o0))):=
 (qah.u1.ok k x0 x1 x2 (retK T qah.res κ)).trans (by kernel_rfl)
theorem qah.code:qah.c.code = jt Tryd.f50:=by kernel_rfl
noncomputable def qaq.c:IC:=qaq.u1.c
noncomputable def qaq.res:List ResultVar:=[(.tmp 6)]
theorem qaq.u1.ok (k:Nat) (x0:Sl) (x1 x2:Int) (K:KF α) :
  eC k qaq.u1.c (fr28 x0 x1 x2) K =
   qaq.u1.f k x0 x1 x2 (fun y0=>K .ret (fr27 y0)):=by kernel_rfl
theorem qaq.ok (k:Nat) (x0:Sl) (x1 x2:Int) (κ:Res->M α) :
  evF T (env k) k qaq.c qaq.res [.slice x0, .int .i64 x1, .int .i64 x2] κ = qaq.f (k + 1) x0 x1 x2 (fun o0=>κ (.ret (.slice o0))):=
 (qaq.u1.ok k x0 x1 x2 (retK T qaq.res κ)).trans (by kernel_rfl)
theorem qaq.code:qaq.c.code = jt Tryd.f38:=by kernel_rfl
noncomputable def qae.c:IC:=qae.u1.c
noncomputable def qae.res:List ResultVar:=[(.tmp 6)]
theorem qae.u1.ok (k:Nat) (x0:Sl) (x1 x2:Int) (K:KF α) :
  eC k qae.u1.c (fr28 x0 x1 x2) K =
   qae.u1.f k x0 x1 x2 (fun y0=>K .ret (fr27 y0)):=by kernel_rfl
theorem qae.ok (k:Nat) (x0:Sl) (x1 x2:Int) (κ:Res->M α) :
  evF T (env k) k qae.c qae.res [.slice x0, .int .i64 x1, .int .i64 x2] κ = qae.f (k + 1) x0 x1 x2 (fun o0=>κ (.ret (.slice o0))):=
 (qae.u1.ok k x0 x1 x2 (retK T qae.res κ)).trans (by kernel_rfl)
theorem qae.code:qae.c.code = jt Tryd.f21:=by kernel_rfl
noncomputable def qc.c:IC:=qc.u30.c
noncomputable def qc.res:List ResultVar:=[(.tmp 2)]
theorem qc.u1.ok (k:Nat) (x0 x1 x2:Sl) (R:IC) (K:KF α) :
  eC k (qc.u1.c R) (za [(0, .agg [.slice x0, .slice x1, .slice x2])]) K =
   qc.u1.f k x0 x1 x2 (fun y0 y1=>eC k R (za [(1, .ptr (some y0)), (5, .slice y1)]) K) (fun y0=>K .ret (fr23 y0)):=by kernel_rfl
theorem qc.u2.ok (k:Nat) (x0:Ad) (x1:Sl) (R:IC) (K:KF α) :
  eC k (qc.u2.c R) (za [(1, .ptr (some x0)), (5, .slice x1)]) K =
   qc.u2.f k x0 x1 (fun y0 y1 y2 y3 y4=>eC k R (za [(1, .ptr (some y0)), (5, .slice y1), (29, .slice y2), (30, .int .i64 y3), (31, .int .i64 y4)]) K):=by kernel_rfl
theorem qc.u3.ok (k:Nat) (x0:Ad) (x1 x2:Sl) (x3 x4:Int) (R:IC) (K:KF α) :
  eC k (qc.u3.c R) (za [(1, .ptr (some x0)), (5, .slice x1), (29, .slice x2), (30, .int .i64 x3), (31, .int .i64 x4)]) K =
   qc.u3.f k x0 x1 x2 x3 x4 (fun y0 y1 y2 y3 y4=>eC k R (za [(1, .ptr (some y0)), (5, .slice y1), (29, .slice y2), (30, .int .i64 y3), (31, .int .i64 y4)]) K) (fun y0=>K (.exit 0) (fr29 y0)):=by kernel_rfl
theorem qc.u4.ok (k:Nat) (x0:Ad) (x1 x2:Sl) (x3 x4:Int) (R:IC) (K:KF α) :
  eC k (qc.u4.c R) (za [(1, .ptr (some x0)), (5, .slice x1), (29, .slice x2), (30, .int .i64 x3), (31, .int .i64 x4)]) K =
   qc.u4.f k x0 x1 x2 x3 x4 (fun y0 y1 y2 y3 y4 y5 y6=>eC k R (za [(1, .ptr (some y0)), (5, .slice y1), (6, .int .i64 y2), (7, .slice y3), (29, .slice y4), (30, .int .i64 y5), (31, .int .i64 y6)]) K):=by kernel_rfl
theorem qc.u5.ok (k:Nat) (x0:Ad) (x1:Sl) (x2:Int) (x3 x4:Sl) (x5 x6:Int) (R:IC) (K:KF α) :
  eC k (qc.u5.c R) (za [(1, .ptr (some x0)), (5, .slice x1), (6, .int .i64 x2), (7, .slice x3), (29, .slice x4), (30, .int .i64 x5), (31, .int .i64 x6)]) K =
   qc.u5.f k x0 x1 x2 x3 x4 x5 x6 (fun y0 y1 y2 y3 y4 y5 y6 y7 y8=>eC k R (za [(1, .ptr (some y0)), (5, .slice y1), (7, .slice y2), (29, .slice y3), (30, .int .i64 y4), (31, .int .i64 y5), (47, .slice y6), (48, .int .i64 y7), (49, .int .i64 y8)]) K):=by kernel_rfl
theorem qc.u6.ok (k:Nat) (x0:Ad) (x1 x2 x3:Sl) (x4 x5:Int) (x6:Sl) (x7 x8:Int) (K:KF α) :
  eC k qc.u6.c (za [(1, .ptr (some x0)), (5, .slice x1), (7, .slice x2), (29, .slice x3), (30, .int .i64 x4), (31, .int .i64 x5), (47, .slice x6), (48, .int .i64 x7), (49, .int .i64 x8)]) K =
   qc.u6.f k x0 x1 x2 x3 x4 x5 x6 x7 x8 (fun y0 y1 y2 y3 y4 y5 y6 y7 y8=>K .normal (za [(1, .ptr (some y0)), (5, .slice y1), (7, .slice y2), (29, .slice y3), (30, .int .i64 y4), (31, .int .i64 y5), (47, .slice y6), (48, .int .i64 y7), (49, .int .i64 y8)])) (fun y0 y1 y2 y3 y4 y5=>K (.exit 2) (za [(1, .ptr (some y0)), (5, .slice y1), (7, .slice y2), (29, .slice y3), (30, .int .i64 y4), (31, .int .i64 y5)])):=by kernel_rfl
theorem qc.u7.ls (k:Nat) (kx2:Ad->Sl->Sl->Sl->Int->Int->M α) (j:Nat) (x0:Ad) (x1 x2 x3:Sl) (x4 x5:Int) (x6:Sl) (x7 x8:Int):qc.u7.l k kx2 (j + 1) x0 x1 x2 x3 x4 x5 x6 x7 x8 =
 qc.u6.f k x0 x1 x2 x3 x4 x5 x6 x7 x8 (fun y0 y1 y2 y3 y4 y5 y6 y7 y8=>qc.u7.l k kx2 j y0 y1 y2 y3 y4 y5 y6 y7 y8) kx2:=rfl
theorem qc.u7.okl (k:Nat) (K:KF α):∀ (j:Nat) (x0:Ad) (x1 x2 x3:Sl) (x4 x5:Int) (x6:Sl) (x7 x8:Int),
  zx (eC k qc.u6.c) [1, 5, 7, 29, 30, 31, 47, 48, 49] j (za [(1, .ptr (some x0)), (5, .slice x1), (7, .slice x2), (29, .slice x3), (30, .int .i64 x4), (31, .int .i64 x5), (47, .slice x6), (48, .int .i64 x7), (49, .int .i64 x8)]) K = qc.u7.l k (fun y0 y1 y2 y3 y4 y5=>K (.exit 2) (za [(1, .ptr (some y0)), (5, .slice y1), (7, .slice y2), (29, .slice y3), (30, .int .i64 y4), (31, .int .i64 y5)])) j x0 x1 x2 x3 x4 x5 x6 x7 x8
 | 0, _, _, _, _, _, _, _, _, _=>rfl
 | j + 1, x0, x1, x2, x3, x4, x5, x6, x7, x8=>by
   have h:=qc.u6.ok k x0 x1 x2 x3 x4 x5 x6 x7 x8 (seqK (fun ρ=>zx (eC k qc.u6.c) [1, 5, 7, 29, 30, 31, 47, 48, 49] j ρ K) K)
   simp only [zi, zm, zn, zg, qc.u7.okl k K j] at h
   exact (zz (by kernel_rfl) h).trans (qc.u7.ls k (fun y0 y1 y2 y3 y4 y5=>K (.exit 2) (za [(1, .ptr (some y0)), (5, .slice y1), (7, .slice y2), (29, .slice y3), (30, .int .i64 y4), (31, .int .i64 y5)])) j x0 x1 x2 x3 x4 x5 x6 x7 x8).symm
theorem qc.u7.ok (k:Nat) (x0:Ad) (x1 x2 x3:Sl) (x4 x5:Int) (x6:Sl) (x7 x8:Int) (K:KF α) :
  eC k qc.u7.c (za [(1, .ptr (some x0)), (5, .slice x1), (7, .slice x2), (29, .slice x3), (30, .int .i64 x4), (31, .int .i64 x5), (47, .slice x6), (48, .int .i64 x7), (49, .int .i64 x8)]) K =
   qc.u7.f k x0 x1 x2 x3 x4 x5 x6 x7 x8 (fun y0 y1 y2 y3 y4 y5=>K (.exit 2) (za [(1, .ptr (some y0)), (5, .slice y1), (7, .slice y2), (29, .slice y3), (30, .int .i64 y4), (31, .int .i64 y5)])):=
 ya.trans <| (jb (body:=eC k qc.u6.c) (keep:=[1, 5, 7, 29, 30, 31, 47, 48, 49]) (ρ:=(za [(1, .ptr (some x0)), (5, .slice x1), (7, .slice x2), (29, .slice x3), (30, .int .i64 x4), (31, .int .i64 x5), (47, .slice x6), (48, .int .i64 x7), (49, .int .i64 x8)])) (ρ':=(za [(1, .ptr (some x0)), (5, .slice x1), (7, .slice x2), (29, .slice x3), (30, .int .i64 x4), (31, .int .i64 x5), (47, .slice x6), (48, .int .i64 x7), (49, .int .i64 x8)])) (by kernel_rfl) k K).trans (qc.u7.okl k K k x0 x1 x2 x3 x4 x5 x6 x7 x8)
theorem qc.u8.ok (k:Nat) (x0:Ad) (x1 x2 x3:Sl) (x4 x5:Int) (x6:Sl) (x7 x8:Int) (K:KF α) :
  eC k qc.u8.c (za [(1, .ptr (some x0)), (5, .slice x1), (7, .slice x2), (29, .slice x3), (30, .int .i64 x4), (31, .int .i64 x5), (47, .slice x6), (48, .int .i64 x7), (49, .int .i64 x8)]) K =
   qc.u8.f k x0 x1 x2 x3 x4 x5 x6 x7 x8 (fun y0 y1 y2 y3 y4 y5=>K .normal (za [(1, .ptr (some y0)), (5, .slice y1), (7, .slice y2), (29, .slice y3), (30, .int .i64 y4), (31, .int .i64 y5)])):=
 (zw.trans (qc.u7.ok k x0 x1 x2 x3 x4 x5 x6 x7 x8 (jz 2 K))).trans (by kernel_rfl)
theorem qc.u9.ok (k:Nat) (x0:Ad) (x1:Sl) (x2:Int) (x3 x4:Sl) (x5 x6:Int) (K:KF α) :
  eC k qc.u9.c (za [(1, .ptr (some x0)), (5, .slice x1), (6, .int .i64 x2), (7, .slice x3), (29, .slice x4), (30, .int .i64 x5), (31, .int .i64 x6)]) K =
   qc.u9.f k x0 x1 x2 x3 x4 x5 x6 (fun y0 y1 y2 y3 y4 y5=>K .normal (za [(1, .ptr (some y0)), (5, .slice y1), (7, .slice y2), (29, .slice y3), (30, .int .i64 y4), (31, .int .i64 y5)])):=
 (qc.u5.ok k x0 x1 x2 x3 x4 x5 x6 qc.u8.c K).trans
  (congrArg (fun z=>qc.u5.f k x0 x1 x2 x3 x4 x5 x6 z) (funext fun y0=>(funext fun y1=>(funext fun y2=>(funext fun y3=>(funext fun y4=>(funext fun y5=>(funext fun y6=>(funext fun y7=>(funext fun y8=>qc.u8.ok k y0 y1 y2 y3 y4 y5 y6 y7 y8 K))))))))))
theorem qc.u10.ok (k:Nat) (x0:Ad) (x1 x2 x3:Sl) (x4 x5:Int) (R:IC) (K:KF α) :
  eC k (qc.u10.c R) (za [(1, .ptr (some x0)), (5, .slice x1), (7, .slice x2), (29, .slice x3), (30, .int .i64 x4), (31, .int .i64 x5)]) K =
   qc.u10.f k x0 x1 x2 x3 x4 x5 (fun y0 y1 y2 y3 y4 y5=>eC k R (za [(1, .ptr (some y0)), (5, .slice y1), (7, .slice y2), (29, .slice y3), (30, .int .i64 y4), (31, .int .i64 y5)]) K):=by kernel_rfl
theorem qc.u11.ok (k:Nat) (x0:Ad) (x1 x2 x3:Sl) (x4 x5:Int) (R:IC) (K:KF α) :
  eC k (qc.u11.c R) (za [(1, .ptr (some x0)), (5, .slice x1), (7, .slice x2), (29, .slice x3), (30, .int .i64 x4), (31, .int .i64 x5)]) K =
   qc.u11.f k x0 x1 x2 x3 x4 x5 (fun y0 y1 y2 y3 y4 y5 y6 y7=>eC k R (za [(1, .ptr (some y0)), (5, .slice y1), (29, .slice y2), (30, .int .i64 y3), (31, .int .i64 y4), (62, .slice y5), (63, .int .i64 y6), (64, .int .i64 y7)]) K):=by kernel_rfl
theorem qc.u12.ok (k:Nat) (x0:Ad) (x1 x2:Sl) (x3 x4:Int) (x5:Sl) (x6 x7:Int) (K:KF α) :
  eC k qc.u12.c (za [(1, .ptr (some x0)), (5, .slice x1), (29, .slice x2), (30, .int .i64 x3), (31, .int .i64 x4), (62, .slice x5), (63, .int .i64 x6), (64, .int .i64 x7)]) K =
   qc.u12.f k x0 x1 x2 x3 x4 x5 x6 x7 (fun y0 y1 y2 y3 y4 y5 y6 y7=>K .normal (za [(1, .ptr (some y0)), (5, .slice y1), (29, .slice y2), (30, .int .i64 y3), (31, .int .i64 y4), (62, .slice y5), (63, .int .i64 y6), (64, .int .i64 y7)])) (fun y0 y1 y2 y3 y4=>K (.exit 4) (za [(1, .ptr (some y0)), (5, .slice y1), (29, .slice y2), (30, .int .i64 y3), (31, .int .i64 y4)])):=by kernel_rfl
theorem qc.u13.ls (k:Nat) (kx4:Ad->Sl->Sl->Int->Int->M α) (j:Nat) (x0:Ad) (x1 x2:Sl) (x3 x4:Int) (x5:Sl) (x6 x7:Int):qc.u13.l k kx4 (j + 1) x0 x1 x2 x3 x4 x5 x6 x7 =
 qc.u12.f k x0 x1 x2 x3 x4 x5 x6 x7 (fun y0 y1 y2 y3 y4 y5 y6 y7=>qc.u13.l k kx4 j y0 y1 y2 y3 y4 y5 y6 y7) kx4:=rfl
theorem qc.u13.okl (k:Nat) (K:KF α):∀ (j:Nat) (x0:Ad) (x1 x2:Sl) (x3 x4:Int) (x5:Sl) (x6 x7:Int),
  zx (eC k qc.u12.c) [1, 5, 29, 30, 31, 62, 63, 64] j (za [(1, .ptr (some x0)), (5, .slice x1), (29, .slice x2), (30, .int .i64 x3), (31, .int .i64 x4), (62, .slice x5), (63, .int .i64 x6), (64, .int .i64 x7)]) K = qc.u13.l k (fun y0 y1 y2 y3 y4=>K (.exit 4) (za [(1, .ptr (some y0)), (5, .slice y1), (29, .slice y2), (30, .int .i64 y3), (31, .int .i64 y4)])) j x0 x1 x2 x3 x4 x5 x6 x7
 | 0, _, _, _, _, _, _, _, _=>rfl
 | j + 1, x0, x1, x2, x3, x4, x5, x6, x7=>by
   have h:=qc.u12.ok k x0 x1 x2 x3 x4 x5 x6 x7 (seqK (fun ρ=>zx (eC k qc.u12.c) [1, 5, 29, 30, 31, 62, 63, 64] j ρ K) K)
   simp only [zi, zm, zn, zg, qc.u13.okl k K j] at h
   exact (zz (by kernel_rfl) h).trans (qc.u13.ls k (fun y0 y1 y2 y3 y4=>K (.exit 4) (za [(1, .ptr (some y0)), (5, .slice y1), (29, .slice y2), (30, .int .i64 y3), (31, .int .i64 y4)])) j x0 x1 x2 x3 x4 x5 x6 x7).symm
theorem qc.u13.ok (k:Nat) (x0:Ad) (x1 x2:Sl) (x3 x4:Int) (x5:Sl) (x6 x7:Int) (K:KF α) :
  eC k qc.u13.c (za [(1, .ptr (some x0)), (5, .slice x1), (29, .slice x2), (30, .int .i64 x3), (31, .int .i64 x4), (62, .slice x5), (63, .int .i64 x6), (64, .int .i64 x7)]) K =
   qc.u13.f k x0 x1 x2 x3 x4 x5 x6 x7 (fun y0 y1 y2 y3 y4=>K (.exit 4) (za [(1, .ptr (some y0)), (5, .slice y1), (29, .slice y2), (30, .int .i64 y3), (31, .int .i64 y4)])):=
 ya.trans <| (jb (body:=eC k qc.u12.c) (keep:=[1, 5, 29, 30, 31, 62, 63, 64]) (ρ:=(za [(1, .ptr (some x0)), (5, .slice x1), (29, .slice x2), (30, .int .i64 x3), (31, .int .i64 x4), (62, .slice x5), (63, .int .i64 x6), (64, .int .i64 x7)])) (ρ':=(za [(1, .ptr (some x0)), (5, .slice x1), (29, .slice x2), (30, .int .i64 x3), (31, .int .i64 x4), (62, .slice x5), (63, .int .i64 x6), (64, .int .i64 x7)])) (by kernel_rfl) k K).trans (qc.u13.okl k K k x0 x1 x2 x3 x4 x5 x6 x7)
theorem qc.u14.ok (k:Nat) (x0:Ad) (x1 x2:Sl) (x3 x4:Int) (x5:Sl) (x6 x7:Int) (K:KF α) :
  eC k qc.u14.c (za [(1, .ptr (some x0)), (5, .slice x1), (29, .slice x2), (30, .int .i64 x3), (31, .int .i64 x4), (62, .slice x5), (63, .int .i64 x6), (64, .int .i64 x7)]) K =
   qc.u14.f k x0 x1 x2 x3 x4 x5 x6 x7 (fun y0 y1 y2 y3 y4=>K .normal (za [(1, .ptr (some y0)), (5, .slice y1), (29, .slice y2), (30, .int .i64 y3), (31, .int .i64 y4)])):=
 (zw.trans (qc.u13.ok k x0 x1 x2 x3 x4 x5 x6 x7 (jz 4 K))).trans (by kernel_rfl)
theorem qc.u15.ok (k:Nat) (x0:Ad) (x1 x2 x3:Sl) (x4 x5:Int) (K:KF α) :
  eC k qc.u15.c (za [(1, .ptr (some x0)), (5, .slice x1), (7, .slice x2), (29, .slice x3), (30, .int .i64 x4), (31, .int .i64 x5)]) K =
   qc.u15.f k x0 x1 x2 x3 x4 x5 (fun y0 y1 y2 y3 y4=>K .normal (za [(1, .ptr (some y0)), (5, .slice y1), (29, .slice y2), (30, .int .i64 y3), (31, .int .i64 y4)])):=
 (qc.u11.ok k x0 x1 x2 x3 x4 x5 qc.u14.c K).trans
  (congrArg (fun z=>qc.u11.f k x0 x1 x2 x3 x4 x5 z) (funext fun y0=>(funext fun y1=>(funext fun y2=>(funext fun y3=>(funext fun y4=>(funext fun y5=>(funext fun y6=>(funext fun y7=>qc.u14.ok k y0 y1 y2 y3 y4 y5 y6 y7 K)))))))))
theorem qc.u16.ok (k:Nat) (x0:Ad) (x1 x2:Sl) (x3 x4:Int) (K:KF α) :
  eC k qc.u16.c (za [(1, .ptr (some x0)), (5, .slice x1), (29, .slice x2), (30, .int .i64 x3), (31, .int .i64 x4)]) K =
   qc.u16.f k x0 x1 x2 x3 x4 (fun y0 y1 y2 y3 y4=>K .normal (za [(1, .ptr (some y0)), (5, .slice y1), (29, .slice y2), (30, .int .i64 y3), (31, .int .i64 y4)])):=by kernel_rfl
theorem qc.u17.ok (k:Nat) (x0:Ad) (x1 x2 x3:Sl) (x4 x5:Int) (K:KF α) :
  eC k qc.u17.c (za [(1, .ptr (some x0)), (5, .slice x1), (7, .slice x2), (29, .slice x3), (30, .int .i64 x4), (31, .int .i64 x5)]) K =
   qc.u17.f k x0 x1 x2 x3 x4 x5 (fun y0 y1 y2 y3 y4=>K .normal (za [(1, .ptr (some y0)), (5, .slice y1), (29, .slice y2), (30, .int .i64 y3), (31, .int .i64 y4)])):=
 by
  have h:=qc.u15.ok k x0 x1 x2 x3 x4 x5 (seqK (fun ρ=>eC k qc.u16.c ρ K) K)
  simp only [zg, zi, zm, zn, qc.u16.ok] at h
  exact jc h
theorem qc.u18.ok (k:Nat) (x0:Ad) (x1 x2 x3:Sl) (x4 x5:Int) (K:KF α) :
  eC k qc.u18.c (za [(1, .ptr (some x0)), (5, .slice x1), (7, .slice x2), (29, .slice x3), (30, .int .i64 x4), (31, .int .i64 x5)]) K =
   qc.u18.f k x0 x1 x2 x3 x4 x5 (fun y0 y1 y2 y3 y4=>K .normal (za [(1, .ptr (some y0)), (5, .slice y1), (29, .slice y2), (30, .int .i64 y3), (31, .int .i64 y4)])):=
 (qc.u10.ok k x0 x1 x2 x3 x4 x5 qc.u17.c K).trans
  (congrArg (fun z=>qc.u10.f k x0 x1 x2 x3 x4 x5 z) (funext fun y0=>(funext fun y1=>(funext fun y2=>(funext fun y3=>(funext fun y4=>(funext fun y5=>qc.u17.ok k y0 y1 y2 y3 y4 y5 K)))))))
theorem qc.u19.ok (k:Nat) (x0:Ad) (x1:Sl) (x2:Int) (x3 x4:Sl) (x5 x6:Int) (K:KF α) :
  eC k qc.u19.c (za [(1, .ptr (some x0)), (5, .slice x1), (6, .int .i64 x2), (7, .slice x3), (29, .slice x4), (30, .int .i64 x5), (31, .int .i64 x6)]) K =
   qc.u19.f k x0 x1 x2 x3 x4 x5 x6 (fun y0 y1 y2 y3 y4=>K .normal (za [(1, .ptr (some y0)), (5, .slice y1), (29, .slice y2), (30, .int .i64 y3), (31, .int .i64 y4)])):=
 by
  have h:=qc.u9.ok k x0 x1 x2 x3 x4 x5 x6 (seqK (fun ρ=>eC k qc.u18.c ρ K) K)
  simp only [zg, zi, zm, zn, qc.u18.ok] at h
  exact jc h
theorem qc.u20.ok (k:Nat) (x0:Ad) (x1 x2:Sl) (x3 x4:Int) (K:KF α) :
  eC k qc.u20.c (za [(1, .ptr (some x0)), (5, .slice x1), (29, .slice x2), (30, .int .i64 x3), (31, .int .i64 x4)]) K =
   qc.u20.f k x0 x1 x2 x3 x4 (fun y0 y1 y2 y3 y4=>K .normal (za [(1, .ptr (some y0)), (5, .slice y1), (29, .slice y2), (30, .int .i64 y3), (31, .int .i64 y4)])):=
 (qc.u4.ok k x0 x1 x2 x3 x4 qc.u19.c K).trans
  (congrArg (fun z=>qc.u4.f k x0 x1 x2 x3 x4 z) (funext fun y0=>(funext fun y1=>(funext fun y2=>(funext fun y3=>(funext fun y4=>(funext fun y5=>(funext fun y6=>qc.u19.ok k y0 y1 y2 y3 y4 y5 y6 K))))))))
theorem qc.u21.ok (k:Nat) (x0:Ad) (x1 x2:Sl) (x3 x4:Int) (K:KF α) :
  eC k qc.u21.c (za [(1, .ptr (some x0)), (5, .slice x1), (29, .slice x2), (30, .int .i64 x3), (31, .int .i64 x4)]) K =
   qc.u21.f k x0 x1 x2 x3 x4 (fun y0 y1 y2 y3 y4=>K .normal (za [(1, .ptr (some y0)), (5, .slice y1), (29, .slice y2), (30, .int .i64 y3), (31, .int .i64 y4)])):=
 (zw.trans (qc.u20.ok k x0 x1 x2 x3 x4 (jz 1 K))).trans (by kernel_rfl)
theorem qc.u22.ok (k:Nat) (x0:Ad) (x1 x2:Sl) (x3 x4:Int) (K:KF α) :
  eC k qc.u22.c (za [(1, .ptr (some x0)), (5, .slice x1), (29, .slice x2), (30, .int .i64 x3), (31, .int .i64 x4)]) K =
   qc.u22.f k x0 x1 x2 x3 x4 (fun y0 y1 y2 y3 y4=>K .normal (za [(1, .ptr (some y0)), (5, .slice y1), (29, .slice y2), (30, .int .i64 y3), (31, .int .i64 y4)])):=by kernel_rfl
theorem qc.u23.ok (k:Nat) (x0:Ad) (x1 x2:Sl) (x3 x4:Int) (K:KF α) :
  eC k qc.u23.c (za [(1, .ptr (some x0)), (5, .slice x1), (29, .slice x2), (30, .int .i64 x3), (31, .int .i64 x4)]) K =
   qc.u23.f k x0 x1 x2 x3 x4 (fun y0 y1 y2 y3 y4=>K .normal (za [(1, .ptr (some y0)), (5, .slice y1), (29, .slice y2), (30, .int .i64 y3), (31, .int .i64 y4)])):=
 by
  have h:=qc.u21.ok k x0 x1 x2 x3 x4 (seqK (fun ρ=>eC k qc.u22.c ρ K) K)
  simp only [zg, zi, zm, zn, qc.u22.ok] at h
  exact jc h
theorem qc.u24.ok (k:Nat) (x0:Ad) (x1 x2:Sl) (x3 x4:Int) (K:KF α) :
  eC k qc.u24.c (za [(1, .ptr (some x0)), (5, .slice x1), (29, .slice x2), (30, .int .i64 x3), (31, .int .i64 x4)]) K =
   qc.u24.f k x0 x1 x2 x3 x4 (fun y0 y1 y2 y3 y4=>K .normal (za [(1, .ptr (some y0)), (5, .slice y1), (29, .slice y2), (30, .int .i64 y3), (31, .int .i64 y4)])) (fun y0=>K (.exit 0) (fr29 y0)):=
 (qc.u3.ok k x0 x1 x2 x3 x4 qc.u23.c K).trans
  (congrArg (fun z=>qc.u3.f k x0 x1 x2 x3 x4 z (fun y0=>K (.exit 0) (fr29 y0))) (funext fun y0=>(funext fun y1=>(funext fun y2=>(funext fun y3=>(funext fun y4=>qc.u23.ok k y0 y1 y2 y3 y4 K))))))
theorem qc.u25.ls (k:Nat) (kx0:Sl->M α) (j:Nat) (x0:Ad) (x1 x2:Sl) (x3 x4:Int):qc.u25.l k kx0 (j + 1) x0 x1 x2 x3 x4 =
 qc.u24.f k x0 x1 x2 x3 x4 (fun y0 y1 y2 y3 y4=>qc.u25.l k kx0 j y0 y1 y2 y3 y4) kx0:=rfl
theorem qc.u25.okl (k:Nat) (K:KF α):∀ (j:Nat) (x0:Ad) (x1 x2:Sl) (x3 x4:Int),
  zx (eC k qc.u24.c) [1, 5, 29, 30, 31] j (za [(1, .ptr (some x0)), (5, .slice x1), (29, .slice x2), (30, .int .i64 x3), (31, .int .i64 x4)]) K = qc.u25.l k (fun y0=>K (.exit 0) (fr29 y0)) j x0 x1 x2 x3 x4
 | 0, _, _, _, _, _=>rfl
 | j + 1, x0, x1, x2, x3, x4=>by
   have h:=qc.u24.ok k x0 x1 x2 x3 x4 (seqK (fun ρ=>zx (eC k qc.u24.c) [1, 5, 29, 30, 31] j ρ K) K)
   simp only [zi, zm, zn, zg, qc.u25.okl k K j] at h
   exact (zz (by kernel_rfl) h).trans (qc.u25.ls k (fun y0=>K (.exit 0) (fr29 y0)) j x0 x1 x2 x3 x4).symm
theorem qc.u25.ok (k:Nat) (x0:Ad) (x1 x2:Sl) (x3 x4:Int) (K:KF α) :
  eC k qc.u25.c (za [(1, .ptr (some x0)), (5, .slice x1), (29, .slice x2), (30, .int .i64 x3), (31, .int .i64 x4)]) K =
   qc.u25.f k x0 x1 x2 x3 x4 (fun y0=>K (.exit 0) (fr29 y0)):=
 ya.trans <| (jb (body:=eC k qc.u24.c) (keep:=[1, 5, 29, 30, 31]) (ρ:=(za [(1, .ptr (some x0)), (5, .slice x1), (29, .slice x2), (30, .int .i64 x3), (31, .int .i64 x4)])) (ρ':=(za [(1, .ptr (some x0)), (5, .slice x1), (29, .slice x2), (30, .int .i64 x3), (31, .int .i64 x4)])) (by kernel_rfl) k K).trans (qc.u25.okl k K k x0 x1 x2 x3 x4)
theorem qc.u26.ok (k:Nat) (x0:Ad) (x1 x2:Sl) (x3 x4:Int) (K:KF α) :
  eC k qc.u26.c (za [(1, .ptr (some x0)), (5, .slice x1), (29, .slice x2), (30, .int .i64 x3), (31, .int .i64 x4)]) K =
   qc.u26.f k x0 x1 x2 x3 x4 (fun y0=>K .normal (fr29 y0)):=
 (zw.trans (qc.u25.ok k x0 x1 x2 x3 x4 (jz 0 K))).trans (by kernel_rfl)
theorem qc.u27.ok (k:Nat) (x0:Ad) (x1:Sl) (K:KF α) :
  eC k qc.u27.c (za [(1, .ptr (some x0)), (5, .slice x1)]) K =
   qc.u27.f k x0 x1 (fun y0=>K .normal (fr29 y0)):=
 (qc.u2.ok k x0 x1 qc.u26.c K).trans
  (congrArg (fun z=>qc.u2.f k x0 x1 z) (funext fun y0=>(funext fun y1=>(funext fun y2=>(funext fun y3=>(funext fun y4=>qc.u26.ok k y0 y1 y2 y3 y4 K))))))
theorem qc.u28.ok (k:Nat) (x0:Sl) (K:KF α) :
  eC k qc.u28.c (fr29 x0) K =
   qc.u28.f k x0 (fun y0=>K .ret (fr23 y0)):=by kernel_rfl
theorem qc.u29.ok (k:Nat) (x0:Ad) (x1:Sl) (K:KF α) :
  eC k qc.u29.c (za [(1, .ptr (some x0)), (5, .slice x1)]) K =
   qc.u29.f k x0 x1 (fun y0=>K .ret (fr23 y0)):=
 by
  have h:=qc.u27.ok k x0 x1 (seqK (fun ρ=>eC k qc.u28.c ρ K) K)
  simp only [zg, zi, zm, zn, qc.u28.ok] at h
  exact jc h
theorem qc.u30.ok (k:Nat) (x0 x1 x2:Sl) (K:KF α) :
  eC k qc.u30.c (za [(0, .agg [.slice x0, .slice x1, .slice x2])]) K =
   qc.u30.f k x0 x1 x2 (fun y0=>K .ret (fr23 y0)):=
 (qc.u1.ok k x0 x1 x2 qc.u29.c K).trans
  (congrArg (fun z=>qc.u1.f k x0 x1 x2 z (fun y0=>K .ret (fr23 y0))) (funext fun y0=>(funext fun y1=>qc.u29.ok k y0 y1 K)))
theorem qc.ok (k:Nat) (x0 x1 x2:Sl) (κ:Res->M α) :
  evF T (env k) k qc.c qc.res [.agg [.slice x0, .slice x1, .slice x2]] κ = qc.f (k + 1) x0 x1 x2 (fun o0=>κ (.ret (.str o0))):=
 (qc.u30.ok k x0 x1 x2 (retK T qc.res κ)).trans (by kernel_rfl)
theorem qc.code:qc.c.code = jt Tryd.f12:=by kernel_rfl
noncomputable def qal.c:IC:=qal.u1.c
noncomputable def qal.res:List ResultVar:=[(.tmp 0)]
theorem qal.u1.ok (k:Nat) (K:KF α) :
  eC k qal.u1.c (za []) K =
   qal.u1.f k (fun y0=>K .ret (fr30 y0)):=by kernel_rfl
theorem qal.ok (k:Nat) (κ:Res->M α) :
  evF T (env k) k qal.c qal.res [] κ = qal.f (k + 1) (fun o0=>κ (.ret (.bool o0))):=
 (qal.u1.ok k (retK T qal.res κ)).trans (by kernel_rfl)
theorem qal.code:qal.c.code = jt Tryd.f10:=by kernel_rfl
noncomputable def qak.c:IC:=qak.u1.c
noncomputable def qak.res:List ResultVar:=[(.tmp 2)]
theorem qak.u1.ok (k:Nat) (x0:Int) (K:KF α) :
  eC k qak.u1.c (fr2 x0) K =
   qak.u1.f k x0 (fun y0=>K .ret (fr31 y0)):=by kernel_rfl
theorem qak.ok (k:Nat) (x0:Int) (κ:Res->M α) :
  evF T (env k) k qak.c qak.res [.int .u8 x0] κ = qak.f (k + 1) x0 (fun o0=>κ (.ret (.bool o0))):=
 (qak.u1.ok k x0 (retK T qak.res κ)).trans (by kernel_rfl)
theorem qak.code:qak.c.code = jt Tryd.f55:=by kernel_rfl
noncomputable def qaj.c:IC:=qaj.u1.c
noncomputable def qaj.res:List ResultVar:=[(.tmp 2)]
theorem qaj.u1.ok (k:Nat) (x0:Int) (K:KF α) :
  eC k qaj.u1.c (fr2 x0) K =
   qaj.u1.f k x0 (fun y0=>K .ret (fr31 y0)):=by kernel_rfl
theorem qaj.ok (k:Nat) (x0:Int) (κ:Res->M α) :
  evF T (env k) k qaj.c qaj.res [.int .u8 x0] κ = qaj.f (k + 1) x0 (fun o0=>κ (.ret (.bool o0))):=
 (qaj.u1.ok k x0 (retK T qaj.res κ)).trans (by kernel_rfl)
theorem qaj.code:qaj.c.code = jt Tryd.f56:=by kernel_rfl
noncomputable def qai.c:IC:=qai.u1.c
noncomputable def qai.res:List ResultVar:=[(.tmp 2)]
theorem qai.u1.ok (k:Nat) (x0:Int) (K:KF α) :
  eC k qai.u1.c (fr2 x0) K =
   qai.u1.f k x0 (fun y0=>K .ret (fr31 y0)):=by kernel_rfl
theorem qai.ok (k:Nat) (x0:Int) (κ:Res->M α) :
  evF T (env k) k qai.c qai.res [.int .u8 x0] κ = qai.f (k + 1) x0 (fun o0=>κ (.ret (.bool o0))):=
 (qai.u1.ok k x0 (retK T qai.res κ)).trans (by kernel_rfl)
theorem qai.code:qai.c.code = jt Tryd.f57:=by kernel_rfl
noncomputable def qan.c:IC:=qan.u1.c
noncomputable def qan.res:List ResultVar:=[(.tmp 2)]
theorem qan.u1.ok (k:Nat) (x0:Int) (K:KF α) :
  eC k qan.u1.c (fr2 x0) K =
   qan.u1.f k x0 (fun y0=>K .ret (fr31 y0)):=by kernel_rfl
theorem qan.ok (k:Nat) (x0:Int) (κ:Res->M α) :
  evF T (env k) k qan.c qan.res [.int .u8 x0] κ = qan.f (k + 1) x0 (fun o0=>κ (.ret (.bool o0))):=
 (qan.u1.ok k x0 (retK T qan.res κ)).trans (by kernel_rfl)
theorem qan.code:qan.c.code = jt Tryd.f68:=by kernel_rfl
noncomputable def qr.c:IC:=qr.u7.c
noncomputable def qr.res:List ResultVar:=[(.tmp 4)]
theorem qr.u1.ok (k:Nat) (x0:TX) (x1:Int) (R:IC) (K:KF α) :
  eC k (qr.u1.c R) (fr15 x0 x1) K =
   qr.u1.f k x0 x1 (fun y0 y1=>eC k R (fr32 y0 y1) K):=by kernel_rfl
theorem qr.u2.ok (k:Nat) (x0:TX) (x1:Int) (K:KF α) :
  eC k qr.u2.c (fr32 x0 x1) K =
   qr.u2.f k x0 x1 (fun y0 y1=>K .normal (fr32 y0 y1)) (fun y0=>K (.exit 0) (fr9 y0)):=by kernel_rfl
theorem qr.u3.ls (k:Nat) (kx0:Int->M α) (j:Nat) (x0:TX) (x1:Int):qr.u3.l k kx0 (j + 1) x0 x1 =
 qr.u2.f k x0 x1 (fun y0 y1=>qr.u3.l k kx0 j y0 y1) kx0:=rfl
theorem qr.u3.okl (k:Nat) (K:KF α):∀ (j:Nat) (x0:TX) (x1:Int),
  zx (eC k qr.u2.c) [0, 5] j (fr32 x0 x1) K = qr.u3.l k (fun y0=>K (.exit 0) (fr9 y0)) j x0 x1
 | 0, _, _=>rfl
 | j + 1, x0, x1=>by
   have h:=qr.u2.ok k x0 x1 (seqK (fun ρ=>zx (eC k qr.u2.c) [0, 5] j ρ K) K)
   simp only [zi, zm, zn, zg, qr.u3.okl k K j] at h
   exact (zz (by kernel_rfl) h).trans (qr.u3.ls k (fun y0=>K (.exit 0) (fr9 y0)) j x0 x1).symm
theorem qr.u3.ok (k:Nat) (x0:TX) (x1:Int) (K:KF α) :
  eC k qr.u3.c (fr32 x0 x1) K =
   qr.u3.f k x0 x1 (fun y0=>K (.exit 0) (fr9 y0)):=
 ya.trans <| (jb (body:=eC k qr.u2.c) (keep:=[0, 5]) (ρ:=(fr32 x0 x1)) (ρ':=(fr32 x0 x1)) (by kernel_rfl) k K).trans (qr.u3.okl k K k x0 x1)
theorem qr.u4.ok (k:Nat) (x0:TX) (x1:Int) (K:KF α) :
  eC k qr.u4.c (fr32 x0 x1) K =
   qr.u4.f k x0 x1 (fun y0=>K .normal (fr9 y0)):=
 (zw.trans (qr.u3.ok k x0 x1 (jz 0 K))).trans (by kernel_rfl)
theorem qr.u5.ok (k:Nat) (x0:Int) (K:KF α) :
  eC k qr.u5.c (fr9 x0) K =
   qr.u5.f k x0 (fun y0=>K .ret (fr1 y0)):=by kernel_rfl
theorem qr.u6.ok (k:Nat) (x0:TX) (x1:Int) (K:KF α) :
  eC k qr.u6.c (fr32 x0 x1) K =
   qr.u6.f k x0 x1 (fun y0=>K .ret (fr1 y0)):=
 by
  have h:=qr.u4.ok k x0 x1 (seqK (fun ρ=>eC k qr.u5.c ρ K) K)
  simp only [zg, zi, zm, zn, qr.u5.ok] at h
  exact jc h
theorem qr.u7.ok (k:Nat) (x0:TX) (x1:Int) (K:KF α) :
  eC k qr.u7.c (fr15 x0 x1) K =
   qr.u7.f k x0 x1 (fun y0=>K .ret (fr1 y0)):=
 (qr.u1.ok k x0 x1 qr.u6.c K).trans
  (congrArg (fun z=>qr.u1.f k x0 x1 z) (funext fun y0=>(funext fun y1=>qr.u6.ok k y0 y1 K)))
theorem qr.ok (k:Nat) (x0:TX) (x1:Int) (κ:Res->M α) :
  evF T (env k) k qr.c qr.res [.str x0, .int .i64 x1] κ = qr.f (k + 1) x0 x1 (fun o0=>κ (.ret (.int .i64 o0))):=
 (qr.u7.ok k x0 x1 (retK T qr.res κ)).trans (by kernel_rfl)
theorem qr.code:qr.c.code = jt Tryd.f58:=by kernel_rfl
noncomputable def qs.c:IC:=qs.u7.c
noncomputable def qs.res:List ResultVar:=[(.tmp 4), (.tmp 5)]
theorem qs.u1.ok (k:Nat) (x0:TX) (x1:Int) (R:IC) (K:KF α) :
  eC k (qs.u1.c R) (fr15 x0 x1) K =
   qs.u1.f k x0 x1 (fun y0 y1 y2=>eC k R (fr33 y0 y1 y2) K):=by kernel_rfl
theorem qs.u2.ok (k:Nat) (x0:TX) (x1 x2:Int) (K:KF α) :
  eC k qs.u2.c (fr33 x0 x1 x2) K =
   qs.u2.f k x0 x1 x2 (fun y0 y1 y2=>K .normal (fr33 y0 y1 y2)) (fun y0 y1=>K (.exit 0) (fr34 y0 y1)):=by kernel_rfl
theorem qs.u3.ls (k:Nat) (kx0:Int->Int->M α) (j:Nat) (x0:TX) (x1 x2:Int):qs.u3.l k kx0 (j + 1) x0 x1 x2 =
 qs.u2.f k x0 x1 x2 (fun y0 y1 y2=>qs.u3.l k kx0 j y0 y1 y2) kx0:=rfl
theorem qs.u3.okl (k:Nat) (K:KF α):∀ (j:Nat) (x0:TX) (x1 x2:Int),
  zx (eC k qs.u2.c) [0, 6, 7] j (fr33 x0 x1 x2) K = qs.u3.l k (fun y0 y1=>K (.exit 0) (fr34 y0 y1)) j x0 x1 x2
 | 0, _, _, _=>rfl
 | j + 1, x0, x1, x2=>by
   have h:=qs.u2.ok k x0 x1 x2 (seqK (fun ρ=>zx (eC k qs.u2.c) [0, 6, 7] j ρ K) K)
   simp only [zi, zm, zn, zg, qs.u3.okl k K j] at h
   exact (zz (by kernel_rfl) h).trans (qs.u3.ls k (fun y0 y1=>K (.exit 0) (fr34 y0 y1)) j x0 x1 x2).symm
theorem qs.u3.ok (k:Nat) (x0:TX) (x1 x2:Int) (K:KF α) :
  eC k qs.u3.c (fr33 x0 x1 x2) K =
   qs.u3.f k x0 x1 x2 (fun y0 y1=>K (.exit 0) (fr34 y0 y1)):=
 ya.trans <| (jb (body:=eC k qs.u2.c) (keep:=[0, 6, 7]) (ρ:=(fr33 x0 x1 x2)) (ρ':=(fr33 x0 x1 x2)) (by kernel_rfl) k K).trans (qs.u3.okl k K k x0 x1 x2)
theorem qs.u4.ok (k:Nat) (x0:TX) (x1 x2:Int) (K:KF α) :
  eC k qs.u4.c (fr33 x0 x1 x2) K =
   qs.u4.f k x0 x1 x2 (fun y0 y1=>K .normal (fr34 y0 y1)):=
 (zw.trans (qs.u3.ok k x0 x1 x2 (jz 0 K))).trans (by kernel_rfl)
theorem qs.u5.ok (k:Nat) (x0 x1:Int) (K:KF α) :
  eC k qs.u5.c (fr34 x0 x1) K =
   qs.u5.f k x0 x1 (fun y0 y1=>K .ret (fr35 y0 y1)):=by kernel_rfl
theorem qs.u6.ok (k:Nat) (x0:TX) (x1 x2:Int) (K:KF α) :
  eC k qs.u6.c (fr33 x0 x1 x2) K =
   qs.u6.f k x0 x1 x2 (fun y0 y1=>K .ret (fr35 y0 y1)):=
 by
  have h:=qs.u4.ok k x0 x1 x2 (seqK (fun ρ=>eC k qs.u5.c ρ K) K)
  simp only [zg, zi, zm, zn, qs.u5.ok] at h
  exact jc h
theorem qs.u7.ok (k:Nat) (x0:TX) (x1:Int) (K:KF α) :
  eC k qs.u7.c (fr15 x0 x1) K =
   qs.u7.f k x0 x1 (fun y0 y1=>K .ret (fr35 y0 y1)):=
 (qs.u1.ok k x0 x1 qs.u6.c K).trans
  (congrArg (fun z=>qs.u1.f k x0 x1 z) (funext fun y0=>(funext fun y1=>(funext fun y2=>qs.u6.ok k y0 y1 y2 K))))
theorem qs.ok (k:Nat) (x0:TX) (x1:Int) (κ:Res->M α) :
  evF T (env k) k qs.c qs.res [.str x0, .int .i64 x1] κ = qs.f (k + 1) x0 x1 (fun o0 o1=>κ (.ret (.tuple [.int .i64 o0, .int .i64 o1]))):=
 (qs.u7.ok k x0 x1 (retK T qs.res κ)).trans (by kernel_rfl)
theorem qs.code:qs.c.code = jt Tryd.f59:=by kernel_rfl
noncomputable def qw.c:IC:=qw.u1.c
noncomputable def qw.res:List ResultVar:=[(.cell 4 68), (.tmp 5)]
theorem qw.u1.ok (k:Nat) (x0:TX) (x1:Int) (K:KF α) :
  eC k qw.u1.c (fr15 x0 x1) K =
   qw.u1.f k x0 x1 (fun y0 y1=>K .ret (za [(4, .ptr (some y0)), (5, .int .i64 y1)])):=by kernel_rfl
theorem qw.ok (k:Nat) (x0:TX) (x1:Int) (κ:Res->M α) :
  evF T (env k) k qw.c qw.res [.str x0, .int .i64 x1] κ = qw.f (k + 1) x0 x1 (fun o0 o1 o2 o3 o4=>κ (.ret (.tuple [.agg [.int .i64 o0, .int .i64 o1, .str o2, .int .i64 o3], .int .i64 o4]))):=
 (qw.u1.ok k x0 x1 (retK T qw.res κ)).trans (by kernel_rfl)
theorem qw.code:qw.c.code = jt Tryd.f44:=by kernel_rfl
noncomputable def qd.c:IC:=qd.u27.c
noncomputable def qd.res:List ResultVar:=[(.tmp 2), (.tmp 3), (.tmp 4)]
theorem qd.u1.ok (k:Nat) (x0:TX) (R:IC) (K:KF α) :
  eC k (qd.u1.c R) (fr11 x0) K =
   qd.u1.f k x0 (fun y0 y1 y2=>eC k R (fr36 y0 y1 y2) K) (fun y0 y1 y2=>K .ret (fr37 y0 y1 y2)):=by kernel_rfl
theorem qd.u2.ok (k:Nat) (x0:TX) (x1:Sl) (x2:Int) (R:IC) (K:KF α) :
  eC k (qd.u2.c R) (fr36 x0 x1 x2) K =
   qd.u2.f k x0 x1 x2 (fun y0 y1 y2=>eC k R (fr36 y0 y1 y2) K) (fun y0 y1=>K (.exit 0) (fr38 y0 y1)):=by kernel_rfl
theorem qd.u3.ok (k:Nat) (x0:TX) (x1:Sl) (x2:Int) (R:IC) (K:KF α) :
  eC k (qd.u3.c R) (fr36 x0 x1 x2) K =
   qd.u3.f k x0 x1 x2 (fun y0 y1 y2 y3=>eC k R (fr39 y0 y1 y2 y3) K):=by kernel_rfl
theorem qd.u4.ok (k:Nat) (x0:TX) (x1:Sl) (x2 x3:Int) (R:IC) (K:KF α) :
  eC k (qd.u4.c R) (fr39 x0 x1 x2 x3) K =
   qd.u4.f k x0 x1 x2 x3 (fun y0 y1 y2 y3 y4=>eC k R (fr40 y0 y1 y2 y3 y4) K):=by kernel_rfl
theorem qd.u5.ok (k:Nat) (x0:TX) (x1:Sl) (x2 x3:Int) (x4:Bool) (K:KF α) :
  eC k qd.u5.c (fr40 x0 x1 x2 x3 x4) K =
   qd.u5.f k x0 x1 x2 x3 x4 (fun y0 y1 y2=>K (.exit 1) (fr36 y0 y1 y2)):=by kernel_rfl
theorem qd.u6.ok (k:Nat) (x0:TX) (x1:Sl) (x2 x3:Int) (x4:Bool) (R:IC) (K:KF α) :
  eC k (qd.u6.c R) (fr40 x0 x1 x2 x3 x4) K =
   qd.u6.f k x0 x1 x2 x3 x4 (fun y0 y1 y2 y3=>eC k R (fr41 y0 y1 y2 y3) K):=by kernel_rfl
theorem qd.u7.ok (k:Nat) (x0:TX) (x1:Sl) (x2:Int) (K:KF α) :
  eC k qd.u7.c (fr36 x0 x1 x2) K =
   qd.u7.f k x0 x1 x2 (fun y0 y1 y2=>K .normal (fr36 y0 y1 y2)) (fun y0 y1 y2=>K (.exit 3) (fr36 y0 y1 y2)):=by kernel_rfl
theorem qd.u8.ls (k:Nat) (kx3:TX->Sl->Int->M α) (j:Nat) (x0:TX) (x1:Sl) (x2:Int):qd.u8.l k kx3 (j + 1) x0 x1 x2 =
 qd.u7.f k x0 x1 x2 (fun y0 y1 y2=>qd.u8.l k kx3 j y0 y1 y2) kx3:=rfl
theorem qd.u8.okl (k:Nat) (K:KF α):∀ (j:Nat) (x0:TX) (x1:Sl) (x2:Int),
  zx (eC k qd.u7.c) [0, 5, 6] j (fr36 x0 x1 x2) K = qd.u8.l k (fun y0 y1 y2=>K (.exit 3) (fr36 y0 y1 y2)) j x0 x1 x2
 | 0, _, _, _=>rfl
 | j + 1, x0, x1, x2=>by
   have h:=qd.u7.ok k x0 x1 x2 (seqK (fun ρ=>zx (eC k qd.u7.c) [0, 5, 6] j ρ K) K)
   simp only [zi, zm, zn, zg, qd.u8.okl k K j] at h
   exact (zz (by kernel_rfl) h).trans (qd.u8.ls k (fun y0 y1 y2=>K (.exit 3) (fr36 y0 y1 y2)) j x0 x1 x2).symm
theorem qd.u8.ok (k:Nat) (x0:TX) (x1:Sl) (x2:Int) (x3:Bool) (K:KF α) :
  eC k qd.u8.c (fr41 x0 x1 x2 x3) K =
   qd.u8.f k x0 x1 x2 x3 (fun y0 y1 y2=>K (.exit 3) (fr36 y0 y1 y2)):=
 ya.trans <| (jb (body:=eC k qd.u7.c) (keep:=[0, 5, 6]) (ρ:=(fr41 x0 x1 x2 x3)) (ρ':=(fr36 x0 x1 x2)) (by kernel_rfl) k K).trans (qd.u8.okl k K k x0 x1 x2)
theorem qd.u9.ok (k:Nat) (x0:TX) (x1:Sl) (x2:Int) (x3:Bool) (K:KF α) :
  eC k qd.u9.c (fr41 x0 x1 x2 x3) K =
   qd.u9.f k x0 x1 x2 x3 (fun y0 y1 y2=>K .normal (fr36 y0 y1 y2)):=
 (zw.trans (qd.u8.ok k x0 x1 x2 x3 (jz 3 K))).trans (by kernel_rfl)
theorem qd.u10.ok (k:Nat) (x0:TX) (x1:Sl) (x2:Int) (K:KF α) :
  eC k qd.u10.c (fr36 x0 x1 x2) K =
   qd.u10.f k x0 x1 x2 (fun y0 y1 y2=>K (.exit 1) (fr36 y0 y1 y2)):=by kernel_rfl
theorem qd.u11.ok (k:Nat) (x0:TX) (x1:Sl) (x2:Int) (x3:Bool) (K:KF α) :
  eC k qd.u11.c (fr41 x0 x1 x2 x3) K =
   qd.u11.f k x0 x1 x2 x3 (fun y0 y1 y2=>K (.exit 1) (fr36 y0 y1 y2)):=
 by
  have h:=qd.u9.ok k x0 x1 x2 x3 (seqK (fun ρ=>eC k qd.u10.c ρ K) K)
  simp only [zg, zi, zm, zn, qd.u10.ok] at h
  exact jc h
theorem qd.u12.ok (k:Nat) (x0:TX) (x1:Sl) (x2:Int) (x3:Bool) (K:KF α) :
  eC k qd.u12.c (fr41 x0 x1 x2 x3) K =
   qd.u12.f k x0 x1 x2 x3 (fun y0 y1 y2=>K .normal (fr36 y0 y1 y2)):=by kernel_rfl
theorem qd.u13.ok (k:Nat) (x0:TX) (x1:Sl) (x2:Int) (x3:Bool) (K:KF α) :
  eC k qd.u13.c (fr41 x0 x1 x2 x3) K =
   qd.u13.f k x0 x1 x2 x3 (fun y0 y1 y2=>K .normal (fr36 y0 y1 y2)) (fun y0 y1 y2=>K (.exit 1) (fr36 y0 y1 y2)):=
 zbb (g:=x3) (by kernel_rfl) (qd.u11.ok k x0 x1 x2 x3 K) (qd.u12.ok k x0 x1 x2 x3 K)
theorem qd.u14.ok (k:Nat) (x0:TX) (x1:Sl) (x2 x3:Int) (x4:Bool) (K:KF α) :
  eC k qd.u14.c (fr40 x0 x1 x2 x3 x4) K =
   qd.u14.f k x0 x1 x2 x3 x4 (fun y0 y1 y2=>K .normal (fr36 y0 y1 y2)) (fun y0 y1 y2=>K (.exit 1) (fr36 y0 y1 y2)):=
 (qd.u6.ok k x0 x1 x2 x3 x4 qd.u13.c K).trans
  (congrArg (fun z=>qd.u6.f k x0 x1 x2 x3 x4 z) (funext fun y0=>(funext fun y1=>(funext fun y2=>(funext fun y3=>qd.u13.ok k y0 y1 y2 y3 K)))))
theorem qd.u15.ok (k:Nat) (x0:TX) (x1:Sl) (x2 x3:Int) (x4:Bool) (K:KF α) :
  eC k qd.u15.c (fr40 x0 x1 x2 x3 x4) K =
   qd.u15.f k x0 x1 x2 x3 x4 (fun y0 y1 y2=>K .normal (fr36 y0 y1 y2)) (fun y0 y1 y2=>K (.exit 1) (fr36 y0 y1 y2)):=
 zbb (g:=x4) (by kernel_rfl) (qd.u5.ok k x0 x1 x2 x3 x4 K) (qd.u14.ok k x0 x1 x2 x3 x4 K)
theorem qd.u16.ok (k:Nat) (x0:TX) (x1:Sl) (x2 x3:Int) (K:KF α) :
  eC k qd.u16.c (fr39 x0 x1 x2 x3) K =
   qd.u16.f k x0 x1 x2 x3 (fun y0 y1 y2=>K .normal (fr36 y0 y1 y2)) (fun y0 y1 y2=>K (.exit 1) (fr36 y0 y1 y2)):=
 (qd.u4.ok k x0 x1 x2 x3 qd.u15.c K).trans
  (congrArg (fun z=>qd.u4.f k x0 x1 x2 x3 z) (funext fun y0=>(funext fun y1=>(funext fun y2=>(funext fun y3=>(funext fun y4=>qd.u15.ok k y0 y1 y2 y3 y4 K))))))
theorem qd.u17.ok (k:Nat) (x0:TX) (x1:Sl) (x2 x3:Int) (K:KF α) :
  eC k qd.u17.c (fr39 x0 x1 x2 x3) K =
   qd.u17.f k x0 x1 x2 x3 (fun y0 y1 y2=>K .normal (fr36 y0 y1 y2)) (fun y0 y1 y2=>K (.exit 1) (fr36 y0 y1 y2)):=
 (zw.trans (qd.u16.ok k x0 x1 x2 x3 (jz 2 K))).trans (by kernel_rfl)
theorem qd.u18.ok (k:Nat) (x0:TX) (x1:Sl) (x2:Int) (K:KF α) :
  eC k qd.u18.c (fr36 x0 x1 x2) K =
   qd.u18.f k x0 x1 x2 (fun y0 y1 y2=>K .normal (fr36 y0 y1 y2)) (fun y0 y1 y2=>K (.exit 1) (fr36 y0 y1 y2)):=
 (qd.u3.ok k x0 x1 x2 qd.u17.c K).trans
  (congrArg (fun z=>qd.u3.f k x0 x1 x2 z) (funext fun y0=>(funext fun y1=>(funext fun y2=>(funext fun y3=>qd.u17.ok k y0 y1 y2 y3 K)))))
theorem qd.u19.ok (k:Nat) (x0:TX) (x1:Sl) (x2:Int) (K:KF α) :
  eC k qd.u19.c (fr36 x0 x1 x2) K =
   qd.u19.f k x0 x1 x2 (fun y0 y1 y2=>K .normal (fr36 y0 y1 y2)) (fun y0 y1 y2=>K .ret (fr37 y0 y1 y2)):=by kernel_rfl
theorem qd.u20.ok (k:Nat) (x0:TX) (x1:Sl) (x2:Int) (K:KF α) :
  eC k qd.u20.c (fr36 x0 x1 x2) K =
   qd.u20.f k x0 x1 x2 (fun y0 y1 y2=>K .normal (fr36 y0 y1 y2)) (fun y0 y1 y2=>K .ret (fr37 y0 y1 y2)) (fun y0 y1 y2=>K (.exit 1) (fr36 y0 y1 y2)):=
 by
  have h:=qd.u18.ok k x0 x1 x2 (seqK (fun ρ=>eC k qd.u19.c ρ K) K)
  simp only [zg, zi, zm, zn, qd.u19.ok] at h
  exact jc h
theorem qd.u21.ok (k:Nat) (x0:TX) (x1:Sl) (x2:Int) (K:KF α) :
  eC k qd.u21.c (fr36 x0 x1 x2) K =
   qd.u21.f k x0 x1 x2 (fun y0 y1 y2=>K .normal (fr36 y0 y1 y2)) (fun y0 y1 y2=>K .ret (fr37 y0 y1 y2)):=
 (zw.trans (qd.u20.ok k x0 x1 x2 (jz 1 K))).trans (by kernel_rfl)
theorem qd.u22.ok (k:Nat) (x0:TX) (x1:Sl) (x2:Int) (K:KF α) :
  eC k qd.u22.c (fr36 x0 x1 x2) K =
   qd.u22.f k x0 x1 x2 (fun y0 y1 y2=>K .normal (fr36 y0 y1 y2)) (fun y0 y1 y2=>K .ret (fr37 y0 y1 y2)) (fun y0 y1=>K (.exit 0) (fr38 y0 y1)):=
 (qd.u2.ok k x0 x1 x2 qd.u21.c K).trans
  (congrArg (fun z=>qd.u2.f k x0 x1 x2 z (fun y0 y1=>K (.exit 0) (fr38 y0 y1))) (funext fun y0=>(funext fun y1=>(funext fun y2=>qd.u21.ok k y0 y1 y2 K))))
theorem qd.u23.ls (k:Nat) (kr:Sl->Int->Int->M α) (kx0:TX->Sl->M α) (j:Nat) (x0:TX) (x1:Sl) (x2:Int):qd.u23.l k kr kx0 (j + 1) x0 x1 x2 =
 qd.u22.f k x0 x1 x2 (fun y0 y1 y2=>qd.u23.l k kr kx0 j y0 y1 y2) kr kx0:=rfl
theorem qd.u23.okl (k:Nat) (K:KF α):∀ (j:Nat) (x0:TX) (x1:Sl) (x2:Int),
  zx (eC k qd.u22.c) [0, 5, 6] j (fr36 x0 x1 x2) K = qd.u23.l k (fun y0 y1 y2=>K .ret (fr37 y0 y1 y2)) (fun y0 y1=>K (.exit 0) (fr38 y0 y1)) j x0 x1 x2
 | 0, _, _, _=>rfl
 | j + 1, x0, x1, x2=>by
   have h:=qd.u22.ok k x0 x1 x2 (seqK (fun ρ=>zx (eC k qd.u22.c) [0, 5, 6] j ρ K) K)
   simp only [zi, zm, zn, zg, qd.u23.okl k K j] at h
   exact (zz (by kernel_rfl) h).trans (qd.u23.ls k (fun y0 y1 y2=>K .ret (fr37 y0 y1 y2)) (fun y0 y1=>K (.exit 0) (fr38 y0 y1)) j x0 x1 x2).symm
theorem qd.u23.ok (k:Nat) (x0:TX) (x1:Sl) (x2:Int) (K:KF α) :
  eC k qd.u23.c (fr36 x0 x1 x2) K =
   qd.u23.f k x0 x1 x2 (fun y0 y1 y2=>K .ret (fr37 y0 y1 y2)) (fun y0 y1=>K (.exit 0) (fr38 y0 y1)):=
 ya.trans <| (jb (body:=eC k qd.u22.c) (keep:=[0, 5, 6]) (ρ:=(fr36 x0 x1 x2)) (ρ':=(fr36 x0 x1 x2)) (by kernel_rfl) k K).trans (qd.u23.okl k K k x0 x1 x2)
theorem qd.u24.ok (k:Nat) (x0:TX) (x1:Sl) (x2:Int) (K:KF α) :
  eC k qd.u24.c (fr36 x0 x1 x2) K =
   qd.u24.f k x0 x1 x2 (fun y0 y1=>K .normal (fr38 y0 y1)) (fun y0 y1 y2=>K .ret (fr37 y0 y1 y2)):=
 (zw.trans (qd.u23.ok k x0 x1 x2 (jz 0 K))).trans (by kernel_rfl)
theorem qd.u25.ok (k:Nat) (x0:TX) (x1:Sl) (K:KF α) :
  eC k qd.u25.c (fr38 x0 x1) K =
   qd.u25.f k x0 x1 (fun y0 y1 y2=>K .ret (fr37 y0 y1 y2)):=by kernel_rfl
theorem qd.u26.ok (k:Nat) (x0:TX) (x1:Sl) (x2:Int) (K:KF α) :
  eC k qd.u26.c (fr36 x0 x1 x2) K =
   qd.u26.f k x0 x1 x2 (fun y0 y1 y2=>K .ret (fr37 y0 y1 y2)):=
 by
  have h:=qd.u24.ok k x0 x1 x2 (seqK (fun ρ=>eC k qd.u25.c ρ K) K)
  simp only [zg, zi, zm, zn, qd.u25.ok] at h
  exact jc h
theorem qd.u27.ok (k:Nat) (x0:TX) (K:KF α) :
  eC k qd.u27.c (fr11 x0) K =
   qd.u27.f k x0 (fun y0 y1 y2=>K .ret (fr37 y0 y1 y2)):=
 (qd.u1.ok k x0 qd.u26.c K).trans
  (congrArg (fun z=>qd.u1.f k x0 z (fun y0 y1 y2=>K .ret (fr37 y0 y1 y2))) (funext fun y0=>(funext fun y1=>(funext fun y2=>qd.u26.ok k y0 y1 y2 K))))
theorem qd.ok (k:Nat) (x0:TX) (κ:Res->M α) :
  evF T (env k) k qd.c qd.res [.str x0] κ = qd.f (k + 1) x0 (fun o0 o1 o2=>κ (.ret (.tuple [.slice o0, .int .i64 o1, .int .i64 o2]))):=
 (qd.u27.ok k x0 (retK T qd.res κ)).trans (by kernel_rfl)
theorem qd.code:qd.c.code = jt Tryd.f31:=by kernel_rfl
noncomputable def qt.c:IC:=qt.u3.c
noncomputable def qt.res:List ResultVar:=[]
theorem qt.u1.ok (k:Nat) (x0:Ad) (K:KF α) :
  eC k qt.u1.c (za [(0, .ptr (some x0))]) K =
   qt.u1.f k x0 (fun y0=>K .normal (za [(0, .ptr (some y0))])) (K (.exit 0) (za [])):=by kernel_rfl
theorem qt.u2.ls (k:Nat) (kx0:M α) (j:Nat) (x0:Ad):qt.u2.l k kx0 (j + 1) x0 =
 qt.u1.f k x0 (fun y0=>qt.u2.l k kx0 j y0) kx0:=rfl
theorem qt.u2.okl (k:Nat) (K:KF α):∀ (j:Nat) (x0:Ad),
  zx (eC k qt.u1.c) [0] j (za [(0, .ptr (some x0))]) K = qt.u2.l k (K (.exit 0) (za [])) j x0
 | 0, _=>rfl
 | j + 1, x0=>by
   have h:=qt.u1.ok k x0 (seqK (fun ρ=>zx (eC k qt.u1.c) [0] j ρ K) K)
   simp only [zi, zm, zn, zg, qt.u2.okl k K j] at h
   exact (zz (by kernel_rfl) h).trans (qt.u2.ls k (K (.exit 0) (za [])) j x0).symm
theorem qt.u2.ok (k:Nat) (x0:Ad) (K:KF α) :
  eC k qt.u2.c (za [(0, .ptr (some x0))]) K =
   qt.u2.f k x0 (K (.exit 0) (za [])):=
 ya.trans <| (jb (body:=eC k qt.u1.c) (keep:=[0]) (ρ:=(za [(0, .ptr (some x0))])) (ρ':=(za [(0, .ptr (some x0))])) (by kernel_rfl) k K).trans (qt.u2.okl k K k x0)
theorem qt.u3.ok (k:Nat) (x0:Ad) (K:KF α) :
  eC k qt.u3.c (za [(0, .ptr (some x0))]) K =
   qt.u3.f k x0 (K .normal (za [])):=
 (zw.trans (qt.u2.ok k x0 (jz 0 K))).trans (by kernel_rfl)
theorem qt.ok (k:Nat) (x0:Ad) (κ:Res->M α) :
  evF T (env k) k qt.c qt.res [.ptr (some x0)] κ = qt.f (k + 1) x0 (κ (.ret (.tuple []))):=
 (qt.u3.ok k x0 (retK T qt.res κ)).trans (by kernel_rfl)
theorem qt.code:qt.c.code = jt Tryd.f32:=by kernel_rfl
noncomputable def qaa.c:IC:=qaa.u1.c
noncomputable def qaa.res:List ResultVar:=[]
theorem qaa.u1.ok (k:Nat) (x0:Ad) (x1:Int) (K:KF α) :
  eC k qaa.u1.c (za [(0, .ptr (some x0)), (1, .int .i64 x1)]) K =
   qaa.u1.f k x0 x1 (K .normal (za [])):=by kernel_rfl
theorem qaa.ok (k:Nat) (x0:Ad) (x1:Int) (κ:Res->M α) :
  evF T (env k) k qaa.c qaa.res [.ptr (some x0), .int .i64 x1] κ = qaa.f (k + 1) x0 x1 (κ (.ret (.tuple []))):=
 (qaa.u1.ok k x0 x1 (retK T qaa.res κ)).trans (by kernel_rfl)
theorem qaa.code:qaa.c.code = jt Tryd.f36:=by kernel_rfl
noncomputable def qaf.c:IC:=qaf.u1.c
noncomputable def qaf.res:List ResultVar:=[]
theorem qaf.u1.ok (k:Nat) (x0:Ad) (K:KF α) :
  eC k qaf.u1.c (za [(0, .ptr (some x0))]) K =
   qaf.u1.f k x0 (K .normal (za [])):=by kernel_rfl
theorem qaf.ok (k:Nat) (x0:Ad) (κ:Res->M α) :
  evF T (env k) k qaf.c qaf.res [.ptr (some x0)] κ = qaf.f (k + 1) x0 (κ (.ret (.tuple []))):=
 (qaf.u1.ok k x0 (retK T qaf.res κ)).trans (by kernel_rfl)
theorem qaf.code:qaf.c.code = jt Tryd.f45:=by kernel_rfl
noncomputable def qv.c:IC:=qv.u1.c
noncomputable def qv.res:List ResultVar:=[(.tmp 6)]
theorem qv.u1.ok (k:Nat) (x0:Ad) (x1:Int) (x2:TX) (K:KF α) :
  eC k qv.u1.c (za [(0, .ptr (some x0)), (1, .int .i64 x1), (2, .str x2)]) K =
   qv.u1.f k x0 x1 x2 (fun y0=>K .ret (fr18 y0)):=by kernel_rfl
theorem qv.ok (k:Nat) (x0:Ad) (x1:Int) (x2:TX) (κ:Res->M α) :
  evF T (env k) k qv.c qv.res [.ptr (some x0), .int .i64 x1, .str x2] κ = qv.f (k + 1) x0 x1 x2 (fun o0=>κ (.ret (.int .i64 o0))):=
 (qv.u1.ok k x0 x1 x2 (retK T qv.res κ)).trans (by kernel_rfl)
theorem qv.code:qv.c.code = jt Tryd.f33:=by kernel_rfl
noncomputable def qab.c:IC:=qab.u1.c
noncomputable def qab.res:List ResultVar:=[(.tmp 8)]
theorem qab.u1.ok (k:Nat) (x0:Ad) (x1 x2 x3:Int) (K:KF α) :
  eC k qab.u1.c (za [(0, .ptr (some x0)), (1, .int .i64 x1), (2, .int .i64 x2), (3, .int .i64 x3)]) K =
   qab.u1.f k x0 x1 x2 x3 (fun y0=>K .ret (fr19 y0)):=by kernel_rfl
theorem qab.ok (k:Nat) (x0:Ad) (x1 x2 x3:Int) (κ:Res->M α) :
  evF T (env k) k qab.c qab.res [.ptr (some x0), .int .i64 x1, .int .i64 x2, .int .i64 x3] κ = qab.f (k + 1) x0 x1 x2 x3 (fun o0=>κ (.ret (.int .i64 o0))):=
 (qab.u1.ok k x0 x1 x2 x3 (retK T qab.res κ)).trans (by kernel_rfl)
theorem qab.code:qab.c.code = jt Tryd.f34:=by kernel_rfl
noncomputable def qx.c:IC:=qx.u1.c
noncomputable def qx.res:List ResultVar:=[]
theorem qx.u1.ok (k:Nat) (x0:Ad) (K:KF α) :
  eC k qx.u1.c (za [(0, .ptr (some x0))]) K =
   qx.u1.f k x0 (K .normal (za [])):=by kernel_rfl
theorem qx.ok (k:Nat) (x0:Ad) (κ:Res->M α) :
  evF T (env k) k qx.c qx.res [.ptr (some x0)] κ = qx.f (k + 1) x0 (κ (.ret (.tuple []))):=
 (qx.u1.ok k x0 (retK T qx.res κ)).trans (by kernel_rfl)
theorem qx.code:qx.c.code = jt Tryd.f35:=by kernel_rfl
noncomputable def qf.c:IC:=qf.u24.c
noncomputable def qf.res:List ResultVar:=[(.cell 2 25), (.tmp 3), (.tmp 4)]
theorem qf.u1.ok (k:Nat) (x0:TX) (R:IC) (K:KF α) :
  eC k (qf.u1.c R) (fr11 x0) K =
   qf.u1.f k x0 (fun y0 y1 y2 y3=>eC k R (za [(2, .ptr (some y0)), (8, .ptr (some y1)), (9, .int .i64 y2), (10, .ptr (some y3))]) K) (fun y0 y1 y2=>K .ret (za [(2, .ptr (some y0)), (3, .int .i64 y1), (4, .int .i64 y2)])):=by kernel_rfl
theorem qf.u2.ok (k:Nat) (x0 x1:Ad) (x2:Int) (x3:Ad) (R:IC) (K:KF α) :
  eC k (qf.u2.c R) (za [(2, .ptr (some x0)), (8, .ptr (some x1)), (9, .int .i64 x2), (10, .ptr (some x3))]) K =
   qf.u2.f k x0 x1 x2 x3 (fun y0 y1 y2 y3 y4=>eC k R (za [(2, .ptr (some y0)), (8, .ptr (some y1)), (9, .int .i64 y2), (10, .ptr (some y3)), (11, .int .i64 y4)]) K):=by kernel_rfl
theorem qf.u3.ok (k:Nat) (x0 x1:Ad) (x2:Int) (x3:Ad) (x4:Int) (R:IC) (K:KF α) :
  eC k (qf.u3.c R) (za [(2, .ptr (some x0)), (8, .ptr (some x1)), (9, .int .i64 x2), (10, .ptr (some x3)), (11, .int .i64 x4)]) K =
   qf.u3.f k x0 x1 x2 x3 x4 (fun y0 y1 y2 y3 y4=>eC k R (za [(2, .ptr (some y0)), (8, .ptr (some y1)), (9, .int .i64 y2), (10, .ptr (some y3)), (11, .int .i64 y4)]) K) (fun y0 y1 y2=>K (.exit 0) (za [(2, .ptr (some y0)), (8, .ptr (some y1)), (10, .ptr (some y2))])):=by kernel_rfl
theorem qf.u4.ok (k:Nat) (x0 x1:Ad) (x2:Int) (x3:Ad) (x4:Int) (R:IC) (K:KF α) :
  eC k (qf.u4.c R) (za [(2, .ptr (some x0)), (8, .ptr (some x1)), (9, .int .i64 x2), (10, .ptr (some x3)), (11, .int .i64 x4)]) K =
   qf.u4.f k x0 x1 x2 x3 x4 (fun y0 y1 y2 y3 y4 y5 y6=>eC k R (za [(2, .ptr (some y0)), (8, .ptr (some y1)), (9, .int .i64 y2), (10, .ptr (some y3)), (11, .int .i64 y4), (12, .slice y5), (13, .int .i64 y6)]) K):=by kernel_rfl
theorem qf.u5.ok (k:Nat) (x0 x1:Ad) (x2:Int) (x3:Ad) (x4:Int) (x5:Sl) (x6:Int) (K:KF α) :
  eC k qf.u5.c (za [(2, .ptr (some x0)), (8, .ptr (some x1)), (9, .int .i64 x2), (10, .ptr (some x3)), (11, .int .i64 x4), (12, .slice x5), (13, .int .i64 x6)]) K =
   qf.u5.f k x0 x1 x2 x3 x4 x5 x6 (fun y0 y1 y2 y3 y4 y5 y6=>K .normal (za [(2, .ptr (some y0)), (8, .ptr (some y1)), (9, .int .i64 y2), (10, .ptr (some y3)), (11, .int .i64 y4), (12, .slice y5), (13, .int .i64 y6)])) (fun y0 y1 y2 y3 y4 y5=>K (.exit 2) (za [(2, .ptr (some y0)), (8, .ptr (some y1)), (9, .int .i64 y2), (10, .ptr (some y3)), (11, .int .i64 y4), (12, .slice y5)])):=by kernel_rfl
theorem qf.u6.ls (k:Nat) (kx2:Ad->Ad->Int->Ad->Int->Sl->M α) (j:Nat) (x0 x1:Ad) (x2:Int) (x3:Ad) (x4:Int) (x5:Sl) (x6:Int):qf.u6.l k kx2 (j + 1) x0 x1 x2 x3 x4 x5 x6 =
 qf.u5.f k x0 x1 x2 x3 x4 x5 x6 (fun y0 y1 y2 y3 y4 y5 y6=>qf.u6.l k kx2 j y0 y1 y2 y3 y4 y5 y6) kx2:=rfl
theorem qf.u6.okl (k:Nat) (K:KF α):∀ (j:Nat) (x0 x1:Ad) (x2:Int) (x3:Ad) (x4:Int) (x5:Sl) (x6:Int),
  zx (eC k qf.u5.c) [2, 8, 9, 10, 11, 12, 13] j (za [(2, .ptr (some x0)), (8, .ptr (some x1)), (9, .int .i64 x2), (10, .ptr (some x3)), (11, .int .i64 x4), (12, .slice x5), (13, .int .i64 x6)]) K = qf.u6.l k (fun y0 y1 y2 y3 y4 y5=>K (.exit 2) (za [(2, .ptr (some y0)), (8, .ptr (some y1)), (9, .int .i64 y2), (10, .ptr (some y3)), (11, .int .i64 y4), (12, .slice y5)])) j x0 x1 x2 x3 x4 x5 x6
 | 0, _, _, _, _, _, _, _=>rfl
 | j + 1, x0, x1, x2, x3, x4, x5, x6=>by
   have h:=qf.u5.ok k x0 x1 x2 x3 x4 x5 x6 (seqK (fun ρ=>zx (eC k qf.u5.c) [2, 8, 9, 10, 11, 12, 13] j ρ K) K)
   simp only [zi, zm, zn, zg, qf.u6.okl k K j] at h
   exact (zz (by kernel_rfl) h).trans (qf.u6.ls k (fun y0 y1 y2 y3 y4 y5=>K (.exit 2) (za [(2, .ptr (some y0)), (8, .ptr (some y1)), (9, .int .i64 y2), (10, .ptr (some y3)), (11, .int .i64 y4), (12, .slice y5)])) j x0 x1 x2 x3 x4 x5 x6).symm
theorem qf.u6.ok (k:Nat) (x0 x1:Ad) (x2:Int) (x3:Ad) (x4:Int) (x5:Sl) (x6:Int) (K:KF α) :
  eC k qf.u6.c (za [(2, .ptr (some x0)), (8, .ptr (some x1)), (9, .int .i64 x2), (10, .ptr (some x3)), (11, .int .i64 x4), (12, .slice x5), (13, .int .i64 x6)]) K =
   qf.u6.f k x0 x1 x2 x3 x4 x5 x6 (fun y0 y1 y2 y3 y4 y5=>K (.exit 2) (za [(2, .ptr (some y0)), (8, .ptr (some y1)), (9, .int .i64 y2), (10, .ptr (some y3)), (11, .int .i64 y4), (12, .slice y5)])):=
 ya.trans <| (jb (body:=eC k qf.u5.c) (keep:=[2, 8, 9, 10, 11, 12, 13]) (ρ:=(za [(2, .ptr (some x0)), (8, .ptr (some x1)), (9, .int .i64 x2), (10, .ptr (some x3)), (11, .int .i64 x4), (12, .slice x5), (13, .int .i64 x6)])) (ρ':=(za [(2, .ptr (some x0)), (8, .ptr (some x1)), (9, .int .i64 x2), (10, .ptr (some x3)), (11, .int .i64 x4), (12, .slice x5), (13, .int .i64 x6)])) (by kernel_rfl) k K).trans (qf.u6.okl k K k x0 x1 x2 x3 x4 x5 x6)
theorem qf.u7.ok (k:Nat) (x0 x1:Ad) (x2:Int) (x3:Ad) (x4:Int) (x5:Sl) (x6:Int) (K:KF α) :
  eC k qf.u7.c (za [(2, .ptr (some x0)), (8, .ptr (some x1)), (9, .int .i64 x2), (10, .ptr (some x3)), (11, .int .i64 x4), (12, .slice x5), (13, .int .i64 x6)]) K =
   qf.u7.f k x0 x1 x2 x3 x4 x5 x6 (fun y0 y1 y2 y3 y4 y5=>K .normal (za [(2, .ptr (some y0)), (8, .ptr (some y1)), (9, .int .i64 y2), (10, .ptr (some y3)), (11, .int .i64 y4), (12, .slice y5)])):=
 (zw.trans (qf.u6.ok k x0 x1 x2 x3 x4 x5 x6 (jz 2 K))).trans (by kernel_rfl)
theorem qf.u8.ok (k:Nat) (x0 x1:Ad) (x2:Int) (x3:Ad) (x4:Int) (x5:Sl) (R:IC) (K:KF α) :
  eC k (qf.u8.c R) (za [(2, .ptr (some x0)), (8, .ptr (some x1)), (9, .int .i64 x2), (10, .ptr (some x3)), (11, .int .i64 x4), (12, .slice x5)]) K =
   qf.u8.f k x0 x1 x2 x3 x4 x5 (fun y0 y1 y2 y3 y4 y5 y6=>eC k R (za [(2, .ptr (some y0)), (8, .ptr (some y1)), (9, .int .i64 y2), (10, .ptr (some y3)), (11, .int .i64 y4), (12, .slice y5), (14, .bool y6)]) K):=by kernel_rfl
theorem qf.u9.ok (k:Nat) (x0 x1:Ad) (x2:Int) (x3:Ad) (x4:Int) (x5:Sl) (x6:Bool) (K:KF α) :
  eC k qf.u9.c (za [(2, .ptr (some x0)), (8, .ptr (some x1)), (9, .int .i64 x2), (10, .ptr (some x3)), (11, .int .i64 x4), (12, .slice x5), (14, .bool x6)]) K =
   qf.u9.f k x0 x1 x2 x3 x4 x5 x6 (fun y0 y1 y2 y3 y4=>K .normal (za [(2, .ptr (some y0)), (8, .ptr (some y1)), (9, .int .i64 y2), (10, .ptr (some y3)), (11, .int .i64 y4)])):=by kernel_rfl
theorem qf.u10.ok (k:Nat) (x0 x1:Ad) (x2:Int) (x3:Ad) (x4:Int) (x5:Sl) (K:KF α) :
  eC k qf.u10.c (za [(2, .ptr (some x0)), (8, .ptr (some x1)), (9, .int .i64 x2), (10, .ptr (some x3)), (11, .int .i64 x4), (12, .slice x5)]) K =
   qf.u10.f k x0 x1 x2 x3 x4 x5 (fun y0 y1 y2 y3 y4=>K .normal (za [(2, .ptr (some y0)), (8, .ptr (some y1)), (9, .int .i64 y2), (10, .ptr (some y3)), (11, .int .i64 y4)])):=
 (qf.u8.ok k x0 x1 x2 x3 x4 x5 qf.u9.c K).trans
  (congrArg (fun z=>qf.u8.f k x0 x1 x2 x3 x4 x5 z) (funext fun y0=>(funext fun y1=>(funext fun y2=>(funext fun y3=>(funext fun y4=>(funext fun y5=>(funext fun y6=>qf.u9.ok k y0 y1 y2 y3 y4 y5 y6 K))))))))
theorem qf.u11.ok (k:Nat) (x0 x1:Ad) (x2:Int) (x3:Ad) (x4:Int) (x5:Sl) (x6:Int) (K:KF α) :
  eC k qf.u11.c (za [(2, .ptr (some x0)), (8, .ptr (some x1)), (9, .int .i64 x2), (10, .ptr (some x3)), (11, .int .i64 x4), (12, .slice x5), (13, .int .i64 x6)]) K =
   qf.u11.f k x0 x1 x2 x3 x4 x5 x6 (fun y0 y1 y2 y3 y4=>K .normal (za [(2, .ptr (some y0)), (8, .ptr (some y1)), (9, .int .i64 y2), (10, .ptr (some y3)), (11, .int .i64 y4)])):=
 by
  have h:=qf.u7.ok k x0 x1 x2 x3 x4 x5 x6 (seqK (fun ρ=>eC k qf.u10.c ρ K) K)
  simp only [zg, zi, zm, zn, qf.u10.ok] at h
  exact jc h
theorem qf.u12.ok (k:Nat) (x0 x1:Ad) (x2:Int) (x3:Ad) (x4:Int) (K:KF α) :
  eC k qf.u12.c (za [(2, .ptr (some x0)), (8, .ptr (some x1)), (9, .int .i64 x2), (10, .ptr (some x3)), (11, .int .i64 x4)]) K =
   qf.u12.f k x0 x1 x2 x3 x4 (fun y0 y1 y2 y3 y4=>K .normal (za [(2, .ptr (some y0)), (8, .ptr (some y1)), (9, .int .i64 y2), (10, .ptr (some y3)), (11, .int .i64 y4)])):=
 (qf.u4.ok k x0 x1 x2 x3 x4 qf.u11.c K).trans
  (congrArg (fun z=>qf.u4.f k x0 x1 x2 x3 x4 z) (funext fun y0=>(funext fun y1=>(funext fun y2=>(funext fun y3=>(funext fun y4=>(funext fun y5=>(funext fun y6=>qf.u11.ok k y0 y1 y2 y3 y4 y5 y6 K))))))))
theorem qf.u13.ok (k:Nat) (x0 x1:Ad) (x2:Int) (x3:Ad) (x4:Int) (K:KF α) :
  eC k qf.u13.c (za [(2, .ptr (some x0)), (8, .ptr (some x1)), (9, .int .i64 x2), (10, .ptr (some x3)), (11, .int .i64 x4)]) K =
   qf.u13.f k x0 x1 x2 x3 x4 (fun y0 y1 y2 y3 y4=>K .normal (za [(2, .ptr (some y0)), (8, .ptr (some y1)), (9, .int .i64 y2), (10, .ptr (some y3)), (11, .int .i64 y4)])):=
 (zw.trans (qf.u12.ok k x0 x1 x2 x3 x4 (jz 1 K))).trans (by kernel_rfl)
theorem qf.u14.ok (k:Nat) (x0 x1:Ad) (x2:Int) (x3:Ad) (x4:Int) (K:KF α) :
  eC k qf.u14.c (za [(2, .ptr (some x0)), (8, .ptr (some x1)), (9, .int .i64 x2), (10, .ptr (some x3)), (11, .int .i64 x4)]) K =
   qf.u14.f k x0 x1 x2 x3 x4 (fun y0 y1 y2 y3 y4=>K .normal (za [(2, .ptr (some y0)), (8, .ptr (some y1)), (9, .int .i64 y2), (10, .ptr (some y3)), (11, .int .i64 y4)])):=by kernel_rfl
theorem qf.u15.ok (k:Nat) (x0 x1:Ad) (x2:Int) (x3:Ad) (x4:Int) (K:KF α) :
  eC k qf.u15.c (za [(2, .ptr (some x0)), (8, .ptr (some x1)), (9, .int .i64 x2), (10, .ptr (some x3)), (11, .int .i64 x4)]) K =
   qf.u15.f k x0 x1 x2 x3 x4 (fun y0 y1 y2 y3 y4=>K .normal (za [(2, .ptr (some y0)), (8, .ptr (some y1)), (9, .int .i64 y2), (10, .ptr (some y3)), (11, .int .i64 y4)])):=
 by
  have h:=qf.u13.ok k x0 x1 x2 x3 x4 (seqK (fun ρ=>eC k qf.u14.c ρ K) K)
  simp only [zg, zi, zm, zn, qf.u14.ok] at h
  exact jc h
theorem qf.u16.ok (k:Nat) (x0 x1:Ad) (x2:Int) (x3:Ad) (x4:Int) (K:KF α) :
  eC k qf.u16.c (za [(2, .ptr (some x0)), (8, .ptr (some x1)), (9, .int .i64 x2), (10, .ptr (some x3)), (11, .int .i64 x4)]) K =
   qf.u16.f k x0 x1 x2 x3 x4 (fun y0 y1 y2 y3 y4=>K .normal (za [(2, .ptr (some y0)), (8, .ptr (some y1)), (9, .int .i64 y2), (10, .ptr (some y3)), (11, .int .i64 y4)])) (fun y0 y1 y2=>K (.exit 0) (za [(2, .ptr (some y0)), (8, .ptr (some y1)), (10, .ptr (some y2))])):=
 (qf.u3.ok k x0 x1 x2 x3 x4 qf.u15.c K).trans
  (congrArg (fun z=>qf.u3.f k x0 x1 x2 x3 x4 z (fun y0 y1 y2=>K (.exit 0) (za [(2, .ptr (some y0)), (8, .ptr (some y1)), (10, .ptr (some y2))]))) (funext fun y0=>(funext fun y1=>(funext fun y2=>(funext fun y3=>(funext fun y4=>qf.u15.ok k y0 y1 y2 y3 y4 K))))))
theorem qf.u17.ls (k:Nat) (kx0:Ad->Ad->Ad->M α) (j:Nat) (x0 x1:Ad) (x2:Int) (x3:Ad) (x4:Int):qf.u17.l k kx0 (j + 1) x0 x1 x2 x3 x4 =
 qf.u16.f k x0 x1 x2 x3 x4 (fun y0 y1 y2 y3 y4=>qf.u17.l k kx0 j y0 y1 y2 y3 y4) kx0:=rfl
theorem qf.u17.okl (k:Nat) (K:KF α):∀ (j:Nat) (x0 x1:Ad) (x2:Int) (x3:Ad) (x4:Int),
  zx (eC k qf.u16.c) [2, 8, 9, 10, 11] j (za [(2, .ptr (some x0)), (8, .ptr (some x1)), (9, .int .i64 x2), (10, .ptr (some x3)), (11, .int .i64 x4)]) K = qf.u17.l k (fun y0 y1 y2=>K (.exit 0) (za [(2, .ptr (some y0)), (8, .ptr (some y1)), (10, .ptr (some y2))])) j x0 x1 x2 x3 x4
 | 0, _, _, _, _, _=>rfl
 | j + 1, x0, x1, x2, x3, x4=>by
   have h:=qf.u16.ok k x0 x1 x2 x3 x4 (seqK (fun ρ=>zx (eC k qf.u16.c) [2, 8, 9, 10, 11] j ρ K) K)
   simp only [zi, zm, zn, zg, qf.u17.okl k K j] at h
   exact (zz (by kernel_rfl) h).trans (qf.u17.ls k (fun y0 y1 y2=>K (.exit 0) (za [(2, .ptr (some y0)), (8, .ptr (some y1)), (10, .ptr (some y2))])) j x0 x1 x2 x3 x4).symm
theorem qf.u17.ok (k:Nat) (x0 x1:Ad) (x2:Int) (x3:Ad) (x4:Int) (K:KF α) :
  eC k qf.u17.c (za [(2, .ptr (some x0)), (8, .ptr (some x1)), (9, .int .i64 x2), (10, .ptr (some x3)), (11, .int .i64 x4)]) K =
   qf.u17.f k x0 x1 x2 x3 x4 (fun y0 y1 y2=>K (.exit 0) (za [(2, .ptr (some y0)), (8, .ptr (some y1)), (10, .ptr (some y2))])):=
 ya.trans <| (jb (body:=eC k qf.u16.c) (keep:=[2, 8, 9, 10, 11]) (ρ:=(za [(2, .ptr (some x0)), (8, .ptr (some x1)), (9, .int .i64 x2), (10, .ptr (some x3)), (11, .int .i64 x4)])) (ρ':=(za [(2, .ptr (some x0)), (8, .ptr (some x1)), (9, .int .i64 x2), (10, .ptr (some x3)), (11, .int .i64 x4)])) (by kernel_rfl) k K).trans (qf.u17.okl k K k x0 x1 x2 x3 x4)
theorem qf.u18.ok (k:Nat) (x0 x1:Ad) (x2:Int) (x3:Ad) (x4:Int) (K:KF α) :
  eC k qf.u18.c (za [(2, .ptr (some x0)), (8, .ptr (some x1)), (9, .int .i64 x2), (10, .ptr (some x3)), (11, .int .i64 x4)]) K =
   qf.u18.f k x0 x1 x2 x3 x4 (fun y0 y1 y2=>K .normal (za [(2, .ptr (some y0)), (8, .ptr (some y1)), (10, .ptr (some y2))])):=
 (zw.trans (qf.u17.ok k x0 x1 x2 x3 x4 (jz 0 K))).trans (by kernel_rfl)
theorem qf.u19.ok (k:Nat) (x0 x1:Ad) (x2:Int) (x3:Ad) (K:KF α) :
  eC k qf.u19.c (za [(2, .ptr (some x0)), (8, .ptr (some x1)), (9, .int .i64 x2), (10, .ptr (some x3))]) K =
   qf.u19.f k x0 x1 x2 x3 (fun y0 y1 y2=>K .normal (za [(2, .ptr (some y0)), (8, .ptr (some y1)), (10, .ptr (some y2))])):=
 (qf.u2.ok k x0 x1 x2 x3 qf.u18.c K).trans
  (congrArg (fun z=>qf.u2.f k x0 x1 x2 x3 z) (funext fun y0=>(funext fun y1=>(funext fun y2=>(funext fun y3=>(funext fun y4=>qf.u18.ok k y0 y1 y2 y3 y4 K))))))
theorem qf.u20.ok (k:Nat) (x0 x1 x2:Ad) (R:IC) (K:KF α) :
  eC k (qf.u20.c R) (za [(2, .ptr (some x0)), (8, .ptr (some x1)), (10, .ptr (some x2))]) K =
   qf.u20.f k x0 x1 x2 (fun y0 y1 y2=>eC k R (za [(2, .ptr (some y0)), (8, .ptr (some y1)), (10, .ptr (some y2))]) K):=by kernel_rfl
theorem qf.u21.ok (k:Nat) (x0 x1 x2:Ad) (K:KF α) :
  eC k qf.u21.c (za [(2, .ptr (some x0)), (8, .ptr (some x1)), (10, .ptr (some x2))]) K =
   qf.u21.f k x0 x1 x2 (fun y0 y1 y2=>K .ret (za [(2, .ptr (some y0)), (3, .int .i64 y1), (4, .int .i64 y2)])):=by kernel_rfl
theorem qf.u22.ok (k:Nat) (x0 x1 x2:Ad) (K:KF α) :
  eC k qf.u22.c (za [(2, .ptr (some x0)), (8, .ptr (some x1)), (10, .ptr (some x2))]) K =
   qf.u22.f k x0 x1 x2 (fun y0 y1 y2=>K .ret (za [(2, .ptr (some y0)), (3, .int .i64 y1), (4, .int .i64 y2)])):=
 (qf.u20.ok k x0 x1 x2 qf.u21.c K).trans
  (congrArg (fun z=>qf.u20.f k x0 x1 x2 z) (funext fun y0=>(funext fun y1=>(funext fun y2=>qf.u21.ok k y0 y1 y2 K))))
theorem qf.u23.ok (k:Nat) (x0 x1:Ad) (x2:Int) (x3:Ad) (K:KF α) :
  eC k qf.u23.c (za [(2, .ptr (some x0)), (8, .ptr (some x1)), (9, .int .i64 x2), (10, .ptr (some x3))]) K =
   qf.u23.f k x0 x1 x2 x3 (fun y0 y1 y2=>K .ret (za [(2, .ptr (some y0)), (3, .int .i64 y1), (4, .int .i64 y2)])):=
 by
  have h:=qf.u19.ok k x0 x1 x2 x3 (seqK (fun ρ=>eC k qf.u22.c ρ K) K)
  simp only [zg, zi, zm, zn, qf.u22.ok] at h
  exact jc h
theorem qf.u24.ok (k:Nat) (x0:TX) (K:KF α) :
  eC k qf.u24.c (fr11 x0) K =
   qf.u24.f k x0 (fun y0 y1 y2=>K .ret (za [(2, .ptr (some y0)), (3, .int .i64 y1), (4, .int .i64 y2)])):=
 (qf.u1.ok k x0 qf.u23.c K).trans
  (congrArg (fun z=>qf.u1.f k x0 z (fun y0 y1 y2=>K .ret (za [(2, .ptr (some y0)), (3, .int .i64 y1), (4, .int .i64 y2)]))) (funext fun y0=>(funext fun y1=>(funext fun y2=>(funext fun y3=>qf.u23.ok k y0 y1 y2 y3 K)))))
theorem qf.ok (k:Nat) (x0:TX) (κ:Res->M α) :
  evF T (env k) k qf.c qf.res [.str x0] κ = qf.f (k + 1) x0 (fun o0 o1 o2 o3 o4=>κ (.ret (.tuple [.agg [.slice o0, .slice o1, .slice o2], .int .i64 o3, .int .i64 o4]))):=
 (qf.u24.ok k x0 (retK T qf.res κ)).trans (by kernel_rfl)
theorem qf.code:qf.c.code = jt Tryd.f16:=by kernel_rfl
noncomputable def qo.c:IC:=qo.u9.c
noncomputable def qo.res:List ResultVar:=[(.tmp 4)]
theorem qo.u1.ok (k:Nat) (x0 x1:Sl) (R:IC) (K:KF α) :
  eC k (qo.u1.c R) (fr42 x0 x1) K =
   qo.u1.f k x0 x1 (fun y0 y1=>eC k R (fr42 y0 y1) K) (fun y0=>K .ret (fr43 y0)):=by kernel_rfl
theorem qo.u2.ok (k:Nat) (x0 x1:Sl) (R:IC) (K:KF α) :
  eC k (qo.u2.c R) (fr42 x0 x1) K =
   qo.u2.f k x0 x1 (fun y0 y1 y2=>eC k R (fr44 y0 y1 y2) K):=by kernel_rfl
theorem qo.u3.ok (k:Nat) (x0 x1:Sl) (x2:Int) (K:KF α) :
  eC k qo.u3.c (fr44 x0 x1 x2) K =
   qo.u3.f k x0 x1 x2 (fun y0 y1 y2=>K .normal (fr44 y0 y1 y2)) (fun y0=>K .ret (fr43 y0)) (K (.exit 0) (za [])):=by kernel_rfl
theorem qo.u4.ls (k:Nat) (kr:Bool->M α) (kx0:M α) (j:Nat) (x0 x1:Sl) (x2:Int):qo.u4.l k kr kx0 (j + 1) x0 x1 x2 =
 qo.u3.f k x0 x1 x2 (fun y0 y1 y2=>qo.u4.l k kr kx0 j y0 y1 y2) kr kx0:=rfl
theorem qo.u4.okl (k:Nat) (K:KF α):∀ (j:Nat) (x0 x1:Sl) (x2:Int),
  zx (eC k qo.u3.c) [0, 1, 5] j (fr44 x0 x1 x2) K = qo.u4.l k (fun y0=>K .ret (fr43 y0)) (K (.exit 0) (za [])) j x0 x1 x2
 | 0, _, _, _=>rfl
 | j + 1, x0, x1, x2=>by
   have h:=qo.u3.ok k x0 x1 x2 (seqK (fun ρ=>zx (eC k qo.u3.c) [0, 1, 5] j ρ K) K)
   simp only [zi, zm, zn, zg, qo.u4.okl k K j] at h
   exact (zz (by kernel_rfl) h).trans (qo.u4.ls k (fun y0=>K .ret (fr43 y0)) (K (.exit 0) (za [])) j x0 x1 x2).symm
theorem qo.u4.ok (k:Nat) (x0 x1:Sl) (x2:Int) (K:KF α) :
  eC k qo.u4.c (fr44 x0 x1 x2) K =
   qo.u4.f k x0 x1 x2 (fun y0=>K .ret (fr43 y0)) (K (.exit 0) (za [])):=
 ya.trans <| (jb (body:=eC k qo.u3.c) (keep:=[0, 1, 5]) (ρ:=(fr44 x0 x1 x2)) (ρ':=(fr44 x0 x1 x2)) (by kernel_rfl) k K).trans (qo.u4.okl k K k x0 x1 x2)
theorem qo.u5.ok (k:Nat) (x0 x1:Sl) (x2:Int) (K:KF α) :
  eC k qo.u5.c (fr44 x0 x1 x2) K =
   qo.u5.f k x0 x1 x2 (K .normal (za [])) (fun y0=>K .ret (fr43 y0)):=
 (zw.trans (qo.u4.ok k x0 x1 x2 (jz 0 K))).trans (by kernel_rfl)
theorem qo.u6.ok (k:Nat) (x0 x1:Sl) (K:KF α) :
  eC k qo.u6.c (fr42 x0 x1) K =
   qo.u6.f k x0 x1 (K .normal (za [])) (fun y0=>K .ret (fr43 y0)):=
 (qo.u2.ok k x0 x1 qo.u5.c K).trans
  (congrArg (fun z=>qo.u2.f k x0 x1 z) (funext fun y0=>(funext fun y1=>(funext fun y2=>qo.u5.ok k y0 y1 y2 K))))
theorem qo.u7.ok (k:Nat) (K:KF α) :
  eC k qo.u7.c (za []) K =
   qo.u7.f k (fun y0=>K .ret (fr43 y0)):=by kernel_rfl
theorem qo.u8.ok (k:Nat) (x0 x1:Sl) (K:KF α) :
  eC k qo.u8.c (fr42 x0 x1) K =
   qo.u8.f k x0 x1 (fun y0=>K .ret (fr43 y0)):=
 by
  have h:=qo.u6.ok k x0 x1 (seqK (fun ρ=>eC k qo.u7.c ρ K) K)
  simp only [zg, zi, zm, zn, qo.u7.ok] at h
  exact jc h
theorem qo.u9.ok (k:Nat) (x0 x1:Sl) (K:KF α) :
  eC k qo.u9.c (fr42 x0 x1) K =
   qo.u9.f k x0 x1 (fun y0=>K .ret (fr43 y0)):=
 (qo.u1.ok k x0 x1 qo.u8.c K).trans
  (congrArg (fun z=>qo.u1.f k x0 x1 z (fun y0=>K .ret (fr43 y0))) (funext fun y0=>(funext fun y1=>qo.u8.ok k y0 y1 K)))
theorem qo.ok (k:Nat) (x0 x1:Sl) (κ:Res->M α) :
  evF T (env k) k qo.c qo.res [.slice x0, .slice x1] κ = qo.f (k + 1) x0 x1 (fun o0=>κ (.ret (.bool o0))):=
 (qo.u9.ok k x0 x1 (retK T qo.res κ)).trans (by kernel_rfl)
theorem qo.code:qo.c.code = jt Tryd.f22:=by kernel_rfl
noncomputable def qp.c:IC:=qp.u9.c
noncomputable def qp.res:List ResultVar:=[(.tmp 4)]
theorem qp.u1.ok (k:Nat) (x0 x1:Sl) (x2 x3:Sl) (x4 x5:Sl) (R:IC) (K:KF α) :
  eC k (qp.u1.c R) (za [(0, .agg [.slice x0, .slice x1, .slice x2]), (1, .agg [.slice x3, .slice x4, .slice x5])]) K =
   qp.u1.f k x0 x1 x2 x3 x4 x5 (fun y0 y1=>eC k R (za [(2, .ptr (some y0)), (3, .ptr (some y1))]) K) (fun y0=>K .ret (fr43 y0)):=by kernel_rfl
theorem qp.u2.ok (k:Nat) (x0 x1:Ad) (R:IC) (K:KF α) :
  eC k (qp.u2.c R) (za [(2, .ptr (some x0)), (3, .ptr (some x1))]) K =
   qp.u2.f k x0 x1 (fun y0 y1 y2=>eC k R (za [(2, .ptr (some y0)), (3, .ptr (some y1)), (7, .int .i64 y2)]) K):=by kernel_rfl
theorem qp.u3.ok (k:Nat) (x0 x1:Ad) (x2:Int) (K:KF α) :
  eC k qp.u3.c (za [(2, .ptr (some x0)), (3, .ptr (some x1)), (7, .int .i64 x2)]) K =
   qp.u3.f k x0 x1 x2 (fun y0 y1 y2=>K .normal (za [(2, .ptr (some y0)), (3, .ptr (some y1)), (7, .int .i64 y2)])) (fun y0=>K .ret (fr43 y0)) (K (.exit 0) (za [])):=by kernel_rfl
theorem qp.u4.ls (k:Nat) (kr:Bool->M α) (kx0:M α) (j:Nat) (x0 x1:Ad) (x2:Int):qp.u4.l k kr kx0 (j + 1) x0 x1 x2 =
 qp.u3.f k x0 x1 x2 (fun y0 y1 y2=>qp.u4.l k kr kx0 j y0 y1 y2) kr kx0:=rfl
theorem qp.u4.okl (k:Nat) (K:KF α):∀ (j:Nat) (x0 x1:Ad) (x2:Int),
  zx (eC k qp.u3.c) [2, 3, 7] j (za [(2, .ptr (some x0)), (3, .ptr (some x1)), (7, .int .i64 x2)]) K = qp.u4.l k (fun y0=>K .ret (fr43 y0)) (K (.exit 0) (za [])) j x0 x1 x2
 | 0, _, _, _=>rfl
 | j + 1, x0, x1, x2=>by
   have h:=qp.u3.ok k x0 x1 x2 (seqK (fun ρ=>zx (eC k qp.u3.c) [2, 3, 7] j ρ K) K)
   simp only [zi, zm, zn, zg, qp.u4.okl k K j] at h
   exact (zz (by kernel_rfl) h).trans (qp.u4.ls k (fun y0=>K .ret (fr43 y0)) (K (.exit 0) (za [])) j x0 x1 x2).symm
theorem qp.u4.ok (k:Nat) (x0 x1:Ad) (x2:Int) (K:KF α) :
  eC k qp.u4.c (za [(2, .ptr (some x0)), (3, .ptr (some x1)), (7, .int .i64 x2)]) K =
   qp.u4.f k x0 x1 x2 (fun y0=>K .ret (fr43 y0)) (K (.exit 0) (za [])):=
 ya.trans <| (jb (body:=eC k qp.u3.c) (keep:=[2, 3, 7]) (ρ:=(za [(2, .ptr (some x0)), (3, .ptr (some x1)), (7, .int .i64 x2)])) (ρ':=(za [(2, .ptr (some x0)), (3, .ptr (some x1)), (7, .int .i64 x2)])) (by kernel_rfl) k K).trans (qp.u4.okl k K k x0 x1 x2)
theorem qp.u5.ok (k:Nat) (x0 x1:Ad) (x2:Int) (K:KF α) :
  eC k qp.u5.c (za [(2, .ptr (some x0)), (3, .ptr (some x1)), (7, .int .i64 x2)]) K =
   qp.u5.f k x0 x1 x2 (K .normal (za [])) (fun y0=>K .ret (fr43 y0)):=
 (zw.trans (qp.u4.ok k x0 x1 x2 (jz 0 K))).trans (by kernel_rfl)
theorem qp.u6.ok (k:Nat) (x0 x1:Ad) (K:KF α) :
  eC k qp.u6.c (za [(2, .ptr (some x0)), (3, .ptr (some x1))]) K =
   qp.u6.f k x0 x1 (K .normal (za [])) (fun y0=>K .ret (fr43 y0)):=
 (qp.u2.ok k x0 x1 qp.u5.c K).trans
  (congrArg (fun z=>qp.u2.f k x0 x1 z) (funext fun y0=>(funext fun y1=>(funext fun y2=>qp.u5.ok k y0 y1 y2 K))))
theorem qp.u7.ok (k:Nat) (K:KF α) :
  eC k qp.u7.c (za []) K =
   qp.u7.f k (fun y0=>K .ret (fr43 y0)):=by kernel_rfl
theorem qp.u8.ok (k:Nat) (x0 x1:Ad) (K:KF α) :
  eC k qp.u8.c (za [(2, .ptr (some x0)), (3, .ptr (some x1))]) K =
   qp.u8.f k x0 x1 (fun y0=>K .ret (fr43 y0)):=
 by
  have h:=qp.u6.ok k x0 x1 (seqK (fun ρ=>eC k qp.u7.c ρ K) K)
  simp only [zg, zi, zm, zn, qp.u7.ok] at h
  exact jc h
theorem qp.u9.ok (k:Nat) (x0 x1:Sl) (x2 x3:Sl) (x4 x5:Sl) (K:KF α) :
  eC k qp.u9.c (za [(0, .agg [.slice x0, .slice x1, .slice x2]), (1, .agg [.slice x3, .slice x4, .slice x5])]) K =
   qp.u9.f k x0 x1 x2 x3 x4 x5 (fun y0=>K .ret (fr43 y0)):=
 (qp.u1.ok k x0 x1 x2 x3 x4 x5 qp.u8.c K).trans
  (congrArg (fun z=>qp.u1.f k x0 x1 x2 x3 x4 x5 z (fun y0=>K .ret (fr43 y0))) (funext fun y0=>(funext fun y1=>qp.u8.ok k y0 y1 K)))
theorem qp.ok (k:Nat) (x0 x1:Sl) (x2 x3:Sl) (x4 x5:Sl) (κ:Res->M α) :
  evF T (env k) k qp.c qp.res [.agg [.slice x0, .slice x1, .slice x2], .agg [.slice x3, .slice x4, .slice x5]] κ = qp.f (k + 1) x0 x1 x2 x3 x4 x5 (fun o0=>κ (.ret (.bool o0))):=
 (qp.u9.ok k x0 x1 x2 x3 x4 x5 (retK T qp.res κ)).trans (by kernel_rfl)
theorem qp.code:qp.c.code = jt Tryd.f13:=by kernel_rfl
noncomputable def qg.c:IC:=qg.u22.c
noncomputable def qg.res:List ResultVar:=[(.tmp 2)]
theorem qg.u1.ok (k:Nat) (x0:TX) (R:IC) (K:KF α) :
  eC k (qg.u1.c R) (fr11 x0) K =
   qg.u1.f k x0 (fun y0 y1 y2 y3 y4 y5 y6 y7 y8 y9 y10=>eC k R (za [(3, .bool y0), (4, .ptr (some y1)), (6, .ptr (some y2)), (8, .ptr (some y3)), (9, .int .i64 y4), (10, .int .i64 y5), (11, .int .i64 y6), (12, .int .i64 y7), (13, .int .i64 y8), (14, .int .i64 y9), (15, .bool y10)]) K):=by kernel_rfl
theorem qg.u2.ok (k:Nat) (x0:Bool) (x1 x2 x3:Ad) (x4 x5:Int) (x6 x7:Int) (x8 x9:Int) (x10:Bool) (R:IC) (K:KF α) :
  eC k (qg.u2.c R) (za [(3, .bool x0), (4, .ptr (some x1)), (6, .ptr (some x2)), (8, .ptr (some x3)), (9, .int .i64 x4), (10, .int .i64 x5), (11, .int .i64 x6), (12, .int .i64 x7), (13, .int .i64 x8), (14, .int .i64 x9), (15, .bool x10)]) K =
   qg.u2.f k x0 x1 x2 x3 x4 x5 x6 x7 x8 x9 x10 (fun y0 y1 y2 y3 y4 y5 y6 y7 y8 y9 y10 y11=>eC k R (za [(3, .bool y0), (4, .ptr (some y1)), (6, .ptr (some y2)), (8, .ptr (some y3)), (9, .int .i64 y4), (10, .int .i64 y5), (11, .int .i64 y6), (12, .int .i64 y7), (13, .int .i64 y8), (14, .int .i64 y9), (15, .bool y10), (16, .int .i64 y11)]) K):=by kernel_rfl
theorem qg.u3.ok (k:Nat) (x0:Bool) (x1 x2 x3:Ad) (x4 x5:Int) (x6 x7:Int) (x8 x9:Int) (x10:Bool) (x11:Int) (R:IC) (K:KF α) :
  eC k (qg.u3.c R) (za [(3, .bool x0), (4, .ptr (some x1)), (6, .ptr (some x2)), (8, .ptr (some x3)), (9, .int .i64 x4), (10, .int .i64 x5), (11, .int .i64 x6), (12, .int .i64 x7), (13, .int .i64 x8), (14, .int .i64 x9), (15, .bool x10), (16, .int .i64 x11)]) K =
   qg.u3.f k x0 x1 x2 x3 x4 x5 x6 x7 x8 x9 x10 x11 (fun y0 y1 y2 y3 y4 y5 y6 y7 y8 y9 y10 y11=>eC k R (za [(3, .bool y0), (4, .ptr (some y1)), (6, .ptr (some y2)), (8, .ptr (some y3)), (9, .int .i64 y4), (10, .int .i64 y5), (11, .int .i64 y6), (12, .int .i64 y7), (13, .int .i64 y8), (14, .int .i64 y9), (15, .bool y10), (16, .int .i64 y11)]) K) (fun y0 y1 y2 y3 y4 y5 y6 y7 y8 y9=>K (.exit 0) (za [(3, .bool y0), (6, .ptr (some y1)), (8, .ptr (some y2)), (9, .int .i64 y3), (10, .int .i64 y4), (11, .int .i64 y5), (12, .int .i64 y6), (13, .int .i64 y7), (14, .int .i64 y8), (15, .bool y9)])):=by kernel_rfl
theorem qg.u4.ok (k:Nat) (x0:Bool) (x1 x2 x3:Ad) (x4 x5:Int) (x6 x7:Int) (x8 x9:Int) (x10:Bool) (x11:Int) (R:IC) (K:KF α) :
  eC k (qg.u4.c R) (za [(3, .bool x0), (4, .ptr (some x1)), (6, .ptr (some x2)), (8, .ptr (some x3)), (9, .int .i64 x4), (10, .int .i64 x5), (11, .int .i64 x6), (12, .int .i64 x7), (13, .int .i64 x8), (14, .int .i64 x9), (15, .bool x10), (16, .int .i64 x11)]) K =
   qg.u4.f k x0 x1 x2 x3 x4 x5 x6 x7 x8 x9 x10 x11 (fun y0 y1 y2 y3 y4 y5 y6 y7 y8 y9 y10 y11=>eC k R (za [(3, .bool y0), (4, .ptr (some y1)), (6, .ptr (some y2)), (8, .ptr (some y3)), (9, .int .i64 y4), (10, .int .i64 y5), (11, .int .i64 y6), (12, .int .i64 y7), (13, .int .i64 y8), (14, .int .i64 y9), (15, .bool y10), (16, .int .i64 y11)]) K):=by kernel_rfl
theorem qg.u5.ok (k:Nat) (x0:Bool) (x1 x2 x3:Ad) (x4 x5:Int) (x6 x7:Int) (x8 x9:Int) (x10:Bool) (x11:Int) (R:IC) (K:KF α) :
  eC k (qg.u5.c R) (za [(3, .bool x0), (4, .ptr (some x1)), (6, .ptr (some x2)), (8, .ptr (some x3)), (9, .int .i64 x4), (10, .int .i64 x5), (11, .int .i64 x6), (12, .int .i64 x7), (13, .int .i64 x8), (14, .int .i64 x9), (15, .bool x10), (16, .int .i64 x11)]) K =
   qg.u5.f k x0 x1 x2 x3 x4 x5 x6 x7 x8 x9 x10 x11 (fun y0 y1 y2 y3 y4 y5 y6 y7 y8 y9 y10 y11 y12=>eC k R (za [(3, .bool y0), (4, .ptr (some y1)), (6, .ptr (some y2)), (8, .ptr (some y3)), (9, .int .i64 y4), (10, .int .i64 y5), (11, .int .i64 y6), (12, .int .i64 y7), (13, .int .i64 y8), (14, .int .i64 y9), (15, .bool y10), (16, .int .i64 y11), (17, .int .i64 y12)]) K):=by kernel_rfl
theorem qg.u6.ok (k:Nat) (x0:Bool) (x1 x2 x3:Ad) (x4 x5:Int) (x6 x7:Int) (x8 x9:Int) (x10:Bool) (x11 x12:Int) (K:KF α) :
  eC k qg.u6.c (za [(3, .bool x0), (4, .ptr (some x1)), (6, .ptr (some x2)), (8, .ptr (some x3)), (9, .int .i64 x4), (10, .int .i64 x5), (11, .int .i64 x6), (12, .int .i64 x7), (13, .int .i64 x8), (14, .int .i64 x9), (15, .bool x10), (16, .int .i64 x11), (17, .int .i64 x12)]) K =
   qg.u6.f k x0 x1 x2 x3 x4 x5 x6 x7 x8 x9 x10 x11 x12 (fun y0 y1 y2 y3 y4 y5 y6 y7 y8 y9 y10 y11 y12=>K .normal (za [(3, .bool y0), (4, .ptr (some y1)), (6, .ptr (some y2)), (8, .ptr (some y3)), (9, .int .i64 y4), (10, .int .i64 y5), (11, .int .i64 y6), (12, .int .i64 y7), (13, .int .i64 y8), (14, .int .i64 y9), (15, .bool y10), (16, .int .i64 y11), (17, .int .i64 y12)])) (fun y0 y1 y2 y3 y4 y5 y6 y7 y8 y9 y10 y11=>K (.exit 2) (za [(3, .bool y0), (4, .ptr (some y1)), (6, .ptr (some y2)), (8, .ptr (some y3)), (9, .int .i64 y4), (10, .int .i64 y5), (11, .int .i64 y6), (12, .int .i64 y7), (13, .int .i64 y8), (14, .int .i64 y9), (15, .bool y10), (16, .int .i64 y11)])):=by kernel_rfl
theorem qg.u7.ls (k:Nat) (kx2:Bool->Ad->Ad->Ad->Int->Int->Int->Int->Int->Int->Bool->Int->M α) (j:Nat) (x0:Bool) (x1 x2 x3:Ad) (x4 x5:Int) (x6 x7:Int) (x8 x9:Int) (x10:Bool) (x11 x12:Int):qg.u7.l k kx2 (j + 1) x0 x1 x2 x3 x4 x5 x6 x7 x8 x9 x10 x11 x12 =
 qg.u6.f k x0 x1 x2 x3 x4 x5 x6 x7 x8 x9 x10 x11 x12 (fun y0 y1 y2 y3 y4 y5 y6 y7 y8 y9 y10 y11 y12=>qg.u7.l k kx2 j y0 y1 y2 y3 y4 y5 y6 y7 y8 y9 y10 y11 y12) kx2:=rfl
theorem qg.u7.okl (k:Nat) (K:KF α):∀ (j:Nat) (x0:Bool) (x1 x2 x3:Ad) (x4 x5:Int) (x6 x7:Int) (x8 x9:Int) (x10:Bool) (x11 x12:Int),
  zx (eC k qg.u6.c) [3, 4, 6, 8, 9, 10, 11, 12, 13, 14, 15, 16, 17] j (za [(3, .bool x0), (4, .ptr (some x1)), (6, .ptr (some x2)), (8, .ptr (some x3)), (9, .int .i64 x4), (10, .int .i64 x5), (11, .int .i64 x6), (12, .int .i64 x7), (13, .int .i64 x8), (14, .int .i64 x9), (15, .bool x10), (16, .int .i64 x11), (17, .int .i64 x12)]) K = qg.u7.l k (fun y0 y1 y2 y3 y4 y5 y6 y7 y8 y9 y10 y11=>K (.exit 2) (za [(3, .bool y0), (4, .ptr (some y1)), (6, .ptr (some y2)), (8, .ptr (some y3)), (9, .int .i64 y4), (10, .int .i64 y5), (11, .int .i64 y6), (12, .int .i64 y7), (13, .int .i64 y8), (14, .int .i64 y9), (15, .bool y10), (16, .int .i64 y11)])) j x0 x1 x2 x3 x4 x5 x6 x7 x8 x9 x10 x11 x12
 | 0, _, _, _, _, _, _, _, _, _, _, _, _, _=>rfl
 | j + 1, x0, x1, x2, x3, x4, x5, x6, x7, x8, x9, x10, x11, x12=>by
   have h:=qg.u6.ok k x0 x1 x2 x3 x4 x5 x6 x7 x8 x9 x10 x11 x12 (seqK (fun ρ=>zx (eC k qg.u6.c) [3, 4, 6, 8, 9, 10, 11, 12, 13, 14, 15, 16, 17] j ρ K) K)
   simp only [zi, zm, zn, zg, qg.u7.okl k K j] at h
   exact (zz (by kernel_rfl) h).trans (qg.u7.ls k (fun y0 y1 y2 y3 y4 y5 y6 y7 y8 y9 y10 y11=>K (.exit 2) (za [(3, .bool y0), (4, .ptr (some y1)), (6, .ptr (some y2)), (8, .ptr (some y3)), (9, .int .i64 y4), (10, .int .i64 y5), (11, .int .i64 y6), (12, .int .i64 y7), (13, .int .i64 y8), (14, .int .i64 y9), (15, .bool y10), (16, .int .i64 y11)])) j x0 x1 x2 x3 x4 x5 x6 x7 x8 x9 x10 x11 x12).symm
theorem qg.u7.ok (k:Nat) (x0:Bool) (x1 x2 x3:Ad) (x4 x5:Int) (x6 x7:Int) (x8 x9:Int) (x10:Bool) (x11 x12:Int) (K:KF α) :
  eC k qg.u7.c (za [(3, .bool x0), (4, .ptr (some x1)), (6, .ptr (some x2)), (8, .ptr (some x3)), (9, .int .i64 x4), (10, .int .i64 x5), (11, .int .i64 x6), (12, .int .i64 x7), (13, .int .i64 x8), (14, .int .i64 x9), (15, .bool x10), (16, .int .i64 x11), (17, .int .i64 x12)]) K =
   qg.u7.f k x0 x1 x2 x3 x4 x5 x6 x7 x8 x9 x10 x11 x12 (fun y0 y1 y2 y3 y4 y5 y6 y7 y8 y9 y10 y11=>K (.exit 2) (za [(3, .bool y0), (4, .ptr (some y1)), (6, .ptr (some y2)), (8, .ptr (some y3)), (9, .int .i64 y4), (10, .int .i64 y5), (11, .int .i64 y6), (12, .int .i64 y7), (13, .int .i64 y8), (14, .int .i64 y9), (15, .bool y10), (16, .int .i64 y11)])):=
 ya.trans <| (jb (body:=eC k qg.u6.c) (keep:=[3, 4, 6, 8, 9, 10, 11, 12, 13, 14, 15, 16, 17]) (ρ:=(za [(3, .bool x0), (4, .ptr (some x1)), (6, .ptr (some x2)), (8, .ptr (some x3)), (9, .int .i64 x4), (10, .int .i64 x5), (11, .int .i64 x6), (12, .int .i64 x7), (13, .int .i64 x8), (14, .int .i64 x9), (15, .bool x10), (16, .int .i64 x11), (17, .int .i64 x12)])) (ρ':=(za [(3, .bool x0), (4, .ptr (some x1)), (6, .ptr (some x2)), (8, .ptr (some x3)), (9, .int .i64 x4), (10, .int .i64 x5), (11, .int .i64 x6), (12, .int .i64 x7), (13, .int .i64 x8), (14, .int .i64 x9), (15, .bool x10), (16, .int .i64 x11), (17, .int .i64 x12)])) (by kernel_rfl) k K).trans (qg.u7.okl k K k x0 x1 x2 x3 x4 x5 x6 x7 x8 x9 x10 x11 x12)
theorem qg.u8.ok (k:Nat) (x0:Bool) (x1 x2 x3:Ad) (x4 x5:Int) (x6 x7:Int) (x8 x9:Int) (x10:Bool) (x11 x12:Int) (K:KF α) :
  eC k qg.u8.c (za [(3, .bool x0), (4, .ptr (some x1)), (6, .ptr (some x2)), (8, .ptr (some x3)), (9, .int .i64 x4), (10, .int .i64 x5), (11, .int .i64 x6), (12, .int .i64 x7), (13, .int .i64 x8), (14, .int .i64 x9), (15, .bool x10), (16, .int .i64 x11), (17, .int .i64 x12)]) K =
   qg.u8.f k x0 x1 x2 x3 x4 x5 x6 x7 x8 x9 x10 x11 x12 (fun y0 y1 y2 y3 y4 y5 y6 y7 y8 y9 y10 y11=>K .normal (za [(3, .bool y0), (4, .ptr (some y1)), (6, .ptr (some y2)), (8, .ptr (some y3)), (9, .int .i64 y4), (10, .int .i64 y5), (11, .int .i64 y6), (12, .int .i64 y7), (13, .int .i64 y8), (14, .int .i64 y9), (15, .bool y10), (16, .int .i64 y11)])):=
 (zw.trans (qg.u7.ok k x0 x1 x2 x3 x4 x5 x6 x7 x8 x9 x10 x11 x12 (jz 2 K))).trans (by kernel_rfl)
theorem qg.u9.ok (k:Nat) (x0:Bool) (x1 x2 x3:Ad) (x4 x5:Int) (x6 x7:Int) (x8 x9:Int) (x10:Bool) (x11:Int) (K:KF α) :
  eC k qg.u9.c (za [(3, .bool x0), (4, .ptr (some x1)), (6, .ptr (some x2)), (8, .ptr (some x3)), (9, .int .i64 x4), (10, .int .i64 x5), (11, .int .i64 x6), (12, .int .i64 x7), (13, .int .i64 x8), (14, .int .i64 x9), (15, .bool x10), (16, .int .i64 x11)]) K =
   qg.u9.f k x0 x1 x2 x3 x4 x5 x6 x7 x8 x9 x10 x11 (fun y0 y1 y2 y3 y4 y5 y6 y7 y8 y9 y10 y11=>K .normal (za [(3, .bool y0), (4, .ptr (some y1)), (6, .ptr (some y2)), (8, .ptr (some y3)), (9, .int .i64 y4), (10, .int .i64 y5), (11, .int .i64 y6), (12, .int .i64 y7), (13, .int .i64 y8), (14, .int .i64 y9), (15, .bool y10), (16, .int .i64 y11)])):=
 (qg.u5.ok k x0 x1 x2 x3 x4 x5 x6 x7 x8 x9 x10 x11 qg.u8.c K).trans
  (congrArg (fun z=>qg.u5.f k x0 x1 x2 x3 x4 x5 x6 x7 x8 x9 x10 x11 z) (funext fun y0=>(funext fun y1=>(funext fun y2=>(funext fun y3=>(funext fun y4=>(funext fun y5=>(funext fun y6=>(funext fun y7=>(funext fun y8=>(funext fun y9=>(funext fun y10=>(funext fun y11=>(funext fun y12=>qg.u8.ok k y0 y1 y2 y3 y4 y5 y6 y7 y8 y9 y10 y11 y12 K))))))))))))))
theorem qg.u10.ok (k:Nat) (x0:Bool) (x1 x2 x3:Ad) (x4 x5:Int) (x6 x7:Int) (x8 x9:Int) (x10:Bool) (x11:Int) (K:KF α) :
  eC k qg.u10.c (za [(3, .bool x0), (4, .ptr (some x1)), (6, .ptr (some x2)), (8, .ptr (some x3)), (9, .int .i64 x4), (10, .int .i64 x5), (11, .int .i64 x6), (12, .int .i64 x7), (13, .int .i64 x8), (14, .int .i64 x9), (15, .bool x10), (16, .int .i64 x11)]) K =
   qg.u10.f k x0 x1 x2 x3 x4 x5 x6 x7 x8 x9 x10 x11 (fun y0 y1 y2 y3 y4 y5 y6 y7 y8 y9 y10 y11=>K .normal (za [(3, .bool y0), (4, .ptr (some y1)), (6, .ptr (some y2)), (8, .ptr (some y3)), (9, .int .i64 y4), (10, .int .i64 y5), (11, .int .i64 y6), (12, .int .i64 y7), (13, .int .i64 y8), (14, .int .i64 y9), (15, .bool y10), (16, .int .i64 y11)])):=by kernel_rfl
theorem qg.u11.ok (k:Nat) (x0:Bool) (x1 x2 x3:Ad) (x4 x5:Int) (x6 x7:Int) (x8 x9:Int) (x10:Bool) (x11:Int) (K:KF α) :
  eC k qg.u11.c (za [(3, .bool x0), (4, .ptr (some x1)), (6, .ptr (some x2)), (8, .ptr (some x3)), (9, .int .i64 x4), (10, .int .i64 x5), (11, .int .i64 x6), (12, .int .i64 x7), (13, .int .i64 x8), (14, .int .i64 x9), (15, .bool x10), (16, .int .i64 x11)]) K =
   qg.u11.f k x0 x1 x2 x3 x4 x5 x6 x7 x8 x9 x10 x11 (fun y0 y1 y2 y3 y4 y5 y6 y7 y8 y9 y10 y11=>K .normal (za [(3, .bool y0), (4, .ptr (some y1)), (6, .ptr (some y2)), (8, .ptr (some y3)), (9, .int .i64 y4), (10, .int .i64 y5), (11, .int .i64 y6), (12, .int .i64 y7), (13, .int .i64 y8), (14, .int .i64 y9), (15, .bool y10), (16, .int .i64 y11)])):=
 by
  have h:=qg.u9.ok k x0 x1 x2 x3 x4 x5 x6 x7 x8 x9 x10 x11 (seqK (fun ρ=>eC k qg.u10.c ρ K) K)
  simp only [zg, zi, zm, zn, qg.u10.ok] at h
  exact jc h
theorem qg.u12.ok (k:Nat) (x0:Bool) (x1 x2 x3:Ad) (x4 x5:Int) (x6 x7:Int) (x8 x9:Int) (x10:Bool) (x11:Int) (K:KF α) :
  eC k qg.u12.c (za [(3, .bool x0), (4, .ptr (some x1)), (6, .ptr (some x2)), (8, .ptr (some x3)), (9, .int .i64 x4), (10, .int .i64 x5), (11, .int .i64 x6), (12, .int .i64 x7), (13, .int .i64 x8), (14, .int .i64 x9), (15, .bool x10), (16, .int .i64 x11)]) K =
   qg.u12.f k x0 x1 x2 x3 x4 x5 x6 x7 x8 x9 x10 x11 (fun y0 y1 y2 y3 y4 y5 y6 y7 y8 y9 y10 y11=>K .normal (za [(3, .bool y0), (4, .ptr (some y1)), (6, .ptr (some y2)), (8, .ptr (some y3)), (9, .int .i64 y4), (10, .int .i64 y5), (11, .int .i64 y6), (12, .int .i64 y7), (13, .int .i64 y8), (14, .int .i64 y9), (15, .bool y10), (16, .int .i64 y11)])):=
 (qg.u4.ok k x0 x1 x2 x3 x4 x5 x6 x7 x8 x9 x10 x11 qg.u11.c K).trans
  (congrArg (fun z=>qg.u4.f k x0 x1 x2 x3 x4 x5 x6 x7 x8 x9 x10 x11 z) (funext fun y0=>(funext fun y1=>(funext fun y2=>(funext fun y3=>(funext fun y4=>(funext fun y5=>(funext fun y6=>(funext fun y7=>(funext fun y8=>(funext fun y9=>(funext fun y10=>(funext fun y11=>qg.u11.ok k y0 y1 y2 y3 y4 y5 y6 y7 y8 y9 y10 y11 K)))))))))))))
theorem qg.u13.ok (k:Nat) (x0:Bool) (x1 x2 x3:Ad) (x4 x5:Int) (x6 x7:Int) (x8 x9:Int) (x10:Bool) (x11:Int) (K:KF α) :
  eC k qg.u13.c (za [(3, .bool x0), (4, .ptr (some x1)), (6, .ptr (some x2)), (8, .ptr (some x3)), (9, .int .i64 x4), (10, .int .i64 x5), (11, .int .i64 x6), (12, .int .i64 x7), (13, .int .i64 x8), (14, .int .i64 x9), (15, .bool x10), (16, .int .i64 x11)]) K =
   qg.u13.f k x0 x1 x2 x3 x4 x5 x6 x7 x8 x9 x10 x11 (fun y0 y1 y2 y3 y4 y5 y6 y7 y8 y9 y10 y11=>K .normal (za [(3, .bool y0), (4, .ptr (some y1)), (6, .ptr (some y2)), (8, .ptr (some y3)), (9, .int .i64 y4), (10, .int .i64 y5), (11, .int .i64 y6), (12, .int .i64 y7), (13, .int .i64 y8), (14, .int .i64 y9), (15, .bool y10), (16, .int .i64 y11)])):=
 (zw.trans (qg.u12.ok k x0 x1 x2 x3 x4 x5 x6 x7 x8 x9 x10 x11 (jz 1 K))).trans (by kernel_rfl)
theorem qg.u14.ok (k:Nat) (x0:Bool) (x1 x2 x3:Ad) (x4 x5:Int) (x6 x7:Int) (x8 x9:Int) (x10:Bool) (x11:Int) (K:KF α) :
  eC k qg.u14.c (za [(3, .bool x0), (4, .ptr (some x1)), (6, .ptr (some x2)), (8, .ptr (some x3)), (9, .int .i64 x4), (10, .int .i64 x5), (11, .int .i64 x6), (12, .int .i64 x7), (13, .int .i64 x8), (14, .int .i64 x9), (15, .bool x10), (16, .int .i64 x11)]) K =
   qg.u14.f k x0 x1 x2 x3 x4 x5 x6 x7 x8 x9 x10 x11 (fun y0 y1 y2 y3 y4 y5 y6 y7 y8 y9 y10 y11=>K .normal (za [(3, .bool y0), (4, .ptr (some y1)), (6, .ptr (some y2)), (8, .ptr (some y3)), (9, .int .i64 y4), (10, .int .i64 y5), (11, .int .i64 y6), (12, .int .i64 y7), (13, .int .i64 y8), (14, .int .i64 y9), (15, .bool y10), (16, .int .i64 y11)])):=by kernel_rfl
theorem qg.u15.ok (k:Nat) (x0:Bool) (x1 x2 x3:Ad) (x4 x5:Int) (x6 x7:Int) (x8 x9:Int) (x10:Bool) (x11:Int) (K:KF α) :
  eC k qg.u15.c (za [(3, .bool x0), (4, .ptr (some x1)), (6, .ptr (some x2)), (8, .ptr (some x3)), (9, .int .i64 x4), (10, .int .i64 x5), (11, .int .i64 x6), (12, .int .i64 x7), (13, .int .i64 x8), (14, .int .i64 x9), (15, .bool x10), (16, .int .i64 x11)]) K =
   qg.u15.f k x0 x1 x2 x3 x4 x5 x6 x7 x8 x9 x10 x11 (fun y0 y1 y2 y3 y4 y5 y6 y7 y8 y9 y10 y11=>K .normal (za [(3, .bool y0), (4, .ptr (some y1)), (6, .ptr (some y2)), (8, .ptr (some y3)), (9, .int .i64 y4), (10, .int .i64 y5), (11, .int .i64 y6), (12, .int .i64 y7), (13, .int .i64 y8), (14, .int .i64 y9), (15, .bool y10), (16, .int .i64 y11)])):=
 by
  have h:=qg.u13.ok k x0 x1 x2 x3 x4 x5 x6 x7 x8 x9 x10 x11 (seqK (fun ρ=>eC k qg.u14.c ρ K) K)
  simp only [zg, zi, zm, zn, qg.u14.ok] at h
  exact jc h
theorem qg.u16.ok (k:Nat) (x0:Bool) (x1 x2 x3:Ad) (x4 x5:Int) (x6 x7:Int) (x8 x9:Int) (x10:Bool) (x11:Int) (K:KF α) :
  eC k qg.u16.c (za [(3, .bool x0), (4, .ptr (some x1)), (6, .ptr (some x2)), (8, .ptr (some x3)), (9, .int .i64 x4), (10, .int .i64 x5), (11, .int .i64 x6), (12, .int .i64 x7), (13, .int .i64 x8), (14, .int .i64 x9), (15, .bool x10), (16, .int .i64 x11)]) K =
   qg.u16.f k x0 x1 x2 x3 x4 x5 x6 x7 x8 x9 x10 x11 (fun y0 y1 y2 y3 y4 y5 y6 y7 y8 y9 y10 y11=>K .normal (za [(3, .bool y0), (4, .ptr (some y1)), (6, .ptr (some y2)), (8, .ptr (some y3)), (9, .int .i64 y4), (10, .int .i64 y5), (11, .int .i64 y6), (12, .int .i64 y7), (13, .int .i64 y8), (14, .int .i64 y9), (15, .bool y10), (16, .int .i64 y11)])) (fun y0 y1 y2 y3 y4 y5 y6 y7 y8 y9=>K (.exit 0) (za [(3, .bool y0), (6, .ptr (some y1)), (8, .ptr (some y2)), (9, .int .i64 y3), (10, .int .i64 y4), (11, .int .i64 y5), (12, .int .i64 y6), (13, .int .i64 y7), (14, .int .i64 y8), (15, .bool y9)])):=
 (qg.u3.ok k x0 x1 x2 x3 x4 x5 x6 x7 x8 x9 x10 x11 qg.u15.c K).trans
  (congrArg (fun z=>qg.u3.f k x0 x1 x2 x3 x4 x5 x6 x7 x8 x9 x10 x11 z (fun y0 y1 y2 y3 y4 y5 y6 y7 y8 y9=>K (.exit 0) (za [(3, .bool y0), (6, .ptr (some y1)), (8, .ptr (some y2)), (9, .int .i64 y3), (10, .int .i64 y4), (11, .int .i64 y5), (12, .int .i64 y6), (13, .int .i64 y7), (14, .int .i64 y8), (15, .bool y9)]))) (funext fun y0=>(funext fun y1=>(funext fun y2=>(funext fun y3=>(funext fun y4=>(funext fun y5=>(funext fun y6=>(funext fun y7=>(funext fun y8=>(funext fun y9=>(funext fun y10=>(funext fun y11=>qg.u15.ok k y0 y1 y2 y3 y4 y5 y6 y7 y8 y9 y10 y11 K)))))))))))))
theorem qg.u17.ls (k:Nat) (kx0:Bool->Ad->Ad->Int->Int->Int->Int->Int->Int->Bool->M α) (j:Nat) (x0:Bool) (x1 x2 x3:Ad) (x4 x5:Int) (x6 x7:Int) (x8 x9:Int) (x10:Bool) (x11:Int):qg.u17.l k kx0 (j + 1) x0 x1 x2 x3 x4 x5 x6 x7 x8 x9 x10 x11 =
 qg.u16.f k x0 x1 x2 x3 x4 x5 x6 x7 x8 x9 x10 x11 (fun y0 y1 y2 y3 y4 y5 y6 y7 y8 y9 y10 y11=>qg.u17.l k kx0 j y0 y1 y2 y3 y4 y5 y6 y7 y8 y9 y10 y11) kx0:=rfl
theorem qg.u17.okl (k:Nat) (K:KF α):∀ (j:Nat) (x0:Bool) (x1 x2 x3:Ad) (x4 x5:Int) (x6 x7:Int) (x8 x9:Int) (x10:Bool) (x11:Int),
  zx (eC k qg.u16.c) [3, 4, 6, 8, 9, 10, 11, 12, 13, 14, 15, 16] j (za [(3, .bool x0), (4, .ptr (some x1)), (6, .ptr (some x2)), (8, .ptr (some x3)), (9, .int .i64 x4), (10, .int .i64 x5), (11, .int .i64 x6), (12, .int .i64 x7), (13, .int .i64 x8), (14, .int .i64 x9), (15, .bool x10), (16, .int .i64 x11)]) K = qg.u17.l k (fun y0 y1 y2 y3 y4 y5 y6 y7 y8 y9=>K (.exit 0) (za [(3, .bool y0), (6, .ptr (some y1)), (8, .ptr (some y2)), (9, .int .i64 y3), (10, .int .i64 y4), (11, .int .i64 y5), (12, .int .i64 y6), (13, .int .i64 y7), (14, .int .i64 y8), (15, .bool y9)])) j x0 x1 x2 x3 x4 x5 x6 x7 x8 x9 x10 x11
 | 0, _, _, _, _, _, _, _, _, _, _, _, _=>rfl
 | j + 1, x0, x1, x2, x3, x4, x5, x6, x7, x8, x9, x10, x11=>by
   have h:=qg.u16.ok k x0 x1 x2 x3 x4 x5 x6 x7 x8 x9 x10 x11 (seqK (fun ρ=>zx (eC k qg.u16.c) [3, 4, 6, 8, 9, 10, 11, 12, 13, 14, 15, 16] j ρ K) K)
   simp only [zi, zm, zn, zg, qg.u17.okl k K j] at h
   exact (zz (by kernel_rfl) h).trans (qg.u17.ls k (fun y0 y1 y2 y3 y4 y5 y6 y7 y8 y9=>K (.exit 0) (za [(3, .bool y0), (6, .ptr (some y1)), (8, .ptr (some y2)), (9, .int .i64 y3), (10, .int .i64 y4), (11, .int .i64 y5), (12, .int .i64 y6), (13, .int .i64 y7), (14, .int .i64 y8), (15, .bool y9)])) j x0 x1 x2 x3 x4 x5 x6 x7 x8 x9 x10 x11).symm
theorem qg.u17.ok (k:Nat) (x0:Bool) (x1 x2 x3:Ad) (x4 x5:Int) (x6 x7:Int) (x8 x9:Int) (x10:Bool) (x11:Int) (K:KF α) :
  eC k qg.u17.c (za [(3, .bool x0), (4, .ptr (some x1)), (6, .ptr (some x2)), (8, .ptr (some x3)), (9, .int .i64 x4), (10, .int .i64 x5), (11, .int .i64 x6), (12, .int .i64 x7), (13, .int .i64 x8), (14, .int .i64 x9), (15, .bool x10), (16, .int .i64 x11)]) K =
   qg.u17.f k x0 x1 x2 x3 x4 x5 x6 x7 x8 x9 x10 x11 (fun y0 y1 y2 y3 y4 y5 y6 y7 y8 y9=>K (.exit 0) (za [(3, .bool y0), (6, .ptr (some y1)), (8, .ptr (some y2)), (9, .int .i64 y3), (10, .int .i64 y4), (11, .int .i64 y5), (12, .int .i64 y6), (13, .int .i64 y7), (14, .int .i64 y8), (15, .bool y9)])):=
 ya.trans <| (jb (body:=eC k qg.u16.c) (keep:=[3, 4, 6, 8, 9, 10, 11, 12, 13, 14, 15, 16]) (ρ:=(za [(3, .bool x0), (4, .ptr (some x1)), (6, .ptr (some x2)), (8, .ptr (some x3)), (9, .int .i64 x4), (10, .int .i64 x5), (11, .int .i64 x6), (12, .int .i64 x7), (13, .int .i64 x8), (14, .int .i64 x9), (15, .bool x10), (16, .int .i64 x11)])) (ρ':=(za [(3, .bool x0), (4, .ptr (some x1)), (6, .ptr (some x2)), (8, .ptr (some x3)), (9, .int .i64 x4), (10, .int .i64 x5), (11, .int .i64 x6), (12, .int .i64 x7), (13, .int .i64 x8), (14, .int .i64 x9), (15, .bool x10), (16, .int .i64 x11)])) (by kernel_rfl) k K).trans (qg.u17.okl k K k x0 x1 x2 x3 x4 x5 x6 x7 x8 x9 x10 x11)
theorem qg.u18.ok (k:Nat) (x0:Bool) (x1 x2 x3:Ad) (x4 x5:Int) (x6 x7:Int) (x8 x9:Int) (x10:Bool) (x11:Int) (K:KF α) :
  eC k qg.u18.c (za [(3, .bool x0), (4, .ptr (some x1)), (6, .ptr (some x2)), (8, .ptr (some x3)), (9, .int .i64 x4), (10, .int .i64 x5), (11, .int .i64 x6), (12, .int .i64 x7), (13, .int .i64 x8), (14, .int .i64 x9), (15, .bool x10), (16, .int .i64 x11)]) K =
   qg.u18.f k x0 x1 x2 x3 x4 x5 x6 x7 x8 x9 x10 x11 (fun y0 y1 y2 y3 y4 y5 y6 y7 y8 y9=>K .normal (za [(3, .bool y0), (6, .ptr (some y1)), (8, .ptr (some y2)), (9, .int .i64 y3), (10, .int .i64 y4), (11, .int .i64 y5), (12, .int .i64 y6), (13, .int .i64 y7), (14, .int .i64 y8), (15, .bool y9)])):=
 (zw.trans (qg.u17.ok k x0 x1 x2 x3 x4 x5 x6 x7 x8 x9 x10 x11 (jz 0 K))).trans (by kernel_rfl)
theorem qg.u19.ok (k:Nat) (x0:Bool) (x1 x2 x3:Ad) (x4 x5:Int) (x6 x7:Int) (x8 x9:Int) (x10:Bool) (K:KF α) :
  eC k qg.u19.c (za [(3, .bool x0), (4, .ptr (some x1)), (6, .ptr (some x2)), (8, .ptr (some x3)), (9, .int .i64 x4), (10, .int .i64 x5), (11, .int .i64 x6), (12, .int .i64 x7), (13, .int .i64 x8), (14, .int .i64 x9), (15, .bool x10)]) K =
   qg.u19.f k x0 x1 x2 x3 x4 x5 x6 x7 x8 x9 x10 (fun y0 y1 y2 y3 y4 y5 y6 y7 y8 y9=>K .normal (za [(3, .bool y0), (6, .ptr (some y1)), (8, .ptr (some y2)), (9, .int .i64 y3), (10, .int .i64 y4), (11, .int .i64 y5), (12, .int .i64 y6), (13, .int .i64 y7), (14, .int .i64 y8), (15, .bool y9)])):=
 (qg.u2.ok k x0 x1 x2 x3 x4 x5 x6 x7 x8 x9 x10 qg.u18.c K).trans
  (congrArg (fun z=>qg.u2.f k x0 x1 x2 x3 x4 x5 x6 x7 x8 x9 x10 z) (funext fun y0=>(funext fun y1=>(funext fun y2=>(funext fun y3=>(funext fun y4=>(funext fun y5=>(funext fun y6=>(funext fun y7=>(funext fun y8=>(funext fun y9=>(funext fun y10=>(funext fun y11=>qg.u18.ok k y0 y1 y2 y3 y4 y5 y6 y7 y8 y9 y10 y11 K)))))))))))))
theorem qg.u20.ok (k:Nat) (x0:Bool) (x1 x2:Ad) (x3 x4:Int) (x5 x6:Int) (x7 x8:Int) (x9:Bool) (K:KF α) :
  eC k qg.u20.c (za [(3, .bool x0), (6, .ptr (some x1)), (8, .ptr (some x2)), (9, .int .i64 x3), (10, .int .i64 x4), (11, .int .i64 x5), (12, .int .i64 x6), (13, .int .i64 x7), (14, .int .i64 x8), (15, .bool x9)]) K =
   qg.u20.f k x0 x1 x2 x3 x4 x5 x6 x7 x8 x9 (fun y0=>K .ret (fr31 y0)):=by kernel_rfl
theorem qg.u21.ok (k:Nat) (x0:Bool) (x1 x2 x3:Ad) (x4 x5:Int) (x6 x7:Int) (x8 x9:Int) (x10:Bool) (K:KF α) :
  eC k qg.u21.c (za [(3, .bool x0), (4, .ptr (some x1)), (6, .ptr (some x2)), (8, .ptr (some x3)), (9, .int .i64 x4), (10, .int .i64 x5), (11, .int .i64 x6), (12, .int .i64 x7), (13, .int .i64 x8), (14, .int .i64 x9), (15, .bool x10)]) K =
   qg.u21.f k x0 x1 x2 x3 x4 x5 x6 x7 x8 x9 x10 (fun y0=>K .ret (fr31 y0)):=
 by
  have h:=qg.u19.ok k x0 x1 x2 x3 x4 x5 x6 x7 x8 x9 x10 (seqK (fun ρ=>eC k qg.u20.c ρ K) K)
  simp only [zg, zi, zm, zn, qg.u20.ok] at h
  exact jc h
theorem qg.u22.ok (k:Nat) (x0:TX) (K:KF α) :
  eC k qg.u22.c (fr11 x0) K =
   qg.u22.f k x0 (fun y0=>K .ret (fr31 y0)):=
 (qg.u1.ok k x0 qg.u21.c K).trans
  (congrArg (fun z=>qg.u1.f k x0 z) (funext fun y0=>(funext fun y1=>(funext fun y2=>(funext fun y3=>(funext fun y4=>(funext fun y5=>(funext fun y6=>(funext fun y7=>(funext fun y8=>(funext fun y9=>(funext fun y10=>qg.u21.ok k y0 y1 y2 y3 y4 y5 y6 y7 y8 y9 y10 K))))))))))))
theorem qg.ok (k:Nat) (x0:TX) (κ:Res->M α) :
  evF T (env k) k qg.c qg.res [.str x0] κ = qg.f (k + 1) x0 (fun o0=>κ (.ret (.bool o0))):=
 (qg.u22.ok k x0 (retK T qg.res κ)).trans (by kernel_rfl)
theorem qg.code:qg.c.code = jt Tryd.f4:=by kernel_rfl
end
end Go.Ab.S8
