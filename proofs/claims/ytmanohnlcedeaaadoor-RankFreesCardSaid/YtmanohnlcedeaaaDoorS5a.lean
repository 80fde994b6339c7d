import Derived.Test.YtmanohnlcedeaaaDoorS5a1
import Derived.Test.YtmanohnlcedeaaaDoorAb20
import Derived.Shelf.Strings.Builder1
import Derived.Test.YtmanohnlcedeaaaDoorProg
import Derived.KernelRfl
import Derived.Lib.TrailingZeros
namespace Go.Ab.S5
abbrev fr46 (x0 : Sl) (x1 : Int) : Frame := za [(3, .slice x0), (4, .int .i64 x1)]
abbrev fr47 (x0 : TX) (x1 : Int) : Frame := za [(0, .str x0), (3, .int .i64 x1)]
abbrev fr48 (x0 x1 : Sl) (x2 : Int) : Frame := za [(0, .slice x0), (3, .slice x1), (4, .int .i64 x2)]
abbrev fr49 (x0 x1 : Sl) (x2 x3 x4 : Int) : Frame := za [(0, .slice x0), (3, .slice x1), (4, .int .i64 x2), (5, .int .i64 x3), (7, .int .i64 x4)]
abbrev fr50 (x0 x1 : Sl) (x2 : Int) : Frame := za [(0, .slice x0), (3, .slice x1), (5, .int .i64 x2)]
abbrev fr51 (x0 x1 : Sl) (x2 x3 : Int) : Frame := za [(0, .slice x0), (3, .slice x1), (4, .int .i64 x2), (5, .int .i64 x3)]
abbrev fr52 (x0 x1 : Sl) (x2 : Int) : Frame := za [(0, .slice x0), (1, .slice x1), (2, .int .i64 x2)]
abbrev fr53 (x0 x1 : Sl) (x2 x3 : Int) : Frame := za [(0, .slice x0), (1, .slice x1), (2, .int .i64 x2), (8, .int .i64 x3)]
abbrev fr54 (x0 x1 : Sl) (x2 x3 x4 : Int) : Frame := za [(0, .slice x0), (1, .slice x1), (2, .int .i64 x2), (8, .int .i64 x3), (9, .int .i64 x4)]
abbrev fr55 (x0 x1 : Int) : Frame := za [(6, .int .i64 x0), (7, .int .i64 x1)]
abbrev fr56 (x0 x1 x2 : Sl) : Frame := za [(0, .slice x0), (5, .slice x1), (6, .slice x2)]
abbrev fr57 (x0 x1 x2 : Sl) (x3 : Int) : Frame := za [(0, .slice x0), (5, .slice x1), (6, .slice x2), (7, .int .i64 x3)]
abbrev fr58 (x0 x1 x2 : Sl) (x3 x4 : Int) : Frame := za [(0, .slice x0), (5, .slice x1), (6, .slice x2), (7, .int .i64 x3), (11, .int .i64 x4)]
abbrev fr59 (x0 : Sl) (x1 : Int) : Frame := za [(0, .slice x0), (3, .int .i64 x1)]
abbrev fr60 (x0 x1 x2 : Sl) : Frame := za [(0, .slice x0), (4, .slice x1), (5, .slice x2)]
abbrev fr61 (x0 x1 x2 : Sl) (x3 : Int) : Frame := za [(0, .slice x0), (4, .slice x1), (5, .slice x2), (6, .int .i64 x3)]
abbrev fr62 (x0 : Sl) : Frame := za [(5, .slice x0)]
abbrev fr63 (x0 : Sl) (x1 x2 : Int) : Frame := za [(0, .slice x0), (1, .int .i64 x1), (2, .int .i64 x2)]
abbrev fr64 (x0 x1 : Sl) (x2 x3 : Sl) : Frame := za [(0, .slice x0), (4, .slice x1), (5, .slice x2), (6, .slice x3)]
abbrev fr65 (x0 x1 : Sl) (x2 x3 : Sl) (x4 : Int) : Frame := za [(0, .slice x0), (4, .slice x1), (5, .slice x2), (6, .slice x3), (7, .int .i64 x4)]
abbrev fr66 (x0 : Sl) : Frame := za [(6, .slice x0)]
abbrev fr67 (x0 x1 : Sl) (x2 x3 : Sl) (x4 x5 : Int) : Frame := za [(0, .slice x0), (4, .slice x1), (5, .slice x2), (6, .slice x3), (7, .int .i64 x4), (8, .int .u64 x5)]
abbrev fr68 (x0 x1 : Sl) (x2 x3 : Sl) (x4 x5 x6 : Int) : Frame := za [(0, .slice x0), (4, .slice x1), (5, .slice x2), (6, .slice x3), (7, .int .i64 x4), (8, .int .u64 x5), (9, .int .i64 x6)]
abbrev fr69 (x0 : Sl) (x1 : Bool) (x2 : Sl) : Frame := za [(0, .slice x0), (3, .bool x1), (4, .slice x2)]
abbrev fr70 (x0 : Sl) (x1 : Bool) (x2 : Sl) (x3 : Int) : Frame := za [(0, .slice x0), (3, .bool x1), (4, .slice x2), (5, .int .i64 x3)]
abbrev fr71 (x0 : Sl) (x1 : Bool) (x2 : Sl) (x3 : Int) (x4 : Sl) (x5 : Int) : Frame := za [(0, .slice x0), (3, .bool x1), (4, .slice x2), (5, .int .i64 x3), (6, .slice x4), (7, .int .i64 x5)]
section
variable {α : Type}
open Go.Proofs
set_option linter.unusedVariables false
set_option linter.unusedSimpArgs false
noncomputable def qs.c : IC := qs.u9.c
noncomputable def qs.res : List ResultVar := [(.tmp 2)]
theorem qs.u1.ok (k : Nat) (x0 : Sl) (R : IC) (K : KF α) :
  eC k (qs.u1.c R) (fr25 x0) K =
   qs.u1.f k x0 (fun y0 => eC k R (fr35 y0) K) := by kernel_rfl
theorem qs.u2.ok (k : Nat) (x0 : Sl) (R : IC) (K : KF α) :
  eC k (qs.u2.c R) (fr35 x0) K =
   qs.u2.f k x0 (fun y0 y1 => eC k R (fr46 y0 y1) K) := by kernel_rfl
theorem qs.u3.ok (k : Nat) (x0 : Sl) (x1 : Int) (K : KF α) :
  eC k qs.u3.c (fr46 x0 x1) K =
   qs.u3.f k x0 x1 (fun y0 y1 => K .normal (fr46 y0 y1)) (fun y0 => K (.exit 0) (fr35 y0)) := by kernel_rfl
theorem qs.u4.ls (k : Nat) (kx0 : Sl->M α) (j : Nat) (x0 : Sl) (x1 : Int) : qs.u4.l k kx0 (j + 1) x0 x1 =
 qs.u3.f k x0 x1 (fun y0 y1 => qs.u4.l k kx0 j y0 y1) kx0 := rfl
theorem qs.u4.okl (k : Nat) (K : KF α) : ∀ (j : Nat) (x0 : Sl) (x1 : Int),
  zu (eC k qs.u3.c) [3, 4] j (fr46 x0 x1) K = qs.u4.l k (fun y0 => K (.exit 0) (fr35 y0)) j x0 x1
 | 0, _, _ => rfl
 | j + 1, x0, x1 => by
   have h := qs.u3.ok k x0 x1 (seqK (fun ρ => zu (eC k qs.u3.c) [3, 4] j ρ K) K)
   simp only [zf, zg, zh, zd, qs.u4.okl k K j] at h
   exact (zq (by kernel_rfl) h).trans (qs.u4.ls k (fun y0 => K (.exit 0) (fr35 y0)) j x0 x1).symm
theorem qs.u4.ok (k : Nat) (x0 : Sl) (x1 : Int) (K : KF α) :
  eC k qs.u4.c (fr46 x0 x1) K =
   qs.u4.f k x0 x1 (fun y0 => K (.exit 0) (fr35 y0)) :=
 je.trans <| (zr (body := eC k qs.u3.c) (keep := [3, 4]) (ρ := (fr46 x0 x1)) (ρ' := (fr46 x0 x1)) (by kernel_rfl) k K).trans (qs.u4.okl k K k x0 x1)
theorem qs.u5.ok (k : Nat) (x0 : Sl) (x1 : Int) (K : KF α) :
  eC k qs.u5.c (fr46 x0 x1) K =
   qs.u5.f k x0 x1 (fun y0 => K .normal (fr35 y0)) :=
 (zm.trans (qs.u4.ok k x0 x1 (jf 0 K))).trans (by kernel_rfl)
theorem qs.u6.ok (k : Nat) (x0 : Sl) (K : KF α) :
  eC k qs.u6.c (fr35 x0) K =
   qs.u6.f k x0 (fun y0 => K .normal (fr35 y0)) :=
 (qs.u2.ok k x0 qs.u5.c K).trans
  (congrArg (fun z => qs.u2.f k x0 z) (funext fun y0 => (funext fun y1 => qs.u5.ok k y0 y1 K)))
theorem qs.u7.ok (k : Nat) (x0 : Sl) (K : KF α) :
  eC k qs.u7.c (fr35 x0) K =
   qs.u7.f k x0 (fun y0 => K .ret (fr26 y0)) := by kernel_rfl
theorem qs.u8.ok (k : Nat) (x0 : Sl) (K : KF α) :
  eC k qs.u8.c (fr35 x0) K =
   qs.u8.f k x0 (fun y0 => K .ret (fr26 y0)) :=
 by
  have h := qs.u6.ok k x0 (seqK (fun ρ => eC k qs.u7.c ρ K) K)
  simp only [zd, zf, zg, zh, qs.u7.ok] at h
  exact zk h
theorem qs.u9.ok (k : Nat) (x0 : Sl) (K : KF α) :
  eC k qs.u9.c (fr25 x0) K =
   qs.u9.f k x0 (fun y0 => K .ret (fr26 y0)) :=
 (qs.u1.ok k x0 qs.u8.c K).trans
  (congrArg (fun z => qs.u1.f k x0 z) (funext fun y0 => qs.u8.ok k y0 K))
theorem qs.ok (k : Nat) (x0 : Sl) (κ : Res->M α) :
  evF T (env k) k qs.c qs.res [.slice x0] κ = qs.f (k + 1) x0 (fun o0 => κ (.ret (.slice o0))) :=
 (qs.u9.ok k x0 (retK T qs.res κ)).trans (by kernel_rfl)
theorem qs.code : qs.c.code = zy Tryd.f41 := by kernel_rfl
noncomputable def qba.c : IC := qba.u1.c
noncomputable def qba.res : List ResultVar := [(.tmp 2)]
theorem qba.u1.ok (k : Nat) (x0 : Int) (K : KF α) :
  eC k qba.u1.c (fr30 x0) K =
   qba.u1.f k x0 (fun y0 => K .ret (fr3 y0)) := by kernel_rfl
theorem qba.ok (k : Nat) (x0 : Int) (κ : Res->M α) :
  evF T (env k) k qba.c qba.res [.int .i64 x0] κ = qba.f (k + 1) x0 (fun o0 => κ (.ret (.int .i64 o0))) :=
 (qba.u1.ok k x0 (retK T qba.res κ)).trans (by kernel_rfl)
theorem qba.code : qba.c.code = zy Tryd.f39 := by kernel_rfl
noncomputable def qn.c : IC := qn.u14.c
noncomputable def qn.res : List ResultVar := [(.tmp 2)]
theorem qn.u1.ok (k : Nat) (x0 : TX) (R : IC) (K : KF α) :
  eC k (qn.u1.c R) (fr11 x0) K =
   qn.u1.f k x0 (fun y0 => eC k R (fr11 y0) K) (fun y0 => K .ret (fr18 y0)) := by kernel_rfl
theorem qn.u2.ok (k : Nat) (x0 : TX) (R : IC) (K : KF α) :
  eC k (qn.u2.c R) (fr11 x0) K =
   qn.u2.f k x0 (fun y0 y1 => eC k R (fr47 y0 y1) K) := by kernel_rfl
theorem qn.u3.ok (k : Nat) (x0 : TX) (x1 : Int) (R : IC) (K : KF α) :
  eC k (qn.u3.c R) (fr47 x0 x1) K =
   qn.u3.f k x0 x1 (fun y0 y1 => eC k R (fr47 y0 y1) K) (K (.exit 0) (za [])) := by kernel_rfl
theorem qn.u4.ok (k : Nat) (x0 : TX) (x1 : Int) (K : KF α) :
  eC k qn.u4.c (fr47 x0 x1) K =
   qn.u4.f k x0 x1 (fun y0 y1 => K .normal (fr47 y0 y1)) (fun y0 => K .ret (fr18 y0)) := by kernel_rfl
theorem qn.u5.ok (k : Nat) (x0 : TX) (x1 : Int) (K : KF α) :
  eC k qn.u5.c (fr47 x0 x1) K =
   qn.u5.f k x0 x1 (fun y0 y1 => K .normal (fr47 y0 y1)) (fun y0 => K .ret (fr18 y0)) :=
 (zm.trans (qn.u4.ok k x0 x1 (jf 1 K))).trans (by kernel_rfl)
theorem qn.u6.ok (k : Nat) (x0 : TX) (x1 : Int) (K : KF α) :
  eC k qn.u6.c (fr47 x0 x1) K =
   qn.u6.f k x0 x1 (fun y0 y1 => K .normal (fr47 y0 y1)) := by kernel_rfl
theorem qn.u7.ok (k : Nat) (x0 : TX) (x1 : Int) (K : KF α) :
  eC k qn.u7.c (fr47 x0 x1) K =
   qn.u7.f k x0 x1 (fun y0 y1 => K .normal (fr47 y0 y1)) (fun y0 => K .ret (fr18 y0)) :=
 by
  have h := qn.u5.ok k x0 x1 (seqK (fun ρ => eC k qn.u6.c ρ K) K)
  simp only [zd, zf, zg, zh, qn.u6.ok] at h
  exact zk h
theorem qn.u8.ok (k : Nat) (x0 : TX) (x1 : Int) (K : KF α) :
  eC k qn.u8.c (fr47 x0 x1) K =
   qn.u8.f k x0 x1 (fun y0 y1 => K .normal (fr47 y0 y1)) (fun y0 => K .ret (fr18 y0)) (K (.exit 0) (za [])) :=
 (qn.u3.ok k x0 x1 qn.u7.c K).trans
  (congrArg (fun z => qn.u3.f k x0 x1 z (K (.exit 0) (za []))) (funext fun y0 => (funext fun y1 => qn.u7.ok k y0 y1 K)))
theorem qn.u9.ls (k : Nat) (kr : Bool->M α) (kx0 : M α) (j : Nat) (x0 : TX) (x1 : Int) : qn.u9.l k kr kx0 (j + 1) x0 x1 =
 qn.u8.f k x0 x1 (fun y0 y1 => qn.u9.l k kr kx0 j y0 y1) kr kx0 := rfl
theorem qn.u9.okl (k : Nat) (K : KF α) : ∀ (j : Nat) (x0 : TX) (x1 : Int),
  zu (eC k qn.u8.c) [0, 3] j (fr47 x0 x1) K = qn.u9.l k (fun y0 => K .ret (fr18 y0)) (K (.exit 0) (za [])) j x0 x1
 | 0, _, _ => rfl
 | j + 1, x0, x1 => by
   have h := qn.u8.ok k x0 x1 (seqK (fun ρ => zu (eC k qn.u8.c) [0, 3] j ρ K) K)
   simp only [zf, zg, zh, zd, qn.u9.okl k K j] at h
   exact (zq (by kernel_rfl) h).trans (qn.u9.ls k (fun y0 => K .ret (fr18 y0)) (K (.exit 0) (za [])) j x0 x1).symm
theorem qn.u9.ok (k : Nat) (x0 : TX) (x1 : Int) (K : KF α) :
  eC k qn.u9.c (fr47 x0 x1) K =
   qn.u9.f k x0 x1 (fun y0 => K .ret (fr18 y0)) (K (.exit 0) (za [])) :=
 je.trans <| (zr (body := eC k qn.u8.c) (keep := [0, 3]) (ρ := (fr47 x0 x1)) (ρ' := (fr47 x0 x1)) (by kernel_rfl) k K).trans (qn.u9.okl k K k x0 x1)
theorem qn.u10.ok (k : Nat) (x0 : TX) (x1 : Int) (K : KF α) :
  eC k qn.u10.c (fr47 x0 x1) K =
   qn.u10.f k x0 x1 (K .normal (za [])) (fun y0 => K .ret (fr18 y0)) :=
 (zm.trans (qn.u9.ok k x0 x1 (jf 0 K))).trans (by kernel_rfl)
theorem qn.u11.ok (k : Nat) (x0 : TX) (K : KF α) :
  eC k qn.u11.c (fr11 x0) K =
   qn.u11.f k x0 (K .normal (za [])) (fun y0 => K .ret (fr18 y0)) :=
 (qn.u2.ok k x0 qn.u10.c K).trans
  (congrArg (fun z => qn.u2.f k x0 z) (funext fun y0 => (funext fun y1 => qn.u10.ok k y0 y1 K)))
theorem qn.u12.ok (k : Nat) (K : KF α) :
  eC k qn.u12.c (za []) K =
   qn.u12.f k (fun y0 => K .ret (fr18 y0)) := by kernel_rfl
theorem qn.u13.ok (k : Nat) (x0 : TX) (K : KF α) :
  eC k qn.u13.c (fr11 x0) K =
   qn.u13.f k x0 (fun y0 => K .ret (fr18 y0)) :=
 by
  have h := qn.u11.ok k x0 (seqK (fun ρ => eC k qn.u12.c ρ K) K)
  simp only [zd, zf, zg, zh, qn.u12.ok] at h
  exact zk h
theorem qn.u14.ok (k : Nat) (x0 : TX) (K : KF α) :
  eC k qn.u14.c (fr11 x0) K =
   qn.u14.f k x0 (fun y0 => K .ret (fr18 y0)) :=
 (qn.u1.ok k x0 qn.u13.c K).trans
  (congrArg (fun z => qn.u1.f k x0 z (fun y0 => K .ret (fr18 y0))) (funext fun y0 => qn.u13.ok k y0 K))
theorem qn.ok (k : Nat) (x0 : TX) (κ : Res->M α) :
  evF T (env k) k qn.c qn.res [.str x0] κ = qn.f (k + 1) x0 (fun o0 => κ (.ret (.bool o0))) :=
 (qn.u14.ok k x0 (retK T qn.res κ)).trans (by kernel_rfl)
theorem qn.code : qn.c.code = zy Tryd.f82 := by kernel_rfl
noncomputable def qaz.c : IC := qaz.u1.c
noncomputable def qaz.res : List ResultVar := [(.tmp 2)]
theorem qaz.u1.ok (k : Nat) (x0 : TX) (K : KF α) :
  eC k qaz.u1.c (fr11 x0) K =
   qaz.u1.f k x0 (fun y0 => K .ret (fr18 y0)) := by kernel_rfl
theorem qaz.ok (k : Nat) (x0 : TX) (κ : Res->M α) :
  evF T (env k) k qaz.c qaz.res [.str x0] κ = qaz.f (k + 1) x0 (fun o0 => κ (.ret (.bool o0))) :=
 (qaz.u1.ok k x0 (retK T qaz.res κ)).trans (by kernel_rfl)
theorem qaz.code : qaz.c.code = zy Tryd.f83 := by kernel_rfl
noncomputable def qbf.c : IC := qbf.u1.c
noncomputable def qbf.res : List ResultVar := [(.tmp 2)]
theorem qbf.u1.ok (k : Nat) (x0 x1 x2 : Int) (x3 : TX) (x4 : Int) (K : KF α) :
  eC k qbf.u1.c (za [(0, .agg [.int .i64 x0, .int .i64 x1, .int .i64 x2, .str x3, .int .i64 x4])]) K =
   qbf.u1.f k x0 x1 x2 x3 x4 (fun y0 => K .ret (fr18 y0)) := by kernel_rfl
theorem qbf.ok (k : Nat) (x0 x1 x2 : Int) (x3 : TX) (x4 : Int) (κ : Res->M α) :
  evF T (env k) k qbf.c qbf.res [.agg [.int .i64 x0, .int .i64 x1, .int .i64 x2, .str x3, .int .i64 x4]] κ = qbf.f (k + 1) x0 x1 x2 x3 x4 (fun o0 => κ (.ret (.bool o0))) :=
 (qbf.u1.ok k x0 x1 x2 x3 x4 (retK T qbf.res κ)).trans (by kernel_rfl)
theorem qbf.code : qbf.c.code = zy Tryd.f74 := by kernel_rfl
noncomputable def ql.c : IC := ql.u16.c
noncomputable def ql.res : List ResultVar := [(.tmp 2)]
theorem ql.u1.ok (k : Nat) (x0 : Sl) (R : IC) (K : KF α) :
  eC k (ql.u1.c R) (fr25 x0) K =
   ql.u1.f k x0 (fun y0 y1 => eC k R (fr33 y0 y1) K) (fun y0 => K .ret (fr18 y0)) := by kernel_rfl
theorem ql.u2.ok (k : Nat) (x0 x1 : Sl) (R : IC) (K : KF α) :
  eC k (ql.u2.c R) (fr33 x0 x1) K =
   ql.u2.f k x0 x1 (fun y0 y1 y2 => eC k R (fr48 y0 y1 y2) K) := by kernel_rfl
theorem ql.u3.ok (k : Nat) (x0 x1 : Sl) (x2 : Int) (R : IC) (K : KF α) :
  eC k (ql.u3.c R) (fr48 x0 x1 x2) K =
   ql.u3.f k x0 x1 x2 (fun y0 y1 y2 => eC k R (fr48 y0 y1 y2) K) (fun y0 => K (.exit 0) (fr35 y0)) := by kernel_rfl
theorem ql.u4.ok (k : Nat) (x0 x1 : Sl) (x2 : Int) (R : IC) (K : KF α) :
  eC k (ql.u4.c R) (fr48 x0 x1 x2) K =
   ql.u4.f k x0 x1 x2 (fun y0 y1 y2 y3 y4 => eC k R (fr49 y0 y1 y2 y3 y4) K) (fun y0 => K .ret (fr18 y0)) := by kernel_rfl
theorem ql.u5.ok (k : Nat) (x0 x1 : Sl) (x2 x3 x4 : Int) (K : KF α) :
  eC k ql.u5.c (fr49 x0 x1 x2 x3 x4) K =
   ql.u5.f k x0 x1 x2 x3 x4 (fun y0 y1 y2 => K .normal (fr48 y0 y1 y2)) (fun y0 => K .ret (fr18 y0)) := by kernel_rfl
theorem ql.u6.ok (k : Nat) (x0 x1 : Sl) (x2 : Int) (K : KF α) :
  eC k ql.u6.c (fr48 x0 x1 x2) K =
   ql.u6.f k x0 x1 x2 (fun y0 y1 y2 => K .normal (fr48 y0 y1 y2)) (fun y0 => K .ret (fr18 y0)) :=
 (ql.u4.ok k x0 x1 x2 ql.u5.c K).trans
  (congrArg (fun z => ql.u4.f k x0 x1 x2 z (fun y0 => K .ret (fr18 y0))) (funext fun y0 => (funext fun y1 => (funext fun y2 => (funext fun y3 => (funext fun y4 => ql.u5.ok k y0 y1 y2 y3 y4 K))))))
theorem ql.u7.ok (k : Nat) (x0 x1 : Sl) (x2 : Int) (K : KF α) :
  eC k ql.u7.c (fr48 x0 x1 x2) K =
   ql.u7.f k x0 x1 x2 (fun y0 y1 y2 => K .normal (fr48 y0 y1 y2)) (fun y0 => K .ret (fr18 y0)) :=
 (zm.trans (ql.u6.ok k x0 x1 x2 (jf 1 K))).trans (by kernel_rfl)
theorem ql.u8.ok (k : Nat) (x0 x1 : Sl) (x2 : Int) (K : KF α) :
  eC k ql.u8.c (fr48 x0 x1 x2) K =
   ql.u8.f k x0 x1 x2 (fun y0 y1 y2 => K .normal (fr48 y0 y1 y2)) := by kernel_rfl
theorem ql.u9.ok (k : Nat) (x0 x1 : Sl) (x2 : Int) (K : KF α) :
  eC k ql.u9.c (fr48 x0 x1 x2) K =
   ql.u9.f k x0 x1 x2 (fun y0 y1 y2 => K .normal (fr48 y0 y1 y2)) (fun y0 => K .ret (fr18 y0)) :=
 by
  have h := ql.u7.ok k x0 x1 x2 (seqK (fun ρ => eC k ql.u8.c ρ K) K)
  simp only [zd, zf, zg, zh, ql.u8.ok] at h
  exact zk h
theorem ql.u10.ok (k : Nat) (x0 x1 : Sl) (x2 : Int) (K : KF α) :
  eC k ql.u10.c (fr48 x0 x1 x2) K =
   ql.u10.f k x0 x1 x2 (fun y0 y1 y2 => K .normal (fr48 y0 y1 y2)) (fun y0 => K .ret (fr18 y0)) (fun y0 => K (.exit 0) (fr35 y0)) :=
 (ql.u3.ok k x0 x1 x2 ql.u9.c K).trans
  (congrArg (fun z => ql.u3.f k x0 x1 x2 z (fun y0 => K (.exit 0) (fr35 y0))) (funext fun y0 => (funext fun y1 => (funext fun y2 => ql.u9.ok k y0 y1 y2 K))))
theorem ql.u11.ls (k : Nat) (kr : Bool->M α) (kx0 : Sl->M α) (j : Nat) (x0 x1 : Sl) (x2 : Int) : ql.u11.l k kr kx0 (j + 1) x0 x1 x2 =
 ql.u10.f k x0 x1 x2 (fun y0 y1 y2 => ql.u11.l k kr kx0 j y0 y1 y2) kr kx0 := rfl
theorem ql.u11.okl (k : Nat) (K : KF α) : ∀ (j : Nat) (x0 x1 : Sl) (x2 : Int),
  zu (eC k ql.u10.c) [0, 3, 4] j (fr48 x0 x1 x2) K = ql.u11.l k (fun y0 => K .ret (fr18 y0)) (fun y0 => K (.exit 0) (fr35 y0)) j x0 x1 x2
 | 0, _, _, _ => rfl
 | j + 1, x0, x1, x2 => by
   have h := ql.u10.ok k x0 x1 x2 (seqK (fun ρ => zu (eC k ql.u10.c) [0, 3, 4] j ρ K) K)
   simp only [zf, zg, zh, zd, ql.u11.okl k K j] at h
   exact (zq (by kernel_rfl) h).trans (ql.u11.ls k (fun y0 => K .ret (fr18 y0)) (fun y0 => K (.exit 0) (fr35 y0)) j x0 x1 x2).symm
theorem ql.u11.ok (k : Nat) (x0 x1 : Sl) (x2 : Int) (K : KF α) :
  eC k ql.u11.c (fr48 x0 x1 x2) K =
   ql.u11.f k x0 x1 x2 (fun y0 => K .ret (fr18 y0)) (fun y0 => K (.exit 0) (fr35 y0)) :=
 je.trans <| (zr (body := eC k ql.u10.c) (keep := [0, 3, 4]) (ρ := (fr48 x0 x1 x2)) (ρ' := (fr48 x0 x1 x2)) (by kernel_rfl) k K).trans (ql.u11.okl k K k x0 x1 x2)
theorem ql.u12.ok (k : Nat) (x0 x1 : Sl) (x2 : Int) (K : KF α) :
  eC k ql.u12.c (fr48 x0 x1 x2) K =
   ql.u12.f k x0 x1 x2 (fun y0 => K .normal (fr35 y0)) (fun y0 => K .ret (fr18 y0)) :=
 (zm.trans (ql.u11.ok k x0 x1 x2 (jf 0 K))).trans (by kernel_rfl)
theorem ql.u13.ok (k : Nat) (x0 x1 : Sl) (K : KF α) :
  eC k ql.u13.c (fr33 x0 x1) K =
   ql.u13.f k x0 x1 (fun y0 => K .normal (fr35 y0)) (fun y0 => K .ret (fr18 y0)) :=
 (ql.u2.ok k x0 x1 ql.u12.c K).trans
  (congrArg (fun z => ql.u2.f k x0 x1 z) (funext fun y0 => (funext fun y1 => (funext fun y2 => ql.u12.ok k y0 y1 y2 K))))
theorem ql.u14.ok (k : Nat) (x0 : Sl) (K : KF α) :
  eC k ql.u14.c (fr35 x0) K =
   ql.u14.f k x0 (fun y0 => K .ret (fr18 y0)) := by kernel_rfl
theorem ql.u15.ok (k : Nat) (x0 x1 : Sl) (K : KF α) :
  eC k ql.u15.c (fr33 x0 x1) K =
   ql.u15.f k x0 x1 (fun y0 => K .ret (fr18 y0)) :=
 by
  have h := ql.u13.ok k x0 x1 (seqK (fun ρ => eC k ql.u14.c ρ K) K)
  simp only [zd, zf, zg, zh, ql.u14.ok] at h
  exact zk h
theorem ql.u16.ok (k : Nat) (x0 : Sl) (K : KF α) :
  eC k ql.u16.c (fr25 x0) K =
   ql.u16.f k x0 (fun y0 => K .ret (fr18 y0)) :=
 (ql.u1.ok k x0 ql.u15.c K).trans
  (congrArg (fun z => ql.u1.f k x0 z (fun y0 => K .ret (fr18 y0))) (funext fun y0 => (funext fun y1 => ql.u15.ok k y0 y1 K)))
theorem ql.ok (k : Nat) (x0 : Sl) (κ : Res->M α) :
  evF T (env k) k ql.c ql.res [.slice x0] κ = ql.f (k + 1) x0 (fun o0 => κ (.ret (.bool o0))) :=
 (ql.u16.ok k x0 (retK T ql.res κ)).trans (by kernel_rfl)
theorem ql.code : ql.c.code = zy Tryd.f57 := by kernel_rfl
noncomputable def qk.c : IC := qk.u15.c
noncomputable def qk.res : List ResultVar := [(.tmp 2)]
theorem qk.u1.ok (k : Nat) (x0 : Sl) (R : IC) (K : KF α) :
  eC k (qk.u1.c R) (fr25 x0) K =
   qk.u1.f k x0 (fun y0 y1 => eC k R (fr33 y0 y1) K) := by kernel_rfl
theorem qk.u2.ok (k : Nat) (x0 x1 : Sl) (R : IC) (K : KF α) :
  eC k (qk.u2.c R) (fr33 x0 x1) K =
   qk.u2.f k x0 x1 (fun y0 y1 y2 => eC k R (fr48 y0 y1 y2) K) := by kernel_rfl
theorem qk.u3.ok (k : Nat) (x0 x1 : Sl) (x2 : Int) (K : KF α) :
  eC k qk.u3.c (fr48 x0 x1 x2) K =
   qk.u3.f k x0 x1 x2 (fun y0 y1 y2 => K .normal (fr48 y0 y1 y2)) (fun y0 y1 => K (.exit 0) (fr33 y0 y1)) := by kernel_rfl
theorem qk.u4.ls (k : Nat) (kx0 : Sl->Sl->M α) (j : Nat) (x0 x1 : Sl) (x2 : Int) : qk.u4.l k kx0 (j + 1) x0 x1 x2 =
 qk.u3.f k x0 x1 x2 (fun y0 y1 y2 => qk.u4.l k kx0 j y0 y1 y2) kx0 := rfl
theorem qk.u4.okl (k : Nat) (K : KF α) : ∀ (j : Nat) (x0 x1 : Sl) (x2 : Int),
  zu (eC k qk.u3.c) [0, 3, 4] j (fr48 x0 x1 x2) K = qk.u4.l k (fun y0 y1 => K (.exit 0) (fr33 y0 y1)) j x0 x1 x2
 | 0, _, _, _ => rfl
 | j + 1, x0, x1, x2 => by
   have h := qk.u3.ok k x0 x1 x2 (seqK (fun ρ => zu (eC k qk.u3.c) [0, 3, 4] j ρ K) K)
   simp only [zf, zg, zh, zd, qk.u4.okl k K j] at h
   exact (zq (by kernel_rfl) h).trans (qk.u4.ls k (fun y0 y1 => K (.exit 0) (fr33 y0 y1)) j x0 x1 x2).symm
theorem qk.u4.ok (k : Nat) (x0 x1 : Sl) (x2 : Int) (K : KF α) :
  eC k qk.u4.c (fr48 x0 x1 x2) K =
   qk.u4.f k x0 x1 x2 (fun y0 y1 => K (.exit 0) (fr33 y0 y1)) :=
 je.trans <| (zr (body := eC k qk.u3.c) (keep := [0, 3, 4]) (ρ := (fr48 x0 x1 x2)) (ρ' := (fr48 x0 x1 x2)) (by kernel_rfl) k K).trans (qk.u4.okl k K k x0 x1 x2)
theorem qk.u5.ok (k : Nat) (x0 x1 : Sl) (x2 : Int) (K : KF α) :
  eC k qk.u5.c (fr48 x0 x1 x2) K =
   qk.u5.f k x0 x1 x2 (fun y0 y1 => K .normal (fr33 y0 y1)) :=
 (zm.trans (qk.u4.ok k x0 x1 x2 (jf 0 K))).trans (by kernel_rfl)
theorem qk.u6.ok (k : Nat) (x0 x1 : Sl) (K : KF α) :
  eC k qk.u6.c (fr33 x0 x1) K =
   qk.u6.f k x0 x1 (fun y0 y1 => K .normal (fr33 y0 y1)) :=
 (qk.u2.ok k x0 x1 qk.u5.c K).trans
  (congrArg (fun z => qk.u2.f k x0 x1 z) (funext fun y0 => (funext fun y1 => (funext fun y2 => qk.u5.ok k y0 y1 y2 K))))
theorem qk.u7.ok (k : Nat) (x0 x1 : Sl) (R : IC) (K : KF α) :
  eC k (qk.u7.c R) (fr33 x0 x1) K =
   qk.u7.f k x0 x1 (fun y0 y1 y2 => eC k R (fr50 y0 y1 y2) K) := by kernel_rfl
theorem qk.u8.ok (k : Nat) (x0 x1 : Sl) (x2 : Int) (K : KF α) :
  eC k qk.u8.c (fr50 x0 x1 x2) K =
   qk.u8.f k x0 x1 x2 (fun y0 y1 y2 => K .normal (fr50 y0 y1 y2)) (fun y0 => K (.exit 2) (fr35 y0)) := by kernel_rfl
theorem qk.u9.ls (k : Nat) (kx2 : Sl->M α) (j : Nat) (x0 x1 : Sl) (x2 : Int) : qk.u9.l k kx2 (j + 1) x0 x1 x2 =
 qk.u8.f k x0 x1 x2 (fun y0 y1 y2 => qk.u9.l k kx2 j y0 y1 y2) kx2 := rfl
theorem qk.u9.okl (k : Nat) (K : KF α) : ∀ (j : Nat) (x0 x1 : Sl) (x2 : Int),
  zu (eC k qk.u8.c) [0, 3, 5] j (fr50 x0 x1 x2) K = qk.u9.l k (fun y0 => K (.exit 2) (fr35 y0)) j x0 x1 x2
 | 0, _, _, _ => rfl
 | j + 1, x0, x1, x2 => by
   have h := qk.u8.ok k x0 x1 x2 (seqK (fun ρ => zu (eC k qk.u8.c) [0, 3, 5] j ρ K) K)
   simp only [zf, zg, zh, zd, qk.u9.okl k K j] at h
   exact (zq (by kernel_rfl) h).trans (qk.u9.ls k (fun y0 => K (.exit 2) (fr35 y0)) j x0 x1 x2).symm
theorem qk.u9.ok (k : Nat) (x0 x1 : Sl) (x2 : Int) (K : KF α) :
  eC k qk.u9.c (fr50 x0 x1 x2) K =
   qk.u9.f k x0 x1 x2 (fun y0 => K (.exit 2) (fr35 y0)) :=
 je.trans <| (zr (body := eC k qk.u8.c) (keep := [0, 3, 5]) (ρ := (fr50 x0 x1 x2)) (ρ' := (fr50 x0 x1 x2)) (by kernel_rfl) k K).trans (qk.u9.okl k K k x0 x1 x2)
theorem qk.u10.ok (k : Nat) (x0 x1 : Sl) (x2 : Int) (K : KF α) :
  eC k qk.u10.c (fr50 x0 x1 x2) K =
   qk.u10.f k x0 x1 x2 (fun y0 => K .normal (fr35 y0)) :=
 (zm.trans (qk.u9.ok k x0 x1 x2 (jf 2 K))).trans (by kernel_rfl)
theorem qk.u11.ok (k : Nat) (x0 x1 : Sl) (K : KF α) :
  eC k qk.u11.c (fr33 x0 x1) K =
   qk.u11.f k x0 x1 (fun y0 => K .normal (fr35 y0)) :=
 (qk.u7.ok k x0 x1 qk.u10.c K).trans
  (congrArg (fun z => qk.u7.f k x0 x1 z) (funext fun y0 => (funext fun y1 => (funext fun y2 => qk.u10.ok k y0 y1 y2 K))))
theorem qk.u12.ok (k : Nat) (x0 : Sl) (K : KF α) :
  eC k qk.u12.c (fr35 x0) K =
   qk.u12.f k x0 (fun y0 => K .ret (fr26 y0)) := by kernel_rfl
theorem qk.u13.ok (k : Nat) (x0 x1 : Sl) (K : KF α) :
  eC k qk.u13.c (fr33 x0 x1) K =
   qk.u13.f k x0 x1 (fun y0 => K .ret (fr26 y0)) :=
 by
  have h := qk.u11.ok k x0 x1 (seqK (fun ρ => eC k qk.u12.c ρ K) K)
  simp only [zd, zf, zg, zh, qk.u12.ok] at h
  exact zk h
theorem qk.u14.ok (k : Nat) (x0 x1 : Sl) (K : KF α) :
  eC k qk.u14.c (fr33 x0 x1) K =
   qk.u14.f k x0 x1 (fun y0 => K .ret (fr26 y0)) :=
 by
  have h := qk.u6.ok k x0 x1 (seqK (fun ρ => eC k qk.u13.c ρ K) K)
  simp only [zd, zf, zg, zh, qk.u13.ok] at h
  exact zk h
theorem qk.u15.ok (k : Nat) (x0 : Sl) (K : KF α) :
  eC k qk.u15.c (fr25 x0) K =
   qk.u15.f k x0 (fun y0 => K .ret (fr26 y0)) :=
 (qk.u1.ok k x0 qk.u14.c K).trans
  (congrArg (fun z => qk.u1.f k x0 z) (funext fun y0 => (funext fun y1 => qk.u14.ok k y0 y1 K)))
theorem qk.ok (k : Nat) (x0 : Sl) (κ : Res->M α) :
  evF T (env k) k qk.c qk.res [.slice x0] κ = qk.f (k + 1) x0 (fun o0 => κ (.ret (.slice o0))) :=
 (qk.u15.ok k x0 (retK T qk.res κ)).trans (by kernel_rfl)
theorem qk.code : qk.c.code = zy Tryd.f20 := by kernel_rfl
noncomputable def qau.c : IC := qau.u1.c
noncomputable def qau.res : List ResultVar := [(.tmp 2)]
theorem qau.u1.ok (k : Nat) (x0 x1 x2 : Int) (x3 : TX) (x4 : Int) (K : KF α) :
  eC k qau.u1.c (za [(0, .agg [.int .i64 x0, .int .i64 x1, .int .i64 x2, .str x3, .int .i64 x4])]) K =
   qau.u1.f k x0 x1 x2 x3 x4 (fun y0 => K .ret (fr18 y0)) := by kernel_rfl
theorem qau.ok (k : Nat) (x0 x1 x2 : Int) (x3 : TX) (x4 : Int) (κ : Res->M α) :
  evF T (env k) k qau.c qau.res [.agg [.int .i64 x0, .int .i64 x1, .int .i64 x2, .str x3, .int .i64 x4]] κ = qau.f (k + 1) x0 x1 x2 x3 x4 (fun o0 => κ (.ret (.bool o0))) :=
 (qau.u1.ok k x0 x1 x2 x3 x4 (retK T qau.res κ)).trans (by kernel_rfl)
theorem qau.code : qau.c.code = zy Tryd.f24 := by kernel_rfl
noncomputable def qm.c : IC := qm.u16.c
noncomputable def qm.res : List ResultVar := [(.tmp 2)]
theorem qm.u1.ok (k : Nat) (x0 : Sl) (R : IC) (K : KF α) :
  eC k (qm.u1.c R) (fr25 x0) K =
   qm.u1.f k x0 (fun y0 y1 => eC k R (fr33 y0 y1) K) := by kernel_rfl
theorem qm.u2.ok (k : Nat) (x0 x1 : Sl) (R : IC) (K : KF α) :
  eC k (qm.u2.c R) (fr33 x0 x1) K =
   qm.u2.f k x0 x1 (fun y0 y1 y2 => eC k R (fr48 y0 y1 y2) K) := by kernel_rfl
theorem qm.u3.ok (k : Nat) (x0 x1 : Sl) (x2 : Int) (R : IC) (K : KF α) :
  eC k (qm.u3.c R) (fr48 x0 x1 x2) K =
   qm.u3.f k x0 x1 x2 (fun y0 y1 y2 => eC k R (fr48 y0 y1 y2) K) (fun y0 => K (.exit 0) (fr35 y0)) := by kernel_rfl
theorem qm.u4.ok (k : Nat) (x0 x1 : Sl) (x2 : Int) (R : IC) (K : KF α) :
  eC k (qm.u4.c R) (fr48 x0 x1 x2) K =
   qm.u4.f k x0 x1 x2 (fun y0 y1 y2 y3 => eC k R (fr51 y0 y1 y2 y3) K) := by kernel_rfl
theorem qm.u5.ok (k : Nat) (x0 x1 : Sl) (x2 x3 : Int) (K : KF α) :
  eC k qm.u5.c (fr51 x0 x1 x2 x3) K =
   qm.u5.f k x0 x1 x2 x3 (fun y0 y1 y2 => K .normal (fr48 y0 y1 y2)) := by kernel_rfl
theorem qm.u6.ok (k : Nat) (x0 x1 : Sl) (x2 : Int) (K : KF α) :
  eC k qm.u6.c (fr48 x0 x1 x2) K =
   qm.u6.f k x0 x1 x2 (fun y0 y1 y2 => K .normal (fr48 y0 y1 y2)) :=
 (qm.u4.ok k x0 x1 x2 qm.u5.c K).trans
  (congrArg (fun z => qm.u4.f k x0 x1 x2 z) (funext fun y0 => (funext fun y1 => (funext fun y2 => (funext fun y3 => qm.u5.ok k y0 y1 y2 y3 K)))))
theorem qm.u7.ok (k : Nat) (x0 x1 : Sl) (x2 : Int) (K : KF α) :
  eC k qm.u7.c (fr48 x0 x1 x2) K =
   qm.u7.f k x0 x1 x2 (fun y0 y1 y2 => K .normal (fr48 y0 y1 y2)) :=
 (zm.trans (qm.u6.ok k x0 x1 x2 (jf 1 K))).trans (by kernel_rfl)
theorem qm.u8.ok (k : Nat) (x0 x1 : Sl) (x2 : Int) (K : KF α) :
  eC k qm.u8.c (fr48 x0 x1 x2) K =
   qm.u8.f k x0 x1 x2 (fun y0 y1 y2 => K .normal (fr48 y0 y1 y2)) := by kernel_rfl
theorem qm.u9.ok (k : Nat) (x0 x1 : Sl) (x2 : Int) (K : KF α) :
  eC k qm.u9.c (fr48 x0 x1 x2) K =
   qm.u9.f k x0 x1 x2 (fun y0 y1 y2 => K .normal (fr48 y0 y1 y2)) :=
 by
  have h := qm.u7.ok k x0 x1 x2 (seqK (fun ρ => eC k qm.u8.c ρ K) K)
  simp only [zd, zf, zg, zh, qm.u8.ok] at h
  exact zk h
theorem qm.u10.ok (k : Nat) (x0 x1 : Sl) (x2 : Int) (K : KF α) :
  eC k qm.u10.c (fr48 x0 x1 x2) K =
   qm.u10.f k x0 x1 x2 (fun y0 y1 y2 => K .normal (fr48 y0 y1 y2)) (fun y0 => K (.exit 0) (fr35 y0)) :=
 (qm.u3.ok k x0 x1 x2 qm.u9.c K).trans
  (congrArg (fun z => qm.u3.f k x0 x1 x2 z (fun y0 => K (.exit 0) (fr35 y0))) (funext fun y0 => (funext fun y1 => (funext fun y2 => qm.u9.ok k y0 y1 y2 K))))
theorem qm.u11.ls (k : Nat) (kx0 : Sl->M α) (j : Nat) (x0 x1 : Sl) (x2 : Int) : qm.u11.l k kx0 (j + 1) x0 x1 x2 =
 qm.u10.f k x0 x1 x2 (fun y0 y1 y2 => qm.u11.l k kx0 j y0 y1 y2) kx0 := rfl
theorem qm.u11.okl (k : Nat) (K : KF α) : ∀ (j : Nat) (x0 x1 : Sl) (x2 : Int),
  zu (eC k qm.u10.c) [0, 3, 4] j (fr48 x0 x1 x2) K = qm.u11.l k (fun y0 => K (.exit 0) (fr35 y0)) j x0 x1 x2
 | 0, _, _, _ => rfl
 | j + 1, x0, x1, x2 => by
   have h := qm.u10.ok k x0 x1 x2 (seqK (fun ρ => zu (eC k qm.u10.c) [0, 3, 4] j ρ K) K)
   simp only [zf, zg, zh, zd, qm.u11.okl k K j] at h
   exact (zq (by kernel_rfl) h).trans (qm.u11.ls k (fun y0 => K (.exit 0) (fr35 y0)) j x0 x1 x2).symm
theorem qm.u11.ok (k : Nat) (x0 x1 : Sl) (x2 : Int) (K : KF α) :
  eC k qm.u11.c (fr48 x0 x1 x2) K =
   qm.u11.f k x0 x1 x2 (fun y0 => K (.exit 0) (fr35 y0)) :=
 je.trans <| (zr (body := eC k qm.u10.c) (keep := [0, 3, 4]) (ρ := (fr48 x0 x1 x2)) (ρ' := (fr48 x0 x1 x2)) (by kernel_rfl) k K).trans (qm.u11.okl k K k x0 x1 x2)
theorem qm.u12.ok (k : Nat) (x0 x1 : Sl) (x2 : Int) (K : KF α) :
  eC k qm.u12.c (fr48 x0 x1 x2) K =
   qm.u12.f k x0 x1 x2 (fun y0 => K .normal (fr35 y0)) :=
 (zm.trans (qm.u11.ok k x0 x1 x2 (jf 0 K))).trans (by kernel_rfl)
theorem qm.u13.ok (k : Nat) (x0 x1 : Sl) (K : KF α) :
  eC k qm.u13.c (fr33 x0 x1) K =
   qm.u13.f k x0 x1 (fun y0 => K .normal (fr35 y0)) :=
 (qm.u2.ok k x0 x1 qm.u12.c K).trans
  (congrArg (fun z => qm.u2.f k x0 x1 z) (funext fun y0 => (funext fun y1 => (funext fun y2 => qm.u12.ok k y0 y1 y2 K))))
theorem qm.u14.ok (k : Nat) (x0 : Sl) (K : KF α) :
  eC k qm.u14.c (fr35 x0) K =
   qm.u14.f k x0 (fun y0 => K .ret (fr26 y0)) := by kernel_rfl
theorem qm.u15.ok (k : Nat) (x0 x1 : Sl) (K : KF α) :
  eC k qm.u15.c (fr33 x0 x1) K =
   qm.u15.f k x0 x1 (fun y0 => K .ret (fr26 y0)) :=
 by
  have h := qm.u13.ok k x0 x1 (seqK (fun ρ => eC k qm.u14.c ρ K) K)
  simp only [zd, zf, zg, zh, qm.u14.ok] at h
  exact zk h
theorem qm.u16.ok (k : Nat) (x0 : Sl) (K : KF α) :
  eC k qm.u16.c (fr25 x0) K =
   qm.u16.f k x0 (fun y0 => K .ret (fr26 y0)) :=
 (qm.u1.ok k x0 qm.u15.c K).trans
  (congrArg (fun z => qm.u1.f k x0 z) (funext fun y0 => (funext fun y1 => qm.u15.ok k y0 y1 K)))
theorem qm.ok (k : Nat) (x0 : Sl) (κ : Res->M α) :
  evF T (env k) k qm.c qm.res [.slice x0] κ = qm.f (k + 1) x0 (fun o0 => κ (.ret (.slice o0))) :=
 (qm.u16.ok k x0 (retK T qm.res κ)).trans (by kernel_rfl)
theorem qm.code : qm.c.code = zy Tryd.f73 := by kernel_rfl
noncomputable def qu.c : IC := qu.u9.c
noncomputable def qu.res : List ResultVar := [(.tmp 6), (.tmp 7)]
theorem qu.u1.ok (k : Nat) (x0 x1 : Sl) (x2 : Int) (R : IC) (K : KF α) :
  eC k (qu.u1.c R) (fr52 x0 x1 x2) K =
   qu.u1.f k x0 x1 x2 (fun y0 y1 y2 y3 => eC k R (fr53 y0 y1 y2 y3) K) := by kernel_rfl
theorem qu.u2.ok (k : Nat) (x0 x1 : Sl) (x2 x3 : Int) (R : IC) (K : KF α) :
  eC k (qu.u2.c R) (fr53 x0 x1 x2 x3) K =
   qu.u2.f k x0 x1 x2 x3 (fun y0 y1 y2 y3 y4 => eC k R (fr54 y0 y1 y2 y3 y4) K) := by kernel_rfl
theorem qu.u3.ok (k : Nat) (x0 x1 : Sl) (x2 x3 x4 : Int) (K : KF α) :
  eC k qu.u3.c (fr54 x0 x1 x2 x3 x4) K =
   qu.u3.f k x0 x1 x2 x3 x4 (fun y0 y1 y2 y3 y4 => K .normal (fr54 y0 y1 y2 y3 y4)) (fun y0 y1 => K .ret (fr55 y0 y1)) (K (.exit 0) (za [])) := by kernel_rfl
theorem qu.u4.ls (k : Nat) (kr : Int->Int->M α) (kx0 : M α) (j : Nat) (x0 x1 : Sl) (x2 x3 x4 : Int) : qu.u4.l k kr kx0 (j + 1) x0 x1 x2 x3 x4 =
 qu.u3.f k x0 x1 x2 x3 x4 (fun y0 y1 y2 y3 y4 => qu.u4.l k kr kx0 j y0 y1 y2 y3 y4) kr kx0 := rfl
theorem qu.u4.okl (k : Nat) (K : KF α) : ∀ (j : Nat) (x0 x1 : Sl) (x2 x3 x4 : Int),
  zu (eC k qu.u3.c) [0, 1, 2, 8, 9] j (fr54 x0 x1 x2 x3 x4) K = qu.u4.l k (fun y0 y1 => K .ret (fr55 y0 y1)) (K (.exit 0) (za [])) j x0 x1 x2 x3 x4
 | 0, _, _, _, _, _ => rfl
 | j + 1, x0, x1, x2, x3, x4 => by
   have h := qu.u3.ok k x0 x1 x2 x3 x4 (seqK (fun ρ => zu (eC k qu.u3.c) [0, 1, 2, 8, 9] j ρ K) K)
   simp only [zf, zg, zh, zd, qu.u4.okl k K j] at h
   exact (zq (by kernel_rfl) h).trans (qu.u4.ls k (fun y0 y1 => K .ret (fr55 y0 y1)) (K (.exit 0) (za [])) j x0 x1 x2 x3 x4).symm
theorem qu.u4.ok (k : Nat) (x0 x1 : Sl) (x2 x3 x4 : Int) (K : KF α) :
  eC k qu.u4.c (fr54 x0 x1 x2 x3 x4) K =
   qu.u4.f k x0 x1 x2 x3 x4 (fun y0 y1 => K .ret (fr55 y0 y1)) (K (.exit 0) (za [])) :=
 je.trans <| (zr (body := eC k qu.u3.c) (keep := [0, 1, 2, 8, 9]) (ρ := (fr54 x0 x1 x2 x3 x4)) (ρ' := (fr54 x0 x1 x2 x3 x4)) (by kernel_rfl) k K).trans (qu.u4.okl k K k x0 x1 x2 x3 x4)
theorem qu.u5.ok (k : Nat) (x0 x1 : Sl) (x2 x3 x4 : Int) (K : KF α) :
  eC k qu.u5.c (fr54 x0 x1 x2 x3 x4) K =
   qu.u5.f k x0 x1 x2 x3 x4 (K .normal (za [])) (fun y0 y1 => K .ret (fr55 y0 y1)) :=
 (zm.trans (qu.u4.ok k x0 x1 x2 x3 x4 (jf 0 K))).trans (by kernel_rfl)
theorem qu.u6.ok (k : Nat) (x0 x1 : Sl) (x2 x3 : Int) (K : KF α) :
  eC k qu.u6.c (fr53 x0 x1 x2 x3) K =
   qu.u6.f k x0 x1 x2 x3 (K .normal (za [])) (fun y0 y1 => K .ret (fr55 y0 y1)) :=
 (qu.u2.ok k x0 x1 x2 x3 qu.u5.c K).trans
  (congrArg (fun z => qu.u2.f k x0 x1 x2 x3 z) (funext fun y0 => (funext fun y1 => (funext fun y2 => (funext fun y3 => (funext fun y4 => qu.u5.ok k y0 y1 y2 y3 y4 K))))))
theorem qu.u7.ok (k : Nat) (K : KF α) :
  eC k qu.u7.c (za []) K =
   qu.u7.f k (fun y0 y1 => K .ret (fr55 y0 y1)) := by kernel_rfl
theorem qu.u8.ok (k : Nat) (x0 x1 : Sl) (x2 x3 : Int) (K : KF α) :
  eC k qu.u8.c (fr53 x0 x1 x2 x3) K =
   qu.u8.f k x0 x1 x2 x3 (fun y0 y1 => K .ret (fr55 y0 y1)) :=
 by
  have h := qu.u6.ok k x0 x1 x2 x3 (seqK (fun ρ => eC k qu.u7.c ρ K) K)
  simp only [zd, zf, zg, zh, qu.u7.ok] at h
  exact zk h
theorem qu.u9.ok (k : Nat) (x0 x1 : Sl) (x2 : Int) (K : KF α) :
  eC k qu.u9.c (fr52 x0 x1 x2) K =
   qu.u9.f k x0 x1 x2 (fun y0 y1 => K .ret (fr55 y0 y1)) :=
 (qu.u1.ok k x0 x1 x2 qu.u8.c K).trans
  (congrArg (fun z => qu.u1.f k x0 x1 x2 z) (funext fun y0 => (funext fun y1 => (funext fun y2 => (funext fun y3 => qu.u8.ok k y0 y1 y2 y3 K)))))
theorem qu.ok (k : Nat) (x0 x1 : Sl) (x2 : Int) (κ : Res->M α) :
  evF T (env k) k qu.c qu.res [.slice x0, .slice x1, .int .i64 x2] κ = qu.f (k + 1) x0 x1 x2 (fun o0 o1 => κ (.ret (.tuple [.int .i64 o0, .int .i64 o1]))) :=
 (qu.u9.ok k x0 x1 x2 (retK T qu.res κ)).trans (by kernel_rfl)
theorem qu.code : qu.c.code = zy Tryd.f58 := by kernel_rfl
noncomputable def qd.c : IC := qd.u24.c
noncomputable def qd.res : List ResultVar := [(.tmp 2), (.tmp 3)]
theorem qd.u1.ok (k : Nat) (x0 : Sl) (R : IC) (K : KF α) :
  eC k (qd.u1.c R) (fr25 x0) K =
   qd.u1.f k x0 (fun y0 y1 y2 => eC k R (fr56 y0 y1 y2) K) (fun y0 y1 => K .ret (fr36 y0 y1)) := by kernel_rfl
theorem qd.u2.ok (k : Nat) (x0 x1 x2 : Sl) (R : IC) (K : KF α) :
  eC k (qd.u2.c R) (fr56 x0 x1 x2) K =
   qd.u2.f k x0 x1 x2 (fun y0 y1 y2 y3 => eC k R (fr57 y0 y1 y2 y3) K) := by kernel_rfl
theorem qd.u3.ok (k : Nat) (x0 x1 x2 : Sl) (x3 : Int) (R : IC) (K : KF α) :
  eC k (qd.u3.c R) (fr57 x0 x1 x2 x3) K =
   qd.u3.f k x0 x1 x2 x3 (fun y0 y1 y2 y3 => eC k R (fr57 y0 y1 y2 y3) K) (K (.exit 0) (za [])) := by kernel_rfl
theorem qd.u4.ok (k : Nat) (x0 x1 x2 : Sl) (x3 : Int) (R : IC) (K : KF α) :
  eC k (qd.u4.c R) (fr57 x0 x1 x2 x3) K =
   qd.u4.f k x0 x1 x2 x3 (fun y0 y1 y2 y3 => eC k R (fr57 y0 y1 y2 y3) K) (fun y0 y1 => K .ret (fr36 y0 y1)) := by kernel_rfl
theorem qd.u5.ok (k : Nat) (x0 x1 x2 : Sl) (x3 : Int) (R : IC) (K : KF α) :
  eC k (qd.u5.c R) (fr57 x0 x1 x2 x3) K =
   qd.u5.f k x0 x1 x2 x3 (fun y0 y1 y2 y3 => eC k R (fr57 y0 y1 y2 y3) K) (fun y0 y1 y2 y3 => K (.exit 1) (fr57 y0 y1 y2 y3)) := by kernel_rfl
theorem qd.u6.ok (k : Nat) (x0 x1 x2 : Sl) (x3 : Int) (R : IC) (K : KF α) :
  eC k (qd.u6.c R) (fr57 x0 x1 x2 x3) K =
   qd.u6.f k x0 x1 x2 x3 (fun y0 y1 y2 y3 y4 => eC k R (fr58 y0 y1 y2 y3 y4) K) := by kernel_rfl
theorem qd.u7.ok (k : Nat) (x0 x1 x2 : Sl) (x3 x4 : Int) (K : KF α) :
  eC k qd.u7.c (fr58 x0 x1 x2 x3 x4) K =
   qd.u7.f k x0 x1 x2 x3 x4 (fun y0 y1 y2 y3 y4 => K .normal (fr58 y0 y1 y2 y3 y4)) (fun y0 y1 => K .ret (fr36 y0 y1)) (fun y0 y1 y2 y3 => K (.exit 2) (fr57 y0 y1 y2 y3)) := by kernel_rfl
theorem qd.u8.ls (k : Nat) (kr : Int->Int->M α) (kx2 : Sl->Sl->Sl->Int->M α) (j : Nat) (x0 x1 x2 : Sl) (x3 x4 : Int) : qd.u8.l k kr kx2 (j + 1) x0 x1 x2 x3 x4 =
 qd.u7.f k x0 x1 x2 x3 x4 (fun y0 y1 y2 y3 y4 => qd.u8.l k kr kx2 j y0 y1 y2 y3 y4) kr kx2 := rfl
theorem qd.u8.okl (k : Nat) (K : KF α) : ∀ (j : Nat) (x0 x1 x2 : Sl) (x3 x4 : Int),
  zu (eC k qd.u7.c) [0, 5, 6, 7, 11] j (fr58 x0 x1 x2 x3 x4) K = qd.u8.l k (fun y0 y1 => K .ret (fr36 y0 y1)) (fun y0 y1 y2 y3 => K (.exit 2) (fr57 y0 y1 y2 y3)) j x0 x1 x2 x3 x4
 | 0, _, _, _, _, _ => rfl
 | j + 1, x0, x1, x2, x3, x4 => by
   have h := qd.u7.ok k x0 x1 x2 x3 x4 (seqK (fun ρ => zu (eC k qd.u7.c) [0, 5, 6, 7, 11] j ρ K) K)
   simp only [zf, zg, zh, zd, qd.u8.okl k K j] at h
   exact (zq (by kernel_rfl) h).trans (qd.u8.ls k (fun y0 y1 => K .ret (fr36 y0 y1)) (fun y0 y1 y2 y3 => K (.exit 2) (fr57 y0 y1 y2 y3)) j x0 x1 x2 x3 x4).symm
theorem qd.u8.ok (k : Nat) (x0 x1 x2 : Sl) (x3 x4 : Int) (K : KF α) :
  eC k qd.u8.c (fr58 x0 x1 x2 x3 x4) K =
   qd.u8.f k x0 x1 x2 x3 x4 (fun y0 y1 => K .ret (fr36 y0 y1)) (fun y0 y1 y2 y3 => K (.exit 2) (fr57 y0 y1 y2 y3)) :=
 je.trans <| (zr (body := eC k qd.u7.c) (keep := [0, 5, 6, 7, 11]) (ρ := (fr58 x0 x1 x2 x3 x4)) (ρ' := (fr58 x0 x1 x2 x3 x4)) (by kernel_rfl) k K).trans (qd.u8.okl k K k x0 x1 x2 x3 x4)
theorem qd.u9.ok (k : Nat) (x0 x1 x2 : Sl) (x3 x4 : Int) (K : KF α) :
  eC k qd.u9.c (fr58 x0 x1 x2 x3 x4) K =
   qd.u9.f k x0 x1 x2 x3 x4 (fun y0 y1 y2 y3 => K .normal (fr57 y0 y1 y2 y3)) (fun y0 y1 => K .ret (fr36 y0 y1)) :=
 (zm.trans (qd.u8.ok k x0 x1 x2 x3 x4 (jf 2 K))).trans (by kernel_rfl)
theorem qd.u10.ok (k : Nat) (x0 x1 x2 : Sl) (x3 : Int) (K : KF α) :
  eC k qd.u10.c (fr57 x0 x1 x2 x3) K =
   qd.u10.f k x0 x1 x2 x3 (fun y0 y1 y2 y3 => K .normal (fr57 y0 y1 y2 y3)) (fun y0 y1 => K .ret (fr36 y0 y1)) :=
 (qd.u6.ok k x0 x1 x2 x3 qd.u9.c K).trans
  (congrArg (fun z => qd.u6.f k x0 x1 x2 x3 z) (funext fun y0 => (funext fun y1 => (funext fun y2 => (funext fun y3 => (funext fun y4 => qd.u9.ok k y0 y1 y2 y3 y4 K))))))
theorem qd.u11.ok (k : Nat) (x0 x1 x2 : Sl) (x3 : Int) (K : KF α) :
  eC k qd.u11.c (fr57 x0 x1 x2 x3) K =
   qd.u11.f k x0 x1 x2 x3 (fun y0 y1 y2 y3 => K .normal (fr57 y0 y1 y2 y3)) (fun y0 y1 => K .ret (fr36 y0 y1)) := by kernel_rfl
theorem qd.u12.ok (k : Nat) (x0 x1 x2 : Sl) (x3 : Int) (K : KF α) :
  eC k qd.u12.c (fr57 x0 x1 x2 x3) K =
   qd.u12.f k x0 x1 x2 x3 (fun y0 y1 y2 y3 => K .normal (fr57 y0 y1 y2 y3)) (fun y0 y1 => K .ret (fr36 y0 y1)) :=
 by
  have h := qd.u10.ok k x0 x1 x2 x3 (seqK (fun ρ => eC k qd.u11.c ρ K) K)
  simp only [zd, zf, zg, zh, qd.u11.ok] at h
  exact zk h
theorem qd.u13.ok (k : Nat) (x0 x1 x2 : Sl) (x3 : Int) (K : KF α) :
  eC k qd.u13.c (fr57 x0 x1 x2 x3) K =
   qd.u13.f k x0 x1 x2 x3 (fun y0 y1 y2 y3 => K .normal (fr57 y0 y1 y2 y3)) (fun y0 y1 => K .ret (fr36 y0 y1)) (fun y0 y1 y2 y3 => K (.exit 1) (fr57 y0 y1 y2 y3)) :=
 (qd.u5.ok k x0 x1 x2 x3 qd.u12.c K).trans
  (congrArg (fun z => qd.u5.f k x0 x1 x2 x3 z (fun y0 y1 y2 y3 => K (.exit 1) (fr57 y0 y1 y2 y3))) (funext fun y0 => (funext fun y1 => (funext fun y2 => (funext fun y3 => qd.u12.ok k y0 y1 y2 y3 K)))))
theorem qd.u14.ok (k : Nat) (x0 x1 x2 : Sl) (x3 : Int) (K : KF α) :
  eC k qd.u14.c (fr57 x0 x1 x2 x3) K =
   qd.u14.f k x0 x1 x2 x3 (fun y0 y1 y2 y3 => K .normal (fr57 y0 y1 y2 y3)) (fun y0 y1 => K .ret (fr36 y0 y1)) (fun y0 y1 y2 y3 => K (.exit 1) (fr57 y0 y1 y2 y3)) :=
 (qd.u4.ok k x0 x1 x2 x3 qd.u13.c K).trans
  (congrArg (fun z => qd.u4.f k x0 x1 x2 x3 z (fun y0 y1 => K .ret (fr36 y0 y1))) (funext fun y0 => (funext fun y1 => (funext fun y2 => (funext fun y3 => qd.u13.ok k y0 y1 y2 y3 K)))))
theorem qd.u15.ok (k : Nat) (x0 x1 x2 : Sl) (x3 : Int) (K : KF α) :
  eC k qd.u15.c (fr57 x0 x1 x2 x3) K =
   qd.u15.f k x0 x1 x2 x3 (fun y0 y1 y2 y3 => K .normal (fr57 y0 y1 y2 y3)) (fun y0 y1 => K .ret (fr36 y0 y1)) :=
 (zm.trans (qd.u14.ok k x0 x1 x2 x3 (jf 1 K))).trans (by kernel_rfl)
theorem qd.u16.ok (k : Nat) (x0 x1 x2 : Sl) (x3 : Int) (K : KF α) :
  eC k qd.u16.c (fr57 x0 x1 x2 x3) K =
   qd.u16.f k x0 x1 x2 x3 (fun y0 y1 y2 y3 => K .normal (fr57 y0 y1 y2 y3)) := by kernel_rfl
theorem qd.u17.ok (k : Nat) (x0 x1 x2 : Sl) (x3 : Int) (K : KF α) :
  eC k qd.u17.c (fr57 x0 x1 x2 x3) K =
   qd.u17.f k x0 x1 x2 x3 (fun y0 y1 y2 y3 => K .normal (fr57 y0 y1 y2 y3)) (fun y0 y1 => K .ret (fr36 y0 y1)) :=
 by
  have h := qd.u15.ok k x0 x1 x2 x3 (seqK (fun ρ => eC k qd.u16.c ρ K) K)
  simp only [zd, zf, zg, zh, qd.u16.ok] at h
  exact zk h
theorem qd.u18.ok (k : Nat) (x0 x1 x2 : Sl) (x3 : Int) (K : KF α) :
  eC k qd.u18.c (fr57 x0 x1 x2 x3) K =
   qd.u18.f k x0 x1 x2 x3 (fun y0 y1 y2 y3 => K .normal (fr57 y0 y1 y2 y3)) (fun y0 y1 => K .ret (fr36 y0 y1)) (K (.exit 0) (za [])) :=
 (qd.u3.ok k x0 x1 x2 x3 qd.u17.c K).trans
  (congrArg (fun z => qd.u3.f k x0 x1 x2 x3 z (K (.exit 0) (za []))) (funext fun y0 => (funext fun y1 => (funext fun y2 => (funext fun y3 => qd.u17.ok k y0 y1 y2 y3 K)))))
theorem qd.u19.ls (k : Nat) (kr : Int->Int->M α) (kx0 : M α) (j : Nat) (x0 x1 x2 : Sl) (x3 : Int) : qd.u19.l k kr kx0 (j + 1) x0 x1 x2 x3 =
 qd.u18.f k x0 x1 x2 x3 (fun y0 y1 y2 y3 => qd.u19.l k kr kx0 j y0 y1 y2 y3) kr kx0 := rfl
theorem qd.u19.okl (k : Nat) (K : KF α) : ∀ (j : Nat) (x0 x1 x2 : Sl) (x3 : Int),
  zu (eC k qd.u18.c) [0, 5, 6, 7] j (fr57 x0 x1 x2 x3) K = qd.u19.l k (fun y0 y1 => K .ret (fr36 y0 y1)) (K (.exit 0) (za [])) j x0 x1 x2 x3
 | 0, _, _, _, _ => rfl
 | j + 1, x0, x1, x2, x3 => by
   have h := qd.u18.ok k x0 x1 x2 x3 (seqK (fun ρ => zu (eC k qd.u18.c) [0, 5, 6, 7] j ρ K) K)
   simp only [zf, zg, zh, zd, qd.u19.okl k K j] at h
   exact (zq (by kernel_rfl) h).trans (qd.u19.ls k (fun y0 y1 => K .ret (fr36 y0 y1)) (K (.exit 0) (za [])) j x0 x1 x2 x3).symm
theorem qd.u19.ok (k : Nat) (x0 x1 x2 : Sl) (x3 : Int) (K : KF α) :
  eC k qd.u19.c (fr57 x0 x1 x2 x3) K =
   qd.u19.f k x0 x1 x2 x3 (fun y0 y1 => K .ret (fr36 y0 y1)) (K (.exit 0) (za [])) :=
 je.trans <| (zr (body := eC k qd.u18.c) (keep := [0, 5, 6, 7]) (ρ := (fr57 x0 x1 x2 x3)) (ρ' := (fr57 x0 x1 x2 x3)) (by kernel_rfl) k K).trans (qd.u19.okl k K k x0 x1 x2 x3)
theorem qd.u20.ok (k : Nat) (x0 x1 x2 : Sl) (x3 : Int) (K : KF α) :
  eC k qd.u20.c (fr57 x0 x1 x2 x3) K =
   qd.u20.f k x0 x1 x2 x3 (K .normal (za [])) (fun y0 y1 => K .ret (fr36 y0 y1)) :=
 (zm.trans (qd.u19.ok k x0 x1 x2 x3 (jf 0 K))).trans (by kernel_rfl)
theorem qd.u21.ok (k : Nat) (x0 x1 x2 : Sl) (K : KF α) :
  eC k qd.u21.c (fr56 x0 x1 x2) K =
   qd.u21.f k x0 x1 x2 (K .normal (za [])) (fun y0 y1 => K .ret (fr36 y0 y1)) :=
 (qd.u2.ok k x0 x1 x2 qd.u20.c K).trans
  (congrArg (fun z => qd.u2.f k x0 x1 x2 z) (funext fun y0 => (funext fun y1 => (funext fun y2 => (funext fun y3 => qd.u20.ok k y0 y1 y2 y3 K)))))
theorem qd.u22.ok (k : Nat) (K : KF α) :
  eC k qd.u22.c (za []) K =
   qd.u22.f k (fun y0 y1 => K .ret (fr36 y0 y1)) := by kernel_rfl
theorem qd.u23.ok (k : Nat) (x0 x1 x2 : Sl) (K : KF α) :
  eC k qd.u23.c (fr56 x0 x1 x2) K =
   qd.u23.f k x0 x1 x2 (fun y0 y1 => K .ret (fr36 y0 y1)) :=
 by
  have h := qd.u21.ok k x0 x1 x2 (seqK (fun ρ => eC k qd.u22.c ρ K) K)
  simp only [zd, zf, zg, zh, qd.u22.ok] at h
  exact zk h
theorem qd.u24.ok (k : Nat) (x0 : Sl) (K : KF α) :
  eC k qd.u24.c (fr25 x0) K =
   qd.u24.f k x0 (fun y0 y1 => K .ret (fr36 y0 y1)) :=
 (qd.u1.ok k x0 qd.u23.c K).trans
  (congrArg (fun z => qd.u1.f k x0 z (fun y0 y1 => K .ret (fr36 y0 y1))) (funext fun y0 => (funext fun y1 => (funext fun y2 => qd.u23.ok k y0 y1 y2 K))))
theorem qd.ok (k : Nat) (x0 : Sl) (κ : Res->M α) :
  evF T (env k) k qd.c qd.res [.slice x0] κ = qd.f (k + 1) x0 (fun o0 o1 => κ (.ret (.tuple [.int .i64 o0, .int .i64 o1]))) :=
 (qd.u24.ok k x0 (retK T qd.res κ)).trans (by kernel_rfl)
theorem qd.code : qd.c.code = zy Tryd.f56 := by kernel_rfl
noncomputable def qat.c : IC := qat.u1.c
noncomputable def qat.res : List ResultVar := [(.tmp 2)]
theorem qat.u1.ok (k : Nat) (x0 : Sl) (K : KF α) :
  eC k qat.u1.c (fr25 x0) K =
   qat.u1.f k x0 (fun y0 => K .ret (fr18 y0)) := by kernel_rfl
theorem qat.ok (k : Nat) (x0 : Sl) (κ : Res->M α) :
  evF T (env k) k qat.c qat.res [.slice x0] κ = qat.f (k + 1) x0 (fun o0 => κ (.ret (.bool o0))) :=
 (qat.u1.ok k x0 (retK T qat.res κ)).trans (by kernel_rfl)
theorem qat.code : qat.c.code = zy Tryd.f38 := by kernel_rfl
noncomputable def qaa.c : IC := qaa.u9.c
noncomputable def qaa.res : List ResultVar := [(.tmp 2)]
theorem qaa.u1.ok (k : Nat) (x0 : Sl) (R : IC) (K : KF α) :
  eC k (qaa.u1.c R) (fr25 x0) K =
   qaa.u1.f k x0 (fun y0 => eC k R (fr25 y0) K) := by kernel_rfl
theorem qaa.u2.ok (k : Nat) (x0 : Sl) (R : IC) (K : KF α) :
  eC k (qaa.u2.c R) (fr25 x0) K =
   qaa.u2.f k x0 (fun y0 y1 => eC k R (fr59 y0 y1) K) := by kernel_rfl
theorem qaa.u3.ok (k : Nat) (x0 : Sl) (x1 : Int) (K : KF α) :
  eC k qaa.u3.c (fr59 x0 x1) K =
   qaa.u3.f k x0 x1 (fun y0 y1 => K .normal (fr59 y0 y1)) (fun y0 => K .ret (fr18 y0)) (fun y0 => K (.exit 0) (fr25 y0)) := by kernel_rfl
theorem qaa.u4.ls (k : Nat) (kr : Bool->M α) (kx0 : Sl->M α) (j : Nat) (x0 : Sl) (x1 : Int) : qaa.u4.l k kr kx0 (j + 1) x0 x1 =
 qaa.u3.f k x0 x1 (fun y0 y1 => qaa.u4.l k kr kx0 j y0 y1) kr kx0 := rfl
theorem qaa.u4.okl (k : Nat) (K : KF α) : ∀ (j : Nat) (x0 : Sl) (x1 : Int),
  zu (eC k qaa.u3.c) [0, 3] j (fr59 x0 x1) K = qaa.u4.l k (fun y0 => K .ret (fr18 y0)) (fun y0 => K (.exit 0) (fr25 y0)) j x0 x1
 | 0, _, _ => rfl
 | j + 1, x0, x1 => by
   have h := qaa.u3.ok k x0 x1 (seqK (fun ρ => zu (eC k qaa.u3.c) [0, 3] j ρ K) K)
   simp only [zf, zg, zh, zd, qaa.u4.okl k K j] at h
   exact (zq (by kernel_rfl) h).trans (qaa.u4.ls k (fun y0 => K .ret (fr18 y0)) (fun y0 => K (.exit 0) (fr25 y0)) j x0 x1).symm
theorem qaa.u4.ok (k : Nat) (x0 : Sl) (x1 : Int) (K : KF α) :
  eC k qaa.u4.c (fr59 x0 x1) K =
   qaa.u4.f k x0 x1 (fun y0 => K .ret (fr18 y0)) (fun y0 => K (.exit 0) (fr25 y0)) :=
 je.trans <| (zr (body := eC k qaa.u3.c) (keep := [0, 3]) (ρ := (fr59 x0 x1)) (ρ' := (fr59 x0 x1)) (by kernel_rfl) k K).trans (qaa.u4.okl k K k x0 x1)
theorem qaa.u5.ok (k : Nat) (x0 : Sl) (x1 : Int) (K : KF α) :
  eC k qaa.u5.c (fr59 x0 x1) K =
   qaa.u5.f k x0 x1 (fun y0 => K .normal (fr25 y0)) (fun y0 => K .ret (fr18 y0)) :=
 (zm.trans (qaa.u4.ok k x0 x1 (jf 0 K))).trans (by kernel_rfl)
theorem qaa.u6.ok (k : Nat) (x0 : Sl) (K : KF α) :
  eC k qaa.u6.c (fr25 x0) K =
   qaa.u6.f k x0 (fun y0 => K .normal (fr25 y0)) (fun y0 => K .ret (fr18 y0)) :=
 (qaa.u2.ok k x0 qaa.u5.c K).trans
  (congrArg (fun z => qaa.u2.f k x0 z) (funext fun y0 => (funext fun y1 => qaa.u5.ok k y0 y1 K)))
theorem qaa.u7.ok (k : Nat) (x0 : Sl) (K : KF α) :
  eC k qaa.u7.c (fr25 x0) K =
   qaa.u7.f k x0 (fun y0 => K .ret (fr18 y0)) := by kernel_rfl
theorem qaa.u8.ok (k : Nat) (x0 : Sl) (K : KF α) :
  eC k qaa.u8.c (fr25 x0) K =
   qaa.u8.f k x0 (fun y0 => K .ret (fr18 y0)) :=
 by
  have h := qaa.u6.ok k x0 (seqK (fun ρ => eC k qaa.u7.c ρ K) K)
  simp only [zd, zf, zg, zh, qaa.u7.ok] at h
  exact zk h
theorem qaa.u9.ok (k : Nat) (x0 : Sl) (K : KF α) :
  eC k qaa.u9.c (fr25 x0) K =
   qaa.u9.f k x0 (fun y0 => K .ret (fr18 y0)) :=
 (qaa.u1.ok k x0 qaa.u8.c K).trans
  (congrArg (fun z => qaa.u1.f k x0 z) (funext fun y0 => qaa.u8.ok k y0 K))
theorem qaa.ok (k : Nat) (x0 : Sl) (κ : Res->M α) :
  evF T (env k) k qaa.c qaa.res [.slice x0] κ = qaa.f (k + 1) x0 (fun o0 => κ (.ret (.bool o0))) :=
 (qaa.u9.ok k x0 (retK T qaa.res κ)).trans (by kernel_rfl)
theorem qaa.code : qaa.c.code = zy Tryd.f19 := by kernel_rfl
noncomputable def qw.c : IC := qw.u9.c
noncomputable def qw.res : List ResultVar := [(.tmp 2)]
theorem qw.u1.ok (k : Nat) (x0 : Sl) (R : IC) (K : KF α) :
  eC k (qw.u1.c R) (fr25 x0) K =
   qw.u1.f k x0 (fun y0 y1 y2 => eC k R (fr60 y0 y1 y2) K) (fun y0 => K .ret (fr26 y0)) := by kernel_rfl
theorem qw.u2.ok (k : Nat) (x0 x1 x2 : Sl) (R : IC) (K : KF α) :
  eC k (qw.u2.c R) (fr60 x0 x1 x2) K =
   qw.u2.f k x0 x1 x2 (fun y0 y1 y2 y3 => eC k R (fr61 y0 y1 y2 y3) K) := by kernel_rfl
theorem qw.u3.ok (k : Nat) (x0 x1 x2 : Sl) (x3 : Int) (K : KF α) :
  eC k qw.u3.c (fr61 x0 x1 x2 x3) K =
   qw.u3.f k x0 x1 x2 x3 (fun y0 y1 y2 y3 => K .normal (fr61 y0 y1 y2 y3)) (fun y0 => K (.exit 0) (fr62 y0)) := by kernel_rfl
theorem qw.u4.ls (k : Nat) (kx0 : Sl->M α) (j : Nat) (x0 x1 x2 : Sl) (x3 : Int) : qw.u4.l k kx0 (j + 1) x0 x1 x2 x3 =
 qw.u3.f k x0 x1 x2 x3 (fun y0 y1 y2 y3 => qw.u4.l k kx0 j y0 y1 y2 y3) kx0 := rfl
theorem qw.u4.okl (k : Nat) (K : KF α) : ∀ (j : Nat) (x0 x1 x2 : Sl) (x3 : Int),
  zu (eC k qw.u3.c) [0, 4, 5, 6] j (fr61 x0 x1 x2 x3) K = qw.u4.l k (fun y0 => K (.exit 0) (fr62 y0)) j x0 x1 x2 x3
 | 0, _, _, _, _ => rfl
 | j + 1, x0, x1, x2, x3 => by
   have h := qw.u3.ok k x0 x1 x2 x3 (seqK (fun ρ => zu (eC k qw.u3.c) [0, 4, 5, 6] j ρ K) K)
   simp only [zf, zg, zh, zd, qw.u4.okl k K j] at h
   exact (zq (by kernel_rfl) h).trans (qw.u4.ls k (fun y0 => K (.exit 0) (fr62 y0)) j x0 x1 x2 x3).symm
theorem qw.u4.ok (k : Nat) (x0 x1 x2 : Sl) (x3 : Int) (K : KF α) :
  eC k qw.u4.c (fr61 x0 x1 x2 x3) K =
   qw.u4.f k x0 x1 x2 x3 (fun y0 => K (.exit 0) (fr62 y0)) :=
 je.trans <| (zr (body := eC k qw.u3.c) (keep := [0, 4, 5, 6]) (ρ := (fr61 x0 x1 x2 x3)) (ρ' := (fr61 x0 x1 x2 x3)) (by kernel_rfl) k K).trans (qw.u4.okl k K k x0 x1 x2 x3)
theorem qw.u5.ok (k : Nat) (x0 x1 x2 : Sl) (x3 : Int) (K : KF α) :
  eC k qw.u5.c (fr61 x0 x1 x2 x3) K =
   qw.u5.f k x0 x1 x2 x3 (fun y0 => K .normal (fr62 y0)) :=
 (zm.trans (qw.u4.ok k x0 x1 x2 x3 (jf 0 K))).trans (by kernel_rfl)
theorem qw.u6.ok (k : Nat) (x0 x1 x2 : Sl) (K : KF α) :
  eC k qw.u6.c (fr60 x0 x1 x2) K =
   qw.u6.f k x0 x1 x2 (fun y0 => K .normal (fr62 y0)) :=
 (qw.u2.ok k x0 x1 x2 qw.u5.c K).trans
  (congrArg (fun z => qw.u2.f k x0 x1 x2 z) (funext fun y0 => (funext fun y1 => (funext fun y2 => (funext fun y3 => qw.u5.ok k y0 y1 y2 y3 K)))))
theorem qw.u7.ok (k : Nat) (x0 : Sl) (K : KF α) :
  eC k qw.u7.c (fr62 x0) K =
   qw.u7.f k x0 (fun y0 => K .ret (fr26 y0)) := by kernel_rfl
theorem qw.u8.ok (k : Nat) (x0 x1 x2 : Sl) (K : KF α) :
  eC k qw.u8.c (fr60 x0 x1 x2) K =
   qw.u8.f k x0 x1 x2 (fun y0 => K .ret (fr26 y0)) :=
 by
  have h := qw.u6.ok k x0 x1 x2 (seqK (fun ρ => eC k qw.u7.c ρ K) K)
  simp only [zd, zf, zg, zh, qw.u7.ok] at h
  exact zk h
theorem qw.u9.ok (k : Nat) (x0 : Sl) (K : KF α) :
  eC k qw.u9.c (fr25 x0) K =
   qw.u9.f k x0 (fun y0 => K .ret (fr26 y0)) :=
 (qw.u1.ok k x0 qw.u8.c K).trans
  (congrArg (fun z => qw.u1.f k x0 z (fun y0 => K .ret (fr26 y0))) (funext fun y0 => (funext fun y1 => (funext fun y2 => qw.u8.ok k y0 y1 y2 K))))
theorem qw.ok (k : Nat) (x0 : Sl) (κ : Res->M α) :
  evF T (env k) k qw.c qw.res [.slice x0] κ = qw.f (k + 1) x0 (fun o0 => κ (.ret (.slice o0))) :=
 (qw.u9.ok k x0 (retK T qw.res κ)).trans (by kernel_rfl)
theorem qw.code : qw.c.code = zy Tryd.f40 := by kernel_rfl
noncomputable def qbi.c : IC := qbi.u1.c
noncomputable def qbi.res : List ResultVar := [(.tmp 2)]
theorem qbi.u1.ok (k : Nat) (x0 : Sl) (K : KF α) :
  eC k qbi.u1.c (fr25 x0) K =
   qbi.u1.f k x0 (fun y0 => K .ret (fr26 y0)) := by kernel_rfl
theorem qbi.ok (k : Nat) (x0 : Sl) (κ : Res->M α) :
  evF T (env k) k qbi.c qbi.res [.slice x0] κ = qbi.f (k + 1) x0 (fun o0 => κ (.ret (.slice o0))) :=
 (qbi.u1.ok k x0 (retK T qbi.res κ)).trans (by kernel_rfl)
theorem qbi.code : qbi.c.code = zy Tryd.f21 := by kernel_rfl
noncomputable def qaf.c : IC := qaf.u7.c
noncomputable def qaf.res : List ResultVar := [(.tmp 6)]
theorem qaf.u1.ok (k : Nat) (x0 : Sl) (x1 x2 : Int) (R : IC) (K : KF α) :
  eC k (qaf.u1.c R) (fr63 x0 x1 x2) K =
   qaf.u1.f k x0 x1 x2 (fun y0 y1 y2 => eC k R (fr63 y0 y1 y2) K) := by kernel_rfl
theorem qaf.u2.ok (k : Nat) (x0 : Sl) (x1 x2 : Int) (K : KF α) :
  eC k qaf.u2.c (fr63 x0 x1 x2) K =
   qaf.u2.f k x0 x1 x2 (fun y0 y1 y2 => K .normal (fr63 y0 y1 y2)) (fun y0 => K .ret (fr28 y0)) (K (.exit 0) (za [])) := by kernel_rfl
theorem qaf.u3.ls (k : Nat) (kr : Bool->M α) (kx0 : M α) (j : Nat) (x0 : Sl) (x1 x2 : Int) : qaf.u3.l k kr kx0 (j + 1) x0 x1 x2 =
 qaf.u2.f k x0 x1 x2 (fun y0 y1 y2 => qaf.u3.l k kr kx0 j y0 y1 y2) kr kx0 := rfl
theorem qaf.u3.okl (k : Nat) (K : KF α) : ∀ (j : Nat) (x0 : Sl) (x1 x2 : Int),
  zu (eC k qaf.u2.c) [0, 1, 2] j (fr63 x0 x1 x2) K = qaf.u3.l k (fun y0 => K .ret (fr28 y0)) (K (.exit 0) (za [])) j x0 x1 x2
 | 0, _, _, _ => rfl
 | j + 1, x0, x1, x2 => by
   have h := qaf.u2.ok k x0 x1 x2 (seqK (fun ρ => zu (eC k qaf.u2.c) [0, 1, 2] j ρ K) K)
   simp only [zf, zg, zh, zd, qaf.u3.okl k K j] at h
   exact (zq (by kernel_rfl) h).trans (qaf.u3.ls k (fun y0 => K .ret (fr28 y0)) (K (.exit 0) (za [])) j x0 x1 x2).symm
theorem qaf.u3.ok (k : Nat) (x0 : Sl) (x1 x2 : Int) (K : KF α) :
  eC k qaf.u3.c (fr63 x0 x1 x2) K =
   qaf.u3.f k x0 x1 x2 (fun y0 => K .ret (fr28 y0)) (K (.exit 0) (za [])) :=
 je.trans <| (zr (body := eC k qaf.u2.c) (keep := [0, 1, 2]) (ρ := (fr63 x0 x1 x2)) (ρ' := (fr63 x0 x1 x2)) (by kernel_rfl) k K).trans (qaf.u3.okl k K k x0 x1 x2)
theorem qaf.u4.ok (k : Nat) (x0 : Sl) (x1 x2 : Int) (K : KF α) :
  eC k qaf.u4.c (fr63 x0 x1 x2) K =
   qaf.u4.f k x0 x1 x2 (K .normal (za [])) (fun y0 => K .ret (fr28 y0)) :=
 (zm.trans (qaf.u3.ok k x0 x1 x2 (jf 0 K))).trans (by kernel_rfl)
theorem qaf.u5.ok (k : Nat) (K : KF α) :
  eC k qaf.u5.c (za []) K =
   qaf.u5.f k (fun y0 => K .ret (fr28 y0)) := by kernel_rfl
theorem qaf.u6.ok (k : Nat) (x0 : Sl) (x1 x2 : Int) (K : KF α) :
  eC k qaf.u6.c (fr63 x0 x1 x2) K =
   qaf.u6.f k x0 x1 x2 (fun y0 => K .ret (fr28 y0)) :=
 by
  have h := qaf.u4.ok k x0 x1 x2 (seqK (fun ρ => eC k qaf.u5.c ρ K) K)
  simp only [zd, zf, zg, zh, qaf.u5.ok] at h
  exact zk h
theorem qaf.u7.ok (k : Nat) (x0 : Sl) (x1 x2 : Int) (K : KF α) :
  eC k qaf.u7.c (fr63 x0 x1 x2) K =
   qaf.u7.f k x0 x1 x2 (fun y0 => K .ret (fr28 y0)) :=
 (qaf.u1.ok k x0 x1 x2 qaf.u6.c K).trans
  (congrArg (fun z => qaf.u1.f k x0 x1 x2 z) (funext fun y0 => (funext fun y1 => (funext fun y2 => qaf.u6.ok k y0 y1 y2 K))))
theorem qaf.ok (k : Nat) (x0 : Sl) (x1 x2 : Int) (κ : Res->M α) :
  evF T (env k) k qaf.c qaf.res [.slice x0, .int .i64 x1, .int .i64 x2] κ = qaf.f (k + 1) x0 x1 x2 (fun o0 => κ (.ret (.bool o0))) :=
 (qaf.u7.ok k x0 x1 x2 (retK T qaf.res κ)).trans (by kernel_rfl)
theorem qaf.code : qaf.c.code = zy Tryd.f22 := by kernel_rfl
noncomputable def qg.c : IC := qg.u22.c
noncomputable def qg.res : List ResultVar := [(.tmp 2)]
theorem qg.u1.ok (k : Nat) (x0 : Sl) (R : IC) (K : KF α) :
  eC k (qg.u1.c R) (fr25 x0) K =
   qg.u1.f k x0 (fun y0 y1 y2 y3 => eC k R (fr64 y0 y1 y2 y3) K) (fun y0 => K .ret (fr26 y0)) := by kernel_rfl
theorem qg.u2.ok (k : Nat) (x0 x1 : Sl) (x2 x3 : Sl) (R : IC) (K : KF α) :
  eC k (qg.u2.c R) (fr64 x0 x1 x2 x3) K =
   qg.u2.f k x0 x1 x2 x3 (fun y0 y1 y2 y3 y4 => eC k R (fr65 y0 y1 y2 y3 y4) K) := by kernel_rfl
theorem qg.u3.ok (k : Nat) (x0 x1 : Sl) (x2 x3 : Sl) (x4 : Int) (R : IC) (K : KF α) :
  eC k (qg.u3.c R) (fr65 x0 x1 x2 x3 x4) K =
   qg.u3.f k x0 x1 x2 x3 x4 (fun y0 y1 y2 y3 y4 => eC k R (fr65 y0 y1 y2 y3 y4) K) (fun y0 => K (.exit 0) (fr66 y0)) := by kernel_rfl
theorem qg.u4.ok (k : Nat) (x0 x1 : Sl) (x2 x3 : Sl) (x4 : Int) (R : IC) (K : KF α) :
  eC k (qg.u4.c R) (fr65 x0 x1 x2 x3 x4) K =
   qg.u4.f k x0 x1 x2 x3 x4 (fun y0 y1 y2 y3 y4 y5 => eC k R (fr67 y0 y1 y2 y3 y4 y5) K) := by kernel_rfl
theorem qg.u5.ok (k : Nat) (x0 x1 : Sl) (x2 x3 : Sl) (x4 x5 : Int) (R : IC) (K : KF α) :
  eC k (qg.u5.c R) (fr67 x0 x1 x2 x3 x4 x5) K =
   qg.u5.f k x0 x1 x2 x3 x4 x5 (fun y0 y1 y2 y3 y4 y5 y6 => eC k R (fr68 y0 y1 y2 y3 y4 y5 y6) K) := by kernel_rfl
theorem qg.u6.ok (k : Nat) (x0 x1 : Sl) (x2 x3 : Sl) (x4 x5 x6 : Int) (K : KF α) :
  eC k qg.u6.c (fr68 x0 x1 x2 x3 x4 x5 x6) K =
   qg.u6.f k x0 x1 x2 x3 x4 x5 x6 (fun y0 y1 y2 y3 y4 y5 y6 => K .normal (fr68 y0 y1 y2 y3 y4 y5 y6)) (fun y0 y1 y2 y3 y4 y5 => K (.exit 2) (fr67 y0 y1 y2 y3 y4 y5)) := by kernel_rfl
theorem qg.u7.ls (k : Nat) (kx2 : Sl->Sl->Sl->Sl->Int->Int->M α) (j : Nat) (x0 x1 : Sl) (x2 x3 : Sl) (x4 x5 x6 : Int) : qg.u7.l k kx2 (j + 1) x0 x1 x2 x3 x4 x5 x6 =
 qg.u6.f k x0 x1 x2 x3 x4 x5 x6 (fun y0 y1 y2 y3 y4 y5 y6 => qg.u7.l k kx2 j y0 y1 y2 y3 y4 y5 y6) kx2 := rfl
theorem qg.u7.okl (k : Nat) (K : KF α) : ∀ (j : Nat) (x0 x1 : Sl) (x2 x3 : Sl) (x4 x5 x6 : Int),
  zu (eC k qg.u6.c) [0, 4, 5, 6, 7, 8, 9] j (fr68 x0 x1 x2 x3 x4 x5 x6) K = qg.u7.l k (fun y0 y1 y2 y3 y4 y5 => K (.exit 2) (fr67 y0 y1 y2 y3 y4 y5)) j x0 x1 x2 x3 x4 x5 x6
 | 0, _, _, _, _, _, _, _ => rfl
 | j + 1, x0, x1, x2, x3, x4, x5, x6 => by
   have h := qg.u6.ok k x0 x1 x2 x3 x4 x5 x6 (seqK (fun ρ => zu (eC k qg.u6.c) [0, 4, 5, 6, 7, 8, 9] j ρ K) K)
   simp only [zf, zg, zh, zd, qg.u7.okl k K j] at h
   exact (zq (by kernel_rfl) h).trans (qg.u7.ls k (fun y0 y1 y2 y3 y4 y5 => K (.exit 2) (fr67 y0 y1 y2 y3 y4 y5)) j x0 x1 x2 x3 x4 x5 x6).symm
theorem qg.u7.ok (k : Nat) (x0 x1 : Sl) (x2 x3 : Sl) (x4 x5 x6 : Int) (K : KF α) :
  eC k qg.u7.c (fr68 x0 x1 x2 x3 x4 x5 x6) K =
   qg.u7.f k x0 x1 x2 x3 x4 x5 x6 (fun y0 y1 y2 y3 y4 y5 => K (.exit 2) (fr67 y0 y1 y2 y3 y4 y5)) :=
 je.trans <| (zr (body := eC k qg.u6.c) (keep := [0, 4, 5, 6, 7, 8, 9]) (ρ := (fr68 x0 x1 x2 x3 x4 x5 x6)) (ρ' := (fr68 x0 x1 x2 x3 x4 x5 x6)) (by kernel_rfl) k K).trans (qg.u7.okl k K k x0 x1 x2 x3 x4 x5 x6)
theorem qg.u8.ok (k : Nat) (x0 x1 : Sl) (x2 x3 : Sl) (x4 x5 x6 : Int) (K : KF α) :
  eC k qg.u8.c (fr68 x0 x1 x2 x3 x4 x5 x6) K =
   qg.u8.f k x0 x1 x2 x3 x4 x5 x6 (fun y0 y1 y2 y3 y4 y5 => K .normal (fr67 y0 y1 y2 y3 y4 y5)) :=
 (zm.trans (qg.u7.ok k x0 x1 x2 x3 x4 x5 x6 (jf 2 K))).trans (by kernel_rfl)
theorem qg.u9.ok (k : Nat) (x0 x1 : Sl) (x2 x3 : Sl) (x4 x5 : Int) (K : KF α) :
  eC k qg.u9.c (fr67 x0 x1 x2 x3 x4 x5) K =
   qg.u9.f k x0 x1 x2 x3 x4 x5 (fun y0 y1 y2 y3 y4 y5 => K .normal (fr67 y0 y1 y2 y3 y4 y5)) :=
 (qg.u5.ok k x0 x1 x2 x3 x4 x5 qg.u8.c K).trans
  (congrArg (fun z => qg.u5.f k x0 x1 x2 x3 x4 x5 z) (funext fun y0 => (funext fun y1 => (funext fun y2 => (funext fun y3 => (funext fun y4 => (funext fun y5 => (funext fun y6 => qg.u8.ok k y0 y1 y2 y3 y4 y5 y6 K))))))))
theorem qg.u10.ok (k : Nat) (x0 x1 : Sl) (x2 x3 : Sl) (x4 x5 : Int) (K : KF α) :
  eC k qg.u10.c (fr67 x0 x1 x2 x3 x4 x5) K =
   qg.u10.f k x0 x1 x2 x3 x4 x5 (fun y0 y1 y2 y3 y4 => K .normal (fr65 y0 y1 y2 y3 y4)) := by kernel_rfl
theorem qg.u11.ok (k : Nat) (x0 x1 : Sl) (x2 x3 : Sl) (x4 x5 : Int) (K : KF α) :
  eC k qg.u11.c (fr67 x0 x1 x2 x3 x4 x5) K =
   qg.u11.f k x0 x1 x2 x3 x4 x5 (fun y0 y1 y2 y3 y4 => K .normal (fr65 y0 y1 y2 y3 y4)) :=
 by
  have h := qg.u9.ok k x0 x1 x2 x3 x4 x5 (seqK (fun ρ => eC k qg.u10.c ρ K) K)
  simp only [zd, zf, zg, zh, qg.u10.ok] at h
  exact zk h
theorem qg.u12.ok (k : Nat) (x0 x1 : Sl) (x2 x3 : Sl) (x4 : Int) (K : KF α) :
  eC k qg.u12.c (fr65 x0 x1 x2 x3 x4) K =
   qg.u12.f k x0 x1 x2 x3 x4 (fun y0 y1 y2 y3 y4 => K .normal (fr65 y0 y1 y2 y3 y4)) :=
 (qg.u4.ok k x0 x1 x2 x3 x4 qg.u11.c K).trans
  (congrArg (fun z => qg.u4.f k x0 x1 x2 x3 x4 z) (funext fun y0 => (funext fun y1 => (funext fun y2 => (funext fun y3 => (funext fun y4 => (funext fun y5 => qg.u11.ok k y0 y1 y2 y3 y4 y5 K)))))))
theorem qg.u13.ok (k : Nat) (x0 x1 : Sl) (x2 x3 : Sl) (x4 : Int) (K : KF α) :
  eC k qg.u13.c (fr65 x0 x1 x2 x3 x4) K =
   qg.u13.f k x0 x1 x2 x3 x4 (fun y0 y1 y2 y3 y4 => K .normal (fr65 y0 y1 y2 y3 y4)) :=
 (zm.trans (qg.u12.ok k x0 x1 x2 x3 x4 (jf 1 K))).trans (by kernel_rfl)
theorem qg.u14.ok (k : Nat) (x0 x1 : Sl) (x2 x3 : Sl) (x4 : Int) (K : KF α) :
  eC k qg.u14.c (fr65 x0 x1 x2 x3 x4) K =
   qg.u14.f k x0 x1 x2 x3 x4 (fun y0 y1 y2 y3 y4 => K .normal (fr65 y0 y1 y2 y3 y4)) := by kernel_rfl
theorem qg.u15.ok (k : Nat) (x0 x1 : Sl) (x2 x3 : Sl) (x4 : Int) (K : KF α) :
  eC k qg.u15.c (fr65 x0 x1 x2 x3 x4) K =
   qg.u15.f k x0 x1 x2 x3 x4 (fun y0 y1 y2 y3 y4 => K .normal (fr65 y0 y1 y2 y3 y4)) :=
 by
  have h := qg.u13.ok k x0 x1 x2 x3 x4 (seqK (fun ρ => eC k qg.u14.c ρ K) K)
  simp only [zd, zf, zg, zh, qg.u14.ok] at h
  exact zk h
theorem qg.u16.ok (k : Nat) (x0 x1 : Sl) (x2 x3 : Sl) (x4 : Int) (K : KF α) :
  eC k qg.u16.c (fr65 x0 x1 x2 x3 x4) K =
   qg.u16.f k x0 x1 x2 x3 x4 (fun y0 y1 y2 y3 y4 => K .normal (fr65 y0 y1 y2 y3 y4)) (fun y0 => K (.exit 0) (fr66 y0)) :=
 (qg.u3.ok k x0 x1 x2 x3 x4 qg.u15.c K).trans
  (congrArg (fun z => qg.u3.f k x0 x1 x2 x3 x4 z (fun y0 => K (.exit 0) (fr66 y0))) (funext fun y0 => (funext fun y1 => (funext fun y2 => (funext fun y3 => (funext fun y4 => qg.u15.ok k y0 y1 y2 y3 y4 K))))))
theorem qg.u17.ls (k : Nat) (kx0 : Sl->M α) (j : Nat) (x0 x1 : Sl) (x2 x3 : Sl) (x4 : Int) : qg.u17.l k kx0 (j + 1) x0 x1 x2 x3 x4 =
 qg.u16.f k x0 x1 x2 x3 x4 (fun y0 y1 y2 y3 y4 => qg.u17.l k kx0 j y0 y1 y2 y3 y4) kx0 := rfl
theorem qg.u17.okl (k : Nat) (K : KF α) : ∀ (j : Nat) (x0 x1 : Sl) (x2 x3 : Sl) (x4 : Int),
  zu (eC k qg.u16.c) [0, 4, 5, 6, 7] j (fr65 x0 x1 x2 x3 x4) K = qg.u17.l k (fun y0 => K (.exit 0) (fr66 y0)) j x0 x1 x2 x3 x4
 | 0, _, _, _, _, _ => rfl
 | j + 1, x0, x1, x2, x3, x4 => by
   have h := qg.u16.ok k x0 x1 x2 x3 x4 (seqK (fun ρ => zu (eC k qg.u16.c) [0, 4, 5, 6, 7] j ρ K) K)
   simp only [zf, zg, zh, zd, qg.u17.okl k K j] at h
   exact (zq (by kernel_rfl) h).trans (qg.u17.ls k (fun y0 => K (.exit 0) (fr66 y0)) j x0 x1 x2 x3 x4).symm
theorem qg.u17.ok (k : Nat) (x0 x1 : Sl) (x2 x3 : Sl) (x4 : Int) (K : KF α) :
  eC k qg.u17.c (fr65 x0 x1 x2 x3 x4) K =
   qg.u17.f k x0 x1 x2 x3 x4 (fun y0 => K (.exit 0) (fr66 y0)) :=
 je.trans <| (zr (body := eC k qg.u16.c) (keep := [0, 4, 5, 6, 7]) (ρ := (fr65 x0 x1 x2 x3 x4)) (ρ' := (fr65 x0 x1 x2 x3 x4)) (by kernel_rfl) k K).trans (qg.u17.okl k K k x0 x1 x2 x3 x4)
theorem qg.u18.ok (k : Nat) (x0 x1 : Sl) (x2 x3 : Sl) (x4 : Int) (K : KF α) :
  eC k qg.u18.c (fr65 x0 x1 x2 x3 x4) K =
   qg.u18.f k x0 x1 x2 x3 x4 (fun y0 => K .normal (fr66 y0)) :=
 (zm.trans (qg.u17.ok k x0 x1 x2 x3 x4 (jf 0 K))).trans (by kernel_rfl)
theorem qg.u19.ok (k : Nat) (x0 x1 : Sl) (x2 x3 : Sl) (K : KF α) :
  eC k qg.u19.c (fr64 x0 x1 x2 x3) K =
   qg.u19.f k x0 x1 x2 x3 (fun y0 => K .normal (fr66 y0)) :=
 (qg.u2.ok k x0 x1 x2 x3 qg.u18.c K).trans
  (congrArg (fun z => qg.u2.f k x0 x1 x2 x3 z) (funext fun y0 => (funext fun y1 => (funext fun y2 => (funext fun y3 => (funext fun y4 => qg.u18.ok k y0 y1 y2 y3 y4 K))))))
theorem qg.u20.ok (k : Nat) (x0 : Sl) (K : KF α) :
  eC k qg.u20.c (fr66 x0) K =
   qg.u20.f k x0 (fun y0 => K .ret (fr26 y0)) := by kernel_rfl
theorem qg.u21.ok (k : Nat) (x0 x1 : Sl) (x2 x3 : Sl) (K : KF α) :
  eC k qg.u21.c (fr64 x0 x1 x2 x3) K =
   qg.u21.f k x0 x1 x2 x3 (fun y0 => K .ret (fr26 y0)) :=
 by
  have h := qg.u19.ok k x0 x1 x2 x3 (seqK (fun ρ => eC k qg.u20.c ρ K) K)
  simp only [zd, zf, zg, zh, qg.u20.ok] at h
  exact zk h
theorem qg.u22.ok (k : Nat) (x0 : Sl) (K : KF α) :
  eC k qg.u22.c (fr25 x0) K =
   qg.u22.f k x0 (fun y0 => K .ret (fr26 y0)) :=
 (qg.u1.ok k x0 qg.u21.c K).trans
  (congrArg (fun z => qg.u1.f k x0 z (fun y0 => K .ret (fr26 y0))) (funext fun y0 => (funext fun y1 => (funext fun y2 => (funext fun y3 => qg.u21.ok k y0 y1 y2 y3 K)))))
theorem qg.ok (k : Nat) (x0 : Sl) (κ : Res->M α) :
  evF T (env k) k qg.c qg.res [.slice x0] κ = qg.f (k + 1) x0 (fun o0 => κ (.ret (.slice o0))) :=
 (qg.u22.ok k x0 (retK T qg.res κ)).trans (by kernel_rfl)
theorem qg.code : qg.c.code = zy Tryd.f9 := by kernel_rfl
noncomputable def qi.c : IC := qi.u18.c
noncomputable def qi.res : List ResultVar := [(.tmp 2)]
theorem qi.u1.ok (k : Nat) (x0 : Sl) (R : IC) (K : KF α) :
  eC k (qi.u1.c R) (fr25 x0) K =
   qi.u1.f k x0 (fun y0 y1 y2 => eC k R (fr69 y0 y1 y2) K) := by kernel_rfl
theorem qi.u2.ok (k : Nat) (x0 : Sl) (x1 : Bool) (x2 : Sl) (R : IC) (K : KF α) :
  eC k (qi.u2.c R) (fr69 x0 x1 x2) K =
   qi.u2.f k x0 x1 x2 (fun y0 y1 y2 y3 => eC k R (fr70 y0 y1 y2 y3) K) := by kernel_rfl
theorem qi.u3.ok (k : Nat) (x0 : Sl) (x1 : Bool) (x2 : Sl) (x3 : Int) (R : IC) (K : KF α) :
  eC k (qi.u3.c R) (fr70 x0 x1 x2 x3) K =
   qi.u3.f k x0 x1 x2 x3 (fun y0 y1 y2 y3 => eC k R (fr70 y0 y1 y2 y3) K) (K (.exit 0) (za [])) := by kernel_rfl
theorem qi.u4.ok (k : Nat) (x0 : Sl) (x1 : Bool) (x2 : Sl) (x3 : Int) (R : IC) (K : KF α) :
  eC k (qi.u4.c R) (fr70 x0 x1 x2 x3) K =
   qi.u4.f k x0 x1 x2 x3 (fun y0 y1 y2 y3 y4 y5 => eC k R (fr71 y0 y1 y2 y3 y4 y5) K) (fun y0 => K .ret (fr18 y0)) := by kernel_rfl
theorem qi.u5.ok (k : Nat) (x0 : Sl) (x1 : Bool) (x2 : Sl) (x3 : Int) (x4 : Sl) (x5 : Int) (K : KF α) :
  eC k qi.u5.c (fr71 x0 x1 x2 x3 x4 x5) K =
   qi.u5.f k x0 x1 x2 x3 x4 x5 (fun y0 y1 y2 y3 y4 y5 => K .normal (fr71 y0 y1 y2 y3 y4 y5)) (fun y0 => K .ret (fr18 y0)) (fun y0 y1 y2 y3 => K (.exit 2) (fr70 y0 y1 y2 y3)) := by kernel_rfl
theorem qi.u6.ls (k : Nat) (kr : Bool->M α) (kx2 : Sl->Bool->Sl->Int->M α) (j : Nat) (x0 : Sl) (x1 : Bool) (x2 : Sl) (x3 : Int) (x4 : Sl) (x5 : Int) : qi.u6.l k kr kx2 (j + 1) x0 x1 x2 x3 x4 x5 =
 qi.u5.f k x0 x1 x2 x3 x4 x5 (fun y0 y1 y2 y3 y4 y5 => qi.u6.l k kr kx2 j y0 y1 y2 y3 y4 y5) kr kx2 := rfl
theorem qi.u6.okl (k : Nat) (K : KF α) : ∀ (j : Nat) (x0 : Sl) (x1 : Bool) (x2 : Sl) (x3 : Int) (x4 : Sl) (x5 : Int),
  zu (eC k qi.u5.c) [0, 3, 4, 5, 6, 7] j (fr71 x0 x1 x2 x3 x4 x5) K = qi.u6.l k (fun y0 => K .ret (fr18 y0)) (fun y0 y1 y2 y3 => K (.exit 2) (fr70 y0 y1 y2 y3)) j x0 x1 x2 x3 x4 x5
 | 0, _, _, _, _, _, _ => rfl
 | j + 1, x0, x1, x2, x3, x4, x5 => by
   have h := qi.u5.ok k x0 x1 x2 x3 x4 x5 (seqK (fun ρ => zu (eC k qi.u5.c) [0, 3, 4, 5, 6, 7] j ρ K) K)
   simp only [zf, zg, zh, zd, qi.u6.okl k K j] at h
   exact (zq (by kernel_rfl) h).trans (qi.u6.ls k (fun y0 => K .ret (fr18 y0)) (fun y0 y1 y2 y3 => K (.exit 2) (fr70 y0 y1 y2 y3)) j x0 x1 x2 x3 x4 x5).symm
theorem qi.u6.ok (k : Nat) (x0 : Sl) (x1 : Bool) (x2 : Sl) (x3 : Int) (x4 : Sl) (x5 : Int) (K : KF α) :
  eC k qi.u6.c (fr71 x0 x1 x2 x3 x4 x5) K =
   qi.u6.f k x0 x1 x2 x3 x4 x5 (fun y0 => K .ret (fr18 y0)) (fun y0 y1 y2 y3 => K (.exit 2) (fr70 y0 y1 y2 y3)) :=
 je.trans <| (zr (body := eC k qi.u5.c) (keep := [0, 3, 4, 5, 6, 7]) (ρ := (fr71 x0 x1 x2 x3 x4 x5)) (ρ' := (fr71 x0 x1 x2 x3 x4 x5)) (by kernel_rfl) k K).trans (qi.u6.okl k K k x0 x1 x2 x3 x4 x5)
theorem qi.u7.ok (k : Nat) (x0 : Sl) (x1 : Bool) (x2 : Sl) (x3 : Int) (x4 : Sl) (x5 : Int) (K : KF α) :
  eC k qi.u7.c (fr71 x0 x1 x2 x3 x4 x5) K =
   qi.u7.f k x0 x1 x2 x3 x4 x5 (fun y0 y1 y2 y3 => K .normal (fr70 y0 y1 y2 y3)) (fun y0 => K .ret (fr18 y0)) :=
 (zm.trans (qi.u6.ok k x0 x1 x2 x3 x4 x5 (jf 2 K))).trans (by kernel_rfl)
theorem qi.u8.ok (k : Nat) (x0 : Sl) (x1 : Bool) (x2 : Sl) (x3 : Int) (K : KF α) :
  eC k qi.u8.c (fr70 x0 x1 x2 x3) K =
   qi.u8.f k x0 x1 x2 x3 (fun y0 y1 y2 y3 => K .normal (fr70 y0 y1 y2 y3)) (fun y0 => K .ret (fr18 y0)) :=
 (qi.u4.ok k x0 x1 x2 x3 qi.u7.c K).trans
  (congrArg (fun z => qi.u4.f k x0 x1 x2 x3 z (fun y0 => K .ret (fr18 y0))) (funext fun y0 => (funext fun y1 => (funext fun y2 => (funext fun y3 => (funext fun y4 => (funext fun y5 => qi.u7.ok k y0 y1 y2 y3 y4 y5 K)))))))
theorem qi.u9.ok (k : Nat) (x0 : Sl) (x1 : Bool) (x2 : Sl) (x3 : Int) (K : KF α) :
  eC k qi.u9.c (fr70 x0 x1 x2 x3) K =
   qi.u9.f k x0 x1 x2 x3 (fun y0 y1 y2 y3 => K .normal (fr70 y0 y1 y2 y3)) (fun y0 => K .ret (fr18 y0)) :=
 (zm.trans (qi.u8.ok k x0 x1 x2 x3 (jf 1 K))).trans (by kernel_rfl)
theorem qi.u10.ok (k : Nat) (x0 : Sl) (x1 : Bool) (x2 : Sl) (x3 : Int) (K : KF α) :
  eC k qi.u10.c (fr70 x0 x1 x2 x3) K =
   qi.u10.f k x0 x1 x2 x3 (fun y0 y1 y2 y3 => K .normal (fr70 y0 y1 y2 y3)) := by kernel_rfl
theorem qi.u11.ok (k : Nat) (x0 : Sl) (x1 : Bool) (x2 : Sl) (x3 : Int) (K : KF α) :
  eC k qi.u11.c (fr70 x0 x1 x2 x3) K =
   qi.u11.f k x0 x1 x2 x3 (fun y0 y1 y2 y3 => K .normal (fr70 y0 y1 y2 y3)) (fun y0 => K .ret (fr18 y0)) :=
 by
  have h := qi.u9.ok k x0 x1 x2 x3 (seqK (fun ρ => eC k qi.u10.c ρ K) K)
  simp only [zd, zf, zg, zh, qi.u10.ok] at h
  exact zk h
theorem qi.u12.ok (k : Nat) (x0 : Sl) (x1 : Bool) (x2 : Sl) (x3 : Int) (K : KF α) :
  eC k qi.u12.c (fr70 x0 x1 x2 x3) K =
   qi.u12.f k x0 x1 x2 x3 (fun y0 y1 y2 y3 => K .normal (fr70 y0 y1 y2 y3)) (fun y0 => K .ret (fr18 y0)) (K (.exit 0) (za [])) :=
 (qi.u3.ok k x0 x1 x2 x3 qi.u11.c K).trans
  (congrArg (fun z => qi.u3.f k x0 x1 x2 x3 z (K (.exit 0) (za []))) (funext fun y0 => (funext fun y1 => (funext fun y2 => (funext fun y3 => qi.u11.ok k y0 y1 y2 y3 K)))))
theorem qi.u13.ls (k : Nat) (kr : Bool->M α) (kx0 : M α) (j : Nat) (x0 : Sl) (x1 : Bool) (x2 : Sl) (x3 : Int) : qi.u13.l k kr kx0 (j + 1) x0 x1 x2 x3 =
 qi.u12.f k x0 x1 x2 x3 (fun y0 y1 y2 y3 => qi.u13.l k kr kx0 j y0 y1 y2 y3) kr kx0 := rfl
theorem qi.u13.okl (k : Nat) (K : KF α) : ∀ (j : Nat) (x0 : Sl) (x1 : Bool) (x2 : Sl) (x3 : Int),
  zu (eC k qi.u12.c) [0, 3, 4, 5] j (fr70 x0 x1 x2 x3) K = qi.u13.l k (fun y0 => K .ret (fr18 y0)) (K (.exit 0) (za [])) j x0 x1 x2 x3
 | 0, _, _, _, _ => rfl
 | j + 1, x0, x1, x2, x3 => by
   have h := qi.u12.ok k x0 x1 x2 x3 (seqK (fun ρ => zu (eC k qi.u12.c) [0, 3, 4, 5] j ρ K) K)
   simp only [zf, zg, zh, zd, qi.u13.okl k K j] at h
   exact (zq (by kernel_rfl) h).trans (qi.u13.ls k (fun y0 => K .ret (fr18 y0)) (K (.exit 0) (za [])) j x0 x1 x2 x3).symm
theorem qi.u13.ok (k : Nat) (x0 : Sl) (x1 : Bool) (x2 : Sl) (x3 : Int) (K : KF α) :
  eC k qi.u13.c (fr70 x0 x1 x2 x3) K =
   qi.u13.f k x0 x1 x2 x3 (fun y0 => K .ret (fr18 y0)) (K (.exit 0) (za [])) :=
 je.trans <| (zr (body := eC k qi.u12.c) (keep := [0, 3, 4, 5]) (ρ := (fr70 x0 x1 x2 x3)) (ρ' := (fr70 x0 x1 x2 x3)) (by kernel_rfl) k K).trans (qi.u13.okl k K k x0 x1 x2 x3)
theorem qi.u14.ok (k : Nat) (x0 : Sl) (x1 : Bool) (x2 : Sl) (x3 : Int) (K : KF α) :
  eC k qi.u14.c (fr70 x0 x1 x2 x3) K =
   qi.u14.f k x0 x1 x2 x3 (K .normal (za [])) (fun y0 => K .ret (fr18 y0)) :=
 (zm.trans (qi.u13.ok k x0 x1 x2 x3 (jf 0 K))).trans (by kernel_rfl)
theorem qi.u15.ok (k : Nat) (x0 : Sl) (x1 : Bool) (x2 : Sl) (K : KF α) :
  eC k qi.u15.c (fr69 x0 x1 x2) K =
   qi.u15.f k x0 x1 x2 (K .normal (za [])) (fun y0 => K .ret (fr18 y0)) :=
 (qi.u2.ok k x0 x1 x2 qi.u14.c K).trans
  (congrArg (fun z => qi.u2.f k x0 x1 x2 z) (funext fun y0 => (funext fun y1 => (funext fun y2 => (funext fun y3 => qi.u14.ok k y0 y1 y2 y3 K)))))
theorem qi.u16.ok (k : Nat) (K : KF α) :
  eC k qi.u16.c (za []) K =
   qi.u16.f k (fun y0 => K .ret (fr18 y0)) := by kernel_rfl
theorem qi.u17.ok (k : Nat) (x0 : Sl) (x1 : Bool) (x2 : Sl) (K : KF α) :
  eC k qi.u17.c (fr69 x0 x1 x2) K =
   qi.u17.f k x0 x1 x2 (fun y0 => K .ret (fr18 y0)) :=
 by
  have h := qi.u15.ok k x0 x1 x2 (seqK (fun ρ => eC k qi.u16.c ρ K) K)
  simp only [zd, zf, zg, zh, qi.u16.ok] at h
  exact zk h
theorem qi.u18.ok (k : Nat) (x0 : Sl) (K : KF α) :
  eC k qi.u18.c (fr25 x0) K =
   qi.u18.f k x0 (fun y0 => K .ret (fr18 y0)) :=
 (qi.u1.ok k x0 qi.u17.c K).trans
  (congrArg (fun z => qi.u1.f k x0 z) (funext fun y0 => (funext fun y1 => (funext fun y2 => qi.u17.ok k y0 y1 y2 K))))
theorem qi.ok (k : Nat) (x0 : Sl) (κ : Res->M α) :
  evF T (env k) k qi.c qi.res [.slice x0] κ = qi.f (k + 1) x0 (fun o0 => κ (.ret (.bool o0))) :=
 (qi.u18.ok k x0 (retK T qi.res κ)).trans (by kernel_rfl)
theorem qi.code : qi.c.code = zy Tryd.f3 := by kernel_rfl
end
end Go.Ab.S5
