import Derived.Test.YtdhjpnacjnkbgaaGreatDoorAb15
import Derived.Test.YtdhjpnacjnkbgaaGreatDoorAb19
import Derived.Test.YtdhjpnacjnkbgaaGreatDoorS9a
import Derived.Test.YtdhjpnacjnkbgaaGreatDoorS9u
set_option linter.unusedVariables false
set_option linter.unusedSimpArgs false
set_option linter.unusedSectionVars false
namespace Go.Ab.S9
section
variable {α:Type}
open Go.Proofs
variable [Subsingleton α] {base:Nat} {w0:World}
theorem qe.call (k:Nat) (hC:∀ j, k = j + 1->jb Tryz.prog T base w0 (env (α:=α) j)):FnOk Tryz.prog T base w0 (env (α:=α) k) 44:=by
 intro X ι h w args xs κ out hX0 R hv e
 have e:env_44 k args κ h = some out:=e
 unfold env_44 at e
 match args, hv, e with
 | [a0], hv, e=>
  obtain ⟨_, rfl, e1⟩:=jf e
  obtain ⟨_, _, rfl, e2⟩:=ze e1
  obtain ⟨_, rfl, e3⟩:=jm e2
  obtain ⟨_, _, rfl, e4⟩:=ze e3
  obtain ⟨_, rfl, e5⟩:=jm e4
  obtain ⟨_, _, rfl, e6⟩:=ze e5
  obtain ⟨_, rfl, e7⟩:=jm e6
  obtain ⟨rfl, e8⟩:=jj e7
  cases k with
  | zero=>cases e8
  | succ k=>
   exact jr wide_ok tab_ok (hC k rfl) Tryz.func44 (by kernel_rfl:Tryz.f44.body = some qe.c.code) (by decide) (by kernel_rfl:Tryz.f44.results.toList = qe.res) (by kernel_rfl:icOk T Tryz.f44.ntmps qe.c = true) R hX0 hv (Nat.le_of_ble_eq_true rfl) ((congrFun (qe.ok k _ _ _ κ) h).trans e8)
theorem qac.call (k:Nat) (hC:∀ j, k = j + 1->jb Tryz.prog T base w0 (env (α:=α) j)):FnOk Tryz.prog T base w0 (env (α:=α) k) 12:=by
 intro X ι h w args xs κ out hX0 R hv e
 have e:env_12 k args κ h = some out:=e
 unfold env_12 at e
 match args, hv, e with
 | [a0], hv, e=>
  obtain ⟨_, rfl, e1⟩:=jf e
  obtain ⟨_, _, rfl, e2⟩:=ze e1
  obtain ⟨_, rfl, e3⟩:=jm e2
  obtain ⟨_, _, rfl, e4⟩:=ze e3
  obtain ⟨_, rfl, e5⟩:=jm e4
  obtain ⟨_, _, rfl, e6⟩:=ze e5
  obtain ⟨_, rfl, e7⟩:=jm e6
  obtain ⟨rfl, e8⟩:=jj e7
  cases k with
  | zero=>cases e8
  | succ k=>
   exact jr wide_ok tab_ok (hC k rfl) Tryz.func12 (by kernel_rfl:Tryz.f12.body = some qac.c.code) (by decide) (by kernel_rfl:Tryz.f12.results.toList = qac.res) (by kernel_rfl:icOk T Tryz.f12.ntmps qac.c = true) R hX0 hv (Nat.le_of_ble_eq_true rfl) ((congrFun (qac.ok k _ _ _ κ) h).trans e8)
theorem qad.call (k:Nat) (hC:∀ j, k = j + 1->jb Tryz.prog T base w0 (env (α:=α) j)):FnOk Tryz.prog T base w0 (env (α:=α) k) 150:=by
 intro X ι h w args xs κ out hX0 R hv e
 have e:env_150 k args κ h = some out:=e
 unfold env_150 at e
 match args, hv, e with
 | [a0, a1], hv, e=>
  obtain ⟨_, rfl, e1⟩:=zk e
  obtain ⟨_, rfl, e2⟩:=zk e1
  cases k with
  | zero=>cases e2
  | succ k=>
   exact jr wide_ok tab_ok (hC k rfl) Tryz.func150 (by kernel_rfl:Tryz.f150.body = some qad.c.code) (by decide) (by kernel_rfl:Tryz.f150.results.toList = qad.res) (by kernel_rfl:icOk T Tryz.f150.ntmps qad.c = true) R hX0 hv (Nat.le_of_ble_eq_true rfl) ((congrFun (qad.ok k _ _ κ) h).trans e2)
theorem qab.call (k:Nat) (hC:∀ j, k = j + 1->jb Tryz.prog T base w0 (env (α:=α) j)):FnOk Tryz.prog T base w0 (env (α:=α) k) 88:=by
 intro X ι h w args xs κ out hX0 R hv e
 have e:env_88 k args κ h = some out:=e
 unfold env_88 at e
 match args, hv, e with
 | [a0, a1], hv, e=>
  obtain ⟨_, rfl, e1⟩:=zk e
  obtain ⟨_, rfl, e2⟩:=zk e1
  cases k with
  | zero=>cases e2
  | succ k=>
   exact jr wide_ok tab_ok (hC k rfl) Tryz.func88 (by kernel_rfl:Tryz.f88.body = some qab.c.code) (by decide) (by kernel_rfl:Tryz.f88.results.toList = qab.res) (by kernel_rfl:icOk T Tryz.f88.ntmps qab.c = true) R hX0 hv (Nat.le_of_ble_eq_true rfl) ((congrFun (qab.ok k _ _ κ) h).trans e2)
theorem qr.call (k:Nat) (hC:∀ j, k = j + 1->jb Tryz.prog T base w0 (env (α:=α) j)):FnOk Tryz.prog T base w0 (env (α:=α) k) 45:=by
 intro X ι h w args xs κ out hX0 R hv e
 have e:env_45 k args κ h = some out:=e
 unfold env_45 at e
 match args, hv, e with
 | [a0, a1], hv, e=>
  obtain ⟨_, rfl, e1⟩:=jm e
  obtain ⟨_, rfl, e2⟩:=zk e1
  cases k with
  | zero=>cases e2
  | succ k=>
   exact jr wide_ok tab_ok (hC k rfl) Tryz.func45 (by kernel_rfl:Tryz.f45.body = some qr.c.code) (by decide) (by kernel_rfl:Tryz.f45.results.toList = qr.res) (by kernel_rfl:icOk T Tryz.f45.ntmps qr.c = true) R hX0 hv (Nat.le_of_ble_eq_true rfl) ((congrFun (qr.ok k _ _ κ) h).trans e2)
theorem qn.call (k:Nat) (hC:∀ j, k = j + 1->jb Tryz.prog T base w0 (env (α:=α) j)):FnOk Tryz.prog T base w0 (env (α:=α) k) 19:=by
 intro X ι h w args xs κ out hX0 R hv e
 have e:env_19 k args κ h = some out:=e
 unfold env_19 at e
 match args, hv, e with
 | [a0], hv, e=>
  obtain ⟨_, rfl, e1⟩:=zk e
  cases k with
  | zero=>cases e1
  | succ k=>
   exact jr wide_ok tab_ok (hC k rfl) Tryz.func19 (by kernel_rfl:Tryz.f19.body = some qn.c.code) (by decide) (by kernel_rfl:Tryz.f19.results.toList = qn.res) (by kernel_rfl:icOk T Tryz.f19.ntmps qn.c = true) R hX0 hv (Nat.le_of_ble_eq_true rfl) ((congrFun (qn.ok k _ κ) h).trans e1)
theorem qae.call (k:Nat) (hC:∀ j, k = j + 1->jb Tryz.prog T base w0 (env (α:=α) j)):FnOk Tryz.prog T base w0 (env (α:=α) k) 56:=by
 intro X ι h w args xs κ out hX0 R hv e
 have e:env_56 k args κ h = some out:=e
 unfold env_56 at e
 match args, hv, e with
 | [a0], hv, e=>
  obtain ⟨_, rfl, e1⟩:=zk e
  cases k with
  | zero=>cases e1
  | succ k=>
   exact jr wide_ok tab_ok (hC k rfl) Tryz.func56 (by kernel_rfl:Tryz.f56.body = some qae.c.code) (by decide) (by kernel_rfl:Tryz.f56.results.toList = qae.res) (by kernel_rfl:icOk T Tryz.f56.ntmps qae.c = true) R hX0 hv (Nat.le_of_ble_eq_true rfl) ((congrFun (qae.ok k _ κ) h).trans e1)
theorem qq.call (k:Nat) (hC:∀ j, k = j + 1->jb Tryz.prog T base w0 (env (α:=α) j)):FnOk Tryz.prog T base w0 (env (α:=α) k) 23:=by
 intro X ι h w args xs κ out hX0 R hv e
 have e:env_23 k args κ h = some out:=e
 unfold env_23 at e
 match args, hv, e with
 | [a0], hv, e=>
  obtain ⟨_, rfl, e1⟩:=jf e
  obtain ⟨_, _, rfl, e2⟩:=ze e1
  obtain ⟨_, rfl, e3⟩:=zk e2
  obtain ⟨_, _, rfl, e4⟩:=ze e3
  obtain ⟨_, rfl, e5⟩:=zk e4
  obtain ⟨_, _, rfl, e6⟩:=ze e5
  obtain ⟨_, rfl, e7⟩:=zk e6
  obtain ⟨_, _, rfl, e8⟩:=ze e7
  obtain ⟨_, rfl, e9⟩:=zk e8
  obtain ⟨rfl, e10⟩:=jj e9
  cases k with
  | zero=>cases e10
  | succ k=>
   exact jr wide_ok tab_ok (hC k rfl) Tryz.func23 (by kernel_rfl:Tryz.f23.body = some qq.c.code) (by decide) (by kernel_rfl:Tryz.f23.results.toList = qq.res) (by kernel_rfl:icOk T Tryz.f23.ntmps qq.c = true) R hX0 hv (Nat.le_of_ble_eq_true rfl) ((congrFun (qq.ok k _ _ _ _ κ) h).trans e10)
theorem qf.call (k:Nat) (hC:∀ j, k = j + 1->jb Tryz.prog T base w0 (env (α:=α) j)):FnOk Tryz.prog T base w0 (env (α:=α) k) 51:=by
 intro X ι h w args xs κ out hX0 R hv e
 have e:env_51 k args κ h = some out:=e
 unfold env_51 at e
 match args, hv, e with
 | [a0], hv, e=>
  obtain ⟨_, rfl, e1⟩:=jf e
  obtain ⟨_, _, rfl, e2⟩:=ze e1
  obtain ⟨_, rfl, e3⟩:=zk e2
  obtain ⟨_, _, rfl, e4⟩:=ze e3
  obtain ⟨_, rfl, e5⟩:=zk e4
  obtain ⟨_, _, rfl, e6⟩:=ze e5
  obtain ⟨_, rfl, e7⟩:=zk e6
  obtain ⟨_, _, rfl, e8⟩:=ze e7
  obtain ⟨_, rfl, e9⟩:=zk e8
  obtain ⟨rfl, e10⟩:=jj e9
  cases k with
  | zero=>cases e10
  | succ k=>
   exact jr wide_ok tab_ok (hC k rfl) Tryz.func51 (by kernel_rfl:Tryz.f51.body = some qf.c.code) (by decide) (by kernel_rfl:Tryz.f51.results.toList = qf.res) (by kernel_rfl:icOk T Tryz.f51.ntmps qf.c = true) R hX0 hv (Nat.le_of_ble_eq_true rfl) ((congrFun (qf.ok k _ _ _ _ κ) h).trans e10)
theorem qy.call (k:Nat) (hC:∀ j, k = j + 1->jb Tryz.prog T base w0 (env (α:=α) j)):FnOk Tryz.prog T base w0 (env (α:=α) k) 31:=by
 intro X ι h w args xs κ out hX0 R hv e
 have e:env_31 k args κ h = some out:=e
 unfold env_31 at e
 match args, hv, e with
 | [a0, a1], hv, e=>
  obtain ⟨_, rfl, e1⟩:=jf e
  obtain ⟨_, _, rfl, e2⟩:=ze e1
  obtain ⟨_, rfl, e3⟩:=zk e2
  obtain ⟨_, _, rfl, e4⟩:=ze e3
  obtain ⟨_, rfl, e5⟩:=zk e4
  obtain ⟨_, _, rfl, e6⟩:=ze e5
  obtain ⟨_, rfl, e7⟩:=zk e6
  obtain ⟨_, _, rfl, e8⟩:=ze e7
  obtain ⟨_, rfl, e9⟩:=zk e8
  obtain ⟨rfl, e10⟩:=jj e9
  obtain ⟨_, rfl, e11⟩:=zk e10
  cases k with
  | zero=>cases e11
  | succ k=>
   exact jr wide_ok tab_ok (hC k rfl) Tryz.func31 (by kernel_rfl:Tryz.f31.body = some qy.c.code) (by decide) (by kernel_rfl:Tryz.f31.results.toList = qy.res) (by kernel_rfl:icOk T Tryz.f31.ntmps qy.c = true) R hX0 hv (Nat.le_of_ble_eq_true rfl) ((congrFun (qy.ok k _ _ _ _ _ κ) h).trans e11)
theorem qm.call (k:Nat) (hC:∀ j, k = j + 1->jb Tryz.prog T base w0 (env (α:=α) j)):FnOk Tryz.prog T base w0 (env (α:=α) k) 52:=by
 intro X ι h w args xs κ out hX0 R hv e
 have e:env_52 k args κ h = some out:=e
 unfold env_52 at e
 match args, hv, e with
 | [a0], hv, e=>
  obtain ⟨_, rfl, e1⟩:=jm e
  cases k with
  | zero=>cases e1
  | succ k=>
   exact jr wide_ok tab_ok (hC k rfl) Tryz.func52 (by kernel_rfl:Tryz.f52.body = some qm.c.code) (by decide) (by kernel_rfl:Tryz.f52.results.toList = qm.res) (by kernel_rfl:icOk T Tryz.f52.ntmps qm.c = true) R hX0 hv (Nat.le_of_ble_eq_true rfl) ((congrFun (qm.ok k _ κ) h).trans e1)
theorem qg.call (k:Nat) (hC:∀ j, k = j + 1->jb Tryz.prog T base w0 (env (α:=α) j)):FnOk Tryz.prog T base w0 (env (α:=α) k) 48:=by
 intro X ι h w args xs κ out hX0 R hv e
 have e:env_48 k args κ h = some out:=e
 unfold env_48 at e
 match args, hv, e with
 | [a0, a1], hv, e=>
  obtain ⟨_, rfl, e1⟩:=jf e
  obtain ⟨_, _, rfl, e2⟩:=ze e1
  obtain ⟨_, rfl, e3⟩:=jm e2
  obtain ⟨_, _, rfl, e4⟩:=ze e3
  obtain ⟨_, rfl, e5⟩:=jm e4
  obtain ⟨_, _, rfl, e6⟩:=ze e5
  obtain ⟨_, rfl, e7⟩:=jm e6
  obtain ⟨rfl, e8⟩:=jj e7
  obtain ⟨_, rfl, e9⟩:=jf e8
  obtain ⟨_, _, rfl, e10⟩:=ze e9
  obtain ⟨_, rfl, e11⟩:=zk e10
  obtain ⟨_, _, rfl, e12⟩:=ze e11
  obtain ⟨_, rfl, e13⟩:=zk e12
  obtain ⟨_, _, rfl, e14⟩:=ze e13
  obtain ⟨_, rfl, e15⟩:=zk e14
  obtain ⟨_, _, rfl, e16⟩:=ze e15
  obtain ⟨_, rfl, e17⟩:=zk e16
  obtain ⟨rfl, e18⟩:=jj e17
  cases k with
  | zero=>cases e18
  | succ k=>
   exact jr wide_ok tab_ok (hC k rfl) Tryz.func48 (by kernel_rfl:Tryz.f48.body = some qg.c.code) (by decide) (by kernel_rfl:Tryz.f48.results.toList = qg.res) (by kernel_rfl:icOk T Tryz.f48.ntmps qg.c = true) R hX0 hv (Nat.le_of_ble_eq_true rfl) ((congrFun (qg.ok k _ _ _ _ _ _ _ κ) h).trans e18)
theorem qp.call (k:Nat) (hC:∀ j, k = j + 1->jb Tryz.prog T base w0 (env (α:=α) j)):FnOk Tryz.prog T base w0 (env (α:=α) k) 49:=by
 intro X ι h w args xs κ out hX0 R hv e
 have e:env_49 k args κ h = some out:=e
 unfold env_49 at e
 match args, hv, e with
 | [a0], hv, e=>
  obtain ⟨_, rfl, e1⟩:=jf e
  obtain ⟨_, _, rfl, e2⟩:=ze e1
  obtain ⟨_, rfl, e3⟩:=zk e2
  obtain ⟨_, _, rfl, e4⟩:=ze e3
  obtain ⟨_, rfl, e5⟩:=zk e4
  obtain ⟨_, _, rfl, e6⟩:=ze e5
  obtain ⟨_, rfl, e7⟩:=zk e6
  obtain ⟨_, _, rfl, e8⟩:=ze e7
  obtain ⟨_, rfl, e9⟩:=zk e8
  obtain ⟨rfl, e10⟩:=jj e9
  cases k with
  | zero=>cases e10
  | succ k=>
   exact jr wide_ok tab_ok (hC k rfl) Tryz.func49 (by kernel_rfl:Tryz.f49.body = some qp.c.code) (by decide) (by kernel_rfl:Tryz.f49.results.toList = qp.res) (by kernel_rfl:icOk T Tryz.f49.ntmps qp.c = true) R hX0 hv (Nat.le_of_ble_eq_true rfl) ((congrFun (qp.ok k _ _ _ _ κ) h).trans e10)
theorem qj.call (k:Nat) (hC:∀ j, k = j + 1->jb Tryz.prog T base w0 (env (α:=α) j)):FnOk Tryz.prog T base w0 (env (α:=α) k) 22:=by
 intro X ι h w args xs κ out hX0 R hv e
 have e:env_22 k args κ h = some out:=e
 unfold env_22 at e
 match args, hv, e with
 | [a0, a1], hv, e=>
  obtain ⟨_, rfl, e1⟩:=jf e
  obtain ⟨_, _, rfl, e2⟩:=ze e1
  obtain ⟨_, rfl, e3⟩:=zk e2
  obtain ⟨_, _, rfl, e4⟩:=ze e3
  obtain ⟨_, rfl, e5⟩:=zk e4
  obtain ⟨_, _, rfl, e6⟩:=ze e5
  obtain ⟨_, rfl, e7⟩:=zk e6
  obtain ⟨_, _, rfl, e8⟩:=ze e7
  obtain ⟨_, rfl, e9⟩:=zk e8
  obtain ⟨rfl, e10⟩:=jj e9
  obtain ⟨_, rfl, e11⟩:=jf e10
  obtain ⟨_, _, rfl, e12⟩:=ze e11
  obtain ⟨_, rfl, e13⟩:=zk e12
  obtain ⟨_, _, rfl, e14⟩:=ze e13
  obtain ⟨_, rfl, e15⟩:=zk e14
  obtain ⟨_, _, rfl, e16⟩:=ze e15
  obtain ⟨_, rfl, e17⟩:=zk e16
  obtain ⟨_, _, rfl, e18⟩:=ze e17
  obtain ⟨_, rfl, e19⟩:=zk e18
  obtain ⟨rfl, e20⟩:=jj e19
  cases k with
  | zero=>cases e20
  | succ k=>
   exact jr wide_ok tab_ok (hC k rfl) Tryz.func22 (by kernel_rfl:Tryz.f22.body = some qj.c.code) (by decide) (by kernel_rfl:Tryz.f22.results.toList = qj.res) (by kernel_rfl:icOk T Tryz.f22.ntmps qj.c = true) R hX0 hv (Nat.le_of_ble_eq_true rfl) ((congrFun (qj.ok k _ _ _ _ _ _ _ _ κ) h).trans e20)
theorem qw.call (k:Nat) (hC:∀ j, k = j + 1->jb Tryz.prog T base w0 (env (α:=α) j)):FnOk Tryz.prog T base w0 (env (α:=α) k) 21:=by
 intro X ι h w args xs κ out hX0 R hv e
 have e:env_21 k args κ h = some out:=e
 unfold env_21 at e
 match args, hv, e with
 | [a0, a1], hv, e=>
  obtain ⟨_, rfl, e1⟩:=jf e
  obtain ⟨_, _, rfl, e2⟩:=ze e1
  obtain ⟨_, rfl, e3⟩:=zk e2
  obtain ⟨_, _, rfl, e4⟩:=ze e3
  obtain ⟨_, rfl, e5⟩:=zk e4
  obtain ⟨_, _, rfl, e6⟩:=ze e5
  obtain ⟨_, rfl, e7⟩:=zk e6
  obtain ⟨_, _, rfl, e8⟩:=ze e7
  obtain ⟨_, rfl, e9⟩:=zk e8
  obtain ⟨rfl, e10⟩:=jj e9
  obtain ⟨_, rfl, e11⟩:=zk e10
  cases k with
  | zero=>cases e11
  | succ k=>
   exact jr wide_ok tab_ok (hC k rfl) Tryz.func21 (by kernel_rfl:Tryz.f21.body = some qw.c.code) (by decide) (by kernel_rfl:Tryz.f21.results.toList = qw.res) (by kernel_rfl:icOk T Tryz.f21.ntmps qw.c = true) R hX0 hv (Nat.le_of_ble_eq_true rfl) ((congrFun (qw.ok k _ _ _ _ _ κ) h).trans e11)
theorem qa.call (k:Nat) (hC:∀ j, k = j + 1->jb Tryz.prog T base w0 (env (α:=α) j)):FnOk Tryz.prog T base w0 (env (α:=α) k) 50:=by
 intro X ι h w args xs κ out hX0 R hv e
 have e:env_50 k args κ h = some out:=e
 unfold env_50 at e
 match args, hv, e with
 | [a0, a1, a2, a3], hv, e=>
  obtain ⟨_, rfl, e1⟩:=jf e
  obtain ⟨_, _, rfl, e2⟩:=ze e1
  obtain ⟨_, rfl, e3⟩:=jm e2
  obtain ⟨_, _, rfl, e4⟩:=ze e3
  obtain ⟨_, rfl, e5⟩:=jm e4
  obtain ⟨_, _, rfl, e6⟩:=ze e5
  obtain ⟨_, rfl, e7⟩:=jm e6
  obtain ⟨rfl, e8⟩:=jj e7
  obtain ⟨_, rfl, e9⟩:=jf e8
  obtain ⟨_, _, rfl, e10⟩:=ze e9
  obtain ⟨_, rfl, e11⟩:=zk e10
  obtain ⟨_, _, rfl, e12⟩:=ze e11
  obtain ⟨_, rfl, e13⟩:=zk e12
  obtain ⟨_, _, rfl, e14⟩:=ze e13
  obtain ⟨_, rfl, e15⟩:=zk e14
  obtain ⟨_, _, rfl, e16⟩:=ze e15
  obtain ⟨_, rfl, e17⟩:=zk e16
  obtain ⟨rfl, e18⟩:=jj e17
  obtain ⟨_, rfl, e19⟩:=zk e18
  obtain ⟨_, rfl, e20⟩:=jf e19
  obtain ⟨_, _, rfl, e21⟩:=ze e20
  obtain ⟨_, rfl, e22⟩:=zk e21
  obtain ⟨_, _, rfl, e23⟩:=ze e22
  obtain ⟨_, rfl, e24⟩:=zk e23
  obtain ⟨_, _, rfl, e25⟩:=ze e24
  obtain ⟨_, rfl, e26⟩:=zk e25
  obtain ⟨_, _, rfl, e27⟩:=ze e26
  obtain ⟨_, rfl, e28⟩:=zk e27
  obtain ⟨rfl, e29⟩:=jj e28
  cases k with
  | zero=>cases e29
  | succ k=>
   exact jr wide_ok tab_ok (hC k rfl) Tryz.func50 (by kernel_rfl:Tryz.f50.body = some qa.c.code) (by decide) (by kernel_rfl:Tryz.f50.results.toList = qa.res) (by kernel_rfl:icOk T Tryz.f50.ntmps qa.c = true) R hX0 hv (Nat.le_of_ble_eq_true rfl) ((congrFun (qa.ok k _ _ _ _ _ _ _ _ _ _ _ _ κ) h).trans e29)
theorem qk.call (k:Nat) (hC:∀ j, k = j + 1->jb Tryz.prog T base w0 (env (α:=α) j)):FnOk Tryz.prog T base w0 (env (α:=α) k) 20:=by
 intro X ι h w args xs κ out hX0 R hv e
 have e:env_20 k args κ h = some out:=e
 unfold env_20 at e
 match args, hv, e with
 | [a0, a1], hv, e=>
  obtain ⟨_, rfl, e1⟩:=jf e
  obtain ⟨_, _, rfl, e2⟩:=ze e1
  obtain ⟨_, rfl, e3⟩:=zk e2
  obtain ⟨_, _, rfl, e4⟩:=ze e3
  obtain ⟨_, rfl, e5⟩:=zk e4
  obtain ⟨_, _, rfl, e6⟩:=ze e5
  obtain ⟨_, rfl, e7⟩:=zk e6
  obtain ⟨_, _, rfl, e8⟩:=ze e7
  obtain ⟨_, rfl, e9⟩:=zk e8
  obtain ⟨rfl, e10⟩:=jj e9
  obtain ⟨_, rfl, e11⟩:=jf e10
  obtain ⟨_, _, rfl, e12⟩:=ze e11
  obtain ⟨_, rfl, e13⟩:=zk e12
  obtain ⟨_, _, rfl, e14⟩:=ze e13
  obtain ⟨_, rfl, e15⟩:=zk e14
  obtain ⟨_, _, rfl, e16⟩:=ze e15
  obtain ⟨_, rfl, e17⟩:=zk e16
  obtain ⟨_, _, rfl, e18⟩:=ze e17
  obtain ⟨_, rfl, e19⟩:=zk e18
  obtain ⟨rfl, e20⟩:=jj e19
  cases k with
  | zero=>cases e20
  | succ k=>
   exact jr wide_ok tab_ok (hC k rfl) Tryz.func20 (by kernel_rfl:Tryz.f20.body = some qk.c.code) (by decide) (by kernel_rfl:Tryz.f20.results.toList = qk.res) (by kernel_rfl:icOk T Tryz.f20.ntmps qk.c = true) R hX0 hv (Nat.le_of_ble_eq_true rfl) ((congrFun (qk.ok k _ _ _ _ _ _ _ _ κ) h).trans e20)
theorem qs.call (k:Nat) (hC:∀ j, k = j + 1->jb Tryz.prog T base w0 (env (α:=α) j)):FnOk Tryz.prog T base w0 (env (α:=α) k) 46:=by
 intro X ι h w args xs κ out hX0 R hv e
 have e:env_46 k args κ h = some out:=e
 unfold env_46 at e
 match args, hv, e with
 | [a0, a1, a2], hv, e=>
  obtain ⟨_, rfl, e1⟩:=zk e
  obtain ⟨_, rfl, e2⟩:=jm e1
  obtain ⟨_, rfl, e3⟩:=jz e2
  obtain ⟨_, rfl, e4⟩:=jk e3
  cases k with
  | zero=>cases e4
  | succ k=>
   exact jr wide_ok tab_ok (hC k rfl) Tryz.func46 (by kernel_rfl:Tryz.f46.body = some qs.c.code) (by decide) (by kernel_rfl:Tryz.f46.results.toList = qs.res) (by kernel_rfl:icOk T Tryz.f46.ntmps qs.c = true) R hX0 hv (Nat.le_of_ble_eq_true rfl) ((congrFun (qs.ok k _ _ _ κ) h).trans e4)
theorem ql.call (k:Nat) (hC:∀ j, k = j + 1->jb Tryz.prog T base w0 (env (α:=α) j)):FnOk Tryz.prog T base w0 (env (α:=α) k) 53:=by
 intro X ι h w args xs κ out hX0 R hv e
 have e:env_53 k args κ h = some out:=e
 unfold env_53 at e
 match args, hv, e with
 | [a0, a1], hv, e=>
  obtain ⟨_, rfl, e1⟩:=jf e
  obtain ⟨_, _, rfl, e2⟩:=ze e1
  obtain ⟨_, rfl, e3⟩:=zk e2
  obtain ⟨_, _, rfl, e4⟩:=ze e3
  obtain ⟨_, rfl, e5⟩:=zk e4
  obtain ⟨_, _, rfl, e6⟩:=ze e5
  obtain ⟨_, rfl, e7⟩:=zk e6
  obtain ⟨_, _, rfl, e8⟩:=ze e7
  obtain ⟨_, rfl, e9⟩:=zk e8
  obtain ⟨rfl, e10⟩:=jj e9
  obtain ⟨_, rfl, e11⟩:=jf e10
  obtain ⟨_, _, rfl, e12⟩:=ze e11
  obtain ⟨_, rfl, e13⟩:=zk e12
  obtain ⟨_, _, rfl, e14⟩:=ze e13
  obtain ⟨_, rfl, e15⟩:=zk e14
  obtain ⟨_, _, rfl, e16⟩:=ze e15
  obtain ⟨_, rfl, e17⟩:=zk e16
  obtain ⟨_, _, rfl, e18⟩:=ze e17
  obtain ⟨_, rfl, e19⟩:=zk e18
  obtain ⟨rfl, e20⟩:=jj e19
  cases k with
  | zero=>cases e20
  | succ k=>
   exact jr wide_ok tab_ok (hC k rfl) Tryz.func53 (by kernel_rfl:Tryz.f53.body = some ql.c.code) (by decide) (by kernel_rfl:Tryz.f53.results.toList = ql.res) (by kernel_rfl:icOk T Tryz.f53.ntmps ql.c = true) R hX0 hv (Nat.le_of_ble_eq_true rfl) ((congrFun (ql.ok k _ _ _ _ _ _ _ _ κ) h).trans e20)
theorem qd.call (k:Nat) (hC:∀ j, k = j + 1->jb Tryz.prog T base w0 (env (α:=α) j)):FnOk Tryz.prog T base w0 (env (α:=α) k) 47:=by
 intro X ι h w args xs κ out hX0 R hv e
 have e:env_47 k args κ h = some out:=e
 unfold env_47 at e
 match args, hv, e with
 | [a0, a1, a2, a3, a4, a5, a6, a7], hv, e=>
  obtain ⟨_, rfl, e1⟩:=jf e
  obtain ⟨_, _, rfl, e2⟩:=ze e1
  obtain ⟨_, rfl, e3⟩:=zk e2
  obtain ⟨_, _, rfl, e4⟩:=ze e3
  obtain ⟨_, rfl, e5⟩:=zk e4
  obtain ⟨_, _, rfl, e6⟩:=ze e5
  obtain ⟨_, rfl, e7⟩:=zk e6
  obtain ⟨_, _, rfl, e8⟩:=ze e7
  obtain ⟨_, rfl, e9⟩:=zk e8
  obtain ⟨rfl, e10⟩:=jj e9
  obtain ⟨_, rfl, e11⟩:=zk e10
  obtain ⟨_, rfl, e12⟩:=jz e11
  obtain ⟨_, rfl, e13⟩:=jk e12
  obtain ⟨_, rfl, e14⟩:=jz e13
  obtain ⟨_, rfl, e15⟩:=jk e14
  obtain ⟨_, rfl, e16⟩:=jz e15
  obtain ⟨_, rfl, e17⟩:=jk e16
  obtain ⟨_, rfl, e18⟩:=jz e17
  obtain ⟨_, rfl, e19⟩:=jk e18
  obtain ⟨_, rfl, e20⟩:=jz e19
  obtain ⟨_, rfl, e21⟩:=jk e20
  obtain ⟨_, rfl, e22⟩:=jz e21
  obtain ⟨_, rfl, e23⟩:=jk e22
  cases k with
  | zero=>cases e23
  | succ k=>
   exact jr wide_ok tab_ok (hC k rfl) Tryz.func47 (by kernel_rfl:Tryz.f47.body = some qd.c.code) (by decide) (by kernel_rfl:Tryz.f47.results.toList = qd.res) (by kernel_rfl:icOk T Tryz.f47.ntmps qd.c = true) R hX0 hv (Nat.le_of_ble_eq_true rfl) ((congrFun (qd.ok k _ _ _ _ _ _ _ _ _ _ _ κ) h).trans e23)
theorem qc.call (k:Nat) (hC:∀ j, k = j + 1->jb Tryz.prog T base w0 (env (α:=α) j)):FnOk Tryz.prog T base w0 (env (α:=α) k) 13:=by
 intro X ι h w args xs κ out hX0 R hv e
 have e:env_13 k args κ h = some out:=e
 unfold env_13 at e
 match args, hv, e with
 | [a0], hv, e=>
  obtain ⟨_, rfl, e1⟩:=jf e
  obtain ⟨_, _, rfl, e2⟩:=ze e1
  obtain ⟨_, rfl, e3⟩:=jm e2
  obtain ⟨_, _, rfl, e4⟩:=ze e3
  obtain ⟨_, rfl, e5⟩:=jm e4
  obtain ⟨_, _, rfl, e6⟩:=ze e5
  obtain ⟨_, rfl, e7⟩:=jm e6
  obtain ⟨rfl, e8⟩:=jj e7
  cases k with
  | zero=>cases e8
  | succ k=>
   exact jr wide_ok tab_ok (hC k rfl) Tryz.func13 (by kernel_rfl:Tryz.f13.body = some qc.c.code) (by decide) (by kernel_rfl:Tryz.f13.results.toList = qc.res) (by kernel_rfl:icOk T Tryz.f13.ntmps qc.c = true) R hX0 hv (Nat.le_of_ble_eq_true rfl) ((congrFun (qc.ok k _ _ _ κ) h).trans e8)
theorem qz.call (k:Nat) (hC:∀ j, k = j + 1->jb Tryz.prog T base w0 (env (α:=α) j)):FnOk Tryz.prog T base w0 (env (α:=α) k) 54:=by
 intro X ι h w args xs κ out hX0 R hv e
 have e:env_54 k args κ h = some out:=e
 unfold env_54 at e
 match args, hv, e with
 | [a0], hv, e=>
  obtain ⟨_, rfl, e1⟩:=jm e
  cases k with
  | zero=>cases e1
  | succ k=>
   exact jr wide_ok tab_ok (hC k rfl) Tryz.func54 (by kernel_rfl:Tryz.f54.body = some qz.c.code) (by decide) (by kernel_rfl:Tryz.f54.results.toList = qz.res) (by kernel_rfl:icOk T Tryz.f54.ntmps qz.c = true) R hX0 hv (Nat.le_of_ble_eq_true rfl) ((congrFun (qz.ok k _ κ) h).trans e1)
theorem qh.call (k:Nat) (hC:∀ j, k = j + 1->jb Tryz.prog T base w0 (env (α:=α) j)):FnOk Tryz.prog T base w0 (env (α:=α) k) 14:=by
 intro X ι h w args xs κ out hX0 R hv e
 have e:env_14 k args κ h = some out:=e
 unfold env_14 at e
 match args, hv, e with
 | [a0], hv, e=>
  obtain ⟨_, rfl, e1⟩:=jf e
  obtain ⟨_, _, rfl, e2⟩:=ze e1
  obtain ⟨_, rfl, e3⟩:=jm e2
  obtain ⟨_, _, rfl, e4⟩:=ze e3
  obtain ⟨_, rfl, e5⟩:=jm e4
  obtain ⟨_, _, rfl, e6⟩:=ze e5
  obtain ⟨_, rfl, e7⟩:=jm e6
  obtain ⟨rfl, e8⟩:=jj e7
  cases k with
  | zero=>cases e8
  | succ k=>
   exact jr wide_ok tab_ok (hC k rfl) Tryz.func14 (by kernel_rfl:Tryz.f14.body = some qh.c.code) (by decide) (by kernel_rfl:Tryz.f14.results.toList = qh.res) (by kernel_rfl:icOk T Tryz.f14.ntmps qh.c = true) R hX0 hv (Nat.le_of_ble_eq_true rfl) ((congrFun (qh.ok k _ _ _ κ) h).trans e8)
theorem qu.call (k:Nat) (hC:∀ j, k = j + 1->jb Tryz.prog T base w0 (env (α:=α) j)):FnOk Tryz.prog T base w0 (env (α:=α) k) 15:=by
 intro X ι h w args xs κ out hX0 R hv e
 have e:env_15 k args κ h = some out:=e
 unfold env_15 at e
 match args, hv, e with
 | [a0], hv, e=>
  obtain ⟨_, rfl, e1⟩:=jm e
  cases k with
  | zero=>cases e1
  | succ k=>
   exact jr wide_ok tab_ok (hC k rfl) Tryz.func15 (by kernel_rfl:Tryz.f15.body = some qu.c.code) (by decide) (by kernel_rfl:Tryz.f15.results.toList = qu.res) (by kernel_rfl:icOk T Tryz.f15.ntmps qu.c = true) R hX0 hv (Nat.le_of_ble_eq_true rfl) ((congrFun (qu.ok k _ κ) h).trans e1)
theorem qaa.call (k:Nat) (hC:∀ j, k = j + 1->jb Tryz.prog T base w0 (env (α:=α) j)):FnOk Tryz.prog T base w0 (env (α:=α) k) 16:=by
 intro X ι h w args xs κ out hX0 R hv e
 have e:env_16 k args κ h = some out:=e
 unfold env_16 at e
 match args, hv, e with
 | [a0, a1], hv, e=>
  obtain ⟨_, rfl, e1⟩:=jf e
  obtain ⟨_, _, rfl, e2⟩:=ze e1
  obtain ⟨_, rfl, e3⟩:=zk e2
  obtain ⟨_, _, rfl, e4⟩:=ze e3
  obtain ⟨_, rfl, e5⟩:=zk e4
  obtain ⟨_, _, rfl, e6⟩:=ze e5
  obtain ⟨_, rfl, e7⟩:=zk e6
  obtain ⟨_, _, rfl, e8⟩:=ze e7
  obtain ⟨_, rfl, e9⟩:=zk e8
  obtain ⟨rfl, e10⟩:=jj e9
  obtain ⟨_, rfl, e11⟩:=jf e10
  obtain ⟨_, _, rfl, e12⟩:=ze e11
  obtain ⟨_, rfl, e13⟩:=zk e12
  obtain ⟨_, _, rfl, e14⟩:=ze e13
  obtain ⟨_, rfl, e15⟩:=zk e14
  obtain ⟨_, _, rfl, e16⟩:=ze e15
  obtain ⟨_, rfl, e17⟩:=zk e16
  obtain ⟨_, _, rfl, e18⟩:=ze e17
  obtain ⟨_, rfl, e19⟩:=zk e18
  obtain ⟨rfl, e20⟩:=jj e19
  cases k with
  | zero=>cases e20
  | succ k=>
   exact jr wide_ok tab_ok (hC k rfl) Tryz.func16 (by kernel_rfl:Tryz.f16.body = some qaa.c.code) (by decide) (by kernel_rfl:Tryz.f16.results.toList = qaa.res) (by kernel_rfl:icOk T Tryz.f16.ntmps qaa.c = true) R hX0 hv (Nat.le_of_ble_eq_true rfl) ((congrFun (qaa.ok k _ _ _ _ _ _ _ _ κ) h).trans e20)
theorem qv.call (k:Nat) (hC:∀ j, k = j + 1->jb Tryz.prog T base w0 (env (α:=α) j)):FnOk Tryz.prog T base w0 (env (α:=α) k) 4:=by
 intro X ι h w args xs κ out hX0 R hv e
 have e:env_4 k args κ h = some out:=e
 unfold env_4 at e
 match args, hv, e with
 | [a0, a1], hv, e=>
  obtain ⟨_, rfl, e1⟩:=jf e
  obtain ⟨_, _, rfl, e2⟩:=ze e1
  obtain ⟨_, rfl, e3⟩:=jm e2
  obtain ⟨_, _, rfl, e4⟩:=ze e3
  obtain ⟨_, rfl, e5⟩:=jm e4
  obtain ⟨_, _, rfl, e6⟩:=ze e5
  obtain ⟨_, rfl, e7⟩:=jm e6
  obtain ⟨rfl, e8⟩:=jj e7
  obtain ⟨_, rfl, e9⟩:=zk e8
  cases k with
  | zero=>cases e9
  | succ k=>
   exact jr wide_ok tab_ok (hC k rfl) Tryz.func4 (by kernel_rfl:Tryz.f4.body = some qv.c.code) (by decide) (by kernel_rfl:Tryz.f4.results.toList = qv.res) (by kernel_rfl:icOk T Tryz.f4.ntmps qv.c = true) R hX0 hv (Nat.le_of_ble_eq_true rfl) ((congrFun (qv.ok k _ _ _ _ κ) h).trans e9)
end
end Go.Ab.S9
