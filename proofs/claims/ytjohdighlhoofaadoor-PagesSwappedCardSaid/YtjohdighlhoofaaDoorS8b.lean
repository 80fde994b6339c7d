import Derived.Test.YtjohdighlhoofaaDoorAb15
import Derived.Test.YtjohdighlhoofaaDoorAb14
import Derived.Recover
import Derived.Test.YtjohdighlhoofaaDoorS8a
set_option linter.unusedVariables false
set_option linter.unusedSimpArgs false
namespace Go.Ab.S8
section
variable {α:Type}
open Go.Proofs
variable {base:Nat} {w0:World}
theorem wide_ok:Tryd.prog.follows .mixedOrders = true:=by kernel_rfl
theorem ti2 {i:TI} (h:ti 2 = some i):TIOk Tryd.prog 2 i:=by
 cases h
 exact TIOk.of 158 Tryd.underlying2 Tryd.type2 rfl rfl rfl rfl rfl rfl rfl rfl rfl Tryd.types_size rfl (nofun)
theorem ti3 {i:TI} (h:ti 3 = some i):TIOk Tryd.prog 3 i:=by
 cases h
 exact TIOk.of 158 Tryd.underlying3 Tryd.type3 rfl rfl rfl rfl rfl rfl rfl rfl rfl Tryd.types_size rfl (nofun)
theorem ti5 {i:TI} (h:ti 5 = some i):TIOk Tryd.prog 5 i:=by
 cases h
 exact TIOk.of 158 Tryd.underlying5 Tryd.type5 rfl rfl rfl rfl rfl rfl rfl rfl rfl Tryd.types_size rfl (nofun)
theorem ti9 {i:TI} (h:ti 9 = some i):TIOk Tryd.prog 9 i:=by
 cases h
 exact TIOk.of 158 Tryd.underlying9 Tryd.type9 rfl rfl rfl rfl rfl rfl rfl rfl rfl Tryd.types_size rfl (nofun)
theorem ti22 {i:TI} (h:ti 22 = some i):TIOk Tryd.prog 22 i:=by
 cases h
 exact TIOk.of 158 Tryd.underlying22 Tryd.type22 rfl rfl rfl rfl rfl rfl rfl rfl rfl Tryd.types_size rfl (nofun)
theorem ti23 {i:TI} (h:ti 23 = some i):TIOk Tryd.prog 23 i:=by
 cases h
 exact TIOk.of 158 Tryd.underlying23 Tryd.type23 rfl rfl rfl rfl rfl rfl rfl rfl rfl Tryd.types_size rfl (nofun)
theorem ti25 {i:TI} (h:ti 25 = some i):TIOk Tryd.prog 25 i:=by
 cases h
 exact TIOk.of 158 Tryd.underlying25 Tryd.type25 rfl rfl rfl rfl rfl rfl rfl rfl trivial Tryd.types_size rfl (nofun)
theorem ti32 {i:TI} (h:ti 32 = some i):TIOk Tryd.prog 32 i:=by
 cases h
 exact TIOk.of 158 Tryd.underlying32 Tryd.type32 rfl rfl rfl rfl rfl rfl rfl rfl rfl Tryd.types_size rfl (nofun)
theorem ti35 {i:TI} (h:ti 35 = some i):TIOk Tryd.prog 35 i:=by
 cases h
 exact TIOk.of 158 Tryd.underlying35 Tryd.type35 rfl rfl rfl rfl rfl rfl rfl rfl rfl Tryd.types_size rfl (nofun)
theorem ti42 {i:TI} (h:ti 42 = some i):TIOk Tryd.prog 42 i:=by
 cases h
 exact TIOk.of 158 Tryd.underlying42 Tryd.type42 rfl rfl rfl rfl rfl rfl rfl rfl rfl Tryd.types_size rfl (nofun)
theorem ti47 {i:TI} (h:ti 47 = some i):TIOk Tryd.prog 47 i:=by
 cases h
 exact TIOk.of 158 Tryd.underlying47 Tryd.type47 rfl rfl rfl rfl rfl rfl rfl rfl rfl Tryd.types_size rfl (nofun)
theorem ti52 {i:TI} (h:ti 52 = some i):TIOk Tryd.prog 52 i:=by
 cases h
 exact TIOk.of 158 Tryd.underlying52 Tryd.type52 rfl rfl rfl rfl rfl rfl rfl rfl rfl Tryd.types_size rfl (nofun)
theorem ti56 {i:TI} (h:ti 56 = some i):TIOk Tryd.prog 56 i:=by
 cases h
 exact TIOk.of 158 Tryd.underlying56 Tryd.type56 rfl rfl rfl rfl rfl rfl rfl rfl rfl Tryd.types_size rfl (nofun)
theorem ti58 {i:TI} (h:ti 58 = some i):TIOk Tryd.prog 58 i:=by
 cases h
 exact TIOk.of 158 Tryd.underlying58 Tryd.type58 rfl rfl rfl rfl rfl rfl rfl rfl trivial Tryd.types_size rfl (nofun)
theorem ti68 {i:TI} (h:ti 68 = some i):TIOk Tryd.prog 68 i:=by
 cases h
 exact TIOk.of 158 Tryd.underlying68 Tryd.type68 rfl rfl rfl rfl rfl rfl rfl rfl trivial Tryd.types_size rfl (fun _=>zfv Tryd.underlying68 Tryd.stoodInHeld68 Tryd.eqGuardType68 ⟨by decide, rfl, Tryd.underlying3, ⟨by decide, rfl, Tryd.underlying3, ⟨by decide, rfl, Tryd.underlying9, ⟨by decide, rfl, Tryd.underlying3, trivial⟩⟩⟩⟩)
theorem ti71 {i:TI} (h:ti 71 = some i):TIOk Tryd.prog 71 i:=by
 cases h
 exact TIOk.of 158 Tryd.underlying71 Tryd.type71 rfl rfl rfl rfl rfl rfl rfl rfl rfl Tryd.types_size rfl (nofun)
theorem ti73 {i:TI} (h:ti 73 = some i):TIOk Tryd.prog 73 i:=by
 cases h
 exact TIOk.of 158 Tryd.underlying73 Tryd.type73 rfl rfl rfl rfl rfl rfl rfl rfl trivial Tryd.types_size rfl (fun _=>zfv Tryd.underlying73 Tryd.stoodInHeld73 Tryd.eqGuardType73 ⟨by decide, rfl, Tryd.underlying3, ⟨by decide, rfl, Tryd.underlying35, trivial⟩⟩)
theorem ti90 {i:TI} (h:ti 90 = some i):TIOk Tryd.prog 90 i:=by
 cases h
 exact TIOk.of 158 Tryd.underlying90 Tryd.type90 rfl rfl rfl rfl rfl rfl rfl rfl rfl Tryd.types_size rfl (nofun)
theorem ti113 {i:TI} (h:ti 113 = some i):TIOk Tryd.prog 113 i:=by
 cases h
 exact TIOk.of 158 Tryd.underlying113 Tryd.type113 rfl rfl rfl rfl rfl rfl rfl rfl trivial Tryd.types_size rfl (nofun)
theorem ti121 {i:TI} (h:ti 121 = some i):TIOk Tryd.prog 121 i:=by
 cases h
 exact TIOk.of 158 Tryd.underlying121 Tryd.type121 rfl rfl rfl rfl rfl rfl rfl rfl rfl Tryd.types_size rfl (nofun)
theorem tab_ok:TabOk Tryd.prog T:=by
 refine ⟨fun t i h=>?_⟩
 by_cases h2:t = 2
 ·subst h2; exact ti2 h
 by_cases h3:t = 3
 ·subst h3; exact ti3 h
 by_cases h5:t = 5
 ·subst h5; exact ti5 h
 by_cases h9:t = 9
 ·subst h9; exact ti9 h
 by_cases h22:t = 22
 ·subst h22; exact ti22 h
 by_cases h23:t = 23
 ·subst h23; exact ti23 h
 by_cases h25:t = 25
 ·subst h25; exact ti25 h
 by_cases h32:t = 32
 ·subst h32; exact ti32 h
 by_cases h35:t = 35
 ·subst h35; exact ti35 h
 by_cases h42:t = 42
 ·subst h42; exact ti42 h
 by_cases h47:t = 47
 ·subst h47; exact ti47 h
 by_cases h52:t = 52
 ·subst h52; exact ti52 h
 by_cases h56:t = 56
 ·subst h56; exact ti56 h
 by_cases h58:t = 58
 ·subst h58; exact ti58 h
 by_cases h68:t = 68
 ·subst h68; exact ti68 h
 by_cases h71:t = 71
 ·subst h71; exact ti71 h
 by_cases h73:t = 73
 ·subst h73; exact ti73 h
 by_cases h90:t = 90
 ·subst h90; exact ti90 h
 by_cases h113:t = 113
 ·subst h113; exact ti113 h
 by_cases h121:t = 121
 ·subst h121; exact ti121 h
 have:ti t = none:=by
  unfold ti
  split <;> first | rfl | contradiction
 rw [show T.ti t = ti t from rfl, this] at h
 cases h
theorem qaa.call (k:Nat) (hC:∀ j, k = j + 1->zr Tryd.prog T base w0 (env (α:=α) j)):FnOk Tryd.prog T base w0 (env (α:=α) k) 51:=by
 intro X ι h w args xs κ out hX0 R hv e
 have e:env_51 k args κ h = some out:=e
 unfold env_51 at e
 match args, hv, e with
 | [a0, a1], hv, e=>
  obtain ⟨_, rfl, e1⟩:=yo e
  obtain ⟨_, rfl, e2⟩:=zy e1
  cases k with
  | zero=>cases e2
  | succ k=>
   exact jh wide_ok hX0 tab_ok (hC k rfl) Tryd.func51 (by kernel_rfl:Tryd.f51.body = some qaa.c.code) (by decide) (by kernel_rfl:Tryd.f51.results.toList = qaa.res) (by kernel_rfl:icOk T Tryd.f51.ntmps qaa.c = true) R (fun i h=>absurd h (hX0 i)) hv (Nat.le_of_ble_eq_true rfl) ((congrFun (qaa.ok k _ _ κ) h).trans e2)
theorem qz.call (k:Nat) (hC:∀ j, k = j + 1->zr Tryd.prog T base w0 (env (α:=α) j)):FnOk Tryd.prog T base w0 (env (α:=α) k) 40:=by
 intro X ι h w args xs κ out hX0 R hv e
 have e:env_40 k args κ h = some out:=e
 unfold env_40 at e
 match args, hv, e with
 | [a0, a1], hv, e=>
  obtain ⟨_, rfl, e1⟩:=yo e
  obtain ⟨_, rfl, e2⟩:=zy e1
  cases k with
  | zero=>cases e2
  | succ k=>
   exact jh wide_ok hX0 tab_ok (hC k rfl) Tryd.func40 (by kernel_rfl:Tryd.f40.body = some qz.c.code) (by decide) (by kernel_rfl:Tryd.f40.results.toList = qz.res) (by kernel_rfl:icOk T Tryd.f40.ntmps qz.c = true) R (fun i h=>absurd h (hX0 i)) hv (Nat.le_of_ble_eq_true rfl) ((congrFun (qz.ok k _ _ κ) h).trans e2)
theorem qw.call (k:Nat) (hC:∀ j, k = j + 1->zr Tryd.prog T base w0 (env (α:=α) j)):FnOk Tryd.prog T base w0 (env (α:=α) k) 52:=by
 intro X ι h w args xs κ out hX0 R hv e
 have e:env_52 k args κ h = some out:=e
 unfold env_52 at e
 match args, hv, e with
 | [a0], hv, e=>
  obtain ⟨_, rfl, e1⟩:=zy e
  cases k with
  | zero=>cases e1
  | succ k=>
   exact jh wide_ok hX0 tab_ok (hC k rfl) Tryd.func52 (by kernel_rfl:Tryd.f52.body = some qw.c.code) (by decide) (by kernel_rfl:Tryd.f52.results.toList = qw.res) (by kernel_rfl:icOk T Tryd.f52.ntmps qw.c = true) R (fun i h=>absurd h (hX0 i)) hv (Nat.le_of_ble_eq_true rfl) ((congrFun (qw.ok k _ κ) h).trans e1)
theorem qb.call (k:Nat) (hC:∀ j, k = j + 1->zr Tryd.prog T base w0 (env (α:=α) j)):FnOk Tryd.prog T base w0 (env (α:=α) k) 53:=by
 intro X ι h w args xs κ out hX0 R hv e
 have e:env_53 k args κ h = some out:=e
 unfold env_53 at e
 match args, hv, e with
 | [a0, a1], hv, e=>
  obtain ⟨_, rfl, e1⟩:=zy e
  obtain ⟨_, rfl, e2⟩:=yo e1
  cases k with
  | zero=>cases e2
  | succ k=>
   exact jh wide_ok hX0 tab_ok (hC k rfl) Tryd.func53 (by kernel_rfl:Tryd.f53.body = some qb.c.code) (by decide) (by kernel_rfl:Tryd.f53.results.toList = qb.res) (by kernel_rfl:icOk T Tryd.f53.ntmps qb.c = true) R (fun i h=>absurd h (hX0 i)) hv (Nat.le_of_ble_eq_true rfl) ((congrFun (qb.ok k _ _ κ) h).trans e2)
theorem qh.call (k:Nat) (hC:∀ j, k = j + 1->zr Tryd.prog T base w0 (env (α:=α) j)):FnOk Tryd.prog T base w0 (env (α:=α) k) 54:=by
 intro X ι h w args xs κ out hX0 R hv e
 have e:env_54 k args κ h = some out:=e
 unfold env_54 at e
 match args, hv, e with
 | [a0], hv, e=>
  obtain ⟨_, rfl, e1⟩:=yo e
  cases k with
  | zero=>cases e1
  | succ k=>
   exact jh wide_ok hX0 tab_ok (hC k rfl) Tryd.func54 (by kernel_rfl:Tryd.f54.body = some qh.c.code) (by decide) (by kernel_rfl:Tryd.f54.results.toList = qh.res) (by kernel_rfl:icOk T Tryd.f54.ntmps qh.c = true) R (fun i h=>absurd h (hX0 i)) hv (Nat.le_of_ble_eq_true rfl) ((congrFun (qh.ok k _ κ) h).trans e1)
theorem qx.call (k:Nat) (hC:∀ j, k = j + 1->zr Tryd.prog T base w0 (env (α:=α) j)):FnOk Tryd.prog T base w0 (env (α:=α) k) 41:=by
 intro X ι h w args xs κ out hX0 R hv e
 have e:env_41 k args κ h = some out:=e
 unfold env_41 at e
 match args, hv, e with
 | [a0, a1], hv, e=>
  obtain ⟨_, rfl, e1⟩:=yo e
  obtain ⟨_, rfl, e2⟩:=zy e1
  cases k with
  | zero=>cases e2
  | succ k=>
   exact jh wide_ok hX0 tab_ok (hC k rfl) Tryd.func41 (by kernel_rfl:Tryd.f41.body = some qx.c.code) (by decide) (by kernel_rfl:Tryd.f41.results.toList = qx.res) (by kernel_rfl:icOk T Tryd.f41.ntmps qx.c = true) R (fun i h=>absurd h (hX0 i)) hv (Nat.le_of_ble_eq_true rfl) ((congrFun (qx.ok k _ _ κ) h).trans e2)
theorem qi.call (k:Nat) (hC:∀ j, k = j + 1->zr Tryd.prog T base w0 (env (α:=α) j)):FnOk Tryd.prog T base w0 (env (α:=α) k) 25:=by
 intro X ι h w args xs κ out hX0 R hv e
 have e:env_25 k args κ h = some out:=e
 unfold env_25 at e
 match args, hv, e with
 | [a0], hv, e=>
  obtain ⟨_, rfl, e1⟩:=yo e
  cases k with
  | zero=>cases e1
  | succ k=>
   exact jh wide_ok hX0 tab_ok (hC k rfl) Tryd.func25 (by kernel_rfl:Tryd.f25.body = some qi.c.code) (by decide) (by kernel_rfl:Tryd.f25.results.toList = qi.res) (by kernel_rfl:icOk T Tryd.f25.ntmps qi.c = true) R (fun i h=>absurd h (hX0 i)) hv (Nat.le_of_ble_eq_true rfl) ((congrFun (qi.ok k _ κ) h).trans e1)
theorem qn.call (k:Nat) (hC:∀ j, k = j + 1->zr Tryd.prog T base w0 (env (α:=α) j)):FnOk Tryd.prog T base w0 (env (α:=α) k) 42:=by
 intro X ι h w args xs κ out hX0 R hv e
 have e:env_42 k args κ h = some out:=e
 unfold env_42 at e
 match args, hv, e with
 | [a0], hv, e=>
  obtain ⟨_, rfl, e1⟩:=yg e
  obtain ⟨_, rfl, e2⟩:=zz e1
  cases k with
  | zero=>cases e2
  | succ k=>
   exact jh wide_ok hX0 tab_ok (hC k rfl) Tryd.func42 (by kernel_rfl:Tryd.f42.body = some qn.c.code) (by decide) (by kernel_rfl:Tryd.f42.results.toList = qn.res) (by kernel_rfl:icOk T Tryd.f42.ntmps qn.c = true) R (fun i h=>absurd h (hX0 i)) hv (Nat.le_of_ble_eq_true rfl) ((congrFun (qn.ok k _ κ) h).trans e2)
theorem ql.call (k:Nat) (hC:∀ j, k = j + 1->zr Tryd.prog T base w0 (env (α:=α) j)):FnOk Tryd.prog T base w0 (env (α:=α) k) 26:=by
 intro X ι h w args xs κ out hX0 R hv e
 have e:env_26 k args κ h = some out:=e
 unfold env_26 at e
 match args, hv, e with
 | [a0], hv, e=>
  obtain ⟨_, rfl, e1⟩:=yg e
  obtain ⟨_, rfl, e2⟩:=zz e1
  cases k with
  | zero=>cases e2
  | succ k=>
   exact jh wide_ok hX0 tab_ok (hC k rfl) Tryd.func26 (by kernel_rfl:Tryd.f26.body = some ql.c.code) (by decide) (by kernel_rfl:Tryd.f26.results.toList = ql.res) (by kernel_rfl:icOk T Tryd.f26.ntmps ql.c = true) R (fun i h=>absurd h (hX0 i)) hv (Nat.le_of_ble_eq_true rfl) ((congrFun (ql.ok k _ κ) h).trans e2)
theorem qm.call (k:Nat) (hC:∀ j, k = j + 1->zr Tryd.prog T base w0 (env (α:=α) j)):FnOk Tryd.prog T base w0 (env (α:=α) k) 43:=by
 intro X ι h w args xs κ out hX0 R hv e
 have e:env_43 k args κ h = some out:=e
 unfold env_43 at e
 match args, hv, e with
 | [a0, a1], hv, e=>
  obtain ⟨_, rfl, e1⟩:=yg e
  obtain ⟨_, rfl, e2⟩:=zz e1
  obtain ⟨_, rfl, e3⟩:=zy e2
  cases k with
  | zero=>cases e3
  | succ k=>
   exact jh wide_ok hX0 tab_ok (hC k rfl) Tryd.func43 (by kernel_rfl:Tryd.f43.body = some qm.c.code) (by decide) (by kernel_rfl:Tryd.f43.results.toList = qm.res) (by kernel_rfl:icOk T Tryd.f43.ntmps qm.c = true) R (fun i h=>absurd h (hX0 i)) hv (Nat.le_of_ble_eq_true rfl) ((congrFun (qm.ok k _ _ κ) h).trans e3)
theorem qf.call (k:Nat) (hC:∀ j, k = j + 1->zr Tryd.prog T base w0 (env (α:=α) j)):FnOk Tryd.prog T base w0 (env (α:=α) k) 27:=by
 intro X ι h w args xs κ out hX0 R hv e
 have e:env_27 k args κ h = some out:=e
 unfold env_27 at e
 match args, hv, e with
 | [a0, a1, a2], hv, e=>
  obtain ⟨_, rfl, e1⟩:=yg e
  obtain ⟨_, rfl, e2⟩:=zz e1
  obtain ⟨_, rfl, e3⟩:=zy e2
  obtain ⟨_, rfl, e4⟩:=yo e3
  cases k with
  | zero=>cases e4
  | succ k=>
   exact jh wide_ok hX0 tab_ok (hC k rfl) Tryd.func27 (by kernel_rfl:Tryd.f27.body = some qf.c.code) (by decide) (by kernel_rfl:Tryd.f27.results.toList = qf.res) (by kernel_rfl:icOk T Tryd.f27.ntmps qf.c = true) R (fun i h=>absurd h (hX0 i)) hv (Nat.le_of_ble_eq_true rfl) ((congrFun (qf.ok k _ _ _ κ) h).trans e4)
theorem qo.call (k:Nat) (hC:∀ j, k = j + 1->zr Tryd.prog T base w0 (env (α:=α) j)):FnOk Tryd.prog T base w0 (env (α:=α) k) 28:=by
 intro X ι h w args xs κ out hX0 R hv e
 have e:env_28 k args κ h = some out:=e
 unfold env_28 at e
 match args, hv, e with
 | [a0, a1, a2, a3], hv, e=>
  obtain ⟨_, rfl, e1⟩:=yg e
  obtain ⟨_, rfl, e2⟩:=zz e1
  obtain ⟨_, rfl, e3⟩:=zy e2
  obtain ⟨_, rfl, e4⟩:=zy e3
  obtain ⟨_, rfl, e5⟩:=zy e4
  cases k with
  | zero=>cases e5
  | succ k=>
   exact jh wide_ok hX0 tab_ok (hC k rfl) Tryd.func28 (by kernel_rfl:Tryd.f28.body = some qo.c.code) (by decide) (by kernel_rfl:Tryd.f28.results.toList = qo.res) (by kernel_rfl:icOk T Tryd.f28.ntmps qo.c = true) R (fun i h=>absurd h (hX0 i)) hv (Nat.le_of_ble_eq_true rfl) ((congrFun (qo.ok k _ _ _ _ κ) h).trans e5)
theorem qr.call (k:Nat) (hC:∀ j, k = j + 1->zr Tryd.prog T base w0 (env (α:=α) j)):FnOk Tryd.prog T base w0 (env (α:=α) k) 29:=by
 intro X ι h w args xs κ out hX0 R hv e
 have e:env_29 k args κ h = some out:=e
 unfold env_29 at e
 match args, hv, e with
 | [a0], hv, e=>
  obtain ⟨_, rfl, e1⟩:=yg e
  obtain ⟨_, rfl, e2⟩:=zz e1
  cases k with
  | zero=>cases e2
  | succ k=>
   exact jh wide_ok hX0 tab_ok (hC k rfl) Tryd.func29 (by kernel_rfl:Tryd.f29.body = some qr.c.code) (by decide) (by kernel_rfl:Tryd.f29.results.toList = qr.res) (by kernel_rfl:icOk T Tryd.f29.ntmps qr.c = true) R (fun i h=>absurd h (hX0 i)) hv (Nat.le_of_ble_eq_true rfl) ((congrFun (qr.ok k _ κ) h).trans e2)
theorem qk.call (k:Nat) (hC:∀ j, k = j + 1->zr Tryd.prog T base w0 (env (α:=α) j)):FnOk Tryd.prog T base w0 (env (α:=α) k) 30:=by
 intro X ι h w args xs κ out hX0 R hv e
 have e:env_30 k args κ h = some out:=e
 unfold env_30 at e
 match args, hv, e with
 | [a0, a1], hv, e=>
  obtain ⟨_, rfl, e1⟩:=yg e
  obtain ⟨_, rfl, e2⟩:=zz e1
  obtain ⟨_, rfl, e3⟩:=zy e2
  cases k with
  | zero=>cases e3
  | succ k=>
   exact jh wide_ok hX0 tab_ok (hC k rfl) Tryd.func30 (by kernel_rfl:Tryd.f30.body = some qk.c.code) (by decide) (by kernel_rfl:Tryd.f30.results.toList = qk.res) (by kernel_rfl:icOk T Tryd.f30.ntmps qk.c = true) R (fun i h=>absurd h (hX0 i)) hv (Nat.le_of_ble_eq_true rfl) ((congrFun (qk.ok k _ _ κ) h).trans e3)
theorem qj.call (k:Nat) (hC:∀ j, k = j + 1->zr Tryd.prog T base w0 (env (α:=α) j)):FnOk Tryd.prog T base w0 (env (α:=α) k) 15:=by
 intro X ι h w args xs κ out hX0 R hv e
 have e:env_15 k args κ h = some out:=e
 unfold env_15 at e
 match args, hv, e with
 | [a0], hv, e=>
  obtain ⟨_, rfl, e1⟩:=yo e
  cases k with
  | zero=>cases e1
  | succ k=>
   exact jh wide_ok hX0 tab_ok (hC k rfl) Tryd.func15 (by kernel_rfl:Tryd.f15.body = some qj.c.code) (by decide) (by kernel_rfl:Tryd.f15.results.toList = qj.res) (by kernel_rfl:icOk T Tryd.f15.ntmps qj.c = true) R (fun i h=>absurd h (hX0 i)) hv (Nat.le_of_ble_eq_true rfl) ((congrFun (qj.ok k _ κ) h).trans e1)
theorem qt.call (k:Nat) (hC:∀ j, k = j + 1->zr Tryd.prog T base w0 (env (α:=α) j)):FnOk Tryd.prog T base w0 (env (α:=α) k) 17:=by
 intro X ι h w args xs κ out hX0 R hv e
 have e:env_17 k args κ h = some out:=e
 unfold env_17 at e
 match args, hv, e with
 | [a0], hv, e=>
  cases k with
  | zero=>cases e
  | succ k=>
   exact jh wide_ok hX0 tab_ok (hC k rfl) Tryd.func17 (by kernel_rfl:Tryd.f17.body = some qt.c.code) (by decide) (by kernel_rfl:Tryd.f17.results.toList = qt.res) (by kernel_rfl:icOk T Tryd.f17.ntmps qt.c = true) R (fun i h=>absurd h (hX0 i)) hv (Nat.le_of_ble_eq_true rfl) ((congrFun (qt.ok k _ κ) h).trans e)
theorem qd.call (k:Nat) (hC:∀ j, k = j + 1->zr Tryd.prog T base w0 (env (α:=α) j)):FnOk Tryd.prog T base w0 (env (α:=α) k) 18:=by
 intro X ι h w args xs κ out hX0 R hv e
 have e:env_18 k args κ h = some out:=e
 unfold env_18 at e
 match args, hv, e with
 | [a0], hv, e=>
  obtain ⟨_, rfl, e1⟩:=zcv e
  obtain ⟨_, _, rfl, e2⟩:=yx e1
  obtain ⟨_, rfl, e3⟩:=yl e2
  obtain ⟨_, _, rfl, e4⟩:=yx e3
  obtain ⟨_, rfl, e5⟩:=yl e4
  obtain ⟨_, _, rfl, e6⟩:=yx e5
  obtain ⟨_, rfl, e7⟩:=yl e6
  obtain ⟨rfl, e8⟩:=zgh e7
  cases k with
  | zero=>cases e8
  | succ k=>
   exact jh wide_ok hX0 tab_ok (hC k rfl) Tryd.func18 (by kernel_rfl:Tryd.f18.body = some qd.c.code) (by decide) (by kernel_rfl:Tryd.f18.results.toList = qd.res) (by kernel_rfl:icOk T Tryd.f18.ntmps qd.c = true) R (fun i h=>absurd h (hX0 i)) hv (Nat.le_of_ble_eq_true rfl) ((congrFun (qd.ok k _ _ _ κ) h).trans e8)
theorem qu.call (k:Nat) (hC:∀ j, k = j + 1->zr Tryd.prog T base w0 (env (α:=α) j)):FnOk Tryd.prog T base w0 (env (α:=α) k) 63:=by
 intro X ι h w args xs κ out hX0 R hv e
 have e:env_63 k args κ h = some out:=e
 unfold env_63 at e
 match args, hv, e with
 | [a0], hv, e=>
  obtain ⟨_, rfl, e1⟩:=zy e
  cases k with
  | zero=>cases e1
  | succ k=>
   exact jh wide_ok hX0 tab_ok (hC k rfl) Tryd.func63 (by kernel_rfl:Tryd.f63.body = some qu.c.code) (by decide) (by kernel_rfl:Tryd.f63.results.toList = qu.res) (by kernel_rfl:icOk T Tryd.f63.ntmps qu.c = true) R (fun i h=>absurd h (hX0 i)) hv (Nat.le_of_ble_eq_true rfl) ((congrFun (qu.ok k _ κ) h).trans e1)
theorem qg.call (k:Nat) (hC:∀ j, k = j + 1->zr Tryd.prog T base w0 (env (α:=α) j)):FnOk Tryd.prog T base w0 (env (α:=α) k) 65:=by
 intro X ι h w args xs κ out hX0 R hv e
 have e:env_65 k args κ h = some out:=e
 unfold env_65 at e
 match args, hv, e with
 | [a0, a1], hv, e=>
  obtain ⟨_, rfl, e1⟩:=yl e
  obtain ⟨_, rfl, e2⟩:=zy e1
  cases k with
  | zero=>cases e2
  | succ k=>
   exact jh wide_ok hX0 tab_ok (hC k rfl) Tryd.func65 (by kernel_rfl:Tryd.f65.body = some qg.c.code) (by decide) (by kernel_rfl:Tryd.f65.results.toList = qg.res) (by kernel_rfl:icOk T Tryd.f65.ntmps qg.c = true) R (fun i h=>absurd h (hX0 i)) hv (Nat.le_of_ble_eq_true rfl) ((congrFun (qg.ok k _ _ κ) h).trans e2)
theorem qs.call (k:Nat) (hC:∀ j, k = j + 1->zr Tryd.prog T base w0 (env (α:=α) j)):FnOk Tryd.prog T base w0 (env (α:=α) k) 50:=by
 intro X ι h w args xs κ out hX0 R hv e
 have e:env_50 k args κ h = some out:=e
 unfold env_50 at e
 match args, hv, e with
 | [a0, a1, a2], hv, e=>
  obtain ⟨_, rfl, e1⟩:=yl e
  obtain ⟨_, rfl, e2⟩:=zy e1
  obtain ⟨_, rfl, e3⟩:=zy e2
  cases k with
  | zero=>cases e3
  | succ k=>
   exact jh wide_ok hX0 tab_ok (hC k rfl) Tryd.func50 (by kernel_rfl:Tryd.f50.body = some qs.c.code) (by decide) (by kernel_rfl:Tryd.f50.results.toList = qs.res) (by kernel_rfl:icOk T Tryd.f50.ntmps qs.c = true) R (fun i h=>absurd h (hX0 i)) hv (Nat.le_of_ble_eq_true rfl) ((congrFun (qs.ok k _ _ _ κ) h).trans e3)
theorem qy.call (k:Nat) (hC:∀ j, k = j + 1->zr Tryd.prog T base w0 (env (α:=α) j)):FnOk Tryd.prog T base w0 (env (α:=α) k) 38:=by
 intro X ι h w args xs κ out hX0 R hv e
 have e:env_38 k args κ h = some out:=e
 unfold env_38 at e
 match args, hv, e with
 | [a0, a1, a2], hv, e=>
  obtain ⟨_, rfl, e1⟩:=yl e
  obtain ⟨_, rfl, e2⟩:=zy e1
  obtain ⟨_, rfl, e3⟩:=zy e2
  cases k with
  | zero=>cases e3
  | succ k=>
   exact jh wide_ok hX0 tab_ok (hC k rfl) Tryd.func38 (by kernel_rfl:Tryd.f38.body = some qy.c.code) (by decide) (by kernel_rfl:Tryd.f38.results.toList = qy.res) (by kernel_rfl:icOk T Tryd.f38.ntmps qy.c = true) R (fun i h=>absurd h (hX0 i)) hv (Nat.le_of_ble_eq_true rfl) ((congrFun (qy.ok k _ _ _ κ) h).trans e3)
theorem qp.call (k:Nat) (hC:∀ j, k = j + 1->zr Tryd.prog T base w0 (env (α:=α) j)):FnOk Tryd.prog T base w0 (env (α:=α) k) 21:=by
 intro X ι h w args xs κ out hX0 R hv e
 have e:env_21 k args κ h = some out:=e
 unfold env_21 at e
 match args, hv, e with
 | [a0, a1, a2], hv, e=>
  obtain ⟨_, rfl, e1⟩:=yl e
  obtain ⟨_, rfl, e2⟩:=zy e1
  obtain ⟨_, rfl, e3⟩:=zy e2
  cases k with
  | zero=>cases e3
  | succ k=>
   exact jh wide_ok hX0 tab_ok (hC k rfl) Tryd.func21 (by kernel_rfl:Tryd.f21.body = some qp.c.code) (by decide) (by kernel_rfl:Tryd.f21.results.toList = qp.res) (by kernel_rfl:icOk T Tryd.f21.ntmps qp.c = true) R (fun i h=>absurd h (hX0 i)) hv (Nat.le_of_ble_eq_true rfl) ((congrFun (qp.ok k _ _ _ κ) h).trans e3)
theorem qa.call (k:Nat) (hC:∀ j, k = j + 1->zr Tryd.prog T base w0 (env (α:=α) j)):FnOk Tryd.prog T base w0 (env (α:=α) k) 12:=by
 intro X ι h w args xs κ out hX0 R hv e
 have e:env_12 k args κ h = some out:=e
 unfold env_12 at e
 match args, hv, e with
 | [a0], hv, e=>
  obtain ⟨_, rfl, e1⟩:=zcv e
  obtain ⟨_, _, rfl, e2⟩:=yx e1
  obtain ⟨_, rfl, e3⟩:=yl e2
  obtain ⟨_, _, rfl, e4⟩:=yx e3
  obtain ⟨_, rfl, e5⟩:=yl e4
  obtain ⟨_, _, rfl, e6⟩:=yx e5
  obtain ⟨_, rfl, e7⟩:=yl e6
  obtain ⟨rfl, e8⟩:=zgh e7
  cases k with
  | zero=>cases e8
  | succ k=>
   exact jh wide_ok hX0 tab_ok (hC k rfl) Tryd.func12 (by kernel_rfl:Tryd.f12.body = some qa.c.code) (by decide) (by kernel_rfl:Tryd.f12.results.toList = qa.res) (by kernel_rfl:icOk T Tryd.f12.ntmps qa.c = true) R (fun i h=>absurd h (hX0 i)) hv (Nat.le_of_ble_eq_true rfl) ((congrFun (qa.ok k _ _ _ κ) h).trans e8)
theorem qv.call (k:Nat) (hC:∀ j, k = j + 1->zr Tryd.prog T base w0 (env (α:=α) j)):FnOk Tryd.prog T base w0 (env (α:=α) k) 10:=by
 intro X ι h w args xs κ out hX0 R hv e
 have e:env_10 k args κ h = some out:=e
 unfold env_10 at e
 match args, hv, e with
 | [], hv, e=>
  cases k with
  | zero=>cases e
  | succ k=>
   exact jh wide_ok hX0 tab_ok (hC k rfl) Tryd.func10 (by kernel_rfl:Tryd.f10.body = some qv.c.code) (by decide) (by kernel_rfl:Tryd.f10.results.toList = qv.res) (by kernel_rfl:icOk T Tryd.f10.ntmps qv.c = true) R (fun i h=>absurd h (hX0 i)) hv (Nat.le_of_ble_eq_true rfl) ((congrFun (qv.ok k κ) h).trans e)
theorem qq.call (k:Nat) (hC:∀ j, k = j + 1->zr Tryd.prog T base w0 (env (α:=α) j)):FnOk Tryd.prog T base w0 (env (α:=α) k) 20:=by
 intro X ι h w args xs κ out hX0 R hv e
 have e:env_20 k args κ h = some out:=e
 unfold env_20 at e
 match args, hv, e with
 | [a0, a1], hv, e=>
  obtain ⟨_, rfl, e1⟩:=zy e
  obtain ⟨_, rfl, e2⟩:=zy e1
  cases k with
  | zero=>cases e2
  | succ k=>
   exact jh wide_ok hX0 tab_ok (hC k rfl) Tryd.func20 (by kernel_rfl:Tryd.f20.body = some qq.c.code) (by decide) (by kernel_rfl:Tryd.f20.results.toList = qq.res) (by kernel_rfl:icOk T Tryd.f20.ntmps qq.c = true) R (fun i h=>absurd h (hX0 i)) hv (Nat.le_of_ble_eq_true rfl) ((congrFun (qq.ok k _ _ κ) h).trans e2)
theorem qc.call (k:Nat) (hC:∀ j, k = j + 1->zr Tryd.prog T base w0 (env (α:=α) j)):FnOk Tryd.prog T base w0 (env (α:=α) k) 9:=by
 intro X ι h w args xs κ out hX0 R hv e
 have e:env_9 k args κ h = some out:=e
 unfold env_9 at e
 match args, hv, e with
 | [a0, a1, a2], hv, e=>
  obtain ⟨_, rfl, e1⟩:=zcv e
  obtain ⟨_, _, rfl, e2⟩:=yx e1
  obtain ⟨_, rfl, e3⟩:=yl e2
  obtain ⟨_, _, rfl, e4⟩:=yx e3
  obtain ⟨_, rfl, e5⟩:=yl e4
  obtain ⟨_, _, rfl, e6⟩:=yx e5
  obtain ⟨_, rfl, e7⟩:=yl e6
  obtain ⟨rfl, e8⟩:=zgh e7
  obtain ⟨_, rfl, e9⟩:=zy e8
  obtain ⟨_, rfl, e10⟩:=zy e9
  cases k with
  | zero=>cases e10
  | succ k=>
   exact jh wide_ok hX0 tab_ok (hC k rfl) Tryd.func9 (by kernel_rfl:Tryd.f9.body = some qc.c.code) (by decide) (by kernel_rfl:Tryd.f9.results.toList = qc.res) (by kernel_rfl:icOk T Tryd.f9.ntmps qc.c = true) R (fun i h=>absurd h (hX0 i)) hv (Nat.le_of_ble_eq_true rfl) ((congrFun (qc.ok k _ _ _ _ _ κ) h).trans e10)
end
end Go.Ab.S8
