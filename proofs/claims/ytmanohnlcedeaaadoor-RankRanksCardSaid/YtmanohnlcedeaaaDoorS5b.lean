import Derived.Test.YtmanohnlcedeaaaDoorAb15
import Derived.Test.YtmanohnlcedeaaaDoorAb19
import Derived.Test.YtmanohnlcedeaaaDoorS5a
set_option linter.unusedVariables false
set_option linter.unusedSimpArgs false
namespace Go.Ab.S5
section
variable {α:Type}
open Go.Proofs
variable {base:Nat} {w0:World}
theorem wide_ok:Tryd.prog.follows .mixedOrders = true:=by kernel_rfl
theorem ti3 {i:TI} (h:ti 3 = some i):TIOk Tryd.prog 3 i:=by
 cases h
 exact TIOk.of 119 Tryd.underlying3 Tryd.type3 rfl rfl rfl rfl rfl rfl rfl rfl rfl Tryd.types_size rfl (nofun)
theorem ti4 {i:TI} (h:ti 4 = some i):TIOk Tryd.prog 4 i:=by
 cases h
 exact TIOk.of 119 Tryd.underlying4 Tryd.type4 rfl rfl rfl rfl rfl rfl rfl rfl rfl Tryd.types_size rfl (nofun)
theorem ti5 {i:TI} (h:ti 5 = some i):TIOk Tryd.prog 5 i:=by
 cases h
 exact TIOk.of 119 Tryd.underlying5 Tryd.type5 rfl rfl rfl rfl rfl rfl rfl rfl rfl Tryd.types_size rfl (nofun)
theorem ti9 {i:TI} (h:ti 9 = some i):TIOk Tryd.prog 9 i:=by
 cases h
 exact TIOk.of 119 Tryd.underlying9 Tryd.type9 rfl rfl rfl rfl rfl rfl rfl rfl rfl Tryd.types_size rfl (nofun)
theorem ti20 {i:TI} (h:ti 20 = some i):TIOk Tryd.prog 20 i:=by
 cases h
 exact TIOk.of 119 Tryd.underlying20 Tryd.type20 rfl rfl rfl rfl rfl rfl rfl rfl rfl Tryd.types_size rfl (nofun)
theorem ti22 {i:TI} (h:ti 22 = some i):TIOk Tryd.prog 22 i:=by
 cases h
 exact TIOk.of 119 Tryd.underlying22 Tryd.type22 rfl rfl rfl rfl rfl rfl rfl rfl rfl Tryd.types_size rfl (nofun)
theorem ti24 {i:TI} (h:ti 24 = some i):TIOk Tryd.prog 24 i:=by
 cases h
 exact TIOk.of 119 Tryd.underlying24 Tryd.type24 rfl rfl rfl rfl rfl rfl rfl rfl rfl Tryd.types_size rfl (nofun)
theorem ti26 {i:TI} (h:ti 26 = some i):TIOk Tryd.prog 26 i:=by
 cases h
 exact TIOk.of 119 Tryd.underlying26 Tryd.type26 rfl rfl rfl rfl rfl rfl rfl rfl rfl Tryd.types_size rfl (nofun)
theorem ti28 {i:TI} (h:ti 28 = some i):TIOk Tryd.prog 28 i:=by
 cases h
 exact TIOk.of 119 Tryd.underlying28 Tryd.type28 rfl rfl rfl rfl rfl rfl rfl rfl rfl Tryd.types_size rfl (nofun)
theorem ti31 {i:TI} (h:ti 31 = some i):TIOk Tryd.prog 31 i:=by
 cases h
 exact TIOk.of 119 Tryd.underlying31 Tryd.type31 rfl rfl rfl rfl rfl rfl rfl rfl trivial Tryd.types_size rfl (fun _=>zdd Tryd.underlying31 Tryd.stoodInHeld31 Tryd.eqGuardType31 ⟨by decide, rfl, Tryd.underlying3, ⟨by decide, rfl, Tryd.underlying3, ⟨by decide, rfl, Tryd.underlying3, ⟨by decide, rfl, Tryd.underlying9, ⟨by decide, rfl, Tryd.underlying3, trivial⟩⟩⟩⟩⟩)
theorem ti33 {i:TI} (h:ti 33 = some i):TIOk Tryd.prog 33 i:=by
 cases h
 exact TIOk.of 119 Tryd.underlying33 Tryd.type33 rfl rfl rfl rfl rfl rfl rfl rfl rfl Tryd.types_size rfl (nofun)
theorem ti36 {i:TI} (h:ti 36 = some i):TIOk Tryd.prog 36 i:=by
 cases h
 exact TIOk.of 119 Tryd.underlying36 Tryd.type36 rfl rfl rfl rfl rfl rfl rfl rfl rfl Tryd.types_size rfl (nofun)
theorem ti42 {i:TI} (h:ti 42 = some i):TIOk Tryd.prog 42 i:=by
 cases h
 exact TIOk.of 119 Tryd.underlying42 Tryd.type42 rfl rfl rfl rfl rfl rfl rfl rfl rfl Tryd.types_size rfl (nofun)
theorem ti43 {i:TI} (h:ti 43 = some i):TIOk Tryd.prog 43 i:=by
 cases h
 exact TIOk.of 119 Tryd.underlying43 Tryd.type43 rfl rfl rfl rfl rfl rfl rfl rfl rfl Tryd.types_size rfl (nofun)
theorem ti45 {i:TI} (h:ti 45 = some i):TIOk Tryd.prog 45 i:=by
 cases h
 exact TIOk.of 119 Tryd.underlying45 Tryd.type45 rfl rfl rfl rfl rfl rfl rfl rfl trivial Tryd.types_size rfl (nofun)
theorem ti49 {i:TI} (h:ti 49 = some i):TIOk Tryd.prog 49 i:=by
 cases h
 exact TIOk.of 119 Tryd.underlying49 Tryd.type49 rfl rfl rfl rfl rfl rfl rfl rfl rfl Tryd.types_size rfl (nofun)
theorem ti52 {i:TI} (h:ti 52 = some i):TIOk Tryd.prog 52 i:=by
 cases h
 exact TIOk.of 119 Tryd.underlying52 Tryd.type52 rfl rfl rfl rfl rfl rfl rfl rfl rfl Tryd.types_size rfl (nofun)
theorem ti54 {i:TI} (h:ti 54 = some i):TIOk Tryd.prog 54 i:=by
 cases h
 exact TIOk.of 119 Tryd.underlying54 Tryd.type54 rfl rfl rfl rfl rfl rfl rfl rfl trivial Tryd.types_size rfl (fun _=>zdd Tryd.underlying54 Tryd.stoodInHeld54 Tryd.eqGuardType54 ⟨by decide, rfl, Tryd.underlying3, ⟨by decide, rfl, Tryd.underlying52, trivial⟩⟩)
theorem ti56 {i:TI} (h:ti 56 = some i):TIOk Tryd.prog 56 i:=by
 cases h
 exact TIOk.of 119 Tryd.underlying56 Tryd.type56 rfl rfl rfl rfl rfl rfl rfl rfl trivial Tryd.types_size rfl (nofun)
theorem ti57 {i:TI} (h:ti 57 = some i):TIOk Tryd.prog 57 i:=by
 cases h
 exact TIOk.of 119 Tryd.underlying57 Tryd.type57 rfl rfl rfl rfl rfl rfl rfl rfl rfl Tryd.types_size rfl (nofun)
theorem ti61 {i:TI} (h:ti 61 = some i):TIOk Tryd.prog 61 i:=by
 cases h
 exact TIOk.of 119 Tryd.underlying61 Tryd.type61 rfl rfl rfl rfl rfl rfl rfl rfl trivial Tryd.types_size rfl (fun _=>zdd Tryd.underlying61 Tryd.stoodInHeld61 Tryd.eqGuardType61 ⟨by decide, rfl, Tryd.underlying3, ⟨by decide, rfl, Tryd.underlying3, ⟨by decide, rfl, Tryd.underlying9, ⟨by decide, rfl, Tryd.underlying3, trivial⟩⟩⟩⟩)
theorem ti64 {i:TI} (h:ti 64 = some i):TIOk Tryd.prog 64 i:=by
 cases h
 exact TIOk.of 119 Tryd.underlying64 Tryd.type64 rfl rfl rfl rfl rfl rfl rfl rfl trivial Tryd.types_size rfl (nofun)
theorem ti88 {i:TI} (h:ti 88 = some i):TIOk Tryd.prog 88 i:=by
 cases h
 exact TIOk.of 119 Tryd.underlying88 Tryd.type88 rfl rfl rfl rfl rfl rfl rfl rfl rfl Tryd.types_size rfl (nofun)
theorem ti92 {i:TI} (h:ti 92 = some i):TIOk Tryd.prog 92 i:=by
 cases h
 exact TIOk.of 119 Tryd.underlying92 Tryd.type92 rfl rfl rfl rfl rfl rfl rfl rfl trivial Tryd.types_size rfl (fun _=>zdd Tryd.underlying92 Tryd.stoodInHeld92 Tryd.eqGuardType92 ⟨by decide, rfl, Tryd.underlying3, ⟨by decide, rfl, Tryd.underlying3, trivial⟩⟩)
theorem tab_ok:TabOk Tryd.prog T:=by
 refine ⟨fun t i h=>?_⟩
 by_cases h3:t = 3
 ·subst h3; exact ti3 h
 by_cases h4:t = 4
 ·subst h4; exact ti4 h
 by_cases h5:t = 5
 ·subst h5; exact ti5 h
 by_cases h9:t = 9
 ·subst h9; exact ti9 h
 by_cases h20:t = 20
 ·subst h20; exact ti20 h
 by_cases h22:t = 22
 ·subst h22; exact ti22 h
 by_cases h24:t = 24
 ·subst h24; exact ti24 h
 by_cases h26:t = 26
 ·subst h26; exact ti26 h
 by_cases h28:t = 28
 ·subst h28; exact ti28 h
 by_cases h31:t = 31
 ·subst h31; exact ti31 h
 by_cases h33:t = 33
 ·subst h33; exact ti33 h
 by_cases h36:t = 36
 ·subst h36; exact ti36 h
 by_cases h42:t = 42
 ·subst h42; exact ti42 h
 by_cases h43:t = 43
 ·subst h43; exact ti43 h
 by_cases h45:t = 45
 ·subst h45; exact ti45 h
 by_cases h49:t = 49
 ·subst h49; exact ti49 h
 by_cases h52:t = 52
 ·subst h52; exact ti52 h
 by_cases h54:t = 54
 ·subst h54; exact ti54 h
 by_cases h56:t = 56
 ·subst h56; exact ti56 h
 by_cases h57:t = 57
 ·subst h57; exact ti57 h
 by_cases h61:t = 61
 ·subst h61; exact ti61 h
 by_cases h64:t = 64
 ·subst h64; exact ti64 h
 by_cases h88:t = 88
 ·subst h88; exact ti88 h
 by_cases h92:t = 92
 ·subst h92; exact ti92 h
 have:ti t = none:=by
  unfold ti
  split <;> first | rfl | contradiction
 rw [show T.ti t = ti t from rfl, this] at h
 cases h
theorem qbq.call (k:Nat) (hC:∀ j, k = j + 1->zn Tryd.prog T base w0 (env (α:=α) j)):FnOk Tryd.prog T base w0 (env (α:=α) k) 65:=by
 intro X ι h w args xs κ out hX0 R hv e
 have e:env_65 k args κ h = some out:=e
 unfold env_65 at e
 match args, hv, e with
 | [a0, a1], hv, e=>
  obtain ⟨_, rfl, e1⟩:=jh e
  obtain ⟨_, rfl, e2⟩:=jc e1
  cases k with
  | zero=>cases e2
  | succ k=>
   exact zt wide_ok hX0 tab_ok (hC k rfl) Tryd.func65 (by kernel_rfl:Tryd.f65.body = some qbq.c.code) (by decide) (by kernel_rfl:Tryd.f65.results.toList = qbq.res) (by kernel_rfl:icOk T Tryd.f65.ntmps qbq.c = true) R (fun i h=>absurd h (hX0 i)) hv (Nat.le_of_ble_eq_true rfl) ((congrFun (qbq.ok k _ _ κ) h).trans e2)
theorem qbp.call (k:Nat) (hC:∀ j, k = j + 1->zn Tryd.prog T base w0 (env (α:=α) j)):FnOk Tryd.prog T base w0 (env (α:=α) k) 51:=by
 intro X ι h w args xs κ out hX0 R hv e
 have e:env_51 k args κ h = some out:=e
 unfold env_51 at e
 match args, hv, e with
 | [a0, a1], hv, e=>
  obtain ⟨_, rfl, e1⟩:=jh e
  obtain ⟨_, rfl, e2⟩:=jc e1
  cases k with
  | zero=>cases e2
  | succ k=>
   exact zt wide_ok hX0 tab_ok (hC k rfl) Tryd.func51 (by kernel_rfl:Tryd.f51.body = some qbp.c.code) (by decide) (by kernel_rfl:Tryd.f51.results.toList = qbp.res) (by kernel_rfl:icOk T Tryd.f51.ntmps qbp.c = true) R (fun i h=>absurd h (hX0 i)) hv (Nat.le_of_ble_eq_true rfl) ((congrFun (qbp.ok k _ _ κ) h).trans e2)
theorem qbi.call (k:Nat) (hC:∀ j, k = j + 1->zn Tryd.prog T base w0 (env (α:=α) j)):FnOk Tryd.prog T base w0 (env (α:=α) k) 66:=by
 intro X ι h w args xs κ out hX0 R hv e
 have e:env_66 k args κ h = some out:=e
 unfold env_66 at e
 match args, hv, e with
 | [a0], hv, e=>
  obtain ⟨_, rfl, e1⟩:=jc e
  cases k with
  | zero=>cases e1
  | succ k=>
   exact zt wide_ok hX0 tab_ok (hC k rfl) Tryd.func66 (by kernel_rfl:Tryd.f66.body = some qbi.c.code) (by decide) (by kernel_rfl:Tryd.f66.results.toList = qbi.res) (by kernel_rfl:icOk T Tryd.f66.ntmps qbi.c = true) R (fun i h=>absurd h (hX0 i)) hv (Nat.le_of_ble_eq_true rfl) ((congrFun (qbi.ok k _ κ) h).trans e1)
theorem qk.call (k:Nat) (hC:∀ j, k = j + 1->zn Tryd.prog T base w0 (env (α:=α) j)):FnOk Tryd.prog T base w0 (env (α:=α) k) 67:=by
 intro X ι h w args xs κ out hX0 R hv e
 have e:env_67 k args κ h = some out:=e
 unfold env_67 at e
 match args, hv, e with
 | [a0, a1], hv, e=>
  obtain ⟨_, rfl, e1⟩:=jc e
  obtain ⟨_, rfl, e2⟩:=jh e1
  cases k with
  | zero=>cases e2
  | succ k=>
   exact zt wide_ok hX0 tab_ok (hC k rfl) Tryd.func67 (by kernel_rfl:Tryd.f67.body = some qk.c.code) (by decide) (by kernel_rfl:Tryd.f67.results.toList = qk.res) (by kernel_rfl:icOk T Tryd.f67.ntmps qk.c = true) R (fun i h=>absurd h (hX0 i)) hv (Nat.le_of_ble_eq_true rfl) ((congrFun (qk.ok k _ _ κ) h).trans e2)
theorem qp.call (k:Nat) (hC:∀ j, k = j + 1->zn Tryd.prog T base w0 (env (α:=α) j)):FnOk Tryd.prog T base w0 (env (α:=α) k) 68:=by
 intro X ι h w args xs κ out hX0 R hv e
 have e:env_68 k args κ h = some out:=e
 unfold env_68 at e
 match args, hv, e with
 | [a0], hv, e=>
  obtain ⟨_, rfl, e1⟩:=jh e
  cases k with
  | zero=>cases e1
  | succ k=>
   exact zt wide_ok hX0 tab_ok (hC k rfl) Tryd.func68 (by kernel_rfl:Tryd.f68.body = some qp.c.code) (by decide) (by kernel_rfl:Tryd.f68.results.toList = qp.res) (by kernel_rfl:icOk T Tryd.f68.ntmps qp.c = true) R (fun i h=>absurd h (hX0 i)) hv (Nat.le_of_ble_eq_true rfl) ((congrFun (qp.ok k _ κ) h).trans e1)
theorem qbj.call (k:Nat) (hC:∀ j, k = j + 1->zn Tryd.prog T base w0 (env (α:=α) j)):FnOk Tryd.prog T base w0 (env (α:=α) k) 52:=by
 intro X ι h w args xs κ out hX0 R hv e
 have e:env_52 k args κ h = some out:=e
 unfold env_52 at e
 match args, hv, e with
 | [a0, a1], hv, e=>
  obtain ⟨_, rfl, e1⟩:=jh e
  obtain ⟨_, rfl, e2⟩:=jc e1
  cases k with
  | zero=>cases e2
  | succ k=>
   exact zt wide_ok hX0 tab_ok (hC k rfl) Tryd.func52 (by kernel_rfl:Tryd.f52.body = some qbj.c.code) (by decide) (by kernel_rfl:Tryd.f52.results.toList = qbj.res) (by kernel_rfl:icOk T Tryd.f52.ntmps qbj.c = true) R (fun i h=>absurd h (hX0 i)) hv (Nat.le_of_ble_eq_true rfl) ((congrFun (qbj.ok k _ _ κ) h).trans e2)
theorem qq.call (k:Nat) (hC:∀ j, k = j + 1->zn Tryd.prog T base w0 (env (α:=α) j)):FnOk Tryd.prog T base w0 (env (α:=α) k) 32:=by
 intro X ι h w args xs κ out hX0 R hv e
 have e:env_32 k args κ h = some out:=e
 unfold env_32 at e
 match args, hv, e with
 | [a0], hv, e=>
  obtain ⟨_, rfl, e1⟩:=jh e
  cases k with
  | zero=>cases e1
  | succ k=>
   exact zt wide_ok hX0 tab_ok (hC k rfl) Tryd.func32 (by kernel_rfl:Tryd.f32.body = some qq.c.code) (by decide) (by kernel_rfl:Tryd.f32.results.toList = qq.res) (by kernel_rfl:icOk T Tryd.f32.ntmps qq.c = true) R (fun i h=>absurd h (hX0 i)) hv (Nat.le_of_ble_eq_true rfl) ((congrFun (qq.ok k _ κ) h).trans e1)
theorem qbd.call (k:Nat) (hC:∀ j, k = j + 1->zn Tryd.prog T base w0 (env (α:=α) j)):FnOk Tryd.prog T base w0 (env (α:=α) k) 35:=by
 intro X ι h w args xs κ out hX0 R hv e
 have e:env_35 k args κ h = some out:=e
 unfold env_35 at e
 match args, hv, e with
 | [a0], hv, e=>
  obtain ⟨_, rfl, e1⟩:=zbj e
  obtain ⟨_, _, rfl, e2⟩:=zx e1
  obtain ⟨_, rfl, e3⟩:=jc e2
  obtain ⟨_, _, rfl, e4⟩:=zx e3
  obtain ⟨_, rfl, e5⟩:=jc e4
  obtain ⟨_, _, rfl, e6⟩:=zx e5
  obtain ⟨_, rfl, e7⟩:=jh e6
  obtain ⟨_, _, rfl, e8⟩:=zx e7
  obtain ⟨_, rfl, e9⟩:=jc e8
  obtain ⟨rfl, e10⟩:=yj e9
  cases k with
  | zero=>cases e10
  | succ k=>
   exact zt wide_ok hX0 tab_ok (hC k rfl) Tryd.func35 (by kernel_rfl:Tryd.f35.body = some qbd.c.code) (by decide) (by kernel_rfl:Tryd.f35.results.toList = qbd.res) (by kernel_rfl:icOk T Tryd.f35.ntmps qbd.c = true) R (fun i h=>absurd h (hX0 i)) hv (Nat.le_of_ble_eq_true rfl) ((congrFun (qbd.ok k _ _ _ _ κ) h).trans e10)
theorem qab.call (k:Nat) (hC:∀ j, k = j + 1->zn Tryd.prog T base w0 (env (α:=α) j)):FnOk Tryd.prog T base w0 (env (α:=α) k) 53:=by
 intro X ι h w args xs κ out hX0 R hv e
 have e:env_53 k args κ h = some out:=e
 unfold env_53 at e
 match args, hv, e with
 | [a0, a1], hv, e=>
  obtain ⟨_, rfl, e1⟩:=jq e
  obtain ⟨_, _, _, rfl, e2⟩:=zcl e1
  obtain ⟨hbe3, e3⟩:=zi e2
  obtain rfl:=Nat.eq_of_beq_eq_true hbe3
  obtain ⟨rfl, e4⟩:=yj e3
  obtain ⟨rfl, e5⟩:=yj e4
  cases k with
  | zero=>cases e5
  | succ k=>
   exact zt wide_ok hX0 tab_ok (hC k rfl) Tryd.func53 (by kernel_rfl:Tryd.f53.body = some qab.c.code) (by decide) (by kernel_rfl:Tryd.f53.results.toList = qab.res) (by kernel_rfl:icOk T Tryd.f53.ntmps qab.c = true) R (fun i h=>absurd h (hX0 i)) hv (Nat.le_of_ble_eq_true rfl) ((congrFun (qab.ok k _ κ) h).trans e5)
theorem qu.call (k:Nat) (hC:∀ j, k = j + 1->zn Tryd.prog T base w0 (env (α:=α) j)):FnOk Tryd.prog T base w0 (env (α:=α) k) 34:=by
 intro X ι h w args xs κ out hX0 R hv e
 have e:env_34 k args κ h = some out:=e
 unfold env_34 at e
 match args, hv, e with
 | [a0, a1], hv, e=>
  obtain ⟨_, rfl, e1⟩:=jq e
  obtain ⟨_, _, _, rfl, e2⟩:=zcl e1
  obtain ⟨hbe3, e3⟩:=zi e2
  obtain rfl:=Nat.eq_of_beq_eq_true hbe3
  obtain ⟨rfl, e4⟩:=yj e3
  obtain ⟨rfl, e5⟩:=yj e4
  cases k with
  | zero=>cases e5
  | succ k=>
   exact zt wide_ok hX0 tab_ok (hC k rfl) Tryd.func34 (by kernel_rfl:Tryd.f34.body = some qu.c.code) (by decide) (by kernel_rfl:Tryd.f34.results.toList = qu.res) (by kernel_rfl:icOk T Tryd.f34.ntmps qu.c = true) R (fun i h=>absurd h (hX0 i)) hv (Nat.le_of_ble_eq_true rfl) ((congrFun (qu.ok k _ κ) h).trans e5)
theorem qaw.call (k:Nat) (hC:∀ j, k = j + 1->zn Tryd.prog T base w0 (env (α:=α) j)):FnOk Tryd.prog T base w0 (env (α:=α) k) 69:=by
 intro X ι h w args xs κ out hX0 R hv e
 have e:env_69 k args κ h = some out:=e
 unfold env_69 at e
 match args, hv, e with
 | [a0, a1], hv, e=>
  obtain ⟨_, rfl, e1⟩:=yl e
  obtain ⟨_, rfl, e2⟩:=jl e1
  obtain ⟨_, rfl, e3⟩:=jh e2
  cases k with
  | zero=>cases e3
  | succ k=>
   exact zt wide_ok hX0 tab_ok (hC k rfl) Tryd.func69 (by kernel_rfl:Tryd.f69.body = some qaw.c.code) (by decide) (by kernel_rfl:Tryd.f69.results.toList = qaw.res) (by kernel_rfl:icOk T Tryd.f69.ntmps qaw.c = true) R (fun i h=>absurd h (hX0 i)) hv (Nat.le_of_ble_eq_true rfl) ((congrFun (qaw.ok k _ _ κ) h).trans e3)
theorem qao.call (k:Nat) (hC:∀ j, k = j + 1->zn Tryd.prog T base w0 (env (α:=α) j)):FnOk Tryd.prog T base w0 (env (α:=α) k) 78:=by
 intro X ι h w args xs κ out hX0 R hv e
 have e:env_78 k args κ h = some out:=e
 unfold env_78 at e
 match args, hv, e with
 | [a0], hv, e=>
  obtain ⟨_, rfl, e1⟩:=yl e
  obtain ⟨_, rfl, e2⟩:=jl e1
  cases k with
  | zero=>cases e2
  | succ k=>
   exact zt wide_ok hX0 tab_ok (hC k rfl) Tryd.func78 (by kernel_rfl:Tryd.f78.body = some qao.c.code) (by decide) (by kernel_rfl:Tryd.f78.results.toList = qao.res) (by kernel_rfl:icOk T Tryd.f78.ntmps qao.c = true) R (fun i h=>absurd h (hX0 i)) hv (Nat.le_of_ble_eq_true rfl) ((congrFun (qao.ok k _ κ) h).trans e2)
theorem qan.call (k:Nat) (hC:∀ j, k = j + 1->zn Tryd.prog T base w0 (env (α:=α) j)):FnOk Tryd.prog T base w0 (env (α:=α) k) 70:=by
 intro X ι h w args xs κ out hX0 R hv e
 have e:env_70 k args κ h = some out:=e
 unfold env_70 at e
 match args, hv, e with
 | [a0], hv, e=>
  obtain ⟨_, rfl, e1⟩:=yl e
  obtain ⟨_, rfl, e2⟩:=jl e1
  cases k with
  | zero=>cases e2
  | succ k=>
   exact zt wide_ok hX0 tab_ok (hC k rfl) Tryd.func70 (by kernel_rfl:Tryd.f70.body = some qan.c.code) (by decide) (by kernel_rfl:Tryd.f70.results.toList = qan.res) (by kernel_rfl:icOk T Tryd.f70.ntmps qan.c = true) R (fun i h=>absurd h (hX0 i)) hv (Nat.le_of_ble_eq_true rfl) ((congrFun (qan.ok k _ κ) h).trans e2)
theorem qak.call (k:Nat) (hC:∀ j, k = j + 1->zn Tryd.prog T base w0 (env (α:=α) j)):FnOk Tryd.prog T base w0 (env (α:=α) k) 71:=by
 intro X ι h w args xs κ out hX0 R hv e
 have e:env_71 k args κ h = some out:=e
 unfold env_71 at e
 match args, hv, e with
 | [a0, a1], hv, e=>
  obtain ⟨_, rfl, e1⟩:=yl e
  obtain ⟨_, rfl, e2⟩:=jl e1
  obtain ⟨_, rfl, e3⟩:=zbj e2
  obtain ⟨_, _, rfl, e4⟩:=zx e3
  obtain ⟨_, rfl, e5⟩:=jc e4
  obtain ⟨_, _, rfl, e6⟩:=zx e5
  obtain ⟨_, rfl, e7⟩:=jc e6
  obtain ⟨_, _, rfl, e8⟩:=zx e7
  obtain ⟨_, rfl, e9⟩:=jc e8
  obtain ⟨_, _, rfl, e10⟩:=zx e9
  obtain ⟨_, rfl, e11⟩:=jh e10
  obtain ⟨_, _, rfl, e12⟩:=zx e11
  obtain ⟨_, rfl, e13⟩:=jc e12
  obtain ⟨rfl, e14⟩:=yj e13
  cases k with
  | zero=>cases e14
  | succ k=>
   exact zt wide_ok hX0 tab_ok (hC k rfl) Tryd.func71 (by kernel_rfl:Tryd.f71.body = some qak.c.code) (by decide) (by kernel_rfl:Tryd.f71.results.toList = qak.res) (by kernel_rfl:icOk T Tryd.f71.ntmps qak.c = true) R (fun i h=>absurd h (hX0 i)) hv (Nat.le_of_ble_eq_true rfl) ((congrFun (qak.ok k _ _ _ _ _ _ κ) h).trans e14)
theorem qav.call (k:Nat) (hC:∀ j, k = j + 1->zn Tryd.prog T base w0 (env (α:=α) j)):FnOk Tryd.prog T base w0 (env (α:=α) k) 37:=by
 intro X ι h w args xs κ out hX0 R hv e
 have e:env_37 k args κ h = some out:=e
 unfold env_37 at e
 match args, hv, e with
 | [a0], hv, e=>
  obtain ⟨_, rfl, e1⟩:=yl e
  obtain ⟨_, rfl, e2⟩:=jl e1
  cases k with
  | zero=>cases e2
  | succ k=>
   exact zt wide_ok hX0 tab_ok (hC k rfl) Tryd.func37 (by kernel_rfl:Tryd.f37.body = some qav.c.code) (by decide) (by kernel_rfl:Tryd.f37.results.toList = qav.res) (by kernel_rfl:icOk T Tryd.f37.ntmps qav.c = true) R (fun i h=>absurd h (hX0 i)) hv (Nat.le_of_ble_eq_true rfl) ((congrFun (qav.ok k _ κ) h).trans e2)
theorem qbc.call (k:Nat) (hC:∀ j, k = j + 1->zn Tryd.prog T base w0 (env (α:=α) j)):FnOk Tryd.prog T base w0 (env (α:=α) k) 76:=by
 intro X ι h w args xs κ out hX0 R hv e
 have e:env_76 k args κ h = some out:=e
 unfold env_76 at e
 match args, hv, e with
 | [a0], hv, e=>
  obtain ⟨_, rfl, e1⟩:=jh e
  cases k with
  | zero=>cases e1
  | succ k=>
   exact zt wide_ok hX0 tab_ok (hC k rfl) Tryd.func76 (by kernel_rfl:Tryd.f76.body = some qbc.c.code) (by decide) (by kernel_rfl:Tryd.f76.results.toList = qbc.res) (by kernel_rfl:icOk T Tryd.f76.ntmps qbc.c = true) R (fun i h=>absurd h (hX0 i)) hv (Nat.le_of_ble_eq_true rfl) ((congrFun (qbc.ok k _ κ) h).trans e1)
theorem qam.call (k:Nat) (hC:∀ j, k = j + 1->zn Tryd.prog T base w0 (env (α:=α) j)):FnOk Tryd.prog T base w0 (env (α:=α) k) 80:=by
 intro X ι h w args xs κ out hX0 R hv e
 have e:env_80 k args κ h = some out:=e
 unfold env_80 at e
 match args, hv, e with
 | [a0, a1], hv, e=>
  obtain ⟨_, rfl, e1⟩:=yl e
  obtain ⟨_, rfl, e2⟩:=jl e1
  obtain ⟨_, rfl, e3⟩:=jh e2
  cases k with
  | zero=>cases e3
  | succ k=>
   exact zt wide_ok hX0 tab_ok (hC k rfl) Tryd.func80 (by kernel_rfl:Tryd.f80.body = some qam.c.code) (by decide) (by kernel_rfl:Tryd.f80.results.toList = qam.res) (by kernel_rfl:icOk T Tryd.f80.ntmps qam.c = true) R (fun i h=>absurd h (hX0 i)) hv (Nat.le_of_ble_eq_true rfl) ((congrFun (qam.ok k _ _ κ) h).trans e3)
theorem qat.call (k:Nat) (hC:∀ j, k = j + 1->zn Tryd.prog T base w0 (env (α:=α) j)):FnOk Tryd.prog T base w0 (env (α:=α) k) 79:=by
 intro X ι h w args xs κ out hX0 R hv e
 have e:env_79 k args κ h = some out:=e
 unfold env_79 at e
 match args, hv, e with
 | [a0, a1], hv, e=>
  obtain ⟨_, rfl, e1⟩:=yl e
  obtain ⟨_, rfl, e2⟩:=jl e1
  obtain ⟨_, rfl, e3⟩:=jh e2
  cases k with
  | zero=>cases e3
  | succ k=>
   exact zt wide_ok hX0 tab_ok (hC k rfl) Tryd.func79 (by kernel_rfl:Tryd.f79.body = some qat.c.code) (by decide) (by kernel_rfl:Tryd.f79.results.toList = qat.res) (by kernel_rfl:icOk T Tryd.f79.ntmps qat.c = true) R (fun i h=>absurd h (hX0 i)) hv (Nat.le_of_ble_eq_true rfl) ((congrFun (qat.ok k _ _ κ) h).trans e3)
theorem qal.call (k:Nat) (hC:∀ j, k = j + 1->zn Tryd.prog T base w0 (env (α:=α) j)):FnOk Tryd.prog T base w0 (env (α:=α) k) 36:=by
 intro X ι h w args xs κ out hX0 R hv e
 have e:env_36 k args κ h = some out:=e
 unfold env_36 at e
 match args, hv, e with
 | [a0], hv, e=>
  obtain ⟨_, rfl, e1⟩:=yl e
  obtain ⟨_, rfl, e2⟩:=jl e1
  cases k with
  | zero=>cases e2
  | succ k=>
   exact zt wide_ok hX0 tab_ok (hC k rfl) Tryd.func36 (by kernel_rfl:Tryd.f36.body = some qal.c.code) (by decide) (by kernel_rfl:Tryd.f36.results.toList = qal.res) (by kernel_rfl:icOk T Tryd.f36.ntmps qal.c = true) R (fun i h=>absurd h (hX0 i)) hv (Nat.le_of_ble_eq_true rfl) ((congrFun (qal.ok k _ κ) h).trans e2)
theorem qah.call (k:Nat) (hC:∀ j, k = j + 1->zn Tryd.prog T base w0 (env (α:=α) j)):FnOk Tryd.prog T base w0 (env (α:=α) k) 54:=by
 intro X ι h w args xs κ out hX0 R hv e
 have e:env_54 k args κ h = some out:=e
 unfold env_54 at e
 match args, hv, e with
 | [a0, a1, a2, a3], hv, e=>
  obtain ⟨_, rfl, e1⟩:=yl e
  obtain ⟨_, rfl, e2⟩:=jl e1
  obtain ⟨_, rfl, e3⟩:=jh e2
  obtain ⟨_, rfl, e4⟩:=jc e3
  cases k with
  | zero=>cases e4
  | succ k=>
   exact zt wide_ok hX0 tab_ok (hC k rfl) Tryd.func54 (by kernel_rfl:Tryd.f54.body = some qah.c.code) (by decide) (by kernel_rfl:Tryd.f54.results.toList = qah.res) (by kernel_rfl:icOk T Tryd.f54.ntmps qah.c = true) R (fun i h=>absurd h (hX0 i)) hv (Nat.le_of_ble_eq_true rfl) ((congrFun (qah.ok k _ _ _ _ κ) h).trans e4)
theorem qaq.call (k:Nat) (hC:∀ j, k = j + 1->zn Tryd.prog T base w0 (env (α:=α) j)):FnOk Tryd.prog T base w0 (env (α:=α) k) 55:=by
 intro X ι h w args xs κ out hX0 R hv e
 have e:env_55 k args κ h = some out:=e
 unfold env_55 at e
 match args, hv, e with
 | [a0], hv, e=>
  obtain ⟨_, rfl, e1⟩:=yl e
  obtain ⟨_, rfl, e2⟩:=jl e1
  cases k with
  | zero=>cases e2
  | succ k=>
   exact zt wide_ok hX0 tab_ok (hC k rfl) Tryd.func55 (by kernel_rfl:Tryd.f55.body = some qaq.c.code) (by decide) (by kernel_rfl:Tryd.f55.results.toList = qaq.res) (by kernel_rfl:icOk T Tryd.f55.ntmps qaq.c = true) R (fun i h=>absurd h (hX0 i)) hv (Nat.le_of_ble_eq_true rfl) ((congrFun (qaq.ok k _ κ) h).trans e2)
theorem qh.call (k:Nat) (hC:∀ j, k = j + 1->zn Tryd.prog T base w0 (env (α:=α) j)):FnOk Tryd.prog T base w0 (env (α:=α) k) 72:=by
 intro X ι h w args xs κ out hX0 R hv e
 have e:env_72 k args κ h = some out:=e
 unfold env_72 at e
 match args, hv, e with
 | [a0], hv, e=>
  obtain ⟨_, rfl, e1⟩:=yl e
  obtain ⟨_, rfl, e2⟩:=jl e1
  cases k with
  | zero=>cases e2
  | succ k=>
   exact zt wide_ok hX0 tab_ok (hC k rfl) Tryd.func72 (by kernel_rfl:Tryd.f72.body = some qh.c.code) (by decide) (by kernel_rfl:Tryd.f72.results.toList = qh.res) (by kernel_rfl:icOk T Tryd.f72.ntmps qh.c = true) R (fun i h=>absurd h (hX0 i)) hv (Nat.le_of_ble_eq_true rfl) ((congrFun (qh.ok k _ κ) h).trans e2)
theorem qai.call (k:Nat) (hC:∀ j, k = j + 1->zn Tryd.prog T base w0 (env (α:=α) j)):FnOk Tryd.prog T base w0 (env (α:=α) k) 81:=by
 intro X ι h w args xs κ out hX0 R hv e
 have e:env_81 k args κ h = some out:=e
 unfold env_81 at e
 match args, hv, e with
 | [a0], hv, e=>
  obtain ⟨_, rfl, e1⟩:=yl e
  obtain ⟨_, rfl, e2⟩:=jl e1
  cases k with
  | zero=>cases e2
  | succ k=>
   exact zt wide_ok hX0 tab_ok (hC k rfl) Tryd.func81 (by kernel_rfl:Tryd.f81.body = some qai.c.code) (by decide) (by kernel_rfl:Tryd.f81.results.toList = qai.res) (by kernel_rfl:icOk T Tryd.f81.ntmps qai.c = true) R (fun i h=>absurd h (hX0 i)) hv (Nat.le_of_ble_eq_true rfl) ((congrFun (qai.ok k _ κ) h).trans e2)
theorem qaj.call (k:Nat) (hC:∀ j, k = j + 1->zn Tryd.prog T base w0 (env (α:=α) j)):FnOk Tryd.prog T base w0 (env (α:=α) k) 18:=by
 intro X ι h w args xs κ out hX0 R hv e
 have e:env_18 k args κ h = some out:=e
 unfold env_18 at e
 match args, hv, e with
 | [a0], hv, e=>
  obtain ⟨_, rfl, e1⟩:=jh e
  cases k with
  | zero=>cases e1
  | succ k=>
   exact zqc (pre:=qaj.as) (B:=qaj.u2.c) (C:=qaj.C.u1.c) (id:=4) (t:=14) (ops:=zb Tryd.f18 4) (mk:=opAt Tryd.f18 4 0) (df:=opAt Tryd.f18 4 1) (g:=33) (caps:=[.tmp 2, .tmp 3]) (idr:=0) (d0:=5) (rops:=zb Tryd.f33 0) (ro:=opAt Tryd.f33 0 0) (rs:=qaj.res) (keep:=[2, 3]) (dts:=#[]) (cts:=#[]) wide_ok hX0 tab_ok (hC k rfl) Tryd.func18 (by kernel_rfl:Tryd.f18.body = some (nest qaj.as (.seq (.region 4 (zb Tryd.f18 4) false) qaj.u2.c.code))) (by decide) (by kernel_rfl) (by kernel_rfl) (by kernel_rfl) (by kernel_rfl) (by decide) (by decide) (by kernel_rfl) (by kernel_rfl) (by kernel_rfl) (by kernel_rfl) (by kernel_rfl) (by kernel_rfl) (by kernel_rfl) Tryd.func33 (by decide) (by kernel_rfl:Tryd.f33.body = some (.seq (.region 0 (zb Tryd.f33 0) false) qaj.C.u1.c.code)) (by kernel_rfl) (by kernel_rfl) (by kernel_rfl) (by kernel_rfl) (by kernel_rfl) (by kernel_rfl) (by decide) (by decide) R hv (Nat.le_of_ble_eq_true rfl) ((congrFun (qaj.ok k _ κ) h).trans e1)
theorem qbe.call (k:Nat) (hC:∀ j, k = j + 1->zn Tryd.prog T base w0 (env (α:=α) j)):FnOk Tryd.prog T base w0 (env (α:=α) k) 27:=by
 intro X ι h w args xs κ out hX0 R hv e
 have e:env_27 k args κ h = some out:=e
 unfold env_27 at e
 match args, hv, e with
 | [a0], hv, e=>
  obtain ⟨_, rfl, e1⟩:=zbj e
  obtain ⟨_, _, rfl, e2⟩:=zx e1
  obtain ⟨_, rfl, e3⟩:=jc e2
  obtain ⟨_, _, rfl, e4⟩:=zx e3
  obtain ⟨_, rfl, e5⟩:=jc e4
  obtain ⟨_, _, rfl, e6⟩:=zx e5
  obtain ⟨_, rfl, e7⟩:=jc e6
  obtain ⟨_, _, rfl, e8⟩:=zx e7
  obtain ⟨_, rfl, e9⟩:=jh e8
  obtain ⟨_, _, rfl, e10⟩:=zx e9
  obtain ⟨_, rfl, e11⟩:=jc e10
  obtain ⟨rfl, e12⟩:=yj e11
  cases k with
  | zero=>cases e12
  | succ k=>
   exact zt wide_ok hX0 tab_ok (hC k rfl) Tryd.func27 (by kernel_rfl:Tryd.f27.body = some qbe.c.code) (by decide) (by kernel_rfl:Tryd.f27.results.toList = qbe.res) (by kernel_rfl:icOk T Tryd.f27.ntmps qbe.c = true) R (fun i h=>absurd h (hX0 i)) hv (Nat.le_of_ble_eq_true rfl) ((congrFun (qbe.ok k _ _ _ _ _ κ) h).trans e12)
theorem qaa.call (k:Nat) (hC:∀ j, k = j + 1->zn Tryd.prog T base w0 (env (α:=α) j)):FnOk Tryd.prog T base w0 (env (α:=α) k) 43:=by
 intro X ι h w args xs κ out hX0 R hv e
 have e:env_43 k args κ h = some out:=e
 unfold env_43 at e
 match args, hv, e with
 | [a0, a1], hv, e=>
  obtain ⟨_, rfl, e1⟩:=jq e
  obtain ⟨_, _, _, rfl, e2⟩:=zcl e1
  obtain ⟨hbe3, e3⟩:=zi e2
  obtain rfl:=Nat.eq_of_beq_eq_true hbe3
  obtain ⟨rfl, e4⟩:=yj e3
  obtain ⟨rfl, e5⟩:=yj e4
  cases k with
  | zero=>cases e5
  | succ k=>
   exact zt wide_ok hX0 tab_ok (hC k rfl) Tryd.func43 (by kernel_rfl:Tryd.f43.body = some qaa.c.code) (by decide) (by kernel_rfl:Tryd.f43.results.toList = qaa.res) (by kernel_rfl:icOk T Tryd.f43.ntmps qaa.c = true) R (fun i h=>absurd h (hX0 i)) hv (Nat.le_of_ble_eq_true rfl) ((congrFun (qaa.ok k _ κ) h).trans e5)
theorem qbf.call (k:Nat) (hC:∀ j, k = j + 1->zn Tryd.prog T base w0 (env (α:=α) j)):FnOk Tryd.prog T base w0 (env (α:=α) k) 26:=by
 intro X ι h w args xs κ out hX0 R hv e
 have e:env_26 k args κ h = some out:=e
 unfold env_26 at e
 match args, hv, e with
 | [a0, a1], hv, e=>
  obtain ⟨_, rfl, e1⟩:=jq e
  obtain ⟨_, _, _, rfl, e2⟩:=zcl e1
  obtain ⟨hbe3, e3⟩:=zi e2
  obtain rfl:=Nat.eq_of_beq_eq_true hbe3
  obtain ⟨rfl, e4⟩:=yj e3
  obtain ⟨rfl, e5⟩:=yj e4
  cases k with
  | zero=>cases e5
  | succ k=>
   exact zt wide_ok hX0 tab_ok (hC k rfl) Tryd.func26 (by kernel_rfl:Tryd.f26.body = some qbf.c.code) (by decide) (by kernel_rfl:Tryd.f26.results.toList = qbf.res) (by kernel_rfl:icOk T Tryd.f26.ntmps qbf.c = true) R (fun i h=>absurd h (hX0 i)) hv (Nat.le_of_ble_eq_true rfl) ((congrFun (qbf.ok k _ κ) h).trans e5)
theorem qay.call (k:Nat) (hC:∀ j, k = j + 1->zn Tryd.prog T base w0 (env (α:=α) j)):FnOk Tryd.prog T base w0 (env (α:=α) k) 42:=by
 intro X ι h w args xs κ out hX0 R hv e
 have e:env_42 k args κ h = some out:=e
 unfold env_42 at e
 match args, hv, e with
 | [a0], hv, e=>
  obtain ⟨_, rfl, e1⟩:=jq e
  cases k with
  | zero=>cases e1
  | succ k=>
   exact zt wide_ok hX0 tab_ok (hC k rfl) Tryd.func42 (by kernel_rfl:Tryd.f42.body = some qay.c.code) (by decide) (by kernel_rfl:Tryd.f42.results.toList = qay.res) (by kernel_rfl:icOk T Tryd.f42.ntmps qay.c = true) R (fun i h=>absurd h (hX0 i)) hv (Nat.le_of_ble_eq_true rfl) ((congrFun (qay.ok k _ κ) h).trans e1)
theorem qad.call (k:Nat) (hC:∀ j, k = j + 1->zn Tryd.prog T base w0 (env (α:=α) j)):FnOk Tryd.prog T base w0 (env (α:=α) k) 75:=by
 intro X ι h w args xs κ out hX0 R hv e
 have e:env_75 k args κ h = some out:=e
 unfold env_75 at e
 match args, hv, e with
 | [a0, a1, a2], hv, e=>
  obtain ⟨_, rfl, e1⟩:=jh e
  obtain ⟨_, rfl, e2⟩:=jc e1
  obtain ⟨_, rfl, e3⟩:=jc e2
  cases k with
  | zero=>cases e3
  | succ k=>
   exact zt wide_ok hX0 tab_ok (hC k rfl) Tryd.func75 (by kernel_rfl:Tryd.f75.body = some qad.c.code) (by decide) (by kernel_rfl:Tryd.f75.results.toList = qad.res) (by kernel_rfl:icOk T Tryd.f75.ntmps qad.c = true) R (fun i h=>absurd h (hX0 i)) hv (Nat.le_of_ble_eq_true rfl) ((congrFun (qad.ok k _ _ _ κ) h).trans e3)
theorem qax.call (k:Nat) (hC:∀ j, k = j + 1->zn Tryd.prog T base w0 (env (α:=α) j)):FnOk Tryd.prog T base w0 (env (α:=α) k) 60:=by
 intro X ι h w args xs κ out hX0 R hv e
 have e:env_60 k args κ h = some out:=e
 unfold env_60 at e
 match args, hv, e with
 | [a0], hv, e=>
  obtain ⟨_, rfl, e1⟩:=jh e
  cases k with
  | zero=>cases e1
  | succ k=>
   exact zt wide_ok hX0 tab_ok (hC k rfl) Tryd.func60 (by kernel_rfl:Tryd.f60.body = some qax.c.code) (by decide) (by kernel_rfl:Tryd.f60.results.toList = qax.res) (by kernel_rfl:icOk T Tryd.f60.ntmps qax.c = true) R (fun i h=>absurd h (hX0 i)) hv (Nat.le_of_ble_eq_true rfl) ((congrFun (qax.ok k _ κ) h).trans e1)
theorem qap.call (k:Nat) (hC:∀ j, k = j + 1->zn Tryd.prog T base w0 (env (α:=α) j)):FnOk Tryd.prog T base w0 (env (α:=α) k) 61:=by
 intro X ι h w args xs κ out hX0 R hv e
 have e:env_61 k args κ h = some out:=e
 unfold env_61 at e
 match args, hv, e with
 | [a0], hv, e=>
  obtain ⟨_, rfl, e1⟩:=jh e
  cases k with
  | zero=>cases e1
  | succ k=>
   exact zt wide_ok hX0 tab_ok (hC k rfl) Tryd.func61 (by kernel_rfl:Tryd.f61.body = some qap.c.code) (by decide) (by kernel_rfl:Tryd.f61.results.toList = qap.res) (by kernel_rfl:icOk T Tryd.f61.ntmps qap.c = true) R (fun i h=>absurd h (hX0 i)) hv (Nat.le_of_ble_eq_true rfl) ((congrFun (qap.ok k _ κ) h).trans e1)
theorem qbn.call (k:Nat) (hC:∀ j, k = j + 1->zn Tryd.prog T base w0 (env (α:=α) j)):FnOk Tryd.prog T base w0 (env (α:=α) k) 45:=by
 intro X ι h w args xs κ out hX0 R hv e
 have e:env_45 k args κ h = some out:=e
 unfold env_45 at e
 match args, hv, e with
 | [a0], hv, e=>
  obtain ⟨_, rfl, e1⟩:=zbj e
  obtain ⟨_, _, rfl, e2⟩:=zx e1
  obtain ⟨_, rfl, e3⟩:=jc e2
  obtain ⟨_, _, rfl, e4⟩:=zx e3
  obtain ⟨_, rfl, e5⟩:=jc e4
  obtain ⟨_, _, rfl, e6⟩:=zx e5
  obtain ⟨_, rfl, e7⟩:=jc e6
  obtain ⟨_, _, rfl, e8⟩:=zx e7
  obtain ⟨_, rfl, e9⟩:=jh e8
  obtain ⟨_, _, rfl, e10⟩:=zx e9
  obtain ⟨_, rfl, e11⟩:=jc e10
  obtain ⟨rfl, e12⟩:=yj e11
  cases k with
  | zero=>cases e12
  | succ k=>
   exact zt wide_ok hX0 tab_ok (hC k rfl) Tryd.func45 (by kernel_rfl:Tryd.f45.body = some qbn.c.code) (by decide) (by kernel_rfl:Tryd.f45.results.toList = qbn.res) (by kernel_rfl:icOk T Tryd.f45.ntmps qbn.c = true) R (fun i h=>absurd h (hX0 i)) hv (Nat.le_of_ble_eq_true rfl) ((congrFun (qbn.ok k _ _ _ _ _ κ) h).trans e12)
theorem qbo.call (k:Nat) (hC:∀ j, k = j + 1->zn Tryd.prog T base w0 (env (α:=α) j)):FnOk Tryd.prog T base w0 (env (α:=α) k) 47:=by
 intro X ι h w args xs κ out hX0 R hv e
 have e:env_47 k args κ h = some out:=e
 unfold env_47 at e
 match args, hv, e with
 | [a0], hv, e=>
  obtain ⟨_, rfl, e1⟩:=jc e
  cases k with
  | zero=>cases e1
  | succ k=>
   exact zt wide_ok hX0 tab_ok (hC k rfl) Tryd.func47 (by kernel_rfl:Tryd.f47.body = some qbo.c.code) (by decide) (by kernel_rfl:Tryd.f47.results.toList = qbo.res) (by kernel_rfl:icOk T Tryd.f47.ntmps qbo.c = true) R (fun i h=>absurd h (hX0 i)) hv (Nat.le_of_ble_eq_true rfl) ((congrFun (qbo.ok k _ κ) h).trans e1)
theorem qaf.call (k:Nat) (hC:∀ j, k = j + 1->zn Tryd.prog T base w0 (env (α:=α) j)):FnOk Tryd.prog T base w0 (env (α:=α) k) 62:=by
 intro X ι h w args xs κ out hX0 R hv e
 have e:env_62 k args κ h = some out:=e
 unfold env_62 at e
 match args, hv, e with
 | [a0, a1], hv, e=>
  obtain ⟨_, rfl, e1⟩:=jq e
  obtain ⟨_, _, _, rfl, e2⟩:=zcl e1
  obtain ⟨hbe3, e3⟩:=zi e2
  obtain rfl:=Nat.eq_of_beq_eq_true hbe3
  obtain ⟨rfl, e4⟩:=yj e3
  obtain ⟨rfl, e5⟩:=yj e4
  cases k with
  | zero=>cases e5
  | succ k=>
   exact zt wide_ok hX0 tab_ok (hC k rfl) Tryd.func62 (by kernel_rfl:Tryd.f62.body = some qaf.c.code) (by decide) (by kernel_rfl:Tryd.f62.results.toList = qaf.res) (by kernel_rfl:icOk T Tryd.f62.ntmps qaf.c = true) R (fun i h=>absurd h (hX0 i)) hv (Nat.le_of_ble_eq_true rfl) ((congrFun (qaf.ok k _ κ) h).trans e5)
theorem qbm.call (k:Nat) (hC:∀ j, k = j + 1->zn Tryd.prog T base w0 (env (α:=α) j)):FnOk Tryd.prog T base w0 (env (α:=α) k) 46:=by
 intro X ι h w args xs κ out hX0 R hv e
 have e:env_46 k args κ h = some out:=e
 unfold env_46 at e
 match args, hv, e with
 | [a0, a1], hv, e=>
  obtain ⟨_, rfl, e1⟩:=jq e
  obtain ⟨_, _, _, rfl, e2⟩:=zcl e1
  obtain ⟨hbe3, e3⟩:=zi e2
  obtain rfl:=Nat.eq_of_beq_eq_true hbe3
  obtain ⟨rfl, e4⟩:=yj e3
  obtain ⟨rfl, e5⟩:=yj e4
  cases k with
  | zero=>cases e5
  | succ k=>
   exact zt wide_ok hX0 tab_ok (hC k rfl) Tryd.func46 (by kernel_rfl:Tryd.f46.body = some qbm.c.code) (by decide) (by kernel_rfl:Tryd.f46.results.toList = qbm.res) (by kernel_rfl:icOk T Tryd.f46.ntmps qbm.c = true) R (fun i h=>absurd h (hX0 i)) hv (Nat.le_of_ble_eq_true rfl) ((congrFun (qbm.ok k _ κ) h).trans e5)
theorem qae.call (k:Nat) (hC:∀ j, k = j + 1->zn Tryd.prog T base w0 (env (α:=α) j)):FnOk Tryd.prog T base w0 (env (α:=α) k) 48:=by
 intro X ι h w args xs κ out hX0 R hv e
 have e:env_48 k args κ h = some out:=e
 unfold env_48 at e
 match args, hv, e with
 | [a0, a1], hv, e=>
  obtain ⟨_, rfl, e1⟩:=jq e
  obtain ⟨_, rfl, e2⟩:=jq e1
  cases k with
  | zero=>cases e2
  | succ k=>
   exact zt wide_ok hX0 tab_ok (hC k rfl) Tryd.func48 (by kernel_rfl:Tryd.f48.body = some qae.c.code) (by decide) (by kernel_rfl:Tryd.f48.results.toList = qae.res) (by kernel_rfl:icOk T Tryd.f48.ntmps qae.c = true) R (fun i h=>absurd h (hX0 i)) hv (Nat.le_of_ble_eq_true rfl) ((congrFun (qae.ok k _ _ κ) h).trans e2)
theorem qr.call (k:Nat) (hC:∀ j, k = j + 1->zn Tryd.prog T base w0 (env (α:=α) j)):FnOk Tryd.prog T base w0 (env (α:=α) k) 29:=by
 intro X ι h w args xs κ out hX0 R hv e
 have e:env_29 k args κ h = some out:=e
 unfold env_29 at e
 match args, hv, e with
 | [a0], hv, e=>
  obtain ⟨_, rfl, e1⟩:=jq e
  cases k with
  | zero=>cases e1
  | succ k=>
   exact zt wide_ok hX0 tab_ok (hC k rfl) Tryd.func29 (by kernel_rfl:Tryd.f29.body = some qr.c.code) (by decide) (by kernel_rfl:Tryd.f29.results.toList = qr.res) (by kernel_rfl:icOk T Tryd.f29.ntmps qr.c = true) R (fun i h=>absurd h (hX0 i)) hv (Nat.le_of_ble_eq_true rfl) ((congrFun (qr.ok k _ κ) h).trans e1)
theorem qw.call (k:Nat) (hC:∀ j, k = j + 1->zn Tryd.prog T base w0 (env (α:=α) j)):FnOk Tryd.prog T base w0 (env (α:=α) k) 63:=by
 intro X ι h w args xs κ out hX0 R hv e
 have e:env_63 k args κ h = some out:=e
 unfold env_63 at e
 match args, hv, e with
 | [a0, a1], hv, e=>
  obtain ⟨_, rfl, e1⟩:=yl e
  obtain ⟨_, rfl, e2⟩:=jl e1
  obtain ⟨_, rfl, e3⟩:=jh e2
  cases k with
  | zero=>cases e3
  | succ k=>
   exact zt wide_ok hX0 tab_ok (hC k rfl) Tryd.func63 (by kernel_rfl:Tryd.f63.body = some qw.c.code) (by decide) (by kernel_rfl:Tryd.f63.results.toList = qw.res) (by kernel_rfl:icOk T Tryd.f63.ntmps qw.c = true) R (fun i h=>absurd h (hX0 i)) hv (Nat.le_of_ble_eq_true rfl) ((congrFun (qw.ok k _ _ κ) h).trans e3)
theorem qc.call (k:Nat) (hC:∀ j, k = j + 1->zn Tryd.prog T base w0 (env (α:=α) j)):FnOk Tryd.prog T base w0 (env (α:=α) k) 49:=by
 intro X ι h w args xs κ out hX0 R hv e
 have e:env_49 k args κ h = some out:=e
 unfold env_49 at e
 match args, hv, e with
 | [a0, a1], hv, e=>
  obtain ⟨_, rfl, e1⟩:=yl e
  obtain ⟨_, rfl, e2⟩:=jl e1
  obtain ⟨_, rfl, e3⟩:=jc e2
  cases k with
  | zero=>cases e3
  | succ k=>
   exact zt wide_ok hX0 tab_ok (hC k rfl) Tryd.func49 (by kernel_rfl:Tryd.f49.body = some qc.c.code) (by decide) (by kernel_rfl:Tryd.f49.results.toList = qc.res) (by kernel_rfl:icOk T Tryd.f49.ntmps qc.c = true) R (fun i h=>absurd h (hX0 i)) hv (Nat.le_of_ble_eq_true rfl) ((congrFun (qc.ok k _ _ κ) h).trans e3)
theorem qac.call (k:Nat) (hC:∀ j, k = j + 1->zn Tryd.prog T base w0 (env (α:=α) j)):FnOk Tryd.prog T base w0 (env (α:=α) k) 30:=by
 intro X ι h w args xs κ out hX0 R hv e
 have e:env_30 k args κ h = some out:=e
 unfold env_30 at e
 match args, hv, e with
 | [a0], hv, e=>
  obtain ⟨_, rfl, e1⟩:=jq e
  cases k with
  | zero=>cases e1
  | succ k=>
   exact zt wide_ok hX0 tab_ok (hC k rfl) Tryd.func30 (by kernel_rfl:Tryd.f30.body = some qac.c.code) (by decide) (by kernel_rfl:Tryd.f30.results.toList = qac.res) (by kernel_rfl:icOk T Tryd.f30.ntmps qac.c = true) R (fun i h=>absurd h (hX0 i)) hv (Nat.le_of_ble_eq_true rfl) ((congrFun (qac.ok k _ κ) h).trans e1)
theorem qaz.call (k:Nat) (hC:∀ j, k = j + 1->zn Tryd.prog T base w0 (env (α:=α) j)):FnOk Tryd.prog T base w0 (env (α:=α) k) 59:=by
 intro X ι h w args xs κ out hX0 R hv e
 have e:env_59 k args κ h = some out:=e
 unfold env_59 at e
 match args, hv, e with
 | [a0], hv, e=>
  obtain ⟨_, rfl, e1⟩:=zbj e
  obtain ⟨_, _, rfl, e2⟩:=zx e1
  obtain ⟨_, rfl, e3⟩:=jc e2
  obtain ⟨_, _, rfl, e4⟩:=zx e3
  obtain ⟨_, rfl, e5⟩:=jc e4
  obtain ⟨_, _, rfl, e6⟩:=zx e5
  obtain ⟨_, rfl, e7⟩:=jc e6
  obtain ⟨_, _, rfl, e8⟩:=zx e7
  obtain ⟨_, rfl, e9⟩:=jh e8
  obtain ⟨_, _, rfl, e10⟩:=zx e9
  obtain ⟨_, rfl, e11⟩:=jc e10
  obtain ⟨rfl, e12⟩:=yj e11
  cases k with
  | zero=>cases e12
  | succ k=>
   exact zt wide_ok hX0 tab_ok (hC k rfl) Tryd.func59 (by kernel_rfl:Tryd.f59.body = some qaz.c.code) (by decide) (by kernel_rfl:Tryd.f59.results.toList = qaz.res) (by kernel_rfl:icOk T Tryd.f59.ntmps qaz.c = true) R (fun i h=>absurd h (hX0 i)) hv (Nat.le_of_ble_eq_true rfl) ((congrFun (qaz.ok k _ _ _ _ _ κ) h).trans e12)
theorem qa.call (k:Nat) (hC:∀ j, k = j + 1->zn Tryd.prog T base w0 (env (α:=α) j)):FnOk Tryd.prog T base w0 (env (α:=α) k) 44:=by
 intro X ι h w args xs κ out hX0 R hv e
 have e:env_44 k args κ h = some out:=e
 unfold env_44 at e
 match args, hv, e with
 | [a0], hv, e=>
  obtain ⟨_, rfl, e1⟩:=jq e
  cases k with
  | zero=>cases e1
  | succ k=>
   exact zt wide_ok hX0 tab_ok (hC k rfl) Tryd.func44 (by kernel_rfl:Tryd.f44.body = some qa.c.code) (by decide) (by kernel_rfl:Tryd.f44.results.toList = qa.res) (by kernel_rfl:icOk T Tryd.f44.ntmps qa.c = true) R (fun i h=>absurd h (hX0 i)) hv (Nat.le_of_ble_eq_true rfl) ((congrFun (qa.ok k _ κ) h).trans e1)
theorem qs.call (k:Nat) (hC:∀ j, k = j + 1->zn Tryd.prog T base w0 (env (α:=α) j)):FnOk Tryd.prog T base w0 (env (α:=α) k) 28:=by
 intro X ι h w args xs κ out hX0 R hv e
 have e:env_28 k args κ h = some out:=e
 unfold env_28 at e
 match args, hv, e with
 | [a0], hv, e=>
  obtain ⟨_, rfl, e1⟩:=jq e
  cases k with
  | zero=>cases e1
  | succ k=>
   exact zt wide_ok hX0 tab_ok (hC k rfl) Tryd.func28 (by kernel_rfl:Tryd.f28.body = some qs.c.code) (by decide) (by kernel_rfl:Tryd.f28.results.toList = qs.res) (by kernel_rfl:icOk T Tryd.f28.ntmps qs.c = true) R (fun i h=>absurd h (hX0 i)) hv (Nat.le_of_ble_eq_true rfl) ((congrFun (qs.ok k _ κ) h).trans e1)
theorem qas.call (k:Nat) (hC:∀ j, k = j + 1->zn Tryd.prog T base w0 (env (α:=α) j)):FnOk Tryd.prog T base w0 (env (α:=α) k) 13:=by
 intro X ι h w args xs κ out hX0 R hv e
 have e:env_13 k args κ h = some out:=e
 unfold env_13 at e
 match args, hv, e with
 | [a0], hv, e=>
  obtain ⟨_, rfl, e1⟩:=jq e
  cases k with
  | zero=>cases e1
  | succ k=>
   exact zt wide_ok hX0 tab_ok (hC k rfl) Tryd.func13 (by kernel_rfl:Tryd.f13.body = some qas.c.code) (by decide) (by kernel_rfl:Tryd.f13.results.toList = qas.res) (by kernel_rfl:icOk T Tryd.f13.ntmps qas.c = true) R (fun i h=>absurd h (hX0 i)) hv (Nat.le_of_ble_eq_true rfl) ((congrFun (qas.ok k _ κ) h).trans e1)
theorem qbg.call (k:Nat) (hC:∀ j, k = j + 1->zn Tryd.prog T base w0 (env (α:=α) j)):FnOk Tryd.prog T base w0 (env (α:=α) k) 15:=by
 intro X ι h w args xs κ out hX0 R hv e
 have e:env_15 k args κ h = some out:=e
 unfold env_15 at e
 match args, hv, e with
 | [a0], hv, e=>
  obtain ⟨_, rfl, e1⟩:=jq e
  cases k with
  | zero=>cases e1
  | succ k=>
   exact zt wide_ok hX0 tab_ok (hC k rfl) Tryd.func15 (by kernel_rfl:Tryd.f15.body = some qbg.c.code) (by decide) (by kernel_rfl:Tryd.f15.results.toList = qbg.res) (by kernel_rfl:icOk T Tryd.f15.ntmps qbg.c = true) R (fun i h=>absurd h (hX0 i)) hv (Nat.le_of_ble_eq_true rfl) ((congrFun (qbg.ok k _ κ) h).trans e1)
theorem qz.call (k:Nat) (hC:∀ j, k = j + 1->zn Tryd.prog T base w0 (env (α:=α) j)):FnOk Tryd.prog T base w0 (env (α:=α) k) 23:=by
 intro X ι h w args xs κ out hX0 R hv e
 have e:env_23 k args κ h = some out:=e
 unfold env_23 at e
 match args, hv, e with
 | [a0], hv, e=>
  obtain ⟨_, rfl, e1⟩:=jq e
  cases k with
  | zero=>cases e1
  | succ k=>
   exact zt wide_ok hX0 tab_ok (hC k rfl) Tryd.func23 (by kernel_rfl:Tryd.f23.body = some qz.c.code) (by decide) (by kernel_rfl:Tryd.f23.results.toList = qz.res) (by kernel_rfl:icOk T Tryd.f23.ntmps qz.c = true) R (fun i h=>absurd h (hX0 i)) hv (Nat.le_of_ble_eq_true rfl) ((congrFun (qz.ok k _ κ) h).trans e1)
theorem qb.call (k:Nat) (hC:∀ j, k = j + 1->zn Tryd.prog T base w0 (env (α:=α) j)):FnOk Tryd.prog T base w0 (env (α:=α) k) 10:=by
 intro X ι h w args xs κ out hX0 R hv e
 have e:env_10 k args κ h = some out:=e
 unfold env_10 at e
 match args, hv, e with
 | [a0], hv, e=>
  obtain ⟨_, rfl, e1⟩:=jq e
  cases k with
  | zero=>cases e1
  | succ k=>
   exact zt wide_ok hX0 tab_ok (hC k rfl) Tryd.func10 (by kernel_rfl:Tryd.f10.body = some qb.c.code) (by decide) (by kernel_rfl:Tryd.f10.results.toList = qb.res) (by kernel_rfl:icOk T Tryd.f10.ntmps qb.c = true) R (fun i h=>absurd h (hX0 i)) hv (Nat.le_of_ble_eq_true rfl) ((congrFun (qb.ok k _ κ) h).trans e1)
theorem qg.call (k:Nat) (hC:∀ j, k = j + 1->zn Tryd.prog T base w0 (env (α:=α) j)):FnOk Tryd.prog T base w0 (env (α:=α) k) 12:=by
 intro X ι h w args xs κ out hX0 R hv e
 have e:env_12 k args κ h = some out:=e
 unfold env_12 at e
 match args, hv, e with
 | [a0], hv, e=>
  obtain ⟨_, rfl, e1⟩:=jq e
  cases k with
  | zero=>cases e1
  | succ k=>
   exact zt wide_ok hX0 tab_ok (hC k rfl) Tryd.func12 (by kernel_rfl:Tryd.f12.body = some qg.c.code) (by decide) (by kernel_rfl:Tryd.f12.results.toList = qg.res) (by kernel_rfl:icOk T Tryd.f12.ntmps qg.c = true) R (fun i h=>absurd h (hX0 i)) hv (Nat.le_of_ble_eq_true rfl) ((congrFun (qg.ok k _ κ) h).trans e1)
theorem qbl.call (k:Nat) (hC:∀ j, k = j + 1->zn Tryd.prog T base w0 (env (α:=α) j)):FnOk Tryd.prog T base w0 (env (α:=α) k) 8:=by
 intro X ι h w args xs κ out hX0 R hv e
 have e:env_8 k args κ h = some out:=e
 unfold env_8 at e
 match args, hv, e with
 | [], hv, e=>
  cases k with
  | zero=>cases e
  | succ k=>
   exact zt wide_ok hX0 tab_ok (hC k rfl) Tryd.func8 (by kernel_rfl:Tryd.f8.body = some qbl.c.code) (by decide) (by kernel_rfl:Tryd.f8.results.toList = qbl.res) (by kernel_rfl:icOk T Tryd.f8.ntmps qbl.c = true) R (fun i h=>absurd h (hX0 i)) hv (Nat.le_of_ble_eq_true rfl) ((congrFun (qbl.ok k κ) h).trans e)
theorem qt.call (k:Nat) (hC:∀ j, k = j + 1->zn Tryd.prog T base w0 (env (α:=α) j)):FnOk Tryd.prog T base w0 (env (α:=α) k) 41:=by
 intro X ι h w args xs κ out hX0 R hv e
 have e:env_41 k args κ h = some out:=e
 unfold env_41 at e
 match args, hv, e with
 | [a0], hv, e=>
  obtain ⟨_, rfl, e1⟩:=jq e
  cases k with
  | zero=>cases e1
  | succ k=>
   exact zt wide_ok hX0 tab_ok (hC k rfl) Tryd.func41 (by kernel_rfl:Tryd.f41.body = some qt.c.code) (by decide) (by kernel_rfl:Tryd.f41.results.toList = qt.res) (by kernel_rfl:icOk T Tryd.f41.ntmps qt.c = true) R (fun i h=>absurd h (hX0 i)) hv (Nat.le_of_ble_eq_true rfl) ((congrFun (qt.ok k _ κ) h).trans e1)
theorem qbb.call (k:Nat) (hC:∀ j, k = j + 1->zn Tryd.prog T base w0 (env (α:=α) j)):FnOk Tryd.prog T base w0 (env (α:=α) k) 39:=by
 intro X ι h w args xs κ out hX0 R hv e
 have e:env_39 k args κ h = some out:=e
 unfold env_39 at e
 match args, hv, e with
 | [a0], hv, e=>
  obtain ⟨_, rfl, e1⟩:=jc e
  cases k with
  | zero=>cases e1
  | succ k=>
   exact zt wide_ok hX0 tab_ok (hC k rfl) Tryd.func39 (by kernel_rfl:Tryd.f39.body = some qbb.c.code) (by decide) (by kernel_rfl:Tryd.f39.results.toList = qbb.res) (by kernel_rfl:icOk T Tryd.f39.ntmps qbb.c = true) R (fun i h=>absurd h (hX0 i)) hv (Nat.le_of_ble_eq_true rfl) ((congrFun (qbb.ok k _ κ) h).trans e1)
theorem qo.call (k:Nat) (hC:∀ j, k = j + 1->zn Tryd.prog T base w0 (env (α:=α) j)):FnOk Tryd.prog T base w0 (env (α:=α) k) 82:=by
 intro X ι h w args xs κ out hX0 R hv e
 have e:env_82 k args κ h = some out:=e
 unfold env_82 at e
 match args, hv, e with
 | [a0], hv, e=>
  obtain ⟨_, rfl, e1⟩:=jh e
  cases k with
  | zero=>cases e1
  | succ k=>
   exact zt wide_ok hX0 tab_ok (hC k rfl) Tryd.func82 (by kernel_rfl:Tryd.f82.body = some qo.c.code) (by decide) (by kernel_rfl:Tryd.f82.results.toList = qo.res) (by kernel_rfl:icOk T Tryd.f82.ntmps qo.c = true) R (fun i h=>absurd h (hX0 i)) hv (Nat.le_of_ble_eq_true rfl) ((congrFun (qo.ok k _ κ) h).trans e1)
theorem qba.call (k:Nat) (hC:∀ j, k = j + 1->zn Tryd.prog T base w0 (env (α:=α) j)):FnOk Tryd.prog T base w0 (env (α:=α) k) 83:=by
 intro X ι h w args xs κ out hX0 R hv e
 have e:env_83 k args κ h = some out:=e
 unfold env_83 at e
 match args, hv, e with
 | [a0], hv, e=>
  obtain ⟨_, rfl, e1⟩:=jh e
  cases k with
  | zero=>cases e1
  | succ k=>
   exact zt wide_ok hX0 tab_ok (hC k rfl) Tryd.func83 (by kernel_rfl:Tryd.f83.body = some qba.c.code) (by decide) (by kernel_rfl:Tryd.f83.results.toList = qba.res) (by kernel_rfl:icOk T Tryd.f83.ntmps qba.c = true) R (fun i h=>absurd h (hX0 i)) hv (Nat.le_of_ble_eq_true rfl) ((congrFun (qba.ok k _ κ) h).trans e1)
theorem qbk.call (k:Nat) (hC:∀ j, k = j + 1->zn Tryd.prog T base w0 (env (α:=α) j)):FnOk Tryd.prog T base w0 (env (α:=α) k) 74:=by
 intro X ι h w args xs κ out hX0 R hv e
 have e:env_74 k args κ h = some out:=e
 unfold env_74 at e
 match args, hv, e with
 | [a0], hv, e=>
  obtain ⟨_, rfl, e1⟩:=zbj e
  obtain ⟨_, _, rfl, e2⟩:=zx e1
  obtain ⟨_, rfl, e3⟩:=jc e2
  obtain ⟨_, _, rfl, e4⟩:=zx e3
  obtain ⟨_, rfl, e5⟩:=jc e4
  obtain ⟨_, _, rfl, e6⟩:=zx e5
  obtain ⟨_, rfl, e7⟩:=jc e6
  obtain ⟨_, _, rfl, e8⟩:=zx e7
  obtain ⟨_, rfl, e9⟩:=jh e8
  obtain ⟨_, _, rfl, e10⟩:=zx e9
  obtain ⟨_, rfl, e11⟩:=jc e10
  obtain ⟨rfl, e12⟩:=yj e11
  cases k with
  | zero=>cases e12
  | succ k=>
   exact zt wide_ok hX0 tab_ok (hC k rfl) Tryd.func74 (by kernel_rfl:Tryd.f74.body = some qbk.c.code) (by decide) (by kernel_rfl:Tryd.f74.results.toList = qbk.res) (by kernel_rfl:icOk T Tryd.f74.ntmps qbk.c = true) R (fun i h=>absurd h (hX0 i)) hv (Nat.le_of_ble_eq_true rfl) ((congrFun (qbk.ok k _ _ _ _ _ κ) h).trans e12)
theorem qm.call (k:Nat) (hC:∀ j, k = j + 1->zn Tryd.prog T base w0 (env (α:=α) j)):FnOk Tryd.prog T base w0 (env (α:=α) k) 57:=by
 intro X ι h w args xs κ out hX0 R hv e
 have e:env_57 k args κ h = some out:=e
 unfold env_57 at e
 match args, hv, e with
 | [a0], hv, e=>
  obtain ⟨_, rfl, e1⟩:=jq e
  cases k with
  | zero=>cases e1
  | succ k=>
   exact zt wide_ok hX0 tab_ok (hC k rfl) Tryd.func57 (by kernel_rfl:Tryd.f57.body = some qm.c.code) (by decide) (by kernel_rfl:Tryd.f57.results.toList = qm.res) (by kernel_rfl:icOk T Tryd.f57.ntmps qm.c = true) R (fun i h=>absurd h (hX0 i)) hv (Nat.le_of_ble_eq_true rfl) ((congrFun (qm.ok k _ κ) h).trans e1)
theorem ql.call (k:Nat) (hC:∀ j, k = j + 1->zn Tryd.prog T base w0 (env (α:=α) j)):FnOk Tryd.prog T base w0 (env (α:=α) k) 20:=by
 intro X ι h w args xs κ out hX0 R hv e
 have e:env_20 k args κ h = some out:=e
 unfold env_20 at e
 match args, hv, e with
 | [a0], hv, e=>
  obtain ⟨_, rfl, e1⟩:=jq e
  cases k with
  | zero=>cases e1
  | succ k=>
   exact zt wide_ok hX0 tab_ok (hC k rfl) Tryd.func20 (by kernel_rfl:Tryd.f20.body = some ql.c.code) (by decide) (by kernel_rfl:Tryd.f20.results.toList = ql.res) (by kernel_rfl:icOk T Tryd.f20.ntmps ql.c = true) R (fun i h=>absurd h (hX0 i)) hv (Nat.le_of_ble_eq_true rfl) ((congrFun (ql.ok k _ κ) h).trans e1)
theorem qar.call (k:Nat) (hC:∀ j, k = j + 1->zn Tryd.prog T base w0 (env (α:=α) j)):FnOk Tryd.prog T base w0 (env (α:=α) k) 24:=by
 intro X ι h w args xs κ out hX0 R hv e
 have e:env_24 k args κ h = some out:=e
 unfold env_24 at e
 match args, hv, e with
 | [a0], hv, e=>
  obtain ⟨_, rfl, e1⟩:=zbj e
  obtain ⟨_, _, rfl, e2⟩:=zx e1
  obtain ⟨_, rfl, e3⟩:=jc e2
  obtain ⟨_, _, rfl, e4⟩:=zx e3
  obtain ⟨_, rfl, e5⟩:=jc e4
  obtain ⟨_, _, rfl, e6⟩:=zx e5
  obtain ⟨_, rfl, e7⟩:=jc e6
  obtain ⟨_, _, rfl, e8⟩:=zx e7
  obtain ⟨_, rfl, e9⟩:=jh e8
  obtain ⟨_, _, rfl, e10⟩:=zx e9
  obtain ⟨_, rfl, e11⟩:=jc e10
  obtain ⟨rfl, e12⟩:=yj e11
  cases k with
  | zero=>cases e12
  | succ k=>
   exact zt wide_ok hX0 tab_ok (hC k rfl) Tryd.func24 (by kernel_rfl:Tryd.f24.body = some qar.c.code) (by decide) (by kernel_rfl:Tryd.f24.results.toList = qar.res) (by kernel_rfl:icOk T Tryd.f24.ntmps qar.c = true) R (fun i h=>absurd h (hX0 i)) hv (Nat.le_of_ble_eq_true rfl) ((congrFun (qar.ok k _ _ _ _ _ κ) h).trans e12)
theorem qn.call (k:Nat) (hC:∀ j, k = j + 1->zn Tryd.prog T base w0 (env (α:=α) j)):FnOk Tryd.prog T base w0 (env (α:=α) k) 73:=by
 intro X ι h w args xs κ out hX0 R hv e
 have e:env_73 k args κ h = some out:=e
 unfold env_73 at e
 match args, hv, e with
 | [a0], hv, e=>
  obtain ⟨_, rfl, e1⟩:=jq e
  cases k with
  | zero=>cases e1
  | succ k=>
   exact zt wide_ok hX0 tab_ok (hC k rfl) Tryd.func73 (by kernel_rfl:Tryd.f73.body = some qn.c.code) (by decide) (by kernel_rfl:Tryd.f73.results.toList = qn.res) (by kernel_rfl:icOk T Tryd.f73.ntmps qn.c = true) R (fun i h=>absurd h (hX0 i)) hv (Nat.le_of_ble_eq_true rfl) ((congrFun (qn.ok k _ κ) h).trans e1)
theorem qx.call (k:Nat) (hC:∀ j, k = j + 1->zn Tryd.prog T base w0 (env (α:=α) j)):FnOk Tryd.prog T base w0 (env (α:=α) k) 58:=by
 intro X ι h w args xs κ out hX0 R hv e
 have e:env_58 k args κ h = some out:=e
 unfold env_58 at e
 match args, hv, e with
 | [a0, a1, a2], hv, e=>
  obtain ⟨_, rfl, e1⟩:=jq e
  obtain ⟨_, rfl, e2⟩:=jq e1
  obtain ⟨_, rfl, e3⟩:=jc e2
  cases k with
  | zero=>cases e3
  | succ k=>
   exact zt wide_ok hX0 tab_ok (hC k rfl) Tryd.func58 (by kernel_rfl:Tryd.f58.body = some qx.c.code) (by decide) (by kernel_rfl:Tryd.f58.results.toList = qx.res) (by kernel_rfl:icOk T Tryd.f58.ntmps qx.c = true) R (fun i h=>absurd h (hX0 i)) hv (Nat.le_of_ble_eq_true rfl) ((congrFun (qx.ok k _ _ _ κ) h).trans e3)
theorem qf.call (k:Nat) (hC:∀ j, k = j + 1->zn Tryd.prog T base w0 (env (α:=α) j)):FnOk Tryd.prog T base w0 (env (α:=α) k) 56:=by
 intro X ι h w args xs κ out hX0 R hv e
 have e:env_56 k args κ h = some out:=e
 unfold env_56 at e
 match args, hv, e with
 | [a0], hv, e=>
  obtain ⟨_, rfl, e1⟩:=jq e
  cases k with
  | zero=>cases e1
  | succ k=>
   exact zt wide_ok hX0 tab_ok (hC k rfl) Tryd.func56 (by kernel_rfl:Tryd.f56.body = some qf.c.code) (by decide) (by kernel_rfl:Tryd.f56.results.toList = qf.res) (by kernel_rfl:icOk T Tryd.f56.ntmps qf.c = true) R (fun i h=>absurd h (hX0 i)) hv (Nat.le_of_ble_eq_true rfl) ((congrFun (qf.ok k _ κ) h).trans e1)
theorem qau.call (k:Nat) (hC:∀ j, k = j + 1->zn Tryd.prog T base w0 (env (α:=α) j)):FnOk Tryd.prog T base w0 (env (α:=α) k) 38:=by
 intro X ι h w args xs κ out hX0 R hv e
 have e:env_38 k args κ h = some out:=e
 unfold env_38 at e
 match args, hv, e with
 | [a0], hv, e=>
  obtain ⟨_, rfl, e1⟩:=jq e
  cases k with
  | zero=>cases e1
  | succ k=>
   exact zt wide_ok hX0 tab_ok (hC k rfl) Tryd.func38 (by kernel_rfl:Tryd.f38.body = some qau.c.code) (by decide) (by kernel_rfl:Tryd.f38.results.toList = qau.res) (by kernel_rfl:icOk T Tryd.f38.ntmps qau.c = true) R (fun i h=>absurd h (hX0 i)) hv (Nat.le_of_ble_eq_true rfl) ((congrFun (qau.ok k _ κ) h).trans e1)
theorem qv.call (k:Nat) (hC:∀ j, k = j + 1->zn Tryd.prog T base w0 (env (α:=α) j)):FnOk Tryd.prog T base w0 (env (α:=α) k) 19:=by
 intro X ι h w args xs κ out hX0 R hv e
 have e:env_19 k args κ h = some out:=e
 unfold env_19 at e
 match args, hv, e with
 | [a0], hv, e=>
  obtain ⟨_, rfl, e1⟩:=jq e
  cases k with
  | zero=>cases e1
  | succ k=>
   exact zt wide_ok hX0 tab_ok (hC k rfl) Tryd.func19 (by kernel_rfl:Tryd.f19.body = some qv.c.code) (by decide) (by kernel_rfl:Tryd.f19.results.toList = qv.res) (by kernel_rfl:icOk T Tryd.f19.ntmps qv.c = true) R (fun i h=>absurd h (hX0 i)) hv (Nat.le_of_ble_eq_true rfl) ((congrFun (qv.ok k _ κ) h).trans e1)
theorem qy.call (k:Nat) (hC:∀ j, k = j + 1->zn Tryd.prog T base w0 (env (α:=α) j)):FnOk Tryd.prog T base w0 (env (α:=α) k) 40:=by
 intro X ι h w args xs κ out hX0 R hv e
 have e:env_40 k args κ h = some out:=e
 unfold env_40 at e
 match args, hv, e with
 | [a0], hv, e=>
  obtain ⟨_, rfl, e1⟩:=jq e
  cases k with
  | zero=>cases e1
  | succ k=>
   exact zt wide_ok hX0 tab_ok (hC k rfl) Tryd.func40 (by kernel_rfl:Tryd.f40.body = some qy.c.code) (by decide) (by kernel_rfl:Tryd.f40.results.toList = qy.res) (by kernel_rfl:icOk T Tryd.f40.ntmps qy.c = true) R (fun i h=>absurd h (hX0 i)) hv (Nat.le_of_ble_eq_true rfl) ((congrFun (qy.ok k _ κ) h).trans e1)
theorem qbh.call (k:Nat) (hC:∀ j, k = j + 1->zn Tryd.prog T base w0 (env (α:=α) j)):FnOk Tryd.prog T base w0 (env (α:=α) k) 21:=by
 intro X ι h w args xs κ out hX0 R hv e
 have e:env_21 k args κ h = some out:=e
 unfold env_21 at e
 match args, hv, e with
 | [a0], hv, e=>
  obtain ⟨_, rfl, e1⟩:=jq e
  cases k with
  | zero=>cases e1
  | succ k=>
   exact zt wide_ok hX0 tab_ok (hC k rfl) Tryd.func21 (by kernel_rfl:Tryd.f21.body = some qbh.c.code) (by decide) (by kernel_rfl:Tryd.f21.results.toList = qbh.res) (by kernel_rfl:icOk T Tryd.f21.ntmps qbh.c = true) R (fun i h=>absurd h (hX0 i)) hv (Nat.le_of_ble_eq_true rfl) ((congrFun (qbh.ok k _ κ) h).trans e1)
theorem qag.call (k:Nat) (hC:∀ j, k = j + 1->zn Tryd.prog T base w0 (env (α:=α) j)):FnOk Tryd.prog T base w0 (env (α:=α) k) 22:=by
 intro X ι h w args xs κ out hX0 R hv e
 have e:env_22 k args κ h = some out:=e
 unfold env_22 at e
 match args, hv, e with
 | [a0, a1, a2], hv, e=>
  obtain ⟨_, rfl, e1⟩:=jq e
  obtain ⟨_, rfl, e2⟩:=jc e1
  obtain ⟨_, rfl, e3⟩:=jc e2
  cases k with
  | zero=>cases e3
  | succ k=>
   exact zt wide_ok hX0 tab_ok (hC k rfl) Tryd.func22 (by kernel_rfl:Tryd.f22.body = some qag.c.code) (by decide) (by kernel_rfl:Tryd.f22.results.toList = qag.res) (by kernel_rfl:icOk T Tryd.f22.ntmps qag.c = true) R (fun i h=>absurd h (hX0 i)) hv (Nat.le_of_ble_eq_true rfl) ((congrFun (qag.ok k _ _ _ κ) h).trans e3)
theorem qi.call (k:Nat) (hC:∀ j, k = j + 1->zn Tryd.prog T base w0 (env (α:=α) j)):FnOk Tryd.prog T base w0 (env (α:=α) k) 9:=by
 intro X ι h w args xs κ out hX0 R hv e
 have e:env_9 k args κ h = some out:=e
 unfold env_9 at e
 match args, hv, e with
 | [a0], hv, e=>
  obtain ⟨_, rfl, e1⟩:=jq e
  cases k with
  | zero=>cases e1
  | succ k=>
   exact zt wide_ok hX0 tab_ok (hC k rfl) Tryd.func9 (by kernel_rfl:Tryd.f9.body = some qi.c.code) (by decide) (by kernel_rfl:Tryd.f9.results.toList = qi.res) (by kernel_rfl:icOk T Tryd.f9.ntmps qi.c = true) R (fun i h=>absurd h (hX0 i)) hv (Nat.le_of_ble_eq_true rfl) ((congrFun (qi.ok k _ κ) h).trans e1)
theorem qd.call (k:Nat) (hC:∀ j, k = j + 1->zn Tryd.prog T base w0 (env (α:=α) j)):FnOk Tryd.prog T base w0 (env (α:=α) k) 11:=by
 intro X ι h w args xs κ out hX0 R hv e
 have e:env_11 k args κ h = some out:=e
 unfold env_11 at e
 match args, hv, e with
 | [a0], hv, e=>
  obtain ⟨_, rfl, e1⟩:=jq e
  cases k with
  | zero=>cases e1
  | succ k=>
   exact zt wide_ok hX0 tab_ok (hC k rfl) Tryd.func11 (by kernel_rfl:Tryd.f11.body = some qd.c.code) (by decide) (by kernel_rfl:Tryd.f11.results.toList = qd.res) (by kernel_rfl:icOk T Tryd.f11.ntmps qd.c = true) R (fun i h=>absurd h (hX0 i)) hv (Nat.le_of_ble_eq_true rfl) ((congrFun (qd.ok k _ κ) h).trans e1)
theorem qj.call (k:Nat) (hC:∀ j, k = j + 1->zn Tryd.prog T base w0 (env (α:=α) j)):FnOk Tryd.prog T base w0 (env (α:=α) k) 4:=by
 intro X ι h w args xs κ out hX0 R hv e
 have e:env_4 k args κ h = some out:=e
 unfold env_4 at e
 match args, hv, e with
 | [a0], hv, e=>
  obtain ⟨_, rfl, e1⟩:=jq e
  cases k with
  | zero=>cases e1
  | succ k=>
   exact zt wide_ok hX0 tab_ok (hC k rfl) Tryd.func4 (by kernel_rfl:Tryd.f4.body = some qj.c.code) (by decide) (by kernel_rfl:Tryd.f4.results.toList = qj.res) (by kernel_rfl:icOk T Tryd.f4.ntmps qj.c = true) R (fun i h=>absurd h (hX0 i)) hv (Nat.le_of_ble_eq_true rfl) ((congrFun (qj.ok k _ κ) h).trans e1)
end
end Go.Ab.S5
