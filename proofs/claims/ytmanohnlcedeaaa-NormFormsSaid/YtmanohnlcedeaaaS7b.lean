import Derived.Test.YtmanohnlcedeaaaAb15
import Derived.Test.YtmanohnlcedeaaaAb19
import Derived.Test.YtmanohnlcedeaaaS7a
set_option linter.unusedVariables false
set_option linter.unusedSimpArgs false
namespace Go.Ab.S7
section
variable {α:Type}
open Go.Proofs
variable {base:Nat} {w0:World}
theorem wide_ok:Try.prog.follows .mixedOrders = true:=by kernel_rfl
theorem ti3 {i:TI} (h:ti 3 = some i):TIOk Try.prog 3 i:=by
 cases h
 exact TIOk.of 116 Try.underlying3 Try.type3 rfl rfl rfl rfl rfl rfl rfl rfl rfl Try.types_size rfl (nofun)
theorem ti4 {i:TI} (h:ti 4 = some i):TIOk Try.prog 4 i:=by
 cases h
 exact TIOk.of 116 Try.underlying4 Try.type4 rfl rfl rfl rfl rfl rfl rfl rfl rfl Try.types_size rfl (nofun)
theorem ti5 {i:TI} (h:ti 5 = some i):TIOk Try.prog 5 i:=by
 cases h
 exact TIOk.of 116 Try.underlying5 Try.type5 rfl rfl rfl rfl rfl rfl rfl rfl rfl Try.types_size rfl (nofun)
theorem ti9 {i:TI} (h:ti 9 = some i):TIOk Try.prog 9 i:=by
 cases h
 exact TIOk.of 116 Try.underlying9 Try.type9 rfl rfl rfl rfl rfl rfl rfl rfl rfl Try.types_size rfl (nofun)
theorem ti20 {i:TI} (h:ti 20 = some i):TIOk Try.prog 20 i:=by
 cases h
 exact TIOk.of 116 Try.underlying20 Try.type20 rfl rfl rfl rfl rfl rfl rfl rfl rfl Try.types_size rfl (nofun)
theorem ti22 {i:TI} (h:ti 22 = some i):TIOk Try.prog 22 i:=by
 cases h
 exact TIOk.of 116 Try.underlying22 Try.type22 rfl rfl rfl rfl rfl rfl rfl rfl rfl Try.types_size rfl (nofun)
theorem ti25 {i:TI} (h:ti 25 = some i):TIOk Try.prog 25 i:=by
 cases h
 exact TIOk.of 116 Try.underlying25 Try.type25 rfl rfl rfl rfl rfl rfl rfl rfl trivial Try.types_size rfl (fun _=>zdb Try.underlying25 Try.stoodInHeld25 Try.eqGuardType25 ⟨by decide, rfl, Try.underlying3, ⟨by decide, rfl, Try.underlying3, ⟨by decide, rfl, Try.underlying3, ⟨by decide, rfl, Try.underlying9, ⟨by decide, rfl, Try.underlying3, trivial⟩⟩⟩⟩⟩)
theorem ti31 {i:TI} (h:ti 31 = some i):TIOk Try.prog 31 i:=by
 cases h
 exact TIOk.of 116 Try.underlying31 Try.type31 rfl rfl rfl rfl rfl rfl rfl rfl rfl Try.types_size rfl (nofun)
theorem ti35 {i:TI} (h:ti 35 = some i):TIOk Try.prog 35 i:=by
 cases h
 exact TIOk.of 116 Try.underlying35 Try.type35 rfl rfl rfl rfl rfl rfl rfl rfl rfl Try.types_size rfl (nofun)
theorem ti44 {i:TI} (h:ti 44 = some i):TIOk Try.prog 44 i:=by
 cases h
 exact TIOk.of 116 Try.underlying44 Try.type44 rfl rfl rfl rfl rfl rfl rfl rfl rfl Try.types_size rfl (nofun)
theorem ti45 {i:TI} (h:ti 45 = some i):TIOk Try.prog 45 i:=by
 cases h
 exact TIOk.of 116 Try.underlying45 Try.type45 rfl rfl rfl rfl rfl rfl rfl rfl rfl Try.types_size rfl (nofun)
theorem ti46 {i:TI} (h:ti 46 = some i):TIOk Try.prog 46 i:=by
 cases h
 exact TIOk.of 116 Try.underlying46 Try.type46 rfl rfl rfl rfl rfl rfl rfl rfl rfl Try.types_size rfl (nofun)
theorem ti47 {i:TI} (h:ti 47 = some i):TIOk Try.prog 47 i:=by
 cases h
 exact TIOk.of 116 Try.underlying47 Try.type47 rfl rfl rfl rfl rfl rfl rfl rfl rfl Try.types_size rfl (nofun)
theorem ti49 {i:TI} (h:ti 49 = some i):TIOk Try.prog 49 i:=by
 cases h
 exact TIOk.of 116 Try.underlying49 Try.type49 rfl rfl rfl rfl rfl rfl rfl rfl trivial Try.types_size rfl (nofun)
theorem ti55 {i:TI} (h:ti 55 = some i):TIOk Try.prog 55 i:=by
 cases h
 exact TIOk.of 116 Try.underlying55 Try.type55 rfl rfl rfl rfl rfl rfl rfl rfl rfl Try.types_size rfl (nofun)
theorem ti59 {i:TI} (h:ti 59 = some i):TIOk Try.prog 59 i:=by
 cases h
 exact TIOk.of 116 Try.underlying59 Try.type59 rfl rfl rfl rfl rfl rfl rfl rfl trivial Try.types_size rfl (fun _=>zdb Try.underlying59 Try.stoodInHeld59 Try.eqGuardType59 ⟨by decide, rfl, Try.underlying3, ⟨by decide, rfl, Try.underlying31, trivial⟩⟩)
theorem ti61 {i:TI} (h:ti 61 = some i):TIOk Try.prog 61 i:=by
 cases h
 exact TIOk.of 116 Try.underlying61 Try.type61 rfl rfl rfl rfl rfl rfl rfl rfl trivial Try.types_size rfl (nofun)
theorem ti62 {i:TI} (h:ti 62 = some i):TIOk Try.prog 62 i:=by
 cases h
 exact TIOk.of 116 Try.underlying62 Try.type62 rfl rfl rfl rfl rfl rfl rfl rfl rfl Try.types_size rfl (nofun)
theorem ti66 {i:TI} (h:ti 66 = some i):TIOk Try.prog 66 i:=by
 cases h
 exact TIOk.of 116 Try.underlying66 Try.type66 rfl rfl rfl rfl rfl rfl rfl rfl trivial Try.types_size rfl (fun _=>zdb Try.underlying66 Try.stoodInHeld66 Try.eqGuardType66 ⟨by decide, rfl, Try.underlying3, ⟨by decide, rfl, Try.underlying3, ⟨by decide, rfl, Try.underlying9, ⟨by decide, rfl, Try.underlying3, trivial⟩⟩⟩⟩)
theorem ti69 {i:TI} (h:ti 69 = some i):TIOk Try.prog 69 i:=by
 cases h
 exact TIOk.of 116 Try.underlying69 Try.type69 rfl rfl rfl rfl rfl rfl rfl rfl trivial Try.types_size rfl (nofun)
theorem ti73 {i:TI} (h:ti 73 = some i):TIOk Try.prog 73 i:=by
 cases h
 exact TIOk.of 116 Try.underlying73 Try.type73 rfl rfl rfl rfl rfl rfl rfl rfl trivial Try.types_size rfl (nofun)
theorem ti89 {i:TI} (h:ti 89 = some i):TIOk Try.prog 89 i:=by
 cases h
 exact TIOk.of 116 Try.underlying89 Try.type89 rfl rfl rfl rfl rfl rfl rfl rfl trivial Try.types_size rfl (fun _=>zdb Try.underlying89 Try.stoodInHeld89 Try.eqGuardType89 ⟨by decide, rfl, Try.underlying3, ⟨by decide, rfl, Try.underlying3, trivial⟩⟩)
theorem tab_ok:TabOk Try.prog T:=by
 refine ⟨fun t i h=>?_⟩
 by_cases h3:t = 3
 ·subst h3; exact ti3 h
 by_cases h4:t = 4
 ·subst h4; exact ti4 h
 by_cases h5:t = 5
 ·subst h5; exact ti5 h
 by_cases h9:t = 9
 ·subst h9; exact ti9 h
 by_cases h20:t = 20
 ·subst h20; exact ti20 h
 by_cases h22:t = 22
 ·subst h22; exact ti22 h
 by_cases h25:t = 25
 ·subst h25; exact ti25 h
 by_cases h31:t = 31
 ·subst h31; exact ti31 h
 by_cases h35:t = 35
 ·subst h35; exact ti35 h
 by_cases h44:t = 44
 ·subst h44; exact ti44 h
 by_cases h45:t = 45
 ·subst h45; exact ti45 h
 by_cases h46:t = 46
 ·subst h46; exact ti46 h
 by_cases h47:t = 47
 ·subst h47; exact ti47 h
 by_cases h49:t = 49
 ·subst h49; exact ti49 h
 by_cases h55:t = 55
 ·subst h55; exact ti55 h
 by_cases h59:t = 59
 ·subst h59; exact ti59 h
 by_cases h61:t = 61
 ·subst h61; exact ti61 h
 by_cases h62:t = 62
 ·subst h62; exact ti62 h
 by_cases h66:t = 66
 ·subst h66; exact ti66 h
 by_cases h69:t = 69
 ·subst h69; exact ti69 h
 by_cases h73:t = 73
 ·subst h73; exact ti73 h
 by_cases h89:t = 89
 ·subst h89; exact ti89 h
 have:ti t = none:=by
  unfold ti
  split <;> first | rfl | contradiction
 rw [show T.ti t = ti t from rfl, this] at h
 cases h
theorem qbu.call (k:Nat) (hC:∀ j, k = j + 1->zo Try.prog T base w0 (env (α:=α) j)):FnOk Try.prog T base w0 (env (α:=α) k) 64:=by
 intro X ι h w args xs κ out hX0 R hv e
 have e:env_64 k args κ h = some out:=e
 unfold env_64 at e
 match args, hv, e with
 | [a0, a1], hv, e=>
  obtain ⟨_, rfl, e1⟩:=jl e
  obtain ⟨_, rfl, e2⟩:=jd e1
  cases k with
  | zero=>cases e2
  | succ k=>
   exact zp wide_ok hX0 tab_ok (hC k rfl) Try.func64 (by kernel_rfl:Try.f64.body = some qbu.c.code) (by decide) (by kernel_rfl:Try.f64.results.toList = qbu.res) (by kernel_rfl:icOk T Try.f64.ntmps qbu.c = true) R (fun i h=>absurd h (hX0 i)) hv (Nat.le_of_ble_eq_true rfl) ((congrFun (qbu.ok k _ _ κ) h).trans e2)
theorem qbt.call (k:Nat) (hC:∀ j, k = j + 1->zo Try.prog T base w0 (env (α:=α) j)):FnOk Try.prog T base w0 (env (α:=α) k) 50:=by
 intro X ι h w args xs κ out hX0 R hv e
 have e:env_50 k args κ h = some out:=e
 unfold env_50 at e
 match args, hv, e with
 | [a0, a1], hv, e=>
  obtain ⟨_, rfl, e1⟩:=jl e
  obtain ⟨_, rfl, e2⟩:=jd e1
  cases k with
  | zero=>cases e2
  | succ k=>
   exact zp wide_ok hX0 tab_ok (hC k rfl) Try.func50 (by kernel_rfl:Try.f50.body = some qbt.c.code) (by decide) (by kernel_rfl:Try.f50.results.toList = qbt.res) (by kernel_rfl:icOk T Try.f50.ntmps qbt.c = true) R (fun i h=>absurd h (hX0 i)) hv (Nat.le_of_ble_eq_true rfl) ((congrFun (qbt.ok k _ _ κ) h).trans e2)
theorem qbp.call (k:Nat) (hC:∀ j, k = j + 1->zo Try.prog T base w0 (env (α:=α) j)):FnOk Try.prog T base w0 (env (α:=α) k) 65:=by
 intro X ι h w args xs κ out hX0 R hv e
 have e:env_65 k args κ h = some out:=e
 unfold env_65 at e
 match args, hv, e with
 | [a0], hv, e=>
  obtain ⟨_, rfl, e1⟩:=jd e
  cases k with
  | zero=>cases e1
  | succ k=>
   exact zp wide_ok hX0 tab_ok (hC k rfl) Try.func65 (by kernel_rfl:Try.f65.body = some qbp.c.code) (by decide) (by kernel_rfl:Try.f65.results.toList = qbp.res) (by kernel_rfl:icOk T Try.f65.ntmps qbp.c = true) R (fun i h=>absurd h (hX0 i)) hv (Nat.le_of_ble_eq_true rfl) ((congrFun (qbp.ok k _ κ) h).trans e1)
theorem qf.call (k:Nat) (hC:∀ j, k = j + 1->zo Try.prog T base w0 (env (α:=α) j)):FnOk Try.prog T base w0 (env (α:=α) k) 66:=by
 intro X ι h w args xs κ out hX0 R hv e
 have e:env_66 k args κ h = some out:=e
 unfold env_66 at e
 match args, hv, e with
 | [a0, a1], hv, e=>
  obtain ⟨_, rfl, e1⟩:=jd e
  obtain ⟨_, rfl, e2⟩:=jl e1
  cases k with
  | zero=>cases e2
  | succ k=>
   exact zp wide_ok hX0 tab_ok (hC k rfl) Try.func66 (by kernel_rfl:Try.f66.body = some qf.c.code) (by decide) (by kernel_rfl:Try.f66.results.toList = qf.res) (by kernel_rfl:icOk T Try.f66.ntmps qf.c = true) R (fun i h=>absurd h (hX0 i)) hv (Nat.le_of_ble_eq_true rfl) ((congrFun (qf.ok k _ _ κ) h).trans e2)
theorem qk.call (k:Nat) (hC:∀ j, k = j + 1->zo Try.prog T base w0 (env (α:=α) j)):FnOk Try.prog T base w0 (env (α:=α) k) 67:=by
 intro X ι h w args xs κ out hX0 R hv e
 have e:env_67 k args κ h = some out:=e
 unfold env_67 at e
 match args, hv, e with
 | [a0], hv, e=>
  obtain ⟨_, rfl, e1⟩:=jl e
  cases k with
  | zero=>cases e1
  | succ k=>
   exact zp wide_ok hX0 tab_ok (hC k rfl) Try.func67 (by kernel_rfl:Try.f67.body = some qk.c.code) (by decide) (by kernel_rfl:Try.f67.results.toList = qk.res) (by kernel_rfl:icOk T Try.f67.ntmps qk.c = true) R (fun i h=>absurd h (hX0 i)) hv (Nat.le_of_ble_eq_true rfl) ((congrFun (qk.ok k _ κ) h).trans e1)
theorem qbj.call (k:Nat) (hC:∀ j, k = j + 1->zo Try.prog T base w0 (env (α:=α) j)):FnOk Try.prog T base w0 (env (α:=α) k) 51:=by
 intro X ι h w args xs κ out hX0 R hv e
 have e:env_51 k args κ h = some out:=e
 unfold env_51 at e
 match args, hv, e with
 | [a0, a1], hv, e=>
  obtain ⟨_, rfl, e1⟩:=jl e
  obtain ⟨_, rfl, e2⟩:=jd e1
  cases k with
  | zero=>cases e2
  | succ k=>
   exact zp wide_ok hX0 tab_ok (hC k rfl) Try.func51 (by kernel_rfl:Try.f51.body = some qbj.c.code) (by decide) (by kernel_rfl:Try.f51.results.toList = qbj.res) (by kernel_rfl:icOk T Try.f51.ntmps qbj.c = true) R (fun i h=>absurd h (hX0 i)) hv (Nat.le_of_ble_eq_true rfl) ((congrFun (qbj.ok k _ _ κ) h).trans e2)
theorem ql.call (k:Nat) (hC:∀ j, k = j + 1->zo Try.prog T base w0 (env (α:=α) j)):FnOk Try.prog T base w0 (env (α:=α) k) 34:=by
 intro X ι h w args xs κ out hX0 R hv e
 have e:env_34 k args κ h = some out:=e
 unfold env_34 at e
 match args, hv, e with
 | [a0], hv, e=>
  obtain ⟨_, rfl, e1⟩:=jl e
  cases k with
  | zero=>cases e1
  | succ k=>
   exact zp wide_ok hX0 tab_ok (hC k rfl) Try.func34 (by kernel_rfl:Try.f34.body = some ql.c.code) (by decide) (by kernel_rfl:Try.f34.results.toList = ql.res) (by kernel_rfl:icOk T Try.f34.ntmps ql.c = true) R (fun i h=>absurd h (hX0 i)) hv (Nat.le_of_ble_eq_true rfl) ((congrFun (ql.ok k _ κ) h).trans e1)
theorem qbe.call (k:Nat) (hC:∀ j, k = j + 1->zo Try.prog T base w0 (env (α:=α) j)):FnOk Try.prog T base w0 (env (α:=α) k) 37:=by
 intro X ι h w args xs κ out hX0 R hv e
 have e:env_37 k args κ h = some out:=e
 unfold env_37 at e
 match args, hv, e with
 | [a0], hv, e=>
  obtain ⟨_, rfl, e1⟩:=zbk e
  obtain ⟨_, _, rfl, e2⟩:=zu e1
  obtain ⟨_, rfl, e3⟩:=jd e2
  obtain ⟨_, _, rfl, e4⟩:=zu e3
  obtain ⟨_, rfl, e5⟩:=jd e4
  obtain ⟨_, _, rfl, e6⟩:=zu e5
  obtain ⟨_, rfl, e7⟩:=jl e6
  obtain ⟨_, _, rfl, e8⟩:=zu e7
  obtain ⟨_, rfl, e9⟩:=jd e8
  obtain ⟨rfl, e10⟩:=yg e9
  cases k with
  | zero=>cases e10
  | succ k=>
   exact zp wide_ok hX0 tab_ok (hC k rfl) Try.func37 (by kernel_rfl:Try.f37.body = some qbe.c.code) (by decide) (by kernel_rfl:Try.f37.results.toList = qbe.res) (by kernel_rfl:icOk T Try.f37.ntmps qbe.c = true) R (fun i h=>absurd h (hX0 i)) hv (Nat.le_of_ble_eq_true rfl) ((congrFun (qbe.ok k _ _ _ _ κ) h).trans e10)
theorem qv.call (k:Nat) (hC:∀ j, k = j + 1->zo Try.prog T base w0 (env (α:=α) j)):FnOk Try.prog T base w0 (env (α:=α) k) 52:=by
 intro X ι h w args xs κ out hX0 R hv e
 have e:env_52 k args κ h = some out:=e
 unfold env_52 at e
 match args, hv, e with
 | [a0, a1], hv, e=>
  obtain ⟨_, rfl, e1⟩:=jh e
  obtain ⟨_, _, _, rfl, e2⟩:=zcj e1
  obtain ⟨hbe3, e3⟩:=zf e2
  obtain rfl:=Nat.eq_of_beq_eq_true hbe3
  obtain ⟨rfl, e4⟩:=yg e3
  obtain ⟨rfl, e5⟩:=yg e4
  cases k with
  | zero=>cases e5
  | succ k=>
   exact zp wide_ok hX0 tab_ok (hC k rfl) Try.func52 (by kernel_rfl:Try.f52.body = some qv.c.code) (by decide) (by kernel_rfl:Try.f52.results.toList = qv.res) (by kernel_rfl:icOk T Try.f52.ntmps qv.c = true) R (fun i h=>absurd h (hX0 i)) hv (Nat.le_of_ble_eq_true rfl) ((congrFun (qv.ok k _ κ) h).trans e5)
theorem qr.call (k:Nat) (hC:∀ j, k = j + 1->zo Try.prog T base w0 (env (α:=α) j)):FnOk Try.prog T base w0 (env (α:=α) k) 36:=by
 intro X ι h w args xs κ out hX0 R hv e
 have e:env_36 k args κ h = some out:=e
 unfold env_36 at e
 match args, hv, e with
 | [a0, a1], hv, e=>
  obtain ⟨_, rfl, e1⟩:=jh e
  obtain ⟨_, _, _, rfl, e2⟩:=zcj e1
  obtain ⟨hbe3, e3⟩:=zf e2
  obtain rfl:=Nat.eq_of_beq_eq_true hbe3
  obtain ⟨rfl, e4⟩:=yg e3
  obtain ⟨rfl, e5⟩:=yg e4
  cases k with
  | zero=>cases e5
  | succ k=>
   exact zp wide_ok hX0 tab_ok (hC k rfl) Try.func36 (by kernel_rfl:Try.f36.body = some qr.c.code) (by decide) (by kernel_rfl:Try.f36.results.toList = qr.res) (by kernel_rfl:icOk T Try.f36.ntmps qr.c = true) R (fun i h=>absurd h (hX0 i)) hv (Nat.le_of_ble_eq_true rfl) ((congrFun (qr.ok k _ κ) h).trans e5)
theorem qat.call (k:Nat) (hC:∀ j, k = j + 1->zo Try.prog T base w0 (env (α:=α) j)):FnOk Try.prog T base w0 (env (α:=α) k) 68:=by
 intro X ι h w args xs κ out hX0 R hv e
 have e:env_68 k args κ h = some out:=e
 unfold env_68 at e
 match args, hv, e with
 | [a0, a1], hv, e=>
  obtain ⟨_, rfl, e1⟩:=yj e
  obtain ⟨_, rfl, e2⟩:=jm e1
  obtain ⟨_, rfl, e3⟩:=jl e2
  cases k with
  | zero=>cases e3
  | succ k=>
   exact zp wide_ok hX0 tab_ok (hC k rfl) Try.func68 (by kernel_rfl:Try.f68.body = some qat.c.code) (by decide) (by kernel_rfl:Try.f68.results.toList = qat.res) (by kernel_rfl:icOk T Try.f68.ntmps qat.c = true) R (fun i h=>absurd h (hX0 i)) hv (Nat.le_of_ble_eq_true rfl) ((congrFun (qat.ok k _ _ κ) h).trans e3)
theorem qan.call (k:Nat) (hC:∀ j, k = j + 1->zo Try.prog T base w0 (env (α:=α) j)):FnOk Try.prog T base w0 (env (α:=α) k) 75:=by
 intro X ι h w args xs κ out hX0 R hv e
 have e:env_75 k args κ h = some out:=e
 unfold env_75 at e
 match args, hv, e with
 | [a0], hv, e=>
  obtain ⟨_, rfl, e1⟩:=yj e
  obtain ⟨_, rfl, e2⟩:=jm e1
  cases k with
  | zero=>cases e2
  | succ k=>
   exact zp wide_ok hX0 tab_ok (hC k rfl) Try.func75 (by kernel_rfl:Try.f75.body = some qan.c.code) (by decide) (by kernel_rfl:Try.f75.results.toList = qan.res) (by kernel_rfl:icOk T Try.f75.ntmps qan.c = true) R (fun i h=>absurd h (hX0 i)) hv (Nat.le_of_ble_eq_true rfl) ((congrFun (qan.ok k _ κ) h).trans e2)
theorem qak.call (k:Nat) (hC:∀ j, k = j + 1->zo Try.prog T base w0 (env (α:=α) j)):FnOk Try.prog T base w0 (env (α:=α) k) 69:=by
 intro X ι h w args xs κ out hX0 R hv e
 have e:env_69 k args κ h = some out:=e
 unfold env_69 at e
 match args, hv, e with
 | [a0], hv, e=>
  obtain ⟨_, rfl, e1⟩:=yj e
  obtain ⟨_, rfl, e2⟩:=jm e1
  cases k with
  | zero=>cases e2
  | succ k=>
   exact zp wide_ok hX0 tab_ok (hC k rfl) Try.func69 (by kernel_rfl:Try.f69.body = some qak.c.code) (by decide) (by kernel_rfl:Try.f69.results.toList = qak.res) (by kernel_rfl:icOk T Try.f69.ntmps qak.c = true) R (fun i h=>absurd h (hX0 i)) hv (Nat.le_of_ble_eq_true rfl) ((congrFun (qak.ok k _ κ) h).trans e2)
theorem qah.call (k:Nat) (hC:∀ j, k = j + 1->zo Try.prog T base w0 (env (α:=α) j)):FnOk Try.prog T base w0 (env (α:=α) k) 70:=by
 intro X ι h w args xs κ out hX0 R hv e
 have e:env_70 k args κ h = some out:=e
 unfold env_70 at e
 match args, hv, e with
 | [a0, a1], hv, e=>
  obtain ⟨_, rfl, e1⟩:=yj e
  obtain ⟨_, rfl, e2⟩:=jm e1
  obtain ⟨_, rfl, e3⟩:=zbk e2
  obtain ⟨_, _, rfl, e4⟩:=zu e3
  obtain ⟨_, rfl, e5⟩:=jd e4
  obtain ⟨_, _, rfl, e6⟩:=zu e5
  obtain ⟨_, rfl, e7⟩:=jd e6
  obtain ⟨_, _, rfl, e8⟩:=zu e7
  obtain ⟨_, rfl, e9⟩:=jd e8
  obtain ⟨_, _, rfl, e10⟩:=zu e9
  obtain ⟨_, rfl, e11⟩:=jl e10
  obtain ⟨_, _, rfl, e12⟩:=zu e11
  obtain ⟨_, rfl, e13⟩:=jd e12
  obtain ⟨rfl, e14⟩:=yg e13
  cases k with
  | zero=>cases e14
  | succ k=>
   exact zp wide_ok hX0 tab_ok (hC k rfl) Try.func70 (by kernel_rfl:Try.f70.body = some qah.c.code) (by decide) (by kernel_rfl:Try.f70.results.toList = qah.res) (by kernel_rfl:icOk T Try.f70.ntmps qah.c = true) R (fun i h=>absurd h (hX0 i)) hv (Nat.le_of_ble_eq_true rfl) ((congrFun (qah.ok k _ _ _ _ _ _ κ) h).trans e14)
theorem qav.call (k:Nat) (hC:∀ j, k = j + 1->zo Try.prog T base w0 (env (α:=α) j)):FnOk Try.prog T base w0 (env (α:=α) k) 39:=by
 intro X ι h w args xs κ out hX0 R hv e
 have e:env_39 k args κ h = some out:=e
 unfold env_39 at e
 match args, hv, e with
 | [a0], hv, e=>
  obtain ⟨_, rfl, e1⟩:=yj e
  obtain ⟨_, rfl, e2⟩:=jm e1
  cases k with
  | zero=>cases e2
  | succ k=>
   exact zp wide_ok hX0 tab_ok (hC k rfl) Try.func39 (by kernel_rfl:Try.f39.body = some qav.c.code) (by decide) (by kernel_rfl:Try.f39.results.toList = qav.res) (by kernel_rfl:icOk T Try.f39.ntmps qav.c = true) R (fun i h=>absurd h (hX0 i)) hv (Nat.le_of_ble_eq_true rfl) ((congrFun (qav.ok k _ κ) h).trans e2)
theorem qbf.call (k:Nat) (hC:∀ j, k = j + 1->zo Try.prog T base w0 (env (α:=α) j)):FnOk Try.prog T base w0 (env (α:=α) k) 63:=by
 intro X ι h w args xs κ out hX0 R hv e
 have e:env_63 k args κ h = some out:=e
 unfold env_63 at e
 match args, hv, e with
 | [a0], hv, e=>
  obtain ⟨_, rfl, e1⟩:=jl e
  cases k with
  | zero=>cases e1
  | succ k=>
   exact zp wide_ok hX0 tab_ok (hC k rfl) Try.func63 (by kernel_rfl:Try.f63.body = some qbf.c.code) (by decide) (by kernel_rfl:Try.f63.results.toList = qbf.res) (by kernel_rfl:icOk T Try.f63.ntmps qbf.c = true) R (fun i h=>absurd h (hX0 i)) hv (Nat.le_of_ble_eq_true rfl) ((congrFun (qbf.ok k _ κ) h).trans e1)
theorem qaj.call (k:Nat) (hC:∀ j, k = j + 1->zo Try.prog T base w0 (env (α:=α) j)):FnOk Try.prog T base w0 (env (α:=α) k) 77:=by
 intro X ι h w args xs κ out hX0 R hv e
 have e:env_77 k args κ h = some out:=e
 unfold env_77 at e
 match args, hv, e with
 | [a0, a1], hv, e=>
  obtain ⟨_, rfl, e1⟩:=yj e
  obtain ⟨_, rfl, e2⟩:=jm e1
  obtain ⟨_, rfl, e3⟩:=jl e2
  cases k with
  | zero=>cases e3
  | succ k=>
   exact zp wide_ok hX0 tab_ok (hC k rfl) Try.func77 (by kernel_rfl:Try.f77.body = some qaj.c.code) (by decide) (by kernel_rfl:Try.f77.results.toList = qaj.res) (by kernel_rfl:icOk T Try.f77.ntmps qaj.c = true) R (fun i h=>absurd h (hX0 i)) hv (Nat.le_of_ble_eq_true rfl) ((congrFun (qaj.ok k _ _ κ) h).trans e3)
theorem qaq.call (k:Nat) (hC:∀ j, k = j + 1->zo Try.prog T base w0 (env (α:=α) j)):FnOk Try.prog T base w0 (env (α:=α) k) 76:=by
 intro X ι h w args xs κ out hX0 R hv e
 have e:env_76 k args κ h = some out:=e
 unfold env_76 at e
 match args, hv, e with
 | [a0, a1], hv, e=>
  obtain ⟨_, rfl, e1⟩:=yj e
  obtain ⟨_, rfl, e2⟩:=jm e1
  obtain ⟨_, rfl, e3⟩:=jl e2
  cases k with
  | zero=>cases e3
  | succ k=>
   exact zp wide_ok hX0 tab_ok (hC k rfl) Try.func76 (by kernel_rfl:Try.f76.body = some qaq.c.code) (by decide) (by kernel_rfl:Try.f76.results.toList = qaq.res) (by kernel_rfl:icOk T Try.f76.ntmps qaq.c = true) R (fun i h=>absurd h (hX0 i)) hv (Nat.le_of_ble_eq_true rfl) ((congrFun (qaq.ok k _ _ κ) h).trans e3)
theorem qai.call (k:Nat) (hC:∀ j, k = j + 1->zo Try.prog T base w0 (env (α:=α) j)):FnOk Try.prog T base w0 (env (α:=α) k) 38:=by
 intro X ι h w args xs κ out hX0 R hv e
 have e:env_38 k args κ h = some out:=e
 unfold env_38 at e
 match args, hv, e with
 | [a0], hv, e=>
  obtain ⟨_, rfl, e1⟩:=yj e
  obtain ⟨_, rfl, e2⟩:=jm e1
  cases k with
  | zero=>cases e2
  | succ k=>
   exact zp wide_ok hX0 tab_ok (hC k rfl) Try.func38 (by kernel_rfl:Try.f38.body = some qai.c.code) (by decide) (by kernel_rfl:Try.f38.results.toList = qai.res) (by kernel_rfl:icOk T Try.f38.ntmps qai.c = true) R (fun i h=>absurd h (hX0 i)) hv (Nat.le_of_ble_eq_true rfl) ((congrFun (qai.ok k _ κ) h).trans e2)
theorem qab.call (k:Nat) (hC:∀ j, k = j + 1->zo Try.prog T base w0 (env (α:=α) j)):FnOk Try.prog T base w0 (env (α:=α) k) 53:=by
 intro X ι h w args xs κ out hX0 R hv e
 have e:env_53 k args κ h = some out:=e
 unfold env_53 at e
 match args, hv, e with
 | [a0, a1, a2, a3], hv, e=>
  obtain ⟨_, rfl, e1⟩:=yj e
  obtain ⟨_, rfl, e2⟩:=jm e1
  obtain ⟨_, rfl, e3⟩:=jl e2
  obtain ⟨_, rfl, e4⟩:=jd e3
  cases k with
  | zero=>cases e4
  | succ k=>
   exact zp wide_ok hX0 tab_ok (hC k rfl) Try.func53 (by kernel_rfl:Try.f53.body = some qab.c.code) (by decide) (by kernel_rfl:Try.f53.results.toList = qab.res) (by kernel_rfl:icOk T Try.f53.ntmps qab.c = true) R (fun i h=>absurd h (hX0 i)) hv (Nat.le_of_ble_eq_true rfl) ((congrFun (qab.ok k _ _ _ _ κ) h).trans e4)
theorem qao.call (k:Nat) (hC:∀ j, k = j + 1->zo Try.prog T base w0 (env (α:=α) j)):FnOk Try.prog T base w0 (env (α:=α) k) 54:=by
 intro X ι h w args xs κ out hX0 R hv e
 have e:env_54 k args κ h = some out:=e
 unfold env_54 at e
 match args, hv, e with
 | [a0], hv, e=>
  obtain ⟨_, rfl, e1⟩:=yj e
  obtain ⟨_, rfl, e2⟩:=jm e1
  cases k with
  | zero=>cases e2
  | succ k=>
   exact zp wide_ok hX0 tab_ok (hC k rfl) Try.func54 (by kernel_rfl:Try.f54.body = some qao.c.code) (by decide) (by kernel_rfl:Try.f54.results.toList = qao.res) (by kernel_rfl:icOk T Try.f54.ntmps qao.c = true) R (fun i h=>absurd h (hX0 i)) hv (Nat.le_of_ble_eq_true rfl) ((congrFun (qao.ok k _ κ) h).trans e2)
theorem qd.call (k:Nat) (hC:∀ j, k = j + 1->zo Try.prog T base w0 (env (α:=α) j)):FnOk Try.prog T base w0 (env (α:=α) k) 71:=by
 intro X ι h w args xs κ out hX0 R hv e
 have e:env_71 k args κ h = some out:=e
 unfold env_71 at e
 match args, hv, e with
 | [a0], hv, e=>
  obtain ⟨_, rfl, e1⟩:=yj e
  obtain ⟨_, rfl, e2⟩:=jm e1
  cases k with
  | zero=>cases e2
  | succ k=>
   exact zp wide_ok hX0 tab_ok (hC k rfl) Try.func71 (by kernel_rfl:Try.f71.body = some qd.c.code) (by decide) (by kernel_rfl:Try.f71.results.toList = qd.res) (by kernel_rfl:icOk T Try.f71.ntmps qd.c = true) R (fun i h=>absurd h (hX0 i)) hv (Nat.le_of_ble_eq_true rfl) ((congrFun (qd.ok k _ κ) h).trans e2)
theorem qae.call (k:Nat) (hC:∀ j, k = j + 1->zo Try.prog T base w0 (env (α:=α) j)):FnOk Try.prog T base w0 (env (α:=α) k) 78:=by
 intro X ι h w args xs κ out hX0 R hv e
 have e:env_78 k args κ h = some out:=e
 unfold env_78 at e
 match args, hv, e with
 | [a0], hv, e=>
  obtain ⟨_, rfl, e1⟩:=yj e
  obtain ⟨_, rfl, e2⟩:=jm e1
  cases k with
  | zero=>cases e2
  | succ k=>
   exact zp wide_ok hX0 tab_ok (hC k rfl) Try.func78 (by kernel_rfl:Try.f78.body = some qae.c.code) (by decide) (by kernel_rfl:Try.f78.results.toList = qae.res) (by kernel_rfl:icOk T Try.f78.ntmps qae.c = true) R (fun i h=>absurd h (hX0 i)) hv (Nat.le_of_ble_eq_true rfl) ((congrFun (qae.ok k _ κ) h).trans e2)
theorem qaf.call (k:Nat) (hC:∀ j, k = j + 1->zo Try.prog T base w0 (env (α:=α) j)):FnOk Try.prog T base w0 (env (α:=α) k) 21:=by
 intro X ι h w args xs κ out hX0 R hv e
 have e:env_21 k args κ h = some out:=e
 unfold env_21 at e
 match args, hv, e with
 | [a0], hv, e=>
  obtain ⟨_, rfl, e1⟩:=jl e
  cases k with
  | zero=>cases e1
  | succ k=>
   exact zqk (pre:=qaf.as) (B:=qaf.u2.c) (C:=qaf.C.u1.c) (id:=4) (t:=14) (ops:=zb Try.f21 4) (mk:=opAt Try.f21 4 0) (df:=opAt Try.f21 4 1) (g:=35) (caps:=[.tmp 2, .tmp 3]) (idr:=0) (d0:=5) (rops:=zb Try.f35 0) (ro:=opAt Try.f35 0 0) (rs:=qaf.res) (keep:=[2, 3]) (dts:=#[]) (cts:=#[]) wide_ok hX0 tab_ok (hC k rfl) Try.func21 (by kernel_rfl:Try.f21.body = some (nest qaf.as (.seq (.region 4 (zb Try.f21 4) false) qaf.u2.c.code))) (by decide) (by kernel_rfl) (by kernel_rfl) (by kernel_rfl) (by kernel_rfl) (by decide) (by decide) (by kernel_rfl) (by kernel_rfl) (by kernel_rfl) (by kernel_rfl) (by kernel_rfl) (by kernel_rfl) (by kernel_rfl) Try.func35 (by decide) (by kernel_rfl:Try.f35.body = some (.seq (.region 0 (zb Try.f35 0) false) qaf.C.u1.c.code)) (by kernel_rfl) (by kernel_rfl) (by kernel_rfl) (by kernel_rfl) (by kernel_rfl) (by kernel_rfl) (by decide) (by decide) R hv (Nat.le_of_ble_eq_true rfl) ((congrFun (qaf.ok k _ κ) h).trans e1)
theorem qaz.call (k:Nat) (hC:∀ j, k = j + 1->zo Try.prog T base w0 (env (α:=α) j)):FnOk Try.prog T base w0 (env (α:=α) k) 45:=by
 intro X ι h w args xs κ out hX0 R hv e
 have e:env_45 k args κ h = some out:=e
 unfold env_45 at e
 match args, hv, e with
 | [a0], hv, e=>
  obtain ⟨_, rfl, e1⟩:=jh e
  cases k with
  | zero=>cases e1
  | succ k=>
   exact zp wide_ok hX0 tab_ok (hC k rfl) Try.func45 (by kernel_rfl:Try.f45.body = some qaz.c.code) (by decide) (by kernel_rfl:Try.f45.results.toList = qaz.res) (by kernel_rfl:icOk T Try.f45.ntmps qaz.c = true) R (fun i h=>absurd h (hX0 i)) hv (Nat.le_of_ble_eq_true rfl) ((congrFun (qaz.ok k _ κ) h).trans e1)
theorem qz.call (k:Nat) (hC:∀ j, k = j + 1->zo Try.prog T base w0 (env (α:=α) j)):FnOk Try.prog T base w0 (env (α:=α) k) 62:=by
 intro X ι h w args xs κ out hX0 R hv e
 have e:env_62 k args κ h = some out:=e
 unfold env_62 at e
 match args, hv, e with
 | [a0, a1, a2], hv, e=>
  obtain ⟨_, rfl, e1⟩:=jl e
  obtain ⟨_, rfl, e2⟩:=jd e1
  obtain ⟨_, rfl, e3⟩:=jd e2
  cases k with
  | zero=>cases e3
  | succ k=>
   exact zp wide_ok hX0 tab_ok (hC k rfl) Try.func62 (by kernel_rfl:Try.f62.body = some qz.c.code) (by decide) (by kernel_rfl:Try.f62.results.toList = qz.res) (by kernel_rfl:icOk T Try.f62.ntmps qz.c = true) R (fun i h=>absurd h (hX0 i)) hv (Nat.le_of_ble_eq_true rfl) ((congrFun (qz.ok k _ _ _ κ) h).trans e3)
theorem qax.call (k:Nat) (hC:∀ j, k = j + 1->zo Try.prog T base w0 (env (α:=α) j)):FnOk Try.prog T base w0 (env (α:=α) k) 47:=by
 intro X ι h w args xs κ out hX0 R hv e
 have e:env_47 k args κ h = some out:=e
 unfold env_47 at e
 match args, hv, e with
 | [a0], hv, e=>
  obtain ⟨_, rfl, e1⟩:=jl e
  cases k with
  | zero=>cases e1
  | succ k=>
   exact zp wide_ok hX0 tab_ok (hC k rfl) Try.func47 (by kernel_rfl:Try.f47.body = some qax.c.code) (by decide) (by kernel_rfl:Try.f47.results.toList = qax.res) (by kernel_rfl:icOk T Try.f47.ntmps qax.c = true) R (fun i h=>absurd h (hX0 i)) hv (Nat.le_of_ble_eq_true rfl) ((congrFun (qax.ok k _ κ) h).trans e1)
theorem qam.call (k:Nat) (hC:∀ j, k = j + 1->zo Try.prog T base w0 (env (α:=α) j)):FnOk Try.prog T base w0 (env (α:=α) k) 48:=by
 intro X ι h w args xs κ out hX0 R hv e
 have e:env_48 k args κ h = some out:=e
 unfold env_48 at e
 match args, hv, e with
 | [a0], hv, e=>
  obtain ⟨_, rfl, e1⟩:=jl e
  cases k with
  | zero=>cases e1
  | succ k=>
   exact zp wide_ok hX0 tab_ok (hC k rfl) Try.func48 (by kernel_rfl:Try.f48.body = some qam.c.code) (by decide) (by kernel_rfl:Try.f48.results.toList = qam.res) (by kernel_rfl:icOk T Try.f48.ntmps qam.c = true) R (fun i h=>absurd h (hX0 i)) hv (Nat.le_of_ble_eq_true rfl) ((congrFun (qam.ok k _ κ) h).trans e1)
theorem qbl.call (k:Nat) (hC:∀ j, k = j + 1->zo Try.prog T base w0 (env (α:=α) j)):FnOk Try.prog T base w0 (env (α:=α) k) 30:=by
 intro X ι h w args xs κ out hX0 R hv e
 have e:env_30 k args κ h = some out:=e
 unfold env_30 at e
 match args, hv, e with
 | [a0], hv, e=>
  obtain ⟨_, rfl, e1⟩:=zbk e
  obtain ⟨_, _, rfl, e2⟩:=zu e1
  obtain ⟨_, rfl, e3⟩:=jd e2
  obtain ⟨_, _, rfl, e4⟩:=zu e3
  obtain ⟨_, rfl, e5⟩:=jd e4
  obtain ⟨_, _, rfl, e6⟩:=zu e5
  obtain ⟨_, rfl, e7⟩:=jd e6
  obtain ⟨_, _, rfl, e8⟩:=zu e7
  obtain ⟨_, rfl, e9⟩:=jl e8
  obtain ⟨_, _, rfl, e10⟩:=zu e9
  obtain ⟨_, rfl, e11⟩:=jd e10
  obtain ⟨rfl, e12⟩:=yg e11
  cases k with
  | zero=>cases e12
  | succ k=>
   exact zp wide_ok hX0 tab_ok (hC k rfl) Try.func30 (by kernel_rfl:Try.f30.body = some qbl.c.code) (by decide) (by kernel_rfl:Try.f30.results.toList = qbl.res) (by kernel_rfl:icOk T Try.f30.ntmps qbl.c = true) R (fun i h=>absurd h (hX0 i)) hv (Nat.le_of_ble_eq_true rfl) ((congrFun (qbl.ok k _ _ _ _ _ κ) h).trans e12)
theorem qbs.call (k:Nat) (hC:∀ j, k = j + 1->zo Try.prog T base w0 (env (α:=α) j)):FnOk Try.prog T base w0 (env (α:=α) k) 32:=by
 intro X ι h w args xs κ out hX0 R hv e
 have e:env_32 k args κ h = some out:=e
 unfold env_32 at e
 match args, hv, e with
 | [a0], hv, e=>
  obtain ⟨_, rfl, e1⟩:=jd e
  cases k with
  | zero=>cases e1
  | succ k=>
   exact zp wide_ok hX0 tab_ok (hC k rfl) Try.func32 (by kernel_rfl:Try.f32.body = some qbs.c.code) (by decide) (by kernel_rfl:Try.f32.results.toList = qbs.res) (by kernel_rfl:icOk T Try.f32.ntmps qbs.c = true) R (fun i h=>absurd h (hX0 i)) hv (Nat.le_of_ble_eq_true rfl) ((congrFun (qbs.ok k _ κ) h).trans e1)
theorem qaa.call (k:Nat) (hC:∀ j, k = j + 1->zo Try.prog T base w0 (env (α:=α) j)):FnOk Try.prog T base w0 (env (α:=α) k) 49:=by
 intro X ι h w args xs κ out hX0 R hv e
 have e:env_49 k args κ h = some out:=e
 unfold env_49 at e
 match args, hv, e with
 | [a0, a1], hv, e=>
  obtain ⟨_, rfl, e1⟩:=jh e
  obtain ⟨_, _, _, rfl, e2⟩:=zcj e1
  obtain ⟨hbe3, e3⟩:=zf e2
  obtain rfl:=Nat.eq_of_beq_eq_true hbe3
  obtain ⟨rfl, e4⟩:=yg e3
  obtain ⟨rfl, e5⟩:=yg e4
  cases k with
  | zero=>cases e5
  | succ k=>
   exact zp wide_ok hX0 tab_ok (hC k rfl) Try.func49 (by kernel_rfl:Try.f49.body = some qaa.c.code) (by decide) (by kernel_rfl:Try.f49.results.toList = qaa.res) (by kernel_rfl:icOk T Try.f49.ntmps qaa.c = true) R (fun i h=>absurd h (hX0 i)) hv (Nat.le_of_ble_eq_true rfl) ((congrFun (qaa.ok k _ κ) h).trans e5)
theorem qbm.call (k:Nat) (hC:∀ j, k = j + 1->zo Try.prog T base w0 (env (α:=α) j)):FnOk Try.prog T base w0 (env (α:=α) k) 31:=by
 intro X ι h w args xs κ out hX0 R hv e
 have e:env_31 k args κ h = some out:=e
 unfold env_31 at e
 match args, hv, e with
 | [a0, a1], hv, e=>
  obtain ⟨_, rfl, e1⟩:=jh e
  obtain ⟨_, _, _, rfl, e2⟩:=zcj e1
  obtain ⟨hbe3, e3⟩:=zf e2
  obtain rfl:=Nat.eq_of_beq_eq_true hbe3
  obtain ⟨rfl, e4⟩:=yg e3
  obtain ⟨rfl, e5⟩:=yg e4
  cases k with
  | zero=>cases e5
  | succ k=>
   exact zp wide_ok hX0 tab_ok (hC k rfl) Try.func31 (by kernel_rfl:Try.f31.body = some qbm.c.code) (by decide) (by kernel_rfl:Try.f31.results.toList = qbm.res) (by kernel_rfl:icOk T Try.f31.ntmps qbm.c = true) R (fun i h=>absurd h (hX0 i)) hv (Nat.le_of_ble_eq_true rfl) ((congrFun (qbm.ok k _ κ) h).trans e5)
theorem qy.call (k:Nat) (hC:∀ j, k = j + 1->zo Try.prog T base w0 (env (α:=α) j)):FnOk Try.prog T base w0 (env (α:=α) k) 33:=by
 intro X ι h w args xs κ out hX0 R hv e
 have e:env_33 k args κ h = some out:=e
 unfold env_33 at e
 match args, hv, e with
 | [a0, a1], hv, e=>
  obtain ⟨_, rfl, e1⟩:=jh e
  obtain ⟨_, rfl, e2⟩:=jh e1
  cases k with
  | zero=>cases e2
  | succ k=>
   exact zp wide_ok hX0 tab_ok (hC k rfl) Try.func33 (by kernel_rfl:Try.f33.body = some qy.c.code) (by decide) (by kernel_rfl:Try.f33.results.toList = qy.res) (by kernel_rfl:icOk T Try.f33.ntmps qy.c = true) R (fun i h=>absurd h (hX0 i)) hv (Nat.le_of_ble_eq_true rfl) ((congrFun (qy.ok k _ _ κ) h).trans e2)
theorem qm.call (k:Nat) (hC:∀ j, k = j + 1->zo Try.prog T base w0 (env (α:=α) j)):FnOk Try.prog T base w0 (env (α:=α) k) 20:=by
 intro X ι h w args xs κ out hX0 R hv e
 have e:env_20 k args κ h = some out:=e
 unfold env_20 at e
 match args, hv, e with
 | [a0], hv, e=>
  obtain ⟨_, rfl, e1⟩:=jh e
  cases k with
  | zero=>cases e1
  | succ k=>
   exact zp wide_ok hX0 tab_ok (hC k rfl) Try.func20 (by kernel_rfl:Try.f20.body = some qm.c.code) (by decide) (by kernel_rfl:Try.f20.results.toList = qm.res) (by kernel_rfl:icOk T Try.f20.ntmps qm.c = true) R (fun i h=>absurd h (hX0 i)) hv (Nat.le_of_ble_eq_true rfl) ((congrFun (qm.ok k _ κ) h).trans e1)
theorem qs.call (k:Nat) (hC:∀ j, k = j + 1->zo Try.prog T base w0 (env (α:=α) j)):FnOk Try.prog T base w0 (env (α:=α) k) 61:=by
 intro X ι h w args xs κ out hX0 R hv e
 have e:env_61 k args κ h = some out:=e
 unfold env_61 at e
 match args, hv, e with
 | [a0, a1], hv, e=>
  obtain ⟨_, rfl, e1⟩:=yj e
  obtain ⟨_, rfl, e2⟩:=jm e1
  obtain ⟨_, rfl, e3⟩:=jl e2
  cases k with
  | zero=>cases e3
  | succ k=>
   exact zp wide_ok hX0 tab_ok (hC k rfl) Try.func61 (by kernel_rfl:Try.f61.body = some qs.c.code) (by decide) (by kernel_rfl:Try.f61.results.toList = qs.res) (by kernel_rfl:icOk T Try.f61.ntmps qs.c = true) R (fun i h=>absurd h (hX0 i)) hv (Nat.le_of_ble_eq_true rfl) ((congrFun (qs.ok k _ _ κ) h).trans e3)
theorem qb.call (k:Nat) (hC:∀ j, k = j + 1->zo Try.prog T base w0 (env (α:=α) j)):FnOk Try.prog T base w0 (env (α:=α) k) 46:=by
 intro X ι h w args xs κ out hX0 R hv e
 have e:env_46 k args κ h = some out:=e
 unfold env_46 at e
 match args, hv, e with
 | [a0, a1], hv, e=>
  obtain ⟨_, rfl, e1⟩:=yj e
  obtain ⟨_, rfl, e2⟩:=jm e1
  obtain ⟨_, rfl, e3⟩:=jd e2
  cases k with
  | zero=>cases e3
  | succ k=>
   exact zp wide_ok hX0 tab_ok (hC k rfl) Try.func46 (by kernel_rfl:Try.f46.body = some qb.c.code) (by decide) (by kernel_rfl:Try.f46.results.toList = qb.res) (by kernel_rfl:icOk T Try.f46.ntmps qb.c = true) R (fun i h=>absurd h (hX0 i)) hv (Nat.le_of_ble_eq_true rfl) ((congrFun (qb.ok k _ _ κ) h).trans e3)
theorem qx.call (k:Nat) (hC:∀ j, k = j + 1->zo Try.prog T base w0 (env (α:=α) j)):FnOk Try.prog T base w0 (env (α:=α) k) 28:=by
 intro X ι h w args xs κ out hX0 R hv e
 have e:env_28 k args κ h = some out:=e
 unfold env_28 at e
 match args, hv, e with
 | [a0], hv, e=>
  obtain ⟨_, rfl, e1⟩:=jh e
  cases k with
  | zero=>cases e1
  | succ k=>
   exact zp wide_ok hX0 tab_ok (hC k rfl) Try.func28 (by kernel_rfl:Try.f28.body = some qx.c.code) (by decide) (by kernel_rfl:Try.f28.results.toList = qx.res) (by kernel_rfl:icOk T Try.f28.ntmps qx.c = true) R (fun i h=>absurd h (hX0 i)) hv (Nat.le_of_ble_eq_true rfl) ((congrFun (qx.ok k _ κ) h).trans e1)
theorem qbc.call (k:Nat) (hC:∀ j, k = j + 1->zo Try.prog T base w0 (env (α:=α) j)):FnOk Try.prog T base w0 (env (α:=α) k) 29:=by
 intro X ι h w args xs κ out hX0 R hv e
 have e:env_29 k args κ h = some out:=e
 unfold env_29 at e
 match args, hv, e with
 | [a0], hv, e=>
  obtain ⟨_, rfl, e1⟩:=zbk e
  obtain ⟨_, _, rfl, e2⟩:=zu e1
  obtain ⟨_, rfl, e3⟩:=jd e2
  obtain ⟨_, _, rfl, e4⟩:=zu e3
  obtain ⟨_, rfl, e5⟩:=jd e4
  obtain ⟨_, _, rfl, e6⟩:=zu e5
  obtain ⟨_, rfl, e7⟩:=jd e6
  obtain ⟨_, _, rfl, e8⟩:=zu e7
  obtain ⟨_, rfl, e9⟩:=jl e8
  obtain ⟨_, _, rfl, e10⟩:=zu e9
  obtain ⟨_, rfl, e11⟩:=jd e10
  obtain ⟨rfl, e12⟩:=yg e11
  cases k with
  | zero=>cases e12
  | succ k=>
   exact zp wide_ok hX0 tab_ok (hC k rfl) Try.func29 (by kernel_rfl:Try.f29.body = some qbc.c.code) (by decide) (by kernel_rfl:Try.f29.results.toList = qbc.res) (by kernel_rfl:icOk T Try.f29.ntmps qbc.c = true) R (fun i h=>absurd h (hX0 i)) hv (Nat.le_of_ble_eq_true rfl) ((congrFun (qbc.ok k _ _ _ _ _ κ) h).trans e12)
theorem qa.call (k:Nat) (hC:∀ j, k = j + 1->zo Try.prog T base w0 (env (α:=α) j)):FnOk Try.prog T base w0 (env (α:=α) k) 19:=by
 intro X ι h w args xs κ out hX0 R hv e
 have e:env_19 k args κ h = some out:=e
 unfold env_19 at e
 match args, hv, e with
 | [a0], hv, e=>
  obtain ⟨_, rfl, e1⟩:=jh e
  cases k with
  | zero=>cases e1
  | succ k=>
   exact zp wide_ok hX0 tab_ok (hC k rfl) Try.func19 (by kernel_rfl:Try.f19.body = some qa.c.code) (by decide) (by kernel_rfl:Try.f19.results.toList = qa.res) (by kernel_rfl:icOk T Try.f19.ntmps qa.c = true) R (fun i h=>absurd h (hX0 i)) hv (Nat.le_of_ble_eq_true rfl) ((congrFun (qa.ok k _ κ) h).trans e1)
theorem qo.call (k:Nat) (hC:∀ j, k = j + 1->zo Try.prog T base w0 (env (α:=α) j)):FnOk Try.prog T base w0 (env (α:=α) k) 27:=by
 intro X ι h w args xs κ out hX0 R hv e
 have e:env_27 k args κ h = some out:=e
 unfold env_27 at e
 match args, hv, e with
 | [a0], hv, e=>
  obtain ⟨_, rfl, e1⟩:=jh e
  cases k with
  | zero=>cases e1
  | succ k=>
   exact zp wide_ok hX0 tab_ok (hC k rfl) Try.func27 (by kernel_rfl:Try.f27.body = some qo.c.code) (by decide) (by kernel_rfl:Try.f27.results.toList = qo.res) (by kernel_rfl:icOk T Try.f27.ntmps qo.c = true) R (fun i h=>absurd h (hX0 i)) hv (Nat.le_of_ble_eq_true rfl) ((congrFun (qo.ok k _ κ) h).trans e1)
theorem qbh.call (k:Nat) (hC:∀ j, k = j + 1->zo Try.prog T base w0 (env (α:=α) j)):FnOk Try.prog T base w0 (env (α:=α) k) 55:=by
 intro X ι h w args xs κ out hX0 R hv e
 have e:env_55 k args κ h = some out:=e
 unfold env_55 at e
 match args, hv, e with
 | [a0], hv, e=>
  obtain ⟨_, rfl, e1⟩:=jd e
  cases k with
  | zero=>cases e1
  | succ k=>
   exact zp wide_ok hX0 tab_ok (hC k rfl) Try.func55 (by kernel_rfl:Try.f55.body = some qbh.c.code) (by decide) (by kernel_rfl:Try.f55.results.toList = qbh.res) (by kernel_rfl:icOk T Try.f55.ntmps qbh.c = true) R (fun i h=>absurd h (hX0 i)) hv (Nat.le_of_ble_eq_true rfl) ((congrFun (qbh.ok k _ κ) h).trans e1)
theorem qad.call (k:Nat) (hC:∀ j, k = j + 1->zo Try.prog T base w0 (env (α:=α) j)):FnOk Try.prog T base w0 (env (α:=α) k) 40:=by
 intro X ι h w args xs κ out hX0 R hv e
 have e:env_40 k args κ h = some out:=e
 unfold env_40 at e
 match args, hv, e with
 | [a0, a1, a2], hv, e=>
  obtain ⟨_, rfl, e1⟩:=yj e
  obtain ⟨_, rfl, e2⟩:=jm e1
  obtain ⟨_, rfl, e3⟩:=jd e2
  obtain ⟨_, rfl, e4⟩:=zcz e3
  cases k with
  | zero=>cases e4
  | succ k=>
   exact zp wide_ok hX0 tab_ok (hC k rfl) Try.func40 (by kernel_rfl:Try.f40.body = some qad.c.code) (by decide) (by kernel_rfl:Try.f40.results.toList = qad.res) (by kernel_rfl:icOk T Try.f40.ntmps qad.c = true) R (fun i h=>absurd h (hX0 i)) hv (Nat.le_of_ble_eq_true rfl) ((congrFun (qad.ok k _ _ _ κ) h).trans e4)
theorem qaw.call (k:Nat) (hC:∀ j, k = j + 1->zo Try.prog T base w0 (env (α:=α) j)):FnOk Try.prog T base w0 (env (α:=α) k) 22:=by
 intro X ι h w args xs κ out hX0 R hv e
 have e:env_22 k args κ h = some out:=e
 unfold env_22 at e
 match args, hv, e with
 | [a0, a1], hv, e=>
  obtain ⟨_, rfl, e1⟩:=jh e
  obtain ⟨_, rfl, e2⟩:=zcz e1
  cases k with
  | zero=>cases e2
  | succ k=>
   exact zp wide_ok hX0 tab_ok (hC k rfl) Try.func22 (by kernel_rfl:Try.f22.body = some qaw.c.code) (by decide) (by kernel_rfl:Try.f22.results.toList = qaw.res) (by kernel_rfl:icOk T Try.f22.ntmps qaw.c = true) R (fun i h=>absurd h (hX0 i)) hv (Nat.le_of_ble_eq_true rfl) ((congrFun (qaw.ok k _ _ κ) h).trans e2)
theorem qay.call (k:Nat) (hC:∀ j, k = j + 1->zo Try.prog T base w0 (env (α:=α) j)):FnOk Try.prog T base w0 (env (α:=α) k) 9:=by
 intro X ι h w args xs κ out hX0 R hv e
 have e:env_9 k args κ h = some out:=e
 unfold env_9 at e
 match args, hv, e with
 | [a0], hv, e=>
  obtain ⟨_, rfl, e1⟩:=jh e
  cases k with
  | zero=>cases e1
  | succ k=>
   exact zp wide_ok hX0 tab_ok (hC k rfl) Try.func9 (by kernel_rfl:Try.f9.body = some qay.c.code) (by decide) (by kernel_rfl:Try.f9.results.toList = qay.res) (by kernel_rfl:icOk T Try.f9.ntmps qay.c = true) R (fun i h=>absurd h (hX0 i)) hv (Nat.le_of_ble_eq_true rfl) ((congrFun (qay.ok k _ κ) h).trans e1)
theorem qn.call (k:Nat) (hC:∀ j, k = j + 1->zo Try.prog T base w0 (env (α:=α) j)):FnOk Try.prog T base w0 (env (α:=α) k) 12:=by
 intro X ι h w args xs κ out hX0 R hv e
 have e:env_12 k args κ h = some out:=e
 unfold env_12 at e
 match args, hv, e with
 | [a0, a1, a2], hv, e=>
  obtain ⟨_, rfl, e1⟩:=jh e
  obtain ⟨_, rfl, e2⟩:=jh e1
  obtain ⟨_, rfl, e3⟩:=zcz e2
  cases k with
  | zero=>cases e3
  | succ k=>
   exact zp wide_ok hX0 tab_ok (hC k rfl) Try.func12 (by kernel_rfl:Try.f12.body = some qn.c.code) (by decide) (by kernel_rfl:Try.f12.results.toList = qn.res) (by kernel_rfl:icOk T Try.f12.ntmps qn.c = true) R (fun i h=>absurd h (hX0 i)) hv (Nat.le_of_ble_eq_true rfl) ((congrFun (qn.ok k _ _ _ κ) h).trans e3)
theorem qbq.call (k:Nat) (hC:∀ j, k = j + 1->zo Try.prog T base w0 (env (α:=α) j)):FnOk Try.prog T base w0 (env (α:=α) k) 26:=by
 intro X ι h w args xs κ out hX0 R hv e
 have e:env_26 k args κ h = some out:=e
 unfold env_26 at e
 match args, hv, e with
 | [a0], hv, e=>
  obtain ⟨_, rfl, e1⟩:=zbk e
  obtain ⟨_, _, rfl, e2⟩:=zu e1
  obtain ⟨_, rfl, e3⟩:=jd e2
  obtain ⟨_, _, rfl, e4⟩:=zu e3
  obtain ⟨_, rfl, e5⟩:=jd e4
  obtain ⟨_, _, rfl, e6⟩:=zu e5
  obtain ⟨_, rfl, e7⟩:=jd e6
  obtain ⟨_, _, rfl, e8⟩:=zu e7
  obtain ⟨_, rfl, e9⟩:=jl e8
  obtain ⟨_, _, rfl, e10⟩:=zu e9
  obtain ⟨_, rfl, e11⟩:=jd e10
  obtain ⟨rfl, e12⟩:=yg e11
  cases k with
  | zero=>cases e12
  | succ k=>
   exact zp wide_ok hX0 tab_ok (hC k rfl) Try.func26 (by kernel_rfl:Try.f26.body = some qbq.c.code) (by decide) (by kernel_rfl:Try.f26.results.toList = qbq.res) (by kernel_rfl:icOk T Try.f26.ntmps qbq.c = true) R (fun i h=>absurd h (hX0 i)) hv (Nat.le_of_ble_eq_true rfl) ((congrFun (qbq.ok k _ _ _ _ _ κ) h).trans e12)
theorem qu.call (k:Nat) (hC:∀ j, k = j + 1->zo Try.prog T base w0 (env (α:=α) j)):FnOk Try.prog T base w0 (env (α:=α) k) 44:=by
 intro X ι h w args xs κ out hX0 R hv e
 have e:env_44 k args κ h = some out:=e
 unfold env_44 at e
 match args, hv, e with
 | [a0, a1], hv, e=>
  obtain ⟨_, rfl, e1⟩:=jh e
  obtain ⟨_, _, _, rfl, e2⟩:=zcj e1
  obtain ⟨hbe3, e3⟩:=zf e2
  obtain rfl:=Nat.eq_of_beq_eq_true hbe3
  obtain ⟨rfl, e4⟩:=yg e3
  obtain ⟨rfl, e5⟩:=yg e4
  cases k with
  | zero=>cases e5
  | succ k=>
   exact zp wide_ok hX0 tab_ok (hC k rfl) Try.func44 (by kernel_rfl:Try.f44.body = some qu.c.code) (by decide) (by kernel_rfl:Try.f44.results.toList = qu.res) (by kernel_rfl:icOk T Try.f44.ntmps qu.c = true) R (fun i h=>absurd h (hX0 i)) hv (Nat.le_of_ble_eq_true rfl) ((congrFun (qu.ok k _ κ) h).trans e5)
theorem qbn.call (k:Nat) (hC:∀ j, k = j + 1->zo Try.prog T base w0 (env (α:=α) j)):FnOk Try.prog T base w0 (env (α:=α) k) 25:=by
 intro X ι h w args xs κ out hX0 R hv e
 have e:env_25 k args κ h = some out:=e
 unfold env_25 at e
 match args, hv, e with
 | [a0, a1], hv, e=>
  obtain ⟨_, rfl, e1⟩:=jh e
  obtain ⟨_, _, _, rfl, e2⟩:=zcj e1
  obtain ⟨hbe3, e3⟩:=zf e2
  obtain rfl:=Nat.eq_of_beq_eq_true hbe3
  obtain ⟨rfl, e4⟩:=yg e3
  obtain ⟨rfl, e5⟩:=yg e4
  cases k with
  | zero=>cases e5
  | succ k=>
   exact zp wide_ok hX0 tab_ok (hC k rfl) Try.func25 (by kernel_rfl:Try.f25.body = some qbn.c.code) (by decide) (by kernel_rfl:Try.f25.results.toList = qbn.res) (by kernel_rfl:icOk T Try.f25.ntmps qbn.c = true) R (fun i h=>absurd h (hX0 i)) hv (Nat.le_of_ble_eq_true rfl) ((congrFun (qbn.ok k _ κ) h).trans e5)
theorem qap.call (k:Nat) (hC:∀ j, k = j + 1->zo Try.prog T base w0 (env (α:=α) j)):FnOk Try.prog T base w0 (env (α:=α) k) 15:=by
 intro X ι h w args xs κ out hX0 R hv e
 have e:env_15 k args κ h = some out:=e
 unfold env_15 at e
 match args, hv, e with
 | [a0], hv, e=>
  obtain ⟨_, rfl, e1⟩:=jh e
  cases k with
  | zero=>cases e1
  | succ k=>
   exact zp wide_ok hX0 tab_ok (hC k rfl) Try.func15 (by kernel_rfl:Try.f15.body = some qap.c.code) (by decide) (by kernel_rfl:Try.f15.results.toList = qap.res) (by kernel_rfl:icOk T Try.f15.ntmps qap.c = true) R (fun i h=>absurd h (hX0 i)) hv (Nat.le_of_ble_eq_true rfl) ((congrFun (qap.ok k _ κ) h).trans e1)
theorem qbi.call (k:Nat) (hC:∀ j, k = j + 1->zo Try.prog T base w0 (env (α:=α) j)):FnOk Try.prog T base w0 (env (α:=α) k) 8:=by
 intro X ι h w args xs κ out hX0 R hv e
 have e:env_8 k args κ h = some out:=e
 unfold env_8 at e
 match args, hv, e with
 | [], hv, e=>
  cases k with
  | zero=>cases e
  | succ k=>
   exact zp wide_ok hX0 tab_ok (hC k rfl) Try.func8 (by kernel_rfl:Try.f8.body = some qbi.c.code) (by decide) (by kernel_rfl:Try.f8.results.toList = qbi.res) (by kernel_rfl:icOk T Try.f8.ntmps qbi.c = true) R (fun i h=>absurd h (hX0 i)) hv (Nat.le_of_ble_eq_true rfl) ((congrFun (qbi.ok k κ) h).trans e)
theorem qbr.call (k:Nat) (hC:∀ j, k = j + 1->zo Try.prog T base w0 (env (α:=α) j)):FnOk Try.prog T base w0 (env (α:=α) k) 10:=by
 intro X ι h w args xs κ out hX0 R hv e
 have e:env_10 k args κ h = some out:=e
 unfold env_10 at e
 match args, hv, e with
 | [a0], hv, e=>
  obtain ⟨_, rfl, e1⟩:=jh e
  cases k with
  | zero=>cases e1
  | succ k=>
   exact zp wide_ok hX0 tab_ok (hC k rfl) Try.func10 (by kernel_rfl:Try.f10.body = some qbr.c.code) (by decide) (by kernel_rfl:Try.f10.results.toList = qbr.res) (by kernel_rfl:icOk T Try.f10.ntmps qbr.c = true) R (fun i h=>absurd h (hX0 i)) hv (Nat.le_of_ble_eq_true rfl) ((congrFun (qbr.ok k _ κ) h).trans e1)
theorem qba.call (k:Nat) (hC:∀ j, k = j + 1->zo Try.prog T base w0 (env (α:=α) j)):FnOk Try.prog T base w0 (env (α:=α) k) 11:=by
 intro X ι h w args xs κ out hX0 R hv e
 have e:env_11 k args κ h = some out:=e
 unfold env_11 at e
 match args, hv, e with
 | [a0], hv, e=>
  obtain ⟨_, rfl, e1⟩:=jh e
  cases k with
  | zero=>cases e1
  | succ k=>
   exact zp wide_ok hX0 tab_ok (hC k rfl) Try.func11 (by kernel_rfl:Try.f11.body = some qba.c.code) (by decide) (by kernel_rfl:Try.f11.results.toList = qba.res) (by kernel_rfl:icOk T Try.f11.ntmps qba.c = true) R (fun i h=>absurd h (hX0 i)) hv (Nat.le_of_ble_eq_true rfl) ((congrFun (qba.ok k _ κ) h).trans e1)
theorem qp.call (k:Nat) (hC:∀ j, k = j + 1->zo Try.prog T base w0 (env (α:=α) j)):FnOk Try.prog T base w0 (env (α:=α) k) 42:=by
 intro X ι h w args xs κ out hX0 R hv e
 have e:env_42 k args κ h = some out:=e
 unfold env_42 at e
 match args, hv, e with
 | [a0], hv, e=>
  obtain ⟨_, rfl, e1⟩:=jh e
  cases k with
  | zero=>cases e1
  | succ k=>
   exact zp wide_ok hX0 tab_ok (hC k rfl) Try.func42 (by kernel_rfl:Try.f42.body = some qp.c.code) (by decide) (by kernel_rfl:Try.f42.results.toList = qp.res) (by kernel_rfl:icOk T Try.f42.ntmps qp.c = true) R (fun i h=>absurd h (hX0 i)) hv (Nat.le_of_ble_eq_true rfl) ((congrFun (qp.ok k _ κ) h).trans e1)
theorem qbb.call (k:Nat) (hC:∀ j, k = j + 1->zo Try.prog T base w0 (env (α:=α) j)):FnOk Try.prog T base w0 (env (α:=α) k) 72:=by
 intro X ι h w args xs κ out hX0 R hv e
 have e:env_72 k args κ h = some out:=e
 unfold env_72 at e
 match args, hv, e with
 | [a0], hv, e=>
  obtain ⟨_, rfl, e1⟩:=jd e
  cases k with
  | zero=>cases e1
  | succ k=>
   exact zp wide_ok hX0 tab_ok (hC k rfl) Try.func72 (by kernel_rfl:Try.f72.body = some qbb.c.code) (by decide) (by kernel_rfl:Try.f72.results.toList = qbb.res) (by kernel_rfl:icOk T Try.f72.ntmps qbb.c = true) R (fun i h=>absurd h (hX0 i)) hv (Nat.le_of_ble_eq_true rfl) ((congrFun (qbb.ok k _ κ) h).trans e1)
theorem qj.call (k:Nat) (hC:∀ j, k = j + 1->zo Try.prog T base w0 (env (α:=α) j)):FnOk Try.prog T base w0 (env (α:=α) k) 79:=by
 intro X ι h w args xs κ out hX0 R hv e
 have e:env_79 k args κ h = some out:=e
 unfold env_79 at e
 match args, hv, e with
 | [a0], hv, e=>
  obtain ⟨_, rfl, e1⟩:=jl e
  cases k with
  | zero=>cases e1
  | succ k=>
   exact zp wide_ok hX0 tab_ok (hC k rfl) Try.func79 (by kernel_rfl:Try.f79.body = some qj.c.code) (by decide) (by kernel_rfl:Try.f79.results.toList = qj.res) (by kernel_rfl:icOk T Try.f79.ntmps qj.c = true) R (fun i h=>absurd h (hX0 i)) hv (Nat.le_of_ble_eq_true rfl) ((congrFun (qj.ok k _ κ) h).trans e1)
theorem qbd.call (k:Nat) (hC:∀ j, k = j + 1->zo Try.prog T base w0 (env (α:=α) j)):FnOk Try.prog T base w0 (env (α:=α) k) 80:=by
 intro X ι h w args xs κ out hX0 R hv e
 have e:env_80 k args κ h = some out:=e
 unfold env_80 at e
 match args, hv, e with
 | [a0], hv, e=>
  obtain ⟨_, rfl, e1⟩:=jl e
  cases k with
  | zero=>cases e1
  | succ k=>
   exact zp wide_ok hX0 tab_ok (hC k rfl) Try.func80 (by kernel_rfl:Try.f80.body = some qbd.c.code) (by decide) (by kernel_rfl:Try.f80.results.toList = qbd.res) (by kernel_rfl:icOk T Try.f80.ntmps qbd.c = true) R (fun i h=>absurd h (hX0 i)) hv (Nat.le_of_ble_eq_true rfl) ((congrFun (qbd.ok k _ κ) h).trans e1)
theorem qbo.call (k:Nat) (hC:∀ j, k = j + 1->zo Try.prog T base w0 (env (α:=α) j)):FnOk Try.prog T base w0 (env (α:=α) k) 73:=by
 intro X ι h w args xs κ out hX0 R hv e
 have e:env_73 k args κ h = some out:=e
 unfold env_73 at e
 match args, hv, e with
 | [a0], hv, e=>
  obtain ⟨_, rfl, e1⟩:=zbk e
  obtain ⟨_, _, rfl, e2⟩:=zu e1
  obtain ⟨_, rfl, e3⟩:=jd e2
  obtain ⟨_, _, rfl, e4⟩:=zu e3
  obtain ⟨_, rfl, e5⟩:=jd e4
  obtain ⟨_, _, rfl, e6⟩:=zu e5
  obtain ⟨_, rfl, e7⟩:=jd e6
  obtain ⟨_, _, rfl, e8⟩:=zu e7
  obtain ⟨_, rfl, e9⟩:=jl e8
  obtain ⟨_, _, rfl, e10⟩:=zu e9
  obtain ⟨_, rfl, e11⟩:=jd e10
  obtain ⟨rfl, e12⟩:=yg e11
  cases k with
  | zero=>cases e12
  | succ k=>
   exact zp wide_ok hX0 tab_ok (hC k rfl) Try.func73 (by kernel_rfl:Try.f73.body = some qbo.c.code) (by decide) (by kernel_rfl:Try.f73.results.toList = qbo.res) (by kernel_rfl:icOk T Try.f73.ntmps qbo.c = true) R (fun i h=>absurd h (hX0 i)) hv (Nat.le_of_ble_eq_true rfl) ((congrFun (qbo.ok k _ _ _ _ _ κ) h).trans e12)
theorem qg.call (k:Nat) (hC:∀ j, k = j + 1->zo Try.prog T base w0 (env (α:=α) j)):FnOk Try.prog T base w0 (env (α:=α) k) 56:=by
 intro X ι h w args xs κ out hX0 R hv e
 have e:env_56 k args κ h = some out:=e
 unfold env_56 at e
 match args, hv, e with
 | [a0], hv, e=>
  obtain ⟨_, rfl, e1⟩:=jh e
  cases k with
  | zero=>cases e1
  | succ k=>
   exact zp wide_ok hX0 tab_ok (hC k rfl) Try.func56 (by kernel_rfl:Try.f56.body = some qg.c.code) (by decide) (by kernel_rfl:Try.f56.results.toList = qg.res) (by kernel_rfl:icOk T Try.f56.ntmps qg.c = true) R (fun i h=>absurd h (hX0 i)) hv (Nat.le_of_ble_eq_true rfl) ((congrFun (qg.ok k _ κ) h).trans e1)
theorem qh.call (k:Nat) (hC:∀ j, k = j + 1->zo Try.prog T base w0 (env (α:=α) j)):FnOk Try.prog T base w0 (env (α:=α) k) 57:=by
 intro X ι h w args xs κ out hX0 R hv e
 have e:env_57 k args κ h = some out:=e
 unfold env_57 at e
 match args, hv, e with
 | [a0], hv, e=>
  obtain ⟨_, rfl, e1⟩:=jh e
  cases k with
  | zero=>cases e1
  | succ k=>
   exact zp wide_ok hX0 tab_ok (hC k rfl) Try.func57 (by kernel_rfl:Try.f57.body = some qh.c.code) (by decide) (by kernel_rfl:Try.f57.results.toList = qh.res) (by kernel_rfl:icOk T Try.f57.ntmps qh.c = true) R (fun i h=>absurd h (hX0 i)) hv (Nat.le_of_ble_eq_true rfl) ((congrFun (qh.ok k _ κ) h).trans e1)
theorem qau.call (k:Nat) (hC:∀ j, k = j + 1->zo Try.prog T base w0 (env (α:=α) j)):FnOk Try.prog T base w0 (env (α:=α) k) 60:=by
 intro X ι h w args xs κ out hX0 R hv e
 have e:env_60 k args κ h = some out:=e
 unfold env_60 at e
 match args, hv, e with
 | [a0], hv, e=>
  obtain ⟨_, rfl, e1⟩:=zbk e
  obtain ⟨_, _, rfl, e2⟩:=zu e1
  obtain ⟨_, rfl, e3⟩:=jd e2
  obtain ⟨_, _, rfl, e4⟩:=zu e3
  obtain ⟨_, rfl, e5⟩:=jd e4
  obtain ⟨_, _, rfl, e6⟩:=zu e5
  obtain ⟨_, rfl, e7⟩:=jd e6
  obtain ⟨_, _, rfl, e8⟩:=zu e7
  obtain ⟨_, rfl, e9⟩:=jl e8
  obtain ⟨_, _, rfl, e10⟩:=zu e9
  obtain ⟨_, rfl, e11⟩:=jd e10
  obtain ⟨rfl, e12⟩:=yg e11
  cases k with
  | zero=>cases e12
  | succ k=>
   exact zp wide_ok hX0 tab_ok (hC k rfl) Try.func60 (by kernel_rfl:Try.f60.body = some qau.c.code) (by decide) (by kernel_rfl:Try.f60.results.toList = qau.res) (by kernel_rfl:icOk T Try.f60.ntmps qau.c = true) R (fun i h=>absurd h (hX0 i)) hv (Nat.le_of_ble_eq_true rfl) ((congrFun (qau.ok k _ _ _ _ _ κ) h).trans e12)
theorem qi.call (k:Nat) (hC:∀ j, k = j + 1->zo Try.prog T base w0 (env (α:=α) j)):FnOk Try.prog T base w0 (env (α:=α) k) 58:=by
 intro X ι h w args xs κ out hX0 R hv e
 have e:env_58 k args κ h = some out:=e
 unfold env_58 at e
 match args, hv, e with
 | [a0], hv, e=>
  obtain ⟨_, rfl, e1⟩:=jh e
  cases k with
  | zero=>cases e1
  | succ k=>
   exact zp wide_ok hX0 tab_ok (hC k rfl) Try.func58 (by kernel_rfl:Try.f58.body = some qi.c.code) (by decide) (by kernel_rfl:Try.f58.results.toList = qi.res) (by kernel_rfl:icOk T Try.f58.ntmps qi.c = true) R (fun i h=>absurd h (hX0 i)) hv (Nat.le_of_ble_eq_true rfl) ((congrFun (qi.ok k _ κ) h).trans e1)
theorem qt.call (k:Nat) (hC:∀ j, k = j + 1->zo Try.prog T base w0 (env (α:=α) j)):FnOk Try.prog T base w0 (env (α:=α) k) 59:=by
 intro X ι h w args xs κ out hX0 R hv e
 have e:env_59 k args κ h = some out:=e
 unfold env_59 at e
 match args, hv, e with
 | [a0, a1, a2], hv, e=>
  obtain ⟨_, rfl, e1⟩:=jh e
  obtain ⟨_, rfl, e2⟩:=jh e1
  obtain ⟨_, rfl, e3⟩:=jd e2
  cases k with
  | zero=>cases e3
  | succ k=>
   exact zp wide_ok hX0 tab_ok (hC k rfl) Try.func59 (by kernel_rfl:Try.f59.body = some qt.c.code) (by decide) (by kernel_rfl:Try.f59.results.toList = qt.res) (by kernel_rfl:icOk T Try.f59.ntmps qt.c = true) R (fun i h=>absurd h (hX0 i)) hv (Nat.le_of_ble_eq_true rfl) ((congrFun (qt.ok k _ _ _ κ) h).trans e3)
theorem qc.call (k:Nat) (hC:∀ j, k = j + 1->zo Try.prog T base w0 (env (α:=α) j)):FnOk Try.prog T base w0 (env (α:=α) k) 41:=by
 intro X ι h w args xs κ out hX0 R hv e
 have e:env_41 k args κ h = some out:=e
 unfold env_41 at e
 match args, hv, e with
 | [a0], hv, e=>
  obtain ⟨_, rfl, e1⟩:=jh e
  cases k with
  | zero=>cases e1
  | succ k=>
   exact zp wide_ok hX0 tab_ok (hC k rfl) Try.func41 (by kernel_rfl:Try.f41.body = some qc.c.code) (by decide) (by kernel_rfl:Try.f41.results.toList = qc.res) (by kernel_rfl:icOk T Try.f41.ntmps qc.c = true) R (fun i h=>absurd h (hX0 i)) hv (Nat.le_of_ble_eq_true rfl) ((congrFun (qc.ok k _ κ) h).trans e1)
theorem qal.call (k:Nat) (hC:∀ j, k = j + 1->zo Try.prog T base w0 (env (α:=α) j)):FnOk Try.prog T base w0 (env (α:=α) k) 23:=by
 intro X ι h w args xs κ out hX0 R hv e
 have e:env_23 k args κ h = some out:=e
 unfold env_23 at e
 match args, hv, e with
 | [a0], hv, e=>
  obtain ⟨_, rfl, e1⟩:=jh e
  cases k with
  | zero=>cases e1
  | succ k=>
   exact zp wide_ok hX0 tab_ok (hC k rfl) Try.func23 (by kernel_rfl:Try.f23.body = some qal.c.code) (by decide) (by kernel_rfl:Try.f23.results.toList = qal.res) (by kernel_rfl:icOk T Try.f23.ntmps qal.c = true) R (fun i h=>absurd h (hX0 i)) hv (Nat.le_of_ble_eq_true rfl) ((congrFun (qal.ok k _ κ) h).trans e1)
theorem qbk.call (k:Nat) (hC:∀ j, k = j + 1->zo Try.prog T base w0 (env (α:=α) j)):FnOk Try.prog T base w0 (env (α:=α) k) 43:=by
 intro X ι h w args xs κ out hX0 R hv e
 have e:env_43 k args κ h = some out:=e
 unfold env_43 at e
 match args, hv, e with
 | [a0], hv, e=>
  obtain ⟨_, rfl, e1⟩:=jd e
  cases k with
  | zero=>cases e1
  | succ k=>
   exact zp wide_ok hX0 tab_ok (hC k rfl) Try.func43 (by kernel_rfl:Try.f43.body = some qbk.c.code) (by decide) (by kernel_rfl:Try.f43.results.toList = qbk.res) (by kernel_rfl:icOk T Try.f43.ntmps qbk.c = true) R (fun i h=>absurd h (hX0 i)) hv (Nat.le_of_ble_eq_true rfl) ((congrFun (qbk.ok k _ κ) h).trans e1)
theorem qag.call (k:Nat) (hC:∀ j, k = j + 1->zo Try.prog T base w0 (env (α:=α) j)):FnOk Try.prog T base w0 (env (α:=α) k) 24:=by
 intro X ι h w args xs κ out hX0 R hv e
 have e:env_24 k args κ h = some out:=e
 unfold env_24 at e
 match args, hv, e with
 | [a0, a1, a2, a3], hv, e=>
  obtain ⟨_, rfl, e1⟩:=jh e
  obtain ⟨_, rfl, e2⟩:=jd e1
  obtain ⟨_, rfl, e3⟩:=zcz e2
  obtain ⟨_, rfl, e4⟩:=jh e3
  cases k with
  | zero=>cases e4
  | succ k=>
   exact zp wide_ok hX0 tab_ok (hC k rfl) Try.func24 (by kernel_rfl:Try.f24.body = some qag.c.code) (by decide) (by kernel_rfl:Try.f24.results.toList = qag.res) (by kernel_rfl:icOk T Try.f24.ntmps qag.c = true) R (fun i h=>absurd h (hX0 i)) hv (Nat.le_of_ble_eq_true rfl) ((congrFun (qag.ok k _ _ _ _ κ) h).trans e4)
theorem qas.call (k:Nat) (hC:∀ j, k = j + 1->zo Try.prog T base w0 (env (α:=α) j)):FnOk Try.prog T base w0 (env (α:=α) k) 13:=by
 intro X ι h w args xs κ out hX0 R hv e
 have e:env_13 k args κ h = some out:=e
 unfold env_13 at e
 match args, hv, e with
 | [a0], hv, e=>
  obtain ⟨_, rfl, e1⟩:=jh e
  cases k with
  | zero=>cases e1
  | succ k=>
   exact zp wide_ok hX0 tab_ok (hC k rfl) Try.func13 (by kernel_rfl:Try.f13.body = some qas.c.code) (by decide) (by kernel_rfl:Try.f13.results.toList = qas.res) (by kernel_rfl:icOk T Try.f13.ntmps qas.c = true) R (fun i h=>absurd h (hX0 i)) hv (Nat.le_of_ble_eq_true rfl) ((congrFun (qas.ok k _ κ) h).trans e1)
theorem qar.call (k:Nat) (hC:∀ j, k = j + 1->zo Try.prog T base w0 (env (α:=α) j)):FnOk Try.prog T base w0 (env (α:=α) k) 14:=by
 intro X ι h w args xs κ out hX0 R hv e
 have e:env_14 k args κ h = some out:=e
 unfold env_14 at e
 match args, hv, e with
 | [a0], hv, e=>
  obtain ⟨_, rfl, e1⟩:=jh e
  cases k with
  | zero=>cases e1
  | succ k=>
   exact zp wide_ok hX0 tab_ok (hC k rfl) Try.func14 (by kernel_rfl:Try.f14.body = some qar.c.code) (by decide) (by kernel_rfl:Try.f14.results.toList = qar.res) (by kernel_rfl:icOk T Try.f14.ntmps qar.c = true) R (fun i h=>absurd h (hX0 i)) hv (Nat.le_of_ble_eq_true rfl) ((congrFun (qar.ok k _ κ) h).trans e1)
theorem qw.call (k:Nat) (hC:∀ j, k = j + 1->zo Try.prog T base w0 (env (α:=α) j)):FnOk Try.prog T base w0 (env (α:=α) k) 16:=by
 intro X ι h w args xs κ out hX0 R hv e
 have e:env_16 k args κ h = some out:=e
 unfold env_16 at e
 match args, hv, e with
 | [a0], hv, e=>
  obtain ⟨_, rfl, e1⟩:=jh e
  cases k with
  | zero=>cases e1
  | succ k=>
   exact zp wide_ok hX0 tab_ok (hC k rfl) Try.func16 (by kernel_rfl:Try.f16.body = some qw.c.code) (by decide) (by kernel_rfl:Try.f16.results.toList = qw.res) (by kernel_rfl:icOk T Try.f16.ntmps qw.c = true) R (fun i h=>absurd h (hX0 i)) hv (Nat.le_of_ble_eq_true rfl) ((congrFun (qw.ok k _ κ) h).trans e1)
theorem qac.call (k:Nat) (hC:∀ j, k = j + 1->zo Try.prog T base w0 (env (α:=α) j)):FnOk Try.prog T base w0 (env (α:=α) k) 17:=by
 intro X ι h w args xs κ out hX0 R hv e
 have e:env_17 k args κ h = some out:=e
 unfold env_17 at e
 match args, hv, e with
 | [a0], hv, e=>
  obtain ⟨_, rfl, e1⟩:=jh e
  cases k with
  | zero=>cases e1
  | succ k=>
   exact zp wide_ok hX0 tab_ok (hC k rfl) Try.func17 (by kernel_rfl:Try.f17.body = some qac.c.code) (by decide) (by kernel_rfl:Try.f17.results.toList = qac.res) (by kernel_rfl:icOk T Try.f17.ntmps qac.c = true) R (fun i h=>absurd h (hX0 i)) hv (Nat.le_of_ble_eq_true rfl) ((congrFun (qac.ok k _ κ) h).trans e1)
theorem qbg.call (k:Nat) (hC:∀ j, k = j + 1->zo Try.prog T base w0 (env (α:=α) j)):FnOk Try.prog T base w0 (env (α:=α) k) 18:=by
 intro X ι h w args xs κ out hX0 R hv e
 have e:env_18 k args κ h = some out:=e
 unfold env_18 at e
 match args, hv, e with
 | [a0, a1], hv, e=>
  obtain ⟨_, rfl, e1⟩:=jh e
  obtain ⟨_, rfl, e2⟩:=jh e1
  cases k with
  | zero=>cases e2
  | succ k=>
   exact zp wide_ok hX0 tab_ok (hC k rfl) Try.func18 (by kernel_rfl:Try.f18.body = some qbg.c.code) (by decide) (by kernel_rfl:Try.f18.results.toList = qbg.res) (by kernel_rfl:icOk T Try.f18.ntmps qbg.c = true) R (fun i h=>absurd h (hX0 i)) hv (Nat.le_of_ble_eq_true rfl) ((congrFun (qbg.ok k _ _ κ) h).trans e2)
theorem qq.call (k:Nat) (hC:∀ j, k = j + 1->zo Try.prog T base w0 (env (α:=α) j)):FnOk Try.prog T base w0 (env (α:=α) k) 4:=by
 intro X ι h w args xs κ out hX0 R hv e
 have e:env_4 k args κ h = some out:=e
 unfold env_4 at e
 match args, hv, e with
 | [a0], hv, e=>
  obtain ⟨_, rfl, e1⟩:=jh e
  cases k with
  | zero=>cases e1
  | succ k=>
   exact zp wide_ok hX0 tab_ok (hC k rfl) Try.func4 (by kernel_rfl:Try.f4.body = some qq.c.code) (by decide) (by kernel_rfl:Try.f4.results.toList = qq.res) (by kernel_rfl:icOk T Try.f4.ntmps qq.c = true) R (fun i h=>absurd h (hX0 i)) hv (Nat.le_of_ble_eq_true rfl) ((congrFun (qq.ok k _ κ) h).trans e1)
end
end Go.Ab.S7
