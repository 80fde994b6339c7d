import Derived.Test.YtdhjpnacjnkbgaaGreatDoorS9b
import Derived.Test.YtdhjpnacjnkbgaaGreatDoorS9k
set_option linter.unusedVariables false
set_option linter.unusedSimpArgs false
set_option linter.unusedSectionVars false
namespace Go.Ab.S9
open Go.Proofs Go.Shelf
variable {α:Type} [Subsingleton α] {base:Nat} {w0:World}
theorem qag.call (hL:zdn base w0) (k:Nat) (hC:∀ j, k = j + 1->jb Tryz.prog T base w0 (env (α:=α) j)):FnOk Tryz.prog T base w0 (env (α:=α) k) 11:=by
 cases k with
 | zero=>
  intro X ι h w args xs κ out hX R hv e
  cases args <;> cases e
 | succ k=>exact top_up_ok hL fun ar κ=>by cases ar <;> rfl
theorem qaf.call (hL:zdn base w0) (k:Nat) (hC:∀ j, k = j + 1->jb Tryz.prog T base w0 (env (α:=α) j)):FnOk Tryz.prog T base w0 (env (α:=α) k) 89:=by
 intro X ι h w args xs κ out hX0 R hv e
 have e:env_89 k args κ h = some out:=e
 unfold env_89 at e
 match args, hv, e with
 | [a0], hv, e=>
  obtain ⟨x, rfl, e⟩:=zk e
  cases k with
  | zero=>cases e
  | succ k=>
   have e1:need (decide (0≤x) && decide (x < 18446744073709551616)) (κ (.ret (.int .i64 (Lib.ctz 64 x.toNat)))) h = some out:=e
   obtain ⟨hn, e2⟩:=zg e1
   rw [Bool.and_eq_true, decide_eq_true_eq, decide_eq_true_eq] at hn
   obtain ⟨n, rfl⟩:=Int.eq_ofNat_of_zero_le hn.1
   have hxs:xs = #[.int .u64 n]:=by
    apply Array.ext'
    match hx:xs.toList, hv with
    | [y], hv=>rw [show y = _ from hv.1]
   subst hxs
   have hT:TabAt 0 Lib.deBruijn64tab w:=fun j hj=>by
    rw [← hL.2 j hj]
    simp only [World.cell?, R.old 0 hL.1]
   refine .inr ⟨?_, ?_⟩
   ·have h1:¬ Tryz.f89.name = "runtime.NumGoroutine":=by decide
    have h2:Tryz.f89.body.isNone = false:=by kernel_rfl
    have h3:¬ Tryz.f89.body = none:=fun h=>by rw [h] at h2; cases h2
    simp [callFunc, Tryz.func89, h1, h3]
   refine (Any7.bits_TrailingZeros64 laysTz n (by have:=hn.2; omega) w (fun _=>hT)).mono ?_
   rintro z w' ⟨rfl, rfl⟩
   exact ⟨.ret (.int .i64 (Lib.ctz 64 n)), h, ι, e2, R, Went.refl X ι h w', rfl⟩
theorem zlj (hL:zdn base w0) (k:Nat) (hC:∀ j, k = j + 1->jb Tryz.prog T base w0 (env (α:=α) j)):jb Tryz.prog T base w0 (env (α:=α) k):=by
 intro X ι h w g args xs κ out hX0 R hv e
 by_cases h11:g = 11
 ·subst h11; exact qag.call hL k hC X ι h w args xs κ out hX0 R hv e
 by_cases h89:g = 89
 ·subst h89; exact qaf.call hL k hC X ι h w args xs κ out hX0 R hv e
 by_cases h44:g = 44
 ·subst h44; exact qe.call k hC X ι h w args xs κ out hX0 R hv e
 by_cases h12:g = 12
 ·subst h12; exact qac.call k hC X ι h w args xs κ out hX0 R hv e
 by_cases h150:g = 150
 ·subst h150; exact qad.call k hC X ι h w args xs κ out hX0 R hv e
 by_cases h88:g = 88
 ·subst h88; exact qab.call k hC X ι h w args xs κ out hX0 R hv e
 by_cases h45:g = 45
 ·subst h45; exact qr.call k hC X ι h w args xs κ out hX0 R hv e
 by_cases h19:g = 19
 ·subst h19; exact qn.call k hC X ι h w args xs κ out hX0 R hv e
 by_cases h56:g = 56
 ·subst h56; exact qae.call k hC X ι h w args xs κ out hX0 R hv e
 by_cases h23:g = 23
 ·subst h23; exact qq.call k hC X ι h w args xs κ out hX0 R hv e
 by_cases h51:g = 51
 ·subst h51; exact qf.call k hC X ι h w args xs κ out hX0 R hv e
 by_cases h31:g = 31
 ·subst h31; exact qy.call k hC X ι h w args xs κ out hX0 R hv e
 by_cases h52:g = 52
 ·subst h52; exact qm.call k hC X ι h w args xs κ out hX0 R hv e
 by_cases h48:g = 48
 ·subst h48; exact qg.call k hC X ι h w args xs κ out hX0 R hv e
 by_cases h49:g = 49
 ·subst h49; exact qp.call k hC X ι h w args xs κ out hX0 R hv e
 by_cases h22:g = 22
 ·subst h22; exact qj.call k hC X ι h w args xs κ out hX0 R hv e
 by_cases h21:g = 21
 ·subst h21; exact qw.call k hC X ι h w args xs κ out hX0 R hv e
 by_cases h50:g = 50
 ·subst h50; exact qa.call k hC X ι h w args xs κ out hX0 R hv e
 by_cases h20:g = 20
 ·subst h20; exact qk.call k hC X ι h w args xs κ out hX0 R hv e
 by_cases h46:g = 46
 ·subst h46; exact qs.call k hC X ι h w args xs κ out hX0 R hv e
 by_cases h53:g = 53
 ·subst h53; exact ql.call k hC X ι h w args xs κ out hX0 R hv e
 by_cases h47:g = 47
 ·subst h47; exact qd.call k hC X ι h w args xs κ out hX0 R hv e
 by_cases h13:g = 13
 ·subst h13; exact qc.call k hC X ι h w args xs κ out hX0 R hv e
 by_cases h54:g = 54
 ·subst h54; exact qz.call k hC X ι h w args xs κ out hX0 R hv e
 by_cases h14:g = 14
 ·subst h14; exact qh.call k hC X ι h w args xs κ out hX0 R hv e
 by_cases h15:g = 15
 ·subst h15; exact qu.call k hC X ι h w args xs κ out hX0 R hv e
 by_cases h16:g = 16
 ·subst h16; exact qaa.call k hC X ι h w args xs κ out hX0 R hv e
 by_cases h4:g = 4
 ·subst h4; exact qv.call k hC X ι h w args xs κ out hX0 R hv e
 exfalso
 have:env k g args κ h = none:=by
  unfold env
  split <;> first | contradiction | rfl
 rw [this] at e
 cases e
theorem env_ok (hL:zdn base w0):∀ k:Nat, jb Tryz.prog T base w0 (env (α:=α) k):=by
 intro k
 induction k with
 | zero=>exact zlj hL 0 (fun j h=>by cases h)
 | succ k ih=>exact zlj hL (k + 1) (fun j h=>by cases h; exact ih)
end Go.Ab.S9
