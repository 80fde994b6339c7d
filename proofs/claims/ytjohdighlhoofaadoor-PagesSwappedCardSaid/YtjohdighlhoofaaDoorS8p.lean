import Derived.Test.YtjohdighlhoofaaDoorAb20
import Derived.Shelf.Strings.Builder1
import Derived.Test.YtjohdighlhoofaaDoorS8b
import Derived.Test.YtjohdighlhoofaaDoorS8nd
import Derived.Test.YtjohdighlhoofaaDoorS8as
set_option linter.unusedVariables false
set_option linter.unusedSimpArgs false
namespace Go.Ab.S8
open Go.Proofs
variable {α:Type} {base:Nat} {w0:World}
def Laid (base:Nat) (w0:World):Prop:=0 < base ∧ w0.cell? ⟨0, 0, none⟩ = some (.iface 100 (.agg #[.pointer (some ⟨5, 32, none⟩)])) ∧ 1 < base ∧ Lib.TabIs Tryd.prog w0 "internal/strconv.uint64pow10" .u64 Lib.pow10Tab
theorem qae.call (hL:Laid base w0) (k:Nat) (hC:∀ j, k = j + 1->zr Tryd.prog T base w0 (env (α:=α) j)):FnOk Tryd.prog T base w0 (env (α:=α) k) 67:=by
 intro X ι h w args xs κ out hX0 R hv e
 have e:env_67 k args κ h = some out:=e
 unfold env_67 at e
 match args, hv, e with
 | [a0, a1], hv, e=>
  obtain ⟨s, rfl, e1⟩:=yo e
  obtain ⟨c, rfl, e2⟩:=zy e1
  cases k with
  | zero=>cases e2
  | succ k=>
   have e2:κ (.ret (.int .i64 (indexByte s c))) h = some out:=e2
   obtain ⟨⟨b, hb, hs⟩, hc, hn⟩:(∃ b:ByteArray, xs.toList[0]? = some (.string b) ∧ b.data.toList = s) ∧ xs.toList[1]? = some (.int .u8 c) ∧ xs.toList.length = 2:=by
    match hx:xs.toList, hv with
    | [x, y], hv=>
     obtain ⟨⟨b, h1, h2⟩, h3, _⟩:=hv
     exact ⟨⟨b, by rw [h1]; rfl, h2⟩, by rw [show y = _ from h3]; rfl, rfl⟩
   have hxs:xs = #[.string b, .int .u8 c]:=by
    apply Array.ext'
    match hx:xs.toList with
    | [x, y]=>rw [hx] at hb hc; simp at hb hc; rw [hb, hc]
    | []=>rw [hx] at hn; simp at hn
    | [_]=>rw [hx] at hn; simp at hn
    | _ :: _ :: _ :: _=>rw [hx] at hn; simp at hn
   refine .inl ⟨_, .int .i64 (indexByte s c), h, ι, w, e2, ?_, R, Went.refl X ι h w, rfl⟩
   rw [run_callFunc_extern Tryd.func67 (by kernel_rfl) (by kernel_rfl) (by kernel_rfl) (by kernel_rfl:Extern.find Tryd.f67 = some Extern.BytealgIndexByte.indexByte), hxs, Lib.run_indexByteString]
   simp [indexByte, indexB_eq, hs]
theorem qac.call (hL:Laid base w0) (k:Nat) (hC:∀ j, k = j + 1->zr Tryd.prog T base w0 (env (α:=α) j)):FnOk Tryd.prog T base w0 (env (α:=α) k) 37:=by
 intro X ι h w args xs κ out hX0 R hv e
 have e:env_37 k args κ h = some out:=e
 unfold env_37 at e
 match args, hv, e with
 | [a0, a1], hv, e=>
  cases k with
  | zero=>cases e
  | succ k=>
   have e1:zjn 56 71 a0 a1 (fun o0=>κ (.ret (.bool o0))) h = some out:=e
   have hen:(callFunc 37 xs).run Tryd.prog w = .ok (.enter 37 xs) w:=by
    have h1:¬ Tryd.f37.name = "runtime.NumGoroutine":=by decide
    have h2:Tryd.f37.body.isNone = false:=by kernel_rfl
    have h3:¬ Tryd.f37.body = none:=fun h=>by rw [h] at h2; cases h2
    simp [callFunc, Tryd.func37, h1, h3]
   obtain ⟨x, y, rfl, hx, hy⟩:∃ x y, xs = #[x, y] ∧ VR ι (okOf h X) a0 x ∧ VR ι (okOf h X) a1 y:=by
    match hxs:xs.toList, hv with
    | [x, y], hv=>exact ⟨x, y, Array.ext' hxs, hv.1, hv.2.1⟩
   unfold zjn at e1
   cases a1 with
   | iface u v1=>
    cases v1 with
    | ptr o=>
     cases o with
     | none=>cases e1
     | some q=>
      dsimp only at e1
      obtain ⟨hu, e2⟩:=ze e1
      have hu:=Nat.eq_of_beq_eq_true hu
      subst hu
      obtain ⟨y', rfl, hok, rfl⟩:=hy
      cases a0 with
      | nilIface=>
       have hx:x = .nilIface:=hx
       subst hx
       refine .inr ⟨hen, (as_nil _ w).mono ?_⟩
       rintro e w' ⟨rfl, rfl⟩
       exact ⟨.ret (.bool false), h, ι, e2, R, Went.refl X ι h w', rfl⟩
      | iface t' v=>
       obtain ⟨ht, e3⟩:=ze e2
       have ht:=Nat.eq_of_beq_eq_true ht
       subst ht
       obtain ⟨p, rfl, e4⟩:=yg e3
       obtain ⟨p, rfl, e5⟩:=zz e4
       obtain ⟨x', rfl, hokp, rfl⟩:=hx
       obtain ⟨h', hs, e6⟩:=st1_inv e5
       have hg:w.cell? ⟨0, 0, none⟩ = some (.iface 100 (.agg #[.pointer (some ⟨5, 32, none⟩)])):=by
        rw [← hL.2.1]
        simp only [World.cell?, R.old 0 hL.1]
       obtain ⟨⟨old, hc⟩, hf, hone, _⟩:=R.setCell (v:=.ptr (some p)) (x:=.pointer (some (p.to ι))) (a:=q) hok.2 ⟨hokp, rfl⟩ hs
       refine .inr ⟨hen, (as_hit (p.to ι) (q.to ι) old w hg hc hf).mono ?_⟩
       rintro e w' ⟨rfl, rfl⟩
       obtain ⟨R1, W1⟩:=R.other (.cells #[.pointer (some (q.to ι))] 71)
       obtain ⟨R2, W2⟩:=R1.other (.cells #[.pointer (some ⟨5, 71, none⟩), .pointer (some ⟨w.heap.size, 0, none⟩), .int .u64 150] 81)
       obtain ⟨R3, W3⟩:=R2.other (.cells #[.pointer (some ⟨5, 71, none⟩), .pointer (some ⟨w.heap.size, 0, none⟩), .int .u64 150] 81)
       obtain ⟨R4, W4⟩:=R3.other (.cells #[.pointer (some (p.to ι))] 56)
       obtain ⟨_, _, _, R5, W5⟩:=R4.setCell (v:=.ptr (some p)) (x:=.pointer (some (p.to ι))) (a:=q) hok.2 ⟨hokp, rfl⟩ hs
       exact ⟨.ret (.bool true), h', ι, e6, R5, (((W1.trans W2).trans W3).trans W4).trans W5, rfl⟩
      | _=>cases e2
    | _=>cases e1
   | _=>cases e1
theorem qab.call (hL:Laid base w0) (k:Nat) (hC:∀ j, k = j + 1->zr Tryd.prog T base w0 (env (α:=α) j)):FnOk Tryd.prog T base w0 (env (α:=α) k) 64:=by
 intro X ι h w args xs κ out hX0 R hv e
 have e:env_64 k args κ h = some out:=e
 unfold env_64 at e
 match args, hv, e with
 | [a0], hv, e=>
  obtain ⟨x, rfl, e⟩:=zy e
  cases k with
  | zero=>cases e
  | succ k=>
   have e1:need (decide (1≤x) && decide (x < 18446744073709551616)) (κ (.ret (.int .i64 (Lib.nDigits x.toNat)))) h = some out:=e
   obtain ⟨hn, e2⟩:=ze e1
   rw [Bool.and_eq_true, decide_eq_true_eq, decide_eq_true_eq] at hn
   obtain ⟨n, rfl⟩:=Int.eq_ofNat_of_zero_le (by omega:0≤x)
   have hxs:xs = #[.int .u64 n]:=by
    apply Array.ext'
    match hx:xs.toList, hv with
    | [y], hv=>rw [show y = _ from hv.1]
   subst hxs
   have hT:Lib.TabIs Tryd.prog w "internal/strconv.uint64pow10" .u64 Lib.pow10Tab:=by
    have h1:=hL.2.2.2
    unfold Lib.TabIs World.var? at h1 ⊢
    rw [laysNd.m17] at h1 ⊢
    simp only [Option.bind_some] at h1 ⊢
    rw [show rhoNd.g 17 = 1 from rfl] at h1 ⊢
    rw [R.old 1 hL.2.2.1]
    exact h1
   refine .inr ⟨?_, ?_⟩
   ·have h1:¬ Tryd.f64.name = "runtime.NumGoroutine":=by decide
    have h2:Tryd.f64.body.isNone = false:=by kernel_rfl
    have h3:¬ Tryd.f64.body = none:=fun h=>by rw [h] at h2; cases h2
    simp [callFunc, Tryd.func64, h1, h3]
   refine (Any.internal_strconv_numDigits laysNd n (by have:=hn.1; omega) (by have:=hn.2; omega) w hT).mono ?_
   rintro z w' ⟨rfl, rfl⟩
   exact ⟨.ret (.int .i64 (Lib.nDigits n)), h, ι, e2, R, Went.refl X ι h w', rfl⟩
theorem qad.call (hL:Laid base w0) (k:Nat) (hC:∀ j, k = j + 1->zr Tryd.prog T base w0 (env (α:=α) j)):FnOk Tryd.prog T base w0 (env (α:=α) k) 66:=by
 intro X ι h w args xs κ out hX0 R hv e
 have e:env_66 k args κ h = some out:=e
 unfold env_66 at e
 exfalso
 split at e
 ·obtain ⟨_, _, e⟩:=yl e
  obtain ⟨_, _, e⟩:=zy e
  obtain ⟨_, _, e⟩:=zy e
  obtain ⟨_, _, e⟩:=zcy e
  obtain ⟨_, _, e⟩:=zcy e
  cases e
 ·cases e
theorem zmv (hL:Laid base w0) (k:Nat) (hC:∀ j, k = j + 1->zr Tryd.prog T base w0 (env (α:=α) j)):zr Tryd.prog T base w0 (env (α:=α) k):=by
 intro X ι h w g args xs κ out hX0 R hv e
 by_cases h67:g = 67
 ·subst h67; exact qae.call hL k hC X ι h w args xs κ out hX0 R hv e
 by_cases h37:g = 37
 ·subst h37; exact qac.call hL k hC X ι h w args xs κ out hX0 R hv e
 by_cases h64:g = 64
 ·subst h64; exact qab.call hL k hC X ι h w args xs κ out hX0 R hv e
 by_cases h66:g = 66
 ·subst h66; exact qad.call hL k hC X ι h w args xs κ out hX0 R hv e
 by_cases h51:g = 51
 ·subst h51; exact qaa.call k hC X ι h w args xs κ out hX0 R hv e
 by_cases h40:g = 40
 ·subst h40; exact qz.call k hC X ι h w args xs κ out hX0 R hv e
 by_cases h52:g = 52
 ·subst h52; exact qw.call k hC X ι h w args xs κ out hX0 R hv e
 by_cases h53:g = 53
 ·subst h53; exact qb.call k hC X ι h w args xs κ out hX0 R hv e
 by_cases h54:g = 54
 ·subst h54; exact qh.call k hC X ι h w args xs κ out hX0 R hv e
 by_cases h41:g = 41
 ·subst h41; exact qx.call k hC X ι h w args xs κ out hX0 R hv e
 by_cases h25:g = 25
 ·subst h25; exact qi.call k hC X ι h w args xs κ out hX0 R hv e
 by_cases h42:g = 42
 ·subst h42; exact qn.call k hC X ι h w args xs κ out hX0 R hv e
 by_cases h26:g = 26
 ·subst h26; exact ql.call k hC X ι h w args xs κ out hX0 R hv e
 by_cases h43:g = 43
 ·subst h43; exact qm.call k hC X ι h w args xs κ out hX0 R hv e
 by_cases h27:g = 27
 ·subst h27; exact qf.call k hC X ι h w args xs κ out hX0 R hv e
 by_cases h28:g = 28
 ·subst h28; exact qo.call k hC X ι h w args xs κ out hX0 R hv e
 by_cases h29:g = 29
 ·subst h29; exact qr.call k hC X ι h w args xs κ out hX0 R hv e
 by_cases h30:g = 30
 ·subst h30; exact qk.call k hC X ι h w args xs κ out hX0 R hv e
 by_cases h15:g = 15
 ·subst h15; exact qj.call k hC X ι h w args xs κ out hX0 R hv e
 by_cases h17:g = 17
 ·subst h17; exact qt.call k hC X ι h w args xs κ out hX0 R hv e
 by_cases h18:g = 18
 ·subst h18; exact qd.call k hC X ι h w args xs κ out hX0 R hv e
 by_cases h63:g = 63
 ·subst h63; exact qu.call k hC X ι h w args xs κ out hX0 R hv e
 by_cases h65:g = 65
 ·subst h65; exact qg.call k hC X ι h w args xs κ out hX0 R hv e
 by_cases h50:g = 50
 ·subst h50; exact qs.call k hC X ι h w args xs κ out hX0 R hv e
 by_cases h38:g = 38
 ·subst h38; exact qy.call k hC X ι h w args xs κ out hX0 R hv e
 by_cases h21:g = 21
 ·subst h21; exact qp.call k hC X ι h w args xs κ out hX0 R hv e
 by_cases h12:g = 12
 ·subst h12; exact qa.call k hC X ι h w args xs κ out hX0 R hv e
 by_cases h10:g = 10
 ·subst h10; exact qv.call k hC X ι h w args xs κ out hX0 R hv e
 by_cases h20:g = 20
 ·subst h20; exact qq.call k hC X ι h w args xs κ out hX0 R hv e
 by_cases h9:g = 9
 ·subst h9; exact qc.call k hC X ι h w args xs κ out hX0 R hv e
 exfalso
 have:env k g args κ h = none:=by
  unfold env
  split <;> first | contradiction | rfl
 rw [this] at e
 cases e
theorem env_ok (hL:Laid base w0):∀ k:Nat, zr Tryd.prog T base w0 (env (α:=α) k):=by
 intro k
 induction k with
 | zero=>exact zmv hL 0 (fun j h=>by cases h)
 | succ k ih=>exact zmv hL (k + 1) (fun j h=>by cases h; exact ih)
end Go.Ab.S8
