import Derived.Test.YtdhjpnacjnkbgaaGreatDoorS9v
import Derived.Test.YtdhjpnacjnkbgaaGreatDoorAb20
import Derived.Test.YtdhjpnacjnkbgaaGreatDoorS9u
import Derived.Test.YtdhjpnacjnkbgaaGreatDoorS9tz
import Derived.Lib.TrailingZeros
import Derived.KernelRfl
set_option linter.unusedVariables false
set_option linter.unusedSimpArgs false
set_option linter.unusedSectionVars false
namespace Go.Ab.S9
open Go.Proofs Go.Shelf
def hdC:Code->Code
 | .seq a _=>a
 | c=>c
def tlC:Code->Code
 | .seq _ b=>b
 | c=>c
def opAt' (f:Func) (id i:Nat):Oper:=(zb f id).getD i default
noncomputable def an58 (c:Code):IC:=zbw Tryz.f58.ntmps (pl 58) (kl 58) c
noncomputable def b58:Code:=jt Tryz.f58
noncomputable def pre58:List IC:=[an58 (hdC b58), an58 (hdC (tlC b58)), an58 (hdC (tlC (tlC b58)))]
noncomputable def B58:IC:=an58 (tlC (tlC (tlC (tlC b58))))
noncomputable def C91:IC:=zbw Tryz.f91.ntmps (pl 91) (kl 91) (tlC (jt Tryz.f91))
noncomputable def prY {α:Type}:Go.Ab.Call α->Nat->Go.Ab.Call α:=fun call k f args κ=>match f with
 | 215=>(match args with | [a0, a1]=>asStr a0 fun x1=>asI .u8 a1 fun x2=>κ (.ret (.int .i64 (indexByte x1 x2))) | _=>fail)
 | 251=>(match args with | [a0, a1]=>asStr a0 fun x1=>asStr a1 fun x2=>κ (.ret (.int .i64 (Lib.compareBytes x1 x2))) | _=>fail)
 | 89=>(match args with | [a0]=>asI .u64 a0 fun x=>need (decide (0≤x) && decide (x < 18446744073709551616)) (κ (.ret (.int .i64 (Lib.ctz 64 x.toNat)))) | _=>fail)
 | 58=>(match args with | [a0]=>zgm T call k pre58 B58 C91 91 14 5 [.tmp 2, .tmp 3] [2, 3] Tryz.f58.results.toList [a0] κ | _=>fail)
 | _=>fail
def isY (f:Nat):Bool:=Nat.beq f 215 || (Nat.beq f 251 || (Nat.beq f 89 || Nat.beq f 58))
def badY (f:Nat):Bool:=!(reach.any fun g=>Nat.beq g f)
def zdn (base:Nat) (w0:World):Prop:=0 < base ∧ TabAt 0 Lib.deBruijn64tab w0
end Go.Ab.S9
namespace Go.Ab.S9
open Go.Proofs
def zfr:Live:=[
 (380, .cells [.int .i64 3, .int .i64 0, .int .i64 0, .str [112], .int .i64 6, .int .i64 4, .int .i64 0, .int .i64 0, .str [88], .int .i64 13, .int .i64 9, .int .i64 1, .int .i64 0, .str [45], .int .i64 10, .int .i64 7, .int .i64 0, .int .i64 2, .str [], .int .i64 8, .int .i64 10, .int .i64 3, .int .i64 0, .str [88], .int .i64 0] true),
 (460, .map [(.str [112], .agg [.int .u64 4, .int .u64 0, .int .u64 0, .int .u64 0])]),
 (461, .map [(.agg [.int .i64 0, .str [97]], .agg [.int .u64 2, .int .u64 0, .int .u64 0, .int .u64 0]), (.agg [.int .i64 0, .str [45]], .agg [.int .u64 3, .int .u64 0, .int .u64 0, .int .u64 0]), (.agg [.int .i64 0, .str [98]], .agg [.int .u64 1, .int .u64 0, .int .u64 0, .int .u64 0]), (.agg [.int .i64 1, .str [97]], .agg [.int .u64 4, .int .u64 0, .int .u64 0, .int .u64 0]), (.agg [.int .i64 1, .str [45]], .agg [.int .u64 4, .int .u64 0, .int .u64 0, .int .u64 0]), (.agg [.int .i64 2, .str [97]], .agg [.int .u64 4, .int .u64 0, .int .u64 0, .int .u64 0]), (.agg [.int .i64 2, .str [45]], .agg [.int .u64 4, .int .u64 0, .int .u64 0, .int .u64 0])]),
 (462, .cells [.int .i64 3, .map (some 460), .map (some 461)] true),
 (576, .cells [.int .i64 3, .int .i64 0, .int .i64 0, .str [112], .int .i64 6, .int .i64 4, .int .i64 0, .int .i64 0, .str [88], .int .i64 13, .int .i64 9, .int .i64 1, .int .i64 0, .str [45], .int .i64 10, .int .i64 7, .int .i64 0, .int .i64 2, .str [], .int .i64 8, .int .i64 10, .int .i64 3, .int .i64 0, .str [88], .int .i64 0] true),
 (577, .cells [.ptr (some ⟨462, 0⟩), .slice ⟨some ⟨380, 0⟩, 5, 5, some 5⟩, .slice ⟨some ⟨576, 0⟩, 5, 5, some 5⟩, .int .u64 6, .int .u64 0, .int .u64 0, .int .u64 0] true)]
def sysU:List UInt8:=[115, 116, 97, 116, 101, 115, 32, 51, 10, 101, 100, 103, 101, 32, 48, 32, 97, 32, 49, 10, 101, 100, 103, 101, 32, 49, 32, 97, 32, 50, 10, 101, 100, 103, 101, 32, 50, 32, 97, 32, 50, 10, 101, 100, 103, 101, 32, 48, 32, 98, 32, 48, 10, 109, 97, 114, 107, 32, 112, 32, 50, 10]
def frmU:List UInt8:=[109, 117, 32, 88, 46, 32, 112, 32, 124, 32, 91, 45, 93, 88]
noncomputable def envU:Go.Ab.Call Unit:=envX Tryz.prog T an isY badY prY 200000
end Go.Ab.S9
namespace Go.Ab.S9
open Go.Proofs Go.Shelf
section
variable {α:Type} [Subsingleton α] {base:Nat} {w0:World}
theorem zjj (f:Nat) (fn:Func):(an f fn).code = jt fn:=zmh _ _ _ _
theorem prY_ok (hL:zdn base w0) (call:Call α) (k:Nat) (hC:jb Tryz.prog T base w0 call):∀ f, isY f = true->FnOk Tryz.prog T base w0 (prY call k) f:=by
 intro f hf
 simp only [isY, Bool.or_eq_true] at hf
 rcases hf with hf | hf | hf | hf
 ·obtain rfl:=Nat.eq_of_beq_eq_true hf
  intro X ι h w args xs κ out hX R hv e
  match args, hv, e with
  | [a0, a1], hv, e=>
   have e:(asStr a0 fun x1=>asI .u8 a1 fun x2=>κ (.ret (.int .i64 (indexByte x1 x2)))) h = some out:=e
   obtain ⟨s, rfl, e1⟩:=zbn e
   obtain ⟨c, rfl, e2⟩:=zk e1
   obtain ⟨⟨b, hb, hs⟩, hc, hn⟩:(∃ b:ByteArray, xs.toList[0]? = some (.string b) ∧ b.data.toList = s) ∧ xs.toList[1]? = some (.int .u8 c) ∧ xs.toList.length = 2:=by
    match hx:xs.toList, hv with
    | [x, y], hv=>
     obtain ⟨⟨b, h1, h2⟩, h3, _⟩:=hv
     exact ⟨⟨b, by rw [h1]; rfl, h2⟩, by rw [show y = _ from h3]; rfl, rfl⟩
   have hxs:xs = #[.string b, .int .u8 c]:=by
    apply Array.ext'
    match hx:xs.toList with
    | [x, y]=>rw [hx] at hb hc; simp at hb hc; rw [hb, hc]
    | []=>rw [hx] at hn; simp at hn
    | [_]=>rw [hx] at hn; simp at hn
    | _ :: _ :: _ :: _=>rw [hx] at hn; simp at hn
   refine .inl ⟨_, .int .i64 (indexByte s c), h, ι, w, e2, ?_, R, Went.refl X ι h w, rfl⟩
   rw [run_callFunc_extern Tryz.func215 (by kernel_rfl) (by kernel_rfl) (by kernel_rfl) (by kernel_rfl:Extern.find Tryz.f215 = some Extern.BytealgIndexByte.indexByte), hxs, Lib.run_indexByteString]
   simp [indexByte, indexB_eq, hs]
 ·obtain rfl:=Nat.eq_of_beq_eq_true hf
  intro X ι h w args xs κ out hX R hv e
  match args, hv, e with
  | [a0, a1], hv, e=>
   have e:(asStr a0 fun x1=>asStr a1 fun x2=>κ (.ret (.int .i64 (Lib.compareBytes x1 x2)))) h = some out:=e
   obtain ⟨s, rfl, e1⟩:=zbn e
   obtain ⟨t, rfl, e2⟩:=zbn e1
   obtain ⟨b, c, hxs, hs, ht⟩:∃ b c:ByteArray, xs = #[.string b, .string c] ∧ b.data.toList = s ∧ c.data.toList = t:=by
    match hx:xs.toList, hv with
    | [x, y], hv=>
     obtain ⟨⟨b, h1, h2⟩, ⟨c, h3, h4⟩, _⟩:=hv
     exact ⟨b, c, Array.ext' (by rw [hx, h1, h3]), h2, h4⟩
   refine .inl ⟨_, .int .i64 (Lib.compareBytes s t), h, ι, w, e2, ?_, R, Went.refl X ι h w, rfl⟩
   rw [run_callFunc_extern Tryz.func251 (by kernel_rfl) (by kernel_rfl) (by kernel_rfl) (by kernel_rfl:Extern.find Tryz.f251 = some Extern.BytealgCompare.compare), hxs, Lib.run_compareString]
   simp [hs, ht]
 ·obtain rfl:=Nat.eq_of_beq_eq_true hf
  intro X ι h w args xs κ out hX R hv e
  match args, hv, e with
  | [a0], hv, e=>
   have e:(asI .u64 a0 fun x=>need (decide (0≤x) && decide (x < 18446744073709551616)) (κ (.ret (.int .i64 (Lib.ctz 64 x.toNat))))) h = some out:=e
   obtain ⟨x, rfl, e1⟩:=zk e
   obtain ⟨hn, e2⟩:=zg e1
   rw [Bool.and_eq_true, decide_eq_true_eq, decide_eq_true_eq] at hn
   obtain ⟨n, rfl⟩:=Int.eq_ofNat_of_zero_le hn.1
   have hxs:xs = #[.int .u64 n]:=by
    apply Array.ext'
    match hx:xs.toList, hv with
    | [y], hv=>rw [show y = _ from hv.1]
   subst hxs
   have hT:TabAt 0 Lib.deBruijn64tab w:=fun j hj=>by
    rw [← hL.2 j hj]
    simp only [World.cell?, R.old 0 hL.1]
   refine .inr ⟨?_, ?_⟩
   ·have h1:¬ Tryz.f89.name = "runtime.NumGoroutine":=by decide
    have h2:Tryz.f89.body.isNone = false:=by kernel_rfl
    have h3:¬ Tryz.f89.body = none:=fun h=>by rw [h] at h2; cases h2
    simp [callFunc, Tryz.func89, h1, h3]
   refine (Any7.bits_TrailingZeros64 laysTz n (by have:=hn.2; omega) w (fun _=>hT)).mono ?_
   rintro z w' ⟨rfl, rfl⟩
   exact ⟨.ret (.int .i64 (Lib.ctz 64 n)), h, ι, e2, R, Went.refl X ι h w', rfl⟩
 ·obtain rfl:=Nat.eq_of_beq_eq_true hf
  intro X ι h w args xs κ out hX R hv e
  match args, hv, e with
  | [a0], hv, e=>
   have e:zgm T call k pre58 B58 C91 91 14 5 [.tmp 2, .tmp 3] [2, 3] Tryz.f58.results.toList [a0] κ h = some out:=e
   exact zku (pre:=pre58) (B:=B58) (C:=C91) (id:=4) (t:=14) (ops:=zb Tryz.f58 4) (mk:=opAt' Tryz.f58 4 0) (df:=opAt' Tryz.f58 4 1) (g:=91) (caps:=[.tmp 2, .tmp 3]) (idr:=0) (d0:=5) (rops:=zb Tryz.f91 0) (ro:=opAt' Tryz.f91 0 0) (rs:=Tryz.f58.results.toList) (keep:=[2, 3]) (dts:=#[]) (cts:=#[]) wide_ok tab_ok hC Tryz.func58
    (by kernel_rfl:Tryz.f58.body = some (nest pre58 (.seq (.region 4 (zb Tryz.f58 4) false) B58.code))) (by decide) rfl (by kernel_rfl) (by kernel_rfl) (by kernel_rfl) (by decide) (by decide) (by kernel_rfl) (by kernel_rfl) (by kernel_rfl) (by kernel_rfl) (by kernel_rfl) (by kernel_rfl) (by kernel_rfl)
    Tryz.func91 (by decide) (by kernel_rfl:Tryz.f91.body = some (.seq (.region 0 (zb Tryz.f91 0) false) C91.code)) (by kernel_rfl) (by kernel_rfl) (by kernel_rfl) (by kernel_rfl) (by kernel_rfl) (by kernel_rfl) (by decide) (by decide) R hX hv (Nat.le_of_ble_eq_true rfl) e
theorem allY:((List.range Tryz.prog.funcs.size).all fun f=>isY f || (badY f || goodF Tryz.prog T an f)) = true:=by kernel_rfl
theorem zjn (hL:zdn base w0) (k:Nat):jb Tryz.prog T base w0 (envX (α:=α) Tryz.prog T an isY badY prY k):=by
 rw [zkg]
 exact envG_ok wide_ok tab_ok zjj (prY_ok hL) allY k
end
end Go.Ab.S9
namespace Go.Ab.S9
theorem runU1:envU 25 [.str sysU, .str frmU] (κT (.tuple [.ptr (some ⟨577, 0⟩), .nilIface]) 801 zfr) h0 = some ():=by kernel_rfl
end Go.Ab.S9
namespace Go.Ab.S9
theorem runU2:envU 41 [.ptr (some ⟨577, 0⟩), .int .i64 2] (κT (.tuple [.bool true, .int .i64 0]) 1487 zfr) (zaw 801 zfr) = some ():=by kernel_rfl
end Go.Ab.S9
namespace Go.Ab.S9
theorem runU3:envU 42 [.ptr (some ⟨577, 0⟩), .int .i64 0] (κT (.tuple [.bool false, .int .i64 0]) 2970 zfr) (zaw 1487 zfr) = some ():=by kernel_rfl
end Go.Ab.S9
namespace Go.Ab.S9
open Go.Proofs Go.Shelf
def isU (f:Nat):Bool:=Nat.beq f 25 || (Nat.beq f 41 || (Nat.beq f 42 || isY f))
noncomputable def prU:Go.Ab.Call Unit->Nat->Go.Ab.Call Unit:=fun call k f=>match f with
 | 25=>toldO [.str sysU, .str frmU] zfr (.tuple [.ptr (some ⟨577, 0⟩), .nilIface]) 801
 | 41=>told [.ptr (some ⟨577, 0⟩), .int .i64 2] 801 zfr (.tuple [.bool true, .int .i64 0]) 1487
 | 42=>told [.ptr (some ⟨577, 0⟩), .int .i64 0] 1487 zfr (.tuple [.bool false, .int .i64 0]) 2970
 | f=>prY call k f
section
variable {base:Nat} {w0:World}
theorem prU_ok (hL:zdn base w0) (call:Go.Ab.Call Unit) (k:Nat) (hC:jb Tryz.prog T base w0 call):∀ f, isU f = true->FnOk Tryz.prog T base w0 (prU call k) f:=by
 intro f hf
 by_cases h1:f = 25
 ·subst h1; exact toldO_ok (zjn hL 200000) runU1 fun _ _=>rfl
 by_cases h2:f = 41
 ·subst h2; exact told_ok (zjn hL 200000) runU2 fun _ _=>rfl
 by_cases h3:f = 42
 ·subst h3; exact told_ok (zjn hL 200000) runU3 fun _ _=>rfl
 have hy:isY f = true:=by
  simp only [isU, Bool.or_eq_true] at hf
  rcases hf with hf | hf | hf | hf
  ·exact absurd (Nat.eq_of_beq_eq_true hf) h1
  ·exact absurd (Nat.eq_of_beq_eq_true hf) h2
  ·exact absurd (Nat.eq_of_beq_eq_true hf) h3
  ·exact hf
 have he:prU call k f = prY call k f:=by
  unfold prU
  split <;> first | exact absurd rfl h1 | exact absurd rfl h2 | exact absurd rfl h3 | rfl
 intro X ι h w ar xs κ out hX R hv e
 rw [he] at e
 exact prY_ok hL call k hC f hy X ι h w ar xs κ out hX R hv e
theorem allU:((List.range Tryz.prog.funcs.size).all fun f=>isU f || (badY f || goodF Tryz.prog T an f)) = true:=by
 refine List.all_eq_true.2 fun f hf=>?_
 have:=List.all_eq_true.1 allY f hf
 simp only [Bool.or_eq_true] at this ⊢
 rcases this with h | h
 ·exact .inl (by simp only [isU, Bool.or_eq_true]; exact .inr (.inr (.inr h)))
 ·exact .inr h
theorem upU_run:xF T (envX Tryz.prog T an isU badY prU 100000) 100000 (an 11 Tryz.f11) Tryz.f11.results.toList [] κ0 h0 = some ():=by kernel_rfl
theorem up_calls (hL:zdn base w0) (W:World) (hb:base≤W.heap.size) (hw:∀ b, b < base->W.heap[b]? = w0.heap[b]?) :
  Calls Tryz.prog 11 #[] W fun e w'=>e = .returned (.bool true) ∧ RowKit.Below W.heap.size W w':=by
 have hL':zdn W.heap.size W:=⟨Nat.lt_of_lt_of_le hL.1 hb, fun j hj=>by
  rw [← hL.2 j hj]
  simp only [World.cell?, hw 0 hL.1]⟩
 refine law_below wide_ok tab_ok (fun _=>rfl) (call:=envG Tryz.prog T an isU badY prU 100000) (envG_ok wide_ok tab_ok zjj (prU_ok hL') allU 100000) Tryz.func11 (c:=an 11 Tryz.f11) (rs:=Tryz.f11.results.toList) (n:=100000)
  ?_ (by decide) rfl (by kernel_rfl) (args:=[]) trivial (Nat.zero_le _) ?_
 ·rw [zjj]; kernel_rfl
 ·rw [← xF_eq, ← zkg]; exact upU_run
theorem top_up_ok {α:Type} [Subsingleton α] (hL:zdn base w0) {call:Go.Ab.Call α} (hc:∀ ar κ, call 11 ar κ = match ar with | []=>κ (.ret (.bool true)) | _=>fail):FnOk Tryz.prog T base w0 call 11:=by
 intro X ι h w ar xs κ out hX R hv e
 rw [hc] at e
 exact FnOk.closed Tryz.func11 (by kernel_rfl) (by decide) (up_calls hL) X ι h w ar xs κ out hX R hv e
end
end Go.Ab.S9
