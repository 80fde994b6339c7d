import Derived.Test.YtdhjpnacjnkbgaaGreatDoorAb19
import Derived.Sort.Defs
import Derived.Lib.BitFns
import Derived.Test.YtdhjpnacjnkbgaaGreatDoorS9t
import Derived.KernelRfl
import Derived.Lib.TrailingZeros
set_option linter.unusedVariables false
set_option linter.unusedSimpArgs false
set_option linter.unusedSectionVars false
namespace Go.Ab.S9
abbrev TX:=List UInt8
abbrev KF (α:Type):=Ex->Frame->M α
abbrev fr0 (x0 x1:Int):Frame:=za [(2, .int .i64 x0), (3, .int .i64 x1)]
abbrev fr1 (x0:Bool):Frame:=za [(2, .bool x0)]
abbrev fr2 (x0 x1:Int):Frame:=za [(0, .int .u64 x0), (1, .int .u64 x1)]
abbrev fr3 (x0 x1:Int):Frame:=za [(4, .int .u64 x0), (5, .int .u64 x1)]
abbrev fr4 (x0:Sl) (x1:Int):Frame:=za [(0, .slice x0), (1, .int .i64 x1)]
abbrev fr5 (x0:Sl) (x1:Int):Frame:=za [(7, .slice x0), (8, .int .i64 x1)]
abbrev fr6 (x0:Sl):Frame:=za [(7, .slice x0)]
abbrev fr7 (x0:Sl):Frame:=za [(4, .slice x0)]
abbrev fr8 (x0:Int):Frame:=za [(0, .int .i64 x0)]
abbrev fr9 (x0:Int):Frame:=za [(0, .int .u64 x0)]
abbrev fr10 (x0:Int):Frame:=za [(2, .int .i64 x0)]
abbrev fr11 (x0:Int):Frame:=za [(3, .int .i64 x0)]
abbrev fr12 (x0:Sl):Frame:=za [(3, .slice x0)]
abbrev fr13 (x0:Sl):Frame:=za [(2, .slice x0)]
abbrev fr14 (x0:Sl):Frame:=za [(0, .slice x0)]
section
variable {α:Type}
open Go.Proofs
def opAt (f:Func) (id i:Nat):Oper:=(zb f id).getD i default
noncomputable def qag.f:Nat->(Bool->M α)->M α
 | 0, _=>fail
 | _ + 1, ret=>ret true
noncomputable def qaf.f:Nat->Int->(Int->M α)->M α
 | 0, _, _=>fail
 | _ + 1, x, ret=>need (decide (0≤x) && decide (x < 18446744073709551616)) (ret (Lib.ctz 64 x.toNat))
noncomputable def qe.u1.f (k:Nat) (x0 x1 x2:Sl) (kn:Ad->Int->M α) (kr:Int->Int->M α):M α:=
 new [.slice x0, .slice x1, .slice x2] fun g5=>
 ldS ((g5.add 2).add 0) fun x6=>
 ldS ((g5.add 0).add 0) fun x7=>
 cond (!(decide ((x7.len:Int) = (x6.len:Int)))) (
  kr 0 1) (
  ldS ((g5.add 1).add 0) fun x8=>
  cond (!(decide ((x8.len:Int) = (x6.len:Int)))) (
   kr 0 1) (
   cond (decide ((x6.len:Int) < 1)) (
    kr 0 10) (
    cond (decide (200 < (x6.len:Int))) (
     kr 0 10) (
     kn g5 (x6.len:Int)))))
noncomputable def qe.u1.c (R:IC):IC:=(.seq (.ops 0 (zb Tryz.f44 0)) (.seq (.ops 1 (zb Tryz.f44 1)) (.seq (.cut [1, 4] (.block 0 (.seq (.ops 2 (zb Tryz.f44 2)) (.cond (.tmp 12) (.seq (.ops 3 (zb Tryz.f44 3)) (.ret [2, 3])) (.seq (.ops 4 (zb Tryz.f44 4)) (.cond (.tmp 25) (.seq (.ops 5 (zb Tryz.f44 5)) (.ret [2, 3])) .skip)))))) R)))
noncomputable def qe.u2.f (k:Nat) (x0:Ad) (x1:Int) (kn:Ad->Int->Sl->Int->Int->M α):M α:=
 ldS ((x0.add 2).add 0) fun x4=>
 kn x0 x1 x4 (x4.len:Int) 0
noncomputable def qe.u2.c (R:IC):IC:=(.seq (.cut [1, 4, 33, 34, 35] (.ops 6 (zb Tryz.f44 6))) R)
noncomputable def qe.u3.f (k:Nat) (x0:Ad) (x1:Int) (x2:Sl) (x3 x4:Int) (kn:Ad->Int->Sl->Int->Int->M α) (kx1:M α):M α:=
 cond (decide (x4 < x3)) (
  kn x0 x1 x2 x3 x4) (
  kx1)
noncomputable def qe.u3.c (R:IC):IC:=(.seq (.ops 7 (zb Tryz.f44 7)) (.seq (.cut [1, 4, 33, 34, 35] (.cond (.tmp 36) .skip (.exit 1 []))) R))
noncomputable def qe.u4.f (k:Nat) (x0:Ad) (x1:Int) (x2:Sl) (x3 x4:Int) (kn:Ad->Int->Int->Sl->Sl->Int->Int->Sl->Int->Int->M α) (kr:Int->Int->M α):M α:=
 idxSl x2 x4 1 fun a7=>
 ldS (a7.add 0) fun x8=>
 ldS ((x0.add 0).add 0) fun x9=>
 idxSl x9 x4 1 fun a10=>
 ldI .i64 (a10.add 0) fun x11=>
 cond (decide (x11 < 0)) (
  kr x4 14) (
  ldS ((x0.add 0).add 0) fun x12=>
  idxSl x12 x4 1 fun a13=>
  ldI .i64 (a13.add 0) fun x14=>
  cond (decide (1 < x14)) (
   kr x4 14) (
   ldS ((x0.add 1).add 0) fun x15=>
   idxSl x15 x4 1 fun a16=>
   ldI .i64 (a16.add 0) fun x17=>
   cond (decide (x17 < 0)) (
    kr x4 15) (
    ldS ((x0.add 1).add 0) fun x18=>
    idxSl x18 x4 1 fun a19=>
    ldI .i64 (a19.add 0) fun x20=>
    cond (decide (7 < x20)) (
     kr x4 15) (
     cond (decide ((x8.len:Int) = 0)) (
      kr x4 17) (
      kn x0 x1 x4 x8 x2 x3 x4 x8 (x8.len:Int) 0)))))
noncomputable def qe.u4.c (R:IC):IC:=(.seq (.ops 8 (zb Tryz.f44 8)) (.seq (.block 3 (.seq (.ops 9 (zb Tryz.f44 9)) (.cond (.tmp 40) (.seq (.ops 10 (zb Tryz.f44 10)) (.ret [2, 3])) (.seq (.ops 11 (zb Tryz.f44 11)) (.cond (.tmp 56) (.seq (.ops 12 (zb Tryz.f44 12)) (.ret [2, 3])) (.seq (.ops 13 (zb Tryz.f44 13)) (.cond (.tmp 72) (.seq (.ops 14 (zb Tryz.f44 14)) (.ret [2, 3])) .skip))))))) (.seq (.cut [1, 4, 5, 6, 33, 34, 35, 77, 78, 79] (.ops 15 (zb Tryz.f44 15))) R)))
noncomputable def qe.u5.f (k:Nat) (x0:Ad) (x1 x2:Int) (x3 x4:Sl) (x5 x6:Int) (x7:Sl) (x8 x9:Int) (kn:Ad->Int->Int->Sl->Sl->Int->Int->Sl->Int->Int->M α) (kr:Int->Int->M α) (kx4:Ad->Int->Sl->Int->Int->M α):M α:=
 cond (decide (x9 < x8)) (
  idxSl x7 x9 1 fun a12=>
  ldI .i64 (a12.add 0) fun x13=>
  cond (decide (x13 < 0)) (
   kr x2 16) (
   cond (decide (x1≤x13)) (
    kr x2 16) (
    cond (decide (0 < x9)) (
     idxSl x3 (w64 (x9 - 1)) 1 fun a14=>
     ldI .i64 (a14.add 0) fun x15=>
     cond (decide (x13≤x15)) (
      kr x2 16) (
      kn x0 x1 x2 x3 x4 x5 x6 x7 x8 (w64 (x9 + 1)))) (
     kn x0 x1 x2 x3 x4 x5 x6 x7 x8 (w64 (x9 + 1)))))) (
  kx4 x0 x1 x4 x5 x6)
noncomputable def qe.u5.c:IC:=(.seq (.ops 16 (zb Tryz.f44 16)) (.seq (.cond (.tmp 80) .skip (.exit 4 [1, 4, 33, 34, 35])) (.seq (.block 5 (.seq (.ops 17 (zb Tryz.f44 17)) (.seq (.ops 18 (zb Tryz.f44 18)) (.cond (.tmp 103) (.seq (.ops 19 (zb Tryz.f44 19)) (.ret [2, 3])) .skip)))) (.cut [1, 4, 5, 6, 33, 34, 35, 77, 78, 79] (.ops 20 (zb Tryz.f44 20))))))
noncomputable def qe.u6.l (k:Nat) (kr:Int->Int->M α) (kx4:Ad->Int->Sl->Int->Int->M α):Nat->Ad->Int->Int->Sl->Sl->Int->Int->Sl->Int->Int->M α
 | 0, _, _, _, _, _, _, _, _, _, _=>fail
 | j + 1, x0, x1, x2, x3, x4, x5, x6, x7, x8, x9=>
  qe.u5.f k x0 x1 x2 x3 x4 x5 x6 x7 x8 x9 (fun y0 y1 y2 y3 y4 y5 y6 y7 y8 y9=>qe.u6.l k kr kx4 j y0 y1 y2 y3 y4 y5 y6 y7 y8 y9) kr kx4
noncomputable abbrev qe.u6.f (k:Nat) (x0:Ad) (x1 x2:Int) (x3 x4:Sl) (x5 x6:Int) (x7:Sl) (x8 x9:Int) (kr:Int->Int->M α) (kx4:Ad->Int->Sl->Int->Int->M α):M α:=
 qe.u6.l k kr kx4 k x0 x1 x2 x3 x4 x5 x6 x7 x8 x9
noncomputable def qe.u6.c:IC:=.loop [1, 4, 5, 6, 33, 34, 35, 77, 78, 79] qe.u5.c
noncomputable abbrev qe.u7.f (k:Nat) (x0:Ad) (x1 x2:Int) (x3 x4:Sl) (x5 x6:Int) (x7:Sl) (x8 x9:Int) (kn:Ad->Int->Sl->Int->Int->M α) (kr:Int->Int->M α):M α:=
 qe.u6.f k x0 x1 x2 x3 x4 x5 x6 x7 x8 x9 kr (fun y0 y1 y2 y3 y4=>kn y0 y1 y2 y3 y4)
noncomputable def qe.u7.c:IC:=.block 4 qe.u6.c
noncomputable abbrev qe.u8.f (k:Nat) (x0:Ad) (x1:Int) (x2:Sl) (x3 x4:Int) (kn:Ad->Int->Sl->Int->Int->M α) (kr:Int->Int->M α):M α:=
 qe.u4.f k x0 x1 x2 x3 x4 (fun y0 y1 y2 y3 y4 y5 y6 y7 y8 y9=>qe.u7.f k y0 y1 y2 y3 y4 y5 y6 y7 y8 y9 kn kr) kr
noncomputable def qe.u8.c:IC:=qe.u4.c qe.u7.c
noncomputable abbrev qe.u9.f (k:Nat) (x0:Ad) (x1:Int) (x2:Sl) (x3 x4:Int) (kn:Ad->Int->Sl->Int->Int->M α) (kr:Int->Int->M α):M α:=
 qe.u8.f k x0 x1 x2 x3 x4 (fun y0 y1 y2 y3 y4=>kn y0 y1 y2 y3 y4) kr
noncomputable def qe.u9.c:IC:=.block 2 qe.u8.c
noncomputable def qe.u10.f (k:Nat) (x0:Ad) (x1:Int) (x2:Sl) (x3 x4:Int) (kn:Ad->Int->Sl->Int->Int->M α):M α:=
 kn x0 x1 x2 x3 (w64 (x4 + 1))
noncomputable def qe.u10.c:IC:=(.cut [1, 4, 33, 34, 35] (.ops 21 (zb Tryz.f44 21)))
noncomputable abbrev qe.u11.f (k:Nat) (x0:Ad) (x1:Int) (x2:Sl) (x3 x4:Int) (kn:Ad->Int->Sl->Int->Int->M α) (kr:Int->Int->M α):M α:=
 qe.u9.f k x0 x1 x2 x3 x4 (fun y0 y1 y2 y3 y4=>qe.u10.f k y0 y1 y2 y3 y4 kn) kr
noncomputable def qe.u11.c:IC:=(.seq qe.u9.c qe.u10.c)
noncomputable abbrev qe.u12.f (k:Nat) (x0:Ad) (x1:Int) (x2:Sl) (x3 x4:Int) (kn:Ad->Int->Sl->Int->Int->M α) (kr:Int->Int->M α) (kx1:M α):M α:=
 qe.u3.f k x0 x1 x2 x3 x4 (fun y0 y1 y2 y3 y4=>qe.u11.f k y0 y1 y2 y3 y4 kn kr) kx1
noncomputable def qe.u12.c:IC:=qe.u3.c qe.u11.c
noncomputable def qe.u13.l (k:Nat) (kr:Int->Int->M α) (kx1:M α):Nat->Ad->Int->Sl->Int->Int->M α
 | 0, _, _, _, _, _=>fail
 | j + 1, x0, x1, x2, x3, x4=>
  qe.u12.f k x0 x1 x2 x3 x4 (fun y0 y1 y2 y3 y4=>qe.u13.l k kr kx1 j y0 y1 y2 y3 y4) kr kx1
noncomputable abbrev qe.u13.f (k:Nat) (x0:Ad) (x1:Int) (x2:Sl) (x3 x4:Int) (kr:Int->Int->M α) (kx1:M α):M α:=
 qe.u13.l k kr kx1 k x0 x1 x2 x3 x4
noncomputable def qe.u13.c:IC:=.loop [1, 4, 33, 34, 35] qe.u12.c
noncomputable abbrev qe.u14.f (k:Nat) (x0:Ad) (x1:Int) (x2:Sl) (x3 x4:Int) (kn:M α) (kr:Int->Int->M α):M α:=
 qe.u13.f k x0 x1 x2 x3 x4 kr (kn)
noncomputable def qe.u14.c:IC:=.block 1 qe.u13.c
noncomputable abbrev qe.u15.f (k:Nat) (x0:Ad) (x1:Int) (kn:M α) (kr:Int->Int->M α):M α:=
 qe.u2.f k x0 x1 (fun y0 y1 y2 y3 y4=>qe.u14.f k y0 y1 y2 y3 y4 kn kr)
noncomputable def qe.u15.c:IC:=qe.u2.c qe.u14.c
noncomputable def qe.u16.f (k:Nat) (kr:Int->Int->M α):M α:=
 kr 0 0
noncomputable def qe.u16.c:IC:=(.seq (.ops 22 (zb Tryz.f44 22)) (.ret [2, 3]))
noncomputable abbrev qe.u17.f (k:Nat) (x0:Ad) (x1:Int) (kr:Int->Int->M α):M α:=
 qe.u15.f k x0 x1 (qe.u16.f k kr) kr
noncomputable def qe.u17.c:IC:=(.seq qe.u15.c qe.u16.c)
noncomputable abbrev qe.u18.f (k:Nat) (x0 x1 x2:Sl) (kr:Int->Int->M α):M α:=
 qe.u1.f k x0 x1 x2 (fun y0 y1=>qe.u17.f k y0 y1 kr) kr
noncomputable def qe.u18.c:IC:=qe.u1.c qe.u17.c
noncomputable def qe.f:Nat->Sl->Sl->Sl->(Int->Int->M α)->M α
 | 0, _, _, _, _=>fail
 | k + 1, x0, x1, x2, ret=>
  qe.u18.f k x0 x1 x2 (fun y0 y1=>
   ret y0 y1)
noncomputable def qac.u1.f (k:Nat) (x0 x1 x2:Sl) (kr:Bool->M α):M α:=
 new [.slice x0, .slice x1, .slice x2] fun g5=>
 ldS (g5.add 0) fun x6=>
 ldS (g5.add 1) fun x7=>
 ldS (g5.add 2) fun x8=>
 qe.f k x6 x7 x8 fun r9 r10=>
 kr (decide (r10 = 0))
noncomputable def qac.u1.c:IC:=(.seq (.ops 0 (zb Tryz.f12 0)) (.seq (.ops 1 (zb Tryz.f12 1)) (.seq (.ops 2 (zb Tryz.f12 2)) (.ret [2]))))
noncomputable def qac.f:Nat->Sl->Sl->Sl->(Bool->M α)->M α
 | 0, _, _, _, _=>fail
 | k + 1, x0, x1, x2, ret=>
  qac.u1.f k x0 x1 x2 (fun y0=>
   ret y0)
noncomputable def qad.u1.f (k:Nat) (x0 x1:Int) (kr:Int->Int->M α):M α:=
 kr (IntKind.wrap .u64 ((IntKind.wrap .u64 ((IntKind.wrap .u64 ((Int.fdiv x0 (2 ^ (min (32:Int).toNat 64))) * (Int.fdiv x1 (2 ^ (min (32:Int).toNat 64))))) + (Int.fdiv (IntKind.wrap .u64 ((IntKind.wrap .u64 ((Int.fdiv x0 (2 ^ (min (32:Int).toNat 64))) * (bits .and .u64 x1 4294967295))) + (Int.fdiv (IntKind.wrap .u64 ((bits .and .u64 x0 4294967295) * (bits .and .u64 x1 4294967295))) (2 ^ (min (32:Int).toNat 64))))) (2 ^ (min (32:Int).toNat 64))))) + (Int.fdiv (IntKind.wrap .u64 ((bits .and .u64 (IntKind.wrap .u64 ((IntKind.wrap .u64 ((Int.fdiv x0 (2 ^ (min (32:Int).toNat 64))) * (bits .and .u64 x1 4294967295))) + (Int.fdiv (IntKind.wrap .u64 ((bits .and .u64 x0 4294967295) * (bits .and .u64 x1 4294967295))) (2 ^ (min (32:Int).toNat 64))))) 4294967295) + (IntKind.wrap .u64 ((bits .and .u64 x0 4294967295) * (Int.fdiv x1 (2 ^ (min (32:Int).toNat 64))))))) (2 ^ (min (32:Int).toNat 64))))) (IntKind.wrap .u64 (x0 * x1))
noncomputable def qad.u1.c:IC:=(.seq (.ops 0 (zb Tryz.f150 0)) (.seq (.ops 1 (zb Tryz.f150 1)) (.seq (.ops 2 (zb Tryz.f150 2)) (.seq (.ops 3 (zb Tryz.f150 3)) (.seq (.ops 4 (zb Tryz.f150 4)) (.seq (.ops 5 (zb Tryz.f150 5)) (.seq (.ops 6 (zb Tryz.f150 6)) (.seq (.ops 7 (zb Tryz.f150 7)) (.seq (.ops 8 (zb Tryz.f150 8)) (.seq (.ops 9 (zb Tryz.f150 9)) (.seq (.ops 10 (zb Tryz.f150 10)) (.seq (.ops 11 (zb Tryz.f150 11)) (.ret [4, 5])))))))))))))
noncomputable def qad.f:Nat->Int->Int->(Int->Int->M α)->M α
 | 0, _, _, _=>fail
 | k + 1, x0, x1, ret=>
  qad.u1.f k x0 x1 (fun y0 y1=>
   ret y0 y1)
noncomputable def qab.u1.f (k:Nat) (x0 x1:Int) (kr:Int->Int->M α):M α:=
 qad.f k x0 x1 fun r4 r5=>
 kr r4 r5
noncomputable def qab.u1.c:IC:=(.seq (.ops 0 (zb Tryz.f88 0)) (.seq (.cond (.const (.bool false)) (.seq (.ops 1 (zb Tryz.f88 1)) (.seq (.ops 2 (zb Tryz.f88 2)) (.ret [4, 5]))) .skip) (.seq (.ops 3 (zb Tryz.f88 3)) (.seq (.ops 4 (zb Tryz.f88 4)) (.ret [4, 5])))))
noncomputable def qab.f:Nat->Int->Int->(Int->Int->M α)->M α
 | 0, _, _, _=>fail
 | k + 1, x0, x1, ret=>
  qab.u1.f k x0 x1 (fun y0 y1=>
   ret y0 y1)
noncomputable def qr.u1.f (k:Nat) (x0:Sl) (x1:Int) (kn:Sl->Int->M α):M α:=
 cond (decide (x1 < 0)) (
  fail) (
  qab.f k (IntKind.wrap .u64 ((x0.len:Int))) (IntKind.wrap .u64 (x1)) fun r4 r5=>
  cond (decide (0 < r4)) (
   fail) (
   cond (decide (9223372036854775807 < r5)) (
    fail) (
    mkSl (w64 (r5)) (w64 (r5)) 8 [.int .i64 0] fun r6=>
    zds r6 x0 1 fun n7=>
    kn r6 n7)))
noncomputable def qr.u1.c (R:IC):IC:=(.seq (.ops 0 (zb Tryz.f45 0)) (.seq (.seq (.ops 1 (zb Tryz.f45 1)) (.cond (.tmp 10) (.dead (.region 2 (zb Tryz.f45 2) false)) .skip)) (.seq (.ops 3 (zb Tryz.f45 3)) (.seq (.seq (.ops 4 (zb Tryz.f45 4)) (.cond (.tmp 26) (.dead (.region 5 (zb Tryz.f45 5) false)) .skip)) (.seq (.ops 6 (zb Tryz.f45 6)) (.seq (.cut [7, 8] (.ops 7 (zb Tryz.f45 7))) R))))))
noncomputable def qr.u2.f (k:Nat) (x0:Sl) (x1:Int) (kn:Sl->Int->M α) (kx0:Sl->M α):M α:=
 cond (decide (x1 < (x0.len:Int))) (
  cutSl x0 1 (some x1) none none fun x4=>
  cutSl x0 1 none (some x1) none fun x5=>
  zds x4 x5 1 fun n6=>
  kn x0 (w64 (x1 + n6))) (
  kx0 x0)
noncomputable def qr.u2.c:IC:=(.seq (.seq (.ops 8 (zb Tryz.f45 8)) (.cond (.tmp 37) .skip (.exit 0 [7]))) (.cut [7, 8] (.block 1 (.drawn 9 (zb Tryz.f45 9) true [.op 0, .op 1, .op 2, .op 3, .op 4, .op 5, .op 6, .op 7, .op 8, .op 9]))))
noncomputable def qr.u3.l (k:Nat) (kx0:Sl->M α):Nat->Sl->Int->M α
 | 0, _, _=>fail
 | j + 1, x0, x1=>
  qr.u2.f k x0 x1 (fun y0 y1=>qr.u3.l k kx0 j y0 y1) kx0
noncomputable abbrev qr.u3.f (k:Nat) (x0:Sl) (x1:Int) (kx0:Sl->M α):M α:=
 qr.u3.l k kx0 k x0 x1
noncomputable def qr.u3.c:IC:=.loop [7, 8] qr.u2.c
noncomputable abbrev qr.u4.f (k:Nat) (x0:Sl) (x1:Int) (kn:Sl->M α):M α:=
 qr.u3.f k x0 x1 (fun y0=>kn y0)
noncomputable def qr.u4.c:IC:=.block 0 qr.u3.c
noncomputable def qr.u5.f (k:Nat) (x0:Sl) (kr:Sl->M α):M α:=
 kr x0
noncomputable def qr.u5.c:IC:=(.seq (.ops 10 (zb Tryz.f45 10)) (.ret [4]))
noncomputable abbrev qr.u6.f (k:Nat) (x0:Sl) (x1:Int) (kr:Sl->M α):M α:=
 qr.u4.f k x0 x1 (fun y0=>qr.u5.f k y0 kr)
noncomputable def qr.u6.c:IC:=(.seq qr.u4.c qr.u5.c)
noncomputable abbrev qr.u7.f (k:Nat) (x0:Sl) (x1:Int) (kr:Sl->M α):M α:=
 qr.u1.f k x0 x1 (fun y0 y1=>qr.u6.f k y0 y1 kr)
noncomputable def qr.u7.c:IC:=qr.u1.c qr.u6.c
noncomputable def qr.f:Nat->Sl->Int->(Sl->M α)->M α
 | 0, _, _, _=>fail
 | k + 1, x0, x1, ret=>
  qr.u7.f k x0 x1 (fun y0=>
   ret y0)
noncomputable def qn.u1.f (k:Nat) (x0:Int) (kn:Int->Ad->Ad->M α):M α:=
 new [.int .u64 0, .int .u64 0, .int .u64 0, .int .u64 0] fun x3=>
 new [.int .u64 0, .int .u64 0, .int .u64 0, .int .u64 0] fun s4=>
 kn (if 0 > x0 then 0 else x0) x3 s4
noncomputable def qn.u1.c (R:IC):IC:=(.seq (.ops 0 (zb Tryz.f19 0)) (.seq (.ops 1 (zb Tryz.f19 1)) (.seq (.cut [0, 2, 3] (.ops 2 (zb Tryz.f19 2))) R)))
noncomputable def qn.u2.f (k:Nat) (x0:Int) (x1 x2:Ad) (kn:Int->Ad->Ad->Int->M α):M α:=
 kn x0 x1 x2 0
noncomputable def qn.u2.c (R:IC):IC:=(.seq (.cut [0, 2, 3, 8] (.ops 3 (zb Tryz.f19 3))) R)
noncomputable def qn.u3.f (k:Nat) (x0:Int) (x1 x2:Ad) (x3:Int) (kn:Int->Ad->Ad->Int->M α) (kx0:Ad->Ad->M α):M α:=
 cond (decide (x3 < 4)) (
  cond (decide (256 < x0)) (
   need (decide (0≤IntKind.wrap .u64 (64))) <|
   need (decide (0≤x3)) <|
   need (decide (x3 < (4:Int))) <|
   st1 (((x2.add (x3.toNat * 1))).add 0) (.int .u64 (IntKind.wrap .u64 ((IntKind.wrap .u64 (1 * 2 ^ (min (IntKind.wrap .u64 (64)).toNat 64))) - 1))) <|
   kn x0 x1 x2 (w64 (x3 + 1))) (
   need (decide (0≤IntKind.wrap .u64 (if 64 < if 0 > w64 (x0 - (w64 (64 * x3))) then 0 else w64 (x0 - (w64 (64 * x3))) then 64 else if 0 > w64 (x0 - (w64 (64 * x3))) then 0 else w64 (x0 - (w64 (64 * x3)))))) <|
   need (decide (0≤x3)) <|
   need (decide (x3 < (4:Int))) <|
   st1 (((x2.add (x3.toNat * 1))).add 0) (.int .u64 (IntKind.wrap .u64 ((IntKind.wrap .u64 (1 * 2 ^ (min (IntKind.wrap .u64 (if 64 < if 0 > w64 (x0 - (w64 (64 * x3))) then 0 else w64 (x0 - (w64 (64 * x3))) then 64 else if 0 > w64 (x0 - (w64 (64 * x3))) then 0 else w64 (x0 - (w64 (64 * x3))))).toNat 64))) - 1))) <|
   kn x0 x1 x2 (w64 (x3 + 1)))) (
  kx0 x1 x2)
noncomputable def qn.u3.c:IC:=(.seq (.ops 4 (zb Tryz.f19 4)) (.seq (.cond (.tmp 9) .skip (.exit 0 [2, 3])) (.seq (.block 1 (.seq (.ops 5 (zb Tryz.f19 5)) (.seq (.ops 6 (zb Tryz.f19 6)) (.seq (.seq (.ops 7 (zb Tryz.f19 7)) (.cond (.tmp 18) (.ops 8 (zb Tryz.f19 8)) .skip)) (.ops 9 (zb Tryz.f19 9)))))) (.cut [0, 2, 3, 8] (.ops 10 (zb Tryz.f19 10))))))
noncomputable def qn.u4.l (k:Nat) (kx0:Ad->Ad->M α):Nat->Int->Ad->Ad->Int->M α
 | 0, _, _, _, _=>fail
 | j + 1, x0, x1, x2, x3=>
  qn.u3.f k x0 x1 x2 x3 (fun y0 y1 y2 y3=>qn.u4.l k kx0 j y0 y1 y2 y3) kx0
noncomputable abbrev qn.u4.f (k:Nat) (x0:Int) (x1 x2:Ad) (x3:Int) (kx0:Ad->Ad->M α):M α:=
 qn.u4.l k kx0 k x0 x1 x2 x3
noncomputable def qn.u4.c:IC:=.loop [0, 2, 3, 8] qn.u3.c
noncomputable abbrev qn.u5.f (k:Nat) (x0:Int) (x1 x2:Ad) (x3:Int) (kn:Ad->Ad->M α):M α:=
 qn.u4.f k x0 x1 x2 x3 (fun y0 y1=>kn y0 y1)
noncomputable def qn.u5.c:IC:=.block 0 qn.u4.c
noncomputable abbrev qn.u6.f (k:Nat) (x0:Int) (x1 x2:Ad) (kn:Ad->Ad->M α):M α:=
 qn.u2.f k x0 x1 x2 (fun y0 y1 y2 y3=>qn.u5.f k y0 y1 y2 y3 kn)
noncomputable def qn.u6.c:IC:=qn.u2.c qn.u5.c
noncomputable def qn.u7.f (k:Nat) (x0 x1:Ad) (kr:Ad->M α):M α:=
 ldI .u64 (x1.add 0) fun x4=>
 ldI .u64 (x1.add 1) fun x5=>
 ldI .u64 (x1.add 2) fun x6=>
 ldI .u64 (x1.add 3) fun x7=>
 st1 (x0.add 0) (.int .u64 x4) <|
 st1 (x0.add 1) (.int .u64 x5) <|
 st1 (x0.add 2) (.int .u64 x6) <|
 st1 (x0.add 3) (.int .u64 x7) <|
 kr x0
noncomputable def qn.u7.c:IC:=(.seq (.ops 11 (zb Tryz.f19 11)) (.ret [2]))
noncomputable abbrev qn.u8.f (k:Nat) (x0:Int) (x1 x2:Ad) (kr:Ad->M α):M α:=
 qn.u6.f k x0 x1 x2 (fun y0 y1=>qn.u7.f k y0 y1 kr)
noncomputable def qn.u8.c:IC:=(.seq qn.u6.c qn.u7.c)
noncomputable abbrev qn.u9.f (k:Nat) (x0:Int) (kr:Ad->M α):M α:=
 qn.u1.f k x0 (fun y0 y1 y2=>qn.u8.f k y0 y1 y2 kr)
noncomputable def qn.u9.c:IC:=qn.u1.c qn.u8.c
noncomputable def qn.f:Nat->Int->(Int->Int->Int->Int->M α)->M α
 | 0, _, _=>fail
 | k + 1, x0, ret=>
  qn.u9.f k x0 (fun y0=>
   ldI .u64 (y0.add 0) fun o501=>
   ldI .u64 (y0.add 1) fun o502=>
   ldI .u64 (y0.add 2) fun o503=>
   ldI .u64 (y0.add 3) fun o504=>
   ret o501 o502 o503 o504)
noncomputable def qae.u1.f (k:Nat) (x0:Int) (kr:Int->M α):M α:=
 kr (bits .and .i64 (w64 (IntKind.wrap .u64 ((IntKind.wrap .u64 ((IntKind.wrap .u64 ((bits .and .u64 (IntKind.wrap .u64 ((Int.fdiv (IntKind.wrap .u64 ((bits .and .u64 (Int.fdiv (IntKind.wrap .u64 ((bits .and .u64 (Int.fdiv x0 (2 ^ (min (1:Int).toNat 64))) 6148914691236517205) + (bits .and .u64 x0 6148914691236517205))) (2 ^ (min (2:Int).toNat 64))) 3689348814741910323) + (bits .and .u64 (IntKind.wrap .u64 ((bits .and .u64 (Int.fdiv x0 (2 ^ (min (1:Int).toNat 64))) 6148914691236517205) + (bits .and .u64 x0 6148914691236517205))) 3689348814741910323))) (2 ^ (min (4:Int).toNat 64))) + (IntKind.wrap .u64 ((bits .and .u64 (Int.fdiv (IntKind.wrap .u64 ((bits .and .u64 (Int.fdiv x0 (2 ^ (min (1:Int).toNat 64))) 6148914691236517205) + (bits .and .u64 x0 6148914691236517205))) (2 ^ (min (2:Int).toNat 64))) 3689348814741910323) + (bits .and .u64 (IntKind.wrap .u64 ((bits .and .u64 (Int.fdiv x0 (2 ^ (min (1:Int).toNat 64))) 6148914691236517205) + (bits .and .u64 x0 6148914691236517205))) 3689348814741910323))))) 1085102592571150095) + (Int.fdiv (bits .and .u64 (IntKind.wrap .u64 ((Int.fdiv (IntKind.wrap .u64 ((bits .and .u64 (Int.fdiv (IntKind.wrap .u64 ((bits .and .u64 (Int.fdiv x0 (2 ^ (min (1:Int).toNat 64))) 6148914691236517205) + (bits .and .u64 x0 6148914691236517205))) (2 ^ (min (2:Int).toNat 64))) 3689348814741910323) + (bits .and .u64 (IntKind.wrap .u64 ((bits .and .u64 (Int.fdiv x0 (2 ^ (min (1:Int).toNat 64))) 6148914691236517205) + (bits .and .u64 x0 6148914691236517205))) 3689348814741910323))) (2 ^ (min (4:Int).toNat 64))) + (IntKind.wrap .u64 ((bits .and .u64 (Int.fdiv (IntKind.wrap .u64 ((bits .and .u64 (Int.fdiv x0 (2 ^ (min (1:Int).toNat 64))) 6148914691236517205) + (bits .and .u64 x0 6148914691236517205))) (2 ^ (min (2:Int).toNat 64))) 3689348814741910323) + (bits .and .u64 (IntKind.wrap .u64 ((bits .and .u64 (Int.fdiv x0 (2 ^ (min (1:Int).toNat 64))) 6148914691236517205) + (bits .and .u64 x0 6148914691236517205))) 3689348814741910323))))) 1085102592571150095) (2 ^ (min (8:Int).toNat 64))))) + (Int.fdiv (IntKind.wrap .u64 ((bits .and .u64 (IntKind.wrap .u64 ((Int.fdiv (IntKind.wrap .u64 ((bits .and .u64 (Int.fdiv (IntKind.wrap .u64 ((bits .and .u64 (Int.fdiv x0 (2 ^ (min (1:Int).toNat 64))) 6148914691236517205) + (bits .and .u64 x0 6148914691236517205))) (2 ^ (min (2:Int).toNat 64))) 3689348814741910323) + (bits .and .u64 (IntKind.wrap .u64 ((bits .and .u64 (Int.fdiv x0 (2 ^ (min (1:Int).toNat 64))) 6148914691236517205) + (bits .and .u64 x0 6148914691236517205))) 3689348814741910323))) (2 ^ (min (4:Int).toNat 64))) + (IntKind.wrap .u64 ((bits .and .u64 (Int.fdiv (IntKind.wrap .u64 ((bits .and .u64 (Int.fdiv x0 (2 ^ (min (1:Int).toNat 64))) 6148914691236517205) + (bits .and .u64 x0 6148914691236517205))) (2 ^ (min (2:Int).toNat 64))) 3689348814741910323) + (bits .and .u64 (IntKind.wrap .u64 ((bits .and .u64 (Int.fdiv x0 (2 ^ (min (1:Int).toNat 64))) 6148914691236517205) + (bits .and .u64 x0 6148914691236517205))) 3689348814741910323))))) 1085102592571150095) + (Int.fdiv (bits .and .u64 (IntKind.wrap .u64 ((Int.fdiv (IntKind.wrap .u64 ((bits .and .u64 (Int.fdiv (IntKind.wrap .u64 ((bits .and .u64 (Int.fdiv x0 (2 ^ (min (1:Int).toNat 64))) 6148914691236517205) + (bits .and .u64 x0 6148914691236517205))) (2 ^ (min (2:Int).toNat 64))) 3689348814741910323) + (bits .and .u64 (IntKind.wrap .u64 ((bits .and .u64 (Int.fdiv x0 (2 ^ (min (1:Int).toNat 64))) 6148914691236517205) + (bits .and .u64 x0 6148914691236517205))) 3689348814741910323))) (2 ^ (min (4:Int).toNat 64))) + (IntKind.wrap .u64 ((bits .and .u64 (Int.fdiv (IntKind.wrap .u64 ((bits .and .u64 (Int.fdiv x0 (2 ^ (min (1:Int).toNat 64))) 6148914691236517205) + (bits .and .u64 x0 6148914691236517205))) (2 ^ (min (2:Int).toNat 64))) 3689348814741910323) + (bits .and .u64 (IntKind.wrap .u64 ((bits .and .u64 (Int.fdiv x0 (2 ^ (min (1:Int).toNat 64))) 6148914691236517205) + (bits .and .u64 x0 6148914691236517205))) 3689348814741910323))))) 1085102592571150095) (2 ^ (min (8:Int).toNat 64))))) (2 ^ (min (16:Int).toNat 64))))) + (Int.fdiv (IntKind.wrap .u64 ((IntKind.wrap .u64 ((bits .and .u64 (IntKind.wrap .u64 ((Int.fdiv (IntKind.wrap .u64 ((bits .and .u64 (Int.fdiv (IntKind.wrap .u64 ((bits .and .u64 (Int.fdiv x0 (2 ^ (min (1:Int).toNat 64))) 6148914691236517205) + (bits .and .u64 x0 6148914691236517205))) (2 ^ (min (2:Int).toNat 64))) 3689348814741910323) + (bits .and .u64 (IntKind.wrap .u64 ((bits .and .u64 (Int.fdiv x0 (2 ^ (min (1:Int).toNat 64))) 6148914691236517205) + (bits .and .u64 x0 6148914691236517205))) 3689348814741910323))) (2 ^ (min (4:Int).toNat 64))) + (IntKind.wrap .u64 ((bits .and .u64 (Int.fdiv (IntKind.wrap .u64 ((bits .and .u64 (Int.fdiv x0 (2 ^ (min (1:Int).toNat 64))) 6148914691236517205) + (bits .and .u64 x0 6148914691236517205))) (2 ^ (min (2:Int).toNat 64))) 3689348814741910323) + (bits .and .u64 (IntKind.wrap .u64 ((bits .and .u64 (Int.fdiv x0 (2 ^ (min (1:Int).toNat 64))) 6148914691236517205) + (bits .and .u64 x0 6148914691236517205))) 3689348814741910323))))) 1085102592571150095) + (Int.fdiv (bits .and .u64 (IntKind.wrap .u64 ((Int.fdiv (IntKind.wrap .u64 ((bits .and .u64 (Int.fdiv (IntKind.wrap .u64 ((bits .and .u64 (Int.fdiv x0 (2 ^ (min (1:Int).toNat 64))) 6148914691236517205) + (bits .and .u64 x0 6148914691236517205))) (2 ^ (min (2:Int).toNat 64))) 3689348814741910323) + (bits .and .u64 (IntKind.wrap .u64 ((bits .and .u64 (Int.fdiv x0 (2 ^ (min (1:Int).toNat 64))) 6148914691236517205) + (bits .and .u64 x0 6148914691236517205))) 3689348814741910323))) (2 ^ (min (4:Int).toNat 64))) + (IntKind.wrap .u64 ((bits .and .u64 (Int.fdiv (IntKind.wrap .u64 ((bits .and .u64 (Int.fdiv x0 (2 ^ (min (1:Int).toNat 64))) 6148914691236517205) + (bits .and .u64 x0 6148914691236517205))) (2 ^ (min (2:Int).toNat 64))) 3689348814741910323) + (bits .and .u64 (IntKind.wrap .u64 ((bits .and .u64 (Int.fdiv x0 (2 ^ (min (1:Int).toNat 64))) 6148914691236517205) + (bits .and .u64 x0 6148914691236517205))) 3689348814741910323))))) 1085102592571150095) (2 ^ (min (8:Int).toNat 64))))) + (Int.fdiv (IntKind.wrap .u64 ((bits .and .u64 (IntKind.wrap .u64 ((Int.fdiv (IntKind.wrap .u64 ((bits .and .u64 (Int.fdiv (IntKind.wrap .u64 ((bits .and .u64 (Int.fdiv x0 (2 ^ (min (1:Int).toNat 64))) 6148914691236517205) + (bits .and .u64 x0 6148914691236517205))) (2 ^ (min (2:Int).toNat 64))) 3689348814741910323) + (bits .and .u64 (IntKind.wrap .u64 ((bits .and .u64 (Int.fdiv x0 (2 ^ (min (1:Int).toNat 64))) 6148914691236517205) + (bits .and .u64 x0 6148914691236517205))) 3689348814741910323))) (2 ^ (min (4:Int).toNat 64))) + (IntKind.wrap .u64 ((bits .and .u64 (Int.fdiv (IntKind.wrap .u64 ((bits .and .u64 (Int.fdiv x0 (2 ^ (min (1:Int).toNat 64))) 6148914691236517205) + (bits .and .u64 x0 6148914691236517205))) (2 ^ (min (2:Int).toNat 64))) 3689348814741910323) + (bits .and .u64 (IntKind.wrap .u64 ((bits .and .u64 (Int.fdiv x0 (2 ^ (min (1:Int).toNat 64))) 6148914691236517205) + (bits .and .u64 x0 6148914691236517205))) 3689348814741910323))))) 1085102592571150095) + (Int.fdiv (bits .and .u64 (IntKind.wrap .u64 ((Int.fdiv (IntKind.wrap .u64 ((bits .and .u64 (Int.fdiv (IntKind.wrap .u64 ((bits .and .u64 (Int.fdiv x0 (2 ^ (min (1:Int).toNat 64))) 6148914691236517205) + (bits .and .u64 x0 6148914691236517205))) (2 ^ (min (2:Int).toNat 64))) 3689348814741910323) + (bits .and .u64 (IntKind.wrap .u64 ((bits .and .u64 (Int.fdiv x0 (2 ^ (min (1:Int).toNat 64))) 6148914691236517205) + (bits .and .u64 x0 6148914691236517205))) 3689348814741910323))) (2 ^ (min (4:Int).toNat 64))) + (IntKind.wrap .u64 ((bits .and .u64 (Int.fdiv (IntKind.wrap .u64 ((bits .and .u64 (Int.fdiv x0 (2 ^ (min (1:Int).toNat 64))) 6148914691236517205) + (bits .and .u64 x0 6148914691236517205))) (2 ^ (min (2:Int).toNat 64))) 3689348814741910323) + (bits .and .u64 (IntKind.wrap .u64 ((bits .and .u64 (Int.fdiv x0 (2 ^ (min (1:Int).toNat 64))) 6148914691236517205) + (bits .and .u64 x0 6148914691236517205))) 3689348814741910323))))) 1085102592571150095) (2 ^ (min (8:Int).toNat 64))))) (2 ^ (min (16:Int).toNat 64))))) (2 ^ (min (32:Int).toNat 64)))))) 127)
noncomputable def qae.u1.c:IC:=(.seq (.ops 0 (zb Tryz.f56 0)) (.seq (.ops 1 (zb Tryz.f56 1)) (.seq (.ops 2 (zb Tryz.f56 2)) (.seq (.ops 3 (zb Tryz.f56 3)) (.seq (.ops 4 (zb Tryz.f56 4)) (.seq (.ops 5 (zb Tryz.f56 5)) (.seq (.ops 6 (zb Tryz.f56 6)) (.seq (.ops 7 (zb Tryz.f56 7)) (.ret [2])))))))))
noncomputable def qae.f:Nat->Int->(Int->M α)->M α
 | 0, _, _=>fail
 | k + 1, x0, ret=>
  qae.u1.f k x0 (fun y0=>
   ret y0)
noncomputable def qq.u1.f (k:Nat) (x0 x1:Int) (x2 x3:Int) (kn:Ad->Int->M α):M α:=
 new [.int .u64 x0, .int .u64 x1, .int .u64 x2, .int .u64 x3] fun s6=>
 kn s6 0
noncomputable def qq.u1.c (R:IC):IC:=(.seq (.ops 0 (zb Tryz.f23 0)) (.seq (.cut [1, 3] (.ops 1 (zb Tryz.f23 1))) R))
noncomputable def qq.u2.f (k:Nat) (x0:Ad) (x1:Int) (kn:Int->Int->Int->Int->Int->Int->M α):M α:=
 ldI .u64 (x0.add 0) fun x4=>
 ldI .u64 (x0.add 1) fun x5=>
 ldI .u64 (x0.add 2) fun x6=>
 ldI .u64 (x0.add 3) fun x7=>
 kn x1 x4 x5 x6 x7 0
noncomputable def qq.u2.c (R:IC):IC:=(.seq (.cut [3, 6, 7] (.ops 2 (zb Tryz.f23 2))) R)
noncomputable def qq.u3.f (k:Nat) (x0 x1:Int) (x2 x3:Int) (x4 x5:Int) (kn:Int->Int->Int->Int->Int->Int->M α) (kx0:Int->M α):M α:=
 cond (decide (x5 < 4)) (
  need (decide (0≤x5)) <|
  need (decide (x5 < (4:Int))) <|
  atL [.int .u64 x1, .int .u64 x2, .int .u64 x3, .int .u64 x4] (x5.toNat * 1) fun w8=>
  asI .u64 w8 fun x9=>
  qae.f k x9 fun r10=>
  kn (w64 (x0 + r10)) x1 x2 x3 x4 (w64 (x5 + 1))) (
  kx0 x0)
noncomputable def qq.u3.c:IC:=(.seq (.ops 3 (zb Tryz.f23 3)) (.seq (.cond (.tmp 8) .skip (.exit 0 [3])) (.seq (.block 1 (.seq (.ops 4 (zb Tryz.f23 4)) (.ops 5 (zb Tryz.f23 5)))) (.cut [3, 6, 7] (.ops 6 (zb Tryz.f23 6))))))
noncomputable def qq.u4.l (k:Nat) (kx0:Int->M α):Nat->Int->Int->Int->Int->Int->Int->M α
 | 0, _, _, _, _, _, _=>fail
 | j + 1, x0, x1, x2, x3, x4, x5=>
  qq.u3.f k x0 x1 x2 x3 x4 x5 (fun y0 y1 y2 y3 y4 y5=>qq.u4.l k kx0 j y0 y1 y2 y3 y4 y5) kx0
noncomputable abbrev qq.u4.f (k:Nat) (x0 x1:Int) (x2 x3:Int) (x4 x5:Int) (kx0:Int->M α):M α:=
 qq.u4.l k kx0 k x0 x1 x2 x3 x4 x5
noncomputable def qq.u4.c:IC:=.loop [3, 6, 7] qq.u3.c
noncomputable abbrev qq.u5.f (k:Nat) (x0 x1:Int) (x2 x3:Int) (x4 x5:Int) (kn:Int->M α):M α:=
 qq.u4.f k x0 x1 x2 x3 x4 x5 (fun y0=>kn y0)
noncomputable def qq.u5.c:IC:=.block 0 qq.u4.c
noncomputable abbrev qq.u6.f (k:Nat) (x0:Ad) (x1:Int) (kn:Int->M α):M α:=
 qq.u2.f k x0 x1 (fun y0 y1 y2 y3 y4 y5=>qq.u5.f k y0 y1 y2 y3 y4 y5 kn)
noncomputable def qq.u6.c:IC:=qq.u2.c qq.u5.c
noncomputable def qq.u7.f (k:Nat) (x0:Int) (kr:Int->M α):M α:=
 kr x0
noncomputable def qq.u7.c:IC:=(.seq (.ops 7 (zb Tryz.f23 7)) (.ret [2]))
noncomputable abbrev qq.u8.f (k:Nat) (x0:Ad) (x1:Int) (kr:Int->M α):M α:=
 qq.u6.f k x0 x1 (fun y0=>qq.u7.f k y0 kr)
noncomputable def qq.u8.c:IC:=(.seq qq.u6.c qq.u7.c)
noncomputable abbrev qq.u9.f (k:Nat) (x0 x1:Int) (x2 x3:Int) (kr:Int->M α):M α:=
 qq.u1.f k x0 x1 x2 x3 (fun y0 y1=>qq.u8.f k y0 y1 kr)
noncomputable def qq.u9.c:IC:=qq.u1.c qq.u8.c
noncomputable def qq.f:Nat->Int->Int->Int->Int->(Int->M α)->M α
 | 0, _, _, _, _, _=>fail
 | k + 1, x0, x1, x2, x3, ret=>
  qq.u9.f k x0 x1 x2 x3 (fun y0=>
   ret y0)
noncomputable def qf.u1.f (k:Nat) (x0 x1:Int) (x2 x3:Int) (kn:Ad->Sl->M α):M α:=
 new [.int .u64 x0, .int .u64 x1, .int .u64 x2, .int .u64 x3] fun s6=>
 ldI .u64 (s6.add 0) fun x7=>
 ldI .u64 (s6.add 1) fun x8=>
 ldI .u64 (s6.add 2) fun x9=>
 ldI .u64 (s6.add 3) fun x10=>
 qq.f k x7 x8 x9 x10 fun r11=>
 mkSl 0 r11 8 [.int .i64 0] fun r12=>
 kn s6 r12
noncomputable def qf.u1.c (R:IC):IC:=(.seq (.ops 0 (zb Tryz.f51 0)) (.seq (.cut [1, 3] (.ops 1 (zb Tryz.f51 1))) R))
noncomputable def qf.u2.f (k:Nat) (x0:Ad) (x1:Sl) (kn:Sl->Int->Int->Int->Int->Int->M α):M α:=
 ldI .u64 (x0.add 0) fun x4=>
 ldI .u64 (x0.add 1) fun x5=>
 ldI .u64 (x0.add 2) fun x6=>
 ldI .u64 (x0.add 3) fun x7=>
 kn x1 x4 x5 x6 x7 0
noncomputable def qf.u2.c (R:IC):IC:=(.seq (.cut [3, 9, 10] (.ops 2 (zb Tryz.f51 2))) R)
noncomputable def qf.u3.f (k:Nat) (x0:Sl) (x1 x2:Int) (x3 x4 x5:Int) (kn:Sl->Int->Int->Int->Int->Int->M α) (kx0:Sl->M α):M α:=
 cond (decide (x5 < 4)) (
  kn x0 x1 x2 x3 x4 x5) (
  kx0 x0)
noncomputable def qf.u3.c (R:IC):IC:=(.seq (.ops 3 (zb Tryz.f51 3)) (.seq (.cut [3, 9, 10] (.cond (.tmp 11) .skip (.exit 0 [3]))) R))
noncomputable def qf.u4.f (k:Nat) (x0:Sl) (x1 x2:Int) (x3 x4 x5:Int) (kn:Sl->Int->Int->Int->Int->Int->Int->Int->M α):M α:=
 need (decide (0≤x5)) <|
 need (decide (x5 < (4:Int))) <|
 atL [.int .u64 x1, .int .u64 x2, .int .u64 x3, .int .u64 x4] (x5.toNat * 1) fun w8=>
 asI .u64 w8 fun x9=>
 kn x0 x5 x9 x1 x2 x3 x4 x5
noncomputable def qf.u4.c (R:IC):IC:=(.seq (.cut [3, 4, 5, 9, 10] (.ops 4 (zb Tryz.f51 4))) R)
noncomputable def qf.u5.f (k:Nat) (x0:Sl) (x1 x2:Int) (x3 x4:Int) (x5 x6 x7:Int) (kn:Sl->Int->Int->Int->Int->Int->Int->Int->M α) (kx2:Sl->Int->Int->Int->Int->Int->M α):M α:=
 cond (!(decide (x2 = 0))) (
  qaf.f k x2 fun r10=>
  new [.int .i64 (w64 ((w64 (64 * x1)) + r10))] fun r11=>
  yr x0 1 8 (⟨some r11, 1, 1, none⟩:Sl) fun x12=>
  kn x12 x1 (bits .and .u64 x2 (IntKind.wrap .u64 (x2 - 1))) x3 x4 x5 x6 x7) (
  kx2 x0 x3 x4 x5 x6 x7)
noncomputable def qf.u5.c:IC:=(.seq (.seq (.ops 5 (zb Tryz.f51 5)) (.cond (.tmp 15) .skip (.exit 2 [3, 9, 10]))) (.seq (.block 3 (.ops 7 (zb Tryz.f51 7))) (.cut [3, 4, 5, 9, 10] (.ops 6 (zb Tryz.f51 6)))))
noncomputable def qf.u6.l (k:Nat) (kx2:Sl->Int->Int->Int->Int->Int->M α):Nat->Sl->Int->Int->Int->Int->Int->Int->Int->M α
 | 0, _, _, _, _, _, _, _, _=>fail
 | j + 1, x0, x1, x2, x3, x4, x5, x6, x7=>
  qf.u5.f k x0 x1 x2 x3 x4 x5 x6 x7 (fun y0 y1 y2 y3 y4 y5 y6 y7=>qf.u6.l k kx2 j y0 y1 y2 y3 y4 y5 y6 y7) kx2
noncomputable abbrev qf.u6.f (k:Nat) (x0:Sl) (x1 x2:Int) (x3 x4:Int) (x5 x6 x7:Int) (kx2:Sl->Int->Int->Int->Int->Int->M α):M α:=
 qf.u6.l k kx2 k x0 x1 x2 x3 x4 x5 x6 x7
noncomputable def qf.u6.c:IC:=.loop [3, 4, 5, 9, 10] qf.u5.c
noncomputable abbrev qf.u7.f (k:Nat) (x0:Sl) (x1 x2:Int) (x3 x4:Int) (x5 x6 x7:Int) (kn:Sl->Int->Int->Int->Int->Int->M α):M α:=
 qf.u6.f k x0 x1 x2 x3 x4 x5 x6 x7 (fun y0 y1 y2 y3 y4 y5=>kn y0 y1 y2 y3 y4 y5)
noncomputable def qf.u7.c:IC:=.block 2 qf.u6.c
noncomputable abbrev qf.u8.f (k:Nat) (x0:Sl) (x1 x2:Int) (x3 x4 x5:Int) (kn:Sl->Int->Int->Int->Int->Int->M α):M α:=
 qf.u4.f k x0 x1 x2 x3 x4 x5 (fun y0 y1 y2 y3 y4 y5 y6 y7=>qf.u7.f k y0 y1 y2 y3 y4 y5 y6 y7 kn)
noncomputable def qf.u8.c:IC:=qf.u4.c qf.u7.c
noncomputable abbrev qf.u9.f (k:Nat) (x0:Sl) (x1 x2:Int) (x3 x4 x5:Int) (kn:Sl->Int->Int->Int->Int->Int->M α):M α:=
 qf.u8.f k x0 x1 x2 x3 x4 x5 (fun y0 y1 y2 y3 y4 y5=>kn y0 y1 y2 y3 y4 y5)
noncomputable def qf.u9.c:IC:=.block 1 qf.u8.c
noncomputable def qf.u10.f (k:Nat) (x0:Sl) (x1 x2:Int) (x3 x4 x5:Int) (kn:Sl->Int->Int->Int->Int->Int->M α):M α:=
 kn x0 x1 x2 x3 x4 (w64 (x5 + 1))
noncomputable def qf.u10.c:IC:=(.cut [3, 9, 10] (.ops 8 (zb Tryz.f51 8)))
noncomputable abbrev qf.u11.f (k:Nat) (x0:Sl) (x1 x2:Int) (x3 x4 x5:Int) (kn:Sl->Int->Int->Int->Int->Int->M α):M α:=
 qf.u9.f k x0 x1 x2 x3 x4 x5 (fun y0 y1 y2 y3 y4 y5=>qf.u10.f k y0 y1 y2 y3 y4 y5 kn)
noncomputable def qf.u11.c:IC:=(.seq qf.u9.c qf.u10.c)
noncomputable abbrev qf.u12.f (k:Nat) (x0:Sl) (x1 x2:Int) (x3 x4 x5:Int) (kn:Sl->Int->Int->Int->Int->Int->M α) (kx0:Sl->M α):M α:=
 qf.u3.f k x0 x1 x2 x3 x4 x5 (fun y0 y1 y2 y3 y4 y5=>qf.u11.f k y0 y1 y2 y3 y4 y5 kn) kx0
noncomputable def qf.u12.c:IC:=qf.u3.c qf.u11.c
noncomputable def qf.u13.l (k:Nat) (kx0:Sl->M α):Nat->Sl->Int->Int->Int->Int->Int->M α
 | 0, _, _, _, _, _, _=>fail
 | j + 1, x0, x1, x2, x3, x4, x5=>
  qf.u12.f k x0 x1 x2 x3 x4 x5 (fun y0 y1 y2 y3 y4 y5=>qf.u13.l k kx0 j y0 y1 y2 y3 y4 y5) kx0
noncomputable abbrev qf.u13.f (k:Nat) (x0:Sl) (x1 x2:Int) (x3 x4 x5:Int) (kx0:Sl->M α):M α:=
 qf.u13.l k kx0 k x0 x1 x2 x3 x4 x5
noncomputable def qf.u13.c:IC:=.loop [3, 9, 10] qf.u12.c
noncomputable abbrev qf.u14.f (k:Nat) (x0:Sl) (x1 x2:Int) (x3 x4 x5:Int) (kn:Sl->M α):M α:=
 qf.u13.f k x0 x1 x2 x3 x4 x5 (fun y0=>kn y0)
noncomputable def qf.u14.c:IC:=.block 0 qf.u13.c
noncomputable abbrev qf.u15.f (k:Nat) (x0:Ad) (x1:Sl) (kn:Sl->M α):M α:=
 qf.u2.f k x0 x1 (fun y0 y1 y2 y3 y4 y5=>qf.u14.f k y0 y1 y2 y3 y4 y5 kn)
noncomputable def qf.u15.c:IC:=qf.u2.c qf.u14.c
noncomputable def qf.u16.f (k:Nat) (x0:Sl) (kr:Sl->M α):M α:=
 kr x0
noncomputable def qf.u16.c:IC:=(.seq (.ops 9 (zb Tryz.f51 9)) (.ret [2]))
noncomputable abbrev qf.u17.f (k:Nat) (x0:Ad) (x1:Sl) (kr:Sl->M α):M α:=
 qf.u15.f k x0 x1 (fun y0=>qf.u16.f k y0 kr)
noncomputable def qf.u17.c:IC:=(.seq qf.u15.c qf.u16.c)
noncomputable abbrev qf.u18.f (k:Nat) (x0 x1:Int) (x2 x3:Int) (kr:Sl->M α):M α:=
 qf.u1.f k x0 x1 x2 x3 (fun y0 y1=>qf.u17.f k y0 y1 kr)
noncomputable def qf.u18.c:IC:=qf.u1.c qf.u17.c
noncomputable def qf.f:Nat->Int->Int->Int->Int->(Sl->M α)->M α
 | 0, _, _, _, _, _=>fail
 | k + 1, x0, x1, x2, x3, ret=>
  qf.u18.f k x0 x1 x2 x3 (fun y0=>
   ret y0)
noncomputable def qy.u1.f (k:Nat) (x0 x1:Int) (x2 x3 x4:Int) (kr:Ad->M α):M α:=
 new [.int .u64 x0, .int .u64 x1, .int .u64 x2, .int .u64 x3] fun s7=>
 new [.int .u64 0, .int .u64 0, .int .u64 0, .int .u64 0] fun x8=>
 cond (decide (0≤x4)) (
  cond (decide (x4 < 256)) (
   need (decide (0≤Int.fdiv x4 (2 ^ (min (6:Int).toNat 64)))) <|
   need (decide (Int.fdiv x4 (2 ^ (min (6:Int).toNat 64)) < (4:Int))) <|
   ldI .u64 (((s7.add ((Int.fdiv x4 (2 ^ (min (6:Int).toNat 64))).toNat * 1))).add 0) fun x9=>
   need (decide (0≤IntKind.wrap .u64 (bits .and .i64 x4 63))) <|
   need (decide (0≤Int.fdiv x4 (2 ^ (min (6:Int).toNat 64)))) <|
   need (decide (Int.fdiv x4 (2 ^ (min (6:Int).toNat 64)) < (4:Int))) <|
   st1 (((s7.add ((Int.fdiv x4 (2 ^ (min (6:Int).toNat 64))).toNat * 1))).add 0) (.int .u64 (bits .or .u64 x9 (IntKind.wrap .u64 (1 * 2 ^ (min (IntKind.wrap .u64 (bits .and .i64 x4 63)).toNat 64))))) <|
   ldI .u64 (s7.add 0) fun x10=>
   ldI .u64 (s7.add 1) fun x11=>
   ldI .u64 (s7.add 2) fun x12=>
   ldI .u64 (s7.add 3) fun x13=>
   st1 (x8.add 0) (.int .u64 x10) <|
   st1 (x8.add 1) (.int .u64 x11) <|
   st1 (x8.add 2) (.int .u64 x12) <|
   st1 (x8.add 3) (.int .u64 x13) <|
   kr x8) (
   ldI .u64 (s7.add 0) fun x14=>
   ldI .u64 (s7.add 1) fun x15=>
   ldI .u64 (s7.add 2) fun x16=>
   ldI .u64 (s7.add 3) fun x17=>
   st1 (x8.add 0) (.int .u64 x14) <|
   st1 (x8.add 1) (.int .u64 x15) <|
   st1 (x8.add 2) (.int .u64 x16) <|
   st1 (x8.add 3) (.int .u64 x17) <|
   kr x8)) (
  ldI .u64 (s7.add 0) fun x18=>
  ldI .u64 (s7.add 1) fun x19=>
  ldI .u64 (s7.add 2) fun x20=>
  ldI .u64 (s7.add 3) fun x21=>
  st1 (x8.add 0) (.int .u64 x18) <|
  st1 (x8.add 1) (.int .u64 x19) <|
  st1 (x8.add 2) (.int .u64 x20) <|
  st1 (x8.add 3) (.int .u64 x21) <|
  kr x8)
noncomputable def qy.u1.c:IC:=(.seq (.ops 0 (zb Tryz.f31 0)) (.seq (.seq (.ops 1 (zb Tryz.f31 1)) (.cond (.tmp 10) (.ops 2 (zb Tryz.f31 2)) .skip)) (.seq (.ops 3 (zb Tryz.f31 3)) (.ret [4]))))
noncomputable def qy.f:Nat->Int->Int->Int->Int->Int->(Int->Int->Int->Int->M α)->M α
 | 0, _, _, _, _, _, _=>fail
 | k + 1, x0, x1, x2, x3, x4, ret=>
  qy.u1.f k x0 x1 x2 x3 x4 (fun y0=>
   ldI .u64 (y0.add 0) fun o501=>
   ldI .u64 (y0.add 1) fun o502=>
   ldI .u64 (y0.add 2) fun o503=>
   ldI .u64 (y0.add 3) fun o504=>
   ret o501 o502 o503 o504)
noncomputable def qm.u1.f (k:Nat) (x0:Sl) (kn:Sl->Ad->Ad->M α):M α:=
 new [.int .u64 0, .int .u64 0, .int .u64 0, .int .u64 0] fun x3=>
 new [.int .u64 0, .int .u64 0, .int .u64 0, .int .u64 0] fun s4=>
 kn x0 x3 s4
noncomputable def qm.u1.c (R:IC):IC:=(.seq (.ops 0 (zb Tryz.f52 0)) (.seq (.cut [0, 2, 3] (.ops 1 (zb Tryz.f52 1))) R))
noncomputable def qm.u2.f (k:Nat) (x0:Sl) (x1 x2:Ad) (kn:Ad->Ad->Sl->Int->Int->M α):M α:=
 kn x1 x2 x0 (x0.len:Int) 0
noncomputable def qm.u2.c (R:IC):IC:=(.seq (.cut [2, 3, 6, 7, 8] (.ops 2 (zb Tryz.f52 2))) R)
noncomputable def qm.u3.f (k:Nat) (x0 x1:Ad) (x2:Sl) (x3 x4:Int) (kn:Ad->Ad->Sl->Int->Int->M α) (kx0:Ad->Ad->M α):M α:=
 cond (decide (x4 < x3)) (
  idxSl x2 x4 1 fun a7=>
  ldI .i64 (a7.add 0) fun x8=>
  ldI .u64 (x1.add 0) fun x9=>
  ldI .u64 (x1.add 1) fun x10=>
  ldI .u64 (x1.add 2) fun x11=>
  ldI .u64 (x1.add 3) fun x12=>
  qy.f k x9 x10 x11 x12 x8 fun r13 r14 r15 r16=>
  st1 (x1.add 0) (.int .u64 r13) <|
  st1 (x1.add 1) (.int .u64 r14) <|
  st1 (x1.add 2) (.int .u64 r15) <|
  st1 (x1.add 3) (.int .u64 r16) <|
  kn x0 x1 x2 x3 (w64 (x4 + 1))) (
  kx0 x0 x1)
noncomputable def qm.u3.c:IC:=(.seq (.ops 3 (zb Tryz.f52 3)) (.seq (.cond (.tmp 9) .skip (.exit 0 [2, 3])) (.seq (.block 1 (.seq (.ops 4 (zb Tryz.f52 4)) (.ops 5 (zb Tryz.f52 5)))) (.cut [2, 3, 6, 7, 8] (.ops 6 (zb Tryz.f52 6))))))
noncomputable def qm.u4.l (k:Nat) (kx0:Ad->Ad->M α):Nat->Ad->Ad->Sl->Int->Int->M α
 | 0, _, _, _, _, _=>fail
 | j + 1, x0, x1, x2, x3, x4=>
  qm.u3.f k x0 x1 x2 x3 x4 (fun y0 y1 y2 y3 y4=>qm.u4.l k kx0 j y0 y1 y2 y3 y4) kx0
noncomputable abbrev qm.u4.f (k:Nat) (x0 x1:Ad) (x2:Sl) (x3 x4:Int) (kx0:Ad->Ad->M α):M α:=
 qm.u4.l k kx0 k x0 x1 x2 x3 x4
noncomputable def qm.u4.c:IC:=.loop [2, 3, 6, 7, 8] qm.u3.c
noncomputable abbrev qm.u5.f (k:Nat) (x0 x1:Ad) (x2:Sl) (x3 x4:Int) (kn:Ad->Ad->M α):M α:=
 qm.u4.f k x0 x1 x2 x3 x4 (fun y0 y1=>kn y0 y1)
noncomputable def qm.u5.c:IC:=.block 0 qm.u4.c
noncomputable abbrev qm.u6.f (k:Nat) (x0:Sl) (x1 x2:Ad) (kn:Ad->Ad->M α):M α:=
 qm.u2.f k x0 x1 x2 (fun y0 y1 y2 y3 y4=>qm.u5.f k y0 y1 y2 y3 y4 kn)
noncomputable def qm.u6.c:IC:=qm.u2.c qm.u5.c
noncomputable def qm.u7.f (k:Nat) (x0 x1:Ad) (kr:Ad->M α):M α:=
 ldI .u64 (x1.add 0) fun x4=>
 ldI .u64 (x1.add 1) fun x5=>
 ldI .u64 (x1.add 2) fun x6=>
 ldI .u64 (x1.add 3) fun x7=>
 st1 (x0.add 0) (.int .u64 x4) <|
 st1 (x0.add 1) (.int .u64 x5) <|
 st1 (x0.add 2) (.int .u64 x6) <|
 st1 (x0.add 3) (.int .u64 x7) <|
 kr x0
noncomputable def qm.u7.c:IC:=(.seq (.ops 7 (zb Tryz.f52 7)) (.ret [2]))
noncomputable abbrev qm.u8.f (k:Nat) (x0:Sl) (x1 x2:Ad) (kr:Ad->M α):M α:=
 qm.u6.f k x0 x1 x2 (fun y0 y1=>qm.u7.f k y0 y1 kr)
noncomputable def qm.u8.c:IC:=(.seq qm.u6.c qm.u7.c)
noncomputable abbrev qm.u9.f (k:Nat) (x0:Sl) (kr:Ad->M α):M α:=
 qm.u1.f k x0 (fun y0 y1 y2=>qm.u8.f k y0 y1 y2 kr)
noncomputable def qm.u9.c:IC:=qm.u1.c qm.u8.c
noncomputable def qm.f:Nat->Sl->(Int->Int->Int->Int->M α)->M α
 | 0, _, _=>fail
 | k + 1, x0, ret=>
  qm.u9.f k x0 (fun y0=>
   ldI .u64 (y0.add 0) fun o501=>
   ldI .u64 (y0.add 1) fun o502=>
   ldI .u64 (y0.add 2) fun o503=>
   ldI .u64 (y0.add 3) fun o504=>
   ret o501 o502 o503 o504)
noncomputable def qg.u1.f (k:Nat) (x0 x1 x2:Sl) (x3 x4:Int) (x5 x6:Int) (kn:Ad->Ad->Ad->Int->Ad->M α):M α:=
 new [.slice x0, .slice x1, .slice x2] fun g9=>
 new [.int .u64 x3, .int .u64 x4, .int .u64 x5, .int .u64 x6] fun in10=>
 new [.int .u64 0, .int .u64 0, .int .u64 0, .int .u64 0] fun x11=>
 new [.int .u64 0, .int .u64 0, .int .u64 0, .int .u64 0] fun s12=>
 kn g9 in10 x11 (-1) s12
noncomputable def qg.u1.c (R:IC):IC:=(.seq (.ops 0 (zb Tryz.f48 0)) (.seq (.ops 1 (zb Tryz.f48 1)) (.seq (.cut [2, 3, 4, 5, 6] (.ops 2 (zb Tryz.f48 2))) R)))
noncomputable def qg.u2.f (k:Nat) (x0 x1 x2:Ad) (x3:Int) (x4:Ad) (kn:Ad->Ad->Int->Ad->Sl->Int->Int->M α):M α:=
 ldI .u64 (x1.add 0) fun x7=>
 ldI .u64 (x1.add 1) fun x8=>
 ldI .u64 (x1.add 2) fun x9=>
 ldI .u64 (x1.add 3) fun x10=>
 qf.f k x7 x8 x9 x10 fun r11=>
 kn x0 x2 x3 x4 r11 (r11.len:Int) 0
noncomputable def qg.u2.c (R:IC):IC:=(.seq (.cut [2, 4, 5, 6, 11, 12, 13] (.ops 3 (zb Tryz.f48 3))) R)
noncomputable def qg.u3.f (k:Nat) (x0 x1:Ad) (x2:Int) (x3:Ad) (x4:Sl) (x5 x6:Int) (kn:Ad->Ad->Int->Ad->Sl->Int->Int->M α) (kx0:Ad->Ad->M α):M α:=
 cond (decide (x6 < x5)) (
  idxSl x4 x6 1 fun a9=>
  ldI .i64 (a9.add 0) fun x10=>
  ldS ((x0.add 1).add 0) fun x11=>
  idxSl x11 x10 1 fun a12=>
  ldI .i64 (a12.add 0) fun x13=>
  cond (decide (x2 < x13)) (
   new [.int .i64 x10] fun r14=>
   qm.f k (⟨some r14, 1, 1, none⟩:Sl) fun r15 r16 r17 r18=>
   st1 (x3.add 0) (.int .u64 r15) <|
   st1 (x3.add 1) (.int .u64 r16) <|
   st1 (x3.add 2) (.int .u64 r17) <|
   st1 (x3.add 3) (.int .u64 r18) <|
   kn x0 x1 x13 x3 x4 x5 (w64 (x6 + 1))) (
   cond (decide (x13 = x2)) (
    ldI .u64 (x3.add 0) fun x19=>
    ldI .u64 (x3.add 1) fun x20=>
    ldI .u64 (x3.add 2) fun x21=>
    ldI .u64 (x3.add 3) fun x22=>
    qy.f k x19 x20 x21 x22 x10 fun r23 r24 r25 r26=>
    st1 (x3.add 0) (.int .u64 r23) <|
    st1 (x3.add 1) (.int .u64 r24) <|
    st1 (x3.add 2) (.int .u64 r25) <|
    st1 (x3.add 3) (.int .u64 r26) <|
    kn x0 x1 x2 x3 x4 x5 (w64 (x6 + 1))) (
    kn x0 x1 x2 x3 x4 x5 (w64 (x6 + 1))))) (
  kx0 x1 x3)
noncomputable def qg.u3.c:IC:=(.seq (.ops 4 (zb Tryz.f48 4)) (.seq (.cond (.tmp 14) .skip (.exit 0 [4, 6])) (.seq (.block 1 (.seq (.ops 5 (zb Tryz.f48 5)) (.seq (.ops 6 (zb Tryz.f48 6)) (.block 2 (.seq (.ops 7 (zb Tryz.f48 7)) (.cond (.tmp 22) (.ops 8 (zb Tryz.f48 8)) (.seq (.ops 9 (zb Tryz.f48 9)) (.cond (.tmp 30) (.ops 10 (zb Tryz.f48 10)) .skip)))))))) (.cut [2, 4, 5, 6, 11, 12, 13] (.ops 11 (zb Tryz.f48 11))))))
noncomputable def qg.u4.l (k:Nat) (kx0:Ad->Ad->M α):Nat->Ad->Ad->Int->Ad->Sl->Int->Int->M α
 | 0, _, _, _, _, _, _, _=>fail
 | j + 1, x0, x1, x2, x3, x4, x5, x6=>
  qg.u3.f k x0 x1 x2 x3 x4 x5 x6 (fun y0 y1 y2 y3 y4 y5 y6=>qg.u4.l k kx0 j y0 y1 y2 y3 y4 y5 y6) kx0
noncomputable abbrev qg.u4.f (k:Nat) (x0 x1:Ad) (x2:Int) (x3:Ad) (x4:Sl) (x5 x6:Int) (kx0:Ad->Ad->M α):M α:=
 qg.u4.l k kx0 k x0 x1 x2 x3 x4 x5 x6
noncomputable def qg.u4.c:IC:=.loop [2, 4, 5, 6, 11, 12, 13] qg.u3.c
noncomputable abbrev qg.u5.f (k:Nat) (x0 x1:Ad) (x2:Int) (x3:Ad) (x4:Sl) (x5 x6:Int) (kn:Ad->Ad->M α):M α:=
 qg.u4.f k x0 x1 x2 x3 x4 x5 x6 (fun y0 y1=>kn y0 y1)
noncomputable def qg.u5.c:IC:=.block 0 qg.u4.c
noncomputable abbrev qg.u6.f (k:Nat) (x0 x1 x2:Ad) (x3:Int) (x4:Ad) (kn:Ad->Ad->M α):M α:=
 qg.u2.f k x0 x1 x2 x3 x4 (fun y0 y1 y2 y3 y4 y5 y6=>qg.u5.f k y0 y1 y2 y3 y4 y5 y6 kn)
noncomputable def qg.u6.c:IC:=qg.u2.c qg.u5.c
noncomputable def qg.u7.f (k:Nat) (x0 x1:Ad) (kr:Ad->M α):M α:=
 ldI .u64 (x1.add 0) fun x4=>
 ldI .u64 (x1.add 1) fun x5=>
 ldI .u64 (x1.add 2) fun x6=>
 ldI .u64 (x1.add 3) fun x7=>
 st1 (x0.add 0) (.int .u64 x4) <|
 st1 (x0.add 1) (.int .u64 x5) <|
 st1 (x0.add 2) (.int .u64 x6) <|
 st1 (x0.add 3) (.int .u64 x7) <|
 kr x0
noncomputable def qg.u7.c:IC:=(.seq (.ops 12 (zb Tryz.f48 12)) (.ret [4]))
noncomputable abbrev qg.u8.f (k:Nat) (x0 x1 x2:Ad) (x3:Int) (x4:Ad) (kr:Ad->M α):M α:=
 qg.u6.f k x0 x1 x2 x3 x4 (fun y0 y1=>qg.u7.f k y0 y1 kr)
noncomputable def qg.u8.c:IC:=(.seq qg.u6.c qg.u7.c)
noncomputable abbrev qg.u9.f (k:Nat) (x0 x1 x2:Sl) (x3 x4:Int) (x5 x6:Int) (kr:Ad->M α):M α:=
 qg.u1.f k x0 x1 x2 x3 x4 x5 x6 (fun y0 y1 y2 y3 y4=>qg.u8.f k y0 y1 y2 y3 y4 kr)
noncomputable def qg.u9.c:IC:=qg.u1.c qg.u8.c
noncomputable def qg.f:Nat->Sl->Sl->Sl->Int->Int->Int->Int->(Int->Int->Int->Int->M α)->M α
 | 0, _, _, _, _, _, _, _, _=>fail
 | k + 1, x0, x1, x2, x3, x4, x5, x6, ret=>
  qg.u9.f k x0 x1 x2 x3 x4 x5 x6 (fun y0=>
   ldI .u64 (y0.add 0) fun o501=>
   ldI .u64 (y0.add 1) fun o502=>
   ldI .u64 (y0.add 2) fun o503=>
   ldI .u64 (y0.add 3) fun o504=>
   ret o501 o502 o503 o504)
noncomputable def qp.u1.f (k:Nat) (x0 x1:Int) (x2 x3:Int) (kn:Ad->M α):M α:=
 new [.int .u64 x0, .int .u64 x1, .int .u64 x2, .int .u64 x3] fun s6=>
 kn s6
noncomputable def qp.u1.c (R:IC):IC:=(.seq (.cut [1] (.ops 0 (zb Tryz.f49 0))) R)
noncomputable def qp.u2.f (k:Nat) (x0:Ad) (kn:Int->Int->Int->Int->Int->M α):M α:=
 ldI .u64 (x0.add 0) fun x3=>
 ldI .u64 (x0.add 1) fun x4=>
 ldI .u64 (x0.add 2) fun x5=>
 ldI .u64 (x0.add 3) fun x6=>
 kn x3 x4 x5 x6 0
noncomputable def qp.u2.c (R:IC):IC:=(.seq (.cut [5, 6] (.ops 1 (zb Tryz.f49 1))) R)
noncomputable def qp.u3.f (k:Nat) (x0 x1:Int) (x2 x3 x4:Int) (kn:Int->Int->Int->Int->Int->M α) (kr:Int->M α) (kx0:M α):M α:=
 cond (decide (x4 < 4)) (
  need (decide (0≤x4)) <|
  need (decide (x4 < (4:Int))) <|
  atL [.int .u64 x0, .int .u64 x1, .int .u64 x2, .int .u64 x3] (x4.toNat * 1) fun w7=>
  asI .u64 w7 fun x8=>
  cond (!(decide (x8 = 0))) (
   qaf.f k x8 fun r9=>
   kr (w64 ((w64 (64 * x4)) + r9))) (
   kn x0 x1 x2 x3 (w64 (x4 + 1)))) (
  kx0)
noncomputable def qp.u3.c:IC:=(.seq (.ops 2 (zb Tryz.f49 2)) (.seq (.cond (.tmp 7) .skip (.exit 0 [])) (.seq (.block 1 (.seq (.ops 3 (zb Tryz.f49 3)) (.seq (.ops 4 (zb Tryz.f49 4)) (.cond (.tmp 11) (.seq (.ops 5 (zb Tryz.f49 5)) (.ret [2])) .skip)))) (.cut [5, 6] (.ops 6 (zb Tryz.f49 6))))))
noncomputable def qp.u4.l (k:Nat) (kr:Int->M α) (kx0:M α):Nat->Int->Int->Int->Int->Int->M α
 | 0, _, _, _, _, _=>fail
 | j + 1, x0, x1, x2, x3, x4=>
  qp.u3.f k x0 x1 x2 x3 x4 (fun y0 y1 y2 y3 y4=>qp.u4.l k kr kx0 j y0 y1 y2 y3 y4) kr kx0
noncomputable abbrev qp.u4.f (k:Nat) (x0 x1:Int) (x2 x3 x4:Int) (kr:Int->M α) (kx0:M α):M α:=
 qp.u4.l k kr kx0 k x0 x1 x2 x3 x4
noncomputable def qp.u4.c:IC:=.loop [5, 6] qp.u3.c
noncomputable abbrev qp.u5.f (k:Nat) (x0 x1:Int) (x2 x3 x4:Int) (kn:M α) (kr:Int->M α):M α:=
 qp.u4.f k x0 x1 x2 x3 x4 kr (kn)
noncomputable def qp.u5.c:IC:=.block 0 qp.u4.c
noncomputable abbrev qp.u6.f (k:Nat) (x0:Ad) (kn:M α) (kr:Int->M α):M α:=
 qp.u2.f k x0 (fun y0 y1 y2 y3 y4=>qp.u5.f k y0 y1 y2 y3 y4 kn kr)
noncomputable def qp.u6.c:IC:=qp.u2.c qp.u5.c
noncomputable def qp.u7.f (k:Nat) (kr:Int->M α):M α:=
 kr (-1)
noncomputable def qp.u7.c:IC:=(.seq (.ops 7 (zb Tryz.f49 7)) (.ret [2]))
noncomputable abbrev qp.u8.f (k:Nat) (x0:Ad) (kr:Int->M α):M α:=
 qp.u6.f k x0 (qp.u7.f k kr) kr
noncomputable def qp.u8.c:IC:=(.seq qp.u6.c qp.u7.c)
noncomputable abbrev qp.u9.f (k:Nat) (x0 x1:Int) (x2 x3:Int) (kr:Int->M α):M α:=
 qp.u1.f k x0 x1 x2 x3 (fun y0=>qp.u8.f k y0 kr)
noncomputable def qp.u9.c:IC:=qp.u1.c qp.u8.c
noncomputable def qp.f:Nat->Int->Int->Int->Int->(Int->M α)->M α
 | 0, _, _, _, _, _=>fail
 | k + 1, x0, x1, x2, x3, ret=>
  qp.u9.f k x0 x1 x2 x3 (fun y0=>
   ret y0)
noncomputable def qj.u1.f (k:Nat) (x0 x1:Int) (x2 x3:Int) (x4 x5:Int) (x6 x7:Int) (kn:Ad->Ad->Ad->M α):M α:=
 new [.int .u64 x0, .int .u64 x1, .int .u64 x2, .int .u64 x3] fun s10=>
 new [.int .u64 x4, .int .u64 x5, .int .u64 x6, .int .u64 x7] fun t11=>
 new [.int .u64 0, .int .u64 0, .int .u64 0, .int .u64 0] fun x12=>
 kn s10 t11 x12
noncomputable def qj.u1.c (R:IC):IC:=(.seq (.cut [2, 3, 4] (.ops 0 (zb Tryz.f22 0))) R)
noncomputable def qj.u2.f (k:Nat) (x0 x1 x2:Ad) (kn:Ad->Ad->Ad->Int->M α):M α:=
 kn x0 x1 x2 0
noncomputable def qj.u2.c (R:IC):IC:=(.seq (.cut [2, 3, 4, 6] (.ops 1 (zb Tryz.f22 1))) R)
noncomputable def qj.u3.f (k:Nat) (x0 x1 x2:Ad) (x3:Int) (kn:Ad->Ad->Ad->Int->M α) (kx0:Ad->Ad->M α):M α:=
 cond (decide (x3 < 4)) (
  need (decide (0≤x3)) <|
  need (decide (x3 < (4:Int))) <|
  ldI .u64 (((x0.add (x3.toNat * 1))).add 0) fun x6=>
  need (decide (0≤x3)) <|
  need (decide (x3 < (4:Int))) <|
  ldI .u64 (((x1.add (x3.toNat * 1))).add 0) fun x7=>
  need (decide (0≤x3)) <|
  need (decide (x3 < (4:Int))) <|
  st1 (((x0.add (x3.toNat * 1))).add 0) (.int .u64 (bits .and .u64 x6 x7)) <|
  kn x0 x1 x2 (w64 (x3 + 1))) (
  kx0 x0 x2)
noncomputable def qj.u3.c:IC:=(.seq (.ops 2 (zb Tryz.f22 2)) (.seq (.cond (.tmp 7) .skip (.exit 0 [2, 4])) (.seq (.block 1 (.seq (.ops 3 (zb Tryz.f22 3)) (.drawn 4 (zb Tryz.f22 4) true [.op 0, .op 1, .op 2, .op 3, .op 4, .op 5, .op 6, .op 7, .op 8]))) (.cut [2, 3, 4, 6] (.ops 5 (zb Tryz.f22 5))))))
noncomputable def qj.u4.l (k:Nat) (kx0:Ad->Ad->M α):Nat->Ad->Ad->Ad->Int->M α
 | 0, _, _, _, _=>fail
 | j + 1, x0, x1, x2, x3=>
  qj.u3.f k x0 x1 x2 x3 (fun y0 y1 y2 y3=>qj.u4.l k kx0 j y0 y1 y2 y3) kx0
noncomputable abbrev qj.u4.f (k:Nat) (x0 x1 x2:Ad) (x3:Int) (kx0:Ad->Ad->M α):M α:=
 qj.u4.l k kx0 k x0 x1 x2 x3
noncomputable def qj.u4.c:IC:=.loop [2, 3, 4, 6] qj.u3.c
noncomputable abbrev qj.u5.f (k:Nat) (x0 x1 x2:Ad) (x3:Int) (kn:Ad->Ad->M α):M α:=
 qj.u4.f k x0 x1 x2 x3 (fun y0 y1=>kn y0 y1)
noncomputable def qj.u5.c:IC:=.block 0 qj.u4.c
noncomputable abbrev qj.u6.f (k:Nat) (x0 x1 x2:Ad) (kn:Ad->Ad->M α):M α:=
 qj.u2.f k x0 x1 x2 (fun y0 y1 y2 y3=>qj.u5.f k y0 y1 y2 y3 kn)
noncomputable def qj.u6.c:IC:=qj.u2.c qj.u5.c
noncomputable def qj.u7.f (k:Nat) (x0 x1:Ad) (kr:Ad->M α):M α:=
 ldI .u64 (x0.add 0) fun x4=>
 ldI .u64 (x0.add 1) fun x5=>
 ldI .u64 (x0.add 2) fun x6=>
 ldI .u64 (x0.add 3) fun x7=>
 st1 (x1.add 0) (.int .u64 x4) <|
 st1 (x1.add 1) (.int .u64 x5) <|
 st1 (x1.add 2) (.int .u64 x6) <|
 st1 (x1.add 3) (.int .u64 x7) <|
 kr x1
noncomputable def qj.u7.c:IC:=(.seq (.ops 6 (zb Tryz.f22 6)) (.ret [4]))
noncomputable abbrev qj.u8.f (k:Nat) (x0 x1 x2:Ad) (kr:Ad->M α):M α:=
 qj.u6.f k x0 x1 x2 (fun y0 y1=>qj.u7.f k y0 y1 kr)
noncomputable def qj.u8.c:IC:=(.seq qj.u6.c qj.u7.c)
noncomputable abbrev qj.u9.f (k:Nat) (x0 x1:Int) (x2 x3:Int) (x4 x5:Int) (x6 x7:Int) (kr:Ad->M α):M α:=
 qj.u1.f k x0 x1 x2 x3 x4 x5 x6 x7 (fun y0 y1 y2=>qj.u8.f k y0 y1 y2 kr)
noncomputable def qj.u9.c:IC:=qj.u1.c qj.u8.c
noncomputable def qj.f:Nat->Int->Int->Int->Int->Int->Int->Int->Int->(Int->Int->Int->Int->M α)->M α
 | 0, _, _, _, _, _, _, _, _, _=>fail
 | k + 1, x0, x1, x2, x3, x4, x5, x6, x7, ret=>
  qj.u9.f k x0 x1 x2 x3 x4 x5 x6 x7 (fun y0=>
   ldI .u64 (y0.add 0) fun o501=>
   ldI .u64 (y0.add 1) fun o502=>
   ldI .u64 (y0.add 2) fun o503=>
   ldI .u64 (y0.add 3) fun o504=>
   ret o501 o502 o503 o504)
noncomputable def qw.u1.f (k:Nat) (x0 x1:Int) (x2 x3 x4:Int) (kr:Bool->M α):M α:=
 new [.int .u64 x0, .int .u64 x1, .int .u64 x2, .int .u64 x3] fun s7=>
 cond (decide (0≤x4)) (
  cond (decide (x4 < 256)) (
   need (decide (0≤Int.fdiv x4 (2 ^ (min (6:Int).toNat 64)))) <|
   need (decide (Int.fdiv x4 (2 ^ (min (6:Int).toNat 64)) < (4:Int))) <|
   ldI .u64 (((s7.add ((Int.fdiv x4 (2 ^ (min (6:Int).toNat 64))).toNat * 1))).add 0) fun x8=>
   need (decide (0≤IntKind.wrap .u64 (bits .and .i64 x4 63))) <|
   kr (decide (bits .and .u64 (Int.fdiv x8 (2 ^ (min (IntKind.wrap .u64 (bits .and .i64 x4 63)).toNat 64))) 1 = 1))) (
   kr false)) (
  kr false)
noncomputable def qw.u1.c:IC:=(.seq (.ops 0 (zb Tryz.f21 0)) (.seq (.ops 1 (zb Tryz.f21 1)) (.ret [4])))
noncomputable def qw.f:Nat->Int->Int->Int->Int->Int->(Bool->M α)->M α
 | 0, _, _, _, _, _, _=>fail
 | k + 1, x0, x1, x2, x3, x4, ret=>
  qw.u1.f k x0 x1 x2 x3 x4 (fun y0=>
   ret y0)
noncomputable def qa.u1.f (k:Nat) (x0 x1 x2:Sl) (x3 x4:Int) (x5 x6:Int) (x7 x8:Int) (x9 x10 x11:Int) (kn:Int->Ad->Ad->Ad->Ad->M α) (kr:Ad->Sl->M α):M α:=
 new [.slice x0, .slice x1, .slice x2] fun g14=>
 new [.int .u64 x3, .int .u64 x4, .int .u64 x5, .int .u64 x6] fun in15=>
 new [.int .u64 x8, .int .u64 x9, .int .u64 x10, .int .u64 x11] fun to16=>
 new [.int .u64 0, .int .u64 0, .int .u64 0, .int .u64 0] fun x17=>
 ldS (g14.add 0) fun x18=>
 ldS (g14.add 1) fun x19=>
 ldS (g14.add 2) fun x20=>
 qe.f k x18 x19 x20 fun r21 r22=>
 cond (!(decide (r22 = 0))) (
  st1 (x17.add 0) (.int .u64 0) <|
  st1 (x17.add 1) (.int .u64 0) <|
  st1 (x17.add 2) (.int .u64 0) <|
  st1 (x17.add 3) (.int .u64 0) <|
  kr x17 Sl.nil) (
  cond (!(decide (x7 = 0))) (
   cond (!(decide (x7 = 1))) (
    st1 (x17.add 0) (.int .u64 0) <|
    st1 (x17.add 1) (.int .u64 0) <|
    st1 (x17.add 2) (.int .u64 0) <|
    st1 (x17.add 3) (.int .u64 0) <|
    kr x17 Sl.nil) (
    kn x7 g14 in15 to16 x17)) (
   kn x7 g14 in15 to16 x17))
noncomputable def qa.u1.c (R:IC):IC:=(.seq (.ops 0 (zb Tryz.f50 0)) (.seq (.cut [2, 4, 5, 7, 8] (.seq (.ops 1 (zb Tryz.f50 1)) (.seq (.ops 2 (zb Tryz.f50 2)) (.cond (.tmp 38) (.seq (.ops 3 (zb Tryz.f50 3)) (.ret [8, 9])) .skip)))) R))
noncomputable def qa.u2.f (k:Nat) (x0:Int) (x1 x2:Ad) (x3 x4:Ad) (kn:Int->Ad->Ad->Ad->Ad->Int->Sl->Sl->Sl->M α):M α:=
 ldS ((x1.add 0).add 0) fun x7=>
 ldI .u64 (x2.add 0) fun x8=>
 ldI .u64 (x2.add 1) fun x9=>
 ldI .u64 (x2.add 2) fun x10=>
 ldI .u64 (x2.add 3) fun x11=>
 qn.f k (x7.len:Int) fun r12 r13 r14 r15=>
 ldI .u64 (x2.add 0) fun y16=>
 ldI .u64 (x2.add 1) fun y17=>
 ldI .u64 (x2.add 2) fun y18=>
 ldI .u64 (x2.add 3) fun y19=>
 need (decide (x8 = y16)) <|
 need (decide (x9 = y17)) <|
 need (decide (x10 = y18)) <|
 need (decide (x11 = y19)) <|
 qj.f k x8 x9 x10 x11 r12 r13 r14 r15 fun r20 r21 r22 r23=>
 st1 (x2.add 0) (.int .u64 r20) <|
 st1 (x2.add 1) (.int .u64 r21) <|
 st1 (x2.add 2) (.int .u64 r22) <|
 st1 (x2.add 3) (.int .u64 r23) <|
 mkSl (x7.len:Int) (x7.len:Int) 24 [.slice Sl.nil] fun r24=>
 mkSl (x7.len:Int) (x7.len:Int) 8 [.int .i64 0] fun r25=>
 mkSl (x7.len:Int) (x7.len:Int) 8 [.int .i64 0] fun r26=>
 kn x0 x1 x2 x3 x4 (x7.len:Int) r24 r25 r26
noncomputable def qa.u2.c (R:IC):IC:=(.seq (.ops 4 (zb Tryz.f50 4)) (.seq (.drawn 5 (zb Tryz.f50 5) true [.op 0, .op 1, .op 2, .look 0, .op 3, .op 4]) (.seq (.ops 6 (zb Tryz.f50 6)) (.seq (.ops 7 (zb Tryz.f50 7)) (.seq (.cut [2, 4, 5, 7, 8, 12, 13, 14, 15] (.ops 8 (zb Tryz.f50 8))) R)))))
noncomputable def qa.u3.f (k:Nat) (x0:Int) (x1 x2:Ad) (x3 x4:Ad) (x5:Int) (x6 x7 x8:Sl) (kn:Int->Ad->Ad->Ad->Ad->Sl->Sl->Sl->Int->Int->M α):M α:=
 kn x0 x1 x2 x3 x4 x6 x7 x8 x5 0
noncomputable def qa.u3.c (R:IC):IC:=(.seq (.cut [2, 4, 5, 7, 8, 13, 14, 15, 53, 54] (.ops 9 (zb Tryz.f50 9))) R)
noncomputable def qa.u4.f (k:Nat) (x0:Int) (x1 x2:Ad) (x3 x4:Ad) (x5 x6 x7:Sl) (x8 x9:Int) (kn:Int->Ad->Ad->Ad->Ad->Sl->Sl->Sl->Int->Int->M α) (kx0:Int->Ad->Ad->Ad->Ad->Sl->Sl->Sl->M α):M α:=
 cond (decide (x9 < x8)) (
  kn x0 x1 x2 x3 x4 x5 x6 x7 x8 x9) (
  kx0 x0 x1 x2 x3 x4 x5 x6 x7)
noncomputable def qa.u4.c (R:IC):IC:=(.seq (.ops 10 (zb Tryz.f50 10)) (.seq (.cut [2, 4, 5, 7, 8, 13, 14, 15, 53, 54] (.cond (.tmp 55) .skip (.exit 0 [2, 4, 5, 7, 8, 13, 14, 15]))) R))
noncomputable def qa.u5.f (k:Nat) (x0:Int) (x1 x2:Ad) (x3 x4:Ad) (x5 x6 x7:Sl) (x8 x9:Int) (kn:Int->Ad->Ad->Ad->Ad->Sl->Sl->Sl->Int->Int->Int->Sl->Int->Int->M α) (kx1:Int->Ad->Ad->Ad->Ad->Sl->Sl->Sl->Int->Int->M α):M α:=
 idxSl x7 x9 1 fun a12=>
 st1 (a12.add 0) (.int .i64 (-1)) <|
 ldI .u64 (x2.add 0) fun x13=>
 ldI .u64 (x2.add 1) fun x14=>
 ldI .u64 (x2.add 2) fun x15=>
 ldI .u64 (x2.add 3) fun x16=>
 qw.f k x13 x14 x15 x16 x9 fun r17=>
 cond (!r17) (
  kx1 x0 x1 x2 x3 x4 x5 x6 x7 x8 x9) (
  ldS ((x1.add 2).add 0) fun x18=>
  idxSl x18 x9 1 fun a19=>
  ldS (a19.add 0) fun x20=>
  kn x0 x1 x2 x3 x4 x5 x6 x7 x9 x8 x9 x20 (x20.len:Int) 0)
noncomputable def qa.u5.c (R:IC):IC:=(.seq (.ops 11 (zb Tryz.f50 11)) (.seq (.ops 12 (zb Tryz.f50 12)) (.seq (.seq (.ops 13 (zb Tryz.f50 13)) (.cond (.tmp 63) (.exit 1 [2, 4, 5, 7, 8, 13, 14, 15, 53, 54]) .skip)) (.seq (.cut [2, 4, 5, 7, 8, 13, 14, 15, 16, 53, 54, 68, 69, 70] (.ops 14 (zb Tryz.f50 14))) R))))
noncomputable def qa.u6.f (k:Nat) (x0:Int) (x1 x2:Ad) (x3 x4:Ad) (x5 x6 x7:Sl) (x8 x9 x10:Int) (x11:Sl) (x12 x13:Int) (kn:Int->Ad->Ad->Ad->Ad->Sl->Sl->Sl->Int->Int->Int->Sl->Int->Int->M α) (kx2:Int->Ad->Ad->Ad->Ad->Sl->Sl->Sl->Int->Int->M α):M α:=
 cond (decide (x13 < x12)) (
  idxSl x11 x13 1 fun a16=>
  ldI .i64 (a16.add 0) fun x17=>
  ldI .u64 (x2.add 0) fun x18=>
  ldI .u64 (x2.add 1) fun x19=>
  ldI .u64 (x2.add 2) fun x20=>
  ldI .u64 (x2.add 3) fun x21=>
  qw.f k x18 x19 x20 x21 x17 fun r22=>
  cond (r22) (
   idxSl x5 x17 1 fun a23=>
   ldS (a23.add 0) fun x24=>
   new [.int .i64 x8] fun r25=>
   yr x24 1 8 (⟨some r25, 1, 1, none⟩:Sl) fun x26=>
   idxSl x5 x17 1 fun a27=>
   st1 (a27.add 0) (.slice x26) <|
   idxSl x6 x8 1 fun a28=>
   ldI .i64 (a28.add 0) fun x29=>
   idxSl x6 x8 1 fun a30=>
   st1 (a30.add 0) (.int .i64 (w64 (x29 + 1))) <|
   kn x0 x1 x2 x3 x4 x5 x6 x7 x8 x9 x10 x11 x12 (w64 (x13 + 1))) (
   kn x0 x1 x2 x3 x4 x5 x6 x7 x8 x9 x10 x11 x12 (w64 (x13 + 1)))) (
  kx2 x0 x1 x2 x3 x4 x5 x6 x7 x9 x10)
noncomputable def qa.u6.c:IC:=(.seq (.ops 15 (zb Tryz.f50 15)) (.seq (.cond (.tmp 71) .skip (.exit 2 [2, 4, 5, 7, 8, 13, 14, 15, 53, 54])) (.seq (.block 3 (.seq (.ops 16 (zb Tryz.f50 16)) (.seq (.ops 17 (zb Tryz.f50 17)) (.cond (.tmp 76) (.seq (.ops 18 (zb Tryz.f50 18)) (.ops 19 (zb Tryz.f50 19))) .skip)))) (.cut [2, 4, 5, 7, 8, 13, 14, 15, 16, 53, 54, 68, 69, 70] (.ops 20 (zb Tryz.f50 20))))))
noncomputable def qa.u7.l (k:Nat) (kx2:Int->Ad->Ad->Ad->Ad->Sl->Sl->Sl->Int->Int->M α):Nat->Int->Ad->Ad->Ad->Ad->Sl->Sl->Sl->Int->Int->Int->Sl->Int->Int->M α
 | 0, _, _, _, _, _, _, _, _, _, _, _, _, _, _=>fail
 | j + 1, x0, x1, x2, x3, x4, x5, x6, x7, x8, x9, x10, x11, x12, x13=>
  qa.u6.f k x0 x1 x2 x3 x4 x5 x6 x7 x8 x9 x10 x11 x12 x13 (fun y0 y1 y2 y3 y4 y5 y6 y7 y8 y9 y10 y11 y12 y13=>qa.u7.l k kx2 j y0 y1 y2 y3 y4 y5 y6 y7 y8 y9 y10 y11 y12 y13) kx2
noncomputable abbrev qa.u7.f (k:Nat) (x0:Int) (x1 x2:Ad) (x3 x4:Ad) (x5 x6 x7:Sl) (x8 x9 x10:Int) (x11:Sl) (x12 x13:Int) (kx2:Int->Ad->Ad->Ad->Ad->Sl->Sl->Sl->Int->Int->M α):M α:=
 qa.u7.l k kx2 k x0 x1 x2 x3 x4 x5 x6 x7 x8 x9 x10 x11 x12 x13
noncomputable def qa.u7.c:IC:=.loop [2, 4, 5, 7, 8, 13, 14, 15, 16, 53, 54, 68, 69, 70] qa.u6.c
noncomputable abbrev qa.u8.f (k:Nat) (x0:Int) (x1 x2:Ad) (x3 x4:Ad) (x5 x6 x7:Sl) (x8 x9 x10:Int) (x11:Sl) (x12 x13:Int) (kn:Int->Ad->Ad->Ad->Ad->Sl->Sl->Sl->Int->Int->M α):M α:=
 qa.u7.f k x0 x1 x2 x3 x4 x5 x6 x7 x8 x9 x10 x11 x12 x13 (fun y0 y1 y2 y3 y4 y5 y6 y7 y8 y9=>kn y0 y1 y2 y3 y4 y5 y6 y7 y8 y9)
noncomputable def qa.u8.c:IC:=.block 2 qa.u7.c
noncomputable abbrev qa.u9.f (k:Nat) (x0:Int) (x1 x2:Ad) (x3 x4:Ad) (x5 x6 x7:Sl) (x8 x9:Int) (kn:Int->Ad->Ad->Ad->Ad->Sl->Sl->Sl->Int->Int->M α) (kx1:Int->Ad->Ad->Ad->Ad->Sl->Sl->Sl->Int->Int->M α):M α:=
 qa.u5.f k x0 x1 x2 x3 x4 x5 x6 x7 x8 x9 (fun y0 y1 y2 y3 y4 y5 y6 y7 y8 y9 y10 y11 y12 y13=>qa.u8.f k y0 y1 y2 y3 y4 y5 y6 y7 y8 y9 y10 y11 y12 y13 kn) kx1
noncomputable def qa.u9.c:IC:=qa.u5.c qa.u8.c
noncomputable abbrev qa.u10.f (k:Nat) (x0:Int) (x1 x2:Ad) (x3 x4:Ad) (x5 x6 x7:Sl) (x8 x9:Int) (kn:Int->Ad->Ad->Ad->Ad->Sl->Sl->Sl->Int->Int->M α):M α:=
 qa.u9.f k x0 x1 x2 x3 x4 x5 x6 x7 x8 x9 (fun y0 y1 y2 y3 y4 y5 y6 y7 y8 y9=>kn y0 y1 y2 y3 y4 y5 y6 y7 y8 y9) (fun y0 y1 y2 y3 y4 y5 y6 y7 y8 y9=>kn y0 y1 y2 y3 y4 y5 y6 y7 y8 y9)
noncomputable def qa.u10.c:IC:=.block 1 qa.u9.c
noncomputable def qa.u11.f (k:Nat) (x0:Int) (x1 x2:Ad) (x3 x4:Ad) (x5 x6 x7:Sl) (x8 x9:Int) (kn:Int->Ad->Ad->Ad->Ad->Sl->Sl->Sl->Int->Int->M α):M α:=
 kn x0 x1 x2 x3 x4 x5 x6 x7 x8 (w64 (x9 + 1))
noncomputable def qa.u11.c:IC:=(.cut [2, 4, 5, 7, 8, 13, 14, 15, 53, 54] (.ops 21 (zb Tryz.f50 21)))
noncomputable abbrev qa.u12.f (k:Nat) (x0:Int) (x1 x2:Ad) (x3 x4:Ad) (x5 x6 x7:Sl) (x8 x9:Int) (kn:Int->Ad->Ad->Ad->Ad->Sl->Sl->Sl->Int->Int->M α):M α:=
 qa.u10.f k x0 x1 x2 x3 x4 x5 x6 x7 x8 x9 (fun y0 y1 y2 y3 y4 y5 y6 y7 y8 y9=>qa.u11.f k y0 y1 y2 y3 y4 y5 y6 y7 y8 y9 kn)
noncomputable def qa.u12.c:IC:=(.seq qa.u10.c qa.u11.c)
noncomputable abbrev qa.u13.f (k:Nat) (x0:Int) (x1 x2:Ad) (x3 x4:Ad) (x5 x6 x7:Sl) (x8 x9:Int) (kn:Int->Ad->Ad->Ad->Ad->Sl->Sl->Sl->Int->Int->M α) (kx0:Int->Ad->Ad->Ad->Ad->Sl->Sl->Sl->M α):M α:=
 qa.u4.f k x0 x1 x2 x3 x4 x5 x6 x7 x8 x9 (fun y0 y1 y2 y3 y4 y5 y6 y7 y8 y9=>qa.u12.f k y0 y1 y2 y3 y4 y5 y6 y7 y8 y9 kn) kx0
noncomputable def qa.u13.c:IC:=qa.u4.c qa.u12.c
noncomputable def qa.u14.l (k:Nat) (kx0:Int->Ad->Ad->Ad->Ad->Sl->Sl->Sl->M α):Nat->Int->Ad->Ad->Ad->Ad->Sl->Sl->Sl->Int->Int->M α
 | 0, _, _, _, _, _, _, _, _, _, _=>fail
 | j + 1, x0, x1, x2, x3, x4, x5, x6, x7, x8, x9=>
  qa.u13.f k x0 x1 x2 x3 x4 x5 x6 x7 x8 x9 (fun y0 y1 y2 y3 y4 y5 y6 y7 y8 y9=>qa.u14.l k kx0 j y0 y1 y2 y3 y4 y5 y6 y7 y8 y9) kx0
noncomputable abbrev qa.u14.f (k:Nat) (x0:Int) (x1 x2:Ad) (x3 x4:Ad) (x5 x6 x7:Sl) (x8 x9:Int) (kx0:Int->Ad->Ad->Ad->Ad->Sl->Sl->Sl->M α):M α:=
 qa.u14.l k kx0 k x0 x1 x2 x3 x4 x5 x6 x7 x8 x9
noncomputable def qa.u14.c:IC:=.loop [2, 4, 5, 7, 8, 13, 14, 15, 53, 54] qa.u13.c
noncomputable abbrev qa.u15.f (k:Nat) (x0:Int) (x1 x2:Ad) (x3 x4:Ad) (x5 x6 x7:Sl) (x8 x9:Int) (kn:Int->Ad->Ad->Ad->Ad->Sl->Sl->Sl->M α):M α:=
 qa.u14.f k x0 x1 x2 x3 x4 x5 x6 x7 x8 x9 (fun y0 y1 y2 y3 y4 y5 y6 y7=>kn y0 y1 y2 y3 y4 y5 y6 y7)
noncomputable def qa.u15.c:IC:=.block 0 qa.u14.c
noncomputable abbrev qa.u16.f (k:Nat) (x0:Int) (x1 x2:Ad) (x3 x4:Ad) (x5:Int) (x6 x7 x8:Sl) (kn:Int->Ad->Ad->Ad->Ad->Sl->Sl->Sl->M α):M α:=
 qa.u3.f k x0 x1 x2 x3 x4 x5 x6 x7 x8 (fun y0 y1 y2 y3 y4 y5 y6 y7 y8 y9=>qa.u15.f k y0 y1 y2 y3 y4 y5 y6 y7 y8 y9 kn)
noncomputable def qa.u16.c:IC:=qa.u3.c qa.u15.c
noncomputable def qa.u17.f (k:Nat) (x0:Int) (x1 x2:Ad) (x3 x4:Ad) (x5 x6 x7:Sl) (kn:Int->Ad->Ad->Sl->Sl->Sl->Ad->M α):M α:=
 ldI .u64 (x3.add 0) fun x10=>
 ldI .u64 (x3.add 1) fun x11=>
 ldI .u64 (x3.add 2) fun x12=>
 ldI .u64 (x3.add 3) fun x13=>
 ldI .u64 (x2.add 0) fun x14=>
 ldI .u64 (x2.add 1) fun x15=>
 ldI .u64 (x2.add 2) fun x16=>
 ldI .u64 (x2.add 3) fun x17=>
 qj.f k x10 x11 x12 x13 x14 x15 x16 x17 fun r18 r19 r20 r21=>
 new [.int .u64 0, .int .u64 0, .int .u64 0, .int .u64 0] fun set22=>
 st1 (set22.add 0) (.int .u64 r18) <|
 st1 (set22.add 1) (.int .u64 r19) <|
 st1 (set22.add 2) (.int .u64 r20) <|
 st1 (set22.add 3) (.int .u64 r21) <|
 kn x0 x1 x4 x5 x6 x7 set22
noncomputable def qa.u17.c (R:IC):IC:=(.seq (.cut [2, 4, 8, 13, 14, 15, 19] (.ops 22 (zb Tryz.f50 22))) R)
noncomputable def qa.u18.f (k:Nat) (x0:Int) (x1 x2:Ad) (x3 x4 x5:Sl) (x6:Ad) (kn:Int->Ad->Ad->Sl->Sl->Sl->Ad->Sl->M α):M α:=
 ldI .u64 (x6.add 0) fun x9=>
 ldI .u64 (x6.add 1) fun x10=>
 ldI .u64 (x6.add 2) fun x11=>
 ldI .u64 (x6.add 3) fun x12=>
 qf.f k x9 x10 x11 x12 fun r13=>
 kn x0 x1 x2 x3 x4 x5 x6 r13
noncomputable def qa.u18.c (R:IC):IC:=(.seq (.cut [2, 4, 8, 13, 14, 15, 19, 20] (.ops 23 (zb Tryz.f50 23))) R)
noncomputable def qa.u19.f (k:Nat) (x0:Int) (x1 x2:Ad) (x3 x4 x5:Sl) (x6:Ad) (x7:Sl) (kn:Int->Ad->Ad->Sl->Sl->Sl->Ad->Sl->M α) (kx4:Ad->Sl->Ad->M α):M α:=
 cond (decide (0 < (x7.len:Int))) (
  kn x0 x1 x2 x3 x4 x5 x6 x7) (
  kx4 x2 x5 x6)
noncomputable def qa.u19.c (R:IC):IC:=(.seq (.cut [2, 4, 8, 13, 14, 15, 19, 20] (.seq (.ops 24 (zb Tryz.f50 24)) (.cond (.tmp 102) .skip (.exit 4 [8, 15, 19])))) R)
noncomputable def qa.u20.f (k:Nat) (x0:Int) (x1 x2:Ad) (x3 x4 x5:Sl) (x6:Ad) (x7:Sl) (kn:Int->Ad->Ad->Sl->Sl->Sl->Ad->Sl->Int->Sl->Int->Int->M α):M α:=
 idxSl x7 0 1 fun a10=>
 ldI .i64 (a10.add 0) fun x11=>
 idxSl x3 x11 1 fun a12=>
 ldS (a12.add 0) fun x13=>
 kn x0 x1 x2 x3 x4 x5 x6 x7 x11 x13 (x13.len:Int) 0
noncomputable def qa.u20.c (R:IC):IC:=(.seq (.ops 26 (zb Tryz.f50 26)) (.seq (.cut [2, 4, 8, 13, 14, 15, 19, 20, 21, 111, 112, 113] (.ops 27 (zb Tryz.f50 27))) R))
noncomputable def qa.u21.f (k:Nat) (x0:Int) (x1 x2:Ad) (x3 x4 x5:Sl) (x6:Ad) (x7:Sl) (x8:Int) (x9:Sl) (x10 x11:Int) (kn:Int->Ad->Ad->Sl->Sl->Sl->Ad->Sl->Int->Sl->Int->Int->M α) (kx6:Int->Ad->Ad->Sl->Sl->Sl->Ad->Sl->M α):M α:=
 cond (decide (x11 < x10)) (
  kn x0 x1 x2 x3 x4 x5 x6 x7 x8 x9 x10 x11) (
  kx6 x0 x1 x2 x3 x4 x5 x6 x7)
noncomputable def qa.u21.c (R:IC):IC:=(.seq (.ops 28 (zb Tryz.f50 28)) (.seq (.cut [2, 4, 8, 13, 14, 15, 19, 20, 21, 111, 112, 113] (.cond (.tmp 114) .skip (.exit 6 [2, 4, 8, 13, 14, 15, 19, 20]))) R))
noncomputable def qa.u22.f (k:Nat) (x0:Int) (x1 x2:Ad) (x3 x4 x5:Sl) (x6:Ad) (x7:Sl) (x8:Int) (x9:Sl) (x10 x11:Int) (kn:Int->Ad->Ad->Sl->Sl->Sl->Ad->Sl->Int->Int->Sl->Int->Int->M α) (kx7:Int->Ad->Ad->Sl->Sl->Sl->Ad->Sl->Int->Sl->Int->Int->M α):M α:=
 idxSl x9 x11 1 fun a14=>
 ldI .i64 (a14.add 0) fun x15=>
 idxSl x4 x15 1 fun a16=>
 ldI .i64 (a16.add 0) fun x17=>
 idxSl x4 x15 1 fun a18=>
 st1 (a18.add 0) (.int .i64 (w64 (x17 - 1))) <|
 ldI .u64 (x6.add 0) fun x19=>
 ldI .u64 (x6.add 1) fun x20=>
 ldI .u64 (x6.add 2) fun x21=>
 ldI .u64 (x6.add 3) fun x22=>
 qw.f k x19 x20 x21 x22 x15 fun r23=>
 cond (r23) (
  kx7 x0 x1 x2 x3 x4 x5 x6 x7 x8 x9 x10 x11) (
  ldS ((x1.add 0).add 0) fun x24=>
  idxSl x24 x15 1 fun a25=>
  ldI .i64 (a25.add 0) fun x26=>
  cond (!(decide (x26 = x0))) (
   idxSl x4 x15 1 fun a27=>
   ldI .i64 (a27.add 0) fun x28=>
   cond (decide (0 < x28)) (
    kx7 x0 x1 x2 x3 x4 x5 x6 x7 x8 x9 x10 x11) (
    kn x0 x1 x2 x3 x4 x5 x6 x7 x8 x15 x9 x10 x11)) (
   kn x0 x1 x2 x3 x4 x5 x6 x7 x8 x15 x9 x10 x11))
noncomputable def qa.u22.c (R:IC):IC:=(.seq (.ops 29 (zb Tryz.f50 29)) (.seq (.ops 30 (zb Tryz.f50 30)) (.seq (.cut [2, 4, 8, 13, 14, 15, 19, 20, 21, 23, 111, 112, 113] (.seq (.ops 31 (zb Tryz.f50 31)) (.cond (.tmp 141) (.exit 7 [2, 4, 8, 13, 14, 15, 19, 20, 21, 111, 112, 113]) .skip))) R)))
noncomputable def qa.u23.f (k:Nat) (x0:Int) (x1 x2:Ad) (x3 x4 x5:Sl) (x6:Ad) (x7:Sl) (x8 x9:Int) (x10:Sl) (x11 x12:Int) (kn:Int->Ad->Ad->Sl->Sl->Sl->Ad->Sl->Int->Sl->Int->Int->M α):M α:=
 ldS ((x1.add 0).add 0) fun x15=>
 idxSl x15 x9 1 fun a16=>
 ldI .i64 (a16.add 0) fun x17=>
 cond (decide (x17 = x0)) (
  idxSl x5 x9 1 fun a18=>
  st1 (a18.add 0) (.int .i64 x8) <|
  ldI .u64 (x6.add 0) fun x19=>
  ldI .u64 (x6.add 1) fun x20=>
  ldI .u64 (x6.add 2) fun x21=>
  ldI .u64 (x6.add 3) fun x22=>
  qy.f k x19 x20 x21 x22 x9 fun r23 r24 r25 r26=>
  st1 (x6.add 0) (.int .u64 r23) <|
  st1 (x6.add 1) (.int .u64 r24) <|
  st1 (x6.add 2) (.int .u64 r25) <|
  st1 (x6.add 3) (.int .u64 r26) <|
  new [.int .i64 x9] fun r27=>
  yr x7 1 8 (⟨some r27, 1, 1, none⟩:Sl) fun x28=>
  kn x0 x1 x2 x3 x4 x5 x6 x28 x8 x10 x11 x12) (
  ldI .u64 (x6.add 0) fun x29=>
  ldI .u64 (x6.add 1) fun x30=>
  ldI .u64 (x6.add 2) fun x31=>
  ldI .u64 (x6.add 3) fun x32=>
  qy.f k x29 x30 x31 x32 x9 fun r33 r34 r35 r36=>
  st1 (x6.add 0) (.int .u64 r33) <|
  st1 (x6.add 1) (.int .u64 r34) <|
  st1 (x6.add 2) (.int .u64 r35) <|
  st1 (x6.add 3) (.int .u64 r36) <|
  new [.int .i64 x9] fun r37=>
  yr x7 1 8 (⟨some r37, 1, 1, none⟩:Sl) fun x38=>
  kn x0 x1 x2 x3 x4 x5 x6 x38 x8 x10 x11 x12)
noncomputable def qa.u23.c:IC:=(.seq (.seq (.ops 32 (zb Tryz.f50 32)) (.cond (.tmp 148) (.ops 33 (zb Tryz.f50 33)) .skip)) (.seq (.ops 34 (zb Tryz.f50 34)) (.cut [2, 4, 8, 13, 14, 15, 19, 20, 21, 111, 112, 113] (.ops 35 (zb Tryz.f50 35)))))
noncomputable abbrev qa.u24.f (k:Nat) (x0:Int) (x1 x2:Ad) (x3 x4 x5:Sl) (x6:Ad) (x7:Sl) (x8:Int) (x9:Sl) (x10 x11:Int) (kn:Int->Ad->Ad->Sl->Sl->Sl->Ad->Sl->Int->Sl->Int->Int->M α) (kx7:Int->Ad->Ad->Sl->Sl->Sl->Ad->Sl->Int->Sl->Int->Int->M α):M α:=
 qa.u22.f k x0 x1 x2 x3 x4 x5 x6 x7 x8 x9 x10 x11 (fun y0 y1 y2 y3 y4 y5 y6 y7 y8 y9 y10 y11 y12=>qa.u23.f k y0 y1 y2 y3 y4 y5 y6 y7 y8 y9 y10 y11 y12 kn) kx7
noncomputable def qa.u24.c:IC:=qa.u22.c qa.u23.c
noncomputable abbrev qa.u25.f (k:Nat) (x0:Int) (x1 x2:Ad) (x3 x4 x5:Sl) (x6:Ad) (x7:Sl) (x8:Int) (x9:Sl) (x10 x11:Int) (kn:Int->Ad->Ad->Sl->Sl->Sl->Ad->Sl->Int->Sl->Int->Int->M α):M α:=
 qa.u24.f k x0 x1 x2 x3 x4 x5 x6 x7 x8 x9 x10 x11 (fun y0 y1 y2 y3 y4 y5 y6 y7 y8 y9 y10 y11=>kn y0 y1 y2 y3 y4 y5 y6 y7 y8 y9 y10 y11) (fun y0 y1 y2 y3 y4 y5 y6 y7 y8 y9 y10 y11=>kn y0 y1 y2 y3 y4 y5 y6 y7 y8 y9 y10 y11)
noncomputable def qa.u25.c:IC:=.block 7 qa.u24.c
noncomputable def qa.u26.f (k:Nat) (x0:Int) (x1 x2:Ad) (x3 x4 x5:Sl) (x6:Ad) (x7:Sl) (x8:Int) (x9:Sl) (x10 x11:Int) (kn:Int->Ad->Ad->Sl->Sl->Sl->Ad->Sl->Int->Sl->Int->Int->M α):M α:=
 kn x0 x1 x2 x3 x4 x5 x6 x7 x8 x9 x10 (w64 (x11 + 1))
noncomputable def qa.u26.c:IC:=(.cut [2, 4, 8, 13, 14, 15, 19, 20, 21, 111, 112, 113] (.ops 36 (zb Tryz.f50 36)))
noncomputable abbrev qa.u27.f (k:Nat) (x0:Int) (x1 x2:Ad) (x3 x4 x5:Sl) (x6:Ad) (x7:Sl) (x8:Int) (x9:Sl) (x10 x11:Int) (kn:Int->Ad->Ad->Sl->Sl->Sl->Ad->Sl->Int->Sl->Int->Int->M α):M α:=
 qa.u25.f k x0 x1 x2 x3 x4 x5 x6 x7 x8 x9 x10 x11 (fun y0 y1 y2 y3 y4 y5 y6 y7 y8 y9 y10 y11=>qa.u26.f k y0 y1 y2 y3 y4 y5 y6 y7 y8 y9 y10 y11 kn)
noncomputable def qa.u27.c:IC:=(.seq qa.u25.c qa.u26.c)
noncomputable abbrev qa.u28.f (k:Nat) (x0:Int) (x1 x2:Ad) (x3 x4 x5:Sl) (x6:Ad) (x7:Sl) (x8:Int) (x9:Sl) (x10 x11:Int) (kn:Int->Ad->Ad->Sl->Sl->Sl->Ad->Sl->Int->Sl->Int->Int->M α) (kx6:Int->Ad->Ad->Sl->Sl->Sl->Ad->Sl->M α):M α:=
 qa.u21.f k x0 x1 x2 x3 x4 x5 x6 x7 x8 x9 x10 x11 (fun y0 y1 y2 y3 y4 y5 y6 y7 y8 y9 y10 y11=>qa.u27.f k y0 y1 y2 y3 y4 y5 y6 y7 y8 y9 y10 y11 kn) kx6
noncomputable def qa.u28.c:IC:=qa.u21.c qa.u27.c
noncomputable def qa.u29.l (k:Nat) (kx6:Int->Ad->Ad->Sl->Sl->Sl->Ad->Sl->M α):Nat->Int->Ad->Ad->Sl->Sl->Sl->Ad->Sl->Int->Sl->Int->Int->M α
 | 0, _, _, _, _, _, _, _, _, _, _, _, _=>fail
 | j + 1, x0, x1, x2, x3, x4, x5, x6, x7, x8, x9, x10, x11=>
  qa.u28.f k x0 x1 x2 x3 x4 x5 x6 x7 x8 x9 x10 x11 (fun y0 y1 y2 y3 y4 y5 y6 y7 y8 y9 y10 y11=>qa.u29.l k kx6 j y0 y1 y2 y3 y4 y5 y6 y7 y8 y9 y10 y11) kx6
noncomputable abbrev qa.u29.f (k:Nat) (x0:Int) (x1 x2:Ad) (x3 x4 x5:Sl) (x6:Ad) (x7:Sl) (x8:Int) (x9:Sl) (x10 x11:Int) (kx6:Int->Ad->Ad->Sl->Sl->Sl->Ad->Sl->M α):M α:=
 qa.u29.l k kx6 k x0 x1 x2 x3 x4 x5 x6 x7 x8 x9 x10 x11
noncomputable def qa.u29.c:IC:=.loop [2, 4, 8, 13, 14, 15, 19, 20, 21, 111, 112, 113] qa.u28.c
noncomputable abbrev qa.u30.f (k:Nat) (x0:Int) (x1 x2:Ad) (x3 x4 x5:Sl) (x6:Ad) (x7:Sl) (x8:Int) (x9:Sl) (x10 x11:Int) (kn:Int->Ad->Ad->Sl->Sl->Sl->Ad->Sl->M α):M α:=
 qa.u29.f k x0 x1 x2 x3 x4 x5 x6 x7 x8 x9 x10 x11 (fun y0 y1 y2 y3 y4 y5 y6 y7=>kn y0 y1 y2 y3 y4 y5 y6 y7)
noncomputable def qa.u30.c:IC:=.block 6 qa.u29.c
noncomputable abbrev qa.u31.f (k:Nat) (x0:Int) (x1 x2:Ad) (x3 x4 x5:Sl) (x6:Ad) (x7:Sl) (kn:Int->Ad->Ad->Sl->Sl->Sl->Ad->Sl->M α):M α:=
 qa.u20.f k x0 x1 x2 x3 x4 x5 x6 x7 (fun y0 y1 y2 y3 y4 y5 y6 y7 y8 y9 y10 y11=>qa.u30.f k y0 y1 y2 y3 y4 y5 y6 y7 y8 y9 y10 y11 kn)
noncomputable def qa.u31.c:IC:=qa.u20.c qa.u30.c
noncomputable abbrev qa.u32.f (k:Nat) (x0:Int) (x1 x2:Ad) (x3 x4 x5:Sl) (x6:Ad) (x7:Sl) (kn:Int->Ad->Ad->Sl->Sl->Sl->Ad->Sl->M α):M α:=
 qa.u31.f k x0 x1 x2 x3 x4 x5 x6 x7 (fun y0 y1 y2 y3 y4 y5 y6 y7=>kn y0 y1 y2 y3 y4 y5 y6 y7)
noncomputable def qa.u32.c:IC:=.block 5 qa.u31.c
noncomputable def qa.u33.f (k:Nat) (x0:Int) (x1 x2:Ad) (x3 x4 x5:Sl) (x6:Ad) (x7:Sl) (kn:Int->Ad->Ad->Sl->Sl->Sl->Ad->Sl->M α):M α:=
 cutSl x7 1 (some 1) none none fun x10=>
 kn x0 x1 x2 x3 x4 x5 x6 x10
noncomputable def qa.u33.c:IC:=(.cut [2, 4, 8, 13, 14, 15, 19, 20] (.ops 25 (zb Tryz.f50 25)))
noncomputable abbrev qa.u34.f (k:Nat) (x0:Int) (x1 x2:Ad) (x3 x4 x5:Sl) (x6:Ad) (x7:Sl) (kn:Int->Ad->Ad->Sl->Sl->Sl->Ad->Sl->M α):M α:=
 qa.u32.f k x0 x1 x2 x3 x4 x5 x6 x7 (fun y0 y1 y2 y3 y4 y5 y6 y7=>qa.u33.f k y0 y1 y2 y3 y4 y5 y6 y7 kn)
noncomputable def qa.u34.c:IC:=(.seq qa.u32.c qa.u33.c)
noncomputable abbrev qa.u35.f (k:Nat) (x0:Int) (x1 x2:Ad) (x3 x4 x5:Sl) (x6:Ad) (x7:Sl) (kn:Int->Ad->Ad->Sl->Sl->Sl->Ad->Sl->M α) (kx4:Ad->Sl->Ad->M α):M α:=
 qa.u19.f k x0 x1 x2 x3 x4 x5 x6 x7 (fun y0 y1 y2 y3 y4 y5 y6 y7=>qa.u34.f k y0 y1 y2 y3 y4 y5 y6 y7 kn) kx4
noncomputable def qa.u35.c:IC:=qa.u19.c qa.u34.c
noncomputable def qa.u36.l (k:Nat) (kx4:Ad->Sl->Ad->M α):Nat->Int->Ad->Ad->Sl->Sl->Sl->Ad->Sl->M α
 | 0, _, _, _, _, _, _, _, _=>fail
 | j + 1, x0, x1, x2, x3, x4, x5, x6, x7=>
  qa.u35.f k x0 x1 x2 x3 x4 x5 x6 x7 (fun y0 y1 y2 y3 y4 y5 y6 y7=>qa.u36.l k kx4 j y0 y1 y2 y3 y4 y5 y6 y7) kx4
noncomputable abbrev qa.u36.f (k:Nat) (x0:Int) (x1 x2:Ad) (x3 x4 x5:Sl) (x6:Ad) (x7:Sl) (kx4:Ad->Sl->Ad->M α):M α:=
 qa.u36.l k kx4 k x0 x1 x2 x3 x4 x5 x6 x7
noncomputable def qa.u36.c:IC:=.loop [2, 4, 8, 13, 14, 15, 19, 20] qa.u35.c
noncomputable abbrev qa.u37.f (k:Nat) (x0:Int) (x1 x2:Ad) (x3 x4 x5:Sl) (x6:Ad) (x7:Sl) (kn:Ad->Sl->Ad->M α):M α:=
 qa.u36.f k x0 x1 x2 x3 x4 x5 x6 x7 (fun y0 y1 y2=>kn y0 y1 y2)
noncomputable def qa.u37.c:IC:=.block 4 qa.u36.c
noncomputable abbrev qa.u38.f (k:Nat) (x0:Int) (x1 x2:Ad) (x3 x4 x5:Sl) (x6:Ad) (kn:Ad->Sl->Ad->M α):M α:=
 qa.u18.f k x0 x1 x2 x3 x4 x5 x6 (fun y0 y1 y2 y3 y4 y5 y6 y7=>qa.u37.f k y0 y1 y2 y3 y4 y5 y6 y7 kn)
noncomputable def qa.u38.c:IC:=qa.u18.c qa.u37.c
noncomputable def qa.u39.f (k:Nat) (x0:Ad) (x1:Sl) (x2:Ad) (kr:Ad->Sl->M α):M α:=
 ldI .u64 (x2.add 0) fun x5=>
 ldI .u64 (x2.add 1) fun x6=>
 ldI .u64 (x2.add 2) fun x7=>
 ldI .u64 (x2.add 3) fun x8=>
 st1 (x0.add 0) (.int .u64 x5) <|
 st1 (x0.add 1) (.int .u64 x6) <|
 st1 (x0.add 2) (.int .u64 x7) <|
 st1 (x0.add 3) (.int .u64 x8) <|
 kr x0 x1
noncomputable def qa.u39.c:IC:=(.seq (.ops 37 (zb Tryz.f50 37)) (.ret [8, 9]))
noncomputable abbrev qa.u40.f (k:Nat) (x0:Int) (x1 x2:Ad) (x3 x4 x5:Sl) (x6:Ad) (kr:Ad->Sl->M α):M α:=
 qa.u38.f k x0 x1 x2 x3 x4 x5 x6 (fun y0 y1 y2=>qa.u39.f k y0 y1 y2 kr)
noncomputable def qa.u40.c:IC:=(.seq qa.u38.c qa.u39.c)
noncomputable abbrev qa.u41.f (k:Nat) (x0:Int) (x1 x2:Ad) (x3 x4:Ad) (x5 x6 x7:Sl) (kr:Ad->Sl->M α):M α:=
 qa.u17.f k x0 x1 x2 x3 x4 x5 x6 x7 (fun y0 y1 y2 y3 y4 y5 y6=>qa.u40.f k y0 y1 y2 y3 y4 y5 y6 kr)
noncomputable def qa.u41.c:IC:=qa.u17.c qa.u40.c
noncomputable abbrev qa.u42.f (k:Nat) (x0:Int) (x1 x2:Ad) (x3 x4:Ad) (x5:Int) (x6 x7 x8:Sl) (kr:Ad->Sl->M α):M α:=
 qa.u16.f k x0 x1 x2 x3 x4 x5 x6 x7 x8 (fun y0 y1 y2 y3 y4 y5 y6 y7=>qa.u41.f k y0 y1 y2 y3 y4 y5 y6 y7 kr)
noncomputable def qa.u42.c:IC:=(.seq qa.u16.c qa.u41.c)
noncomputable abbrev qa.u43.f (k:Nat) (x0:Int) (x1 x2:Ad) (x3 x4:Ad) (kr:Ad->Sl->M α):M α:=
 qa.u2.f k x0 x1 x2 x3 x4 (fun y0 y1 y2 y3 y4 y5 y6 y7 y8=>qa.u42.f k y0 y1 y2 y3 y4 y5 y6 y7 y8 kr)
noncomputable def qa.u43.c:IC:=qa.u2.c qa.u42.c
noncomputable abbrev qa.u44.f (k:Nat) (x0 x1 x2:Sl) (x3 x4:Int) (x5 x6:Int) (x7 x8:Int) (x9 x10 x11:Int) (kr:Ad->Sl->M α):M α:=
 qa.u1.f k x0 x1 x2 x3 x4 x5 x6 x7 x8 x9 x10 x11 (fun y0 y1 y2 y3 y4=>qa.u43.f k y0 y1 y2 y3 y4 kr) kr
noncomputable def qa.u44.c:IC:=qa.u1.c qa.u43.c
noncomputable def qa.f:Nat->Sl->Sl->Sl->Int->Int->Int->Int->Int->Int->Int->Int->Int->(Int->Int->Int->Int->Sl->M α)->M α
 | 0, _, _, _, _, _, _, _, _, _, _, _, _, _=>fail
 | k + 1, x0, x1, x2, x3, x4, x5, x6, x7, x8, x9, x10, x11, ret=>
  qa.u44.f k x0 x1 x2 x3 x4 x5 x6 x7 x8 x9 x10 x11 (fun y0 y1=>
   ldI .u64 (y0.add 0) fun o501=>
   ldI .u64 (y0.add 1) fun o502=>
   ldI .u64 (y0.add 2) fun o503=>
   ldI .u64 (y0.add 3) fun o504=>
   ret o501 o502 o503 o504 y1)
noncomputable def qk.u1.f (k:Nat) (x0 x1:Int) (x2 x3:Int) (x4 x5:Int) (x6 x7:Int) (kn:Ad->Ad->Ad->M α):M α:=
 new [.int .u64 x0, .int .u64 x1, .int .u64 x2, .int .u64 x3] fun s10=>
 new [.int .u64 x4, .int .u64 x5, .int .u64 x6, .int .u64 x7] fun t11=>
 new [.int .u64 0, .int .u64 0, .int .u64 0, .int .u64 0] fun x12=>
 kn s10 t11 x12
noncomputable def qk.u1.c (R:IC):IC:=(.seq (.cut [2, 3, 4] (.ops 0 (zb Tryz.f20 0))) R)
noncomputable def qk.u2.f (k:Nat) (x0 x1 x2:Ad) (kn:Ad->Ad->Ad->Int->M α):M α:=
 kn x0 x1 x2 0
noncomputable def qk.u2.c (R:IC):IC:=(.seq (.cut [2, 3, 4, 6] (.ops 1 (zb Tryz.f20 1))) R)
noncomputable def qk.u3.f (k:Nat) (x0 x1 x2:Ad) (x3:Int) (kn:Ad->Ad->Ad->Int->M α) (kx0:Ad->Ad->M α):M α:=
 cond (decide (x3 < 4)) (
  need (decide (0≤x3)) <|
  need (decide (x3 < (4:Int))) <|
  ldI .u64 (((x0.add (x3.toNat * 1))).add 0) fun x6=>
  need (decide (0≤x3)) <|
  need (decide (x3 < (4:Int))) <|
  ldI .u64 (((x1.add (x3.toNat * 1))).add 0) fun x7=>
  need (decide (0≤x3)) <|
  need (decide (x3 < (4:Int))) <|
  st1 (((x0.add (x3.toNat * 1))).add 0) (.int .u64 (bits .andNot .u64 x6 x7)) <|
  kn x0 x1 x2 (w64 (x3 + 1))) (
  kx0 x0 x2)
noncomputable def qk.u3.c:IC:=(.seq (.ops 2 (zb Tryz.f20 2)) (.seq (.cond (.tmp 7) .skip (.exit 0 [2, 4])) (.seq (.block 1 (.seq (.ops 3 (zb Tryz.f20 3)) (.drawn 4 (zb Tryz.f20 4) true [.op 0, .op 1, .op 2, .op 3, .op 4, .op 5, .op 6, .op 7, .op 8]))) (.cut [2, 3, 4, 6] (.ops 5 (zb Tryz.f20 5))))))
noncomputable def qk.u4.l (k:Nat) (kx0:Ad->Ad->M α):Nat->Ad->Ad->Ad->Int->M α
 | 0, _, _, _, _=>fail
 | j + 1, x0, x1, x2, x3=>
  qk.u3.f k x0 x1 x2 x3 (fun y0 y1 y2 y3=>qk.u4.l k kx0 j y0 y1 y2 y3) kx0
noncomputable abbrev qk.u4.f (k:Nat) (x0 x1 x2:Ad) (x3:Int) (kx0:Ad->Ad->M α):M α:=
 qk.u4.l k kx0 k x0 x1 x2 x3
noncomputable def qk.u4.c:IC:=.loop [2, 3, 4, 6] qk.u3.c
noncomputable abbrev qk.u5.f (k:Nat) (x0 x1 x2:Ad) (x3:Int) (kn:Ad->Ad->M α):M α:=
 qk.u4.f k x0 x1 x2 x3 (fun y0 y1=>kn y0 y1)
noncomputable def qk.u5.c:IC:=.block 0 qk.u4.c
noncomputable abbrev qk.u6.f (k:Nat) (x0 x1 x2:Ad) (kn:Ad->Ad->M α):M α:=
 qk.u2.f k x0 x1 x2 (fun y0 y1 y2 y3=>qk.u5.f k y0 y1 y2 y3 kn)
noncomputable def qk.u6.c:IC:=qk.u2.c qk.u5.c
noncomputable def qk.u7.f (k:Nat) (x0 x1:Ad) (kr:Ad->M α):M α:=
 ldI .u64 (x0.add 0) fun x4=>
 ldI .u64 (x0.add 1) fun x5=>
 ldI .u64 (x0.add 2) fun x6=>
 ldI .u64 (x0.add 3) fun x7=>
 st1 (x1.add 0) (.int .u64 x4) <|
 st1 (x1.add 1) (.int .u64 x5) <|
 st1 (x1.add 2) (.int .u64 x6) <|
 st1 (x1.add 3) (.int .u64 x7) <|
 kr x1
noncomputable def qk.u7.c:IC:=(.seq (.ops 6 (zb Tryz.f20 6)) (.ret [4]))
noncomputable abbrev qk.u8.f (k:Nat) (x0 x1 x2:Ad) (kr:Ad->M α):M α:=
 qk.u6.f k x0 x1 x2 (fun y0 y1=>qk.u7.f k y0 y1 kr)
noncomputable def qk.u8.c:IC:=(.seq qk.u6.c qk.u7.c)
noncomputable abbrev qk.u9.f (k:Nat) (x0 x1:Int) (x2 x3:Int) (x4 x5:Int) (x6 x7:Int) (kr:Ad->M α):M α:=
 qk.u1.f k x0 x1 x2 x3 x4 x5 x6 x7 (fun y0 y1 y2=>qk.u8.f k y0 y1 y2 kr)
noncomputable def qk.u9.c:IC:=qk.u1.c qk.u8.c
noncomputable def qk.f:Nat->Int->Int->Int->Int->Int->Int->Int->Int->(Int->Int->Int->Int->M α)->M α
 | 0, _, _, _, _, _, _, _, _, _=>fail
 | k + 1, x0, x1, x2, x3, x4, x5, x6, x7, ret=>
  qk.u9.f k x0 x1 x2 x3 x4 x5 x6 x7 (fun y0=>
   ldI .u64 (y0.add 0) fun o501=>
   ldI .u64 (y0.add 1) fun o502=>
   ldI .u64 (y0.add 2) fun o503=>
   ldI .u64 (y0.add 3) fun o504=>
   ret o501 o502 o503 o504)
noncomputable def qs.u1.f (k:Nat) (x0:Int) (x1:Sl) (x2:Ad) (kn:Int->Ad->Sl->Int->Int->M α):M α:=
 kn x0 x2 x1 (x1.len:Int) 0
noncomputable def qs.u1.c (R:IC):IC:=(.seq (.cut [0, 2, 7, 8, 9] (.ops 0 (zb Tryz.f46 0))) R)
noncomputable def qs.u2.f (k:Nat) (x0:Int) (x1:Ad) (x2:Sl) (x3 x4:Int) (kn:Int->Ad->Sl->Int->Int->M α) (kx0:M α):M α:=
 cond (decide (x4 < x3)) (
  idxSl x2 x4 1 fun a7=>
  ldI .i64 (a7.add 0) fun x8=>
  cond (decide (0≤x8)) (
   need (decide (0≤x0)) <|
   need (decide (x0 < (2:Int))) <|
   ldS (((x1.add (x0.toNat * 1))).add 0) fun x9=>
   idxSl x9 x4 1 fun a10=>
   st1 (a10.add 0) (.int .i64 x8) <|
   kn x0 x1 x2 x3 (w64 (x4 + 1))) (
   kn x0 x1 x2 x3 (w64 (x4 + 1)))) (
  kx0)
noncomputable def qs.u2.c:IC:=(.seq (.ops 1 (zb Tryz.f46 1)) (.seq (.cond (.tmp 10) .skip (.exit 0 [])) (.seq (.block 1 (.seq (.ops 2 (zb Tryz.f46 2)) (.seq (.ops 3 (zb Tryz.f46 3)) (.cond (.tmp 15) (.ops 4 (zb Tryz.f46 4)) .skip)))) (.cut [0, 2, 7, 8, 9] (.ops 5 (zb Tryz.f46 5))))))
noncomputable def qs.u3.l (k:Nat) (kx0:M α):Nat->Int->Ad->Sl->Int->Int->M α
 | 0, _, _, _, _, _=>fail
 | j + 1, x0, x1, x2, x3, x4=>
  qs.u2.f k x0 x1 x2 x3 x4 (fun y0 y1 y2 y3 y4=>qs.u3.l k kx0 j y0 y1 y2 y3 y4) kx0
noncomputable abbrev qs.u3.f (k:Nat) (x0:Int) (x1:Ad) (x2:Sl) (x3 x4:Int) (kx0:M α):M α:=
 qs.u3.l k kx0 k x0 x1 x2 x3 x4
noncomputable def qs.u3.c:IC:=.loop [0, 2, 7, 8, 9] qs.u2.c
noncomputable abbrev qs.u4.f (k:Nat) (x0:Int) (x1:Ad) (x2:Sl) (x3 x4:Int) (kn:M α):M α:=
 qs.u3.f k x0 x1 x2 x3 x4 (kn)
noncomputable def qs.u4.c:IC:=.block 0 qs.u3.c
noncomputable abbrev qs.u5.f (k:Nat) (x0:Int) (x1:Sl) (x2:Ad) (kn:M α):M α:=
 qs.u1.f k x0 x1 x2 (fun y0 y1 y2 y3 y4=>qs.u4.f k y0 y1 y2 y3 y4 kn)
noncomputable def qs.u5.c:IC:=qs.u1.c qs.u4.c
noncomputable def qs.f:Nat->Int->Sl->Ad->(M α)->M α
 | 0, _, _, _, _=>fail
 | k + 1, x0, x1, x2, ret=>
  qs.u5.f k x0 x1 x2 (ret)
noncomputable def ql.u1.f (k:Nat) (x0 x1:Int) (x2 x3:Int) (x4 x5:Int) (x6 x7:Int) (kn:Ad->Ad->Ad->M α):M α:=
 new [.int .u64 x0, .int .u64 x1, .int .u64 x2, .int .u64 x3] fun s10=>
 new [.int .u64 x4, .int .u64 x5, .int .u64 x6, .int .u64 x7] fun t11=>
 new [.int .u64 0, .int .u64 0, .int .u64 0, .int .u64 0] fun x12=>
 kn s10 t11 x12
noncomputable def ql.u1.c (R:IC):IC:=(.seq (.cut [2, 3, 4] (.ops 0 (zb Tryz.f53 0))) R)
noncomputable def ql.u2.f (k:Nat) (x0 x1 x2:Ad) (kn:Ad->Ad->Ad->Int->M α):M α:=
 kn x0 x1 x2 0
noncomputable def ql.u2.c (R:IC):IC:=(.seq (.cut [2, 3, 4, 6] (.ops 1 (zb Tryz.f53 1))) R)
noncomputable def ql.u3.f (k:Nat) (x0 x1 x2:Ad) (x3:Int) (kn:Ad->Ad->Ad->Int->M α) (kx0:Ad->Ad->M α):M α:=
 cond (decide (x3 < 4)) (
  need (decide (0≤x3)) <|
  need (decide (x3 < (4:Int))) <|
  ldI .u64 (((x0.add (x3.toNat * 1))).add 0) fun x6=>
  need (decide (0≤x3)) <|
  need (decide (x3 < (4:Int))) <|
  ldI .u64 (((x1.add (x3.toNat * 1))).add 0) fun x7=>
  need (decide (0≤x3)) <|
  need (decide (x3 < (4:Int))) <|
  st1 (((x0.add (x3.toNat * 1))).add 0) (.int .u64 (bits .or .u64 x6 x7)) <|
  kn x0 x1 x2 (w64 (x3 + 1))) (
  kx0 x0 x2)
noncomputable def ql.u3.c:IC:=(.seq (.ops 2 (zb Tryz.f53 2)) (.seq (.cond (.tmp 7) .skip (.exit 0 [2, 4])) (.seq (.block 1 (.seq (.ops 3 (zb Tryz.f53 3)) (.drawn 4 (zb Tryz.f53 4) true [.op 0, .op 1, .op 2, .op 3, .op 4, .op 5, .op 6, .op 7, .op 8]))) (.cut [2, 3, 4, 6] (.ops 5 (zb Tryz.f53 5))))))
noncomputable def ql.u4.l (k:Nat) (kx0:Ad->Ad->M α):Nat->Ad->Ad->Ad->Int->M α
 | 0, _, _, _, _=>fail
 | j + 1, x0, x1, x2, x3=>
  ql.u3.f k x0 x1 x2 x3 (fun y0 y1 y2 y3=>ql.u4.l k kx0 j y0 y1 y2 y3) kx0
noncomputable abbrev ql.u4.f (k:Nat) (x0 x1 x2:Ad) (x3:Int) (kx0:Ad->Ad->M α):M α:=
 ql.u4.l k kx0 k x0 x1 x2 x3
noncomputable def ql.u4.c:IC:=.loop [2, 3, 4, 6] ql.u3.c
noncomputable abbrev ql.u5.f (k:Nat) (x0 x1 x2:Ad) (x3:Int) (kn:Ad->Ad->M α):M α:=
 ql.u4.f k x0 x1 x2 x3 (fun y0 y1=>kn y0 y1)
noncomputable def ql.u5.c:IC:=.block 0 ql.u4.c
noncomputable abbrev ql.u6.f (k:Nat) (x0 x1 x2:Ad) (kn:Ad->Ad->M α):M α:=
 ql.u2.f k x0 x1 x2 (fun y0 y1 y2 y3=>ql.u5.f k y0 y1 y2 y3 kn)
noncomputable def ql.u6.c:IC:=ql.u2.c ql.u5.c
noncomputable def ql.u7.f (k:Nat) (x0 x1:Ad) (kr:Ad->M α):M α:=
 ldI .u64 (x0.add 0) fun x4=>
 ldI .u64 (x0.add 1) fun x5=>
 ldI .u64 (x0.add 2) fun x6=>
 ldI .u64 (x0.add 3) fun x7=>
 st1 (x1.add 0) (.int .u64 x4) <|
 st1 (x1.add 1) (.int .u64 x5) <|
 st1 (x1.add 2) (.int .u64 x6) <|
 st1 (x1.add 3) (.int .u64 x7) <|
 kr x1
noncomputable def ql.u7.c:IC:=(.seq (.ops 6 (zb Tryz.f53 6)) (.ret [4]))
noncomputable abbrev ql.u8.f (k:Nat) (x0 x1 x2:Ad) (kr:Ad->M α):M α:=
 ql.u6.f k x0 x1 x2 (fun y0 y1=>ql.u7.f k y0 y1 kr)
noncomputable def ql.u8.c:IC:=(.seq ql.u6.c ql.u7.c)
noncomputable abbrev ql.u9.f (k:Nat) (x0 x1:Int) (x2 x3:Int) (x4 x5:Int) (x6 x7:Int) (kr:Ad->M α):M α:=
 ql.u1.f k x0 x1 x2 x3 x4 x5 x6 x7 (fun y0 y1 y2=>ql.u8.f k y0 y1 y2 kr)
noncomputable def ql.u9.c:IC:=ql.u1.c ql.u8.c
noncomputable def ql.f:Nat->Int->Int->Int->Int->Int->Int->Int->Int->(Int->Int->Int->Int->M α)->M α
 | 0, _, _, _, _, _, _, _, _, _=>fail
 | k + 1, x0, x1, x2, x3, x4, x5, x6, x7, ret=>
  ql.u9.f k x0 x1 x2 x3 x4 x5 x6 x7 (fun y0=>
   ldI .u64 (y0.add 0) fun o501=>
   ldI .u64 (y0.add 1) fun o502=>
   ldI .u64 (y0.add 2) fun o503=>
   ldI .u64 (y0.add 3) fun o504=>
   ret o501 o502 o503 o504)
noncomputable def qd.u1.f (k:Nat) (rr47:Int->Int->Int->Int->Int->Ad->Ad->Ad->Ad->Ad->Ad->(Int->Int->Int->Int->Int->Int->Int->Int->M α)->M α) (x0 x1:Int) (x2 x3 x4:Int) (x5 x6:Ad) (x7 x8:Ad) (x9 x10:Ad) (kn:Int->Ad->Ad->Ad->Ad->Ad->Ad->Ad->Ad->Int->Sl->Ad->M α) (kr:Ad->M α):M α:=
 new [.int .u64 x0, .int .u64 x1, .int .u64 x2, .int .u64 x3] fun in13=>
 new [.int .u64 0, .int .u64 0, .int .u64 0, .int .u64 0, .int .u64 0, .int .u64 0, .int .u64 0, .int .u64 0] fun x14=>
 ldI .i64 (x5.add 0) fun x15=>
 st1 (x5.add 0) (.int .i64 (if x4 > x15 then x4 else x15)) <|
 ldI .u64 (in13.add 0) fun x16=>
 ldI .u64 (in13.add 1) fun x17=>
 ldI .u64 (in13.add 2) fun x18=>
 ldI .u64 (in13.add 3) fun x19=>
 cond ((decide (x16 = 0) && (decide (x17 = 0) && (decide (x18 = 0) && (decide (x19 = 0) && true))))) (
  st1 (x14.add 0) (.int .u64 0) <|
  st1 (x14.add 1) (.int .u64 0) <|
  st1 (x14.add 2) (.int .u64 0) <|
  st1 (x14.add 3) (.int .u64 0) <|
  st1 (x14.add 4) (.int .u64 0) <|
  st1 (x14.add 5) (.int .u64 0) <|
  st1 (x14.add 6) (.int .u64 0) <|
  st1 (x14.add 7) (.int .u64 0) <|
  kr x14) (
  ldS (x6.add 0) fun x20=>
  ldS (x6.add 1) fun x21=>
  ldS (x6.add 2) fun x22=>
  ldI .u64 (in13.add 0) fun x23=>
  ldI .u64 (in13.add 1) fun x24=>
  ldI .u64 (in13.add 2) fun x25=>
  ldI .u64 (in13.add 3) fun x26=>
  qg.f k x20 x21 x22 x23 x24 x25 x26 fun r27 r28 r29 r30=>
  new [.int .u64 0, .int .u64 0, .int .u64 0, .int .u64 0] fun most31=>
  st1 (most31.add 0) (.int .u64 r27) <|
  st1 (most31.add 1) (.int .u64 r28) <|
  st1 (most31.add 2) (.int .u64 r29) <|
  st1 (most31.add 3) (.int .u64 r30) <|
  ldS ((x6.add 1).add 0) fun x32=>
  ldI .u64 (most31.add 0) fun x33=>
  ldI .u64 (most31.add 1) fun x34=>
  ldI .u64 (most31.add 2) fun x35=>
  ldI .u64 (most31.add 3) fun x36=>
  qp.f k x33 x34 x35 x36 fun r37=>
  ldS ((x6.add 1).add 0) fun y38=>
  need (decide (x32 = y38)) <|
  idxSl x32 r37 1 fun a39=>
  ldI .i64 (a39.add 0) fun x40=>
  ldS (x6.add 0) fun x41=>
  ldS (x6.add 1) fun x42=>
  ldS (x6.add 2) fun x43=>
  ldI .u64 (in13.add 0) fun x44=>
  ldI .u64 (in13.add 1) fun x45=>
  ldI .u64 (in13.add 2) fun x46=>
  ldI .u64 (in13.add 3) fun x47=>
  ldI .u64 (most31.add 0) fun x48=>
  ldI .u64 (most31.add 1) fun x49=>
  ldI .u64 (most31.add 2) fun x50=>
  ldI .u64 (most31.add 3) fun x51=>
  qa.f k x41 x42 x43 x44 x45 x46 x47 (Int.tmod x40 2) x48 x49 x50 x51 fun r52 r53 r54 r55 r56=>
  new [.int .u64 0, .int .u64 0, .int .u64 0, .int .u64 0] fun set57=>
  st1 (set57.add 0) (.int .u64 r52) <|
  st1 (set57.add 1) (.int .u64 r53) <|
  st1 (set57.add 2) (.int .u64 r54) <|
  st1 (set57.add 3) (.int .u64 r55) <|
  ld (x7.add 0) fun x58=>
  ldI .u64 (in13.add 0) fun x59=>
  ldI .u64 (in13.add 1) fun x60=>
  ldI .u64 (in13.add 2) fun x61=>
  ldI .u64 (in13.add 3) fun x62=>
  ldI .u64 (set57.add 0) fun x63=>
  ldI .u64 (set57.add 1) fun x64=>
  ldI .u64 (set57.add 2) fun x65=>
  ldI .u64 (set57.add 3) fun x66=>
  new [.int .u64 0, .int .u64 0, .int .u64 0, .int .u64 0, .int .u64 0, .int .u64 0, .int .u64 0, .int .u64 0] fun rest67=>
  qk.f k x59 x60 x61 x62 x63 x64 x65 x66 fun r68 r69 r70 r71=>
  zdg x58 (
   zbc x58 fun f72 ls73 ls74=>
   cond (Nat.beq f72 47) (
    jq ls73 <|
    zf ls74 fun v75 ls76=>
    zf ls76 fun v77 ls78=>
    zf ls78 fun v79 ls80=>
    zf ls80 fun v81 ls82=>
    zf ls82 fun v83 ls84=>
    zf ls84 fun v85 ls86=>
    jq ls86 <|
    asP v75 fun x87=>
    asSome x87 fun p88=>
    asP v77 fun x89=>
    asSome x89 fun p90=>
    asP v79 fun x91=>
    asSome x91 fun p92=>
    asP v81 fun x93=>
    asSome x93 fun p94=>
    asP v83 fun x95=>
    asSome x95 fun p96=>
    asP v85 fun x97=>
    asSome x97 fun p98=>
    rr47 r68 r69 r70 r71 (w64 (x4 + 1)) p88 p90 p92 p94 p96 p98 fun r99 r100 r101 r102 r103 r104 r105 r106=>
    st1 (rest67.add 0) (.int .u64 r99) <|
    st1 (rest67.add 1) (.int .u64 r100) <|
    st1 (rest67.add 2) (.int .u64 r101) <|
    st1 (rest67.add 3) (.int .u64 r102) <|
    st1 (rest67.add 4) (.int .u64 r103) <|
    st1 (rest67.add 5) (.int .u64 r104) <|
    st1 (rest67.add 6) (.int .u64 r105) <|
    st1 (rest67.add 7) (.int .u64 r106) <|
    kn x4 x6 x7 x8 x9 x10 in13 x14 most31 (Int.tmod x40 2) r56 rest67) (
    fail)) (
   ld (x7.add 0) fun x107=>
   zfo (V.cells x58) [x107] <|
   zbc x58 fun f108 ls109 ls110=>
   cond (Nat.beq f108 47) (
    jq ls109 <|
    zf ls110 fun v111 ls112=>
    zf ls112 fun v113 ls114=>
    zf ls114 fun v115 ls116=>
    zf ls116 fun v117 ls118=>
    zf ls118 fun v119 ls120=>
    zf ls120 fun v121 ls122=>
    jq ls122 <|
    asP v111 fun x123=>
    asSome x123 fun p124=>
    asP v113 fun x125=>
    asSome x125 fun p126=>
    asP v115 fun x127=>
    asSome x127 fun p128=>
    asP v117 fun x129=>
    asSome x129 fun p130=>
    asP v119 fun x131=>
    asSome x131 fun p132=>
    asP v121 fun x133=>
    asSome x133 fun p134=>
    rr47 r68 r69 r70 r71 (w64 (x4 + 1)) p124 p126 p128 p130 p132 p134 fun r135 r136 r137 r138 r139 r140 r141 r142=>
    st1 (rest67.add 0) (.int .u64 r135) <|
    st1 (rest67.add 1) (.int .u64 r136) <|
    st1 (rest67.add 2) (.int .u64 r137) <|
    st1 (rest67.add 3) (.int .u64 r138) <|
    st1 (rest67.add 4) (.int .u64 r139) <|
    st1 (rest67.add 5) (.int .u64 r140) <|
    st1 (rest67.add 6) (.int .u64 r141) <|
    st1 (rest67.add 7) (.int .u64 r142) <|
    kn x4 x6 x7 x8 x9 x10 in13 x14 most31 (Int.tmod x40 2) r56 rest67) (
    fail)))
noncomputable def qd.u1.c (R:IC):IC:=(.seq (.ops 0 (zb Tryz.f47 0)) (.seq (.ops 1 (zb Tryz.f47 1)) (.seq (.seq (.ops 2 (zb Tryz.f47 2)) (.cond (.tmp 28) (.seq (.ops 3 (zb Tryz.f47 3)) (.ret [10])) .skip)) (.seq (.ops 4 (zb Tryz.f47 4)) (.seq (.drawn 5 (zb Tryz.f47 5) true [.op 0, .op 1, .op 2, .op 3, .look 1, .op 4, .op 5, .op 6, .op 7]) (.seq (.ops 6 (zb Tryz.f47 6)) (.seq (.cut [1, 3, 4, 5, 6, 7, 8, 10, 11, 12, 14, 15] (.drawn 7 (zb Tryz.f47 7) true [.op 0, .op 1, .op 2, .op 4, .op 5, .op 7, .np 3, .look 0, .expect 48 [(47, 0, 6)], .np 6, .op 8])) R)))))))
noncomputable def qd.u2.f (k:Nat) (x0:Int) (x1 x2:Ad) (x3 x4:Ad) (x5 x6:Ad) (x7 x8:Ad) (x9:Int) (x10:Sl) (x11:Ad) (kn:Int->Ad->Ad->Ad->Ad->Ad->Ad->Ad->Ad->Int->Sl->Ad->M α):M α:=
 need (decide (0≤w64 (1 - x9))) <|
 need (decide (w64 (1 - x9) < (2:Int))) <|
 ldI .u64 (((x11.add ((w64 (1 - x9)).toNat * 4))).add 0) fun x14=>
 ldI .u64 (((x11.add ((w64 (1 - x9)).toNat * 4))).add 1) fun x15=>
 ldI .u64 (((x11.add ((w64 (1 - x9)).toNat * 4))).add 2) fun x16=>
 ldI .u64 (((x11.add ((w64 (1 - x9)).toNat * 4))).add 3) fun x17=>
 new [.int .u64 0, .int .u64 0, .int .u64 0, .int .u64 0] fun lost18=>
 st1 (lost18.add 0) (.int .u64 x14) <|
 st1 (lost18.add 1) (.int .u64 x15) <|
 st1 (lost18.add 2) (.int .u64 x16) <|
 st1 (lost18.add 3) (.int .u64 x17) <|
 kn x0 x1 x2 x3 x4 x5 x6 x7 x8 x9 x10 lost18
noncomputable def qd.u2.c (R:IC):IC:=(.seq (.cut [1, 3, 4, 5, 6, 7, 8, 10, 11, 12, 14, 16] (.ops 8 (zb Tryz.f47 8))) R)
noncomputable def qd.u3.f (k:Nat) (x0:Int) (x1 x2:Ad) (x3 x4:Ad) (x5 x6:Ad) (x7 x8:Ad) (x9:Int) (x10:Sl) (x11:Ad) (kn:Int->Ad->Ad->Ad->Ad->Ad->Ad->Ad->Ad->Int->Sl->Ad->Bool->M α):M α:=
 ldI .u64 (x11.add 0) fun x14=>
 ldI .u64 (x11.add 1) fun x15=>
 ldI .u64 (x11.add 2) fun x16=>
 ldI .u64 (x11.add 3) fun x17=>
 kn x0 x1 x2 x3 x4 x5 x6 x7 x8 x9 x10 x11 ((decide (x14 = 0) && (decide (x15 = 0) && (decide (x16 = 0) && (decide (x17 = 0) && true)))))
noncomputable def qd.u3.c (R:IC):IC:=(.seq (.cut [1, 3, 4, 5, 6, 7, 8, 10, 11, 12, 14, 16, 61] (.ops 9 (zb Tryz.f47 9))) R)
noncomputable def qd.u4.f (k:Nat) (x0:Int) (x1 x2:Ad) (x3 x4:Ad) (x5 x6:Ad) (x7 x8:Ad) (x9:Int) (x10:Sl) (x11:Ad) (x12:Bool) (kn:Ad->Ad->Ad->Ad->Ad->Int->M α):M α:=
 ld (x3.add 0) fun x15=>
 zbc x15 fun f16 ls17 ls18=>
 cond (Nat.beq f16 46) (
  jq ls17 <|
  zf ls18 fun v19 ls20=>
  jq ls20 <|
  asP v19 fun x21=>
  asSome x21 fun p22=>
  qs.f k x9 x10 p22 (
   kn x1 x4 x6 x7 x8 x9)) (
  fail)
noncomputable def qd.u4.c (R:IC):IC:=(.seq (.cut [3, 6, 8, 10, 11, 12] (.drawn 10 (zb Tryz.f47 10) false [.op 0, .op 1, .op 2, .expect 62 [(46, 0, 1)], .op 3])) R)
noncomputable def qd.u5.f (k:Nat) (x0 x1:Ad) (x2 x3 x4:Ad) (x5:Int) (kn:Ad->Ad->Ad->Ad->Int->Sl->Int->Int->M α):M α:=
 ldI .u64 (x4.add 0) fun x8=>
 ldI .u64 (x4.add 1) fun x9=>
 ldI .u64 (x4.add 2) fun x10=>
 ldI .u64 (x4.add 3) fun x11=>
 qf.f k x8 x9 x10 x11 fun r12=>
 kn x0 x1 x2 x3 x5 r12 (r12.len:Int) 0
noncomputable def qd.u5.c (R:IC):IC:=(.seq (.cut [3, 6, 8, 10, 12, 67, 68, 69] (.ops 11 (zb Tryz.f47 11))) R)
noncomputable def qd.u6.f (k:Nat) (x0 x1:Ad) (x2 x3:Ad) (x4:Int) (x5:Sl) (x6 x7:Int) (kn:Ad->Ad->Ad->Ad->Int->Sl->Int->Int->M α) (kx0:Ad->Ad->Int->M α):M α:=
 cond (decide (x7 < x6)) (
  idxSl x5 x7 1 fun a10=>
  ldI .i64 (a10.add 0) fun x11=>
  ldS ((x0.add 0).add 0) fun x12=>
  idxSl x12 x11 1 fun a13=>
  ldI .i64 (a13.add 0) fun x14=>
  cond (decide (x14 = x4)) (
   need (decide (0≤x4)) <|
   need (decide (x4 < (2:Int))) <|
   ldS (((x1.add (x4.toNat * 1))).add 0) fun x15=>
   ldS ((x0.add 2).add 0) fun x16=>
   idxSl x16 x11 1 fun a17=>
   ldS (a17.add 0) fun x18=>
   ldI .u64 (x2.add 0) fun x19=>
   ldI .u64 (x2.add 1) fun x20=>
   ldI .u64 (x2.add 2) fun x21=>
   ldI .u64 (x2.add 3) fun x22=>
   qm.f k x18 fun r23 r24 r25 r26=>
   ldS (((x1.add (x4.toNat * 1))).add 0) fun y27=>
   need (decide (x15 = y27)) <|
   ldI .u64 (x2.add 0) fun y28=>
   ldI .u64 (x2.add 1) fun y29=>
   ldI .u64 (x2.add 2) fun y30=>
   ldI .u64 (x2.add 3) fun y31=>
   need (decide (x19 = y28)) <|
   need (decide (x20 = y29)) <|
   need (decide (x21 = y30)) <|
   need (decide (x22 = y31)) <|
   qj.f k r23 r24 r25 r26 x19 x20 x21 x22 fun r32 r33 r34 r35=>
   ldS (((x1.add (x4.toNat * 1))).add 0) fun y36=>
   need (decide (x15 = y36)) <|
   qp.f k r32 r33 r34 r35 fun r37=>
   ldS (((x1.add (x4.toNat * 1))).add 0) fun y38=>
   need (decide (x15 = y38)) <|
   idxSl x15 x11 1 fun a39=>
   st1 (a39.add 0) (.int .i64 r37) <|
   kn x0 x1 x2 x3 x4 x5 x6 (w64 (x7 + 1))) (
   kn x0 x1 x2 x3 x4 x5 x6 (w64 (x7 + 1)))) (
  kx0 x2 x3 x4)
noncomputable def qd.u6.c:IC:=(.seq (.ops 12 (zb Tryz.f47 12)) (.seq (.cond (.tmp 70) .skip (.exit 0 [8, 10, 12])) (.seq (.block 1 (.seq (.ops 13 (zb Tryz.f47 13)) (.seq (.ops 14 (zb Tryz.f47 14)) (.cond (.tmp 79) (.drawn 15 (zb Tryz.f47 15) true [.op 0, .op 1, .op 2, .op 3, .op 4, .op 5, .op 6, .op 7, .op 8, .op 10, .op 9, .look 2, .look 10, .op 11, .look 2, .op 12, .look 2, .op 13, .op 14]) .skip)))) (.cut [3, 6, 8, 10, 12, 67, 68, 69] (.ops 16 (zb Tryz.f47 16))))))
noncomputable def qd.u7.l (k:Nat) (kx0:Ad->Ad->Int->M α):Nat->Ad->Ad->Ad->Ad->Int->Sl->Int->Int->M α
 | 0, _, _, _, _, _, _, _, _=>fail
 | j + 1, x0, x1, x2, x3, x4, x5, x6, x7=>
  qd.u6.f k x0 x1 x2 x3 x4 x5 x6 x7 (fun y0 y1 y2 y3 y4 y5 y6 y7=>qd.u7.l k kx0 j y0 y1 y2 y3 y4 y5 y6 y7) kx0
noncomputable abbrev qd.u7.f (k:Nat) (x0 x1:Ad) (x2 x3:Ad) (x4:Int) (x5:Sl) (x6 x7:Int) (kx0:Ad->Ad->Int->M α):M α:=
 qd.u7.l k kx0 k x0 x1 x2 x3 x4 x5 x6 x7
noncomputable def qd.u7.c:IC:=.loop [3, 6, 8, 10, 12, 67, 68, 69] qd.u6.c
noncomputable abbrev qd.u8.f (k:Nat) (x0 x1:Ad) (x2 x3:Ad) (x4:Int) (x5:Sl) (x6 x7:Int) (kn:Ad->Ad->Int->M α):M α:=
 qd.u7.f k x0 x1 x2 x3 x4 x5 x6 x7 (fun y0 y1 y2=>kn y0 y1 y2)
noncomputable def qd.u8.c:IC:=.block 0 qd.u7.c
noncomputable abbrev qd.u9.f (k:Nat) (x0 x1:Ad) (x2 x3 x4:Ad) (x5:Int) (kn:Ad->Ad->Int->M α):M α:=
 qd.u5.f k x0 x1 x2 x3 x4 x5 (fun y0 y1 y2 y3 y4 y5 y6 y7=>qd.u8.f k y0 y1 y2 y3 y4 y5 y6 y7 kn)
noncomputable def qd.u9.c:IC:=qd.u5.c qd.u8.c
noncomputable def qd.u10.f (k:Nat) (x0 x1:Ad) (x2:Int) (kr:Ad->M α):M α:=
 new [.int .u64 0, .int .u64 0, .int .u64 0, .int .u64 0, .int .u64 0, .int .u64 0, .int .u64 0, .int .u64 0] fun s5=>
 ldI .u64 (x0.add 0) fun x6=>
 ldI .u64 (x0.add 1) fun x7=>
 ldI .u64 (x0.add 2) fun x8=>
 ldI .u64 (x0.add 3) fun x9=>
 need (decide (0≤x2)) <|
 need (decide (x2 < (2:Int))) <|
 st1 (((s5.add (x2.toNat * 4))).add 0) (.int .u64 x6) <|
 st1 (((s5.add (x2.toNat * 4))).add 1) (.int .u64 x7) <|
 st1 (((s5.add (x2.toNat * 4))).add 2) (.int .u64 x8) <|
 st1 (((s5.add (x2.toNat * 4))).add 3) (.int .u64 x9) <|
 ldI .u64 (s5.add 0) fun x10=>
 ldI .u64 (s5.add 1) fun x11=>
 ldI .u64 (s5.add 2) fun x12=>
 ldI .u64 (s5.add 3) fun x13=>
 ldI .u64 (s5.add 4) fun x14=>
 ldI .u64 (s5.add 5) fun x15=>
 ldI .u64 (s5.add 6) fun x16=>
 ldI .u64 (s5.add 7) fun x17=>
 st1 (x1.add 0) (.int .u64 x10) <|
 st1 (x1.add 1) (.int .u64 x11) <|
 st1 (x1.add 2) (.int .u64 x12) <|
 st1 (x1.add 3) (.int .u64 x13) <|
 st1 (x1.add 4) (.int .u64 x14) <|
 st1 (x1.add 5) (.int .u64 x15) <|
 st1 (x1.add 6) (.int .u64 x16) <|
 st1 (x1.add 7) (.int .u64 x17) <|
 kr x1
noncomputable def qd.u10.c:IC:=(.seq (.ops 17 (zb Tryz.f47 17)) (.seq (.ops 18 (zb Tryz.f47 18)) (.seq (.ops 19 (zb Tryz.f47 19)) (.ret [10]))))
noncomputable abbrev qd.u11.f (k:Nat) (x0 x1:Ad) (x2 x3 x4:Ad) (x5:Int) (kr:Ad->M α):M α:=
 qd.u9.f k x0 x1 x2 x3 x4 x5 (fun y0 y1 y2=>qd.u10.f k y0 y1 y2 kr)
noncomputable def qd.u11.c:IC:=(.seq qd.u9.c qd.u10.c)
noncomputable abbrev qd.u12.f (k:Nat) (x0:Int) (x1 x2:Ad) (x3 x4:Ad) (x5 x6:Ad) (x7 x8:Ad) (x9:Int) (x10:Sl) (x11:Ad) (x12:Bool) (kr:Ad->M α):M α:=
 qd.u4.f k x0 x1 x2 x3 x4 x5 x6 x7 x8 x9 x10 x11 x12 (fun y0 y1 y2 y3 y4 y5=>qd.u11.f k y0 y1 y2 y3 y4 y5 kr)
noncomputable def qd.u12.c:IC:=qd.u4.c qd.u11.c
noncomputable def qd.u13.f (k:Nat) (x0:Int) (x1 x2:Ad) (x3 x4:Ad) (x5 x6:Ad) (x7 x8:Ad) (x9:Int) (x10:Sl) (x11:Ad) (x12:Bool) (kn:Int->Ad->Ad->Ad->Ad->Ad->Ad->Ad->Int->Ad->M α):M α:=
 kn x0 x1 x2 x3 x4 x5 x6 x7 x9 x11
noncomputable def qd.u13.c:IC:=(.cut [1, 3, 4, 5, 6, 7, 8, 10, 12, 16] .skip)
noncomputable abbrev qd.u14.f (k:Nat) (x0:Int) (x1 x2:Ad) (x3 x4:Ad) (x5 x6:Ad) (x7 x8:Ad) (x9:Int) (x10:Sl) (x11:Ad) (x12:Bool) (kn:Int->Ad->Ad->Ad->Ad->Ad->Ad->Ad->Int->Ad->M α) (kr:Ad->M α):M α:=
 cond x12 (
  qd.u12.f k x0 x1 x2 x3 x4 x5 x6 x7 x8 x9 x10 x11 x12 kr) (
  qd.u13.f k x0 x1 x2 x3 x4 x5 x6 x7 x8 x9 x10 x11 x12 kn)
noncomputable def qd.u14.c:IC:=.cond (.tmp 61) qd.u12.c qd.u13.c
noncomputable abbrev qd.u15.f (k:Nat) (x0:Int) (x1 x2:Ad) (x3 x4:Ad) (x5 x6:Ad) (x7 x8:Ad) (x9:Int) (x10:Sl) (x11:Ad) (kn:Int->Ad->Ad->Ad->Ad->Ad->Ad->Ad->Int->Ad->M α) (kr:Ad->M α):M α:=
 qd.u3.f k x0 x1 x2 x3 x4 x5 x6 x7 x8 x9 x10 x11 (fun y0 y1 y2 y3 y4 y5 y6 y7 y8 y9 y10 y11 y12=>qd.u14.f k y0 y1 y2 y3 y4 y5 y6 y7 y8 y9 y10 y11 y12 kn kr)
noncomputable def qd.u15.c:IC:=qd.u3.c qd.u14.c
noncomputable def qd.u16.f (k:Nat) (x0:Int) (x1 x2:Ad) (x3 x4:Ad) (x5 x6 x7:Ad) (x8:Int) (x9:Ad) (kn:Int->Ad->Ad->Ad->Ad->Ad->Int->Ad->Ad->M α):M α:=
 ldS (x1.add 0) fun x12=>
 ldS (x1.add 1) fun x13=>
 ldS (x1.add 2) fun x14=>
 ldI .u64 (x6.add 0) fun x15=>
 ldI .u64 (x6.add 1) fun x16=>
 ldI .u64 (x6.add 2) fun x17=>
 ldI .u64 (x6.add 3) fun x18=>
 ldI .u64 (x9.add 0) fun x19=>
 ldI .u64 (x9.add 1) fun x20=>
 ldI .u64 (x9.add 2) fun x21=>
 ldI .u64 (x9.add 3) fun x22=>
 qa.f k x12 x13 x14 x15 x16 x17 x18 (w64 (1 - x8)) x19 x20 x21 x22 fun r23 r24 r25 r26 r27=>
 new [.int .u64 0, .int .u64 0, .int .u64 0, .int .u64 0] fun gone28=>
 st1 (gone28.add 0) (.int .u64 r23) <|
 st1 (gone28.add 1) (.int .u64 r24) <|
 st1 (gone28.add 2) (.int .u64 r25) <|
 st1 (gone28.add 3) (.int .u64 r26) <|
 ld (x3.add 0) fun x29=>
 zbc x29 fun f30 ls31 ls32=>
 cond (Nat.beq f30 46) (
  jq ls31 <|
  zf ls32 fun v33 ls34=>
  jq ls34 <|
  asP v33 fun x35=>
  asSome x35 fun p36=>
  qs.f k (w64 (1 - x8)) r27 p36 (
   kn x0 x2 x4 x5 x6 x7 x8 x9 gone28)) (
  fail)
noncomputable def qd.u16.c (R:IC):IC:=(.seq (.ops 20 (zb Tryz.f47 20)) (.seq (.cut [1, 4, 6, 7, 8, 10, 12, 16, 20] (.drawn 21 (zb Tryz.f47 21) false [.op 0, .op 1, .op 2, .op 3, .expect 108 [(46, 0, 1)], .op 4])) R))
noncomputable def qd.u17.f (k:Nat) (x0:Int) (x1 x2:Ad) (x3 x4 x5:Ad) (x6:Int) (x7 x8:Ad) (kn:Int->Ad->Ad->Ad->Ad->Int->Ad->Ad->Int->Int->M α):M α:=
 ldI .i64 (x3.add 0) fun x11=>
 kn x0 x1 x2 x4 x5 x6 x7 x8 x11 0
noncomputable def qd.u17.c (R:IC):IC:=(.seq (.cut [1, 4, 6, 8, 10, 12, 16, 20, 113, 114] (.ops 22 (zb Tryz.f47 22))) R)
noncomputable def qd.u18.f (k:Nat) (x0:Int) (x1 x2:Ad) (x3 x4:Ad) (x5:Int) (x6 x7:Ad) (x8 x9:Int) (kn:Int->Ad->Ad->Ad->Ad->Int->Ad->Ad->Int->Int->M α) (kx2:Int->Ad->Ad->Ad->Int->Ad->M α):M α:=
 cond (decide (x9 < x8)) (
  ldI .u64 (x7.add 0) fun x12=>
  ldI .u64 (x7.add 1) fun x13=>
  ldI .u64 (x7.add 2) fun x14=>
  ldI .u64 (x7.add 3) fun x15=>
  qw.f k x12 x13 x14 x15 x9 fun r16=>
  cond (r16) (
   need (decide (0≤x5)) <|
   need (decide (x5 < (2:Int))) <|
   ldS (((x2.add (x5.toNat * 1))).add 0) fun x17=>
   idxSl x17 x9 1 fun a18=>
   st1 (a18.add 0) (.int .i64 (-1)) <|
   kn x0 x1 x2 x3 x4 x5 x6 x7 x8 (w64 (x9 + 1))) (
   ldI .u64 (x3.add 0) fun x19=>
   ldI .u64 (x3.add 1) fun x20=>
   ldI .u64 (x3.add 2) fun x21=>
   ldI .u64 (x3.add 3) fun x22=>
   qw.f k x19 x20 x21 x22 x9 fun r23=>
   cond (r23) (
    ldI .u64 (x6.add 0) fun x24=>
    ldI .u64 (x6.add 1) fun x25=>
    ldI .u64 (x6.add 2) fun x26=>
    ldI .u64 (x6.add 3) fun x27=>
    qw.f k x24 x25 x26 x27 x9 fun r28=>
    cond (!r28) (
     need (decide (0≤x5)) <|
     need (decide (x5 < (2:Int))) <|
     ldS (((x2.add (x5.toNat * 1))).add 0) fun x29=>
     idxSl x29 x9 1 fun a30=>
     st1 (a30.add 0) (.int .i64 (-1)) <|
     kn x0 x1 x2 x3 x4 x5 x6 x7 x8 (w64 (x9 + 1))) (
     kn x0 x1 x2 x3 x4 x5 x6 x7 x8 (w64 (x9 + 1)))) (
    kn x0 x1 x2 x3 x4 x5 x6 x7 x8 (w64 (x9 + 1))))) (
  kx2 x0 x1 x3 x4 x5 x7)
noncomputable def qd.u18.c:IC:=(.seq (.ops 23 (zb Tryz.f47 23)) (.seq (.cond (.tmp 115) .skip (.exit 2 [1, 4, 8, 10, 12, 20])) (.seq (.block 3 (.seq (.ops 24 (zb Tryz.f47 24)) (.seq (.ops 25 (zb Tryz.f47 25)) (.cond (.tmp 130) (.ops 26 (zb Tryz.f47 26)) .skip)))) (.cut [1, 4, 6, 8, 10, 12, 16, 20, 113, 114] (.ops 27 (zb Tryz.f47 27))))))
noncomputable def qd.u19.l (k:Nat) (kx2:Int->Ad->Ad->Ad->Int->Ad->M α):Nat->Int->Ad->Ad->Ad->Ad->Int->Ad->Ad->Int->Int->M α
 | 0, _, _, _, _, _, _, _, _, _, _=>fail
 | j + 1, x0, x1, x2, x3, x4, x5, x6, x7, x8, x9=>
  qd.u18.f k x0 x1 x2 x3 x4 x5 x6 x7 x8 x9 (fun y0 y1 y2 y3 y4 y5 y6 y7 y8 y9=>qd.u19.l k kx2 j y0 y1 y2 y3 y4 y5 y6 y7 y8 y9) kx2
noncomputable abbrev qd.u19.f (k:Nat) (x0:Int) (x1 x2:Ad) (x3 x4:Ad) (x5:Int) (x6 x7:Ad) (x8 x9:Int) (kx2:Int->Ad->Ad->Ad->Int->Ad->M α):M α:=
 qd.u19.l k kx2 k x0 x1 x2 x3 x4 x5 x6 x7 x8 x9
noncomputable def qd.u19.c:IC:=.loop [1, 4, 6, 8, 10, 12, 16, 20, 113, 114] qd.u18.c
noncomputable abbrev qd.u20.f (k:Nat) (x0:Int) (x1 x2:Ad) (x3 x4:Ad) (x5:Int) (x6 x7:Ad) (x8 x9:Int) (kn:Int->Ad->Ad->Ad->Int->Ad->M α):M α:=
 qd.u19.f k x0 x1 x2 x3 x4 x5 x6 x7 x8 x9 (fun y0 y1 y2 y3 y4 y5=>kn y0 y1 y2 y3 y4 y5)
noncomputable def qd.u20.c:IC:=.block 2 qd.u19.c
noncomputable abbrev qd.u21.f (k:Nat) (x0:Int) (x1 x2:Ad) (x3 x4 x5:Ad) (x6:Int) (x7 x8:Ad) (kn:Int->Ad->Ad->Ad->Int->Ad->M α):M α:=
 qd.u17.f k x0 x1 x2 x3 x4 x5 x6 x7 x8 (fun y0 y1 y2 y3 y4 y5 y6 y7 y8 y9=>qd.u20.f k y0 y1 y2 y3 y4 y5 y6 y7 y8 y9 kn)
noncomputable def qd.u21.c:IC:=qd.u17.c qd.u20.c
noncomputable def qd.u22.f (k:Nat) (rr47:Int->Int->Int->Int->Int->Ad->Ad->Ad->Ad->Ad->Ad->(Int->Int->Int->Int->Int->Int->Int->Int->M α)->M α) (x0:Int) (x1 x2 x3:Ad) (x4:Int) (x5:Ad) (kr:Ad->M α):M α:=
 ld (x1.add 0) fun x8=>
 ldI .u64 (x2.add 0) fun x9=>
 ldI .u64 (x2.add 1) fun x10=>
 ldI .u64 (x2.add 2) fun x11=>
 ldI .u64 (x2.add 3) fun x12=>
 ldI .u64 (x5.add 0) fun x13=>
 ldI .u64 (x5.add 1) fun x14=>
 ldI .u64 (x5.add 2) fun x15=>
 ldI .u64 (x5.add 3) fun x16=>
 new [.int .u64 0, .int .u64 0, .int .u64 0, .int .u64 0, .int .u64 0, .int .u64 0, .int .u64 0, .int .u64 0] fun s17=>
 qk.f k x9 x10 x11 x12 x13 x14 x15 x16 fun r18 r19 r20 r21=>
 zdg x8 (
  zbc x8 fun f22 ls23 ls24=>
  cond (Nat.beq f22 47) (
   jq ls23 <|
   zf ls24 fun v25 ls26=>
   zf ls26 fun v27 ls28=>
   zf ls28 fun v29 ls30=>
   zf ls30 fun v31 ls32=>
   zf ls32 fun v33 ls34=>
   zf ls34 fun v35 ls36=>
   jq ls36 <|
   asP v25 fun x37=>
   asSome x37 fun p38=>
   asP v27 fun x39=>
   asSome x39 fun p40=>
   asP v29 fun x41=>
   asSome x41 fun p42=>
   asP v31 fun x43=>
   asSome x43 fun p44=>
   asP v33 fun x45=>
   asSome x45 fun p46=>
   asP v35 fun x47=>
   asSome x47 fun p48=>
   rr47 r18 r19 r20 r21 (w64 (x0 + 1)) p38 p40 p42 p44 p46 p48 fun r49 r50 r51 r52 r53 r54 r55 r56=>
   st1 (s17.add 0) (.int .u64 r49) <|
   st1 (s17.add 1) (.int .u64 r50) <|
   st1 (s17.add 2) (.int .u64 r51) <|
   st1 (s17.add 3) (.int .u64 r52) <|
   st1 (s17.add 4) (.int .u64 r53) <|
   st1 (s17.add 5) (.int .u64 r54) <|
   st1 (s17.add 6) (.int .u64 r55) <|
   st1 (s17.add 7) (.int .u64 r56) <|
   need (decide (0≤w64 (1 - x4))) <|
   need (decide (w64 (1 - x4) < (2:Int))) <|
   ldI .u64 (((s17.add ((w64 (1 - x4)).toNat * 4))).add 0) fun x57=>
   ldI .u64 (((s17.add ((w64 (1 - x4)).toNat * 4))).add 1) fun x58=>
   ldI .u64 (((s17.add ((w64 (1 - x4)).toNat * 4))).add 2) fun x59=>
   ldI .u64 (((s17.add ((w64 (1 - x4)).toNat * 4))).add 3) fun x60=>
   ldI .u64 (x5.add 0) fun x61=>
   ldI .u64 (x5.add 1) fun x62=>
   ldI .u64 (x5.add 2) fun x63=>
   ldI .u64 (x5.add 3) fun x64=>
   ql.f k x57 x58 x59 x60 x61 x62 x63 x64 fun r65 r66 r67 r68=>
   need (decide (0≤w64 (1 - x4))) <|
   need (decide (w64 (1 - x4) < (2:Int))) <|
   st1 (((s17.add ((w64 (1 - x4)).toNat * 4))).add 0) (.int .u64 r65) <|
   st1 (((s17.add ((w64 (1 - x4)).toNat * 4))).add 1) (.int .u64 r66) <|
   st1 (((s17.add ((w64 (1 - x4)).toNat * 4))).add 2) (.int .u64 r67) <|
   st1 (((s17.add ((w64 (1 - x4)).toNat * 4))).add 3) (.int .u64 r68) <|
   ldI .u64 (s17.add 0) fun x69=>
   ldI .u64 (s17.add 1) fun x70=>
   ldI .u64 (s17.add 2) fun x71=>
   ldI .u64 (s17.add 3) fun x72=>
   ldI .u64 (s17.add 4) fun x73=>
   ldI .u64 (s17.add 5) fun x74=>
   ldI .u64 (s17.add 6) fun x75=>
   ldI .u64 (s17.add 7) fun x76=>
   st1 (x3.add 0) (.int .u64 x69) <|
   st1 (x3.add 1) (.int .u64 x70) <|
   st1 (x3.add 2) (.int .u64 x71) <|
   st1 (x3.add 3) (.int .u64 x72) <|
   st1 (x3.add 4) (.int .u64 x73) <|
   st1 (x3.add 5) (.int .u64 x74) <|
   st1 (x3.add 6) (.int .u64 x75) <|
   st1 (x3.add 7) (.int .u64 x76) <|
   kr x3) (
   fail)) (
  ld (x1.add 0) fun x77=>
  zfo (V.cells x8) [x77] <|
  zbc x8 fun f78 ls79 ls80=>
  cond (Nat.beq f78 47) (
   jq ls79 <|
   zf ls80 fun v81 ls82=>
   zf ls82 fun v83 ls84=>
   zf ls84 fun v85 ls86=>
   zf ls86 fun v87 ls88=>
   zf ls88 fun v89 ls90=>
   zf ls90 fun v91 ls92=>
   jq ls92 <|
   asP v81 fun x93=>
   asSome x93 fun p94=>
   asP v83 fun x95=>
   asSome x95 fun p96=>
   asP v85 fun x97=>
   asSome x97 fun p98=>
   asP v87 fun x99=>
   asSome x99 fun p100=>
   asP v89 fun x101=>
   asSome x101 fun p102=>
   asP v91 fun x103=>
   asSome x103 fun p104=>
   rr47 r18 r19 r20 r21 (w64 (x0 + 1)) p94 p96 p98 p100 p102 p104 fun r105 r106 r107 r108 r109 r110 r111 r112=>
   st1 (s17.add 0) (.int .u64 r105) <|
   st1 (s17.add 1) (.int .u64 r106) <|
   st1 (s17.add 2) (.int .u64 r107) <|
   st1 (s17.add 3) (.int .u64 r108) <|
   st1 (s17.add 4) (.int .u64 r109) <|
   st1 (s17.add 5) (.int .u64 r110) <|
   st1 (s17.add 6) (.int .u64 r111) <|
   st1 (s17.add 7) (.int .u64 r112) <|
   need (decide (0≤w64 (1 - x4))) <|
   need (decide (w64 (1 - x4) < (2:Int))) <|
   ldI .u64 (((s17.add ((w64 (1 - x4)).toNat * 4))).add 0) fun x113=>
   ldI .u64 (((s17.add ((w64 (1 - x4)).toNat * 4))).add 1) fun x114=>
   ldI .u64 (((s17.add ((w64 (1 - x4)).toNat * 4))).add 2) fun x115=>
   ldI .u64 (((s17.add ((w64 (1 - x4)).toNat * 4))).add 3) fun x116=>
   ldI .u64 (x5.add 0) fun x117=>
   ldI .u64 (x5.add 1) fun x118=>
   ldI .u64 (x5.add 2) fun x119=>
   ldI .u64 (x5.add 3) fun x120=>
   ql.f k x113 x114 x115 x116 x117 x118 x119 x120 fun r121 r122 r123 r124=>
   need (decide (0≤w64 (1 - x4))) <|
   need (decide (w64 (1 - x4) < (2:Int))) <|
   st1 (((s17.add ((w64 (1 - x4)).toNat * 4))).add 0) (.int .u64 r121) <|
   st1 (((s17.add ((w64 (1 - x4)).toNat * 4))).add 1) (.int .u64 r122) <|
   st1 (((s17.add ((w64 (1 - x4)).toNat * 4))).add 2) (.int .u64 r123) <|
   st1 (((s17.add ((w64 (1 - x4)).toNat * 4))).add 3) (.int .u64 r124) <|
   ldI .u64 (s17.add 0) fun x125=>
   ldI .u64 (s17.add 1) fun x126=>
   ldI .u64 (s17.add 2) fun x127=>
   ldI .u64 (s17.add 3) fun x128=>
   ldI .u64 (s17.add 4) fun x129=>
   ldI .u64 (s17.add 5) fun x130=>
   ldI .u64 (s17.add 6) fun x131=>
   ldI .u64 (s17.add 7) fun x132=>
   st1 (x3.add 0) (.int .u64 x125) <|
   st1 (x3.add 1) (.int .u64 x126) <|
   st1 (x3.add 2) (.int .u64 x127) <|
   st1 (x3.add 3) (.int .u64 x128) <|
   st1 (x3.add 4) (.int .u64 x129) <|
   st1 (x3.add 5) (.int .u64 x130) <|
   st1 (x3.add 6) (.int .u64 x131) <|
   st1 (x3.add 7) (.int .u64 x132) <|
   kr x3) (
   fail))
noncomputable def qd.u22.c:IC:=(.seq (.drawn 28 (zb Tryz.f47 28) true [.op 0, .op 1, .op 2, .op 4, .op 5, .op 7, .np 3, .look 0, .expect 137 [(47, 0, 6)], .np 6, .op 8]) (.seq (.drawn 29 (zb Tryz.f47 29) true [.op 0, .op 1, .op 2, .op 3, .op 4, .op 5, .op 6, .op 7, .op 8, .op 9]) (.seq (.ops 30 (zb Tryz.f47 30)) (.ret [10]))))
noncomputable abbrev qd.u23.f (k:Nat) (rr47:Int->Int->Int->Int->Int->Ad->Ad->Ad->Ad->Ad->Ad->(Int->Int->Int->Int->Int->Int->Int->Int->M α)->M α) (x0:Int) (x1 x2:Ad) (x3 x4 x5:Ad) (x6:Int) (x7 x8:Ad) (kr:Ad->M α):M α:=
 qd.u21.f k x0 x1 x2 x3 x4 x5 x6 x7 x8 (fun y0 y1 y2 y3 y4 y5=>qd.u22.f k rr47 y0 y1 y2 y3 y4 y5 kr)
noncomputable def qd.u23.c:IC:=(.seq qd.u21.c qd.u22.c)
noncomputable abbrev qd.u24.f (k:Nat) (rr47:Int->Int->Int->Int->Int->Ad->Ad->Ad->Ad->Ad->Ad->(Int->Int->Int->Int->Int->Int->Int->Int->M α)->M α) (x0:Int) (x1 x2:Ad) (x3 x4:Ad) (x5 x6 x7:Ad) (x8:Int) (x9:Ad) (kr:Ad->M α):M α:=
 qd.u16.f k x0 x1 x2 x3 x4 x5 x6 x7 x8 x9 (fun y0 y1 y2 y3 y4 y5 y6 y7 y8=>qd.u23.f k rr47 y0 y1 y2 y3 y4 y5 y6 y7 y8 kr)
noncomputable def qd.u24.c:IC:=qd.u16.c qd.u23.c
noncomputable abbrev qd.u25.f (k:Nat) (rr47:Int->Int->Int->Int->Int->Ad->Ad->Ad->Ad->Ad->Ad->(Int->Int->Int->Int->Int->Int->Int->Int->M α)->M α) (x0:Int) (x1 x2:Ad) (x3 x4:Ad) (x5 x6:Ad) (x7 x8:Ad) (x9:Int) (x10:Sl) (x11:Ad) (kr:Ad->M α):M α:=
 qd.u15.f k x0 x1 x2 x3 x4 x5 x6 x7 x8 x9 x10 x11 (fun y0 y1 y2 y3 y4 y5 y6 y7 y8 y9=>qd.u24.f k rr47 y0 y1 y2 y3 y4 y5 y6 y7 y8 y9 kr) kr
noncomputable def qd.u25.c:IC:=(.seq qd.u15.c qd.u24.c)
noncomputable abbrev qd.u26.f (k:Nat) (rr47:Int->Int->Int->Int->Int->Ad->Ad->Ad->Ad->Ad->Ad->(Int->Int->Int->Int->Int->Int->Int->Int->M α)->M α) (x0:Int) (x1 x2:Ad) (x3 x4:Ad) (x5 x6:Ad) (x7 x8:Ad) (x9:Int) (x10:Sl) (x11:Ad) (kr:Ad->M α):M α:=
 qd.u2.f k x0 x1 x2 x3 x4 x5 x6 x7 x8 x9 x10 x11 (fun y0 y1 y2 y3 y4 y5 y6 y7 y8 y9 y10 y11=>qd.u25.f k rr47 y0 y1 y2 y3 y4 y5 y6 y7 y8 y9 y10 y11 kr)
noncomputable def qd.u26.c:IC:=qd.u2.c qd.u25.c
noncomputable abbrev qd.u27.f (k:Nat) (rr47:Int->Int->Int->Int->Int->Ad->Ad->Ad->Ad->Ad->Ad->(Int->Int->Int->Int->Int->Int->Int->Int->M α)->M α) (x0 x1:Int) (x2 x3 x4:Int) (x5 x6:Ad) (x7 x8:Ad) (x9 x10:Ad) (kr:Ad->M α):M α:=
 qd.u1.f k rr47 x0 x1 x2 x3 x4 x5 x6 x7 x8 x9 x10 (fun y0 y1 y2 y3 y4 y5 y6 y7 y8 y9 y10 y11=>qd.u26.f k rr47 y0 y1 y2 y3 y4 y5 y6 y7 y8 y9 y10 y11 kr) kr
noncomputable def qd.u27.c:IC:=qd.u1.c qd.u26.c
mutual
noncomputable def qd.f:Nat->Int->Int->Int->Int->Int->Ad->Ad->Ad->Ad->Ad->Ad->(Int->Int->Int->Int->Int->Int->Int->Int->M α)->M α
 | 0, _, _, _, _, _, _, _, _, _, _, _, _=>fail
 | k + 1, x0, x1, x2, x3, x4, x5, x6, x7, x8, x9, x10, ret=>
  qd.u27.f k (fun z0 z1 z2 z3 z4 z5 z6 z7 z8 z9 z10 z11=>qd.f k z0 z1 z2 z3 z4 z5 z6 z7 z8 z9 z10 z11) x0 x1 x2 x3 x4 x5 x6 x7 x8 x9 x10 (fun y0=>
   ldI .u64 (y0.add 0) fun o501=>
   ldI .u64 (y0.add 1) fun o502=>
   ldI .u64 (y0.add 2) fun o503=>
   ldI .u64 (y0.add 3) fun o504=>
   ldI .u64 (y0.add 4) fun o505=>
   ldI .u64 (y0.add 5) fun o506=>
   ldI .u64 (y0.add 6) fun o507=>
   ldI .u64 (y0.add 7) fun o508=>
   ret o501 o502 o503 o504 o505 o506 o507 o508)
end
noncomputable def qc.u1.f (k:Nat) (x0 x1 x2:Sl) (kn:Ad->Ad->Ad->Ad->Ad->M α) (kr:Ad->Int->M α):M α:=
 new [.slice x0, .slice x1, .slice x2] fun g5=>
 new [.slice Sl.nil, .slice Sl.nil, .slice Sl.nil, .slice Sl.nil] fun x6=>
 ldS (g5.add 0) fun x7=>
 ldS (g5.add 1) fun x8=>
 ldS (g5.add 2) fun x9=>
 qe.f k x7 x8 x9 fun r10 r11=>
 cond (!(decide (r11 = 0))) (
  st1 (x6.add 0) (.slice Sl.nil) <|
  st1 (x6.add 1) (.slice Sl.nil) <|
  st1 (x6.add 2) (.slice Sl.nil) <|
  st1 (x6.add 3) (.slice Sl.nil) <|
  kr x6 0) (
  ldS ((g5.add 0).add 0) fun x12=>
  new [.int .i64 0] fun n13=>
  new [.int .i64 0] fun deepest14=>
  st1 (n13.add 0) (.int .i64 (x12.len:Int)) <|
  st1 (deepest14.add 0) (.int .i64 0) <|
  new [.slice Sl.nil, .slice Sl.nil] fun moves15=>
  kn g5 x6 n13 deepest14 moves15)
noncomputable def qc.u1.c (R:IC):IC:=(.seq (.ops 0 (zb Tryz.f13 0)) (.seq (.seq (.ops 1 (zb Tryz.f13 1)) (.seq (.ops 2 (zb Tryz.f13 2)) (.cond (.tmp 22) (.seq (.ops 3 (zb Tryz.f13 3)) (.ret [2, 3])) .skip))) (.seq (.ops 4 (zb Tryz.f13 4)) (.seq (.cut [1, 2, 6, 7, 8] (.ops 5 (zb Tryz.f13 5))) R))))
noncomputable def qc.u2.f (k:Nat) (x0 x1:Ad) (x2 x3 x4:Ad) (kn:Ad->Ad->Ad->Ad->Ad->Int->M α):M α:=
 kn x0 x1 x2 x3 x4 0
noncomputable def qc.u2.c (R:IC):IC:=(.seq (.cut [1, 2, 6, 7, 8, 27] (.ops 6 (zb Tryz.f13 6))) R)
noncomputable def qc.u3.f (k:Nat) (x0 x1:Ad) (x2 x3 x4:Ad) (x5:Int) (kn:Ad->Ad->Ad->Ad->Ad->Int->M α) (kx0:Ad->Ad->Ad->Ad->Ad->M α):M α:=
 cond (decide (x5 < 2)) (
  new [.int .i64 (-1)] fun r8=>
  ldI .i64 (x2.add 0) fun x9=>
  qr.f k (⟨some r8, 1, 1, none⟩:Sl) x9 fun r10=>
  need (decide (0≤x5)) <|
  need (decide (x5 < (2:Int))) <|
  st1 (((x4.add (x5.toNat * 1))).add 0) (.slice r10) <|
  kn x0 x1 x2 x3 x4 (w64 (x5 + 1))) (
  kx0 x0 x1 x2 x3 x4)
noncomputable def qc.u3.c:IC:=(.seq (.ops 7 (zb Tryz.f13 7)) (.seq (.cond (.tmp 28) .skip (.exit 0 [1, 2, 6, 7, 8])) (.seq (.block 1 (.seq (.ops 8 (zb Tryz.f13 8)) (.ops 9 (zb Tryz.f13 9)))) (.cut [1, 2, 6, 7, 8, 27] (.ops 10 (zb Tryz.f13 10))))))
noncomputable def qc.u4.l (k:Nat) (kx0:Ad->Ad->Ad->Ad->Ad->M α):Nat->Ad->Ad->Ad->Ad->Ad->Int->M α
 | 0, _, _, _, _, _, _=>fail
 | j + 1, x0, x1, x2, x3, x4, x5=>
  qc.u3.f k x0 x1 x2 x3 x4 x5 (fun y0 y1 y2 y3 y4 y5=>qc.u4.l k kx0 j y0 y1 y2 y3 y4 y5) kx0
noncomputable abbrev qc.u4.f (k:Nat) (x0 x1:Ad) (x2 x3 x4:Ad) (x5:Int) (kx0:Ad->Ad->Ad->Ad->Ad->M α):M α:=
 qc.u4.l k kx0 k x0 x1 x2 x3 x4 x5
noncomputable def qc.u4.c:IC:=.loop [1, 2, 6, 7, 8, 27] qc.u3.c
noncomputable abbrev qc.u5.f (k:Nat) (x0 x1:Ad) (x2 x3 x4:Ad) (x5:Int) (kn:Ad->Ad->Ad->Ad->Ad->M α):M α:=
 qc.u4.f k x0 x1 x2 x3 x4 x5 (fun y0 y1 y2 y3 y4=>kn y0 y1 y2 y3 y4)
noncomputable def qc.u5.c:IC:=.block 0 qc.u4.c
noncomputable abbrev qc.u6.f (k:Nat) (x0 x1:Ad) (x2 x3 x4:Ad) (kn:Ad->Ad->Ad->Ad->Ad->M α):M α:=
 qc.u2.f k x0 x1 x2 x3 x4 (fun y0 y1 y2 y3 y4 y5=>qc.u5.f k y0 y1 y2 y3 y4 y5 kn)
noncomputable def qc.u6.c:IC:=qc.u2.c qc.u5.c
noncomputable def qc.u7.f (k:Nat) (x0 x1:Ad) (x2 x3 x4:Ad) (kn:Ad->Ad->Ad->Ad->Ad->Ad->M α):M α:=
 new [.nilFunc] fun keep7=>
 st1 (keep7.add 0) (.func 46 [] [.ptr (some x4)]) <|
 new [.nilFunc] fun part8=>
 st1 (part8.add 0) (.func 47 [] [.ptr (some x3), .ptr (some x0), .ptr (some part8), .ptr (some keep7), .ptr (some x4), .ptr (some x2)]) <|
 ld (part8.add 0) fun x9=>
 ldI .i64 (x2.add 0) fun x10=>
 new [.int .u64 0, .int .u64 0, .int .u64 0, .int .u64 0, .int .u64 0, .int .u64 0, .int .u64 0, .int .u64 0] fun s11=>
 qn.f k x10 fun r12 r13 r14 r15=>
 zdg x9 (
  zbc x9 fun f16 ls17 ls18=>
  cond (Nat.beq f16 47) (
   jq ls17 <|
   zf ls18 fun v19 ls20=>
   zf ls20 fun v21 ls22=>
   zf ls22 fun v23 ls24=>
   zf ls24 fun v25 ls26=>
   zf ls26 fun v27 ls28=>
   zf ls28 fun v29 ls30=>
   jq ls30 <|
   asP v19 fun x31=>
   asSome x31 fun p32=>
   asP v21 fun x33=>
   asSome x33 fun p34=>
   asP v23 fun x35=>
   asSome x35 fun p36=>
   asP v25 fun x37=>
   asSome x37 fun p38=>
   asP v27 fun x39=>
   asSome x39 fun p40=>
   asP v29 fun x41=>
   asSome x41 fun p42=>
   qd.f k r12 r13 r14 r15 1 p32 p34 p36 p38 p40 p42 fun r43 r44 r45 r46 r47 r48 r49 r50=>
   st1 (s11.add 0) (.int .u64 r43) <|
   st1 (s11.add 1) (.int .u64 r44) <|
   st1 (s11.add 2) (.int .u64 r45) <|
   st1 (s11.add 3) (.int .u64 r46) <|
   st1 (s11.add 4) (.int .u64 r47) <|
   st1 (s11.add 5) (.int .u64 r48) <|
   st1 (s11.add 6) (.int .u64 r49) <|
   st1 (s11.add 7) (.int .u64 r50) <|
   kn x0 x1 x2 x3 x4 s11) (
   fail)) (
  ld (part8.add 0) fun x51=>
  zfo (V.cells x9) [x51] <|
  zbc x9 fun f52 ls53 ls54=>
  cond (Nat.beq f52 47) (
   jq ls53 <|
   zf ls54 fun v55 ls56=>
   zf ls56 fun v57 ls58=>
   zf ls58 fun v59 ls60=>
   zf ls60 fun v61 ls62=>
   zf ls62 fun v63 ls64=>
   zf ls64 fun v65 ls66=>
   jq ls66 <|
   asP v55 fun x67=>
   asSome x67 fun p68=>
   asP v57 fun x69=>
   asSome x69 fun p70=>
   asP v59 fun x71=>
   asSome x71 fun p72=>
   asP v61 fun x73=>
   asSome x73 fun p74=>
   asP v63 fun x75=>
   asSome x75 fun p76=>
   asP v65 fun x77=>
   asSome x77 fun p78=>
   qd.f k r12 r13 r14 r15 1 p68 p70 p72 p74 p76 p78 fun r79 r80 r81 r82 r83 r84 r85 r86=>
   st1 (s11.add 0) (.int .u64 r79) <|
   st1 (s11.add 1) (.int .u64 r80) <|
   st1 (s11.add 2) (.int .u64 r81) <|
   st1 (s11.add 3) (.int .u64 r82) <|
   st1 (s11.add 4) (.int .u64 r83) <|
   st1 (s11.add 5) (.int .u64 r84) <|
   st1 (s11.add 6) (.int .u64 r85) <|
   st1 (s11.add 7) (.int .u64 r86) <|
   kn x0 x1 x2 x3 x4 s11) (
   fail))
noncomputable def qc.u7.c (R:IC):IC:=(.seq (.ops 11 (zb Tryz.f13 11)) (.seq (.ops 12 (zb Tryz.f13 12)) (.seq (.ops 13 (zb Tryz.f13 13)) (.seq (.cut [1, 2, 6, 7, 8, 12] (.drawn 14 (zb Tryz.f13 14) true [.op 0, .op 1, .op 4, .np 2, .look 0, .expect 38 [(47, 0, 6)], .np 3, .op 5])) R))))
noncomputable def qc.u8.f (k:Nat) (x0 x1:Ad) (x2 x3:Ad) (x4 x5:Ad) (kn:Ad->Ad->Ad->Ad->Ad->Ad->M α):M α:=
 ldS (x4.add 0) fun x8=>
 ldS (x4.add 1) fun x9=>
 new [.slice Sl.nil, .slice Sl.nil, .slice Sl.nil, .slice Sl.nil] fun c10=>
 st1 (c10.add 0) (.slice Sl.nil) <|
 st1 (c10.add 1) (.slice Sl.nil) <|
 st1 (c10.add 2) (.slice x8) <|
 st1 (c10.add 3) (.slice x9) <|
 kn x0 x1 x2 x3 x5 c10
noncomputable def qc.u8.c (R:IC):IC:=(.seq (.cut [1, 2, 6, 7, 12, 13] (.ops 15 (zb Tryz.f13 15))) R)
noncomputable def qc.u9.f (k:Nat) (x0 x1:Ad) (x2 x3:Ad) (x4 x5:Ad) (kn:Ad->Ad->Ad->Ad->Ad->Ad->Int->M α):M α:=
 kn x0 x1 x2 x3 x4 x5 0
noncomputable def qc.u9.c (R:IC):IC:=(.seq (.cut [1, 2, 6, 7, 12, 13, 44] (.ops 16 (zb Tryz.f13 16))) R)
noncomputable def qc.u10.f (k:Nat) (x0 x1:Ad) (x2 x3:Ad) (x4 x5:Ad) (x6:Int) (kn:Ad->Ad->Ad->Ad->Ad->Ad->Int->M α) (kx2:Ad->Ad->Ad->M α):M α:=
 cond (decide (x6 < 2)) (
  kn x0 x1 x2 x3 x4 x5 x6) (
  kx2 x1 x3 x5)
noncomputable def qc.u10.c (R:IC):IC:=(.seq (.ops 17 (zb Tryz.f13 17)) (.seq (.cut [1, 2, 6, 7, 12, 13, 44] (.cond (.tmp 45) .skip (.exit 2 [2, 7, 13]))) R))
noncomputable def qc.u11.f (k:Nat) (x0 x1:Ad) (x2 x3:Ad) (x4 x5:Ad) (x6:Int) (kn:Ad->Ad->Ad->Ad->Ad->Ad->Int->Int->Int->Int->M α):M α:=
 need (decide (0≤x6)) <|
 need (decide (x6 < (2:Int))) <|
 ldI .u64 (((x4.add (x6.toNat * 4))).add 0) fun x9=>
 ldI .u64 (((x4.add (x6.toNat * 4))).add 1) fun x10=>
 ldI .u64 (((x4.add (x6.toNat * 4))).add 2) fun x11=>
 ldI .u64 (((x4.add (x6.toNat * 4))).add 3) fun x12=>
 qf.f k x9 x10 x11 x12 fun r13=>
 need (decide (0≤x6)) <|
 need (decide (x6 < (2:Int))) <|
 st1 ((((x5.add 0).add (x6.toNat * 1))).add 0) (.slice r13) <|
 ldI .i64 (x2.add 0) fun x14=>
 kn x0 x1 x2 x3 x4 x5 x6 x6 x14 0
noncomputable def qc.u11.c (R:IC):IC:=(.seq (.ops 18 (zb Tryz.f13 18)) (.seq (.ops 19 (zb Tryz.f13 19)) (.seq (.cut [1, 2, 6, 7, 12, 13, 14, 44, 54, 55] (.ops 20 (zb Tryz.f13 20))) R)))
noncomputable def qc.u12.f (k:Nat) (x0 x1:Ad) (x2 x3:Ad) (x4 x5:Ad) (x6 x7:Int) (x8 x9:Int) (kn:Ad->Ad->Ad->Ad->Ad->Ad->Int->Int->Int->Int->M α) (kx4:Ad->Ad->Ad->Ad->Ad->Ad->Int->M α):M α:=
 cond (decide (x9 < x8)) (
  need (decide (0≤x6)) <|
  need (decide (x6 < (2:Int))) <|
  ldI .u64 (((x4.add (x6.toNat * 4))).add 0) fun x12=>
  ldI .u64 (((x4.add (x6.toNat * 4))).add 1) fun x13=>
  ldI .u64 (((x4.add (x6.toNat * 4))).add 2) fun x14=>
  ldI .u64 (((x4.add (x6.toNat * 4))).add 3) fun x15=>
  qw.f k x12 x13 x14 x15 x9 fun r16=>
  cond (!r16) (
   need (decide (0≤x6)) <|
   need (decide (x6 < (2:Int))) <|
   ldS ((((x5.add 2).add (x6.toNat * 1))).add 0) fun x17=>
   idxSl x17 x9 1 fun a18=>
   st1 (a18.add 0) (.int .i64 (-1)) <|
   kn x0 x1 x2 x3 x4 x5 x6 x7 x8 (w64 (x9 + 1))) (
   ldS ((x0.add 0).add 0) fun x19=>
   idxSl x19 x9 1 fun a20=>
   ldI .i64 (a20.add 0) fun x21=>
   cond (!(decide (x21 = x6))) (
    need (decide (0≤x6)) <|
    need (decide (x6 < (2:Int))) <|
    ldS ((((x5.add 2).add (x6.toNat * 1))).add 0) fun x22=>
    idxSl x22 x9 1 fun a23=>
    st1 (a23.add 0) (.int .i64 (-1)) <|
    kn x0 x1 x2 x3 x4 x5 x6 x7 x8 (w64 (x9 + 1))) (
    kn x0 x1 x2 x3 x4 x5 x6 x7 x8 (w64 (x9 + 1))))) (
  kx4 x0 x1 x2 x3 x4 x5 x7)
noncomputable def qc.u12.c:IC:=(.seq (.ops 21 (zb Tryz.f13 21)) (.seq (.cond (.tmp 56) .skip (.exit 4 [1, 2, 6, 7, 12, 13, 44])) (.seq (.block 5 (.seq (.ops 22 (zb Tryz.f13 22)) (.seq (.ops 23 (zb Tryz.f13 23)) (.cond (.tmp 72) (.ops 24 (zb Tryz.f13 24)) .skip)))) (.cut [1, 2, 6, 7, 12, 13, 14, 44, 54, 55] (.ops 25 (zb Tryz.f13 25))))))
noncomputable def qc.u13.l (k:Nat) (kx4:Ad->Ad->Ad->Ad->Ad->Ad->Int->M α):Nat->Ad->Ad->Ad->Ad->Ad->Ad->Int->Int->Int->Int->M α
 | 0, _, _, _, _, _, _, _, _, _, _=>fail
 | j + 1, x0, x1, x2, x3, x4, x5, x6, x7, x8, x9=>
  qc.u12.f k x0 x1 x2 x3 x4 x5 x6 x7 x8 x9 (fun y0 y1 y2 y3 y4 y5 y6 y7 y8 y9=>qc.u13.l k kx4 j y0 y1 y2 y3 y4 y5 y6 y7 y8 y9) kx4
noncomputable abbrev qc.u13.f (k:Nat) (x0 x1:Ad) (x2 x3:Ad) (x4 x5:Ad) (x6 x7:Int) (x8 x9:Int) (kx4:Ad->Ad->Ad->Ad->Ad->Ad->Int->M α):M α:=
 qc.u13.l k kx4 k x0 x1 x2 x3 x4 x5 x6 x7 x8 x9
noncomputable def qc.u13.c:IC:=.loop [1, 2, 6, 7, 12, 13, 14, 44, 54, 55] qc.u12.c
noncomputable abbrev qc.u14.f (k:Nat) (x0 x1:Ad) (x2 x3:Ad) (x4 x5:Ad) (x6 x7:Int) (x8 x9:Int) (kn:Ad->Ad->Ad->Ad->Ad->Ad->Int->M α):M α:=
 qc.u13.f k x0 x1 x2 x3 x4 x5 x6 x7 x8 x9 (fun y0 y1 y2 y3 y4 y5 y6=>kn y0 y1 y2 y3 y4 y5 y6)
noncomputable def qc.u14.c:IC:=.block 4 qc.u13.c
noncomputable abbrev qc.u15.f (k:Nat) (x0 x1:Ad) (x2 x3:Ad) (x4 x5:Ad) (x6:Int) (kn:Ad->Ad->Ad->Ad->Ad->Ad->Int->M α):M α:=
 qc.u11.f k x0 x1 x2 x3 x4 x5 x6 (fun y0 y1 y2 y3 y4 y5 y6 y7 y8 y9=>qc.u14.f k y0 y1 y2 y3 y4 y5 y6 y7 y8 y9 kn)
noncomputable def qc.u15.c:IC:=qc.u11.c qc.u14.c
noncomputable abbrev qc.u16.f (k:Nat) (x0 x1:Ad) (x2 x3:Ad) (x4 x5:Ad) (x6:Int) (kn:Ad->Ad->Ad->Ad->Ad->Ad->Int->M α):M α:=
 qc.u15.f k x0 x1 x2 x3 x4 x5 x6 (fun y0 y1 y2 y3 y4 y5 y6=>kn y0 y1 y2 y3 y4 y5 y6)
noncomputable def qc.u16.c:IC:=.block 3 qc.u15.c
noncomputable def qc.u17.f (k:Nat) (x0 x1:Ad) (x2 x3:Ad) (x4 x5:Ad) (x6:Int) (kn:Ad->Ad->Ad->Ad->Ad->Ad->Int->M α):M α:=
 kn x0 x1 x2 x3 x4 x5 (w64 (x6 + 1))
noncomputable def qc.u17.c:IC:=(.cut [1, 2, 6, 7, 12, 13, 44] (.ops 26 (zb Tryz.f13 26)))
noncomputable abbrev qc.u18.f (k:Nat) (x0 x1:Ad) (x2 x3:Ad) (x4 x5:Ad) (x6:Int) (kn:Ad->Ad->Ad->Ad->Ad->Ad->Int->M α):M α:=
 qc.u16.f k x0 x1 x2 x3 x4 x5 x6 (fun y0 y1 y2 y3 y4 y5 y6=>qc.u17.f k y0 y1 y2 y3 y4 y5 y6 kn)
noncomputable def qc.u18.c:IC:=(.seq qc.u16.c qc.u17.c)
noncomputable abbrev qc.u19.f (k:Nat) (x0 x1:Ad) (x2 x3:Ad) (x4 x5:Ad) (x6:Int) (kn:Ad->Ad->Ad->Ad->Ad->Ad->Int->M α) (kx2:Ad->Ad->Ad->M α):M α:=
 qc.u10.f k x0 x1 x2 x3 x4 x5 x6 (fun y0 y1 y2 y3 y4 y5 y6=>qc.u18.f k y0 y1 y2 y3 y4 y5 y6 kn) kx2
noncomputable def qc.u19.c:IC:=qc.u10.c qc.u18.c
noncomputable def qc.u20.l (k:Nat) (kx2:Ad->Ad->Ad->M α):Nat->Ad->Ad->Ad->Ad->Ad->Ad->Int->M α
 | 0, _, _, _, _, _, _, _=>fail
 | j + 1, x0, x1, x2, x3, x4, x5, x6=>
  qc.u19.f k x0 x1 x2 x3 x4 x5 x6 (fun y0 y1 y2 y3 y4 y5 y6=>qc.u20.l k kx2 j y0 y1 y2 y3 y4 y5 y6) kx2
noncomputable abbrev qc.u20.f (k:Nat) (x0 x1:Ad) (x2 x3:Ad) (x4 x5:Ad) (x6:Int) (kx2:Ad->Ad->Ad->M α):M α:=
 qc.u20.l k kx2 k x0 x1 x2 x3 x4 x5 x6
noncomputable def qc.u20.c:IC:=.loop [1, 2, 6, 7, 12, 13, 44] qc.u19.c
noncomputable abbrev qc.u21.f (k:Nat) (x0 x1:Ad) (x2 x3:Ad) (x4 x5:Ad) (x6:Int) (kn:Ad->Ad->Ad->M α):M α:=
 qc.u20.f k x0 x1 x2 x3 x4 x5 x6 (fun y0 y1 y2=>kn y0 y1 y2)
noncomputable def qc.u21.c:IC:=.block 2 qc.u20.c
noncomputable abbrev qc.u22.f (k:Nat) (x0 x1:Ad) (x2 x3:Ad) (x4 x5:Ad) (kn:Ad->Ad->Ad->M α):M α:=
 qc.u9.f k x0 x1 x2 x3 x4 x5 (fun y0 y1 y2 y3 y4 y5 y6=>qc.u21.f k y0 y1 y2 y3 y4 y5 y6 kn)
noncomputable def qc.u22.c:IC:=qc.u9.c qc.u21.c
noncomputable def qc.u23.f (k:Nat) (x0 x1 x2:Ad) (kr:Ad->Int->M α):M α:=
 ldS (x2.add 0) fun x5=>
 ldS (x2.add 1) fun x6=>
 ldS (x2.add 2) fun x7=>
 ldS (x2.add 3) fun x8=>
 ldI .i64 (x1.add 0) fun x9=>
 st1 (x0.add 0) (.slice x5) <|
 st1 (x0.add 1) (.slice x6) <|
 st1 (x0.add 2) (.slice x7) <|
 st1 (x0.add 3) (.slice x8) <|
 ldI .i64 (x1.add 0) fun y10=>
 need (decide (x9 = y10)) <|
 kr x0 x9
noncomputable def qc.u23.c:IC:=(.seq (.drawn 27 (zb Tryz.f13 27) true [.op 0, .op 1, .op 2, .look 1, .op 3]) (.ret [2, 3]))
noncomputable abbrev qc.u24.f (k:Nat) (x0 x1:Ad) (x2 x3:Ad) (x4 x5:Ad) (kr:Ad->Int->M α):M α:=
 qc.u22.f k x0 x1 x2 x3 x4 x5 (fun y0 y1 y2=>qc.u23.f k y0 y1 y2 kr)
noncomputable def qc.u24.c:IC:=(.seq qc.u22.c qc.u23.c)
noncomputable abbrev qc.u25.f (k:Nat) (x0 x1:Ad) (x2 x3:Ad) (x4 x5:Ad) (kr:Ad->Int->M α):M α:=
 qc.u8.f k x0 x1 x2 x3 x4 x5 (fun y0 y1 y2 y3 y4 y5=>qc.u24.f k y0 y1 y2 y3 y4 y5 kr)
noncomputable def qc.u25.c:IC:=qc.u8.c qc.u24.c
noncomputable abbrev qc.u26.f (k:Nat) (x0 x1:Ad) (x2 x3 x4:Ad) (kr:Ad->Int->M α):M α:=
 qc.u7.f k x0 x1 x2 x3 x4 (fun y0 y1 y2 y3 y4 y5=>qc.u25.f k y0 y1 y2 y3 y4 y5 kr)
noncomputable def qc.u26.c:IC:=qc.u7.c qc.u25.c
noncomputable abbrev qc.u27.f (k:Nat) (x0 x1:Ad) (x2 x3 x4:Ad) (kr:Ad->Int->M α):M α:=
 qc.u6.f k x0 x1 x2 x3 x4 (fun y0 y1 y2 y3 y4=>qc.u26.f k y0 y1 y2 y3 y4 kr)
noncomputable def qc.u27.c:IC:=(.seq qc.u6.c qc.u26.c)
noncomputable abbrev qc.u28.f (k:Nat) (x0 x1 x2:Sl) (kr:Ad->Int->M α):M α:=
 qc.u1.f k x0 x1 x2 (fun y0 y1 y2 y3 y4=>qc.u27.f k y0 y1 y2 y3 y4 kr) kr
noncomputable def qc.u28.c:IC:=qc.u1.c qc.u27.c
noncomputable def qc.f:Nat->Sl->Sl->Sl->(Sl->Sl->Sl->Sl->Int->M α)->M α
 | 0, _, _, _, _=>fail
 | k + 1, x0, x1, x2, ret=>
  qc.u28.f k x0 x1 x2 (fun y0 y1=>
   ldS (y0.add 0) fun o501=>
   ldS (y0.add 1) fun o502=>
   ldS (y0.add 2) fun o503=>
   ldS (y0.add 3) fun o504=>
   ret o501 o502 o503 o504 y1)
noncomputable def qz.u1.f (k:Nat) (x0:Sl) (kr:Sl->M α):M α:=
 cond (x0.ad.isNone) (
  kr Sl.nil) (
  new [] fun r3=>
  yr (⟨some r3, 0, 0, none⟩:Sl) 1 8 x0 fun x4=>
  kr x4)
noncomputable def qz.u1.c:IC:=(.seq (.ops 0 (zb Tryz.f54 0)) (.seq (.seq (.ops 1 (zb Tryz.f54 1)) (.cond (.tmp 4) (.seq (.ops 2 (zb Tryz.f54 2)) (.ret [2])) .skip)) (.seq (.ops 3 (zb Tryz.f54 3)) (.ret [2]))))
noncomputable def qz.f:Nat->Sl->(Sl->M α)->M α
 | 0, _, _=>fail
 | k + 1, x0, ret=>
  qz.u1.f k x0 (fun y0=>
   ret y0)
noncomputable def qh.u1.f (k:Nat) (x0 x1 x2:Sl) (kn:Ad->Ad->Ad->M α):M α:=
 new [.slice x0, .slice x1, .slice x2] fun g5=>
 new [.slice Sl.nil, .slice Sl.nil, .slice Sl.nil] fun x6=>
 ldS ((g5.add 0).add 0) fun x7=>
 ldS ((g5.add 1).add 0) fun x8=>
 new [.slice Sl.nil, .slice Sl.nil, .slice Sl.nil] fun out9=>
 qz.f k x7 fun r10=>
 ldS ((g5.add 1).add 0) fun y11=>
 need (decide (x8 = y11)) <|
 qz.f k x8 fun r12=>
 st1 (out9.add 0) (.slice r10) <|
 st1 (out9.add 1) (.slice r12) <|
 st1 (out9.add 2) (.slice Sl.nil) <|
 kn g5 x6 out9
noncomputable def qh.u1.c (R:IC):IC:=(.seq (.ops 0 (zb Tryz.f14 0)) (.seq (.cut [1, 2, 3] (.drawn 1 (zb Tryz.f14 1) true [.op 0, .op 1, .op 3, .op 4, .op 7, .np 2, .look 4, .np 5, .op 6, .op 8])) R))
noncomputable def qh.u2.f (k:Nat) (x0 x1 x2:Ad) (kn:Ad->Ad->Sl->Int->Int->M α):M α:=
 ldS ((x0.add 2).add 0) fun x5=>
 kn x1 x2 x5 (x5.len:Int) 0
noncomputable def qh.u2.c (R:IC):IC:=(.seq (.cut [2, 3, 14, 15, 16] (.ops 2 (zb Tryz.f14 2))) R)
noncomputable def qh.u3.f (k:Nat) (x0 x1:Ad) (x2:Sl) (x3 x4:Int) (kn:Ad->Ad->Sl->Int->Int->M α) (kx0:Ad->Ad->M α):M α:=
 cond (decide (x4 < x3)) (
  idxSl x2 x4 1 fun a7=>
  ldS (a7.add 0) fun x8=>
  ldS ((x1.add 2).add 0) fun x9=>
  qz.f k x8 fun r10=>
  ldS ((x1.add 2).add 0) fun y11=>
  need (decide (x9 = y11)) <|
  new [.slice r10] fun r12=>
  ldS ((x1.add 2).add 0) fun y13=>
  need (decide (x9 = y13)) <|
  yr x9 1 24 (⟨some r12, 1, 1, none⟩:Sl) fun x14=>
  st1 ((x1.add 2).add 0) (.slice x14) <|
  kn x0 x1 x2 x3 (w64 (x4 + 1))) (
  kx0 x0 x1)
noncomputable def qh.u3.c:IC:=(.seq (.ops 3 (zb Tryz.f14 3)) (.seq (.cond (.tmp 17) .skip (.exit 0 [2, 3])) (.seq (.block 1 (.seq (.ops 4 (zb Tryz.f14 4)) (.drawn 5 (zb Tryz.f14 5) true [.op 0, .op 1, .op 2, .op 3, .look 1, .op 4, .look 1, .op 5, .op 6, .op 7]))) (.cut [2, 3, 14, 15, 16] (.ops 6 (zb Tryz.f14 6))))))
noncomputable def qh.u4.l (k:Nat) (kx0:Ad->Ad->M α):Nat->Ad->Ad->Sl->Int->Int->M α
 | 0, _, _, _, _, _=>fail
 | j + 1, x0, x1, x2, x3, x4=>
  qh.u3.f k x0 x1 x2 x3 x4 (fun y0 y1 y2 y3 y4=>qh.u4.l k kx0 j y0 y1 y2 y3 y4) kx0
noncomputable abbrev qh.u4.f (k:Nat) (x0 x1:Ad) (x2:Sl) (x3 x4:Int) (kx0:Ad->Ad->M α):M α:=
 qh.u4.l k kx0 k x0 x1 x2 x3 x4
noncomputable def qh.u4.c:IC:=.loop [2, 3, 14, 15, 16] qh.u3.c
noncomputable abbrev qh.u5.f (k:Nat) (x0 x1:Ad) (x2:Sl) (x3 x4:Int) (kn:Ad->Ad->M α):M α:=
 qh.u4.f k x0 x1 x2 x3 x4 (fun y0 y1=>kn y0 y1)
noncomputable def qh.u5.c:IC:=.block 0 qh.u4.c
noncomputable abbrev qh.u6.f (k:Nat) (x0 x1 x2:Ad) (kn:Ad->Ad->M α):M α:=
 qh.u2.f k x0 x1 x2 (fun y0 y1 y2 y3 y4=>qh.u5.f k y0 y1 y2 y3 y4 kn)
noncomputable def qh.u6.c:IC:=qh.u2.c qh.u5.c
noncomputable def qh.u7.f (k:Nat) (x0 x1:Ad) (kr:Ad->M α):M α:=
 ldS (x1.add 0) fun x4=>
 ldS (x1.add 1) fun x5=>
 ldS (x1.add 2) fun x6=>
 st1 (x0.add 0) (.slice x4) <|
 st1 (x0.add 1) (.slice x5) <|
 st1 (x0.add 2) (.slice x6) <|
 kr x0
noncomputable def qh.u7.c:IC:=(.seq (.ops 7 (zb Tryz.f14 7)) (.ret [2]))
noncomputable abbrev qh.u8.f (k:Nat) (x0 x1 x2:Ad) (kr:Ad->M α):M α:=
 qh.u6.f k x0 x1 x2 (fun y0 y1=>qh.u7.f k y0 y1 kr)
noncomputable def qh.u8.c:IC:=(.seq qh.u6.c qh.u7.c)
noncomputable abbrev qh.u9.f (k:Nat) (x0 x1 x2:Sl) (kr:Ad->M α):M α:=
 qh.u1.f k x0 x1 x2 (fun y0 y1 y2=>qh.u8.f k y0 y1 y2 kr)
noncomputable def qh.u9.c:IC:=qh.u1.c qh.u8.c
noncomputable def qh.f:Nat->Sl->Sl->Sl->(Sl->Sl->Sl->M α)->M α
 | 0, _, _, _, _=>fail
 | k + 1, x0, x1, x2, ret=>
  qh.u9.f k x0 x1 x2 (fun y0=>
   ldS (y0.add 0) fun o501=>
   ldS (y0.add 1) fun o502=>
   ldS (y0.add 2) fun o503=>
   ret o501 o502 o503)
noncomputable def qu.u1.f (k:Nat) (x0:Sl) (kr:Ad->M α):M α:=
 new [.int .u64 0, .int .u64 0, .int .u64 0, .int .u64 0] fun x3=>
 qm.f k x0 fun r4 r5 r6 r7=>
 st1 (x3.add 0) (.int .u64 r4) <|
 st1 (x3.add 1) (.int .u64 r5) <|
 st1 (x3.add 2) (.int .u64 r6) <|
 st1 (x3.add 3) (.int .u64 r7) <|
 kr x3
noncomputable def qu.u1.c:IC:=(.seq (.ops 0 (zb Tryz.f15 0)) (.seq (.ops 1 (zb Tryz.f15 1)) (.ret [2])))
noncomputable def qu.f:Nat->Sl->(Int->Int->Int->Int->M α)->M α
 | 0, _, _=>fail
 | k + 1, x0, ret=>
  qu.u1.f k x0 (fun y0=>
   ldI .u64 (y0.add 0) fun o501=>
   ldI .u64 (y0.add 1) fun o502=>
   ldI .u64 (y0.add 2) fun o503=>
   ldI .u64 (y0.add 3) fun o504=>
   ret o501 o502 o503 o504)
noncomputable def qaa.u1.f (k:Nat) (x0 x1:Int) (x2 x3:Int) (x4 x5:Int) (x6 x7:Int) (kr:Bool->M α):M α:=
 new [.int .u64 x0, .int .u64 x1, .int .u64 x2, .int .u64 x3] fun s10=>
 new [.int .u64 x4, .int .u64 x5, .int .u64 x6, .int .u64 x7] fun t11=>
 ldI .u64 (s10.add 0) fun x12=>
 ldI .u64 (s10.add 1) fun x13=>
 ldI .u64 (s10.add 2) fun x14=>
 ldI .u64 (s10.add 3) fun x15=>
 ldI .u64 (t11.add 0) fun x16=>
 ldI .u64 (t11.add 1) fun x17=>
 ldI .u64 (t11.add 2) fun x18=>
 ldI .u64 (t11.add 3) fun x19=>
 qk.f k x12 x13 x14 x15 x16 x17 x18 x19 fun r20 r21 r22 r23=>
 kr ((decide (r20 = 0) && (decide (r21 = 0) && (decide (r22 = 0) && (decide (r23 = 0) && true)))))
noncomputable def qaa.u1.c:IC:=(.seq (.ops 0 (zb Tryz.f16 0)) (.seq (.ops 1 (zb Tryz.f16 1)) (.ret [4])))
noncomputable def qaa.f:Nat->Int->Int->Int->Int->Int->Int->Int->Int->(Bool->M α)->M α
 | 0, _, _, _, _, _, _, _, _, _=>fail
 | k + 1, x0, x1, x2, x3, x4, x5, x6, x7, ret=>
  qaa.u1.f k x0 x1 x2 x3 x4 x5 x6 x7 (fun y0=>
   ret y0)
noncomputable def qv.u1.f (k:Nat) (x0 x1 x2:Sl) (x3:Int) (kr:Bool->M α):M α:=
 new [.slice x0, .slice x1, .slice x2] fun g6=>
 qag.f k fun r7=>
 ldS (g6.add 0) fun x8=>
 ldS (g6.add 1) fun x9=>
 ldS (g6.add 2) fun x10=>
 qac.f k x8 x9 x10 fun r11=>
 cond (!r7) (
  kr r7) (
  cond (!r11) (
   kr r7) (
   cond (decide (x3 < 0)) (
    kr r7) (
    ldS ((g6.add 0).add 0) fun x12=>
    cond (decide ((x12.len:Int)≤x3)) (
     kr r7) (
     ldS ((g6.add 1).add 0) fun x13=>
     idxSl x13 x3 1 fun a14=>
     ldI .i64 (a14.add 0) fun x15=>
     cond (decide (7≤x15)) (
      kr r7) (
      ldS (g6.add 0) fun x16=>
      ldS (g6.add 1) fun x17=>
      ldS (g6.add 2) fun x18=>
      qc.f k x16 x17 x18 fun r19 r20 r21 r22 r23=>
      new [.slice Sl.nil, .slice Sl.nil, .slice Sl.nil, .slice Sl.nil] fun c24=>
      st1 (c24.add 0) (.slice r19) <|
      st1 (c24.add 1) (.slice r20) <|
      st1 (c24.add 2) (.slice r21) <|
      st1 (c24.add 3) (.slice r22) <|
      ldS (g6.add 0) fun x25=>
      ldS (g6.add 1) fun x26=>
      ldS (g6.add 2) fun x27=>
      qh.f k x25 x26 x27 fun r28 r29 r30=>
      new [.slice Sl.nil, .slice Sl.nil, .slice Sl.nil] fun h31=>
      st1 (h31.add 0) (.slice r28) <|
      st1 (h31.add 1) (.slice r29) <|
      st1 (h31.add 2) (.slice r30) <|
      ldS ((h31.add 1).add 0) fun x32=>
      idxSl x32 x3 1 fun a33=>
      ldI .i64 (a33.add 0) fun x34=>
      idxSl x32 x3 1 fun a35=>
      st1 (a35.add 0) (.int .i64 (w64 (x34 + 1))) <|
      ldS (h31.add 0) fun x36=>
      ldS (h31.add 1) fun x37=>
      ldS (h31.add 2) fun x38=>
      qc.f k x36 x37 x38 fun r39 r40 r41 r42 r43=>
      new [.slice Sl.nil, .slice Sl.nil, .slice Sl.nil, .slice Sl.nil] fun d44=>
      st1 (d44.add 0) (.slice r39) <|
      st1 (d44.add 1) (.slice r40) <|
      st1 (d44.add 2) (.slice r41) <|
      st1 (d44.add 3) (.slice r42) <|
      ldS ((h31.add 1).add 0) fun x45=>
      idxSl x45 x3 1 fun a46=>
      ldI .i64 (a46.add 0) fun x47=>
      cond (decide (Int.tmod x47 2 = 0)) (
       ldS ((((c24.add 0).add 0)).add 0) fun x48=>
       ldS ((((d44.add 0).add 0)).add 0) fun x49=>
       qu.f k x48 fun r50 r51 r52 r53=>
       ldS ((((d44.add 0).add 0)).add 0) fun y54=>
       need (decide (x49 = y54)) <|
       qu.f k x49 fun r55 r56 r57 r58=>
       qaa.f k r50 r51 r52 r53 r55 r56 r57 r58 fun r59=>
       kr r59) (
       ldS ((((d44.add 0).add 0)).add 0) fun x60=>
       ldS ((((c24.add 0).add 0)).add 0) fun x61=>
       qu.f k x60 fun r62 r63 r64 r65=>
       ldS ((((c24.add 0).add 0)).add 0) fun y66=>
       need (decide (x61 = y66)) <|
       qu.f k x61 fun r67 r68 r69 r70=>
       qaa.f k r62 r63 r64 r65 r67 r68 r69 r70 fun r71=>
       kr r71))))))
noncomputable def qv.u1.c:IC:=(.seq (.ops 0 (zb Tryz.f4 0)) (.seq (.ops 1 (zb Tryz.f4 1)) (.seq (.ops 2 (zb Tryz.f4 2)) (.seq (.seq (.ops 3 (zb Tryz.f4 3)) (.cond (.tmp 39) (.seq (.ops 4 (zb Tryz.f4 4)) (.ret [4])) .skip)) (.seq (.ops 5 (zb Tryz.f4 5)) (.seq (.ops 6 (zb Tryz.f4 6)) (.seq (.ops 7 (zb Tryz.f4 7)) (.seq (.ops 8 (zb Tryz.f4 8)) (.seq (.seq (.ops 9 (zb Tryz.f4 9)) (.cond (.tmp 66) (.seq (.drawn 10 (zb Tryz.f4 10) true [.op 0, .op 1, .op 2, .op 4, .op 5, .op 6, .op 3, .look 6, .op 7, .op 8, .op 9]) (.ret [4])) .skip)) (.seq (.drawn 11 (zb Tryz.f4 11) true [.op 0, .op 1, .op 2, .op 4, .op 5, .op 6, .op 3, .look 6, .op 7, .op 8, .op 9]) (.ret [4])))))))))))
noncomputable def qv.f:Nat->Sl->Sl->Sl->Int->(Bool->M α)->M α
 | 0, _, _, _, _, _=>fail
 | k + 1, x0, x1, x2, x3, ret=>
  qv.u1.f k x0 x1 x2 x3 (fun y0=>
   ret y0)
noncomputable def env_11 (k:Nat) (args:List V) (κ:Res->M α):M α:=match args with
 | []=>
   qag.f k (fun o0=>κ (.ret (.bool o0)))
 | _=>fail
noncomputable def env_89 (k:Nat) (args:List V) (κ:Res->M α):M α:=match args with
 | [a0]=>
   asI .u64 a0 fun x1=>
   qaf.f k x1 (fun o0=>κ (.ret (.int .i64 o0)))
 | _=>fail
noncomputable def env_44 (k:Nat) (args:List V) (κ:Res->M α):M α:=match args with
 | [a0]=>
   asAgg a0 fun l1=>
   zf l1 fun v2 l3=>
   asS v2 fun x4=>
   zf l3 fun v5 l6=>
   asS v5 fun x7=>
   zf l6 fun v8 l9=>
   asS v8 fun x10=>
   jq l9 <|
   qe.f k x4 x7 x10 (fun o0 o1=>κ (.ret (.tuple [.int .i64 o0, .int .i64 o1])))
 | _=>fail
noncomputable def env_12 (k:Nat) (args:List V) (κ:Res->M α):M α:=match args with
 | [a0]=>
   asAgg a0 fun l1=>
   zf l1 fun v2 l3=>
   asS v2 fun x4=>
   zf l3 fun v5 l6=>
   asS v5 fun x7=>
   zf l6 fun v8 l9=>
   asS v8 fun x10=>
   jq l9 <|
   qac.f k x4 x7 x10 (fun o0=>κ (.ret (.bool o0)))
 | _=>fail
noncomputable def env_150 (k:Nat) (args:List V) (κ:Res->M α):M α:=match args with
 | [a0, a1]=>
   asI .u64 a0 fun x1=>
   asI .u64 a1 fun x2=>
   qad.f k x1 x2 (fun o0 o1=>κ (.ret (.tuple [.int .u64 o0, .int .u64 o1])))
 | _=>fail
noncomputable def env_88 (k:Nat) (args:List V) (κ:Res->M α):M α:=match args with
 | [a0, a1]=>
   asI .u64 a0 fun x1=>
   asI .u64 a1 fun x2=>
   qab.f k x1 x2 (fun o0 o1=>κ (.ret (.tuple [.int .u64 o0, .int .u64 o1])))
 | _=>fail
noncomputable def env_45 (k:Nat) (args:List V) (κ:Res->M α):M α:=match args with
 | [a0, a1]=>
   asS a0 fun x1=>
   asI .i64 a1 fun x2=>
   qr.f k x1 x2 (fun o0=>κ (.ret (.slice o0)))
 | _=>fail
noncomputable def env_19 (k:Nat) (args:List V) (κ:Res->M α):M α:=match args with
 | [a0]=>
   asI .i64 a0 fun x1=>
   qn.f k x1 (fun o0 o1 o2 o3=>κ (.ret (.agg [.int .u64 o0, .int .u64 o1, .int .u64 o2, .int .u64 o3])))
 | _=>fail
noncomputable def env_56 (k:Nat) (args:List V) (κ:Res->M α):M α:=match args with
 | [a0]=>
   asI .u64 a0 fun x1=>
   qae.f k x1 (fun o0=>κ (.ret (.int .i64 o0)))
 | _=>fail
noncomputable def env_23 (k:Nat) (args:List V) (κ:Res->M α):M α:=match args with
 | [a0]=>
   asAgg a0 fun l1=>
   zf l1 fun v2 l3=>
   asI .u64 v2 fun x4=>
   zf l3 fun v5 l6=>
   asI .u64 v5 fun x7=>
   zf l6 fun v8 l9=>
   asI .u64 v8 fun x10=>
   zf l9 fun v11 l12=>
   asI .u64 v11 fun x13=>
   jq l12 <|
   qq.f k x4 x7 x10 x13 (fun o0=>κ (.ret (.int .i64 o0)))
 | _=>fail
noncomputable def env_51 (k:Nat) (args:List V) (κ:Res->M α):M α:=match args with
 | [a0]=>
   asAgg a0 fun l1=>
   zf l1 fun v2 l3=>
   asI .u64 v2 fun x4=>
   zf l3 fun v5 l6=>
   asI .u64 v5 fun x7=>
   zf l6 fun v8 l9=>
   asI .u64 v8 fun x10=>
   zf l9 fun v11 l12=>
   asI .u64 v11 fun x13=>
   jq l12 <|
   qf.f k x4 x7 x10 x13 (fun o0=>κ (.ret (.slice o0)))
 | _=>fail
noncomputable def env_31 (k:Nat) (args:List V) (κ:Res->M α):M α:=match args with
 | [a0, a1]=>
   asAgg a0 fun l1=>
   zf l1 fun v2 l3=>
   asI .u64 v2 fun x4=>
   zf l3 fun v5 l6=>
   asI .u64 v5 fun x7=>
   zf l6 fun v8 l9=>
   asI .u64 v8 fun x10=>
   zf l9 fun v11 l12=>
   asI .u64 v11 fun x13=>
   jq l12 <|
   asI .i64 a1 fun x14=>
   qy.f k x4 x7 x10 x13 x14 (fun o0 o1 o2 o3=>κ (.ret (.agg [.int .u64 o0, .int .u64 o1, .int .u64 o2, .int .u64 o3])))
 | _=>fail
noncomputable def env_52 (k:Nat) (args:List V) (κ:Res->M α):M α:=match args with
 | [a0]=>
   asS a0 fun x1=>
   qm.f k x1 (fun o0 o1 o2 o3=>κ (.ret (.agg [.int .u64 o0, .int .u64 o1, .int .u64 o2, .int .u64 o3])))
 | _=>fail
noncomputable def env_48 (k:Nat) (args:List V) (κ:Res->M α):M α:=match args with
 | [a0, a1]=>
   asAgg a0 fun l1=>
   zf l1 fun v2 l3=>
   asS v2 fun x4=>
   zf l3 fun v5 l6=>
   asS v5 fun x7=>
   zf l6 fun v8 l9=>
   asS v8 fun x10=>
   jq l9 <|
   asAgg a1 fun l11=>
   zf l11 fun v12 l13=>
   asI .u64 v12 fun x14=>
   zf l13 fun v15 l16=>
   asI .u64 v15 fun x17=>
   zf l16 fun v18 l19=>
   asI .u64 v18 fun x20=>
   zf l19 fun v21 l22=>
   asI .u64 v21 fun x23=>
   jq l22 <|
   qg.f k x4 x7 x10 x14 x17 x20 x23 (fun o0 o1 o2 o3=>κ (.ret (.agg [.int .u64 o0, .int .u64 o1, .int .u64 o2, .int .u64 o3])))
 | _=>fail
noncomputable def env_49 (k:Nat) (args:List V) (κ:Res->M α):M α:=match args with
 | [a0]=>
   asAgg a0 fun l1=>
   zf l1 fun v2 l3=>
   asI .u64 v2 fun x4=>
   zf l3 fun v5 l6=>
   asI .u64 v5 fun x7=>
   zf l6 fun v8 l9=>
   asI .u64 v8 fun x10=>
   zf l9 fun v11 l12=>
   asI .u64 v11 fun x13=>
   jq l12 <|
   qp.f k x4 x7 x10 x13 (fun o0=>κ (.ret (.int .i64 o0)))
 | _=>fail
noncomputable def env_22 (k:Nat) (args:List V) (κ:Res->M α):M α:=match args with
 | [a0, a1]=>
   asAgg a0 fun l1=>
   zf l1 fun v2 l3=>
   asI .u64 v2 fun x4=>
   zf l3 fun v5 l6=>
   asI .u64 v5 fun x7=>
   zf l6 fun v8 l9=>
   asI .u64 v8 fun x10=>
   zf l9 fun v11 l12=>
   asI .u64 v11 fun x13=>
   jq l12 <|
   asAgg a1 fun l14=>
   zf l14 fun v15 l16=>
   asI .u64 v15 fun x17=>
   zf l16 fun v18 l19=>
   asI .u64 v18 fun x20=>
   zf l19 fun v21 l22=>
   asI .u64 v21 fun x23=>
   zf l22 fun v24 l25=>
   asI .u64 v24 fun x26=>
   jq l25 <|
   qj.f k x4 x7 x10 x13 x17 x20 x23 x26 (fun o0 o1 o2 o3=>κ (.ret (.agg [.int .u64 o0, .int .u64 o1, .int .u64 o2, .int .u64 o3])))
 | _=>fail
noncomputable def env_21 (k:Nat) (args:List V) (κ:Res->M α):M α:=match args with
 | [a0, a1]=>
   asAgg a0 fun l1=>
   zf l1 fun v2 l3=>
   asI .u64 v2 fun x4=>
   zf l3 fun v5 l6=>
   asI .u64 v5 fun x7=>
   zf l6 fun v8 l9=>
   asI .u64 v8 fun x10=>
   zf l9 fun v11 l12=>
   asI .u64 v11 fun x13=>
   jq l12 <|
   asI .i64 a1 fun x14=>
   qw.f k x4 x7 x10 x13 x14 (fun o0=>κ (.ret (.bool o0)))
 | _=>fail
noncomputable def env_50 (k:Nat) (args:List V) (κ:Res->M α):M α:=match args with
 | [a0, a1, a2, a3]=>
   asAgg a0 fun l1=>
   zf l1 fun v2 l3=>
   asS v2 fun x4=>
   zf l3 fun v5 l6=>
   asS v5 fun x7=>
   zf l6 fun v8 l9=>
   asS v8 fun x10=>
   jq l9 <|
   asAgg a1 fun l11=>
   zf l11 fun v12 l13=>
   asI .u64 v12 fun x14=>
   zf l13 fun v15 l16=>
   asI .u64 v15 fun x17=>
   zf l16 fun v18 l19=>
   asI .u64 v18 fun x20=>
   zf l19 fun v21 l22=>
   asI .u64 v21 fun x23=>
   jq l22 <|
   asI .i64 a2 fun x24=>
   asAgg a3 fun l25=>
   zf l25 fun v26 l27=>
   asI .u64 v26 fun x28=>
   zf l27 fun v29 l30=>
   asI .u64 v29 fun x31=>
   zf l30 fun v32 l33=>
   asI .u64 v32 fun x34=>
   zf l33 fun v35 l36=>
   asI .u64 v35 fun x37=>
   jq l36 <|
   qa.f k x4 x7 x10 x14 x17 x20 x23 x24 x28 x31 x34 x37 (fun o0 o1 o2 o3 o4=>κ (.ret (.tuple [.agg [.int .u64 o0, .int .u64 o1, .int .u64 o2, .int .u64 o3], .slice o4])))
 | _=>fail
noncomputable def env_20 (k:Nat) (args:List V) (κ:Res->M α):M α:=match args with
 | [a0, a1]=>
   asAgg a0 fun l1=>
   zf l1 fun v2 l3=>
   asI .u64 v2 fun x4=>
   zf l3 fun v5 l6=>
   asI .u64 v5 fun x7=>
   zf l6 fun v8 l9=>
   asI .u64 v8 fun x10=>
   zf l9 fun v11 l12=>
   asI .u64 v11 fun x13=>
   jq l12 <|
   asAgg a1 fun l14=>
   zf l14 fun v15 l16=>
   asI .u64 v15 fun x17=>
   zf l16 fun v18 l19=>
   asI .u64 v18 fun x20=>
   zf l19 fun v21 l22=>
   asI .u64 v21 fun x23=>
   zf l22 fun v24 l25=>
   asI .u64 v24 fun x26=>
   jq l25 <|
   qk.f k x4 x7 x10 x13 x17 x20 x23 x26 (fun o0 o1 o2 o3=>κ (.ret (.agg [.int .u64 o0, .int .u64 o1, .int .u64 o2, .int .u64 o3])))
 | _=>fail
noncomputable def env_46 (k:Nat) (args:List V) (κ:Res->M α):M α:=match args with
 | [a0, a1, a2]=>
   asI .i64 a0 fun x1=>
   asS a1 fun x2=>
   asP a2 fun x3=>
   asSome x3 fun p4=>
   qs.f k x1 x2 p4 (κ (.ret (.tuple [])))
 | _=>fail
noncomputable def env_53 (k:Nat) (args:List V) (κ:Res->M α):M α:=match args with
 | [a0, a1]=>
   asAgg a0 fun l1=>
   zf l1 fun v2 l3=>
   asI .u64 v2 fun x4=>
   zf l3 fun v5 l6=>
   asI .u64 v5 fun x7=>
   zf l6 fun v8 l9=>
   asI .u64 v8 fun x10=>
   zf l9 fun v11 l12=>
   asI .u64 v11 fun x13=>
   jq l12 <|
   asAgg a1 fun l14=>
   zf l14 fun v15 l16=>
   asI .u64 v15 fun x17=>
   zf l16 fun v18 l19=>
   asI .u64 v18 fun x20=>
   zf l19 fun v21 l22=>
   asI .u64 v21 fun x23=>
   zf l22 fun v24 l25=>
   asI .u64 v24 fun x26=>
   jq l25 <|
   ql.f k x4 x7 x10 x13 x17 x20 x23 x26 (fun o0 o1 o2 o3=>κ (.ret (.agg [.int .u64 o0, .int .u64 o1, .int .u64 o2, .int .u64 o3])))
 | _=>fail
noncomputable def env_47 (k:Nat) (args:List V) (κ:Res->M α):M α:=match args with
 | [a0, a1, a2, a3, a4, a5, a6, a7]=>
   asAgg a0 fun l1=>
   zf l1 fun v2 l3=>
   asI .u64 v2 fun x4=>
   zf l3 fun v5 l6=>
   asI .u64 v5 fun x7=>
   zf l6 fun v8 l9=>
   asI .u64 v8 fun x10=>
   zf l9 fun v11 l12=>
   asI .u64 v11 fun x13=>
   jq l12 <|
   asI .i64 a1 fun x14=>
   asP a2 fun x15=>
   asSome x15 fun p16=>
   asP a3 fun x17=>
   asSome x17 fun p18=>
   asP a4 fun x19=>
   asSome x19 fun p20=>
   asP a5 fun x21=>
   asSome x21 fun p22=>
   asP a6 fun x23=>
   asSome x23 fun p24=>
   asP a7 fun x25=>
   asSome x25 fun p26=>
   qd.f k x4 x7 x10 x13 x14 p16 p18 p20 p22 p24 p26 (fun o0 o1 o2 o3 o4 o5 o6 o7=>κ (.ret (.agg [.int .u64 o0, .int .u64 o1, .int .u64 o2, .int .u64 o3, .int .u64 o4, .int .u64 o5, .int .u64 o6, .int .u64 o7])))
 | _=>fail
noncomputable def env_13 (k:Nat) (args:List V) (κ:Res->M α):M α:=match args with
 | [a0]=>
   asAgg a0 fun l1=>
   zf l1 fun v2 l3=>
   asS v2 fun x4=>
   zf l3 fun v5 l6=>
   asS v5 fun x7=>
   zf l6 fun v8 l9=>
   asS v8 fun x10=>
   jq l9 <|
   qc.f k x4 x7 x10 (fun o0 o1 o2 o3 o4=>κ (.ret (.tuple [.agg [.slice o0, .slice o1, .slice o2, .slice o3], .int .i64 o4])))
 | _=>fail
noncomputable def env_54 (k:Nat) (args:List V) (κ:Res->M α):M α:=match args with
 | [a0]=>
   asS a0 fun x1=>
   qz.f k x1 (fun o0=>κ (.ret (.slice o0)))
 | _=>fail
noncomputable def env_14 (k:Nat) (args:List V) (κ:Res->M α):M α:=match args with
 | [a0]=>
   asAgg a0 fun l1=>
   zf l1 fun v2 l3=>
   asS v2 fun x4=>
   zf l3 fun v5 l6=>
   asS v5 fun x7=>
   zf l6 fun v8 l9=>
   asS v8 fun x10=>
   jq l9 <|
   qh.f k x4 x7 x10 (fun o0 o1 o2=>κ (.ret (.agg [.slice o0, .slice o1, .slice o2])))
 | _=>fail
noncomputable def env_15 (k:Nat) (args:List V) (κ:Res->M α):M α:=match args with
 | [a0]=>
   asS a0 fun x1=>
   qu.f k x1 (fun o0 o1 o2 o3=>κ (.ret (.agg [.int .u64 o0, .int .u64 o1, .int .u64 o2, .int .u64 o3])))
 | _=>fail
noncomputable def env_16 (k:Nat) (args:List V) (κ:Res->M α):M α:=match args with
 | [a0, a1]=>
   asAgg a0 fun l1=>
   zf l1 fun v2 l3=>
   asI .u64 v2 fun x4=>
   zf l3 fun v5 l6=>
   asI .u64 v5 fun x7=>
   zf l6 fun v8 l9=>
   asI .u64 v8 fun x10=>
   zf l9 fun v11 l12=>
   asI .u64 v11 fun x13=>
   jq l12 <|
   asAgg a1 fun l14=>
   zf l14 fun v15 l16=>
   asI .u64 v15 fun x17=>
   zf l16 fun v18 l19=>
   asI .u64 v18 fun x20=>
   zf l19 fun v21 l22=>
   asI .u64 v21 fun x23=>
   zf l22 fun v24 l25=>
   asI .u64 v24 fun x26=>
   jq l25 <|
   qaa.f k x4 x7 x10 x13 x17 x20 x23 x26 (fun o0=>κ (.ret (.bool o0)))
 | _=>fail
noncomputable def env_4 (k:Nat) (args:List V) (κ:Res->M α):M α:=match args with
 | [a0, a1]=>
   asAgg a0 fun l1=>
   zf l1 fun v2 l3=>
   asS v2 fun x4=>
   zf l3 fun v5 l6=>
   asS v5 fun x7=>
   zf l6 fun v8 l9=>
   asS v8 fun x10=>
   jq l9 <|
   asI .i64 a1 fun x11=>
   qv.f k x4 x7 x10 x11 (fun o0=>κ (.ret (.bool o0)))
 | _=>fail
noncomputable def env (k:Nat):Call α:=fun f args κ=>match f with
 | 11=>env_11 k args κ
 | 89=>env_89 k args κ
 | 44=>env_44 k args κ
 | 12=>env_12 k args κ
 | 150=>env_150 k args κ
 | 88=>env_88 k args κ
 | 45=>env_45 k args κ
 | 19=>env_19 k args κ
 | 56=>env_56 k args κ
 | 23=>env_23 k args κ
 | 51=>env_51 k args κ
 | 31=>env_31 k args κ
 | 52=>env_52 k args κ
 | 48=>env_48 k args κ
 | 49=>env_49 k args κ
 | 22=>env_22 k args κ
 | 21=>env_21 k args κ
 | 50=>env_50 k args κ
 | 20=>env_20 k args κ
 | 46=>env_46 k args κ
 | 53=>env_53 k args κ
 | 47=>env_47 k args κ
 | 13=>env_13 k args κ
 | 54=>env_54 k args κ
 | 14=>env_14 k args κ
 | 15=>env_15 k args κ
 | 16=>env_16 k args κ
 | 4=>env_4 k args κ
 | _=>fail
noncomputable abbrev eC (k:Nat):IC->Frame->KF α->M α:=fun c ρ K=>evC T (env k) k c ρ K
noncomputable def qe.c:IC:=qe.u18.c
noncomputable def qe.res:List ResultVar:=[(.tmp 2), (.tmp 3)]
theorem qe.u1.ok (k:Nat) (x0 x1 x2:Sl) (R:IC) (K:KF α) :
  eC k (qe.u1.c R) (za [(0, .agg [.slice x0, .slice x1, .slice x2])]) K =
   qe.u1.f k x0 x1 x2 (fun y0 y1=>eC k R (za [(1, .ptr (some y0)), (4, .int .i64 y1)]) K) (fun y0 y1=>K .ret (fr0 y0 y1)):=by kernel_rfl
theorem qe.u2.ok (k:Nat) (x0:Ad) (x1:Int) (R:IC) (K:KF α) :
  eC k (qe.u2.c R) (za [(1, .ptr (some x0)), (4, .int .i64 x1)]) K =
   qe.u2.f k x0 x1 (fun y0 y1 y2 y3 y4=>eC k R (za [(1, .ptr (some y0)), (4, .int .i64 y1), (33, .slice y2), (34, .int .i64 y3), (35, .int .i64 y4)]) K):=by kernel_rfl
theorem qe.u3.ok (k:Nat) (x0:Ad) (x1:Int) (x2:Sl) (x3 x4:Int) (R:IC) (K:KF α) :
  eC k (qe.u3.c R) (za [(1, .ptr (some x0)), (4, .int .i64 x1), (33, .slice x2), (34, .int .i64 x3), (35, .int .i64 x4)]) K =
   qe.u3.f k x0 x1 x2 x3 x4 (fun y0 y1 y2 y3 y4=>eC k R (za [(1, .ptr (some y0)), (4, .int .i64 y1), (33, .slice y2), (34, .int .i64 y3), (35, .int .i64 y4)]) K) (K (.exit 1) (za [])):=by kernel_rfl
theorem qe.u4.ok (k:Nat) (x0:Ad) (x1:Int) (x2:Sl) (x3 x4:Int) (R:IC) (K:KF α) :
  eC k (qe.u4.c R) (za [(1, .ptr (some x0)), (4, .int .i64 x1), (33, .slice x2), (34, .int .i64 x3), (35, .int .i64 x4)]) K =
   qe.u4.f k x0 x1 x2 x3 x4 (fun y0 y1 y2 y3 y4 y5 y6 y7 y8 y9=>eC k R (za [(1, .ptr (some y0)), (4, .int .i64 y1), (5, .int .i64 y2), (6, .slice y3), (33, .slice y4), (34, .int .i64 y5), (35, .int .i64 y6), (77, .slice y7), (78, .int .i64 y8), (79, .int .i64 y9)]) K) (fun y0 y1=>K .ret (fr0 y0 y1)):=by kernel_rfl
theorem qe.u5.ok (k:Nat) (x0:Ad) (x1 x2:Int) (x3 x4:Sl) (x5 x6:Int) (x7:Sl) (x8 x9:Int) (K:KF α) :
  eC k qe.u5.c (za [(1, .ptr (some x0)), (4, .int .i64 x1), (5, .int .i64 x2), (6, .slice x3), (33, .slice x4), (34, .int .i64 x5), (35, .int .i64 x6), (77, .slice x7), (78, .int .i64 x8), (79, .int .i64 x9)]) K =
   qe.u5.f k x0 x1 x2 x3 x4 x5 x6 x7 x8 x9 (fun y0 y1 y2 y3 y4 y5 y6 y7 y8 y9=>K .normal (za [(1, .ptr (some y0)), (4, .int .i64 y1), (5, .int .i64 y2), (6, .slice y3), (33, .slice y4), (34, .int .i64 y5), (35, .int .i64 y6), (77, .slice y7), (78, .int .i64 y8), (79, .int .i64 y9)])) (fun y0 y1=>K .ret (fr0 y0 y1)) (fun y0 y1 y2 y3 y4=>K (.exit 4) (za [(1, .ptr (some y0)), (4, .int .i64 y1), (33, .slice y2), (34, .int .i64 y3), (35, .int .i64 y4)])):=by kernel_rfl
theorem qe.u6.ls (k:Nat) (kr:Int->Int->M α) (kx4:Ad->Int->Sl->Int->Int->M α) (j:Nat) (x0:Ad) (x1 x2:Int) (x3 x4:Sl) (x5 x6:Int) (x7:Sl) (x8 x9:Int):qe.u6.l k kr kx4 (j + 1) x0 x1 x2 x3 x4 x5 x6 x7 x8 x9 =
 qe.u5.f k x0 x1 x2 x3 x4 x5 x6 x7 x8 x9 (fun y0 y1 y2 y3 y4 y5 y6 y7 y8 y9=>qe.u6.l k kr kx4 j y0 y1 y2 y3 y4 y5 y6 y7 y8 y9) kr kx4:=rfl
theorem qe.u6.okl (k:Nat) (K:KF α):∀ (j:Nat) (x0:Ad) (x1 x2:Int) (x3 x4:Sl) (x5 x6:Int) (x7:Sl) (x8 x9:Int),
  zu (eC k qe.u5.c) [1, 4, 5, 6, 33, 34, 35, 77, 78, 79] j (za [(1, .ptr (some x0)), (4, .int .i64 x1), (5, .int .i64 x2), (6, .slice x3), (33, .slice x4), (34, .int .i64 x5), (35, .int .i64 x6), (77, .slice x7), (78, .int .i64 x8), (79, .int .i64 x9)]) K = qe.u6.l k (fun y0 y1=>K .ret (fr0 y0 y1)) (fun y0 y1 y2 y3 y4=>K (.exit 4) (za [(1, .ptr (some y0)), (4, .int .i64 y1), (33, .slice y2), (34, .int .i64 y3), (35, .int .i64 y4)])) j x0 x1 x2 x3 x4 x5 x6 x7 x8 x9
 | 0, _, _, _, _, _, _, _, _, _, _=>rfl
 | j + 1, x0, x1, x2, x3, x4, x5, x6, x7, x8, x9=>by
   have h:=qe.u5.ok k x0 x1 x2 x3 x4 x5 x6 x7 x8 x9 (seqK (fun ρ=>zu (eC k qe.u5.c) [1, 4, 5, 6, 33, 34, 35, 77, 78, 79] j ρ K) K)
   simp only [zn, zq, zp, zj, qe.u6.okl k K j] at h
   exact (zy (by kernel_rfl) h).trans (qe.u6.ls k (fun y0 y1=>K .ret (fr0 y0 y1)) (fun y0 y1 y2 y3 y4=>K (.exit 4) (za [(1, .ptr (some y0)), (4, .int .i64 y1), (33, .slice y2), (34, .int .i64 y3), (35, .int .i64 y4)])) j x0 x1 x2 x3 x4 x5 x6 x7 x8 x9).symm
theorem qe.u6.ok (k:Nat) (x0:Ad) (x1 x2:Int) (x3 x4:Sl) (x5 x6:Int) (x7:Sl) (x8 x9:Int) (K:KF α) :
  eC k qe.u6.c (za [(1, .ptr (some x0)), (4, .int .i64 x1), (5, .int .i64 x2), (6, .slice x3), (33, .slice x4), (34, .int .i64 x5), (35, .int .i64 x6), (77, .slice x7), (78, .int .i64 x8), (79, .int .i64 x9)]) K =
   qe.u6.f k x0 x1 x2 x3 x4 x5 x6 x7 x8 x9 (fun y0 y1=>K .ret (fr0 y0 y1)) (fun y0 y1 y2 y3 y4=>K (.exit 4) (za [(1, .ptr (some y0)), (4, .int .i64 y1), (33, .slice y2), (34, .int .i64 y3), (35, .int .i64 y4)])):=
 jo.trans <| (zx (body:=eC k qe.u5.c) (keep:=[1, 4, 5, 6, 33, 34, 35, 77, 78, 79]) (ρ:=(za [(1, .ptr (some x0)), (4, .int .i64 x1), (5, .int .i64 x2), (6, .slice x3), (33, .slice x4), (34, .int .i64 x5), (35, .int .i64 x6), (77, .slice x7), (78, .int .i64 x8), (79, .int .i64 x9)])) (ρ':=(za [(1, .ptr (some x0)), (4, .int .i64 x1), (5, .int .i64 x2), (6, .slice x3), (33, .slice x4), (34, .int .i64 x5), (35, .int .i64 x6), (77, .slice x7), (78, .int .i64 x8), (79, .int .i64 x9)])) (by kernel_rfl) k K).trans (qe.u6.okl k K k x0 x1 x2 x3 x4 x5 x6 x7 x8 x9)
theorem qe.u7.ok (k:Nat) (x0:Ad) (x1 x2:Int) (x3 x4:Sl) (x5 x6:Int) (x7:Sl) (x8 x9:Int) (K:KF α) :
  eC k qe.u7.c (za [(1, .ptr (some x0)), (4, .int .i64 x1), (5, .int .i64 x2), (6, .slice x3), (33, .slice x4), (34, .int .i64 x5), (35, .int .i64 x6), (77, .slice x7), (78, .int .i64 x8), (79, .int .i64 x9)]) K =
   qe.u7.f k x0 x1 x2 x3 x4 x5 x6 x7 x8 x9 (fun y0 y1 y2 y3 y4=>K .normal (za [(1, .ptr (some y0)), (4, .int .i64 y1), (33, .slice y2), (34, .int .i64 y3), (35, .int .i64 y4)])) (fun y0 y1=>K .ret (fr0 y0 y1)):=
 (ja.trans (qe.u6.ok k x0 x1 x2 x3 x4 x5 x6 x7 x8 x9 (jp 4 K))).trans (by kernel_rfl)
theorem qe.u8.ok (k:Nat) (x0:Ad) (x1:Int) (x2:Sl) (x3 x4:Int) (K:KF α) :
  eC k qe.u8.c (za [(1, .ptr (some x0)), (4, .int .i64 x1), (33, .slice x2), (34, .int .i64 x3), (35, .int .i64 x4)]) K =
   qe.u8.f k x0 x1 x2 x3 x4 (fun y0 y1 y2 y3 y4=>K .normal (za [(1, .ptr (some y0)), (4, .int .i64 y1), (33, .slice y2), (34, .int .i64 y3), (35, .int .i64 y4)])) (fun y0 y1=>K .ret (fr0 y0 y1)):=
 (qe.u4.ok k x0 x1 x2 x3 x4 qe.u7.c K).trans
  (congrArg (fun z=>qe.u4.f k x0 x1 x2 x3 x4 z (fun y0 y1=>K .ret (fr0 y0 y1))) (funext fun y0=>(funext fun y1=>(funext fun y2=>(funext fun y3=>(funext fun y4=>(funext fun y5=>(funext fun y6=>(funext fun y7=>(funext fun y8=>(funext fun y9=>qe.u7.ok k y0 y1 y2 y3 y4 y5 y6 y7 y8 y9 K)))))))))))
theorem qe.u9.ok (k:Nat) (x0:Ad) (x1:Int) (x2:Sl) (x3 x4:Int) (K:KF α) :
  eC k qe.u9.c (za [(1, .ptr (some x0)), (4, .int .i64 x1), (33, .slice x2), (34, .int .i64 x3), (35, .int .i64 x4)]) K =
   qe.u9.f k x0 x1 x2 x3 x4 (fun y0 y1 y2 y3 y4=>K .normal (za [(1, .ptr (some y0)), (4, .int .i64 y1), (33, .slice y2), (34, .int .i64 y3), (35, .int .i64 y4)])) (fun y0 y1=>K .ret (fr0 y0 y1)):=
 (ja.trans (qe.u8.ok k x0 x1 x2 x3 x4 (jp 2 K))).trans (by kernel_rfl)
theorem qe.u10.ok (k:Nat) (x0:Ad) (x1:Int) (x2:Sl) (x3 x4:Int) (K:KF α) :
  eC k qe.u10.c (za [(1, .ptr (some x0)), (4, .int .i64 x1), (33, .slice x2), (34, .int .i64 x3), (35, .int .i64 x4)]) K =
   qe.u10.f k x0 x1 x2 x3 x4 (fun y0 y1 y2 y3 y4=>K .normal (za [(1, .ptr (some y0)), (4, .int .i64 y1), (33, .slice y2), (34, .int .i64 y3), (35, .int .i64 y4)])):=by kernel_rfl
theorem qe.u11.ok (k:Nat) (x0:Ad) (x1:Int) (x2:Sl) (x3 x4:Int) (K:KF α) :
  eC k qe.u11.c (za [(1, .ptr (some x0)), (4, .int .i64 x1), (33, .slice x2), (34, .int .i64 x3), (35, .int .i64 x4)]) K =
   qe.u11.f k x0 x1 x2 x3 x4 (fun y0 y1 y2 y3 y4=>K .normal (za [(1, .ptr (some y0)), (4, .int .i64 y1), (33, .slice y2), (34, .int .i64 y3), (35, .int .i64 y4)])) (fun y0 y1=>K .ret (fr0 y0 y1)):=
 by
  have h:=qe.u9.ok k x0 x1 x2 x3 x4 (seqK (fun ρ=>eC k qe.u10.c ρ K) K)
  simp only [zj, zn, zq, zp, qe.u10.ok] at h
  exact jd h
theorem qe.u12.ok (k:Nat) (x0:Ad) (x1:Int) (x2:Sl) (x3 x4:Int) (K:KF α) :
  eC k qe.u12.c (za [(1, .ptr (some x0)), (4, .int .i64 x1), (33, .slice x2), (34, .int .i64 x3), (35, .int .i64 x4)]) K =
   qe.u12.f k x0 x1 x2 x3 x4 (fun y0 y1 y2 y3 y4=>K .normal (za [(1, .ptr (some y0)), (4, .int .i64 y1), (33, .slice y2), (34, .int .i64 y3), (35, .int .i64 y4)])) (fun y0 y1=>K .ret (fr0 y0 y1)) (K (.exit 1) (za [])):=
 (qe.u3.ok k x0 x1 x2 x3 x4 qe.u11.c K).trans
  (congrArg (fun z=>qe.u3.f k x0 x1 x2 x3 x4 z (K (.exit 1) (za []))) (funext fun y0=>(funext fun y1=>(funext fun y2=>(funext fun y3=>(funext fun y4=>qe.u11.ok k y0 y1 y2 y3 y4 K))))))
theorem qe.u13.ls (k:Nat) (kr:Int->Int->M α) (kx1:M α) (j:Nat) (x0:Ad) (x1:Int) (x2:Sl) (x3 x4:Int):qe.u13.l k kr kx1 (j + 1) x0 x1 x2 x3 x4 =
 qe.u12.f k x0 x1 x2 x3 x4 (fun y0 y1 y2 y3 y4=>qe.u13.l k kr kx1 j y0 y1 y2 y3 y4) kr kx1:=rfl
theorem qe.u13.okl (k:Nat) (K:KF α):∀ (j:Nat) (x0:Ad) (x1:Int) (x2:Sl) (x3 x4:Int),
  zu (eC k qe.u12.c) [1, 4, 33, 34, 35] j (za [(1, .ptr (some x0)), (4, .int .i64 x1), (33, .slice x2), (34, .int .i64 x3), (35, .int .i64 x4)]) K = qe.u13.l k (fun y0 y1=>K .ret (fr0 y0 y1)) (K (.exit 1) (za [])) j x0 x1 x2 x3 x4
 | 0, _, _, _, _, _=>rfl
 | j + 1, x0, x1, x2, x3, x4=>by
   have h:=qe.u12.ok k x0 x1 x2 x3 x4 (seqK (fun ρ=>zu (eC k qe.u12.c) [1, 4, 33, 34, 35] j ρ K) K)
   simp only [zn, zq, zp, zj, qe.u13.okl k K j] at h
   exact (zy (by kernel_rfl) h).trans (qe.u13.ls k (fun y0 y1=>K .ret (fr0 y0 y1)) (K (.exit 1) (za [])) j x0 x1 x2 x3 x4).symm
theorem qe.u13.ok (k:Nat) (x0:Ad) (x1:Int) (x2:Sl) (x3 x4:Int) (K:KF α) :
  eC k qe.u13.c (za [(1, .ptr (some x0)), (4, .int .i64 x1), (33, .slice x2), (34, .int .i64 x3), (35, .int .i64 x4)]) K =
   qe.u13.f k x0 x1 x2 x3 x4 (fun y0 y1=>K .ret (fr0 y0 y1)) (K (.exit 1) (za [])):=
 jo.trans <| (zx (body:=eC k qe.u12.c) (keep:=[1, 4, 33, 34, 35]) (ρ:=(za [(1, .ptr (some x0)), (4, .int .i64 x1), (33, .slice x2), (34, .int .i64 x3), (35, .int .i64 x4)])) (ρ':=(za [(1, .ptr (some x0)), (4, .int .i64 x1), (33, .slice x2), (34, .int .i64 x3), (35, .int .i64 x4)])) (by kernel_rfl) k K).trans (qe.u13.okl k K k x0 x1 x2 x3 x4)
theorem qe.u14.ok (k:Nat) (x0:Ad) (x1:Int) (x2:Sl) (x3 x4:Int) (K:KF α) :
  eC k qe.u14.c (za [(1, .ptr (some x0)), (4, .int .i64 x1), (33, .slice x2), (34, .int .i64 x3), (35, .int .i64 x4)]) K =
   qe.u14.f k x0 x1 x2 x3 x4 (K .normal (za [])) (fun y0 y1=>K .ret (fr0 y0 y1)):=
 (ja.trans (qe.u13.ok k x0 x1 x2 x3 x4 (jp 1 K))).trans (by kernel_rfl)
theorem qe.u15.ok (k:Nat) (x0:Ad) (x1:Int) (K:KF α) :
  eC k qe.u15.c (za [(1, .ptr (some x0)), (4, .int .i64 x1)]) K =
   qe.u15.f k x0 x1 (K .normal (za [])) (fun y0 y1=>K .ret (fr0 y0 y1)):=
 (qe.u2.ok k x0 x1 qe.u14.c K).trans
  (congrArg (fun z=>qe.u2.f k x0 x1 z) (funext fun y0=>(funext fun y1=>(funext fun y2=>(funext fun y3=>(funext fun y4=>qe.u14.ok k y0 y1 y2 y3 y4 K))))))
theorem qe.u16.ok (k:Nat) (K:KF α) :
  eC k qe.u16.c (za []) K =
   qe.u16.f k (fun y0 y1=>K .ret (fr0 y0 y1)):=by kernel_rfl
theorem qe.u17.ok (k:Nat) (x0:Ad) (x1:Int) (K:KF α) :
  eC k qe.u17.c (za [(1, .ptr (some x0)), (4, .int .i64 x1)]) K =
   qe.u17.f k x0 x1 (fun y0 y1=>K .ret (fr0 y0 y1)):=
 by
  have h:=qe.u15.ok k x0 x1 (seqK (fun ρ=>eC k qe.u16.c ρ K) K)
  simp only [zj, zn, zq, zp, qe.u16.ok] at h
  exact jd h
theorem qe.u18.ok (k:Nat) (x0 x1 x2:Sl) (K:KF α) :
  eC k qe.u18.c (za [(0, .agg [.slice x0, .slice x1, .slice x2])]) K =
   qe.u18.f k x0 x1 x2 (fun y0 y1=>K .ret (fr0 y0 y1)):=
 (qe.u1.ok k x0 x1 x2 qe.u17.c K).trans
  (congrArg (fun z=>qe.u1.f k x0 x1 x2 z (fun y0 y1=>K .ret (fr0 y0 y1))) (funext fun y0=>(funext fun y1=>qe.u17.ok k y0 y1 K)))
theorem qe.ok (k:Nat) (x0 x1 x2:Sl) (κ:Res->M α) :
  evF T (env k) k qe.c qe.res [.agg [.slice x0, .slice x1, .slice x2]] κ = qe.f (k + 1) x0 x1 x2 (fun o0 o1=>κ (.ret (.tuple [.int .i64 o0, .int .i64 o1]))):=
 (qe.u18.ok k x0 x1 x2 (retK T qe.res κ)).trans (by kernel_rfl)
theorem qe.code:qe.c.code = jt Tryz.f44:=by kernel_rfl
noncomputable def qac.c:IC:=qac.u1.c
noncomputable def qac.res:List ResultVar:=[(.tmp 2)]
theorem qac.u1.ok (k:Nat) (x0 x1 x2:Sl) (K:KF α) :
  eC k qac.u1.c (za [(0, .agg [.slice x0, .slice x1, .slice x2])]) K =
   qac.u1.f k x0 x1 x2 (fun y0=>K .ret (fr1 y0)):=by kernel_rfl
theorem qac.ok (k:Nat) (x0 x1 x2:Sl) (κ:Res->M α) :
  evF T (env k) k qac.c qac.res [.agg [.slice x0, .slice x1, .slice x2]] κ = qac.f (k + 1) x0 x1 x2 (fun o0=>κ (.ret (.bool o0))):=
 (qac.u1.ok k x0 x1 x2 (retK T qac.res κ)).trans (by kernel_rfl)
theorem qac.code:qac.c.code = jt Tryz.f12:=by kernel_rfl
noncomputable def qad.c:IC:=qad.u1.c
noncomputable def qad.res:List ResultVar:=[(.tmp 4), (.tmp 5)]
theorem qad.u1.ok (k:Nat) (x0 x1:Int) (K:KF α) :
  eC k qad.u1.c (fr2 x0 x1) K =
   qad.u1.f k x0 x1 (fun y0 y1=>K .ret (fr3 y0 y1)):=by kernel_rfl
theorem qad.ok (k:Nat) (x0 x1:Int) (κ:Res->M α) :
  evF T (env k) k qad.c qad.res [.int .u64 x0, .int .u64 x1] κ = qad.f (k + 1) x0 x1 (fun o0 o1=>κ (.ret (.tuple [.int .u64 o0, .int .u64 o1]))):=
 (qad.u1.ok k x0 x1 (retK T qad.res κ)).trans (by kernel_rfl)
theorem qad.code:qad.c.code = jt Tryz.f150:=by kernel_rfl
noncomputable def qab.c:IC:=qab.u1.c
noncomputable def qab.res:List ResultVar:=[(.tmp 4), (.tmp 5)]
theorem qab.u1.ok (k:Nat) (x0 x1:Int) (K:KF α) :
  eC k qab.u1.c (fr2 x0 x1) K =
   qab.u1.f k x0 x1 (fun y0 y1=>K .ret (fr3 y0 y1)):=by kernel_rfl
theorem qab.ok (k:Nat) (x0 x1:Int) (κ:Res->M α) :
  evF T (env k) k qab.c qab.res [.int .u64 x0, .int .u64 x1] κ = qab.f (k + 1) x0 x1 (fun o0 o1=>κ (.ret (.tuple [.int .u64 o0, .int .u64 o1]))):=
 (qab.u1.ok k x0 x1 (retK T qab.res κ)).trans (by kernel_rfl)
theorem qab.code:qab.c.code = jt Tryz.f88:=by kernel_rfl
noncomputable def qr.c:IC:=qr.u7.c
noncomputable def qr.res:List ResultVar:=[(.tmp 4)]
theorem qr.u1.ok (k:Nat) (x0:Sl) (x1:Int) (R:IC) (K:KF α) :
  eC k (qr.u1.c R) (fr4 x0 x1) K =
   qr.u1.f k x0 x1 (fun y0 y1=>eC k R (fr5 y0 y1) K):=by kernel_rfl
theorem qr.u2.ok (k:Nat) (x0:Sl) (x1:Int) (K:KF α) :
  eC k qr.u2.c (fr5 x0 x1) K =
   qr.u2.f k x0 x1 (fun y0 y1=>K .normal (fr5 y0 y1)) (fun y0=>K (.exit 0) (fr6 y0)):=by kernel_rfl
theorem qr.u3.ls (k:Nat) (kx0:Sl->M α) (j:Nat) (x0:Sl) (x1:Int):qr.u3.l k kx0 (j + 1) x0 x1 =
 qr.u2.f k x0 x1 (fun y0 y1=>qr.u3.l k kx0 j y0 y1) kx0:=rfl
theorem qr.u3.okl (k:Nat) (K:KF α):∀ (j:Nat) (x0:Sl) (x1:Int),
  zu (eC k qr.u2.c) [7, 8] j (fr5 x0 x1) K = qr.u3.l k (fun y0=>K (.exit 0) (fr6 y0)) j x0 x1
 | 0, _, _=>rfl
 | j + 1, x0, x1=>by
   have h:=qr.u2.ok k x0 x1 (seqK (fun ρ=>zu (eC k qr.u2.c) [7, 8] j ρ K) K)
   simp only [zn, zq, zp, zj, qr.u3.okl k K j] at h
   exact (zy (by kernel_rfl) h).trans (qr.u3.ls k (fun y0=>K (.exit 0) (fr6 y0)) j x0 x1).symm
theorem qr.u3.ok (k:Nat) (x0:Sl) (x1:Int) (K:KF α) :
  eC k qr.u3.c (fr5 x0 x1) K =
   qr.u3.f k x0 x1 (fun y0=>K (.exit 0) (fr6 y0)):=
 jo.trans <| (zx (body:=eC k qr.u2.c) (keep:=[7, 8]) (ρ:=(fr5 x0 x1)) (ρ':=(fr5 x0 x1)) (by kernel_rfl) k K).trans (qr.u3.okl k K k x0 x1)
theorem qr.u4.ok (k:Nat) (x0:Sl) (x1:Int) (K:KF α) :
  eC k qr.u4.c (fr5 x0 x1) K =
   qr.u4.f k x0 x1 (fun y0=>K .normal (fr6 y0)):=
 (ja.trans (qr.u3.ok k x0 x1 (jp 0 K))).trans (by kernel_rfl)
theorem qr.u5.ok (k:Nat) (x0:Sl) (K:KF α) :
  eC k qr.u5.c (fr6 x0) K =
   qr.u5.f k x0 (fun y0=>K .ret (fr7 y0)):=by kernel_rfl
theorem qr.u6.ok (k:Nat) (x0:Sl) (x1:Int) (K:KF α) :
  eC k qr.u6.c (fr5 x0 x1) K =
   qr.u6.f k x0 x1 (fun y0=>K .ret (fr7 y0)):=
 by
  have h:=qr.u4.ok k x0 x1 (seqK (fun ρ=>eC k qr.u5.c ρ K) K)
  simp only [zj, zn, zq, zp, qr.u5.ok] at h
  exact jd h
theorem qr.u7.ok (k:Nat) (x0:Sl) (x1:Int) (K:KF α) :
  eC k qr.u7.c (fr4 x0 x1) K =
   qr.u7.f k x0 x1 (fun y0=>K .ret (fr7 y0)):=
 (qr.u1.ok k x0 x1 qr.u6.c K).trans
  (congrArg (fun z=>qr.u1.f k x0 x1 z) (funext fun y0=>(funext fun y1=>qr.u6.ok k y0 y1 K)))
theorem qr.ok (k:Nat) (x0:Sl) (x1:Int) (κ:Res->M α) :
  evF T (env k) k qr.c qr.res [.slice x0, .int .i64 x1] κ = qr.f (k + 1) x0 x1 (fun o0=>κ (.ret (.slice o0))):=
 (qr.u7.ok k x0 x1 (retK T qr.res κ)).trans (by kernel_rfl)
theorem qr.code:qr.c.code = jt Tryz.f45:=by kernel_rfl
noncomputable def qn.c:IC:=qn.u9.c
noncomputable def qn.res:List ResultVar:=[(.cell 2 36)]
theorem qn.u1.ok (k:Nat) (x0:Int) (R:IC) (K:KF α) :
  eC k (qn.u1.c R) (fr8 x0) K =
   qn.u1.f k x0 (fun y0 y1 y2=>eC k R (za [(0, .int .i64 y0), (2, .ptr (some y1)), (3, .ptr (some y2))]) K):=by kernel_rfl
theorem qn.u2.ok (k:Nat) (x0:Int) (x1 x2:Ad) (R:IC) (K:KF α) :
  eC k (qn.u2.c R) (za [(0, .int .i64 x0), (2, .ptr (some x1)), (3, .ptr (some x2))]) K =
   qn.u2.f k x0 x1 x2 (fun y0 y1 y2 y3=>eC k R (za [(0, .int .i64 y0), (2, .ptr (some y1)), (3, .ptr (some y2)), (8, .int .i64 y3)]) K):=by kernel_rfl
theorem qn.u3.ok (k:Nat) (x0:Int) (x1 x2:Ad) (x3:Int) (K:KF α) :
  eC k qn.u3.c (za [(0, .int .i64 x0), (2, .ptr (some x1)), (3, .ptr (some x2)), (8, .int .i64 x3)]) K =
   qn.u3.f k x0 x1 x2 x3 (fun y0 y1 y2 y3=>K .normal (za [(0, .int .i64 y0), (2, .ptr (some y1)), (3, .ptr (some y2)), (8, .int .i64 y3)])) (fun y0 y1=>K (.exit 0) (za [(2, .ptr (some y0)), (3, .ptr (some y1))])):=by kernel_rfl
theorem qn.u4.ls (k:Nat) (kx0:Ad->Ad->M α) (j:Nat) (x0:Int) (x1 x2:Ad) (x3:Int):qn.u4.l k kx0 (j + 1) x0 x1 x2 x3 =
 qn.u3.f k x0 x1 x2 x3 (fun y0 y1 y2 y3=>qn.u4.l k kx0 j y0 y1 y2 y3) kx0:=rfl
theorem qn.u4.okl (k:Nat) (K:KF α):∀ (j:Nat) (x0:Int) (x1 x2:Ad) (x3:Int),
  zu (eC k qn.u3.c) [0, 2, 3, 8] j (za [(0, .int .i64 x0), (2, .ptr (some x1)), (3, .ptr (some x2)), (8, .int .i64 x3)]) K = qn.u4.l k (fun y0 y1=>K (.exit 0) (za [(2, .ptr (some y0)), (3, .ptr (some y1))])) j x0 x1 x2 x3
 | 0, _, _, _, _=>rfl
 | j + 1, x0, x1, x2, x3=>by
   have h:=qn.u3.ok k x0 x1 x2 x3 (seqK (fun ρ=>zu (eC k qn.u3.c) [0, 2, 3, 8] j ρ K) K)
   simp only [zn, zq, zp, zj, qn.u4.okl k K j] at h
   exact (zy (by kernel_rfl) h).trans (qn.u4.ls k (fun y0 y1=>K (.exit 0) (za [(2, .ptr (some y0)), (3, .ptr (some y1))])) j x0 x1 x2 x3).symm
theorem qn.u4.ok (k:Nat) (x0:Int) (x1 x2:Ad) (x3:Int) (K:KF α) :
  eC k qn.u4.c (za [(0, .int .i64 x0), (2, .ptr (some x1)), (3, .ptr (some x2)), (8, .int .i64 x3)]) K =
   qn.u4.f k x0 x1 x2 x3 (fun y0 y1=>K (.exit 0) (za [(2, .ptr (some y0)), (3, .ptr (some y1))])):=
 jo.trans <| (zx (body:=eC k qn.u3.c) (keep:=[0, 2, 3, 8]) (ρ:=(za [(0, .int .i64 x0), (2, .ptr (some x1)), (3, .ptr (some x2)), (8, .int .i64 x3)])) (ρ':=(za [(0, .int .i64 x0), (2, .ptr (some x1)), (3, .ptr (some x2)), (8, .int .i64 x3)])) (by kernel_rfl) k K).trans (qn.u4.okl k K k x0 x1 x2 x3)
theorem qn.u5.ok (k:Nat) (x0:Int) (x1 x2:Ad) (x3:Int) (K:KF α) :
  eC k qn.u5.c (za [(0, .int .i64 x0), (2, .ptr (some x1)), (3, .ptr (some x2)), (8, .int .i64 x3)]) K =
   qn.u5.f k x0 x1 x2 x3 (fun y0 y1=>K .normal (za [(2, .ptr (some y0)), (3, .ptr (some y1))])):=
 (ja.trans (qn.u4.ok k x0 x1 x2 x3 (jp 0 K))).trans (by kernel_rfl)
theorem qn.u6.ok (k:Nat) (x0:Int) (x1 x2:Ad) (K:KF α) :
  eC k qn.u6.c (za [(0, .int .i64 x0), (2, .ptr (some x1)), (3, .ptr (some x2))]) K =
   qn.u6.f k x0 x1 x2 (fun y0 y1=>K .normal (za [(2, .ptr (some y0)), (3, .ptr (some y1))])):=
 (qn.u2.ok k x0 x1 x2 qn.u5.c K).trans
  (congrArg (fun z=>qn.u2.f k x0 x1 x2 z) (funext fun y0=>(funext fun y1=>(funext fun y2=>(funext fun y3=>qn.u5.ok k y0 y1 y2 y3 K)))))
theorem qn.u7.ok (k:Nat) (x0 x1:Ad) (K:KF α) :
  eC k qn.u7.c (za [(2, .ptr (some x0)), (3, .ptr (some x1))]) K =
   qn.u7.f k x0 x1 (fun y0=>K .ret (za [(2, .ptr (some y0))])):=by kernel_rfl
theorem qn.u8.ok (k:Nat) (x0:Int) (x1 x2:Ad) (K:KF α) :
  eC k qn.u8.c (za [(0, .int .i64 x0), (2, .ptr (some x1)), (3, .ptr (some x2))]) K =
   qn.u8.f k x0 x1 x2 (fun y0=>K .ret (za [(2, .ptr (some y0))])):=
 by
  have h:=qn.u6.ok k x0 x1 x2 (seqK (fun ρ=>eC k qn.u7.c ρ K) K)
  simp only [zj, zn, zq, zp, qn.u7.ok] at h
  exact jd h
theorem qn.u9.ok (k:Nat) (x0:Int) (K:KF α) :
  eC k qn.u9.c (fr8 x0) K =
   qn.u9.f k x0 (fun y0=>K .ret (za [(2, .ptr (some y0))])):=
 (qn.u1.ok k x0 qn.u8.c K).trans
  (congrArg (fun z=>qn.u1.f k x0 z) (funext fun y0=>(funext fun y1=>(funext fun y2=>qn.u8.ok k y0 y1 y2 K))))
theorem qn.ok (k:Nat) (x0:Int) (κ:Res->M α) :
  evF T (env k) k qn.c qn.res [.int .i64 x0] κ = qn.f (k + 1) x0 (fun o0 o1 o2 o3=>κ (.ret (.agg [.int .u64 o0, .int .u64 o1, .int .u64 o2, .int .u64 o3]))):=
 (qn.u9.ok k x0 (retK T qn.res κ)).trans (by kernel_rfl)
theorem qn.code:qn.c.code = jt Tryz.f19:=by kernel_rfl
noncomputable def qae.c:IC:=qae.u1.c
noncomputable def qae.res:List ResultVar:=[(.tmp 2)]
theorem qae.u1.ok (k:Nat) (x0:Int) (K:KF α) :
  eC k qae.u1.c (fr9 x0) K =
   qae.u1.f k x0 (fun y0=>K .ret (fr10 y0)):=by kernel_rfl
theorem qae.ok (k:Nat) (x0:Int) (κ:Res->M α) :
  evF T (env k) k qae.c qae.res [.int .u64 x0] κ = qae.f (k + 1) x0 (fun o0=>κ (.ret (.int .i64 o0))):=
 (qae.u1.ok k x0 (retK T qae.res κ)).trans (by kernel_rfl)
theorem qae.code:qae.c.code = jt Tryz.f56:=by kernel_rfl
noncomputable def qq.c:IC:=qq.u9.c
noncomputable def qq.res:List ResultVar:=[(.tmp 2)]
theorem qq.u1.ok (k:Nat) (x0 x1:Int) (x2 x3:Int) (R:IC) (K:KF α) :
  eC k (qq.u1.c R) (za [(0, .agg [.int .u64 x0, .int .u64 x1, .int .u64 x2, .int .u64 x3])]) K =
   qq.u1.f k x0 x1 x2 x3 (fun y0 y1=>eC k R (za [(1, .ptr (some y0)), (3, .int .i64 y1)]) K):=by kernel_rfl
theorem qq.u2.ok (k:Nat) (x0:Ad) (x1:Int) (R:IC) (K:KF α) :
  eC k (qq.u2.c R) (za [(1, .ptr (some x0)), (3, .int .i64 x1)]) K =
   qq.u2.f k x0 x1 (fun y0 y1 y2 y3 y4 y5=>eC k R (za [(3, .int .i64 y0), (6, .agg [.int .u64 y1, .int .u64 y2, .int .u64 y3, .int .u64 y4]), (7, .int .i64 y5)]) K):=by kernel_rfl
theorem qq.u3.ok (k:Nat) (x0 x1:Int) (x2 x3:Int) (x4 x5:Int) (K:KF α) :
  eC k qq.u3.c (za [(3, .int .i64 x0), (6, .agg [.int .u64 x1, .int .u64 x2, .int .u64 x3, .int .u64 x4]), (7, .int .i64 x5)]) K =
   qq.u3.f k x0 x1 x2 x3 x4 x5 (fun y0 y1 y2 y3 y4 y5=>K .normal (za [(3, .int .i64 y0), (6, .agg [.int .u64 y1, .int .u64 y2, .int .u64 y3, .int .u64 y4]), (7, .int .i64 y5)])) (fun y0=>K (.exit 0) (fr11 y0)):=by kernel_rfl
theorem qq.u4.ls (k:Nat) (kx0:Int->M α) (j:Nat) (x0 x1:Int) (x2 x3:Int) (x4 x5:Int):qq.u4.l k kx0 (j + 1) x0 x1 x2 x3 x4 x5 =
 qq.u3.f k x0 x1 x2 x3 x4 x5 (fun y0 y1 y2 y3 y4 y5=>qq.u4.l k kx0 j y0 y1 y2 y3 y4 y5) kx0:=rfl
theorem qq.u4.okl (k:Nat) (K:KF α):∀ (j:Nat) (x0 x1:Int) (x2 x3:Int) (x4 x5:Int),
  zu (eC k qq.u3.c) [3, 6, 7] j (za [(3, .int .i64 x0), (6, .agg [.int .u64 x1, .int .u64 x2, .int .u64 x3, .int .u64 x4]), (7, .int .i64 x5)]) K = qq.u4.l k (fun y0=>K (.exit 0) (fr11 y0)) j x0 x1 x2 x3 x4 x5
 | 0, _, _, _, _, _, _=>rfl
 | j + 1, x0, x1, x2, x3, x4, x5=>by
   have h:=qq.u3.ok k x0 x1 x2 x3 x4 x5 (seqK (fun ρ=>zu (eC k qq.u3.c) [3, 6, 7] j ρ K) K)
   simp only [zn, zq, zp, zj, qq.u4.okl k K j] at h
   exact (zy (by kernel_rfl) h).trans (qq.u4.ls k (fun y0=>K (.exit 0) (fr11 y0)) j x0 x1 x2 x3 x4 x5).symm
theorem qq.u4.ok (k:Nat) (x0 x1:Int) (x2 x3:Int) (x4 x5:Int) (K:KF α) :
  eC k qq.u4.c (za [(3, .int .i64 x0), (6, .agg [.int .u64 x1, .int .u64 x2, .int .u64 x3, .int .u64 x4]), (7, .int .i64 x5)]) K =
   qq.u4.f k x0 x1 x2 x3 x4 x5 (fun y0=>K (.exit 0) (fr11 y0)):=
 jo.trans <| (zx (body:=eC k qq.u3.c) (keep:=[3, 6, 7]) (ρ:=(za [(3, .int .i64 x0), (6, .agg [.int .u64 x1, .int .u64 x2, .int .u64 x3, .int .u64 x4]), (7, .int .i64 x5)])) (ρ':=(za [(3, .int .i64 x0), (6, .agg [.int .u64 x1, .int .u64 x2, .int .u64 x3, .int .u64 x4]), (7, .int .i64 x5)])) (by kernel_rfl) k K).trans (qq.u4.okl k K k x0 x1 x2 x3 x4 x5)
theorem qq.u5.ok (k:Nat) (x0 x1:Int) (x2 x3:Int) (x4 x5:Int) (K:KF α) :
  eC k qq.u5.c (za [(3, .int .i64 x0), (6, .agg [.int .u64 x1, .int .u64 x2, .int .u64 x3, .int .u64 x4]), (7, .int .i64 x5)]) K =
   qq.u5.f k x0 x1 x2 x3 x4 x5 (fun y0=>K .normal (fr11 y0)):=
 (ja.trans (qq.u4.ok k x0 x1 x2 x3 x4 x5 (jp 0 K))).trans (by kernel_rfl)
theorem qq.u6.ok (k:Nat) (x0:Ad) (x1:Int) (K:KF α) :
  eC k qq.u6.c (za [(1, .ptr (some x0)), (3, .int .i64 x1)]) K =
   qq.u6.f k x0 x1 (fun y0=>K .normal (fr11 y0)):=
 (qq.u2.ok k x0 x1 qq.u5.c K).trans
  (congrArg (fun z=>qq.u2.f k x0 x1 z) (funext fun y0=>(funext fun y1=>(funext fun y2=>(funext fun y3=>(funext fun y4=>(funext fun y5=>qq.u5.ok k y0 y1 y2 y3 y4 y5 K)))))))
theorem qq.u7.ok (k:Nat) (x0:Int) (K:KF α) :
  eC k qq.u7.c (fr11 x0) K =
   qq.u7.f k x0 (fun y0=>K .ret (fr10 y0)):=by kernel_rfl
theorem qq.u8.ok (k:Nat) (x0:Ad) (x1:Int) (K:KF α) :
  eC k qq.u8.c (za [(1, .ptr (some x0)), (3, .int .i64 x1)]) K =
   qq.u8.f k x0 x1 (fun y0=>K .ret (fr10 y0)):=
 by
  have h:=qq.u6.ok k x0 x1 (seqK (fun ρ=>eC k qq.u7.c ρ K) K)
  simp only [zj, zn, zq, zp, qq.u7.ok] at h
  exact jd h
theorem qq.u9.ok (k:Nat) (x0 x1:Int) (x2 x3:Int) (K:KF α) :
  eC k qq.u9.c (za [(0, .agg [.int .u64 x0, .int .u64 x1, .int .u64 x2, .int .u64 x3])]) K =
   qq.u9.f k x0 x1 x2 x3 (fun y0=>K .ret (fr10 y0)):=
 (qq.u1.ok k x0 x1 x2 x3 qq.u8.c K).trans
  (congrArg (fun z=>qq.u1.f k x0 x1 x2 x3 z) (funext fun y0=>(funext fun y1=>qq.u8.ok k y0 y1 K)))
theorem qq.ok (k:Nat) (x0 x1:Int) (x2 x3:Int) (κ:Res->M α) :
  evF T (env k) k qq.c qq.res [.agg [.int .u64 x0, .int .u64 x1, .int .u64 x2, .int .u64 x3]] κ = qq.f (k + 1) x0 x1 x2 x3 (fun o0=>κ (.ret (.int .i64 o0))):=
 (qq.u9.ok k x0 x1 x2 x3 (retK T qq.res κ)).trans (by kernel_rfl)
theorem qq.code:qq.c.code = jt Tryz.f23:=by kernel_rfl
noncomputable def qf.c:IC:=qf.u18.c
noncomputable def qf.res:List ResultVar:=[(.tmp 2)]
theorem qf.u1.ok (k:Nat) (x0 x1:Int) (x2 x3:Int) (R:IC) (K:KF α) :
  eC k (qf.u1.c R) (za [(0, .agg [.int .u64 x0, .int .u64 x1, .int .u64 x2, .int .u64 x3])]) K =
   qf.u1.f k x0 x1 x2 x3 (fun y0 y1=>eC k R (za [(1, .ptr (some y0)), (3, .slice y1)]) K):=by kernel_rfl
theorem qf.u2.ok (k:Nat) (x0:Ad) (x1:Sl) (R:IC) (K:KF α) :
  eC k (qf.u2.c R) (za [(1, .ptr (some x0)), (3, .slice x1)]) K =
   qf.u2.f k x0 x1 (fun y0 y1 y2 y3 y4 y5=>eC k R (za [(3, .slice y0), (9, .agg [.int .u64 y1, .int .u64 y2, .int .u64 y3, .int .u64 y4]), (10, .int .i64 y5)]) K):=by kernel_rfl
theorem qf.u3.ok (k:Nat) (x0:Sl) (x1 x2:Int) (x3 x4 x5:Int) (R:IC) (K:KF α) :
  eC k (qf.u3.c R) (za [(3, .slice x0), (9, .agg [.int .u64 x1, .int .u64 x2, .int .u64 x3, .int .u64 x4]), (10, .int .i64 x5)]) K =
   qf.u3.f k x0 x1 x2 x3 x4 x5 (fun y0 y1 y2 y3 y4 y5=>eC k R (za [(3, .slice y0), (9, .agg [.int .u64 y1, .int .u64 y2, .int .u64 y3, .int .u64 y4]), (10, .int .i64 y5)]) K) (fun y0=>K (.exit 0) (fr12 y0)):=by kernel_rfl
theorem qf.u4.ok (k:Nat) (x0:Sl) (x1 x2:Int) (x3 x4 x5:Int) (R:IC) (K:KF α) :
  eC k (qf.u4.c R) (za [(3, .slice x0), (9, .agg [.int .u64 x1, .int .u64 x2, .int .u64 x3, .int .u64 x4]), (10, .int .i64 x5)]) K =
   qf.u4.f k x0 x1 x2 x3 x4 x5 (fun y0 y1 y2 y3 y4 y5 y6 y7=>eC k R (za [(3, .slice y0), (4, .int .i64 y1), (5, .int .u64 y2), (9, .agg [.int .u64 y3, .int .u64 y4, .int .u64 y5, .int .u64 y6]), (10, .int .i64 y7)]) K):=by kernel_rfl
theorem qf.u5.ok (k:Nat) (x0:Sl) (x1 x2:Int) (x3 x4:Int) (x5 x6 x7:Int) (K:KF α) :
  eC k qf.u5.c (za [(3, .slice x0), (4, .int .i64 x1), (5, .int .u64 x2), (9, .agg [.int .u64 x3, .int .u64 x4, .int .u64 x5, .int .u64 x6]), (10, .int .i64 x7)]) K =
   qf.u5.f k x0 x1 x2 x3 x4 x5 x6 x7 (fun y0 y1 y2 y3 y4 y5 y6 y7=>K .normal (za [(3, .slice y0), (4, .int .i64 y1), (5, .int .u64 y2), (9, .agg [.int .u64 y3, .int .u64 y4, .int .u64 y5, .int .u64 y6]), (10, .int .i64 y7)])) (fun y0 y1 y2 y3 y4 y5=>K (.exit 2) (za [(3, .slice y0), (9, .agg [.int .u64 y1, .int .u64 y2, .int .u64 y3, .int .u64 y4]), (10, .int .i64 y5)])):=by kernel_rfl
theorem qf.u6.ls (k:Nat) (kx2:Sl->Int->Int->Int->Int->Int->M α) (j:Nat) (x0:Sl) (x1 x2:Int) (x3 x4:Int) (x5 x6 x7:Int):qf.u6.l k kx2 (j + 1) x0 x1 x2 x3 x4 x5 x6 x7 =
 qf.u5.f k x0 x1 x2 x3 x4 x5 x6 x7 (fun y0 y1 y2 y3 y4 y5 y6 y7=>qf.u6.l k kx2 j y0 y1 y2 y3 y4 y5 y6 y7) kx2:=rfl
theorem qf.u6.okl (k:Nat) (K:KF α):∀ (j:Nat) (x0:Sl) (x1 x2:Int) (x3 x4:Int) (x5 x6 x7:Int),
  zu (eC k qf.u5.c) [3, 4, 5, 9, 10] j (za [(3, .slice x0), (4, .int .i64 x1), (5, .int .u64 x2), (9, .agg [.int .u64 x3, .int .u64 x4, .int .u64 x5, .int .u64 x6]), (10, .int .i64 x7)]) K = qf.u6.l k (fun y0 y1 y2 y3 y4 y5=>K (.exit 2) (za [(3, .slice y0), (9, .agg [.int .u64 y1, .int .u64 y2, .int .u64 y3, .int .u64 y4]), (10, .int .i64 y5)])) j x0 x1 x2 x3 x4 x5 x6 x7
 | 0, _, _, _, _, _, _, _, _=>rfl
 | j + 1, x0, x1, x2, x3, x4, x5, x6, x7=>by
   have h:=qf.u5.ok k x0 x1 x2 x3 x4 x5 x6 x7 (seqK (fun ρ=>zu (eC k qf.u5.c) [3, 4, 5, 9, 10] j ρ K) K)
   simp only [zn, zq, zp, zj, qf.u6.okl k K j] at h
   exact (zy (by kernel_rfl) h).trans (qf.u6.ls k (fun y0 y1 y2 y3 y4 y5=>K (.exit 2) (za [(3, .slice y0), (9, .agg [.int .u64 y1, .int .u64 y2, .int .u64 y3, .int .u64 y4]), (10, .int .i64 y5)])) j x0 x1 x2 x3 x4 x5 x6 x7).symm
theorem qf.u6.ok (k:Nat) (x0:Sl) (x1 x2:Int) (x3 x4:Int) (x5 x6 x7:Int) (K:KF α) :
  eC k qf.u6.c (za [(3, .slice x0), (4, .int .i64 x1), (5, .int .u64 x2), (9, .agg [.int .u64 x3, .int .u64 x4, .int .u64 x5, .int .u64 x6]), (10, .int .i64 x7)]) K =
   qf.u6.f k x0 x1 x2 x3 x4 x5 x6 x7 (fun y0 y1 y2 y3 y4 y5=>K (.exit 2) (za [(3, .slice y0), (9, .agg [.int .u64 y1, .int .u64 y2, .int .u64 y3, .int .u64 y4]), (10, .int .i64 y5)])):=
 jo.trans <| (zx (body:=eC k qf.u5.c) (keep:=[3, 4, 5, 9, 10]) (ρ:=(za [(3, .slice x0), (4, .int .i64 x1), (5, .int .u64 x2), (9, .agg [.int .u64 x3, .int .u64 x4, .int .u64 x5, .int .u64 x6]), (10, .int .i64 x7)])) (ρ':=(za [(3, .slice x0), (4, .int .i64 x1), (5, .int .u64 x2), (9, .agg [.int .u64 x3, .int .u64 x4, .int .u64 x5, .int .u64 x6]), (10, .int .i64 x7)])) (by kernel_rfl) k K).trans (qf.u6.okl k K k x0 x1 x2 x3 x4 x5 x6 x7)
theorem qf.u7.ok (k:Nat) (x0:Sl) (x1 x2:Int) (x3 x4:Int) (x5 x6 x7:Int) (K:KF α) :
  eC k qf.u7.c (za [(3, .slice x0), (4, .int .i64 x1), (5, .int .u64 x2), (9, .agg [.int .u64 x3, .int .u64 x4, .int .u64 x5, .int .u64 x6]), (10, .int .i64 x7)]) K =
   qf.u7.f k x0 x1 x2 x3 x4 x5 x6 x7 (fun y0 y1 y2 y3 y4 y5=>K .normal (za [(3, .slice y0), (9, .agg [.int .u64 y1, .int .u64 y2, .int .u64 y3, .int .u64 y4]), (10, .int .i64 y5)])):=
 (ja.trans (qf.u6.ok k x0 x1 x2 x3 x4 x5 x6 x7 (jp 2 K))).trans (by kernel_rfl)
theorem qf.u8.ok (k:Nat) (x0:Sl) (x1 x2:Int) (x3 x4 x5:Int) (K:KF α) :
  eC k qf.u8.c (za [(3, .slice x0), (9, .agg [.int .u64 x1, .int .u64 x2, .int .u64 x3, .int .u64 x4]), (10, .int .i64 x5)]) K =
   qf.u8.f k x0 x1 x2 x3 x4 x5 (fun y0 y1 y2 y3 y4 y5=>K .normal (za [(3, .slice y0), (9, .agg [.int .u64 y1, .int .u64 y2, .int .u64 y3, .int .u64 y4]), (10, .int .i64 y5)])):=
 (qf.u4.ok k x0 x1 x2 x3 x4 x5 qf.u7.c K).trans
  (congrArg (fun z=>qf.u4.f k x0 x1 x2 x3 x4 x5 z) (funext fun y0=>(funext fun y1=>(funext fun y2=>(funext fun y3=>(funext fun y4=>(funext fun y5=>(funext fun y6=>(funext fun y7=>qf.u7.ok k y0 y1 y2 y3 y4 y5 y6 y7 K)))))))))
theorem qf.u9.ok (k:Nat) (x0:Sl) (x1 x2:Int) (x3 x4 x5:Int) (K:KF α) :
  eC k qf.u9.c (za [(3, .slice x0), (9, .agg [.int .u64 x1, .int .u64 x2, .int .u64 x3, .int .u64 x4]), (10, .int .i64 x5)]) K =
   qf.u9.f k x0 x1 x2 x3 x4 x5 (fun y0 y1 y2 y3 y4 y5=>K .normal (za [(3, .slice y0), (9, .agg [.int .u64 y1, .int .u64 y2, .int .u64 y3, .int .u64 y4]), (10, .int .i64 y5)])):=
 (ja.trans (qf.u8.ok k x0 x1 x2 x3 x4 x5 (jp 1 K))).trans (by kernel_rfl)
theorem qf.u10.ok (k:Nat) (x0:Sl) (x1 x2:Int) (x3 x4 x5:Int) (K:KF α) :
  eC k qf.u10.c (za [(3, .slice x0), (9, .agg [.int .u64 x1, .int .u64 x2, .int .u64 x3, .int .u64 x4]), (10, .int .i64 x5)]) K =
   qf.u10.f k x0 x1 x2 x3 x4 x5 (fun y0 y1 y2 y3 y4 y5=>K .normal (za [(3, .slice y0), (9, .agg [.int .u64 y1, .int .u64 y2, .int .u64 y3, .int .u64 y4]), (10, .int .i64 y5)])):=by kernel_rfl
theorem qf.u11.ok (k:Nat) (x0:Sl) (x1 x2:Int) (x3 x4 x5:Int) (K:KF α) :
  eC k qf.u11.c (za [(3, .slice x0), (9, .agg [.int .u64 x1, .int .u64 x2, .int .u64 x3, .int .u64 x4]), (10, .int .i64 x5)]) K =
   qf.u11.f k x0 x1 x2 x3 x4 x5 (fun y0 y1 y2 y3 y4 y5=>K .normal (za [(3, .slice y0), (9, .agg [.int .u64 y1, .int .u64 y2, .int .u64 y3, .int .u64 y4]), (10, .int .i64 y5)])):=
 by
  have h:=qf.u9.ok k x0 x1 x2 x3 x4 x5 (seqK (fun ρ=>eC k qf.u10.c ρ K) K)
  simp only [zj, zn, zq, zp, qf.u10.ok] at h
  exact jd h
theorem qf.u12.ok (k:Nat) (x0:Sl) (x1 x2:Int) (x3 x4 x5:Int) (K:KF α) :
  eC k qf.u12.c (za [(3, .slice x0), (9, .agg [.int .u64 x1, .int .u64 x2, .int .u64 x3, .int .u64 x4]), (10, .int .i64 x5)]) K =
   qf.u12.f k x0 x1 x2 x3 x4 x5 (fun y0 y1 y2 y3 y4 y5=>K .normal (za [(3, .slice y0), (9, .agg [.int .u64 y1, .int .u64 y2, .int .u64 y3, .int .u64 y4]), (10, .int .i64 y5)])) (fun y0=>K (.exit 0) (fr12 y0)):=
 (qf.u3.ok k x0 x1 x2 x3 x4 x5 qf.u11.c K).trans
  (congrArg (fun z=>qf.u3.f k x0 x1 x2 x3 x4 x5 z (fun y0=>K (.exit 0) (fr12 y0))) (funext fun y0=>(funext fun y1=>(funext fun y2=>(funext fun y3=>(funext fun y4=>(funext fun y5=>qf.u11.ok k y0 y1 y2 y3 y4 y5 K)))))))
theorem qf.u13.ls (k:Nat) (kx0:Sl->M α) (j:Nat) (x0:Sl) (x1 x2:Int) (x3 x4 x5:Int):qf.u13.l k kx0 (j + 1) x0 x1 x2 x3 x4 x5 =
 qf.u12.f k x0 x1 x2 x3 x4 x5 (fun y0 y1 y2 y3 y4 y5=>qf.u13.l k kx0 j y0 y1 y2 y3 y4 y5) kx0:=rfl
theorem qf.u13.okl (k:Nat) (K:KF α):∀ (j:Nat) (x0:Sl) (x1 x2:Int) (x3 x4 x5:Int),
  zu (eC k qf.u12.c) [3, 9, 10] j (za [(3, .slice x0), (9, .agg [.int .u64 x1, .int .u64 x2, .int .u64 x3, .int .u64 x4]), (10, .int .i64 x5)]) K = qf.u13.l k (fun y0=>K (.exit 0) (fr12 y0)) j x0 x1 x2 x3 x4 x5
 | 0, _, _, _, _, _, _=>rfl
 | j + 1, x0, x1, x2, x3, x4, x5=>by
   have h:=qf.u12.ok k x0 x1 x2 x3 x4 x5 (seqK (fun ρ=>zu (eC k qf.u12.c) [3, 9, 10] j ρ K) K)
   simp only [zn, zq, zp, zj, qf.u13.okl k K j] at h
   exact (zy (by kernel_rfl) h).trans (qf.u13.ls k (fun y0=>K (.exit 0) (fr12 y0)) j x0 x1 x2 x3 x4 x5).symm
theorem qf.u13.ok (k:Nat) (x0:Sl) (x1 x2:Int) (x3 x4 x5:Int) (K:KF α) :
  eC k qf.u13.c (za [(3, .slice x0), (9, .agg [.int .u64 x1, .int .u64 x2, .int .u64 x3, .int .u64 x4]), (10, .int .i64 x5)]) K =
   qf.u13.f k x0 x1 x2 x3 x4 x5 (fun y0=>K (.exit 0) (fr12 y0)):=
 jo.trans <| (zx (body:=eC k qf.u12.c) (keep:=[3, 9, 10]) (ρ:=(za [(3, .slice x0), (9, .agg [.int .u64 x1, .int .u64 x2, .int .u64 x3, .int .u64 x4]), (10, .int .i64 x5)])) (ρ':=(za [(3, .slice x0), (9, .agg [.int .u64 x1, .int .u64 x2, .int .u64 x3, .int .u64 x4]), (10, .int .i64 x5)])) (by kernel_rfl) k K).trans (qf.u13.okl k K k x0 x1 x2 x3 x4 x5)
theorem qf.u14.ok (k:Nat) (x0:Sl) (x1 x2:Int) (x3 x4 x5:Int) (K:KF α) :
  eC k qf.u14.c (za [(3, .slice x0), (9, .agg [.int .u64 x1, .int .u64 x2, .int .u64 x3, .int .u64 x4]), (10, .int .i64 x5)]) K =
   qf.u14.f k x0 x1 x2 x3 x4 x5 (fun y0=>K .normal (fr12 y0)):=
 (ja.trans (qf.u13.ok k x0 x1 x2 x3 x4 x5 (jp 0 K))).trans (by kernel_rfl)
theorem qf.u15.ok (k:Nat) (x0:Ad) (x1:Sl) (K:KF α) :
  eC k qf.u15.c (za [(1, .ptr (some x0)), (3, .slice x1)]) K =
   qf.u15.f k x0 x1 (fun y0=>K .normal (fr12 y0)):=
 (qf.u2.ok k x0 x1 qf.u14.c K).trans
  (congrArg (fun z=>qf.u2.f k x0 x1 z) (funext fun y0=>(funext fun y1=>(funext fun y2=>(funext fun y3=>(funext fun y4=>(funext fun y5=>qf.u14.ok k y0 y1 y2 y3 y4 y5 K)))))))
theorem qf.u16.ok (k:Nat) (x0:Sl) (K:KF α) :
  eC k qf.u16.c (fr12 x0) K =
   qf.u16.f k x0 (fun y0=>K .ret (fr13 y0)):=by kernel_rfl
theorem qf.u17.ok (k:Nat) (x0:Ad) (x1:Sl) (K:KF α) :
  eC k qf.u17.c (za [(1, .ptr (some x0)), (3, .slice x1)]) K =
   qf.u17.f k x0 x1 (fun y0=>K .ret (fr13 y0)):=
 by
  have h:=qf.u15.ok k x0 x1 (seqK (fun ρ=>eC k qf.u16.c ρ K) K)
  simp only [zj, zn, zq, zp, qf.u16.ok] at h
  exact jd h
theorem qf.u18.ok (k:Nat) (x0 x1:Int) (x2 x3:Int) (K:KF α) :
  eC k qf.u18.c (za [(0, .agg [.int .u64 x0, .int .u64 x1, .int .u64 x2, .int .u64 x3])]) K =
   qf.u18.f k x0 x1 x2 x3 (fun y0=>K .ret (fr13 y0)):=
 (qf.u1.ok k x0 x1 x2 x3 qf.u17.c K).trans
  (congrArg (fun z=>qf.u1.f k x0 x1 x2 x3 z) (funext fun y0=>(funext fun y1=>qf.u17.ok k y0 y1 K)))
theorem qf.ok (k:Nat) (x0 x1:Int) (x2 x3:Int) (κ:Res->M α) :
  evF T (env k) k qf.c qf.res [.agg [.int .u64 x0, .int .u64 x1, .int .u64 x2, .int .u64 x3]] κ = qf.f (k + 1) x0 x1 x2 x3 (fun o0=>κ (.ret (.slice o0))):=
 (qf.u18.ok k x0 x1 x2 x3 (retK T qf.res κ)).trans (by kernel_rfl)
theorem qf.code:qf.c.code = jt Tryz.f51:=by kernel_rfl
noncomputable def qy.c:IC:=qy.u1.c
noncomputable def qy.res:List ResultVar:=[(.cell 4 36)]
theorem qy.u1.ok (k:Nat) (x0 x1:Int) (x2 x3 x4:Int) (K:KF α) :
  eC k qy.u1.c (za [(0, .agg [.int .u64 x0, .int .u64 x1, .int .u64 x2, .int .u64 x3]), (1, .int .i64 x4)]) K =
   qy.u1.f k x0 x1 x2 x3 x4 (fun y0=>K .ret (za [(4, .ptr (some y0))])):=by kernel_rfl
theorem qy.ok (k:Nat) (x0 x1:Int) (x2 x3 x4:Int) (κ:Res->M α) :
  evF T (env k) k qy.c qy.res [.agg [.int .u64 x0, .int .u64 x1, .int .u64 x2, .int .u64 x3], .int .i64 x4] κ = qy.f (k + 1) x0 x1 x2 x3 x4 (fun o0 o1 o2 o3=>κ (.ret (.agg [.int .u64 o0, .int .u64 o1, .int .u64 o2, .int .u64 o3]))):=
 (qy.u1.ok k x0 x1 x2 x3 x4 (retK T qy.res κ)).trans (by kernel_rfl)
theorem qy.code:qy.c.code = jt Tryz.f31:=by kernel_rfl
noncomputable def qm.c:IC:=qm.u9.c
noncomputable def qm.res:List ResultVar:=[(.cell 2 36)]
theorem qm.u1.ok (k:Nat) (x0:Sl) (R:IC) (K:KF α) :
  eC k (qm.u1.c R) (fr14 x0) K =
   qm.u1.f k x0 (fun y0 y1 y2=>eC k R (za [(0, .slice y0), (2, .ptr (some y1)), (3, .ptr (some y2))]) K):=by kernel_rfl
theorem qm.u2.ok (k:Nat) (x0:Sl) (x1 x2:Ad) (R:IC) (K:KF α) :
  eC k (qm.u2.c R) (za [(0, .slice x0), (2, .ptr (some x1)), (3, .ptr (some x2))]) K =
   qm.u2.f k x0 x1 x2 (fun y0 y1 y2 y3 y4=>eC k R (za [(2, .ptr (some y0)), (3, .ptr (some y1)), (6, .slice y2), (7, .int .i64 y3), (8, .int .i64 y4)]) K):=by kernel_rfl
theorem qm.u3.ok (k:Nat) (x0 x1:Ad) (x2:Sl) (x3 x4:Int) (K:KF α) :
  eC k qm.u3.c (za [(2, .ptr (some x0)), (3, .ptr (some x1)), (6, .slice x2), (7, .int .i64 x3), (8, .int .i64 x4)]) K =
   qm.u3.f k x0 x1 x2 x3 x4 (fun y0 y1 y2 y3 y4=>K .normal (za [(2, .ptr (some y0)), (3, .ptr (some y1)), (6, .slice y2), (7, .int .i64 y3), (8, .int .i64 y4)])) (fun y0 y1=>K (.exit 0) (za [(2, .ptr (some y0)), (3, .ptr (some y1))])):=by kernel_rfl
theorem qm.u4.ls (k:Nat) (kx0:Ad->Ad->M α) (j:Nat) (x0 x1:Ad) (x2:Sl) (x3 x4:Int):qm.u4.l k kx0 (j + 1) x0 x1 x2 x3 x4 =
 qm.u3.f k x0 x1 x2 x3 x4 (fun y0 y1 y2 y3 y4=>qm.u4.l k kx0 j y0 y1 y2 y3 y4) kx0:=rfl
theorem qm.u4.okl (k:Nat) (K:KF α):∀ (j:Nat) (x0 x1:Ad) (x2:Sl) (x3 x4:Int),
  zu (eC k qm.u3.c) [2, 3, 6, 7, 8] j (za [(2, .ptr (some x0)), (3, .ptr (some x1)), (6, .slice x2), (7, .int .i64 x3), (8, .int .i64 x4)]) K = qm.u4.l k (fun y0 y1=>K (.exit 0) (za [(2, .ptr (some y0)), (3, .ptr (some y1))])) j x0 x1 x2 x3 x4
 | 0, _, _, _, _, _=>rfl
 | j + 1, x0, x1, x2, x3, x4=>by
   have h:=qm.u3.ok k x0 x1 x2 x3 x4 (seqK (fun ρ=>zu (eC k qm.u3.c) [2, 3, 6, 7, 8] j ρ K) K)
   simp only [zn, zq, zp, zj, qm.u4.okl k K j] at h
   exact (zy (by kernel_rfl) h).trans (qm.u4.ls k (fun y0 y1=>K (.exit 0) (za [(2, .ptr (some y0)), (3, .ptr (some y1))])) j x0 x1 x2 x3 x4).symm
theorem qm.u4.ok (k:Nat) (x0 x1:Ad) (x2:Sl) (x3 x4:Int) (K:KF α) :
  eC k qm.u4.c (za [(2, .ptr (some x0)), (3, .ptr (some x1)), (6, .slice x2), (7, .int .i64 x3), (8, .int .i64 x4)]) K =
   qm.u4.f k x0 x1 x2 x3 x4 (fun y0 y1=>K (.exit 0) (za [(2, .ptr (some y0)), (3, .ptr (some y1))])):=
 jo.trans <| (zx (body:=eC k qm.u3.c) (keep:=[2, 3, 6, 7, 8]) (ρ:=(za [(2, .ptr (some x0)), (3, .ptr (some x1)), (6, .slice x2), (7, .int .i64 x3), (8, .int .i64 x4)])) (ρ':=(za [(2, .ptr (some x0)), (3, .ptr (some x1)), (6, .slice x2), (7, .int .i64 x3), (8, .int .i64 x4)])) (by kernel_rfl) k K).trans (qm.u4.okl k K k x0 x1 x2 x3 x4)
theorem qm.u5.ok (k:Nat) (x0 x1:Ad) (x2:Sl) (x3 x4:Int) (K:KF α) :
  eC k qm.u5.c (za [(2, .ptr (some x0)), (3, .ptr (some x1)), (6, .slice x2), (7, .int .i64 x3), (8, .int .i64 x4)]) K =
   qm.u5.f k x0 x1 x2 x3 x4 (fun y0 y1=>K .normal (za [(2, .ptr (some y0)), (3, .ptr (some y1))])):=
 (ja.trans (qm.u4.ok k x0 x1 x2 x3 x4 (jp 0 K))).trans (by kernel_rfl)
theorem qm.u6.ok (k:Nat) (x0:Sl) (x1 x2:Ad) (K:KF α) :
  eC k qm.u6.c (za [(0, .slice x0), (2, .ptr (some x1)), (3, .ptr (some x2))]) K =
   qm.u6.f k x0 x1 x2 (fun y0 y1=>K .normal (za [(2, .ptr (some y0)), (3, .ptr (some y1))])):=
 (qm.u2.ok k x0 x1 x2 qm.u5.c K).trans
  (congrArg (fun z=>qm.u2.f k x0 x1 x2 z) (funext fun y0=>(funext fun y1=>(funext fun y2=>(funext fun y3=>(funext fun y4=>qm.u5.ok k y0 y1 y2 y3 y4 K))))))
theorem qm.u7.ok (k:Nat) (x0 x1:Ad) (K:KF α) :
  eC k qm.u7.c (za [(2, .ptr (some x0)), (3, .ptr (some x1))]) K =
   qm.u7.f k x0 x1 (fun y0=>K .ret (za [(2, .ptr (some y0))])):=by kernel_rfl
theorem qm.u8.ok (k:Nat) (x0:Sl) (x1 x2:Ad) (K:KF α) :
  eC k qm.u8.c (za [(0, .slice x0), (2, .ptr (some x1)), (3, .ptr (some x2))]) K =
   qm.u8.f k x0 x1 x2 (fun y0=>K .ret (za [(2, .ptr (some y0))])):=
 by
  have h:=qm.u6.ok k x0 x1 x2 (seqK (fun ρ=>eC k qm.u7.c ρ K) K)
  simp only [zj, zn, zq, zp, qm.u7.ok] at h
  exact jd h
theorem qm.u9.ok (k:Nat) (x0:Sl) (K:KF α) :
  eC k qm.u9.c (fr14 x0) K =
   qm.u9.f k x0 (fun y0=>K .ret (za [(2, .ptr (some y0))])):=
 (qm.u1.ok k x0 qm.u8.c K).trans
  (congrArg (fun z=>qm.u1.f k x0 z) (funext fun y0=>(funext fun y1=>(funext fun y2=>qm.u8.ok k y0 y1 y2 K))))
theorem qm.ok (k:Nat) (x0:Sl) (κ:Res->M α) :
  evF T (env k) k qm.c qm.res [.slice x0] κ = qm.f (k + 1) x0 (fun o0 o1 o2 o3=>κ (.ret (.agg [.int .u64 o0, .int .u64 o1, .int .u64 o2, .int .u64 o3]))):=
 (qm.u9.ok k x0 (retK T qm.res κ)).trans (by kernel_rfl)
theorem qm.code:qm.c.code = jt Tryz.f52:=by kernel_rfl
end
end Go.Ab.S9
