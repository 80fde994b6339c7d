import Derived.Test.YtmanohnlcedeaaaDoorS5a0
import Derived.Test.YtmanohnlcedeaaaDoorAb20
import Derived.Shelf.Strings.Builder1
import Derived.Test.YtmanohnlcedeaaaDoorProg
import Derived.KernelRfl
import Derived.Lib.TrailingZeros
set_option linter.unusedVariables false
set_option linter.unusedSimpArgs false
namespace Go.Ab.S5
abbrev fr0 (x0:TX) (x1:Int):Frame:=za [(0, .str x0), (1, .int .u8 x1)]
abbrev fr1 (x0:Int):Frame:=za [(4, .int .i64 x0)]
abbrev fr2 (x0:Int):Frame:=za [(0, .int .u8 x0)]
abbrev fr3 (x0:Int):Frame:=za [(2, .int .i64 x0)]
abbrev fr4 (x0:Int) (x1:TX):Frame:=za [(0, .int .i64 x0), (1, .str x1)]
abbrev fr5 (x0:Int) (x1:TX) (x2:Int):Frame:=za [(0, .int .i64 x0), (1, .str x1), (5, .int .i64 x2)]
abbrev fr6 (x0:TX) (x1 x2:Int):Frame:=za [(1, .str x0), (5, .int .i64 x1), (6, .int .i64 x2)]
abbrev fr7 (x0:TX) (x1 x2:Int) (x3:Bool):Frame:=za [(1, .str x0), (5, .int .i64 x1), (6, .int .i64 x2), (7, .bool x3)]
abbrev fr8 (x0:TX) (x1:Int):Frame:=za [(1, .str x0), (5, .int .i64 x1)]
abbrev fr9 (x0:Int):Frame:=za [(5, .int .i64 x0)]
abbrev fr10 (x0:TX) (x1:Int) (x2:Bool):Frame:=za [(1, .str x0), (5, .int .i64 x1), (27, .bool x2)]
abbrev fr11 (x0:TX):Frame:=za [(0, .str x0)]
abbrev fr12 (x0:Int) (x1:Bool):Frame:=za [(2, .int .i64 x0), (3, .bool x1)]
abbrev fr13 (x0:TX) (x1:Int):Frame:=za [(0, .str x0), (4, .int .i64 x1)]
abbrev fr14 (x0:TX) (x1 x2 x3:Int):Frame:=za [(0, .str x0), (4, .int .i64 x1), (20, .int .i64 x2), (21, .int .i64 x3)]
abbrev fr15 (x0:TX) (x1:Int):Frame:=za [(0, .str x0), (1, .int .i64 x1)]
abbrev fr16 (x0:TX) (x1:Sl):Frame:=za [(0, .str x0), (4, .slice x1)]
abbrev fr17 (x0:TX) (x1:Sl) (x2:Int):Frame:=za [(0, .str x0), (4, .slice x1), (5, .int .i64 x2)]
abbrev fr18 (x0:Bool):Frame:=za [(2, .bool x0)]
abbrev fr19 (x0:Sl):Frame:=za [(4, .slice x0)]
abbrev fr20 (x0:Sl) (x1:Int):Frame:=za [(0, .slice x0), (5, .int .i64 x1)]
abbrev fr21 (x0:Bool):Frame:=za [(4, .bool x0)]
abbrev fr22 (x0:TX):Frame:=za [(4, .str x0)]
abbrev fr23 (x0:Int):Frame:=za [(9, .int .i64 x0)]
abbrev fr24 (x0:Int):Frame:=za [(8, .int .i64 x0)]
abbrev fr25 (x0:Sl):Frame:=za [(0, .slice x0)]
abbrev fr26 (x0:Sl):Frame:=za [(2, .slice x0)]
abbrev fr27 (x0:TX) (x1 x2:Int):Frame:=za [(0, .str x0), (1, .int .u8 x1), (2, .int .u8 x2)]
abbrev fr28 (x0:Bool):Frame:=za [(6, .bool x0)]
abbrev fr29 (x0:TX) (x1 x2:Int):Frame:=za [(0, .str x0), (30, .int .i64 x1), (31, .int .i64 x2)]
abbrev fr30 (x0:Int):Frame:=za [(0, .int .i64 x0)]
abbrev fr31 (x0 x1:Sl):Frame:=za [(0, .slice x0), (1, .slice x1)]
abbrev fr32 (x0 x1:Sl) (x2 x3:Int):Frame:=za [(0, .slice x0), (1, .slice x1), (12, .int .i64 x2), (13, .int .i64 x3)]
abbrev fr33 (x0 x1:Sl):Frame:=za [(0, .slice x0), (3, .slice x1)]
abbrev fr34 (x0 x1:Sl) (x2 x3:Int):Frame:=za [(3, .slice x0), (17, .slice x1), (18, .int .i64 x2), (19, .int .i64 x3)]
abbrev fr35 (x0:Sl):Frame:=za [(3, .slice x0)]
abbrev fr36 (x0 x1:Int):Frame:=za [(2, .int .i64 x0), (3, .int .i64 x1)]
abbrev fr37 (x0:Sl) (x1 x2:Int):Frame:=za [(3, .slice x0), (10, .int .i64 x1), (11, .int .i64 x2)]
abbrev fr38 (x0:Sl) (x1 x2:Int):Frame:=za [(3, .slice x0), (8, .int .i64 x1), (9, .int .i64 x2)]
abbrev fr39 (x0 x1 x2:Sl):Frame:=za [(0, .slice x0), (3, .slice x1), (4, .slice x2)]
abbrev fr40 (x0 x1 x2:Sl) (x3 x4:Int):Frame:=za [(3, .slice x0), (4, .slice x1), (15, .slice x2), (16, .int .i64 x3), (17, .int .i64 x4)]
section
variable {α:Type}
open Go.Proofs
noncomputable def qbh.u1.f (k:Nat) (x0:Sl) (kr:Sl->M α):M α:=
 qt.f k x0 fun r3=>
 qy.f k r3 fun r4=>
 kr r4
noncomputable def qbh.u1.c:IC:=(.seq (.ops 0 (zb Tryd.f21 0)) (.seq (.ops 1 (zb Tryd.f21 1)) (.ret [2])))
noncomputable def qbh.f:Nat->Sl->(Sl->M α)->M α
 | 0, _, _=>fail
 | k + 1, x0, ret=>
  qbh.u1.f k x0 (fun y0=>
   ret y0)
noncomputable def qag.u1.f (k:Nat) (x0:Sl) (x1 x2:Int) (kn:Sl->Int->Int->M α):M α:=
 kn x0 x1 x2
noncomputable def qag.u1.c (R:IC):IC:=(.seq (.cut [0, 1, 2] (.ops 0 (zb Tryd.f22 0))) R)
noncomputable def qag.u2.f (k:Nat) (x0:Sl) (x1 x2:Int) (kn:Sl->Int->Int->M α) (kr:Bool->M α) (kx0:M α):M α:=
 cond (decide (0≤x1)) (
  cond (decide (x1 = x2)) (
   kr true) (
   idxSl x0 x1 1 fun a5=>
   ldI .i64 (a5.add 0) fun x6=>
   kn x0 x6 x2)) (
  kx0)
noncomputable def qag.u2.c:IC:=(.seq (.seq (.ops 1 (zb Tryd.f22 1)) (.cond (.tmp 8) .skip (.exit 0 []))) (.cut [0, 1, 2] (.block 1 (.seq (.seq (.ops 2 (zb Tryd.f22 2)) (.cond (.tmp 11) (.seq (.ops 3 (zb Tryd.f22 3)) (.ret [6])) .skip)) (.ops 4 (zb Tryd.f22 4))))))
noncomputable def qag.u3.l (k:Nat) (kr:Bool->M α) (kx0:M α):Nat->Sl->Int->Int->M α
 | 0, _, _, _=>fail
 | j + 1, x0, x1, x2=>
  qag.u2.f k x0 x1 x2 (fun y0 y1 y2=>qag.u3.l k kr kx0 j y0 y1 y2) kr kx0
noncomputable abbrev qag.u3.f (k:Nat) (x0:Sl) (x1 x2:Int) (kr:Bool->M α) (kx0:M α):M α:=
 qag.u3.l k kr kx0 k x0 x1 x2
noncomputable def qag.u3.c:IC:=.loop [0, 1, 2] qag.u2.c
noncomputable abbrev qag.u4.f (k:Nat) (x0:Sl) (x1 x2:Int) (kn:M α) (kr:Bool->M α):M α:=
 qag.u3.f k x0 x1 x2 kr (kn)
noncomputable def qag.u4.c:IC:=.block 0 qag.u3.c
noncomputable def qag.u5.f (k:Nat) (kr:Bool->M α):M α:=
 kr false
noncomputable def qag.u5.c:IC:=(.seq (.ops 5 (zb Tryd.f22 5)) (.ret [6]))
noncomputable abbrev qag.u6.f (k:Nat) (x0:Sl) (x1 x2:Int) (kr:Bool->M α):M α:=
 qag.u4.f k x0 x1 x2 (qag.u5.f k kr) kr
noncomputable def qag.u6.c:IC:=(.seq qag.u4.c qag.u5.c)
noncomputable abbrev qag.u7.f (k:Nat) (x0:Sl) (x1 x2:Int) (kr:Bool->M α):M α:=
 qag.u1.f k x0 x1 x2 (fun y0 y1 y2=>qag.u6.f k y0 y1 y2 kr)
noncomputable def qag.u7.c:IC:=qag.u1.c qag.u6.c
noncomputable def qag.f:Nat->Sl->Int->Int->(Bool->M α)->M α
 | 0, _, _, _, _=>fail
 | k + 1, x0, x1, x2, ret=>
  qag.u7.f k x0 x1 x2 (fun y0=>
   ret y0)
noncomputable def qi.u1.f (k:Nat) (x0:Sl) (kn:Sl->Sl->Sl->Sl->M α) (kr:Sl->M α):M α:=
 qv.f k x0 fun r3=>
 cond (!r3) (
  kr Sl.nil) (
  ql.f k x0 fun r4=>
  qbh.f k x0 fun r5=>
  kn x0 r4 r5 Sl.nil)
noncomputable def qi.u1.c (R:IC):IC:=(.seq (.ops 0 (zb Tryd.f9 0)) (.seq (.ops 1 (zb Tryd.f9 1)) (.seq (.seq (.ops 2 (zb Tryd.f9 2)) (.cond (.tmp 13) (.seq (.ops 3 (zb Tryd.f9 3)) (.ret [2])) .skip)) (.seq (.ops 4 (zb Tryd.f9 4)) (.seq (.ops 5 (zb Tryd.f9 5)) (.seq (.cut [0, 4, 5, 6] (.ops 6 (zb Tryd.f9 6))) R))))))
noncomputable def qi.u2.f (k:Nat) (x0 x1:Sl) (x2 x3:Sl) (kn:Sl->Sl->Sl->Sl->Int->M α):M α:=
 kn x0 x1 x2 x3 0
noncomputable def qi.u2.c (R:IC):IC:=(.seq (.cut [0, 4, 5, 6, 7] (.ops 7 (zb Tryd.f9 7))) R)
noncomputable def qi.u3.f (k:Nat) (x0 x1:Sl) (x2 x3:Sl) (x4:Int) (kn:Sl->Sl->Sl->Sl->Int->M α) (kx0:Sl->M α):M α:=
 cond (decide (x4 < (x0.len:Int))) (
  kn x0 x1 x2 x3 x4) (
  kx0 x3)
noncomputable def qi.u3.c (R:IC):IC:=(.seq (.cut [0, 4, 5, 6, 7] (.seq (.ops 8 (zb Tryd.f9 8)) (.cond (.tmp 21) .skip (.exit 0 [6])))) R)
noncomputable def qi.u4.f (k:Nat) (x0 x1:Sl) (x2 x3:Sl) (x4:Int) (kn:Sl->Sl->Sl->Sl->Int->Int->M α):M α:=
 kn x0 x1 x2 x3 x4 0
noncomputable def qi.u4.c (R:IC):IC:=(.seq (.cut [0, 4, 5, 6, 7, 8] (.ops 10 (zb Tryd.f9 10))) R)
noncomputable def qi.u5.f (k:Nat) (x0 x1:Sl) (x2 x3:Sl) (x4 x5:Int) (kn:Sl->Sl->Sl->Sl->Int->Int->Int->M α):M α:=
 kn x0 x1 x2 x3 x4 x5 0
noncomputable def qi.u5.c (R:IC):IC:=(.seq (.cut [0, 4, 5, 6, 7, 8, 9] (.ops 11 (zb Tryd.f9 11))) R)
noncomputable def qi.u6.f (k:Nat) (x0 x1:Sl) (x2 x3:Sl) (x4 x5 x6:Int) (kn:Sl->Sl->Sl->Sl->Int->Int->Int->M α) (kx2:Sl->Sl->Sl->Sl->Int->Int->M α):M α:=
 cond (decide (x6 < (x0.len:Int))) (
  idxSl x2 x6 1 fun a9=>
  ldI .i64 (a9.add 0) fun x10=>
  cond (decide (0≤x10)) (
   qag.f k x1 x6 x4 fun r11=>
   cond (r11) (
    idxSl x2 x6 1 fun a12=>
    ldI .i64 (a12.add 0) fun x13=>
    qag.f k x1 x13 x4 fun r14=>
    cond (!r14) (
     idxSl x2 x6 1 fun a15=>
     ldI .i64 (a15.add 0) fun x16=>
     need (decide (0≤IntKind.wrap .u64 (x16))) <|
     kn x0 x1 x2 x3 x4 (bits .or .u64 x5 (IntKind.wrap .u64 (1 * 2 ^ (min (IntKind.wrap .u64 (x16)).toNat 64)))) (w64 (x6 + 1))) (
     kn x0 x1 x2 x3 x4 x5 (w64 (x6 + 1)))) (
    kn x0 x1 x2 x3 x4 x5 (w64 (x6 + 1)))) (
   kn x0 x1 x2 x3 x4 x5 (w64 (x6 + 1)))) (
  kx2 x0 x1 x2 x3 x4 x5)
noncomputable def qi.u6.c:IC:=(.seq (.seq (.ops 12 (zb Tryd.f9 12)) (.cond (.tmp 27) .skip (.exit 2 [0, 4, 5, 6, 7, 8]))) (.seq (.block 3 (.seq (.ops 14 (zb Tryd.f9 14)) (.cond (.tmp 50) (.ops 15 (zb Tryd.f9 15)) .skip))) (.cut [0, 4, 5, 6, 7, 8, 9] (.ops 13 (zb Tryd.f9 13)))))
noncomputable def qi.u7.l (k:Nat) (kx2:Sl->Sl->Sl->Sl->Int->Int->M α):Nat->Sl->Sl->Sl->Sl->Int->Int->Int->M α
 | 0, _, _, _, _, _, _, _=>fail
 | j + 1, x0, x1, x2, x3, x4, x5, x6=>
  qi.u6.f k x0 x1 x2 x3 x4 x5 x6 (fun y0 y1 y2 y3 y4 y5 y6=>qi.u7.l k kx2 j y0 y1 y2 y3 y4 y5 y6) kx2
noncomputable abbrev qi.u7.f (k:Nat) (x0 x1:Sl) (x2 x3:Sl) (x4 x5 x6:Int) (kx2:Sl->Sl->Sl->Sl->Int->Int->M α):M α:=
 qi.u7.l k kx2 k x0 x1 x2 x3 x4 x5 x6
noncomputable def qi.u7.c:IC:=.loop [0, 4, 5, 6, 7, 8, 9] qi.u6.c
noncomputable abbrev qi.u8.f (k:Nat) (x0 x1:Sl) (x2 x3:Sl) (x4 x5 x6:Int) (kn:Sl->Sl->Sl->Sl->Int->Int->M α):M α:=
 qi.u7.f k x0 x1 x2 x3 x4 x5 x6 (fun y0 y1 y2 y3 y4 y5=>kn y0 y1 y2 y3 y4 y5)
noncomputable def qi.u8.c:IC:=.block 2 qi.u7.c
noncomputable abbrev qi.u9.f (k:Nat) (x0 x1:Sl) (x2 x3:Sl) (x4 x5:Int) (kn:Sl->Sl->Sl->Sl->Int->Int->M α):M α:=
 qi.u5.f k x0 x1 x2 x3 x4 x5 (fun y0 y1 y2 y3 y4 y5 y6=>qi.u8.f k y0 y1 y2 y3 y4 y5 y6 kn)
noncomputable def qi.u9.c:IC:=qi.u5.c qi.u8.c
noncomputable def qi.u10.f (k:Nat) (x0 x1:Sl) (x2 x3:Sl) (x4 x5:Int) (kn:Sl->Sl->Sl->Sl->Int->M α):M α:=
 new [.int .u64 x5] fun r8=>
 jw x3 1 8 (⟨some r8, 1, 1, none⟩:Sl) fun x9=>
 kn x0 x1 x2 x9 x4
noncomputable def qi.u10.c:IC:=(.cut [0, 4, 5, 6, 7] (.ops 16 (zb Tryd.f9 16)))
noncomputable abbrev qi.u11.f (k:Nat) (x0 x1:Sl) (x2 x3:Sl) (x4 x5:Int) (kn:Sl->Sl->Sl->Sl->Int->M α):M α:=
 qi.u9.f k x0 x1 x2 x3 x4 x5 (fun y0 y1 y2 y3 y4 y5=>qi.u10.f k y0 y1 y2 y3 y4 y5 kn)
noncomputable def qi.u11.c:IC:=(.seq qi.u9.c qi.u10.c)
noncomputable abbrev qi.u12.f (k:Nat) (x0 x1:Sl) (x2 x3:Sl) (x4:Int) (kn:Sl->Sl->Sl->Sl->Int->M α):M α:=
 qi.u4.f k x0 x1 x2 x3 x4 (fun y0 y1 y2 y3 y4 y5=>qi.u11.f k y0 y1 y2 y3 y4 y5 kn)
noncomputable def qi.u12.c:IC:=qi.u4.c qi.u11.c
noncomputable abbrev qi.u13.f (k:Nat) (x0 x1:Sl) (x2 x3:Sl) (x4:Int) (kn:Sl->Sl->Sl->Sl->Int->M α):M α:=
 qi.u12.f k x0 x1 x2 x3 x4 (fun y0 y1 y2 y3 y4=>kn y0 y1 y2 y3 y4)
noncomputable def qi.u13.c:IC:=.block 1 qi.u12.c
noncomputable def qi.u14.f (k:Nat) (x0 x1:Sl) (x2 x3:Sl) (x4:Int) (kn:Sl->Sl->Sl->Sl->Int->M α):M α:=
 kn x0 x1 x2 x3 (w64 (x4 + 1))
noncomputable def qi.u14.c:IC:=(.cut [0, 4, 5, 6, 7] (.ops 9 (zb Tryd.f9 9)))
noncomputable abbrev qi.u15.f (k:Nat) (x0 x1:Sl) (x2 x3:Sl) (x4:Int) (kn:Sl->Sl->Sl->Sl->Int->M α):M α:=
 qi.u13.f k x0 x1 x2 x3 x4 (fun y0 y1 y2 y3 y4=>qi.u14.f k y0 y1 y2 y3 y4 kn)
noncomputable def qi.u15.c:IC:=(.seq qi.u13.c qi.u14.c)
noncomputable abbrev qi.u16.f (k:Nat) (x0 x1:Sl) (x2 x3:Sl) (x4:Int) (kn:Sl->Sl->Sl->Sl->Int->M α) (kx0:Sl->M α):M α:=
 qi.u3.f k x0 x1 x2 x3 x4 (fun y0 y1 y2 y3 y4=>qi.u15.f k y0 y1 y2 y3 y4 kn) kx0
noncomputable def qi.u16.c:IC:=qi.u3.c qi.u15.c
noncomputable def qi.u17.l (k:Nat) (kx0:Sl->M α):Nat->Sl->Sl->Sl->Sl->Int->M α
 | 0, _, _, _, _, _=>fail
 | j + 1, x0, x1, x2, x3, x4=>
  qi.u16.f k x0 x1 x2 x3 x4 (fun y0 y1 y2 y3 y4=>qi.u17.l k kx0 j y0 y1 y2 y3 y4) kx0
noncomputable abbrev qi.u17.f (k:Nat) (x0 x1:Sl) (x2 x3:Sl) (x4:Int) (kx0:Sl->M α):M α:=
 qi.u17.l k kx0 k x0 x1 x2 x3 x4
noncomputable def qi.u17.c:IC:=.loop [0, 4, 5, 6, 7] qi.u16.c
noncomputable abbrev qi.u18.f (k:Nat) (x0 x1:Sl) (x2 x3:Sl) (x4:Int) (kn:Sl->M α):M α:=
 qi.u17.f k x0 x1 x2 x3 x4 (fun y0=>kn y0)
noncomputable def qi.u18.c:IC:=.block 0 qi.u17.c
noncomputable abbrev qi.u19.f (k:Nat) (x0 x1:Sl) (x2 x3:Sl) (kn:Sl->M α):M α:=
 qi.u2.f k x0 x1 x2 x3 (fun y0 y1 y2 y3 y4=>qi.u18.f k y0 y1 y2 y3 y4 kn)
noncomputable def qi.u19.c:IC:=qi.u2.c qi.u18.c
noncomputable def qi.u20.f (k:Nat) (x0:Sl) (kr:Sl->M α):M α:=
 kr x0
noncomputable def qi.u20.c:IC:=(.seq (.ops 17 (zb Tryd.f9 17)) (.ret [2]))
noncomputable abbrev qi.u21.f (k:Nat) (x0 x1:Sl) (x2 x3:Sl) (kr:Sl->M α):M α:=
 qi.u19.f k x0 x1 x2 x3 (fun y0=>qi.u20.f k y0 kr)
noncomputable def qi.u21.c:IC:=(.seq qi.u19.c qi.u20.c)
noncomputable abbrev qi.u22.f (k:Nat) (x0:Sl) (kr:Sl->M α):M α:=
 qi.u1.f k x0 (fun y0 y1 y2 y3=>qi.u21.f k y0 y1 y2 y3 kr) kr
noncomputable def qi.u22.c:IC:=qi.u1.c qi.u21.c
noncomputable def qi.f:Nat->Sl->(Sl->M α)->M α
 | 0, _, _=>fail
 | k + 1, x0, ret=>
  qi.u22.f k x0 (fun y0=>
   ret y0)
noncomputable def qd.u1.f (k:Nat) (x0:Sl) (kn:Sl->Sl->Sl->Sl->M α) (kr:Sl->M α):M α:=
 qv.f k x0 fun r3=>
 cond (!r3) (
  kr Sl.nil) (
  ql.f k x0 fun r4=>
  qi.f k x0 fun r5=>
  mkSl (x0.len:Int) (x0.len:Int) 8 [.int .i64 0] fun r6=>
  kn x0 r4 r5 r6)
noncomputable def qd.u1.c (R:IC):IC:=(.seq (.ops 0 (zb Tryd.f11 0)) (.seq (.ops 1 (zb Tryd.f11 1)) (.seq (.seq (.ops 2 (zb Tryd.f11 2)) (.cond (.tmp 16) (.seq (.ops 3 (zb Tryd.f11 3)) (.ret [2])) .skip)) (.seq (.ops 4 (zb Tryd.f11 4)) (.seq (.ops 5 (zb Tryd.f11 5)) (.seq (.cut [0, 4, 5, 6] (.ops 6 (zb Tryd.f11 6))) R))))))
noncomputable def qd.u2.f (k:Nat) (x0 x1:Sl) (x2 x3:Sl) (kn:Sl->Sl->Sl->Sl->Int->M α):M α:=
 kn x0 x1 x2 x3 0
noncomputable def qd.u2.c (R:IC):IC:=(.seq (.cut [0, 4, 5, 6, 7] (.ops 7 (zb Tryd.f11 7))) R)
noncomputable def qd.u3.f (k:Nat) (x0 x1:Sl) (x2 x3:Sl) (x4:Int) (kn:Sl->Sl->Sl->Sl->Int->M α) (kx0:Sl->M α):M α:=
 cond (decide (x4 < (x0.len:Int))) (
  kn x0 x1 x2 x3 x4) (
  kx0 x3)
noncomputable def qd.u3.c (R:IC):IC:=(.seq (.cut [0, 4, 5, 6, 7] (.seq (.ops 8 (zb Tryd.f11 8)) (.cond (.tmp 27) .skip (.exit 0 [6])))) R)
noncomputable def qd.u4.f (k:Nat) (x0 x1:Sl) (x2 x3:Sl) (x4:Int) (kn:Sl->Sl->Sl->Sl->Int->Int->M α) (kx1:Sl->Sl->Sl->Sl->Int->M α):M α:=
 idxSl x0 x4 5 fun a7=>
 ldI .i64 (a7.add 0) fun x8=>
 ldI .i64 (a7.add 1) fun x9=>
 ldI .i64 (a7.add 2) fun x10=>
 ldStr (a7.add 3) fun x11=>
 ldI .i64 (a7.add 4) fun x12=>
 qar.f k x8 x9 x10 x11 x12 fun r13=>
 cond (!r13) (
  kx1 x0 x1 x2 x3 x4) (
  kn x0 x1 x2 x3 x4 0)
noncomputable def qd.u4.c (R:IC):IC:=(.seq (.ops 10 (zb Tryd.f11 10)) (.seq (.seq (.ops 11 (zb Tryd.f11 11)) (.cond (.tmp 36) (.exit 1 [0, 4, 5, 6, 7]) .skip)) (.seq (.cut [0, 4, 5, 6, 7, 9] (.ops 12 (zb Tryd.f11 12))) R)))
noncomputable def qd.u5.f (k:Nat) (x0 x1:Sl) (x2 x3:Sl) (x4 x5:Int) (kn:Sl->Sl->Sl->Sl->Int->Int->Int->M α):M α:=
 kn x0 x1 x2 x3 x4 x5 0
noncomputable def qd.u5.c (R:IC):IC:=(.seq (.cut [0, 4, 5, 6, 7, 9, 10] (.ops 13 (zb Tryd.f11 13))) R)
noncomputable def qd.u6.f (k:Nat) (x0 x1:Sl) (x2 x3:Sl) (x4 x5 x6:Int) (kn:Sl->Sl->Sl->Sl->Int->Int->Int->M α) (kx2:Sl->Sl->Sl->Sl->Int->Int->M α):M α:=
 cond (decide (x6 < x4)) (
  idxSl x0 x6 5 fun a9=>
  ldI .i64 (a9.add 0) fun x10=>
  ldI .i64 (a9.add 1) fun x11=>
  ldI .i64 (a9.add 2) fun x12=>
  ldStr (a9.add 3) fun x13=>
  ldI .i64 (a9.add 4) fun x14=>
  qar.f k x10 x11 x12 x13 x14 fun r15=>
  cond (r15) (
   qag.f k x1 x6 x4 fun r16=>
   cond (r16) (
    idxSl x2 x6 1 fun a17=>
    ldI .u64 (a17.add 0) fun x18=>
    need (decide (0≤IntKind.wrap .u64 (x4))) <|
    cond (decide (bits .and .u64 (Int.fdiv x18 (2 ^ (min (IntKind.wrap .u64 (x4)).toNat 64))) 1 = 1)) (
     idxSl x3 x6 1 fun a19=>
     ldI .i64 (a19.add 0) fun x20=>
     cond (decide (x5 < x20)) (
      idxSl x3 x6 1 fun a21=>
      ldI .i64 (a21.add 0) fun x22=>
      kn x0 x1 x2 x3 x4 x22 (w64 (x6 + 1))) (
      kn x0 x1 x2 x3 x4 x5 (w64 (x6 + 1)))) (
     kn x0 x1 x2 x3 x4 x5 (w64 (x6 + 1)))) (
    kn x0 x1 x2 x3 x4 x5 (w64 (x6 + 1)))) (
   kn x0 x1 x2 x3 x4 x5 (w64 (x6 + 1)))) (
  kx2 x0 x1 x2 x3 x4 x5)
noncomputable def qd.u6.c:IC:=(.seq (.seq (.ops 14 (zb Tryd.f11 14)) (.cond (.tmp 39) .skip (.exit 2 [0, 4, 5, 6, 7, 9]))) (.seq (.block 3 (.seq (.ops 16 (zb Tryd.f11 16)) (.seq (.ops 17 (zb Tryd.f11 17)) (.cond (.tmp 72) (.ops 18 (zb Tryd.f11 18)) .skip)))) (.cut [0, 4, 5, 6, 7, 9, 10] (.ops 15 (zb Tryd.f11 15)))))
noncomputable def qd.u7.l (k:Nat) (kx2:Sl->Sl->Sl->Sl->Int->Int->M α):Nat->Sl->Sl->Sl->Sl->Int->Int->Int->M α
 | 0, _, _, _, _, _, _, _=>fail
 | j + 1, x0, x1, x2, x3, x4, x5, x6=>
  qd.u6.f k x0 x1 x2 x3 x4 x5 x6 (fun y0 y1 y2 y3 y4 y5 y6=>qd.u7.l k kx2 j y0 y1 y2 y3 y4 y5 y6) kx2
noncomputable abbrev qd.u7.f (k:Nat) (x0 x1:Sl) (x2 x3:Sl) (x4 x5 x6:Int) (kx2:Sl->Sl->Sl->Sl->Int->Int->M α):M α:=
 qd.u7.l k kx2 k x0 x1 x2 x3 x4 x5 x6
noncomputable def qd.u7.c:IC:=.loop [0, 4, 5, 6, 7, 9, 10] qd.u6.c
noncomputable abbrev qd.u8.f (k:Nat) (x0 x1:Sl) (x2 x3:Sl) (x4 x5 x6:Int) (kn:Sl->Sl->Sl->Sl->Int->Int->M α):M α:=
 qd.u7.f k x0 x1 x2 x3 x4 x5 x6 (fun y0 y1 y2 y3 y4 y5=>kn y0 y1 y2 y3 y4 y5)
noncomputable def qd.u8.c:IC:=.block 2 qd.u7.c
noncomputable abbrev qd.u9.f (k:Nat) (x0 x1:Sl) (x2 x3:Sl) (x4 x5:Int) (kn:Sl->Sl->Sl->Sl->Int->Int->M α):M α:=
 qd.u5.f k x0 x1 x2 x3 x4 x5 (fun y0 y1 y2 y3 y4 y5 y6=>qd.u8.f k y0 y1 y2 y3 y4 y5 y6 kn)
noncomputable def qd.u9.c:IC:=qd.u5.c qd.u8.c
noncomputable def qd.u10.f (k:Nat) (x0 x1:Sl) (x2 x3:Sl) (x4 x5:Int) (kn:Sl->Sl->Sl->Sl->Int->Int->Int->M α):M α:=
 idxSl x0 x4 5 fun a8=>
 ldI .i64 ((a8.add 0).add 0) fun x9=>
 cond (decide (x9 = 10)) (
  kn x0 x1 x2 x3 x4 x5 1) (
  kn x0 x1 x2 x3 x4 x5 0)
noncomputable def qd.u10.c (R:IC):IC:=(.seq (.ops 19 (zb Tryd.f11 19)) (.seq (.cut [0, 4, 5, 6, 7, 9, 12] (.seq (.ops 20 (zb Tryd.f11 20)) (.cond (.tmp 82) (.ops 21 (zb Tryd.f11 21)) .skip))) R))
noncomputable def qd.u11.f (k:Nat) (x0 x1:Sl) (x2 x3:Sl) (x4 x5 x6:Int) (kn:Sl->Sl->Sl->Sl->Int->M α):M α:=
 cond (!(decide (Int.tmod x5 2 = x6))) (
  idxSl x3 x4 1 fun a9=>
  st1 (a9.add 0) (.int .i64 (w64 (x5 + 1))) <|
  kn x0 x1 x2 x3 x4) (
  idxSl x3 x4 1 fun a10=>
  st1 (a10.add 0) (.int .i64 x5) <|
  kn x0 x1 x2 x3 x4)
noncomputable def qd.u11.c:IC:=(.seq (.seq (.ops 22 (zb Tryd.f11 22)) (.cond (.tmp 86) (.ops 23 (zb Tryd.f11 23)) .skip)) (.cut [0, 4, 5, 6, 7] (.ops 24 (zb Tryd.f11 24))))
noncomputable abbrev qd.u12.f (k:Nat) (x0 x1:Sl) (x2 x3:Sl) (x4 x5:Int) (kn:Sl->Sl->Sl->Sl->Int->M α):M α:=
 qd.u10.f k x0 x1 x2 x3 x4 x5 (fun y0 y1 y2 y3 y4 y5 y6=>qd.u11.f k y0 y1 y2 y3 y4 y5 y6 kn)
noncomputable def qd.u12.c:IC:=qd.u10.c qd.u11.c
noncomputable abbrev qd.u13.f (k:Nat) (x0 x1:Sl) (x2 x3:Sl) (x4 x5:Int) (kn:Sl->Sl->Sl->Sl->Int->M α):M α:=
 qd.u9.f k x0 x1 x2 x3 x4 x5 (fun y0 y1 y2 y3 y4 y5=>qd.u12.f k y0 y1 y2 y3 y4 y5 kn)
noncomputable def qd.u13.c:IC:=(.seq qd.u9.c qd.u12.c)
noncomputable abbrev qd.u14.f (k:Nat) (x0 x1:Sl) (x2 x3:Sl) (x4:Int) (kn:Sl->Sl->Sl->Sl->Int->M α) (kx1:Sl->Sl->Sl->Sl->Int->M α):M α:=
 qd.u4.f k x0 x1 x2 x3 x4 (fun y0 y1 y2 y3 y4 y5=>qd.u13.f k y0 y1 y2 y3 y4 y5 kn) kx1
noncomputable def qd.u14.c:IC:=qd.u4.c qd.u13.c
noncomputable abbrev qd.u15.f (k:Nat) (x0 x1:Sl) (x2 x3:Sl) (x4:Int) (kn:Sl->Sl->Sl->Sl->Int->M α):M α:=
 qd.u14.f k x0 x1 x2 x3 x4 (fun y0 y1 y2 y3 y4=>kn y0 y1 y2 y3 y4) (fun y0 y1 y2 y3 y4=>kn y0 y1 y2 y3 y4)
noncomputable def qd.u15.c:IC:=.block 1 qd.u14.c
noncomputable def qd.u16.f (k:Nat) (x0 x1:Sl) (x2 x3:Sl) (x4:Int) (kn:Sl->Sl->Sl->Sl->Int->M α):M α:=
 kn x0 x1 x2 x3 (w64 (x4 + 1))
noncomputable def qd.u16.c:IC:=(.cut [0, 4, 5, 6, 7] (.ops 9 (zb Tryd.f11 9)))
noncomputable abbrev qd.u17.f (k:Nat) (x0 x1:Sl) (x2 x3:Sl) (x4:Int) (kn:Sl->Sl->Sl->Sl->Int->M α):M α:=
 qd.u15.f k x0 x1 x2 x3 x4 (fun y0 y1 y2 y3 y4=>qd.u16.f k y0 y1 y2 y3 y4 kn)
noncomputable def qd.u17.c:IC:=(.seq qd.u15.c qd.u16.c)
noncomputable abbrev qd.u18.f (k:Nat) (x0 x1:Sl) (x2 x3:Sl) (x4:Int) (kn:Sl->Sl->Sl->Sl->Int->M α) (kx0:Sl->M α):M α:=
 qd.u3.f k x0 x1 x2 x3 x4 (fun y0 y1 y2 y3 y4=>qd.u17.f k y0 y1 y2 y3 y4 kn) kx0
noncomputable def qd.u18.c:IC:=qd.u3.c qd.u17.c
noncomputable def qd.u19.l (k:Nat) (kx0:Sl->M α):Nat->Sl->Sl->Sl->Sl->Int->M α
 | 0, _, _, _, _, _=>fail
 | j + 1, x0, x1, x2, x3, x4=>
  qd.u18.f k x0 x1 x2 x3 x4 (fun y0 y1 y2 y3 y4=>qd.u19.l k kx0 j y0 y1 y2 y3 y4) kx0
noncomputable abbrev qd.u19.f (k:Nat) (x0 x1:Sl) (x2 x3:Sl) (x4:Int) (kx0:Sl->M α):M α:=
 qd.u19.l k kx0 k x0 x1 x2 x3 x4
noncomputable def qd.u19.c:IC:=.loop [0, 4, 5, 6, 7] qd.u18.c
noncomputable abbrev qd.u20.f (k:Nat) (x0 x1:Sl) (x2 x3:Sl) (x4:Int) (kn:Sl->M α):M α:=
 qd.u19.f k x0 x1 x2 x3 x4 (fun y0=>kn y0)
noncomputable def qd.u20.c:IC:=.block 0 qd.u19.c
noncomputable abbrev qd.u21.f (k:Nat) (x0 x1:Sl) (x2 x3:Sl) (kn:Sl->M α):M α:=
 qd.u2.f k x0 x1 x2 x3 (fun y0 y1 y2 y3 y4=>qd.u20.f k y0 y1 y2 y3 y4 kn)
noncomputable def qd.u21.c:IC:=qd.u2.c qd.u20.c
noncomputable def qd.u22.f (k:Nat) (x0:Sl) (kr:Sl->M α):M α:=
 kr x0
noncomputable def qd.u22.c:IC:=(.seq (.ops 25 (zb Tryd.f11 25)) (.ret [2]))
noncomputable abbrev qd.u23.f (k:Nat) (x0 x1:Sl) (x2 x3:Sl) (kr:Sl->M α):M α:=
 qd.u21.f k x0 x1 x2 x3 (fun y0=>qd.u22.f k y0 kr)
noncomputable def qd.u23.c:IC:=(.seq qd.u21.c qd.u22.c)
noncomputable abbrev qd.u24.f (k:Nat) (x0:Sl) (kr:Sl->M α):M α:=
 qd.u1.f k x0 (fun y0 y1 y2 y3=>qd.u23.f k y0 y1 y2 y3 kr) kr
noncomputable def qd.u24.c:IC:=qd.u1.c qd.u23.c
noncomputable def qd.f:Nat->Sl->(Sl->M α)->M α
 | 0, _, _=>fail
 | k + 1, x0, ret=>
  qd.u24.f k x0 (fun y0=>
   ret y0)
noncomputable def qj.u1.f (k:Nat) (x0:Sl) (kn:Sl->Bool->Sl->Sl->M α):M α:=
 qbl.f k fun r3=>
 qd.f k x0 fun r4=>
 new [] fun r5=>
 jw (⟨some r5, 0, 0, none⟩:Sl) 5 48 x0 fun x6=>
 new [.int .i64 (-7), .int .i64 0, .int .i64 0, .str [], .int .i64 0] fun r7=>
 jw x6 5 48 (⟨some r7, 1, 1, none⟩:Sl) fun x8=>
 kn x0 r3 r4 x8
noncomputable def qj.u1.c (R:IC):IC:=(.seq (.ops 0 (zb Tryd.f4 0)) (.seq (.ops 1 (zb Tryd.f4 1)) (.seq (.ops 2 (zb Tryd.f4 2)) (.seq (.cut [0, 3, 4, 5] (.ops 3 (zb Tryd.f4 3))) R))))
noncomputable def qj.u2.f (k:Nat) (x0:Sl) (x1:Bool) (x2 x3:Sl) (kn:Sl->Bool->Sl->Sl->Int->M α):M α:=
 kn x0 x1 x2 x3 0
noncomputable def qj.u2.c (R:IC):IC:=(.seq (.cut [0, 3, 4, 5, 6] (.ops 4 (zb Tryd.f4 4))) R)
noncomputable def qj.u3.f (k:Nat) (x0:Sl) (x1:Bool) (x2 x3:Sl) (x4:Int) (kn:Sl->Bool->Sl->Sl->Int->M α) (kx0:Sl->Sl->M α):M α:=
 cond (decide (x4 < 2)) (
  kn x0 x1 x2 x3 x4) (
  kx0 x0 x3)
noncomputable def qj.u3.c (R:IC):IC:=(.seq (.cut [0, 3, 4, 5, 6] (.seq (.ops 5 (zb Tryd.f4 5)) (.cond (.tmp 19) .skip (.exit 0 [0, 5])))) R)
noncomputable def qj.u4.f (k:Nat) (x0:Sl) (x1:Bool) (x2 x3:Sl) (x4:Int) (kn:Sl->Bool->Sl->Sl->Int->Sl->Int->M α) (kr:Bool->M α):M α:=
 cutSl x3 5 none (some (x0.len:Int)) none fun x7=>
 qg.f k x7 fun r8=>
 cond (!x1) (
  kr false) (
  cond (!(decide ((r8.len:Int) = (x2.len:Int)))) (
   kr false) (
   kn x0 x1 x2 x3 x4 r8 0))
noncomputable def qj.u4.c (R:IC):IC:=(.seq (.ops 7 (zb Tryd.f4 7)) (.seq (.seq (.ops 8 (zb Tryd.f4 8)) (.cond (.tmp 35) (.seq (.ops 9 (zb Tryd.f4 9)) (.ret [2])) .skip)) (.seq (.cut [0, 3, 4, 5, 6, 7, 8] (.ops 10 (zb Tryd.f4 10))) R)))
noncomputable def qj.u5.f (k:Nat) (x0:Sl) (x1:Bool) (x2 x3:Sl) (x4:Int) (x5:Sl) (x6:Int) (kn:Sl->Bool->Sl->Sl->Int->Sl->Int->M α) (kr:Bool->M α) (kx2:Sl->Bool->Sl->Sl->Int->M α):M α:=
 cond (decide (x6 < (x5.len:Int))) (
  idxSl x5 x6 1 fun a9=>
  ldI .i64 (a9.add 0) fun x10=>
  idxSl x2 x6 1 fun a11=>
  ldI .i64 (a11.add 0) fun x12=>
  cond (!(decide (x10 = x12))) (
   kr false) (
   idxSl x3 x6 5 fun a13=>
   ldI .i64 (a13.add 0) fun x14=>
   ldI .i64 (a13.add 1) fun x15=>
   ldI .i64 (a13.add 2) fun x16=>
   ldStr (a13.add 3) fun x17=>
   ldI .i64 (a13.add 4) fun x18=>
   idxSl x0 x6 5 fun a19=>
   ldI .i64 (a19.add 0) fun x20=>
   ldI .i64 (a19.add 1) fun x21=>
   ldI .i64 (a19.add 2) fun x22=>
   ldStr (a19.add 3) fun x23=>
   ldI .i64 (a19.add 4) fun x24=>
   cond (!((decide (x14 = x20) && (decide (x15 = x21) && (decide (x16 = x22) && (decide (x17 = x23) && (decide (x18 = x24) && true))))))) (
    kr false) (
    idxSl x5 x6 1 fun a25=>
    st1 (a25.add 0) (.int .i64 (-5)) <|
    kn x0 x1 x2 x3 x4 x5 (w64 (x6 + 1))))) (
  kx2 x0 x1 x2 x3 x4)
noncomputable def qj.u5.c:IC:=(.seq (.seq (.ops 11 (zb Tryd.f4 11)) (.cond (.tmp 39) .skip (.exit 2 [0, 3, 4, 5, 6]))) (.seq (.block 3 (.seq (.seq (.drawn 13 (zb Tryd.f4 13) true [.op 0, .op 1, .op 2, .op 3, .op 4, .op 5, .op 6, .op 7, .op 8, .op 9, .op 10, .op 11, .op 12, .op 13, .op 14, .op 15, .op 16, .op 17, .op 18, .op 19]) (.cond (.tmp 61) (.seq (.ops 14 (zb Tryd.f4 14)) (.ret [2])) .skip)) (.ops 15 (zb Tryd.f4 15)))) (.cut [0, 3, 4, 5, 6, 7, 8] (.ops 12 (zb Tryd.f4 12)))))
noncomputable def qj.u6.l (k:Nat) (kr:Bool->M α) (kx2:Sl->Bool->Sl->Sl->Int->M α):Nat->Sl->Bool->Sl->Sl->Int->Sl->Int->M α
 | 0, _, _, _, _, _, _, _=>fail
 | j + 1, x0, x1, x2, x3, x4, x5, x6=>
  qj.u5.f k x0 x1 x2 x3 x4 x5 x6 (fun y0 y1 y2 y3 y4 y5 y6=>qj.u6.l k kr kx2 j y0 y1 y2 y3 y4 y5 y6) kr kx2
noncomputable abbrev qj.u6.f (k:Nat) (x0:Sl) (x1:Bool) (x2 x3:Sl) (x4:Int) (x5:Sl) (x6:Int) (kr:Bool->M α) (kx2:Sl->Bool->Sl->Sl->Int->M α):M α:=
 qj.u6.l k kr kx2 k x0 x1 x2 x3 x4 x5 x6
noncomputable def qj.u6.c:IC:=.loop [0, 3, 4, 5, 6, 7, 8] qj.u5.c
noncomputable abbrev qj.u7.f (k:Nat) (x0:Sl) (x1:Bool) (x2 x3:Sl) (x4:Int) (x5:Sl) (x6:Int) (kn:Sl->Bool->Sl->Sl->Int->M α) (kr:Bool->M α):M α:=
 qj.u6.f k x0 x1 x2 x3 x4 x5 x6 kr (fun y0 y1 y2 y3 y4=>kn y0 y1 y2 y3 y4)
noncomputable def qj.u7.c:IC:=.block 2 qj.u6.c
noncomputable abbrev qj.u8.f (k:Nat) (x0:Sl) (x1:Bool) (x2 x3:Sl) (x4:Int) (kn:Sl->Bool->Sl->Sl->Int->M α) (kr:Bool->M α):M α:=
 qj.u4.f k x0 x1 x2 x3 x4 (fun y0 y1 y2 y3 y4 y5 y6=>qj.u7.f k y0 y1 y2 y3 y4 y5 y6 kn kr) kr
noncomputable def qj.u8.c:IC:=qj.u4.c qj.u7.c
noncomputable abbrev qj.u9.f (k:Nat) (x0:Sl) (x1:Bool) (x2 x3:Sl) (x4:Int) (kn:Sl->Bool->Sl->Sl->Int->M α) (kr:Bool->M α):M α:=
 qj.u8.f k x0 x1 x2 x3 x4 (fun y0 y1 y2 y3 y4=>kn y0 y1 y2 y3 y4) kr
noncomputable def qj.u9.c:IC:=.block 1 qj.u8.c
noncomputable def qj.u10.f (k:Nat) (x0:Sl) (x1:Bool) (x2 x3:Sl) (x4:Int) (kn:Sl->Bool->Sl->Sl->Int->M α):M α:=
 kn x0 x1 x2 x3 (w64 (x4 + 1))
noncomputable def qj.u10.c:IC:=(.cut [0, 3, 4, 5, 6] (.ops 6 (zb Tryd.f4 6)))
noncomputable abbrev qj.u11.f (k:Nat) (x0:Sl) (x1:Bool) (x2 x3:Sl) (x4:Int) (kn:Sl->Bool->Sl->Sl->Int->M α) (kr:Bool->M α):M α:=
 qj.u9.f k x0 x1 x2 x3 x4 (fun y0 y1 y2 y3 y4=>qj.u10.f k y0 y1 y2 y3 y4 kn) kr
noncomputable def qj.u11.c:IC:=(.seq qj.u9.c qj.u10.c)
noncomputable abbrev qj.u12.f (k:Nat) (x0:Sl) (x1:Bool) (x2 x3:Sl) (x4:Int) (kn:Sl->Bool->Sl->Sl->Int->M α) (kr:Bool->M α) (kx0:Sl->Sl->M α):M α:=
 qj.u3.f k x0 x1 x2 x3 x4 (fun y0 y1 y2 y3 y4=>qj.u11.f k y0 y1 y2 y3 y4 kn kr) kx0
noncomputable def qj.u12.c:IC:=qj.u3.c qj.u11.c
noncomputable def qj.u13.l (k:Nat) (kr:Bool->M α) (kx0:Sl->Sl->M α):Nat->Sl->Bool->Sl->Sl->Int->M α
 | 0, _, _, _, _, _=>fail
 | j + 1, x0, x1, x2, x3, x4=>
  qj.u12.f k x0 x1 x2 x3 x4 (fun y0 y1 y2 y3 y4=>qj.u13.l k kr kx0 j y0 y1 y2 y3 y4) kr kx0
noncomputable abbrev qj.u13.f (k:Nat) (x0:Sl) (x1:Bool) (x2 x3:Sl) (x4:Int) (kr:Bool->M α) (kx0:Sl->Sl->M α):M α:=
 qj.u13.l k kr kx0 k x0 x1 x2 x3 x4
noncomputable def qj.u13.c:IC:=.loop [0, 3, 4, 5, 6] qj.u12.c
noncomputable abbrev qj.u14.f (k:Nat) (x0:Sl) (x1:Bool) (x2 x3:Sl) (x4:Int) (kn:Sl->Sl->M α) (kr:Bool->M α):M α:=
 qj.u13.f k x0 x1 x2 x3 x4 kr (fun y0 y1=>kn y0 y1)
noncomputable def qj.u14.c:IC:=.block 0 qj.u13.c
noncomputable abbrev qj.u15.f (k:Nat) (x0:Sl) (x1:Bool) (x2 x3:Sl) (kn:Sl->Sl->M α) (kr:Bool->M α):M α:=
 qj.u2.f k x0 x1 x2 x3 (fun y0 y1 y2 y3 y4=>qj.u14.f k y0 y1 y2 y3 y4 kn kr)
noncomputable def qj.u15.c:IC:=qj.u2.c qj.u14.c
noncomputable def qj.u16.f (k:Nat) (x0 x1:Sl) (kr:Bool->M α):M α:=
 idxSl x1 (x0.len:Int) 5 fun a4=>
 ldI .i64 ((a4.add 0).add 0) fun x5=>
 kr (decide (x5 = (-7)))
noncomputable def qj.u16.c:IC:=(.seq (.ops 16 (zb Tryd.f4 16)) (.ret [2]))
noncomputable abbrev qj.u17.f (k:Nat) (x0:Sl) (x1:Bool) (x2 x3:Sl) (kr:Bool->M α):M α:=
 qj.u15.f k x0 x1 x2 x3 (fun y0 y1=>qj.u16.f k y0 y1 kr) kr
noncomputable def qj.u17.c:IC:=(.seq qj.u15.c qj.u16.c)
noncomputable abbrev qj.u18.f (k:Nat) (x0:Sl) (kr:Bool->M α):M α:=
 qj.u1.f k x0 (fun y0 y1 y2 y3=>qj.u17.f k y0 y1 y2 y3 kr)
noncomputable def qj.u18.c:IC:=qj.u1.c qj.u17.c
noncomputable def qj.f:Nat->Sl->(Bool->M α)->M α
 | 0, _, _=>fail
 | k + 1, x0, ret=>
  qj.u18.f k x0 (fun y0=>
   ret y0)
noncomputable def ti:Nat->Option TI
 | 3=>some ⟨Tryd.t3.desc, 1, 8, [.int .i64 0], [.int .i64], false, false⟩
 | 4=>some ⟨Tryd.t4.desc, 1, 1, [.bool false], [.bool], false, false⟩
 | 5=>some ⟨Tryd.t5.desc, 1, 1, [.int .u8 0], [.int .u8], false, false⟩
 | 9=>some ⟨Tryd.t9.desc, 1, 16, [.str []], [.str], false, false⟩
 | 20=>some ⟨Tryd.t20.desc, 1, 16, [.nilIface], [.any], false, false⟩
 | 22=>some ⟨Tryd.t22.desc, 1, 24, [.slice Sl.nil], [.slice], false, false⟩
 | 24=>some ⟨Tryd.t24.desc, 1, 24, [.slice Sl.nil], [.slice], false, false⟩
 | 26=>some ⟨Tryd.t26.desc, 1, 8, [.int .u64 0], [.int .u64], false, false⟩
 | 28=>some ⟨Tryd.t28.desc, 1, 24, [.slice Sl.nil], [.slice], false, false⟩
 | 31=>some ⟨Tryd.t30.desc, 5, 48, [.int .i64 0, .int .i64 0, .int .i64 0, .str [], .int .i64 0], [.int .i64, .int .i64, .int .i64, .str, .int .i64], true, true⟩
 | 33=>some ⟨Tryd.t33.desc, 1, 8, [.int .u64 0], [.int .u64], false, false⟩
 | 36=>some ⟨Tryd.t35.desc, 1, 16, [.nilIface], [.any], false, false⟩
 | 42=>some ⟨Tryd.t42.desc, 1, 24, [.slice Sl.nil], [.slice], false, false⟩
 | 43=>some ⟨Tryd.t43.desc, 1, 24, [.slice Sl.nil], [.slice], false, false⟩
 | 45=>some ⟨Tryd.t44.desc, 6, 128, [.slice Sl.nil, .slice Sl.nil, .int .i64 0, .slice Sl.nil, .slice Sl.nil, .slice Sl.nil], [.slice, .slice, .int .i64, .slice, .slice, .slice], true, false⟩
 | 49=>some ⟨Tryd.t49.desc, 1, 24, [.slice Sl.nil], [.slice], false, false⟩
 | 52=>some ⟨Tryd.t3.desc, 1, 8, [.int .i64 0], [.int .i64], false, false⟩
 | 54=>some ⟨Tryd.t53.desc, 2, 16, [.int .i64 0, .int .i64 0], [.int .i64, .int .i64], true, true⟩
 | 56=>some ⟨Tryd.t55.desc, 2, 16, [.int .i64 0, .int .i64 0], [.int .i64, .int .i64], true, false⟩
 | 57=>some ⟨Tryd.t57.desc, 1, 8, [.ptr none], [.ptr], false, false⟩
 | 61=>some ⟨Tryd.t60.desc, 4, 40, [.int .i64 0, .int .i64 0, .str [], .int .i64 0], [.int .i64, .int .i64, .str, .int .i64], true, true⟩
 | 64=>some ⟨Tryd.t63.desc, 3, 56, [.slice Sl.nil, .int .i64 0, .slice Sl.nil], [.slice, .int .i64, .slice], true, false⟩
 | 88=>some ⟨Tryd.t88.desc, 1, 8, [.map none], [.map], false, false⟩
 | 92=>some ⟨Tryd.t91.desc, 2, 16, [.int .i64 0, .int .i64 0], [.int .i64, .int .i64], true, true⟩
 | _=>none
noncomputable def T:Tab:=⟨ti, fun _=>none, fun t=>false⟩
noncomputable def env_77 (k:Nat) (args:List V) (κ:Res->M α):M α:=match args with
 | [a0, a1]=>
   zai a0 fun x1=>
   asI .u8 a1 fun x2=>
   qbs.f k x1 x2 (fun o0=>κ (.ret (.int .i64 o0)))
 | _=>fail
noncomputable def env_65 (k:Nat) (args:List V) (κ:Res->M α):M α:=match args with
 | [a0, a1]=>
   zai a0 fun x1=>
   asI .u8 a1 fun x2=>
   qbq.f k x1 x2 (fun o0=>κ (.ret (.int .i64 o0)))
 | _=>fail
noncomputable def env_51 (k:Nat) (args:List V) (κ:Res->M α):M α:=match args with
 | [a0, a1]=>
   zai a0 fun x1=>
   asI .u8 a1 fun x2=>
   qbp.f k x1 x2 (fun o0=>κ (.ret (.int .i64 o0)))
 | _=>fail
noncomputable def env_66 (k:Nat) (args:List V) (κ:Res->M α):M α:=match args with
 | [a0]=>
   asI .u8 a0 fun x1=>
   qbi.f k x1 (fun o0=>κ (.ret (.int .i64 o0)))
 | _=>fail
noncomputable def env_67 (k:Nat) (args:List V) (κ:Res->M α):M α:=match args with
 | [a0, a1]=>
   asI .i64 a0 fun x1=>
   zai a1 fun x2=>
   qk.f k x1 x2 (fun o0=>κ (.ret (.int .i64 o0)))
 | _=>fail
noncomputable def env_68 (k:Nat) (args:List V) (κ:Res->M α):M α:=match args with
 | [a0]=>
   zai a0 fun x1=>
   qp.f k x1 (fun o0 o1=>κ (.ret (.tuple [.int .i64 o0, .bool o1])))
 | _=>fail
noncomputable def env_52 (k:Nat) (args:List V) (κ:Res->M α):M α:=match args with
 | [a0, a1]=>
   zai a0 fun x1=>
   asI .i64 a1 fun x2=>
   qbj.f k x1 x2 (fun o0 o1 o2 o3 o4=>κ (.ret (.tuple [.agg [.int .i64 o0, .int .i64 o1, .str o2, .int .i64 o3], .int .i64 o4])))
 | _=>fail
noncomputable def env_32 (k:Nat) (args:List V) (κ:Res->M α):M α:=match args with
 | [a0]=>
   zai a0 fun x1=>
   qq.f k x1 (fun o0 o1=>κ (.ret (.tuple [.slice o0, o1])))
 | _=>fail
noncomputable def env_35 (k:Nat) (args:List V) (κ:Res->M α):M α:=match args with
 | [a0]=>
   asAgg a0 fun l1=>
   ya l1 fun v2 l3=>
   asI .i64 v2 fun x4=>
   ya l3 fun v5 l6=>
   asI .i64 v5 fun x7=>
   ya l6 fun v8 l9=>
   zai v8 fun x10=>
   ya l9 fun v11 l12=>
   asI .i64 v11 fun x13=>
   zan l12 <|
   qbd.f k x4 x7 x10 x13 (fun o0=>κ (.ret (.bool o0)))
 | _=>fail
noncomputable def env_53 (k:Nat) (args:List V) (κ:Res->M α):M α:=match args with
 | [a0, a1]=>
   asS a0 fun x1=>
   zcv a1 fun f2 l3 l4=>
   need (Nat.beq f2 35) <|
   zan l3 <|
   zan l4 <|
   qab.f k x1 (fun o0=>κ (.ret (.int .i64 o0)))
 | _=>fail
noncomputable def env_34 (k:Nat) (args:List V) (κ:Res->M α):M α:=match args with
 | [a0, a1]=>
   asS a0 fun x1=>
   zcv a1 fun f2 l3 l4=>
   need (Nat.beq f2 35) <|
   zan l3 <|
   zan l4 <|
   qu.f k x1 (fun o0=>κ (.ret (.slice o0)))
 | _=>fail
noncomputable def env_69 (k:Nat) (args:List V) (κ:Res->M α):M α:=match args with
 | [a0, a1]=>
   asP a0 fun x1=>
   asSome x1 fun p2=>
   zai a1 fun x3=>
   qaw.f k p2 x3 (fun o0=>κ (.ret (.bool o0)))
 | _=>fail
noncomputable def env_78 (k:Nat) (args:List V) (κ:Res->M α):M α:=match args with
 | [a0]=>
   asP a0 fun x1=>
   asSome x1 fun p2=>
   qao.f k p2 (fun o0 o1 o2 o3=>κ (.ret (.agg [.int .i64 o0, .int .i64 o1, .str o2, .int .i64 o3])))
 | _=>fail
noncomputable def env_70 (k:Nat) (args:List V) (κ:Res->M α):M α:=match args with
 | [a0]=>
   asP a0 fun x1=>
   asSome x1 fun p2=>
   qan.f k p2 (fun v=>κ (.pan v)) (fun o0 o1 o2 o3=>κ (.ret (.agg [.int .i64 o0, .int .i64 o1, .str o2, .int .i64 o3])))
 | _=>fail
noncomputable def env_71 (k:Nat) (args:List V) (κ:Res->M α):M α:=match args with
 | [a0, a1]=>
   asP a0 fun x1=>
   asSome x1 fun p2=>
   asAgg a1 fun l3=>
   ya l3 fun v4 l5=>
   asI .i64 v4 fun x6=>
   ya l5 fun v7 l8=>
   asI .i64 v7 fun x9=>
   ya l8 fun v10 l11=>
   asI .i64 v10 fun x12=>
   ya l11 fun v13 l14=>
   zai v13 fun x15=>
   ya l14 fun v16 l17=>
   asI .i64 v16 fun x18=>
   zan l17 <|
   qak.f k p2 x6 x9 x12 x15 x18 (fun o0=>κ (.ret (.int .i64 o0)))
 | _=>fail
noncomputable def env_37 (k:Nat) (args:List V) (κ:Res->M α):M α:=match args with
 | [a0]=>
   asP a0 fun x1=>
   asSome x1 fun p2=>
   qav.f k p2 (fun v=>κ (.pan v)) (κ (.ret (.tuple [])))
 | _=>fail
noncomputable def env_76 (k:Nat) (args:List V) (κ:Res->M α):M α:=match args with
 | [a0]=>
   zai a0 fun x1=>
   qbc.f k x1 (fun o0=>κ (.ret (.bool o0)))
 | _=>fail
noncomputable def env_80 (k:Nat) (args:List V) (κ:Res->M α):M α:=match args with
 | [a0, a1]=>
   asP a0 fun x1=>
   asSome x1 fun p2=>
   zai a1 fun x3=>
   qam.f k p2 x3 (fun v=>κ (.pan v)) (κ (.ret (.tuple [])))
 | _=>fail
noncomputable def env_79 (k:Nat) (args:List V) (κ:Res->M α):M α:=match args with
 | [a0, a1]=>
   asP a0 fun x1=>
   asSome x1 fun p2=>
   zai a1 fun x3=>
   qat.f k p2 x3 (fun v=>κ (.pan v)) (fun o0=>κ (.ret (.str o0)))
 | _=>fail
noncomputable def env_36 (k:Nat) (args:List V) (κ:Res->M α):M α:=match args with
 | [a0]=>
   asP a0 fun x1=>
   asSome x1 fun p2=>
   qal.f k p2 (fun v=>κ (.pan v)) (fun o0=>κ (.ret (.int .i64 o0)))
 | _=>fail
noncomputable def env_54 (k:Nat) (args:List V) (κ:Res->M α):M α:=match args with
 | [a0, a1, a2, a3]=>
   asP a0 fun x1=>
   asSome x1 fun p2=>
   zai a1 fun x3=>
   asI .i64 a2 fun x4=>
   qah.f k p2 x3 x4 a3 (fun v=>κ (.pan v)) (fun o0=>κ (.ret (.int .i64 o0)))
 | _=>fail
noncomputable def env_55 (k:Nat) (args:List V) (κ:Res->M α):M α:=match args with
 | [a0]=>
   asP a0 fun x1=>
   asSome x1 fun p2=>
   qaq.f k p2 (fun v=>κ (.pan v)) (fun o0=>κ (.ret (.int .i64 o0)))
 | _=>fail
noncomputable def env_72 (k:Nat) (args:List V) (κ:Res->M α):M α:=match args with
 | [a0]=>
   asP a0 fun x1=>
   asSome x1 fun p2=>
   qh.f k p2 (fun v=>κ (.pan v)) (fun o0=>κ (.ret (.int .i64 o0)))
 | _=>fail
noncomputable def env_81 (k:Nat) (args:List V) (κ:Res->M α):M α:=match args with
 | [a0]=>
   asP a0 fun x1=>
   asSome x1 fun p2=>
   qai.f k p2 (fun v=>κ (.pan v)) (fun o0=>κ (.ret (.int .i64 o0)))
 | _=>fail
noncomputable def env_18 (k:Nat) (args:List V) (κ:Res->M α):M α:=match args with
 | [a0]=>
   zai a0 fun x1=>
   qaj.f k x1 (fun o0 o1=>κ (.ret (.tuple [.slice o0, o1])))
 | _=>fail
noncomputable def env_25 (k:Nat) (args:List V) (κ:Res->M α):M α:=match args with
 | [a0]=>
   asI .u64 a0 fun x1=>
   qbr.f k x1 (fun o0=>κ (.ret (.int .i64 o0)))
 | _=>fail
noncomputable def env_27 (k:Nat) (args:List V) (κ:Res->M α):M α:=match args with
 | [a0]=>
   asAgg a0 fun l1=>
   ya l1 fun v2 l3=>
   asI .i64 v2 fun x4=>
   ya l3 fun v5 l6=>
   asI .i64 v5 fun x7=>
   ya l6 fun v8 l9=>
   asI .i64 v8 fun x10=>
   ya l9 fun v11 l12=>
   zai v11 fun x13=>
   ya l12 fun v14 l15=>
   asI .i64 v14 fun x16=>
   zan l15 <|
   qbe.f k x4 x7 x10 x13 x16 (fun o0=>κ (.ret (.bool o0)))
 | _=>fail
noncomputable def env_43 (k:Nat) (args:List V) (κ:Res->M α):M α:=match args with
 | [a0, a1]=>
   asS a0 fun x1=>
   zcv a1 fun f2 l3 l4=>
   need (Nat.beq f2 27) <|
   zan l3 <|
   zan l4 <|
   qaa.f k x1 (fun o0=>κ (.ret (.int .i64 o0)))
 | _=>fail
noncomputable def env_26 (k:Nat) (args:List V) (κ:Res->M α):M α:=match args with
 | [a0, a1]=>
   asS a0 fun x1=>
   zcv a1 fun f2 l3 l4=>
   need (Nat.beq f2 27) <|
   zan l3 <|
   zan l4 <|
   qbf.f k x1 (fun o0=>κ (.ret (.bool o0)))
 | _=>fail
noncomputable def env_42 (k:Nat) (args:List V) (κ:Res->M α):M α:=match args with
 | [a0]=>
   asS a0 fun x1=>
   qay.f k x1 (fun o0=>κ (.ret (.slice o0)))
 | _=>fail
noncomputable def env_75 (k:Nat) (args:List V) (κ:Res->M α):M α:=match args with
 | [a0, a1, a2]=>
   zai a0 fun x1=>
   asI .u8 a1 fun x2=>
   asI .u8 a2 fun x3=>
   qad.f k x1 x2 x3 (fun o0=>κ (.ret (.bool o0)))
 | _=>fail
noncomputable def env_60 (k:Nat) (args:List V) (κ:Res->M α):M α:=match args with
 | [a0]=>
   zai a0 fun x1=>
   qax.f k x1 (fun o0=>κ (.ret (.bool o0)))
 | _=>fail
noncomputable def env_61 (k:Nat) (args:List V) (κ:Res->M α):M α:=match args with
 | [a0]=>
   zai a0 fun x1=>
   qap.f k x1 (fun o0=>κ (.ret (.bool o0)))
 | _=>fail
noncomputable def env_45 (k:Nat) (args:List V) (κ:Res->M α):M α:=match args with
 | [a0]=>
   asAgg a0 fun l1=>
   ya l1 fun v2 l3=>
   asI .i64 v2 fun x4=>
   ya l3 fun v5 l6=>
   asI .i64 v5 fun x7=>
   ya l6 fun v8 l9=>
   asI .i64 v8 fun x10=>
   ya l9 fun v11 l12=>
   zai v11 fun x13=>
   ya l12 fun v14 l15=>
   asI .i64 v14 fun x16=>
   zan l15 <|
   qbn.f k x4 x7 x10 x13 x16 (fun o0 o1=>κ (.ret (.tuple [.int .i64 o0, .bool o1])))
 | _=>fail
noncomputable def env_47 (k:Nat) (args:List V) (κ:Res->M α):M α:=match args with
 | [a0]=>
   asI .i64 a0 fun x1=>
   qbo.f k x1 (fun o0=>κ (.ret (.bool o0)))
 | _=>fail
noncomputable def env_62 (k:Nat) (args:List V) (κ:Res->M α):M α:=match args with
 | [a0, a1]=>
   asS a0 fun x1=>
   zcv a1 fun f2 l3 l4=>
   need (Nat.beq f2 47) <|
   zan l3 <|
   zan l4 <|
   qaf.f k x1 (fun o0=>κ (.ret (.int .i64 o0)))
 | _=>fail
noncomputable def env_46 (k:Nat) (args:List V) (κ:Res->M α):M α:=match args with
 | [a0, a1]=>
   asS a0 fun x1=>
   zcv a1 fun f2 l3 l4=>
   need (Nat.beq f2 47) <|
   zan l3 <|
   zan l4 <|
   qbm.f k x1 (fun o0=>κ (.ret (.bool o0)))
 | _=>fail
noncomputable def env_48 (k:Nat) (args:List V) (κ:Res->M α):M α:=match args with
 | [a0, a1]=>
   asS a0 fun x1=>
   asS a1 fun x2=>
   qae.f k x1 x2 (fun o0=>κ (.ret (.bool o0)))
 | _=>fail
noncomputable def env_29 (k:Nat) (args:List V) (κ:Res->M α):M α:=match args with
 | [a0]=>
   asS a0 fun x1=>
   qr.f k x1 (fun o0=>κ (.ret (.bool o0)))
 | _=>fail
noncomputable def env_63 (k:Nat) (args:List V) (κ:Res->M α):M α:=match args with
 | [a0, a1]=>
   asP a0 fun x1=>
   asSome x1 fun p2=>
   zai a1 fun x3=>
   qw.f k p2 x3 (fun o0 o1 o2=>κ (.ret (.tuple [.agg [.int .i64 o0, .int .i64 o1], .bool o2])))
 | _=>fail
noncomputable def env_49 (k:Nat) (args:List V) (κ:Res->M α):M α:=match args with
 | [a0, a1]=>
   asP a0 fun x1=>
   asSome x1 fun p2=>
   asI .i64 a1 fun x3=>
   qc.f k p2 x3 (κ (.ret (.tuple [])))
 | _=>fail
noncomputable def env_30 (k:Nat) (args:List V) (κ:Res->M α):M α:=match args with
 | [a0]=>
   asS a0 fun x1=>
   qac.f k x1 (fun o0=>κ (.ret (.ptr (some o0))))
 | _=>fail
noncomputable def env_59 (k:Nat) (args:List V) (κ:Res->M α):M α:=match args with
 | [a0]=>
   asAgg a0 fun l1=>
   ya l1 fun v2 l3=>
   asI .i64 v2 fun x4=>
   ya l3 fun v5 l6=>
   asI .i64 v5 fun x7=>
   ya l6 fun v8 l9=>
   asI .i64 v8 fun x10=>
   ya l9 fun v11 l12=>
   zai v11 fun x13=>
   ya l12 fun v14 l15=>
   asI .i64 v14 fun x16=>
   zan l15 <|
   qaz.f k x4 x7 x10 x13 x16 (fun o0=>κ (.ret (.bool o0)))
 | _=>fail
noncomputable def env_44 (k:Nat) (args:List V) (κ:Res->M α):M α:=match args with
 | [a0]=>
   asS a0 fun x1=>
   qa.f k x1 (fun o0 o1=>κ (.ret (.tuple [.int .i64 o0, .int .i64 o1])))
 | _=>fail
noncomputable def env_28 (k:Nat) (args:List V) (κ:Res->M α):M α:=match args with
 | [a0]=>
   asS a0 fun x1=>
   qs.f k x1 (fun o0=>κ (.ret (.bool o0)))
 | _=>fail
noncomputable def env_13 (k:Nat) (args:List V) (κ:Res->M α):M α:=match args with
 | [a0]=>
   asS a0 fun x1=>
   qas.f k x1 (fun o0=>κ (.ret (.bool o0)))
 | _=>fail
noncomputable def env_15 (k:Nat) (args:List V) (κ:Res->M α):M α:=match args with
 | [a0]=>
   asS a0 fun x1=>
   qbg.f k x1 (fun o0=>κ (.ret (.slice o0)))
 | _=>fail
noncomputable def env_23 (k:Nat) (args:List V) (κ:Res->M α):M α:=match args with
 | [a0]=>
   asS a0 fun x1=>
   qz.f k x1 (fun o0=>κ (.ret (.slice o0)))
 | _=>fail
noncomputable def env_10 (k:Nat) (args:List V) (κ:Res->M α):M α:=match args with
 | [a0]=>
   asS a0 fun x1=>
   qb.f k x1 (fun o0=>κ (.ret (.slice o0)))
 | _=>fail
noncomputable def env_12 (k:Nat) (args:List V) (κ:Res->M α):M α:=match args with
 | [a0]=>
   asS a0 fun x1=>
   qg.f k x1 (fun o0=>κ (.ret (.slice o0)))
 | _=>fail
noncomputable def env_8 (k:Nat) (args:List V) (κ:Res->M α):M α:=match args with
 | []=>
   qbl.f k (fun o0=>κ (.ret (.bool o0)))
 | _=>fail
noncomputable def env_41 (k:Nat) (args:List V) (κ:Res->M α):M α:=match args with
 | [a0]=>
   asS a0 fun x1=>
   qt.f k x1 (fun o0=>κ (.ret (.slice o0)))
 | _=>fail
noncomputable def env_39 (k:Nat) (args:List V) (κ:Res->M α):M α:=match args with
 | [a0]=>
   asI .i64 a0 fun x1=>
   qbb.f k x1 (fun o0=>κ (.ret (.int .i64 o0)))
 | _=>fail
noncomputable def env_82 (k:Nat) (args:List V) (κ:Res->M α):M α:=match args with
 | [a0]=>
   zai a0 fun x1=>
   qo.f k x1 (fun o0=>κ (.ret (.bool o0)))
 | _=>fail
noncomputable def env_83 (k:Nat) (args:List V) (κ:Res->M α):M α:=match args with
 | [a0]=>
   zai a0 fun x1=>
   qba.f k x1 (fun o0=>κ (.ret (.bool o0)))
 | _=>fail
noncomputable def env_74 (k:Nat) (args:List V) (κ:Res->M α):M α:=match args with
 | [a0]=>
   asAgg a0 fun l1=>
   ya l1 fun v2 l3=>
   asI .i64 v2 fun x4=>
   ya l3 fun v5 l6=>
   asI .i64 v5 fun x7=>
   ya l6 fun v8 l9=>
   asI .i64 v8 fun x10=>
   ya l9 fun v11 l12=>
   zai v11 fun x13=>
   ya l12 fun v14 l15=>
   asI .i64 v14 fun x16=>
   zan l15 <|
   qbk.f k x4 x7 x10 x13 x16 (fun o0=>κ (.ret (.bool o0)))
 | _=>fail
noncomputable def env_57 (k:Nat) (args:List V) (κ:Res->M α):M α:=match args with
 | [a0]=>
   asS a0 fun x1=>
   qm.f k x1 (fun o0=>κ (.ret (.bool o0)))
 | _=>fail
noncomputable def env_20 (k:Nat) (args:List V) (κ:Res->M α):M α:=match args with
 | [a0]=>
   asS a0 fun x1=>
   ql.f k x1 (fun o0=>κ (.ret (.slice o0)))
 | _=>fail
noncomputable def env_24 (k:Nat) (args:List V) (κ:Res->M α):M α:=match args with
 | [a0]=>
   asAgg a0 fun l1=>
   ya l1 fun v2 l3=>
   asI .i64 v2 fun x4=>
   ya l3 fun v5 l6=>
   asI .i64 v5 fun x7=>
   ya l6 fun v8 l9=>
   asI .i64 v8 fun x10=>
   ya l9 fun v11 l12=>
   zai v11 fun x13=>
   ya l12 fun v14 l15=>
   asI .i64 v14 fun x16=>
   zan l15 <|
   qar.f k x4 x7 x10 x13 x16 (fun o0=>κ (.ret (.bool o0)))
 | _=>fail
noncomputable def env_73 (k:Nat) (args:List V) (κ:Res->M α):M α:=match args with
 | [a0]=>
   asS a0 fun x1=>
   qn.f k x1 (fun o0=>κ (.ret (.slice o0)))
 | _=>fail
noncomputable def env_58 (k:Nat) (args:List V) (κ:Res->M α):M α:=match args with
 | [a0, a1, a2]=>
   asS a0 fun x1=>
   asS a1 fun x2=>
   asI .i64 a2 fun x3=>
   qx.f k x1 x2 x3 (fun o0 o1=>κ (.ret (.tuple [.int .i64 o0, .int .i64 o1])))
 | _=>fail
noncomputable def env_56 (k:Nat) (args:List V) (κ:Res->M α):M α:=match args with
 | [a0]=>
   asS a0 fun x1=>
   qf.f k x1 (fun o0 o1=>κ (.ret (.tuple [.int .i64 o0, .int .i64 o1])))
 | _=>fail
noncomputable def env_38 (k:Nat) (args:List V) (κ:Res->M α):M α:=match args with
 | [a0]=>
   asS a0 fun x1=>
   qau.f k x1 (fun o0=>κ (.ret (.bool o0)))
 | _=>fail
noncomputable def env_19 (k:Nat) (args:List V) (κ:Res->M α):M α:=match args with
 | [a0]=>
   asS a0 fun x1=>
   qv.f k x1 (fun o0=>κ (.ret (.bool o0)))
 | _=>fail
noncomputable def env_40 (k:Nat) (args:List V) (κ:Res->M α):M α:=match args with
 | [a0]=>
   asS a0 fun x1=>
   qy.f k x1 (fun o0=>κ (.ret (.slice o0)))
 | _=>fail
noncomputable def env_21 (k:Nat) (args:List V) (κ:Res->M α):M α:=match args with
 | [a0]=>
   asS a0 fun x1=>
   qbh.f k x1 (fun o0=>κ (.ret (.slice o0)))
 | _=>fail
noncomputable def env_22 (k:Nat) (args:List V) (κ:Res->M α):M α:=match args with
 | [a0, a1, a2]=>
   asS a0 fun x1=>
   asI .i64 a1 fun x2=>
   asI .i64 a2 fun x3=>
   qag.f k x1 x2 x3 (fun o0=>κ (.ret (.bool o0)))
 | _=>fail
noncomputable def env_9 (k:Nat) (args:List V) (κ:Res->M α):M α:=match args with
 | [a0]=>
   asS a0 fun x1=>
   qi.f k x1 (fun o0=>κ (.ret (.slice o0)))
 | _=>fail
noncomputable def env_11 (k:Nat) (args:List V) (κ:Res->M α):M α:=match args with
 | [a0]=>
   asS a0 fun x1=>
   qd.f k x1 (fun o0=>κ (.ret (.slice o0)))
 | _=>fail
noncomputable def env_4 (k:Nat) (args:List V) (κ:Res->M α):M α:=match args with
 | [a0]=>
   asS a0 fun x1=>
   qj.f k x1 (fun o0=>κ (.ret (.bool o0)))
 | _=>fail
noncomputable def env (k:Nat):Call α:=fun f args κ=>match f with
 | 77=>env_77 k args κ
 | 65=>env_65 k args κ
 | 51=>env_51 k args κ
 | 66=>env_66 k args κ
 | 67=>env_67 k args κ
 | 68=>env_68 k args κ
 | 52=>env_52 k args κ
 | 32=>env_32 k args κ
 | 35=>env_35 k args κ
 | 53=>env_53 k args κ
 | 34=>env_34 k args κ
 | 69=>env_69 k args κ
 | 78=>env_78 k args κ
 | 70=>env_70 k args κ
 | 71=>env_71 k args κ
 | 37=>env_37 k args κ
 | 76=>env_76 k args κ
 | 80=>env_80 k args κ
 | 79=>env_79 k args κ
 | 36=>env_36 k args κ
 | 54=>env_54 k args κ
 | 55=>env_55 k args κ
 | 72=>env_72 k args κ
 | 81=>env_81 k args κ
 | 18=>env_18 k args κ
 | 25=>env_25 k args κ
 | 27=>env_27 k args κ
 | 43=>env_43 k args κ
 | 26=>env_26 k args κ
 | 42=>env_42 k args κ
 | 75=>env_75 k args κ
 | 60=>env_60 k args κ
 | 61=>env_61 k args κ
 | 45=>env_45 k args κ
 | 47=>env_47 k args κ
 | 62=>env_62 k args κ
 | 46=>env_46 k args κ
 | 48=>env_48 k args κ
 | 29=>env_29 k args κ
 | 63=>env_63 k args κ
 | 49=>env_49 k args κ
 | 30=>env_30 k args κ
 | 59=>env_59 k args κ
 | 44=>env_44 k args κ
 | 28=>env_28 k args κ
 | 13=>env_13 k args κ
 | 15=>env_15 k args κ
 | 23=>env_23 k args κ
 | 10=>env_10 k args κ
 | 12=>env_12 k args κ
 | 8=>env_8 k args κ
 | 41=>env_41 k args κ
 | 39=>env_39 k args κ
 | 82=>env_82 k args κ
 | 83=>env_83 k args κ
 | 74=>env_74 k args κ
 | 57=>env_57 k args κ
 | 20=>env_20 k args κ
 | 24=>env_24 k args κ
 | 73=>env_73 k args κ
 | 58=>env_58 k args κ
 | 56=>env_56 k args κ
 | 38=>env_38 k args κ
 | 19=>env_19 k args κ
 | 40=>env_40 k args κ
 | 21=>env_21 k args κ
 | 22=>env_22 k args κ
 | 9=>env_9 k args κ
 | 11=>env_11 k args κ
 | 4=>env_4 k args κ
 | _=>fail
noncomputable abbrev eC (k:Nat):IC->Frame->KF α->M α:=fun c ρ K=>evC T (env k) k c ρ K
noncomputable def qbq.c:IC:=qbq.u1.c
noncomputable def qbq.res:List ResultVar:=[(.tmp 4)]
theorem qbq.u1.ok (k:Nat) (x0:TX) (x1:Int) (K:KF α) :
  eC k qbq.u1.c (fr0 x0 x1) K =
   qbq.u1.f k x0 x1 (fun y0=>K .ret (fr1 y0)):=by kernel_rfl
theorem qbq.ok (k:Nat) (x0:TX) (x1:Int) (κ:Res->M α) :
  evF T (env k) k qbq.c qbq.res [.str x0, .int .u8 x1] κ = qbq.f (k + 1) x0 x1 (fun o0=>κ (.ret (.int .i64 o0))):=
 (qbq.u1.ok k x0 x1 (retK T qbq.res κ)).trans (by kernel_rfl)
theorem qbq.code:qbq.c.code = zy Tryd.f65:=by kernel_rfl
noncomputable def qbp.c:IC:=qbp.u1.c
noncomputable def qbp.res:List ResultVar:=[(.tmp 4)]
theorem qbp.u1.ok (k:Nat) (x0:TX) (x1:Int) (K:KF α) :
  eC k qbp.u1.c (fr0 x0 x1) K =
   qbp.u1.f k x0 x1 (fun y0=>K .ret (fr1 y0)):=by kernel_rfl
theorem qbp.ok (k:Nat) (x0:TX) (x1:Int) (κ:Res->M α) :
  evF T (env k) k qbp.c qbp.res [.str x0, .int .u8 x1] κ = qbp.f (k + 1) x0 x1 (fun o0=>κ (.ret (.int .i64 o0))):=
 (qbp.u1.ok k x0 x1 (retK T qbp.res κ)).trans (by kernel_rfl)
theorem qbp.code:qbp.c.code = zy Tryd.f51:=by kernel_rfl
noncomputable def qbi.c:IC:=qbi.u1.c
noncomputable def qbi.res:List ResultVar:=[(.tmp 2)]
theorem qbi.u1.ok (k:Nat) (x0:Int) (K:KF α) :
  eC k qbi.u1.c (fr2 x0) K =
   qbi.u1.f k x0 (fun y0=>K .ret (fr3 y0)):=by kernel_rfl
theorem qbi.ok (k:Nat) (x0:Int) (κ:Res->M α) :
  evF T (env k) k qbi.c qbi.res [.int .u8 x0] κ = qbi.f (k + 1) x0 (fun o0=>κ (.ret (.int .i64 o0))):=
 (qbi.u1.ok k x0 (retK T qbi.res κ)).trans (by kernel_rfl)
theorem qbi.code:qbi.c.code = zy Tryd.f66:=by kernel_rfl
noncomputable def qk.c:IC:=qk.u20.c
noncomputable def qk.res:List ResultVar:=[(.tmp 4)]
theorem qk.u1.ok (k:Nat) (x0:Int) (x1:TX) (R:IC) (K:KF α) :
  eC k (qk.u1.c R) (fr4 x0 x1) K =
   qk.u1.f k x0 x1 (fun y0 y1 y2=>eC k R (fr5 y0 y1 y2) K):=by kernel_rfl
theorem qk.u2.ok (k:Nat) (x0:Int) (x1:TX) (x2:Int) (R:IC) (K:KF α) :
  eC k (qk.u2.c R) (fr5 x0 x1 x2) K =
   qk.u2.f k x0 x1 x2 (fun y0 y1 y2=>eC k R (fr6 y0 y1 y2) K):=by kernel_rfl
theorem qk.u3.ok (k:Nat) (x0:TX) (x1 x2:Int) (R:IC) (K:KF α) :
  eC k (qk.u3.c R) (fr6 x0 x1 x2) K =
   qk.u3.f k x0 x1 x2 (fun y0 y1 y2 y3=>eC k R (fr7 y0 y1 y2 y3) K):=by kernel_rfl
theorem qk.u4.ok (k:Nat) (x0:TX) (x1:Int) (K:KF α) :
  eC k qk.u4.c (fr8 x0 x1) K =
   qk.u4.f k x0 x1 (fun y0 y1=>K .normal (fr8 y0 y1)) (fun y0=>K (.exit 1) (fr9 y0)):=by kernel_rfl
theorem qk.u5.ls (k:Nat) (kx1:Int->M α) (j:Nat) (x0:TX) (x1:Int):qk.u5.l k kx1 (j + 1) x0 x1 =
 qk.u4.f k x0 x1 (fun y0 y1=>qk.u5.l k kx1 j y0 y1) kx1:=rfl
theorem qk.u5.okl (k:Nat) (K:KF α):∀ (j:Nat) (x0:TX) (x1:Int),
  zr (eC k qk.u4.c) [1, 5] j (fr8 x0 x1) K = qk.u5.l k (fun y0=>K (.exit 1) (fr9 y0)) j x0 x1
 | 0, _, _=>rfl
 | j + 1, x0, x1=>by
   have h:=qk.u4.ok k x0 x1 (seqK (fun ρ=>zr (eC k qk.u4.c) [1, 5] j ρ K) K)
   simp only [zf, zh, zg, zd, qk.u5.okl k K j] at h
   exact (zo (by kernel_rfl) h).trans (qk.u5.ls k (fun y0=>K (.exit 1) (fr9 y0)) j x0 x1).symm
theorem qk.u5.ok (k:Nat) (x0:TX) (x1 x2:Int) (x3:Bool) (K:KF α) :
  eC k qk.u5.c (fr7 x0 x1 x2 x3) K =
   qk.u5.f k x0 x1 x2 x3 (fun y0=>K (.exit 1) (fr9 y0)):=
 jd.trans <| (zp (body:=eC k qk.u4.c) (keep:=[1, 5]) (ρ:=(fr7 x0 x1 x2 x3)) (ρ':=(fr8 x0 x1)) (by kernel_rfl) k K).trans (qk.u5.okl k K k x0 x1)
theorem qk.u6.ok (k:Nat) (x0:TX) (x1 x2:Int) (x3:Bool) (K:KF α) :
  eC k qk.u6.c (fr7 x0 x1 x2 x3) K =
   qk.u6.f k x0 x1 x2 x3 (fun y0=>K .normal (fr9 y0)):=
 (zm.trans (qk.u5.ok k x0 x1 x2 x3 (jf 1 K))).trans (by kernel_rfl)
theorem qk.u7.ok (k:Nat) (x0:TX) (x1 x2:Int) (x3:Bool) (R:IC) (K:KF α) :
  eC k (qk.u7.c R) (fr7 x0 x1 x2 x3) K =
   qk.u7.f k x0 x1 x2 x3 (fun y0 y1 y2=>eC k R (fr10 y0 y1 y2) K):=by kernel_rfl
theorem qk.u8.ok (k:Nat) (x0:TX) (x1:Int) (K:KF α) :
  eC k qk.u8.c (fr8 x0 x1) K =
   qk.u8.f k x0 x1 (fun y0 y1=>K .normal (fr8 y0 y1)) (fun y0=>K (.exit 3) (fr9 y0)):=by kernel_rfl
theorem qk.u9.ls (k:Nat) (kx3:Int->M α) (j:Nat) (x0:TX) (x1:Int):qk.u9.l k kx3 (j + 1) x0 x1 =
 qk.u8.f k x0 x1 (fun y0 y1=>qk.u9.l k kx3 j y0 y1) kx3:=rfl
theorem qk.u9.okl (k:Nat) (K:KF α):∀ (j:Nat) (x0:TX) (x1:Int),
  zr (eC k qk.u8.c) [1, 5] j (fr8 x0 x1) K = qk.u9.l k (fun y0=>K (.exit 3) (fr9 y0)) j x0 x1
 | 0, _, _=>rfl
 | j + 1, x0, x1=>by
   have h:=qk.u8.ok k x0 x1 (seqK (fun ρ=>zr (eC k qk.u8.c) [1, 5] j ρ K) K)
   simp only [zf, zh, zg, zd, qk.u9.okl k K j] at h
   exact (zo (by kernel_rfl) h).trans (qk.u9.ls k (fun y0=>K (.exit 3) (fr9 y0)) j x0 x1).symm
theorem qk.u9.ok (k:Nat) (x0:TX) (x1:Int) (x2:Bool) (K:KF α) :
  eC k qk.u9.c (fr10 x0 x1 x2) K =
   qk.u9.f k x0 x1 x2 (fun y0=>K (.exit 3) (fr9 y0)):=
 jd.trans <| (zp (body:=eC k qk.u8.c) (keep:=[1, 5]) (ρ:=(fr10 x0 x1 x2)) (ρ':=(fr8 x0 x1)) (by kernel_rfl) k K).trans (qk.u9.okl k K k x0 x1)
theorem qk.u10.ok (k:Nat) (x0:TX) (x1:Int) (x2:Bool) (K:KF α) :
  eC k qk.u10.c (fr10 x0 x1 x2) K =
   qk.u10.f k x0 x1 x2 (fun y0=>K .normal (fr9 y0)):=
 (zm.trans (qk.u9.ok k x0 x1 x2 (jf 3 K))).trans (by kernel_rfl)
theorem qk.u11.ok (k:Nat) (x0:TX) (x1:Int) (x2:Bool) (K:KF α) :
  eC k qk.u11.c (fr10 x0 x1 x2) K =
   qk.u11.f k x0 x1 x2 (fun y0=>K .normal (fr9 y0)):=by kernel_rfl
theorem qk.u12.ok (k:Nat) (x0:TX) (x1:Int) (x2:Bool) (K:KF α) :
  eC k qk.u12.c (fr10 x0 x1 x2) K =
   qk.u12.f k x0 x1 x2 (fun y0=>K .normal (fr9 y0)):=
 yg (g:=x2) (by kernel_rfl) (qk.u10.ok k x0 x1 x2 K) (qk.u11.ok k x0 x1 x2 K)
theorem qk.u13.ok (k:Nat) (x0:TX) (x1 x2:Int) (x3:Bool) (K:KF α) :
  eC k qk.u13.c (fr7 x0 x1 x2 x3) K =
   qk.u13.f k x0 x1 x2 x3 (fun y0=>K .normal (fr9 y0)):=
 (qk.u7.ok k x0 x1 x2 x3 qk.u12.c K).trans
  (congrArg (fun z=>qk.u7.f k x0 x1 x2 x3 z) (funext fun y0=>(funext fun y1=>(funext fun y2=>qk.u12.ok k y0 y1 y2 K))))
theorem qk.u14.ok (k:Nat) (x0:TX) (x1 x2:Int) (x3:Bool) (K:KF α) :
  eC k qk.u14.c (fr7 x0 x1 x2 x3) K =
   qk.u14.f k x0 x1 x2 x3 (fun y0=>K .normal (fr9 y0)):=
 yg (g:=x3) (by kernel_rfl) (qk.u6.ok k x0 x1 x2 x3 K) (qk.u13.ok k x0 x1 x2 x3 K)
theorem qk.u15.ok (k:Nat) (x0:TX) (x1 x2:Int) (K:KF α) :
  eC k qk.u15.c (fr6 x0 x1 x2) K =
   qk.u15.f k x0 x1 x2 (fun y0=>K .normal (fr9 y0)):=
 (qk.u3.ok k x0 x1 x2 qk.u14.c K).trans
  (congrArg (fun z=>qk.u3.f k x0 x1 x2 z) (funext fun y0=>(funext fun y1=>(funext fun y2=>(funext fun y3=>qk.u14.ok k y0 y1 y2 y3 K)))))
theorem qk.u16.ok (k:Nat) (x0:TX) (x1 x2:Int) (K:KF α) :
  eC k qk.u16.c (fr6 x0 x1 x2) K =
   qk.u16.f k x0 x1 x2 (fun y0=>K .normal (fr9 y0)):=
 (zm.trans (qk.u15.ok k x0 x1 x2 (jf 0 K))).trans (by kernel_rfl)
theorem qk.u17.ok (k:Nat) (x0:Int) (x1:TX) (x2:Int) (K:KF α) :
  eC k qk.u17.c (fr5 x0 x1 x2) K =
   qk.u17.f k x0 x1 x2 (fun y0=>K .normal (fr9 y0)):=
 (qk.u2.ok k x0 x1 x2 qk.u16.c K).trans
  (congrArg (fun z=>qk.u2.f k x0 x1 x2 z) (funext fun y0=>(funext fun y1=>(funext fun y2=>qk.u16.ok k y0 y1 y2 K))))
theorem qk.u18.ok (k:Nat) (x0:Int) (K:KF α) :
  eC k qk.u18.c (fr9 x0) K =
   qk.u18.f k x0 (fun y0=>K .ret (fr1 y0)):=by kernel_rfl
theorem qk.u19.ok (k:Nat) (x0:Int) (x1:TX) (x2:Int) (K:KF α) :
  eC k qk.u19.c (fr5 x0 x1 x2) K =
   qk.u19.f k x0 x1 x2 (fun y0=>K .ret (fr1 y0)):=
 by
  have h:=qk.u17.ok k x0 x1 x2 (seqK (fun ρ=>eC k qk.u18.c ρ K) K)
  simp only [zd, zf, zh, zg, qk.u18.ok] at h
  exact zk h
theorem qk.u20.ok (k:Nat) (x0:Int) (x1:TX) (K:KF α) :
  eC k qk.u20.c (fr4 x0 x1) K =
   qk.u20.f k x0 x1 (fun y0=>K .ret (fr1 y0)):=
 (qk.u1.ok k x0 x1 qk.u19.c K).trans
  (congrArg (fun z=>qk.u1.f k x0 x1 z) (funext fun y0=>(funext fun y1=>(funext fun y2=>qk.u19.ok k y0 y1 y2 K))))
theorem qk.ok (k:Nat) (x0:Int) (x1:TX) (κ:Res->M α) :
  evF T (env k) k qk.c qk.res [.int .i64 x0, .str x1] κ = qk.f (k + 1) x0 x1 (fun o0=>κ (.ret (.int .i64 o0))):=
 (qk.u20.ok k x0 x1 (retK T qk.res κ)).trans (by kernel_rfl)
theorem qk.code:qk.c.code = zy Tryd.f67:=by kernel_rfl
noncomputable def qp.c:IC:=qp.u11.c
noncomputable def qp.res:List ResultVar:=[(.tmp 2), (.tmp 3)]
theorem qp.u1.ok (k:Nat) (x0:TX) (R:IC) (K:KF α) :
  eC k (qp.u1.c R) (fr11 x0) K =
   qp.u1.f k x0 (fun y0=>eC k R (fr11 y0) K) (fun y0 y1=>K .ret (fr12 y0 y1)):=by kernel_rfl
theorem qp.u2.ok (k:Nat) (x0:TX) (R:IC) (K:KF α) :
  eC k (qp.u2.c R) (fr11 x0) K =
   qp.u2.f k x0 (fun y0 y1=>eC k R (fr13 y0 y1) K):=by kernel_rfl
theorem qp.u3.ok (k:Nat) (x0:TX) (x1:Int) (R:IC) (K:KF α) :
  eC k (qp.u3.c R) (fr13 x0 x1) K =
   qp.u3.f k x0 x1 (fun y0 y1 y2 y3=>eC k R (fr14 y0 y1 y2 y3) K):=by kernel_rfl
theorem qp.u4.ok (k:Nat) (x0:TX) (x1 x2 x3:Int) (K:KF α) :
  eC k qp.u4.c (fr14 x0 x1 x2 x3) K =
   qp.u4.f k x0 x1 x2 x3 (fun y0 y1 y2 y3=>K .normal (fr14 y0 y1 y2 y3)) (fun y0=>K (.exit 0) (fr1 y0)):=by kernel_rfl
theorem qp.u5.ls (k:Nat) (kx0:Int->M α) (j:Nat) (x0:TX) (x1 x2 x3:Int):qp.u5.l k kx0 (j + 1) x0 x1 x2 x3 =
 qp.u4.f k x0 x1 x2 x3 (fun y0 y1 y2 y3=>qp.u5.l k kx0 j y0 y1 y2 y3) kx0:=rfl
theorem qp.u5.okl (k:Nat) (K:KF α):∀ (j:Nat) (x0:TX) (x1 x2 x3:Int),
  zr (eC k qp.u4.c) [0, 4, 20, 21] j (fr14 x0 x1 x2 x3) K = qp.u5.l k (fun y0=>K (.exit 0) (fr1 y0)) j x0 x1 x2 x3
 | 0, _, _, _, _=>rfl
 | j + 1, x0, x1, x2, x3=>by
   have h:=qp.u4.ok k x0 x1 x2 x3 (seqK (fun ρ=>zr (eC k qp.u4.c) [0, 4, 20, 21] j ρ K) K)
   simp only [zf, zh, zg, zd, qp.u5.okl k K j] at h
   exact (zo (by kernel_rfl) h).trans (qp.u5.ls k (fun y0=>K (.exit 0) (fr1 y0)) j x0 x1 x2 x3).symm
theorem qp.u5.ok (k:Nat) (x0:TX) (x1 x2 x3:Int) (K:KF α) :
  eC k qp.u5.c (fr14 x0 x1 x2 x3) K =
   qp.u5.f k x0 x1 x2 x3 (fun y0=>K (.exit 0) (fr1 y0)):=
 jd.trans <| (zp (body:=eC k qp.u4.c) (keep:=[0, 4, 20, 21]) (ρ:=(fr14 x0 x1 x2 x3)) (ρ':=(fr14 x0 x1 x2 x3)) (by kernel_rfl) k K).trans (qp.u5.okl k K k x0 x1 x2 x3)
theorem qp.u6.ok (k:Nat) (x0:TX) (x1 x2 x3:Int) (K:KF α) :
  eC k qp.u6.c (fr14 x0 x1 x2 x3) K =
   qp.u6.f k x0 x1 x2 x3 (fun y0=>K .normal (fr1 y0)):=
 (zm.trans (qp.u5.ok k x0 x1 x2 x3 (jf 0 K))).trans (by kernel_rfl)
theorem qp.u7.ok (k:Nat) (x0:TX) (x1:Int) (K:KF α) :
  eC k qp.u7.c (fr13 x0 x1) K =
   qp.u7.f k x0 x1 (fun y0=>K .normal (fr1 y0)):=
 (qp.u3.ok k x0 x1 qp.u6.c K).trans
  (congrArg (fun z=>qp.u3.f k x0 x1 z) (funext fun y0=>(funext fun y1=>(funext fun y2=>(funext fun y3=>qp.u6.ok k y0 y1 y2 y3 K)))))
theorem qp.u8.ok (k:Nat) (x0:Int) (K:KF α) :
  eC k qp.u8.c (fr1 x0) K =
   qp.u8.f k x0 (fun y0 y1=>K .ret (fr12 y0 y1)):=by kernel_rfl
theorem qp.u9.ok (k:Nat) (x0:TX) (x1:Int) (K:KF α) :
  eC k qp.u9.c (fr13 x0 x1) K =
   qp.u9.f k x0 x1 (fun y0 y1=>K .ret (fr12 y0 y1)):=
 by
  have h:=qp.u7.ok k x0 x1 (seqK (fun ρ=>eC k qp.u8.c ρ K) K)
  simp only [zd, zf, zh, zg, qp.u8.ok] at h
  exact zk h
theorem qp.u10.ok (k:Nat) (x0:TX) (K:KF α) :
  eC k qp.u10.c (fr11 x0) K =
   qp.u10.f k x0 (fun y0 y1=>K .ret (fr12 y0 y1)):=
 (qp.u2.ok k x0 qp.u9.c K).trans
  (congrArg (fun z=>qp.u2.f k x0 z) (funext fun y0=>(funext fun y1=>qp.u9.ok k y0 y1 K)))
theorem qp.u11.ok (k:Nat) (x0:TX) (K:KF α) :
  eC k qp.u11.c (fr11 x0) K =
   qp.u11.f k x0 (fun y0 y1=>K .ret (fr12 y0 y1)):=
 (qp.u1.ok k x0 qp.u10.c K).trans
  (congrArg (fun z=>qp.u1.f k x0 z (fun y0 y1=>K .ret (fr12 y0 y1))) (funext fun y0=>qp.u10.ok k y0 K))
theorem qp.ok (k:Nat) (x0:TX) (κ:Res->M α) :
  evF T (env k) k qp.c qp.res [.str x0] κ = qp.f (k + 1) x0 (fun o0 o1=>κ (.ret (.tuple [.int .i64 o0, .bool o1]))):=
 (qp.u11.ok k x0 (retK T qp.res κ)).trans (by kernel_rfl)
theorem qp.code:qp.c.code = zy Tryd.f68:=by kernel_rfl
noncomputable def qbj.c:IC:=qbj.u1.c
noncomputable def qbj.res:List ResultVar:=[(.cell 4 61), (.tmp 5)]
theorem qbj.u1.ok (k:Nat) (x0:TX) (x1:Int) (K:KF α) :
  eC k qbj.u1.c (fr15 x0 x1) K =
   qbj.u1.f k x0 x1 (fun y0 y1=>K .ret (za [(4, .ptr (some y0)), (5, .int .i64 y1)])):=by kernel_rfl
theorem qbj.ok (k:Nat) (x0:TX) (x1:Int) (κ:Res->M α) :
  evF T (env k) k qbj.c qbj.res [.str x0, .int .i64 x1] κ = qbj.f (k + 1) x0 x1 (fun o0 o1 o2 o3 o4=>κ (.ret (.tuple [.agg [.int .i64 o0, .int .i64 o1, .str o2, .int .i64 o3], .int .i64 o4]))):=
 (qbj.u1.ok k x0 x1 (retK T qbj.res κ)).trans (by kernel_rfl)
theorem qbj.code:qbj.c.code = zy Tryd.f52:=by kernel_rfl
noncomputable def qq.c:IC:=qq.u9.c
noncomputable def qq.res:List ResultVar:=[(.tmp 2), (.tmp 3)]
theorem qq.u1.ok (k:Nat) (x0:TX) (R:IC) (K:KF α) :
  eC k (qq.u1.c R) (fr11 x0) K =
   qq.u1.f k x0 (fun y0 y1=>eC k R (fr16 y0 y1) K) (fun y0 y1=>K .ret (za [(2, .slice y0), (3, .iface 57 (.ptr (some y1)))])):=by kernel_rfl
theorem qq.u2.ok (k:Nat) (x0:TX) (x1:Sl) (R:IC) (K:KF α) :
  eC k (qq.u2.c R) (fr16 x0 x1) K =
   qq.u2.f k x0 x1 (fun y0 y1 y2=>eC k R (fr17 y0 y1 y2) K):=by kernel_rfl
theorem qq.u3.ok (k:Nat) (x0:TX) (x1:Sl) (x2:Int) (K:KF α) :
  eC k qq.u3.c (fr17 x0 x1 x2) K =
   qq.u3.f k x0 x1 x2 (fun y0 y1 y2=>K .normal (fr17 y0 y1 y2)) (fun y0 y1=>K .ret (za [(2, .slice y0), (3, .iface 57 (.ptr (some y1)))])) (fun y0 y1=>K (.exit 0) (fr16 y0 y1)):=by kernel_rfl
theorem qq.u4.ls (k:Nat) (kr:Sl->Ad->M α) (kx0:TX->Sl->M α) (j:Nat) (x0:TX) (x1:Sl) (x2:Int):qq.u4.l k kr kx0 (j + 1) x0 x1 x2 =
 qq.u3.f k x0 x1 x2 (fun y0 y1 y2=>qq.u4.l k kr kx0 j y0 y1 y2) kr kx0:=rfl
theorem qq.u4.okl (k:Nat) (K:KF α):∀ (j:Nat) (x0:TX) (x1:Sl) (x2:Int),
  zr (eC k qq.u3.c) [0, 4, 5] j (fr17 x0 x1 x2) K = qq.u4.l k (fun y0 y1=>K .ret (za [(2, .slice y0), (3, .iface 57 (.ptr (some y1)))])) (fun y0 y1=>K (.exit 0) (fr16 y0 y1)) j x0 x1 x2
 | 0, _, _, _=>rfl
 | j + 1, x0, x1, x2=>by
   have h:=qq.u3.ok k x0 x1 x2 (seqK (fun ρ=>zr (eC k qq.u3.c) [0, 4, 5] j ρ K) K)
   simp only [zf, zh, zg, zd, qq.u4.okl k K j] at h
   exact (zo (by kernel_rfl) h).trans (qq.u4.ls k (fun y0 y1=>K .ret (za [(2, .slice y0), (3, .iface 57 (.ptr (some y1)))])) (fun y0 y1=>K (.exit 0) (fr16 y0 y1)) j x0 x1 x2).symm
theorem qq.u4.ok (k:Nat) (x0:TX) (x1:Sl) (x2:Int) (K:KF α) :
  eC k qq.u4.c (fr17 x0 x1 x2) K =
   qq.u4.f k x0 x1 x2 (fun y0 y1=>K .ret (za [(2, .slice y0), (3, .iface 57 (.ptr (some y1)))])) (fun y0 y1=>K (.exit 0) (fr16 y0 y1)):=
 jd.trans <| (zp (body:=eC k qq.u3.c) (keep:=[0, 4, 5]) (ρ:=(fr17 x0 x1 x2)) (ρ':=(fr17 x0 x1 x2)) (by kernel_rfl) k K).trans (qq.u4.okl k K k x0 x1 x2)
theorem qq.u5.ok (k:Nat) (x0:TX) (x1:Sl) (x2:Int) (K:KF α) :
  eC k qq.u5.c (fr17 x0 x1 x2) K =
   qq.u5.f k x0 x1 x2 (fun y0 y1=>K .normal (fr16 y0 y1)) (fun y0 y1=>K .ret (za [(2, .slice y0), (3, .iface 57 (.ptr (some y1)))])):=
 (zm.trans (qq.u4.ok k x0 x1 x2 (jf 0 K))).trans (by kernel_rfl)
theorem qq.u6.ok (k:Nat) (x0:TX) (x1:Sl) (K:KF α) :
  eC k qq.u6.c (fr16 x0 x1) K =
   qq.u6.f k x0 x1 (fun y0 y1=>K .normal (fr16 y0 y1)) (fun y0 y1=>K .ret (za [(2, .slice y0), (3, .iface 57 (.ptr (some y1)))])):=
 (qq.u2.ok k x0 x1 qq.u5.c K).trans
  (congrArg (fun z=>qq.u2.f k x0 x1 z) (funext fun y0=>(funext fun y1=>(funext fun y2=>qq.u5.ok k y0 y1 y2 K))))
theorem qq.u7.ok (k:Nat) (x0:TX) (x1:Sl) (K:KF α) :
  eC k qq.u7.c (fr16 x0 x1) K =
   qq.u7.f k x0 x1 (fun y0=>K .ret (za [(2, .slice y0), (3, .nilIface)])):=by kernel_rfl
theorem qq.u8.ok (k:Nat) (x0:TX) (x1:Sl) (K:KF α) :
  eC k qq.u8.c (fr16 x0 x1) K =
   qq.u8.f k x0 x1 (fun y0 y1=>K .ret (za [(2, .slice y0), (3, y1)])):=
 by
  have h:=qq.u6.ok k x0 x1 (seqK (fun ρ=>eC k qq.u7.c ρ K) K)
  simp only [zd, zf, zh, zg, qq.u7.ok] at h
  exact zk h
theorem qq.u9.ok (k:Nat) (x0:TX) (K:KF α) :
  eC k qq.u9.c (fr11 x0) K =
   qq.u9.f k x0 (fun y0 y1=>K .ret (za [(2, .slice y0), (3, y1)])):=
 (qq.u1.ok k x0 qq.u8.c K).trans
  (congrArg (fun z=>qq.u1.f k x0 z (fun y0 y1=>K .ret (za [(2, .slice y0), (3, .iface 57 (.ptr (some y1)))]))) (funext fun y0=>(funext fun y1=>qq.u8.ok k y0 y1 K)))
theorem qq.ok (k:Nat) (x0:TX) (κ:Res->M α) :
  evF T (env k) k qq.c qq.res [.str x0] κ = qq.f (k + 1) x0 (fun o0 o1=>κ (.ret (.tuple [.slice o0, o1]))):=
 (qq.u9.ok k x0 (retK T qq.res κ)).trans (by kernel_rfl)
theorem qq.code:qq.c.code = zy Tryd.f32:=by kernel_rfl
noncomputable def qbd.c:IC:=qbd.u1.c
noncomputable def qbd.res:List ResultVar:=[(.tmp 2)]
theorem qbd.u1.ok (k:Nat) (x0 x1:Int) (x2:TX) (x3:Int) (K:KF α) :
  eC k qbd.u1.c (za [(0, .agg [.int .i64 x0, .int .i64 x1, .str x2, .int .i64 x3])]) K =
   qbd.u1.f k x0 x1 x2 x3 (fun y0=>K .ret (fr18 y0)):=by kernel_rfl
theorem qbd.ok (k:Nat) (x0 x1:Int) (x2:TX) (x3:Int) (κ:Res->M α) :
  evF T (env k) k qbd.c qbd.res [.agg [.int .i64 x0, .int .i64 x1, .str x2, .int .i64 x3]] κ = qbd.f (k + 1) x0 x1 x2 x3 (fun o0=>κ (.ret (.bool o0))):=
 (qbd.u1.ok k x0 x1 x2 x3 (retK T qbd.res κ)).trans (by kernel_rfl)
theorem qbd.code:qbd.c.code = zy Tryd.f35:=by kernel_rfl
noncomputable def qab.c:IC:=qab.u9.c
noncomputable def qab.res:List ResultVar:=[(.tmp 4)]
theorem qab.u1.ok (k:Nat) (x0:Sl) (R:IC) (K:KF α) :
  eC k (qab.u1.c R) (za [(0, .slice x0), (1, .func 35 [] [])]) K =
   qab.u1.f k x0 (fun y0=>eC k R (za [(0, .slice y0), (1, .func 35 [] [])]) K):=by kernel_rfl
theorem qab.u2.ok (k:Nat) (x0:Sl) (R:IC) (K:KF α) :
  eC k (qab.u2.c R) (za [(0, .slice x0), (1, .func 35 [] [])]) K =
   qab.u2.f k x0 (fun y0 y1 y2=>eC k R (za [(0, .slice y0), (1, .func 35 [] []), (7, .int .i64 y1), (8, .int .i64 y2)]) K):=by kernel_rfl
theorem qab.u3.ok (k:Nat) (x0:Sl) (x1 x2:Int) (K:KF α) :
  eC k qab.u3.c (za [(0, .slice x0), (1, .func 35 [] []), (7, .int .i64 x1), (8, .int .i64 x2)]) K =
   qab.u3.f k x0 x1 x2 (fun y0 y1 y2=>K .normal (za [(0, .slice y0), (1, .func 35 [] []), (7, .int .i64 y1), (8, .int .i64 y2)])) (fun y0=>K .ret (fr1 y0)) (K (.exit 0) (za [])):=by kernel_rfl
theorem qab.u4.ls (k:Nat) (kr:Int->M α) (kx0:M α) (j:Nat) (x0:Sl) (x1 x2:Int):qab.u4.l k kr kx0 (j + 1) x0 x1 x2 =
 qab.u3.f k x0 x1 x2 (fun y0 y1 y2=>qab.u4.l k kr kx0 j y0 y1 y2) kr kx0:=rfl
theorem qab.u4.okl (k:Nat) (K:KF α):∀ (j:Nat) (x0:Sl) (x1 x2:Int),
  zr (eC k qab.u3.c) [0, 1, 7, 8] j (za [(0, .slice x0), (1, .func 35 [] []), (7, .int .i64 x1), (8, .int .i64 x2)]) K = qab.u4.l k (fun y0=>K .ret (fr1 y0)) (K (.exit 0) (za [])) j x0 x1 x2
 | 0, _, _, _=>rfl
 | j + 1, x0, x1, x2=>by
   have h:=qab.u3.ok k x0 x1 x2 (seqK (fun ρ=>zr (eC k qab.u3.c) [0, 1, 7, 8] j ρ K) K)
   simp only [zf, zh, zg, zd, qab.u4.okl k K j] at h
   exact (zo (by kernel_rfl) h).trans (qab.u4.ls k (fun y0=>K .ret (fr1 y0)) (K (.exit 0) (za [])) j x0 x1 x2).symm
theorem qab.u4.ok (k:Nat) (x0:Sl) (x1 x2:Int) (K:KF α) :
  eC k qab.u4.c (za [(0, .slice x0), (1, .func 35 [] []), (7, .int .i64 x1), (8, .int .i64 x2)]) K =
   qab.u4.f k x0 x1 x2 (fun y0=>K .ret (fr1 y0)) (K (.exit 0) (za [])):=
 jd.trans <| (zp (body:=eC k qab.u3.c) (keep:=[0, 1, 7, 8]) (ρ:=(za [(0, .slice x0), (1, .func 35 [] []), (7, .int .i64 x1), (8, .int .i64 x2)])) (ρ':=(za [(0, .slice x0), (1, .func 35 [] []), (7, .int .i64 x1), (8, .int .i64 x2)])) (by kernel_rfl) k K).trans (qab.u4.okl k K k x0 x1 x2)
theorem qab.u5.ok (k:Nat) (x0:Sl) (x1 x2:Int) (K:KF α) :
  eC k qab.u5.c (za [(0, .slice x0), (1, .func 35 [] []), (7, .int .i64 x1), (8, .int .i64 x2)]) K =
   qab.u5.f k x0 x1 x2 (K .normal (za [])) (fun y0=>K .ret (fr1 y0)):=
 (zm.trans (qab.u4.ok k x0 x1 x2 (jf 0 K))).trans (by kernel_rfl)
theorem qab.u6.ok (k:Nat) (x0:Sl) (K:KF α) :
  eC k qab.u6.c (za [(0, .slice x0), (1, .func 35 [] [])]) K =
   qab.u6.f k x0 (K .normal (za [])) (fun y0=>K .ret (fr1 y0)):=
 (qab.u2.ok k x0 qab.u5.c K).trans
  (congrArg (fun z=>qab.u2.f k x0 z) (funext fun y0=>(funext fun y1=>(funext fun y2=>qab.u5.ok k y0 y1 y2 K))))
theorem qab.u7.ok (k:Nat) (K:KF α) :
  eC k qab.u7.c (za []) K =
   qab.u7.f k (fun y0=>K .ret (fr1 y0)):=by kernel_rfl
theorem qab.u8.ok (k:Nat) (x0:Sl) (K:KF α) :
  eC k qab.u8.c (za [(0, .slice x0), (1, .func 35 [] [])]) K =
   qab.u8.f k x0 (fun y0=>K .ret (fr1 y0)):=
 by
  have h:=qab.u6.ok k x0 (seqK (fun ρ=>eC k qab.u7.c ρ K) K)
  simp only [zd, zf, zh, zg, qab.u7.ok] at h
  exact zk h
theorem qab.u9.ok (k:Nat) (x0:Sl) (K:KF α) :
  eC k qab.u9.c (za [(0, .slice x0), (1, .func 35 [] [])]) K =
   qab.u9.f k x0 (fun y0=>K .ret (fr1 y0)):=
 (qab.u1.ok k x0 qab.u8.c K).trans
  (congrArg (fun z=>qab.u1.f k x0 z) (funext fun y0=>qab.u8.ok k y0 K))
theorem qab.ok (k:Nat) (x0:Sl) (κ:Res->M α) :
  evF T (env k) k qab.c qab.res [.slice x0, .func 35 [] []] κ = qab.f (k + 1) x0 (fun o0=>κ (.ret (.int .i64 o0))):=
 (qab.u9.ok k x0 (retK T qab.res κ)).trans (by kernel_rfl)
theorem qab.code:qab.c.code = zy Tryd.f53:=by kernel_rfl
noncomputable def qu.c:IC:=qu.u9.c
noncomputable def qu.res:List ResultVar:=[(.tmp 4)]
theorem qu.u1.ok (k:Nat) (x0:Sl) (R:IC) (K:KF α) :
  eC k (qu.u1.c R) (za [(0, .slice x0), (1, .func 35 [] [])]) K =
   qu.u1.f k x0 (fun y0 y1=>eC k R (za [(0, .slice y0), (1, .func 35 [] []), (5, .int .i64 y1)]) K) (fun y0=>K .ret (fr19 y0)):=by kernel_rfl
theorem qu.u2.ok (k:Nat) (x0:Sl) (x1:Int) (R:IC) (K:KF α) :
  eC k (qu.u2.c R) (za [(0, .slice x0), (1, .func 35 [] []), (5, .int .i64 x1)]) K =
   qu.u2.f k x0 x1 (fun y0 y1 y2=>eC k R (za [(0, .slice y0), (1, .func 35 [] []), (5, .int .i64 y1), (6, .int .i64 y2)]) K):=by kernel_rfl
theorem qu.u3.ok (k:Nat) (x0:Sl) (x1 x2:Int) (K:KF α) :
  eC k qu.u3.c (za [(0, .slice x0), (1, .func 35 [] []), (5, .int .i64 x1), (6, .int .i64 x2)]) K =
   qu.u3.f k x0 x1 x2 (fun y0 y1 y2=>K .normal (za [(0, .slice y0), (1, .func 35 [] []), (5, .int .i64 y1), (6, .int .i64 y2)])) (fun y0 y1=>K (.exit 0) (fr20 y0 y1)):=by kernel_rfl
theorem qu.u4.ls (k:Nat) (kx0:Sl->Int->M α) (j:Nat) (x0:Sl) (x1 x2:Int):qu.u4.l k kx0 (j + 1) x0 x1 x2 =
 qu.u3.f k x0 x1 x2 (fun y0 y1 y2=>qu.u4.l k kx0 j y0 y1 y2) kx0:=rfl
theorem qu.u4.okl (k:Nat) (K:KF α):∀ (j:Nat) (x0:Sl) (x1 x2:Int),
  zr (eC k qu.u3.c) [0, 1, 5, 6] j (za [(0, .slice x0), (1, .func 35 [] []), (5, .int .i64 x1), (6, .int .i64 x2)]) K = qu.u4.l k (fun y0 y1=>K (.exit 0) (fr20 y0 y1)) j x0 x1 x2
 | 0, _, _, _=>rfl
 | j + 1, x0, x1, x2=>by
   have h:=qu.u3.ok k x0 x1 x2 (seqK (fun ρ=>zr (eC k qu.u3.c) [0, 1, 5, 6] j ρ K) K)
   simp only [zf, zh, zg, zd, qu.u4.okl k K j] at h
   exact (zo (by kernel_rfl) h).trans (qu.u4.ls k (fun y0 y1=>K (.exit 0) (fr20 y0 y1)) j x0 x1 x2).symm
theorem qu.u4.ok (k:Nat) (x0:Sl) (x1 x2:Int) (K:KF α) :
  eC k qu.u4.c (za [(0, .slice x0), (1, .func 35 [] []), (5, .int .i64 x1), (6, .int .i64 x2)]) K =
   qu.u4.f k x0 x1 x2 (fun y0 y1=>K (.exit 0) (fr20 y0 y1)):=
 jd.trans <| (zp (body:=eC k qu.u3.c) (keep:=[0, 1, 5, 6]) (ρ:=(za [(0, .slice x0), (1, .func 35 [] []), (5, .int .i64 x1), (6, .int .i64 x2)])) (ρ':=(za [(0, .slice x0), (1, .func 35 [] []), (5, .int .i64 x1), (6, .int .i64 x2)])) (by kernel_rfl) k K).trans (qu.u4.okl k K k x0 x1 x2)
theorem qu.u5.ok (k:Nat) (x0:Sl) (x1 x2:Int) (K:KF α) :
  eC k qu.u5.c (za [(0, .slice x0), (1, .func 35 [] []), (5, .int .i64 x1), (6, .int .i64 x2)]) K =
   qu.u5.f k x0 x1 x2 (fun y0 y1=>K .normal (fr20 y0 y1)):=
 (zm.trans (qu.u4.ok k x0 x1 x2 (jf 0 K))).trans (by kernel_rfl)
theorem qu.u6.ok (k:Nat) (x0:Sl) (x1:Int) (K:KF α) :
  eC k qu.u6.c (za [(0, .slice x0), (1, .func 35 [] []), (5, .int .i64 x1)]) K =
   qu.u6.f k x0 x1 (fun y0 y1=>K .normal (fr20 y0 y1)):=
 (qu.u2.ok k x0 x1 qu.u5.c K).trans
  (congrArg (fun z=>qu.u2.f k x0 x1 z) (funext fun y0=>(funext fun y1=>(funext fun y2=>qu.u5.ok k y0 y1 y2 K))))
theorem qu.u7.ok (k:Nat) (x0:Sl) (x1:Int) (K:KF α) :
  eC k qu.u7.c (fr20 x0 x1) K =
   qu.u7.f k x0 x1 (fun y0=>K .ret (fr19 y0)):=by kernel_rfl
theorem qu.u8.ok (k:Nat) (x0:Sl) (x1:Int) (K:KF α) :
  eC k qu.u8.c (za [(0, .slice x0), (1, .func 35 [] []), (5, .int .i64 x1)]) K =
   qu.u8.f k x0 x1 (fun y0=>K .ret (fr19 y0)):=
 by
  have h:=qu.u6.ok k x0 x1 (seqK (fun ρ=>eC k qu.u7.c ρ K) K)
  simp only [zd, zf, zh, zg, qu.u7.ok] at h
  exact zk h
theorem qu.u9.ok (k:Nat) (x0:Sl) (K:KF α) :
  eC k qu.u9.c (za [(0, .slice x0), (1, .func 35 [] [])]) K =
   qu.u9.f k x0 (fun y0=>K .ret (fr19 y0)):=
 (qu.u1.ok k x0 qu.u8.c K).trans
  (congrArg (fun z=>qu.u1.f k x0 z (fun y0=>K .ret (fr19 y0))) (funext fun y0=>(funext fun y1=>qu.u8.ok k y0 y1 K)))
theorem qu.ok (k:Nat) (x0:Sl) (κ:Res->M α) :
  evF T (env k) k qu.c qu.res [.slice x0, .func 35 [] []] κ = qu.f (k + 1) x0 (fun o0=>κ (.ret (.slice o0))):=
 (qu.u9.ok k x0 (retK T qu.res κ)).trans (by kernel_rfl)
theorem qu.code:qu.c.code = zy Tryd.f34:=by kernel_rfl
noncomputable def qaw.c:IC:=qaw.u1.c
noncomputable def qaw.res:List ResultVar:=[(.tmp 4)]
theorem qaw.u1.ok (k:Nat) (x0:Ad) (x1:TX) (K:KF α) :
  eC k qaw.u1.c (za [(0, .ptr (some x0)), (1, .str x1)]) K =
   qaw.u1.f k x0 x1 (fun y0=>K .ret (fr21 y0)):=by kernel_rfl
theorem qaw.ok (k:Nat) (x0:Ad) (x1:TX) (κ:Res->M α) :
  evF T (env k) k qaw.c qaw.res [.ptr (some x0), .str x1] κ = qaw.f (k + 1) x0 x1 (fun o0=>κ (.ret (.bool o0))):=
 (qaw.u1.ok k x0 x1 (retK T qaw.res κ)).trans (by kernel_rfl)
theorem qaw.code:qaw.c.code = zy Tryd.f69:=by kernel_rfl
noncomputable def qao.c:IC:=qao.u1.c
noncomputable def qao.res:List ResultVar:=[(.cell 2 61)]
theorem qao.u1.ok (k:Nat) (x0:Ad) (K:KF α) :
  eC k qao.u1.c (za [(0, .ptr (some x0))]) K =
   qao.u1.f k x0 (fun y0=>K .ret (za [(2, .ptr (some y0))])):=by kernel_rfl
theorem qao.ok (k:Nat) (x0:Ad) (κ:Res->M α) :
  evF T (env k) k qao.c qao.res [.ptr (some x0)] κ = qao.f (k + 1) x0 (fun o0 o1 o2 o3=>κ (.ret (.agg [.int .i64 o0, .int .i64 o1, .str o2, .int .i64 o3]))):=
 (qao.u1.ok k x0 (retK T qao.res κ)).trans (by kernel_rfl)
theorem qao.code:qao.c.code = zy Tryd.f78:=by kernel_rfl
noncomputable def qan.c:IC:=qan.u1.c
noncomputable def qan.res:List ResultVar:=[(.cell 2 61)]
theorem qan.u1.ok (k:Nat) (x0:Ad) (K:KF α) :
  eC k qan.u1.c (za [(0, .ptr (some x0))]) K =
   qan.u1.f k x0 (fun y0=>K .ret (za [(2, .ptr (some y0))])) (fun v=>K (.pan v) (za [])):=by kernel_rfl
theorem qan.ok (k:Nat) (x0:Ad) (κ:Res->M α) :
  evF T (env k) k qan.c qan.res [.ptr (some x0)] κ = qan.f (k + 1) x0 (fun v=>κ (.pan v)) (fun o0 o1 o2 o3=>κ (.ret (.agg [.int .i64 o0, .int .i64 o1, .str o2, .int .i64 o3]))):=
 (qan.u1.ok k x0 (retK T qan.res κ)).trans (by kernel_rfl)
theorem qan.code:qan.c.code = zy Tryd.f70:=by kernel_rfl
noncomputable def qak.c:IC:=qak.u1.c
noncomputable def qak.res:List ResultVar:=[(.tmp 4)]
theorem qak.u1.ok (k:Nat) (x0:Ad) (x1 x2 x3:Int) (x4:TX) (x5:Int) (K:KF α) :
  eC k qak.u1.c (za [(0, .ptr (some x0)), (1, .agg [.int .i64 x1, .int .i64 x2, .int .i64 x3, .str x4, .int .i64 x5])]) K =
   qak.u1.f k x0 x1 x2 x3 x4 x5 (fun y0=>K .ret (fr1 y0)):=by kernel_rfl
theorem qak.ok (k:Nat) (x0:Ad) (x1 x2 x3:Int) (x4:TX) (x5:Int) (κ:Res->M α) :
  evF T (env k) k qak.c qak.res [.ptr (some x0), .agg [.int .i64 x1, .int .i64 x2, .int .i64 x3, .str x4, .int .i64 x5]] κ = qak.f (k + 1) x0 x1 x2 x3 x4 x5 (fun o0=>κ (.ret (.int .i64 o0))):=
 (qak.u1.ok k x0 x1 x2 x3 x4 x5 (retK T qak.res κ)).trans (by kernel_rfl)
theorem qak.code:qak.c.code = zy Tryd.f71:=by kernel_rfl
noncomputable def qav.c:IC:=qav.u1.c
noncomputable def qav.res:List ResultVar:=[]
theorem qav.u1.ok (k:Nat) (x0:Ad) (K:KF α) :
  eC k qav.u1.c (za [(0, .ptr (some x0))]) K =
   qav.u1.f k x0 (fun v=>K (.pan v) (za [])):=by kernel_rfl
theorem qav.ok (k:Nat) (x0:Ad) (κ:Res->M α) :
  evF T (env k) k qav.c qav.res [.ptr (some x0)] κ = qav.f (k + 1) x0 (fun v=>κ (.pan v)) (κ (.ret (.tuple []))):=
 (qav.u1.ok k x0 (retK T qav.res κ)).trans (by kernel_rfl)
theorem qav.code:qav.c.code = zy Tryd.f37:=by kernel_rfl
noncomputable def qbc.c:IC:=qbc.u1.c
noncomputable def qbc.res:List ResultVar:=[(.tmp 2)]
theorem qbc.u1.ok (k:Nat) (x0:TX) (K:KF α) :
  eC k qbc.u1.c (fr11 x0) K =
   qbc.u1.f k x0 (fun y0=>K .ret (fr18 y0)):=by kernel_rfl
theorem qbc.ok (k:Nat) (x0:TX) (κ:Res->M α) :
  evF T (env k) k qbc.c qbc.res [.str x0] κ = qbc.f (k + 1) x0 (fun o0=>κ (.ret (.bool o0))):=
 (qbc.u1.ok k x0 (retK T qbc.res κ)).trans (by kernel_rfl)
theorem qbc.code:qbc.c.code = zy Tryd.f76:=by kernel_rfl
noncomputable def qam.c:IC:=qam.u1.c
noncomputable def qam.res:List ResultVar:=[]
theorem qam.u1.ok (k:Nat) (x0:Ad) (x1:TX) (K:KF α) :
  eC k qam.u1.c (za [(0, .ptr (some x0)), (1, .str x1)]) K =
   qam.u1.f k x0 x1 (K .normal (za [])) (fun v=>K (.pan v) (za [])):=by kernel_rfl
theorem qam.ok (k:Nat) (x0:Ad) (x1:TX) (κ:Res->M α) :
  evF T (env k) k qam.c qam.res [.ptr (some x0), .str x1] κ = qam.f (k + 1) x0 x1 (fun v=>κ (.pan v)) (κ (.ret (.tuple []))):=
 (qam.u1.ok k x0 x1 (retK T qam.res κ)).trans (by kernel_rfl)
theorem qam.code:qam.c.code = zy Tryd.f80:=by kernel_rfl
noncomputable def qat.c:IC:=qat.u1.c
noncomputable def qat.res:List ResultVar:=[(.tmp 4)]
theorem qat.u1.ok (k:Nat) (x0:Ad) (x1:TX) (K:KF α) :
  eC k qat.u1.c (za [(0, .ptr (some x0)), (1, .str x1)]) K =
   qat.u1.f k x0 x1 (fun y0=>K .ret (fr22 y0)) (fun v=>K (.pan v) (za [])):=by kernel_rfl
theorem qat.ok (k:Nat) (x0:Ad) (x1:TX) (κ:Res->M α) :
  evF T (env k) k qat.c qat.res [.ptr (some x0), .str x1] κ = qat.f (k + 1) x0 x1 (fun v=>κ (.pan v)) (fun o0=>κ (.ret (.str o0))):=
 (qat.u1.ok k x0 x1 (retK T qat.res κ)).trans (by kernel_rfl)
theorem qat.code:qat.c.code = zy Tryd.f79:=by kernel_rfl
noncomputable def qal.c:IC:=qal.u1.c
noncomputable def qal.res:List ResultVar:=[(.tmp 2)]
theorem qal.u1.ok (k:Nat) (x0:Ad) (K:KF α) :
  eC k qal.u1.c (za [(0, .ptr (some x0))]) K =
   qal.u1.f k (qah.f k) x0 (fun y0=>K .ret (fr3 y0)) (fun v=>K (.pan v) (za [])):=by kernel_rfl
theorem qal.ok (k:Nat) (x0:Ad) (κ:Res->M α) :
  evF T (env k) k qal.c qal.res [.ptr (some x0)] κ = qal.f (k + 1) x0 (fun v=>κ (.pan v)) (fun o0=>κ (.ret (.int .i64 o0))):=
 (qal.u1.ok k x0 (retK T qal.res κ)).trans (by kernel_rfl)
theorem qal.code:qal.c.code = zy Tryd.f36:=by kernel_rfl
noncomputable def qah.c:IC:=qah.u7.c
noncomputable def qah.res:List ResultVar:=[(.tmp 8)]
theorem qah.u1.ok (k:Nat) (x0:Ad) (x1:TX) (x2:Int) (x3:V) (R:IC) (K:KF α) :
  eC k (qah.u1.c R) (za [(0, .ptr (some x0)), (1, .str x1), (2, .int .i64 x2), (3, x3)]) K =
   qah.u1.f k (qaq.f k) (qh.f k) x0 x1 x2 x3 (fun y0 y1 y2 y3 y4=>eC k R (za [(0, .ptr (some y0)), (1, .str y1), (2, .int .i64 y2), (3, y3), (9, .int .i64 y4)]) K) (fun v=>K (.pan v) (za [])):=by kernel_rfl
theorem qah.u2.ok (k:Nat) (x0:Ad) (x1:TX) (x2:Int) (x3:V) (x4:Int) (K:KF α) :
  eC k qah.u2.c (za [(0, .ptr (some x0)), (1, .str x1), (2, .int .i64 x2), (3, x3), (9, .int .i64 x4)]) K =
   qah.u2.f k (qaq.f k) (qh.f k) x0 x1 x2 x3 x4 (fun y0 y1 y2 y3 y4=>K .normal (za [(0, .ptr (some y0)), (1, .str y1), (2, .int .i64 y2), (3, y3), (9, .int .i64 y4)])) (fun y0=>K (.exit 0) (fr23 y0)) (fun v=>K (.pan v) (za [])):=by kernel_rfl
theorem qah.u3.ls (k:Nat) (rr55:Ad->(V->M α)->(Int->M α)->M α) (rr72:Ad->(V->M α)->(Int->M α)->M α) (kx0:Int->M α) (kp:V->M α) (j:Nat) (x0:Ad) (x1:TX) (x2:Int) (x3:V) (x4:Int):qah.u3.l k rr55 rr72 kx0 kp (j + 1) x0 x1 x2 x3 x4 =
 qah.u2.f k rr55 rr72 x0 x1 x2 x3 x4 (fun y0 y1 y2 y3 y4=>qah.u3.l k rr55 rr72 kx0 kp j y0 y1 y2 y3 y4) kx0 kp:=rfl
theorem qah.u3.okl (k:Nat) (K:KF α):∀ (j:Nat) (x0:Ad) (x1:TX) (x2:Int) (x3:V) (x4:Int),
  zr (eC k qah.u2.c) [0, 1, 2, 3, 9] j (za [(0, .ptr (some x0)), (1, .str x1), (2, .int .i64 x2), (3, x3), (9, .int .i64 x4)]) K = qah.u3.l k (qaq.f k) (qh.f k) (fun y0=>K (.exit 0) (fr23 y0)) (fun v=>K (.pan v) (za [])) j x0 x1 x2 x3 x4
 | 0, _, _, _, _, _=>rfl
 | j + 1, x0, x1, x2, x3, x4=>by
   have h:=qah.u2.ok k x0 x1 x2 x3 x4 (seqK (fun ρ=>zr (eC k qah.u2.c) [0, 1, 2, 3, 9] j ρ K) K)
   simp only [zf, zh, zg, zd, qah.u3.okl k K j] at h
   exact (zo (by kernel_rfl) h).trans (qah.u3.ls k (qaq.f k) (qh.f k) (fun y0=>K (.exit 0) (fr23 y0)) (fun v=>K (.pan v) (za [])) j x0 x1 x2 x3 x4).symm
theorem qah.u3.ok (k:Nat) (x0:Ad) (x1:TX) (x2:Int) (x3:V) (x4:Int) (K:KF α) :
  eC k qah.u3.c (za [(0, .ptr (some x0)), (1, .str x1), (2, .int .i64 x2), (3, x3), (9, .int .i64 x4)]) K =
   qah.u3.f k (qaq.f k) (qh.f k) x0 x1 x2 x3 x4 (fun y0=>K (.exit 0) (fr23 y0)) (fun v=>K (.pan v) (za [])):=
 jd.trans <| (zp (body:=eC k qah.u2.c) (keep:=[0, 1, 2, 3, 9]) (ρ:=(za [(0, .ptr (some x0)), (1, .str x1), (2, .int .i64 x2), (3, x3), (9, .int .i64 x4)])) (ρ':=(za [(0, .ptr (some x0)), (1, .str x1), (2, .int .i64 x2), (3, x3), (9, .int .i64 x4)])) (by kernel_rfl) k K).trans (qah.u3.okl k K k x0 x1 x2 x3 x4)
theorem qah.u4.ok (k:Nat) (x0:Ad) (x1:TX) (x2:Int) (x3:V) (x4:Int) (K:KF α) :
  eC k qah.u4.c (za [(0, .ptr (some x0)), (1, .str x1), (2, .int .i64 x2), (3, x3), (9, .int .i64 x4)]) K =
   qah.u4.f k (qaq.f k) (qh.f k) x0 x1 x2 x3 x4 (fun y0=>K .normal (fr23 y0)) (fun v=>K (.pan v) (za [])):=
 (zm.trans (qah.u3.ok k x0 x1 x2 x3 x4 (jf 0 K))).trans (by kernel_rfl)
theorem qah.u5.ok (k:Nat) (x0:Int) (K:KF α) :
  eC k qah.u5.c (fr23 x0) K =
   qah.u5.f k x0 (fun y0=>K .ret (fr24 y0)):=by kernel_rfl
theorem qah.u6.ok (k:Nat) (x0:Ad) (x1:TX) (x2:Int) (x3:V) (x4:Int) (K:KF α) :
  eC k qah.u6.c (za [(0, .ptr (some x0)), (1, .str x1), (2, .int .i64 x2), (3, x3), (9, .int .i64 x4)]) K =
   qah.u6.f k (qaq.f k) (qh.f k) x0 x1 x2 x3 x4 (fun y0=>K .ret (fr24 y0)) (fun v=>K (.pan v) (za [])):=
 by
  have h:=qah.u4.ok k x0 x1 x2 x3 x4 (seqK (fun ρ=>eC k qah.u5.c ρ K) K)
  simp only [zd, zf, zh, zg, qah.u5.ok] at h
  exact zk h
theorem qah.u7.ok (k:Nat) (x0:Ad) (x1:TX) (x2:Int) (x3:V) (K:KF α) :
  eC k qah.u7.c (za [(0, .ptr (some x0)), (1, .str x1), (2, .int .i64 x2), (3, x3)]) K =
   qah.u7.f k (qaq.f k) (qh.f k) x0 x1 x2 x3 (fun y0=>K .ret (fr24 y0)) (fun v=>K (.pan v) (za [])):=
 (qah.u1.ok k x0 x1 x2 x3 qah.u6.c K).trans
  (congrArg (fun z=>qah.u1.f k (qaq.f k) (qh.f k) x0 x1 x2 x3 z (fun v=>K (.pan v) (za []))) (funext fun y0=>(funext fun y1=>(funext fun y2=>(funext fun y3=>(funext fun y4=>qah.u6.ok k y0 y1 y2 y3 y4 K))))))
theorem qah.ok (k:Nat) (x0:Ad) (x1:TX) (x2:Int) (x3:V) (κ:Res->M α) :
  evF T (env k) k qah.c qah.res [.ptr (some x0), .str x1, .int .i64 x2, x3] κ = qah.f (k + 1) x0 x1 x2 x3 (fun v=>κ (.pan v)) (fun o0=>κ (.ret (.int .i64 o0))):=
 (qah.u7.ok k x0 x1 x2 x3 (retK T qah.res κ)).trans (by kernel_rfl)
theorem qah.code:qah.c.code = zy Tryd.f54:=by kernel_rfl
noncomputable def qaq.c:IC:=qaq.u1.c
noncomputable def qaq.res:List ResultVar:=[(.tmp 2)]
theorem qaq.u1.ok (k:Nat) (x0:Ad) (K:KF α) :
  eC k qaq.u1.c (za [(0, .ptr (some x0))]) K =
   qaq.u1.f k (qah.f k) x0 (fun y0=>K .ret (fr3 y0)) (fun v=>K (.pan v) (za [])):=by kernel_rfl
theorem qaq.ok (k:Nat) (x0:Ad) (κ:Res->M α) :
  evF T (env k) k qaq.c qaq.res [.ptr (some x0)] κ = qaq.f (k + 1) x0 (fun v=>κ (.pan v)) (fun o0=>κ (.ret (.int .i64 o0))):=
 (qaq.u1.ok k x0 (retK T qaq.res κ)).trans (by kernel_rfl)
theorem qaq.code:qaq.c.code = zy Tryd.f55:=by kernel_rfl
noncomputable def qh.c:IC:=qh.u18.c
noncomputable def qh.res:List ResultVar:=[(.tmp 2)]
theorem qh.u1.ok (k:Nat) (x0:Ad) (R:IC) (K:KF α) :
  eC k (qh.u1.c R) (za [(0, .ptr (some x0))]) K =
   qh.u1.f k x0 (fun y0=>eC k R (za [(0, .ptr (some y0))]) K):=by kernel_rfl
theorem qh.u2.ok (k:Nat) (x0:Ad) (R:IC) (K:KF α) :
  eC k (qh.u2.c R) (za [(0, .ptr (some x0))]) K =
   qh.u2.f k x0 (fun y0 y1=>eC k R (za [(0, .ptr (some y0)), (10, .bool y1)]) K):=by kernel_rfl
theorem qh.u3.ok (k:Nat) (x0:Ad) (x1:Bool) (K:KF α) :
  eC k qh.u3.c (za [(0, .ptr (some x0)), (10, .bool x1)]) K =
   qh.u3.f k (qh.f k) x0 x1 (fun y0=>K .ret (fr3 y0)) (fun v=>K (.pan v) (za [])):=by kernel_rfl
theorem qh.u4.ok (k:Nat) (x0:Ad) (x1:Bool) (R:IC) (K:KF α) :
  eC k (qh.u4.c R) (za [(0, .ptr (some x0)), (10, .bool x1)]) K =
   qh.u4.f k x0 x1 (fun y0 y1=>eC k R (za [(0, .ptr (some y0)), (22, .bool y1)]) K):=by kernel_rfl
theorem qh.u5.ok (k:Nat) (x0:Ad) (x1:Bool) (K:KF α) :
  eC k qh.u5.c (za [(0, .ptr (some x0)), (22, .bool x1)]) K =
   qh.u5.f k (qh.f k) x0 x1 (fun y0=>K .ret (fr3 y0)) (fun v=>K (.pan v) (za [])):=by kernel_rfl
theorem qh.u6.ok (k:Nat) (x0:Ad) (x1:Bool) (R:IC) (K:KF α) :
  eC k (qh.u6.c R) (za [(0, .ptr (some x0)), (22, .bool x1)]) K =
   qh.u6.f k x0 x1 (fun y0 y1=>eC k R (za [(0, .ptr (some y0)), (37, .bool y1)]) K):=by kernel_rfl
theorem qh.u7.ok (k:Nat) (x0:Ad) (x1:Bool) (K:KF α) :
  eC k qh.u7.c (za [(0, .ptr (some x0)), (37, .bool x1)]) K =
   qh.u7.f k (qh.f k) x0 x1 (fun y0=>K .ret (fr3 y0)) (fun v=>K (.pan v) (za [])):=by kernel_rfl
theorem qh.u8.ok (k:Nat) (x0:Ad) (x1:Bool) (K:KF α) :
  eC k qh.u8.c (za [(0, .ptr (some x0)), (37, .bool x1)]) K =
   qh.u8.f k (qal.f k) (qai.f k) x0 x1 (fun y0=>K .normal (za [(0, .ptr (some y0))])) (fun y0=>K .ret (fr3 y0)) (fun v=>K (.pan v) (za [])):=by kernel_rfl
theorem qh.u9.ok (k:Nat) (x0:Ad) (x1:Bool) (K:KF α) :
  eC k qh.u9.c (za [(0, .ptr (some x0)), (37, .bool x1)]) K =
   qh.u9.f k (qh.f k) (qal.f k) (qai.f k) x0 x1 (fun y0=>K .normal (za [(0, .ptr (some y0))])) (fun y0=>K .ret (fr3 y0)) (fun v=>K (.pan v) (za [])):=
 yg (g:=x1) (by kernel_rfl) (qh.u7.ok k x0 x1 K) (qh.u8.ok k x0 x1 K)
theorem qh.u10.ok (k:Nat) (x0:Ad) (x1:Bool) (K:KF α) :
  eC k qh.u10.c (za [(0, .ptr (some x0)), (22, .bool x1)]) K =
   qh.u10.f k (qh.f k) (qal.f k) (qai.f k) x0 x1 (fun y0=>K .normal (za [(0, .ptr (some y0))])) (fun y0=>K .ret (fr3 y0)) (fun v=>K (.pan v) (za [])):=
 (qh.u6.ok k x0 x1 qh.u9.c K).trans
  (congrArg (fun z=>qh.u6.f k x0 x1 z) (funext fun y0=>(funext fun y1=>qh.u9.ok k y0 y1 K)))
theorem qh.u11.ok (k:Nat) (x0:Ad) (x1:Bool) (K:KF α) :
  eC k qh.u11.c (za [(0, .ptr (some x0)), (22, .bool x1)]) K =
   qh.u11.f k (qh.f k) (qal.f k) (qai.f k) x0 x1 (fun y0=>K .normal (za [(0, .ptr (some y0))])) (fun y0=>K .ret (fr3 y0)) (fun v=>K (.pan v) (za [])):=
 yg (g:=x1) (by kernel_rfl) (qh.u5.ok k x0 x1 K) (qh.u10.ok k x0 x1 K)
theorem qh.u12.ok (k:Nat) (x0:Ad) (x1:Bool) (K:KF α) :
  eC k qh.u12.c (za [(0, .ptr (some x0)), (10, .bool x1)]) K =
   qh.u12.f k (qh.f k) (qal.f k) (qai.f k) x0 x1 (fun y0=>K .normal (za [(0, .ptr (some y0))])) (fun y0=>K .ret (fr3 y0)) (fun v=>K (.pan v) (za [])):=
 (qh.u4.ok k x0 x1 qh.u11.c K).trans
  (congrArg (fun z=>qh.u4.f k x0 x1 z) (funext fun y0=>(funext fun y1=>qh.u11.ok k y0 y1 K)))
theorem qh.u13.ok (k:Nat) (x0:Ad) (x1:Bool) (K:KF α) :
  eC k qh.u13.c (za [(0, .ptr (some x0)), (10, .bool x1)]) K =
   qh.u13.f k (qh.f k) (qal.f k) (qai.f k) x0 x1 (fun y0=>K .normal (za [(0, .ptr (some y0))])) (fun y0=>K .ret (fr3 y0)) (fun v=>K (.pan v) (za [])):=
 yg (g:=x1) (by kernel_rfl) (qh.u3.ok k x0 x1 K) (qh.u12.ok k x0 x1 K)
theorem qh.u14.ok (k:Nat) (x0:Ad) (K:KF α) :
  eC k qh.u14.c (za [(0, .ptr (some x0))]) K =
   qh.u14.f k (qh.f k) (qal.f k) (qai.f k) x0 (fun y0=>K .normal (za [(0, .ptr (some y0))])) (fun y0=>K .ret (fr3 y0)) (fun v=>K (.pan v) (za [])):=
 (qh.u2.ok k x0 qh.u13.c K).trans
  (congrArg (fun z=>qh.u2.f k x0 z) (funext fun y0=>(funext fun y1=>qh.u13.ok k y0 y1 K)))
theorem qh.u15.ok (k:Nat) (x0:Ad) (K:KF α) :
  eC k qh.u15.c (za [(0, .ptr (some x0))]) K =
   qh.u15.f k (qh.f k) (qal.f k) (qai.f k) x0 (fun y0=>K .normal (za [(0, .ptr (some y0))])) (fun y0=>K .ret (fr3 y0)) (fun v=>K (.pan v) (za [])):=
 (zm.trans (qh.u14.ok k x0 (jf 0 K))).trans (by kernel_rfl)
theorem qh.u16.ok (k:Nat) (x0:Ad) (K:KF α) :
  eC k qh.u16.c (za [(0, .ptr (some x0))]) K =
   qh.u16.f k x0 (fun y0=>K .ret (fr3 y0)) (fun v=>K (.pan v) (za [])):=by kernel_rfl
theorem qh.u17.ok (k:Nat) (x0:Ad) (K:KF α) :
  eC k qh.u17.c (za [(0, .ptr (some x0))]) K =
   qh.u17.f k (qh.f k) (qal.f k) (qai.f k) x0 (fun y0=>K .ret (fr3 y0)) (fun v=>K (.pan v) (za [])):=
 by
  have h:=qh.u15.ok k x0 (seqK (fun ρ=>eC k qh.u16.c ρ K) K)
  simp only [zd, zf, zh, zg, qh.u16.ok] at h
  exact zk h
theorem qh.u18.ok (k:Nat) (x0:Ad) (K:KF α) :
  eC k qh.u18.c (za [(0, .ptr (some x0))]) K =
   qh.u18.f k (qh.f k) (qal.f k) (qai.f k) x0 (fun y0=>K .ret (fr3 y0)) (fun v=>K (.pan v) (za [])):=
 (qh.u1.ok k x0 qh.u17.c K).trans
  (congrArg (fun z=>qh.u1.f k x0 z) (funext fun y0=>qh.u17.ok k y0 K))
theorem qh.ok (k:Nat) (x0:Ad) (κ:Res->M α) :
  evF T (env k) k qh.c qh.res [.ptr (some x0)] κ = qh.f (k + 1) x0 (fun v=>κ (.pan v)) (fun o0=>κ (.ret (.int .i64 o0))):=
 (qh.u18.ok k x0 (retK T qh.res κ)).trans (by kernel_rfl)
theorem qh.code:qh.c.code = zy Tryd.f72:=by kernel_rfl
noncomputable def qai.c:IC:=qai.u5.c
noncomputable def qai.res:List ResultVar:=[(.tmp 2)]
theorem qai.u1.ok (k:Nat) (x0:Ad) (R:IC) (K:KF α) :
  eC k (qai.u1.c R) (za [(0, .ptr (some x0))]) K =
   qai.u1.f k x0 (fun y0 y1 y2=>eC k R (za [(0, .ptr (some y0)), (3, .ptr (some y1)), (4, .int .i64 y2)]) K) (fun y0=>K .ret (fr3 y0)) (fun v=>K (.pan v) (za [])):=by kernel_rfl
theorem qai.u2.ok (k:Nat) (x0 x1:Ad) (x2:Int) (R:IC) (K:KF α) :
  eC k (qai.u2.c R) (za [(0, .ptr (some x0)), (3, .ptr (some x1)), (4, .int .i64 x2)]) K =
   qai.u2.f k x0 x1 x2 (fun y0 y1 y2=>eC k R (za [(0, .ptr (some y0)), (3, .ptr (some y1)), (4, .int .i64 y2)]) K) (fun v=>K (.pan v) (za [])):=by kernel_rfl
theorem qai.u3.ok (k:Nat) (x0 x1:Ad) (x2:Int) (K:KF α) :
  eC k qai.u3.c (za [(0, .ptr (some x0)), (3, .ptr (some x1)), (4, .int .i64 x2)]) K =
   qai.u3.f k (qal.f k) x0 x1 x2 (fun y0=>K .ret (fr3 y0)) (fun v=>K (.pan v) (za [])):=by kernel_rfl
theorem qai.u4.ok (k:Nat) (x0 x1:Ad) (x2:Int) (K:KF α) :
  eC k qai.u4.c (za [(0, .ptr (some x0)), (3, .ptr (some x1)), (4, .int .i64 x2)]) K =
   qai.u4.f k (qal.f k) x0 x1 x2 (fun y0=>K .ret (fr3 y0)) (fun v=>K (.pan v) (za [])):=
 (qai.u2.ok k x0 x1 x2 qai.u3.c K).trans
  (congrArg (fun z=>qai.u2.f k x0 x1 x2 z (fun v=>K (.pan v) (za []))) (funext fun y0=>(funext fun y1=>(funext fun y2=>qai.u3.ok k y0 y1 y2 K))))
theorem qai.u5.ok (k:Nat) (x0:Ad) (K:KF α) :
  eC k qai.u5.c (za [(0, .ptr (some x0))]) K =
   qai.u5.f k (qal.f k) x0 (fun y0=>K .ret (fr3 y0)) (fun v=>K (.pan v) (za [])):=
 (qai.u1.ok k x0 qai.u4.c K).trans
  (congrArg (fun z=>qai.u1.f k x0 z (fun y0=>K .ret (fr3 y0)) (fun v=>K (.pan v) (za []))) (funext fun y0=>(funext fun y1=>(funext fun y2=>qai.u4.ok k y0 y1 y2 K))))
theorem qai.ok (k:Nat) (x0:Ad) (κ:Res->M α) :
  evF T (env k) k qai.c qai.res [.ptr (some x0)] κ = qai.f (k + 1) x0 (fun v=>κ (.pan v)) (fun o0=>κ (.ret (.int .i64 o0))):=
 (qai.u5.ok k x0 (retK T qai.res κ)).trans (by kernel_rfl)
theorem qai.code:qai.c.code = zy Tryd.f81:=by kernel_rfl
noncomputable def qaj.res:List ResultVar:=[(.cell 2 22), (.cell 3 36)]
theorem qaj.sp (k:Nat) (x0:TX) (K:KF α) (Kn:Frame->M α) :
  zjq T (env k) k qaj.as (fr11 x0) K Kn = qaj.u1.f k x0 (fun y0 y1 y2=>Kn (za [(2, .ptr (some y0)), (3, .ptr (some y1)), (4, .slice y2)])) (fun y0 y1=>K .ret (za [(2, .ptr (some y0)), (3, .ptr (some y1))])):=by kernel_rfl
theorem qaj.bok (k:Nat) (y0:Ad) (y1:Ad) (y2:Sl) (K:KF α) :
  eC k qaj.u2.c (Frame.put (za [(2, .ptr (some y0)), (3, .ptr (some y1)), (4, .slice y2)]) (some 14) (.func 33 [] [.ptr (some y0), .ptr (some y1)])) K = qaj.u2.f k y0 y1 y2 (fun z0 z1=>K .ret (za [(2, .ptr (some z0)), (3, .ptr (some z1))])) (fun v=>K (.pan v) (za [])):=by kernel_rfl
theorem qaj.ret (k:Nat) (y0:Ad) (y1:Ad) (y2:Sl) (z0:Ad) (z1:Ad) (κ:Res->M α) :
  (deferB T (env k) k qaj.C.u1.c 5 [2, 3] qaj.res [.ptr (some y0), .ptr (some y1)] (za [(2, .ptr (some y0)), (3, .ptr (some y1)), (4, .slice y2)]) κ) .ret (za [(2, .ptr (some z0)), (3, .ptr (some z1))]) = qaj.C.u1.f k y0 y1 .nilIface (
 ldS (z0.add 0) fun o501=>
 ld (z1.add 0) fun o502=>
 (fun o0 o1=>κ (.ret (.tuple [.slice o0, o1]))) o501 o502):=by kernel_rfl
theorem qaj.pan (k:Nat) (y0:Ad) (y1:Ad) (y2:Sl) (v:V) (ρ:Frame) (κ:Res->M α) :
  (deferB T (env k) k qaj.C.u1.c 5 [2, 3] qaj.res [.ptr (some y0), .ptr (some y1)] (za [(2, .ptr (some y0)), (3, .ptr (some y1)), (4, .slice y2)]) κ) (.pan v) ρ = qaj.C.u1.f k y0 y1 v (
 ldS (y0.add 0) fun o501=>
 ld (y1.add 0) fun o502=>
 (fun o0 o1=>κ (.ret (.tuple [.slice o0, o1]))) o501 o502):=by kernel_rfl
theorem qaj.reta (y0:Ad) (y1:Ad) (κ:Res->M α) :
  deferA T qaj.res κ .ret (za [(2, .ptr (some y0)), (3, .ptr (some y1))]) = (
 ldS (y0.add 0) fun o501=>
 ld (y1.add 0) fun o502=>
 (fun o0 o1=>κ (.ret (.tuple [.slice o0, o1]))) o501 o502):=by kernel_rfl
theorem qaj.ok (k:Nat) (x0:TX) (κ:Res->M α) :
  zof T (env k) k qaj.as qaj.u2.c qaj.C.u1.c 33 14 5 [.tmp 2, .tmp 3] [2, 3] qaj.res [.str x0] κ = qaj.f (k + 1) x0 (fun o0 o1=>κ (.ret (.tuple [.slice o0, o1]))):=
 (qaj.sp k x0 _ _).trans (congr (congrArg (fun a b=>qaj.u1.f k x0 a b) (funext fun y0=>funext fun y1=>funext fun y2=>(qaj.bok k y0 y1 y2 _).trans (congr (congrArg (fun a b=>qaj.u2.f k y0 y1 y2 a b) (funext fun z0=>funext fun z1=>qaj.ret k y0 y1 y2 z0 z1 κ)) (funext fun v=>qaj.pan k y0 y1 y2 v _ κ)))) (funext fun y0=>funext fun y1=>qaj.reta y0 y1 κ))
noncomputable def qbe.c:IC:=qbe.u1.c
noncomputable def qbe.res:List ResultVar:=[(.tmp 2)]
theorem qbe.u1.ok (k:Nat) (x0 x1 x2:Int) (x3:TX) (x4:Int) (K:KF α) :
  eC k qbe.u1.c (za [(0, .agg [.int .i64 x0, .int .i64 x1, .int .i64 x2, .str x3, .int .i64 x4])]) K =
   qbe.u1.f k x0 x1 x2 x3 x4 (fun y0=>K .ret (fr18 y0)):=by kernel_rfl
theorem qbe.ok (k:Nat) (x0 x1 x2:Int) (x3:TX) (x4:Int) (κ:Res->M α) :
  evF T (env k) k qbe.c qbe.res [.agg [.int .i64 x0, .int .i64 x1, .int .i64 x2, .str x3, .int .i64 x4]] κ = qbe.f (k + 1) x0 x1 x2 x3 x4 (fun o0=>κ (.ret (.bool o0))):=
 (qbe.u1.ok k x0 x1 x2 x3 x4 (retK T qbe.res κ)).trans (by kernel_rfl)
theorem qbe.code:qbe.c.code = zy Tryd.f27:=by kernel_rfl
noncomputable def qaa.c:IC:=qaa.u9.c
noncomputable def qaa.res:List ResultVar:=[(.tmp 4)]
theorem qaa.u1.ok (k:Nat) (x0:Sl) (R:IC) (K:KF α) :
  eC k (qaa.u1.c R) (za [(0, .slice x0), (1, .func 27 [] [])]) K =
   qaa.u1.f k x0 (fun y0=>eC k R (za [(0, .slice y0), (1, .func 27 [] [])]) K):=by kernel_rfl
theorem qaa.u2.ok (k:Nat) (x0:Sl) (R:IC) (K:KF α) :
  eC k (qaa.u2.c R) (za [(0, .slice x0), (1, .func 27 [] [])]) K =
   qaa.u2.f k x0 (fun y0 y1 y2=>eC k R (za [(0, .slice y0), (1, .func 27 [] []), (7, .int .i64 y1), (8, .int .i64 y2)]) K):=by kernel_rfl
theorem qaa.u3.ok (k:Nat) (x0:Sl) (x1 x2:Int) (K:KF α) :
  eC k qaa.u3.c (za [(0, .slice x0), (1, .func 27 [] []), (7, .int .i64 x1), (8, .int .i64 x2)]) K =
   qaa.u3.f k x0 x1 x2 (fun y0 y1 y2=>K .normal (za [(0, .slice y0), (1, .func 27 [] []), (7, .int .i64 y1), (8, .int .i64 y2)])) (fun y0=>K .ret (fr1 y0)) (K (.exit 0) (za [])):=by kernel_rfl
theorem qaa.u4.ls (k:Nat) (kr:Int->M α) (kx0:M α) (j:Nat) (x0:Sl) (x1 x2:Int):qaa.u4.l k kr kx0 (j + 1) x0 x1 x2 =
 qaa.u3.f k x0 x1 x2 (fun y0 y1 y2=>qaa.u4.l k kr kx0 j y0 y1 y2) kr kx0:=rfl
theorem qaa.u4.okl (k:Nat) (K:KF α):∀ (j:Nat) (x0:Sl) (x1 x2:Int),
  zr (eC k qaa.u3.c) [0, 1, 7, 8] j (za [(0, .slice x0), (1, .func 27 [] []), (7, .int .i64 x1), (8, .int .i64 x2)]) K = qaa.u4.l k (fun y0=>K .ret (fr1 y0)) (K (.exit 0) (za [])) j x0 x1 x2
 | 0, _, _, _=>rfl
 | j + 1, x0, x1, x2=>by
   have h:=qaa.u3.ok k x0 x1 x2 (seqK (fun ρ=>zr (eC k qaa.u3.c) [0, 1, 7, 8] j ρ K) K)
   simp only [zf, zh, zg, zd, qaa.u4.okl k K j] at h
   exact (zo (by kernel_rfl) h).trans (qaa.u4.ls k (fun y0=>K .ret (fr1 y0)) (K (.exit 0) (za [])) j x0 x1 x2).symm
theorem qaa.u4.ok (k:Nat) (x0:Sl) (x1 x2:Int) (K:KF α) :
  eC k qaa.u4.c (za [(0, .slice x0), (1, .func 27 [] []), (7, .int .i64 x1), (8, .int .i64 x2)]) K =
   qaa.u4.f k x0 x1 x2 (fun y0=>K .ret (fr1 y0)) (K (.exit 0) (za [])):=
 jd.trans <| (zp (body:=eC k qaa.u3.c) (keep:=[0, 1, 7, 8]) (ρ:=(za [(0, .slice x0), (1, .func 27 [] []), (7, .int .i64 x1), (8, .int .i64 x2)])) (ρ':=(za [(0, .slice x0), (1, .func 27 [] []), (7, .int .i64 x1), (8, .int .i64 x2)])) (by kernel_rfl) k K).trans (qaa.u4.okl k K k x0 x1 x2)
theorem qaa.u5.ok (k:Nat) (x0:Sl) (x1 x2:Int) (K:KF α) :
  eC k qaa.u5.c (za [(0, .slice x0), (1, .func 27 [] []), (7, .int .i64 x1), (8, .int .i64 x2)]) K =
   qaa.u5.f k x0 x1 x2 (K .normal (za [])) (fun y0=>K .ret (fr1 y0)):=
 (zm.trans (qaa.u4.ok k x0 x1 x2 (jf 0 K))).trans (by kernel_rfl)
theorem qaa.u6.ok (k:Nat) (x0:Sl) (K:KF α) :
  eC k qaa.u6.c (za [(0, .slice x0), (1, .func 27 [] [])]) K =
   qaa.u6.f k x0 (K .normal (za [])) (fun y0=>K .ret (fr1 y0)):=
 (qaa.u2.ok k x0 qaa.u5.c K).trans
  (congrArg (fun z=>qaa.u2.f k x0 z) (funext fun y0=>(funext fun y1=>(funext fun y2=>qaa.u5.ok k y0 y1 y2 K))))
theorem qaa.u7.ok (k:Nat) (K:KF α) :
  eC k qaa.u7.c (za []) K =
   qaa.u7.f k (fun y0=>K .ret (fr1 y0)):=by kernel_rfl
theorem qaa.u8.ok (k:Nat) (x0:Sl) (K:KF α) :
  eC k qaa.u8.c (za [(0, .slice x0), (1, .func 27 [] [])]) K =
   qaa.u8.f k x0 (fun y0=>K .ret (fr1 y0)):=
 by
  have h:=qaa.u6.ok k x0 (seqK (fun ρ=>eC k qaa.u7.c ρ K) K)
  simp only [zd, zf, zh, zg, qaa.u7.ok] at h
  exact zk h
theorem qaa.u9.ok (k:Nat) (x0:Sl) (K:KF α) :
  eC k qaa.u9.c (za [(0, .slice x0), (1, .func 27 [] [])]) K =
   qaa.u9.f k x0 (fun y0=>K .ret (fr1 y0)):=
 (qaa.u1.ok k x0 qaa.u8.c K).trans
  (congrArg (fun z=>qaa.u1.f k x0 z) (funext fun y0=>qaa.u8.ok k y0 K))
theorem qaa.ok (k:Nat) (x0:Sl) (κ:Res->M α) :
  evF T (env k) k qaa.c qaa.res [.slice x0, .func 27 [] []] κ = qaa.f (k + 1) x0 (fun o0=>κ (.ret (.int .i64 o0))):=
 (qaa.u9.ok k x0 (retK T qaa.res κ)).trans (by kernel_rfl)
theorem qaa.code:qaa.c.code = zy Tryd.f43:=by kernel_rfl
noncomputable def qbf.c:IC:=qbf.u1.c
noncomputable def qbf.res:List ResultVar:=[(.tmp 4)]
theorem qbf.u1.ok (k:Nat) (x0:Sl) (K:KF α) :
  eC k qbf.u1.c (za [(0, .slice x0), (1, .func 27 [] [])]) K =
   qbf.u1.f k x0 (fun y0=>K .ret (fr21 y0)):=by kernel_rfl
theorem qbf.ok (k:Nat) (x0:Sl) (κ:Res->M α) :
  evF T (env k) k qbf.c qbf.res [.slice x0, .func 27 [] []] κ = qbf.f (k + 1) x0 (fun o0=>κ (.ret (.bool o0))):=
 (qbf.u1.ok k x0 (retK T qbf.res κ)).trans (by kernel_rfl)
theorem qbf.code:qbf.c.code = zy Tryd.f26:=by kernel_rfl
noncomputable def qay.c:IC:=qay.u1.c
noncomputable def qay.res:List ResultVar:=[(.tmp 2)]
theorem qay.u1.ok (k:Nat) (x0:Sl) (K:KF α) :
  eC k qay.u1.c (fr25 x0) K =
   qay.u1.f k x0 (fun y0=>K .ret (fr26 y0)):=by kernel_rfl
theorem qay.ok (k:Nat) (x0:Sl) (κ:Res->M α) :
  evF T (env k) k qay.c qay.res [.slice x0] κ = qay.f (k + 1) x0 (fun o0=>κ (.ret (.slice o0))):=
 (qay.u1.ok k x0 (retK T qay.res κ)).trans (by kernel_rfl)
theorem qay.code:qay.c.code = zy Tryd.f42:=by kernel_rfl
noncomputable def qad.c:IC:=qad.u9.c
noncomputable def qad.res:List ResultVar:=[(.tmp 6)]
theorem qad.u1.ok (k:Nat) (x0:TX) (x1 x2:Int) (R:IC) (K:KF α) :
  eC k (qad.u1.c R) (fr27 x0 x1 x2) K =
   qad.u1.f k x0 x1 x2 (fun y0=>eC k R (fr11 y0) K) (fun y0=>K .ret (fr28 y0)):=by kernel_rfl
theorem qad.u2.ok (k:Nat) (x0:TX) (R:IC) (K:KF α) :
  eC k (qad.u2.c R) (fr11 x0) K =
   qad.u2.f k x0 (fun y0 y1 y2=>eC k R (fr29 y0 y1 y2) K):=by kernel_rfl
theorem qad.u3.ok (k:Nat) (x0:TX) (x1 x2:Int) (K:KF α) :
  eC k qad.u3.c (fr29 x0 x1 x2) K =
   qad.u3.f k x0 x1 x2 (fun y0 y1 y2=>K .normal (fr29 y0 y1 y2)) (fun y0=>K .ret (fr28 y0)) (K (.exit 0) (za [])):=by kernel_rfl
theorem qad.u4.ls (k:Nat) (kr:Bool->M α) (kx0:M α) (j:Nat) (x0:TX) (x1 x2:Int):qad.u4.l k kr kx0 (j + 1) x0 x1 x2 =
 qad.u3.f k x0 x1 x2 (fun y0 y1 y2=>qad.u4.l k kr kx0 j y0 y1 y2) kr kx0:=rfl
theorem qad.u4.okl (k:Nat) (K:KF α):∀ (j:Nat) (x0:TX) (x1 x2:Int),
  zr (eC k qad.u3.c) [0, 30, 31] j (fr29 x0 x1 x2) K = qad.u4.l k (fun y0=>K .ret (fr28 y0)) (K (.exit 0) (za [])) j x0 x1 x2
 | 0, _, _, _=>rfl
 | j + 1, x0, x1, x2=>by
   have h:=qad.u3.ok k x0 x1 x2 (seqK (fun ρ=>zr (eC k qad.u3.c) [0, 30, 31] j ρ K) K)
   simp only [zf, zh, zg, zd, qad.u4.okl k K j] at h
   exact (zo (by kernel_rfl) h).trans (qad.u4.ls k (fun y0=>K .ret (fr28 y0)) (K (.exit 0) (za [])) j x0 x1 x2).symm
theorem qad.u4.ok (k:Nat) (x0:TX) (x1 x2:Int) (K:KF α) :
  eC k qad.u4.c (fr29 x0 x1 x2) K =
   qad.u4.f k x0 x1 x2 (fun y0=>K .ret (fr28 y0)) (K (.exit 0) (za [])):=
 jd.trans <| (zp (body:=eC k qad.u3.c) (keep:=[0, 30, 31]) (ρ:=(fr29 x0 x1 x2)) (ρ':=(fr29 x0 x1 x2)) (by kernel_rfl) k K).trans (qad.u4.okl k K k x0 x1 x2)
theorem qad.u5.ok (k:Nat) (x0:TX) (x1 x2:Int) (K:KF α) :
  eC k qad.u5.c (fr29 x0 x1 x2) K =
   qad.u5.f k x0 x1 x2 (K .normal (za [])) (fun y0=>K .ret (fr28 y0)):=
 (zm.trans (qad.u4.ok k x0 x1 x2 (jf 0 K))).trans (by kernel_rfl)
theorem qad.u6.ok (k:Nat) (x0:TX) (K:KF α) :
  eC k qad.u6.c (fr11 x0) K =
   qad.u6.f k x0 (K .normal (za [])) (fun y0=>K .ret (fr28 y0)):=
 (qad.u2.ok k x0 qad.u5.c K).trans
  (congrArg (fun z=>qad.u2.f k x0 z) (funext fun y0=>(funext fun y1=>(funext fun y2=>qad.u5.ok k y0 y1 y2 K))))
theorem qad.u7.ok (k:Nat) (K:KF α) :
  eC k qad.u7.c (za []) K =
   qad.u7.f k (fun y0=>K .ret (fr28 y0)):=by kernel_rfl
theorem qad.u8.ok (k:Nat) (x0:TX) (K:KF α) :
  eC k qad.u8.c (fr11 x0) K =
   qad.u8.f k x0 (fun y0=>K .ret (fr28 y0)):=
 by
  have h:=qad.u6.ok k x0 (seqK (fun ρ=>eC k qad.u7.c ρ K) K)
  simp only [zd, zf, zh, zg, qad.u7.ok] at h
  exact zk h
theorem qad.u9.ok (k:Nat) (x0:TX) (x1 x2:Int) (K:KF α) :
  eC k qad.u9.c (fr27 x0 x1 x2) K =
   qad.u9.f k x0 x1 x2 (fun y0=>K .ret (fr28 y0)):=
 (qad.u1.ok k x0 x1 x2 qad.u8.c K).trans
  (congrArg (fun z=>qad.u1.f k x0 x1 x2 z (fun y0=>K .ret (fr28 y0))) (funext fun y0=>qad.u8.ok k y0 K))
theorem qad.ok (k:Nat) (x0:TX) (x1 x2:Int) (κ:Res->M α) :
  evF T (env k) k qad.c qad.res [.str x0, .int .u8 x1, .int .u8 x2] κ = qad.f (k + 1) x0 x1 x2 (fun o0=>κ (.ret (.bool o0))):=
 (qad.u9.ok k x0 x1 x2 (retK T qad.res κ)).trans (by kernel_rfl)
theorem qad.code:qad.c.code = zy Tryd.f75:=by kernel_rfl
noncomputable def qax.c:IC:=qax.u1.c
noncomputable def qax.res:List ResultVar:=[(.tmp 2)]
theorem qax.u1.ok (k:Nat) (x0:TX) (K:KF α) :
  eC k qax.u1.c (fr11 x0) K =
   qax.u1.f k x0 (fun y0=>K .ret (fr18 y0)):=by kernel_rfl
theorem qax.ok (k:Nat) (x0:TX) (κ:Res->M α) :
  evF T (env k) k qax.c qax.res [.str x0] κ = qax.f (k + 1) x0 (fun o0=>κ (.ret (.bool o0))):=
 (qax.u1.ok k x0 (retK T qax.res κ)).trans (by kernel_rfl)
theorem qax.code:qax.c.code = zy Tryd.f60:=by kernel_rfl
noncomputable def qap.c:IC:=qap.u1.c
noncomputable def qap.res:List ResultVar:=[(.tmp 2)]
theorem qap.u1.ok (k:Nat) (x0:TX) (K:KF α) :
  eC k qap.u1.c (fr11 x0) K =
   qap.u1.f k x0 (fun y0=>K .ret (fr18 y0)):=by kernel_rfl
theorem qap.ok (k:Nat) (x0:TX) (κ:Res->M α) :
  evF T (env k) k qap.c qap.res [.str x0] κ = qap.f (k + 1) x0 (fun o0=>κ (.ret (.bool o0))):=
 (qap.u1.ok k x0 (retK T qap.res κ)).trans (by kernel_rfl)
theorem qap.code:qap.c.code = zy Tryd.f61:=by kernel_rfl
noncomputable def qbn.c:IC:=qbn.u1.c
noncomputable def qbn.res:List ResultVar:=[(.tmp 2), (.tmp 3)]
theorem qbn.u1.ok (k:Nat) (x0 x1 x2:Int) (x3:TX) (x4:Int) (K:KF α) :
  eC k qbn.u1.c (za [(0, .agg [.int .i64 x0, .int .i64 x1, .int .i64 x2, .str x3, .int .i64 x4])]) K =
   qbn.u1.f k x0 x1 x2 x3 x4 (fun y0 y1=>K .ret (fr12 y0 y1)):=by kernel_rfl
theorem qbn.ok (k:Nat) (x0 x1 x2:Int) (x3:TX) (x4:Int) (κ:Res->M α) :
  evF T (env k) k qbn.c qbn.res [.agg [.int .i64 x0, .int .i64 x1, .int .i64 x2, .str x3, .int .i64 x4]] κ = qbn.f (k + 1) x0 x1 x2 x3 x4 (fun o0 o1=>κ (.ret (.tuple [.int .i64 o0, .bool o1]))):=
 (qbn.u1.ok k x0 x1 x2 x3 x4 (retK T qbn.res κ)).trans (by kernel_rfl)
theorem qbn.code:qbn.c.code = zy Tryd.f45:=by kernel_rfl
noncomputable def qbo.c:IC:=qbo.u1.c
noncomputable def qbo.res:List ResultVar:=[(.tmp 2)]
theorem qbo.u1.ok (k:Nat) (x0:Int) (K:KF α) :
  eC k qbo.u1.c (fr30 x0) K =
   qbo.u1.f k x0 (fun y0=>K .ret (fr18 y0)):=by kernel_rfl
theorem qbo.ok (k:Nat) (x0:Int) (κ:Res->M α) :
  evF T (env k) k qbo.c qbo.res [.int .i64 x0] κ = qbo.f (k + 1) x0 (fun o0=>κ (.ret (.bool o0))):=
 (qbo.u1.ok k x0 (retK T qbo.res κ)).trans (by kernel_rfl)
theorem qbo.code:qbo.c.code = zy Tryd.f47:=by kernel_rfl
noncomputable def qaf.c:IC:=qaf.u9.c
noncomputable def qaf.res:List ResultVar:=[(.tmp 4)]
theorem qaf.u1.ok (k:Nat) (x0:Sl) (R:IC) (K:KF α) :
  eC k (qaf.u1.c R) (za [(0, .slice x0), (1, .func 47 [] [])]) K =
   qaf.u1.f k x0 (fun y0=>eC k R (za [(0, .slice y0), (1, .func 47 [] [])]) K):=by kernel_rfl
theorem qaf.u2.ok (k:Nat) (x0:Sl) (R:IC) (K:KF α) :
  eC k (qaf.u2.c R) (za [(0, .slice x0), (1, .func 47 [] [])]) K =
   qaf.u2.f k x0 (fun y0 y1 y2=>eC k R (za [(0, .slice y0), (1, .func 47 [] []), (7, .int .i64 y1), (8, .int .i64 y2)]) K):=by kernel_rfl
theorem qaf.u3.ok (k:Nat) (x0:Sl) (x1 x2:Int) (K:KF α) :
  eC k qaf.u3.c (za [(0, .slice x0), (1, .func 47 [] []), (7, .int .i64 x1), (8, .int .i64 x2)]) K =
   qaf.u3.f k x0 x1 x2 (fun y0 y1 y2=>K .normal (za [(0, .slice y0), (1, .func 47 [] []), (7, .int .i64 y1), (8, .int .i64 y2)])) (fun y0=>K .ret (fr1 y0)) (K (.exit 0) (za [])):=by kernel_rfl
theorem qaf.u4.ls (k:Nat) (kr:Int->M α) (kx0:M α) (j:Nat) (x0:Sl) (x1 x2:Int):qaf.u4.l k kr kx0 (j + 1) x0 x1 x2 =
 qaf.u3.f k x0 x1 x2 (fun y0 y1 y2=>qaf.u4.l k kr kx0 j y0 y1 y2) kr kx0:=rfl
theorem qaf.u4.okl (k:Nat) (K:KF α):∀ (j:Nat) (x0:Sl) (x1 x2:Int),
  zr (eC k qaf.u3.c) [0, 1, 7, 8] j (za [(0, .slice x0), (1, .func 47 [] []), (7, .int .i64 x1), (8, .int .i64 x2)]) K = qaf.u4.l k (fun y0=>K .ret (fr1 y0)) (K (.exit 0) (za [])) j x0 x1 x2
 | 0, _, _, _=>rfl
 | j + 1, x0, x1, x2=>by
   have h:=qaf.u3.ok k x0 x1 x2 (seqK (fun ρ=>zr (eC k qaf.u3.c) [0, 1, 7, 8] j ρ K) K)
   simp only [zf, zh, zg, zd, qaf.u4.okl k K j] at h
   exact (zo (by kernel_rfl) h).trans (qaf.u4.ls k (fun y0=>K .ret (fr1 y0)) (K (.exit 0) (za [])) j x0 x1 x2).symm
theorem qaf.u4.ok (k:Nat) (x0:Sl) (x1 x2:Int) (K:KF α) :
  eC k qaf.u4.c (za [(0, .slice x0), (1, .func 47 [] []), (7, .int .i64 x1), (8, .int .i64 x2)]) K =
   qaf.u4.f k x0 x1 x2 (fun y0=>K .ret (fr1 y0)) (K (.exit 0) (za [])):=
 jd.trans <| (zp (body:=eC k qaf.u3.c) (keep:=[0, 1, 7, 8]) (ρ:=(za [(0, .slice x0), (1, .func 47 [] []), (7, .int .i64 x1), (8, .int .i64 x2)])) (ρ':=(za [(0, .slice x0), (1, .func 47 [] []), (7, .int .i64 x1), (8, .int .i64 x2)])) (by kernel_rfl) k K).trans (qaf.u4.okl k K k x0 x1 x2)
theorem qaf.u5.ok (k:Nat) (x0:Sl) (x1 x2:Int) (K:KF α) :
  eC k qaf.u5.c (za [(0, .slice x0), (1, .func 47 [] []), (7, .int .i64 x1), (8, .int .i64 x2)]) K =
   qaf.u5.f k x0 x1 x2 (K .normal (za [])) (fun y0=>K .ret (fr1 y0)):=
 (zm.trans (qaf.u4.ok k x0 x1 x2 (jf 0 K))).trans (by kernel_rfl)
theorem qaf.u6.ok (k:Nat) (x0:Sl) (K:KF α) :
  eC k qaf.u6.c (za [(0, .slice x0), (1, .func 47 [] [])]) K =
   qaf.u6.f k x0 (K .normal (za [])) (fun y0=>K .ret (fr1 y0)):=
 (qaf.u2.ok k x0 qaf.u5.c K).trans
  (congrArg (fun z=>qaf.u2.f k x0 z) (funext fun y0=>(funext fun y1=>(funext fun y2=>qaf.u5.ok k y0 y1 y2 K))))
theorem qaf.u7.ok (k:Nat) (K:KF α) :
  eC k qaf.u7.c (za []) K =
   qaf.u7.f k (fun y0=>K .ret (fr1 y0)):=by kernel_rfl
theorem qaf.u8.ok (k:Nat) (x0:Sl) (K:KF α) :
  eC k qaf.u8.c (za [(0, .slice x0), (1, .func 47 [] [])]) K =
   qaf.u8.f k x0 (fun y0=>K .ret (fr1 y0)):=
 by
  have h:=qaf.u6.ok k x0 (seqK (fun ρ=>eC k qaf.u7.c ρ K) K)
  simp only [zd, zf, zh, zg, qaf.u7.ok] at h
  exact zk h
theorem qaf.u9.ok (k:Nat) (x0:Sl) (K:KF α) :
  eC k qaf.u9.c (za [(0, .slice x0), (1, .func 47 [] [])]) K =
   qaf.u9.f k x0 (fun y0=>K .ret (fr1 y0)):=
 (qaf.u1.ok k x0 qaf.u8.c K).trans
  (congrArg (fun z=>qaf.u1.f k x0 z) (funext fun y0=>qaf.u8.ok k y0 K))
theorem qaf.ok (k:Nat) (x0:Sl) (κ:Res->M α) :
  evF T (env k) k qaf.c qaf.res [.slice x0, .func 47 [] []] κ = qaf.f (k + 1) x0 (fun o0=>κ (.ret (.int .i64 o0))):=
 (qaf.u9.ok k x0 (retK T qaf.res κ)).trans (by kernel_rfl)
theorem qaf.code:qaf.c.code = zy Tryd.f62:=by kernel_rfl
noncomputable def qbm.c:IC:=qbm.u1.c
noncomputable def qbm.res:List ResultVar:=[(.tmp 4)]
theorem qbm.u1.ok (k:Nat) (x0:Sl) (K:KF α) :
  eC k qbm.u1.c (za [(0, .slice x0), (1, .func 47 [] [])]) K =
   qbm.u1.f k x0 (fun y0=>K .ret (fr21 y0)):=by kernel_rfl
theorem qbm.ok (k:Nat) (x0:Sl) (κ:Res->M α) :
  evF T (env k) k qbm.c qbm.res [.slice x0, .func 47 [] []] κ = qbm.f (k + 1) x0 (fun o0=>κ (.ret (.bool o0))):=
 (qbm.u1.ok k x0 (retK T qbm.res κ)).trans (by kernel_rfl)
theorem qbm.code:qbm.c.code = zy Tryd.f46:=by kernel_rfl
noncomputable def qae.c:IC:=qae.u9.c
noncomputable def qae.res:List ResultVar:=[(.tmp 4)]
theorem qae.u1.ok (k:Nat) (x0 x1:Sl) (R:IC) (K:KF α) :
  eC k (qae.u1.c R) (fr31 x0 x1) K =
   qae.u1.f k x0 x1 (fun y0 y1=>eC k R (fr31 y0 y1) K) (fun y0=>K .ret (fr21 y0)):=by kernel_rfl
theorem qae.u2.ok (k:Nat) (x0 x1:Sl) (R:IC) (K:KF α) :
  eC k (qae.u2.c R) (fr31 x0 x1) K =
   qae.u2.f k x0 x1 (fun y0 y1 y2 y3=>eC k R (fr32 y0 y1 y2 y3) K):=by kernel_rfl
theorem qae.u3.ok (k:Nat) (x0 x1:Sl) (x2 x3:Int) (K:KF α) :
  eC k qae.u3.c (fr32 x0 x1 x2 x3) K =
   qae.u3.f k x0 x1 x2 x3 (fun y0 y1 y2 y3=>K .normal (fr32 y0 y1 y2 y3)) (fun y0=>K .ret (fr21 y0)) (K (.exit 0) (za [])):=by kernel_rfl
theorem qae.u4.ls (k:Nat) (kr:Bool->M α) (kx0:M α) (j:Nat) (x0 x1:Sl) (x2 x3:Int):qae.u4.l k kr kx0 (j + 1) x0 x1 x2 x3 =
 qae.u3.f k x0 x1 x2 x3 (fun y0 y1 y2 y3=>qae.u4.l k kr kx0 j y0 y1 y2 y3) kr kx0:=rfl
theorem qae.u4.okl (k:Nat) (K:KF α):∀ (j:Nat) (x0 x1:Sl) (x2 x3:Int),
  zr (eC k qae.u3.c) [0, 1, 12, 13] j (fr32 x0 x1 x2 x3) K = qae.u4.l k (fun y0=>K .ret (fr21 y0)) (K (.exit 0) (za [])) j x0 x1 x2 x3
 | 0, _, _, _, _=>rfl
 | j + 1, x0, x1, x2, x3=>by
   have h:=qae.u3.ok k x0 x1 x2 x3 (seqK (fun ρ=>zr (eC k qae.u3.c) [0, 1, 12, 13] j ρ K) K)
   simp only [zf, zh, zg, zd, qae.u4.okl k K j] at h
   exact (zo (by kernel_rfl) h).trans (qae.u4.ls k (fun y0=>K .ret (fr21 y0)) (K (.exit 0) (za [])) j x0 x1 x2 x3).symm
theorem qae.u4.ok (k:Nat) (x0 x1:Sl) (x2 x3:Int) (K:KF α) :
  eC k qae.u4.c (fr32 x0 x1 x2 x3) K =
   qae.u4.f k x0 x1 x2 x3 (fun y0=>K .ret (fr21 y0)) (K (.exit 0) (za [])):=
 jd.trans <| (zp (body:=eC k qae.u3.c) (keep:=[0, 1, 12, 13]) (ρ:=(fr32 x0 x1 x2 x3)) (ρ':=(fr32 x0 x1 x2 x3)) (by kernel_rfl) k K).trans (qae.u4.okl k K k x0 x1 x2 x3)
theorem qae.u5.ok (k:Nat) (x0 x1:Sl) (x2 x3:Int) (K:KF α) :
  eC k qae.u5.c (fr32 x0 x1 x2 x3) K =
   qae.u5.f k x0 x1 x2 x3 (K .normal (za [])) (fun y0=>K .ret (fr21 y0)):=
 (zm.trans (qae.u4.ok k x0 x1 x2 x3 (jf 0 K))).trans (by kernel_rfl)
theorem qae.u6.ok (k:Nat) (x0 x1:Sl) (K:KF α) :
  eC k qae.u6.c (fr31 x0 x1) K =
   qae.u6.f k x0 x1 (K .normal (za [])) (fun y0=>K .ret (fr21 y0)):=
 (qae.u2.ok k x0 x1 qae.u5.c K).trans
  (congrArg (fun z=>qae.u2.f k x0 x1 z) (funext fun y0=>(funext fun y1=>(funext fun y2=>(funext fun y3=>qae.u5.ok k y0 y1 y2 y3 K)))))
theorem qae.u7.ok (k:Nat) (K:KF α) :
  eC k qae.u7.c (za []) K =
   qae.u7.f k (fun y0=>K .ret (fr21 y0)):=by kernel_rfl
theorem qae.u8.ok (k:Nat) (x0 x1:Sl) (K:KF α) :
  eC k qae.u8.c (fr31 x0 x1) K =
   qae.u8.f k x0 x1 (fun y0=>K .ret (fr21 y0)):=
 by
  have h:=qae.u6.ok k x0 x1 (seqK (fun ρ=>eC k qae.u7.c ρ K) K)
  simp only [zd, zf, zh, zg, qae.u7.ok] at h
  exact zk h
theorem qae.u9.ok (k:Nat) (x0 x1:Sl) (K:KF α) :
  eC k qae.u9.c (fr31 x0 x1) K =
   qae.u9.f k x0 x1 (fun y0=>K .ret (fr21 y0)):=
 (qae.u1.ok k x0 x1 qae.u8.c K).trans
  (congrArg (fun z=>qae.u1.f k x0 x1 z (fun y0=>K .ret (fr21 y0))) (funext fun y0=>(funext fun y1=>qae.u8.ok k y0 y1 K)))
theorem qae.ok (k:Nat) (x0 x1:Sl) (κ:Res->M α) :
  evF T (env k) k qae.c qae.res [.slice x0, .slice x1] κ = qae.f (k + 1) x0 x1 (fun o0=>κ (.ret (.bool o0))):=
 (qae.u9.ok k x0 x1 (retK T qae.res κ)).trans (by kernel_rfl)
theorem qae.code:qae.c.code = zy Tryd.f48:=by kernel_rfl
noncomputable def qr.c:IC:=qr.u9.c
noncomputable def qr.res:List ResultVar:=[(.tmp 2)]
theorem qr.u1.ok (k:Nat) (x0:Sl) (R:IC) (K:KF α) :
  eC k (qr.u1.c R) (fr25 x0) K =
   qr.u1.f k x0 (fun y0 y1=>eC k R (fr33 y0 y1) K) (fun y0=>K .ret (fr18 y0)):=by kernel_rfl
theorem qr.u2.ok (k:Nat) (x0 x1:Sl) (R:IC) (K:KF α) :
  eC k (qr.u2.c R) (fr33 x0 x1) K =
   qr.u2.f k x0 x1 (fun y0 y1 y2 y3=>eC k R (fr34 y0 y1 y2 y3) K):=by kernel_rfl
theorem qr.u3.ok (k:Nat) (x0 x1:Sl) (x2 x3:Int) (K:KF α) :
  eC k qr.u3.c (fr34 x0 x1 x2 x3) K =
   qr.u3.f k x0 x1 x2 x3 (fun y0 y1 y2 y3=>K .normal (fr34 y0 y1 y2 y3)) (fun y0=>K .ret (fr18 y0)) (fun y0=>K (.exit 0) (fr35 y0)):=by kernel_rfl
theorem qr.u4.ls (k:Nat) (kr:Bool->M α) (kx0:Sl->M α) (j:Nat) (x0 x1:Sl) (x2 x3:Int):qr.u4.l k kr kx0 (j + 1) x0 x1 x2 x3 =
 qr.u3.f k x0 x1 x2 x3 (fun y0 y1 y2 y3=>qr.u4.l k kr kx0 j y0 y1 y2 y3) kr kx0:=rfl
theorem qr.u4.okl (k:Nat) (K:KF α):∀ (j:Nat) (x0 x1:Sl) (x2 x3:Int),
  zr (eC k qr.u3.c) [3, 17, 18, 19] j (fr34 x0 x1 x2 x3) K = qr.u4.l k (fun y0=>K .ret (fr18 y0)) (fun y0=>K (.exit 0) (fr35 y0)) j x0 x1 x2 x3
 | 0, _, _, _, _=>rfl
 | j + 1, x0, x1, x2, x3=>by
   have h:=qr.u3.ok k x0 x1 x2 x3 (seqK (fun ρ=>zr (eC k qr.u3.c) [3, 17, 18, 19] j ρ K) K)
   simp only [zf, zh, zg, zd, qr.u4.okl k K j] at h
   exact (zo (by kernel_rfl) h).trans (qr.u4.ls k (fun y0=>K .ret (fr18 y0)) (fun y0=>K (.exit 0) (fr35 y0)) j x0 x1 x2 x3).symm
theorem qr.u4.ok (k:Nat) (x0 x1:Sl) (x2 x3:Int) (K:KF α) :
  eC k qr.u4.c (fr34 x0 x1 x2 x3) K =
   qr.u4.f k x0 x1 x2 x3 (fun y0=>K .ret (fr18 y0)) (fun y0=>K (.exit 0) (fr35 y0)):=
 jd.trans <| (zp (body:=eC k qr.u3.c) (keep:=[3, 17, 18, 19]) (ρ:=(fr34 x0 x1 x2 x3)) (ρ':=(fr34 x0 x1 x2 x3)) (by kernel_rfl) k K).trans (qr.u4.okl k K k x0 x1 x2 x3)
theorem qr.u5.ok (k:Nat) (x0 x1:Sl) (x2 x3:Int) (K:KF α) :
  eC k qr.u5.c (fr34 x0 x1 x2 x3) K =
   qr.u5.f k x0 x1 x2 x3 (fun y0=>K .normal (fr35 y0)) (fun y0=>K .ret (fr18 y0)):=
 (zm.trans (qr.u4.ok k x0 x1 x2 x3 (jf 0 K))).trans (by kernel_rfl)
theorem qr.u6.ok (k:Nat) (x0 x1:Sl) (K:KF α) :
  eC k qr.u6.c (fr33 x0 x1) K =
   qr.u6.f k x0 x1 (fun y0=>K .normal (fr35 y0)) (fun y0=>K .ret (fr18 y0)):=
 (qr.u2.ok k x0 x1 qr.u5.c K).trans
  (congrArg (fun z=>qr.u2.f k x0 x1 z) (funext fun y0=>(funext fun y1=>(funext fun y2=>(funext fun y3=>qr.u5.ok k y0 y1 y2 y3 K)))))
theorem qr.u7.ok (k:Nat) (x0:Sl) (K:KF α) :
  eC k qr.u7.c (fr35 x0) K =
   qr.u7.f k x0 (fun y0=>K .ret (fr18 y0)):=by kernel_rfl
theorem qr.u8.ok (k:Nat) (x0 x1:Sl) (K:KF α) :
  eC k qr.u8.c (fr33 x0 x1) K =
   qr.u8.f k x0 x1 (fun y0=>K .ret (fr18 y0)):=
 by
  have h:=qr.u6.ok k x0 x1 (seqK (fun ρ=>eC k qr.u7.c ρ K) K)
  simp only [zd, zf, zh, zg, qr.u7.ok] at h
  exact zk h
theorem qr.u9.ok (k:Nat) (x0:Sl) (K:KF α) :
  eC k qr.u9.c (fr25 x0) K =
   qr.u9.f k x0 (fun y0=>K .ret (fr18 y0)):=
 (qr.u1.ok k x0 qr.u8.c K).trans
  (congrArg (fun z=>qr.u1.f k x0 z (fun y0=>K .ret (fr18 y0))) (funext fun y0=>(funext fun y1=>qr.u8.ok k y0 y1 K)))
theorem qr.ok (k:Nat) (x0:Sl) (κ:Res->M α) :
  evF T (env k) k qr.c qr.res [.slice x0] κ = qr.f (k + 1) x0 (fun o0=>κ (.ret (.bool o0))):=
 (qr.u9.ok k x0 (retK T qr.res κ)).trans (by kernel_rfl)
theorem qr.code:qr.c.code = zy Tryd.f29:=by kernel_rfl
noncomputable def qw.c:IC:=qw.u9.c
noncomputable def qw.res:List ResultVar:=[(.cell 4 92), (.tmp 5)]
theorem qw.u1.ok (k:Nat) (x0:Ad) (x1:TX) (R:IC) (K:KF α) :
  eC k (qw.u1.c R) (za [(0, .ptr (some x0)), (1, .str x1)]) K =
   qw.u1.f k x0 x1 (fun y0 y1 y2=>eC k R (za [(0, .ptr (some y0)), (1, .str y1), (4, .ptr (some y2))]) K):=by kernel_rfl
theorem qw.u2.ok (k:Nat) (x0:Ad) (x1:TX) (x2:Ad) (R:IC) (K:KF α) :
  eC k (qw.u2.c R) (za [(0, .ptr (some x0)), (1, .str x1), (4, .ptr (some x2))]) K =
   qw.u2.f k x0 x1 x2 (fun y0 y1 y2 y3=>eC k R (za [(0, .ptr (some y0)), (1, .str y1), (4, .ptr (some y2)), (6, .int .i64 y3)]) K):=by kernel_rfl
theorem qw.u3.ok (k:Nat) (x0:Ad) (x1:TX) (x2:Ad) (x3:Int) (K:KF α) :
  eC k qw.u3.c (za [(0, .ptr (some x0)), (1, .str x1), (4, .ptr (some x2)), (6, .int .i64 x3)]) K =
   qw.u3.f k x0 x1 x2 x3 (fun y0 y1 y2 y3=>K .normal (za [(0, .ptr (some y0)), (1, .str y1), (4, .ptr (some y2)), (6, .int .i64 y3)])) (fun y0 y1=>K .ret (za [(4, .ptr (some y0)), (5, .bool y1)])) (fun y0=>K (.exit 0) (za [(4, .ptr (some y0))])):=by kernel_rfl
theorem qw.u4.ls (k:Nat) (kr:Ad->Bool->M α) (kx0:Ad->M α) (j:Nat) (x0:Ad) (x1:TX) (x2:Ad) (x3:Int):qw.u4.l k kr kx0 (j + 1) x0 x1 x2 x3 =
 qw.u3.f k x0 x1 x2 x3 (fun y0 y1 y2 y3=>qw.u4.l k kr kx0 j y0 y1 y2 y3) kr kx0:=rfl
theorem qw.u4.okl (k:Nat) (K:KF α):∀ (j:Nat) (x0:Ad) (x1:TX) (x2:Ad) (x3:Int),
  zr (eC k qw.u3.c) [0, 1, 4, 6] j (za [(0, .ptr (some x0)), (1, .str x1), (4, .ptr (some x2)), (6, .int .i64 x3)]) K = qw.u4.l k (fun y0 y1=>K .ret (za [(4, .ptr (some y0)), (5, .bool y1)])) (fun y0=>K (.exit 0) (za [(4, .ptr (some y0))])) j x0 x1 x2 x3
 | 0, _, _, _, _=>rfl
 | j + 1, x0, x1, x2, x3=>by
   have h:=qw.u3.ok k x0 x1 x2 x3 (seqK (fun ρ=>zr (eC k qw.u3.c) [0, 1, 4, 6] j ρ K) K)
   simp only [zf, zh, zg, zd, qw.u4.okl k K j] at h
   exact (zo (by kernel_rfl) h).trans (qw.u4.ls k (fun y0 y1=>K .ret (za [(4, .ptr (some y0)), (5, .bool y1)])) (fun y0=>K (.exit 0) (za [(4, .ptr (some y0))])) j x0 x1 x2 x3).symm
theorem qw.u4.ok (k:Nat) (x0:Ad) (x1:TX) (x2:Ad) (x3:Int) (K:KF α) :
  eC k qw.u4.c (za [(0, .ptr (some x0)), (1, .str x1), (4, .ptr (some x2)), (6, .int .i64 x3)]) K =
   qw.u4.f k x0 x1 x2 x3 (fun y0 y1=>K .ret (za [(4, .ptr (some y0)), (5, .bool y1)])) (fun y0=>K (.exit 0) (za [(4, .ptr (some y0))])):=
 jd.trans <| (zp (body:=eC k qw.u3.c) (keep:=[0, 1, 4, 6]) (ρ:=(za [(0, .ptr (some x0)), (1, .str x1), (4, .ptr (some x2)), (6, .int .i64 x3)])) (ρ':=(za [(0, .ptr (some x0)), (1, .str x1), (4, .ptr (some x2)), (6, .int .i64 x3)])) (by kernel_rfl) k K).trans (qw.u4.okl k K k x0 x1 x2 x3)
theorem qw.u5.ok (k:Nat) (x0:Ad) (x1:TX) (x2:Ad) (x3:Int) (K:KF α) :
  eC k qw.u5.c (za [(0, .ptr (some x0)), (1, .str x1), (4, .ptr (some x2)), (6, .int .i64 x3)]) K =
   qw.u5.f k x0 x1 x2 x3 (fun y0=>K .normal (za [(4, .ptr (some y0))])) (fun y0 y1=>K .ret (za [(4, .ptr (some y0)), (5, .bool y1)])):=
 (zm.trans (qw.u4.ok k x0 x1 x2 x3 (jf 0 K))).trans (by kernel_rfl)
theorem qw.u6.ok (k:Nat) (x0:Ad) (x1:TX) (x2:Ad) (K:KF α) :
  eC k qw.u6.c (za [(0, .ptr (some x0)), (1, .str x1), (4, .ptr (some x2))]) K =
   qw.u6.f k x0 x1 x2 (fun y0=>K .normal (za [(4, .ptr (some y0))])) (fun y0 y1=>K .ret (za [(4, .ptr (some y0)), (5, .bool y1)])):=
 (qw.u2.ok k x0 x1 x2 qw.u5.c K).trans
  (congrArg (fun z=>qw.u2.f k x0 x1 x2 z) (funext fun y0=>(funext fun y1=>(funext fun y2=>(funext fun y3=>qw.u5.ok k y0 y1 y2 y3 K)))))
theorem qw.u7.ok (k:Nat) (x0:Ad) (K:KF α) :
  eC k qw.u7.c (za [(4, .ptr (some x0))]) K =
   qw.u7.f k x0 (fun y0 y1=>K .ret (za [(4, .ptr (some y0)), (5, .bool y1)])):=by kernel_rfl
theorem qw.u8.ok (k:Nat) (x0:Ad) (x1:TX) (x2:Ad) (K:KF α) :
  eC k qw.u8.c (za [(0, .ptr (some x0)), (1, .str x1), (4, .ptr (some x2))]) K =
   qw.u8.f k x0 x1 x2 (fun y0 y1=>K .ret (za [(4, .ptr (some y0)), (5, .bool y1)])):=
 by
  have h:=qw.u6.ok k x0 x1 x2 (seqK (fun ρ=>eC k qw.u7.c ρ K) K)
  simp only [zd, zf, zh, zg, qw.u7.ok] at h
  exact zk h
theorem qw.u9.ok (k:Nat) (x0:Ad) (x1:TX) (K:KF α) :
  eC k qw.u9.c (za [(0, .ptr (some x0)), (1, .str x1)]) K =
   qw.u9.f k x0 x1 (fun y0 y1=>K .ret (za [(4, .ptr (some y0)), (5, .bool y1)])):=
 (qw.u1.ok k x0 x1 qw.u8.c K).trans
  (congrArg (fun z=>qw.u1.f k x0 x1 z) (funext fun y0=>(funext fun y1=>(funext fun y2=>qw.u8.ok k y0 y1 y2 K))))
theorem qw.ok (k:Nat) (x0:Ad) (x1:TX) (κ:Res->M α) :
  evF T (env k) k qw.c qw.res [.ptr (some x0), .str x1] κ = qw.f (k + 1) x0 x1 (fun o0 o1 o2=>κ (.ret (.tuple [.agg [.int .i64 o0, .int .i64 o1], .bool o2]))):=
 (qw.u9.ok k x0 x1 (retK T qw.res κ)).trans (by kernel_rfl)
theorem qw.code:qw.c.code = zy Tryd.f63:=by kernel_rfl
noncomputable def qc.c:IC:=qc.u22.c
noncomputable def qc.res:List ResultVar:=[]
theorem qc.u1.ok (k:Nat) (x0:Ad) (x1:Int) (R:IC) (K:KF α) :
  eC k (qc.u1.c R) (za [(0, .ptr (some x0)), (1, .int .i64 x1)]) K =
   qc.u1.f k x0 x1 (fun y0 y1 y2 y3=>eC k R (za [(0, .ptr (some y0)), (1, .int .i64 y1), (4, .ptr (some y2)), (15, .int .i64 y3)]) K):=by kernel_rfl
theorem qc.u2.ok (k:Nat) (x0:Ad) (x1:Int) (x2:Ad) (x3:Int) (R:IC) (K:KF α) :
  eC k (qc.u2.c R) (za [(0, .ptr (some x0)), (1, .int .i64 x1), (4, .ptr (some x2)), (15, .int .i64 x3)]) K =
   qc.u2.f k x0 x1 x2 x3 (fun y0 y1 y2 y3 y4=>eC k R (za [(0, .ptr (some y0)), (1, .int .i64 y1), (4, .ptr (some y2)), (15, .int .i64 y3), (16, .bool y4)]) K):=by kernel_rfl
theorem qc.u3.ok (k:Nat) (x0:Ad) (x1:Int) (x2:Ad) (x3:Int) (x4:Bool) (K:KF α) :
  eC k qc.u3.c (za [(0, .ptr (some x0)), (1, .int .i64 x1), (4, .ptr (some x2)), (15, .int .i64 x3), (16, .bool x4)]) K =
   qc.u3.f k x0 x1 x2 x3 x4 (K .normal (za [])):=by kernel_rfl
theorem qc.u4.ok (k:Nat) (x0:Ad) (x1:Int) (x2:Ad) (x3:Int) (x4:Bool) (R:IC) (K:KF α) :
  eC k (qc.u4.c R) (za [(0, .ptr (some x0)), (1, .int .i64 x1), (4, .ptr (some x2)), (15, .int .i64 x3), (16, .bool x4)]) K =
   qc.u4.f k x0 x1 x2 x3 x4 (fun y0 y1 y2 y3 y4=>eC k R (za [(0, .ptr (some y0)), (1, .int .i64 y1), (4, .ptr (some y2)), (15, .int .i64 y3), (49, .bool y4)]) K):=by kernel_rfl
theorem qc.u5.ok (k:Nat) (x0:Ad) (x1:Int) (x2:Ad) (x3:Int) (x4:Bool) (K:KF α) :
  eC k qc.u5.c (za [(0, .ptr (some x0)), (1, .int .i64 x1), (4, .ptr (some x2)), (15, .int .i64 x3), (49, .bool x4)]) K =
   qc.u5.f k (qc.f k) x0 x1 x2 x3 x4 (K .normal (za [])):=by kernel_rfl
theorem qc.u6.ok (k:Nat) (x0:Ad) (x1:Int) (x2:Ad) (x3:Int) (x4:Bool) (R:IC) (K:KF α) :
  eC k (qc.u6.c R) (za [(0, .ptr (some x0)), (1, .int .i64 x1), (4, .ptr (some x2)), (15, .int .i64 x3), (49, .bool x4)]) K =
   qc.u6.f k x0 x1 x2 x3 x4 (fun y0 y1 y2 y3 y4=>eC k R (za [(0, .ptr (some y0)), (1, .int .i64 y1), (4, .ptr (some y2)), (15, .int .i64 y3), (83, .bool y4)]) K):=by kernel_rfl
theorem qc.u7.ok (k:Nat) (x0:Ad) (x1:Int) (x2:Ad) (x3:Int) (x4:Bool) (K:KF α) :
  eC k qc.u7.c (za [(0, .ptr (some x0)), (1, .int .i64 x1), (4, .ptr (some x2)), (15, .int .i64 x3), (83, .bool x4)]) K =
   qc.u7.f k (qc.f k) x0 x1 x2 x3 x4 (K .normal (za [])):=by kernel_rfl
theorem qc.u8.ok (k:Nat) (x0:Ad) (x1:Int) (x2:Ad) (x3:Int) (x4:Bool) (R:IC) (K:KF α) :
  eC k (qc.u8.c R) (za [(0, .ptr (some x0)), (1, .int .i64 x1), (4, .ptr (some x2)), (15, .int .i64 x3), (83, .bool x4)]) K =
   qc.u8.f k x0 x1 x2 x3 x4 (fun y0 y1 y2 y3 y4=>eC k R (za [(0, .ptr (some y0)), (1, .int .i64 y1), (4, .ptr (some y2)), (15, .int .i64 y3), (104, .bool y4)]) K):=by kernel_rfl
theorem qc.u9.ok (k:Nat) (x0:Ad) (x1:Int) (x2:Ad) (x3:Int) (x4:Bool) (K:KF α) :
  eC k qc.u9.c (za [(0, .ptr (some x0)), (1, .int .i64 x1), (4, .ptr (some x2)), (15, .int .i64 x3), (104, .bool x4)]) K =
   qc.u9.f k (qc.f k) x0 x1 x2 x3 x4 (K .normal (za [])):=by kernel_rfl
theorem qc.u10.ok (k:Nat) (x0:Ad) (x1:Int) (x2:Ad) (x3:Int) (x4:Bool) (R:IC) (K:KF α) :
  eC k (qc.u10.c R) (za [(0, .ptr (some x0)), (1, .int .i64 x1), (4, .ptr (some x2)), (15, .int .i64 x3), (104, .bool x4)]) K =
   qc.u10.f k x0 x1 x2 x3 x4 (fun y0 y1 y2 y3=>eC k R (za [(0, .ptr (some y0)), (1, .int .i64 y1), (4, .ptr (some y2)), (138, .bool y3)]) K):=by kernel_rfl
theorem qc.u11.ok (k:Nat) (x0:Ad) (x1:Int) (x2:Ad) (x3:Bool) (K:KF α) :
  eC k qc.u11.c (za [(0, .ptr (some x0)), (1, .int .i64 x1), (4, .ptr (some x2)), (138, .bool x3)]) K =
   qc.u11.f k (qc.f k) x0 x1 x2 x3 (K .normal (za [])):=by kernel_rfl
theorem qc.u12.ok (k:Nat) (x0:Ad) (x1:Int) (x2:Ad) (x3:Int) (x4:Bool) (K:KF α) :
  eC k qc.u12.c (za [(0, .ptr (some x0)), (1, .int .i64 x1), (4, .ptr (some x2)), (15, .int .i64 x3), (104, .bool x4)]) K =
   qc.u12.f k (qc.f k) x0 x1 x2 x3 x4 (K .normal (za [])):=
 (qc.u10.ok k x0 x1 x2 x3 x4 qc.u11.c K).trans
  (congrArg (fun z=>qc.u10.f k x0 x1 x2 x3 x4 z) (funext fun y0=>(funext fun y1=>(funext fun y2=>(funext fun y3=>qc.u11.ok k y0 y1 y2 y3 K)))))
theorem qc.u13.ok (k:Nat) (x0:Ad) (x1:Int) (x2:Ad) (x3:Int) (x4:Bool) (K:KF α) :
  eC k qc.u13.c (za [(0, .ptr (some x0)), (1, .int .i64 x1), (4, .ptr (some x2)), (15, .int .i64 x3), (104, .bool x4)]) K =
   qc.u13.f k (qc.f k) x0 x1 x2 x3 x4 (K .normal (za [])):=
 yg (g:=x4) (by kernel_rfl) (qc.u9.ok k x0 x1 x2 x3 x4 K) (qc.u12.ok k x0 x1 x2 x3 x4 K)
theorem qc.u14.ok (k:Nat) (x0:Ad) (x1:Int) (x2:Ad) (x3:Int) (x4:Bool) (K:KF α) :
  eC k qc.u14.c (za [(0, .ptr (some x0)), (1, .int .i64 x1), (4, .ptr (some x2)), (15, .int .i64 x3), (83, .bool x4)]) K =
   qc.u14.f k (qc.f k) x0 x1 x2 x3 x4 (K .normal (za [])):=
 (qc.u8.ok k x0 x1 x2 x3 x4 qc.u13.c K).trans
  (congrArg (fun z=>qc.u8.f k x0 x1 x2 x3 x4 z) (funext fun y0=>(funext fun y1=>(funext fun y2=>(funext fun y3=>(funext fun y4=>qc.u13.ok k y0 y1 y2 y3 y4 K))))))
theorem qc.u15.ok (k:Nat) (x0:Ad) (x1:Int) (x2:Ad) (x3:Int) (x4:Bool) (K:KF α) :
  eC k qc.u15.c (za [(0, .ptr (some x0)), (1, .int .i64 x1), (4, .ptr (some x2)), (15, .int .i64 x3), (83, .bool x4)]) K =
   qc.u15.f k (qc.f k) x0 x1 x2 x3 x4 (K .normal (za [])):=
 yg (g:=x4) (by kernel_rfl) (qc.u7.ok k x0 x1 x2 x3 x4 K) (qc.u14.ok k x0 x1 x2 x3 x4 K)
theorem qc.u16.ok (k:Nat) (x0:Ad) (x1:Int) (x2:Ad) (x3:Int) (x4:Bool) (K:KF α) :
  eC k qc.u16.c (za [(0, .ptr (some x0)), (1, .int .i64 x1), (4, .ptr (some x2)), (15, .int .i64 x3), (49, .bool x4)]) K =
   qc.u16.f k (qc.f k) x0 x1 x2 x3 x4 (K .normal (za [])):=
 (qc.u6.ok k x0 x1 x2 x3 x4 qc.u15.c K).trans
  (congrArg (fun z=>qc.u6.f k x0 x1 x2 x3 x4 z) (funext fun y0=>(funext fun y1=>(funext fun y2=>(funext fun y3=>(funext fun y4=>qc.u15.ok k y0 y1 y2 y3 y4 K))))))
theorem qc.u17.ok (k:Nat) (x0:Ad) (x1:Int) (x2:Ad) (x3:Int) (x4:Bool) (K:KF α) :
  eC k qc.u17.c (za [(0, .ptr (some x0)), (1, .int .i64 x1), (4, .ptr (some x2)), (15, .int .i64 x3), (49, .bool x4)]) K =
   qc.u17.f k (qc.f k) x0 x1 x2 x3 x4 (K .normal (za [])):=
 yg (g:=x4) (by kernel_rfl) (qc.u5.ok k x0 x1 x2 x3 x4 K) (qc.u16.ok k x0 x1 x2 x3 x4 K)
theorem qc.u18.ok (k:Nat) (x0:Ad) (x1:Int) (x2:Ad) (x3:Int) (x4:Bool) (K:KF α) :
  eC k qc.u18.c (za [(0, .ptr (some x0)), (1, .int .i64 x1), (4, .ptr (some x2)), (15, .int .i64 x3), (16, .bool x4)]) K =
   qc.u18.f k (qc.f k) x0 x1 x2 x3 x4 (K .normal (za [])):=
 (qc.u4.ok k x0 x1 x2 x3 x4 qc.u17.c K).trans
  (congrArg (fun z=>qc.u4.f k x0 x1 x2 x3 x4 z) (funext fun y0=>(funext fun y1=>(funext fun y2=>(funext fun y3=>(funext fun y4=>qc.u17.ok k y0 y1 y2 y3 y4 K))))))
theorem qc.u19.ok (k:Nat) (x0:Ad) (x1:Int) (x2:Ad) (x3:Int) (x4:Bool) (K:KF α) :
  eC k qc.u19.c (za [(0, .ptr (some x0)), (1, .int .i64 x1), (4, .ptr (some x2)), (15, .int .i64 x3), (16, .bool x4)]) K =
   qc.u19.f k (qc.f k) x0 x1 x2 x3 x4 (K .normal (za [])):=
 yg (g:=x4) (by kernel_rfl) (qc.u3.ok k x0 x1 x2 x3 x4 K) (qc.u18.ok k x0 x1 x2 x3 x4 K)
theorem qc.u20.ok (k:Nat) (x0:Ad) (x1:Int) (x2:Ad) (x3:Int) (K:KF α) :
  eC k qc.u20.c (za [(0, .ptr (some x0)), (1, .int .i64 x1), (4, .ptr (some x2)), (15, .int .i64 x3)]) K =
   qc.u20.f k (qc.f k) x0 x1 x2 x3 (K .normal (za [])):=
 (qc.u2.ok k x0 x1 x2 x3 qc.u19.c K).trans
  (congrArg (fun z=>qc.u2.f k x0 x1 x2 x3 z) (funext fun y0=>(funext fun y1=>(funext fun y2=>(funext fun y3=>(funext fun y4=>qc.u19.ok k y0 y1 y2 y3 y4 K))))))
theorem qc.u21.ok (k:Nat) (x0:Ad) (x1:Int) (x2:Ad) (x3:Int) (K:KF α) :
  eC k qc.u21.c (za [(0, .ptr (some x0)), (1, .int .i64 x1), (4, .ptr (some x2)), (15, .int .i64 x3)]) K =
   qc.u21.f k (qc.f k) x0 x1 x2 x3 (K .normal (za [])):=
 (zm.trans (qc.u20.ok k x0 x1 x2 x3 (jf 0 K))).trans (by kernel_rfl)
theorem qc.u22.ok (k:Nat) (x0:Ad) (x1:Int) (K:KF α) :
  eC k qc.u22.c (za [(0, .ptr (some x0)), (1, .int .i64 x1)]) K =
   qc.u22.f k (qc.f k) x0 x1 (K .normal (za [])):=
 (qc.u1.ok k x0 x1 qc.u21.c K).trans
  (congrArg (fun z=>qc.u1.f k x0 x1 z) (funext fun y0=>(funext fun y1=>(funext fun y2=>(funext fun y3=>qc.u21.ok k y0 y1 y2 y3 K)))))
theorem qc.ok (k:Nat) (x0:Ad) (x1:Int) (κ:Res->M α) :
  evF T (env k) k qc.c qc.res [.ptr (some x0), .int .i64 x1] κ = qc.f (k + 1) x0 x1 (κ (.ret (.tuple []))):=
 (qc.u22.ok k x0 x1 (retK T qc.res κ)).trans (by kernel_rfl)
theorem qc.code:qc.c.code = zy Tryd.f49:=by kernel_rfl
noncomputable def qac.c:IC:=qac.u9.c
noncomputable def qac.res:List ResultVar:=[(.tmp 2)]
theorem qac.u1.ok (k:Nat) (x0:Sl) (R:IC) (K:KF α) :
  eC k (qac.u1.c R) (fr25 x0) K =
   qac.u1.f k x0 (fun y0 y1=>eC k R (za [(0, .slice y0), (3, .ptr (some y1))]) K):=by kernel_rfl
theorem qac.u2.ok (k:Nat) (x0:Sl) (x1:Ad) (R:IC) (K:KF α) :
  eC k (qac.u2.c R) (za [(0, .slice x0), (3, .ptr (some x1))]) K =
   qac.u2.f k x0 x1 (fun y0 y1 y2 y3=>eC k R (za [(0, .slice y0), (3, .ptr (some y1)), (21, .int .i64 y2), (22, .int .i64 y3)]) K):=by kernel_rfl
theorem qac.u3.ok (k:Nat) (x0:Sl) (x1:Ad) (x2 x3:Int) (K:KF α) :
  eC k qac.u3.c (za [(0, .slice x0), (3, .ptr (some x1)), (21, .int .i64 x2), (22, .int .i64 x3)]) K =
   qac.u3.f k x0 x1 x2 x3 (fun y0 y1 y2 y3=>K .normal (za [(0, .slice y0), (3, .ptr (some y1)), (21, .int .i64 y2), (22, .int .i64 y3)])) (fun y0 y1=>K (.exit 0) (za [(0, .slice y0), (3, .ptr (some y1))])):=by kernel_rfl
theorem qac.u4.ls (k:Nat) (kx0:Sl->Ad->M α) (j:Nat) (x0:Sl) (x1:Ad) (x2 x3:Int):qac.u4.l k kx0 (j + 1) x0 x1 x2 x3 =
 qac.u3.f k x0 x1 x2 x3 (fun y0 y1 y2 y3=>qac.u4.l k kx0 j y0 y1 y2 y3) kx0:=rfl
theorem qac.u4.okl (k:Nat) (K:KF α):∀ (j:Nat) (x0:Sl) (x1:Ad) (x2 x3:Int),
  zr (eC k qac.u3.c) [0, 3, 21, 22] j (za [(0, .slice x0), (3, .ptr (some x1)), (21, .int .i64 x2), (22, .int .i64 x3)]) K = qac.u4.l k (fun y0 y1=>K (.exit 0) (za [(0, .slice y0), (3, .ptr (some y1))])) j x0 x1 x2 x3
 | 0, _, _, _, _=>rfl
 | j + 1, x0, x1, x2, x3=>by
   have h:=qac.u3.ok k x0 x1 x2 x3 (seqK (fun ρ=>zr (eC k qac.u3.c) [0, 3, 21, 22] j ρ K) K)
   simp only [zf, zh, zg, zd, qac.u4.okl k K j] at h
   exact (zo (by kernel_rfl) h).trans (qac.u4.ls k (fun y0 y1=>K (.exit 0) (za [(0, .slice y0), (3, .ptr (some y1))])) j x0 x1 x2 x3).symm
theorem qac.u4.ok (k:Nat) (x0:Sl) (x1:Ad) (x2 x3:Int) (K:KF α) :
  eC k qac.u4.c (za [(0, .slice x0), (3, .ptr (some x1)), (21, .int .i64 x2), (22, .int .i64 x3)]) K =
   qac.u4.f k x0 x1 x2 x3 (fun y0 y1=>K (.exit 0) (za [(0, .slice y0), (3, .ptr (some y1))])):=
 jd.trans <| (zp (body:=eC k qac.u3.c) (keep:=[0, 3, 21, 22]) (ρ:=(za [(0, .slice x0), (3, .ptr (some x1)), (21, .int .i64 x2), (22, .int .i64 x3)])) (ρ':=(za [(0, .slice x0), (3, .ptr (some x1)), (21, .int .i64 x2), (22, .int .i64 x3)])) (by kernel_rfl) k K).trans (qac.u4.okl k K k x0 x1 x2 x3)
theorem qac.u5.ok (k:Nat) (x0:Sl) (x1:Ad) (x2 x3:Int) (K:KF α) :
  eC k qac.u5.c (za [(0, .slice x0), (3, .ptr (some x1)), (21, .int .i64 x2), (22, .int .i64 x3)]) K =
   qac.u5.f k x0 x1 x2 x3 (fun y0 y1=>K .normal (za [(0, .slice y0), (3, .ptr (some y1))])):=
 (zm.trans (qac.u4.ok k x0 x1 x2 x3 (jf 0 K))).trans (by kernel_rfl)
theorem qac.u6.ok (k:Nat) (x0:Sl) (x1:Ad) (K:KF α) :
  eC k qac.u6.c (za [(0, .slice x0), (3, .ptr (some x1))]) K =
   qac.u6.f k x0 x1 (fun y0 y1=>K .normal (za [(0, .slice y0), (3, .ptr (some y1))])):=
 (qac.u2.ok k x0 x1 qac.u5.c K).trans
  (congrArg (fun z=>qac.u2.f k x0 x1 z) (funext fun y0=>(funext fun y1=>(funext fun y2=>(funext fun y3=>qac.u5.ok k y0 y1 y2 y3 K)))))
theorem qac.u7.ok (k:Nat) (x0:Sl) (x1:Ad) (K:KF α) :
  eC k qac.u7.c (za [(0, .slice x0), (3, .ptr (some x1))]) K =
   qac.u7.f k x0 x1 (fun y0=>K .ret (za [(2, .ptr (some y0))])):=by kernel_rfl
theorem qac.u8.ok (k:Nat) (x0:Sl) (x1:Ad) (K:KF α) :
  eC k qac.u8.c (za [(0, .slice x0), (3, .ptr (some x1))]) K =
   qac.u8.f k x0 x1 (fun y0=>K .ret (za [(2, .ptr (some y0))])):=
 by
  have h:=qac.u6.ok k x0 x1 (seqK (fun ρ=>eC k qac.u7.c ρ K) K)
  simp only [zd, zf, zh, zg, qac.u7.ok] at h
  exact zk h
theorem qac.u9.ok (k:Nat) (x0:Sl) (K:KF α) :
  eC k qac.u9.c (fr25 x0) K =
   qac.u9.f k x0 (fun y0=>K .ret (za [(2, .ptr (some y0))])):=
 (qac.u1.ok k x0 qac.u8.c K).trans
  (congrArg (fun z=>qac.u1.f k x0 z) (funext fun y0=>(funext fun y1=>qac.u8.ok k y0 y1 K)))
theorem qac.ok (k:Nat) (x0:Sl) (κ:Res->M α) :
  evF T (env k) k qac.c qac.res [.slice x0] κ = qac.f (k + 1) x0 (fun o0=>κ (.ret (.ptr (some o0)))):=
 (qac.u9.ok k x0 (retK T qac.res κ)).trans (by kernel_rfl)
theorem qac.code:qac.c.code = zy Tryd.f30:=by kernel_rfl
noncomputable def qaz.c:IC:=qaz.u1.c
noncomputable def qaz.res:List ResultVar:=[(.tmp 2)]
theorem qaz.u1.ok (k:Nat) (x0 x1 x2:Int) (x3:TX) (x4:Int) (K:KF α) :
  eC k qaz.u1.c (za [(0, .agg [.int .i64 x0, .int .i64 x1, .int .i64 x2, .str x3, .int .i64 x4])]) K =
   qaz.u1.f k x0 x1 x2 x3 x4 (fun y0=>K .ret (fr18 y0)):=by kernel_rfl
theorem qaz.ok (k:Nat) (x0 x1 x2:Int) (x3:TX) (x4:Int) (κ:Res->M α) :
  evF T (env k) k qaz.c qaz.res [.agg [.int .i64 x0, .int .i64 x1, .int .i64 x2, .str x3, .int .i64 x4]] κ = qaz.f (k + 1) x0 x1 x2 x3 x4 (fun o0=>κ (.ret (.bool o0))):=
 (qaz.u1.ok k x0 x1 x2 x3 x4 (retK T qaz.res κ)).trans (by kernel_rfl)
theorem qaz.code:qaz.c.code = zy Tryd.f59:=by kernel_rfl
noncomputable def qa.c:IC:=qa.u29.c
noncomputable def qa.res:List ResultVar:=[(.tmp 2), (.tmp 3)]
theorem qa.u1.ok (k:Nat) (x0:Sl) (R:IC) (K:KF α) :
  eC k (qa.u1.c R) (fr25 x0) K =
   qa.u1.f k x0 (fun y0 y1 y2=>eC k R (za [(0, .slice y0), (4, .ptr (some y1)), (5, .map y2)]) K) (fun y0 y1=>K .ret (fr36 y0 y1)):=by kernel_rfl
theorem qa.u2.ok (k:Nat) (x0:Sl) (x1:Ad) (x2:Option Nat) (R:IC) (K:KF α) :
  eC k (qa.u2.c R) (za [(0, .slice x0), (4, .ptr (some x1)), (5, .map x2)]) K =
   qa.u2.f k x0 x1 x2 (fun y0 y1 y2 y3 y4=>eC k R (za [(4, .ptr (some y0)), (5, .map y1), (14, .slice y2), (15, .int .i64 y3), (16, .int .i64 y4)]) K):=by kernel_rfl
theorem qa.u3.ok (k:Nat) (x0:Ad) (x1:Option Nat) (x2:Sl) (x3 x4:Int) (R:IC) (K:KF α) :
  eC k (qa.u3.c R) (za [(4, .ptr (some x0)), (5, .map x1), (14, .slice x2), (15, .int .i64 x3), (16, .int .i64 x4)]) K =
   qa.u3.f k x0 x1 x2 x3 x4 (fun y0 y1 y2 y3 y4=>eC k R (za [(4, .ptr (some y0)), (5, .map y1), (14, .slice y2), (15, .int .i64 y3), (16, .int .i64 y4)]) K) (K (.exit 0) (za [])):=by kernel_rfl
theorem qa.u4.ok (k:Nat) (x0:Ad) (x1:Option Nat) (x2:Sl) (x3 x4:Int) (R:IC) (K:KF α) :
  eC k (qa.u4.c R) (za [(4, .ptr (some x0)), (5, .map x1), (14, .slice x2), (15, .int .i64 x3), (16, .int .i64 x4)]) K =
   qa.u4.f k x0 x1 x2 x3 x4 (fun y0 y1 y2 y3 y4 y5 y6=>eC k R (za [(4, .ptr (some y0)), (5, .map y1), (6, .int .i64 y2), (7, .ptr (some y3)), (14, .slice y4), (15, .int .i64 y5), (16, .int .i64 y6)]) K):=by kernel_rfl
theorem qa.u5.ok (k:Nat) (x0:Ad) (x1:Option Nat) (x2:Int) (x3:Ad) (x4:Sl) (x5 x6:Int) (R:IC) (K:KF α) :
  eC k (qa.u5.c R) (za [(4, .ptr (some x0)), (5, .map x1), (6, .int .i64 x2), (7, .ptr (some x3)), (14, .slice x4), (15, .int .i64 x5), (16, .int .i64 x6)]) K =
   qa.u5.f k x0 x1 x2 x3 x4 x5 x6 (fun y0 y1 y2 y3 y4 y5 y6 y7=>eC k R (za [(4, .ptr (some y0)), (5, .map y1), (6, .int .i64 y2), (7, .ptr (some y3)), (14, .slice y4), (15, .int .i64 y5), (16, .int .i64 y6), (21, .bool y7)]) K):=by kernel_rfl
theorem qa.u6.ok (k:Nat) (x0:Ad) (x1:Option Nat) (x2:Int) (x3:Ad) (x4:Sl) (x5 x6:Int) (x7:Bool) (K:KF α) :
  eC k qa.u6.c (za [(4, .ptr (some x0)), (5, .map x1), (6, .int .i64 x2), (7, .ptr (some x3)), (14, .slice x4), (15, .int .i64 x5), (16, .int .i64 x6), (21, .bool x7)]) K =
   qa.u6.f k x0 x1 x2 x3 x4 x5 x6 x7 (fun y0 y1=>K .ret (fr36 y0 y1)):=by kernel_rfl
theorem qa.u7.ok (k:Nat) (x0:Ad) (x1:Option Nat) (x2:Int) (x3:Ad) (x4:Sl) (x5 x6:Int) (x7:Bool) (R:IC) (K:KF α) :
  eC k (qa.u7.c R) (za [(4, .ptr (some x0)), (5, .map x1), (6, .int .i64 x2), (7, .ptr (some x3)), (14, .slice x4), (15, .int .i64 x5), (16, .int .i64 x6), (21, .bool x7)]) K =
   qa.u7.f k x0 x1 x2 x3 x4 x5 x6 x7 (fun y0 y1 y2 y3 y4 y5 y6 y7=>eC k R (za [(4, .ptr (some y0)), (5, .map y1), (6, .int .i64 y2), (7, .ptr (some y3)), (14, .slice y4), (15, .int .i64 y5), (16, .int .i64 y6), (36, .bool y7)]) K):=by kernel_rfl
theorem qa.u8.ok (k:Nat) (x0:Ad) (x1:Option Nat) (x2:Int) (x3:Ad) (x4:Sl) (x5 x6:Int) (x7:Bool) (K:KF α) :
  eC k qa.u8.c (za [(4, .ptr (some x0)), (5, .map x1), (6, .int .i64 x2), (7, .ptr (some x3)), (14, .slice x4), (15, .int .i64 x5), (16, .int .i64 x6), (36, .bool x7)]) K =
   qa.u8.f k x0 x1 x2 x3 x4 x5 x6 x7 (fun y0 y1=>K .ret (fr36 y0 y1)):=by kernel_rfl
theorem qa.u9.ok (k:Nat) (x0:Ad) (x1:Option Nat) (x2:Int) (x3:Ad) (x4:Sl) (x5 x6:Int) (x7:Bool) (R:IC) (K:KF α) :
  eC k (qa.u9.c R) (za [(4, .ptr (some x0)), (5, .map x1), (6, .int .i64 x2), (7, .ptr (some x3)), (14, .slice x4), (15, .int .i64 x5), (16, .int .i64 x6), (36, .bool x7)]) K =
   qa.u9.f k x0 x1 x2 x3 x4 x5 x6 x7 (fun y0 y1 y2 y3 y4 y5 y6 y7=>eC k R (za [(4, .ptr (some y0)), (5, .map y1), (6, .int .i64 y2), (7, .ptr (some y3)), (14, .slice y4), (15, .int .i64 y5), (16, .int .i64 y6), (50, .bool y7)]) K):=by kernel_rfl
theorem qa.u10.ok (k:Nat) (x0:Ad) (x1:Option Nat) (x2:Int) (x3:Ad) (x4:Sl) (x5 x6:Int) (x7:Bool) (K:KF α) :
  eC k qa.u10.c (za [(4, .ptr (some x0)), (5, .map x1), (6, .int .i64 x2), (7, .ptr (some x3)), (14, .slice x4), (15, .int .i64 x5), (16, .int .i64 x6), (50, .bool x7)]) K =
   qa.u10.f k x0 x1 x2 x3 x4 x5 x6 x7 (fun y0 y1 y2 y3 y4 y5=>K .normal (za [(4, .ptr (some y0)), (5, .map y1), (7, .ptr (some y2)), (14, .slice y3), (15, .int .i64 y4), (16, .int .i64 y5)])) (fun y0 y1=>K .ret (fr36 y0 y1)):=by kernel_rfl
theorem qa.u11.ok (k:Nat) (x0:Ad) (x1:Option Nat) (x2:Int) (x3:Ad) (x4:Sl) (x5 x6:Int) (x7:Bool) (K:KF α) :
  eC k qa.u11.c (za [(4, .ptr (some x0)), (5, .map x1), (6, .int .i64 x2), (7, .ptr (some x3)), (14, .slice x4), (15, .int .i64 x5), (16, .int .i64 x6), (36, .bool x7)]) K =
   qa.u11.f k x0 x1 x2 x3 x4 x5 x6 x7 (fun y0 y1 y2 y3 y4 y5=>K .normal (za [(4, .ptr (some y0)), (5, .map y1), (7, .ptr (some y2)), (14, .slice y3), (15, .int .i64 y4), (16, .int .i64 y5)])) (fun y0 y1=>K .ret (fr36 y0 y1)):=
 (qa.u9.ok k x0 x1 x2 x3 x4 x5 x6 x7 qa.u10.c K).trans
  (congrArg (fun z=>qa.u9.f k x0 x1 x2 x3 x4 x5 x6 x7 z) (funext fun y0=>(funext fun y1=>(funext fun y2=>(funext fun y3=>(funext fun y4=>(funext fun y5=>(funext fun y6=>(funext fun y7=>qa.u10.ok k y0 y1 y2 y3 y4 y5 y6 y7 K)))))))))
theorem qa.u12.ok (k:Nat) (x0:Ad) (x1:Option Nat) (x2:Int) (x3:Ad) (x4:Sl) (x5 x6:Int) (x7:Bool) (K:KF α) :
  eC k qa.u12.c (za [(4, .ptr (some x0)), (5, .map x1), (6, .int .i64 x2), (7, .ptr (some x3)), (14, .slice x4), (15, .int .i64 x5), (16, .int .i64 x6), (36, .bool x7)]) K =
   qa.u12.f k x0 x1 x2 x3 x4 x5 x6 x7 (fun y0 y1 y2 y3 y4 y5=>K .normal (za [(4, .ptr (some y0)), (5, .map y1), (7, .ptr (some y2)), (14, .slice y3), (15, .int .i64 y4), (16, .int .i64 y5)])) (fun y0 y1=>K .ret (fr36 y0 y1)):=
 yg (g:=x7) (by kernel_rfl) (qa.u8.ok k x0 x1 x2 x3 x4 x5 x6 x7 K) (qa.u11.ok k x0 x1 x2 x3 x4 x5 x6 x7 K)
theorem qa.u13.ok (k:Nat) (x0:Ad) (x1:Option Nat) (x2:Int) (x3:Ad) (x4:Sl) (x5 x6:Int) (x7:Bool) (K:KF α) :
  eC k qa.u13.c (za [(4, .ptr (some x0)), (5, .map x1), (6, .int .i64 x2), (7, .ptr (some x3)), (14, .slice x4), (15, .int .i64 x5), (16, .int .i64 x6), (21, .bool x7)]) K =
   qa.u13.f k x0 x1 x2 x3 x4 x5 x6 x7 (fun y0 y1 y2 y3 y4 y5=>K .normal (za [(4, .ptr (some y0)), (5, .map y1), (7, .ptr (some y2)), (14, .slice y3), (15, .int .i64 y4), (16, .int .i64 y5)])) (fun y0 y1=>K .ret (fr36 y0 y1)):=
 (qa.u7.ok k x0 x1 x2 x3 x4 x5 x6 x7 qa.u12.c K).trans
  (congrArg (fun z=>qa.u7.f k x0 x1 x2 x3 x4 x5 x6 x7 z) (funext fun y0=>(funext fun y1=>(funext fun y2=>(funext fun y3=>(funext fun y4=>(funext fun y5=>(funext fun y6=>(funext fun y7=>qa.u12.ok k y0 y1 y2 y3 y4 y5 y6 y7 K)))))))))
theorem qa.u14.ok (k:Nat) (x0:Ad) (x1:Option Nat) (x2:Int) (x3:Ad) (x4:Sl) (x5 x6:Int) (x7:Bool) (K:KF α) :
  eC k qa.u14.c (za [(4, .ptr (some x0)), (5, .map x1), (6, .int .i64 x2), (7, .ptr (some x3)), (14, .slice x4), (15, .int .i64 x5), (16, .int .i64 x6), (21, .bool x7)]) K =
   qa.u14.f k x0 x1 x2 x3 x4 x5 x6 x7 (fun y0 y1 y2 y3 y4 y5=>K .normal (za [(4, .ptr (some y0)), (5, .map y1), (7, .ptr (some y2)), (14, .slice y3), (15, .int .i64 y4), (16, .int .i64 y5)])) (fun y0 y1=>K .ret (fr36 y0 y1)):=
 yg (g:=x7) (by kernel_rfl) (qa.u6.ok k x0 x1 x2 x3 x4 x5 x6 x7 K) (qa.u13.ok k x0 x1 x2 x3 x4 x5 x6 x7 K)
theorem qa.u15.ok (k:Nat) (x0:Ad) (x1:Option Nat) (x2:Int) (x3:Ad) (x4:Sl) (x5 x6:Int) (K:KF α) :
  eC k qa.u15.c (za [(4, .ptr (some x0)), (5, .map x1), (6, .int .i64 x2), (7, .ptr (some x3)), (14, .slice x4), (15, .int .i64 x5), (16, .int .i64 x6)]) K =
   qa.u15.f k x0 x1 x2 x3 x4 x5 x6 (fun y0 y1 y2 y3 y4 y5=>K .normal (za [(4, .ptr (some y0)), (5, .map y1), (7, .ptr (some y2)), (14, .slice y3), (15, .int .i64 y4), (16, .int .i64 y5)])) (fun y0 y1=>K .ret (fr36 y0 y1)):=
 (qa.u5.ok k x0 x1 x2 x3 x4 x5 x6 qa.u14.c K).trans
  (congrArg (fun z=>qa.u5.f k x0 x1 x2 x3 x4 x5 x6 z) (funext fun y0=>(funext fun y1=>(funext fun y2=>(funext fun y3=>(funext fun y4=>(funext fun y5=>(funext fun y6=>(funext fun y7=>qa.u14.ok k y0 y1 y2 y3 y4 y5 y6 y7 K)))))))))
theorem qa.u16.ok (k:Nat) (x0:Ad) (x1:Option Nat) (x2:Int) (x3:Ad) (x4:Sl) (x5 x6:Int) (K:KF α) :
  eC k qa.u16.c (za [(4, .ptr (some x0)), (5, .map x1), (6, .int .i64 x2), (7, .ptr (some x3)), (14, .slice x4), (15, .int .i64 x5), (16, .int .i64 x6)]) K =
   qa.u16.f k x0 x1 x2 x3 x4 x5 x6 (fun y0 y1 y2 y3 y4 y5=>K .normal (za [(4, .ptr (some y0)), (5, .map y1), (7, .ptr (some y2)), (14, .slice y3), (15, .int .i64 y4), (16, .int .i64 y5)])) (fun y0 y1=>K .ret (fr36 y0 y1)):=
 (zm.trans (qa.u15.ok k x0 x1 x2 x3 x4 x5 x6 (jf 2 K))).trans (by kernel_rfl)
theorem qa.u17.ok (k:Nat) (x0:Ad) (x1:Option Nat) (x2:Ad) (x3:Sl) (x4 x5:Int) (K:KF α) :
  eC k qa.u17.c (za [(4, .ptr (some x0)), (5, .map x1), (7, .ptr (some x2)), (14, .slice x3), (15, .int .i64 x4), (16, .int .i64 x5)]) K =
   qa.u17.f k x0 x1 x2 x3 x4 x5 (fun y0 y1 y2 y3 y4=>K .normal (za [(4, .ptr (some y0)), (5, .map y1), (14, .slice y2), (15, .int .i64 y3), (16, .int .i64 y4)])):=by kernel_rfl
theorem qa.u18.ok (k:Nat) (x0:Ad) (x1:Option Nat) (x2:Int) (x3:Ad) (x4:Sl) (x5 x6:Int) (K:KF α) :
  eC k qa.u18.c (za [(4, .ptr (some x0)), (5, .map x1), (6, .int .i64 x2), (7, .ptr (some x3)), (14, .slice x4), (15, .int .i64 x5), (16, .int .i64 x6)]) K =
   qa.u18.f k x0 x1 x2 x3 x4 x5 x6 (fun y0 y1 y2 y3 y4=>K .normal (za [(4, .ptr (some y0)), (5, .map y1), (14, .slice y2), (15, .int .i64 y3), (16, .int .i64 y4)])) (fun y0 y1=>K .ret (fr36 y0 y1)):=
 by
  have h:=qa.u16.ok k x0 x1 x2 x3 x4 x5 x6 (seqK (fun ρ=>eC k qa.u17.c ρ K) K)
  simp only [zd, zf, zh, zg, qa.u17.ok] at h
  exact zk h
theorem qa.u19.ok (k:Nat) (x0:Ad) (x1:Option Nat) (x2:Sl) (x3 x4:Int) (K:KF α) :
  eC k qa.u19.c (za [(4, .ptr (some x0)), (5, .map x1), (14, .slice x2), (15, .int .i64 x3), (16, .int .i64 x4)]) K =
   qa.u19.f k x0 x1 x2 x3 x4 (fun y0 y1 y2 y3 y4=>K .normal (za [(4, .ptr (some y0)), (5, .map y1), (14, .slice y2), (15, .int .i64 y3), (16, .int .i64 y4)])) (fun y0 y1=>K .ret (fr36 y0 y1)):=
 (qa.u4.ok k x0 x1 x2 x3 x4 qa.u18.c K).trans
  (congrArg (fun z=>qa.u4.f k x0 x1 x2 x3 x4 z) (funext fun y0=>(funext fun y1=>(funext fun y2=>(funext fun y3=>(funext fun y4=>(funext fun y5=>(funext fun y6=>qa.u18.ok k y0 y1 y2 y3 y4 y5 y6 K))))))))
theorem qa.u20.ok (k:Nat) (x0:Ad) (x1:Option Nat) (x2:Sl) (x3 x4:Int) (K:KF α) :
  eC k qa.u20.c (za [(4, .ptr (some x0)), (5, .map x1), (14, .slice x2), (15, .int .i64 x3), (16, .int .i64 x4)]) K =
   qa.u20.f k x0 x1 x2 x3 x4 (fun y0 y1 y2 y3 y4=>K .normal (za [(4, .ptr (some y0)), (5, .map y1), (14, .slice y2), (15, .int .i64 y3), (16, .int .i64 y4)])) (fun y0 y1=>K .ret (fr36 y0 y1)):=
 (zm.trans (qa.u19.ok k x0 x1 x2 x3 x4 (jf 1 K))).trans (by kernel_rfl)
theorem qa.u21.ok (k:Nat) (x0:Ad) (x1:Option Nat) (x2:Sl) (x3 x4:Int) (K:KF α) :
  eC k qa.u21.c (za [(4, .ptr (some x0)), (5, .map x1), (14, .slice x2), (15, .int .i64 x3), (16, .int .i64 x4)]) K =
   qa.u21.f k x0 x1 x2 x3 x4 (fun y0 y1 y2 y3 y4=>K .normal (za [(4, .ptr (some y0)), (5, .map y1), (14, .slice y2), (15, .int .i64 y3), (16, .int .i64 y4)])):=by kernel_rfl
theorem qa.u22.ok (k:Nat) (x0:Ad) (x1:Option Nat) (x2:Sl) (x3 x4:Int) (K:KF α) :
  eC k qa.u22.c (za [(4, .ptr (some x0)), (5, .map x1), (14, .slice x2), (15, .int .i64 x3), (16, .int .i64 x4)]) K =
   qa.u22.f k x0 x1 x2 x3 x4 (fun y0 y1 y2 y3 y4=>K .normal (za [(4, .ptr (some y0)), (5, .map y1), (14, .slice y2), (15, .int .i64 y3), (16, .int .i64 y4)])) (fun y0 y1=>K .ret (fr36 y0 y1)):=
 by
  have h:=qa.u20.ok k x0 x1 x2 x3 x4 (seqK (fun ρ=>eC k qa.u21.c ρ K) K)
  simp only [zd, zf, zh, zg, qa.u21.ok] at h
  exact zk h
theorem qa.u23.ok (k:Nat) (x0:Ad) (x1:Option Nat) (x2:Sl) (x3 x4:Int) (K:KF α) :
  eC k qa.u23.c (za [(4, .ptr (some x0)), (5, .map x1), (14, .slice x2), (15, .int .i64 x3), (16, .int .i64 x4)]) K =
   qa.u23.f k x0 x1 x2 x3 x4 (fun y0 y1 y2 y3 y4=>K .normal (za [(4, .ptr (some y0)), (5, .map y1), (14, .slice y2), (15, .int .i64 y3), (16, .int .i64 y4)])) (fun y0 y1=>K .ret (fr36 y0 y1)) (K (.exit 0) (za [])):=
 (qa.u3.ok k x0 x1 x2 x3 x4 qa.u22.c K).trans
  (congrArg (fun z=>qa.u3.f k x0 x1 x2 x3 x4 z (K (.exit 0) (za []))) (funext fun y0=>(funext fun y1=>(funext fun y2=>(funext fun y3=>(funext fun y4=>qa.u22.ok k y0 y1 y2 y3 y4 K))))))
theorem qa.u24.ls (k:Nat) (kr:Int->Int->M α) (kx0:M α) (j:Nat) (x0:Ad) (x1:Option Nat) (x2:Sl) (x3 x4:Int):qa.u24.l k kr kx0 (j + 1) x0 x1 x2 x3 x4 =
 qa.u23.f k x0 x1 x2 x3 x4 (fun y0 y1 y2 y3 y4=>qa.u24.l k kr kx0 j y0 y1 y2 y3 y4) kr kx0:=rfl
theorem qa.u24.okl (k:Nat) (K:KF α):∀ (j:Nat) (x0:Ad) (x1:Option Nat) (x2:Sl) (x3 x4:Int),
  zr (eC k qa.u23.c) [4, 5, 14, 15, 16] j (za [(4, .ptr (some x0)), (5, .map x1), (14, .slice x2), (15, .int .i64 x3), (16, .int .i64 x4)]) K = qa.u24.l k (fun y0 y1=>K .ret (fr36 y0 y1)) (K (.exit 0) (za [])) j x0 x1 x2 x3 x4
 | 0, _, _, _, _, _=>rfl
 | j + 1, x0, x1, x2, x3, x4=>by
   have h:=qa.u23.ok k x0 x1 x2 x3 x4 (seqK (fun ρ=>zr (eC k qa.u23.c) [4, 5, 14, 15, 16] j ρ K) K)
   simp only [zf, zh, zg, zd, qa.u24.okl k K j] at h
   exact (zo (by kernel_rfl) h).trans (qa.u24.ls k (fun y0 y1=>K .ret (fr36 y0 y1)) (K (.exit 0) (za [])) j x0 x1 x2 x3 x4).symm
theorem qa.u24.ok (k:Nat) (x0:Ad) (x1:Option Nat) (x2:Sl) (x3 x4:Int) (K:KF α) :
  eC k qa.u24.c (za [(4, .ptr (some x0)), (5, .map x1), (14, .slice x2), (15, .int .i64 x3), (16, .int .i64 x4)]) K =
   qa.u24.f k x0 x1 x2 x3 x4 (fun y0 y1=>K .ret (fr36 y0 y1)) (K (.exit 0) (za [])):=
 jd.trans <| (zp (body:=eC k qa.u23.c) (keep:=[4, 5, 14, 15, 16]) (ρ:=(za [(4, .ptr (some x0)), (5, .map x1), (14, .slice x2), (15, .int .i64 x3), (16, .int .i64 x4)])) (ρ':=(za [(4, .ptr (some x0)), (5, .map x1), (14, .slice x2), (15, .int .i64 x3), (16, .int .i64 x4)])) (by kernel_rfl) k K).trans (qa.u24.okl k K k x0 x1 x2 x3 x4)
theorem qa.u25.ok (k:Nat) (x0:Ad) (x1:Option Nat) (x2:Sl) (x3 x4:Int) (K:KF α) :
  eC k qa.u25.c (za [(4, .ptr (some x0)), (5, .map x1), (14, .slice x2), (15, .int .i64 x3), (16, .int .i64 x4)]) K =
   qa.u25.f k x0 x1 x2 x3 x4 (K .normal (za [])) (fun y0 y1=>K .ret (fr36 y0 y1)):=
 (zm.trans (qa.u24.ok k x0 x1 x2 x3 x4 (jf 0 K))).trans (by kernel_rfl)
theorem qa.u26.ok (k:Nat) (x0:Sl) (x1:Ad) (x2:Option Nat) (K:KF α) :
  eC k qa.u26.c (za [(0, .slice x0), (4, .ptr (some x1)), (5, .map x2)]) K =
   qa.u26.f k x0 x1 x2 (K .normal (za [])) (fun y0 y1=>K .ret (fr36 y0 y1)):=
 (qa.u2.ok k x0 x1 x2 qa.u25.c K).trans
  (congrArg (fun z=>qa.u2.f k x0 x1 x2 z) (funext fun y0=>(funext fun y1=>(funext fun y2=>(funext fun y3=>(funext fun y4=>qa.u25.ok k y0 y1 y2 y3 y4 K))))))
theorem qa.u27.ok (k:Nat) (K:KF α) :
  eC k qa.u27.c (za []) K =
   qa.u27.f k (fun y0 y1=>K .ret (fr36 y0 y1)):=by kernel_rfl
theorem qa.u28.ok (k:Nat) (x0:Sl) (x1:Ad) (x2:Option Nat) (K:KF α) :
  eC k qa.u28.c (za [(0, .slice x0), (4, .ptr (some x1)), (5, .map x2)]) K =
   qa.u28.f k x0 x1 x2 (fun y0 y1=>K .ret (fr36 y0 y1)):=
 by
  have h:=qa.u26.ok k x0 x1 x2 (seqK (fun ρ=>eC k qa.u27.c ρ K) K)
  simp only [zd, zf, zh, zg, qa.u27.ok] at h
  exact zk h
theorem qa.u29.ok (k:Nat) (x0:Sl) (K:KF α) :
  eC k qa.u29.c (fr25 x0) K =
   qa.u29.f k x0 (fun y0 y1=>K .ret (fr36 y0 y1)):=
 (qa.u1.ok k x0 qa.u28.c K).trans
  (congrArg (fun z=>qa.u1.f k x0 z (fun y0 y1=>K .ret (fr36 y0 y1))) (funext fun y0=>(funext fun y1=>(funext fun y2=>qa.u28.ok k y0 y1 y2 K))))
theorem qa.ok (k:Nat) (x0:Sl) (κ:Res->M α) :
  evF T (env k) k qa.c qa.res [.slice x0] κ = qa.f (k + 1) x0 (fun o0 o1=>κ (.ret (.tuple [.int .i64 o0, .int .i64 o1]))):=
 (qa.u29.ok k x0 (retK T qa.res κ)).trans (by kernel_rfl)
theorem qa.code:qa.c.code = zy Tryd.f44:=by kernel_rfl
noncomputable def qs.c:IC:=qs.u9.c
noncomputable def qs.res:List ResultVar:=[(.tmp 2)]
theorem qs.u1.ok (k:Nat) (x0:Sl) (R:IC) (K:KF α) :
  eC k (qs.u1.c R) (fr25 x0) K =
   qs.u1.f k x0 (fun y0=>eC k R (fr35 y0) K):=by kernel_rfl
theorem qs.u2.ok (k:Nat) (x0:Sl) (R:IC) (K:KF α) :
  eC k (qs.u2.c R) (fr35 x0) K =
   qs.u2.f k x0 (fun y0 y1 y2=>eC k R (fr37 y0 y1 y2) K):=by kernel_rfl
theorem qs.u3.ok (k:Nat) (x0:Sl) (x1 x2:Int) (K:KF α) :
  eC k qs.u3.c (fr37 x0 x1 x2) K =
   qs.u3.f k x0 x1 x2 (fun y0 y1 y2=>K .normal (fr37 y0 y1 y2)) (fun y0=>K (.exit 0) (fr35 y0)):=by kernel_rfl
theorem qs.u4.ls (k:Nat) (kx0:Sl->M α) (j:Nat) (x0:Sl) (x1 x2:Int):qs.u4.l k kx0 (j + 1) x0 x1 x2 =
 qs.u3.f k x0 x1 x2 (fun y0 y1 y2=>qs.u4.l k kx0 j y0 y1 y2) kx0:=rfl
theorem qs.u4.okl (k:Nat) (K:KF α):∀ (j:Nat) (x0:Sl) (x1 x2:Int),
  zr (eC k qs.u3.c) [3, 10, 11] j (fr37 x0 x1 x2) K = qs.u4.l k (fun y0=>K (.exit 0) (fr35 y0)) j x0 x1 x2
 | 0, _, _, _=>rfl
 | j + 1, x0, x1, x2=>by
   have h:=qs.u3.ok k x0 x1 x2 (seqK (fun ρ=>zr (eC k qs.u3.c) [3, 10, 11] j ρ K) K)
   simp only [zf, zh, zg, zd, qs.u4.okl k K j] at h
   exact (zo (by kernel_rfl) h).trans (qs.u4.ls k (fun y0=>K (.exit 0) (fr35 y0)) j x0 x1 x2).symm
theorem qs.u4.ok (k:Nat) (x0:Sl) (x1 x2:Int) (K:KF α) :
  eC k qs.u4.c (fr37 x0 x1 x2) K =
   qs.u4.f k x0 x1 x2 (fun y0=>K (.exit 0) (fr35 y0)):=
 jd.trans <| (zp (body:=eC k qs.u3.c) (keep:=[3, 10, 11]) (ρ:=(fr37 x0 x1 x2)) (ρ':=(fr37 x0 x1 x2)) (by kernel_rfl) k K).trans (qs.u4.okl k K k x0 x1 x2)
theorem qs.u5.ok (k:Nat) (x0:Sl) (x1 x2:Int) (K:KF α) :
  eC k qs.u5.c (fr37 x0 x1 x2) K =
   qs.u5.f k x0 x1 x2 (fun y0=>K .normal (fr35 y0)):=
 (zm.trans (qs.u4.ok k x0 x1 x2 (jf 0 K))).trans (by kernel_rfl)
theorem qs.u6.ok (k:Nat) (x0:Sl) (K:KF α) :
  eC k qs.u6.c (fr35 x0) K =
   qs.u6.f k x0 (fun y0=>K .normal (fr35 y0)):=
 (qs.u2.ok k x0 qs.u5.c K).trans
  (congrArg (fun z=>qs.u2.f k x0 z) (funext fun y0=>(funext fun y1=>(funext fun y2=>qs.u5.ok k y0 y1 y2 K))))
theorem qs.u7.ok (k:Nat) (x0:Sl) (K:KF α) :
  eC k qs.u7.c (fr35 x0) K =
   qs.u7.f k x0 (fun y0=>K .ret (fr18 y0)):=by kernel_rfl
theorem qs.u8.ok (k:Nat) (x0:Sl) (K:KF α) :
  eC k qs.u8.c (fr35 x0) K =
   qs.u8.f k x0 (fun y0=>K .ret (fr18 y0)):=
 by
  have h:=qs.u6.ok k x0 (seqK (fun ρ=>eC k qs.u7.c ρ K) K)
  simp only [zd, zf, zh, zg, qs.u7.ok] at h
  exact zk h
theorem qs.u9.ok (k:Nat) (x0:Sl) (K:KF α) :
  eC k qs.u9.c (fr25 x0) K =
   qs.u9.f k x0 (fun y0=>K .ret (fr18 y0)):=
 (qs.u1.ok k x0 qs.u8.c K).trans
  (congrArg (fun z=>qs.u1.f k x0 z) (funext fun y0=>qs.u8.ok k y0 K))
theorem qs.ok (k:Nat) (x0:Sl) (κ:Res->M α) :
  evF T (env k) k qs.c qs.res [.slice x0] κ = qs.f (k + 1) x0 (fun o0=>κ (.ret (.bool o0))):=
 (qs.u9.ok k x0 (retK T qs.res κ)).trans (by kernel_rfl)
theorem qs.code:qs.c.code = zy Tryd.f28:=by kernel_rfl
noncomputable def qas.c:IC:=qas.u1.c
noncomputable def qas.res:List ResultVar:=[(.tmp 2)]
theorem qas.u1.ok (k:Nat) (x0:Sl) (K:KF α) :
  eC k qas.u1.c (fr25 x0) K =
   qas.u1.f k x0 (fun y0=>K .ret (fr18 y0)):=by kernel_rfl
theorem qas.ok (k:Nat) (x0:Sl) (κ:Res->M α) :
  evF T (env k) k qas.c qas.res [.slice x0] κ = qas.f (k + 1) x0 (fun o0=>κ (.ret (.bool o0))):=
 (qas.u1.ok k x0 (retK T qas.res κ)).trans (by kernel_rfl)
theorem qas.code:qas.c.code = zy Tryd.f13:=by kernel_rfl
noncomputable def qbg.c:IC:=qbg.u1.c
noncomputable def qbg.res:List ResultVar:=[(.tmp 2)]
theorem qbg.u1.ok (k:Nat) (x0:Sl) (K:KF α) :
  eC k qbg.u1.c (fr25 x0) K =
   qbg.u1.f k x0 (fun y0=>K .ret (fr26 y0)):=by kernel_rfl
theorem qbg.ok (k:Nat) (x0:Sl) (κ:Res->M α) :
  evF T (env k) k qbg.c qbg.res [.slice x0] κ = qbg.f (k + 1) x0 (fun o0=>κ (.ret (.slice o0))):=
 (qbg.u1.ok k x0 (retK T qbg.res κ)).trans (by kernel_rfl)
theorem qbg.code:qbg.c.code = zy Tryd.f15:=by kernel_rfl
noncomputable def qz.c:IC:=qz.u9.c
noncomputable def qz.res:List ResultVar:=[(.tmp 2)]
theorem qz.u1.ok (k:Nat) (x0:Sl) (R:IC) (K:KF α) :
  eC k (qz.u1.c R) (fr25 x0) K =
   qz.u1.f k x0 (fun y0=>eC k R (fr35 y0) K):=by kernel_rfl
theorem qz.u2.ok (k:Nat) (x0:Sl) (R:IC) (K:KF α) :
  eC k (qz.u2.c R) (fr35 x0) K =
   qz.u2.f k x0 (fun y0 y1 y2=>eC k R (fr38 y0 y1 y2) K):=by kernel_rfl
theorem qz.u3.ok (k:Nat) (x0:Sl) (x1 x2:Int) (K:KF α) :
  eC k qz.u3.c (fr38 x0 x1 x2) K =
   qz.u3.f k x0 x1 x2 (fun y0 y1 y2=>K .normal (fr38 y0 y1 y2)) (fun y0=>K (.exit 0) (fr35 y0)):=by kernel_rfl
theorem qz.u4.ls (k:Nat) (kx0:Sl->M α) (j:Nat) (x0:Sl) (x1 x2:Int):qz.u4.l k kx0 (j + 1) x0 x1 x2 =
 qz.u3.f k x0 x1 x2 (fun y0 y1 y2=>qz.u4.l k kx0 j y0 y1 y2) kx0:=rfl
theorem qz.u4.okl (k:Nat) (K:KF α):∀ (j:Nat) (x0:Sl) (x1 x2:Int),
  zr (eC k qz.u3.c) [3, 8, 9] j (fr38 x0 x1 x2) K = qz.u4.l k (fun y0=>K (.exit 0) (fr35 y0)) j x0 x1 x2
 | 0, _, _, _=>rfl
 | j + 1, x0, x1, x2=>by
   have h:=qz.u3.ok k x0 x1 x2 (seqK (fun ρ=>zr (eC k qz.u3.c) [3, 8, 9] j ρ K) K)
   simp only [zf, zh, zg, zd, qz.u4.okl k K j] at h
   exact (zo (by kernel_rfl) h).trans (qz.u4.ls k (fun y0=>K (.exit 0) (fr35 y0)) j x0 x1 x2).symm
theorem qz.u4.ok (k:Nat) (x0:Sl) (x1 x2:Int) (K:KF α) :
  eC k qz.u4.c (fr38 x0 x1 x2) K =
   qz.u4.f k x0 x1 x2 (fun y0=>K (.exit 0) (fr35 y0)):=
 jd.trans <| (zp (body:=eC k qz.u3.c) (keep:=[3, 8, 9]) (ρ:=(fr38 x0 x1 x2)) (ρ':=(fr38 x0 x1 x2)) (by kernel_rfl) k K).trans (qz.u4.okl k K k x0 x1 x2)
theorem qz.u5.ok (k:Nat) (x0:Sl) (x1 x2:Int) (K:KF α) :
  eC k qz.u5.c (fr38 x0 x1 x2) K =
   qz.u5.f k x0 x1 x2 (fun y0=>K .normal (fr35 y0)):=
 (zm.trans (qz.u4.ok k x0 x1 x2 (jf 0 K))).trans (by kernel_rfl)
theorem qz.u6.ok (k:Nat) (x0:Sl) (K:KF α) :
  eC k qz.u6.c (fr35 x0) K =
   qz.u6.f k x0 (fun y0=>K .normal (fr35 y0)):=
 (qz.u2.ok k x0 qz.u5.c K).trans
  (congrArg (fun z=>qz.u2.f k x0 z) (funext fun y0=>(funext fun y1=>(funext fun y2=>qz.u5.ok k y0 y1 y2 K))))
theorem qz.u7.ok (k:Nat) (x0:Sl) (K:KF α) :
  eC k qz.u7.c (fr35 x0) K =
   qz.u7.f k x0 (fun y0=>K .ret (fr26 y0)):=by kernel_rfl
theorem qz.u8.ok (k:Nat) (x0:Sl) (K:KF α) :
  eC k qz.u8.c (fr35 x0) K =
   qz.u8.f k x0 (fun y0=>K .ret (fr26 y0)):=
 by
  have h:=qz.u6.ok k x0 (seqK (fun ρ=>eC k qz.u7.c ρ K) K)
  simp only [zd, zf, zh, zg, qz.u7.ok] at h
  exact zk h
theorem qz.u9.ok (k:Nat) (x0:Sl) (K:KF α) :
  eC k qz.u9.c (fr25 x0) K =
   qz.u9.f k x0 (fun y0=>K .ret (fr26 y0)):=
 (qz.u1.ok k x0 qz.u8.c K).trans
  (congrArg (fun z=>qz.u1.f k x0 z) (funext fun y0=>qz.u8.ok k y0 K))
theorem qz.ok (k:Nat) (x0:Sl) (κ:Res->M α) :
  evF T (env k) k qz.c qz.res [.slice x0] κ = qz.f (k + 1) x0 (fun o0=>κ (.ret (.slice o0))):=
 (qz.u9.ok k x0 (retK T qz.res κ)).trans (by kernel_rfl)
theorem qz.code:qz.c.code = zy Tryd.f23:=by kernel_rfl
noncomputable def qb.c:IC:=qb.u27.c
noncomputable def qb.res:List ResultVar:=[(.tmp 2)]
theorem qb.u1.ok (k:Nat) (x0:Sl) (R:IC) (K:KF α) :
  eC k (qb.u1.c R) (fr25 x0) K =
   qb.u1.f k x0 (fun y0 y1 y2=>eC k R (fr39 y0 y1 y2) K) (fun y0=>K .ret (fr26 y0)):=by kernel_rfl
theorem qb.u2.ok (k:Nat) (x0 x1 x2:Sl) (R:IC) (K:KF α) :
  eC k (qb.u2.c R) (fr39 x0 x1 x2) K =
   qb.u2.f k x0 x1 x2 (fun y0 y1 y2 y3 y4=>eC k R (fr40 y0 y1 y2 y3 y4) K):=by kernel_rfl
theorem qb.u3.ok (k:Nat) (x0 x1 x2:Sl) (x3 x4:Int) (R:IC) (K:KF α) :
  eC k (qb.u3.c R) (fr40 x0 x1 x2 x3 x4) K =
   qb.u3.f k x0 x1 x2 x3 x4 (fun y0 y1 y2 y3 y4=>eC k R (fr40 y0 y1 y2 y3 y4) K) (fun y0=>K (.exit 0) (fr19 y0)):=by kernel_rfl
theorem qb.u4.ok (k:Nat) (x0 x1 x2:Sl) (x3 x4:Int) (R:IC) (K:KF α) :
  eC k (qb.u4.c R) (fr40 x0 x1 x2 x3 x4) K =
   qb.u4.f k x0 x1 x2 x3 x4 (fun y0 y1 y2 y3 y4 y5 y6 y7=>eC k R (za [(3, .slice y0), (4, .slice y1), (5, .int .i64 y2), (6, .ptr (some y3)), (15, .slice y4), (16, .int .i64 y5), (17, .int .i64 y6), (23, .int .i64 y7)]) K):=by kernel_rfl
theorem qb.u5.ok (k:Nat) (x0 x1:Sl) (x2:Int) (x3:Ad) (x4:Sl) (x5 x6 x7:Int) (R:IC) (K:KF α) :
  eC k (qb.u5.c R) (za [(3, .slice x0), (4, .slice x1), (5, .int .i64 x2), (6, .ptr (some x3)), (15, .slice x4), (16, .int .i64 x5), (17, .int .i64 x6), (23, .int .i64 x7)]) K =
   qb.u5.f k x0 x1 x2 x3 x4 x5 x6 x7 (fun y0 y1 y2 y3 y4 y5 y6 y7 y8=>eC k R (za [(3, .slice y0), (4, .slice y1), (5, .int .i64 y2), (6, .ptr (some y3)), (15, .slice y4), (16, .int .i64 y5), (17, .int .i64 y6), (23, .int .i64 y7), (24, .bool y8)]) K):=by kernel_rfl
theorem qb.u6.ok (k:Nat) (x0 x1:Sl) (x2:Int) (x3:Ad) (x4:Sl) (x5 x6 x7:Int) (x8:Bool) (K:KF α) :
  eC k qb.u6.c (za [(3, .slice x0), (4, .slice x1), (5, .int .i64 x2), (6, .ptr (some x3)), (15, .slice x4), (16, .int .i64 x5), (17, .int .i64 x6), (23, .int .i64 x7), (24, .bool x8)]) K =
   qb.u6.f k x0 x1 x2 x3 x4 x5 x6 x7 x8 (fun y0 y1 y2 y3 y4=>K .normal (fr40 y0 y1 y2 y3 y4)):=by kernel_rfl
theorem qb.u7.ok (k:Nat) (x0 x1:Sl) (x2:Int) (x3:Ad) (x4:Sl) (x5 x6 x7:Int) (x8:Bool) (R:IC) (K:KF α) :
  eC k (qb.u7.c R) (za [(3, .slice x0), (4, .slice x1), (5, .int .i64 x2), (6, .ptr (some x3)), (15, .slice x4), (16, .int .i64 x5), (17, .int .i64 x6), (23, .int .i64 x7), (24, .bool x8)]) K =
   qb.u7.f k x0 x1 x2 x3 x4 x5 x6 x7 x8 (fun y0 y1 y2 y3 y4 y5 y6 y7 y8=>eC k R (za [(3, .slice y0), (4, .slice y1), (5, .int .i64 y2), (6, .ptr (some y3)), (15, .slice y4), (16, .int .i64 y5), (17, .int .i64 y6), (23, .int .i64 y7), (34, .bool y8)]) K):=by kernel_rfl
theorem qb.u8.ok (k:Nat) (x0 x1:Sl) (x2:Int) (x3:Ad) (x4:Sl) (x5 x6 x7:Int) (x8:Bool) (K:KF α) :
  eC k qb.u8.c (za [(3, .slice x0), (4, .slice x1), (5, .int .i64 x2), (6, .ptr (some x3)), (15, .slice x4), (16, .int .i64 x5), (17, .int .i64 x6), (23, .int .i64 x7), (34, .bool x8)]) K =
   qb.u8.f k x0 x1 x2 x3 x4 x5 x6 x7 x8 (fun y0 y1 y2 y3 y4=>K .normal (fr40 y0 y1 y2 y3 y4)):=by kernel_rfl
theorem qb.u9.ok (k:Nat) (x0 x1:Sl) (x2:Int) (x3:Ad) (x4:Sl) (x5 x6 x7:Int) (x8:Bool) (R:IC) (K:KF α) :
  eC k (qb.u9.c R) (za [(3, .slice x0), (4, .slice x1), (5, .int .i64 x2), (6, .ptr (some x3)), (15, .slice x4), (16, .int .i64 x5), (17, .int .i64 x6), (23, .int .i64 x7), (34, .bool x8)]) K =
   qb.u9.f k x0 x1 x2 x3 x4 x5 x6 x7 x8 (fun y0 y1 y2 y3 y4 y5 y6 y7 y8=>eC k R (za [(3, .slice y0), (4, .slice y1), (5, .int .i64 y2), (6, .ptr (some y3)), (15, .slice y4), (16, .int .i64 y5), (17, .int .i64 y6), (23, .int .i64 y7), (51, .bool y8)]) K):=by kernel_rfl
theorem qb.u10.ok (k:Nat) (x0 x1:Sl) (x2:Int) (x3:Ad) (x4:Sl) (x5 x6 x7:Int) (x8:Bool) (K:KF α) :
  eC k qb.u10.c (za [(3, .slice x0), (4, .slice x1), (5, .int .i64 x2), (6, .ptr (some x3)), (15, .slice x4), (16, .int .i64 x5), (17, .int .i64 x6), (23, .int .i64 x7), (51, .bool x8)]) K =
   qb.u10.f k x0 x1 x2 x3 x4 x5 x6 x7 x8 (fun y0 y1 y2 y3 y4=>K .normal (fr40 y0 y1 y2 y3 y4)):=by kernel_rfl
theorem qb.u11.ok (k:Nat) (x0 x1:Sl) (x2:Int) (x3:Ad) (x4:Sl) (x5 x6 x7:Int) (x8:Bool) (K:KF α) :
  eC k qb.u11.c (za [(3, .slice x0), (4, .slice x1), (5, .int .i64 x2), (6, .ptr (some x3)), (15, .slice x4), (16, .int .i64 x5), (17, .int .i64 x6), (23, .int .i64 x7), (34, .bool x8)]) K =
   qb.u11.f k x0 x1 x2 x3 x4 x5 x6 x7 x8 (fun y0 y1 y2 y3 y4=>K .normal (fr40 y0 y1 y2 y3 y4)):=
 (qb.u9.ok k x0 x1 x2 x3 x4 x5 x6 x7 x8 qb.u10.c K).trans
  (congrArg (fun z=>qb.u9.f k x0 x1 x2 x3 x4 x5 x6 x7 x8 z) (funext fun y0=>(funext fun y1=>(funext fun y2=>(funext fun y3=>(funext fun y4=>(funext fun y5=>(funext fun y6=>(funext fun y7=>(funext fun y8=>qb.u10.ok k y0 y1 y2 y3 y4 y5 y6 y7 y8 K))))))))))
theorem qb.u12.ok (k:Nat) (x0 x1:Sl) (x2:Int) (x3:Ad) (x4:Sl) (x5 x6 x7:Int) (x8:Bool) (K:KF α) :
  eC k qb.u12.c (za [(3, .slice x0), (4, .slice x1), (5, .int .i64 x2), (6, .ptr (some x3)), (15, .slice x4), (16, .int .i64 x5), (17, .int .i64 x6), (23, .int .i64 x7), (34, .bool x8)]) K =
   qb.u12.f k x0 x1 x2 x3 x4 x5 x6 x7 x8 (fun y0 y1 y2 y3 y4=>K .normal (fr40 y0 y1 y2 y3 y4)):=
 yg (g:=x8) (by kernel_rfl) (qb.u8.ok k x0 x1 x2 x3 x4 x5 x6 x7 x8 K) (qb.u11.ok k x0 x1 x2 x3 x4 x5 x6 x7 x8 K)
theorem qb.u13.ok (k:Nat) (x0 x1:Sl) (x2:Int) (x3:Ad) (x4:Sl) (x5 x6 x7:Int) (x8:Bool) (K:KF α) :
  eC k qb.u13.c (za [(3, .slice x0), (4, .slice x1), (5, .int .i64 x2), (6, .ptr (some x3)), (15, .slice x4), (16, .int .i64 x5), (17, .int .i64 x6), (23, .int .i64 x7), (24, .bool x8)]) K =
   qb.u13.f k x0 x1 x2 x3 x4 x5 x6 x7 x8 (fun y0 y1 y2 y3 y4=>K .normal (fr40 y0 y1 y2 y3 y4)):=
 (qb.u7.ok k x0 x1 x2 x3 x4 x5 x6 x7 x8 qb.u12.c K).trans
  (congrArg (fun z=>qb.u7.f k x0 x1 x2 x3 x4 x5 x6 x7 x8 z) (funext fun y0=>(funext fun y1=>(funext fun y2=>(funext fun y3=>(funext fun y4=>(funext fun y5=>(funext fun y6=>(funext fun y7=>(funext fun y8=>qb.u12.ok k y0 y1 y2 y3 y4 y5 y6 y7 y8 K))))))))))
theorem qb.u14.ok (k:Nat) (x0 x1:Sl) (x2:Int) (x3:Ad) (x4:Sl) (x5 x6 x7:Int) (x8:Bool) (K:KF α) :
  eC k qb.u14.c (za [(3, .slice x0), (4, .slice x1), (5, .int .i64 x2), (6, .ptr (some x3)), (15, .slice x4), (16, .int .i64 x5), (17, .int .i64 x6), (23, .int .i64 x7), (24, .bool x8)]) K =
   qb.u14.f k x0 x1 x2 x3 x4 x5 x6 x7 x8 (fun y0 y1 y2 y3 y4=>K .normal (fr40 y0 y1 y2 y3 y4)):=
 yg (g:=x8) (by kernel_rfl) (qb.u6.ok k x0 x1 x2 x3 x4 x5 x6 x7 x8 K) (qb.u13.ok k x0 x1 x2 x3 x4 x5 x6 x7 x8 K)
theorem qb.u15.ok (k:Nat) (x0 x1:Sl) (x2:Int) (x3:Ad) (x4:Sl) (x5 x6 x7:Int) (K:KF α) :
  eC k qb.u15.c (za [(3, .slice x0), (4, .slice x1), (5, .int .i64 x2), (6, .ptr (some x3)), (15, .slice x4), (16, .int .i64 x5), (17, .int .i64 x6), (23, .int .i64 x7)]) K =
   qb.u15.f k x0 x1 x2 x3 x4 x5 x6 x7 (fun y0 y1 y2 y3 y4=>K .normal (fr40 y0 y1 y2 y3 y4)):=
 (qb.u5.ok k x0 x1 x2 x3 x4 x5 x6 x7 qb.u14.c K).trans
  (congrArg (fun z=>qb.u5.f k x0 x1 x2 x3 x4 x5 x6 x7 z) (funext fun y0=>(funext fun y1=>(funext fun y2=>(funext fun y3=>(funext fun y4=>(funext fun y5=>(funext fun y6=>(funext fun y7=>(funext fun y8=>qb.u14.ok k y0 y1 y2 y3 y4 y5 y6 y7 y8 K))))))))))
theorem qb.u16.ok (k:Nat) (x0 x1:Sl) (x2:Int) (x3:Ad) (x4:Sl) (x5 x6 x7:Int) (K:KF α) :
  eC k qb.u16.c (za [(3, .slice x0), (4, .slice x1), (5, .int .i64 x2), (6, .ptr (some x3)), (15, .slice x4), (16, .int .i64 x5), (17, .int .i64 x6), (23, .int .i64 x7)]) K =
   qb.u16.f k x0 x1 x2 x3 x4 x5 x6 x7 (fun y0 y1 y2 y3 y4=>K .normal (fr40 y0 y1 y2 y3 y4)):=
 (zm.trans (qb.u15.ok k x0 x1 x2 x3 x4 x5 x6 x7 (jf 2 K))).trans (by kernel_rfl)
theorem qb.u17.ok (k:Nat) (x0 x1 x2:Sl) (x3 x4:Int) (K:KF α) :
  eC k qb.u17.c (fr40 x0 x1 x2 x3 x4) K =
   qb.u17.f k x0 x1 x2 x3 x4 (fun y0 y1 y2 y3 y4=>K .normal (fr40 y0 y1 y2 y3 y4)):=
 (qb.u4.ok k x0 x1 x2 x3 x4 qb.u16.c K).trans
  (congrArg (fun z=>qb.u4.f k x0 x1 x2 x3 x4 z) (funext fun y0=>(funext fun y1=>(funext fun y2=>(funext fun y3=>(funext fun y4=>(funext fun y5=>(funext fun y6=>(funext fun y7=>qb.u16.ok k y0 y1 y2 y3 y4 y5 y6 y7 K)))))))))
theorem qb.u18.ok (k:Nat) (x0 x1 x2:Sl) (x3 x4:Int) (K:KF α) :
  eC k qb.u18.c (fr40 x0 x1 x2 x3 x4) K =
   qb.u18.f k x0 x1 x2 x3 x4 (fun y0 y1 y2 y3 y4=>K .normal (fr40 y0 y1 y2 y3 y4)):=
 (zm.trans (qb.u17.ok k x0 x1 x2 x3 x4 (jf 1 K))).trans (by kernel_rfl)
theorem qb.u19.ok (k:Nat) (x0 x1 x2:Sl) (x3 x4:Int) (K:KF α) :
  eC k qb.u19.c (fr40 x0 x1 x2 x3 x4) K =
   qb.u19.f k x0 x1 x2 x3 x4 (fun y0 y1 y2 y3 y4=>K .normal (fr40 y0 y1 y2 y3 y4)):=by kernel_rfl
theorem qb.u20.ok (k:Nat) (x0 x1 x2:Sl) (x3 x4:Int) (K:KF α) :
  eC k qb.u20.c (fr40 x0 x1 x2 x3 x4) K =
   qb.u20.f k x0 x1 x2 x3 x4 (fun y0 y1 y2 y3 y4=>K .normal (fr40 y0 y1 y2 y3 y4)):=
 by
  have h:=qb.u18.ok k x0 x1 x2 x3 x4 (seqK (fun ρ=>eC k qb.u19.c ρ K) K)
  simp only [zd, zf, zh, zg, qb.u19.ok] at h
  exact zk h
theorem qb.u21.ok (k:Nat) (x0 x1 x2:Sl) (x3 x4:Int) (K:KF α) :
  eC k qb.u21.c (fr40 x0 x1 x2 x3 x4) K =
   qb.u21.f k x0 x1 x2 x3 x4 (fun y0 y1 y2 y3 y4=>K .normal (fr40 y0 y1 y2 y3 y4)) (fun y0=>K (.exit 0) (fr19 y0)):=
 (qb.u3.ok k x0 x1 x2 x3 x4 qb.u20.c K).trans
  (congrArg (fun z=>qb.u3.f k x0 x1 x2 x3 x4 z (fun y0=>K (.exit 0) (fr19 y0))) (funext fun y0=>(funext fun y1=>(funext fun y2=>(funext fun y3=>(funext fun y4=>qb.u20.ok k y0 y1 y2 y3 y4 K))))))
theorem qb.u22.ls (k:Nat) (kx0:Sl->M α) (j:Nat) (x0 x1 x2:Sl) (x3 x4:Int):qb.u22.l k kx0 (j + 1) x0 x1 x2 x3 x4 =
 qb.u21.f k x0 x1 x2 x3 x4 (fun y0 y1 y2 y3 y4=>qb.u22.l k kx0 j y0 y1 y2 y3 y4) kx0:=rfl
theorem qb.u22.okl (k:Nat) (K:KF α):∀ (j:Nat) (x0 x1 x2:Sl) (x3 x4:Int),
  zr (eC k qb.u21.c) [3, 4, 15, 16, 17] j (fr40 x0 x1 x2 x3 x4) K = qb.u22.l k (fun y0=>K (.exit 0) (fr19 y0)) j x0 x1 x2 x3 x4
 | 0, _, _, _, _, _=>rfl
 | j + 1, x0, x1, x2, x3, x4=>by
   have h:=qb.u21.ok k x0 x1 x2 x3 x4 (seqK (fun ρ=>zr (eC k qb.u21.c) [3, 4, 15, 16, 17] j ρ K) K)
   simp only [zf, zh, zg, zd, qb.u22.okl k K j] at h
   exact (zo (by kernel_rfl) h).trans (qb.u22.ls k (fun y0=>K (.exit 0) (fr19 y0)) j x0 x1 x2 x3 x4).symm
theorem qb.u22.ok (k:Nat) (x0 x1 x2:Sl) (x3 x4:Int) (K:KF α) :
  eC k qb.u22.c (fr40 x0 x1 x2 x3 x4) K =
   qb.u22.f k x0 x1 x2 x3 x4 (fun y0=>K (.exit 0) (fr19 y0)):=
 jd.trans <| (zp (body:=eC k qb.u21.c) (keep:=[3, 4, 15, 16, 17]) (ρ:=(fr40 x0 x1 x2 x3 x4)) (ρ':=(fr40 x0 x1 x2 x3 x4)) (by kernel_rfl) k K).trans (qb.u22.okl k K k x0 x1 x2 x3 x4)
theorem qb.u23.ok (k:Nat) (x0 x1 x2:Sl) (x3 x4:Int) (K:KF α) :
  eC k qb.u23.c (fr40 x0 x1 x2 x3 x4) K =
   qb.u23.f k x0 x1 x2 x3 x4 (fun y0=>K .normal (fr19 y0)):=
 (zm.trans (qb.u22.ok k x0 x1 x2 x3 x4 (jf 0 K))).trans (by kernel_rfl)
theorem qb.u24.ok (k:Nat) (x0 x1 x2:Sl) (K:KF α) :
  eC k qb.u24.c (fr39 x0 x1 x2) K =
   qb.u24.f k x0 x1 x2 (fun y0=>K .normal (fr19 y0)):=
 (qb.u2.ok k x0 x1 x2 qb.u23.c K).trans
  (congrArg (fun z=>qb.u2.f k x0 x1 x2 z) (funext fun y0=>(funext fun y1=>(funext fun y2=>(funext fun y3=>(funext fun y4=>qb.u23.ok k y0 y1 y2 y3 y4 K))))))
theorem qb.u25.ok (k:Nat) (x0:Sl) (K:KF α) :
  eC k qb.u25.c (fr19 x0) K =
   qb.u25.f k x0 (fun y0=>K .ret (fr26 y0)):=by kernel_rfl
theorem qb.u26.ok (k:Nat) (x0 x1 x2:Sl) (K:KF α) :
  eC k qb.u26.c (fr39 x0 x1 x2) K =
   qb.u26.f k x0 x1 x2 (fun y0=>K .ret (fr26 y0)):=
 by
  have h:=qb.u24.ok k x0 x1 x2 (seqK (fun ρ=>eC k qb.u25.c ρ K) K)
  simp only [zd, zf, zh, zg, qb.u25.ok] at h
  exact zk h
theorem qb.u27.ok (k:Nat) (x0:Sl) (K:KF α) :
  eC k qb.u27.c (fr25 x0) K =
   qb.u27.f k x0 (fun y0=>K .ret (fr26 y0)):=
 (qb.u1.ok k x0 qb.u26.c K).trans
  (congrArg (fun z=>qb.u1.f k x0 z (fun y0=>K .ret (fr26 y0))) (funext fun y0=>(funext fun y1=>(funext fun y2=>qb.u26.ok k y0 y1 y2 K))))
theorem qb.ok (k:Nat) (x0:Sl) (κ:Res->M α) :
  evF T (env k) k qb.c qb.res [.slice x0] κ = qb.f (k + 1) x0 (fun o0=>κ (.ret (.slice o0))):=
 (qb.u27.ok k x0 (retK T qb.res κ)).trans (by kernel_rfl)
theorem qb.code:qb.c.code = zy Tryd.f10:=by kernel_rfl
end
end Go.Ab.S5
