import Derived.Test.YtmanohnlcedeaaaAb19
import Derived.Test.YtmanohnlcedeaaaAb20
import Derived.Shelf.Strings.Builder1
import Derived.Test.YtmanohnlcedeaaaProg
import Derived.KernelRfl
set_option linter.unusedVariables false
set_option linter.unusedSimpArgs false
namespace Go.Ab.S7
abbrev TX:=List UInt8
abbrev KF (α:Type):=Ex->Frame->M α
section
variable {α:Type}
open Go.Proofs
def opAt (f:Func) (id i:Nat):Oper:=(zb f id).getD i default
noncomputable def qbv.f:Nat->TX->Int->(Int->M α)->M α
 | 0, _, _, _=>fail
 | _ + 1, s, c, ret=>ret (indexByte s c)
noncomputable def qbu.u1.f (k:Nat) (x0:TX) (x1:Int) (kr:Int->M α):M α:=
 qbv.f k x0 x1 fun r4=>
 kr r4
noncomputable def qbu.u1.c:IC:=(.seq (.ops 0 (zb Try.f64 0)) (.seq (.ops 1 (zb Try.f64 1)) (.ret [4])))
noncomputable def qbu.f:Nat->TX->Int->(Int->M α)->M α
 | 0, _, _, _=>fail
 | k + 1, x0, x1, ret=>
  qbu.u1.f k x0 x1 (fun y0=>
   ret y0)
noncomputable def qbt.u1.f (k:Nat) (x0:TX) (x1:Int) (kr:Int->M α):M α:=
 qbu.f k x0 x1 fun r4=>
 kr r4
noncomputable def qbt.u1.c:IC:=(.seq (.ops 0 (zb Try.f50 0)) (.seq (.ops 1 (zb Try.f50 1)) (.ret [4])))
noncomputable def qbt.f:Nat->TX->Int->(Int->M α)->M α
 | 0, _, _, _=>fail
 | k + 1, x0, x1, ret=>
  qbt.u1.f k x0 x1 (fun y0=>
   ret y0)
noncomputable def qbp.u1.f (k:Nat) (x0:Int) (kr:Int->M α):M α:=
 cond (decide (x0 = 10)) (
  kr 1) (
  cond (decide (97≤x0)) (
   cond (decide (x0≤122)) (
    kr 2) (
    cond (decide (65≤x0)) (
     cond (decide (x0≤90)) (
      kr 3) (
      cond (decide (48≤x0)) (
       cond (decide (x0≤57)) (
        kr 4) (
        cond (decide (32 < x0)) (
         cond (decide (x0 < 127)) (
          cond (!(decide (x0 = 95))) (
           kr 5) (
           kr 0)) (
          kr 0)) (
         kr 0))) (
       cond (decide (32 < x0)) (
        cond (decide (x0 < 127)) (
         cond (!(decide (x0 = 95))) (
          kr 5) (
          kr 0)) (
         kr 0)) (
        kr 0)))) (
     cond (decide (48≤x0)) (
      cond (decide (x0≤57)) (
       kr 4) (
       cond (decide (32 < x0)) (
        cond (decide (x0 < 127)) (
         cond (!(decide (x0 = 95))) (
          kr 5) (
          kr 0)) (
         kr 0)) (
        kr 0))) (
      cond (decide (32 < x0)) (
       cond (decide (x0 < 127)) (
        cond (!(decide (x0 = 95))) (
         kr 5) (
         kr 0)) (
        kr 0)) (
       kr 0))))) (
   cond (decide (65≤x0)) (
    cond (decide (x0≤90)) (
     kr 3) (
     cond (decide (48≤x0)) (
      cond (decide (x0≤57)) (
       kr 4) (
       cond (decide (32 < x0)) (
        cond (decide (x0 < 127)) (
         cond (!(decide (x0 = 95))) (
          kr 5) (
          kr 0)) (
         kr 0)) (
        kr 0))) (
      cond (decide (32 < x0)) (
       cond (decide (x0 < 127)) (
        cond (!(decide (x0 = 95))) (
         kr 5) (
         kr 0)) (
        kr 0)) (
       kr 0)))) (
    cond (decide (48≤x0)) (
     cond (decide (x0≤57)) (
      kr 4) (
      cond (decide (32 < x0)) (
       cond (decide (x0 < 127)) (
        cond (!(decide (x0 = 95))) (
         kr 5) (
         kr 0)) (
        kr 0)) (
       kr 0))) (
     cond (decide (32 < x0)) (
      cond (decide (x0 < 127)) (
       cond (!(decide (x0 = 95))) (
        kr 5) (
        kr 0)) (
       kr 0)) (
      kr 0)))))
noncomputable def qbp.u1.c:IC:=(.seq (.ops 0 (zb Try.f65 0)) (.seq (.block 0 (.seq (.ops 1 (zb Try.f65 1)) (.cond (.tmp 3) (.seq (.ops 2 (zb Try.f65 2)) (.ret [2])) (.seq (.ops 3 (zb Try.f65 3)) (.cond (.tmp 6) (.seq (.ops 4 (zb Try.f65 4)) (.ret [2])) (.seq (.ops 5 (zb Try.f65 5)) (.cond (.tmp 13) (.seq (.ops 6 (zb Try.f65 6)) (.ret [2])) (.seq (.ops 7 (zb Try.f65 7)) (.cond (.tmp 20) (.seq (.ops 8 (zb Try.f65 8)) (.ret [2])) (.seq (.ops 9 (zb Try.f65 9)) (.cond (.tmp 27) (.seq (.ops 10 (zb Try.f65 10)) (.ret [2])) .skip))))))))))) (.seq (.ops 11 (zb Try.f65 11)) (.ret [2]))))
noncomputable def qbp.f:Nat->Int->(Int->M α)->M α
 | 0, _, _=>fail
 | k + 1, x0, ret=>
  qbp.u1.f k x0 (fun y0=>
   ret y0)
noncomputable def qf.u1.f (k:Nat) (x0:Int) (x1:TX) (kn:Int->TX->Int->M α):M α:=
 kn x0 x1 1
noncomputable def qf.u1.c (R:IC):IC:=(.seq (.ops 0 (zb Try.f66 0)) (.seq (.cut [0, 1, 5] (.ops 1 (zb Try.f66 1))) R))
noncomputable def qf.u2.f (k:Nat) (x0:Int) (x1:TX) (x2:Int) (kn:TX->Int->Int->M α):M α:=
 kn x1 x2 x0
noncomputable def qf.u2.c (R:IC):IC:=(.seq (.cut [1, 5, 6] (.ops 2 (zb Try.f66 2))) R)
noncomputable def qf.u3.f (k:Nat) (x0:TX) (x1 x2:Int) (kn:TX->Int->Int->Bool->M α):M α:=
 kn x0 x1 x2 (decide (x2 = 4))
noncomputable def qf.u3.c (R:IC):IC:=(.seq (.cut [1, 5, 6, 7] (.ops 3 (zb Try.f66 3))) R)
noncomputable def qf.u4.f (k:Nat) (x0:TX) (x1:Int) (kn:TX->Int->M α) (kx1:Int->M α):M α:=
 cond (decide (x1 < (x0.length:Int))) (
  idxStr x0 x1 fun c4=>
  cond (decide (48≤c4)) (
   idxStr x0 x1 fun c5=>
   cond (decide (c5≤57)) (
    kn x0 (w64 (x1 + 1))) (
    kx1 x1)) (
   kx1 x1)) (
  kx1 x1)
noncomputable def qf.u4.c:IC:=(.seq (.seq (.ops 4 (zb Try.f66 4)) (.cond (.tmp 24) .skip (.exit 1 [5]))) (.cut [1, 5] (.block 2 (.ops 5 (zb Try.f66 5)))))
noncomputable def qf.u5.l (k:Nat) (kx1:Int->M α):Nat->TX->Int->M α
 | 0, _, _=>fail
 | j + 1, x0, x1=>
  qf.u4.f k x0 x1 (fun y0 y1=>qf.u5.l k kx1 j y0 y1) kx1
noncomputable abbrev qf.u5.f (k:Nat) (x0:TX) (x1 x2:Int) (x3:Bool) (kx1:Int->M α):M α:=
 qf.u5.l k kx1 k x0 x1
noncomputable def qf.u5.c:IC:=.loop [1, 5] qf.u4.c
noncomputable abbrev qf.u6.f (k:Nat) (x0:TX) (x1 x2:Int) (x3:Bool) (kn:Int->M α):M α:=
 qf.u5.f k x0 x1 x2 x3 (fun y0=>kn y0)
noncomputable def qf.u6.c:IC:=.block 1 qf.u5.c
noncomputable def qf.u7.f (k:Nat) (x0:TX) (x1 x2:Int) (x3:Bool) (kn:TX->Int->Bool->M α):M α:=
 cond (decide (x2 = 2)) (
  kn x0 x1 (decide (x2 = 2))) (
  kn x0 x1 (decide (x2 = 3)))
noncomputable def qf.u7.c (R:IC):IC:=(.seq (.cut [1, 5, 27] (.seq (.ops 6 (zb Try.f66 6)) (.cond (.tmp 27) .skip (.ops 7 (zb Try.f66 7))))) R)
noncomputable def qf.u8.f (k:Nat) (x0:TX) (x1:Int) (kn:TX->Int->M α) (kx3:Int->M α):M α:=
 cond (decide (x1 < (x0.length:Int))) (
  idxStr x0 x1 fun c4=>
  cond (decide (c4 = 95)) (
   kn x0 (w64 (x1 + 1))) (
   idxStr x0 x1 fun c5=>
   cond (decide (97≤c5)) (
    idxStr x0 x1 fun c6=>
    cond (decide (c6≤122)) (
     kn x0 (w64 (x1 + 1))) (
     idxStr x0 x1 fun c7=>
     cond (decide (65≤c7)) (
      idxStr x0 x1 fun c8=>
      cond (decide (c8≤90)) (
       kn x0 (w64 (x1 + 1))) (
       idxStr x0 x1 fun c9=>
       cond (decide (48≤c9)) (
        idxStr x0 x1 fun c10=>
        cond (decide (c10≤57)) (
         kn x0 (w64 (x1 + 1))) (
         kx3 x1)) (
        kx3 x1))) (
      idxStr x0 x1 fun c11=>
      cond (decide (48≤c11)) (
       idxStr x0 x1 fun c12=>
       cond (decide (c12≤57)) (
        kn x0 (w64 (x1 + 1))) (
        kx3 x1)) (
       kx3 x1)))) (
    idxStr x0 x1 fun c13=>
    cond (decide (65≤c13)) (
     idxStr x0 x1 fun c14=>
     cond (decide (c14≤90)) (
      kn x0 (w64 (x1 + 1))) (
      idxStr x0 x1 fun c15=>
      cond (decide (48≤c15)) (
       idxStr x0 x1 fun c16=>
       cond (decide (c16≤57)) (
        kn x0 (w64 (x1 + 1))) (
        kx3 x1)) (
       kx3 x1))) (
     idxStr x0 x1 fun c17=>
     cond (decide (48≤c17)) (
      idxStr x0 x1 fun c18=>
      cond (decide (c18≤57)) (
       kn x0 (w64 (x1 + 1))) (
       kx3 x1)) (
      kx3 x1))))) (
  kx3 x1)
noncomputable def qf.u8.c:IC:=(.seq (.seq (.ops 8 (zb Try.f66 8)) (.cond (.tmp 75) .skip (.exit 3 [5]))) (.cut [1, 5] (.block 4 (.ops 9 (zb Try.f66 9)))))
noncomputable def qf.u9.l (k:Nat) (kx3:Int->M α):Nat->TX->Int->M α
 | 0, _, _=>fail
 | j + 1, x0, x1=>
  qf.u8.f k x0 x1 (fun y0 y1=>qf.u9.l k kx3 j y0 y1) kx3
noncomputable abbrev qf.u9.f (k:Nat) (x0:TX) (x1:Int) (x2:Bool) (kx3:Int->M α):M α:=
 qf.u9.l k kx3 k x0 x1
noncomputable def qf.u9.c:IC:=.loop [1, 5] qf.u8.c
noncomputable abbrev qf.u10.f (k:Nat) (x0:TX) (x1:Int) (x2:Bool) (kn:Int->M α):M α:=
 qf.u9.f k x0 x1 x2 (fun y0=>kn y0)
noncomputable def qf.u10.c:IC:=.block 3 qf.u9.c
noncomputable def qf.u11.f (k:Nat) (x0:TX) (x1:Int) (x2:Bool) (kn:Int->M α):M α:=
 kn x1
noncomputable def qf.u11.c:IC:=(.cut [5] .skip)
noncomputable abbrev qf.u12.f (k:Nat) (x0:TX) (x1:Int) (x2:Bool) (kn:Int->M α):M α:=
 cond x2 (
  qf.u10.f k x0 x1 x2 kn) (
  qf.u11.f k x0 x1 x2 kn)
noncomputable def qf.u12.c:IC:=.cond (.tmp 27) qf.u10.c qf.u11.c
noncomputable abbrev qf.u13.f (k:Nat) (x0:TX) (x1 x2:Int) (x3:Bool) (kn:Int->M α):M α:=
 qf.u7.f k x0 x1 x2 x3 (fun y0 y1 y2=>qf.u12.f k y0 y1 y2 kn)
noncomputable def qf.u13.c:IC:=qf.u7.c qf.u12.c
noncomputable abbrev qf.u14.f (k:Nat) (x0:TX) (x1 x2:Int) (x3:Bool) (kn:Int->M α):M α:=
 cond x3 (
  qf.u6.f k x0 x1 x2 x3 kn) (
  qf.u13.f k x0 x1 x2 x3 kn)
noncomputable def qf.u14.c:IC:=.cond (.tmp 7) qf.u6.c qf.u13.c
noncomputable abbrev qf.u15.f (k:Nat) (x0:TX) (x1 x2:Int) (kn:Int->M α):M α:=
 qf.u3.f k x0 x1 x2 (fun y0 y1 y2 y3=>qf.u14.f k y0 y1 y2 y3 kn)
noncomputable def qf.u15.c:IC:=qf.u3.c qf.u14.c
noncomputable abbrev qf.u16.f (k:Nat) (x0:TX) (x1 x2:Int) (kn:Int->M α):M α:=
 qf.u15.f k x0 x1 x2 (fun y0=>kn y0)
noncomputable def qf.u16.c:IC:=.block 0 qf.u15.c
noncomputable abbrev qf.u17.f (k:Nat) (x0:Int) (x1:TX) (x2:Int) (kn:Int->M α):M α:=
 qf.u2.f k x0 x1 x2 (fun y0 y1 y2=>qf.u16.f k y0 y1 y2 kn)
noncomputable def qf.u17.c:IC:=qf.u2.c qf.u16.c
noncomputable def qf.u18.f (k:Nat) (x0:Int) (kr:Int->M α):M α:=
 kr x0
noncomputable def qf.u18.c:IC:=(.seq (.ops 10 (zb Try.f66 10)) (.ret [4]))
noncomputable abbrev qf.u19.f (k:Nat) (x0:Int) (x1:TX) (x2:Int) (kr:Int->M α):M α:=
 qf.u17.f k x0 x1 x2 (fun y0=>qf.u18.f k y0 kr)
noncomputable def qf.u19.c:IC:=(.seq qf.u17.c qf.u18.c)
noncomputable abbrev qf.u20.f (k:Nat) (x0:Int) (x1:TX) (kr:Int->M α):M α:=
 qf.u1.f k x0 x1 (fun y0 y1 y2=>qf.u19.f k y0 y1 y2 kr)
noncomputable def qf.u20.c:IC:=qf.u1.c qf.u19.c
noncomputable def qf.f:Nat->Int->TX->(Int->M α)->M α
 | 0, _, _, _=>fail
 | k + 1, x0, x1, ret=>
  qf.u20.f k x0 x1 (fun y0=>
   ret y0)
noncomputable def qk.u1.f (k:Nat) (x0:TX) (kn:TX->M α) (kr:Int->Bool->M α):M α:=
 cond (decide (4 < (x0.length:Int))) (
  kr 0 false) (
  cond (decide (1 < (x0.length:Int))) (
   idxStr x0 0 fun c3=>
   cond (decide (c3 = 48)) (
    kr 0 false) (
    kn x0)) (
   kn x0))
noncomputable def qk.u1.c (R:IC):IC:=(.seq (.ops 0 (zb Try.f67 0)) (.seq (.cut [0] (.seq (.ops 1 (zb Try.f67 1)) (.cond (.tmp 18) (.seq (.ops 2 (zb Try.f67 2)) (.ret [2, 3])) .skip))) R))
noncomputable def qk.u2.f (k:Nat) (x0:TX) (kn:TX->Int->M α):M α:=
 kn x0 0
noncomputable def qk.u2.c (R:IC):IC:=(.seq (.cut [0, 4] (.ops 3 (zb Try.f67 3))) R)
noncomputable def qk.u3.f (k:Nat) (x0:TX) (x1:Int) (kn:TX->Int->Int->Int->M α):M α:=
 kn x0 x1 (x0.length:Int) 0
noncomputable def qk.u3.c (R:IC):IC:=(.seq (.cut [0, 4, 20, 21] (.ops 4 (zb Try.f67 4))) R)
noncomputable def qk.u4.f (k:Nat) (x0:TX) (x1 x2 x3:Int) (kn:TX->Int->Int->Int->M α) (kx0:Int->M α):M α:=
 cond (decide (x3 < x2)) (
  idxStr x0 x3 fun c6=>
  kn x0 (w64 ((w64 (10 * x1)) + (w64 (IntKind.wrap .u8 (c6 - 48))))) x2 (w64 (x3 + 1))) (
  kx0 x1)
noncomputable def qk.u4.c:IC:=(.seq (.ops 5 (zb Try.f67 5)) (.seq (.cond (.tmp 22) .skip (.exit 0 [4])) (.seq (.block 1 (.seq (.ops 6 (zb Try.f67 6)) (.ops 7 (zb Try.f67 7)))) (.cut [0, 4, 20, 21] (.ops 8 (zb Try.f67 8))))))
noncomputable def qk.u5.l (k:Nat) (kx0:Int->M α):Nat->TX->Int->Int->Int->M α
 | 0, _, _, _, _=>fail
 | j + 1, x0, x1, x2, x3=>
  qk.u4.f k x0 x1 x2 x3 (fun y0 y1 y2 y3=>qk.u5.l k kx0 j y0 y1 y2 y3) kx0
noncomputable abbrev qk.u5.f (k:Nat) (x0:TX) (x1 x2 x3:Int) (kx0:Int->M α):M α:=
 qk.u5.l k kx0 k x0 x1 x2 x3
noncomputable def qk.u5.c:IC:=.loop [0, 4, 20, 21] qk.u4.c
noncomputable abbrev qk.u6.f (k:Nat) (x0:TX) (x1 x2 x3:Int) (kn:Int->M α):M α:=
 qk.u5.f k x0 x1 x2 x3 (fun y0=>kn y0)
noncomputable def qk.u6.c:IC:=.block 0 qk.u5.c
noncomputable abbrev qk.u7.f (k:Nat) (x0:TX) (x1:Int) (kn:Int->M α):M α:=
 qk.u3.f k x0 x1 (fun y0 y1 y2 y3=>qk.u6.f k y0 y1 y2 y3 kn)
noncomputable def qk.u7.c:IC:=qk.u3.c qk.u6.c
noncomputable def qk.u8.f (k:Nat) (x0:Int) (kr:Int->Bool->M α):M α:=
 kr x0 (decide (x0≤9999))
noncomputable def qk.u8.c:IC:=(.seq (.ops 9 (zb Try.f67 9)) (.ret [2, 3]))
noncomputable abbrev qk.u9.f (k:Nat) (x0:TX) (x1:Int) (kr:Int->Bool->M α):M α:=
 qk.u7.f k x0 x1 (fun y0=>qk.u8.f k y0 kr)
noncomputable def qk.u9.c:IC:=(.seq qk.u7.c qk.u8.c)
noncomputable abbrev qk.u10.f (k:Nat) (x0:TX) (kr:Int->Bool->M α):M α:=
 qk.u2.f k x0 (fun y0 y1=>qk.u9.f k y0 y1 kr)
noncomputable def qk.u10.c:IC:=qk.u2.c qk.u9.c
noncomputable abbrev qk.u11.f (k:Nat) (x0:TX) (kr:Int->Bool->M α):M α:=
 qk.u1.f k x0 (fun y0=>qk.u10.f k y0 kr) kr
noncomputable def qk.u11.c:IC:=qk.u1.c qk.u10.c
noncomputable def qk.f:Nat->TX->(Int->Bool->M α)->M α
 | 0, _, _=>fail
 | k + 1, x0, ret=>
  qk.u11.f k x0 (fun y0 y1=>
   ret y0 y1)
noncomputable def qbj.u1.f (k:Nat) (x0:TX) (x1:Int) (kr:Ad->Int->M α):M α:=
 new [.int .i64 0, .int .i64 0, .str [], .int .i64 0] fun x4=>
 idxStr x0 x1 fun c5=>
 qbp.f k c5 fun r6=>
 new [.int .i64 0, .int .i64 0, .str [], .int .i64 0] fun t7=>
 st1 (t7.add 0) (.int .i64 r6) <|
 st1 (t7.add 1) (.int .i64 x1) <|
 st1 (t7.add 2) (.str []) <|
 st1 (t7.add 3) (.int .i64 0) <|
 ldI .i64 ((t7.add 0).add 0) fun x8=>
 cutStr x0 (some x1) none fun x9=>
 qf.f k x8 x9 fun r10=>
 cutStr x0 (some x1) (some (w64 (x1 + r10))) fun x11=>
 st1 ((t7.add 2).add 0) (.str x11) <|
 ldI .i64 ((t7.add 0).add 0) fun x12=>
 cond (decide (x12 = 0)) (
  ldI .i64 (t7.add 0) fun x13=>
  ldI .i64 (t7.add 1) fun x14=>
  ldStr (t7.add 2) fun x15=>
  ldI .i64 (t7.add 3) fun x16=>
  st1 (x4.add 0) (.int .i64 x13) <|
  st1 (x4.add 1) (.int .i64 x14) <|
  st1 (x4.add 2) (.str x15) <|
  st1 (x4.add 3) (.int .i64 x16) <|
  kr x4 3) (
  cond (decide (x12 = 2)) (
   cond (decide (x12 = 2)) (
    ldStr ((t7.add 2).add 0) fun x17=>
    cond (decide (8 < (x17.length:Int))) (
     ldI .i64 (t7.add 0) fun x18=>
     ldI .i64 (t7.add 1) fun x19=>
     ldStr (t7.add 2) fun x20=>
     ldI .i64 (t7.add 3) fun x21=>
     st1 (x4.add 0) (.int .i64 x18) <|
     st1 (x4.add 1) (.int .i64 x19) <|
     st1 (x4.add 2) (.str x20) <|
     st1 (x4.add 3) (.int .i64 x21) <|
     kr x4 5) (
     ldI .i64 (t7.add 0) fun x22=>
     ldI .i64 (t7.add 1) fun x23=>
     ldStr (t7.add 2) fun x24=>
     ldI .i64 (t7.add 3) fun x25=>
     st1 (x4.add 0) (.int .i64 x22) <|
     st1 (x4.add 1) (.int .i64 x23) <|
     st1 (x4.add 2) (.str x24) <|
     st1 (x4.add 3) (.int .i64 x25) <|
     kr x4 0)) (
    cond (decide (x12 = 4)) (
     ldStr ((t7.add 2).add 0) fun x26=>
     qk.f k x26 fun r27 r28=>
     cond (!r28) (
      ldI .i64 (t7.add 0) fun x29=>
      ldI .i64 (t7.add 1) fun x30=>
      ldStr (t7.add 2) fun x31=>
      ldI .i64 (t7.add 3) fun x32=>
      st1 (x4.add 0) (.int .i64 x29) <|
      st1 (x4.add 1) (.int .i64 x30) <|
      st1 (x4.add 2) (.str x31) <|
      st1 (x4.add 3) (.int .i64 x32) <|
      kr x4 4) (
      st1 ((t7.add 3).add 0) (.int .i64 r27) <|
      ldI .i64 (t7.add 0) fun x33=>
      ldI .i64 (t7.add 1) fun x34=>
      ldStr (t7.add 2) fun x35=>
      ldI .i64 (t7.add 3) fun x36=>
      st1 (x4.add 0) (.int .i64 x33) <|
      st1 (x4.add 1) (.int .i64 x34) <|
      st1 (x4.add 2) (.str x35) <|
      st1 (x4.add 3) (.int .i64 x36) <|
      kr x4 0)) (
     ldI .i64 (t7.add 0) fun x37=>
     ldI .i64 (t7.add 1) fun x38=>
     ldStr (t7.add 2) fun x39=>
     ldI .i64 (t7.add 3) fun x40=>
     st1 (x4.add 0) (.int .i64 x37) <|
     st1 (x4.add 1) (.int .i64 x38) <|
     st1 (x4.add 2) (.str x39) <|
     st1 (x4.add 3) (.int .i64 x40) <|
     kr x4 0))) (
   cond (decide (x12 = 3)) (
    ldStr ((t7.add 2).add 0) fun x41=>
    cond (decide (8 < (x41.length:Int))) (
     ldI .i64 (t7.add 0) fun x42=>
     ldI .i64 (t7.add 1) fun x43=>
     ldStr (t7.add 2) fun x44=>
     ldI .i64 (t7.add 3) fun x45=>
     st1 (x4.add 0) (.int .i64 x42) <|
     st1 (x4.add 1) (.int .i64 x43) <|
     st1 (x4.add 2) (.str x44) <|
     st1 (x4.add 3) (.int .i64 x45) <|
     kr x4 5) (
     ldI .i64 (t7.add 0) fun x46=>
     ldI .i64 (t7.add 1) fun x47=>
     ldStr (t7.add 2) fun x48=>
     ldI .i64 (t7.add 3) fun x49=>
     st1 (x4.add 0) (.int .i64 x46) <|
     st1 (x4.add 1) (.int .i64 x47) <|
     st1 (x4.add 2) (.str x48) <|
     st1 (x4.add 3) (.int .i64 x49) <|
     kr x4 0)) (
    cond (decide (x12 = 4)) (
     ldStr ((t7.add 2).add 0) fun x50=>
     qk.f k x50 fun r51 r52=>
     cond (!r52) (
      ldI .i64 (t7.add 0) fun x53=>
      ldI .i64 (t7.add 1) fun x54=>
      ldStr (t7.add 2) fun x55=>
      ldI .i64 (t7.add 3) fun x56=>
      st1 (x4.add 0) (.int .i64 x53) <|
      st1 (x4.add 1) (.int .i64 x54) <|
      st1 (x4.add 2) (.str x55) <|
      st1 (x4.add 3) (.int .i64 x56) <|
      kr x4 4) (
      st1 ((t7.add 3).add 0) (.int .i64 r51) <|
      ldI .i64 (t7.add 0) fun x57=>
      ldI .i64 (t7.add 1) fun x58=>
      ldStr (t7.add 2) fun x59=>
      ldI .i64 (t7.add 3) fun x60=>
      st1 (x4.add 0) (.int .i64 x57) <|
      st1 (x4.add 1) (.int .i64 x58) <|
      st1 (x4.add 2) (.str x59) <|
      st1 (x4.add 3) (.int .i64 x60) <|
      kr x4 0)) (
     ldI .i64 (t7.add 0) fun x61=>
     ldI .i64 (t7.add 1) fun x62=>
     ldStr (t7.add 2) fun x63=>
     ldI .i64 (t7.add 3) fun x64=>
     st1 (x4.add 0) (.int .i64 x61) <|
     st1 (x4.add 1) (.int .i64 x62) <|
     st1 (x4.add 2) (.str x63) <|
     st1 (x4.add 3) (.int .i64 x64) <|
     kr x4 0))))
noncomputable def qbj.u1.c:IC:=(.seq (.ops 0 (zb Try.f51 0)) (.seq (.ops 1 (zb Try.f51 1)) (.seq (.drawn 2 (zb Try.f51 2) true [.op 0, .op 1, .op 2, .op 3, .op 4, .op 5, .op 6, .op 7, .op 8, .op 9, .op 10, .op 11, .op 12]) (.seq (.seq (.ops 3 (zb Try.f51 3)) (.block 0 (.seq (.ops 4 (zb Try.f51 4)) (.cond (.tmp 29) (.seq (.ops 5 (zb Try.f51 5)) (.ret [4, 5])) (.seq (.seq (.ops 6 (zb Try.f51 6)) (.cond (.tmp 32) .skip (.ops 7 (zb Try.f51 7)))) (.cond (.tmp 32) (.seq (.ops 8 (zb Try.f51 8)) (.cond (.tmp 38) (.seq (.ops 9 (zb Try.f51 9)) (.ret [4, 5])) .skip)) (.seq (.ops 10 (zb Try.f51 10)) (.cond (.tmp 40) (.seq (.ops 11 (zb Try.f51 11)) (.seq (.seq (.ops 12 (zb Try.f51 12)) (.cond (.tmp 49) (.seq (.ops 13 (zb Try.f51 13)) (.ret [4, 5])) .skip)) (.ops 14 (zb Try.f51 14)))) .skip)))))))) (.seq (.ops 15 (zb Try.f51 15)) (.ret [4, 5]))))))
noncomputable def qbj.f:Nat->TX->Int->(Int->Int->TX->Int->Int->M α)->M α
 | 0, _, _, _=>fail
 | k + 1, x0, x1, ret=>
  qbj.u1.f k x0 x1 (fun y0 y1=>
   ldI .i64 (y0.add 0) fun o501=>
   ldI .i64 (y0.add 1) fun o502=>
   ldStr (y0.add 2) fun o503=>
   ldI .i64 (y0.add 3) fun o504=>
   ret o501 o502 o503 o504 y1)
noncomputable def ql.u1.f (k:Nat) (x0:TX) (kn:TX->Sl->M α) (kr:Sl->Ad->M α):M α:=
 cond (decide (262144 < (x0.length:Int))) (
  new [.int .i64 262144, .int .i64 2] fun x3=>
  kr Sl.nil x3) (
  kn x0 Sl.nil)
noncomputable def ql.u1.c (R:IC):IC:=(.seq (.ops 0 (zb Try.f34 0)) (.seq (.seq (.ops 1 (zb Try.f34 1)) (.cond (.tmp 12) (.seq (.ops 2 (zb Try.f34 2)) (.ret [2, 3])) .skip)) (.seq (.cut [0, 4] (.ops 3 (zb Try.f34 3))) R)))
noncomputable def ql.u2.f (k:Nat) (x0:TX) (x1:Sl) (kn:TX->Sl->Int->M α):M α:=
 kn x0 x1 0
noncomputable def ql.u2.c (R:IC):IC:=(.seq (.cut [0, 4, 5] (.ops 4 (zb Try.f34 4))) R)
noncomputable def ql.u3.f (k:Nat) (x0:TX) (x1:Sl) (x2:Int) (kn:TX->Sl->Int->M α) (kr:Sl->Ad->M α) (kx0:TX->Sl->M α):M α:=
 cond (decide (x2 < (x0.length:Int))) (
  idxStr x0 x2 fun c5=>
  cond (decide (c5 = 32)) (
   kn x0 x1 (w64 (x2 + 1))) (
   cond (decide (c5 = 9)) (
    kn x0 x1 (w64 (x2 + 1))) (
    cond (decide (c5 = 35)) (
     cutStr x0 (some x2) none fun x6=>
     qbt.f k x6 10 fun r7=>
     cond (decide (r7 < 0)) (
      kn x0 x1 (w64 (x2 + (w64 ((x0.length:Int) - x2))))) (
      kn x0 x1 (w64 (x2 + r7)))) (
     qbj.f k x0 x2 fun r8 r9 r10 r11 r12=>
     new [.int .i64 0, .int .i64 0, .str [], .int .i64 0] fun t13=>
     st1 (t13.add 0) (.int .i64 r8) <|
     st1 (t13.add 1) (.int .i64 r9) <|
     st1 (t13.add 2) (.str r10) <|
     st1 (t13.add 3) (.int .i64 r11) <|
     cond (!(decide (r12 = 0))) (
      new [.int .i64 x2, .int .i64 r12] fun x14=>
      kr Sl.nil x14) (
      ldI .i64 (t13.add 0) fun x15=>
      ldI .i64 (t13.add 1) fun x16=>
      ldStr (t13.add 2) fun x17=>
      ldI .i64 (t13.add 3) fun x18=>
      new [.int .i64 x15, .int .i64 x16, .str x17, .int .i64 x18] fun r19=>
      zq x1 4 40 (⟨some r19, 1, 1, none⟩:Sl) fun x20=>
      ldStr ((t13.add 2).add 0) fun x21=>
      kn x0 x20 (w64 (x2 + (x21.length:Int)))))))) (
  kx0 x0 x1)
noncomputable def ql.u3.c:IC:=(.seq (.seq (.ops 5 (zb Try.f34 5)) (.cond (.tmp 19) .skip (.exit 0 [0, 4]))) (.cut [0, 4, 5] (.block 1 (.seq (.ops 6 (zb Try.f34 6)) (.block 2 (.seq (.ops 12 (zb Try.f34 12)) (.cond (.tmp 45) (.ops 13 (zb Try.f34 13)) (.seq (.ops 14 (zb Try.f34 14)) (.cond (.tmp 54) (.seq (.ops 15 (zb Try.f34 15)) (.seq (.seq (.ops 16 (zb Try.f34 16)) (.cond (.tmp 62) (.ops 17 (zb Try.f34 17)) .skip)) (.ops 18 (zb Try.f34 18)))) (.seq (.ops 7 (zb Try.f34 7)) (.seq (.seq (.ops 8 (zb Try.f34 8)) (.cond (.tmp 30) (.seq (.ops 9 (zb Try.f34 9)) (.ret [2, 3])) .skip)) (.seq (.ops 10 (zb Try.f34 10)) (.ops 11 (zb Try.f34 11))))))))))))))
noncomputable def ql.u4.l (k:Nat) (kr:Sl->Ad->M α) (kx0:TX->Sl->M α):Nat->TX->Sl->Int->M α
 | 0, _, _, _=>fail
 | j + 1, x0, x1, x2=>
  ql.u3.f k x0 x1 x2 (fun y0 y1 y2=>ql.u4.l k kr kx0 j y0 y1 y2) kr kx0
noncomputable abbrev ql.u4.f (k:Nat) (x0:TX) (x1:Sl) (x2:Int) (kr:Sl->Ad->M α) (kx0:TX->Sl->M α):M α:=
 ql.u4.l k kr kx0 k x0 x1 x2
noncomputable def ql.u4.c:IC:=.loop [0, 4, 5] ql.u3.c
noncomputable abbrev ql.u5.f (k:Nat) (x0:TX) (x1:Sl) (x2:Int) (kn:TX->Sl->M α) (kr:Sl->Ad->M α):M α:=
 ql.u4.f k x0 x1 x2 kr (fun y0 y1=>kn y0 y1)
noncomputable def ql.u5.c:IC:=.block 0 ql.u4.c
noncomputable abbrev ql.u6.f (k:Nat) (x0:TX) (x1:Sl) (kn:TX->Sl->M α) (kr:Sl->Ad->M α):M α:=
 ql.u2.f k x0 x1 (fun y0 y1 y2=>ql.u5.f k y0 y1 y2 kn kr)
noncomputable def ql.u6.c:IC:=ql.u2.c ql.u5.c
noncomputable def ql.u7.f (k:Nat) (x0:TX) (x1:Sl) (kr:Sl->M α):M α:=
 new [.int .i64 0, .int .i64 (x0.length:Int), .str [], .int .i64 0] fun r4=>
 zq x1 4 40 (⟨some r4, 1, 1, none⟩:Sl) fun x5=>
 kr x5
noncomputable def ql.u7.c:IC:=(.seq (.ops 19 (zb Try.f34 19)) (.ret [2, 3]))
noncomputable abbrev ql.u8.f (k:Nat) (x0:TX) (x1:Sl) (kr:Sl->V->M α):M α:=
 ql.u6.f k x0 x1 (fun y0 y1=>ql.u7.f k y0 y1 (fun y0=>kr y0 .nilIface)) (fun y0 y1=>kr y0 (.iface 62 (.ptr (some y1))))
noncomputable def ql.u8.c:IC:=(.seq ql.u6.c ql.u7.c)
noncomputable abbrev ql.u9.f (k:Nat) (x0:TX) (kr:Sl->V->M α):M α:=
 ql.u1.f k x0 (fun y0 y1=>ql.u8.f k y0 y1 kr) (fun y0 y1=>kr y0 (.iface 62 (.ptr (some y1))))
noncomputable def ql.u9.c:IC:=ql.u1.c ql.u8.c
noncomputable def ql.f:Nat->TX->(Sl->V->M α)->M α
 | 0, _, _=>fail
 | k + 1, x0, ret=>
  ql.u9.f k x0 (fun y0 y1=>
   ret y0 y1)
noncomputable def qbe.u1.f (k:Nat) (x0 x1:Int) (x2:TX) (x3:Int) (kr:Bool->M α):M α:=
 new [.int .i64 x0, .int .i64 x1, .str x2, .int .i64 x3] fun t6=>
 ldI .i64 ((t6.add 0).add 0) fun x7=>
 kr (decide (x7 = 1))
noncomputable def qbe.u1.c:IC:=(.seq (.ops 0 (zb Try.f37 0)) (.seq (.ops 1 (zb Try.f37 1)) (.ret [2])))
noncomputable def qbe.f:Nat->Int->Int->TX->Int->(Bool->M α)->M α
 | 0, _, _, _, _, _=>fail
 | k + 1, x0, x1, x2, x3, ret=>
  qbe.u1.f k x0 x1 x2 x3 (fun y0=>
   ret y0)
noncomputable def qv.u1.f (k:Nat) (x0:Sl) (kn:Sl->M α):M α:=
 kn x0
noncomputable def qv.u1.c (R:IC):IC:=(.seq (.cut [0, 1] (.ops 0 (zb Try.f52 0))) R)
noncomputable def qv.u2.f (k:Nat) (x0:Sl) (kn:Sl->Int->Int->M α):M α:=
 kn x0 (x0.len:Int) 0
noncomputable def qv.u2.c (R:IC):IC:=(.seq (.cut [0, 1, 7, 8] (.ops 1 (zb Try.f52 1))) R)
noncomputable def qv.u3.f (k:Nat) (x0:Sl) (x1 x2:Int) (kn:Sl->Int->Int->M α) (kr:Int->M α) (kx0:M α):M α:=
 cond (decide (x2 < x1)) (
  idxSl x0 x2 4 fun a5=>
  ldI .i64 (a5.add 0) fun x6=>
  ldI .i64 (a5.add 1) fun x7=>
  ldStr (a5.add 2) fun x8=>
  ldI .i64 (a5.add 3) fun x9=>
  qbe.f k x6 x7 x8 x9 fun r10=>
  cond (r10) (
   kr x2) (
   kn x0 x1 (w64 (x2 + 1)))) (
  kx0)
noncomputable def qv.u3.c:IC:=(.seq (.ops 2 (zb Try.f52 2)) (.seq (.cond (.tmp 9) .skip (.exit 0 [])) (.seq (.block 1 (.seq (.ops 3 (zb Try.f52 3)) (.seq (.ops 4 (zb Try.f52 4)) (.cond (.tmp 16) (.seq (.ops 5 (zb Try.f52 5)) (.ret [4])) .skip)))) (.cut [0, 1, 7, 8] (.ops 6 (zb Try.f52 6))))))
noncomputable def qv.u4.l (k:Nat) (kr:Int->M α) (kx0:M α):Nat->Sl->Int->Int->M α
 | 0, _, _, _=>fail
 | j + 1, x0, x1, x2=>
  qv.u3.f k x0 x1 x2 (fun y0 y1 y2=>qv.u4.l k kr kx0 j y0 y1 y2) kr kx0
noncomputable abbrev qv.u4.f (k:Nat) (x0:Sl) (x1 x2:Int) (kr:Int->M α) (kx0:M α):M α:=
 qv.u4.l k kr kx0 k x0 x1 x2
noncomputable def qv.u4.c:IC:=.loop [0, 1, 7, 8] qv.u3.c
noncomputable abbrev qv.u5.f (k:Nat) (x0:Sl) (x1 x2:Int) (kn:M α) (kr:Int->M α):M α:=
 qv.u4.f k x0 x1 x2 kr (kn)
noncomputable def qv.u5.c:IC:=.block 0 qv.u4.c
noncomputable abbrev qv.u6.f (k:Nat) (x0:Sl) (kn:M α) (kr:Int->M α):M α:=
 qv.u2.f k x0 (fun y0 y1 y2=>qv.u5.f k y0 y1 y2 kn kr)
noncomputable def qv.u6.c:IC:=qv.u2.c qv.u5.c
noncomputable def qv.u7.f (k:Nat) (kr:Int->M α):M α:=
 kr (-1)
noncomputable def qv.u7.c:IC:=(.seq (.ops 7 (zb Try.f52 7)) (.ret [4]))
noncomputable abbrev qv.u8.f (k:Nat) (x0:Sl) (kr:Int->M α):M α:=
 qv.u6.f k x0 (qv.u7.f k kr) kr
noncomputable def qv.u8.c:IC:=(.seq qv.u6.c qv.u7.c)
noncomputable abbrev qv.u9.f (k:Nat) (x0:Sl) (kr:Int->M α):M α:=
 qv.u1.f k x0 (fun y0=>qv.u8.f k y0 kr)
noncomputable def qv.u9.c:IC:=qv.u1.c qv.u8.c
noncomputable def qv.f:Nat->Sl->(Int->M α)->M α
 | 0, _, _=>fail
 | k + 1, x0, ret=>
  qv.u9.f k x0 (fun y0=>
   ret y0)
noncomputable def qr.u1.f (k:Nat) (x0:Sl) (kn:Sl->Int->M α) (kr:Sl->M α):M α:=
 qv.f k x0 fun r3=>
 cond (decide (r3 = (-1))) (
  kr x0) (
  kn x0 r3)
noncomputable def qr.u1.c (R:IC):IC:=(.seq (.ops 0 (zb Try.f36 0)) (.seq (.ops 1 (zb Try.f36 1)) (.seq (.cut [0, 1, 5] (.seq (.ops 2 (zb Try.f36 2)) (.cond (.tmp 12) (.seq (.ops 3 (zb Try.f36 3)) (.ret [4])) .skip))) R)))
noncomputable def qr.u2.f (k:Nat) (x0:Sl) (x1:Int) (kn:Sl->Int->Int->M α):M α:=
 kn x0 x1 (w64 (x1 + 1))
noncomputable def qr.u2.c (R:IC):IC:=(.seq (.cut [0, 1, 5, 6] (.ops 4 (zb Try.f36 4))) R)
noncomputable def qr.u3.f (k:Nat) (x0:Sl) (x1 x2:Int) (kn:Sl->Int->Int->M α) (kx0:Sl->Int->M α):M α:=
 cond (decide (x2 < (x0.len:Int))) (
  idxSl x0 x2 4 fun a5=>
  ldI .i64 (a5.add 0) fun x6=>
  ldI .i64 (a5.add 1) fun x7=>
  ldStr (a5.add 2) fun x8=>
  ldI .i64 (a5.add 3) fun x9=>
  new [.int .i64 0, .int .i64 0, .str [], .int .i64 0] fun v10=>
  st1 (v10.add 0) (.int .i64 x6) <|
  st1 (v10.add 1) (.int .i64 x7) <|
  st1 (v10.add 2) (.str x8) <|
  st1 (v10.add 3) (.int .i64 x9) <|
  ldI .i64 (v10.add 0) fun x11=>
  ldI .i64 (v10.add 1) fun x12=>
  ldStr (v10.add 2) fun x13=>
  ldI .i64 (v10.add 3) fun x14=>
  qbe.f k x11 x12 x13 x14 fun r15=>
  cond (!r15) (
   ldI .i64 (v10.add 0) fun x16=>
   ldI .i64 (v10.add 1) fun x17=>
   ldStr (v10.add 2) fun x18=>
   ldI .i64 (v10.add 3) fun x19=>
   idxSl x0 x1 4 fun a20=>
   st1 (a20.add 0) (.int .i64 x16) <|
   st1 (a20.add 1) (.int .i64 x17) <|
   st1 (a20.add 2) (.str x18) <|
   st1 (a20.add 3) (.int .i64 x19) <|
   kn x0 (w64 (x1 + 1)) (w64 (x2 + 1))) (
   kn x0 x1 (w64 (x2 + 1)))) (
  kx0 x0 x1)
noncomputable def qr.u3.c:IC:=(.seq (.seq (.ops 5 (zb Try.f36 5)) (.cond (.tmp 19) .skip (.exit 0 [0, 5]))) (.seq (.block 1 (.seq (.ops 7 (zb Try.f36 7)) (.seq (.ops 8 (zb Try.f36 8)) (.cond (.tmp 29) (.seq (.ops 9 (zb Try.f36 9)) (.ops 10 (zb Try.f36 10))) .skip)))) (.cut [0, 1, 5, 6] (.ops 6 (zb Try.f36 6)))))
noncomputable def qr.u4.l (k:Nat) (kx0:Sl->Int->M α):Nat->Sl->Int->Int->M α
 | 0, _, _, _=>fail
 | j + 1, x0, x1, x2=>
  qr.u3.f k x0 x1 x2 (fun y0 y1 y2=>qr.u4.l k kx0 j y0 y1 y2) kx0
noncomputable abbrev qr.u4.f (k:Nat) (x0:Sl) (x1 x2:Int) (kx0:Sl->Int->M α):M α:=
 qr.u4.l k kx0 k x0 x1 x2
noncomputable def qr.u4.c:IC:=.loop [0, 1, 5, 6] qr.u3.c
noncomputable abbrev qr.u5.f (k:Nat) (x0:Sl) (x1 x2:Int) (kn:Sl->Int->M α):M α:=
 qr.u4.f k x0 x1 x2 (fun y0 y1=>kn y0 y1)
noncomputable def qr.u5.c:IC:=.block 0 qr.u4.c
noncomputable abbrev qr.u6.f (k:Nat) (x0:Sl) (x1:Int) (kn:Sl->Int->M α):M α:=
 qr.u2.f k x0 x1 (fun y0 y1 y2=>qr.u5.f k y0 y1 y2 kn)
noncomputable def qr.u6.c:IC:=qr.u2.c qr.u5.c
noncomputable def qr.u7.f (k:Nat) (x0:Sl) (x1:Int) (kr:Sl->M α):M α:=
 cutSl x0 4 (some x1) none none fun x4=>
 zkk x4 [.int .i64 0, .int .i64 0, .str [], .int .i64 0] <|
 cutSl x0 4 none (some x1) none fun x5=>
 kr x5
noncomputable def qr.u7.c:IC:=(.seq (.ops 11 (zb Try.f36 11)) (.seq (.ops 12 (zb Try.f36 12)) (.ret [4])))
noncomputable abbrev qr.u8.f (k:Nat) (x0:Sl) (x1:Int) (kr:Sl->M α):M α:=
 qr.u6.f k x0 x1 (fun y0 y1=>qr.u7.f k y0 y1 kr)
noncomputable def qr.u8.c:IC:=(.seq qr.u6.c qr.u7.c)
noncomputable abbrev qr.u9.f (k:Nat) (x0:Sl) (kr:Sl->M α):M α:=
 qr.u1.f k x0 (fun y0 y1=>qr.u8.f k y0 y1 kr) kr
noncomputable def qr.u9.c:IC:=qr.u1.c qr.u8.c
noncomputable def qr.f:Nat->Sl->(Sl->M α)->M α
 | 0, _, _=>fail
 | k + 1, x0, ret=>
  qr.u9.f k x0 (fun y0=>
   ret y0)
noncomputable def qat.u1.f (k:Nat) (x0:Ad) (x1:TX) (kr:Bool->M α):M α:=
 ldS ((x0.add 0).add 0) fun x4=>
 idxSl x4 0 4 fun a5=>
 ldI .i64 ((a5.add 0).add 0) fun x6=>
 cond (decide (x6 = 5)) (
  ldS ((x0.add 0).add 0) fun x7=>
  idxSl x7 0 4 fun a8=>
  ldStr ((a8.add 2).add 0) fun x9=>
  kr (decide (x9 = x1))) (
  kr false)
noncomputable def qat.u1.c:IC:=(.seq (.ops 0 (zb Try.f68 0)) (.seq (.ops 1 (zb Try.f68 1)) (.ret [4])))
noncomputable def qat.f:Nat->Ad->TX->(Bool->M α)->M α
 | 0, _, _, _=>fail
 | k + 1, x0, x1, ret=>
  qat.u1.f k x0 x1 (fun y0=>
   ret y0)
noncomputable def qan.u1.f (k:Nat) (x0:Ad) (kr:Ad->M α):M α:=
 new [.int .i64 0, .int .i64 0, .str [], .int .i64 0] fun x3=>
 ldS ((x0.add 0).add 0) fun x4=>
 idxSl x4 0 4 fun a5=>
 ldI .i64 (a5.add 0) fun x6=>
 ldI .i64 (a5.add 1) fun x7=>
 ldStr (a5.add 2) fun x8=>
 ldI .i64 (a5.add 3) fun x9=>
 new [.int .i64 0, .int .i64 0, .str [], .int .i64 0] fun t10=>
 st1 (t10.add 0) (.int .i64 x6) <|
 st1 (t10.add 1) (.int .i64 x7) <|
 st1 (t10.add 2) (.str x8) <|
 st1 (t10.add 3) (.int .i64 x9) <|
 ldS ((x0.add 0).add 0) fun x11=>
 cutSl x11 4 (some 1) none none fun x12=>
 st1 ((x0.add 0).add 0) (.slice x12) <|
 ldI .i64 (t10.add 0) fun x13=>
 ldI .i64 (t10.add 1) fun x14=>
 ldStr (t10.add 2) fun x15=>
 ldI .i64 (t10.add 3) fun x16=>
 st1 (x3.add 0) (.int .i64 x13) <|
 st1 (x3.add 1) (.int .i64 x14) <|
 st1 (x3.add 2) (.str x15) <|
 st1 (x3.add 3) (.int .i64 x16) <|
 kr x3
noncomputable def qan.u1.c:IC:=(.seq (.ops 0 (zb Try.f75 0)) (.seq (.ops 1 (zb Try.f75 1)) (.seq (.ops 2 (zb Try.f75 2)) (.seq (.ops 3 (zb Try.f75 3)) (.ret [2])))))
noncomputable def qan.f:Nat->Ad->(Int->Int->TX->Int->M α)->M α
 | 0, _, _=>fail
 | k + 1, x0, ret=>
  qan.u1.f k x0 (fun y0=>
   ldI .i64 (y0.add 0) fun o501=>
   ldI .i64 (y0.add 1) fun o502=>
   ldStr (y0.add 2) fun o503=>
   ldI .i64 (y0.add 3) fun o504=>
   ret o501 o502 o503 o504)
noncomputable def qak.u1.f (k:Nat) (x0:Ad) (kr:Ad->M α) (kp:V->M α):M α:=
 new [.int .i64 0, .int .i64 0, .str [], .int .i64 0] fun x3=>
 ldI .i64 ((x0.add 1).add 0) fun x4=>
 cond (decide (x4 = 60)) (
  ldS ((x0.add 0).add 0) fun x5=>
  idxSl x5 0 4 fun a6=>
  ldI .i64 ((a6.add 1).add 0) fun x7=>
  kp (.iface 61 (.agg [.int .i64 x7, .int .i64 10]))) (
  ldI .i64 ((x0.add 1).add 0) fun x8=>
  st1 ((x0.add 1).add 0) (.int .i64 (w64 (x8 + 1))) <|
  qan.f k x0 fun r9 r10 r11 r12=>
  st1 (x3.add 0) (.int .i64 r9) <|
  st1 (x3.add 1) (.int .i64 r10) <|
  st1 (x3.add 2) (.str r11) <|
  st1 (x3.add 3) (.int .i64 r12) <|
  kr x3)
noncomputable def qak.u1.c:IC:=(.seq (.ops 0 (zb Try.f69 0)) (.seq (.seq (.ops 1 (zb Try.f69 1)) (.cond (.tmp 7) (.ops 2 (zb Try.f69 2)) .skip)) (.seq (.ops 3 (zb Try.f69 3)) (.seq (.ops 4 (zb Try.f69 4)) (.ret [2])))))
noncomputable def qak.f:Nat->Ad->(V->M α)->(Int->Int->TX->Int->M α)->M α
 | 0, _, _, _=>fail
 | k + 1, x0, pan, ret=>
  qak.u1.f k x0 (fun y0=>
   ldI .i64 (y0.add 0) fun o501=>
   ldI .i64 (y0.add 1) fun o502=>
   ldStr (y0.add 2) fun o503=>
   ldI .i64 (y0.add 3) fun o504=>
   ret o501 o502 o503 o504) pan
noncomputable def qah.u1.f (k:Nat) (x0:Ad) (x1 x2 x3:Int) (x4:TX) (x5:Int) (kr:Int->M α):M α:=
 new [.int .i64 x1, .int .i64 x2, .int .i64 x3, .str x4, .int .i64 x5] fun n8=>
 ldS ((x0.add 2).add 0) fun x9=>
 ldI .i64 (n8.add 0) fun x10=>
 ldI .i64 (n8.add 1) fun x11=>
 ldI .i64 (n8.add 2) fun x12=>
 ldStr (n8.add 3) fun x13=>
 ldI .i64 (n8.add 4) fun x14=>
 new [.int .i64 x10, .int .i64 x11, .int .i64 x12, .str x13, .int .i64 x14] fun r15=>
 ldS ((x0.add 2).add 0) fun y16=>
 need (decide (x9 = y16)) <|
 zq x9 5 48 (⟨some r15, 1, 1, none⟩:Sl) fun x17=>
 st1 ((x0.add 2).add 0) (.slice x17) <|
 ldS ((x0.add 2).add 0) fun x18=>
 kr (w64 ((x18.len:Int) - 1))
noncomputable def qah.u1.c:IC:=(.seq (.ops 0 (zb Try.f70 0)) (.seq (.drawn 1 (zb Try.f70 1) true [.op 0, .op 1, .op 2, .op 3, .op 4, .op 5, .op 6, .look 4, .op 7, .op 8, .op 9, .op 10]) (.seq (.ops 2 (zb Try.f70 2)) (.ret [4]))))
noncomputable def qah.f:Nat->Ad->Int->Int->Int->TX->Int->(Int->M α)->M α
 | 0, _, _, _, _, _, _, _=>fail
 | k + 1, x0, x1, x2, x3, x4, x5, ret=>
  qah.u1.f k x0 x1 x2 x3 x4 x5 (fun y0=>
   ret y0)
noncomputable def qav.u1.f (k:Nat) (x0:Ad) (kp:V->M α):M α:=
 ldS ((x0.add 0).add 0) fun x3=>
 idxSl x3 0 4 fun a4=>
 ldI .i64 ((a4.add 0).add 0) fun x5=>
 cond (decide (x5 = 0)) (
  ldS ((x0.add 0).add 0) fun x6=>
  idxSl x6 0 4 fun a7=>
  ldI .i64 ((a7.add 1).add 0) fun x8=>
  kp (.iface 61 (.agg [.int .i64 x8, .int .i64 6]))) (
  ldS ((x0.add 0).add 0) fun x9=>
  idxSl x9 0 4 fun a10=>
  ldI .i64 ((a10.add 1).add 0) fun x11=>
  kp (.iface 61 (.agg [.int .i64 x11, .int .i64 7])))
noncomputable def qav.u1.c:IC:=(.seq (.ops 0 (zb Try.f39 0)) (.seq (.seq (.ops 1 (zb Try.f39 1)) (.cond (.tmp 10) (.ops 2 (zb Try.f39 2)) .skip)) (.ops 3 (zb Try.f39 3))))
noncomputable def qav.f:Nat->Ad->(V->M α)->(M α)->M α
 | 0, _, _, _=>fail
 | k + 1, x0, pan, ret=>
  qav.u1.f k x0 pan
noncomputable def qbf.u1.f (k:Nat) (x0:TX) (kr:Bool->M α):M α:=
 cond (decide (x0 = [116, 116])) (
  kr true) (
  cond (decide (x0 = [102, 102])) (
   kr true) (
   cond (decide (x0 = [109, 117])) (
    kr true) (
    kr (decide (x0 = [110, 117])))))
noncomputable def qbf.u1.c:IC:=(.seq (.ops 0 (zb Try.f63 0)) (.seq (.ops 1 (zb Try.f63 1)) (.ret [2])))
noncomputable def qbf.f:Nat->TX->(Bool->M α)->M α
 | 0, _, _=>fail
 | k + 1, x0, ret=>
  qbf.u1.f k x0 (fun y0=>
   ret y0)
noncomputable def qaj.u1.f (k:Nat) (x0:Ad) (x1:TX) (kn:M α) (kp:V->M α):M α:=
 qat.f k x0 x1 fun r4=>
 cond (!r4) (
  qav.f k x0 (fun e9=>
   kp e9) (
   qan.f k x0 fun r5 r6 r7 r8=>
   kn)) (
  qan.f k x0 fun r10 r11 r12 r13=>
  kn)
noncomputable def qaj.u1.c:IC:=(.seq (.seq (.ops 0 (zb Try.f77 0)) (.cond (.tmp 7) (.ops 1 (zb Try.f77 1)) .skip)) (.cut [] (.ops 2 (zb Try.f77 2))))
noncomputable def qaj.f:Nat->Ad->TX->(V->M α)->(M α)->M α
 | 0, _, _, _, _=>fail
 | k + 1, x0, x1, pan, ret=>
  qaj.u1.f k x0 x1 (ret) pan
noncomputable def qaq.u1.f (k:Nat) (x0:Ad) (x1:TX) (kr:TX->M α) (kp:V->M α):M α:=
 qat.f k x0 [45] fun r4=>
 cond (!r4) (
  ldS ((x0.add 0).add 0) fun x5=>
  idxSl x5 0 4 fun a6=>
  ldI .i64 ((a6.add 0).add 0) fun x7=>
  cond (!(decide (x7 = 2))) (
   qav.f k x0 (fun e13=>
    kp e13) (
    qan.f k x0 fun r8 r9 r10 r11=>
    qaj.f k x0 x1 (fun e12=>
     kp e12) (
     kr r10))) (
   ldS ((x0.add 0).add 0) fun x14=>
   idxSl x14 0 4 fun a15=>
   ldStr ((a15.add 2).add 0) fun x16=>
   qbf.f k x16 fun r17=>
   cond (r17) (
    qav.f k x0 (fun e23=>
     kp e23) (
     qan.f k x0 fun r18 r19 r20 r21=>
     qaj.f k x0 x1 (fun e22=>
      kp e22) (
      kr r20))) (
    qan.f k x0 fun r24 r25 r26 r27=>
    qaj.f k x0 x1 (fun e28=>
     kp e28) (
     kr r26)))) (
  qan.f k x0 fun r29 r30 r31 r32=>
  qaj.f k x0 x1 (fun e33=>
   kp e33) (
   kr r31))
noncomputable def qaq.u1.c:IC:=(.seq (.ops 0 (zb Try.f76 0)) (.seq (.seq (.ops 1 (zb Try.f76 1)) (.cond (.tmp 28) (.ops 2 (zb Try.f76 2)) .skip)) (.seq (.ops 3 (zb Try.f76 3)) (.seq (.ops 4 (zb Try.f76 4)) (.seq (.ops 5 (zb Try.f76 5)) (.ret [4]))))))
noncomputable def qaq.f:Nat->Ad->TX->(V->M α)->(TX->M α)->M α
 | 0, _, _, _, _=>fail
 | k + 1, x0, x1, pan, ret=>
  qaq.u1.f k x0 x1 (fun y0=>
   ret y0) pan
noncomputable def qai.u1.f (k:Nat) (rr53:Ad->TX->Int->V->(V->M α)->(Int->M α)->M α) (x0:Ad) (kr:Int->M α) (kp:V->M α):M α:=
 rr53 x0 [124] 7 (.func 54 [.ptr (some x0)] []) (fun e4=>
  kp e4) (
  fun r3=>
  kr r3)
noncomputable def qai.u1.c:IC:=(.seq (.ops 0 (zb Try.f38 0)) (.seq (.ops 1 (zb Try.f38 1)) (.ret [2])))
noncomputable def qab.u1.f (k:Nat) (rr54:Ad->(V->M α)->(Int->M α)->M α) (rr71:Ad->(V->M α)->(Int->M α)->M α) (x0:Ad) (x1:TX) (x2:Int) (x3:V) (kn:Ad->TX->Int->V->Int->M α) (kp:V->M α):M α:=
 zco x3 fun f6 ls7 ls8=>
 cond (Nat.beq f6 54) (
  jz ls7 fun v9 ls10=>
  zaj ls10 <|
  zaj ls8 <|
  asP v9 fun x11=>
  asSome x11 fun p12=>
  rr54 p12 (fun e14=>
   kp e14) (
   fun r13=>
   kn x0 x1 x2 x3 r13)) (
  cond (Nat.beq f6 71) (
   jz ls7 fun v15 ls16=>
   zaj ls16 <|
   zaj ls8 <|
   asP v15 fun x17=>
   asSome x17 fun p18=>
   rr71 p18 (fun e20=>
    kp e20) (
    fun r19=>
    kn x0 x1 x2 x3 r19)) (
   fail))
noncomputable def qab.u1.c (R:IC):IC:=(.seq (.ops 0 (zb Try.f53 0)) (.seq (.cut [0, 1, 2, 3, 9] (.drawn 1 (zb Try.f53 1) false [.op 0, .expect 11 [(54, 1, 0), (71, 1, 0)], .op 1, .op 2])) R))
noncomputable def qab.u2.f (k:Nat) (rr54:Ad->(V->M α)->(Int->M α)->M α) (rr71:Ad->(V->M α)->(Int->M α)->M α) (x0:Ad) (x1:TX) (x2:Int) (x3:V) (x4:Int) (kn:Ad->TX->Int->V->Int->M α) (kx0:Int->M α) (kp:V->M α):M α:=
 qat.f k x0 x1 fun r7=>
 cond (r7) (
  qak.f k x0 (fun e33=>
   kp e33) (
   fun r8 r9 r10 r11=>
   new [.int .i64 0, .int .i64 0, .str [], .int .i64 0] fun t12=>
   st1 (t12.add 0) (.int .i64 r8) <|
   st1 (t12.add 1) (.int .i64 r9) <|
   st1 (t12.add 2) (.str r10) <|
   st1 (t12.add 3) (.int .i64 r11) <|
   ldI .i64 ((t12.add 1).add 0) fun x13=>
   zco x3 fun f14 ls15 ls16=>
   cond (Nat.beq f14 54) (
    jz ls15 fun v17 ls18=>
    zaj ls18 <|
    zaj ls16 <|
    asP v17 fun x19=>
    asSome x19 fun p20=>
    rr54 p20 (fun e24=>
     kp e24) (
     fun r21=>
     ldI .i64 ((t12.add 1).add 0) fun y22=>
     need (decide (x13 = y22)) <|
     qah.f k x0 x2 x4 r21 [] x13 fun r23=>
     kn x0 x1 x2 x3 r23)) (
    cond (Nat.beq f14 71) (
     jz ls15 fun v25 ls26=>
     zaj ls26 <|
     zaj ls16 <|
     asP v25 fun x27=>
     asSome x27 fun p28=>
     rr71 p28 (fun e32=>
      kp e32) (
      fun r29=>
      ldI .i64 ((t12.add 1).add 0) fun y30=>
      need (decide (x13 = y30)) <|
      qah.f k x0 x2 x4 r29 [] x13 fun r31=>
      kn x0 x1 x2 x3 r31)) (
     fail)))) (
  kx0 x4)
noncomputable def qab.u2.c:IC:=(.seq (.seq (.ops 2 (zb Try.f53 2)) (.cond (.tmp 15) .skip (.exit 0 [9]))) (.cut [0, 1, 2, 3, 9] (.block 1 (.seq (.ops 3 (zb Try.f53 3)) (.drawn 4 (zb Try.f53 4) true [.op 0, .op 1, .op 2, .op 3, .op 5, .op 6, .expect 21 [(54, 1, 0), (71, 1, 0)], .op 4, .look 6, .op 7, .op 8, .op 9])))))
noncomputable def qab.u3.l (k:Nat) (rr54:Ad->(V->M α)->(Int->M α)->M α) (rr71:Ad->(V->M α)->(Int->M α)->M α) (kx0:Int->M α) (kp:V->M α):Nat->Ad->TX->Int->V->Int->M α
 | 0, _, _, _, _, _=>fail
 | j + 1, x0, x1, x2, x3, x4=>
  qab.u2.f k rr54 rr71 x0 x1 x2 x3 x4 (fun y0 y1 y2 y3 y4=>qab.u3.l k rr54 rr71 kx0 kp j y0 y1 y2 y3 y4) kx0 kp
noncomputable abbrev qab.u3.f (k:Nat) (rr54:Ad->(V->M α)->(Int->M α)->M α) (rr71:Ad->(V->M α)->(Int->M α)->M α) (x0:Ad) (x1:TX) (x2:Int) (x3:V) (x4:Int) (kx0:Int->M α) (kp:V->M α):M α:=
 qab.u3.l k rr54 rr71 kx0 kp k x0 x1 x2 x3 x4
noncomputable def qab.u3.c:IC:=.loop [0, 1, 2, 3, 9] qab.u2.c
noncomputable abbrev qab.u4.f (k:Nat) (rr54:Ad->(V->M α)->(Int->M α)->M α) (rr71:Ad->(V->M α)->(Int->M α)->M α) (x0:Ad) (x1:TX) (x2:Int) (x3:V) (x4:Int) (kn:Int->M α) (kp:V->M α):M α:=
 qab.u3.f k rr54 rr71 x0 x1 x2 x3 x4 (fun y0=>kn y0) kp
noncomputable def qab.u4.c:IC:=.block 0 qab.u3.c
noncomputable def qab.u5.f (k:Nat) (x0:Int) (kr:Int->M α):M α:=
 kr x0
noncomputable def qab.u5.c:IC:=(.seq (.ops 5 (zb Try.f53 5)) (.ret [8]))
noncomputable abbrev qab.u6.f (k:Nat) (rr54:Ad->(V->M α)->(Int->M α)->M α) (rr71:Ad->(V->M α)->(Int->M α)->M α) (x0:Ad) (x1:TX) (x2:Int) (x3:V) (x4:Int) (kr:Int->M α) (kp:V->M α):M α:=
 qab.u4.f k rr54 rr71 x0 x1 x2 x3 x4 (fun y0=>qab.u5.f k y0 kr) kp
noncomputable def qab.u6.c:IC:=(.seq qab.u4.c qab.u5.c)
noncomputable abbrev qab.u7.f (k:Nat) (rr54:Ad->(V->M α)->(Int->M α)->M α) (rr71:Ad->(V->M α)->(Int->M α)->M α) (x0:Ad) (x1:TX) (x2:Int) (x3:V) (kr:Int->M α) (kp:V->M α):M α:=
 qab.u1.f k rr54 rr71 x0 x1 x2 x3 (fun y0 y1 y2 y3 y4=>qab.u6.f k rr54 rr71 y0 y1 y2 y3 y4 kr kp) kp
noncomputable def qab.u7.c:IC:=qab.u1.c qab.u6.c
noncomputable def qao.u1.f (k:Nat) (rr53:Ad->TX->Int->V->(V->M α)->(Int->M α)->M α) (x0:Ad) (kr:Int->M α) (kp:V->M α):M α:=
 rr53 x0 [38] 6 (.func 71 [.ptr (some x0)] []) (fun e4=>
  kp e4) (
  fun r3=>
  kr r3)
noncomputable def qao.u1.c:IC:=(.seq (.ops 0 (zb Try.f54 0)) (.seq (.ops 1 (zb Try.f54 1)) (.ret [2])))
noncomputable def qd.u1.f (k:Nat) (x0:Ad) (kn:Ad->M α):M α:=
 kn x0
noncomputable def qd.u1.c (R:IC):IC:=(.seq (.cut [0] (.ops 0 (zb Try.f71 0))) R)
noncomputable def qd.u2.f (k:Nat) (x0:Ad) (kn:Ad->Bool->M α):M α:=
 qat.f k x0 [126] fun r3=>
 kn x0 r3
noncomputable def qd.u2.c (R:IC):IC:=(.seq (.cut [0, 10] (.ops 1 (zb Try.f71 1))) R)
noncomputable def qd.u3.f (k:Nat) (rr71:Ad->(V->M α)->(Int->M α)->M α) (x0:Ad) (x1:Bool) (kr:Int->M α) (kp:V->M α):M α:=
 qak.f k x0 (fun e14=>
  kp e14) (
  fun r4 r5 r6 r7=>
  new [.int .i64 0, .int .i64 0, .str [], .int .i64 0] fun t8=>
  st1 (t8.add 0) (.int .i64 r4) <|
  st1 (t8.add 1) (.int .i64 r5) <|
  st1 (t8.add 2) (.str r6) <|
  st1 (t8.add 3) (.int .i64 r7) <|
  ldI .i64 ((t8.add 1).add 0) fun x9=>
  rr71 x0 (fun e13=>
   kp e13) (
   fun r10=>
   ldI .i64 ((t8.add 1).add 0) fun y11=>
   need (decide (x9 = y11)) <|
   qah.f k x0 5 r10 0 [] x9 fun r12=>
   kr r12))
noncomputable def qd.u3.c:IC:=(.seq (.ops 2 (zb Try.f71 2)) (.seq (.drawn 3 (zb Try.f71 3) true [.op 0, .op 1, .op 3, .op 4, .op 2, .look 4, .op 5, .op 6, .op 7]) (.ret [2])))
noncomputable def qd.u4.f (k:Nat) (x0:Ad) (x1:Bool) (kn:Ad->Bool->M α):M α:=
 qat.f k x0 [60] fun r4=>
 kn x0 r4
noncomputable def qd.u4.c (R:IC):IC:=(.seq (.cut [0, 22] (.ops 4 (zb Try.f71 4))) R)
noncomputable def qd.u5.f (k:Nat) (rr71:Ad->(V->M α)->(Int->M α)->M α) (x0:Ad) (x1:Bool) (kr:Int->M α) (kp:V->M α):M α:=
 qak.f k x0 (fun e16=>
  kp e16) (
  fun r4 r5 r6 r7=>
  new [.int .i64 0, .int .i64 0, .str [], .int .i64 0] fun t8=>
  st1 (t8.add 0) (.int .i64 r4) <|
  st1 (t8.add 1) (.int .i64 r5) <|
  st1 (t8.add 2) (.str r6) <|
  st1 (t8.add 3) (.int .i64 r7) <|
  qaq.f k x0 [62] (fun e15=>
   kp e15) (
   fun r9=>
   ldI .i64 ((t8.add 1).add 0) fun x10=>
   rr71 x0 (fun e14=>
    kp e14) (
    fun r11=>
    ldI .i64 ((t8.add 1).add 0) fun y12=>
    need (decide (x10 = y12)) <|
    qah.f k x0 8 r11 0 r9 x10 fun r13=>
    kr r13)))
noncomputable def qd.u5.c:IC:=(.seq (.ops 5 (zb Try.f71 5)) (.seq (.ops 6 (zb Try.f71 6)) (.seq (.drawn 7 (zb Try.f71 7) true [.op 0, .op 1, .op 3, .op 4, .op 5, .op 2, .look 5, .op 6, .op 7, .op 8]) (.ret [2]))))
noncomputable def qd.u6.f (k:Nat) (x0:Ad) (x1:Bool) (kn:Ad->Bool->M α):M α:=
 qat.f k x0 [91] fun r4=>
 kn x0 r4
noncomputable def qd.u6.c (R:IC):IC:=(.seq (.cut [0, 37] (.ops 8 (zb Try.f71 8))) R)
noncomputable def qd.u7.f (k:Nat) (rr71:Ad->(V->M α)->(Int->M α)->M α) (x0:Ad) (x1:Bool) (kr:Int->M α) (kp:V->M α):M α:=
 qak.f k x0 (fun e16=>
  kp e16) (
  fun r4 r5 r6 r7=>
  new [.int .i64 0, .int .i64 0, .str [], .int .i64 0] fun t8=>
  st1 (t8.add 0) (.int .i64 r4) <|
  st1 (t8.add 1) (.int .i64 r5) <|
  st1 (t8.add 2) (.str r6) <|
  st1 (t8.add 3) (.int .i64 r7) <|
  qaq.f k x0 [93] (fun e15=>
   kp e15) (
   fun r9=>
   ldI .i64 ((t8.add 1).add 0) fun x10=>
   rr71 x0 (fun e14=>
    kp e14) (
    fun r11=>
    ldI .i64 ((t8.add 1).add 0) fun y12=>
    need (decide (x10 = y12)) <|
    qah.f k x0 9 r11 0 r9 x10 fun r13=>
    kr r13)))
noncomputable def qd.u7.c:IC:=(.seq (.ops 9 (zb Try.f71 9)) (.seq (.ops 10 (zb Try.f71 10)) (.seq (.drawn 11 (zb Try.f71 11) true [.op 0, .op 1, .op 3, .op 4, .op 5, .op 2, .look 5, .op 6, .op 7, .op 8]) (.ret [2]))))
noncomputable def qd.u8.f (k:Nat) (rr38:Ad->(V->M α)->(Int->M α)->M α) (rr78:Ad->(V->M α)->(Int->M α)->M α) (x0:Ad) (x1:Bool) (kn:Ad->M α) (kr:Int->M α) (kp:V->M α):M α:=
 qat.f k x0 [40] fun r4=>
 cond (r4) (
  qan.f k x0 fun r5 r6 r7 r8=>
  rr38 x0 (fun e11=>
   kp e11) (
   fun r9=>
   qaj.f k x0 [41] (fun e10=>
    kp e10) (
    kr r9))) (
  ldS ((x0.add 0).add 0) fun x12=>
  idxSl x12 0 4 fun a13=>
  ldI .i64 ((a13.add 0).add 0) fun x14=>
  cond (decide (x14 = 3)) (
   qak.f k x0 (fun e23=>
    kp e23) (
    fun r15 r16 r17 r18=>
    new [.int .i64 0, .int .i64 0, .str [], .int .i64 0] fun t19=>
    st1 (t19.add 0) (.int .i64 r15) <|
    st1 (t19.add 1) (.int .i64 r16) <|
    st1 (t19.add 2) (.str r17) <|
    st1 (t19.add 3) (.int .i64 r18) <|
    ldStr ((t19.add 2).add 0) fun x20=>
    ldI .i64 ((t19.add 1).add 0) fun x21=>
    qah.f k x0 4 0 0 x20 x21 fun r22=>
    kr r22)) (
   ldS ((x0.add 0).add 0) fun x24=>
   idxSl x24 0 4 fun a25=>
   ldI .i64 ((a25.add 0).add 0) fun x26=>
   cond (decide (x26 = 2)) (
    rr78 x0 (fun e28=>
     kp e28) (
     fun r27=>
     kr r27)) (
    kn x0)))
noncomputable def qd.u8.c:IC:=(.seq (.ops 12 (zb Try.f71 12)) (.cut [0] (.cond (.tmp 52) (.seq (.ops 13 (zb Try.f71 13)) (.seq (.ops 14 (zb Try.f71 14)) (.seq (.ops 15 (zb Try.f71 15)) (.seq (.ops 16 (zb Try.f71 16)) (.ret [2]))))) (.seq (.ops 17 (zb Try.f71 17)) (.cond (.tmp 62) (.seq (.ops 18 (zb Try.f71 18)) (.seq (.ops 19 (zb Try.f71 19)) (.ret [2]))) (.seq (.ops 20 (zb Try.f71 20)) (.cond (.tmp 80) (.seq (.ops 21 (zb Try.f71 21)) (.ret [2])) .skip)))))))
noncomputable abbrev qd.u9.f (k:Nat) (rr71:Ad->(V->M α)->(Int->M α)->M α) (rr38:Ad->(V->M α)->(Int->M α)->M α) (rr78:Ad->(V->M α)->(Int->M α)->M α) (x0:Ad) (x1:Bool) (kn:Ad->M α) (kr:Int->M α) (kp:V->M α):M α:=
 cond x1 (
  qd.u7.f k rr71 x0 x1 kr kp) (
  qd.u8.f k rr38 rr78 x0 x1 kn kr kp)
noncomputable def qd.u9.c:IC:=.cond (.tmp 37) qd.u7.c qd.u8.c
noncomputable abbrev qd.u10.f (k:Nat) (rr71:Ad->(V->M α)->(Int->M α)->M α) (rr38:Ad->(V->M α)->(Int->M α)->M α) (rr78:Ad->(V->M α)->(Int->M α)->M α) (x0:Ad) (x1:Bool) (kn:Ad->M α) (kr:Int->M α) (kp:V->M α):M α:=
 qd.u6.f k x0 x1 (fun y0 y1=>qd.u9.f k rr71 rr38 rr78 y0 y1 kn kr kp)
noncomputable def qd.u10.c:IC:=qd.u6.c qd.u9.c
noncomputable abbrev qd.u11.f (k:Nat) (rr71:Ad->(V->M α)->(Int->M α)->M α) (rr38:Ad->(V->M α)->(Int->M α)->M α) (rr78:Ad->(V->M α)->(Int->M α)->M α) (x0:Ad) (x1:Bool) (kn:Ad->M α) (kr:Int->M α) (kp:V->M α):M α:=
 cond x1 (
  qd.u5.f k rr71 x0 x1 kr kp) (
  qd.u10.f k rr71 rr38 rr78 x0 x1 kn kr kp)
noncomputable def qd.u11.c:IC:=.cond (.tmp 22) qd.u5.c qd.u10.c
noncomputable abbrev qd.u12.f (k:Nat) (rr71:Ad->(V->M α)->(Int->M α)->M α) (rr38:Ad->(V->M α)->(Int->M α)->M α) (rr78:Ad->(V->M α)->(Int->M α)->M α) (x0:Ad) (x1:Bool) (kn:Ad->M α) (kr:Int->M α) (kp:V->M α):M α:=
 qd.u4.f k x0 x1 (fun y0 y1=>qd.u11.f k rr71 rr38 rr78 y0 y1 kn kr kp)
noncomputable def qd.u12.c:IC:=qd.u4.c qd.u11.c
noncomputable abbrev qd.u13.f (k:Nat) (rr71:Ad->(V->M α)->(Int->M α)->M α) (rr38:Ad->(V->M α)->(Int->M α)->M α) (rr78:Ad->(V->M α)->(Int->M α)->M α) (x0:Ad) (x1:Bool) (kn:Ad->M α) (kr:Int->M α) (kp:V->M α):M α:=
 cond x1 (
  qd.u3.f k rr71 x0 x1 kr kp) (
  qd.u12.f k rr71 rr38 rr78 x0 x1 kn kr kp)
noncomputable def qd.u13.c:IC:=.cond (.tmp 10) qd.u3.c qd.u12.c
noncomputable abbrev qd.u14.f (k:Nat) (rr71:Ad->(V->M α)->(Int->M α)->M α) (rr38:Ad->(V->M α)->(Int->M α)->M α) (rr78:Ad->(V->M α)->(Int->M α)->M α) (x0:Ad) (kn:Ad->M α) (kr:Int->M α) (kp:V->M α):M α:=
 qd.u2.f k x0 (fun y0 y1=>qd.u13.f k rr71 rr38 rr78 y0 y1 kn kr kp)
noncomputable def qd.u14.c:IC:=qd.u2.c qd.u13.c
noncomputable abbrev qd.u15.f (k:Nat) (rr71:Ad->(V->M α)->(Int->M α)->M α) (rr38:Ad->(V->M α)->(Int->M α)->M α) (rr78:Ad->(V->M α)->(Int->M α)->M α) (x0:Ad) (kn:Ad->M α) (kr:Int->M α) (kp:V->M α):M α:=
 qd.u14.f k rr71 rr38 rr78 x0 (fun y0=>kn y0) kr kp
noncomputable def qd.u15.c:IC:=.block 0 qd.u14.c
noncomputable def qd.u16.f (k:Nat) (x0:Ad) (kr:Int->M α) (kp:V->M α):M α:=
 qav.f k x0 (fun e3=>
  kp e3) (
  kr 0)
noncomputable def qd.u16.c:IC:=(.seq (.ops 22 (zb Try.f71 22)) (.seq (.ops 23 (zb Try.f71 23)) (.ret [2])))
noncomputable abbrev qd.u17.f (k:Nat) (rr71:Ad->(V->M α)->(Int->M α)->M α) (rr38:Ad->(V->M α)->(Int->M α)->M α) (rr78:Ad->(V->M α)->(Int->M α)->M α) (x0:Ad) (kr:Int->M α) (kp:V->M α):M α:=
 qd.u15.f k rr71 rr38 rr78 x0 (fun y0=>qd.u16.f k y0 kr kp) kr kp
noncomputable def qd.u17.c:IC:=(.seq qd.u15.c qd.u16.c)
noncomputable abbrev qd.u18.f (k:Nat) (rr71:Ad->(V->M α)->(Int->M α)->M α) (rr38:Ad->(V->M α)->(Int->M α)->M α) (rr78:Ad->(V->M α)->(Int->M α)->M α) (x0:Ad) (kr:Int->M α) (kp:V->M α):M α:=
 qd.u1.f k x0 (fun y0=>qd.u17.f k rr71 rr38 rr78 y0 kr kp)
noncomputable def qd.u18.c:IC:=qd.u1.c qd.u17.c
noncomputable def qae.u1.f (k:Nat) (x0:Ad) (kn:Ad->Ad->Int->M α) (kr:Int->M α) (kp:V->M α):M α:=
 qak.f k x0 (fun e16=>
  kp e16) (
  fun r3 r4 r5 r6=>
  new [.int .i64 0, .int .i64 0, .str [], .int .i64 0] fun t7=>
  st1 (t7.add 0) (.int .i64 r3) <|
  st1 (t7.add 1) (.int .i64 r4) <|
  st1 (t7.add 2) (.str r5) <|
  st1 (t7.add 3) (.int .i64 r6) <|
  ldStr ((t7.add 2).add 0) fun x8=>
  cond (decide (x8 = [116, 116])) (
   ldI .i64 ((t7.add 1).add 0) fun x9=>
   qah.f k x0 1 0 0 [] x9 fun r10=>
   kr r10) (
   cond (decide (x8 = [102, 102])) (
    ldI .i64 ((t7.add 1).add 0) fun x11=>
    qah.f k x0 2 0 0 [] x11 fun r12=>
    kr r12) (
    cond (decide (x8 = [109, 117])) (
     kn x0 t7 10) (
     cond (decide (x8 = [110, 117])) (
      kn x0 t7 11) (
      ldStr ((t7.add 2).add 0) fun x13=>
      ldI .i64 ((t7.add 1).add 0) fun x14=>
      qah.f k x0 3 0 0 x13 x14 fun r15=>
      kr r15)))))
noncomputable def qae.u1.c (R:IC):IC:=(.seq (.ops 0 (zb Try.f78 0)) (.seq (.ops 1 (zb Try.f78 1)) (.seq (.ops 2 (zb Try.f78 2)) (.seq (.cut [0, 3, 4] (.seq (.ops 3 (zb Try.f78 3)) (.block 0 (.seq (.ops 5 (zb Try.f78 5)) (.cond (.tmp 17) (.seq (.ops 6 (zb Try.f78 6)) (.ret [2])) (.seq (.ops 7 (zb Try.f78 7)) (.cond (.tmp 24) (.seq (.ops 8 (zb Try.f78 8)) (.ret [2])) (.seq (.ops 9 (zb Try.f78 9)) (.cond (.tmp 31) (.ops 10 (zb Try.f78 10)) (.seq (.ops 11 (zb Try.f78 11)) (.cond (.tmp 33) .skip (.seq (.ops 4 (zb Try.f78 4)) (.ret [2]))))))))))))) R))))
noncomputable def qae.u2.f (k:Nat) (x0 x1:Ad) (x2:Int) (kn:Ad->Ad->Int->M α) (kp:V->M α):M α:=
 ldS ((x0.add 0).add 0) fun x5=>
 idxSl x5 0 4 fun a6=>
 ldI .i64 ((a6.add 0).add 0) fun x7=>
 cond (!(decide (x7 = 3))) (
  qav.f k x0 (fun e8=>
   kp e8) (
   kn x0 x1 x2)) (
  kn x0 x1 x2)
noncomputable def qae.u2.c (R:IC):IC:=(.seq (.cut [0, 3, 4] (.seq (.ops 12 (zb Try.f78 12)) (.cond (.tmp 42) (.ops 13 (zb Try.f78 13)) .skip))) R)
noncomputable def qae.u3.f (k:Nat) (rr38:Ad->(V->M α)->(Int->M α)->M α) (x0 x1:Ad) (x2:Int) (kr:Int->M α) (kp:V->M α):M α:=
 qan.f k x0 fun r5 r6 r7 r8=>
 qaj.f k x0 [46] (fun e14=>
  kp e14) (
  ldI .i64 ((x1.add 1).add 0) fun x9=>
  rr38 x0 (fun e13=>
   kp e13) (
   fun r10=>
   ldI .i64 ((x1.add 1).add 0) fun y11=>
   need (decide (x9 = y11)) <|
   qah.f k x0 x2 r10 0 r7 x9 fun r12=>
   kr r12))
noncomputable def qae.u3.c:IC:=(.seq (.ops 14 (zb Try.f78 14)) (.seq (.ops 15 (zb Try.f78 15)) (.seq (.drawn 16 (zb Try.f78 16) true [.op 0, .op 1, .op 2, .op 4, .op 5, .op 6, .op 3, .look 6, .op 7, .op 8, .op 9]) (.ret [2]))))
noncomputable abbrev qae.u4.f (k:Nat) (rr38:Ad->(V->M α)->(Int->M α)->M α) (x0 x1:Ad) (x2:Int) (kr:Int->M α) (kp:V->M α):M α:=
 qae.u2.f k x0 x1 x2 (fun y0 y1 y2=>qae.u3.f k rr38 y0 y1 y2 kr kp) kp
noncomputable def qae.u4.c:IC:=qae.u2.c qae.u3.c
noncomputable abbrev qae.u5.f (k:Nat) (rr38:Ad->(V->M α)->(Int->M α)->M α) (x0:Ad) (kr:Int->M α) (kp:V->M α):M α:=
 qae.u1.f k x0 (fun y0 y1 y2=>qae.u4.f k rr38 y0 y1 y2 kr kp) kr kp
noncomputable def qae.u5.c:IC:=qae.u1.c qae.u4.c
mutual
noncomputable def qai.f:Nat->Ad->(V->M α)->(Int->M α)->M α
 | 0, _, _, _=>fail
 | k + 1, x0, pan, ret=>
  qai.u1.f k (fun z0 z1 z2 z3 z4 z5=>qab.f k z0 z1 z2 z3 z4 z5) x0 (fun y0=>
   ret y0) pan
noncomputable def qab.f:Nat->Ad->TX->Int->V->(V->M α)->(Int->M α)->M α
 | 0, _, _, _, _, _, _=>fail
 | k + 1, x0, x1, x2, x3, pan, ret=>
  qab.u7.f k (fun z0 z1 z2=>qao.f k z0 z1 z2) (fun z0 z1 z2=>qd.f k z0 z1 z2) x0 x1 x2 x3 (fun y0=>
   ret y0) pan
noncomputable def qao.f:Nat->Ad->(V->M α)->(Int->M α)->M α
 | 0, _, _, _=>fail
 | k + 1, x0, pan, ret=>
  qao.u1.f k (fun z0 z1 z2 z3 z4 z5=>qab.f k z0 z1 z2 z3 z4 z5) x0 (fun y0=>
   ret y0) pan
noncomputable def qd.f:Nat->Ad->(V->M α)->(Int->M α)->M α
 | 0, _, _, _=>fail
 | k + 1, x0, pan, ret=>
  qd.u18.f k (fun z0 z1 z2=>qd.f k z0 z1 z2) (fun z0 z1 z2=>qai.f k z0 z1 z2) (fun z0 z1 z2=>qae.f k z0 z1 z2) x0 (fun y0=>
   ret y0) pan
noncomputable def qae.f:Nat->Ad->(V->M α)->(Int->M α)->M α
 | 0, _, _, _=>fail
 | k + 1, x0, pan, ret=>
  qae.u5.f k (fun z0 z1 z2=>qai.f k z0 z1 z2) x0 (fun y0=>
   ret y0) pan
end
noncomputable def qaf.u1.f (k:Nat) (x0:TX) (kn:Ad->Ad->Sl->M α) (kr:Ad->Ad->M α):M α:=
 new [.slice Sl.nil] fun f3=>
 new [.nilIface] fun err4=>
 ql.f k x0 fun r5 r6=>
 need (Nat.beq (V.cells r6).length 1) <|
 stL err4 0 (V.cells r6) <|
 ld (err4.add 0) fun x7=>
 asNil x7 fun b8=>
 cond (!b8) (
  ld (err4.add 0) fun x9=>
  st1 (f3.add 0) (.slice Sl.nil) <|
  zjs x9 (
   need (Nat.beq (V.cells x9).length 1) <|
   stL err4 0 (V.cells x9) <|
   kr f3 err4) (
   ld (err4.add 0) fun x10=>
   zmy (V.cells x9) [x10] <|
   need (Nat.beq (V.cells x9).length 1) <|
   stL err4 0 (V.cells x9) <|
   kr f3 err4)) (
  kn f3 err4 r5)
noncomputable def qaf.u1.c (R:IC):IC:=(.seq (.ops 0 (zb Try.f21 0)) (.seq (.ops 1 (zb Try.f21 1)) (.seq (.cut [2, 3, 4] (.seq (.ops 2 (zb Try.f21 2)) (.cond (.tmp 12) (.seq (.drawn 3 (zb Try.f21 3) true [.op 0, .op 1, .look 0, .op 2]) (.ret [2, 3])) .skip))) R)))
noncomputable def qaf.u2.f (k:Nat) (x0 x1:Ad) (x2:Sl) (kr:Ad->Ad->M α) (kp:V->M α):M α:=
 qr.f k x2 fun r5=>
 new [.slice r5, .int .i64 0, .slice Sl.nil] fun x6=>
 qai.f k x6 (fun e14=>
  kp e14) (
  fun r7=>
  ldS ((x6.add 0).add 0) fun x8=>
  idxSl x8 0 4 fun a9=>
  ldI .i64 ((a9.add 0).add 0) fun x10=>
  cond (!(decide (x10 = 0))) (
   qav.f k x6 (fun e12=>
    kp e12) (
    ldS ((x6.add 2).add 0) fun x11=>
    st1 (x0.add 0) (.slice x11) <|
    st1 (x1.add 0) (.nilIface) <|
    kr x0 x1)) (
   ldS ((x6.add 2).add 0) fun x13=>
   st1 (x0.add 0) (.slice x13) <|
   st1 (x1.add 0) (.nilIface) <|
   kr x0 x1))
noncomputable def qaf.u2.c:IC:=(.seq (.ops 5 (zb Try.f21 5)) (.seq (.ops 6 (zb Try.f21 6)) (.seq (.seq (.ops 7 (zb Try.f21 7)) (.cond (.tmp 28) (.ops 8 (zb Try.f21 8)) .skip)) (.seq (.ops 9 (zb Try.f21 9)) (.ret [2, 3])))))
noncomputable def qaf.as:List IC:=[(.ops 0 (zb Try.f21 0)), (.ops 1 (zb Try.f21 1)), (.cut [2, 3, 4] (.seq (.ops 2 (zb Try.f21 2)) (.cond (.tmp 12) (.seq (.drawn 3 (zb Try.f21 3) true [.op 0, .op 1, .look 0, .op 2]) (.ret [2, 3])) .skip)))]
noncomputable def qaf.C.u1.f (k:Nat) (x0 x1:Ad) (x2:V) (kn:M α):M α:=
 asNil x2 fun b5=>
 cond (b5) (
  kn) (
  zie x2 61 (fun w6=>
   new [.int .i64 0, .int .i64 0] fun s7=>
   need (Nat.beq (V.cells w6).length 2) <|
   stL s7 0 (V.cells w6) <|
   st1 (x0.add 0) (.slice Sl.nil) <|
   st1 (x1.add 0) (.iface 62 (.ptr (some (s7.add 0)))) <|
   kn) (
   fail))
noncomputable def qaf.C.u1.c:IC:=(.cut [] (.block 0 (.seq (.ops 3 (zb Try.f35 3)) (.cond (.tmp 7) (.ops 4 (zb Try.f35 4)) (.seq (.ops 5 (zb Try.f35 5)) (.cond (.tmp 9) (.seq (.ops 6 (zb Try.f35 6)) (.ops 7 (zb Try.f35 7))) (.seq (.ops 1 (zb Try.f35 1)) (.dead (.region 2 (zb Try.f35 2) false)))))))))
noncomputable def qaf.f:Nat->TX->(Sl->V->M α)->M α
 | 0, _, _=>fail
 | k + 1, x0, ret=>
  qaf.u1.f k x0 (fun y0 y1 y2=>
   qaf.u2.f k y0 y1 y2 (fun z0 z1=>
    qaf.C.u1.f k y0 y1 .nilIface (
     ldS (z0.add 0) fun o501=>
     ld (z1.add 0) fun o502=>
     ret o501 o502)) (fun v=>
    qaf.C.u1.f k y0 y1 v (
     ldS (y0.add 0) fun o501=>
     ld (y1.add 0) fun o502=>
     ret o501 o502))) (fun y0 y1=>
   ldS (y0.add 0) fun o501=>
   ld (y1.add 0) fun o502=>
   ret o501 o502)
noncomputable def qaz.u1.f (k:Nat) (x0:Sl) (kr:Sl->M α):M α:=
 cond (x0.ad.isNone) (
  kr Sl.nil) (
  new [] fun r3=>
  zq (⟨some r3, 0, 0, none⟩:Sl) 5 48 x0 fun x4=>
  kr x4)
noncomputable def qaz.u1.c:IC:=(.seq (.ops 0 (zb Try.f45 0)) (.seq (.seq (.ops 1 (zb Try.f45 1)) (.cond (.tmp 4) (.seq (.ops 2 (zb Try.f45 2)) (.ret [2])) .skip)) (.seq (.ops 3 (zb Try.f45 3)) (.ret [2]))))
noncomputable def qaz.f:Nat->Sl->(Sl->M α)->M α
 | 0, _, _=>fail
 | k + 1, x0, ret=>
  qaz.u1.f k x0 (fun y0=>
   ret y0)
noncomputable def qz.u1.f (k:Nat) (x0:TX) (x1 x2:Int) (kn:TX->M α) (kr:Bool->M α):M α:=
 cond (decide ((x0.length:Int) < 1)) (
  kr false) (
  cond (decide (8 < (x0.length:Int))) (
   kr false) (
   idxStr x0 0 fun c5=>
   cond (decide (c5 < x1)) (
    kr false) (
    idxStr x0 0 fun c6=>
    cond (decide (x2 < c6)) (
     kr false) (
     kn x0))))
noncomputable def qz.u1.c (R:IC):IC:=(.seq (.ops 0 (zb Try.f62 0)) (.seq (.cut [0] (.seq (.ops 1 (zb Try.f62 1)) (.cond (.tmp 28) (.seq (.ops 2 (zb Try.f62 2)) (.ret [6])) .skip))) R))
noncomputable def qz.u2.f (k:Nat) (x0:TX) (kn:TX->Int->Int->M α):M α:=
 kn x0 (x0.length:Int) 0
noncomputable def qz.u2.c (R:IC):IC:=(.seq (.cut [0, 30, 31] (.ops 3 (zb Try.f62 3))) R)
noncomputable def qz.u3.f (k:Nat) (x0:TX) (x1 x2:Int) (kn:TX->Int->Int->M α) (kr:Bool->M α) (kx0:M α):M α:=
 cond (decide (x2 < x1)) (
  idxStr x0 x2 fun c5=>
  cond (decide (bits .or .u8 c5 32 < 97)) (
   cond (decide (c5 < 48)) (
    cond (!(decide (c5 = 95))) (
     kr false) (
     kn x0 x1 (w64 (x2 + 1)))) (
    cond (decide (57 < c5)) (
     cond (!(decide (c5 = 95))) (
      kr false) (
      kn x0 x1 (w64 (x2 + 1)))) (
     kn x0 x1 (w64 (x2 + 1))))) (
   cond (decide (122 < bits .or .u8 c5 32)) (
    cond (decide (c5 < 48)) (
     cond (!(decide (c5 = 95))) (
      kr false) (
      kn x0 x1 (w64 (x2 + 1)))) (
     cond (decide (57 < c5)) (
      cond (!(decide (c5 = 95))) (
       kr false) (
       kn x0 x1 (w64 (x2 + 1)))) (
      kn x0 x1 (w64 (x2 + 1))))) (
    kn x0 x1 (w64 (x2 + 1))))) (
  kx0)
noncomputable def qz.u3.c:IC:=(.seq (.ops 4 (zb Try.f62 4)) (.seq (.cond (.tmp 32) .skip (.exit 0 [])) (.seq (.block 1 (.seq (.ops 5 (zb Try.f62 5)) (.seq (.ops 6 (zb Try.f62 6)) (.seq (.ops 7 (zb Try.f62 7)) (.cond (.tmp 56) (.seq (.ops 8 (zb Try.f62 8)) (.ret [6])) .skip))))) (.cut [0, 30, 31] (.ops 9 (zb Try.f62 9))))))
noncomputable def qz.u4.l (k:Nat) (kr:Bool->M α) (kx0:M α):Nat->TX->Int->Int->M α
 | 0, _, _, _=>fail
 | j + 1, x0, x1, x2=>
  qz.u3.f k x0 x1 x2 (fun y0 y1 y2=>qz.u4.l k kr kx0 j y0 y1 y2) kr kx0
noncomputable abbrev qz.u4.f (k:Nat) (x0:TX) (x1 x2:Int) (kr:Bool->M α) (kx0:M α):M α:=
 qz.u4.l k kr kx0 k x0 x1 x2
noncomputable def qz.u4.c:IC:=.loop [0, 30, 31] qz.u3.c
noncomputable abbrev qz.u5.f (k:Nat) (x0:TX) (x1 x2:Int) (kn:M α) (kr:Bool->M α):M α:=
 qz.u4.f k x0 x1 x2 kr (kn)
noncomputable def qz.u5.c:IC:=.block 0 qz.u4.c
noncomputable abbrev qz.u6.f (k:Nat) (x0:TX) (kn:M α) (kr:Bool->M α):M α:=
 qz.u2.f k x0 (fun y0 y1 y2=>qz.u5.f k y0 y1 y2 kn kr)
noncomputable def qz.u6.c:IC:=qz.u2.c qz.u5.c
noncomputable def qz.u7.f (k:Nat) (kr:Bool->M α):M α:=
 kr true
noncomputable def qz.u7.c:IC:=(.seq (.ops 10 (zb Try.f62 10)) (.ret [6]))
noncomputable abbrev qz.u8.f (k:Nat) (x0:TX) (kr:Bool->M α):M α:=
 qz.u6.f k x0 (qz.u7.f k kr) kr
noncomputable def qz.u8.c:IC:=(.seq qz.u6.c qz.u7.c)
noncomputable abbrev qz.u9.f (k:Nat) (x0:TX) (x1 x2:Int) (kr:Bool->M α):M α:=
 qz.u1.f k x0 x1 x2 (fun y0=>qz.u8.f k y0 kr) kr
noncomputable def qz.u9.c:IC:=qz.u1.c qz.u8.c
noncomputable def qz.f:Nat->TX->Int->Int->(Bool->M α)->M α
 | 0, _, _, _, _=>fail
 | k + 1, x0, x1, x2, ret=>
  qz.u9.f k x0 x1 x2 (fun y0=>
   ret y0)
noncomputable def qax.u1.f (k:Nat) (x0:TX) (kr:Bool->M α):M α:=
 qz.f k x0 97 122 fun r3=>
 cond (r3) (
  qbf.f k x0 fun r4=>
  kr (!r4)) (
  kr false)
noncomputable def qax.u1.c:IC:=(.seq (.ops 0 (zb Try.f47 0)) (.seq (.ops 1 (zb Try.f47 1)) (.ret [2])))
noncomputable def qax.f:Nat->TX->(Bool->M α)->M α
 | 0, _, _=>fail
 | k + 1, x0, ret=>
  qax.u1.f k x0 (fun y0=>
   ret y0)
noncomputable def qam.u1.f (k:Nat) (x0:TX) (kr:Bool->M α):M α:=
 qz.f k x0 65 90 fun r3=>
 kr r3
noncomputable def qam.u1.c:IC:=(.seq (.ops 0 (zb Try.f48 0)) (.seq (.ops 1 (zb Try.f48 1)) (.ret [2])))
noncomputable def qam.f:Nat->TX->(Bool->M α)->M α
 | 0, _, _=>fail
 | k + 1, x0, ret=>
  qam.u1.f k x0 (fun y0=>
   ret y0)
noncomputable def qbl.u1.f (k:Nat) (x0 x1 x2:Int) (x3:TX) (x4:Int) (kr:Int->Bool->M α):M α:=
 new [.int .i64 x0, .int .i64 x1, .int .i64 x2, .str x3, .int .i64 x4] fun n7=>
 ldI .i64 ((n7.add 0).add 0) fun x8=>
 cond (decide (x8 = 1)) (
  cond (decide (x8 = 1)) (
   ldStr ((n7.add 3).add 0) fun x9=>
   kr 0 (decide (x9 = []))) (
   cond (decide (x8 = 3)) (
    ldStr ((n7.add 3).add 0) fun x10=>
    qax.f k x10 fun r11=>
    kr 0 r11) (
    cond (decide (x8 = 4)) (
     ldStr ((n7.add 3).add 0) fun x12=>
     qam.f k x12 fun r13=>
     kr 0 r13) (
     cond (decide (x8 = 5)) (
      ldStr ((n7.add 3).add 0) fun x14=>
      kr 1 (decide (x14 = []))) (
      cond (decide (x8 = 8)) (
       cond (decide (x8 = 8)) (
        ldStr ((n7.add 3).add 0) fun x15=>
        cond (decide (x15 = [45])) (
         kr 1 true) (
         ldStr ((n7.add 3).add 0) fun x16=>
         qax.f k x16 fun r17=>
         kr 1 r17)) (
        cond (decide (x8 = 10)) (
         cond (decide (x8 = 10)) (
          ldStr ((n7.add 3).add 0) fun x18=>
          qam.f k x18 fun r19=>
          kr 1 r19) (
          cond (decide (x8 = 6)) (
           cond (decide (x8 = 6)) (
            ldStr ((n7.add 3).add 0) fun x20=>
            kr 2 (decide (x20 = []))) (
            kr 0 false)) (
           cond (decide (x8 = 7)) (
            ldStr ((n7.add 3).add 0) fun x21=>
            kr 2 (decide (x21 = []))) (
            kr 0 false)))) (
         cond (decide (x8 = 11)) (
          ldStr ((n7.add 3).add 0) fun x22=>
          qam.f k x22 fun r23=>
          kr 1 r23) (
          cond (decide (x8 = 6)) (
           cond (decide (x8 = 6)) (
            ldStr ((n7.add 3).add 0) fun x24=>
            kr 2 (decide (x24 = []))) (
            kr 0 false)) (
           cond (decide (x8 = 7)) (
            ldStr ((n7.add 3).add 0) fun x25=>
            kr 2 (decide (x25 = []))) (
            kr 0 false)))))) (
       cond (decide (x8 = 9)) (
        ldStr ((n7.add 3).add 0) fun x26=>
        cond (decide (x26 = [45])) (
         kr 1 true) (
         ldStr ((n7.add 3).add 0) fun x27=>
         qax.f k x27 fun r28=>
         kr 1 r28)) (
        cond (decide (x8 = 10)) (
         cond (decide (x8 = 10)) (
          ldStr ((n7.add 3).add 0) fun x29=>
          qam.f k x29 fun r30=>
          kr 1 r30) (
          cond (decide (x8 = 6)) (
           cond (decide (x8 = 6)) (
            ldStr ((n7.add 3).add 0) fun x31=>
            kr 2 (decide (x31 = []))) (
            kr 0 false)) (
           cond (decide (x8 = 7)) (
            ldStr ((n7.add 3).add 0) fun x32=>
            kr 2 (decide (x32 = []))) (
            kr 0 false)))) (
         cond (decide (x8 = 11)) (
          ldStr ((n7.add 3).add 0) fun x33=>
          qam.f k x33 fun r34=>
          kr 1 r34) (
          cond (decide (x8 = 6)) (
           cond (decide (x8 = 6)) (
            ldStr ((n7.add 3).add 0) fun x35=>
            kr 2 (decide (x35 = []))) (
            kr 0 false)) (
           cond (decide (x8 = 7)) (
            ldStr ((n7.add 3).add 0) fun x36=>
            kr 2 (decide (x36 = []))) (
            kr 0 false))))))))))) (
  cond (decide (x8 = 2)) (
   ldStr ((n7.add 3).add 0) fun x37=>
   kr 0 (decide (x37 = []))) (
   cond (decide (x8 = 3)) (
    ldStr ((n7.add 3).add 0) fun x38=>
    qax.f k x38 fun r39=>
    kr 0 r39) (
    cond (decide (x8 = 4)) (
     ldStr ((n7.add 3).add 0) fun x40=>
     qam.f k x40 fun r41=>
     kr 0 r41) (
     cond (decide (x8 = 5)) (
      ldStr ((n7.add 3).add 0) fun x42=>
      kr 1 (decide (x42 = []))) (
      cond (decide (x8 = 8)) (
       cond (decide (x8 = 8)) (
        ldStr ((n7.add 3).add 0) fun x43=>
        cond (decide (x43 = [45])) (
         kr 1 true) (
         ldStr ((n7.add 3).add 0) fun x44=>
         qax.f k x44 fun r45=>
         kr 1 r45)) (
        cond (decide (x8 = 10)) (
         cond (decide (x8 = 10)) (
          ldStr ((n7.add 3).add 0) fun x46=>
          qam.f k x46 fun r47=>
          kr 1 r47) (
          cond (decide (x8 = 6)) (
           cond (decide (x8 = 6)) (
            ldStr ((n7.add 3).add 0) fun x48=>
            kr 2 (decide (x48 = []))) (
            kr 0 false)) (
           cond (decide (x8 = 7)) (
            ldStr ((n7.add 3).add 0) fun x49=>
            kr 2 (decide (x49 = []))) (
            kr 0 false)))) (
         cond (decide (x8 = 11)) (
          ldStr ((n7.add 3).add 0) fun x50=>
          qam.f k x50 fun r51=>
          kr 1 r51) (
          cond (decide (x8 = 6)) (
           cond (decide (x8 = 6)) (
            ldStr ((n7.add 3).add 0) fun x52=>
            kr 2 (decide (x52 = []))) (
            kr 0 false)) (
           cond (decide (x8 = 7)) (
            ldStr ((n7.add 3).add 0) fun x53=>
            kr 2 (decide (x53 = []))) (
            kr 0 false)))))) (
       cond (decide (x8 = 9)) (
        ldStr ((n7.add 3).add 0) fun x54=>
        cond (decide (x54 = [45])) (
         kr 1 true) (
         ldStr ((n7.add 3).add 0) fun x55=>
         qax.f k x55 fun r56=>
         kr 1 r56)) (
        cond (decide (x8 = 10)) (
         cond (decide (x8 = 10)) (
          ldStr ((n7.add 3).add 0) fun x57=>
          qam.f k x57 fun r58=>
          kr 1 r58) (
          cond (decide (x8 = 6)) (
           cond (decide (x8 = 6)) (
            ldStr ((n7.add 3).add 0) fun x59=>
            kr 2 (decide (x59 = []))) (
            kr 0 false)) (
           cond (decide (x8 = 7)) (
            ldStr ((n7.add 3).add 0) fun x60=>
            kr 2 (decide (x60 = []))) (
            kr 0 false)))) (
         cond (decide (x8 = 11)) (
          ldStr ((n7.add 3).add 0) fun x61=>
          qam.f k x61 fun r62=>
          kr 1 r62) (
          cond (decide (x8 = 6)) (
           cond (decide (x8 = 6)) (
            ldStr ((n7.add 3).add 0) fun x63=>
            kr 2 (decide (x63 = []))) (
            kr 0 false)) (
           cond (decide (x8 = 7)) (
            ldStr ((n7.add 3).add 0) fun x64=>
            kr 2 (decide (x64 = []))) (
            kr 0 false)))))))))))
noncomputable def qbl.u1.c:IC:=(.seq (.ops 0 (zb Try.f30 0)) (.seq (.seq (.ops 1 (zb Try.f30 1)) (.block 0 (.seq (.seq (.ops 2 (zb Try.f30 2)) (.cond (.tmp 6) .skip (.ops 3 (zb Try.f30 3)))) (.cond (.tmp 6) (.seq (.drawn 4 (zb Try.f30 4) true [.op 0, .op 1, .op 2, .op 3, .op 4]) (.ret [2, 3])) (.seq (.ops 5 (zb Try.f30 5)) (.cond (.tmp 12) (.seq (.ops 6 (zb Try.f30 6)) (.ret [2, 3])) (.seq (.ops 7 (zb Try.f30 7)) (.cond (.tmp 17) (.seq (.ops 8 (zb Try.f30 8)) (.ret [2, 3])) (.seq (.ops 9 (zb Try.f30 9)) (.cond (.tmp 22) (.seq (.drawn 10 (zb Try.f30 10) true [.op 0, .op 1, .op 2, .op 3, .op 4]) (.ret [2, 3])) (.seq (.seq (.ops 11 (zb Try.f30 11)) (.cond (.tmp 27) .skip (.ops 12 (zb Try.f30 12)))) (.cond (.tmp 27) (.seq (.ops 13 (zb Try.f30 13)) (.ret [2, 3])) (.seq (.seq (.ops 14 (zb Try.f30 14)) (.cond (.tmp 38) .skip (.ops 15 (zb Try.f30 15)))) (.cond (.tmp 38) (.seq (.ops 16 (zb Try.f30 16)) (.ret [2, 3])) (.seq (.seq (.ops 17 (zb Try.f30 17)) (.cond (.tmp 44) .skip (.ops 18 (zb Try.f30 18)))) (.cond (.tmp 44) (.seq (.drawn 19 (zb Try.f30 19) true [.op 0, .op 1, .op 2, .op 3, .op 4]) (.ret [2, 3])) .skip)))))))))))))))) (.seq (.ops 20 (zb Try.f30 20)) (.ret [2, 3]))))
noncomputable def qbl.f:Nat->Int->Int->Int->TX->Int->(Int->Bool->M α)->M α
 | 0, _, _, _, _, _, _=>fail
 | k + 1, x0, x1, x2, x3, x4, ret=>
  qbl.u1.f k x0 x1 x2 x3 x4 (fun y0 y1=>
   ret y0 y1)
noncomputable def qbs.u1.f (k:Nat) (x0:Int) (kr:Bool->M α):M α:=
 kr (!(decide (x0 = 0)))
noncomputable def qbs.u1.c:IC:=(.seq (.ops 0 (zb Try.f32 0)) (.seq (.ops 1 (zb Try.f32 1)) (.ret [2])))
noncomputable def qbs.f:Nat->Int->(Bool->M α)->M α
 | 0, _, _=>fail
 | k + 1, x0, ret=>
  qbs.u1.f k x0 (fun y0=>
   ret y0)
noncomputable def qaa.u1.f (k:Nat) (x0:Sl) (kn:Sl->M α):M α:=
 kn x0
noncomputable def qaa.u1.c (R:IC):IC:=(.seq (.cut [0, 1] (.ops 0 (zb Try.f49 0))) R)
noncomputable def qaa.u2.f (k:Nat) (x0:Sl) (kn:Sl->Int->Int->M α):M α:=
 kn x0 (x0.len:Int) 0
noncomputable def qaa.u2.c (R:IC):IC:=(.seq (.cut [0, 1, 7, 8] (.ops 1 (zb Try.f49 1))) R)
noncomputable def qaa.u3.f (k:Nat) (x0:Sl) (x1 x2:Int) (kn:Sl->Int->Int->M α) (kr:Int->M α) (kx0:M α):M α:=
 cond (decide (x2 < x1)) (
  idxSl x0 x2 1 fun a5=>
  ldI .i64 (a5.add 0) fun x6=>
  qbs.f k x6 fun r7=>
  cond (r7) (
   kr x2) (
   kn x0 x1 (w64 (x2 + 1)))) (
  kx0)
noncomputable def qaa.u3.c:IC:=(.seq (.ops 2 (zb Try.f49 2)) (.seq (.cond (.tmp 9) .skip (.exit 0 [])) (.seq (.block 1 (.seq (.ops 3 (zb Try.f49 3)) (.seq (.ops 4 (zb Try.f49 4)) (.cond (.tmp 16) (.seq (.ops 5 (zb Try.f49 5)) (.ret [4])) .skip)))) (.cut [0, 1, 7, 8] (.ops 6 (zb Try.f49 6))))))
noncomputable def qaa.u4.l (k:Nat) (kr:Int->M α) (kx0:M α):Nat->Sl->Int->Int->M α
 | 0, _, _, _=>fail
 | j + 1, x0, x1, x2=>
  qaa.u3.f k x0 x1 x2 (fun y0 y1 y2=>qaa.u4.l k kr kx0 j y0 y1 y2) kr kx0
noncomputable abbrev qaa.u4.f (k:Nat) (x0:Sl) (x1 x2:Int) (kr:Int->M α) (kx0:M α):M α:=
 qaa.u4.l k kr kx0 k x0 x1 x2
noncomputable def qaa.u4.c:IC:=.loop [0, 1, 7, 8] qaa.u3.c
noncomputable abbrev qaa.u5.f (k:Nat) (x0:Sl) (x1 x2:Int) (kn:M α) (kr:Int->M α):M α:=
 qaa.u4.f k x0 x1 x2 kr (kn)
noncomputable def qaa.u5.c:IC:=.block 0 qaa.u4.c
noncomputable abbrev qaa.u6.f (k:Nat) (x0:Sl) (kn:M α) (kr:Int->M α):M α:=
 qaa.u2.f k x0 (fun y0 y1 y2=>qaa.u5.f k y0 y1 y2 kn kr)
noncomputable def qaa.u6.c:IC:=qaa.u2.c qaa.u5.c
noncomputable def qaa.u7.f (k:Nat) (kr:Int->M α):M α:=
 kr (-1)
noncomputable def qaa.u7.c:IC:=(.seq (.ops 7 (zb Try.f49 7)) (.ret [4]))
noncomputable abbrev qaa.u8.f (k:Nat) (x0:Sl) (kr:Int->M α):M α:=
 qaa.u6.f k x0 (qaa.u7.f k kr) kr
noncomputable def qaa.u8.c:IC:=(.seq qaa.u6.c qaa.u7.c)
noncomputable abbrev qaa.u9.f (k:Nat) (x0:Sl) (kr:Int->M α):M α:=
 qaa.u1.f k x0 (fun y0=>qaa.u8.f k y0 kr)
noncomputable def qaa.u9.c:IC:=qaa.u1.c qaa.u8.c
noncomputable def qaa.f:Nat->Sl->(Int->M α)->M α
 | 0, _, _=>fail
 | k + 1, x0, ret=>
  qaa.u9.f k x0 (fun y0=>
   ret y0)
noncomputable def qbm.u1.f (k:Nat) (x0:Sl) (kr:Bool->M α):M α:=
 qaa.f k x0 fun r3=>
 kr (decide (0≤r3))
noncomputable def qbm.u1.c:IC:=(.seq (.ops 0 (zb Try.f31 0)) (.seq (.ops 1 (zb Try.f31 1)) (.ret [4])))
noncomputable def qbm.f:Nat->Sl->(Bool->M α)->M α
 | 0, _, _=>fail
 | k + 1, x0, ret=>
  qbm.u1.f k x0 (fun y0=>
   ret y0)
noncomputable def qy.u1.f (k:Nat) (x0 x1:Sl) (kn:Sl->Sl->M α) (kr:Bool->M α):M α:=
 cond (!(decide ((x0.len:Int) = (x1.len:Int)))) (
  kr false) (
  kn x0 x1)
noncomputable def qy.u1.c (R:IC):IC:=(.seq (.ops 0 (zb Try.f33 0)) (.seq (.cut [0, 1] (.seq (.ops 1 (zb Try.f33 1)) (.cond (.tmp 10) (.seq (.ops 2 (zb Try.f33 2)) (.ret [4])) .skip))) R))
noncomputable def qy.u2.f (k:Nat) (x0 x1:Sl) (kn:Sl->Sl->Int->Int->M α):M α:=
 kn x0 x1 (x0.len:Int) 0
noncomputable def qy.u2.c (R:IC):IC:=(.seq (.cut [0, 1, 12, 13] (.ops 3 (zb Try.f33 3))) R)
noncomputable def qy.u3.f (k:Nat) (x0 x1:Sl) (x2 x3:Int) (kn:Sl->Sl->Int->Int->M α) (kr:Bool->M α) (kx0:M α):M α:=
 cond (decide (x3 < x2)) (
  idxSl x0 x3 1 fun a6=>
  ldI .i64 (a6.add 0) fun x7=>
  idxSl x1 x3 1 fun a8=>
  ldI .i64 (a8.add 0) fun x9=>
  cond (!(decide (x7 = x9))) (
   kr false) (
   kn x0 x1 x2 (w64 (x3 + 1)))) (
  kx0)
noncomputable def qy.u3.c:IC:=(.seq (.ops 4 (zb Try.f33 4)) (.seq (.cond (.tmp 14) .skip (.exit 0 [])) (.seq (.block 1 (.seq (.ops 5 (zb Try.f33 5)) (.seq (.drawn 6 (zb Try.f33 6) true [.op 0, .op 1, .op 2, .op 3, .op 4, .op 5, .op 6, .op 7, .op 8]) (.cond (.tmp 24) (.seq (.ops 7 (zb Try.f33 7)) (.ret [4])) .skip)))) (.cut [0, 1, 12, 13] (.ops 8 (zb Try.f33 8))))))
noncomputable def qy.u4.l (k:Nat) (kr:Bool->M α) (kx0:M α):Nat->Sl->Sl->Int->Int->M α
 | 0, _, _, _, _=>fail
 | j + 1, x0, x1, x2, x3=>
  qy.u3.f k x0 x1 x2 x3 (fun y0 y1 y2 y3=>qy.u4.l k kr kx0 j y0 y1 y2 y3) kr kx0
noncomputable abbrev qy.u4.f (k:Nat) (x0 x1:Sl) (x2 x3:Int) (kr:Bool->M α) (kx0:M α):M α:=
 qy.u4.l k kr kx0 k x0 x1 x2 x3
noncomputable def qy.u4.c:IC:=.loop [0, 1, 12, 13] qy.u3.c
noncomputable abbrev qy.u5.f (k:Nat) (x0 x1:Sl) (x2 x3:Int) (kn:M α) (kr:Bool->M α):M α:=
 qy.u4.f k x0 x1 x2 x3 kr (kn)
noncomputable def qy.u5.c:IC:=.block 0 qy.u4.c
noncomputable abbrev qy.u6.f (k:Nat) (x0 x1:Sl) (kn:M α) (kr:Bool->M α):M α:=
 qy.u2.f k x0 x1 (fun y0 y1 y2 y3=>qy.u5.f k y0 y1 y2 y3 kn kr)
noncomputable def qy.u6.c:IC:=qy.u2.c qy.u5.c
noncomputable def qy.u7.f (k:Nat) (kr:Bool->M α):M α:=
 kr true
noncomputable def qy.u7.c:IC:=(.seq (.ops 9 (zb Try.f33 9)) (.ret [4]))
noncomputable abbrev qy.u8.f (k:Nat) (x0 x1:Sl) (kr:Bool->M α):M α:=
 qy.u6.f k x0 x1 (qy.u7.f k kr) kr
noncomputable def qy.u8.c:IC:=(.seq qy.u6.c qy.u7.c)
noncomputable abbrev qy.u9.f (k:Nat) (x0 x1:Sl) (kr:Bool->M α):M α:=
 qy.u1.f k x0 x1 (fun y0 y1=>qy.u8.f k y0 y1 kr) kr
noncomputable def qy.u9.c:IC:=qy.u1.c qy.u8.c
noncomputable def qy.f:Nat->Sl->Sl->(Bool->M α)->M α
 | 0, _, _, _=>fail
 | k + 1, x0, x1, ret=>
  qy.u9.f k x0 x1 (fun y0=>
   ret y0)
noncomputable def qm.u1.f (k:Nat) (x0:Sl) (kn:Sl->Sl->M α) (kr:Bool->M α):M α:=
 cond (decide ((x0.len:Int) < 1)) (
  kr false) (
  cond (decide (60 < (x0.len:Int))) (
   kr false) (
   kn x0 Sl.nil))
noncomputable def qm.u1.c (R:IC):IC:=(.seq (.ops 0 (zb Try.f20 0)) (.seq (.seq (.ops 1 (zb Try.f20 1)) (.cond (.tmp 16) (.seq (.ops 2 (zb Try.f20 2)) (.ret [2])) .skip)) (.seq (.cut [0, 3] (.ops 3 (zb Try.f20 3))) R)))
noncomputable def qm.u2.f (k:Nat) (x0 x1:Sl) (kn:Sl->Sl->Int->Int->M α):M α:=
 kn x1 x0 (x0.len:Int) 0
noncomputable def qm.u2.c (R:IC):IC:=(.seq (.cut [3, 17, 18, 19] (.ops 4 (zb Try.f20 4))) R)
noncomputable def qm.u3.f (k:Nat) (x0 x1:Sl) (x2 x3:Int) (kn:Sl->Sl->Int->Int->M α) (kr:Bool->M α) (kx0:Sl->M α):M α:=
 cond (decide (x3 < x2)) (
  idxSl x1 x3 5 fun a6=>
  ldI .i64 (a6.add 0) fun x7=>
  ldI .i64 (a6.add 1) fun x8=>
  ldI .i64 (a6.add 2) fun x9=>
  ldStr (a6.add 3) fun x10=>
  ldI .i64 (a6.add 4) fun x11=>
  new [.int .i64 0, .int .i64 0, .int .i64 0, .str [], .int .i64 0] fun n12=>
  st1 (n12.add 0) (.int .i64 x7) <|
  st1 (n12.add 1) (.int .i64 x8) <|
  st1 (n12.add 2) (.int .i64 x9) <|
  st1 (n12.add 3) (.str x10) <|
  st1 (n12.add 4) (.int .i64 x11) <|
  ldI .i64 (n12.add 0) fun x13=>
  ldI .i64 (n12.add 1) fun x14=>
  ldI .i64 (n12.add 2) fun x15=>
  ldStr (n12.add 3) fun x16=>
  ldI .i64 (n12.add 4) fun x17=>
  qbl.f k x13 x14 x15 x16 x17 fun r18 r19=>
  cond (!r19) (
   kr false) (
   cond (decide ((x0.len:Int) < r18)) (
    kr false) (
    ldI .i64 ((n12.add 1).add 0) fun x20=>
    ldI .i64 ((n12.add 2).add 0) fun x21=>
    new [.int .i64 x20, .int .i64 x21] fun r22=>
    cutSl (⟨some r22, 2, 2, none⟩:Sl) 1 (some r18) none none fun x23=>
    qbm.f k x23 fun r24=>
    cond (r24) (
     kr false) (
     cutSl x0 1 (some (w64 ((x0.len:Int) - r18))) none none fun x25=>
     cutSl (⟨some r22, 2, 2, none⟩:Sl) 1 none (some r18) none fun x26=>
     qy.f k x25 x26 fun r27=>
     cond (!r27) (
      kr false) (
      cutSl x0 1 none (some (w64 ((x0.len:Int) - r18))) none fun x28=>
      new [.int .i64 x3] fun r29=>
      zq x28 1 8 (⟨some r29, 1, 1, none⟩:Sl) fun x30=>
      kn x30 x1 x2 (w64 (x3 + 1))))))) (
  kx0 x0)
noncomputable def qm.u3.c:IC:=(.seq (.ops 5 (zb Try.f20 5)) (.seq (.cond (.tmp 20) .skip (.exit 0 [3])) (.seq (.block 1 (.seq (.ops 6 (zb Try.f20 6)) (.seq (.ops 7 (zb Try.f20 7)) (.seq (.seq (.ops 8 (zb Try.f20 8)) (.cond (.tmp 36) (.seq (.ops 9 (zb Try.f20 9)) (.ret [2])) .skip)) (.seq (.ops 10 (zb Try.f20 10)) (.seq (.seq (.drawn 11 (zb Try.f20 11) true [.op 0, .op 1, .op 2, .op 3, .op 4, .op 5, .op 6, .op 7, .op 8, .op 9, .op 10, .op 11, .op 12, .op 13, .op 14, .op 15, .op 16]) (.cond (.tmp 58) (.seq (.ops 12 (zb Try.f20 12)) (.ret [2])) .skip)) (.ops 13 (zb Try.f20 13)))))))) (.cut [3, 17, 18, 19] (.ops 14 (zb Try.f20 14))))))
noncomputable def qm.u4.l (k:Nat) (kr:Bool->M α) (kx0:Sl->M α):Nat->Sl->Sl->Int->Int->M α
 | 0, _, _, _, _=>fail
 | j + 1, x0, x1, x2, x3=>
  qm.u3.f k x0 x1 x2 x3 (fun y0 y1 y2 y3=>qm.u4.l k kr kx0 j y0 y1 y2 y3) kr kx0
noncomputable abbrev qm.u4.f (k:Nat) (x0 x1:Sl) (x2 x3:Int) (kr:Bool->M α) (kx0:Sl->M α):M α:=
 qm.u4.l k kr kx0 k x0 x1 x2 x3
noncomputable def qm.u4.c:IC:=.loop [3, 17, 18, 19] qm.u3.c
noncomputable abbrev qm.u5.f (k:Nat) (x0 x1:Sl) (x2 x3:Int) (kn:Sl->M α) (kr:Bool->M α):M α:=
 qm.u4.f k x0 x1 x2 x3 kr (fun y0=>kn y0)
noncomputable def qm.u5.c:IC:=.block 0 qm.u4.c
noncomputable abbrev qm.u6.f (k:Nat) (x0 x1:Sl) (kn:Sl->M α) (kr:Bool->M α):M α:=
 qm.u2.f k x0 x1 (fun y0 y1 y2 y3=>qm.u5.f k y0 y1 y2 y3 kn kr)
noncomputable def qm.u6.c:IC:=qm.u2.c qm.u5.c
noncomputable def qm.u7.f (k:Nat) (x0:Sl) (kr:Bool->M α):M α:=
 kr (decide ((x0.len:Int) = 1))
noncomputable def qm.u7.c:IC:=(.seq (.ops 15 (zb Try.f20 15)) (.ret [2]))
noncomputable abbrev qm.u8.f (k:Nat) (x0 x1:Sl) (kr:Bool->M α):M α:=
 qm.u6.f k x0 x1 (fun y0=>qm.u7.f k y0 kr) kr
noncomputable def qm.u8.c:IC:=(.seq qm.u6.c qm.u7.c)
noncomputable abbrev qm.u9.f (k:Nat) (x0:Sl) (kr:Bool->M α):M α:=
 qm.u1.f k x0 (fun y0 y1=>qm.u8.f k y0 y1 kr) kr
noncomputable def qm.u9.c:IC:=qm.u1.c qm.u8.c
noncomputable def qm.f:Nat->Sl->(Bool->M α)->M α
 | 0, _, _=>fail
 | k + 1, x0, ret=>
  qm.u9.f k x0 (fun y0=>
   ret y0)
noncomputable def qs.u1.f (k:Nat) (x0:Ad) (x1:TX) (kn:Ad->TX->Ad->M α):M α:=
 new [.int .i64 0, .int .i64 0] fun x4=>
 kn x0 x1 x4
noncomputable def qs.u1.c (R:IC):IC:=(.seq (.cut [0, 1, 4] (.ops 0 (zb Try.f61 0))) R)
noncomputable def qs.u2.f (k:Nat) (x0:Ad) (x1:TX) (x2:Ad) (kn:Ad->TX->Ad->Int->M α):M α:=
 ldS ((x0.add 1).add 0) fun x5=>
 kn x0 x1 x2 (w64 ((x5.len:Int) - 1))
noncomputable def qs.u2.c (R:IC):IC:=(.seq (.cut [0, 1, 4, 6] (.ops 1 (zb Try.f61 1))) R)
noncomputable def qs.u3.f (k:Nat) (x0:Ad) (x1:TX) (x2:Ad) (x3:Int) (kn:Ad->TX->Ad->Int->M α) (kr:Ad->Bool->M α) (kx0:Ad->M α):M α:=
 cond (decide (0≤x3)) (
  ldS ((x0.add 0).add 0) fun x6=>
  ldS ((x0.add 1).add 0) fun x7=>
  idxSl x7 x3 2 fun a8=>
  ldI .i64 ((a8.add 0).add 0) fun x9=>
  idxSl x6 x9 5 fun a10=>
  ldStr ((a10.add 3).add 0) fun x11=>
  cond (decide (x11 = x1)) (
   ldS ((x0.add 1).add 0) fun x12=>
   idxSl x12 x3 2 fun a13=>
   ldI .i64 (a13.add 0) fun x14=>
   ldI .i64 (a13.add 1) fun x15=>
   st1 (x2.add 0) (.int .i64 x14) <|
   st1 (x2.add 1) (.int .i64 x15) <|
   kr x2 true) (
   kn x0 x1 x2 (w64 (x3 - 1)))) (
  kx0 x2)
noncomputable def qs.u3.c:IC:=(.seq (.seq (.ops 2 (zb Try.f61 2)) (.cond (.tmp 14) .skip (.exit 0 [4]))) (.seq (.block 1 (.seq (.drawn 4 (zb Try.f61 4) true [.op 0, .op 1, .op 2, .op 3, .op 4, .op 5, .op 6, .op 7, .op 8, .op 9, .op 10, .op 11, .op 12, .op 13, .op 14, .op 15, .op 16]) (.cond (.tmp 33) (.seq (.ops 5 (zb Try.f61 5)) (.ret [4, 5])) .skip))) (.cut [0, 1, 4, 6] (.ops 3 (zb Try.f61 3)))))
noncomputable def qs.u4.l (k:Nat) (kr:Ad->Bool->M α) (kx0:Ad->M α):Nat->Ad->TX->Ad->Int->M α
 | 0, _, _, _, _=>fail
 | j + 1, x0, x1, x2, x3=>
  qs.u3.f k x0 x1 x2 x3 (fun y0 y1 y2 y3=>qs.u4.l k kr kx0 j y0 y1 y2 y3) kr kx0
noncomputable abbrev qs.u4.f (k:Nat) (x0:Ad) (x1:TX) (x2:Ad) (x3:Int) (kr:Ad->Bool->M α) (kx0:Ad->M α):M α:=
 qs.u4.l k kr kx0 k x0 x1 x2 x3
noncomputable def qs.u4.c:IC:=.loop [0, 1, 4, 6] qs.u3.c
noncomputable abbrev qs.u5.f (k:Nat) (x0:Ad) (x1:TX) (x2:Ad) (x3:Int) (kn:Ad->M α) (kr:Ad->Bool->M α):M α:=
 qs.u4.f k x0 x1 x2 x3 kr (fun y0=>kn y0)
noncomputable def qs.u5.c:IC:=.block 0 qs.u4.c
noncomputable abbrev qs.u6.f (k:Nat) (x0:Ad) (x1:TX) (x2:Ad) (kn:Ad->M α) (kr:Ad->Bool->M α):M α:=
 qs.u2.f k x0 x1 x2 (fun y0 y1 y2 y3=>qs.u5.f k y0 y1 y2 y3 kn kr)
noncomputable def qs.u6.c:IC:=qs.u2.c qs.u5.c
noncomputable def qs.u7.f (k:Nat) (x0:Ad) (kr:Ad->Bool->M α):M α:=
 st1 (x0.add 0) (.int .i64 0) <|
 st1 (x0.add 1) (.int .i64 0) <|
 kr x0 false
noncomputable def qs.u7.c:IC:=(.seq (.ops 6 (zb Try.f61 6)) (.ret [4, 5]))
noncomputable abbrev qs.u8.f (k:Nat) (x0:Ad) (x1:TX) (x2:Ad) (kr:Ad->Bool->M α):M α:=
 qs.u6.f k x0 x1 x2 (fun y0=>qs.u7.f k y0 kr) kr
noncomputable def qs.u8.c:IC:=(.seq qs.u6.c qs.u7.c)
noncomputable abbrev qs.u9.f (k:Nat) (x0:Ad) (x1:TX) (kr:Ad->Bool->M α):M α:=
 qs.u1.f k x0 x1 (fun y0 y1 y2=>qs.u8.f k y0 y1 y2 kr)
noncomputable def qs.u9.c:IC:=qs.u1.c qs.u8.c
noncomputable def qs.f:Nat->Ad->TX->(Int->Int->Bool->M α)->M α
 | 0, _, _, _=>fail
 | k + 1, x0, x1, ret=>
  qs.u9.f k x0 x1 (fun y0 y1=>
   ldI .i64 (y0.add 0) fun o501=>
   ldI .i64 (y0.add 1) fun o502=>
   ret o501 o502 y1)
noncomputable def qb.u1.f (k:Nat) (x0:Ad) (x1:Int) (kn:Ad->Int->Ad->Int->M α):M α:=
 ldS ((x0.add 0).add 0) fun x4=>
 idxSl x4 x1 5 fun a5=>
 ldI .i64 (a5.add 0) fun x6=>
 ldI .i64 (a5.add 1) fun x7=>
 ldI .i64 (a5.add 2) fun x8=>
 ldStr (a5.add 3) fun x9=>
 ldI .i64 (a5.add 4) fun x10=>
 new [.int .i64 0, .int .i64 0, .int .i64 0, .str [], .int .i64 0] fun x11=>
 st1 (x11.add 0) (.int .i64 x6) <|
 st1 (x11.add 1) (.int .i64 x7) <|
 st1 (x11.add 2) (.int .i64 x8) <|
 st1 (x11.add 3) (.str x9) <|
 st1 (x11.add 4) (.int .i64 x10) <|
 ldI .i64 ((x11.add 0).add 0) fun x12=>
 kn x0 x1 x11 x12
noncomputable def qb.u1.c (R:IC):IC:=(.seq (.ops 0 (zb Try.f46 0)) (.seq (.cut [0, 1, 4, 15] (.ops 1 (zb Try.f46 1))) R))
noncomputable def qb.u2.f (k:Nat) (x0:Ad) (x1:Int) (x2:Ad) (x3:Int) (kn:Ad->Int->Ad->Int->Bool->M α):M α:=
 kn x0 x1 x2 x3 (decide (x3 = 4))
noncomputable def qb.u2.c (R:IC):IC:=(.seq (.cut [0, 1, 4, 15, 16] (.ops 2 (zb Try.f46 2))) R)
noncomputable def qb.u3.f (k:Nat) (x0:Ad) (x1:Int) (x2:Ad) (x3:Int) (x4:Bool) (kn:M α):M α:=
 ldStr ((x2.add 3).add 0) fun x7=>
 qs.f k x0 x7 fun r8 r9 r10=>
 new [.int .i64 0, .int .i64 0] fun s11=>
 st1 (s11.add 0) (.int .i64 r8) <|
 st1 (s11.add 1) (.int .i64 r9) <|
 cond (r10) (
  ldS ((x0.add 3).add 0) fun x12=>
  ldS ((x0.add 4).add 0) fun x13=>
  ldI .i64 ((s11.add 0).add 0) fun x14=>
  ldI .i64 ((x0.add 2).add 0) fun x15=>
  ldI .i64 ((s11.add 1).add 0) fun x16=>
  idxSl x12 x1 1 fun a17=>
  st1 (a17.add 0) (.int .i64 x14) <|
  ldI .i64 ((s11.add 1).add 0) fun y18=>
  need (decide (x16 = y18)) <|
  idxSl x13 x1 1 fun a19=>
  st1 (a19.add 0) (.bool (!(decide (Int.tmod (w64 (x15 - x16)) 2 = 0)))) <|
  kn) (
  kn)
noncomputable def qb.u3.c:IC:=(.seq (.ops 3 (zb Try.f46 3)) (.seq (.ops 4 (zb Try.f46 4)) (.cut [] (.cond (.tmp 25) (.drawn 5 (zb Try.f46 5) true [.op 0, .op 1, .op 2, .op 3, .op 4, .op 5, .op 6, .op 7, .op 8, .op 9, .op 10, .op 11, .op 12, .op 13, .op 14, .op 15, .op 16, .op 17, .op 18, .op 19, .op 20, .op 21, .op 22, .look 17, .op 23, .op 24]) .skip))))
noncomputable def qb.u4.f (k:Nat) (x0:Ad) (x1:Int) (x2:Ad) (x3:Int) (x4:Bool) (kn:Ad->Int->Ad->Int->Bool->M α):M α:=
 kn x0 x1 x2 x3 (decide (x3 = 5))
noncomputable def qb.u4.c (R:IC):IC:=(.seq (.cut [0, 1, 4, 15, 49] (.ops 6 (zb Try.f46 6))) R)
noncomputable def qb.u5.f (k:Nat) (rr46:Ad->Int->(M α)->M α) (x0:Ad) (x1:Int) (x2:Ad) (x3:Int) (x4:Bool) (kn:M α):M α:=
 ldI .i64 ((x0.add 2).add 0) fun x7=>
 st1 ((x0.add 2).add 0) (.int .i64 (w64 (x7 + 1))) <|
 ldI .i64 ((x2.add 1).add 0) fun x8=>
 rr46 x0 x8 (
  ldI .i64 ((x0.add 2).add 0) fun x9=>
  st1 ((x0.add 2).add 0) (.int .i64 (w64 (x9 - 1))) <|
  ldS ((x0.add 5).add 0) fun x10=>
  ldS ((x0.add 5).add 0) fun x11=>
  ldI .i64 ((x2.add 1).add 0) fun x12=>
  idxSl x11 x12 1 fun a13=>
  ldI .i64 (a13.add 0) fun x14=>
  idxSl x10 x1 1 fun a15=>
  st1 (a15.add 0) (.int .i64 x14) <|
  kn)
noncomputable def qb.u5.c:IC:=(.seq (.ops 7 (zb Try.f46 7)) (.seq (.ops 8 (zb Try.f46 8)) (.seq (.ops 9 (zb Try.f46 9)) (.cut [] (.drawn 10 (zb Try.f46 10) true [.op 0, .op 1, .op 2, .op 3, .op 4, .op 5, .op 6, .op 7, .op 8, .op 9, .op 10, .op 11, .op 12, .op 13, .op 14])))))
noncomputable def qb.u6.f (k:Nat) (x0:Ad) (x1:Int) (x2:Ad) (x3:Int) (x4:Bool) (kn:Ad->Int->Ad->Int->Bool->M α):M α:=
 cond (decide (x3 = 8)) (
  kn x0 x1 x2 x3 (decide (x3 = 8))) (
  kn x0 x1 x2 x3 (decide (x3 = 9)))
noncomputable def qb.u6.c (R:IC):IC:=(.seq (.cut [0, 1, 4, 15, 83] (.seq (.ops 11 (zb Try.f46 11)) (.cond (.tmp 83) .skip (.ops 12 (zb Try.f46 12))))) R)
noncomputable def qb.u7.f (k:Nat) (rr46:Ad->Int->(M α)->M α) (x0:Ad) (x1:Int) (x2:Ad) (x3:Int) (x4:Bool) (kn:M α):M α:=
 ldI .i64 ((x2.add 1).add 0) fun x7=>
 rr46 x0 x7 (
  ldS ((x0.add 5).add 0) fun x8=>
  ldS ((x0.add 5).add 0) fun x9=>
  ldI .i64 ((x2.add 1).add 0) fun x10=>
  idxSl x9 x10 1 fun a11=>
  ldI .i64 (a11.add 0) fun x12=>
  idxSl x8 x1 1 fun a13=>
  st1 (a13.add 0) (.int .i64 x12) <|
  kn)
noncomputable def qb.u7.c:IC:=(.seq (.ops 13 (zb Try.f46 13)) (.cut [] (.drawn 14 (zb Try.f46 14) true [.op 0, .op 1, .op 2, .op 3, .op 4, .op 5, .op 6, .op 7, .op 8, .op 9, .op 10, .op 11, .op 12, .op 13, .op 14])))
noncomputable def qb.u8.f (k:Nat) (x0:Ad) (x1:Int) (x2:Ad) (x3:Int) (x4:Bool) (kn:Ad->Int->Ad->Int->Bool->M α):M α:=
 cond (decide (x3 = 6)) (
  kn x0 x1 x2 x3 (decide (x3 = 6))) (
  kn x0 x1 x2 x3 (decide (x3 = 7)))
noncomputable def qb.u8.c (R:IC):IC:=(.seq (.cut [0, 1, 4, 15, 104] (.seq (.ops 15 (zb Try.f46 15)) (.cond (.tmp 104) .skip (.ops 16 (zb Try.f46 16))))) R)
noncomputable def qb.u9.f (k:Nat) (rr46:Ad->Int->(M α)->M α) (x0:Ad) (x1:Int) (x2:Ad) (x3:Int) (x4:Bool) (kn:M α):M α:=
 ldI .i64 ((x2.add 1).add 0) fun x7=>
 rr46 x0 x7 (
  ldI .i64 ((x2.add 2).add 0) fun x8=>
  rr46 x0 x8 (
   ldS ((x0.add 5).add 0) fun x9=>
   ldS ((x0.add 5).add 0) fun x10=>
   ldI .i64 ((x2.add 1).add 0) fun x11=>
   idxSl x10 x11 1 fun a12=>
   ldI .i64 (a12.add 0) fun x13=>
   ldS ((x0.add 5).add 0) fun x14=>
   ldI .i64 ((x2.add 2).add 0) fun x15=>
   idxSl x14 x15 1 fun a16=>
   ldI .i64 (a16.add 0) fun x17=>
   idxSl x9 x1 1 fun a18=>
   st1 (a18.add 0) (.int .i64 (if x17 > x13 then x17 else x13)) <|
   kn))
noncomputable def qb.u9.c:IC:=(.seq (.ops 17 (zb Try.f46 17)) (.seq (.ops 18 (zb Try.f46 18)) (.cut [] (.drawn 19 (zb Try.f46 19) true [.op 0, .op 1, .op 2, .op 3, .op 4, .op 5, .op 6, .op 7, .op 8, .op 9, .op 10, .op 11, .op 12, .op 13, .op 14, .op 15, .op 16, .op 17, .op 18, .op 19, .op 20, .op 21, .op 22, .op 23]))))
noncomputable def qb.u10.f (k:Nat) (x0:Ad) (x1:Int) (x2:Ad) (x3:Int) (x4:Bool) (kn:Ad->Int->Ad->Bool->M α):M α:=
 cond (decide (x3 = 10)) (
  kn x0 x1 x2 (decide (x3 = 10))) (
  kn x0 x1 x2 (decide (x3 = 11)))
noncomputable def qb.u10.c (R:IC):IC:=(.seq (.cut [0, 1, 4, 138] (.seq (.ops 20 (zb Try.f46 20)) (.cond (.tmp 138) .skip (.ops 21 (zb Try.f46 21))))) R)
noncomputable def qb.u11.f (k:Nat) (rr46:Ad->Int->(M α)->M α) (x0:Ad) (x1:Int) (x2:Ad) (x3:Bool) (kn:M α):M α:=
 cond (x3) (
  ldS ((x0.add 1).add 0) fun x6=>
  ldI .i64 ((x0.add 2).add 0) fun x7=>
  new [.int .i64 x1, .int .i64 x7] fun r8=>
  ldS ((x0.add 1).add 0) fun y9=>
  need (decide (x6 = y9)) <|
  zq x6 2 16 (⟨some r8, 1, 1, none⟩:Sl) fun x10=>
  st1 ((x0.add 1).add 0) (.slice x10) <|
  ldI .i64 ((x2.add 1).add 0) fun x11=>
  rr46 x0 x11 (
   ldS ((x0.add 1).add 0) fun x12=>
   ldS ((x0.add 1).add 0) fun x13=>
   cutSl x12 2 none (some (w64 ((x13.len:Int) - 1))) none fun x14=>
   st1 ((x0.add 1).add 0) (.slice x14) <|
   ldS ((x0.add 5).add 0) fun x15=>
   ldS ((x0.add 5).add 0) fun x16=>
   ldI .i64 ((x2.add 1).add 0) fun x17=>
   idxSl x16 x17 1 fun a18=>
   ldI .i64 (a18.add 0) fun x19=>
   idxSl x15 x1 1 fun a20=>
   st1 (a20.add 0) (.int .i64 (w64 (x19 + 1))) <|
   kn)) (
  kn)
noncomputable def qb.u11.c:IC:=(.cut [] (.cond (.tmp 138) (.seq (.drawn 22 (zb Try.f46 22) true [.op 0, .op 1, .op 2, .op 3, .op 4, .op 5, .op 6, .op 7, .op 8, .op 9, .op 10, .op 11, .look 4, .op 12, .op 13, .op 14, .op 15]) (.seq (.ops 23 (zb Try.f46 23)) (.seq (.drawn 24 (zb Try.f46 24) true [.op 0, .op 1, .op 2, .op 3, .op 4, .op 5, .op 6, .op 7, .op 8, .op 9, .op 10, .op 11, .op 12, .op 13, .op 14]) (.drawn 25 (zb Try.f46 25) true [.op 0, .op 1, .op 2, .op 3, .op 4, .op 5, .op 6, .op 7, .op 8, .op 9, .op 10, .op 11, .op 12, .op 13, .op 14, .op 15])))) .skip))
noncomputable abbrev qb.u12.f (k:Nat) (rr46:Ad->Int->(M α)->M α) (x0:Ad) (x1:Int) (x2:Ad) (x3:Int) (x4:Bool) (kn:M α):M α:=
 qb.u10.f k x0 x1 x2 x3 x4 (fun y0 y1 y2 y3=>qb.u11.f k rr46 y0 y1 y2 y3 kn)
noncomputable def qb.u12.c:IC:=qb.u10.c qb.u11.c
noncomputable abbrev qb.u13.f (k:Nat) (rr46:Ad->Int->(M α)->M α) (x0:Ad) (x1:Int) (x2:Ad) (x3:Int) (x4:Bool) (kn:M α):M α:=
 cond x4 (
  qb.u9.f k rr46 x0 x1 x2 x3 x4 kn) (
  qb.u12.f k rr46 x0 x1 x2 x3 x4 kn)
noncomputable def qb.u13.c:IC:=.cond (.tmp 104) qb.u9.c qb.u12.c
noncomputable abbrev qb.u14.f (k:Nat) (rr46:Ad->Int->(M α)->M α) (x0:Ad) (x1:Int) (x2:Ad) (x3:Int) (x4:Bool) (kn:M α):M α:=
 qb.u8.f k x0 x1 x2 x3 x4 (fun y0 y1 y2 y3 y4=>qb.u13.f k rr46 y0 y1 y2 y3 y4 kn)
noncomputable def qb.u14.c:IC:=qb.u8.c qb.u13.c
noncomputable abbrev qb.u15.f (k:Nat) (rr46:Ad->Int->(M α)->M α) (x0:Ad) (x1:Int) (x2:Ad) (x3:Int) (x4:Bool) (kn:M α):M α:=
 cond x4 (
  qb.u7.f k rr46 x0 x1 x2 x3 x4 kn) (
  qb.u14.f k rr46 x0 x1 x2 x3 x4 kn)
noncomputable def qb.u15.c:IC:=.cond (.tmp 83) qb.u7.c qb.u14.c
noncomputable abbrev qb.u16.f (k:Nat) (rr46:Ad->Int->(M α)->M α) (x0:Ad) (x1:Int) (x2:Ad) (x3:Int) (x4:Bool) (kn:M α):M α:=
 qb.u6.f k x0 x1 x2 x3 x4 (fun y0 y1 y2 y3 y4=>qb.u15.f k rr46 y0 y1 y2 y3 y4 kn)
noncomputable def qb.u16.c:IC:=qb.u6.c qb.u15.c
noncomputable abbrev qb.u17.f (k:Nat) (rr46:Ad->Int->(M α)->M α) (x0:Ad) (x1:Int) (x2:Ad) (x3:Int) (x4:Bool) (kn:M α):M α:=
 cond x4 (
  qb.u5.f k rr46 x0 x1 x2 x3 x4 kn) (
  qb.u16.f k rr46 x0 x1 x2 x3 x4 kn)
noncomputable def qb.u17.c:IC:=.cond (.tmp 49) qb.u5.c qb.u16.c
noncomputable abbrev qb.u18.f (k:Nat) (rr46:Ad->Int->(M α)->M α) (x0:Ad) (x1:Int) (x2:Ad) (x3:Int) (x4:Bool) (kn:M α):M α:=
 qb.u4.f k x0 x1 x2 x3 x4 (fun y0 y1 y2 y3 y4=>qb.u17.f k rr46 y0 y1 y2 y3 y4 kn)
noncomputable def qb.u18.c:IC:=qb.u4.c qb.u17.c
noncomputable abbrev qb.u19.f (k:Nat) (rr46:Ad->Int->(M α)->M α) (x0:Ad) (x1:Int) (x2:Ad) (x3:Int) (x4:Bool) (kn:M α):M α:=
 cond x4 (
  qb.u3.f k x0 x1 x2 x3 x4 kn) (
  qb.u18.f k rr46 x0 x1 x2 x3 x4 kn)
noncomputable def qb.u19.c:IC:=.cond (.tmp 16) qb.u3.c qb.u18.c
noncomputable abbrev qb.u20.f (k:Nat) (rr46:Ad->Int->(M α)->M α) (x0:Ad) (x1:Int) (x2:Ad) (x3:Int) (kn:M α):M α:=
 qb.u2.f k x0 x1 x2 x3 (fun y0 y1 y2 y3 y4=>qb.u19.f k rr46 y0 y1 y2 y3 y4 kn)
noncomputable def qb.u20.c:IC:=qb.u2.c qb.u19.c
noncomputable abbrev qb.u21.f (k:Nat) (rr46:Ad->Int->(M α)->M α) (x0:Ad) (x1:Int) (x2:Ad) (x3:Int) (kn:M α):M α:=
 qb.u20.f k rr46 x0 x1 x2 x3 (kn)
noncomputable def qb.u21.c:IC:=.block 0 qb.u20.c
noncomputable abbrev qb.u22.f (k:Nat) (rr46:Ad->Int->(M α)->M α) (x0:Ad) (x1:Int) (kn:M α):M α:=
 qb.u1.f k x0 x1 (fun y0 y1 y2 y3=>qb.u21.f k rr46 y0 y1 y2 y3 kn)
noncomputable def qb.u22.c:IC:=qb.u1.c qb.u21.c
mutual
noncomputable def qb.f:Nat->Ad->Int->(M α)->M α
 | 0, _, _, _=>fail
 | k + 1, x0, x1, ret=>
  qb.u22.f k (fun z0 z1 z2=>qb.f k z0 z1 z2) x0 x1 (ret)
end
noncomputable def qx.u1.f (k:Nat) (x0:Sl) (kn:Sl->Ad->M α):M α:=
 mkSl (x0.len:Int) (x0.len:Int) 8 [.int .i64 0] fun r3=>
 mkSl (x0.len:Int) (x0.len:Int) 1 [.bool false] fun r4=>
 mkSl (x0.len:Int) (x0.len:Int) 8 [.int .i64 0] fun r5=>
 new [.slice x0, .slice Sl.nil, .int .i64 0, .slice r3, .slice r4, .slice r5] fun x6=>
 kn x0 x6
noncomputable def qx.u1.c (R:IC):IC:=(.seq (.ops 0 (zb Try.f28 0)) (.seq (.cut [0, 3] (.drawn 1 (zb Try.f28 1) true [.op 0, .op 1, .op 2, .op 3, .op 4, .op 5, .op 6, .op 7, .op 8, .op 9, .op 10, .op 11, .op 12])) R))
noncomputable def qx.u2.f (k:Nat) (x0:Sl) (x1:Ad) (kn:Sl->Ad->Int->Int->M α):M α:=
 ldS ((x1.add 3).add 0) fun x4=>
 kn x0 x1 (x4.len:Int) 0
noncomputable def qx.u2.c (R:IC):IC:=(.seq (.cut [0, 3, 21, 22] (.ops 2 (zb Try.f28 2))) R)
noncomputable def qx.u3.f (k:Nat) (x0:Sl) (x1:Ad) (x2 x3:Int) (kn:Sl->Ad->Int->Int->M α) (kx0:Sl->Ad->M α):M α:=
 cond (decide (x3 < x2)) (
  ldS ((x1.add 3).add 0) fun x6=>
  idxSl x6 x3 1 fun a7=>
  st1 (a7.add 0) (.int .i64 (-1)) <|
  kn x0 x1 x2 (w64 (x3 + 1))) (
  kx0 x0 x1)
noncomputable def qx.u3.c:IC:=(.seq (.ops 3 (zb Try.f28 3)) (.seq (.cond (.tmp 23) .skip (.exit 0 [0, 3])) (.seq (.block 1 (.seq (.ops 4 (zb Try.f28 4)) (.ops 5 (zb Try.f28 5)))) (.cut [0, 3, 21, 22] (.ops 6 (zb Try.f28 6))))))
noncomputable def qx.u4.l (k:Nat) (kx0:Sl->Ad->M α):Nat->Sl->Ad->Int->Int->M α
 | 0, _, _, _, _=>fail
 | j + 1, x0, x1, x2, x3=>
  qx.u3.f k x0 x1 x2 x3 (fun y0 y1 y2 y3=>qx.u4.l k kx0 j y0 y1 y2 y3) kx0
noncomputable abbrev qx.u4.f (k:Nat) (x0:Sl) (x1:Ad) (x2 x3:Int) (kx0:Sl->Ad->M α):M α:=
 qx.u4.l k kx0 k x0 x1 x2 x3
noncomputable def qx.u4.c:IC:=.loop [0, 3, 21, 22] qx.u3.c
noncomputable abbrev qx.u5.f (k:Nat) (x0:Sl) (x1:Ad) (x2 x3:Int) (kn:Sl->Ad->M α):M α:=
 qx.u4.f k x0 x1 x2 x3 (fun y0 y1=>kn y0 y1)
noncomputable def qx.u5.c:IC:=.block 0 qx.u4.c
noncomputable abbrev qx.u6.f (k:Nat) (x0:Sl) (x1:Ad) (kn:Sl->Ad->M α):M α:=
 qx.u2.f k x0 x1 (fun y0 y1 y2 y3=>qx.u5.f k y0 y1 y2 y3 kn)
noncomputable def qx.u6.c:IC:=qx.u2.c qx.u5.c
noncomputable def qx.u7.f (k:Nat) (x0:Sl) (x1:Ad) (kr:Ad->M α):M α:=
 qb.f k x1 (w64 ((x0.len:Int) - 1)) (
  kr x1)
noncomputable def qx.u7.c:IC:=(.seq (.ops 7 (zb Try.f28 7)) (.seq (.ops 8 (zb Try.f28 8)) (.ret [2])))
noncomputable abbrev qx.u8.f (k:Nat) (x0:Sl) (x1:Ad) (kr:Ad->M α):M α:=
 qx.u6.f k x0 x1 (fun y0 y1=>qx.u7.f k y0 y1 kr)
noncomputable def qx.u8.c:IC:=(.seq qx.u6.c qx.u7.c)
noncomputable abbrev qx.u9.f (k:Nat) (x0:Sl) (kr:Ad->M α):M α:=
 qx.u1.f k x0 (fun y0 y1=>qx.u8.f k y0 y1 kr)
noncomputable def qx.u9.c:IC:=qx.u1.c qx.u8.c
noncomputable def qx.f:Nat->Sl->(Ad->M α)->M α
 | 0, _, _=>fail
 | k + 1, x0, ret=>
  qx.u9.f k x0 (fun y0=>
   ret y0)
noncomputable def qbc.u1.f (k:Nat) (x0 x1 x2:Int) (x3:TX) (x4:Int) (kr:Bool->M α):M α:=
 new [.int .i64 x0, .int .i64 x1, .int .i64 x2, .str x3, .int .i64 x4] fun n7=>
 ldI .i64 ((n7.add 0).add 0) fun x8=>
 cond (decide (x8 = 10)) (
  kr true) (
  ldI .i64 ((n7.add 0).add 0) fun x9=>
  kr (decide (x9 = 11)))
noncomputable def qbc.u1.c:IC:=(.seq (.ops 0 (zb Try.f29 0)) (.seq (.ops 1 (zb Try.f29 1)) (.ret [2])))
noncomputable def qbc.f:Nat->Int->Int->Int->TX->Int->(Bool->M α)->M α
 | 0, _, _, _, _, _, _=>fail
 | k + 1, x0, x1, x2, x3, x4, ret=>
  qbc.u1.f k x0 x1 x2 x3 x4 (fun y0=>
   ret y0)
noncomputable def qa.u1.f (k:Nat) (x0:Sl) (kn:Sl->Ad->Option Nat->M α) (kr:Int->Int->M α):M α:=
 qm.f k x0 fun r3=>
 cond (!r3) (
  kr 0 1) (
  qx.f k x0 fun r4=>
  zol fun m5=>
  kn x0 r4 (some m5))
noncomputable def qa.u1.c (R:IC):IC:=(.seq (.ops 0 (zb Try.f19 0)) (.seq (.seq (.ops 1 (zb Try.f19 1)) (.cond (.tmp 10) (.seq (.ops 2 (zb Try.f19 2)) (.ret [2, 3])) .skip)) (.seq (.ops 3 (zb Try.f19 3)) (.seq (.cut [0, 4, 5] (.ops 4 (zb Try.f19 4))) R))))
noncomputable def qa.u2.f (k:Nat) (x0:Sl) (x1:Ad) (x2:Option Nat) (kn:Ad->Option Nat->Sl->Int->Int->M α):M α:=
 kn x1 x2 x0 (x0.len:Int) 0
noncomputable def qa.u2.c (R:IC):IC:=(.seq (.cut [4, 5, 14, 15, 16] (.ops 5 (zb Try.f19 5))) R)
noncomputable def qa.u3.f (k:Nat) (x0:Ad) (x1:Option Nat) (x2:Sl) (x3 x4:Int) (kn:Ad->Option Nat->Sl->Int->Int->M α) (kx0:M α):M α:=
 cond (decide (x4 < x3)) (
  kn x0 x1 x2 x3 x4) (
  kx0)
noncomputable def qa.u3.c (R:IC):IC:=(.seq (.ops 6 (zb Try.f19 6)) (.seq (.cut [4, 5, 14, 15, 16] (.cond (.tmp 17) .skip (.exit 0 []))) R))
noncomputable def qa.u4.f (k:Nat) (x0:Ad) (x1:Option Nat) (x2:Sl) (x3 x4:Int) (kn:Ad->Option Nat->Int->Ad->Sl->Int->Int->M α):M α:=
 idxSl x2 x4 5 fun a7=>
 ldI .i64 (a7.add 0) fun x8=>
 ldI .i64 (a7.add 1) fun x9=>
 ldI .i64 (a7.add 2) fun x10=>
 ldStr (a7.add 3) fun x11=>
 ldI .i64 (a7.add 4) fun x12=>
 new [.int .i64 0, .int .i64 0, .int .i64 0, .str [], .int .i64 0] fun n13=>
 st1 (n13.add 0) (.int .i64 x8) <|
 st1 (n13.add 1) (.int .i64 x9) <|
 st1 (n13.add 2) (.int .i64 x10) <|
 st1 (n13.add 3) (.str x11) <|
 st1 (n13.add 4) (.int .i64 x12) <|
 kn x0 x1 x4 n13 x2 x3 x4
noncomputable def qa.u4.c (R:IC):IC:=(.seq (.cut [4, 5, 6, 7, 14, 15, 16] (.ops 7 (zb Try.f19 7))) R)
noncomputable def qa.u5.f (k:Nat) (x0:Ad) (x1:Option Nat) (x2:Int) (x3:Ad) (x4:Sl) (x5 x6:Int) (kn:Ad->Option Nat->Int->Ad->Sl->Int->Int->Bool->M α):M α:=
 ldI .i64 ((x3.add 0).add 0) fun x9=>
 cond (decide (x9 = 4)) (
  ldS ((x0.add 3).add 0) fun x10=>
  idxSl x10 x2 1 fun a11=>
  ldI .i64 (a11.add 0) fun x12=>
  kn x0 x1 x2 x3 x4 x5 x6 (decide (x12 < 0))) (
  kn x0 x1 x2 x3 x4 x5 x6 false)
noncomputable def qa.u5.c (R:IC):IC:=(.seq (.cut [4, 5, 6, 7, 14, 15, 16, 21] (.ops 8 (zb Try.f19 8))) R)
noncomputable def qa.u6.f (k:Nat) (x0:Ad) (x1:Option Nat) (x2:Int) (x3:Ad) (x4:Sl) (x5 x6:Int) (x7:Bool) (kr:Int->Int->M α):M α:=
 kr x2 11
noncomputable def qa.u6.c:IC:=(.seq (.ops 9 (zb Try.f19 9)) (.ret [2, 3]))
noncomputable def qa.u7.f (k:Nat) (x0:Ad) (x1:Option Nat) (x2:Int) (x3:Ad) (x4:Sl) (x5 x6:Int) (x7:Bool) (kn:Ad->Option Nat->Int->Ad->Sl->Int->Int->Bool->M α):M α:=
 ldI .i64 ((x3.add 0).add 0) fun x10=>
 cond (decide (x10 = 4)) (
  ldS ((x0.add 4).add 0) fun x11=>
  idxSl x11 x2 1 fun a12=>
  ldB (a12.add 0) fun x13=>
  kn x0 x1 x2 x3 x4 x5 x6 x13) (
  kn x0 x1 x2 x3 x4 x5 x6 false)
noncomputable def qa.u7.c (R:IC):IC:=(.seq (.cut [4, 5, 6, 7, 14, 15, 16, 36] (.ops 10 (zb Try.f19 10))) R)
noncomputable def qa.u8.f (k:Nat) (x0:Ad) (x1:Option Nat) (x2:Int) (x3:Ad) (x4:Sl) (x5 x6:Int) (x7:Bool) (kr:Int->Int->M α):M α:=
 kr x2 12
noncomputable def qa.u8.c:IC:=(.seq (.ops 11 (zb Try.f19 11)) (.ret [2, 3]))
noncomputable def qa.u9.f (k:Nat) (x0:Ad) (x1:Option Nat) (x2:Int) (x3:Ad) (x4:Sl) (x5 x6:Int) (x7:Bool) (kn:Ad->Option Nat->Int->Ad->Sl->Int->Int->Bool->M α):M α:=
 ldI .i64 (x3.add 0) fun x10=>
 ldI .i64 (x3.add 1) fun x11=>
 ldI .i64 (x3.add 2) fun x12=>
 ldStr (x3.add 3) fun x13=>
 ldI .i64 (x3.add 4) fun x14=>
 qbc.f k x10 x11 x12 x13 x14 fun r15=>
 cond (r15) (
  ldStr ((x3.add 3).add 0) fun x16=>
  lookM x1 (.str x16) (
   kn x0 x1 x2 x3 x4 x5 x6 false) fun w17=>
  asB w17 fun x18=>
  kn x0 x1 x2 x3 x4 x5 x6 x18) (
  kn x0 x1 x2 x3 x4 x5 x6 false)
noncomputable def qa.u9.c (R:IC):IC:=(.seq (.cut [4, 5, 6, 7, 14, 15, 16, 50] (.ops 12 (zb Try.f19 12))) R)
noncomputable def qa.u10.f (k:Nat) (x0:Ad) (x1:Option Nat) (x2:Int) (x3:Ad) (x4:Sl) (x5 x6:Int) (x7:Bool) (kn:Ad->Option Nat->Ad->Sl->Int->Int->M α) (kr:Int->Int->M α):M α:=
 cond (x7) (
  kr x2 9) (
  ldI .i64 (x3.add 0) fun x10=>
  ldI .i64 (x3.add 1) fun x11=>
  ldI .i64 (x3.add 2) fun x12=>
  ldStr (x3.add 3) fun x13=>
  ldI .i64 (x3.add 4) fun x14=>
  qbc.f k x10 x11 x12 x13 x14 fun r15=>
  cond (r15) (
   ldS ((x0.add 5).add 0) fun x16=>
   idxSl x16 x2 1 fun a17=>
   ldI .i64 (a17.add 0) fun x18=>
   cond (decide (4 < x18)) (
    kr x2 13) (
    kn x0 x1 x3 x4 x5 x6)) (
   kn x0 x1 x3 x4 x5 x6))
noncomputable def qa.u10.c:IC:=(.cut [4, 5, 7, 14, 15, 16] (.cond (.tmp 50) (.seq (.ops 13 (zb Try.f19 13)) (.ret [2, 3])) (.seq (.ops 14 (zb Try.f19 14)) (.cond (.tmp 60) (.seq (.ops 15 (zb Try.f19 15)) (.ret [2, 3])) .skip))))
noncomputable abbrev qa.u11.f (k:Nat) (x0:Ad) (x1:Option Nat) (x2:Int) (x3:Ad) (x4:Sl) (x5 x6:Int) (x7:Bool) (kn:Ad->Option Nat->Ad->Sl->Int->Int->M α) (kr:Int->Int->M α):M α:=
 qa.u9.f k x0 x1 x2 x3 x4 x5 x6 x7 (fun y0 y1 y2 y3 y4 y5 y6 y7=>qa.u10.f k y0 y1 y2 y3 y4 y5 y6 y7 kn kr)
noncomputable def qa.u11.c:IC:=qa.u9.c qa.u10.c
noncomputable abbrev qa.u12.f (k:Nat) (x0:Ad) (x1:Option Nat) (x2:Int) (x3:Ad) (x4:Sl) (x5 x6:Int) (x7:Bool) (kn:Ad->Option Nat->Ad->Sl->Int->Int->M α) (kr:Int->Int->M α):M α:=
 cond x7 (
  qa.u8.f k x0 x1 x2 x3 x4 x5 x6 x7 kr) (
  qa.u11.f k x0 x1 x2 x3 x4 x5 x6 x7 kn kr)
noncomputable def qa.u12.c:IC:=.cond (.tmp 36) qa.u8.c qa.u11.c
noncomputable abbrev qa.u13.f (k:Nat) (x0:Ad) (x1:Option Nat) (x2:Int) (x3:Ad) (x4:Sl) (x5 x6:Int) (x7:Bool) (kn:Ad->Option Nat->Ad->Sl->Int->Int->M α) (kr:Int->Int->M α):M α:=
 qa.u7.f k x0 x1 x2 x3 x4 x5 x6 x7 (fun y0 y1 y2 y3 y4 y5 y6 y7=>qa.u12.f k y0 y1 y2 y3 y4 y5 y6 y7 kn kr)
noncomputable def qa.u13.c:IC:=qa.u7.c qa.u12.c
noncomputable abbrev qa.u14.f (k:Nat) (x0:Ad) (x1:Option Nat) (x2:Int) (x3:Ad) (x4:Sl) (x5 x6:Int) (x7:Bool) (kn:Ad->Option Nat->Ad->Sl->Int->Int->M α) (kr:Int->Int->M α):M α:=
 cond x7 (
  qa.u6.f k x0 x1 x2 x3 x4 x5 x6 x7 kr) (
  qa.u13.f k x0 x1 x2 x3 x4 x5 x6 x7 kn kr)
noncomputable def qa.u14.c:IC:=.cond (.tmp 21) qa.u6.c qa.u13.c
noncomputable abbrev qa.u15.f (k:Nat) (x0:Ad) (x1:Option Nat) (x2:Int) (x3:Ad) (x4:Sl) (x5 x6:Int) (kn:Ad->Option Nat->Ad->Sl->Int->Int->M α) (kr:Int->Int->M α):M α:=
 qa.u5.f k x0 x1 x2 x3 x4 x5 x6 (fun y0 y1 y2 y3 y4 y5 y6 y7=>qa.u14.f k y0 y1 y2 y3 y4 y5 y6 y7 kn kr)
noncomputable def qa.u15.c:IC:=qa.u5.c qa.u14.c
noncomputable abbrev qa.u16.f (k:Nat) (x0:Ad) (x1:Option Nat) (x2:Int) (x3:Ad) (x4:Sl) (x5 x6:Int) (kn:Ad->Option Nat->Ad->Sl->Int->Int->M α) (kr:Int->Int->M α):M α:=
 qa.u15.f k x0 x1 x2 x3 x4 x5 x6 (fun y0 y1 y2 y3 y4 y5=>kn y0 y1 y2 y3 y4 y5) kr
noncomputable def qa.u16.c:IC:=.block 2 qa.u15.c
noncomputable def qa.u17.f (k:Nat) (x0:Ad) (x1:Option Nat) (x2:Ad) (x3:Sl) (x4 x5:Int) (kn:Ad->Option Nat->Sl->Int->Int->M α):M α:=
 ldI .i64 (x2.add 0) fun x8=>
 ldI .i64 (x2.add 1) fun x9=>
 ldI .i64 (x2.add 2) fun x10=>
 ldStr (x2.add 3) fun x11=>
 ldI .i64 (x2.add 4) fun x12=>
 qbc.f k x8 x9 x10 x11 x12 fun r13=>
 cond (r13) (
  ldStr ((x2.add 3).add 0) fun x14=>
  setMap x1 (.str x14) (.bool true) <|
  kn x0 x1 x3 x4 x5) (
  kn x0 x1 x3 x4 x5)
noncomputable def qa.u17.c:IC:=(.seq (.ops 16 (zb Try.f19 16)) (.cut [4, 5, 14, 15, 16] (.cond (.tmp 75) (.ops 17 (zb Try.f19 17)) .skip)))
noncomputable abbrev qa.u18.f (k:Nat) (x0:Ad) (x1:Option Nat) (x2:Int) (x3:Ad) (x4:Sl) (x5 x6:Int) (kn:Ad->Option Nat->Sl->Int->Int->M α) (kr:Int->Int->M α):M α:=
 qa.u16.f k x0 x1 x2 x3 x4 x5 x6 (fun y0 y1 y2 y3 y4 y5=>qa.u17.f k y0 y1 y2 y3 y4 y5 kn) kr
noncomputable def qa.u18.c:IC:=(.seq qa.u16.c qa.u17.c)
noncomputable abbrev qa.u19.f (k:Nat) (x0:Ad) (x1:Option Nat) (x2:Sl) (x3 x4:Int) (kn:Ad->Option Nat->Sl->Int->Int->M α) (kr:Int->Int->M α):M α:=
 qa.u4.f k x0 x1 x2 x3 x4 (fun y0 y1 y2 y3 y4 y5 y6=>qa.u18.f k y0 y1 y2 y3 y4 y5 y6 kn kr)
noncomputable def qa.u19.c:IC:=qa.u4.c qa.u18.c
noncomputable abbrev qa.u20.f (k:Nat) (x0:Ad) (x1:Option Nat) (x2:Sl) (x3 x4:Int) (kn:Ad->Option Nat->Sl->Int->Int->M α) (kr:Int->Int->M α):M α:=
 qa.u19.f k x0 x1 x2 x3 x4 (fun y0 y1 y2 y3 y4=>kn y0 y1 y2 y3 y4) kr
noncomputable def qa.u20.c:IC:=.block 1 qa.u19.c
noncomputable def qa.u21.f (k:Nat) (x0:Ad) (x1:Option Nat) (x2:Sl) (x3 x4:Int) (kn:Ad->Option Nat->Sl->Int->Int->M α):M α:=
 kn x0 x1 x2 x3 (w64 (x4 + 1))
noncomputable def qa.u21.c:IC:=(.cut [4, 5, 14, 15, 16] (.ops 18 (zb Try.f19 18)))
noncomputable abbrev qa.u22.f (k:Nat) (x0:Ad) (x1:Option Nat) (x2:Sl) (x3 x4:Int) (kn:Ad->Option Nat->Sl->Int->Int->M α) (kr:Int->Int->M α):M α:=
 qa.u20.f k x0 x1 x2 x3 x4 (fun y0 y1 y2 y3 y4=>qa.u21.f k y0 y1 y2 y3 y4 kn) kr
noncomputable def qa.u22.c:IC:=(.seq qa.u20.c qa.u21.c)
noncomputable abbrev qa.u23.f (k:Nat) (x0:Ad) (x1:Option Nat) (x2:Sl) (x3 x4:Int) (kn:Ad->Option Nat->Sl->Int->Int->M α) (kr:Int->Int->M α) (kx0:M α):M α:=
 qa.u3.f k x0 x1 x2 x3 x4 (fun y0 y1 y2 y3 y4=>qa.u22.f k y0 y1 y2 y3 y4 kn kr) kx0
noncomputable def qa.u23.c:IC:=qa.u3.c qa.u22.c
noncomputable def qa.u24.l (k:Nat) (kr:Int->Int->M α) (kx0:M α):Nat->Ad->Option Nat->Sl->Int->Int->M α
 | 0, _, _, _, _, _=>fail
 | j + 1, x0, x1, x2, x3, x4=>
  qa.u23.f k x0 x1 x2 x3 x4 (fun y0 y1 y2 y3 y4=>qa.u24.l k kr kx0 j y0 y1 y2 y3 y4) kr kx0
noncomputable abbrev qa.u24.f (k:Nat) (x0:Ad) (x1:Option Nat) (x2:Sl) (x3 x4:Int) (kr:Int->Int->M α) (kx0:M α):M α:=
 qa.u24.l k kr kx0 k x0 x1 x2 x3 x4
noncomputable def qa.u24.c:IC:=.loop [4, 5, 14, 15, 16] qa.u23.c
noncomputable abbrev qa.u25.f (k:Nat) (x0:Ad) (x1:Option Nat) (x2:Sl) (x3 x4:Int) (kn:M α) (kr:Int->Int->M α):M α:=
 qa.u24.f k x0 x1 x2 x3 x4 kr (kn)
noncomputable def qa.u25.c:IC:=.block 0 qa.u24.c
noncomputable abbrev qa.u26.f (k:Nat) (x0:Sl) (x1:Ad) (x2:Option Nat) (kn:M α) (kr:Int->Int->M α):M α:=
 qa.u2.f k x0 x1 x2 (fun y0 y1 y2 y3 y4=>qa.u25.f k y0 y1 y2 y3 y4 kn kr)
noncomputable def qa.u26.c:IC:=qa.u2.c qa.u25.c
noncomputable def qa.u27.f (k:Nat) (kr:Int->Int->M α):M α:=
 kr 0 0
noncomputable def qa.u27.c:IC:=(.seq (.ops 19 (zb Try.f19 19)) (.ret [2, 3]))
noncomputable abbrev qa.u28.f (k:Nat) (x0:Sl) (x1:Ad) (x2:Option Nat) (kr:Int->Int->M α):M α:=
 qa.u26.f k x0 x1 x2 (qa.u27.f k kr) kr
noncomputable def qa.u28.c:IC:=(.seq qa.u26.c qa.u27.c)
noncomputable abbrev qa.u29.f (k:Nat) (x0:Sl) (kr:Int->Int->M α):M α:=
 qa.u1.f k x0 (fun y0 y1 y2=>qa.u28.f k y0 y1 y2 kr) kr
noncomputable def qa.u29.c:IC:=qa.u1.c qa.u28.c
noncomputable def qa.f:Nat->Sl->(Int->Int->M α)->M α
 | 0, _, _=>fail
 | k + 1, x0, ret=>
  qa.u29.f k x0 (fun y0 y1=>
   ret y0 y1)
noncomputable def qo.u1.f (k:Nat) (x0:Sl) (kn:Sl->M α):M α:=
 qaz.f k x0 fun r3=>
 kn r3
noncomputable def qo.u1.c (R:IC):IC:=(.seq (.ops 0 (zb Try.f27 0)) (.seq (.cut [3] (.ops 1 (zb Try.f27 1))) R))
noncomputable def qo.u2.f (k:Nat) (x0:Sl) (kn:Sl->Int->Int->M α):M α:=
 kn x0 (x0.len:Int) 0
noncomputable def qo.u2.c (R:IC):IC:=(.seq (.cut [3, 10, 11] (.ops 2 (zb Try.f27 2))) R)
noncomputable def qo.u3.f (k:Nat) (x0:Sl) (x1 x2:Int) (kn:Sl->Int->Int->M α) (kx0:Sl->M α):M α:=
 cond (decide (x2 < x1)) (
  idxSl x0 x2 5 fun a5=>
  ldI .i64 ((a5.add 0).add 0) fun x6=>
  cond (decide (x6 = 12)) (
   idxSl x0 x2 5 fun a7=>
   st1 ((a7.add 0).add 0) (.int .i64 3) <|
   kn x0 x1 (w64 (x2 + 1))) (
   kn x0 x1 (w64 (x2 + 1)))) (
  kx0 x0)
noncomputable def qo.u3.c:IC:=(.seq (.ops 3 (zb Try.f27 3)) (.seq (.cond (.tmp 12) .skip (.exit 0 [3])) (.seq (.block 1 (.seq (.ops 4 (zb Try.f27 4)) (.seq (.ops 5 (zb Try.f27 5)) (.cond (.tmp 19) (.ops 6 (zb Try.f27 6)) .skip)))) (.cut [3, 10, 11] (.ops 7 (zb Try.f27 7))))))
noncomputable def qo.u4.l (k:Nat) (kx0:Sl->M α):Nat->Sl->Int->Int->M α
 | 0, _, _, _=>fail
 | j + 1, x0, x1, x2=>
  qo.u3.f k x0 x1 x2 (fun y0 y1 y2=>qo.u4.l k kx0 j y0 y1 y2) kx0
noncomputable abbrev qo.u4.f (k:Nat) (x0:Sl) (x1 x2:Int) (kx0:Sl->M α):M α:=
 qo.u4.l k kx0 k x0 x1 x2
noncomputable def qo.u4.c:IC:=.loop [3, 10, 11] qo.u3.c
noncomputable abbrev qo.u5.f (k:Nat) (x0:Sl) (x1 x2:Int) (kn:Sl->M α):M α:=
 qo.u4.f k x0 x1 x2 (fun y0=>kn y0)
noncomputable def qo.u5.c:IC:=.block 0 qo.u4.c
noncomputable abbrev qo.u6.f (k:Nat) (x0:Sl) (kn:Sl->M α):M α:=
 qo.u2.f k x0 (fun y0 y1 y2=>qo.u5.f k y0 y1 y2 kn)
noncomputable def qo.u6.c:IC:=qo.u2.c qo.u5.c
noncomputable def qo.u7.f (k:Nat) (x0:Sl) (kr:Bool->M α):M α:=
 qa.f k x0 fun r3 r4=>
 kr (decide (r4 = 0))
noncomputable def qo.u7.c:IC:=(.seq (.ops 8 (zb Try.f27 8)) (.seq (.ops 9 (zb Try.f27 9)) (.ret [2])))
noncomputable abbrev qo.u8.f (k:Nat) (x0:Sl) (kr:Bool->M α):M α:=
 qo.u6.f k x0 (fun y0=>qo.u7.f k y0 kr)
noncomputable def qo.u8.c:IC:=(.seq qo.u6.c qo.u7.c)
noncomputable abbrev qo.u9.f (k:Nat) (x0:Sl) (kr:Bool->M α):M α:=
 qo.u1.f k x0 (fun y0=>qo.u8.f k y0 kr)
noncomputable def qo.u9.c:IC:=qo.u1.c qo.u8.c
noncomputable def qo.f:Nat->Sl->(Bool->M α)->M α
 | 0, _, _=>fail
 | k + 1, x0, ret=>
  qo.u9.f k x0 (fun y0=>
   ret y0)
noncomputable def qbh.u1.f (k:Nat) (x0:Int) (kr:Int->M α):M α:=
 cond (decide (x0 = 1)) (
  kr 2) (
  cond (decide (x0 = 2)) (
   kr 1) (
   cond (decide (x0 = 3)) (
    kr 12) (
    cond (decide (x0 = 12)) (
     kr 3) (
     cond (decide (x0 = 6)) (
      kr 7) (
      cond (decide (x0 = 7)) (
       kr 6) (
       cond (decide (x0 = 8)) (
        kr 9) (
        cond (decide (x0 = 9)) (
         kr 8) (
         cond (decide (x0 = 10)) (
          kr 11) (
          cond (decide (x0 = 11)) (
           kr 10) (
           kr x0))))))))))
noncomputable def qbh.u1.c:IC:=(.seq (.ops 0 (zb Try.f55 0)) (.seq (.seq (.ops 1 (zb Try.f55 1)) (.block 0 (.seq (.ops 2 (zb Try.f55 2)) (.cond (.tmp 4) (.seq (.ops 3 (zb Try.f55 3)) (.ret [2])) (.seq (.ops 4 (zb Try.f55 4)) (.cond (.tmp 6) (.seq (.ops 5 (zb Try.f55 5)) (.ret [2])) (.seq (.ops 6 (zb Try.f55 6)) (.cond (.tmp 8) (.seq (.ops 7 (zb Try.f55 7)) (.ret [2])) (.seq (.ops 8 (zb Try.f55 8)) (.cond (.tmp 10) (.seq (.ops 9 (zb Try.f55 9)) (.ret [2])) (.seq (.ops 10 (zb Try.f55 10)) (.cond (.tmp 12) (.seq (.ops 11 (zb Try.f55 11)) (.ret [2])) (.seq (.ops 12 (zb Try.f55 12)) (.cond (.tmp 14) (.seq (.ops 13 (zb Try.f55 13)) (.ret [2])) (.seq (.ops 14 (zb Try.f55 14)) (.cond (.tmp 16) (.seq (.ops 15 (zb Try.f55 15)) (.ret [2])) (.seq (.ops 16 (zb Try.f55 16)) (.cond (.tmp 18) (.seq (.ops 17 (zb Try.f55 17)) (.ret [2])) (.seq (.ops 18 (zb Try.f55 18)) (.cond (.tmp 20) (.seq (.ops 19 (zb Try.f55 19)) (.ret [2])) (.seq (.ops 20 (zb Try.f55 20)) (.cond (.tmp 22) (.seq (.ops 21 (zb Try.f55 21)) (.ret [2])) .skip)))))))))))))))))))))) (.seq (.ops 22 (zb Try.f55 22)) (.ret [2]))))
noncomputable def qbh.f:Nat->Int->(Int->M α)->M α
 | 0, _, _=>fail
 | k + 1, x0, ret=>
  qbh.u1.f k x0 (fun y0=>
   ret y0)
noncomputable def qad.u1.f (k:Nat) (rr40:Ad->Int->Bool->(Int->M α)->M α) (x0:Ad) (x1:Int) (x2:Bool) (kn:Ad->Bool->Ad->M α) (kr:Int->M α):M α:=
 ldS ((x0.add 0).add 0) fun x5=>
 idxSl x5 x1 5 fun a6=>
 ldI .i64 (a6.add 0) fun x7=>
 ldI .i64 (a6.add 1) fun x8=>
 ldI .i64 (a6.add 2) fun x9=>
 ldStr (a6.add 3) fun x10=>
 ldI .i64 (a6.add 4) fun x11=>
 new [.int .i64 0, .int .i64 0, .int .i64 0, .str [], .int .i64 0] fun x12=>
 st1 (x12.add 0) (.int .i64 x7) <|
 st1 (x12.add 1) (.int .i64 x8) <|
 st1 (x12.add 2) (.int .i64 x9) <|
 st1 (x12.add 3) (.str x10) <|
 st1 (x12.add 4) (.int .i64 x11) <|
 ldI .i64 ((x12.add 0).add 0) fun x13=>
 cond (decide (x13 = 5)) (
  ldI .i64 ((x12.add 1).add 0) fun x14=>
  rr40 x0 x14 (!x2) fun r15=>
  kr r15) (
  ldI .i64 ((x12.add 0).add 0) fun x16=>
  cond (decide (x16 = 6)) (
   cond (decide (x16 = 6)) (
    ldI .i64 ((x12.add 1).add 0) fun x17=>
    ldI .i64 ((x12.add 2).add 0) fun x18=>
    rr40 x0 x17 x2 fun r19=>
    ldI .i64 ((x12.add 2).add 0) fun y20=>
    need (decide (x18 = y20)) <|
    rr40 x0 x18 x2 fun r21=>
    st1 ((x12.add 1).add 0) (.int .i64 r19) <|
    st1 ((x12.add 2).add 0) (.int .i64 r21) <|
    kn x0 x2 x12) (
    cond (decide (x16 = 8)) (
     cond (decide (x16 = 8)) (
      ldI .i64 ((x12.add 1).add 0) fun x22=>
      rr40 x0 x22 x2 fun r23=>
      st1 ((x12.add 1).add 0) (.int .i64 r23) <|
      kn x0 x2 x12) (
      kn x0 x2 x12)) (
     cond (decide (x16 = 9)) (
      cond (decide (x16 = 9)) (
       ldI .i64 ((x12.add 1).add 0) fun x24=>
       rr40 x0 x24 x2 fun r25=>
       st1 ((x12.add 1).add 0) (.int .i64 r25) <|
       kn x0 x2 x12) (
       kn x0 x2 x12)) (
      cond (decide (x16 = 10)) (
       cond (decide (x16 = 10)) (
        ldI .i64 ((x12.add 1).add 0) fun x26=>
        rr40 x0 x26 x2 fun r27=>
        st1 ((x12.add 1).add 0) (.int .i64 r27) <|
        kn x0 x2 x12) (
        kn x0 x2 x12)) (
       cond (decide (x16 = 11)) (
        ldI .i64 ((x12.add 1).add 0) fun x28=>
        rr40 x0 x28 x2 fun r29=>
        st1 ((x12.add 1).add 0) (.int .i64 r29) <|
        kn x0 x2 x12) (
        kn x0 x2 x12)))))) (
   cond (decide (x16 = 7)) (
    ldI .i64 ((x12.add 1).add 0) fun x30=>
    ldI .i64 ((x12.add 2).add 0) fun x31=>
    rr40 x0 x30 x2 fun r32=>
    ldI .i64 ((x12.add 2).add 0) fun y33=>
    need (decide (x31 = y33)) <|
    rr40 x0 x31 x2 fun r34=>
    st1 ((x12.add 1).add 0) (.int .i64 r32) <|
    st1 ((x12.add 2).add 0) (.int .i64 r34) <|
    kn x0 x2 x12) (
    cond (decide (x16 = 8)) (
     cond (decide (x16 = 8)) (
      ldI .i64 ((x12.add 1).add 0) fun x35=>
      rr40 x0 x35 x2 fun r36=>
      st1 ((x12.add 1).add 0) (.int .i64 r36) <|
      kn x0 x2 x12) (
      kn x0 x2 x12)) (
     cond (decide (x16 = 9)) (
      cond (decide (x16 = 9)) (
       ldI .i64 ((x12.add 1).add 0) fun x37=>
       rr40 x0 x37 x2 fun r38=>
       st1 ((x12.add 1).add 0) (.int .i64 r38) <|
       kn x0 x2 x12) (
       kn x0 x2 x12)) (
      cond (decide (x16 = 10)) (
       cond (decide (x16 = 10)) (
        ldI .i64 ((x12.add 1).add 0) fun x39=>
        rr40 x0 x39 x2 fun r40=>
        st1 ((x12.add 1).add 0) (.int .i64 r40) <|
        kn x0 x2 x12) (
        kn x0 x2 x12)) (
       cond (decide (x16 = 11)) (
        ldI .i64 ((x12.add 1).add 0) fun x41=>
        rr40 x0 x41 x2 fun r42=>
        st1 ((x12.add 1).add 0) (.int .i64 r42) <|
        kn x0 x2 x12) (
        kn x0 x2 x12)))))))
noncomputable def qad.u1.c (R:IC):IC:=(.seq (.ops 0 (zb Try.f40 0)) (.seq (.ops 1 (zb Try.f40 1)) (.seq (.seq (.ops 2 (zb Try.f40 2)) (.cond (.tmp 17) (.seq (.ops 3 (zb Try.f40 3)) (.ret [6])) .skip)) (.seq (.cut [0, 2, 7] (.seq (.ops 4 (zb Try.f40 4)) (.block 0 (.seq (.seq (.ops 5 (zb Try.f40 5)) (.cond (.tmp 26) .skip (.ops 6 (zb Try.f40 6)))) (.cond (.tmp 26) (.drawn 7 (zb Try.f40 7) true [.op 0, .op 1, .op 2, .op 3, .op 5, .op 6, .op 7, .op 8, .op 4, .look 7, .op 10, .op 9, .op 11, .op 12, .op 13]) (.seq (.seq (.ops 8 (zb Try.f40 8)) (.cond (.tmp 41) .skip (.seq (.ops 9 (zb Try.f40 9)) (.cond (.tmp 41) .skip (.seq (.ops 10 (zb Try.f40 10)) (.cond (.tmp 41) .skip (.ops 11 (zb Try.f40 11)))))))) (.cond (.tmp 41) (.ops 12 (zb Try.f40 12)) .skip))))))) R))))
noncomputable def qad.u2.f (k:Nat) (x0:Ad) (x1:Bool) (x2:Ad) (kn:Ad->Ad->M α):M α:=
 cond (x1) (
  ldI .i64 ((x2.add 0).add 0) fun x5=>
  qbh.f k x5 fun r6=>
  st1 ((x2.add 0).add 0) (.int .i64 r6) <|
  kn x0 x2) (
  kn x0 x2)
noncomputable def qad.u2.c (R:IC):IC:=(.seq (.cut [0, 7] (.seq (.ops 13 (zb Try.f40 13)) (.cond (.tmp 52) (.ops 14 (zb Try.f40 14)) .skip))) R)
noncomputable def qad.u3.f (k:Nat) (x0 x1:Ad) (kr:Int->M α):M α:=
 ldS ((x0.add 1).add 0) fun x4=>
 ldI .i64 (x1.add 0) fun x5=>
 ldI .i64 (x1.add 1) fun x6=>
 ldI .i64 (x1.add 2) fun x7=>
 ldStr (x1.add 3) fun x8=>
 ldI .i64 (x1.add 4) fun x9=>
 new [.int .i64 x5, .int .i64 x6, .int .i64 x7, .str x8, .int .i64 x9] fun r10=>
 ldS ((x0.add 1).add 0) fun y11=>
 need (decide (x4 = y11)) <|
 zq x4 5 48 (⟨some r10, 1, 1, none⟩:Sl) fun x12=>
 st1 ((x0.add 1).add 0) (.slice x12) <|
 ldS ((x0.add 1).add 0) fun x13=>
 kr (w64 ((x13.len:Int) - 1))
noncomputable def qad.u3.c:IC:=(.seq (.drawn 15 (zb Try.f40 15) true [.op 0, .op 1, .op 2, .op 3, .op 4, .op 5, .op 6, .look 4, .op 7, .op 8, .op 9, .op 10]) (.seq (.ops 16 (zb Try.f40 16)) (.ret [6])))
noncomputable abbrev qad.u4.f (k:Nat) (x0:Ad) (x1:Bool) (x2:Ad) (kr:Int->M α):M α:=
 qad.u2.f k x0 x1 x2 (fun y0 y1=>qad.u3.f k y0 y1 kr)
noncomputable def qad.u4.c:IC:=qad.u2.c qad.u3.c
noncomputable abbrev qad.u5.f (k:Nat) (rr40:Ad->Int->Bool->(Int->M α)->M α) (x0:Ad) (x1:Int) (x2:Bool) (kr:Int->M α):M α:=
 qad.u1.f k rr40 x0 x1 x2 (fun y0 y1 y2=>qad.u4.f k y0 y1 y2 kr) kr
noncomputable def qad.u5.c:IC:=qad.u1.c qad.u4.c
mutual
noncomputable def qad.f:Nat->Ad->Int->Bool->(Int->M α)->M α
 | 0, _, _, _, _=>fail
 | k + 1, x0, x1, x2, ret=>
  qad.u5.f k (fun z0 z1 z2 z3=>qad.f k z0 z1 z2 z3) x0 x1 x2 (fun y0=>
   ret y0)
end
noncomputable def qaw.u1.f (k:Nat) (x0:Sl) (x1:Bool) (kr:Sl->M α):M α:=
 qo.f k x0 fun r4=>
 cond (!r4) (
  kr Sl.nil) (
  new [.slice x0, .slice Sl.nil] fun x5=>
  qad.f k x5 (w64 ((x0.len:Int) - 1)) x1 fun r6=>
  ldS ((x5.add 1).add 0) fun x7=>
  kr x7)
noncomputable def qaw.u1.c:IC:=(.seq (.ops 0 (zb Try.f22 0)) (.seq (.seq (.ops 1 (zb Try.f22 1)) (.cond (.tmp 8) (.seq (.ops 2 (zb Try.f22 2)) (.ret [4])) .skip)) (.seq (.ops 3 (zb Try.f22 3)) (.seq (.ops 4 (zb Try.f22 4)) (.seq (.ops 5 (zb Try.f22 5)) (.ret [4]))))))
noncomputable def qaw.f:Nat->Sl->Bool->(Sl->M α)->M α
 | 0, _, _, _=>fail
 | k + 1, x0, x1, ret=>
  qaw.u1.f k x0 x1 (fun y0=>
   ret y0)
noncomputable def qay.u1.f (k:Nat) (x0:Sl) (kr:Sl->M α):M α:=
 qaw.f k x0 false fun r3=>
 kr r3
noncomputable def qay.u1.c:IC:=(.seq (.ops 0 (zb Try.f9 0)) (.seq (.ops 1 (zb Try.f9 1)) (.ret [2])))
noncomputable def qay.f:Nat->Sl->(Sl->M α)->M α
 | 0, _, _=>fail
 | k + 1, x0, ret=>
  qay.u1.f k x0 (fun y0=>
   ret y0)
noncomputable def qn.u1.f (k:Nat) (x0 x1:Sl) (x2:Bool) (kn:Sl->Sl->Bool->M α) (kr:Bool->M α):M α:=
 cond (!(decide ((x0.len:Int) = (x1.len:Int)))) (
  kr false) (
  kn x0 x1 x2)
noncomputable def qn.u1.c (R:IC):IC:=(.seq (.ops 0 (zb Try.f12 0)) (.seq (.cut [0, 1, 2] (.seq (.ops 1 (zb Try.f12 1)) (.cond (.tmp 14) (.seq (.ops 2 (zb Try.f12 2)) (.ret [6])) .skip))) R))
noncomputable def qn.u2.f (k:Nat) (x0 x1:Sl) (x2:Bool) (kn:Sl->Sl->Bool->Int->M α):M α:=
 kn x0 x1 x2 0
noncomputable def qn.u2.c (R:IC):IC:=(.seq (.cut [0, 1, 2, 7] (.ops 3 (zb Try.f12 3))) R)
noncomputable def qn.u3.f (k:Nat) (x0 x1:Sl) (x2:Bool) (x3:Int) (kn:Sl->Sl->Bool->Int->M α) (kr:Bool->M α) (kx0:M α):M α:=
 cond (decide (x3 < (x0.len:Int))) (
  idxSl x0 x3 5 fun a6=>
  ldI .i64 (a6.add 0) fun x7=>
  ldI .i64 (a6.add 1) fun x8=>
  ldI .i64 (a6.add 2) fun x9=>
  ldStr (a6.add 3) fun x10=>
  ldI .i64 (a6.add 4) fun x11=>
  new [.int .i64 0, .int .i64 0, .int .i64 0, .str [], .int .i64 0] fun a12=>
  st1 (a12.add 0) (.int .i64 x7) <|
  st1 (a12.add 1) (.int .i64 x8) <|
  st1 (a12.add 2) (.int .i64 x9) <|
  st1 (a12.add 3) (.str x10) <|
  st1 (a12.add 4) (.int .i64 x11) <|
  idxSl x1 x3 5 fun a13=>
  ldI .i64 (a13.add 0) fun x14=>
  ldI .i64 (a13.add 1) fun x15=>
  ldI .i64 (a13.add 2) fun x16=>
  ldStr (a13.add 3) fun x17=>
  ldI .i64 (a13.add 4) fun x18=>
  new [.int .i64 0, .int .i64 0, .int .i64 0, .str [], .int .i64 0] fun b19=>
  st1 (b19.add 0) (.int .i64 x14) <|
  st1 (b19.add 1) (.int .i64 x15) <|
  st1 (b19.add 2) (.int .i64 x16) <|
  st1 (b19.add 3) (.str x17) <|
  st1 (b19.add 4) (.int .i64 x18) <|
  cond (!x2) (
   st1 ((a12.add 4).add 0) (.int .i64 0) <|
   st1 ((b19.add 4).add 0) (.int .i64 0) <|
   ldI .i64 (a12.add 0) fun x20=>
   ldI .i64 (a12.add 1) fun x21=>
   ldI .i64 (a12.add 2) fun x22=>
   ldStr (a12.add 3) fun x23=>
   ldI .i64 (a12.add 4) fun x24=>
   ldI .i64 (b19.add 0) fun x25=>
   ldI .i64 (b19.add 1) fun x26=>
   ldI .i64 (b19.add 2) fun x27=>
   ldStr (b19.add 3) fun x28=>
   ldI .i64 (b19.add 4) fun x29=>
   cond (!((decide (x20 = x25) && (decide (x21 = x26) && (decide (x22 = x27) && (decide (x23 = x28) && (decide (x24 = x29) && true))))))) (
    kr false) (
    kn x0 x1 x2 (w64 (x3 + 1)))) (
   ldI .i64 (a12.add 0) fun x30=>
   ldI .i64 (a12.add 1) fun x31=>
   ldI .i64 (a12.add 2) fun x32=>
   ldStr (a12.add 3) fun x33=>
   ldI .i64 (a12.add 4) fun x34=>
   ldI .i64 (b19.add 0) fun x35=>
   ldI .i64 (b19.add 1) fun x36=>
   ldI .i64 (b19.add 2) fun x37=>
   ldStr (b19.add 3) fun x38=>
   ldI .i64 (b19.add 4) fun x39=>
   cond (!((decide (x30 = x35) && (decide (x31 = x36) && (decide (x32 = x37) && (decide (x33 = x38) && (decide (x34 = x39) && true))))))) (
    kr false) (
    kn x0 x1 x2 (w64 (x3 + 1))))) (
  kx0)
noncomputable def qn.u3.c:IC:=(.seq (.seq (.ops 4 (zb Try.f12 4)) (.cond (.tmp 18) .skip (.exit 0 []))) (.seq (.block 1 (.seq (.ops 6 (zb Try.f12 6)) (.seq (.ops 7 (zb Try.f12 7)) (.seq (.seq (.ops 8 (zb Try.f12 8)) (.cond (.tmp 30) (.seq (.ops 9 (zb Try.f12 9)) (.ops 10 (zb Try.f12 10))) .skip)) (.seq (.ops 11 (zb Try.f12 11)) (.cond (.tmp 35) (.seq (.ops 12 (zb Try.f12 12)) (.ret [6])) .skip)))))) (.cut [0, 1, 2, 7] (.ops 5 (zb Try.f12 5)))))
noncomputable def qn.u4.l (k:Nat) (kr:Bool->M α) (kx0:M α):Nat->Sl->Sl->Bool->Int->M α
 | 0, _, _, _, _=>fail
 | j + 1, x0, x1, x2, x3=>
  qn.u3.f k x0 x1 x2 x3 (fun y0 y1 y2 y3=>qn.u4.l k kr kx0 j y0 y1 y2 y3) kr kx0
noncomputable abbrev qn.u4.f (k:Nat) (x0 x1:Sl) (x2:Bool) (x3:Int) (kr:Bool->M α) (kx0:M α):M α:=
 qn.u4.l k kr kx0 k x0 x1 x2 x3
noncomputable def qn.u4.c:IC:=.loop [0, 1, 2, 7] qn.u3.c
noncomputable abbrev qn.u5.f (k:Nat) (x0 x1:Sl) (x2:Bool) (x3:Int) (kn:M α) (kr:Bool->M α):M α:=
 qn.u4.f k x0 x1 x2 x3 kr (kn)
noncomputable def qn.u5.c:IC:=.block 0 qn.u4.c
noncomputable abbrev qn.u6.f (k:Nat) (x0 x1:Sl) (x2:Bool) (kn:M α) (kr:Bool->M α):M α:=
 qn.u2.f k x0 x1 x2 (fun y0 y1 y2 y3=>qn.u5.f k y0 y1 y2 y3 kn kr)
noncomputable def qn.u6.c:IC:=qn.u2.c qn.u5.c
noncomputable def qn.u7.f (k:Nat) (kr:Bool->M α):M α:=
 kr true
noncomputable def qn.u7.c:IC:=(.seq (.ops 13 (zb Try.f12 13)) (.ret [6]))
noncomputable abbrev qn.u8.f (k:Nat) (x0 x1:Sl) (x2:Bool) (kr:Bool->M α):M α:=
 qn.u6.f k x0 x1 x2 (qn.u7.f k kr) kr
noncomputable def qn.u8.c:IC:=(.seq qn.u6.c qn.u7.c)
noncomputable abbrev qn.u9.f (k:Nat) (x0 x1:Sl) (x2:Bool) (kr:Bool->M α):M α:=
 qn.u1.f k x0 x1 x2 (fun y0 y1 y2=>qn.u8.f k y0 y1 y2 kr) kr
noncomputable def qn.u9.c:IC:=qn.u1.c qn.u8.c
noncomputable def qn.f:Nat->Sl->Sl->Bool->(Bool->M α)->M α
 | 0, _, _, _, _=>fail
 | k + 1, x0, x1, x2, ret=>
  qn.u9.f k x0 x1 x2 (fun y0=>
   ret y0)
noncomputable def qbq.u1.f (k:Nat) (x0 x1 x2:Int) (x3:TX) (x4:Int) (kr:Bool->M α):M α:=
 new [.int .i64 x0, .int .i64 x1, .int .i64 x2, .str x3, .int .i64 x4] fun n7=>
 ldI .i64 ((n7.add 0).add 0) fun x8=>
 kr (decide (x8 = 5))
noncomputable def qbq.u1.c:IC:=(.seq (.ops 0 (zb Try.f26 0)) (.seq (.ops 1 (zb Try.f26 1)) (.ret [2])))
noncomputable def qbq.f:Nat->Int->Int->Int->TX->Int->(Bool->M α)->M α
 | 0, _, _, _, _, _, _=>fail
 | k + 1, x0, x1, x2, x3, x4, ret=>
  qbq.u1.f k x0 x1 x2 x3 x4 (fun y0=>
   ret y0)
noncomputable def qu.u1.f (k:Nat) (x0:Sl) (kn:Sl->M α):M α:=
 kn x0
noncomputable def qu.u1.c (R:IC):IC:=(.seq (.cut [0, 1] (.ops 0 (zb Try.f44 0))) R)
noncomputable def qu.u2.f (k:Nat) (x0:Sl) (kn:Sl->Int->Int->M α):M α:=
 kn x0 (x0.len:Int) 0
noncomputable def qu.u2.c (R:IC):IC:=(.seq (.cut [0, 1, 7, 8] (.ops 1 (zb Try.f44 1))) R)
noncomputable def qu.u3.f (k:Nat) (x0:Sl) (x1 x2:Int) (kn:Sl->Int->Int->M α) (kr:Int->M α) (kx0:M α):M α:=
 cond (decide (x2 < x1)) (
  idxSl x0 x2 5 fun a5=>
  ldI .i64 (a5.add 0) fun x6=>
  ldI .i64 (a5.add 1) fun x7=>
  ldI .i64 (a5.add 2) fun x8=>
  ldStr (a5.add 3) fun x9=>
  ldI .i64 (a5.add 4) fun x10=>
  qbq.f k x6 x7 x8 x9 x10 fun r11=>
  cond (r11) (
   kr x2) (
   kn x0 x1 (w64 (x2 + 1)))) (
  kx0)
noncomputable def qu.u3.c:IC:=(.seq (.ops 2 (zb Try.f44 2)) (.seq (.cond (.tmp 9) .skip (.exit 0 [])) (.seq (.block 1 (.seq (.ops 3 (zb Try.f44 3)) (.seq (.ops 4 (zb Try.f44 4)) (.cond (.tmp 16) (.seq (.ops 5 (zb Try.f44 5)) (.ret [4])) .skip)))) (.cut [0, 1, 7, 8] (.ops 6 (zb Try.f44 6))))))
noncomputable def qu.u4.l (k:Nat) (kr:Int->M α) (kx0:M α):Nat->Sl->Int->Int->M α
 | 0, _, _, _=>fail
 | j + 1, x0, x1, x2=>
  qu.u3.f k x0 x1 x2 (fun y0 y1 y2=>qu.u4.l k kr kx0 j y0 y1 y2) kr kx0
noncomputable abbrev qu.u4.f (k:Nat) (x0:Sl) (x1 x2:Int) (kr:Int->M α) (kx0:M α):M α:=
 qu.u4.l k kr kx0 k x0 x1 x2
noncomputable def qu.u4.c:IC:=.loop [0, 1, 7, 8] qu.u3.c
noncomputable abbrev qu.u5.f (k:Nat) (x0:Sl) (x1 x2:Int) (kn:M α) (kr:Int->M α):M α:=
 qu.u4.f k x0 x1 x2 kr (kn)
noncomputable def qu.u5.c:IC:=.block 0 qu.u4.c
noncomputable abbrev qu.u6.f (k:Nat) (x0:Sl) (kn:M α) (kr:Int->M α):M α:=
 qu.u2.f k x0 (fun y0 y1 y2=>qu.u5.f k y0 y1 y2 kn kr)
noncomputable def qu.u6.c:IC:=qu.u2.c qu.u5.c
noncomputable def qu.u7.f (k:Nat) (kr:Int->M α):M α:=
 kr (-1)
noncomputable def qu.u7.c:IC:=(.seq (.ops 7 (zb Try.f44 7)) (.ret [4]))
noncomputable abbrev qu.u8.f (k:Nat) (x0:Sl) (kr:Int->M α):M α:=
 qu.u6.f k x0 (qu.u7.f k kr) kr
noncomputable def qu.u8.c:IC:=(.seq qu.u6.c qu.u7.c)
noncomputable abbrev qu.u9.f (k:Nat) (x0:Sl) (kr:Int->M α):M α:=
 qu.u1.f k x0 (fun y0=>qu.u8.f k y0 kr)
noncomputable def qu.u9.c:IC:=qu.u1.c qu.u8.c
noncomputable def qu.f:Nat->Sl->(Int->M α)->M α
 | 0, _, _=>fail
 | k + 1, x0, ret=>
  qu.u9.f k x0 (fun y0=>
   ret y0)
noncomputable def qbn.u1.f (k:Nat) (x0:Sl) (kr:Bool->M α):M α:=
 qu.f k x0 fun r3=>
 kr (decide (0≤r3))
noncomputable def qbn.u1.c:IC:=(.seq (.ops 0 (zb Try.f25 0)) (.seq (.ops 1 (zb Try.f25 1)) (.ret [4])))
noncomputable def qbn.f:Nat->Sl->(Bool->M α)->M α
 | 0, _, _=>fail
 | k + 1, x0, ret=>
  qbn.u1.f k x0 (fun y0=>
   ret y0)
noncomputable def qap.u1.f (k:Nat) (x0:Sl) (kr:Bool->M α):M α:=
 qbn.f k x0 fun r3=>
 cond (!r3) (
  qo.f k x0 fun r4=>
  kr r4) (
  kr false)
noncomputable def qap.u1.c:IC:=(.seq (.ops 0 (zb Try.f15 0)) (.seq (.ops 1 (zb Try.f15 1)) (.ret [2])))
noncomputable def qap.f:Nat->Sl->(Bool->M α)->M α
 | 0, _, _=>fail
 | k + 1, x0, ret=>
  qap.u1.f k x0 (fun y0=>
   ret y0)
noncomputable def qbi.u1.f (k:Nat) (kr:Bool->M α):M α:=
 qaf.f k [126, 40, 112, 32, 38, 32, 60, 97, 62, 113, 41] fun r2 r3=>
 qay.f k r2 fun r4=>
 new [.int .i64 12, .int .i64 0, .int .i64 0, .str [112], .int .i64 2, .int .i64 12, .int .i64 0, .int .i64 0, .str [113], .int .i64 9, .int .i64 9, .int .i64 1, .int .i64 0, .str [97], .int .i64 6, .int .i64 7, .int .i64 0, .int .i64 2, .str [], .int .i64 4] fun r5=>
 qn.f k r4 (⟨some r5, 4, 4, none⟩:Sl) true fun r6=>
 asNil r3 fun b7=>
 cond (b7) (
  cond (r6) (
   qap.f k r4 fun r8=>
   kr r8) (
   kr false)) (
  kr false)
noncomputable def qbi.u1.c:IC:=(.seq (.ops 0 (zb Try.f8 0)) (.seq (.ops 1 (zb Try.f8 1)) (.seq (.ops 2 (zb Try.f8 2)) (.seq (.ops 3 (zb Try.f8 3)) (.seq (.ops 4 (zb Try.f8 4)) (.seq (.ops 5 (zb Try.f8 5)) (.ret [0])))))))
noncomputable def qbi.f:Nat->(Bool->M α)->M α
 | 0, _=>fail
 | k + 1, ret=>
  qbi.u1.f k (fun y0=>
   ret y0)
noncomputable def qbr.u1.f (k:Nat) (x0:Sl) (kr:Sl->M α):M α:=
 new [] fun r3=>
 zq (⟨some r3, 0, 0, none⟩:Sl) 5 48 x0 fun x4=>
 new [.int .i64 (-7), .int .i64 0, .int .i64 0, .str [], .int .i64 0] fun r5=>
 zq x4 5 48 (⟨some r5, 1, 1, none⟩:Sl) fun x6=>
 cutSl x6 5 none (some (x0.len:Int)) none fun x7=>
 kr x7
noncomputable def qbr.u1.c:IC:=(.seq (.ops 0 (zb Try.f10 0)) (.seq (.ops 1 (zb Try.f10 1)) (.seq (.ops 2 (zb Try.f10 2)) (.ret [2]))))
noncomputable def qbr.f:Nat->Sl->(Sl->M α)->M α
 | 0, _, _=>fail
 | k + 1, x0, ret=>
  qbr.u1.f k x0 (fun y0=>
   ret y0)
noncomputable def qba.u1.f (k:Nat) (x0:Sl) (kr:Sl->M α):M α:=
 qaw.f k x0 true fun r3=>
 kr r3
noncomputable def qba.u1.c:IC:=(.seq (.ops 0 (zb Try.f11 0)) (.seq (.ops 1 (zb Try.f11 1)) (.ret [2])))
noncomputable def qba.f:Nat->Sl->(Sl->M α)->M α
 | 0, _, _=>fail
 | k + 1, x0, ret=>
  qba.u1.f k x0 (fun y0=>
   ret y0)
noncomputable def qp.u1.f (k:Nat) (x0:Sl) (kn:Sl->M α):M α:=
 new [] fun r3=>
 zq (⟨some r3, 0, 0, none⟩:Sl) 5 48 x0 fun x4=>
 kn x4
noncomputable def qp.u1.c (R:IC):IC:=(.seq (.ops 0 (zb Try.f42 0)) (.seq (.cut [3] (.ops 1 (zb Try.f42 1))) R))
noncomputable def qp.u2.f (k:Nat) (x0:Sl) (kn:Sl->Int->M α):M α:=
 kn x0 0
noncomputable def qp.u2.c (R:IC):IC:=(.seq (.cut [3, 4] (.ops 2 (zb Try.f42 2))) R)
noncomputable def qp.u3.f (k:Nat) (x0:Sl) (x1:Int) (kn:Sl->Int->M α) (kx0:Sl->M α):M α:=
 cond (decide (x1 < (x0.len:Int))) (
  idxSl x0 x1 5 fun a4=>
  ldI .i64 ((a4.add 0).add 0) fun x5=>
  cond (decide (x5 = 12)) (
   idxSl x0 x1 5 fun a6=>
   st1 ((a6.add 0).add 0) (.int .i64 3) <|
   kn x0 (w64 (x1 + 1))) (
   kn x0 (w64 (x1 + 1)))) (
  kx0 x0)
noncomputable def qp.u3.c:IC:=(.seq (.seq (.ops 3 (zb Try.f42 3)) (.cond (.tmp 11) .skip (.exit 0 [3]))) (.seq (.block 1 (.seq (.ops 5 (zb Try.f42 5)) (.cond (.tmp 19) (.ops 6 (zb Try.f42 6)) .skip))) (.cut [3, 4] (.ops 4 (zb Try.f42 4)))))
noncomputable def qp.u4.l (k:Nat) (kx0:Sl->M α):Nat->Sl->Int->M α
 | 0, _, _=>fail
 | j + 1, x0, x1=>
  qp.u3.f k x0 x1 (fun y0 y1=>qp.u4.l k kx0 j y0 y1) kx0
noncomputable abbrev qp.u4.f (k:Nat) (x0:Sl) (x1:Int) (kx0:Sl->M α):M α:=
 qp.u4.l k kx0 k x0 x1
noncomputable def qp.u4.c:IC:=.loop [3, 4] qp.u3.c
noncomputable abbrev qp.u5.f (k:Nat) (x0:Sl) (x1:Int) (kn:Sl->M α):M α:=
 qp.u4.f k x0 x1 (fun y0=>kn y0)
noncomputable def qp.u5.c:IC:=.block 0 qp.u4.c
noncomputable abbrev qp.u6.f (k:Nat) (x0:Sl) (kn:Sl->M α):M α:=
 qp.u2.f k x0 (fun y0 y1=>qp.u5.f k y0 y1 kn)
noncomputable def qp.u6.c:IC:=qp.u2.c qp.u5.c
noncomputable def qp.u7.f (k:Nat) (x0:Sl) (kr:Sl->M α):M α:=
 kr x0
noncomputable def qp.u7.c:IC:=(.seq (.ops 7 (zb Try.f42 7)) (.ret [2]))
noncomputable abbrev qp.u8.f (k:Nat) (x0:Sl) (kr:Sl->M α):M α:=
 qp.u6.f k x0 (fun y0=>qp.u7.f k y0 kr)
noncomputable def qp.u8.c:IC:=(.seq qp.u6.c qp.u7.c)
noncomputable abbrev qp.u9.f (k:Nat) (x0:Sl) (kr:Sl->M α):M α:=
 qp.u1.f k x0 (fun y0=>qp.u8.f k y0 kr)
noncomputable def qp.u9.c:IC:=qp.u1.c qp.u8.c
noncomputable def qp.f:Nat->Sl->(Sl->M α)->M α
 | 0, _, _=>fail
 | k + 1, x0, ret=>
  qp.u9.f k x0 (fun y0=>
   ret y0)
noncomputable def qbb.u1.f (k:Nat) (x0:Int) (kr:Int->M α):M α:=
 cond (decide (x0 = 1)) (
  cond (decide (x0 = 1)) (
   kr 0) (
   cond (decide (x0 = 5)) (
    cond (decide (x0 = 5)) (
     kr 1) (
     cond (decide (x0 = 6)) (
      cond (decide (x0 = 6)) (
       kr 2) (
       kr (-1))) (
      cond (decide (x0 = 7)) (
       kr 2) (
       kr (-1))))) (
    cond (decide (x0 = 8)) (
     cond (decide (x0 = 8)) (
      kr 1) (
      cond (decide (x0 = 6)) (
       cond (decide (x0 = 6)) (
        kr 2) (
        kr (-1))) (
       cond (decide (x0 = 7)) (
        kr 2) (
        kr (-1))))) (
     cond (decide (x0 = 9)) (
      cond (decide (x0 = 9)) (
       kr 1) (
       cond (decide (x0 = 6)) (
        cond (decide (x0 = 6)) (
         kr 2) (
         kr (-1))) (
        cond (decide (x0 = 7)) (
         kr 2) (
         kr (-1))))) (
      cond (decide (x0 = 10)) (
       cond (decide (x0 = 10)) (
        kr 1) (
        cond (decide (x0 = 6)) (
         cond (decide (x0 = 6)) (
          kr 2) (
          kr (-1))) (
         cond (decide (x0 = 7)) (
          kr 2) (
          kr (-1))))) (
       cond (decide (x0 = 11)) (
        kr 1) (
        cond (decide (x0 = 6)) (
         cond (decide (x0 = 6)) (
          kr 2) (
          kr (-1))) (
         cond (decide (x0 = 7)) (
          kr 2) (
          kr (-1)))))))))) (
  cond (decide (x0 = 2)) (
   cond (decide (x0 = 2)) (
    kr 0) (
    cond (decide (x0 = 5)) (
     cond (decide (x0 = 5)) (
      kr 1) (
      cond (decide (x0 = 6)) (
       cond (decide (x0 = 6)) (
        kr 2) (
        kr (-1))) (
       cond (decide (x0 = 7)) (
        kr 2) (
        kr (-1))))) (
     cond (decide (x0 = 8)) (
      cond (decide (x0 = 8)) (
       kr 1) (
       cond (decide (x0 = 6)) (
        cond (decide (x0 = 6)) (
         kr 2) (
         kr (-1))) (
        cond (decide (x0 = 7)) (
         kr 2) (
         kr (-1))))) (
      cond (decide (x0 = 9)) (
       cond (decide (x0 = 9)) (
        kr 1) (
        cond (decide (x0 = 6)) (
         cond (decide (x0 = 6)) (
          kr 2) (
          kr (-1))) (
         cond (decide (x0 = 7)) (
          kr 2) (
          kr (-1))))) (
       cond (decide (x0 = 10)) (
        cond (decide (x0 = 10)) (
         kr 1) (
         cond (decide (x0 = 6)) (
          cond (decide (x0 = 6)) (
           kr 2) (
           kr (-1))) (
          cond (decide (x0 = 7)) (
           kr 2) (
           kr (-1))))) (
        cond (decide (x0 = 11)) (
         kr 1) (
         cond (decide (x0 = 6)) (
          cond (decide (x0 = 6)) (
           kr 2) (
           kr (-1))) (
          cond (decide (x0 = 7)) (
           kr 2) (
           kr (-1)))))))))) (
   cond (decide (x0 = 3)) (
    cond (decide (x0 = 3)) (
     kr 0) (
     cond (decide (x0 = 5)) (
      cond (decide (x0 = 5)) (
       kr 1) (
       cond (decide (x0 = 6)) (
        cond (decide (x0 = 6)) (
         kr 2) (
         kr (-1))) (
        cond (decide (x0 = 7)) (
         kr 2) (
         kr (-1))))) (
      cond (decide (x0 = 8)) (
       cond (decide (x0 = 8)) (
        kr 1) (
        cond (decide (x0 = 6)) (
         cond (decide (x0 = 6)) (
          kr 2) (
          kr (-1))) (
         cond (decide (x0 = 7)) (
          kr 2) (
          kr (-1))))) (
       cond (decide (x0 = 9)) (
        cond (decide (x0 = 9)) (
         kr 1) (
         cond (decide (x0 = 6)) (
          cond (decide (x0 = 6)) (
           kr 2) (
           kr (-1))) (
          cond (decide (x0 = 7)) (
           kr 2) (
           kr (-1))))) (
        cond (decide (x0 = 10)) (
         cond (decide (x0 = 10)) (
          kr 1) (
          cond (decide (x0 = 6)) (
           cond (decide (x0 = 6)) (
            kr 2) (
            kr (-1))) (
           cond (decide (x0 = 7)) (
            kr 2) (
            kr (-1))))) (
         cond (decide (x0 = 11)) (
          kr 1) (
          cond (decide (x0 = 6)) (
           cond (decide (x0 = 6)) (
            kr 2) (
            kr (-1))) (
           cond (decide (x0 = 7)) (
            kr 2) (
            kr (-1)))))))))) (
    cond (decide (x0 = 4)) (
     kr 0) (
     cond (decide (x0 = 5)) (
      cond (decide (x0 = 5)) (
       kr 1) (
       cond (decide (x0 = 6)) (
        cond (decide (x0 = 6)) (
         kr 2) (
         kr (-1))) (
        cond (decide (x0 = 7)) (
         kr 2) (
         kr (-1))))) (
      cond (decide (x0 = 8)) (
       cond (decide (x0 = 8)) (
        kr 1) (
        cond (decide (x0 = 6)) (
         cond (decide (x0 = 6)) (
          kr 2) (
          kr (-1))) (
         cond (decide (x0 = 7)) (
          kr 2) (
          kr (-1))))) (
       cond (decide (x0 = 9)) (
        cond (decide (x0 = 9)) (
         kr 1) (
         cond (decide (x0 = 6)) (
          cond (decide (x0 = 6)) (
           kr 2) (
           kr (-1))) (
          cond (decide (x0 = 7)) (
           kr 2) (
           kr (-1))))) (
        cond (decide (x0 = 10)) (
         cond (decide (x0 = 10)) (
          kr 1) (
          cond (decide (x0 = 6)) (
           cond (decide (x0 = 6)) (
            kr 2) (
            kr (-1))) (
           cond (decide (x0 = 7)) (
            kr 2) (
            kr (-1))))) (
         cond (decide (x0 = 11)) (
          kr 1) (
          cond (decide (x0 = 6)) (
           cond (decide (x0 = 6)) (
            kr 2) (
            kr (-1))) (
           cond (decide (x0 = 7)) (
            kr 2) (
            kr (-1))))))))))))
noncomputable def qbb.u1.c:IC:=(.seq (.ops 0 (zb Try.f72 0)) (.seq (.seq (.ops 1 (zb Try.f72 1)) (.block 0 (.seq (.seq (.ops 2 (zb Try.f72 2)) (.cond (.tmp 4) .skip (.seq (.ops 3 (zb Try.f72 3)) (.cond (.tmp 4) .skip (.seq (.ops 4 (zb Try.f72 4)) (.cond (.tmp 4) .skip (.ops 5 (zb Try.f72 5)))))))) (.cond (.tmp 4) (.seq (.ops 6 (zb Try.f72 6)) (.ret [2])) (.seq (.seq (.ops 7 (zb Try.f72 7)) (.cond (.tmp 9) .skip (.seq (.ops 8 (zb Try.f72 8)) (.cond (.tmp 9) .skip (.seq (.ops 9 (zb Try.f72 9)) (.cond (.tmp 9) .skip (.seq (.ops 10 (zb Try.f72 10)) (.cond (.tmp 9) .skip (.ops 11 (zb Try.f72 11)))))))))) (.cond (.tmp 9) (.seq (.ops 12 (zb Try.f72 12)) (.ret [2])) (.seq (.seq (.ops 13 (zb Try.f72 13)) (.cond (.tmp 15) .skip (.ops 14 (zb Try.f72 14)))) (.cond (.tmp 15) (.seq (.ops 15 (zb Try.f72 15)) (.ret [2])) .skip)))))))) (.seq (.ops 16 (zb Try.f72 16)) (.ret [2]))))
noncomputable def qbb.f:Nat->Int->(Int->M α)->M α
 | 0, _, _=>fail
 | k + 1, x0, ret=>
  qbb.u1.f k x0 (fun y0=>
   ret y0)
noncomputable def qj.u1.f (k:Nat) (x0:TX) (kn:TX->M α) (kr:Bool->M α):M α:=
 cond (decide ((x0.length:Int) < 1)) (
  kr false) (
  cond (decide (8 < (x0.length:Int))) (
   kr false) (
   idxStr x0 0 fun c3=>
   cond (decide (c3 < 97)) (
    kr false) (
    idxStr x0 0 fun c4=>
    cond (decide (122 < c4)) (
     kr false) (
     cond (decide (x0 = [116, 116])) (
      kr false) (
      cond (decide (x0 = [102, 102])) (
       kr false) (
       cond (decide (x0 = [109, 117])) (
        kr false) (
        cond (decide (x0 = [110, 117])) (
         kr false) (
         kn x0))))))))
noncomputable def qj.u1.c (R:IC):IC:=(.seq (.ops 0 (zb Try.f79 0)) (.seq (.cut [0] (.seq (.ops 1 (zb Try.f79 1)) (.cond (.tmp 38) (.seq (.ops 2 (zb Try.f79 2)) (.ret [2])) .skip))) R))
noncomputable def qj.u2.f (k:Nat) (x0:TX) (kn:TX->Int->M α):M α:=
 kn x0 0
noncomputable def qj.u2.c (R:IC):IC:=(.seq (.cut [0, 3] (.ops 3 (zb Try.f79 3))) R)
noncomputable def qj.u3.f (k:Nat) (x0:TX) (x1:Int) (kn:TX->Int->M α) (kx0:M α):M α:=
 cond (decide (x1 < (x0.length:Int))) (
  kn x0 x1) (
  kx0)
noncomputable def qj.u3.c (R:IC):IC:=(.seq (.cut [0, 3] (.seq (.ops 4 (zb Try.f79 4)) (.cond (.tmp 42) .skip (.exit 0 [])))) R)
noncomputable def qj.u4.f (k:Nat) (x0:TX) (x1:Int) (kn:TX->Int->M α) (kr:Bool->M α):M α:=
 idxStr x0 x1 fun c4=>
 cond (decide (97≤c4)) (
  cond (decide (c4≤122)) (
   kn x0 x1) (
   cond (decide (65≤c4)) (
    cond (decide (c4≤90)) (
     kn x0 x1) (
     cond (decide (48≤c4)) (
      cond (decide (c4≤57)) (
       kn x0 x1) (
       cond (!(decide (c4 = 95))) (
        kr false) (
        kn x0 x1))) (
      cond (!(decide (c4 = 95))) (
       kr false) (
       kn x0 x1)))) (
    cond (decide (48≤c4)) (
     cond (decide (c4≤57)) (
      kn x0 x1) (
      cond (!(decide (c4 = 95))) (
       kr false) (
       kn x0 x1))) (
     cond (!(decide (c4 = 95))) (
      kr false) (
      kn x0 x1))))) (
  cond (decide (65≤c4)) (
   cond (decide (c4≤90)) (
    kn x0 x1) (
    cond (decide (48≤c4)) (
     cond (decide (c4≤57)) (
      kn x0 x1) (
      cond (!(decide (c4 = 95))) (
       kr false) (
       kn x0 x1))) (
     cond (!(decide (c4 = 95))) (
      kr false) (
      kn x0 x1)))) (
   cond (decide (48≤c4)) (
    cond (decide (c4≤57)) (
     kn x0 x1) (
     cond (!(decide (c4 = 95))) (
      kr false) (
      kn x0 x1))) (
    cond (!(decide (c4 = 95))) (
     kr false) (
     kn x0 x1))))
noncomputable def qj.u4.c:IC:=(.seq (.ops 6 (zb Try.f79 6)) (.seq (.ops 7 (zb Try.f79 7)) (.cut [0, 3] (.cond (.tmp 74) (.seq (.ops 8 (zb Try.f79 8)) (.ret [2])) .skip))))
noncomputable abbrev qj.u5.f (k:Nat) (x0:TX) (x1:Int) (kn:TX->Int->M α) (kr:Bool->M α):M α:=
 qj.u4.f k x0 x1 (fun y0 y1=>kn y0 y1) kr
noncomputable def qj.u5.c:IC:=.block 1 qj.u4.c
noncomputable def qj.u6.f (k:Nat) (x0:TX) (x1:Int) (kn:TX->Int->M α):M α:=
 kn x0 (w64 (x1 + 1))
noncomputable def qj.u6.c:IC:=(.cut [0, 3] (.ops 5 (zb Try.f79 5)))
noncomputable abbrev qj.u7.f (k:Nat) (x0:TX) (x1:Int) (kn:TX->Int->M α) (kr:Bool->M α):M α:=
 qj.u5.f k x0 x1 (fun y0 y1=>qj.u6.f k y0 y1 kn) kr
noncomputable def qj.u7.c:IC:=(.seq qj.u5.c qj.u6.c)
noncomputable abbrev qj.u8.f (k:Nat) (x0:TX) (x1:Int) (kn:TX->Int->M α) (kr:Bool->M α) (kx0:M α):M α:=
 qj.u3.f k x0 x1 (fun y0 y1=>qj.u7.f k y0 y1 kn kr) kx0
noncomputable def qj.u8.c:IC:=qj.u3.c qj.u7.c
noncomputable def qj.u9.l (k:Nat) (kr:Bool->M α) (kx0:M α):Nat->TX->Int->M α
 | 0, _, _=>fail
 | j + 1, x0, x1=>
  qj.u8.f k x0 x1 (fun y0 y1=>qj.u9.l k kr kx0 j y0 y1) kr kx0
noncomputable abbrev qj.u9.f (k:Nat) (x0:TX) (x1:Int) (kr:Bool->M α) (kx0:M α):M α:=
 qj.u9.l k kr kx0 k x0 x1
noncomputable def qj.u9.c:IC:=.loop [0, 3] qj.u8.c
noncomputable abbrev qj.u10.f (k:Nat) (x0:TX) (x1:Int) (kn:M α) (kr:Bool->M α):M α:=
 qj.u9.f k x0 x1 kr (kn)
noncomputable def qj.u10.c:IC:=.block 0 qj.u9.c
noncomputable abbrev qj.u11.f (k:Nat) (x0:TX) (kn:M α) (kr:Bool->M α):M α:=
 qj.u2.f k x0 (fun y0 y1=>qj.u10.f k y0 y1 kn kr)
noncomputable def qj.u11.c:IC:=qj.u2.c qj.u10.c
noncomputable def qj.u12.f (k:Nat) (kr:Bool->M α):M α:=
 kr true
noncomputable def qj.u12.c:IC:=(.seq (.ops 9 (zb Try.f79 9)) (.ret [2]))
noncomputable abbrev qj.u13.f (k:Nat) (x0:TX) (kr:Bool->M α):M α:=
 qj.u11.f k x0 (qj.u12.f k kr) kr
noncomputable def qj.u13.c:IC:=(.seq qj.u11.c qj.u12.c)
noncomputable abbrev qj.u14.f (k:Nat) (x0:TX) (kr:Bool->M α):M α:=
 qj.u1.f k x0 (fun y0=>qj.u13.f k y0 kr) kr
noncomputable def qj.u14.c:IC:=qj.u1.c qj.u13.c
noncomputable def qj.f:Nat->TX->(Bool->M α)->M α
 | 0, _, _=>fail
 | k + 1, x0, ret=>
  qj.u14.f k x0 (fun y0=>
   ret y0)
noncomputable def qbd.u1.f (k:Nat) (x0:TX) (kr:Bool->M α):M α:=
 cond (decide ((x0.length:Int) < 1)) (
  kr false) (
  idxStr x0 0 fun c3=>
  cond (decide (c3 < 65)) (
   kr false) (
   idxStr x0 0 fun c4=>
   cond (decide (90 < c4)) (
    kr false) (
    cutStr x0 (some 1) none fun x5=>
    cat [97] x5 fun x6=>
    qj.f k x6 fun r7=>
    kr r7)))
noncomputable def qbd.u1.c:IC:=(.seq (.ops 0 (zb Try.f80 0)) (.seq (.seq (.ops 1 (zb Try.f80 1)) (.cond (.tmp 15) (.seq (.ops 2 (zb Try.f80 2)) (.ret [2])) .skip)) (.seq (.ops 3 (zb Try.f80 3)) (.ret [2]))))
noncomputable def qbd.f:Nat->TX->(Bool->M α)->M α
 | 0, _, _=>fail
 | k + 1, x0, ret=>
  qbd.u1.f k x0 (fun y0=>
   ret y0)
noncomputable def qbo.u1.f (k:Nat) (x0 x1 x2:Int) (x3:TX) (x4:Int) (kr:Bool->M α):M α:=
 new [.int .i64 x0, .int .i64 x1, .int .i64 x2, .str x3, .int .i64 x4] fun n7=>
 ldI .i64 ((n7.add 0).add 0) fun x8=>
 cond (decide (x8 = 3)) (
  ldStr ((n7.add 3).add 0) fun x9=>
  qj.f k x9 fun r10=>
  kr r10) (
  cond (decide (x8 = 4)) (
   cond (decide (x8 = 4)) (
    ldStr ((n7.add 3).add 0) fun x11=>
    qbd.f k x11 fun r12=>
    kr r12) (
    cond (decide (x8 = 8)) (
     cond (decide (x8 = 8)) (
      ldStr ((n7.add 3).add 0) fun x13=>
      cond (decide (x13 = [45])) (
       kr true) (
       ldStr ((n7.add 3).add 0) fun x14=>
       qj.f k x14 fun r15=>
       kr r15)) (
      ldStr ((n7.add 3).add 0) fun x16=>
      kr (decide (x16 = [])))) (
     cond (decide (x8 = 9)) (
      ldStr ((n7.add 3).add 0) fun x17=>
      cond (decide (x17 = [45])) (
       kr true) (
       ldStr ((n7.add 3).add 0) fun x18=>
       qj.f k x18 fun r19=>
       kr r19)) (
      ldStr ((n7.add 3).add 0) fun x20=>
      kr (decide (x20 = [])))))) (
   cond (decide (x8 = 10)) (
    cond (decide (x8 = 10)) (
     ldStr ((n7.add 3).add 0) fun x21=>
     qbd.f k x21 fun r22=>
     kr r22) (
     cond (decide (x8 = 8)) (
      cond (decide (x8 = 8)) (
       ldStr ((n7.add 3).add 0) fun x23=>
       cond (decide (x23 = [45])) (
        kr true) (
        ldStr ((n7.add 3).add 0) fun x24=>
        qj.f k x24 fun r25=>
        kr r25)) (
       ldStr ((n7.add 3).add 0) fun x26=>
       kr (decide (x26 = [])))) (
      cond (decide (x8 = 9)) (
       ldStr ((n7.add 3).add 0) fun x27=>
       cond (decide (x27 = [45])) (
        kr true) (
        ldStr ((n7.add 3).add 0) fun x28=>
        qj.f k x28 fun r29=>
        kr r29)) (
       ldStr ((n7.add 3).add 0) fun x30=>
       kr (decide (x30 = [])))))) (
    cond (decide (x8 = 11)) (
     ldStr ((n7.add 3).add 0) fun x31=>
     qbd.f k x31 fun r32=>
     kr r32) (
     cond (decide (x8 = 8)) (
      cond (decide (x8 = 8)) (
       ldStr ((n7.add 3).add 0) fun x33=>
       cond (decide (x33 = [45])) (
        kr true) (
        ldStr ((n7.add 3).add 0) fun x34=>
        qj.f k x34 fun r35=>
        kr r35)) (
       ldStr ((n7.add 3).add 0) fun x36=>
       kr (decide (x36 = [])))) (
      cond (decide (x8 = 9)) (
       ldStr ((n7.add 3).add 0) fun x37=>
       cond (decide (x37 = [45])) (
        kr true) (
        ldStr ((n7.add 3).add 0) fun x38=>
        qj.f k x38 fun r39=>
        kr r39)) (
       ldStr ((n7.add 3).add 0) fun x40=>
       kr (decide (x40 = []))))))))
noncomputable def qbo.u1.c:IC:=(.seq (.ops 0 (zb Try.f73 0)) (.seq (.seq (.ops 1 (zb Try.f73 1)) (.block 0 (.seq (.ops 2 (zb Try.f73 2)) (.cond (.tmp 5) (.seq (.ops 3 (zb Try.f73 3)) (.ret [2])) (.seq (.seq (.ops 4 (zb Try.f73 4)) (.cond (.tmp 10) .skip (.seq (.ops 5 (zb Try.f73 5)) (.cond (.tmp 10) .skip (.ops 6 (zb Try.f73 6)))))) (.cond (.tmp 10) (.seq (.ops 7 (zb Try.f73 7)) (.ret [2])) (.seq (.seq (.ops 8 (zb Try.f73 8)) (.cond (.tmp 17) .skip (.ops 9 (zb Try.f73 9)))) (.cond (.tmp 17) (.seq (.ops 10 (zb Try.f73 10)) (.ret [2])) .skip)))))))) (.seq (.ops 11 (zb Try.f73 11)) (.ret [2]))))
noncomputable def qbo.f:Nat->Int->Int->Int->TX->Int->(Bool->M α)->M α
 | 0, _, _, _, _, _, _=>fail
 | k + 1, x0, x1, x2, x3, x4, ret=>
  qbo.u1.f k x0 x1 x2 x3 x4 (fun y0=>
   ret y0)
noncomputable def qg.u1.f (k:Nat) (x0:Sl) (kn:Sl->Sl->M α) (kr:Bool->M α):M α:=
 cond (decide ((x0.len:Int) < 1)) (
  kr false) (
  cond (decide (60 < (x0.len:Int))) (
   kr false) (
   kn x0 Sl.nil))
noncomputable def qg.u1.c (R:IC):IC:=(.seq (.ops 0 (zb Try.f56 0)) (.seq (.seq (.ops 1 (zb Try.f56 1)) (.cond (.tmp 15) (.seq (.ops 2 (zb Try.f56 2)) (.ret [2])) .skip)) (.seq (.cut [0, 3] (.ops 3 (zb Try.f56 3))) R)))
noncomputable def qg.u2.f (k:Nat) (x0 x1:Sl) (kn:Sl->Sl->Int->M α):M α:=
 kn x0 x1 0
noncomputable def qg.u2.c (R:IC):IC:=(.seq (.cut [0, 3, 4] (.ops 4 (zb Try.f56 4))) R)
noncomputable def qg.u3.f (k:Nat) (x0 x1:Sl) (x2:Int) (kn:Sl->Sl->Int->M α) (kx0:Sl->M α):M α:=
 cond (decide (x2 < (x0.len:Int))) (
  kn x0 x1 x2) (
  kx0 x1)
noncomputable def qg.u3.c (R:IC):IC:=(.seq (.cut [0, 3, 4] (.seq (.ops 5 (zb Try.f56 5)) (.cond (.tmp 19) .skip (.exit 0 [3])))) R)
noncomputable def qg.u4.f (k:Nat) (x0 x1:Sl) (x2:Int) (kn:Sl->Sl->Int->Int->Int->M α) (kr:Bool->M α):M α:=
 idxSl x0 x2 5 fun a5=>
 ldI .i64 ((a5.add 0).add 0) fun x6=>
 qbb.f k x6 fun r7=>
 idxSl x0 x2 5 fun a8=>
 ldI .i64 (a8.add 0) fun x9=>
 ldI .i64 (a8.add 1) fun x10=>
 ldI .i64 (a8.add 2) fun x11=>
 ldStr (a8.add 3) fun x12=>
 ldI .i64 (a8.add 4) fun x13=>
 qbo.f k x9 x10 x11 x12 x13 fun r14=>
 cond (decide (r7 < 0)) (
  kr false) (
  cond (!r14) (
   kr false) (
   cond (decide ((x1.len:Int) < r7)) (
    kr false) (
    cond (decide (r7 < 2)) (
     idxSl x0 x2 5 fun a15=>
     ldI .i64 ((a15.add 2).add 0) fun x16=>
     cond (!(decide (x16 = 0))) (
      kr false) (
      cond (decide (r7 < 1)) (
       idxSl x0 x2 5 fun a17=>
       ldI .i64 ((a17.add 1).add 0) fun x18=>
       cond (!(decide (x18 = 0))) (
        kr false) (
        kn x0 x1 x2 r7 (x1.len:Int))) (
       kn x0 x1 x2 r7 (x1.len:Int)))) (
     cond (decide (r7 < 1)) (
      idxSl x0 x2 5 fun a19=>
      ldI .i64 ((a19.add 1).add 0) fun x20=>
      cond (!(decide (x20 = 0))) (
       kr false) (
       kn x0 x1 x2 r7 (x1.len:Int))) (
      kn x0 x1 x2 r7 (x1.len:Int))))))
noncomputable def qg.u4.c (R:IC):IC:=(.seq (.ops 7 (zb Try.f56 7)) (.seq (.ops 8 (zb Try.f56 8)) (.seq (.ops 9 (zb Try.f56 9)) (.seq (.cut [0, 3, 4, 5, 7] (.seq (.ops 10 (zb Try.f56 10)) (.cond (.tmp 69) (.seq (.ops 11 (zb Try.f56 11)) (.ret [2])) .skip))) R))))
noncomputable def qg.u5.f (k:Nat) (x0 x1:Sl) (x2 x3 x4:Int) (kn:Sl->Sl->Int->M α) (kr:Bool->M α):M α:=
 cond (decide (x3 = 1)) (
  idxSl x1 (w64 (x4 - 1)) 1 fun a7=>
  ldI .i64 (a7.add 0) fun x8=>
  idxSl x0 x2 5 fun a9=>
  ldI .i64 ((a9.add 1).add 0) fun x10=>
  cond (!(decide (x8 = x10))) (
   kr false) (
   cond (decide (x3 = 2)) (
    idxSl x1 (w64 (x4 - 1)) 1 fun a11=>
    ldI .i64 (a11.add 0) fun x12=>
    idxSl x0 x2 5 fun a13=>
    ldI .i64 ((a13.add 2).add 0) fun x14=>
    cond (!(decide (x12 = x14))) (
     kr false) (
     idxSl x1 (w64 (x4 - 2)) 1 fun a15=>
     ldI .i64 (a15.add 0) fun x16=>
     idxSl x0 x2 5 fun a17=>
     ldI .i64 ((a17.add 1).add 0) fun x18=>
     cond (!(decide (x16 = x18))) (
      kr false) (
      new [] fun r19=>
      cutSl x1 1 none (some (w64 (x4 - x3))) none fun x20=>
      zq (⟨some r19, 0, 0, none⟩:Sl) 1 8 x20 fun x21=>
      new [.int .i64 x2] fun r22=>
      zq x21 1 8 (⟨some r22, 1, 1, none⟩:Sl) fun x23=>
      kn x0 x23 x2))) (
    new [] fun r24=>
    cutSl x1 1 none (some (w64 (x4 - x3))) none fun x25=>
    zq (⟨some r24, 0, 0, none⟩:Sl) 1 8 x25 fun x26=>
    new [.int .i64 x2] fun r27=>
    zq x26 1 8 (⟨some r27, 1, 1, none⟩:Sl) fun x28=>
    kn x0 x28 x2))) (
  cond (decide (x3 = 2)) (
   idxSl x1 (w64 (x4 - 1)) 1 fun a29=>
   ldI .i64 (a29.add 0) fun x30=>
   idxSl x0 x2 5 fun a31=>
   ldI .i64 ((a31.add 2).add 0) fun x32=>
   cond (!(decide (x30 = x32))) (
    kr false) (
    idxSl x1 (w64 (x4 - 2)) 1 fun a33=>
    ldI .i64 (a33.add 0) fun x34=>
    idxSl x0 x2 5 fun a35=>
    ldI .i64 ((a35.add 1).add 0) fun x36=>
    cond (!(decide (x34 = x36))) (
     kr false) (
     new [] fun r37=>
     cutSl x1 1 none (some (w64 (x4 - x3))) none fun x38=>
     zq (⟨some r37, 0, 0, none⟩:Sl) 1 8 x38 fun x39=>
     new [.int .i64 x2] fun r40=>
     zq x39 1 8 (⟨some r40, 1, 1, none⟩:Sl) fun x41=>
     kn x0 x41 x2))) (
   new [] fun r42=>
   cutSl x1 1 none (some (w64 (x4 - x3))) none fun x43=>
   zq (⟨some r42, 0, 0, none⟩:Sl) 1 8 x43 fun x44=>
   new [.int .i64 x2] fun r45=>
   zq x44 1 8 (⟨some r45, 1, 1, none⟩:Sl) fun x46=>
   kn x0 x46 x2))
noncomputable def qg.u5.c:IC:=(.seq (.seq (.drawn 12 (zb Try.f56 12) true [.op 0, .op 1, .op 2, .op 3, .op 4, .op 5, .op 6, .op 7, .op 8, .op 9, .op 10, .op 11, .op 12, .op 13, .op 14, .op 15, .op 16, .op 17, .op 18, .op 19, .op 20, .op 21, .op 22, .op 23, .op 24, .op 25, .op 26, .op 27, .op 28, .op 29, .op 30, .op 31, .op 32, .op 33, .op 34, .op 35, .op 36, .op 37, .op 38, .op 39, .op 40, .op 41, .op 42, .op 43, .op 44]) (.cond (.tmp 114) (.seq (.ops 13 (zb Try.f56 13)) (.ret [2])) .skip)) (.cut [0, 3, 4] (.ops 14 (zb Try.f56 14))))
noncomputable abbrev qg.u6.f (k:Nat) (x0 x1:Sl) (x2:Int) (kn:Sl->Sl->Int->M α) (kr:Bool->M α):M α:=
 qg.u4.f k x0 x1 x2 (fun y0 y1 y2 y3 y4=>qg.u5.f k y0 y1 y2 y3 y4 kn kr) kr
noncomputable def qg.u6.c:IC:=qg.u4.c qg.u5.c
noncomputable abbrev qg.u7.f (k:Nat) (x0 x1:Sl) (x2:Int) (kn:Sl->Sl->Int->M α) (kr:Bool->M α):M α:=
 qg.u6.f k x0 x1 x2 (fun y0 y1 y2=>kn y0 y1 y2) kr
noncomputable def qg.u7.c:IC:=.block 1 qg.u6.c
noncomputable def qg.u8.f (k:Nat) (x0 x1:Sl) (x2:Int) (kn:Sl->Sl->Int->M α):M α:=
 kn x0 x1 (w64 (x2 + 1))
noncomputable def qg.u8.c:IC:=(.cut [0, 3, 4] (.ops 6 (zb Try.f56 6)))
noncomputable abbrev qg.u9.f (k:Nat) (x0 x1:Sl) (x2:Int) (kn:Sl->Sl->Int->M α) (kr:Bool->M α):M α:=
 qg.u7.f k x0 x1 x2 (fun y0 y1 y2=>qg.u8.f k y0 y1 y2 kn) kr
noncomputable def qg.u9.c:IC:=(.seq qg.u7.c qg.u8.c)
noncomputable abbrev qg.u10.f (k:Nat) (x0 x1:Sl) (x2:Int) (kn:Sl->Sl->Int->M α) (kr:Bool->M α) (kx0:Sl->M α):M α:=
 qg.u3.f k x0 x1 x2 (fun y0 y1 y2=>qg.u9.f k y0 y1 y2 kn kr) kx0
noncomputable def qg.u10.c:IC:=qg.u3.c qg.u9.c
noncomputable def qg.u11.l (k:Nat) (kr:Bool->M α) (kx0:Sl->M α):Nat->Sl->Sl->Int->M α
 | 0, _, _, _=>fail
 | j + 1, x0, x1, x2=>
  qg.u10.f k x0 x1 x2 (fun y0 y1 y2=>qg.u11.l k kr kx0 j y0 y1 y2) kr kx0
noncomputable abbrev qg.u11.f (k:Nat) (x0 x1:Sl) (x2:Int) (kr:Bool->M α) (kx0:Sl->M α):M α:=
 qg.u11.l k kr kx0 k x0 x1 x2
noncomputable def qg.u11.c:IC:=.loop [0, 3, 4] qg.u10.c
noncomputable abbrev qg.u12.f (k:Nat) (x0 x1:Sl) (x2:Int) (kn:Sl->M α) (kr:Bool->M α):M α:=
 qg.u11.f k x0 x1 x2 kr (fun y0=>kn y0)
noncomputable def qg.u12.c:IC:=.block 0 qg.u11.c
noncomputable abbrev qg.u13.f (k:Nat) (x0 x1:Sl) (kn:Sl->M α) (kr:Bool->M α):M α:=
 qg.u2.f k x0 x1 (fun y0 y1 y2=>qg.u12.f k y0 y1 y2 kn kr)
noncomputable def qg.u13.c:IC:=qg.u2.c qg.u12.c
noncomputable def qg.u14.f (k:Nat) (x0:Sl) (kr:Bool->M α):M α:=
 kr (decide ((x0.len:Int) = 1))
noncomputable def qg.u14.c:IC:=(.seq (.ops 15 (zb Try.f56 15)) (.ret [2]))
noncomputable abbrev qg.u15.f (k:Nat) (x0 x1:Sl) (kr:Bool->M α):M α:=
 qg.u13.f k x0 x1 (fun y0=>qg.u14.f k y0 kr) kr
noncomputable def qg.u15.c:IC:=(.seq qg.u13.c qg.u14.c)
noncomputable abbrev qg.u16.f (k:Nat) (x0:Sl) (kr:Bool->M α):M α:=
 qg.u1.f k x0 (fun y0 y1=>qg.u15.f k y0 y1 kr) kr
noncomputable def qg.u16.c:IC:=qg.u1.c qg.u15.c
noncomputable def qg.f:Nat->Sl->(Bool->M α)->M α
 | 0, _, _=>fail
 | k + 1, x0, ret=>
  qg.u16.f k x0 (fun y0=>
   ret y0)
noncomputable def qh.u1.f (k:Nat) (x0:Sl) (kn:Sl->Sl->M α):M α:=
 mkSl (x0.len:Int) (x0.len:Int) 8 [.int .i64 0] fun r3=>
 kn x0 r3
noncomputable def qh.u1.c (R:IC):IC:=(.seq (.ops 0 (zb Try.f57 0)) (.seq (.cut [0, 3] (.ops 1 (zb Try.f57 1))) R))
noncomputable def qh.u2.f (k:Nat) (x0 x1:Sl) (kn:Sl->Sl->Int->M α):M α:=
 kn x0 x1 0
noncomputable def qh.u2.c (R:IC):IC:=(.seq (.cut [0, 3, 4] (.ops 2 (zb Try.f57 2))) R)
noncomputable def qh.u3.f (k:Nat) (x0 x1:Sl) (x2:Int) (kn:Sl->Sl->Int->M α) (kx0:Sl->Sl->M α):M α:=
 cond (decide (x2 < (x0.len:Int))) (
  idxSl x1 x2 1 fun a5=>
  st1 (a5.add 0) (.int .i64 (-1)) <|
  kn x0 x1 (w64 (x2 + 1))) (
  kx0 x0 x1)
noncomputable def qh.u3.c:IC:=(.seq (.seq (.ops 3 (zb Try.f57 3)) (.cond (.tmp 13) .skip (.exit 0 [0, 3]))) (.seq (.block 1 (.ops 5 (zb Try.f57 5))) (.cut [0, 3, 4] (.ops 4 (zb Try.f57 4)))))
noncomputable def qh.u4.l (k:Nat) (kx0:Sl->Sl->M α):Nat->Sl->Sl->Int->M α
 | 0, _, _, _=>fail
 | j + 1, x0, x1, x2=>
  qh.u3.f k x0 x1 x2 (fun y0 y1 y2=>qh.u4.l k kx0 j y0 y1 y2) kx0
noncomputable abbrev qh.u4.f (k:Nat) (x0 x1:Sl) (x2:Int) (kx0:Sl->Sl->M α):M α:=
 qh.u4.l k kx0 k x0 x1 x2
noncomputable def qh.u4.c:IC:=.loop [0, 3, 4] qh.u3.c
noncomputable abbrev qh.u5.f (k:Nat) (x0 x1:Sl) (x2:Int) (kn:Sl->Sl->M α):M α:=
 qh.u4.f k x0 x1 x2 (fun y0 y1=>kn y0 y1)
noncomputable def qh.u5.c:IC:=.block 0 qh.u4.c
noncomputable abbrev qh.u6.f (k:Nat) (x0 x1:Sl) (kn:Sl->Sl->M α):M α:=
 qh.u2.f k x0 x1 (fun y0 y1 y2=>qh.u5.f k y0 y1 y2 kn)
noncomputable def qh.u6.c:IC:=qh.u2.c qh.u5.c
noncomputable def qh.u7.f (k:Nat) (x0 x1:Sl) (kn:Sl->Sl->Int->M α):M α:=
 kn x0 x1 0
noncomputable def qh.u7.c (R:IC):IC:=(.seq (.cut [0, 3, 5] (.ops 6 (zb Try.f57 6))) R)
noncomputable def qh.u8.f (k:Nat) (x0 x1:Sl) (x2:Int) (kn:Sl->Sl->Int->M α) (kx2:Sl->M α):M α:=
 cond (decide (x2 < (x0.len:Int))) (
  idxSl x0 x2 5 fun a5=>
  ldI .i64 ((a5.add 0).add 0) fun x6=>
  qbb.f k x6 fun r7=>
  cond (decide (0 < r7)) (
   idxSl x0 x2 5 fun a8=>
   ldI .i64 ((a8.add 1).add 0) fun x9=>
   idxSl x1 x9 1 fun a10=>
   st1 (a10.add 0) (.int .i64 x2) <|
   cond (decide (1 < r7)) (
    idxSl x0 x2 5 fun a11=>
    ldI .i64 ((a11.add 2).add 0) fun x12=>
    idxSl x1 x12 1 fun a13=>
    st1 (a13.add 0) (.int .i64 x2) <|
    kn x0 x1 (w64 (x2 + 1))) (
    kn x0 x1 (w64 (x2 + 1)))) (
   cond (decide (1 < r7)) (
    idxSl x0 x2 5 fun a14=>
    ldI .i64 ((a14.add 2).add 0) fun x15=>
    idxSl x1 x15 1 fun a16=>
    st1 (a16.add 0) (.int .i64 x2) <|
    kn x0 x1 (w64 (x2 + 1))) (
    kn x0 x1 (w64 (x2 + 1))))) (
  kx2 x1)
noncomputable def qh.u8.c:IC:=(.seq (.seq (.ops 7 (zb Try.f57 7)) (.cond (.tmp 22) .skip (.exit 2 [3]))) (.seq (.block 3 (.seq (.ops 9 (zb Try.f57 9)) (.seq (.seq (.ops 10 (zb Try.f57 10)) (.cond (.tmp 32) (.ops 11 (zb Try.f57 11)) .skip)) (.seq (.ops 12 (zb Try.f57 12)) (.cond (.tmp 42) (.ops 13 (zb Try.f57 13)) .skip))))) (.cut [0, 3, 5] (.ops 8 (zb Try.f57 8)))))
noncomputable def qh.u9.l (k:Nat) (kx2:Sl->M α):Nat->Sl->Sl->Int->M α
 | 0, _, _, _=>fail
 | j + 1, x0, x1, x2=>
  qh.u8.f k x0 x1 x2 (fun y0 y1 y2=>qh.u9.l k kx2 j y0 y1 y2) kx2
noncomputable abbrev qh.u9.f (k:Nat) (x0 x1:Sl) (x2:Int) (kx2:Sl->M α):M α:=
 qh.u9.l k kx2 k x0 x1 x2
noncomputable def qh.u9.c:IC:=.loop [0, 3, 5] qh.u8.c
noncomputable abbrev qh.u10.f (k:Nat) (x0 x1:Sl) (x2:Int) (kn:Sl->M α):M α:=
 qh.u9.f k x0 x1 x2 (fun y0=>kn y0)
noncomputable def qh.u10.c:IC:=.block 2 qh.u9.c
noncomputable abbrev qh.u11.f (k:Nat) (x0 x1:Sl) (kn:Sl->M α):M α:=
 qh.u7.f k x0 x1 (fun y0 y1 y2=>qh.u10.f k y0 y1 y2 kn)
noncomputable def qh.u11.c:IC:=qh.u7.c qh.u10.c
noncomputable def qh.u12.f (k:Nat) (x0:Sl) (kr:Sl->M α):M α:=
 kr x0
noncomputable def qh.u12.c:IC:=(.seq (.ops 14 (zb Try.f57 14)) (.ret [2]))
noncomputable abbrev qh.u13.f (k:Nat) (x0 x1:Sl) (kr:Sl->M α):M α:=
 qh.u11.f k x0 x1 (fun y0=>qh.u12.f k y0 kr)
noncomputable def qh.u13.c:IC:=(.seq qh.u11.c qh.u12.c)
noncomputable abbrev qh.u14.f (k:Nat) (x0 x1:Sl) (kr:Sl->M α):M α:=
 qh.u6.f k x0 x1 (fun y0 y1=>qh.u13.f k y0 y1 kr)
noncomputable def qh.u14.c:IC:=(.seq qh.u6.c qh.u13.c)
noncomputable abbrev qh.u15.f (k:Nat) (x0:Sl) (kr:Sl->M α):M α:=
 qh.u1.f k x0 (fun y0 y1=>qh.u14.f k y0 y1 kr)
noncomputable def qh.u15.c:IC:=qh.u1.c qh.u14.c
noncomputable def qh.f:Nat->Sl->(Sl->M α)->M α
 | 0, _, _=>fail
 | k + 1, x0, ret=>
  qh.u15.f k x0 (fun y0=>
   ret y0)
noncomputable def qau.u1.f (k:Nat) (x0 x1 x2:Int) (x3:TX) (x4:Int) (kr:Bool->M α):M α:=
 new [.int .i64 x0, .int .i64 x1, .int .i64 x2, .str x3, .int .i64 x4] fun n7=>
 ldI .i64 ((n7.add 0).add 0) fun x8=>
 cond (decide (x8 = 10)) (
  kr true) (
  ldI .i64 ((n7.add 0).add 0) fun x9=>
  kr (decide (x9 = 11)))
noncomputable def qau.u1.c:IC:=(.seq (.ops 0 (zb Try.f60 0)) (.seq (.ops 1 (zb Try.f60 1)) (.ret [2])))
noncomputable def qau.f:Nat->Int->Int->Int->TX->Int->(Bool->M α)->M α
 | 0, _, _, _, _, _, _=>fail
 | k + 1, x0, x1, x2, x3, x4, ret=>
  qau.u1.f k x0 x1 x2 x3 x4 (fun y0=>
   ret y0)
noncomputable def qi.u1.f (k:Nat) (x0:Sl) (kn:Sl->Sl->M α):M α:=
 mkSl (x0.len:Int) (x0.len:Int) 8 [.int .i64 0] fun r3=>
 kn x0 r3
noncomputable def qi.u1.c (R:IC):IC:=(.seq (.ops 0 (zb Try.f58 0)) (.seq (.cut [0, 3] (.ops 1 (zb Try.f58 1))) R))
noncomputable def qi.u2.f (k:Nat) (x0 x1:Sl) (kn:Sl->Sl->Int->M α):M α:=
 kn x0 x1 0
noncomputable def qi.u2.c (R:IC):IC:=(.seq (.cut [0, 3, 4] (.ops 2 (zb Try.f58 2))) R)
noncomputable def qi.u3.f (k:Nat) (x0 x1:Sl) (x2:Int) (kn:Sl->Sl->Int->M α) (kx0:Sl->M α):M α:=
 cond (decide (x2 < (x0.len:Int))) (
  kn x0 x1 x2) (
  kx0 x1)
noncomputable def qi.u3.c (R:IC):IC:=(.seq (.cut [0, 3, 4] (.seq (.ops 3 (zb Try.f58 3)) (.cond (.tmp 13) .skip (.exit 0 [3])))) R)
noncomputable def qi.u4.f (k:Nat) (x0 x1:Sl) (x2:Int) (kn:Sl->Sl->Int->Int->M α):M α:=
 idxSl x0 x2 5 fun a5=>
 ldI .i64 ((a5.add 0).add 0) fun x6=>
 qbb.f k x6 fun r7=>
 cond (decide (0 < r7)) (
  idxSl x0 x2 5 fun a8=>
  ldI .i64 ((a8.add 1).add 0) fun x9=>
  idxSl x1 x9 1 fun a10=>
  ldI .i64 (a10.add 0) fun x11=>
  idxSl x1 x2 1 fun a12=>
  st1 (a12.add 0) (.int .i64 x11) <|
  kn x0 x1 x2 r7) (
  kn x0 x1 x2 r7)
noncomputable def qi.u4.c (R:IC):IC:=(.seq (.ops 5 (zb Try.f58 5)) (.seq (.cut [0, 3, 4, 5] (.seq (.ops 6 (zb Try.f58 6)) (.cond (.tmp 23) (.ops 7 (zb Try.f58 7)) .skip))) R))
noncomputable def qi.u5.f (k:Nat) (x0 x1:Sl) (x2 x3:Int) (kn:Sl->Sl->Int->M α):M α:=
 cond (decide (1 < x3)) (
  idxSl x0 x2 5 fun a6=>
  ldI .i64 ((a6.add 2).add 0) fun x7=>
  idxSl x1 x7 1 fun a8=>
  ldI .i64 (a8.add 0) fun x9=>
  idxSl x1 x2 1 fun a10=>
  ldI .i64 (a10.add 0) fun x11=>
  cond (decide (x11 < x9)) (
   idxSl x0 x2 5 fun a12=>
   ldI .i64 ((a12.add 2).add 0) fun x13=>
   idxSl x1 x13 1 fun a14=>
   ldI .i64 (a14.add 0) fun x15=>
   idxSl x1 x2 1 fun a16=>
   st1 (a16.add 0) (.int .i64 x15) <|
   idxSl x0 x2 5 fun a17=>
   ldI .i64 (a17.add 0) fun x18=>
   ldI .i64 (a17.add 1) fun x19=>
   ldI .i64 (a17.add 2) fun x20=>
   ldStr (a17.add 3) fun x21=>
   ldI .i64 (a17.add 4) fun x22=>
   qau.f k x18 x19 x20 x21 x22 fun r23=>
   cond (r23) (
    idxSl x1 x2 1 fun a24=>
    ldI .i64 (a24.add 0) fun x25=>
    idxSl x1 x2 1 fun a26=>
    st1 (a26.add 0) (.int .i64 (w64 (x25 + 1))) <|
    kn x0 x1 x2) (
    kn x0 x1 x2)) (
   idxSl x0 x2 5 fun a27=>
   ldI .i64 (a27.add 0) fun x28=>
   ldI .i64 (a27.add 1) fun x29=>
   ldI .i64 (a27.add 2) fun x30=>
   ldStr (a27.add 3) fun x31=>
   ldI .i64 (a27.add 4) fun x32=>
   qau.f k x28 x29 x30 x31 x32 fun r33=>
   cond (r33) (
    idxSl x1 x2 1 fun a34=>
    ldI .i64 (a34.add 0) fun x35=>
    idxSl x1 x2 1 fun a36=>
    st1 (a36.add 0) (.int .i64 (w64 (x35 + 1))) <|
    kn x0 x1 x2) (
    kn x0 x1 x2))) (
  idxSl x0 x2 5 fun a37=>
  ldI .i64 (a37.add 0) fun x38=>
  ldI .i64 (a37.add 1) fun x39=>
  ldI .i64 (a37.add 2) fun x40=>
  ldStr (a37.add 3) fun x41=>
  ldI .i64 (a37.add 4) fun x42=>
  qau.f k x38 x39 x40 x41 x42 fun r43=>
  cond (r43) (
   idxSl x1 x2 1 fun a44=>
   ldI .i64 (a44.add 0) fun x45=>
   idxSl x1 x2 1 fun a46=>
   st1 (a46.add 0) (.int .i64 (w64 (x45 + 1))) <|
   kn x0 x1 x2) (
   kn x0 x1 x2))
noncomputable def qi.u5.c:IC:=(.seq (.seq (.drawn 8 (zb Try.f58 8) true [.op 0, .op 1, .op 2, .op 3, .op 4, .op 5, .op 6, .op 7, .op 8, .op 9, .op 10, .op 11, .op 12, .op 13, .op 14, .op 15, .op 16]) (.cond (.tmp 51) (.ops 9 (zb Try.f58 9)) .skip)) (.seq (.ops 10 (zb Try.f58 10)) (.seq (.ops 11 (zb Try.f58 11)) (.cut [0, 3, 4] (.cond (.tmp 68) (.ops 12 (zb Try.f58 12)) .skip)))))
noncomputable abbrev qi.u6.f (k:Nat) (x0 x1:Sl) (x2:Int) (kn:Sl->Sl->Int->M α):M α:=
 qi.u4.f k x0 x1 x2 (fun y0 y1 y2 y3=>qi.u5.f k y0 y1 y2 y3 kn)
noncomputable def qi.u6.c:IC:=qi.u4.c qi.u5.c
noncomputable abbrev qi.u7.f (k:Nat) (x0 x1:Sl) (x2:Int) (kn:Sl->Sl->Int->M α):M α:=
 qi.u6.f k x0 x1 x2 (fun y0 y1 y2=>kn y0 y1 y2)
noncomputable def qi.u7.c:IC:=.block 1 qi.u6.c
noncomputable def qi.u8.f (k:Nat) (x0 x1:Sl) (x2:Int) (kn:Sl->Sl->Int->M α):M α:=
 kn x0 x1 (w64 (x2 + 1))
noncomputable def qi.u8.c:IC:=(.cut [0, 3, 4] (.ops 4 (zb Try.f58 4)))
noncomputable abbrev qi.u9.f (k:Nat) (x0 x1:Sl) (x2:Int) (kn:Sl->Sl->Int->M α):M α:=
 qi.u7.f k x0 x1 x2 (fun y0 y1 y2=>qi.u8.f k y0 y1 y2 kn)
noncomputable def qi.u9.c:IC:=(.seq qi.u7.c qi.u8.c)
noncomputable abbrev qi.u10.f (k:Nat) (x0 x1:Sl) (x2:Int) (kn:Sl->Sl->Int->M α) (kx0:Sl->M α):M α:=
 qi.u3.f k x0 x1 x2 (fun y0 y1 y2=>qi.u9.f k y0 y1 y2 kn) kx0
noncomputable def qi.u10.c:IC:=qi.u3.c qi.u9.c
noncomputable def qi.u11.l (k:Nat) (kx0:Sl->M α):Nat->Sl->Sl->Int->M α
 | 0, _, _, _=>fail
 | j + 1, x0, x1, x2=>
  qi.u10.f k x0 x1 x2 (fun y0 y1 y2=>qi.u11.l k kx0 j y0 y1 y2) kx0
noncomputable abbrev qi.u11.f (k:Nat) (x0 x1:Sl) (x2:Int) (kx0:Sl->M α):M α:=
 qi.u11.l k kx0 k x0 x1 x2
noncomputable def qi.u11.c:IC:=.loop [0, 3, 4] qi.u10.c
noncomputable abbrev qi.u12.f (k:Nat) (x0 x1:Sl) (x2:Int) (kn:Sl->M α):M α:=
 qi.u11.f k x0 x1 x2 (fun y0=>kn y0)
noncomputable def qi.u12.c:IC:=.block 0 qi.u11.c
noncomputable abbrev qi.u13.f (k:Nat) (x0 x1:Sl) (kn:Sl->M α):M α:=
 qi.u2.f k x0 x1 (fun y0 y1 y2=>qi.u12.f k y0 y1 y2 kn)
noncomputable def qi.u13.c:IC:=qi.u2.c qi.u12.c
noncomputable def qi.u14.f (k:Nat) (x0:Sl) (kr:Sl->M α):M α:=
 kr x0
noncomputable def qi.u14.c:IC:=(.seq (.ops 13 (zb Try.f58 13)) (.ret [2]))
noncomputable abbrev qi.u15.f (k:Nat) (x0 x1:Sl) (kr:Sl->M α):M α:=
 qi.u13.f k x0 x1 (fun y0=>qi.u14.f k y0 kr)
noncomputable def qi.u15.c:IC:=(.seq qi.u13.c qi.u14.c)
noncomputable abbrev qi.u16.f (k:Nat) (x0:Sl) (kr:Sl->M α):M α:=
 qi.u1.f k x0 (fun y0 y1=>qi.u15.f k y0 y1 kr)
noncomputable def qi.u16.c:IC:=qi.u1.c qi.u15.c
noncomputable def qi.f:Nat->Sl->(Sl->M α)->M α
 | 0, _, _=>fail
 | k + 1, x0, ret=>
  qi.u16.f k x0 (fun y0=>
   ret y0)
noncomputable def qt.u1.f (k:Nat) (x0 x1:Sl) (x2:Int) (kn:Sl->Sl->Int->Int->M α):M α:=
 kn x0 x1 x2 0
noncomputable def qt.u1.c (R:IC):IC:=(.seq (.ops 0 (zb Try.f59 0)) (.seq (.cut [0, 1, 2, 8] (.ops 1 (zb Try.f59 1))) R))
noncomputable def qt.u2.f (k:Nat) (x0 x1:Sl) (x2 x3:Int) (kn:Sl->Sl->Int->Int->Int->M α):M α:=
 idxSl x1 x2 1 fun a6=>
 ldI .i64 (a6.add 0) fun x7=>
 kn x0 x1 x2 x3 x7
noncomputable def qt.u2.c (R:IC):IC:=(.seq (.cut [0, 1, 2, 8, 9] (.ops 2 (zb Try.f59 2))) R)
noncomputable def qt.u3.f (k:Nat) (x0 x1:Sl) (x2 x3 x4:Int) (kn:Sl->Sl->Int->Int->Int->M α) (kr:Int->Int->M α) (kx0:M α):M α:=
 cond (decide (0≤x4)) (
  idxSl x0 x4 5 fun a7=>
  ldI .i64 (a7.add 0) fun x8=>
  ldI .i64 (a7.add 1) fun x9=>
  ldI .i64 (a7.add 2) fun x10=>
  ldStr (a7.add 3) fun x11=>
  ldI .i64 (a7.add 4) fun x12=>
  qau.f k x8 x9 x10 x11 x12 fun r13=>
  cond (r13) (
   idxSl x0 x4 5 fun a14=>
   ldStr ((a14.add 3).add 0) fun x15=>
   idxSl x0 x2 5 fun a16=>
   ldStr ((a16.add 3).add 0) fun x17=>
   cond (decide (x15 = x17)) (
    kr x4 x3) (
    idxSl x0 x4 5 fun a18=>
    ldI .i64 ((a18.add 0).add 0) fun x19=>
    cond (decide (x19 = 5)) (
     idxSl x1 x4 1 fun a20=>
     ldI .i64 (a20.add 0) fun x21=>
     kn x0 x1 x2 (w64 (x3 + 1)) x21) (
     idxSl x1 x4 1 fun a22=>
     ldI .i64 (a22.add 0) fun x23=>
     kn x0 x1 x2 x3 x23))) (
   idxSl x0 x4 5 fun a24=>
   ldI .i64 ((a24.add 0).add 0) fun x25=>
   cond (decide (x25 = 5)) (
    idxSl x1 x4 1 fun a26=>
    ldI .i64 (a26.add 0) fun x27=>
    kn x0 x1 x2 (w64 (x3 + 1)) x27) (
    idxSl x1 x4 1 fun a28=>
    ldI .i64 (a28.add 0) fun x29=>
    kn x0 x1 x2 x3 x29))) (
  kx0)
noncomputable def qt.u3.c:IC:=(.seq (.seq (.ops 3 (zb Try.f59 3)) (.cond (.tmp 16) .skip (.exit 0 []))) (.seq (.block 1 (.seq (.ops 5 (zb Try.f59 5)) (.seq (.seq (.drawn 6 (zb Try.f59 6) true [.op 0, .op 1, .op 2, .op 3, .op 4, .op 5, .op 6, .op 7, .op 8, .op 9, .op 10, .op 11, .op 12, .op 13]) (.cond (.tmp 39) (.seq (.ops 7 (zb Try.f59 7)) (.ret [6, 7])) .skip)) (.seq (.ops 8 (zb Try.f59 8)) (.cond (.tmp 47) (.ops 9 (zb Try.f59 9)) .skip))))) (.cut [0, 1, 2, 8, 9] (.ops 4 (zb Try.f59 4)))))
noncomputable def qt.u4.l (k:Nat) (kr:Int->Int->M α) (kx0:M α):Nat->Sl->Sl->Int->Int->Int->M α
 | 0, _, _, _, _, _=>fail
 | j + 1, x0, x1, x2, x3, x4=>
  qt.u3.f k x0 x1 x2 x3 x4 (fun y0 y1 y2 y3 y4=>qt.u4.l k kr kx0 j y0 y1 y2 y3 y4) kr kx0
noncomputable abbrev qt.u4.f (k:Nat) (x0 x1:Sl) (x2 x3 x4:Int) (kr:Int->Int->M α) (kx0:M α):M α:=
 qt.u4.l k kr kx0 k x0 x1 x2 x3 x4
noncomputable def qt.u4.c:IC:=.loop [0, 1, 2, 8, 9] qt.u3.c
noncomputable abbrev qt.u5.f (k:Nat) (x0 x1:Sl) (x2 x3 x4:Int) (kn:M α) (kr:Int->Int->M α):M α:=
 qt.u4.f k x0 x1 x2 x3 x4 kr (kn)
noncomputable def qt.u5.c:IC:=.block 0 qt.u4.c
noncomputable abbrev qt.u6.f (k:Nat) (x0 x1:Sl) (x2 x3:Int) (kn:M α) (kr:Int->Int->M α):M α:=
 qt.u2.f k x0 x1 x2 x3 (fun y0 y1 y2 y3 y4=>qt.u5.f k y0 y1 y2 y3 y4 kn kr)
noncomputable def qt.u6.c:IC:=qt.u2.c qt.u5.c
noncomputable def qt.u7.f (k:Nat) (kr:Int->Int->M α):M α:=
 kr (-1) 0
noncomputable def qt.u7.c:IC:=(.seq (.ops 10 (zb Try.f59 10)) (.ret [6, 7]))
noncomputable abbrev qt.u8.f (k:Nat) (x0 x1:Sl) (x2 x3:Int) (kr:Int->Int->M α):M α:=
 qt.u6.f k x0 x1 x2 x3 (qt.u7.f k kr) kr
noncomputable def qt.u8.c:IC:=(.seq qt.u6.c qt.u7.c)
noncomputable abbrev qt.u9.f (k:Nat) (x0 x1:Sl) (x2:Int) (kr:Int->Int->M α):M α:=
 qt.u1.f k x0 x1 x2 (fun y0 y1 y2 y3=>qt.u8.f k y0 y1 y2 y3 kr)
noncomputable def qt.u9.c:IC:=qt.u1.c qt.u8.c
noncomputable def qt.f:Nat->Sl->Sl->Int->(Int->Int->M α)->M α
 | 0, _, _, _, _=>fail
 | k + 1, x0, x1, x2, ret=>
  qt.u9.f k x0 x1 x2 (fun y0 y1=>
   ret y0 y1)
noncomputable def qc.u1.f (k:Nat) (x0:Sl) (kn:Sl->Sl->Sl->M α) (kr:Int->Int->M α):M α:=
 qg.f k x0 fun r3=>
 cond (!r3) (
  kr 0 1) (
  qh.f k x0 fun r4=>
  qi.f k x0 fun r5=>
  kn x0 r4 r5)
noncomputable def qc.u1.c (R:IC):IC:=(.seq (.ops 0 (zb Try.f41 0)) (.seq (.ops 1 (zb Try.f41 1)) (.seq (.seq (.ops 2 (zb Try.f41 2)) (.cond (.tmp 15) (.seq (.ops 3 (zb Try.f41 3)) (.ret [2, 3])) .skip)) (.seq (.ops 4 (zb Try.f41 4)) (.seq (.cut [0, 5, 6] (.ops 5 (zb Try.f41 5))) R)))))
noncomputable def qc.u2.f (k:Nat) (x0 x1 x2:Sl) (kn:Sl->Sl->Sl->Int->M α):M α:=
 kn x0 x1 x2 0
noncomputable def qc.u2.c (R:IC):IC:=(.seq (.cut [0, 5, 6, 7] (.ops 6 (zb Try.f41 6))) R)
noncomputable def qc.u3.f (k:Nat) (x0 x1 x2:Sl) (x3:Int) (kn:Sl->Sl->Sl->Int->M α) (kx0:M α):M α:=
 cond (decide (x3 < (x0.len:Int))) (
  kn x0 x1 x2 x3) (
  kx0)
noncomputable def qc.u3.c (R:IC):IC:=(.seq (.cut [0, 5, 6, 7] (.seq (.ops 7 (zb Try.f41 7)) (.cond (.tmp 23) .skip (.exit 0 [])))) R)
noncomputable def qc.u4.f (k:Nat) (x0 x1 x2:Sl) (x3:Int) (kn:Sl->Sl->Sl->Int->M α) (kr:Int->Int->M α):M α:=
 idxSl x0 x3 5 fun a6=>
 ldI .i64 ((a6.add 0).add 0) fun x7=>
 cond (decide (x7 = 4)) (
  qt.f k x0 x1 x3 fun r8 r9=>
  cond (decide (r8 < 0)) (
   kr x3 11) (
   cond (decide (Int.tmod r9 2 = 1)) (
    kr x3 12) (
    kn x0 x1 x2 x3))) (
  kn x0 x1 x2 x3)
noncomputable def qc.u4.c (R:IC):IC:=(.seq (.cut [0, 5, 6, 7] (.seq (.ops 9 (zb Try.f41 9)) (.cond (.tmp 31) (.seq (.ops 10 (zb Try.f41 10)) (.seq (.seq (.ops 11 (zb Try.f41 11)) (.cond (.tmp 40) (.seq (.ops 12 (zb Try.f41 12)) (.ret [2, 3])) .skip)) (.seq (.ops 13 (zb Try.f41 13)) (.cond (.tmp 44) (.seq (.ops 14 (zb Try.f41 14)) (.ret [2, 3])) .skip)))) .skip))) R)
noncomputable def qc.u5.f (k:Nat) (x0 x1 x2:Sl) (x3:Int) (kn:Sl->Sl->Sl->Int->M α) (kx1:Sl->Sl->Sl->Int->M α):M α:=
 idxSl x0 x3 5 fun a6=>
 ldI .i64 (a6.add 0) fun x7=>
 ldI .i64 (a6.add 1) fun x8=>
 ldI .i64 (a6.add 2) fun x9=>
 ldStr (a6.add 3) fun x10=>
 ldI .i64 (a6.add 4) fun x11=>
 qau.f k x7 x8 x9 x10 x11 fun r12=>
 cond (!r12) (
  kx1 x0 x1 x2 x3) (
  kn x0 x1 x2 x3)
noncomputable def qc.u5.c (R:IC):IC:=(.seq (.ops 15 (zb Try.f41 15)) (.seq (.cut [0, 5, 6, 7] (.seq (.ops 16 (zb Try.f41 16)) (.cond (.tmp 52) (.exit 1 [0, 5, 6, 7]) .skip))) R))
noncomputable def qc.u6.f (k:Nat) (x0 x1 x2:Sl) (x3:Int) (kn:Sl->Sl->Sl->Int->Int->M α):M α:=
 kn x0 x1 x2 x3 0
noncomputable def qc.u6.c (R:IC):IC:=(.seq (.cut [0, 5, 6, 7, 11] (.ops 17 (zb Try.f41 17))) R)
noncomputable def qc.u7.f (k:Nat) (x0 x1 x2:Sl) (x3 x4:Int) (kn:Sl->Sl->Sl->Int->Int->M α) (kr:Int->Int->M α) (kx2:Sl->Sl->Sl->Int->M α):M α:=
 cond (decide (x4 < x3)) (
  idxSl x0 x4 5 fun a7=>
  ldI .i64 (a7.add 0) fun x8=>
  ldI .i64 (a7.add 1) fun x9=>
  ldI .i64 (a7.add 2) fun x10=>
  ldStr (a7.add 3) fun x11=>
  ldI .i64 (a7.add 4) fun x12=>
  qau.f k x8 x9 x10 x11 x12 fun r13=>
  cond (r13) (
   idxSl x0 x4 5 fun a14=>
   ldStr ((a14.add 3).add 0) fun x15=>
   idxSl x0 x3 5 fun a16=>
   ldStr ((a16.add 3).add 0) fun x17=>
   cond (decide (x15 = x17)) (
    kr x3 9) (
    kn x0 x1 x2 x3 (w64 (x4 + 1)))) (
   kn x0 x1 x2 x3 (w64 (x4 + 1)))) (
  kx2 x0 x1 x2 x3)
noncomputable def qc.u7.c:IC:=(.seq (.seq (.ops 18 (zb Try.f41 18)) (.cond (.tmp 55) .skip (.exit 2 [0, 5, 6, 7]))) (.seq (.block 3 (.seq (.drawn 20 (zb Try.f41 20) true [.op 0, .op 1, .op 2, .op 3, .op 4, .op 5, .op 6, .op 7, .op 8, .op 9, .op 10, .op 11, .op 12, .op 13, .op 14, .op 15, .op 16, .op 17]) (.cond (.tmp 75) (.seq (.ops 21 (zb Try.f41 21)) (.ret [2, 3])) .skip))) (.cut [0, 5, 6, 7, 11] (.ops 19 (zb Try.f41 19)))))
noncomputable def qc.u8.l (k:Nat) (kr:Int->Int->M α) (kx2:Sl->Sl->Sl->Int->M α):Nat->Sl->Sl->Sl->Int->Int->M α
 | 0, _, _, _, _, _=>fail
 | j + 1, x0, x1, x2, x3, x4=>
  qc.u7.f k x0 x1 x2 x3 x4 (fun y0 y1 y2 y3 y4=>qc.u8.l k kr kx2 j y0 y1 y2 y3 y4) kr kx2
noncomputable abbrev qc.u8.f (k:Nat) (x0 x1 x2:Sl) (x3 x4:Int) (kr:Int->Int->M α) (kx2:Sl->Sl->Sl->Int->M α):M α:=
 qc.u8.l k kr kx2 k x0 x1 x2 x3 x4
noncomputable def qc.u8.c:IC:=.loop [0, 5, 6, 7, 11] qc.u7.c
noncomputable abbrev qc.u9.f (k:Nat) (x0 x1 x2:Sl) (x3 x4:Int) (kn:Sl->Sl->Sl->Int->M α) (kr:Int->Int->M α):M α:=
 qc.u8.f k x0 x1 x2 x3 x4 kr (fun y0 y1 y2 y3=>kn y0 y1 y2 y3)
noncomputable def qc.u9.c:IC:=.block 2 qc.u8.c
noncomputable abbrev qc.u10.f (k:Nat) (x0 x1 x2:Sl) (x3:Int) (kn:Sl->Sl->Sl->Int->M α) (kr:Int->Int->M α):M α:=
 qc.u6.f k x0 x1 x2 x3 (fun y0 y1 y2 y3 y4=>qc.u9.f k y0 y1 y2 y3 y4 kn kr)
noncomputable def qc.u10.c:IC:=qc.u6.c qc.u9.c
noncomputable def qc.u11.f (k:Nat) (x0 x1 x2:Sl) (x3:Int) (kn:Sl->Sl->Sl->Int->M α) (kr:Int->Int->M α):M α:=
 idxSl x2 x3 1 fun a6=>
 ldI .i64 (a6.add 0) fun x7=>
 cond (decide (4 < x7)) (
  kr x3 13) (
  kn x0 x1 x2 x3)
noncomputable def qc.u11.c:IC:=(.seq (.ops 22 (zb Try.f41 22)) (.cut [0, 5, 6, 7] (.cond (.tmp 81) (.seq (.ops 23 (zb Try.f41 23)) (.ret [2, 3])) .skip)))
noncomputable abbrev qc.u12.f (k:Nat) (x0 x1 x2:Sl) (x3:Int) (kn:Sl->Sl->Sl->Int->M α) (kr:Int->Int->M α):M α:=
 qc.u10.f k x0 x1 x2 x3 (fun y0 y1 y2 y3=>qc.u11.f k y0 y1 y2 y3 kn kr) kr
noncomputable def qc.u12.c:IC:=(.seq qc.u10.c qc.u11.c)
noncomputable abbrev qc.u13.f (k:Nat) (x0 x1 x2:Sl) (x3:Int) (kn:Sl->Sl->Sl->Int->M α) (kr:Int->Int->M α) (kx1:Sl->Sl->Sl->Int->M α):M α:=
 qc.u5.f k x0 x1 x2 x3 (fun y0 y1 y2 y3=>qc.u12.f k y0 y1 y2 y3 kn kr) kx1
noncomputable def qc.u13.c:IC:=qc.u5.c qc.u12.c
noncomputable abbrev qc.u14.f (k:Nat) (x0 x1 x2:Sl) (x3:Int) (kn:Sl->Sl->Sl->Int->M α) (kr:Int->Int->M α) (kx1:Sl->Sl->Sl->Int->M α):M α:=
 qc.u4.f k x0 x1 x2 x3 (fun y0 y1 y2 y3=>qc.u13.f k y0 y1 y2 y3 kn kr kx1) kr
noncomputable def qc.u14.c:IC:=qc.u4.c qc.u13.c
noncomputable abbrev qc.u15.f (k:Nat) (x0 x1 x2:Sl) (x3:Int) (kn:Sl->Sl->Sl->Int->M α) (kr:Int->Int->M α):M α:=
 qc.u14.f k x0 x1 x2 x3 (fun y0 y1 y2 y3=>kn y0 y1 y2 y3) kr (fun y0 y1 y2 y3=>kn y0 y1 y2 y3)
noncomputable def qc.u15.c:IC:=.block 1 qc.u14.c
noncomputable def qc.u16.f (k:Nat) (x0 x1 x2:Sl) (x3:Int) (kn:Sl->Sl->Sl->Int->M α):M α:=
 kn x0 x1 x2 (w64 (x3 + 1))
noncomputable def qc.u16.c:IC:=(.cut [0, 5, 6, 7] (.ops 8 (zb Try.f41 8)))
noncomputable abbrev qc.u17.f (k:Nat) (x0 x1 x2:Sl) (x3:Int) (kn:Sl->Sl->Sl->Int->M α) (kr:Int->Int->M α):M α:=
 qc.u15.f k x0 x1 x2 x3 (fun y0 y1 y2 y3=>qc.u16.f k y0 y1 y2 y3 kn) kr
noncomputable def qc.u17.c:IC:=(.seq qc.u15.c qc.u16.c)
noncomputable abbrev qc.u18.f (k:Nat) (x0 x1 x2:Sl) (x3:Int) (kn:Sl->Sl->Sl->Int->M α) (kr:Int->Int->M α) (kx0:M α):M α:=
 qc.u3.f k x0 x1 x2 x3 (fun y0 y1 y2 y3=>qc.u17.f k y0 y1 y2 y3 kn kr) kx0
noncomputable def qc.u18.c:IC:=qc.u3.c qc.u17.c
noncomputable def qc.u19.l (k:Nat) (kr:Int->Int->M α) (kx0:M α):Nat->Sl->Sl->Sl->Int->M α
 | 0, _, _, _, _=>fail
 | j + 1, x0, x1, x2, x3=>
  qc.u18.f k x0 x1 x2 x3 (fun y0 y1 y2 y3=>qc.u19.l k kr kx0 j y0 y1 y2 y3) kr kx0
noncomputable abbrev qc.u19.f (k:Nat) (x0 x1 x2:Sl) (x3:Int) (kr:Int->Int->M α) (kx0:M α):M α:=
 qc.u19.l k kr kx0 k x0 x1 x2 x3
noncomputable def qc.u19.c:IC:=.loop [0, 5, 6, 7] qc.u18.c
noncomputable abbrev qc.u20.f (k:Nat) (x0 x1 x2:Sl) (x3:Int) (kn:M α) (kr:Int->Int->M α):M α:=
 qc.u19.f k x0 x1 x2 x3 kr (kn)
noncomputable def qc.u20.c:IC:=.block 0 qc.u19.c
noncomputable abbrev qc.u21.f (k:Nat) (x0 x1 x2:Sl) (kn:M α) (kr:Int->Int->M α):M α:=
 qc.u2.f k x0 x1 x2 (fun y0 y1 y2 y3=>qc.u20.f k y0 y1 y2 y3 kn kr)
noncomputable def qc.u21.c:IC:=qc.u2.c qc.u20.c
noncomputable def qc.u22.f (k:Nat) (kr:Int->Int->M α):M α:=
 kr 0 0
noncomputable def qc.u22.c:IC:=(.seq (.ops 24 (zb Try.f41 24)) (.ret [2, 3]))
noncomputable abbrev qc.u23.f (k:Nat) (x0 x1 x2:Sl) (kr:Int->Int->M α):M α:=
 qc.u21.f k x0 x1 x2 (qc.u22.f k kr) kr
noncomputable def qc.u23.c:IC:=(.seq qc.u21.c qc.u22.c)
noncomputable abbrev qc.u24.f (k:Nat) (x0:Sl) (kr:Int->Int->M α):M α:=
 qc.u1.f k x0 (fun y0 y1 y2=>qc.u23.f k y0 y1 y2 kr) kr
noncomputable def qc.u24.c:IC:=qc.u1.c qc.u23.c
noncomputable def qc.f:Nat->Sl->(Int->Int->M α)->M α
 | 0, _, _=>fail
 | k + 1, x0, ret=>
  qc.u24.f k x0 (fun y0 y1=>
   ret y0 y1)
noncomputable def qal.u1.f (k:Nat) (x0:Sl) (kr:Bool->M α):M α:=
 qp.f k x0 fun r3=>
 qc.f k r3 fun r4 r5=>
 kr (decide (r5 = 0))
noncomputable def qal.u1.c:IC:=(.seq (.ops 0 (zb Try.f23 0)) (.seq (.ops 1 (zb Try.f23 1)) (.seq (.ops 2 (zb Try.f23 2)) (.ret [2]))))
noncomputable def qal.f:Nat->Sl->(Bool->M α)->M α
 | 0, _, _=>fail
 | k + 1, x0, ret=>
  qal.u1.f k x0 (fun y0=>
   ret y0)
noncomputable def qbk.u1.f (k:Nat) (x0:Int) (kr:Int->M α):M α:=
 cond (decide (x0 = 1)) (
  kr 2) (
  cond (decide (x0 = 2)) (
   kr 1) (
   cond (decide (x0 = 3)) (
    kr 12) (
    cond (decide (x0 = 12)) (
     kr 3) (
     cond (decide (x0 = 6)) (
      kr 7) (
      cond (decide (x0 = 7)) (
       kr 6) (
       cond (decide (x0 = 8)) (
        kr 9) (
        cond (decide (x0 = 9)) (
         kr 8) (
         cond (decide (x0 = 10)) (
          kr 11) (
          cond (decide (x0 = 11)) (
           kr 10) (
           kr x0))))))))))
noncomputable def qbk.u1.c:IC:=(.seq (.ops 0 (zb Try.f43 0)) (.seq (.seq (.ops 1 (zb Try.f43 1)) (.block 0 (.seq (.ops 2 (zb Try.f43 2)) (.cond (.tmp 4) (.seq (.ops 3 (zb Try.f43 3)) (.ret [2])) (.seq (.ops 4 (zb Try.f43 4)) (.cond (.tmp 6) (.seq (.ops 5 (zb Try.f43 5)) (.ret [2])) (.seq (.ops 6 (zb Try.f43 6)) (.cond (.tmp 8) (.seq (.ops 7 (zb Try.f43 7)) (.ret [2])) (.seq (.ops 8 (zb Try.f43 8)) (.cond (.tmp 10) (.seq (.ops 9 (zb Try.f43 9)) (.ret [2])) (.seq (.ops 10 (zb Try.f43 10)) (.cond (.tmp 12) (.seq (.ops 11 (zb Try.f43 11)) (.ret [2])) (.seq (.ops 12 (zb Try.f43 12)) (.cond (.tmp 14) (.seq (.ops 13 (zb Try.f43 13)) (.ret [2])) (.seq (.ops 14 (zb Try.f43 14)) (.cond (.tmp 16) (.seq (.ops 15 (zb Try.f43 15)) (.ret [2])) (.seq (.ops 16 (zb Try.f43 16)) (.cond (.tmp 18) (.seq (.ops 17 (zb Try.f43 17)) (.ret [2])) (.seq (.ops 18 (zb Try.f43 18)) (.cond (.tmp 20) (.seq (.ops 19 (zb Try.f43 19)) (.ret [2])) (.seq (.ops 20 (zb Try.f43 20)) (.cond (.tmp 22) (.seq (.ops 21 (zb Try.f43 21)) (.ret [2])) .skip)))))))))))))))))))))) (.seq (.ops 22 (zb Try.f43 22)) (.ret [2]))))
noncomputable def qbk.f:Nat->Int->(Int->M α)->M α
 | 0, _, _=>fail
 | k + 1, x0, ret=>
  qbk.u1.f k x0 (fun y0=>
   ret y0)
end
end Go.Ab.S7
