import Derived.Test.YtjohdighlhoofaaDoorAb14
import Derived.Recover
import Derived.Test.YtjohdighlhoofaaDoorAb20
import Derived.Shelf.Strings.Builder1
import Derived.Test.YtjohdighlhoofaaDoorProg
import Derived.KernelRfl
import Derived.Lib.ItoaNum
set_option linter.unusedVariables false
set_option linter.unusedSimpArgs false
namespace Go.Ab.S8
abbrev TX:=List UInt8
abbrev KF (α:Type):=Ex->zb->M α
abbrev fr0 (x0:TX) (x1:Int):zb:=za [(0, .str x0), (1, .int .u8 x1)]
abbrev fr1 (x0:Int):zb:=za [(4, .int .i64 x0)]
abbrev fr2 (x0:Int):zb:=za [(0, .int .u8 x0)]
abbrev fr3 (x0:Int):zb:=za [(2, .int .i64 x0)]
abbrev fr4 (x0:Int) (x1:TX):zb:=za [(0, .int .i64 x0), (1, .str x1)]
abbrev fr5 (x0:Int) (x1:TX) (x2:Int):zb:=za [(0, .int .i64 x0), (1, .str x1), (5, .int .i64 x2)]
abbrev fr6 (x0:TX) (x1 x2:Int):zb:=za [(1, .str x0), (5, .int .i64 x1), (6, .int .i64 x2)]
abbrev fr7 (x0:TX) (x1 x2:Int) (x3:Bool):zb:=za [(1, .str x0), (5, .int .i64 x1), (6, .int .i64 x2), (7, .bool x3)]
abbrev fr8 (x0:TX) (x1:Int):zb:=za [(1, .str x0), (5, .int .i64 x1)]
abbrev fr9 (x0:Int):zb:=za [(5, .int .i64 x0)]
abbrev fr10 (x0:TX) (x1:Int) (x2:Bool):zb:=za [(1, .str x0), (5, .int .i64 x1), (27, .bool x2)]
abbrev fr11 (x0:TX):zb:=za [(0, .str x0)]
abbrev fr12 (x0:Int) (x1:Bool):zb:=za [(2, .int .i64 x0), (3, .bool x1)]
abbrev fr13 (x0:TX) (x1:Int):zb:=za [(0, .str x0), (4, .int .i64 x1)]
abbrev fr14 (x0:TX) (x1 x2 x3:Int):zb:=za [(0, .str x0), (4, .int .i64 x1), (20, .int .i64 x2), (21, .int .i64 x3)]
abbrev fr15 (x0:TX) (x1:Int):zb:=za [(0, .str x0), (1, .int .i64 x1)]
abbrev fr16 (x0:TX) (x1:Sl):zb:=za [(0, .str x0), (4, .slice x1)]
abbrev fr17 (x0:TX) (x1:Sl) (x2:Int):zb:=za [(0, .str x0), (4, .slice x1), (5, .int .i64 x2)]
abbrev fr18 (x0:Int):zb:=za [(6, .int .i64 x0)]
abbrev fr19 (x0:Int):zb:=za [(8, .int .i64 x0)]
abbrev fr20 (x0:Sl):zb:=za [(4, .slice x0)]
abbrev fr21 (x0 x1:Int):zb:=za [(2, .int .i64 x0), (3, .int .i64 x1)]
abbrev fr22 (x0:Int):zb:=za [(0, .int .i64 x0)]
abbrev fr23 (x0:TX):zb:=za [(2, .str x0)]
abbrev fr24 (x0:Sl) (x1:Int):zb:=za [(0, .slice x0), (1, .int .u64 x1)]
abbrev fr25 (x0:Sl) (x1 x2:Int):zb:=za [(0, .slice x0), (1, .int .u64 x1), (4, .int .i64 x2)]
abbrev fr26 (x0:Sl) (x1 x2:Int):zb:=za [(0, .slice x0), (1, .int .u64 x1), (2, .int .i64 x2)]
abbrev fr27 (x0:Sl):zb:=za [(6, .slice x0)]
abbrev fr28 (x0:Sl) (x1 x2:Int):zb:=za [(0, .slice x0), (1, .int .i64 x1), (2, .int .i64 x2)]
abbrev fr29 (x0:Sl):zb:=za [(5, .slice x0)]
abbrev fr30 (x0:Bool):zb:=za [(0, .bool x0)]
abbrev fr31 (x0 x1:Int):zb:=za [(0, .int .i64 x0), (1, .int .i64 x1)]
abbrev fr32 (x0:Bool):zb:=za [(6, .bool x0)]
abbrev fr33 (x0:Sl) (x1 x2:Int) (x3:TX) (x4:Int):zb:=za [(9, .slice x0), (12, .int .i64 x1), (13, .int .i64 x2), (14, .str x3), (15, .int .i64 x4)]
abbrev fr34 (x0:Sl) (x1 x2:Int) (x3:TX) (x4 x5:Int):zb:=za [(9, .slice x0), (12, .int .i64 x1), (13, .int .i64 x2), (14, .str x3), (15, .int .i64 x4), (16, .int .i64 x5)]
abbrev fr35 (x0:TX) (x1:Int):zb:=za [(14, .str x0), (15, .int .i64 x1)]
section
variable {α:Type}
open Go.Proofs
def opAt (f:Func) (id i:Nat):Oper:=(zd f id).getD i default
def lit0:TX:=[48, 49, 50, 51, 52, 53, 54, 55, 56, 57, 97, 98, 99, 100, 101, 102, 103, 104, 105, 106, 107, 108, 109, 110, 111, 112, 113, 114, 115, 116, 117, 118, 119, 120, 121, 122]
def lit1:TX:=[48, 48, 48, 49, 48, 50, 48, 51, 48, 52, 48, 53, 48, 54, 48, 55, 48, 56, 48, 57, 49, 48, 49, 49, 49, 50, 49, 51, 49, 52, 49, 53, 49, 54, 49, 55, 49, 56, 49, 57, 50, 48, 50, 49, 50, 50, 50, 51, 50, 52, 50, 53, 50, 54, 50, 55, 50, 56, 50, 57, 51, 48, 51, 49, 51, 50, 51, 51, 51, 52, 51, 53, 51, 54, 51, 55, 51, 56, 51, 57, 52, 48, 52, 49, 52, 50, 52, 51, 52, 52, 52, 53, 52, 54, 52, 55, 52, 56, 52, 57, 53, 48, 53, 49, 53, 50, 53, 51, 53, 52, 53, 53, 53, 54, 53, 55, 53, 56, 53, 57, 54, 48, 54, 49, 54, 50, 54, 51, 54, 52, 54, 53, 54, 54, 54, 55, 54, 56, 54, 57, 55, 48, 55, 49, 55, 50, 55, 51, 55, 52, 55, 53, 55, 54, 55, 55, 55, 56, 55, 57, 56, 48, 56, 49, 56, 50, 56, 51, 56, 52, 56, 53, 56, 54, 56, 55, 56, 56, 56, 57, 57, 48, 57, 49, 57, 50, 57, 51, 57, 52, 57, 53, 57, 54, 57, 55, 57, 56, 57, 57]
def lit2:TX:=[103, 97, 109, 101, 32, 51, 10, 48, 32, 48, 32, 49, 32, 58, 32, 49, 32, 50, 10, 49, 32, 49, 32, 52, 32, 58, 32, 48, 10, 50, 32, 49, 32, 55, 32, 58, 32, 48, 32, 50, 10]
noncomputable def qae.f:Nat->TX->Int->(Int->M α)->M α
 | 0, _, _, _=>fail
 | _ + 1, s, c, ret=>ret (indexByte s c)
noncomputable def qac.f:Nat->V->V->(Bool->M α)->M α
 | 0, _, _, _=>fail
 | _ + 1, e, t, ret=>zjn 56 71 e t ret
noncomputable def qab.f:Nat->Int->(Int->M α)->M α
 | 0, _, _=>fail
 | _ + 1, x, ret=>need (decide (1≤x) && decide (x < 18446744073709551616)) (ret (Lib.nDigits x.toNat))
noncomputable def qad.f (_:Nat) (_:Sl) (_ _:Int) (_ _:Bool) (_:Sl->TX->M α):M α:=fail
noncomputable def qaa.u1.f (k:Nat) (x0:TX) (x1:Int) (kr:Int->M α):M α:=
 qae.f k x0 x1 fun r4=>
 kr r4
noncomputable def qaa.u1.c:IC:=(.seq (.ops 0 (zd Tryd.f51 0)) (.seq (.ops 1 (zd Tryd.f51 1)) (.ret [4])))
noncomputable def qaa.f:Nat->TX->Int->(Int->M α)->M α
 | 0, _, _, _=>fail
 | k + 1, x0, x1, ret=>
  qaa.u1.f k x0 x1 (fun y0=>
   ret y0)
noncomputable def qz.u1.f (k:Nat) (x0:TX) (x1:Int) (kr:Int->M α):M α:=
 qaa.f k x0 x1 fun r4=>
 kr r4
noncomputable def qz.u1.c:IC:=(.seq (.ops 0 (zd Tryd.f40 0)) (.seq (.ops 1 (zd Tryd.f40 1)) (.ret [4])))
noncomputable def qz.f:Nat->TX->Int->(Int->M α)->M α
 | 0, _, _, _=>fail
 | k + 1, x0, x1, ret=>
  qz.u1.f k x0 x1 (fun y0=>
   ret y0)
noncomputable def qw.u1.f (k:Nat) (x0:Int) (kr:Int->M α):M α:=
 cond (decide (x0 = 10)) (
  kr 1) (
  cond (decide (97≤x0)) (
   cond (decide (x0≤122)) (
    kr 2) (
    cond (decide (65≤x0)) (
     cond (decide (x0≤90)) (
      kr 3) (
      cond (decide (48≤x0)) (
       cond (decide (x0≤57)) (
        kr 4) (
        cond (decide (32 < x0)) (
         cond (decide (x0 < 127)) (
          cond (!(decide (x0 = 95))) (
           kr 5) (
           kr 0)) (
          kr 0)) (
         kr 0))) (
       cond (decide (32 < x0)) (
        cond (decide (x0 < 127)) (
         cond (!(decide (x0 = 95))) (
          kr 5) (
          kr 0)) (
         kr 0)) (
        kr 0)))) (
     cond (decide (48≤x0)) (
      cond (decide (x0≤57)) (
       kr 4) (
       cond (decide (32 < x0)) (
        cond (decide (x0 < 127)) (
         cond (!(decide (x0 = 95))) (
          kr 5) (
          kr 0)) (
         kr 0)) (
        kr 0))) (
      cond (decide (32 < x0)) (
       cond (decide (x0 < 127)) (
        cond (!(decide (x0 = 95))) (
         kr 5) (
         kr 0)) (
        kr 0)) (
       kr 0))))) (
   cond (decide (65≤x0)) (
    cond (decide (x0≤90)) (
     kr 3) (
     cond (decide (48≤x0)) (
      cond (decide (x0≤57)) (
       kr 4) (
       cond (decide (32 < x0)) (
        cond (decide (x0 < 127)) (
         cond (!(decide (x0 = 95))) (
          kr 5) (
          kr 0)) (
         kr 0)) (
        kr 0))) (
      cond (decide (32 < x0)) (
       cond (decide (x0 < 127)) (
        cond (!(decide (x0 = 95))) (
         kr 5) (
         kr 0)) (
        kr 0)) (
       kr 0)))) (
    cond (decide (48≤x0)) (
     cond (decide (x0≤57)) (
      kr 4) (
      cond (decide (32 < x0)) (
       cond (decide (x0 < 127)) (
        cond (!(decide (x0 = 95))) (
         kr 5) (
         kr 0)) (
        kr 0)) (
       kr 0))) (
     cond (decide (32 < x0)) (
      cond (decide (x0 < 127)) (
       cond (!(decide (x0 = 95))) (
        kr 5) (
        kr 0)) (
       kr 0)) (
      kr 0)))))
noncomputable def qw.u1.c:IC:=(.seq (.ops 0 (zd Tryd.f52 0)) (.seq (.block 0 (.seq (.ops 1 (zd Tryd.f52 1)) (.cond (.tmp 3) (.seq (.ops 2 (zd Tryd.f52 2)) (.ret [2])) (.seq (.ops 3 (zd Tryd.f52 3)) (.cond (.tmp 6) (.seq (.ops 4 (zd Tryd.f52 4)) (.ret [2])) (.seq (.ops 5 (zd Tryd.f52 5)) (.cond (.tmp 13) (.seq (.ops 6 (zd Tryd.f52 6)) (.ret [2])) (.seq (.ops 7 (zd Tryd.f52 7)) (.cond (.tmp 20) (.seq (.ops 8 (zd Tryd.f52 8)) (.ret [2])) (.seq (.ops 9 (zd Tryd.f52 9)) (.cond (.tmp 27) (.seq (.ops 10 (zd Tryd.f52 10)) (.ret [2])) .skip))))))))))) (.seq (.ops 11 (zd Tryd.f52 11)) (.ret [2]))))
noncomputable def qw.f:Nat->Int->(Int->M α)->M α
 | 0, _, _=>fail
 | k + 1, x0, ret=>
  qw.u1.f k x0 (fun y0=>
   ret y0)
noncomputable def qb.u1.f (k:Nat) (x0:Int) (x1:TX) (kn:Int->TX->Int->M α):M α:=
 kn x0 x1 1
noncomputable def qb.u1.c (R:IC):IC:=(.seq (.ops 0 (zd Tryd.f53 0)) (.seq (.cut [0, 1, 5] (.ops 1 (zd Tryd.f53 1))) R))
noncomputable def qb.u2.f (k:Nat) (x0:Int) (x1:TX) (x2:Int) (kn:TX->Int->Int->M α):M α:=
 kn x1 x2 x0
noncomputable def qb.u2.c (R:IC):IC:=(.seq (.cut [1, 5, 6] (.ops 2 (zd Tryd.f53 2))) R)
noncomputable def qb.u3.f (k:Nat) (x0:TX) (x1 x2:Int) (kn:TX->Int->Int->Bool->M α):M α:=
 kn x0 x1 x2 (decide (x2 = 4))
noncomputable def qb.u3.c (R:IC):IC:=(.seq (.cut [1, 5, 6, 7] (.ops 3 (zd Tryd.f53 3))) R)
noncomputable def qb.u4.f (k:Nat) (x0:TX) (x1:Int) (kn:TX->Int->M α) (kx1:Int->M α):M α:=
 cond (decide (x1 < (x0.length:Int))) (
  idxStr x0 x1 fun c4=>
  cond (decide (48≤c4)) (
   idxStr x0 x1 fun c5=>
   cond (decide (c5≤57)) (
    kn x0 (w64 (x1 + 1))) (
    kx1 x1)) (
   kx1 x1)) (
  kx1 x1)
noncomputable def qb.u4.c:IC:=(.seq (.seq (.ops 4 (zd Tryd.f53 4)) (.cond (.tmp 24) .skip (.exit 1 [5]))) (.cut [1, 5] (.block 2 (.ops 5 (zd Tryd.f53 5)))))
noncomputable def qb.u5.l (k:Nat) (kx1:Int->M α):Nat->TX->Int->M α
 | 0, _, _=>fail
 | j + 1, x0, x1=>
  qb.u4.f k x0 x1 (fun y0 y1=>qb.u5.l k kx1 j y0 y1) kx1
noncomputable abbrev qb.u5.f (k:Nat) (x0:TX) (x1 x2:Int) (x3:Bool) (kx1:Int->M α):M α:=
 qb.u5.l k kx1 k x0 x1
noncomputable def qb.u5.c:IC:=.loop [1, 5] qb.u4.c
noncomputable abbrev qb.u6.f (k:Nat) (x0:TX) (x1 x2:Int) (x3:Bool) (kn:Int->M α):M α:=
 qb.u5.f k x0 x1 x2 x3 (fun y0=>kn y0)
noncomputable def qb.u6.c:IC:=.block 1 qb.u5.c
noncomputable def qb.u7.f (k:Nat) (x0:TX) (x1 x2:Int) (x3:Bool) (kn:TX->Int->Bool->M α):M α:=
 cond (decide (x2 = 2)) (
  kn x0 x1 (decide (x2 = 2))) (
  kn x0 x1 (decide (x2 = 3)))
noncomputable def qb.u7.c (R:IC):IC:=(.seq (.cut [1, 5, 27] (.seq (.ops 6 (zd Tryd.f53 6)) (.cond (.tmp 27) .skip (.ops 7 (zd Tryd.f53 7))))) R)
noncomputable def qb.u8.f (k:Nat) (x0:TX) (x1:Int) (kn:TX->Int->M α) (kx3:Int->M α):M α:=
 cond (decide (x1 < (x0.length:Int))) (
  idxStr x0 x1 fun c4=>
  cond (decide (c4 = 95)) (
   kn x0 (w64 (x1 + 1))) (
   idxStr x0 x1 fun c5=>
   cond (decide (97≤c5)) (
    idxStr x0 x1 fun c6=>
    cond (decide (c6≤122)) (
     kn x0 (w64 (x1 + 1))) (
     idxStr x0 x1 fun c7=>
     cond (decide (65≤c7)) (
      idxStr x0 x1 fun c8=>
      cond (decide (c8≤90)) (
       kn x0 (w64 (x1 + 1))) (
       idxStr x0 x1 fun c9=>
       cond (decide (48≤c9)) (
        idxStr x0 x1 fun c10=>
        cond (decide (c10≤57)) (
         kn x0 (w64 (x1 + 1))) (
         kx3 x1)) (
        kx3 x1))) (
      idxStr x0 x1 fun c11=>
      cond (decide (48≤c11)) (
       idxStr x0 x1 fun c12=>
       cond (decide (c12≤57)) (
        kn x0 (w64 (x1 + 1))) (
        kx3 x1)) (
       kx3 x1)))) (
    idxStr x0 x1 fun c13=>
    cond (decide (65≤c13)) (
     idxStr x0 x1 fun c14=>
     cond (decide (c14≤90)) (
      kn x0 (w64 (x1 + 1))) (
      idxStr x0 x1 fun c15=>
      cond (decide (48≤c15)) (
       idxStr x0 x1 fun c16=>
       cond (decide (c16≤57)) (
        kn x0 (w64 (x1 + 1))) (
        kx3 x1)) (
       kx3 x1))) (
     idxStr x0 x1 fun c17=>
     cond (decide (48≤c17)) (
      idxStr x0 x1 fun c18=>
      cond (decide (c18≤57)) (
       kn x0 (w64 (x1 + 1))) (
       kx3 x1)) (
      kx3 x1))))) (
  kx3 x1)
noncomputable def qb.u8.c:IC:=(.seq (.seq (.ops 8 (zd Tryd.f53 8)) (.cond (.tmp 75) .skip (.exit 3 [5]))) (.cut [1, 5] (.block 4 (.ops 9 (zd Tryd.f53 9)))))
noncomputable def qb.u9.l (k:Nat) (kx3:Int->M α):Nat->TX->Int->M α
 | 0, _, _=>fail
 | j + 1, x0, x1=>
  qb.u8.f k x0 x1 (fun y0 y1=>qb.u9.l k kx3 j y0 y1) kx3
noncomputable abbrev qb.u9.f (k:Nat) (x0:TX) (x1:Int) (x2:Bool) (kx3:Int->M α):M α:=
 qb.u9.l k kx3 k x0 x1
noncomputable def qb.u9.c:IC:=.loop [1, 5] qb.u8.c
noncomputable abbrev qb.u10.f (k:Nat) (x0:TX) (x1:Int) (x2:Bool) (kn:Int->M α):M α:=
 qb.u9.f k x0 x1 x2 (fun y0=>kn y0)
noncomputable def qb.u10.c:IC:=.block 3 qb.u9.c
noncomputable def qb.u11.f (k:Nat) (x0:TX) (x1:Int) (x2:Bool) (kn:Int->M α):M α:=
 kn x1
noncomputable def qb.u11.c:IC:=(.cut [5] .skip)
noncomputable abbrev qb.u12.f (k:Nat) (x0:TX) (x1:Int) (x2:Bool) (kn:Int->M α):M α:=
 cond x2 (
  qb.u10.f k x0 x1 x2 kn) (
  qb.u11.f k x0 x1 x2 kn)
noncomputable def qb.u12.c:IC:=.cond (.tmp 27) qb.u10.c qb.u11.c
noncomputable abbrev qb.u13.f (k:Nat) (x0:TX) (x1 x2:Int) (x3:Bool) (kn:Int->M α):M α:=
 qb.u7.f k x0 x1 x2 x3 (fun y0 y1 y2=>qb.u12.f k y0 y1 y2 kn)
noncomputable def qb.u13.c:IC:=qb.u7.c qb.u12.c
noncomputable abbrev qb.u14.f (k:Nat) (x0:TX) (x1 x2:Int) (x3:Bool) (kn:Int->M α):M α:=
 cond x3 (
  qb.u6.f k x0 x1 x2 x3 kn) (
  qb.u13.f k x0 x1 x2 x3 kn)
noncomputable def qb.u14.c:IC:=.cond (.tmp 7) qb.u6.c qb.u13.c
noncomputable abbrev qb.u15.f (k:Nat) (x0:TX) (x1 x2:Int) (kn:Int->M α):M α:=
 qb.u3.f k x0 x1 x2 (fun y0 y1 y2 y3=>qb.u14.f k y0 y1 y2 y3 kn)
noncomputable def qb.u15.c:IC:=qb.u3.c qb.u14.c
noncomputable abbrev qb.u16.f (k:Nat) (x0:TX) (x1 x2:Int) (kn:Int->M α):M α:=
 qb.u15.f k x0 x1 x2 (fun y0=>kn y0)
noncomputable def qb.u16.c:IC:=.block 0 qb.u15.c
noncomputable abbrev qb.u17.f (k:Nat) (x0:Int) (x1:TX) (x2:Int) (kn:Int->M α):M α:=
 qb.u2.f k x0 x1 x2 (fun y0 y1 y2=>qb.u16.f k y0 y1 y2 kn)
noncomputable def qb.u17.c:IC:=qb.u2.c qb.u16.c
noncomputable def qb.u18.f (k:Nat) (x0:Int) (kr:Int->M α):M α:=
 kr x0
noncomputable def qb.u18.c:IC:=(.seq (.ops 10 (zd Tryd.f53 10)) (.ret [4]))
noncomputable abbrev qb.u19.f (k:Nat) (x0:Int) (x1:TX) (x2:Int) (kr:Int->M α):M α:=
 qb.u17.f k x0 x1 x2 (fun y0=>qb.u18.f k y0 kr)
noncomputable def qb.u19.c:IC:=(.seq qb.u17.c qb.u18.c)
noncomputable abbrev qb.u20.f (k:Nat) (x0:Int) (x1:TX) (kr:Int->M α):M α:=
 qb.u1.f k x0 x1 (fun y0 y1 y2=>qb.u19.f k y0 y1 y2 kr)
noncomputable def qb.u20.c:IC:=qb.u1.c qb.u19.c
noncomputable def qb.f:Nat->Int->TX->(Int->M α)->M α
 | 0, _, _, _=>fail
 | k + 1, x0, x1, ret=>
  qb.u20.f k x0 x1 (fun y0=>
   ret y0)
noncomputable def qh.u1.f (k:Nat) (x0:TX) (kn:TX->M α) (kr:Int->Bool->M α):M α:=
 cond (decide (4 < (x0.length:Int))) (
  kr 0 false) (
  cond (decide (1 < (x0.length:Int))) (
   idxStr x0 0 fun c3=>
   cond (decide (c3 = 48)) (
    kr 0 false) (
    kn x0)) (
   kn x0))
noncomputable def qh.u1.c (R:IC):IC:=(.seq (.ops 0 (zd Tryd.f54 0)) (.seq (.cut [0] (.seq (.ops 1 (zd Tryd.f54 1)) (.cond (.tmp 18) (.seq (.ops 2 (zd Tryd.f54 2)) (.ret [2, 3])) .skip))) R))
noncomputable def qh.u2.f (k:Nat) (x0:TX) (kn:TX->Int->M α):M α:=
 kn x0 0
noncomputable def qh.u2.c (R:IC):IC:=(.seq (.cut [0, 4] (.ops 3 (zd Tryd.f54 3))) R)
noncomputable def qh.u3.f (k:Nat) (x0:TX) (x1:Int) (kn:TX->Int->Int->Int->M α):M α:=
 kn x0 x1 (x0.length:Int) 0
noncomputable def qh.u3.c (R:IC):IC:=(.seq (.cut [0, 4, 20, 21] (.ops 4 (zd Tryd.f54 4))) R)
noncomputable def qh.u4.f (k:Nat) (x0:TX) (x1 x2 x3:Int) (kn:TX->Int->Int->Int->M α) (kx0:Int->M α):M α:=
 cond (decide (x3 < x2)) (
  idxStr x0 x3 fun c6=>
  kn x0 (w64 ((w64 (10 * x1)) + (w64 (IntKind.wrap .u8 (c6 - 48))))) x2 (w64 (x3 + 1))) (
  kx0 x1)
noncomputable def qh.u4.c:IC:=(.seq (.ops 5 (zd Tryd.f54 5)) (.seq (.cond (.tmp 22) .skip (.exit 0 [4])) (.seq (.block 1 (.seq (.ops 6 (zd Tryd.f54 6)) (.ops 7 (zd Tryd.f54 7)))) (.cut [0, 4, 20, 21] (.ops 8 (zd Tryd.f54 8))))))
noncomputable def qh.u5.l (k:Nat) (kx0:Int->M α):Nat->TX->Int->Int->Int->M α
 | 0, _, _, _, _=>fail
 | j + 1, x0, x1, x2, x3=>
  qh.u4.f k x0 x1 x2 x3 (fun y0 y1 y2 y3=>qh.u5.l k kx0 j y0 y1 y2 y3) kx0
noncomputable abbrev qh.u5.f (k:Nat) (x0:TX) (x1 x2 x3:Int) (kx0:Int->M α):M α:=
 qh.u5.l k kx0 k x0 x1 x2 x3
noncomputable def qh.u5.c:IC:=.loop [0, 4, 20, 21] qh.u4.c
noncomputable abbrev qh.u6.f (k:Nat) (x0:TX) (x1 x2 x3:Int) (kn:Int->M α):M α:=
 qh.u5.f k x0 x1 x2 x3 (fun y0=>kn y0)
noncomputable def qh.u6.c:IC:=.block 0 qh.u5.c
noncomputable abbrev qh.u7.f (k:Nat) (x0:TX) (x1:Int) (kn:Int->M α):M α:=
 qh.u3.f k x0 x1 (fun y0 y1 y2 y3=>qh.u6.f k y0 y1 y2 y3 kn)
noncomputable def qh.u7.c:IC:=qh.u3.c qh.u6.c
noncomputable def qh.u8.f (k:Nat) (x0:Int) (kr:Int->Bool->M α):M α:=
 kr x0 (decide (x0≤9999))
noncomputable def qh.u8.c:IC:=(.seq (.ops 9 (zd Tryd.f54 9)) (.ret [2, 3]))
noncomputable abbrev qh.u9.f (k:Nat) (x0:TX) (x1:Int) (kr:Int->Bool->M α):M α:=
 qh.u7.f k x0 x1 (fun y0=>qh.u8.f k y0 kr)
noncomputable def qh.u9.c:IC:=(.seq qh.u7.c qh.u8.c)
noncomputable abbrev qh.u10.f (k:Nat) (x0:TX) (kr:Int->Bool->M α):M α:=
 qh.u2.f k x0 (fun y0 y1=>qh.u9.f k y0 y1 kr)
noncomputable def qh.u10.c:IC:=qh.u2.c qh.u9.c
noncomputable abbrev qh.u11.f (k:Nat) (x0:TX) (kr:Int->Bool->M α):M α:=
 qh.u1.f k x0 (fun y0=>qh.u10.f k y0 kr) kr
noncomputable def qh.u11.c:IC:=qh.u1.c qh.u10.c
noncomputable def qh.f:Nat->TX->(Int->Bool->M α)->M α
 | 0, _, _=>fail
 | k + 1, x0, ret=>
  qh.u11.f k x0 (fun y0 y1=>
   ret y0 y1)
noncomputable def qx.u1.f (k:Nat) (x0:TX) (x1:Int) (kr:Ad->Int->M α):M α:=
 new [.int .i64 0, .int .i64 0, .str [], .int .i64 0] fun x4=>
 idxStr x0 x1 fun c5=>
 qw.f k c5 fun r6=>
 new [.int .i64 0, .int .i64 0, .str [], .int .i64 0] fun t7=>
 st1 (t7.add 0) (.int .i64 r6) <|
 st1 (t7.add 1) (.int .i64 x1) <|
 st1 (t7.add 2) (.str []) <|
 st1 (t7.add 3) (.int .i64 0) <|
 ldI .i64 ((t7.add 0).add 0) fun x8=>
 cutStr x0 (some x1) none fun x9=>
 qb.f k x8 x9 fun r10=>
 cutStr x0 (some x1) (some (w64 (x1 + r10))) fun x11=>
 st1 ((t7.add 2).add 0) (.str x11) <|
 ldI .i64 ((t7.add 0).add 0) fun x12=>
 cond (decide (x12 = 0)) (
  ldI .i64 (t7.add 0) fun x13=>
  ldI .i64 (t7.add 1) fun x14=>
  ldStr (t7.add 2) fun x15=>
  ldI .i64 (t7.add 3) fun x16=>
  st1 (x4.add 0) (.int .i64 x13) <|
  st1 (x4.add 1) (.int .i64 x14) <|
  st1 (x4.add 2) (.str x15) <|
  st1 (x4.add 3) (.int .i64 x16) <|
  kr x4 3) (
  cond (decide (x12 = 2)) (
   cond (decide (x12 = 2)) (
    ldStr ((t7.add 2).add 0) fun x17=>
    cond (decide (8 < (x17.length:Int))) (
     ldI .i64 (t7.add 0) fun x18=>
     ldI .i64 (t7.add 1) fun x19=>
     ldStr (t7.add 2) fun x20=>
     ldI .i64 (t7.add 3) fun x21=>
     st1 (x4.add 0) (.int .i64 x18) <|
     st1 (x4.add 1) (.int .i64 x19) <|
     st1 (x4.add 2) (.str x20) <|
     st1 (x4.add 3) (.int .i64 x21) <|
     kr x4 5) (
     ldI .i64 (t7.add 0) fun x22=>
     ldI .i64 (t7.add 1) fun x23=>
     ldStr (t7.add 2) fun x24=>
     ldI .i64 (t7.add 3) fun x25=>
     st1 (x4.add 0) (.int .i64 x22) <|
     st1 (x4.add 1) (.int .i64 x23) <|
     st1 (x4.add 2) (.str x24) <|
     st1 (x4.add 3) (.int .i64 x25) <|
     kr x4 0)) (
    cond (decide (x12 = 4)) (
     ldStr ((t7.add 2).add 0) fun x26=>
     qh.f k x26 fun r27 r28=>
     cond (!r28) (
      ldI .i64 (t7.add 0) fun x29=>
      ldI .i64 (t7.add 1) fun x30=>
      ldStr (t7.add 2) fun x31=>
      ldI .i64 (t7.add 3) fun x32=>
      st1 (x4.add 0) (.int .i64 x29) <|
      st1 (x4.add 1) (.int .i64 x30) <|
      st1 (x4.add 2) (.str x31) <|
      st1 (x4.add 3) (.int .i64 x32) <|
      kr x4 4) (
      st1 ((t7.add 3).add 0) (.int .i64 r27) <|
      ldI .i64 (t7.add 0) fun x33=>
      ldI .i64 (t7.add 1) fun x34=>
      ldStr (t7.add 2) fun x35=>
      ldI .i64 (t7.add 3) fun x36=>
      st1 (x4.add 0) (.int .i64 x33) <|
      st1 (x4.add 1) (.int .i64 x34) <|
      st1 (x4.add 2) (.str x35) <|
      st1 (x4.add 3) (.int .i64 x36) <|
      kr x4 0)) (
     ldI .i64 (t7.add 0) fun x37=>
     ldI .i64 (t7.add 1) fun x38=>
     ldStr (t7.add 2) fun x39=>
     ldI .i64 (t7.add 3) fun x40=>
     st1 (x4.add 0) (.int .i64 x37) <|
     st1 (x4.add 1) (.int .i64 x38) <|
     st1 (x4.add 2) (.str x39) <|
     st1 (x4.add 3) (.int .i64 x40) <|
     kr x4 0))) (
   cond (decide (x12 = 3)) (
    ldStr ((t7.add 2).add 0) fun x41=>
    cond (decide (8 < (x41.length:Int))) (
     ldI .i64 (t7.add 0) fun x42=>
     ldI .i64 (t7.add 1) fun x43=>
     ldStr (t7.add 2) fun x44=>
     ldI .i64 (t7.add 3) fun x45=>
     st1 (x4.add 0) (.int .i64 x42) <|
     st1 (x4.add 1) (.int .i64 x43) <|
     st1 (x4.add 2) (.str x44) <|
     st1 (x4.add 3) (.int .i64 x45) <|
     kr x4 5) (
     ldI .i64 (t7.add 0) fun x46=>
     ldI .i64 (t7.add 1) fun x47=>
     ldStr (t7.add 2) fun x48=>
     ldI .i64 (t7.add 3) fun x49=>
     st1 (x4.add 0) (.int .i64 x46) <|
     st1 (x4.add 1) (.int .i64 x47) <|
     st1 (x4.add 2) (.str x48) <|
     st1 (x4.add 3) (.int .i64 x49) <|
     kr x4 0)) (
    cond (decide (x12 = 4)) (
     ldStr ((t7.add 2).add 0) fun x50=>
     qh.f k x50 fun r51 r52=>
     cond (!r52) (
      ldI .i64 (t7.add 0) fun x53=>
      ldI .i64 (t7.add 1) fun x54=>
      ldStr (t7.add 2) fun x55=>
      ldI .i64 (t7.add 3) fun x56=>
      st1 (x4.add 0) (.int .i64 x53) <|
      st1 (x4.add 1) (.int .i64 x54) <|
      st1 (x4.add 2) (.str x55) <|
      st1 (x4.add 3) (.int .i64 x56) <|
      kr x4 4) (
      st1 ((t7.add 3).add 0) (.int .i64 r51) <|
      ldI .i64 (t7.add 0) fun x57=>
      ldI .i64 (t7.add 1) fun x58=>
      ldStr (t7.add 2) fun x59=>
      ldI .i64 (t7.add 3) fun x60=>
      st1 (x4.add 0) (.int .i64 x57) <|
      st1 (x4.add 1) (.int .i64 x58) <|
      st1 (x4.add 2) (.str x59) <|
      st1 (x4.add 3) (.int .i64 x60) <|
      kr x4 0)) (
     ldI .i64 (t7.add 0) fun x61=>
     ldI .i64 (t7.add 1) fun x62=>
     ldStr (t7.add 2) fun x63=>
     ldI .i64 (t7.add 3) fun x64=>
     st1 (x4.add 0) (.int .i64 x61) <|
     st1 (x4.add 1) (.int .i64 x62) <|
     st1 (x4.add 2) (.str x63) <|
     st1 (x4.add 3) (.int .i64 x64) <|
     kr x4 0))))
noncomputable def qx.u1.c:IC:=(.seq (.ops 0 (zd Tryd.f41 0)) (.seq (.ops 1 (zd Tryd.f41 1)) (.seq (.drawn 2 (zd Tryd.f41 2) true [.op 0, .op 1, .op 2, .op 3, .op 4, .op 5, .op 6, .op 7, .op 8, .op 9, .op 10, .op 11, .op 12]) (.seq (.seq (.ops 3 (zd Tryd.f41 3)) (.block 0 (.seq (.ops 4 (zd Tryd.f41 4)) (.cond (.tmp 29) (.seq (.ops 5 (zd Tryd.f41 5)) (.ret [4, 5])) (.seq (.seq (.ops 6 (zd Tryd.f41 6)) (.cond (.tmp 32) .skip (.ops 7 (zd Tryd.f41 7)))) (.cond (.tmp 32) (.seq (.ops 8 (zd Tryd.f41 8)) (.cond (.tmp 38) (.seq (.ops 9 (zd Tryd.f41 9)) (.ret [4, 5])) .skip)) (.seq (.ops 10 (zd Tryd.f41 10)) (.cond (.tmp 40) (.seq (.ops 11 (zd Tryd.f41 11)) (.seq (.seq (.ops 12 (zd Tryd.f41 12)) (.cond (.tmp 49) (.seq (.ops 13 (zd Tryd.f41 13)) (.ret [4, 5])) .skip)) (.ops 14 (zd Tryd.f41 14)))) .skip)))))))) (.seq (.ops 15 (zd Tryd.f41 15)) (.ret [4, 5]))))))
noncomputable def qx.f:Nat->TX->Int->(Int->Int->TX->Int->Int->M α)->M α
 | 0, _, _, _=>fail
 | k + 1, x0, x1, ret=>
  qx.u1.f k x0 x1 (fun y0 y1=>
   ldI .i64 (y0.add 0) fun o501=>
   ldI .i64 (y0.add 1) fun o502=>
   ldStr (y0.add 2) fun o503=>
   ldI .i64 (y0.add 3) fun o504=>
   ret o501 o502 o503 o504 y1)
noncomputable def qi.u1.f (k:Nat) (x0:TX) (kn:TX->Sl->M α) (kr:Sl->Ad->M α):M α:=
 cond (decide (262144 < (x0.length:Int))) (
  new [.int .i64 262144, .int .i64 2] fun x3=>
  kr Sl.nil x3) (
  kn x0 Sl.nil)
noncomputable def qi.u1.c (R:IC):IC:=(.seq (.ops 0 (zd Tryd.f25 0)) (.seq (.seq (.ops 1 (zd Tryd.f25 1)) (.cond (.tmp 12) (.seq (.ops 2 (zd Tryd.f25 2)) (.ret [2, 3])) .skip)) (.seq (.cut [0, 4] (.ops 3 (zd Tryd.f25 3))) R)))
noncomputable def qi.u2.f (k:Nat) (x0:TX) (x1:Sl) (kn:TX->Sl->Int->M α):M α:=
 kn x0 x1 0
noncomputable def qi.u2.c (R:IC):IC:=(.seq (.cut [0, 4, 5] (.ops 4 (zd Tryd.f25 4))) R)
noncomputable def qi.u3.f (k:Nat) (x0:TX) (x1:Sl) (x2:Int) (kn:TX->Sl->Int->M α) (kr:Sl->Ad->M α) (kx0:TX->Sl->M α):M α:=
 cond (decide (x2 < (x0.length:Int))) (
  idxStr x0 x2 fun c5=>
  cond (decide (c5 = 32)) (
   kn x0 x1 (w64 (x2 + 1))) (
   cond (decide (c5 = 9)) (
    kn x0 x1 (w64 (x2 + 1))) (
    cond (decide (c5 = 35)) (
     cutStr x0 (some x2) none fun x6=>
     qz.f k x6 10 fun r7=>
     cond (decide (r7 < 0)) (
      kn x0 x1 (w64 (x2 + (w64 ((x0.length:Int) - x2))))) (
      kn x0 x1 (w64 (x2 + r7)))) (
     qx.f k x0 x2 fun r8 r9 r10 r11 r12=>
     new [.int .i64 0, .int .i64 0, .str [], .int .i64 0] fun t13=>
     st1 (t13.add 0) (.int .i64 r8) <|
     st1 (t13.add 1) (.int .i64 r9) <|
     st1 (t13.add 2) (.str r10) <|
     st1 (t13.add 3) (.int .i64 r11) <|
     cond (!(decide (r12 = 0))) (
      new [.int .i64 x2, .int .i64 r12] fun x14=>
      kr Sl.nil x14) (
      ldI .i64 (t13.add 0) fun x15=>
      ldI .i64 (t13.add 1) fun x16=>
      ldStr (t13.add 2) fun x17=>
      ldI .i64 (t13.add 3) fun x18=>
      new [.int .i64 x15, .int .i64 x16, .str x17, .int .i64 x18] fun r19=>
      jk x1 4 40 (⟨some r19, 1, 1, none⟩:Sl) fun x20=>
      ldStr ((t13.add 2).add 0) fun x21=>
      kn x0 x20 (w64 (x2 + (x21.length:Int)))))))) (
  kx0 x0 x1)
noncomputable def qi.u3.c:IC:=(.seq (.seq (.ops 5 (zd Tryd.f25 5)) (.cond (.tmp 19) .skip (.exit 0 [0, 4]))) (.cut [0, 4, 5] (.block 1 (.seq (.ops 6 (zd Tryd.f25 6)) (.block 2 (.seq (.ops 12 (zd Tryd.f25 12)) (.cond (.tmp 45) (.ops 13 (zd Tryd.f25 13)) (.seq (.ops 14 (zd Tryd.f25 14)) (.cond (.tmp 54) (.seq (.ops 15 (zd Tryd.f25 15)) (.seq (.seq (.ops 16 (zd Tryd.f25 16)) (.cond (.tmp 62) (.ops 17 (zd Tryd.f25 17)) .skip)) (.ops 18 (zd Tryd.f25 18)))) (.seq (.ops 7 (zd Tryd.f25 7)) (.seq (.seq (.ops 8 (zd Tryd.f25 8)) (.cond (.tmp 30) (.seq (.ops 9 (zd Tryd.f25 9)) (.ret [2, 3])) .skip)) (.seq (.ops 10 (zd Tryd.f25 10)) (.ops 11 (zd Tryd.f25 11))))))))))))))
noncomputable def qi.u4.l (k:Nat) (kr:Sl->Ad->M α) (kx0:TX->Sl->M α):Nat->TX->Sl->Int->M α
 | 0, _, _, _=>fail
 | j + 1, x0, x1, x2=>
  qi.u3.f k x0 x1 x2 (fun y0 y1 y2=>qi.u4.l k kr kx0 j y0 y1 y2) kr kx0
noncomputable abbrev qi.u4.f (k:Nat) (x0:TX) (x1:Sl) (x2:Int) (kr:Sl->Ad->M α) (kx0:TX->Sl->M α):M α:=
 qi.u4.l k kr kx0 k x0 x1 x2
noncomputable def qi.u4.c:IC:=.loop [0, 4, 5] qi.u3.c
noncomputable abbrev qi.u5.f (k:Nat) (x0:TX) (x1:Sl) (x2:Int) (kn:TX->Sl->M α) (kr:Sl->Ad->M α):M α:=
 qi.u4.f k x0 x1 x2 kr (fun y0 y1=>kn y0 y1)
noncomputable def qi.u5.c:IC:=.block 0 qi.u4.c
noncomputable abbrev qi.u6.f (k:Nat) (x0:TX) (x1:Sl) (kn:TX->Sl->M α) (kr:Sl->Ad->M α):M α:=
 qi.u2.f k x0 x1 (fun y0 y1 y2=>qi.u5.f k y0 y1 y2 kn kr)
noncomputable def qi.u6.c:IC:=qi.u2.c qi.u5.c
noncomputable def qi.u7.f (k:Nat) (x0:TX) (x1:Sl) (kr:Sl->M α):M α:=
 new [.int .i64 0, .int .i64 (x0.length:Int), .str [], .int .i64 0] fun r4=>
 jk x1 4 40 (⟨some r4, 1, 1, none⟩:Sl) fun x5=>
 kr x5
noncomputable def qi.u7.c:IC:=(.seq (.ops 19 (zd Tryd.f25 19)) (.ret [2, 3]))
noncomputable abbrev qi.u8.f (k:Nat) (x0:TX) (x1:Sl) (kr:Sl->V->M α):M α:=
 qi.u6.f k x0 x1 (fun y0 y1=>qi.u7.f k y0 y1 (fun y0=>kr y0 .nilIface)) (fun y0 y1=>kr y0 (.iface 56 (.ptr (some y1))))
noncomputable def qi.u8.c:IC:=(.seq qi.u6.c qi.u7.c)
noncomputable abbrev qi.u9.f (k:Nat) (x0:TX) (kr:Sl->V->M α):M α:=
 qi.u1.f k x0 (fun y0 y1=>qi.u8.f k y0 y1 kr) (fun y0 y1=>kr y0 (.iface 56 (.ptr (some y1))))
noncomputable def qi.u9.c:IC:=qi.u1.c qi.u8.c
noncomputable def qi.f:Nat->TX->(Sl->V->M α)->M α
 | 0, _, _=>fail
 | k + 1, x0, ret=>
  qi.u9.f k x0 (fun y0 y1=>
   ret y0 y1)
noncomputable def qn.u1.f (k:Nat) (x0:Ad) (kr:Ad->M α):M α:=
 new [.int .i64 0, .int .i64 0, .str [], .int .i64 0] fun x3=>
 ldS ((x0.add 0).add 0) fun x4=>
 idxSl x4 0 4 fun a5=>
 ldI .i64 (a5.add 0) fun x6=>
 ldI .i64 (a5.add 1) fun x7=>
 ldStr (a5.add 2) fun x8=>
 ldI .i64 (a5.add 3) fun x9=>
 st1 (x3.add 0) (.int .i64 x6) <|
 st1 (x3.add 1) (.int .i64 x7) <|
 st1 (x3.add 2) (.str x8) <|
 st1 (x3.add 3) (.int .i64 x9) <|
 kr x3
noncomputable def qn.u1.c:IC:=(.seq (.ops 0 (zd Tryd.f42 0)) (.seq (.ops 1 (zd Tryd.f42 1)) (.ret [2])))
noncomputable def qn.f:Nat->Ad->(Int->Int->TX->Int->M α)->M α
 | 0, _, _=>fail
 | k + 1, x0, ret=>
  qn.u1.f k x0 (fun y0=>
   ldI .i64 (y0.add 0) fun o501=>
   ldI .i64 (y0.add 1) fun o502=>
   ldStr (y0.add 2) fun o503=>
   ldI .i64 (y0.add 3) fun o504=>
   ret o501 o502 o503 o504)
noncomputable def ql.u1.f (k:Nat) (x0:Ad) (kn:Ad->M α) (kx0:M α):M α:=
 qn.f k x0 fun r3 r4 r5 r6=>
 cond (decide (r3 = 1)) (
  ldS ((x0.add 0).add 0) fun x7=>
  cutSl x7 4 (some 1) none none fun x8=>
  st1 ((x0.add 0).add 0) (.slice x8) <|
  kn x0) (
  kx0)
noncomputable def ql.u1.c:IC:=(.seq (.seq (.ops 0 (zd Tryd.f26 0)) (.cond (.tmp 5) .skip (.exit 0 []))) (.cut [0] (.block 1 (.ops 1 (zd Tryd.f26 1)))))
noncomputable def ql.u2.l (k:Nat) (kx0:M α):Nat->Ad->M α
 | 0, _=>fail
 | j + 1, x0=>
  ql.u1.f k x0 (fun y0=>ql.u2.l k kx0 j y0) kx0
noncomputable abbrev ql.u2.f (k:Nat) (x0:Ad) (kx0:M α):M α:=
 ql.u2.l k kx0 k x0
noncomputable def ql.u2.c:IC:=.loop [0] ql.u1.c
noncomputable abbrev ql.u3.f (k:Nat) (x0:Ad) (kn:M α):M α:=
 ql.u2.f k x0 (kn)
noncomputable def ql.u3.c:IC:=.block 0 ql.u2.c
noncomputable def ql.f:Nat->Ad->(M α)->M α
 | 0, _, _=>fail
 | k + 1, x0, ret=>
  ql.u3.f k x0 (ret)
noncomputable def qm.u1.f (k:Nat) (x0:Ad) (x1:Int) (kn:M α):M α:=
 ldP ((x0.add 1).add 0) fun x4=>
 cond (x4.isNone) (
  qn.f k x0 fun r5 r6 r7 r8=>
  new [.int .i64 r6, .int .i64 x1] fun x9=>
  st1 ((x0.add 1).add 0) (.ptr (some x9)) <|
  kn) (
  kn)
noncomputable def qm.u1.c:IC:=(.seq (.ops 0 (zd Tryd.f43 0)) (.cut [] (.cond (.tmp 8) (.ops 1 (zd Tryd.f43 1)) .skip)))
noncomputable def qm.f:Nat->Ad->Int->(M α)->M α
 | 0, _, _, _=>fail
 | k + 1, x0, x1, ret=>
  qm.u1.f k x0 x1 (ret)
noncomputable def qf.u1.f (k:Nat) (x0:Ad) (x1:Int) (x2:TX) (kn:Ad->Int->TX->Ad->M α):M α:=
 qn.f k x0 fun r5 r6 r7 r8=>
 new [.int .i64 0, .int .i64 0, .str [], .int .i64 0] fun t9=>
 st1 (t9.add 0) (.int .i64 r5) <|
 st1 (t9.add 1) (.int .i64 r6) <|
 st1 (t9.add 2) (.str r7) <|
 st1 (t9.add 3) (.int .i64 r8) <|
 kn x0 x1 x2 t9
noncomputable def qf.u1.c (R:IC):IC:=(.seq (.ops 0 (zd Tryd.f27 0)) (.seq (.cut [0, 1, 2, 7] (.ops 1 (zd Tryd.f27 1))) R))
noncomputable def qf.u2.f (k:Nat) (x0:Ad) (x1:Int) (x2:TX) (x3:Ad) (kn:Ad->Int->TX->Ad->Bool->M α):M α:=
 ldP ((x0.add 1).add 0) fun x6=>
 kn x0 x1 x2 x3 (!x6.isNone)
noncomputable def qf.u2.c (R:IC):IC:=(.seq (.cut [0, 1, 2, 7, 12] (.ops 3 (zd Tryd.f27 3))) R)
noncomputable def qf.u3.f (k:Nat) (x0:Ad) (x1:Int) (x2:TX) (x3:Ad) (x4:Bool) (kr:Int->M α):M α:=
 kr 0
noncomputable def qf.u3.c:IC:=(.seq (.ops 4 (zd Tryd.f27 4)) (.ret [6]))
noncomputable def qf.u4.f (k:Nat) (x0:Ad) (x1:Int) (x2:TX) (x3:Ad) (x4:Bool) (kn:Ad->Int->Ad->Bool->M α):M α:=
 ldI .i64 ((x3.add 0).add 0) fun x7=>
 cond (decide (x7 = x1)) (
  cond (decide (x2 = [])) (
   kn x0 x1 x3 true) (
   ldStr ((x3.add 2).add 0) fun x8=>
   kn x0 x1 x3 (decide (x8 = x2)))) (
  kn x0 x1 x3 false)
noncomputable def qf.u4.c (R:IC):IC:=(.seq (.cut [0, 1, 7, 18] (.ops 5 (zd Tryd.f27 5))) R)
noncomputable def qf.u5.f (k:Nat) (x0:Ad) (x1:Int) (x2:Ad) (x3:Bool) (kn:M α) (kr:Int->M α):M α:=
 cond (x3) (
  cond (!(decide (x1 = 0))) (
   ldS ((x0.add 0).add 0) fun x6=>
   cutSl x6 4 (some 1) none none fun x7=>
   st1 ((x0.add 0).add 0) (.slice x7) <|
   ldI .i64 ((x2.add 3).add 0) fun x8=>
   kr x8) (
   ldI .i64 ((x2.add 3).add 0) fun x9=>
   kr x9)) (
  ldI .i64 ((x2.add 0).add 0) fun x10=>
  cond (decide (x10 = 0)) (
   qm.f k x0 6 (
    kn)) (
   qm.f k x0 7 (
    kn)))
noncomputable def qf.u5.c:IC:=(.cut [] (.cond (.tmp 18) (.seq (.seq (.ops 6 (zd Tryd.f27 6)) (.cond (.tmp 34) (.ops 7 (zd Tryd.f27 7)) .skip)) (.seq (.ops 8 (zd Tryd.f27 8)) (.ret [6]))) (.seq (.ops 9 (zd Tryd.f27 9)) (.cond (.tmp 45) (.ops 10 (zd Tryd.f27 10)) (.ops 2 (zd Tryd.f27 2))))))
noncomputable abbrev qf.u6.f (k:Nat) (x0:Ad) (x1:Int) (x2:TX) (x3:Ad) (x4:Bool) (kn:M α) (kr:Int->M α):M α:=
 qf.u4.f k x0 x1 x2 x3 x4 (fun y0 y1 y2 y3=>qf.u5.f k y0 y1 y2 y3 kn kr)
noncomputable def qf.u6.c:IC:=qf.u4.c qf.u5.c
noncomputable abbrev qf.u7.f (k:Nat) (x0:Ad) (x1:Int) (x2:TX) (x3:Ad) (x4:Bool) (kn:M α) (kr:Int->M α):M α:=
 cond x4 (
  qf.u3.f k x0 x1 x2 x3 x4 kr) (
  qf.u6.f k x0 x1 x2 x3 x4 kn kr)
noncomputable def qf.u7.c:IC:=.cond (.tmp 12) qf.u3.c qf.u6.c
noncomputable abbrev qf.u8.f (k:Nat) (x0:Ad) (x1:Int) (x2:TX) (x3:Ad) (kn:M α) (kr:Int->M α):M α:=
 qf.u2.f k x0 x1 x2 x3 (fun y0 y1 y2 y3 y4=>qf.u7.f k y0 y1 y2 y3 y4 kn kr)
noncomputable def qf.u8.c:IC:=qf.u2.c qf.u7.c
noncomputable abbrev qf.u9.f (k:Nat) (x0:Ad) (x1:Int) (x2:TX) (x3:Ad) (kn:M α) (kr:Int->M α):M α:=
 qf.u8.f k x0 x1 x2 x3 (kn) kr
noncomputable def qf.u9.c:IC:=.block 0 qf.u8.c
noncomputable def qf.u10.f (k:Nat) (kr:Int->M α):M α:=
 kr 0
noncomputable def qf.u10.c:IC:=(.seq (.ops 11 (zd Tryd.f27 11)) (.ret [6]))
noncomputable abbrev qf.u11.f (k:Nat) (x0:Ad) (x1:Int) (x2:TX) (x3:Ad) (kr:Int->M α):M α:=
 qf.u9.f k x0 x1 x2 x3 (qf.u10.f k kr) kr
noncomputable def qf.u11.c:IC:=(.seq qf.u9.c qf.u10.c)
noncomputable abbrev qf.u12.f (k:Nat) (x0:Ad) (x1:Int) (x2:TX) (kr:Int->M α):M α:=
 qf.u1.f k x0 x1 x2 (fun y0 y1 y2 y3=>qf.u11.f k y0 y1 y2 y3 kr)
noncomputable def qf.u12.c:IC:=qf.u1.c qf.u11.c
noncomputable def qf.f:Nat->Ad->Int->TX->(Int->M α)->M α
 | 0, _, _, _, _=>fail
 | k + 1, x0, x1, x2, ret=>
  qf.u12.f k x0 x1 x2 (fun y0=>
   ret y0)
noncomputable def qo.u1.f (k:Nat) (x0:Ad) (x1 x2 x3:Int) (kr:Int->M α):M α:=
 qn.f k x0 fun r6 r7 r8 r9=>
 new [.int .i64 0, .int .i64 0, .str [], .int .i64 0] fun t10=>
 st1 (t10.add 0) (.int .i64 r6) <|
 st1 (t10.add 1) (.int .i64 r7) <|
 st1 (t10.add 2) (.str r8) <|
 st1 (t10.add 3) (.int .i64 r9) <|
 ldI .i64 ((t10.add 0).add 0) fun x11=>
 cond (decide (x11 = 4)) (
  ldI .i64 ((t10.add 3).add 0) fun x12=>
  cond (decide (x12 < x1)) (
   qm.f k x0 x3 (
    qf.f k x0 4 [] fun r13=>
    kr r13)) (
   ldI .i64 ((t10.add 3).add 0) fun x14=>
   cond (decide (x2 < x14)) (
    qm.f k x0 x3 (
     qf.f k x0 4 [] fun r15=>
     kr r15)) (
    qf.f k x0 4 [] fun r16=>
    kr r16))) (
  qf.f k x0 4 [] fun r17=>
  kr r17)
noncomputable def qo.u1.c:IC:=(.seq (.ops 0 (zd Tryd.f28 0)) (.seq (.seq (.ops 1 (zd Tryd.f28 1)) (.seq (.ops 2 (zd Tryd.f28 2)) (.cond (.tmp 26) (.ops 3 (zd Tryd.f28 3)) .skip))) (.seq (.ops 4 (zd Tryd.f28 4)) (.ret [8]))))
noncomputable def qo.f:Nat->Ad->Int->Int->Int->(Int->M α)->M α
 | 0, _, _, _, _, _=>fail
 | k + 1, x0, x1, x2, x3, ret=>
  qo.u1.f k x0 x1 x2 x3 (fun y0=>
   ret y0)
noncomputable def qr.u1.f (k:Nat) (x0:Ad) (kn:M α):M α:=
 qn.f k x0 fun r3 r4 r5 r6=>
 cond (!(decide (r3 = 0))) (
  qf.f k x0 1 [] fun r7=>
  kn) (
  kn)
noncomputable def qr.u1.c:IC:=(.seq (.ops 0 (zd Tryd.f29 0)) (.cut [] (.cond (.tmp 5) (.ops 1 (zd Tryd.f29 1)) .skip)))
noncomputable def qr.f:Nat->Ad->(M α)->M α
 | 0, _, _=>fail
 | k + 1, x0, ret=>
  qr.u1.f k x0 (ret)
noncomputable def qk.u1.f (k:Nat) (x0:Ad) (x1:Int) (kn:Ad->Int->Sl->Int->M α):M α:=
 kn x0 x1 Sl.nil (-1)
noncomputable def qk.u1.c (R:IC):IC:=(.seq (.ops 0 (zd Tryd.f30 0)) (.seq (.ops 1 (zd Tryd.f30 1)) (.seq (.cut [0, 1, 5, 6] (.ops 2 (zd Tryd.f30 2))) R)))
noncomputable def qk.u2.f (k:Nat) (x0:Ad) (x1:Int) (x2:Sl) (x3:Int) (kn:Ad->Int->Sl->Int->M α) (kx0:Ad->Sl->M α):M α:=
 ldP ((x0.add 1).add 0) fun x6=>
 cond (x6.isNone) (
  qn.f k x0 fun r7 r8 r9 r10=>
  cond (decide (r7 = 4)) (
   qo.f k x0 (w64 (x3 + 1)) (w64 (x1 - 1)) 16 fun r11=>
   new [.int .i64 r11] fun r12=>
   jk x2 1 8 (⟨some r12, 1, 1, none⟩:Sl) fun x13=>
   kn x0 x1 x13 r11) (
   kx0 x0 x2)) (
  kx0 x0 x2)
noncomputable def qk.u2.c:IC:=(.seq (.seq (.ops 3 (zd Tryd.f30 3)) (.cond (.tmp 18) .skip (.exit 0 [0, 5]))) (.cut [0, 1, 5, 6] (.block 1 (.seq (.ops 4 (zd Tryd.f30 4)) (.ops 5 (zd Tryd.f30 5))))))
noncomputable def qk.u3.l (k:Nat) (kx0:Ad->Sl->M α):Nat->Ad->Int->Sl->Int->M α
 | 0, _, _, _, _=>fail
 | j + 1, x0, x1, x2, x3=>
  qk.u2.f k x0 x1 x2 x3 (fun y0 y1 y2 y3=>qk.u3.l k kx0 j y0 y1 y2 y3) kx0
noncomputable abbrev qk.u3.f (k:Nat) (x0:Ad) (x1:Int) (x2:Sl) (x3:Int) (kx0:Ad->Sl->M α):M α:=
 qk.u3.l k kx0 k x0 x1 x2 x3
noncomputable def qk.u3.c:IC:=.loop [0, 1, 5, 6] qk.u2.c
noncomputable abbrev qk.u4.f (k:Nat) (x0:Ad) (x1:Int) (x2:Sl) (x3:Int) (kn:Ad->Sl->M α):M α:=
 qk.u3.f k x0 x1 x2 x3 (fun y0 y1=>kn y0 y1)
noncomputable def qk.u4.c:IC:=.block 0 qk.u3.c
noncomputable def qk.u5.f (k:Nat) (x0:Ad) (x1:Sl) (kr:Sl->M α):M α:=
 qn.f k x0 fun r4 r5 r6 r7=>
 cond (decide ((x1.len:Int) = 0)) (
  cond (decide (r4 = 1)) (
   qm.f k x0 17 (
    kr x1)) (
   cond (decide (r4 = 0)) (
    qm.f k x0 17 (
     kr x1)) (
    kr x1))) (
  kr x1)
noncomputable def qk.u5.c:IC:=(.seq (.seq (.ops 6 (zd Tryd.f30 6)) (.seq (.ops 7 (zd Tryd.f30 7)) (.cond (.tmp 42) (.ops 8 (zd Tryd.f30 8)) .skip))) (.seq (.ops 9 (zd Tryd.f30 9)) (.ret [4])))
noncomputable abbrev qk.u6.f (k:Nat) (x0:Ad) (x1:Int) (x2:Sl) (x3:Int) (kr:Sl->M α):M α:=
 qk.u4.f k x0 x1 x2 x3 (fun y0 y1=>qk.u5.f k y0 y1 kr)
noncomputable def qk.u6.c:IC:=(.seq qk.u4.c qk.u5.c)
noncomputable abbrev qk.u7.f (k:Nat) (x0:Ad) (x1:Int) (kr:Sl->M α):M α:=
 qk.u1.f k x0 x1 (fun y0 y1 y2 y3=>qk.u6.f k y0 y1 y2 y3 kr)
noncomputable def qk.u7.c:IC:=qk.u1.c qk.u6.c
noncomputable def qk.f:Nat->Ad->Int->(Sl->M α)->M α
 | 0, _, _, _=>fail
 | k + 1, x0, x1, ret=>
  qk.u7.f k x0 x1 (fun y0=>
   ret y0)
noncomputable def qj.u1.f (k:Nat) (x0:TX) (kn:Ad->Ad->Int->Ad->M α) (kr:Ad->V->M α):M α:=
 new [.slice Sl.nil, .slice Sl.nil, .slice Sl.nil] fun x3=>
 qi.f k x0 fun r4 r5=>
 asNil r5 fun b6=>
 cond (!b6) (
  st1 (x3.add 0) (.slice Sl.nil) <|
  st1 (x3.add 1) (.slice Sl.nil) <|
  st1 (x3.add 2) (.slice Sl.nil) <|
  kr x3 r5) (
  new [.slice r4, .ptr none] fun x7=>
  ql.f k x7 (
   qf.f k x7 2 [103, 97, 109, 101] fun r8=>
   qo.f k x7 1 200 10 fun r9=>
   qr.f k x7 (
    new [.slice Sl.nil, .slice Sl.nil, .slice Sl.nil] fun g10=>
    kn x3 x7 r9 g10)))
noncomputable def qj.u1.c (R:IC):IC:=(.seq (.ops 0 (zd Tryd.f15 0)) (.seq (.ops 1 (zd Tryd.f15 1)) (.seq (.seq (.ops 2 (zd Tryd.f15 2)) (.cond (.tmp 19) (.seq (.ops 3 (zd Tryd.f15 3)) (.ret [2, 3])) .skip)) (.seq (.ops 4 (zd Tryd.f15 4)) (.seq (.ops 5 (zd Tryd.f15 5)) (.seq (.ops 6 (zd Tryd.f15 6)) (.seq (.ops 7 (zd Tryd.f15 7)) (.seq (.ops 8 (zd Tryd.f15 8)) (.seq (.cut [2, 6, 7, 8] (.ops 9 (zd Tryd.f15 9))) R)))))))))
noncomputable def qj.u2.f (k:Nat) (x0 x1:Ad) (x2:Int) (x3:Ad) (kn:Ad->Ad->Int->Ad->Int->M α):M α:=
 kn x0 x1 x2 x3 0
noncomputable def qj.u2.c (R:IC):IC:=(.seq (.cut [2, 6, 7, 8, 9] (.ops 10 (zd Tryd.f15 10))) R)
noncomputable def qj.u3.f (k:Nat) (x0 x1:Ad) (x2:Int) (x3:Ad) (x4:Int) (kn:Ad->Ad->Int->Ad->Int->M α) (kx0:Ad->Ad->Ad->M α):M α:=
 cond (decide (x4 < x2)) (
  ldP ((x1.add 1).add 0) fun x7=>
  cond (x7.isNone) (
   ql.f k x1 (
    qo.f k x1 x4 x4 8 fun r8=>
    qo.f k x1 0 1 14 fun r9=>
    qo.f k x1 0 7 15 fun r10=>
    qf.f k x1 5 [58] fun r11=>
    qk.f k x1 x2 fun r12=>
    qr.f k x1 (
     ldS ((x3.add 0).add 0) fun x13=>
     new [.int .i64 r9] fun r14=>
     ldS ((x3.add 1).add 0) fun x15=>
     new [.int .i64 r10] fun r16=>
     ldS ((x3.add 2).add 0) fun x17=>
     new [.slice r12] fun r18=>
     jk x13 1 8 (⟨some r14, 1, 1, none⟩:Sl) fun x19=>
     ldS ((x3.add 1).add 0) fun y20=>
     need (decide (x15 = y20)) <|
     ldS ((x3.add 2).add 0) fun y21=>
     need (decide (x17 = y21)) <|
     jk x15 1 8 (⟨some r16, 1, 1, none⟩:Sl) fun x22=>
     ldS ((x3.add 2).add 0) fun y23=>
     need (decide (x17 = y23)) <|
     jk x17 1 24 (⟨some r18, 1, 1, none⟩:Sl) fun x24=>
     st1 ((x3.add 0).add 0) (.slice x19) <|
     st1 ((x3.add 1).add 0) (.slice x22) <|
     st1 ((x3.add 2).add 0) (.slice x24) <|
     kn x0 x1 x2 x3 (w64 (x4 + 1))))) (
   kx0 x0 x1 x3)) (
  kx0 x0 x1 x3)
noncomputable def qj.u3.c:IC:=(.seq (.seq (.ops 11 (zd Tryd.f15 11)) (.cond (.tmp 42) .skip (.exit 0 [2, 6, 8]))) (.seq (.block 1 (.seq (.ops 13 (zd Tryd.f15 13)) (.seq (.ops 14 (zd Tryd.f15 14)) (.seq (.ops 15 (zd Tryd.f15 15)) (.seq (.ops 16 (zd Tryd.f15 16)) (.seq (.ops 17 (zd Tryd.f15 17)) (.seq (.ops 18 (zd Tryd.f15 18)) (.seq (.ops 19 (zd Tryd.f15 19)) (.drawn 20 (zd Tryd.f15 20) true [.op 0, .op 1, .op 2, .op 3, .op 5, .op 6, .op 7, .op 8, .op 10, .op 11, .op 12, .op 13, .op 4, .look 6, .look 11, .op 15, .op 9, .look 11, .op 14, .op 16, .op 17, .op 18, .op 19, .op 20]))))))))) (.cut [2, 6, 7, 8, 9] (.ops 12 (zd Tryd.f15 12)))))
noncomputable def qj.u4.l (k:Nat) (kx0:Ad->Ad->Ad->M α):Nat->Ad->Ad->Int->Ad->Int->M α
 | 0, _, _, _, _, _=>fail
 | j + 1, x0, x1, x2, x3, x4=>
  qj.u3.f k x0 x1 x2 x3 x4 (fun y0 y1 y2 y3 y4=>qj.u4.l k kx0 j y0 y1 y2 y3 y4) kx0
noncomputable abbrev qj.u4.f (k:Nat) (x0 x1:Ad) (x2:Int) (x3:Ad) (x4:Int) (kx0:Ad->Ad->Ad->M α):M α:=
 qj.u4.l k kx0 k x0 x1 x2 x3 x4
noncomputable def qj.u4.c:IC:=.loop [2, 6, 7, 8, 9] qj.u3.c
noncomputable abbrev qj.u5.f (k:Nat) (x0 x1:Ad) (x2:Int) (x3:Ad) (x4:Int) (kn:Ad->Ad->Ad->M α):M α:=
 qj.u4.f k x0 x1 x2 x3 x4 (fun y0 y1 y2=>kn y0 y1 y2)
noncomputable def qj.u5.c:IC:=.block 0 qj.u4.c
noncomputable abbrev qj.u6.f (k:Nat) (x0 x1:Ad) (x2:Int) (x3:Ad) (kn:Ad->Ad->Ad->M α):M α:=
 qj.u2.f k x0 x1 x2 x3 (fun y0 y1 y2 y3 y4=>qj.u5.f k y0 y1 y2 y3 y4 kn)
noncomputable def qj.u6.c:IC:=qj.u2.c qj.u5.c
noncomputable def qj.u7.f (k:Nat) (x0 x1 x2:Ad) (kr:Ad->V->M α):M α:=
 ql.f k x1 (
  qf.f k x1 0 [] fun r5=>
  ldP ((x1.add 1).add 0) fun x6=>
  cond (!x6.isNone) (
   ldP ((x1.add 1).add 0) fun x7=>
   st1 (x0.add 0) (.slice Sl.nil) <|
   st1 (x0.add 1) (.slice Sl.nil) <|
   st1 (x0.add 2) (.slice Sl.nil) <|
   ldP ((x1.add 1).add 0) fun y8=>
   need (decide (x7 = y8)) <|
   kr x0 (.iface 56 (.ptr x7))) (
   ldS (x2.add 0) fun x9=>
   ldS (x2.add 1) fun x10=>
   ldS (x2.add 2) fun x11=>
   st1 (x0.add 0) (.slice x9) <|
   st1 (x0.add 1) (.slice x10) <|
   st1 (x0.add 2) (.slice x11) <|
   kr x0 .nilIface))
noncomputable def qj.u7.c:IC:=(.seq (.ops 21 (zd Tryd.f15 21)) (.seq (.ops 22 (zd Tryd.f15 22)) (.seq (.seq (.ops 23 (zd Tryd.f15 23)) (.cond (.tmp 88) (.seq (.drawn 24 (zd Tryd.f15 24) true [.op 0, .op 1, .op 2, .op 3, .op 4, .op 5, .op 6, .look 4, .op 7]) (.ret [2, 3])) .skip)) (.seq (.ops 25 (zd Tryd.f15 25)) (.ret [2, 3])))))
noncomputable abbrev qj.u8.f (k:Nat) (x0 x1:Ad) (x2:Int) (x3:Ad) (kr:Ad->V->M α):M α:=
 qj.u6.f k x0 x1 x2 x3 (fun y0 y1 y2=>qj.u7.f k y0 y1 y2 kr)
noncomputable def qj.u8.c:IC:=(.seq qj.u6.c qj.u7.c)
noncomputable abbrev qj.u9.f (k:Nat) (x0:TX) (kr:Ad->V->M α):M α:=
 qj.u1.f k x0 (fun y0 y1 y2 y3=>qj.u8.f k y0 y1 y2 y3 kr) kr
noncomputable def qj.u9.c:IC:=qj.u1.c qj.u8.c
noncomputable def qj.f:Nat->TX->(Sl->Sl->Sl->V->M α)->M α
 | 0, _, _=>fail
 | k + 1, x0, ret=>
  qj.u9.f k x0 (fun y0 y1=>
   ldS (y0.add 0) fun o501=>
   ldS (y0.add 1) fun o502=>
   ldS (y0.add 2) fun o503=>
   ret o501 o502 o503 y1)
noncomputable def qt.u1.f (k:Nat) (x0:V) (kr:Int->Int->M α):M α:=
 asNil x0 fun b3=>
 cond (b3) (
  kr 0 0) (
  new [.ptr none] fun f4=>
  qac.f k x0 (.iface 71 (.ptr (some f4))) fun r5=>
  cond (!r5) (
   kr (-1) 0) (
   ldP (f4.add 0) fun x6=>
   cond (x6.isNone) (
    kr (-1) 0) (
    ldP (f4.add 0) fun x7=>
    asSome x7 fun p8=>
    ldI .i64 ((p8.add 0).add 0) fun x9=>
    ldP (f4.add 0) fun x10=>
    asSome x10 fun p11=>
    ldI .i64 ((p11.add 1).add 0) fun x12=>
    kr x9 x12)))
noncomputable def qt.u1.c:IC:=(.seq (.ops 0 (zd Tryd.f17 0)) (.seq (.seq (.ops 1 (zd Tryd.f17 1)) (.cond (.tmp 7) (.seq (.ops 2 (zd Tryd.f17 2)) (.ret [2, 3])) .skip)) (.seq (.ops 3 (zd Tryd.f17 3)) (.seq (.ops 4 (zd Tryd.f17 4)) (.seq (.seq (.ops 5 (zd Tryd.f17 5)) (.cond (.tmp 16) (.seq (.ops 6 (zd Tryd.f17 6)) (.ret [2, 3])) .skip)) (.seq (.drawn 7 (zd Tryd.f17 7) true [.op 0, .op 1, .op 2, .op 3, .op 4, .op 5, .op 6, .op 7, .op 8, .op 9]) (.ret [2, 3])))))))
noncomputable def qt.f:Nat->V->(Int->Int->M α)->M α
 | 0, _, _=>fail
 | k + 1, x0, ret=>
  qt.u1.f k x0 (fun y0 y1=>
   ret y0 y1)
noncomputable def qd.u1.f (k:Nat) (x0 x1 x2:Sl) (kn:Ad->Int->M α) (kr:Int->Int->M α):M α:=
 new [.slice x0, .slice x1, .slice x2] fun g5=>
 ldS ((g5.add 2).add 0) fun x6=>
 ldS ((g5.add 0).add 0) fun x7=>
 cond (!(decide ((x7.len:Int) = (x6.len:Int)))) (
  kr 0 1) (
  ldS ((g5.add 1).add 0) fun x8=>
  cond (!(decide ((x8.len:Int) = (x6.len:Int)))) (
   kr 0 1) (
   cond (decide ((x6.len:Int) < 1)) (
    kr 0 10) (
    cond (decide (200 < (x6.len:Int))) (
     kr 0 10) (
     kn g5 (x6.len:Int)))))
noncomputable def qd.u1.c (R:IC):IC:=(.seq (.ops 0 (zd Tryd.f18 0)) (.seq (.ops 1 (zd Tryd.f18 1)) (.seq (.cut [1, 4] (.block 0 (.seq (.ops 2 (zd Tryd.f18 2)) (.cond (.tmp 12) (.seq (.ops 3 (zd Tryd.f18 3)) (.ret [2, 3])) (.seq (.ops 4 (zd Tryd.f18 4)) (.cond (.tmp 25) (.seq (.ops 5 (zd Tryd.f18 5)) (.ret [2, 3])) .skip)))))) R)))
noncomputable def qd.u2.f (k:Nat) (x0:Ad) (x1:Int) (kn:Ad->Int->Sl->Int->Int->M α):M α:=
 ldS ((x0.add 2).add 0) fun x4=>
 kn x0 x1 x4 (x4.len:Int) 0
noncomputable def qd.u2.c (R:IC):IC:=(.seq (.cut [1, 4, 33, 34, 35] (.ops 6 (zd Tryd.f18 6))) R)
noncomputable def qd.u3.f (k:Nat) (x0:Ad) (x1:Int) (x2:Sl) (x3 x4:Int) (kn:Ad->Int->Sl->Int->Int->M α) (kx1:M α):M α:=
 cond (decide (x4 < x3)) (
  kn x0 x1 x2 x3 x4) (
  kx1)
noncomputable def qd.u3.c (R:IC):IC:=(.seq (.ops 7 (zd Tryd.f18 7)) (.seq (.cut [1, 4, 33, 34, 35] (.cond (.tmp 36) .skip (.exit 1 []))) R))
noncomputable def qd.u4.f (k:Nat) (x0:Ad) (x1:Int) (x2:Sl) (x3 x4:Int) (kn:Ad->Int->Int->Sl->Sl->Int->Int->Sl->Int->Int->M α) (kr:Int->Int->M α):M α:=
 idxSl x2 x4 1 fun a7=>
 ldS (a7.add 0) fun x8=>
 ldS ((x0.add 0).add 0) fun x9=>
 idxSl x9 x4 1 fun a10=>
 ldI .i64 (a10.add 0) fun x11=>
 cond (decide (x11 < 0)) (
  kr x4 14) (
  ldS ((x0.add 0).add 0) fun x12=>
  idxSl x12 x4 1 fun a13=>
  ldI .i64 (a13.add 0) fun x14=>
  cond (decide (1 < x14)) (
   kr x4 14) (
   ldS ((x0.add 1).add 0) fun x15=>
   idxSl x15 x4 1 fun a16=>
   ldI .i64 (a16.add 0) fun x17=>
   cond (decide (x17 < 0)) (
    kr x4 15) (
    ldS ((x0.add 1).add 0) fun x18=>
    idxSl x18 x4 1 fun a19=>
    ldI .i64 (a19.add 0) fun x20=>
    cond (decide (7 < x20)) (
     kr x4 15) (
     cond (decide ((x8.len:Int) = 0)) (
      kr x4 17) (
      kn x0 x1 x4 x8 x2 x3 x4 x8 (x8.len:Int) 0)))))
noncomputable def qd.u4.c (R:IC):IC:=(.seq (.ops 8 (zd Tryd.f18 8)) (.seq (.block 3 (.seq (.ops 9 (zd Tryd.f18 9)) (.cond (.tmp 40) (.seq (.ops 10 (zd Tryd.f18 10)) (.ret [2, 3])) (.seq (.ops 11 (zd Tryd.f18 11)) (.cond (.tmp 56) (.seq (.ops 12 (zd Tryd.f18 12)) (.ret [2, 3])) (.seq (.ops 13 (zd Tryd.f18 13)) (.cond (.tmp 72) (.seq (.ops 14 (zd Tryd.f18 14)) (.ret [2, 3])) .skip))))))) (.seq (.cut [1, 4, 5, 6, 33, 34, 35, 77, 78, 79] (.ops 15 (zd Tryd.f18 15))) R)))
noncomputable def qd.u5.f (k:Nat) (x0:Ad) (x1 x2:Int) (x3 x4:Sl) (x5 x6:Int) (x7:Sl) (x8 x9:Int) (kn:Ad->Int->Int->Sl->Sl->Int->Int->Sl->Int->Int->M α) (kr:Int->Int->M α) (kx4:Ad->Int->Sl->Int->Int->M α):M α:=
 cond (decide (x9 < x8)) (
  idxSl x7 x9 1 fun a12=>
  ldI .i64 (a12.add 0) fun x13=>
  cond (decide (x13 < 0)) (
   kr x2 16) (
   cond (decide (x1≤x13)) (
    kr x2 16) (
    cond (decide (0 < x9)) (
     idxSl x3 (w64 (x9 - 1)) 1 fun a14=>
     ldI .i64 (a14.add 0) fun x15=>
     cond (decide (x13≤x15)) (
      kr x2 16) (
      kn x0 x1 x2 x3 x4 x5 x6 x7 x8 (w64 (x9 + 1)))) (
     kn x0 x1 x2 x3 x4 x5 x6 x7 x8 (w64 (x9 + 1)))))) (
  kx4 x0 x1 x4 x5 x6)
noncomputable def qd.u5.c:IC:=(.seq (.ops 16 (zd Tryd.f18 16)) (.seq (.cond (.tmp 80) .skip (.exit 4 [1, 4, 33, 34, 35])) (.seq (.block 5 (.seq (.ops 17 (zd Tryd.f18 17)) (.seq (.ops 18 (zd Tryd.f18 18)) (.cond (.tmp 103) (.seq (.ops 19 (zd Tryd.f18 19)) (.ret [2, 3])) .skip)))) (.cut [1, 4, 5, 6, 33, 34, 35, 77, 78, 79] (.ops 20 (zd Tryd.f18 20))))))
noncomputable def qd.u6.l (k:Nat) (kr:Int->Int->M α) (kx4:Ad->Int->Sl->Int->Int->M α):Nat->Ad->Int->Int->Sl->Sl->Int->Int->Sl->Int->Int->M α
 | 0, _, _, _, _, _, _, _, _, _, _=>fail
 | j + 1, x0, x1, x2, x3, x4, x5, x6, x7, x8, x9=>
  qd.u5.f k x0 x1 x2 x3 x4 x5 x6 x7 x8 x9 (fun y0 y1 y2 y3 y4 y5 y6 y7 y8 y9=>qd.u6.l k kr kx4 j y0 y1 y2 y3 y4 y5 y6 y7 y8 y9) kr kx4
noncomputable abbrev qd.u6.f (k:Nat) (x0:Ad) (x1 x2:Int) (x3 x4:Sl) (x5 x6:Int) (x7:Sl) (x8 x9:Int) (kr:Int->Int->M α) (kx4:Ad->Int->Sl->Int->Int->M α):M α:=
 qd.u6.l k kr kx4 k x0 x1 x2 x3 x4 x5 x6 x7 x8 x9
noncomputable def qd.u6.c:IC:=.loop [1, 4, 5, 6, 33, 34, 35, 77, 78, 79] qd.u5.c
noncomputable abbrev qd.u7.f (k:Nat) (x0:Ad) (x1 x2:Int) (x3 x4:Sl) (x5 x6:Int) (x7:Sl) (x8 x9:Int) (kn:Ad->Int->Sl->Int->Int->M α) (kr:Int->Int->M α):M α:=
 qd.u6.f k x0 x1 x2 x3 x4 x5 x6 x7 x8 x9 kr (fun y0 y1 y2 y3 y4=>kn y0 y1 y2 y3 y4)
noncomputable def qd.u7.c:IC:=.block 4 qd.u6.c
noncomputable abbrev qd.u8.f (k:Nat) (x0:Ad) (x1:Int) (x2:Sl) (x3 x4:Int) (kn:Ad->Int->Sl->Int->Int->M α) (kr:Int->Int->M α):M α:=
 qd.u4.f k x0 x1 x2 x3 x4 (fun y0 y1 y2 y3 y4 y5 y6 y7 y8 y9=>qd.u7.f k y0 y1 y2 y3 y4 y5 y6 y7 y8 y9 kn kr) kr
noncomputable def qd.u8.c:IC:=qd.u4.c qd.u7.c
noncomputable abbrev qd.u9.f (k:Nat) (x0:Ad) (x1:Int) (x2:Sl) (x3 x4:Int) (kn:Ad->Int->Sl->Int->Int->M α) (kr:Int->Int->M α):M α:=
 qd.u8.f k x0 x1 x2 x3 x4 (fun y0 y1 y2 y3 y4=>kn y0 y1 y2 y3 y4) kr
noncomputable def qd.u9.c:IC:=.block 2 qd.u8.c
noncomputable def qd.u10.f (k:Nat) (x0:Ad) (x1:Int) (x2:Sl) (x3 x4:Int) (kn:Ad->Int->Sl->Int->Int->M α):M α:=
 kn x0 x1 x2 x3 (w64 (x4 + 1))
noncomputable def qd.u10.c:IC:=(.cut [1, 4, 33, 34, 35] (.ops 21 (zd Tryd.f18 21)))
noncomputable abbrev qd.u11.f (k:Nat) (x0:Ad) (x1:Int) (x2:Sl) (x3 x4:Int) (kn:Ad->Int->Sl->Int->Int->M α) (kr:Int->Int->M α):M α:=
 qd.u9.f k x0 x1 x2 x3 x4 (fun y0 y1 y2 y3 y4=>qd.u10.f k y0 y1 y2 y3 y4 kn) kr
noncomputable def qd.u11.c:IC:=(.seq qd.u9.c qd.u10.c)
noncomputable abbrev qd.u12.f (k:Nat) (x0:Ad) (x1:Int) (x2:Sl) (x3 x4:Int) (kn:Ad->Int->Sl->Int->Int->M α) (kr:Int->Int->M α) (kx1:M α):M α:=
 qd.u3.f k x0 x1 x2 x3 x4 (fun y0 y1 y2 y3 y4=>qd.u11.f k y0 y1 y2 y3 y4 kn kr) kx1
noncomputable def qd.u12.c:IC:=qd.u3.c qd.u11.c
noncomputable def qd.u13.l (k:Nat) (kr:Int->Int->M α) (kx1:M α):Nat->Ad->Int->Sl->Int->Int->M α
 | 0, _, _, _, _, _=>fail
 | j + 1, x0, x1, x2, x3, x4=>
  qd.u12.f k x0 x1 x2 x3 x4 (fun y0 y1 y2 y3 y4=>qd.u13.l k kr kx1 j y0 y1 y2 y3 y4) kr kx1
noncomputable abbrev qd.u13.f (k:Nat) (x0:Ad) (x1:Int) (x2:Sl) (x3 x4:Int) (kr:Int->Int->M α) (kx1:M α):M α:=
 qd.u13.l k kr kx1 k x0 x1 x2 x3 x4
noncomputable def qd.u13.c:IC:=.loop [1, 4, 33, 34, 35] qd.u12.c
noncomputable abbrev qd.u14.f (k:Nat) (x0:Ad) (x1:Int) (x2:Sl) (x3 x4:Int) (kn:M α) (kr:Int->Int->M α):M α:=
 qd.u13.f k x0 x1 x2 x3 x4 kr (kn)
noncomputable def qd.u14.c:IC:=.block 1 qd.u13.c
noncomputable abbrev qd.u15.f (k:Nat) (x0:Ad) (x1:Int) (kn:M α) (kr:Int->Int->M α):M α:=
 qd.u2.f k x0 x1 (fun y0 y1 y2 y3 y4=>qd.u14.f k y0 y1 y2 y3 y4 kn kr)
noncomputable def qd.u15.c:IC:=qd.u2.c qd.u14.c
noncomputable def qd.u16.f (k:Nat) (kr:Int->Int->M α):M α:=
 kr 0 0
noncomputable def qd.u16.c:IC:=(.seq (.ops 22 (zd Tryd.f18 22)) (.ret [2, 3]))
noncomputable abbrev qd.u17.f (k:Nat) (x0:Ad) (x1:Int) (kr:Int->Int->M α):M α:=
 qd.u15.f k x0 x1 (qd.u16.f k kr) kr
noncomputable def qd.u17.c:IC:=(.seq qd.u15.c qd.u16.c)
noncomputable abbrev qd.u18.f (k:Nat) (x0 x1 x2:Sl) (kr:Int->Int->M α):M α:=
 qd.u1.f k x0 x1 x2 (fun y0 y1=>qd.u17.f k y0 y1 kr) kr
noncomputable def qd.u18.c:IC:=qd.u1.c qd.u17.c
noncomputable def qd.f:Nat->Sl->Sl->Sl->(Int->Int->M α)->M α
 | 0, _, _, _, _=>fail
 | k + 1, x0, x1, x2, ret=>
  qd.u18.f k x0 x1 x2 (fun y0 y1=>
   ret y0 y1)
noncomputable def qu.u1.f (k:Nat) (x0:Int) (kr:TX->M α):M α:=
 cond (decide (x0 < 10)) (
  cutStr lit0 (some x0) (some (w64 (x0 + 1))) fun x3=>
  kr x3) (
  cutStr lit1 (some (w64 (x0 * 2))) (some (w64 ((w64 (x0 * 2)) + 2))) fun x4=>
  kr x4)
noncomputable def qu.u1.c:IC:=(.seq (.ops 0 (zd Tryd.f63 0)) (.seq (.seq (.ops 1 (zd Tryd.f63 1)) (.cond (.tmp 4) (.seq (.ops 2 (zd Tryd.f63 2)) (.ret [2])) .skip)) (.seq (.ops 3 (zd Tryd.f63 3)) (.ret [2]))))
noncomputable def qu.f:Nat->Int->(TX->M α)->M α
 | 0, _, _=>fail
 | k + 1, x0, ret=>
  qu.u1.f k x0 (fun y0=>
   ret y0)
noncomputable def qg.u1.f (k:Nat) (x0:Sl) (x1:Int) (kn:Sl->Int->Int->M α):M α:=
 kn x0 x1 (x0.len:Int)
noncomputable def qg.u1.c (R:IC):IC:=(.seq (.cut [0, 1, 4] (.ops 0 (zd Tryd.f65 0))) R)
noncomputable def qg.u2.f (k:Nat) (x0:Sl) (x1 x2:Int) (kn:Sl->Int->Int->M α) (kx0:Sl->Int->Int->M α):M α:=
 cond (decide (8≤x2)) (
  kn x0 x1 x2) (
  kx0 x0 x1 x2)
noncomputable def qg.u2.c (R:IC):IC:=(.seq (.cut [0, 1, 4] (.seq (.ops 1 (zd Tryd.f65 1)) (.cond (.tmp 20) .skip (.exit 0 [0, 1, 4])))) R)
noncomputable def qg.u3.f (k:Nat) (x0:Sl) (x1 x2:Int) (kn:Sl->Int->Int->M α):M α:=
 idxStr lit1 (IntKind.wrap .u32 ((IntKind.wrap .u32 ((Int.tmod (Int.tmod (IntKind.wrap .u32 (Int.tmod x1 100000000)) 10000) 100) * 2)) + 1)) fun c5=>
 idxStr lit1 (IntKind.wrap .u32 ((Int.tmod (Int.tmod (IntKind.wrap .u32 (Int.tmod x1 100000000)) 10000) 100) * 2)) fun c6=>
 idxSl x0 (w64 (x2 - 1)) 1 fun a7=>
 st1 (a7.add 0) (.int .u8 c5) <|
 idxSl x0 (w64 (x2 - 2)) 1 fun a8=>
 st1 (a8.add 0) (.int .u8 c6) <|
 idxStr lit1 (IntKind.wrap .u32 ((IntKind.wrap .u32 ((IntKind.wrap .u32 (Int.tdiv (Int.tmod (IntKind.wrap .u32 (Int.tmod x1 100000000)) 10000) 100)) * 2)) + 1)) fun c9=>
 idxStr lit1 (IntKind.wrap .u32 ((IntKind.wrap .u32 (Int.tdiv (Int.tmod (IntKind.wrap .u32 (Int.tmod x1 100000000)) 10000) 100)) * 2)) fun c10=>
 idxSl x0 (w64 (x2 - 3)) 1 fun a11=>
 st1 (a11.add 0) (.int .u8 c9) <|
 idxSl x0 (w64 (x2 - 4)) 1 fun a12=>
 st1 (a12.add 0) (.int .u8 c10) <|
 idxStr lit1 (IntKind.wrap .u32 ((IntKind.wrap .u32 ((Int.tmod (IntKind.wrap .u32 (Int.tdiv (IntKind.wrap .u32 (Int.tmod x1 100000000)) 10000)) 100) * 2)) + 1)) fun c13=>
 idxStr lit1 (IntKind.wrap .u32 ((Int.tmod (IntKind.wrap .u32 (Int.tdiv (IntKind.wrap .u32 (Int.tmod x1 100000000)) 10000)) 100) * 2)) fun c14=>
 idxSl x0 (w64 (x2 - 5)) 1 fun a15=>
 st1 (a15.add 0) (.int .u8 c13) <|
 idxSl x0 (w64 (x2 - 6)) 1 fun a16=>
 st1 (a16.add 0) (.int .u8 c14) <|
 idxStr lit1 (IntKind.wrap .u32 ((IntKind.wrap .u32 ((IntKind.wrap .u32 (Int.tdiv (IntKind.wrap .u32 (Int.tdiv (IntKind.wrap .u32 (Int.tmod x1 100000000)) 10000)) 100)) * 2)) + 1)) fun c17=>
 idxStr lit1 (IntKind.wrap .u32 ((IntKind.wrap .u32 (Int.tdiv (IntKind.wrap .u32 (Int.tdiv (IntKind.wrap .u32 (Int.tmod x1 100000000)) 10000)) 100)) * 2)) fun c18=>
 idxSl x0 (w64 (x2 - 7)) 1 fun a19=>
 st1 (a19.add 0) (.int .u8 c17) <|
 idxSl x0 (w64 (x2 - 8)) 1 fun a20=>
 st1 (a20.add 0) (.int .u8 c18) <|
 kn x0 (IntKind.wrap .u64 (Int.tdiv x1 100000000)) (w64 (x2 - 8))
noncomputable def qg.u3.c:IC:=(.seq (.ops 2 (zd Tryd.f65 2)) (.seq (.ops 3 (zd Tryd.f65 3)) (.seq (.ops 4 (zd Tryd.f65 4)) (.seq (.ops 5 (zd Tryd.f65 5)) (.seq (.ops 6 (zd Tryd.f65 6)) (.seq (.drawn 7 (zd Tryd.f65 7) true [.op 0, .op 1, .op 2, .op 3, .op 4, .op 5, .op 6, .op 7, .op 8, .op 9, .op 10, .op 11, .op 12, .op 13, .op 14]) (.seq (.drawn 8 (zd Tryd.f65 8) true [.op 0, .op 1, .op 2, .op 3, .op 4, .op 5, .op 6, .op 7, .op 8, .op 9, .op 10, .op 11, .op 12, .op 13, .op 14]) (.seq (.drawn 9 (zd Tryd.f65 9) true [.op 0, .op 1, .op 2, .op 3, .op 4, .op 5, .op 6, .op 7, .op 8, .op 9, .op 10, .op 11, .op 12, .op 13, .op 14]) (.seq (.drawn 10 (zd Tryd.f65 10) true [.op 0, .op 1, .op 2, .op 3, .op 4, .op 5, .op 6, .op 7, .op 8, .op 9, .op 10, .op 11, .op 12, .op 13, .op 14]) (.cut [0, 1, 4] (.ops 11 (zd Tryd.f65 11))))))))))))
noncomputable abbrev qg.u4.f (k:Nat) (x0:Sl) (x1 x2:Int) (kn:Sl->Int->Int->M α):M α:=
 qg.u3.f k x0 x1 x2 (fun y0 y1 y2=>kn y0 y1 y2)
noncomputable def qg.u4.c:IC:=.block 1 qg.u3.c
noncomputable abbrev qg.u5.f (k:Nat) (x0:Sl) (x1 x2:Int) (kn:Sl->Int->Int->M α) (kx0:Sl->Int->Int->M α):M α:=
 qg.u2.f k x0 x1 x2 (fun y0 y1 y2=>qg.u4.f k y0 y1 y2 kn) kx0
noncomputable def qg.u5.c:IC:=qg.u2.c qg.u4.c
noncomputable def qg.u6.l (k:Nat) (kx0:Sl->Int->Int->M α):Nat->Sl->Int->Int->M α
 | 0, _, _, _=>fail
 | j + 1, x0, x1, x2=>
  qg.u5.f k x0 x1 x2 (fun y0 y1 y2=>qg.u6.l k kx0 j y0 y1 y2) kx0
noncomputable abbrev qg.u6.f (k:Nat) (x0:Sl) (x1 x2:Int) (kx0:Sl->Int->Int->M α):M α:=
 qg.u6.l k kx0 k x0 x1 x2
noncomputable def qg.u6.c:IC:=.loop [0, 1, 4] qg.u5.c
noncomputable abbrev qg.u7.f (k:Nat) (x0:Sl) (x1 x2:Int) (kn:Sl->Int->Int->M α):M α:=
 qg.u6.f k x0 x1 x2 (fun y0 y1 y2=>kn y0 y1 y2)
noncomputable def qg.u7.c:IC:=.block 0 qg.u6.c
noncomputable def qg.u8.f (k:Nat) (x0:Sl) (x1 x2:Int) (kn:Sl->Int->Int->M α):M α:=
 cond (decide (4≤x2)) (
  idxStr lit1 (IntKind.wrap .u32 ((IntKind.wrap .u32 ((Int.tmod (Int.tmod (IntKind.wrap .u32 (x1)) 10000) 100) * 2)) + 1)) fun c5=>
  idxStr lit1 (IntKind.wrap .u32 ((Int.tmod (Int.tmod (IntKind.wrap .u32 (x1)) 10000) 100) * 2)) fun c6=>
  idxSl x0 (w64 (x2 - 1)) 1 fun a7=>
  st1 (a7.add 0) (.int .u8 c5) <|
  idxSl x0 (w64 (x2 - 2)) 1 fun a8=>
  st1 (a8.add 0) (.int .u8 c6) <|
  idxStr lit1 (IntKind.wrap .u32 ((IntKind.wrap .u32 ((IntKind.wrap .u32 (Int.tdiv (Int.tmod (IntKind.wrap .u32 (x1)) 10000) 100)) * 2)) + 1)) fun c9=>
  idxStr lit1 (IntKind.wrap .u32 ((IntKind.wrap .u32 (Int.tdiv (Int.tmod (IntKind.wrap .u32 (x1)) 10000) 100)) * 2)) fun c10=>
  idxSl x0 (w64 (x2 - 3)) 1 fun a11=>
  st1 (a11.add 0) (.int .u8 c9) <|
  idxSl x0 (w64 (x2 - 4)) 1 fun a12=>
  st1 (a12.add 0) (.int .u8 c10) <|
  kn x0 (w64 (x2 - 4)) (IntKind.wrap .u32 (Int.tdiv (IntKind.wrap .u32 (x1)) 10000))) (
  kn x0 x2 (IntKind.wrap .u32 (x1)))
noncomputable def qg.u8.c (R:IC):IC:=(.seq (.ops 12 (zd Tryd.f65 12)) (.seq (.cut [0, 4, 12] (.seq (.ops 13 (zd Tryd.f65 13)) (.cond (.tmp 99) (.seq (.ops 14 (zd Tryd.f65 14)) (.seq (.ops 15 (zd Tryd.f65 15)) (.seq (.ops 16 (zd Tryd.f65 16)) (.seq (.drawn 17 (zd Tryd.f65 17) true [.op 0, .op 1, .op 2, .op 3, .op 4, .op 5, .op 6, .op 7, .op 8, .op 9, .op 10, .op 11, .op 12, .op 13, .op 14]) (.seq (.drawn 18 (zd Tryd.f65 18) true [.op 0, .op 1, .op 2, .op 3, .op 4, .op 5, .op 6, .op 7, .op 8, .op 9, .op 10, .op 11, .op 12, .op 13, .op 14]) (.ops 19 (zd Tryd.f65 19))))))) .skip))) R))
noncomputable def qg.u9.f (k:Nat) (x0:Sl) (x1 x2:Int) (kn:M α):M α:=
 cond (decide (2≤x1)) (
  idxStr lit1 (IntKind.wrap .u32 ((IntKind.wrap .u32 ((Int.tmod x2 100) * 2)) + 1)) fun c5=>
  idxStr lit1 (IntKind.wrap .u32 ((Int.tmod x2 100) * 2)) fun c6=>
  idxSl x0 (w64 (x1 - 1)) 1 fun a7=>
  st1 (a7.add 0) (.int .u8 c5) <|
  idxSl x0 (w64 (x1 - 2)) 1 fun a8=>
  st1 (a8.add 0) (.int .u8 c6) <|
  cond (decide (0 < w64 (x1 - 2))) (
   idxSl x0 0 1 fun a9=>
   st1 (a9.add 0) (.int .u8 (IntKind.wrap .u8 (IntKind.wrap .u32 (48 + (IntKind.wrap .u32 (Int.tdiv x2 100)))))) <|
   kn) (
   kn)) (
  cond (decide (0 < x1)) (
   idxSl x0 0 1 fun a10=>
   st1 (a10.add 0) (.int .u8 (IntKind.wrap .u8 (IntKind.wrap .u32 (48 + x2)))) <|
   kn) (
   kn))
noncomputable def qg.u9.c:IC:=(.seq (.seq (.ops 20 (zd Tryd.f65 20)) (.cond (.tmp 139) (.seq (.ops 21 (zd Tryd.f65 21)) (.seq (.ops 22 (zd Tryd.f65 22)) (.seq (.drawn 23 (zd Tryd.f65 23) true [.op 0, .op 1, .op 2, .op 3, .op 4, .op 5, .op 6, .op 7, .op 8, .op 9, .op 10, .op 11, .op 12, .op 13, .op 14]) (.ops 24 (zd Tryd.f65 24))))) .skip)) (.seq (.ops 25 (zd Tryd.f65 25)) (.cut [] (.cond (.tmp 161) (.ops 26 (zd Tryd.f65 26)) .skip))))
noncomputable abbrev qg.u10.f (k:Nat) (x0:Sl) (x1 x2:Int) (kn:M α):M α:=
 qg.u8.f k x0 x1 x2 (fun y0 y1 y2=>qg.u9.f k y0 y1 y2 kn)
noncomputable def qg.u10.c:IC:=qg.u8.c qg.u9.c
noncomputable abbrev qg.u11.f (k:Nat) (x0:Sl) (x1 x2:Int) (kn:M α):M α:=
 qg.u7.f k x0 x1 x2 (fun y0 y1 y2=>qg.u10.f k y0 y1 y2 kn)
noncomputable def qg.u11.c:IC:=(.seq qg.u7.c qg.u10.c)
noncomputable abbrev qg.u12.f (k:Nat) (x0:Sl) (x1:Int) (kn:M α):M α:=
 qg.u1.f k x0 x1 (fun y0 y1 y2=>qg.u11.f k y0 y1 y2 kn)
noncomputable def qg.u12.c:IC:=qg.u1.c qg.u11.c
noncomputable def qg.f:Nat->Sl->Int->(M α)->M α
 | 0, _, _, _=>fail
 | k + 1, x0, x1, ret=>
  qg.u12.f k x0 x1 (ret)
noncomputable def qs.u1.f (k:Nat) (x0:Sl) (x1 x2:Int) (kr:Sl->M α):M α:=
 cond (decide (x2 = 10)) (
  cond (decide (x1 < 100)) (
   qu.f k (w64 (x1)) fun r5=>
   zme x0 r5 fun x6=>
   kr x6) (
   new [.int .u8 0, .int .u8 0, .int .u8 0, .int .u8 0, .int .u8 0, .int .u8 0, .int .u8 0, .int .u8 0, .int .u8 0, .int .u8 0, .int .u8 0, .int .u8 0, .int .u8 0, .int .u8 0, .int .u8 0, .int .u8 0, .int .u8 0, .int .u8 0, .int .u8 0, .int .u8 0, .int .u8 0, .int .u8 0, .int .u8 0, .int .u8 0] fun a7=>
   qab.f k x1 fun r8=>
   cutSl (⟨some a7, 24, 24, none⟩:Sl) 1 none (some r8) none fun x9=>
   qg.f k x9 x1 (
    cutSl (⟨some a7, 24, 24, none⟩:Sl) 1 none (some r8) none fun x10=>
    jk x0 1 1 x10 fun x11=>
    kr x11))) (
  qad.f k x0 x1 x2 false true fun r12 r13=>
  kr r12)
noncomputable def qs.u1.c:IC:=(.seq (.ops 0 (zd Tryd.f50 0)) (.seq (.seq (.ops 1 (zd Tryd.f50 1)) (.cond (.tmp 10) (.seq (.seq (.ops 2 (zd Tryd.f50 2)) (.cond (.tmp 12) (.seq (.ops 3 (zd Tryd.f50 3)) (.ret [6])) .skip)) (.seq (.ops 4 (zd Tryd.f50 4)) (.seq (.ops 5 (zd Tryd.f50 5)) (.seq (.ops 6 (zd Tryd.f50 6)) (.seq (.ops 7 (zd Tryd.f50 7)) (.ret [6])))))) .skip)) (.seq (.ops 8 (zd Tryd.f50 8)) (.seq (.ops 9 (zd Tryd.f50 9)) (.ret [6])))))
noncomputable def qs.f:Nat->Sl->Int->Int->(Sl->M α)->M α
 | 0, _, _, _, _=>fail
 | k + 1, x0, x1, x2, ret=>
  qs.u1.f k x0 x1 x2 (fun y0=>
   ret y0)
noncomputable def qy.u1.f (k:Nat) (x0:Sl) (x1 x2:Int) (kr:Sl->M α):M α:=
 cond (decide (x1 < 0)) (
  new [.int .u8 45] fun r5=>
  jk x0 1 1 (⟨some r5, 1, 1, none⟩:Sl) fun x6=>
  qs.f k x6 (IntKind.wrap .u64 (0 - IntKind.wrap .u64 (x1))) x2 fun r7=>
  kr r7) (
  qs.f k x0 (IntKind.wrap .u64 (x1)) x2 fun r8=>
  kr r8)
noncomputable def qy.u1.c:IC:=(.seq (.ops 0 (zd Tryd.f38 0)) (.seq (.ops 1 (zd Tryd.f38 1)) (.seq (.seq (.ops 2 (zd Tryd.f38 2)) (.cond (.tmp 11) (.seq (.ops 3 (zd Tryd.f38 3)) (.ops 4 (zd Tryd.f38 4))) .skip)) (.seq (.ops 5 (zd Tryd.f38 5)) (.ret [6])))))
noncomputable def qy.f:Nat->Sl->Int->Int->(Sl->M α)->M α
 | 0, _, _, _, _=>fail
 | k + 1, x0, x1, x2, ret=>
  qy.u1.f k x0 x1 x2 (fun y0=>
   ret y0)
noncomputable def qp.u1.f (k:Nat) (x0:Sl) (x1 x2:Int) (kr:Sl->M α):M α:=
 qy.f k x0 x1 x2 fun r5=>
 kr r5
noncomputable def qp.u1.c:IC:=(.seq (.ops 0 (zd Tryd.f21 0)) (.seq (.ops 1 (zd Tryd.f21 1)) (.ret [6])))
noncomputable def qp.f:Nat->Sl->Int->Int->(Sl->M α)->M α
 | 0, _, _, _, _=>fail
 | k + 1, x0, x1, x2, ret=>
  qp.u1.f k x0 x1 x2 (fun y0=>
   ret y0)
noncomputable def qa.u1.f (k:Nat) (x0 x1 x2:Sl) (kn:Ad->Sl->M α) (kr:TX->M α):M α:=
 new [.slice x0, .slice x1, .slice x2] fun g5=>
 ldS (g5.add 0) fun x6=>
 ldS (g5.add 1) fun x7=>
 ldS (g5.add 2) fun x8=>
 qd.f k x6 x7 x8 fun r9 r10=>
 cond (!(decide (r10 = 0))) (
  kr []) (
  new [.int .u8 103, .int .u8 97, .int .u8 109, .int .u8 101, .int .u8 32] fun r11=>
  ownK (⟨some r11, 5, 5, none⟩:Sl) <|
  ldS ((g5.add 0).add 0) fun x12=>
  qp.f k (⟨some r11, 5, 5, none⟩:Sl) (x12.len:Int) 10 fun r13=>
  new [.int .u8 10] fun r14=>
  jk r13 1 1 (⟨some r14, 1, 1, none⟩:Sl) fun x15=>
  kn g5 x15)
noncomputable def qa.u1.c (R:IC):IC:=(.seq (.ops 0 (zd Tryd.f12 0)) (.seq (.seq (.ops 1 (zd Tryd.f12 1)) (.seq (.ops 2 (zd Tryd.f12 2)) (.cond (.tmp 18) (.seq (.ops 3 (zd Tryd.f12 3)) (.ret [2])) .skip))) (.seq (.ops 4 (zd Tryd.f12 4)) (.seq (.cut [1, 5] (.ops 5 (zd Tryd.f12 5))) R))))
noncomputable def qa.u2.f (k:Nat) (x0:Ad) (x1:Sl) (kn:Ad->Sl->Sl->Int->Int->M α):M α:=
 ldS ((x0.add 2).add 0) fun x4=>
 kn x0 x1 x4 (x4.len:Int) 0
noncomputable def qa.u2.c (R:IC):IC:=(.seq (.cut [1, 5, 29, 30, 31] (.ops 6 (zd Tryd.f12 6))) R)
noncomputable def qa.u3.f (k:Nat) (x0:Ad) (x1 x2:Sl) (x3 x4:Int) (kn:Ad->Sl->Sl->Int->Int->M α) (kx0:Sl->M α):M α:=
 cond (decide (x4 < x3)) (
  kn x0 x1 x2 x3 x4) (
  kx0 x1)
noncomputable def qa.u3.c (R:IC):IC:=(.seq (.ops 7 (zd Tryd.f12 7)) (.seq (.cut [1, 5, 29, 30, 31] (.cond (.tmp 32) .skip (.exit 0 [5]))) R))
noncomputable def qa.u4.f (k:Nat) (x0:Ad) (x1 x2:Sl) (x3 x4:Int) (kn:Ad->Sl->Int->Sl->Sl->Int->Int->M α):M α:=
 idxSl x2 x4 1 fun a7=>
 ldS (a7.add 0) fun x8=>
 kn x0 x1 x4 x8 x2 x3 x4
noncomputable def qa.u4.c (R:IC):IC:=(.seq (.cut [1, 5, 6, 7, 29, 30, 31] (.ops 8 (zd Tryd.f12 8))) R)
noncomputable def qa.u5.f (k:Nat) (x0:Ad) (x1:Sl) (x2:Int) (x3 x4:Sl) (x5 x6:Int) (kn:Ad->Sl->Sl->Sl->Int->Int->Sl->Int->Int->M α):M α:=
 ldS ((x0.add 0).add 0) fun x9=>
 idxSl x9 x2 1 fun a10=>
 ldI .i64 (a10.add 0) fun x11=>
 ldS ((x0.add 1).add 0) fun x12=>
 idxSl x12 x2 1 fun a13=>
 ldI .i64 (a13.add 0) fun x14=>
 new [.int .i64 x2, .int .i64 x11, .int .i64 x14] fun r15=>
 kn x0 x1 x3 x4 x5 x6 (⟨some r15, 3, 3, none⟩:Sl) (((⟨some r15, 3, 3, none⟩:Sl).len:Int)) 0
noncomputable def qa.u5.c (R:IC):IC:=(.seq (.cut [1, 5, 7, 29, 30, 31, 47, 48, 49] (.drawn 9 (zd Tryd.f12 9) true [.op 0, .op 1, .op 2, .op 3, .op 4, .op 5, .op 6, .op 7, .op 8, .op 9, .op 10, .op 13, .op 11, .op 12])) R)
noncomputable def qa.u6.f (k:Nat) (x0:Ad) (x1 x2 x3:Sl) (x4 x5:Int) (x6:Sl) (x7 x8:Int) (kn:Ad->Sl->Sl->Sl->Int->Int->Sl->Int->Int->M α) (kx2:Ad->Sl->Sl->Sl->Int->Int->M α):M α:=
 cond (decide (x8 < x7)) (
  idxSl x6 x8 1 fun a11=>
  ldI .i64 (a11.add 0) fun x12=>
  qp.f k x1 x12 10 fun r13=>
  new [.int .u8 32] fun r14=>
  jk r13 1 1 (⟨some r14, 1, 1, none⟩:Sl) fun x15=>
  kn x0 x15 x2 x3 x4 x5 x6 x7 (w64 (x8 + 1))) (
  kx2 x0 x1 x2 x3 x4 x5)
noncomputable def qa.u6.c:IC:=(.seq (.ops 10 (zd Tryd.f12 10)) (.seq (.cond (.tmp 50) .skip (.exit 2 [1, 5, 7, 29, 30, 31])) (.seq (.block 3 (.seq (.ops 11 (zd Tryd.f12 11)) (.ops 12 (zd Tryd.f12 12)))) (.cut [1, 5, 7, 29, 30, 31, 47, 48, 49] (.ops 13 (zd Tryd.f12 13))))))
noncomputable def qa.u7.l (k:Nat) (kx2:Ad->Sl->Sl->Sl->Int->Int->M α):Nat->Ad->Sl->Sl->Sl->Int->Int->Sl->Int->Int->M α
 | 0, _, _, _, _, _, _, _, _, _=>fail
 | j + 1, x0, x1, x2, x3, x4, x5, x6, x7, x8=>
  qa.u6.f k x0 x1 x2 x3 x4 x5 x6 x7 x8 (fun y0 y1 y2 y3 y4 y5 y6 y7 y8=>qa.u7.l k kx2 j y0 y1 y2 y3 y4 y5 y6 y7 y8) kx2
noncomputable abbrev qa.u7.f (k:Nat) (x0:Ad) (x1 x2 x3:Sl) (x4 x5:Int) (x6:Sl) (x7 x8:Int) (kx2:Ad->Sl->Sl->Sl->Int->Int->M α):M α:=
 qa.u7.l k kx2 k x0 x1 x2 x3 x4 x5 x6 x7 x8
noncomputable def qa.u7.c:IC:=.loop [1, 5, 7, 29, 30, 31, 47, 48, 49] qa.u6.c
noncomputable abbrev qa.u8.f (k:Nat) (x0:Ad) (x1 x2 x3:Sl) (x4 x5:Int) (x6:Sl) (x7 x8:Int) (kn:Ad->Sl->Sl->Sl->Int->Int->M α):M α:=
 qa.u7.f k x0 x1 x2 x3 x4 x5 x6 x7 x8 (fun y0 y1 y2 y3 y4 y5=>kn y0 y1 y2 y3 y4 y5)
noncomputable def qa.u8.c:IC:=.block 2 qa.u7.c
noncomputable abbrev qa.u9.f (k:Nat) (x0:Ad) (x1:Sl) (x2:Int) (x3 x4:Sl) (x5 x6:Int) (kn:Ad->Sl->Sl->Sl->Int->Int->M α):M α:=
 qa.u5.f k x0 x1 x2 x3 x4 x5 x6 (fun y0 y1 y2 y3 y4 y5 y6 y7 y8=>qa.u8.f k y0 y1 y2 y3 y4 y5 y6 y7 y8 kn)
noncomputable def qa.u9.c:IC:=qa.u5.c qa.u8.c
noncomputable def qa.u10.f (k:Nat) (x0:Ad) (x1 x2 x3:Sl) (x4 x5:Int) (kn:Ad->Sl->Sl->Sl->Int->Int->M α):M α:=
 new [.int .u8 58] fun r8=>
 jk x1 1 1 (⟨some r8, 1, 1, none⟩:Sl) fun x9=>
 kn x0 x9 x2 x3 x4 x5
noncomputable def qa.u10.c (R:IC):IC:=(.seq (.cut [1, 5, 7, 29, 30, 31] (.ops 14 (zd Tryd.f12 14))) R)
noncomputable def qa.u11.f (k:Nat) (x0:Ad) (x1 x2 x3:Sl) (x4 x5:Int) (kn:Ad->Sl->Sl->Int->Int->Sl->Int->Int->M α):M α:=
 kn x0 x1 x3 x4 x5 x2 (x2.len:Int) 0
noncomputable def qa.u11.c (R:IC):IC:=(.seq (.cut [1, 5, 29, 30, 31, 62, 63, 64] (.ops 15 (zd Tryd.f12 15))) R)
noncomputable def qa.u12.f (k:Nat) (x0:Ad) (x1 x2:Sl) (x3 x4:Int) (x5:Sl) (x6 x7:Int) (kn:Ad->Sl->Sl->Int->Int->Sl->Int->Int->M α) (kx4:Ad->Sl->Sl->Int->Int->M α):M α:=
 cond (decide (x7 < x6)) (
  idxSl x5 x7 1 fun a10=>
  ldI .i64 (a10.add 0) fun x11=>
  new [.int .u8 32] fun r12=>
  jk x1 1 1 (⟨some r12, 1, 1, none⟩:Sl) fun x13=>
  qp.f k x13 x11 10 fun r14=>
  kn x0 r14 x2 x3 x4 x5 x6 (w64 (x7 + 1))) (
  kx4 x0 x1 x2 x3 x4)
noncomputable def qa.u12.c:IC:=(.seq (.ops 16 (zd Tryd.f12 16)) (.seq (.cond (.tmp 65) .skip (.exit 4 [1, 5, 29, 30, 31])) (.seq (.block 5 (.seq (.ops 17 (zd Tryd.f12 17)) (.ops 18 (zd Tryd.f12 18)))) (.cut [1, 5, 29, 30, 31, 62, 63, 64] (.ops 19 (zd Tryd.f12 19))))))
noncomputable def qa.u13.l (k:Nat) (kx4:Ad->Sl->Sl->Int->Int->M α):Nat->Ad->Sl->Sl->Int->Int->Sl->Int->Int->M α
 | 0, _, _, _, _, _, _, _, _=>fail
 | j + 1, x0, x1, x2, x3, x4, x5, x6, x7=>
  qa.u12.f k x0 x1 x2 x3 x4 x5 x6 x7 (fun y0 y1 y2 y3 y4 y5 y6 y7=>qa.u13.l k kx4 j y0 y1 y2 y3 y4 y5 y6 y7) kx4
noncomputable abbrev qa.u13.f (k:Nat) (x0:Ad) (x1 x2:Sl) (x3 x4:Int) (x5:Sl) (x6 x7:Int) (kx4:Ad->Sl->Sl->Int->Int->M α):M α:=
 qa.u13.l k kx4 k x0 x1 x2 x3 x4 x5 x6 x7
noncomputable def qa.u13.c:IC:=.loop [1, 5, 29, 30, 31, 62, 63, 64] qa.u12.c
noncomputable abbrev qa.u14.f (k:Nat) (x0:Ad) (x1 x2:Sl) (x3 x4:Int) (x5:Sl) (x6 x7:Int) (kn:Ad->Sl->Sl->Int->Int->M α):M α:=
 qa.u13.f k x0 x1 x2 x3 x4 x5 x6 x7 (fun y0 y1 y2 y3 y4=>kn y0 y1 y2 y3 y4)
noncomputable def qa.u14.c:IC:=.block 4 qa.u13.c
noncomputable abbrev qa.u15.f (k:Nat) (x0:Ad) (x1 x2 x3:Sl) (x4 x5:Int) (kn:Ad->Sl->Sl->Int->Int->M α):M α:=
 qa.u11.f k x0 x1 x2 x3 x4 x5 (fun y0 y1 y2 y3 y4 y5 y6 y7=>qa.u14.f k y0 y1 y2 y3 y4 y5 y6 y7 kn)
noncomputable def qa.u15.c:IC:=qa.u11.c qa.u14.c
noncomputable def qa.u16.f (k:Nat) (x0:Ad) (x1 x2:Sl) (x3 x4:Int) (kn:Ad->Sl->Sl->Int->Int->M α):M α:=
 new [.int .u8 10] fun r7=>
 jk x1 1 1 (⟨some r7, 1, 1, none⟩:Sl) fun x8=>
 kn x0 x8 x2 x3 x4
noncomputable def qa.u16.c:IC:=(.cut [1, 5, 29, 30, 31] (.ops 20 (zd Tryd.f12 20)))
noncomputable abbrev qa.u17.f (k:Nat) (x0:Ad) (x1 x2 x3:Sl) (x4 x5:Int) (kn:Ad->Sl->Sl->Int->Int->M α):M α:=
 qa.u15.f k x0 x1 x2 x3 x4 x5 (fun y0 y1 y2 y3 y4=>qa.u16.f k y0 y1 y2 y3 y4 kn)
noncomputable def qa.u17.c:IC:=(.seq qa.u15.c qa.u16.c)
noncomputable abbrev qa.u18.f (k:Nat) (x0:Ad) (x1 x2 x3:Sl) (x4 x5:Int) (kn:Ad->Sl->Sl->Int->Int->M α):M α:=
 qa.u10.f k x0 x1 x2 x3 x4 x5 (fun y0 y1 y2 y3 y4 y5=>qa.u17.f k y0 y1 y2 y3 y4 y5 kn)
noncomputable def qa.u18.c:IC:=qa.u10.c qa.u17.c
noncomputable abbrev qa.u19.f (k:Nat) (x0:Ad) (x1:Sl) (x2:Int) (x3 x4:Sl) (x5 x6:Int) (kn:Ad->Sl->Sl->Int->Int->M α):M α:=
 qa.u9.f k x0 x1 x2 x3 x4 x5 x6 (fun y0 y1 y2 y3 y4 y5=>qa.u18.f k y0 y1 y2 y3 y4 y5 kn)
noncomputable def qa.u19.c:IC:=(.seq qa.u9.c qa.u18.c)
noncomputable abbrev qa.u20.f (k:Nat) (x0:Ad) (x1 x2:Sl) (x3 x4:Int) (kn:Ad->Sl->Sl->Int->Int->M α):M α:=
 qa.u4.f k x0 x1 x2 x3 x4 (fun y0 y1 y2 y3 y4 y5 y6=>qa.u19.f k y0 y1 y2 y3 y4 y5 y6 kn)
noncomputable def qa.u20.c:IC:=qa.u4.c qa.u19.c
noncomputable abbrev qa.u21.f (k:Nat) (x0:Ad) (x1 x2:Sl) (x3 x4:Int) (kn:Ad->Sl->Sl->Int->Int->M α):M α:=
 qa.u20.f k x0 x1 x2 x3 x4 (fun y0 y1 y2 y3 y4=>kn y0 y1 y2 y3 y4)
noncomputable def qa.u21.c:IC:=.block 1 qa.u20.c
noncomputable def qa.u22.f (k:Nat) (x0:Ad) (x1 x2:Sl) (x3 x4:Int) (kn:Ad->Sl->Sl->Int->Int->M α):M α:=
 kn x0 x1 x2 x3 (w64 (x4 + 1))
noncomputable def qa.u22.c:IC:=(.cut [1, 5, 29, 30, 31] (.ops 21 (zd Tryd.f12 21)))
noncomputable abbrev qa.u23.f (k:Nat) (x0:Ad) (x1 x2:Sl) (x3 x4:Int) (kn:Ad->Sl->Sl->Int->Int->M α):M α:=
 qa.u21.f k x0 x1 x2 x3 x4 (fun y0 y1 y2 y3 y4=>qa.u22.f k y0 y1 y2 y3 y4 kn)
noncomputable def qa.u23.c:IC:=(.seq qa.u21.c qa.u22.c)
noncomputable abbrev qa.u24.f (k:Nat) (x0:Ad) (x1 x2:Sl) (x3 x4:Int) (kn:Ad->Sl->Sl->Int->Int->M α) (kx0:Sl->M α):M α:=
 qa.u3.f k x0 x1 x2 x3 x4 (fun y0 y1 y2 y3 y4=>qa.u23.f k y0 y1 y2 y3 y4 kn) kx0
noncomputable def qa.u24.c:IC:=qa.u3.c qa.u23.c
noncomputable def qa.u25.l (k:Nat) (kx0:Sl->M α):Nat->Ad->Sl->Sl->Int->Int->M α
 | 0, _, _, _, _, _=>fail
 | j + 1, x0, x1, x2, x3, x4=>
  qa.u24.f k x0 x1 x2 x3 x4 (fun y0 y1 y2 y3 y4=>qa.u25.l k kx0 j y0 y1 y2 y3 y4) kx0
noncomputable abbrev qa.u25.f (k:Nat) (x0:Ad) (x1 x2:Sl) (x3 x4:Int) (kx0:Sl->M α):M α:=
 qa.u25.l k kx0 k x0 x1 x2 x3 x4
noncomputable def qa.u25.c:IC:=.loop [1, 5, 29, 30, 31] qa.u24.c
noncomputable abbrev qa.u26.f (k:Nat) (x0:Ad) (x1 x2:Sl) (x3 x4:Int) (kn:Sl->M α):M α:=
 qa.u25.f k x0 x1 x2 x3 x4 (fun y0=>kn y0)
noncomputable def qa.u26.c:IC:=.block 0 qa.u25.c
noncomputable abbrev qa.u27.f (k:Nat) (x0:Ad) (x1:Sl) (kn:Sl->M α):M α:=
 qa.u2.f k x0 x1 (fun y0 y1 y2 y3 y4=>qa.u26.f k y0 y1 y2 y3 y4 kn)
noncomputable def qa.u27.c:IC:=qa.u2.c qa.u26.c
noncomputable def qa.u28.f (k:Nat) (x0:Sl) (kr:TX->M α):M α:=
 rdSl x0 1 fun cs3=>
 zko cs3 fun x4=>
 kr x4
noncomputable def qa.u28.c:IC:=(.seq (.ops 22 (zd Tryd.f12 22)) (.ret [2]))
noncomputable abbrev qa.u29.f (k:Nat) (x0:Ad) (x1:Sl) (kr:TX->M α):M α:=
 qa.u27.f k x0 x1 (fun y0=>qa.u28.f k y0 kr)
noncomputable def qa.u29.c:IC:=(.seq qa.u27.c qa.u28.c)
noncomputable abbrev qa.u30.f (k:Nat) (x0 x1 x2:Sl) (kr:TX->M α):M α:=
 qa.u1.f k x0 x1 x2 (fun y0 y1=>qa.u29.f k y0 y1 kr) kr
noncomputable def qa.u30.c:IC:=qa.u1.c qa.u29.c
noncomputable def qa.f:Nat->Sl->Sl->Sl->(TX->M α)->M α
 | 0, _, _, _, _=>fail
 | k + 1, x0, x1, x2, ret=>
  qa.u30.f k x0 x1 x2 (fun y0=>
   ret y0)
noncomputable def qv.u1.f (k:Nat) (kr:Bool->M α):M α:=
 cat [32, 10] lit2 fun x2=>
 cat x2 [35, 32, 116, 104, 101, 32, 101, 110, 100] fun x3=>
 qj.f k x3 fun r4 r5 r6 r7=>
 new [.slice Sl.nil, .slice Sl.nil, .slice Sl.nil] fun g8=>
 st1 (g8.add 0) (.slice r4) <|
 st1 (g8.add 1) (.slice r5) <|
 st1 (g8.add 2) (.slice r6) <|
 qj.f k [103, 97, 109, 101, 32, 49, 10, 48, 32, 48, 32, 48, 32, 58, 32, 53] fun r9 r10 r11 r12=>
 new [.slice Sl.nil, .slice Sl.nil, .slice Sl.nil] fun x13=>
 st1 (x13.add 0) (.slice r9) <|
 st1 (x13.add 1) (.slice r10) <|
 st1 (x13.add 2) (.slice r11) <|
 qt.f k r12 fun r14 r15=>
 asNil r7 fun b16=>
 cond (b16) (
  ldS ((g8.add 0).add 0) fun x17=>
  cond (decide ((x17.len:Int) = 3)) (
   ldS ((g8.add 1).add 0) fun x18=>
   idxSl x18 2 1 fun a19=>
   ldI .i64 (a19.add 0) fun x20=>
   cond (decide (x20 = 7)) (
    ldS (g8.add 0) fun x21=>
    ldS (g8.add 1) fun x22=>
    ldS (g8.add 2) fun x23=>
    qa.f k x21 x22 x23 fun r24=>
    cond (decide (r24 = lit2)) (
     cond (decide (r14 = 15)) (
      kr (decide (r15 = 16))) (
      kr false)) (
     kr false)) (
    kr false)) (
   kr false)) (
  kr false)
noncomputable def qv.u1.c:IC:=(.seq (.ops 0 (zd Tryd.f10 0)) (.seq (.ops 1 (zd Tryd.f10 1)) (.seq (.ops 2 (zd Tryd.f10 2)) (.seq (.ops 3 (zd Tryd.f10 3)) (.seq (.ops 4 (zd Tryd.f10 4)) (.seq (.ops 5 (zd Tryd.f10 5)) (.ret [0])))))))
noncomputable def qv.f:Nat->(Bool->M α)->M α
 | 0, _=>fail
 | k + 1, ret=>
  qv.u1.f k (fun y0=>
   ret y0)
noncomputable def qq.u1.f (k:Nat) (x0 x1:Int) (kr:Int->M α):M α:=
 cond (decide (x0 < 0)) (
  need (!decide (x1 = 0)) <|
  kr (Int.tmod (w64 (0 - w64 (x0 + 1))) x1)) (
  need (!decide (x1 = 0)) <|
  kr (Int.tmod x0 x1))
noncomputable def qq.u1.c:IC:=(.seq (.ops 0 (zd Tryd.f20 0)) (.seq (.seq (.ops 1 (zd Tryd.f20 1)) (.cond (.tmp 6) (.ops 2 (zd Tryd.f20 2)) .skip)) (.seq (.ops 3 (zd Tryd.f20 3)) (.ret [4]))))
noncomputable def qq.f:Nat->Int->Int->(Int->M α)->M α
 | 0, _, _, _=>fail
 | k + 1, x0, x1, ret=>
  qq.u1.f k x0 x1 (fun y0=>
   ret y0)
noncomputable def qc.u1.f (k:Nat) (x0 x1 x2:Sl) (x3 x4:Int) (kn:Int->Int->Ad->TX->Sl->Int->M α) (kr:Bool->M α):M α:=
 new [.slice x0, .slice x1, .slice x2] fun g7=>
 qv.f k fun r8=>
 ldS (g7.add 0) fun x9=>
 ldS (g7.add 1) fun x10=>
 ldS (g7.add 2) fun x11=>
 qa.f k x9 x10 x11 fun r12=>
 cond (!r8) (
  kr r8) (
  cond (decide (r12 = [])) (
   kr r8) (
   kn x3 x4 g7 r12 Sl.nil 0))
noncomputable def qc.u1.c (R:IC):IC:=(.seq (.ops 0 (zd Tryd.f9 0)) (.seq (.ops 1 (zd Tryd.f9 1)) (.seq (.ops 2 (zd Tryd.f9 2)) (.seq (.seq (.ops 3 (zd Tryd.f9 3)) (.cond (.tmp 29) (.seq (.ops 4 (zd Tryd.f9 4)) (.ret [6])) .skip)) (.seq (.ops 5 (zd Tryd.f9 5)) (.seq (.cut [1, 2, 3, 8, 9, 10] (.ops 6 (zd Tryd.f9 6))) R))))))
noncomputable def qc.u2.f (k:Nat) (x0 x1:Int) (x2:Ad) (x3:TX) (x4:Sl) (x5:Int) (kn:Int->Int->Ad->TX->Sl->Int->Int->M α):M α:=
 kn x0 x1 x2 x3 x4 x5 0
noncomputable def qc.u2.c (R:IC):IC:=(.seq (.cut [1, 2, 3, 8, 9, 10, 11] (.ops 7 (zd Tryd.f9 7))) R)
noncomputable def qc.u3.f (k:Nat) (x0 x1:Int) (x2:Ad) (x3:TX) (x4:Sl) (x5 x6:Int) (kn:Int->Int->Ad->TX->Sl->Int->Int->M α) (kx0:Int->Int->Ad->Sl->M α):M α:=
 cond (decide (x6 < (x3.length:Int))) (
  idxStr x3 x6 fun c9=>
  cond (decide (c9 = 10)) (
   cutStr x3 (some x5) (some (w64 (x6 + 1))) fun x10=>
   new [.str x10] fun r11=>
   jk x4 1 16 (⟨some r11, 1, 1, none⟩:Sl) fun x12=>
   kn x0 x1 x2 x3 x12 (w64 (x6 + 1)) (w64 (x6 + 1))) (
   kn x0 x1 x2 x3 x4 x5 (w64 (x6 + 1)))) (
  kx0 x0 x1 x2 x4)
noncomputable def qc.u3.c:IC:=(.seq (.seq (.ops 8 (zd Tryd.f9 8)) (.cond (.tmp 34) .skip (.exit 0 [1, 2, 3, 9]))) (.seq (.block 1 (.seq (.ops 10 (zd Tryd.f9 10)) (.cond (.tmp 40) (.seq (.ops 11 (zd Tryd.f9 11)) (.ops 12 (zd Tryd.f9 12))) .skip))) (.cut [1, 2, 3, 8, 9, 10, 11] (.ops 9 (zd Tryd.f9 9)))))
noncomputable def qc.u4.l (k:Nat) (kx0:Int->Int->Ad->Sl->M α):Nat->Int->Int->Ad->TX->Sl->Int->Int->M α
 | 0, _, _, _, _, _, _, _=>fail
 | j + 1, x0, x1, x2, x3, x4, x5, x6=>
  qc.u3.f k x0 x1 x2 x3 x4 x5 x6 (fun y0 y1 y2 y3 y4 y5 y6=>qc.u4.l k kx0 j y0 y1 y2 y3 y4 y5 y6) kx0
noncomputable abbrev qc.u4.f (k:Nat) (x0 x1:Int) (x2:Ad) (x3:TX) (x4:Sl) (x5 x6:Int) (kx0:Int->Int->Ad->Sl->M α):M α:=
 qc.u4.l k kx0 k x0 x1 x2 x3 x4 x5 x6
noncomputable def qc.u4.c:IC:=.loop [1, 2, 3, 8, 9, 10, 11] qc.u3.c
noncomputable abbrev qc.u5.f (k:Nat) (x0 x1:Int) (x2:Ad) (x3:TX) (x4:Sl) (x5 x6:Int) (kn:Int->Int->Ad->Sl->M α):M α:=
 qc.u4.f k x0 x1 x2 x3 x4 x5 x6 (fun y0 y1 y2 y3=>kn y0 y1 y2 y3)
noncomputable def qc.u5.c:IC:=.block 0 qc.u4.c
noncomputable abbrev qc.u6.f (k:Nat) (x0 x1:Int) (x2:Ad) (x3:TX) (x4:Sl) (x5:Int) (kn:Int->Int->Ad->Sl->M α):M α:=
 qc.u2.f k x0 x1 x2 x3 x4 x5 (fun y0 y1 y2 y3 y4 y5 y6=>qc.u5.f k y0 y1 y2 y3 y4 y5 y6 kn)
noncomputable def qc.u6.c:IC:=qc.u2.c qc.u5.c
noncomputable def qc.u7.f (k:Nat) (x0 x1:Int) (x2:Ad) (x3:Sl) (kn:Sl->Int->Int->TX->Int->M α) (kr:Bool->M α):M α:=
 ldS ((x2.add 0).add 0) fun x6=>
 cond (!(decide ((x3.len:Int) = w64 ((x6.len:Int) + 1)))) (
  kr false) (
  qq.f k x0 (w64 ((x3.len:Int) - 1)) fun r7=>
  qq.f k x1 (w64 ((x3.len:Int) - 1)) fun r8=>
  cond (decide (w64 (1 + r7) = w64 (1 + r8))) (
   kr true) (
   idxSl x3 (w64 (1 + r8)) 1 fun a9=>
   ldStr (a9.add 0) fun x10=>
   idxSl x3 (w64 (1 + r7)) 1 fun a11=>
   ldStr (a11.add 0) fun x12=>
   idxSl x3 (w64 (1 + r7)) 1 fun a13=>
   st1 (a13.add 0) (.str x10) <|
   idxSl x3 (w64 (1 + r8)) 1 fun a14=>
   st1 (a14.add 0) (.str x12) <|
   kn x3 (w64 (1 + r7)) (w64 (1 + r8)) [] 0))
noncomputable def qc.u7.c (R:IC):IC:=(.seq (.seq (.ops 13 (zd Tryd.f9 13)) (.cond (.tmp 57) (.seq (.ops 14 (zd Tryd.f9 14)) (.ret [6])) .skip)) (.seq (.ops 15 (zd Tryd.f9 15)) (.seq (.ops 16 (zd Tryd.f9 16)) (.seq (.seq (.ops 17 (zd Tryd.f9 17)) (.cond (.tmp 72) (.seq (.ops 18 (zd Tryd.f9 18)) (.ret [6])) .skip)) (.seq (.drawn 19 (zd Tryd.f9 19) true [.op 0, .op 1, .op 2, .op 3, .op 4, .op 5, .op 6, .op 7, .op 8, .op 9, .op 10, .op 11, .op 12, .op 13, .op 14, .op 15]) (.seq (.ops 20 (zd Tryd.f9 20)) (.seq (.cut [9, 12, 13, 14, 15] (.ops 21 (zd Tryd.f9 21))) R)))))))
noncomputable def qc.u8.f (k:Nat) (x0:Sl) (x1 x2:Int) (x3:TX) (x4:Int) (kn:Sl->Int->Int->TX->Int->Int->M α):M α:=
 kn x0 x1 x2 x3 x4 0
noncomputable def qc.u8.c (R:IC):IC:=(.seq (.cut [9, 12, 13, 14, 15, 16] (.ops 22 (zd Tryd.f9 22))) R)
noncomputable def qc.u9.f (k:Nat) (x0:Sl) (x1 x2:Int) (x3:TX) (x4 x5:Int) (kn:Sl->Int->Int->TX->Int->Int->M α) (kx2:TX->Int->M α):M α:=
 cond (decide (x5 < (x0.len:Int))) (
  cond (decide (x5 = if x2 < x1 then x2 else x1)) (
   idxSl x0 x5 1 fun a8=>
   ldStr (a8.add 0) fun x9=>
   cat x3 x9 fun x10=>
   kn x0 x1 x2 x10 (x3.length:Int) (w64 (x5 + 1))) (
   idxSl x0 x5 1 fun a11=>
   ldStr (a11.add 0) fun x12=>
   cat x3 x12 fun x13=>
   kn x0 x1 x2 x13 x4 (w64 (x5 + 1)))) (
  kx2 x3 x4)
noncomputable def qc.u9.c:IC:=(.seq (.seq (.ops 23 (zd Tryd.f9 23)) (.cond (.tmp 90) .skip (.exit 2 [14, 15]))) (.seq (.block 3 (.seq (.seq (.ops 25 (zd Tryd.f9 25)) (.cond (.tmp 97) (.ops 26 (zd Tryd.f9 26)) .skip)) (.ops 27 (zd Tryd.f9 27)))) (.cut [9, 12, 13, 14, 15, 16] (.ops 24 (zd Tryd.f9 24)))))
noncomputable def qc.u10.l (k:Nat) (kx2:TX->Int->M α):Nat->Sl->Int->Int->TX->Int->Int->M α
 | 0, _, _, _, _, _, _=>fail
 | j + 1, x0, x1, x2, x3, x4, x5=>
  qc.u9.f k x0 x1 x2 x3 x4 x5 (fun y0 y1 y2 y3 y4 y5=>qc.u10.l k kx2 j y0 y1 y2 y3 y4 y5) kx2
noncomputable abbrev qc.u10.f (k:Nat) (x0:Sl) (x1 x2:Int) (x3:TX) (x4 x5:Int) (kx2:TX->Int->M α):M α:=
 qc.u10.l k kx2 k x0 x1 x2 x3 x4 x5
noncomputable def qc.u10.c:IC:=.loop [9, 12, 13, 14, 15, 16] qc.u9.c
noncomputable abbrev qc.u11.f (k:Nat) (x0:Sl) (x1 x2:Int) (x3:TX) (x4 x5:Int) (kn:TX->Int->M α):M α:=
 qc.u10.f k x0 x1 x2 x3 x4 x5 (fun y0 y1=>kn y0 y1)
noncomputable def qc.u11.c:IC:=.block 2 qc.u10.c
noncomputable abbrev qc.u12.f (k:Nat) (x0:Sl) (x1 x2:Int) (x3:TX) (x4:Int) (kn:TX->Int->M α):M α:=
 qc.u8.f k x0 x1 x2 x3 x4 (fun y0 y1 y2 y3 y4 y5=>qc.u11.f k y0 y1 y2 y3 y4 y5 kn)
noncomputable def qc.u12.c:IC:=qc.u8.c qc.u11.c
noncomputable def qc.u13.f (k:Nat) (x0:TX) (x1:Int) (kr:Bool->M α):M α:=
 qj.f k x0 fun r4 r5 r6 r7=>
 new [.slice Sl.nil, .slice Sl.nil, .slice Sl.nil] fun h8=>
 st1 (h8.add 0) (.slice r4) <|
 st1 (h8.add 1) (.slice r5) <|
 st1 (h8.add 2) (.slice r6) <|
 qt.f k r7 fun r9 r10=>
 asNil r7 fun b11=>
 cond (!b11) (
  cond (decide (r10 = 8)) (
   cond (decide (r9 = x1)) (
    ldS ((h8.add 0).add 0) fun x12=>
    kr (decide ((x12.len:Int) = 0))) (
    kr false)) (
   kr false)) (
  kr false)
noncomputable def qc.u13.c:IC:=(.seq (.ops 28 (zd Tryd.f9 28)) (.seq (.ops 29 (zd Tryd.f9 29)) (.seq (.ops 30 (zd Tryd.f9 30)) (.ret [6]))))
noncomputable abbrev qc.u14.f (k:Nat) (x0:Sl) (x1 x2:Int) (x3:TX) (x4:Int) (kr:Bool->M α):M α:=
 qc.u12.f k x0 x1 x2 x3 x4 (fun y0 y1=>qc.u13.f k y0 y1 kr)
noncomputable def qc.u14.c:IC:=(.seq qc.u12.c qc.u13.c)
noncomputable abbrev qc.u15.f (k:Nat) (x0 x1:Int) (x2:Ad) (x3:Sl) (kr:Bool->M α):M α:=
 qc.u7.f k x0 x1 x2 x3 (fun y0 y1 y2 y3 y4=>qc.u14.f k y0 y1 y2 y3 y4 kr) kr
noncomputable def qc.u15.c:IC:=qc.u7.c qc.u14.c
noncomputable abbrev qc.u16.f (k:Nat) (x0 x1:Int) (x2:Ad) (x3:TX) (x4:Sl) (x5:Int) (kr:Bool->M α):M α:=
 qc.u6.f k x0 x1 x2 x3 x4 x5 (fun y0 y1 y2 y3=>qc.u15.f k y0 y1 y2 y3 kr)
noncomputable def qc.u16.c:IC:=(.seq qc.u6.c qc.u15.c)
noncomputable abbrev qc.u17.f (k:Nat) (x0 x1 x2:Sl) (x3 x4:Int) (kr:Bool->M α):M α:=
 qc.u1.f k x0 x1 x2 x3 x4 (fun y0 y1 y2 y3 y4 y5=>qc.u16.f k y0 y1 y2 y3 y4 y5 kr) kr
noncomputable def qc.u17.c:IC:=qc.u1.c qc.u16.c
noncomputable def qc.f:Nat->Sl->Sl->Sl->Int->Int->(Bool->M α)->M α
 | 0, _, _, _, _, _, _=>fail
 | k + 1, x0, x1, x2, x3, x4, ret=>
  qc.u17.f k x0 x1 x2 x3 x4 (fun y0=>
   ret y0)
noncomputable def ti:Nat->Option TI
 | 2=>some ⟨Tryd.t2.desc, 1, 8, [.int .i64 0], [.int .i64], false, false⟩
 | 3=>some ⟨Tryd.t3.desc, 1, 8, [.int .i64 0], [.int .i64], false, false⟩
 | 5=>some ⟨Tryd.t5.desc, 1, 1, [.int .u8 0], [.int .u8], false, false⟩
 | 9=>some ⟨Tryd.t9.desc, 1, 16, [.str []], [.str], false, false⟩
 | 22=>some ⟨Tryd.t22.desc, 1, 24, [.slice Sl.nil], [.slice], false, false⟩
 | 23=>some ⟨Tryd.t23.desc, 1, 24, [.slice Sl.nil], [.slice], false, false⟩
 | 25=>some ⟨Tryd.t24.desc, 3, 72, [.slice Sl.nil, .slice Sl.nil, .slice Sl.nil], [.slice, .slice, .slice], true, false⟩
 | 32=>some ⟨Tryd.t31.desc, 1, 16, [.nilIface], [.any], false, false⟩
 | 35=>some ⟨Tryd.t3.desc, 1, 8, [.int .i64 0], [.int .i64], false, false⟩
 | 42=>some ⟨Tryd.t42.desc, 1, 24, [.slice Sl.nil], [.slice], false, false⟩
 | 47=>some ⟨Tryd.t47.desc, 1, 24, [.slice Sl.nil], [.slice], false, false⟩
 | 52=>some ⟨Tryd.t52.desc, 1, 24, [.slice Sl.nil], [.slice], false, false⟩
 | 56=>some ⟨Tryd.t56.desc, 1, 8, [.ptr none], [.ptr], false, false⟩
 | 58=>some ⟨Tryd.t57.desc, 2, 32, [.slice Sl.nil, .ptr none], [.slice, .ptr], true, false⟩
 | 68=>some ⟨Tryd.t67.desc, 4, 40, [.int .i64 0, .int .i64 0, .str [], .int .i64 0], [.int .i64, .int .i64, .str, .int .i64], true, true⟩
 | 71=>some ⟨Tryd.t71.desc, 1, 8, [.ptr none], [.ptr], false, false⟩
 | 73=>some ⟨Tryd.t72.desc, 2, 16, [.int .i64 0, .int .i64 0], [.int .i64, .int .i64], true, true⟩
 | 90=>some ⟨Tryd.t90.desc, 1, 8, [.int .u64 0], [.int .u64], false, false⟩
 | 113=>some ⟨Tryd.t113.desc, 24, 24, [.int .u8 0, .int .u8 0, .int .u8 0, .int .u8 0, .int .u8 0, .int .u8 0, .int .u8 0, .int .u8 0, .int .u8 0, .int .u8 0, .int .u8 0, .int .u8 0, .int .u8 0, .int .u8 0, .int .u8 0, .int .u8 0, .int .u8 0, .int .u8 0, .int .u8 0, .int .u8 0, .int .u8 0, .int .u8 0, .int .u8 0, .int .u8 0], [.int .u8, .int .u8, .int .u8, .int .u8, .int .u8, .int .u8, .int .u8, .int .u8, .int .u8, .int .u8, .int .u8, .int .u8, .int .u8, .int .u8, .int .u8, .int .u8, .int .u8, .int .u8, .int .u8, .int .u8, .int .u8, .int .u8, .int .u8, .int .u8], true, false⟩
 | 121=>some ⟨Tryd.t121.desc, 1, 4, [.int .u32 0], [.int .u32], false, false⟩
 | _=>none
noncomputable def T:Tab:=⟨ti, fun _=>none, fun t=>false⟩
noncomputable def env_67 (k:Nat) (args:List V) (κ:Res->M α):M α:=match args with
 | [a0, a1]=>
   zcs a0 fun x1=>
   asI .u8 a1 fun x2=>
   qae.f k x1 x2 (fun o0=>κ (.ret (.int .i64 o0)))
 | _=>fail
noncomputable def env_37 (k:Nat) (args:List V) (κ:Res->M α):M α:=match args with
 | [a0, a1]=>
   qac.f k a0 a1 (fun o0=>κ (.ret (.bool o0)))
 | _=>fail
noncomputable def env_64 (k:Nat) (args:List V) (κ:Res->M α):M α:=match args with
 | [a0]=>
   asI .u64 a0 fun x1=>
   qab.f k x1 (fun o0=>κ (.ret (.int .i64 o0)))
 | _=>fail
noncomputable def env_66 (k:Nat) (args:List V) (κ:Res->M α):M α:=match args with
 | [a0, a1, a2, a3, a4]=>
   asS a0 fun x1=>
   asI .u64 a1 fun x2=>
   asI .i64 a2 fun x3=>
   asB a3 fun x4=>
   asB a4 fun x5=>
   qad.f k x1 x2 x3 x4 x5 (fun o0 o1=>κ (.ret (.tuple [.slice o0, .str o1])))
 | _=>fail
noncomputable def env_51 (k:Nat) (args:List V) (κ:Res->M α):M α:=match args with
 | [a0, a1]=>
   zcs a0 fun x1=>
   asI .u8 a1 fun x2=>
   qaa.f k x1 x2 (fun o0=>κ (.ret (.int .i64 o0)))
 | _=>fail
noncomputable def env_40 (k:Nat) (args:List V) (κ:Res->M α):M α:=match args with
 | [a0, a1]=>
   zcs a0 fun x1=>
   asI .u8 a1 fun x2=>
   qz.f k x1 x2 (fun o0=>κ (.ret (.int .i64 o0)))
 | _=>fail
noncomputable def env_52 (k:Nat) (args:List V) (κ:Res->M α):M α:=match args with
 | [a0]=>
   asI .u8 a0 fun x1=>
   qw.f k x1 (fun o0=>κ (.ret (.int .i64 o0)))
 | _=>fail
noncomputable def env_53 (k:Nat) (args:List V) (κ:Res->M α):M α:=match args with
 | [a0, a1]=>
   asI .i64 a0 fun x1=>
   zcs a1 fun x2=>
   qb.f k x1 x2 (fun o0=>κ (.ret (.int .i64 o0)))
 | _=>fail
noncomputable def env_54 (k:Nat) (args:List V) (κ:Res->M α):M α:=match args with
 | [a0]=>
   zcs a0 fun x1=>
   qh.f k x1 (fun o0 o1=>κ (.ret (.tuple [.int .i64 o0, .bool o1])))
 | _=>fail
noncomputable def env_41 (k:Nat) (args:List V) (κ:Res->M α):M α:=match args with
 | [a0, a1]=>
   zcs a0 fun x1=>
   asI .i64 a1 fun x2=>
   qx.f k x1 x2 (fun o0 o1 o2 o3 o4=>κ (.ret (.tuple [.agg [.int .i64 o0, .int .i64 o1, .str o2, .int .i64 o3], .int .i64 o4])))
 | _=>fail
noncomputable def env_25 (k:Nat) (args:List V) (κ:Res->M α):M α:=match args with
 | [a0]=>
   zcs a0 fun x1=>
   qi.f k x1 (fun o0 o1=>κ (.ret (.tuple [.slice o0, o1])))
 | _=>fail
noncomputable def env_42 (k:Nat) (args:List V) (κ:Res->M α):M α:=match args with
 | [a0]=>
   asP a0 fun x1=>
   asSome x1 fun p2=>
   qn.f k p2 (fun o0 o1 o2 o3=>κ (.ret (.agg [.int .i64 o0, .int .i64 o1, .str o2, .int .i64 o3])))
 | _=>fail
noncomputable def env_26 (k:Nat) (args:List V) (κ:Res->M α):M α:=match args with
 | [a0]=>
   asP a0 fun x1=>
   asSome x1 fun p2=>
   ql.f k p2 (κ (.ret (.tuple [])))
 | _=>fail
noncomputable def env_43 (k:Nat) (args:List V) (κ:Res->M α):M α:=match args with
 | [a0, a1]=>
   asP a0 fun x1=>
   asSome x1 fun p2=>
   asI .i64 a1 fun x3=>
   qm.f k p2 x3 (κ (.ret (.tuple [])))
 | _=>fail
noncomputable def env_27 (k:Nat) (args:List V) (κ:Res->M α):M α:=match args with
 | [a0, a1, a2]=>
   asP a0 fun x1=>
   asSome x1 fun p2=>
   asI .i64 a1 fun x3=>
   zcs a2 fun x4=>
   qf.f k p2 x3 x4 (fun o0=>κ (.ret (.int .i64 o0)))
 | _=>fail
noncomputable def env_28 (k:Nat) (args:List V) (κ:Res->M α):M α:=match args with
 | [a0, a1, a2, a3]=>
   asP a0 fun x1=>
   asSome x1 fun p2=>
   asI .i64 a1 fun x3=>
   asI .i64 a2 fun x4=>
   asI .i64 a3 fun x5=>
   qo.f k p2 x3 x4 x5 (fun o0=>κ (.ret (.int .i64 o0)))
 | _=>fail
noncomputable def env_29 (k:Nat) (args:List V) (κ:Res->M α):M α:=match args with
 | [a0]=>
   asP a0 fun x1=>
   asSome x1 fun p2=>
   qr.f k p2 (κ (.ret (.tuple [])))
 | _=>fail
noncomputable def env_30 (k:Nat) (args:List V) (κ:Res->M α):M α:=match args with
 | [a0, a1]=>
   asP a0 fun x1=>
   asSome x1 fun p2=>
   asI .i64 a1 fun x3=>
   qk.f k p2 x3 (fun o0=>κ (.ret (.slice o0)))
 | _=>fail
noncomputable def env_15 (k:Nat) (args:List V) (κ:Res->M α):M α:=match args with
 | [a0]=>
   zcs a0 fun x1=>
   qj.f k x1 (fun o0 o1 o2 o3=>κ (.ret (.tuple [.agg [.slice o0, .slice o1, .slice o2], o3])))
 | _=>fail
noncomputable def env_17 (k:Nat) (args:List V) (κ:Res->M α):M α:=match args with
 | [a0]=>
   qt.f k a0 (fun o0 o1=>κ (.ret (.tuple [.int .i64 o0, .int .i64 o1])))
 | _=>fail
noncomputable def env_18 (k:Nat) (args:List V) (κ:Res->M α):M α:=match args with
 | [a0]=>
   asAgg a0 fun l1=>
   zbt l1 fun v2 l3=>
   asS v2 fun x4=>
   zbt l3 fun v5 l6=>
   asS v5 fun x7=>
   zbt l6 fun v8 l9=>
   asS v8 fun x10=>
   unnil l9 <|
   qd.f k x4 x7 x10 (fun o0 o1=>κ (.ret (.tuple [.int .i64 o0, .int .i64 o1])))
 | _=>fail
noncomputable def env_63 (k:Nat) (args:List V) (κ:Res->M α):M α:=match args with
 | [a0]=>
   asI .i64 a0 fun x1=>
   qu.f k x1 (fun o0=>κ (.ret (.str o0)))
 | _=>fail
noncomputable def env_65 (k:Nat) (args:List V) (κ:Res->M α):M α:=match args with
 | [a0, a1]=>
   asS a0 fun x1=>
   asI .u64 a1 fun x2=>
   qg.f k x1 x2 (κ (.ret (.tuple [])))
 | _=>fail
noncomputable def env_50 (k:Nat) (args:List V) (κ:Res->M α):M α:=match args with
 | [a0, a1, a2]=>
   asS a0 fun x1=>
   asI .u64 a1 fun x2=>
   asI .i64 a2 fun x3=>
   qs.f k x1 x2 x3 (fun o0=>κ (.ret (.slice o0)))
 | _=>fail
noncomputable def env_38 (k:Nat) (args:List V) (κ:Res->M α):M α:=match args with
 | [a0, a1, a2]=>
   asS a0 fun x1=>
   asI .i64 a1 fun x2=>
   asI .i64 a2 fun x3=>
   qy.f k x1 x2 x3 (fun o0=>κ (.ret (.slice o0)))
 | _=>fail
noncomputable def env_21 (k:Nat) (args:List V) (κ:Res->M α):M α:=match args with
 | [a0, a1, a2]=>
   asS a0 fun x1=>
   asI .i64 a1 fun x2=>
   asI .i64 a2 fun x3=>
   qp.f k x1 x2 x3 (fun o0=>κ (.ret (.slice o0)))
 | _=>fail
noncomputable def env_12 (k:Nat) (args:List V) (κ:Res->M α):M α:=match args with
 | [a0]=>
   asAgg a0 fun l1=>
   zbt l1 fun v2 l3=>
   asS v2 fun x4=>
   zbt l3 fun v5 l6=>
   asS v5 fun x7=>
   zbt l6 fun v8 l9=>
   asS v8 fun x10=>
   unnil l9 <|
   qa.f k x4 x7 x10 (fun o0=>κ (.ret (.str o0)))
 | _=>fail
noncomputable def env_10 (k:Nat) (args:List V) (κ:Res->M α):M α:=match args with
 | []=>
   qv.f k (fun o0=>κ (.ret (.bool o0)))
 | _=>fail
noncomputable def env_20 (k:Nat) (args:List V) (κ:Res->M α):M α:=match args with
 | [a0, a1]=>
   asI .i64 a0 fun x1=>
   asI .i64 a1 fun x2=>
   qq.f k x1 x2 (fun o0=>κ (.ret (.int .i64 o0)))
 | _=>fail
noncomputable def env_9 (k:Nat) (args:List V) (κ:Res->M α):M α:=match args with
 | [a0, a1, a2]=>
   asAgg a0 fun l1=>
   zbt l1 fun v2 l3=>
   asS v2 fun x4=>
   zbt l3 fun v5 l6=>
   asS v5 fun x7=>
   zbt l6 fun v8 l9=>
   asS v8 fun x10=>
   unnil l9 <|
   asI .i64 a1 fun x11=>
   asI .i64 a2 fun x12=>
   qc.f k x4 x7 x10 x11 x12 (fun o0=>κ (.ret (.bool o0)))
 | _=>fail
noncomputable def env (k:Nat):Call α:=fun f args κ=>match f with
 | 67=>env_67 k args κ
 | 37=>env_37 k args κ
 | 64=>env_64 k args κ
 | 66=>env_66 k args κ
 | 51=>env_51 k args κ
 | 40=>env_40 k args κ
 | 52=>env_52 k args κ
 | 53=>env_53 k args κ
 | 54=>env_54 k args κ
 | 41=>env_41 k args κ
 | 25=>env_25 k args κ
 | 42=>env_42 k args κ
 | 26=>env_26 k args κ
 | 43=>env_43 k args κ
 | 27=>env_27 k args κ
 | 28=>env_28 k args κ
 | 29=>env_29 k args κ
 | 30=>env_30 k args κ
 | 15=>env_15 k args κ
 | 17=>env_17 k args κ
 | 18=>env_18 k args κ
 | 63=>env_63 k args κ
 | 65=>env_65 k args κ
 | 50=>env_50 k args κ
 | 38=>env_38 k args κ
 | 21=>env_21 k args κ
 | 12=>env_12 k args κ
 | 10=>env_10 k args κ
 | 20=>env_20 k args κ
 | 9=>env_9 k args κ
 | _=>fail
noncomputable abbrev eC (k:Nat):IC->zb->KF α->M α:=fun c ρ K=>evC T (env k) k c ρ K
noncomputable def qaa.c:IC:=qaa.u1.c
noncomputable def qaa.res:List ResultVar:=[(.tmp 4)]
theorem qaa.u1.ok (k:Nat) (x0:TX) (x1:Int) (K:KF α) :
  eC k qaa.u1.c (fr0 x0 x1) K =
   qaa.u1.f k x0 x1 (fun y0=>K .ret (fr1 y0)):=by kernel_rfl
theorem qaa.ok (k:Nat) (x0:TX) (x1:Int) (κ:Res->M α) :
  evF T (env k) k qaa.c qaa.res [.str x0, .int .u8 x1] κ = qaa.f (k + 1) x0 x1 (fun o0=>κ (.ret (.int .i64 o0))):=
 (qaa.u1.ok k x0 x1 (retK T qaa.res κ)).trans (by kernel_rfl)
theorem qaa.code:qaa.c.code = jv Tryd.f51:=by kernel_rfl
noncomputable def qz.c:IC:=qz.u1.c
noncomputable def qz.res:List ResultVar:=[(.tmp 4)]
theorem qz.u1.ok (k:Nat) (x0:TX) (x1:Int) (K:KF α) :
  eC k qz.u1.c (fr0 x0 x1) K =
   qz.u1.f k x0 x1 (fun y0=>K .ret (fr1 y0)):=by kernel_rfl
theorem qz.ok (k:Nat) (x0:TX) (x1:Int) (κ:Res->M α) :
  evF T (env k) k qz.c qz.res [.str x0, .int .u8 x1] κ = qz.f (k + 1) x0 x1 (fun o0=>κ (.ret (.int .i64 o0))):=
 (qz.u1.ok k x0 x1 (retK T qz.res κ)).trans (by kernel_rfl)
theorem qz.code:qz.c.code = jv Tryd.f40:=by kernel_rfl
noncomputable def qw.c:IC:=qw.u1.c
noncomputable def qw.res:List ResultVar:=[(.tmp 2)]
theorem qw.u1.ok (k:Nat) (x0:Int) (K:KF α) :
  eC k qw.u1.c (fr2 x0) K =
   qw.u1.f k x0 (fun y0=>K .ret (fr3 y0)):=by kernel_rfl
theorem qw.ok (k:Nat) (x0:Int) (κ:Res->M α) :
  evF T (env k) k qw.c qw.res [.int .u8 x0] κ = qw.f (k + 1) x0 (fun o0=>κ (.ret (.int .i64 o0))):=
 (qw.u1.ok k x0 (retK T qw.res κ)).trans (by kernel_rfl)
theorem qw.code:qw.c.code = jv Tryd.f52:=by kernel_rfl
noncomputable def qb.c:IC:=qb.u20.c
noncomputable def qb.res:List ResultVar:=[(.tmp 4)]
theorem qb.u1.ok (k:Nat) (x0:Int) (x1:TX) (R:IC) (K:KF α) :
  eC k (qb.u1.c R) (fr4 x0 x1) K =
   qb.u1.f k x0 x1 (fun y0 y1 y2=>eC k R (fr5 y0 y1 y2) K):=by kernel_rfl
theorem qb.u2.ok (k:Nat) (x0:Int) (x1:TX) (x2:Int) (R:IC) (K:KF α) :
  eC k (qb.u2.c R) (fr5 x0 x1 x2) K =
   qb.u2.f k x0 x1 x2 (fun y0 y1 y2=>eC k R (fr6 y0 y1 y2) K):=by kernel_rfl
theorem qb.u3.ok (k:Nat) (x0:TX) (x1 x2:Int) (R:IC) (K:KF α) :
  eC k (qb.u3.c R) (fr6 x0 x1 x2) K =
   qb.u3.f k x0 x1 x2 (fun y0 y1 y2 y3=>eC k R (fr7 y0 y1 y2 y3) K):=by kernel_rfl
theorem qb.u4.ok (k:Nat) (x0:TX) (x1:Int) (K:KF α) :
  eC k qb.u4.c (fr8 x0 x1) K =
   qb.u4.f k x0 x1 (fun y0 y1=>K .normal (fr8 y0 y1)) (fun y0=>K (.exit 1) (fr9 y0)):=by kernel_rfl
theorem qb.u5.ls (k:Nat) (kx1:Int->M α) (j:Nat) (x0:TX) (x1:Int):qb.u5.l k kx1 (j + 1) x0 x1 =
 qb.u4.f k x0 x1 (fun y0 y1=>qb.u5.l k kx1 j y0 y1) kx1:=rfl
theorem qb.u5.okl (k:Nat) (K:KF α):∀ (j:Nat) (x0:TX) (x1:Int),
  zu (eC k qb.u4.c) [1, 5] j (fr8 x0 x1) K = qb.u5.l k (fun y0=>K (.exit 1) (fr9 y0)) j x0 x1
 | 0, _, _=>rfl
 | j + 1, x0, x1=>by
   have h:=qb.u4.ok k x0 x1 (seqK (fun ρ=>zu (eC k qb.u4.c) [1, 5] j ρ K) K)
   simp only [zj, zo, zp, zg, qb.u5.okl k K j] at h
   exact (je (by kernel_rfl) h).trans (qb.u5.ls k (fun y0=>K (.exit 1) (fr9 y0)) j x0 x1).symm
theorem qb.u5.ok (k:Nat) (x0:TX) (x1 x2:Int) (x3:Bool) (K:KF α) :
  eC k qb.u5.c (fr7 x0 x1 x2 x3) K =
   qb.u5.f k x0 x1 x2 x3 (fun y0=>K (.exit 1) (fr9 y0)):=
 yi.trans <| (jd (body:=eC k qb.u4.c) (keep:=[1, 5]) (ρ:=(fr7 x0 x1 x2 x3)) (ρ':=(fr8 x0 x1)) (by kernel_rfl) k K).trans (qb.u5.okl k K k x0 x1)
theorem qb.u6.ok (k:Nat) (x0:TX) (x1 x2:Int) (x3:Bool) (K:KF α) :
  eC k qb.u6.c (fr7 x0 x1 x2 x3) K =
   qb.u6.f k x0 x1 x2 x3 (fun y0=>K .normal (fr9 y0)):=
 (jb.trans (qb.u5.ok k x0 x1 x2 x3 (yf 1 K))).trans (by kernel_rfl)
theorem qb.u7.ok (k:Nat) (x0:TX) (x1 x2:Int) (x3:Bool) (R:IC) (K:KF α) :
  eC k (qb.u7.c R) (fr7 x0 x1 x2 x3) K =
   qb.u7.f k x0 x1 x2 x3 (fun y0 y1 y2=>eC k R (fr10 y0 y1 y2) K):=by kernel_rfl
theorem qb.u8.ok (k:Nat) (x0:TX) (x1:Int) (K:KF α) :
  eC k qb.u8.c (fr8 x0 x1) K =
   qb.u8.f k x0 x1 (fun y0 y1=>K .normal (fr8 y0 y1)) (fun y0=>K (.exit 3) (fr9 y0)):=by kernel_rfl
theorem qb.u9.ls (k:Nat) (kx3:Int->M α) (j:Nat) (x0:TX) (x1:Int):qb.u9.l k kx3 (j + 1) x0 x1 =
 qb.u8.f k x0 x1 (fun y0 y1=>qb.u9.l k kx3 j y0 y1) kx3:=rfl
theorem qb.u9.okl (k:Nat) (K:KF α):∀ (j:Nat) (x0:TX) (x1:Int),
  zu (eC k qb.u8.c) [1, 5] j (fr8 x0 x1) K = qb.u9.l k (fun y0=>K (.exit 3) (fr9 y0)) j x0 x1
 | 0, _, _=>rfl
 | j + 1, x0, x1=>by
   have h:=qb.u8.ok k x0 x1 (seqK (fun ρ=>zu (eC k qb.u8.c) [1, 5] j ρ K) K)
   simp only [zj, zo, zp, zg, qb.u9.okl k K j] at h
   exact (je (by kernel_rfl) h).trans (qb.u9.ls k (fun y0=>K (.exit 3) (fr9 y0)) j x0 x1).symm
theorem qb.u9.ok (k:Nat) (x0:TX) (x1:Int) (x2:Bool) (K:KF α) :
  eC k qb.u9.c (fr10 x0 x1 x2) K =
   qb.u9.f k x0 x1 x2 (fun y0=>K (.exit 3) (fr9 y0)):=
 yi.trans <| (jd (body:=eC k qb.u8.c) (keep:=[1, 5]) (ρ:=(fr10 x0 x1 x2)) (ρ':=(fr8 x0 x1)) (by kernel_rfl) k K).trans (qb.u9.okl k K k x0 x1)
theorem qb.u10.ok (k:Nat) (x0:TX) (x1:Int) (x2:Bool) (K:KF α) :
  eC k qb.u10.c (fr10 x0 x1 x2) K =
   qb.u10.f k x0 x1 x2 (fun y0=>K .normal (fr9 y0)):=
 (jb.trans (qb.u9.ok k x0 x1 x2 (yf 3 K))).trans (by kernel_rfl)
theorem qb.u11.ok (k:Nat) (x0:TX) (x1:Int) (x2:Bool) (K:KF α) :
  eC k qb.u11.c (fr10 x0 x1 x2) K =
   qb.u11.f k x0 x1 x2 (fun y0=>K .normal (fr9 y0)):=by kernel_rfl
theorem qb.u12.ok (k:Nat) (x0:TX) (x1:Int) (x2:Bool) (K:KF α) :
  eC k qb.u12.c (fr10 x0 x1 x2) K =
   qb.u12.f k x0 x1 x2 (fun y0=>K .normal (fr9 y0)):=
 zdf (g:=x2) (by kernel_rfl) (qb.u10.ok k x0 x1 x2 K) (qb.u11.ok k x0 x1 x2 K)
theorem qb.u13.ok (k:Nat) (x0:TX) (x1 x2:Int) (x3:Bool) (K:KF α) :
  eC k qb.u13.c (fr7 x0 x1 x2 x3) K =
   qb.u13.f k x0 x1 x2 x3 (fun y0=>K .normal (fr9 y0)):=
 (qb.u7.ok k x0 x1 x2 x3 qb.u12.c K).trans
  (congrArg (fun z=>qb.u7.f k x0 x1 x2 x3 z) (funext fun y0=>(funext fun y1=>(funext fun y2=>qb.u12.ok k y0 y1 y2 K))))
theorem qb.u14.ok (k:Nat) (x0:TX) (x1 x2:Int) (x3:Bool) (K:KF α) :
  eC k qb.u14.c (fr7 x0 x1 x2 x3) K =
   qb.u14.f k x0 x1 x2 x3 (fun y0=>K .normal (fr9 y0)):=
 zdf (g:=x3) (by kernel_rfl) (qb.u6.ok k x0 x1 x2 x3 K) (qb.u13.ok k x0 x1 x2 x3 K)
theorem qb.u15.ok (k:Nat) (x0:TX) (x1 x2:Int) (K:KF α) :
  eC k qb.u15.c (fr6 x0 x1 x2) K =
   qb.u15.f k x0 x1 x2 (fun y0=>K .normal (fr9 y0)):=
 (qb.u3.ok k x0 x1 x2 qb.u14.c K).trans
  (congrArg (fun z=>qb.u3.f k x0 x1 x2 z) (funext fun y0=>(funext fun y1=>(funext fun y2=>(funext fun y3=>qb.u14.ok k y0 y1 y2 y3 K)))))
theorem qb.u16.ok (k:Nat) (x0:TX) (x1 x2:Int) (K:KF α) :
  eC k qb.u16.c (fr6 x0 x1 x2) K =
   qb.u16.f k x0 x1 x2 (fun y0=>K .normal (fr9 y0)):=
 (jb.trans (qb.u15.ok k x0 x1 x2 (yf 0 K))).trans (by kernel_rfl)
theorem qb.u17.ok (k:Nat) (x0:Int) (x1:TX) (x2:Int) (K:KF α) :
  eC k qb.u17.c (fr5 x0 x1 x2) K =
   qb.u17.f k x0 x1 x2 (fun y0=>K .normal (fr9 y0)):=
 (qb.u2.ok k x0 x1 x2 qb.u16.c K).trans
  (congrArg (fun z=>qb.u2.f k x0 x1 x2 z) (funext fun y0=>(funext fun y1=>(funext fun y2=>qb.u16.ok k y0 y1 y2 K))))
theorem qb.u18.ok (k:Nat) (x0:Int) (K:KF α) :
  eC k qb.u18.c (fr9 x0) K =
   qb.u18.f k x0 (fun y0=>K .ret (fr1 y0)):=by kernel_rfl
theorem qb.u19.ok (k:Nat) (x0:Int) (x1:TX) (x2:Int) (K:KF α) :
  eC k qb.u19.c (fr5 x0 x1 x2) K =
   qb.u19.f k x0 x1 x2 (fun y0=>K .ret (fr1 y0)):=
 by
  have h:=qb.u17.ok k x0 x1 x2 (seqK (fun ρ=>eC k qb.u18.c ρ K) K)
  simp only [zg, zj, zo, zp, qb.u18.ok] at h
  exact jl h
theorem qb.u20.ok (k:Nat) (x0:Int) (x1:TX) (K:KF α) :
  eC k qb.u20.c (fr4 x0 x1) K =
   qb.u20.f k x0 x1 (fun y0=>K .ret (fr1 y0)):=
 (qb.u1.ok k x0 x1 qb.u19.c K).trans
  (congrArg (fun z=>qb.u1.f k x0 x1 z) (funext fun y0=>(funext fun y1=>(funext fun y2=>qb.u19.ok k y0 y1 y2 K))))
theorem qb.ok (k:Nat) (x0:Int) (x1:TX) (κ:Res->M α) :
  evF T (env k) k qb.c qb.res [.int .i64 x0, .str x1] κ = qb.f (k + 1) x0 x1 (fun o0=>κ (.ret (.int .i64 o0))):=
 (qb.u20.ok k x0 x1 (retK T qb.res κ)).trans (by kernel_rfl)
theorem qb.code:qb.c.code = jv Tryd.f53:=by kernel_rfl
noncomputable def qh.c:IC:=qh.u11.c
noncomputable def qh.res:List ResultVar:=[(.tmp 2), (.tmp 3)]
theorem qh.u1.ok (k:Nat) (x0:TX) (R:IC) (K:KF α) :
  eC k (qh.u1.c R) (fr11 x0) K =
   qh.u1.f k x0 (fun y0=>eC k R (fr11 y0) K) (fun y0 y1=>K .ret (fr12 y0 y1)):=by kernel_rfl
theorem qh.u2.ok (k:Nat) (x0:TX) (R:IC) (K:KF α) :
  eC k (qh.u2.c R) (fr11 x0) K =
   qh.u2.f k x0 (fun y0 y1=>eC k R (fr13 y0 y1) K):=by kernel_rfl
theorem qh.u3.ok (k:Nat) (x0:TX) (x1:Int) (R:IC) (K:KF α) :
  eC k (qh.u3.c R) (fr13 x0 x1) K =
   qh.u3.f k x0 x1 (fun y0 y1 y2 y3=>eC k R (fr14 y0 y1 y2 y3) K):=by kernel_rfl
theorem qh.u4.ok (k:Nat) (x0:TX) (x1 x2 x3:Int) (K:KF α) :
  eC k qh.u4.c (fr14 x0 x1 x2 x3) K =
   qh.u4.f k x0 x1 x2 x3 (fun y0 y1 y2 y3=>K .normal (fr14 y0 y1 y2 y3)) (fun y0=>K (.exit 0) (fr1 y0)):=by kernel_rfl
theorem qh.u5.ls (k:Nat) (kx0:Int->M α) (j:Nat) (x0:TX) (x1 x2 x3:Int):qh.u5.l k kx0 (j + 1) x0 x1 x2 x3 =
 qh.u4.f k x0 x1 x2 x3 (fun y0 y1 y2 y3=>qh.u5.l k kx0 j y0 y1 y2 y3) kx0:=rfl
theorem qh.u5.okl (k:Nat) (K:KF α):∀ (j:Nat) (x0:TX) (x1 x2 x3:Int),
  zu (eC k qh.u4.c) [0, 4, 20, 21] j (fr14 x0 x1 x2 x3) K = qh.u5.l k (fun y0=>K (.exit 0) (fr1 y0)) j x0 x1 x2 x3
 | 0, _, _, _, _=>rfl
 | j + 1, x0, x1, x2, x3=>by
   have h:=qh.u4.ok k x0 x1 x2 x3 (seqK (fun ρ=>zu (eC k qh.u4.c) [0, 4, 20, 21] j ρ K) K)
   simp only [zj, zo, zp, zg, qh.u5.okl k K j] at h
   exact (je (by kernel_rfl) h).trans (qh.u5.ls k (fun y0=>K (.exit 0) (fr1 y0)) j x0 x1 x2 x3).symm
theorem qh.u5.ok (k:Nat) (x0:TX) (x1 x2 x3:Int) (K:KF α) :
  eC k qh.u5.c (fr14 x0 x1 x2 x3) K =
   qh.u5.f k x0 x1 x2 x3 (fun y0=>K (.exit 0) (fr1 y0)):=
 yi.trans <| (jd (body:=eC k qh.u4.c) (keep:=[0, 4, 20, 21]) (ρ:=(fr14 x0 x1 x2 x3)) (ρ':=(fr14 x0 x1 x2 x3)) (by kernel_rfl) k K).trans (qh.u5.okl k K k x0 x1 x2 x3)
theorem qh.u6.ok (k:Nat) (x0:TX) (x1 x2 x3:Int) (K:KF α) :
  eC k qh.u6.c (fr14 x0 x1 x2 x3) K =
   qh.u6.f k x0 x1 x2 x3 (fun y0=>K .normal (fr1 y0)):=
 (jb.trans (qh.u5.ok k x0 x1 x2 x3 (yf 0 K))).trans (by kernel_rfl)
theorem qh.u7.ok (k:Nat) (x0:TX) (x1:Int) (K:KF α) :
  eC k qh.u7.c (fr13 x0 x1) K =
   qh.u7.f k x0 x1 (fun y0=>K .normal (fr1 y0)):=
 (qh.u3.ok k x0 x1 qh.u6.c K).trans
  (congrArg (fun z=>qh.u3.f k x0 x1 z) (funext fun y0=>(funext fun y1=>(funext fun y2=>(funext fun y3=>qh.u6.ok k y0 y1 y2 y3 K)))))
theorem qh.u8.ok (k:Nat) (x0:Int) (K:KF α) :
  eC k qh.u8.c (fr1 x0) K =
   qh.u8.f k x0 (fun y0 y1=>K .ret (fr12 y0 y1)):=by kernel_rfl
theorem qh.u9.ok (k:Nat) (x0:TX) (x1:Int) (K:KF α) :
  eC k qh.u9.c (fr13 x0 x1) K =
   qh.u9.f k x0 x1 (fun y0 y1=>K .ret (fr12 y0 y1)):=
 by
  have h:=qh.u7.ok k x0 x1 (seqK (fun ρ=>eC k qh.u8.c ρ K) K)
  simp only [zg, zj, zo, zp, qh.u8.ok] at h
  exact jl h
theorem qh.u10.ok (k:Nat) (x0:TX) (K:KF α) :
  eC k qh.u10.c (fr11 x0) K =
   qh.u10.f k x0 (fun y0 y1=>K .ret (fr12 y0 y1)):=
 (qh.u2.ok k x0 qh.u9.c K).trans
  (congrArg (fun z=>qh.u2.f k x0 z) (funext fun y0=>(funext fun y1=>qh.u9.ok k y0 y1 K)))
theorem qh.u11.ok (k:Nat) (x0:TX) (K:KF α) :
  eC k qh.u11.c (fr11 x0) K =
   qh.u11.f k x0 (fun y0 y1=>K .ret (fr12 y0 y1)):=
 (qh.u1.ok k x0 qh.u10.c K).trans
  (congrArg (fun z=>qh.u1.f k x0 z (fun y0 y1=>K .ret (fr12 y0 y1))) (funext fun y0=>qh.u10.ok k y0 K))
theorem qh.ok (k:Nat) (x0:TX) (κ:Res->M α) :
  evF T (env k) k qh.c qh.res [.str x0] κ = qh.f (k + 1) x0 (fun o0 o1=>κ (.ret (.tuple [.int .i64 o0, .bool o1]))):=
 (qh.u11.ok k x0 (retK T qh.res κ)).trans (by kernel_rfl)
theorem qh.code:qh.c.code = jv Tryd.f54:=by kernel_rfl
noncomputable def qx.c:IC:=qx.u1.c
noncomputable def qx.res:List ResultVar:=[(.cell 4 68), (.tmp 5)]
theorem qx.u1.ok (k:Nat) (x0:TX) (x1:Int) (K:KF α) :
  eC k qx.u1.c (fr15 x0 x1) K =
   qx.u1.f k x0 x1 (fun y0 y1=>K .ret (za [(4, .ptr (some y0)), (5, .int .i64 y1)])):=by kernel_rfl
theorem qx.ok (k:Nat) (x0:TX) (x1:Int) (κ:Res->M α) :
  evF T (env k) k qx.c qx.res [.str x0, .int .i64 x1] κ = qx.f (k + 1) x0 x1 (fun o0 o1 o2 o3 o4=>κ (.ret (.tuple [.agg [.int .i64 o0, .int .i64 o1, .str o2, .int .i64 o3], .int .i64 o4]))):=
 (qx.u1.ok k x0 x1 (retK T qx.res κ)).trans (by kernel_rfl)
theorem qx.code:qx.c.code = jv Tryd.f41:=by kernel_rfl
noncomputable def qi.c:IC:=qi.u9.c
noncomputable def qi.res:List ResultVar:=[(.tmp 2), (.tmp 3)]
theorem qi.u1.ok (k:Nat) (x0:TX) (R:IC) (K:KF α) :
  eC k (qi.u1.c R) (fr11 x0) K =
   qi.u1.f k x0 (fun y0 y1=>eC k R (fr16 y0 y1) K) (fun y0 y1=>K .ret (za [(2, .slice y0), (3, .iface 56 (.ptr (some y1)))])):=by kernel_rfl
theorem qi.u2.ok (k:Nat) (x0:TX) (x1:Sl) (R:IC) (K:KF α) :
  eC k (qi.u2.c R) (fr16 x0 x1) K =
   qi.u2.f k x0 x1 (fun y0 y1 y2=>eC k R (fr17 y0 y1 y2) K):=by kernel_rfl
theorem qi.u3.ok (k:Nat) (x0:TX) (x1:Sl) (x2:Int) (K:KF α) :
  eC k qi.u3.c (fr17 x0 x1 x2) K =
   qi.u3.f k x0 x1 x2 (fun y0 y1 y2=>K .normal (fr17 y0 y1 y2)) (fun y0 y1=>K .ret (za [(2, .slice y0), (3, .iface 56 (.ptr (some y1)))])) (fun y0 y1=>K (.exit 0) (fr16 y0 y1)):=by kernel_rfl
theorem qi.u4.ls (k:Nat) (kr:Sl->Ad->M α) (kx0:TX->Sl->M α) (j:Nat) (x0:TX) (x1:Sl) (x2:Int):qi.u4.l k kr kx0 (j + 1) x0 x1 x2 =
 qi.u3.f k x0 x1 x2 (fun y0 y1 y2=>qi.u4.l k kr kx0 j y0 y1 y2) kr kx0:=rfl
theorem qi.u4.okl (k:Nat) (K:KF α):∀ (j:Nat) (x0:TX) (x1:Sl) (x2:Int),
  zu (eC k qi.u3.c) [0, 4, 5] j (fr17 x0 x1 x2) K = qi.u4.l k (fun y0 y1=>K .ret (za [(2, .slice y0), (3, .iface 56 (.ptr (some y1)))])) (fun y0 y1=>K (.exit 0) (fr16 y0 y1)) j x0 x1 x2
 | 0, _, _, _=>rfl
 | j + 1, x0, x1, x2=>by
   have h:=qi.u3.ok k x0 x1 x2 (seqK (fun ρ=>zu (eC k qi.u3.c) [0, 4, 5] j ρ K) K)
   simp only [zj, zo, zp, zg, qi.u4.okl k K j] at h
   exact (je (by kernel_rfl) h).trans (qi.u4.ls k (fun y0 y1=>K .ret (za [(2, .slice y0), (3, .iface 56 (.ptr (some y1)))])) (fun y0 y1=>K (.exit 0) (fr16 y0 y1)) j x0 x1 x2).symm
theorem qi.u4.ok (k:Nat) (x0:TX) (x1:Sl) (x2:Int) (K:KF α) :
  eC k qi.u4.c (fr17 x0 x1 x2) K =
   qi.u4.f k x0 x1 x2 (fun y0 y1=>K .ret (za [(2, .slice y0), (3, .iface 56 (.ptr (some y1)))])) (fun y0 y1=>K (.exit 0) (fr16 y0 y1)):=
 yi.trans <| (jd (body:=eC k qi.u3.c) (keep:=[0, 4, 5]) (ρ:=(fr17 x0 x1 x2)) (ρ':=(fr17 x0 x1 x2)) (by kernel_rfl) k K).trans (qi.u4.okl k K k x0 x1 x2)
theorem qi.u5.ok (k:Nat) (x0:TX) (x1:Sl) (x2:Int) (K:KF α) :
  eC k qi.u5.c (fr17 x0 x1 x2) K =
   qi.u5.f k x0 x1 x2 (fun y0 y1=>K .normal (fr16 y0 y1)) (fun y0 y1=>K .ret (za [(2, .slice y0), (3, .iface 56 (.ptr (some y1)))])):=
 (jb.trans (qi.u4.ok k x0 x1 x2 (yf 0 K))).trans (by kernel_rfl)
theorem qi.u6.ok (k:Nat) (x0:TX) (x1:Sl) (K:KF α) :
  eC k qi.u6.c (fr16 x0 x1) K =
   qi.u6.f k x0 x1 (fun y0 y1=>K .normal (fr16 y0 y1)) (fun y0 y1=>K .ret (za [(2, .slice y0), (3, .iface 56 (.ptr (some y1)))])):=
 (qi.u2.ok k x0 x1 qi.u5.c K).trans
  (congrArg (fun z=>qi.u2.f k x0 x1 z) (funext fun y0=>(funext fun y1=>(funext fun y2=>qi.u5.ok k y0 y1 y2 K))))
theorem qi.u7.ok (k:Nat) (x0:TX) (x1:Sl) (K:KF α) :
  eC k qi.u7.c (fr16 x0 x1) K =
   qi.u7.f k x0 x1 (fun y0=>K .ret (za [(2, .slice y0), (3, .nilIface)])):=by kernel_rfl
theorem qi.u8.ok (k:Nat) (x0:TX) (x1:Sl) (K:KF α) :
  eC k qi.u8.c (fr16 x0 x1) K =
   qi.u8.f k x0 x1 (fun y0 y1=>K .ret (za [(2, .slice y0), (3, y1)])):=
 by
  have h:=qi.u6.ok k x0 x1 (seqK (fun ρ=>eC k qi.u7.c ρ K) K)
  simp only [zg, zj, zo, zp, qi.u7.ok] at h
  exact jl h
theorem qi.u9.ok (k:Nat) (x0:TX) (K:KF α) :
  eC k qi.u9.c (fr11 x0) K =
   qi.u9.f k x0 (fun y0 y1=>K .ret (za [(2, .slice y0), (3, y1)])):=
 (qi.u1.ok k x0 qi.u8.c K).trans
  (congrArg (fun z=>qi.u1.f k x0 z (fun y0 y1=>K .ret (za [(2, .slice y0), (3, .iface 56 (.ptr (some y1)))]))) (funext fun y0=>(funext fun y1=>qi.u8.ok k y0 y1 K)))
theorem qi.ok (k:Nat) (x0:TX) (κ:Res->M α) :
  evF T (env k) k qi.c qi.res [.str x0] κ = qi.f (k + 1) x0 (fun o0 o1=>κ (.ret (.tuple [.slice o0, o1]))):=
 (qi.u9.ok k x0 (retK T qi.res κ)).trans (by kernel_rfl)
theorem qi.code:qi.c.code = jv Tryd.f25:=by kernel_rfl
noncomputable def qn.c:IC:=qn.u1.c
noncomputable def qn.res:List ResultVar:=[(.cell 2 68)]
theorem qn.u1.ok (k:Nat) (x0:Ad) (K:KF α) :
  eC k qn.u1.c (za [(0, .ptr (some x0))]) K =
   qn.u1.f k x0 (fun y0=>K .ret (za [(2, .ptr (some y0))])):=by kernel_rfl
theorem qn.ok (k:Nat) (x0:Ad) (κ:Res->M α) :
  evF T (env k) k qn.c qn.res [.ptr (some x0)] κ = qn.f (k + 1) x0 (fun o0 o1 o2 o3=>κ (.ret (.agg [.int .i64 o0, .int .i64 o1, .str o2, .int .i64 o3]))):=
 (qn.u1.ok k x0 (retK T qn.res κ)).trans (by kernel_rfl)
theorem qn.code:qn.c.code = jv Tryd.f42:=by kernel_rfl
noncomputable def ql.c:IC:=ql.u3.c
noncomputable def ql.res:List ResultVar:=[]
theorem ql.u1.ok (k:Nat) (x0:Ad) (K:KF α) :
  eC k ql.u1.c (za [(0, .ptr (some x0))]) K =
   ql.u1.f k x0 (fun y0=>K .normal (za [(0, .ptr (some y0))])) (K (.exit 0) (za [])):=by kernel_rfl
theorem ql.u2.ls (k:Nat) (kx0:M α) (j:Nat) (x0:Ad):ql.u2.l k kx0 (j + 1) x0 =
 ql.u1.f k x0 (fun y0=>ql.u2.l k kx0 j y0) kx0:=rfl
theorem ql.u2.okl (k:Nat) (K:KF α):∀ (j:Nat) (x0:Ad),
  zu (eC k ql.u1.c) [0] j (za [(0, .ptr (some x0))]) K = ql.u2.l k (K (.exit 0) (za [])) j x0
 | 0, _=>rfl
 | j + 1, x0=>by
   have h:=ql.u1.ok k x0 (seqK (fun ρ=>zu (eC k ql.u1.c) [0] j ρ K) K)
   simp only [zj, zo, zp, zg, ql.u2.okl k K j] at h
   exact (je (by kernel_rfl) h).trans (ql.u2.ls k (K (.exit 0) (za [])) j x0).symm
theorem ql.u2.ok (k:Nat) (x0:Ad) (K:KF α) :
  eC k ql.u2.c (za [(0, .ptr (some x0))]) K =
   ql.u2.f k x0 (K (.exit 0) (za [])):=
 yi.trans <| (jd (body:=eC k ql.u1.c) (keep:=[0]) (ρ:=(za [(0, .ptr (some x0))])) (ρ':=(za [(0, .ptr (some x0))])) (by kernel_rfl) k K).trans (ql.u2.okl k K k x0)
theorem ql.u3.ok (k:Nat) (x0:Ad) (K:KF α) :
  eC k ql.u3.c (za [(0, .ptr (some x0))]) K =
   ql.u3.f k x0 (K .normal (za [])):=
 (jb.trans (ql.u2.ok k x0 (yf 0 K))).trans (by kernel_rfl)
theorem ql.ok (k:Nat) (x0:Ad) (κ:Res->M α) :
  evF T (env k) k ql.c ql.res [.ptr (some x0)] κ = ql.f (k + 1) x0 (κ (.ret (.tuple []))):=
 (ql.u3.ok k x0 (retK T ql.res κ)).trans (by kernel_rfl)
theorem ql.code:ql.c.code = jv Tryd.f26:=by kernel_rfl
noncomputable def qm.c:IC:=qm.u1.c
noncomputable def qm.res:List ResultVar:=[]
theorem qm.u1.ok (k:Nat) (x0:Ad) (x1:Int) (K:KF α) :
  eC k qm.u1.c (za [(0, .ptr (some x0)), (1, .int .i64 x1)]) K =
   qm.u1.f k x0 x1 (K .normal (za [])):=by kernel_rfl
theorem qm.ok (k:Nat) (x0:Ad) (x1:Int) (κ:Res->M α) :
  evF T (env k) k qm.c qm.res [.ptr (some x0), .int .i64 x1] κ = qm.f (k + 1) x0 x1 (κ (.ret (.tuple []))):=
 (qm.u1.ok k x0 x1 (retK T qm.res κ)).trans (by kernel_rfl)
theorem qm.code:qm.c.code = jv Tryd.f43:=by kernel_rfl
noncomputable def qf.c:IC:=qf.u12.c
noncomputable def qf.res:List ResultVar:=[(.tmp 6)]
theorem qf.u1.ok (k:Nat) (x0:Ad) (x1:Int) (x2:TX) (R:IC) (K:KF α) :
  eC k (qf.u1.c R) (za [(0, .ptr (some x0)), (1, .int .i64 x1), (2, .str x2)]) K =
   qf.u1.f k x0 x1 x2 (fun y0 y1 y2 y3=>eC k R (za [(0, .ptr (some y0)), (1, .int .i64 y1), (2, .str y2), (7, .ptr (some y3))]) K):=by kernel_rfl
theorem qf.u2.ok (k:Nat) (x0:Ad) (x1:Int) (x2:TX) (x3:Ad) (R:IC) (K:KF α) :
  eC k (qf.u2.c R) (za [(0, .ptr (some x0)), (1, .int .i64 x1), (2, .str x2), (7, .ptr (some x3))]) K =
   qf.u2.f k x0 x1 x2 x3 (fun y0 y1 y2 y3 y4=>eC k R (za [(0, .ptr (some y0)), (1, .int .i64 y1), (2, .str y2), (7, .ptr (some y3)), (12, .bool y4)]) K):=by kernel_rfl
theorem qf.u3.ok (k:Nat) (x0:Ad) (x1:Int) (x2:TX) (x3:Ad) (x4:Bool) (K:KF α) :
  eC k qf.u3.c (za [(0, .ptr (some x0)), (1, .int .i64 x1), (2, .str x2), (7, .ptr (some x3)), (12, .bool x4)]) K =
   qf.u3.f k x0 x1 x2 x3 x4 (fun y0=>K .ret (fr18 y0)):=by kernel_rfl
theorem qf.u4.ok (k:Nat) (x0:Ad) (x1:Int) (x2:TX) (x3:Ad) (x4:Bool) (R:IC) (K:KF α) :
  eC k (qf.u4.c R) (za [(0, .ptr (some x0)), (1, .int .i64 x1), (2, .str x2), (7, .ptr (some x3)), (12, .bool x4)]) K =
   qf.u4.f k x0 x1 x2 x3 x4 (fun y0 y1 y2 y3=>eC k R (za [(0, .ptr (some y0)), (1, .int .i64 y1), (7, .ptr (some y2)), (18, .bool y3)]) K):=by kernel_rfl
theorem qf.u5.ok (k:Nat) (x0:Ad) (x1:Int) (x2:Ad) (x3:Bool) (K:KF α) :
  eC k qf.u5.c (za [(0, .ptr (some x0)), (1, .int .i64 x1), (7, .ptr (some x2)), (18, .bool x3)]) K =
   qf.u5.f k x0 x1 x2 x3 (K .normal (za [])) (fun y0=>K .ret (fr18 y0)):=by kernel_rfl
theorem qf.u6.ok (k:Nat) (x0:Ad) (x1:Int) (x2:TX) (x3:Ad) (x4:Bool) (K:KF α) :
  eC k qf.u6.c (za [(0, .ptr (some x0)), (1, .int .i64 x1), (2, .str x2), (7, .ptr (some x3)), (12, .bool x4)]) K =
   qf.u6.f k x0 x1 x2 x3 x4 (K .normal (za [])) (fun y0=>K .ret (fr18 y0)):=
 (qf.u4.ok k x0 x1 x2 x3 x4 qf.u5.c K).trans
  (congrArg (fun z=>qf.u4.f k x0 x1 x2 x3 x4 z) (funext fun y0=>(funext fun y1=>(funext fun y2=>(funext fun y3=>qf.u5.ok k y0 y1 y2 y3 K)))))
theorem qf.u7.ok (k:Nat) (x0:Ad) (x1:Int) (x2:TX) (x3:Ad) (x4:Bool) (K:KF α) :
  eC k qf.u7.c (za [(0, .ptr (some x0)), (1, .int .i64 x1), (2, .str x2), (7, .ptr (some x3)), (12, .bool x4)]) K =
   qf.u7.f k x0 x1 x2 x3 x4 (K .normal (za [])) (fun y0=>K .ret (fr18 y0)):=
 zdf (g:=x4) (by kernel_rfl) (qf.u3.ok k x0 x1 x2 x3 x4 K) (qf.u6.ok k x0 x1 x2 x3 x4 K)
theorem qf.u8.ok (k:Nat) (x0:Ad) (x1:Int) (x2:TX) (x3:Ad) (K:KF α) :
  eC k qf.u8.c (za [(0, .ptr (some x0)), (1, .int .i64 x1), (2, .str x2), (7, .ptr (some x3))]) K =
   qf.u8.f k x0 x1 x2 x3 (K .normal (za [])) (fun y0=>K .ret (fr18 y0)):=
 (qf.u2.ok k x0 x1 x2 x3 qf.u7.c K).trans
  (congrArg (fun z=>qf.u2.f k x0 x1 x2 x3 z) (funext fun y0=>(funext fun y1=>(funext fun y2=>(funext fun y3=>(funext fun y4=>qf.u7.ok k y0 y1 y2 y3 y4 K))))))
theorem qf.u9.ok (k:Nat) (x0:Ad) (x1:Int) (x2:TX) (x3:Ad) (K:KF α) :
  eC k qf.u9.c (za [(0, .ptr (some x0)), (1, .int .i64 x1), (2, .str x2), (7, .ptr (some x3))]) K =
   qf.u9.f k x0 x1 x2 x3 (K .normal (za [])) (fun y0=>K .ret (fr18 y0)):=
 (jb.trans (qf.u8.ok k x0 x1 x2 x3 (yf 0 K))).trans (by kernel_rfl)
theorem qf.u10.ok (k:Nat) (K:KF α) :
  eC k qf.u10.c (za []) K =
   qf.u10.f k (fun y0=>K .ret (fr18 y0)):=by kernel_rfl
theorem qf.u11.ok (k:Nat) (x0:Ad) (x1:Int) (x2:TX) (x3:Ad) (K:KF α) :
  eC k qf.u11.c (za [(0, .ptr (some x0)), (1, .int .i64 x1), (2, .str x2), (7, .ptr (some x3))]) K =
   qf.u11.f k x0 x1 x2 x3 (fun y0=>K .ret (fr18 y0)):=
 by
  have h:=qf.u9.ok k x0 x1 x2 x3 (seqK (fun ρ=>eC k qf.u10.c ρ K) K)
  simp only [zg, zj, zo, zp, qf.u10.ok] at h
  exact jl h
theorem qf.u12.ok (k:Nat) (x0:Ad) (x1:Int) (x2:TX) (K:KF α) :
  eC k qf.u12.c (za [(0, .ptr (some x0)), (1, .int .i64 x1), (2, .str x2)]) K =
   qf.u12.f k x0 x1 x2 (fun y0=>K .ret (fr18 y0)):=
 (qf.u1.ok k x0 x1 x2 qf.u11.c K).trans
  (congrArg (fun z=>qf.u1.f k x0 x1 x2 z) (funext fun y0=>(funext fun y1=>(funext fun y2=>(funext fun y3=>qf.u11.ok k y0 y1 y2 y3 K)))))
theorem qf.ok (k:Nat) (x0:Ad) (x1:Int) (x2:TX) (κ:Res->M α) :
  evF T (env k) k qf.c qf.res [.ptr (some x0), .int .i64 x1, .str x2] κ = qf.f (k + 1) x0 x1 x2 (fun o0=>κ (.ret (.int .i64 o0))):=
 (qf.u12.ok k x0 x1 x2 (retK T qf.res κ)).trans (by kernel_rfl)
theorem qf.code:qf.c.code = jv Tryd.f27:=by kernel_rfl
noncomputable def qo.c:IC:=qo.u1.c
noncomputable def qo.res:List ResultVar:=[(.tmp 8)]
theorem qo.u1.ok (k:Nat) (x0:Ad) (x1 x2 x3:Int) (K:KF α) :
  eC k qo.u1.c (za [(0, .ptr (some x0)), (1, .int .i64 x1), (2, .int .i64 x2), (3, .int .i64 x3)]) K =
   qo.u1.f k x0 x1 x2 x3 (fun y0=>K .ret (fr19 y0)):=by kernel_rfl
theorem qo.ok (k:Nat) (x0:Ad) (x1 x2 x3:Int) (κ:Res->M α) :
  evF T (env k) k qo.c qo.res [.ptr (some x0), .int .i64 x1, .int .i64 x2, .int .i64 x3] κ = qo.f (k + 1) x0 x1 x2 x3 (fun o0=>κ (.ret (.int .i64 o0))):=
 (qo.u1.ok k x0 x1 x2 x3 (retK T qo.res κ)).trans (by kernel_rfl)
theorem qo.code:qo.c.code = jv Tryd.f28:=by kernel_rfl
noncomputable def qr.c:IC:=qr.u1.c
noncomputable def qr.res:List ResultVar:=[]
theorem qr.u1.ok (k:Nat) (x0:Ad) (K:KF α) :
  eC k qr.u1.c (za [(0, .ptr (some x0))]) K =
   qr.u1.f k x0 (K .normal (za [])):=by kernel_rfl
theorem qr.ok (k:Nat) (x0:Ad) (κ:Res->M α) :
  evF T (env k) k qr.c qr.res [.ptr (some x0)] κ = qr.f (k + 1) x0 (κ (.ret (.tuple []))):=
 (qr.u1.ok k x0 (retK T qr.res κ)).trans (by kernel_rfl)
theorem qr.code:qr.c.code = jv Tryd.f29:=by kernel_rfl
noncomputable def qk.c:IC:=qk.u7.c
noncomputable def qk.res:List ResultVar:=[(.tmp 4)]
theorem qk.u1.ok (k:Nat) (x0:Ad) (x1:Int) (R:IC) (K:KF α) :
  eC k (qk.u1.c R) (za [(0, .ptr (some x0)), (1, .int .i64 x1)]) K =
   qk.u1.f k x0 x1 (fun y0 y1 y2 y3=>eC k R (za [(0, .ptr (some y0)), (1, .int .i64 y1), (5, .slice y2), (6, .int .i64 y3)]) K):=by kernel_rfl
theorem qk.u2.ok (k:Nat) (x0:Ad) (x1:Int) (x2:Sl) (x3:Int) (K:KF α) :
  eC k qk.u2.c (za [(0, .ptr (some x0)), (1, .int .i64 x1), (5, .slice x2), (6, .int .i64 x3)]) K =
   qk.u2.f k x0 x1 x2 x3 (fun y0 y1 y2 y3=>K .normal (za [(0, .ptr (some y0)), (1, .int .i64 y1), (5, .slice y2), (6, .int .i64 y3)])) (fun y0 y1=>K (.exit 0) (za [(0, .ptr (some y0)), (5, .slice y1)])):=by kernel_rfl
theorem qk.u3.ls (k:Nat) (kx0:Ad->Sl->M α) (j:Nat) (x0:Ad) (x1:Int) (x2:Sl) (x3:Int):qk.u3.l k kx0 (j + 1) x0 x1 x2 x3 =
 qk.u2.f k x0 x1 x2 x3 (fun y0 y1 y2 y3=>qk.u3.l k kx0 j y0 y1 y2 y3) kx0:=rfl
theorem qk.u3.okl (k:Nat) (K:KF α):∀ (j:Nat) (x0:Ad) (x1:Int) (x2:Sl) (x3:Int),
  zu (eC k qk.u2.c) [0, 1, 5, 6] j (za [(0, .ptr (some x0)), (1, .int .i64 x1), (5, .slice x2), (6, .int .i64 x3)]) K = qk.u3.l k (fun y0 y1=>K (.exit 0) (za [(0, .ptr (some y0)), (5, .slice y1)])) j x0 x1 x2 x3
 | 0, _, _, _, _=>rfl
 | j + 1, x0, x1, x2, x3=>by
   have h:=qk.u2.ok k x0 x1 x2 x3 (seqK (fun ρ=>zu (eC k qk.u2.c) [0, 1, 5, 6] j ρ K) K)
   simp only [zj, zo, zp, zg, qk.u3.okl k K j] at h
   exact (je (by kernel_rfl) h).trans (qk.u3.ls k (fun y0 y1=>K (.exit 0) (za [(0, .ptr (some y0)), (5, .slice y1)])) j x0 x1 x2 x3).symm
theorem qk.u3.ok (k:Nat) (x0:Ad) (x1:Int) (x2:Sl) (x3:Int) (K:KF α) :
  eC k qk.u3.c (za [(0, .ptr (some x0)), (1, .int .i64 x1), (5, .slice x2), (6, .int .i64 x3)]) K =
   qk.u3.f k x0 x1 x2 x3 (fun y0 y1=>K (.exit 0) (za [(0, .ptr (some y0)), (5, .slice y1)])):=
 yi.trans <| (jd (body:=eC k qk.u2.c) (keep:=[0, 1, 5, 6]) (ρ:=(za [(0, .ptr (some x0)), (1, .int .i64 x1), (5, .slice x2), (6, .int .i64 x3)])) (ρ':=(za [(0, .ptr (some x0)), (1, .int .i64 x1), (5, .slice x2), (6, .int .i64 x3)])) (by kernel_rfl) k K).trans (qk.u3.okl k K k x0 x1 x2 x3)
theorem qk.u4.ok (k:Nat) (x0:Ad) (x1:Int) (x2:Sl) (x3:Int) (K:KF α) :
  eC k qk.u4.c (za [(0, .ptr (some x0)), (1, .int .i64 x1), (5, .slice x2), (6, .int .i64 x3)]) K =
   qk.u4.f k x0 x1 x2 x3 (fun y0 y1=>K .normal (za [(0, .ptr (some y0)), (5, .slice y1)])):=
 (jb.trans (qk.u3.ok k x0 x1 x2 x3 (yf 0 K))).trans (by kernel_rfl)
theorem qk.u5.ok (k:Nat) (x0:Ad) (x1:Sl) (K:KF α) :
  eC k qk.u5.c (za [(0, .ptr (some x0)), (5, .slice x1)]) K =
   qk.u5.f k x0 x1 (fun y0=>K .ret (fr20 y0)):=by kernel_rfl
theorem qk.u6.ok (k:Nat) (x0:Ad) (x1:Int) (x2:Sl) (x3:Int) (K:KF α) :
  eC k qk.u6.c (za [(0, .ptr (some x0)), (1, .int .i64 x1), (5, .slice x2), (6, .int .i64 x3)]) K =
   qk.u6.f k x0 x1 x2 x3 (fun y0=>K .ret (fr20 y0)):=
 by
  have h:=qk.u4.ok k x0 x1 x2 x3 (seqK (fun ρ=>eC k qk.u5.c ρ K) K)
  simp only [zg, zj, zo, zp, qk.u5.ok] at h
  exact jl h
theorem qk.u7.ok (k:Nat) (x0:Ad) (x1:Int) (K:KF α) :
  eC k qk.u7.c (za [(0, .ptr (some x0)), (1, .int .i64 x1)]) K =
   qk.u7.f k x0 x1 (fun y0=>K .ret (fr20 y0)):=
 (qk.u1.ok k x0 x1 qk.u6.c K).trans
  (congrArg (fun z=>qk.u1.f k x0 x1 z) (funext fun y0=>(funext fun y1=>(funext fun y2=>(funext fun y3=>qk.u6.ok k y0 y1 y2 y3 K)))))
theorem qk.ok (k:Nat) (x0:Ad) (x1:Int) (κ:Res->M α) :
  evF T (env k) k qk.c qk.res [.ptr (some x0), .int .i64 x1] κ = qk.f (k + 1) x0 x1 (fun o0=>κ (.ret (.slice o0))):=
 (qk.u7.ok k x0 x1 (retK T qk.res κ)).trans (by kernel_rfl)
theorem qk.code:qk.c.code = jv Tryd.f30:=by kernel_rfl
noncomputable def qj.c:IC:=qj.u9.c
noncomputable def qj.res:List ResultVar:=[(.cell 2 25), (.tmp 3)]
theorem qj.u1.ok (k:Nat) (x0:TX) (R:IC) (K:KF α) :
  eC k (qj.u1.c R) (fr11 x0) K =
   qj.u1.f k x0 (fun y0 y1 y2 y3=>eC k R (za [(2, .ptr (some y0)), (6, .ptr (some y1)), (7, .int .i64 y2), (8, .ptr (some y3))]) K) (fun y0 y1=>K .ret (za [(2, .ptr (some y0)), (3, y1)])):=by kernel_rfl
theorem qj.u2.ok (k:Nat) (x0 x1:Ad) (x2:Int) (x3:Ad) (R:IC) (K:KF α) :
  eC k (qj.u2.c R) (za [(2, .ptr (some x0)), (6, .ptr (some x1)), (7, .int .i64 x2), (8, .ptr (some x3))]) K =
   qj.u2.f k x0 x1 x2 x3 (fun y0 y1 y2 y3 y4=>eC k R (za [(2, .ptr (some y0)), (6, .ptr (some y1)), (7, .int .i64 y2), (8, .ptr (some y3)), (9, .int .i64 y4)]) K):=by kernel_rfl
theorem qj.u3.ok (k:Nat) (x0 x1:Ad) (x2:Int) (x3:Ad) (x4:Int) (K:KF α) :
  eC k qj.u3.c (za [(2, .ptr (some x0)), (6, .ptr (some x1)), (7, .int .i64 x2), (8, .ptr (some x3)), (9, .int .i64 x4)]) K =
   qj.u3.f k x0 x1 x2 x3 x4 (fun y0 y1 y2 y3 y4=>K .normal (za [(2, .ptr (some y0)), (6, .ptr (some y1)), (7, .int .i64 y2), (8, .ptr (some y3)), (9, .int .i64 y4)])) (fun y0 y1 y2=>K (.exit 0) (za [(2, .ptr (some y0)), (6, .ptr (some y1)), (8, .ptr (some y2))])):=by kernel_rfl
theorem qj.u4.ls (k:Nat) (kx0:Ad->Ad->Ad->M α) (j:Nat) (x0 x1:Ad) (x2:Int) (x3:Ad) (x4:Int):qj.u4.l k kx0 (j + 1) x0 x1 x2 x3 x4 =
 qj.u3.f k x0 x1 x2 x3 x4 (fun y0 y1 y2 y3 y4=>qj.u4.l k kx0 j y0 y1 y2 y3 y4) kx0:=rfl
theorem qj.u4.okl (k:Nat) (K:KF α):∀ (j:Nat) (x0 x1:Ad) (x2:Int) (x3:Ad) (x4:Int),
  zu (eC k qj.u3.c) [2, 6, 7, 8, 9] j (za [(2, .ptr (some x0)), (6, .ptr (some x1)), (7, .int .i64 x2), (8, .ptr (some x3)), (9, .int .i64 x4)]) K = qj.u4.l k (fun y0 y1 y2=>K (.exit 0) (za [(2, .ptr (some y0)), (6, .ptr (some y1)), (8, .ptr (some y2))])) j x0 x1 x2 x3 x4
 | 0, _, _, _, _, _=>rfl
 | j + 1, x0, x1, x2, x3, x4=>by
   have h:=qj.u3.ok k x0 x1 x2 x3 x4 (seqK (fun ρ=>zu (eC k qj.u3.c) [2, 6, 7, 8, 9] j ρ K) K)
   simp only [zj, zo, zp, zg, qj.u4.okl k K j] at h
   exact (je (by kernel_rfl) h).trans (qj.u4.ls k (fun y0 y1 y2=>K (.exit 0) (za [(2, .ptr (some y0)), (6, .ptr (some y1)), (8, .ptr (some y2))])) j x0 x1 x2 x3 x4).symm
theorem qj.u4.ok (k:Nat) (x0 x1:Ad) (x2:Int) (x3:Ad) (x4:Int) (K:KF α) :
  eC k qj.u4.c (za [(2, .ptr (some x0)), (6, .ptr (some x1)), (7, .int .i64 x2), (8, .ptr (some x3)), (9, .int .i64 x4)]) K =
   qj.u4.f k x0 x1 x2 x3 x4 (fun y0 y1 y2=>K (.exit 0) (za [(2, .ptr (some y0)), (6, .ptr (some y1)), (8, .ptr (some y2))])):=
 yi.trans <| (jd (body:=eC k qj.u3.c) (keep:=[2, 6, 7, 8, 9]) (ρ:=(za [(2, .ptr (some x0)), (6, .ptr (some x1)), (7, .int .i64 x2), (8, .ptr (some x3)), (9, .int .i64 x4)])) (ρ':=(za [(2, .ptr (some x0)), (6, .ptr (some x1)), (7, .int .i64 x2), (8, .ptr (some x3)), (9, .int .i64 x4)])) (by kernel_rfl) k K).trans (qj.u4.okl k K k x0 x1 x2 x3 x4)
theorem qj.u5.ok (k:Nat) (x0 x1:Ad) (x2:Int) (x3:Ad) (x4:Int) (K:KF α) :
  eC k qj.u5.c (za [(2, .ptr (some x0)), (6, .ptr (some x1)), (7, .int .i64 x2), (8, .ptr (some x3)), (9, .int .i64 x4)]) K =
   qj.u5.f k x0 x1 x2 x3 x4 (fun y0 y1 y2=>K .normal (za [(2, .ptr (some y0)), (6, .ptr (some y1)), (8, .ptr (some y2))])):=
 (jb.trans (qj.u4.ok k x0 x1 x2 x3 x4 (yf 0 K))).trans (by kernel_rfl)
theorem qj.u6.ok (k:Nat) (x0 x1:Ad) (x2:Int) (x3:Ad) (K:KF α) :
  eC k qj.u6.c (za [(2, .ptr (some x0)), (6, .ptr (some x1)), (7, .int .i64 x2), (8, .ptr (some x3))]) K =
   qj.u6.f k x0 x1 x2 x3 (fun y0 y1 y2=>K .normal (za [(2, .ptr (some y0)), (6, .ptr (some y1)), (8, .ptr (some y2))])):=
 (qj.u2.ok k x0 x1 x2 x3 qj.u5.c K).trans
  (congrArg (fun z=>qj.u2.f k x0 x1 x2 x3 z) (funext fun y0=>(funext fun y1=>(funext fun y2=>(funext fun y3=>(funext fun y4=>qj.u5.ok k y0 y1 y2 y3 y4 K))))))
theorem qj.u7.ok (k:Nat) (x0 x1 x2:Ad) (K:KF α) :
  eC k qj.u7.c (za [(2, .ptr (some x0)), (6, .ptr (some x1)), (8, .ptr (some x2))]) K =
   qj.u7.f k x0 x1 x2 (fun y0 y1=>K .ret (za [(2, .ptr (some y0)), (3, y1)])):=by kernel_rfl
theorem qj.u8.ok (k:Nat) (x0 x1:Ad) (x2:Int) (x3:Ad) (K:KF α) :
  eC k qj.u8.c (za [(2, .ptr (some x0)), (6, .ptr (some x1)), (7, .int .i64 x2), (8, .ptr (some x3))]) K =
   qj.u8.f k x0 x1 x2 x3 (fun y0 y1=>K .ret (za [(2, .ptr (some y0)), (3, y1)])):=
 by
  have h:=qj.u6.ok k x0 x1 x2 x3 (seqK (fun ρ=>eC k qj.u7.c ρ K) K)
  simp only [zg, zj, zo, zp, qj.u7.ok] at h
  exact jl h
theorem qj.u9.ok (k:Nat) (x0:TX) (K:KF α) :
  eC k qj.u9.c (fr11 x0) K =
   qj.u9.f k x0 (fun y0 y1=>K .ret (za [(2, .ptr (some y0)), (3, y1)])):=
 (qj.u1.ok k x0 qj.u8.c K).trans
  (congrArg (fun z=>qj.u1.f k x0 z (fun y0 y1=>K .ret (za [(2, .ptr (some y0)), (3, y1)]))) (funext fun y0=>(funext fun y1=>(funext fun y2=>(funext fun y3=>qj.u8.ok k y0 y1 y2 y3 K)))))
theorem qj.ok (k:Nat) (x0:TX) (κ:Res->M α) :
  evF T (env k) k qj.c qj.res [.str x0] κ = qj.f (k + 1) x0 (fun o0 o1 o2 o3=>κ (.ret (.tuple [.agg [.slice o0, .slice o1, .slice o2], o3]))):=
 (qj.u9.ok k x0 (retK T qj.res κ)).trans (by kernel_rfl)
theorem qj.code:qj.c.code = jv Tryd.f15:=by kernel_rfl
noncomputable def qt.c:IC:=qt.u1.c
noncomputable def qt.res:List ResultVar:=[(.tmp 2), (.tmp 3)]
theorem qt.u1.ok (k:Nat) (x0:V) (K:KF α) :
  eC k qt.u1.c (za [(0, x0)]) K =
   qt.u1.f k x0 (fun y0 y1=>K .ret (fr21 y0 y1)):=by kernel_rfl
theorem qt.ok (k:Nat) (x0:V) (κ:Res->M α) :
  evF T (env k) k qt.c qt.res [x0] κ = qt.f (k + 1) x0 (fun o0 o1=>κ (.ret (.tuple [.int .i64 o0, .int .i64 o1]))):=
 (qt.u1.ok k x0 (retK T qt.res κ)).trans (by kernel_rfl)
theorem qt.code:qt.c.code = jv Tryd.f17:=by kernel_rfl
noncomputable def qd.c:IC:=qd.u18.c
noncomputable def qd.res:List ResultVar:=[(.tmp 2), (.tmp 3)]
theorem qd.u1.ok (k:Nat) (x0 x1 x2:Sl) (R:IC) (K:KF α) :
  eC k (qd.u1.c R) (za [(0, .agg [.slice x0, .slice x1, .slice x2])]) K =
   qd.u1.f k x0 x1 x2 (fun y0 y1=>eC k R (za [(1, .ptr (some y0)), (4, .int .i64 y1)]) K) (fun y0 y1=>K .ret (fr21 y0 y1)):=by kernel_rfl
theorem qd.u2.ok (k:Nat) (x0:Ad) (x1:Int) (R:IC) (K:KF α) :
  eC k (qd.u2.c R) (za [(1, .ptr (some x0)), (4, .int .i64 x1)]) K =
   qd.u2.f k x0 x1 (fun y0 y1 y2 y3 y4=>eC k R (za [(1, .ptr (some y0)), (4, .int .i64 y1), (33, .slice y2), (34, .int .i64 y3), (35, .int .i64 y4)]) K):=by kernel_rfl
theorem qd.u3.ok (k:Nat) (x0:Ad) (x1:Int) (x2:Sl) (x3 x4:Int) (R:IC) (K:KF α) :
  eC k (qd.u3.c R) (za [(1, .ptr (some x0)), (4, .int .i64 x1), (33, .slice x2), (34, .int .i64 x3), (35, .int .i64 x4)]) K =
   qd.u3.f k x0 x1 x2 x3 x4 (fun y0 y1 y2 y3 y4=>eC k R (za [(1, .ptr (some y0)), (4, .int .i64 y1), (33, .slice y2), (34, .int .i64 y3), (35, .int .i64 y4)]) K) (K (.exit 1) (za [])):=by kernel_rfl
theorem qd.u4.ok (k:Nat) (x0:Ad) (x1:Int) (x2:Sl) (x3 x4:Int) (R:IC) (K:KF α) :
  eC k (qd.u4.c R) (za [(1, .ptr (some x0)), (4, .int .i64 x1), (33, .slice x2), (34, .int .i64 x3), (35, .int .i64 x4)]) K =
   qd.u4.f k x0 x1 x2 x3 x4 (fun y0 y1 y2 y3 y4 y5 y6 y7 y8 y9=>eC k R (za [(1, .ptr (some y0)), (4, .int .i64 y1), (5, .int .i64 y2), (6, .slice y3), (33, .slice y4), (34, .int .i64 y5), (35, .int .i64 y6), (77, .slice y7), (78, .int .i64 y8), (79, .int .i64 y9)]) K) (fun y0 y1=>K .ret (fr21 y0 y1)):=by kernel_rfl
theorem qd.u5.ok (k:Nat) (x0:Ad) (x1 x2:Int) (x3 x4:Sl) (x5 x6:Int) (x7:Sl) (x8 x9:Int) (K:KF α) :
  eC k qd.u5.c (za [(1, .ptr (some x0)), (4, .int .i64 x1), (5, .int .i64 x2), (6, .slice x3), (33, .slice x4), (34, .int .i64 x5), (35, .int .i64 x6), (77, .slice x7), (78, .int .i64 x8), (79, .int .i64 x9)]) K =
   qd.u5.f k x0 x1 x2 x3 x4 x5 x6 x7 x8 x9 (fun y0 y1 y2 y3 y4 y5 y6 y7 y8 y9=>K .normal (za [(1, .ptr (some y0)), (4, .int .i64 y1), (5, .int .i64 y2), (6, .slice y3), (33, .slice y4), (34, .int .i64 y5), (35, .int .i64 y6), (77, .slice y7), (78, .int .i64 y8), (79, .int .i64 y9)])) (fun y0 y1=>K .ret (fr21 y0 y1)) (fun y0 y1 y2 y3 y4=>K (.exit 4) (za [(1, .ptr (some y0)), (4, .int .i64 y1), (33, .slice y2), (34, .int .i64 y3), (35, .int .i64 y4)])):=by kernel_rfl
theorem qd.u6.ls (k:Nat) (kr:Int->Int->M α) (kx4:Ad->Int->Sl->Int->Int->M α) (j:Nat) (x0:Ad) (x1 x2:Int) (x3 x4:Sl) (x5 x6:Int) (x7:Sl) (x8 x9:Int):qd.u6.l k kr kx4 (j + 1) x0 x1 x2 x3 x4 x5 x6 x7 x8 x9 =
 qd.u5.f k x0 x1 x2 x3 x4 x5 x6 x7 x8 x9 (fun y0 y1 y2 y3 y4 y5 y6 y7 y8 y9=>qd.u6.l k kr kx4 j y0 y1 y2 y3 y4 y5 y6 y7 y8 y9) kr kx4:=rfl
theorem qd.u6.okl (k:Nat) (K:KF α):∀ (j:Nat) (x0:Ad) (x1 x2:Int) (x3 x4:Sl) (x5 x6:Int) (x7:Sl) (x8 x9:Int),
  zu (eC k qd.u5.c) [1, 4, 5, 6, 33, 34, 35, 77, 78, 79] j (za [(1, .ptr (some x0)), (4, .int .i64 x1), (5, .int .i64 x2), (6, .slice x3), (33, .slice x4), (34, .int .i64 x5), (35, .int .i64 x6), (77, .slice x7), (78, .int .i64 x8), (79, .int .i64 x9)]) K = qd.u6.l k (fun y0 y1=>K .ret (fr21 y0 y1)) (fun y0 y1 y2 y3 y4=>K (.exit 4) (za [(1, .ptr (some y0)), (4, .int .i64 y1), (33, .slice y2), (34, .int .i64 y3), (35, .int .i64 y4)])) j x0 x1 x2 x3 x4 x5 x6 x7 x8 x9
 | 0, _, _, _, _, _, _, _, _, _, _=>rfl
 | j + 1, x0, x1, x2, x3, x4, x5, x6, x7, x8, x9=>by
   have h:=qd.u5.ok k x0 x1 x2 x3 x4 x5 x6 x7 x8 x9 (seqK (fun ρ=>zu (eC k qd.u5.c) [1, 4, 5, 6, 33, 34, 35, 77, 78, 79] j ρ K) K)
   simp only [zj, zo, zp, zg, qd.u6.okl k K j] at h
   exact (je (by kernel_rfl) h).trans (qd.u6.ls k (fun y0 y1=>K .ret (fr21 y0 y1)) (fun y0 y1 y2 y3 y4=>K (.exit 4) (za [(1, .ptr (some y0)), (4, .int .i64 y1), (33, .slice y2), (34, .int .i64 y3), (35, .int .i64 y4)])) j x0 x1 x2 x3 x4 x5 x6 x7 x8 x9).symm
theorem qd.u6.ok (k:Nat) (x0:Ad) (x1 x2:Int) (x3 x4:Sl) (x5 x6:Int) (x7:Sl) (x8 x9:Int) (K:KF α) :
  eC k qd.u6.c (za [(1, .ptr (some x0)), (4, .int .i64 x1), (5, .int .i64 x2), (6, .slice x3), (33, .slice x4), (34, .int .i64 x5), (35, .int .i64 x6), (77, .slice x7), (78, .int .i64 x8), (79, .int .i64 x9)]) K =
   qd.u6.f k x0 x1 x2 x3 x4 x5 x6 x7 x8 x9 (fun y0 y1=>K .ret (fr21 y0 y1)) (fun y0 y1 y2 y3 y4=>K (.exit 4) (za [(1, .ptr (some y0)), (4, .int .i64 y1), (33, .slice y2), (34, .int .i64 y3), (35, .int .i64 y4)])):=
 yi.trans <| (jd (body:=eC k qd.u5.c) (keep:=[1, 4, 5, 6, 33, 34, 35, 77, 78, 79]) (ρ:=(za [(1, .ptr (some x0)), (4, .int .i64 x1), (5, .int .i64 x2), (6, .slice x3), (33, .slice x4), (34, .int .i64 x5), (35, .int .i64 x6), (77, .slice x7), (78, .int .i64 x8), (79, .int .i64 x9)])) (ρ':=(za [(1, .ptr (some x0)), (4, .int .i64 x1), (5, .int .i64 x2), (6, .slice x3), (33, .slice x4), (34, .int .i64 x5), (35, .int .i64 x6), (77, .slice x7), (78, .int .i64 x8), (79, .int .i64 x9)])) (by kernel_rfl) k K).trans (qd.u6.okl k K k x0 x1 x2 x3 x4 x5 x6 x7 x8 x9)
theorem qd.u7.ok (k:Nat) (x0:Ad) (x1 x2:Int) (x3 x4:Sl) (x5 x6:Int) (x7:Sl) (x8 x9:Int) (K:KF α) :
  eC k qd.u7.c (za [(1, .ptr (some x0)), (4, .int .i64 x1), (5, .int .i64 x2), (6, .slice x3), (33, .slice x4), (34, .int .i64 x5), (35, .int .i64 x6), (77, .slice x7), (78, .int .i64 x8), (79, .int .i64 x9)]) K =
   qd.u7.f k x0 x1 x2 x3 x4 x5 x6 x7 x8 x9 (fun y0 y1 y2 y3 y4=>K .normal (za [(1, .ptr (some y0)), (4, .int .i64 y1), (33, .slice y2), (34, .int .i64 y3), (35, .int .i64 y4)])) (fun y0 y1=>K .ret (fr21 y0 y1)):=
 (jb.trans (qd.u6.ok k x0 x1 x2 x3 x4 x5 x6 x7 x8 x9 (yf 4 K))).trans (by kernel_rfl)
theorem qd.u8.ok (k:Nat) (x0:Ad) (x1:Int) (x2:Sl) (x3 x4:Int) (K:KF α) :
  eC k qd.u8.c (za [(1, .ptr (some x0)), (4, .int .i64 x1), (33, .slice x2), (34, .int .i64 x3), (35, .int .i64 x4)]) K =
   qd.u8.f k x0 x1 x2 x3 x4 (fun y0 y1 y2 y3 y4=>K .normal (za [(1, .ptr (some y0)), (4, .int .i64 y1), (33, .slice y2), (34, .int .i64 y3), (35, .int .i64 y4)])) (fun y0 y1=>K .ret (fr21 y0 y1)):=
 (qd.u4.ok k x0 x1 x2 x3 x4 qd.u7.c K).trans
  (congrArg (fun z=>qd.u4.f k x0 x1 x2 x3 x4 z (fun y0 y1=>K .ret (fr21 y0 y1))) (funext fun y0=>(funext fun y1=>(funext fun y2=>(funext fun y3=>(funext fun y4=>(funext fun y5=>(funext fun y6=>(funext fun y7=>(funext fun y8=>(funext fun y9=>qd.u7.ok k y0 y1 y2 y3 y4 y5 y6 y7 y8 y9 K)))))))))))
theorem qd.u9.ok (k:Nat) (x0:Ad) (x1:Int) (x2:Sl) (x3 x4:Int) (K:KF α) :
  eC k qd.u9.c (za [(1, .ptr (some x0)), (4, .int .i64 x1), (33, .slice x2), (34, .int .i64 x3), (35, .int .i64 x4)]) K =
   qd.u9.f k x0 x1 x2 x3 x4 (fun y0 y1 y2 y3 y4=>K .normal (za [(1, .ptr (some y0)), (4, .int .i64 y1), (33, .slice y2), (34, .int .i64 y3), (35, .int .i64 y4)])) (fun y0 y1=>K .ret (fr21 y0 y1)):=
 (jb.trans (qd.u8.ok k x0 x1 x2 x3 x4 (yf 2 K))).trans (by kernel_rfl)
theorem qd.u10.ok (k:Nat) (x0:Ad) (x1:Int) (x2:Sl) (x3 x4:Int) (K:KF α) :
  eC k qd.u10.c (za [(1, .ptr (some x0)), (4, .int .i64 x1), (33, .slice x2), (34, .int .i64 x3), (35, .int .i64 x4)]) K =
   qd.u10.f k x0 x1 x2 x3 x4 (fun y0 y1 y2 y3 y4=>K .normal (za [(1, .ptr (some y0)), (4, .int .i64 y1), (33, .slice y2), (34, .int .i64 y3), (35, .int .i64 y4)])):=by kernel_rfl
theorem qd.u11.ok (k:Nat) (x0:Ad) (x1:Int) (x2:Sl) (x3 x4:Int) (K:KF α) :
  eC k qd.u11.c (za [(1, .ptr (some x0)), (4, .int .i64 x1), (33, .slice x2), (34, .int .i64 x3), (35, .int .i64 x4)]) K =
   qd.u11.f k x0 x1 x2 x3 x4 (fun y0 y1 y2 y3 y4=>K .normal (za [(1, .ptr (some y0)), (4, .int .i64 y1), (33, .slice y2), (34, .int .i64 y3), (35, .int .i64 y4)])) (fun y0 y1=>K .ret (fr21 y0 y1)):=
 by
  have h:=qd.u9.ok k x0 x1 x2 x3 x4 (seqK (fun ρ=>eC k qd.u10.c ρ K) K)
  simp only [zg, zj, zo, zp, qd.u10.ok] at h
  exact jl h
theorem qd.u12.ok (k:Nat) (x0:Ad) (x1:Int) (x2:Sl) (x3 x4:Int) (K:KF α) :
  eC k qd.u12.c (za [(1, .ptr (some x0)), (4, .int .i64 x1), (33, .slice x2), (34, .int .i64 x3), (35, .int .i64 x4)]) K =
   qd.u12.f k x0 x1 x2 x3 x4 (fun y0 y1 y2 y3 y4=>K .normal (za [(1, .ptr (some y0)), (4, .int .i64 y1), (33, .slice y2), (34, .int .i64 y3), (35, .int .i64 y4)])) (fun y0 y1=>K .ret (fr21 y0 y1)) (K (.exit 1) (za [])):=
 (qd.u3.ok k x0 x1 x2 x3 x4 qd.u11.c K).trans
  (congrArg (fun z=>qd.u3.f k x0 x1 x2 x3 x4 z (K (.exit 1) (za []))) (funext fun y0=>(funext fun y1=>(funext fun y2=>(funext fun y3=>(funext fun y4=>qd.u11.ok k y0 y1 y2 y3 y4 K))))))
theorem qd.u13.ls (k:Nat) (kr:Int->Int->M α) (kx1:M α) (j:Nat) (x0:Ad) (x1:Int) (x2:Sl) (x3 x4:Int):qd.u13.l k kr kx1 (j + 1) x0 x1 x2 x3 x4 =
 qd.u12.f k x0 x1 x2 x3 x4 (fun y0 y1 y2 y3 y4=>qd.u13.l k kr kx1 j y0 y1 y2 y3 y4) kr kx1:=rfl
theorem qd.u13.okl (k:Nat) (K:KF α):∀ (j:Nat) (x0:Ad) (x1:Int) (x2:Sl) (x3 x4:Int),
  zu (eC k qd.u12.c) [1, 4, 33, 34, 35] j (za [(1, .ptr (some x0)), (4, .int .i64 x1), (33, .slice x2), (34, .int .i64 x3), (35, .int .i64 x4)]) K = qd.u13.l k (fun y0 y1=>K .ret (fr21 y0 y1)) (K (.exit 1) (za [])) j x0 x1 x2 x3 x4
 | 0, _, _, _, _, _=>rfl
 | j + 1, x0, x1, x2, x3, x4=>by
   have h:=qd.u12.ok k x0 x1 x2 x3 x4 (seqK (fun ρ=>zu (eC k qd.u12.c) [1, 4, 33, 34, 35] j ρ K) K)
   simp only [zj, zo, zp, zg, qd.u13.okl k K j] at h
   exact (je (by kernel_rfl) h).trans (qd.u13.ls k (fun y0 y1=>K .ret (fr21 y0 y1)) (K (.exit 1) (za [])) j x0 x1 x2 x3 x4).symm
theorem qd.u13.ok (k:Nat) (x0:Ad) (x1:Int) (x2:Sl) (x3 x4:Int) (K:KF α) :
  eC k qd.u13.c (za [(1, .ptr (some x0)), (4, .int .i64 x1), (33, .slice x2), (34, .int .i64 x3), (35, .int .i64 x4)]) K =
   qd.u13.f k x0 x1 x2 x3 x4 (fun y0 y1=>K .ret (fr21 y0 y1)) (K (.exit 1) (za [])):=
 yi.trans <| (jd (body:=eC k qd.u12.c) (keep:=[1, 4, 33, 34, 35]) (ρ:=(za [(1, .ptr (some x0)), (4, .int .i64 x1), (33, .slice x2), (34, .int .i64 x3), (35, .int .i64 x4)])) (ρ':=(za [(1, .ptr (some x0)), (4, .int .i64 x1), (33, .slice x2), (34, .int .i64 x3), (35, .int .i64 x4)])) (by kernel_rfl) k K).trans (qd.u13.okl k K k x0 x1 x2 x3 x4)
theorem qd.u14.ok (k:Nat) (x0:Ad) (x1:Int) (x2:Sl) (x3 x4:Int) (K:KF α) :
  eC k qd.u14.c (za [(1, .ptr (some x0)), (4, .int .i64 x1), (33, .slice x2), (34, .int .i64 x3), (35, .int .i64 x4)]) K =
   qd.u14.f k x0 x1 x2 x3 x4 (K .normal (za [])) (fun y0 y1=>K .ret (fr21 y0 y1)):=
 (jb.trans (qd.u13.ok k x0 x1 x2 x3 x4 (yf 1 K))).trans (by kernel_rfl)
theorem qd.u15.ok (k:Nat) (x0:Ad) (x1:Int) (K:KF α) :
  eC k qd.u15.c (za [(1, .ptr (some x0)), (4, .int .i64 x1)]) K =
   qd.u15.f k x0 x1 (K .normal (za [])) (fun y0 y1=>K .ret (fr21 y0 y1)):=
 (qd.u2.ok k x0 x1 qd.u14.c K).trans
  (congrArg (fun z=>qd.u2.f k x0 x1 z) (funext fun y0=>(funext fun y1=>(funext fun y2=>(funext fun y3=>(funext fun y4=>qd.u14.ok k y0 y1 y2 y3 y4 K))))))
theorem qd.u16.ok (k:Nat) (K:KF α) :
  eC k qd.u16.c (za []) K =
   qd.u16.f k (fun y0 y1=>K .ret (fr21 y0 y1)):=by kernel_rfl
theorem qd.u17.ok (k:Nat) (x0:Ad) (x1:Int) (K:KF α) :
  eC k qd.u17.c (za [(1, .ptr (some x0)), (4, .int .i64 x1)]) K =
   qd.u17.f k x0 x1 (fun y0 y1=>K .ret (fr21 y0 y1)):=
 by
  have h:=qd.u15.ok k x0 x1 (seqK (fun ρ=>eC k qd.u16.c ρ K) K)
  simp only [zg, zj, zo, zp, qd.u16.ok] at h
  exact jl h
theorem qd.u18.ok (k:Nat) (x0 x1 x2:Sl) (K:KF α) :
  eC k qd.u18.c (za [(0, .agg [.slice x0, .slice x1, .slice x2])]) K =
   qd.u18.f k x0 x1 x2 (fun y0 y1=>K .ret (fr21 y0 y1)):=
 (qd.u1.ok k x0 x1 x2 qd.u17.c K).trans
  (congrArg (fun z=>qd.u1.f k x0 x1 x2 z (fun y0 y1=>K .ret (fr21 y0 y1))) (funext fun y0=>(funext fun y1=>qd.u17.ok k y0 y1 K)))
theorem qd.ok (k:Nat) (x0 x1 x2:Sl) (κ:Res->M α) :
  evF T (env k) k qd.c qd.res [.agg [.slice x0, .slice x1, .slice x2]] κ = qd.f (k + 1) x0 x1 x2 (fun o0 o1=>κ (.ret (.tuple [.int .i64 o0, .int .i64 o1]))):=
 (qd.u18.ok k x0 x1 x2 (retK T qd.res κ)).trans (by kernel_rfl)
theorem qd.code:qd.c.code = jv Tryd.f18:=by kernel_rfl
noncomputable def qu.c:IC:=qu.u1.c
noncomputable def qu.res:List ResultVar:=[(.tmp 2)]
theorem qu.u1.ok (k:Nat) (x0:Int) (K:KF α) :
  eC k qu.u1.c (fr22 x0) K =
   qu.u1.f k x0 (fun y0=>K .ret (fr23 y0)):=by kernel_rfl
theorem qu.ok (k:Nat) (x0:Int) (κ:Res->M α) :
  evF T (env k) k qu.c qu.res [.int .i64 x0] κ = qu.f (k + 1) x0 (fun o0=>κ (.ret (.str o0))):=
 (qu.u1.ok k x0 (retK T qu.res κ)).trans (by kernel_rfl)
theorem qu.code:qu.c.code = jv Tryd.f63:=by kernel_rfl
noncomputable def qg.c:IC:=qg.u12.c
noncomputable def qg.res:List ResultVar:=[]
theorem qg.u1.ok (k:Nat) (x0:Sl) (x1:Int) (R:IC) (K:KF α) :
  eC k (qg.u1.c R) (fr24 x0 x1) K =
   qg.u1.f k x0 x1 (fun y0 y1 y2=>eC k R (fr25 y0 y1 y2) K):=by kernel_rfl
theorem qg.u2.ok (k:Nat) (x0:Sl) (x1 x2:Int) (R:IC) (K:KF α) :
  eC k (qg.u2.c R) (fr25 x0 x1 x2) K =
   qg.u2.f k x0 x1 x2 (fun y0 y1 y2=>eC k R (fr25 y0 y1 y2) K) (fun y0 y1 y2=>K (.exit 0) (fr25 y0 y1 y2)):=by kernel_rfl
theorem qg.u3.ok (k:Nat) (x0:Sl) (x1 x2:Int) (K:KF α) :
  eC k qg.u3.c (fr25 x0 x1 x2) K =
   qg.u3.f k x0 x1 x2 (fun y0 y1 y2=>K .normal (fr25 y0 y1 y2)):=by kernel_rfl
theorem qg.u4.ok (k:Nat) (x0:Sl) (x1 x2:Int) (K:KF α) :
  eC k qg.u4.c (fr25 x0 x1 x2) K =
   qg.u4.f k x0 x1 x2 (fun y0 y1 y2=>K .normal (fr25 y0 y1 y2)):=
 (jb.trans (qg.u3.ok k x0 x1 x2 (yf 1 K))).trans (by kernel_rfl)
theorem qg.u5.ok (k:Nat) (x0:Sl) (x1 x2:Int) (K:KF α) :
  eC k qg.u5.c (fr25 x0 x1 x2) K =
   qg.u5.f k x0 x1 x2 (fun y0 y1 y2=>K .normal (fr25 y0 y1 y2)) (fun y0 y1 y2=>K (.exit 0) (fr25 y0 y1 y2)):=
 (qg.u2.ok k x0 x1 x2 qg.u4.c K).trans
  (congrArg (fun z=>qg.u2.f k x0 x1 x2 z (fun y0 y1 y2=>K (.exit 0) (fr25 y0 y1 y2))) (funext fun y0=>(funext fun y1=>(funext fun y2=>qg.u4.ok k y0 y1 y2 K))))
theorem qg.u6.ls (k:Nat) (kx0:Sl->Int->Int->M α) (j:Nat) (x0:Sl) (x1 x2:Int):qg.u6.l k kx0 (j + 1) x0 x1 x2 =
 qg.u5.f k x0 x1 x2 (fun y0 y1 y2=>qg.u6.l k kx0 j y0 y1 y2) kx0:=rfl
theorem qg.u6.okl (k:Nat) (K:KF α):∀ (j:Nat) (x0:Sl) (x1 x2:Int),
  zu (eC k qg.u5.c) [0, 1, 4] j (fr25 x0 x1 x2) K = qg.u6.l k (fun y0 y1 y2=>K (.exit 0) (fr25 y0 y1 y2)) j x0 x1 x2
 | 0, _, _, _=>rfl
 | j + 1, x0, x1, x2=>by
   have h:=qg.u5.ok k x0 x1 x2 (seqK (fun ρ=>zu (eC k qg.u5.c) [0, 1, 4] j ρ K) K)
   simp only [zj, zo, zp, zg, qg.u6.okl k K j] at h
   exact (je (by kernel_rfl) h).trans (qg.u6.ls k (fun y0 y1 y2=>K (.exit 0) (fr25 y0 y1 y2)) j x0 x1 x2).symm
theorem qg.u6.ok (k:Nat) (x0:Sl) (x1 x2:Int) (K:KF α) :
  eC k qg.u6.c (fr25 x0 x1 x2) K =
   qg.u6.f k x0 x1 x2 (fun y0 y1 y2=>K (.exit 0) (fr25 y0 y1 y2)):=
 yi.trans <| (jd (body:=eC k qg.u5.c) (keep:=[0, 1, 4]) (ρ:=(fr25 x0 x1 x2)) (ρ':=(fr25 x0 x1 x2)) (by kernel_rfl) k K).trans (qg.u6.okl k K k x0 x1 x2)
theorem qg.u7.ok (k:Nat) (x0:Sl) (x1 x2:Int) (K:KF α) :
  eC k qg.u7.c (fr25 x0 x1 x2) K =
   qg.u7.f k x0 x1 x2 (fun y0 y1 y2=>K .normal (fr25 y0 y1 y2)):=
 (jb.trans (qg.u6.ok k x0 x1 x2 (yf 0 K))).trans (by kernel_rfl)
theorem qg.u8.ok (k:Nat) (x0:Sl) (x1 x2:Int) (R:IC) (K:KF α) :
  eC k (qg.u8.c R) (fr25 x0 x1 x2) K =
   qg.u8.f k x0 x1 x2 (fun y0 y1 y2=>eC k R (za [(0, .slice y0), (4, .int .i64 y1), (12, .int .u32 y2)]) K):=by kernel_rfl
theorem qg.u9.ok (k:Nat) (x0:Sl) (x1 x2:Int) (K:KF α) :
  eC k qg.u9.c (za [(0, .slice x0), (4, .int .i64 x1), (12, .int .u32 x2)]) K =
   qg.u9.f k x0 x1 x2 (K .normal (za [])):=by kernel_rfl
theorem qg.u10.ok (k:Nat) (x0:Sl) (x1 x2:Int) (K:KF α) :
  eC k qg.u10.c (fr25 x0 x1 x2) K =
   qg.u10.f k x0 x1 x2 (K .normal (za [])):=
 (qg.u8.ok k x0 x1 x2 qg.u9.c K).trans
  (congrArg (fun z=>qg.u8.f k x0 x1 x2 z) (funext fun y0=>(funext fun y1=>(funext fun y2=>qg.u9.ok k y0 y1 y2 K))))
theorem qg.u11.ok (k:Nat) (x0:Sl) (x1 x2:Int) (K:KF α) :
  eC k qg.u11.c (fr25 x0 x1 x2) K =
   qg.u11.f k x0 x1 x2 (K .normal (za [])):=
 by
  have h:=qg.u7.ok k x0 x1 x2 (seqK (fun ρ=>eC k qg.u10.c ρ K) K)
  simp only [zg, zj, zo, zp, qg.u10.ok] at h
  exact jl h
theorem qg.u12.ok (k:Nat) (x0:Sl) (x1:Int) (K:KF α) :
  eC k qg.u12.c (fr24 x0 x1) K =
   qg.u12.f k x0 x1 (K .normal (za [])):=
 (qg.u1.ok k x0 x1 qg.u11.c K).trans
  (congrArg (fun z=>qg.u1.f k x0 x1 z) (funext fun y0=>(funext fun y1=>(funext fun y2=>qg.u11.ok k y0 y1 y2 K))))
theorem qg.ok (k:Nat) (x0:Sl) (x1:Int) (κ:Res->M α) :
  evF T (env k) k qg.c qg.res [.slice x0, .int .u64 x1] κ = qg.f (k + 1) x0 x1 (κ (.ret (.tuple []))):=
 (qg.u12.ok k x0 x1 (retK T qg.res κ)).trans (by kernel_rfl)
theorem qg.code:qg.c.code = jv Tryd.f65:=by kernel_rfl
noncomputable def qs.c:IC:=qs.u1.c
noncomputable def qs.res:List ResultVar:=[(.tmp 6)]
theorem qs.u1.ok (k:Nat) (x0:Sl) (x1 x2:Int) (K:KF α) :
  eC k qs.u1.c (fr26 x0 x1 x2) K =
   qs.u1.f k x0 x1 x2 (fun y0=>K .ret (fr27 y0)):=by kernel_rfl
theorem qs.ok (k:Nat) (x0:Sl) (x1 x2:Int) (κ:Res->M α) :
  evF T (env k) k qs.c qs.res [.slice x0, .int .u64 x1, .int .i64 x2] κ = qs.f (k + 1) x0 x1 x2 (fun o0=>κ (.ret (.slice o0))):=
 (qs.u1.ok k x0 x1 x2 (retK T qs.res κ)).trans (by kernel_rfl)
theorem qs.code:qs.c.code = jv Tryd.f50:=by kernel_rfl
noncomputable def qy.c:IC:=qy.u1.c
noncomputable def qy.res:List ResultVar:=[(.tmp 6)]
theorem qy.u1.ok (k:Nat) (x0:Sl) (x1 x2:Int) (K:KF α) :
  eC k qy.u1.c (fr28 x0 x1 x2) K =
   qy.u1.f k x0 x1 x2 (fun y0=>K .ret (fr27 y0)):=by kernel_rfl
theorem qy.ok (k:Nat) (x0:Sl) (x1 x2:Int) (κ:Res->M α) :
  evF T (env k) k qy.c qy.res [.slice x0, .int .i64 x1, .int .i64 x2] κ = qy.f (k + 1) x0 x1 x2 (fun o0=>κ (.ret (.slice o0))):=
 (qy.u1.ok k x0 x1 x2 (retK T qy.res κ)).trans (by kernel_rfl)
theorem qy.code:qy.c.code = jv Tryd.f38:=by kernel_rfl
noncomputable def qp.c:IC:=qp.u1.c
noncomputable def qp.res:List ResultVar:=[(.tmp 6)]
theorem qp.u1.ok (k:Nat) (x0:Sl) (x1 x2:Int) (K:KF α) :
  eC k qp.u1.c (fr28 x0 x1 x2) K =
   qp.u1.f k x0 x1 x2 (fun y0=>K .ret (fr27 y0)):=by kernel_rfl
theorem qp.ok (k:Nat) (x0:Sl) (x1 x2:Int) (κ:Res->M α) :
  evF T (env k) k qp.c qp.res [.slice x0, .int .i64 x1, .int .i64 x2] κ = qp.f (k + 1) x0 x1 x2 (fun o0=>κ (.ret (.slice o0))):=
 (qp.u1.ok k x0 x1 x2 (retK T qp.res κ)).trans (by kernel_rfl)
theorem qp.code:qp.c.code = jv Tryd.f21:=by kernel_rfl
noncomputable def qa.c:IC:=qa.u30.c
noncomputable def qa.res:List ResultVar:=[(.tmp 2)]
theorem qa.u1.ok (k:Nat) (x0 x1 x2:Sl) (R:IC) (K:KF α) :
  eC k (qa.u1.c R) (za [(0, .agg [.slice x0, .slice x1, .slice x2])]) K =
   qa.u1.f k x0 x1 x2 (fun y0 y1=>eC k R (za [(1, .ptr (some y0)), (5, .slice y1)]) K) (fun y0=>K .ret (fr23 y0)):=by kernel_rfl
theorem qa.u2.ok (k:Nat) (x0:Ad) (x1:Sl) (R:IC) (K:KF α) :
  eC k (qa.u2.c R) (za [(1, .ptr (some x0)), (5, .slice x1)]) K =
   qa.u2.f k x0 x1 (fun y0 y1 y2 y3 y4=>eC k R (za [(1, .ptr (some y0)), (5, .slice y1), (29, .slice y2), (30, .int .i64 y3), (31, .int .i64 y4)]) K):=by kernel_rfl
theorem qa.u3.ok (k:Nat) (x0:Ad) (x1 x2:Sl) (x3 x4:Int) (R:IC) (K:KF α) :
  eC k (qa.u3.c R) (za [(1, .ptr (some x0)), (5, .slice x1), (29, .slice x2), (30, .int .i64 x3), (31, .int .i64 x4)]) K =
   qa.u3.f k x0 x1 x2 x3 x4 (fun y0 y1 y2 y3 y4=>eC k R (za [(1, .ptr (some y0)), (5, .slice y1), (29, .slice y2), (30, .int .i64 y3), (31, .int .i64 y4)]) K) (fun y0=>K (.exit 0) (fr29 y0)):=by kernel_rfl
theorem qa.u4.ok (k:Nat) (x0:Ad) (x1 x2:Sl) (x3 x4:Int) (R:IC) (K:KF α) :
  eC k (qa.u4.c R) (za [(1, .ptr (some x0)), (5, .slice x1), (29, .slice x2), (30, .int .i64 x3), (31, .int .i64 x4)]) K =
   qa.u4.f k x0 x1 x2 x3 x4 (fun y0 y1 y2 y3 y4 y5 y6=>eC k R (za [(1, .ptr (some y0)), (5, .slice y1), (6, .int .i64 y2), (7, .slice y3), (29, .slice y4), (30, .int .i64 y5), (31, .int .i64 y6)]) K):=by kernel_rfl
theorem qa.u5.ok (k:Nat) (x0:Ad) (x1:Sl) (x2:Int) (x3 x4:Sl) (x5 x6:Int) (R:IC) (K:KF α) :
  eC k (qa.u5.c R) (za [(1, .ptr (some x0)), (5, .slice x1), (6, .int .i64 x2), (7, .slice x3), (29, .slice x4), (30, .int .i64 x5), (31, .int .i64 x6)]) K =
   qa.u5.f k x0 x1 x2 x3 x4 x5 x6 (fun y0 y1 y2 y3 y4 y5 y6 y7 y8=>eC k R (za [(1, .ptr (some y0)), (5, .slice y1), (7, .slice y2), (29, .slice y3), (30, .int .i64 y4), (31, .int .i64 y5), (47, .slice y6), (48, .int .i64 y7), (49, .int .i64 y8)]) K):=by kernel_rfl
theorem qa.u6.ok (k:Nat) (x0:Ad) (x1 x2 x3:Sl) (x4 x5:Int) (x6:Sl) (x7 x8:Int) (K:KF α) :
  eC k qa.u6.c (za [(1, .ptr (some x0)), (5, .slice x1), (7, .slice x2), (29, .slice x3), (30, .int .i64 x4), (31, .int .i64 x5), (47, .slice x6), (48, .int .i64 x7), (49, .int .i64 x8)]) K =
   qa.u6.f k x0 x1 x2 x3 x4 x5 x6 x7 x8 (fun y0 y1 y2 y3 y4 y5 y6 y7 y8=>K .normal (za [(1, .ptr (some y0)), (5, .slice y1), (7, .slice y2), (29, .slice y3), (30, .int .i64 y4), (31, .int .i64 y5), (47, .slice y6), (48, .int .i64 y7), (49, .int .i64 y8)])) (fun y0 y1 y2 y3 y4 y5=>K (.exit 2) (za [(1, .ptr (some y0)), (5, .slice y1), (7, .slice y2), (29, .slice y3), (30, .int .i64 y4), (31, .int .i64 y5)])):=by kernel_rfl
theorem qa.u7.ls (k:Nat) (kx2:Ad->Sl->Sl->Sl->Int->Int->M α) (j:Nat) (x0:Ad) (x1 x2 x3:Sl) (x4 x5:Int) (x6:Sl) (x7 x8:Int):qa.u7.l k kx2 (j + 1) x0 x1 x2 x3 x4 x5 x6 x7 x8 =
 qa.u6.f k x0 x1 x2 x3 x4 x5 x6 x7 x8 (fun y0 y1 y2 y3 y4 y5 y6 y7 y8=>qa.u7.l k kx2 j y0 y1 y2 y3 y4 y5 y6 y7 y8) kx2:=rfl
theorem qa.u7.okl (k:Nat) (K:KF α):∀ (j:Nat) (x0:Ad) (x1 x2 x3:Sl) (x4 x5:Int) (x6:Sl) (x7 x8:Int),
  zu (eC k qa.u6.c) [1, 5, 7, 29, 30, 31, 47, 48, 49] j (za [(1, .ptr (some x0)), (5, .slice x1), (7, .slice x2), (29, .slice x3), (30, .int .i64 x4), (31, .int .i64 x5), (47, .slice x6), (48, .int .i64 x7), (49, .int .i64 x8)]) K = qa.u7.l k (fun y0 y1 y2 y3 y4 y5=>K (.exit 2) (za [(1, .ptr (some y0)), (5, .slice y1), (7, .slice y2), (29, .slice y3), (30, .int .i64 y4), (31, .int .i64 y5)])) j x0 x1 x2 x3 x4 x5 x6 x7 x8
 | 0, _, _, _, _, _, _, _, _, _=>rfl
 | j + 1, x0, x1, x2, x3, x4, x5, x6, x7, x8=>by
   have h:=qa.u6.ok k x0 x1 x2 x3 x4 x5 x6 x7 x8 (seqK (fun ρ=>zu (eC k qa.u6.c) [1, 5, 7, 29, 30, 31, 47, 48, 49] j ρ K) K)
   simp only [zj, zo, zp, zg, qa.u7.okl k K j] at h
   exact (je (by kernel_rfl) h).trans (qa.u7.ls k (fun y0 y1 y2 y3 y4 y5=>K (.exit 2) (za [(1, .ptr (some y0)), (5, .slice y1), (7, .slice y2), (29, .slice y3), (30, .int .i64 y4), (31, .int .i64 y5)])) j x0 x1 x2 x3 x4 x5 x6 x7 x8).symm
theorem qa.u7.ok (k:Nat) (x0:Ad) (x1 x2 x3:Sl) (x4 x5:Int) (x6:Sl) (x7 x8:Int) (K:KF α) :
  eC k qa.u7.c (za [(1, .ptr (some x0)), (5, .slice x1), (7, .slice x2), (29, .slice x3), (30, .int .i64 x4), (31, .int .i64 x5), (47, .slice x6), (48, .int .i64 x7), (49, .int .i64 x8)]) K =
   qa.u7.f k x0 x1 x2 x3 x4 x5 x6 x7 x8 (fun y0 y1 y2 y3 y4 y5=>K (.exit 2) (za [(1, .ptr (some y0)), (5, .slice y1), (7, .slice y2), (29, .slice y3), (30, .int .i64 y4), (31, .int .i64 y5)])):=
 yi.trans <| (jd (body:=eC k qa.u6.c) (keep:=[1, 5, 7, 29, 30, 31, 47, 48, 49]) (ρ:=(za [(1, .ptr (some x0)), (5, .slice x1), (7, .slice x2), (29, .slice x3), (30, .int .i64 x4), (31, .int .i64 x5), (47, .slice x6), (48, .int .i64 x7), (49, .int .i64 x8)])) (ρ':=(za [(1, .ptr (some x0)), (5, .slice x1), (7, .slice x2), (29, .slice x3), (30, .int .i64 x4), (31, .int .i64 x5), (47, .slice x6), (48, .int .i64 x7), (49, .int .i64 x8)])) (by kernel_rfl) k K).trans (qa.u7.okl k K k x0 x1 x2 x3 x4 x5 x6 x7 x8)
theorem qa.u8.ok (k:Nat) (x0:Ad) (x1 x2 x3:Sl) (x4 x5:Int) (x6:Sl) (x7 x8:Int) (K:KF α) :
  eC k qa.u8.c (za [(1, .ptr (some x0)), (5, .slice x1), (7, .slice x2), (29, .slice x3), (30, .int .i64 x4), (31, .int .i64 x5), (47, .slice x6), (48, .int .i64 x7), (49, .int .i64 x8)]) K =
   qa.u8.f k x0 x1 x2 x3 x4 x5 x6 x7 x8 (fun y0 y1 y2 y3 y4 y5=>K .normal (za [(1, .ptr (some y0)), (5, .slice y1), (7, .slice y2), (29, .slice y3), (30, .int .i64 y4), (31, .int .i64 y5)])):=
 (jb.trans (qa.u7.ok k x0 x1 x2 x3 x4 x5 x6 x7 x8 (yf 2 K))).trans (by kernel_rfl)
theorem qa.u9.ok (k:Nat) (x0:Ad) (x1:Sl) (x2:Int) (x3 x4:Sl) (x5 x6:Int) (K:KF α) :
  eC k qa.u9.c (za [(1, .ptr (some x0)), (5, .slice x1), (6, .int .i64 x2), (7, .slice x3), (29, .slice x4), (30, .int .i64 x5), (31, .int .i64 x6)]) K =
   qa.u9.f k x0 x1 x2 x3 x4 x5 x6 (fun y0 y1 y2 y3 y4 y5=>K .normal (za [(1, .ptr (some y0)), (5, .slice y1), (7, .slice y2), (29, .slice y3), (30, .int .i64 y4), (31, .int .i64 y5)])):=
 (qa.u5.ok k x0 x1 x2 x3 x4 x5 x6 qa.u8.c K).trans
  (congrArg (fun z=>qa.u5.f k x0 x1 x2 x3 x4 x5 x6 z) (funext fun y0=>(funext fun y1=>(funext fun y2=>(funext fun y3=>(funext fun y4=>(funext fun y5=>(funext fun y6=>(funext fun y7=>(funext fun y8=>qa.u8.ok k y0 y1 y2 y3 y4 y5 y6 y7 y8 K))))))))))
theorem qa.u10.ok (k:Nat) (x0:Ad) (x1 x2 x3:Sl) (x4 x5:Int) (R:IC) (K:KF α) :
  eC k (qa.u10.c R) (za [(1, .ptr (some x0)), (5, .slice x1), (7, .slice x2), (29, .slice x3), (30, .int .i64 x4), (31, .int .i64 x5)]) K =
   qa.u10.f k x0 x1 x2 x3 x4 x5 (fun y0 y1 y2 y3 y4 y5=>eC k R (za [(1, .ptr (some y0)), (5, .slice y1), (7, .slice y2), (29, .slice y3), (30, .int .i64 y4), (31, .int .i64 y5)]) K):=by kernel_rfl
theorem qa.u11.ok (k:Nat) (x0:Ad) (x1 x2 x3:Sl) (x4 x5:Int) (R:IC) (K:KF α) :
  eC k (qa.u11.c R) (za [(1, .ptr (some x0)), (5, .slice x1), (7, .slice x2), (29, .slice x3), (30, .int .i64 x4), (31, .int .i64 x5)]) K =
   qa.u11.f k x0 x1 x2 x3 x4 x5 (fun y0 y1 y2 y3 y4 y5 y6 y7=>eC k R (za [(1, .ptr (some y0)), (5, .slice y1), (29, .slice y2), (30, .int .i64 y3), (31, .int .i64 y4), (62, .slice y5), (63, .int .i64 y6), (64, .int .i64 y7)]) K):=by kernel_rfl
theorem qa.u12.ok (k:Nat) (x0:Ad) (x1 x2:Sl) (x3 x4:Int) (x5:Sl) (x6 x7:Int) (K:KF α) :
  eC k qa.u12.c (za [(1, .ptr (some x0)), (5, .slice x1), (29, .slice x2), (30, .int .i64 x3), (31, .int .i64 x4), (62, .slice x5), (63, .int .i64 x6), (64, .int .i64 x7)]) K =
   qa.u12.f k x0 x1 x2 x3 x4 x5 x6 x7 (fun y0 y1 y2 y3 y4 y5 y6 y7=>K .normal (za [(1, .ptr (some y0)), (5, .slice y1), (29, .slice y2), (30, .int .i64 y3), (31, .int .i64 y4), (62, .slice y5), (63, .int .i64 y6), (64, .int .i64 y7)])) (fun y0 y1 y2 y3 y4=>K (.exit 4) (za [(1, .ptr (some y0)), (5, .slice y1), (29, .slice y2), (30, .int .i64 y3), (31, .int .i64 y4)])):=by kernel_rfl
theorem qa.u13.ls (k:Nat) (kx4:Ad->Sl->Sl->Int->Int->M α) (j:Nat) (x0:Ad) (x1 x2:Sl) (x3 x4:Int) (x5:Sl) (x6 x7:Int):qa.u13.l k kx4 (j + 1) x0 x1 x2 x3 x4 x5 x6 x7 =
 qa.u12.f k x0 x1 x2 x3 x4 x5 x6 x7 (fun y0 y1 y2 y3 y4 y5 y6 y7=>qa.u13.l k kx4 j y0 y1 y2 y3 y4 y5 y6 y7) kx4:=rfl
theorem qa.u13.okl (k:Nat) (K:KF α):∀ (j:Nat) (x0:Ad) (x1 x2:Sl) (x3 x4:Int) (x5:Sl) (x6 x7:Int),
  zu (eC k qa.u12.c) [1, 5, 29, 30, 31, 62, 63, 64] j (za [(1, .ptr (some x0)), (5, .slice x1), (29, .slice x2), (30, .int .i64 x3), (31, .int .i64 x4), (62, .slice x5), (63, .int .i64 x6), (64, .int .i64 x7)]) K = qa.u13.l k (fun y0 y1 y2 y3 y4=>K (.exit 4) (za [(1, .ptr (some y0)), (5, .slice y1), (29, .slice y2), (30, .int .i64 y3), (31, .int .i64 y4)])) j x0 x1 x2 x3 x4 x5 x6 x7
 | 0, _, _, _, _, _, _, _, _=>rfl
 | j + 1, x0, x1, x2, x3, x4, x5, x6, x7=>by
   have h:=qa.u12.ok k x0 x1 x2 x3 x4 x5 x6 x7 (seqK (fun ρ=>zu (eC k qa.u12.c) [1, 5, 29, 30, 31, 62, 63, 64] j ρ K) K)
   simp only [zj, zo, zp, zg, qa.u13.okl k K j] at h
   exact (je (by kernel_rfl) h).trans (qa.u13.ls k (fun y0 y1 y2 y3 y4=>K (.exit 4) (za [(1, .ptr (some y0)), (5, .slice y1), (29, .slice y2), (30, .int .i64 y3), (31, .int .i64 y4)])) j x0 x1 x2 x3 x4 x5 x6 x7).symm
theorem qa.u13.ok (k:Nat) (x0:Ad) (x1 x2:Sl) (x3 x4:Int) (x5:Sl) (x6 x7:Int) (K:KF α) :
  eC k qa.u13.c (za [(1, .ptr (some x0)), (5, .slice x1), (29, .slice x2), (30, .int .i64 x3), (31, .int .i64 x4), (62, .slice x5), (63, .int .i64 x6), (64, .int .i64 x7)]) K =
   qa.u13.f k x0 x1 x2 x3 x4 x5 x6 x7 (fun y0 y1 y2 y3 y4=>K (.exit 4) (za [(1, .ptr (some y0)), (5, .slice y1), (29, .slice y2), (30, .int .i64 y3), (31, .int .i64 y4)])):=
 yi.trans <| (jd (body:=eC k qa.u12.c) (keep:=[1, 5, 29, 30, 31, 62, 63, 64]) (ρ:=(za [(1, .ptr (some x0)), (5, .slice x1), (29, .slice x2), (30, .int .i64 x3), (31, .int .i64 x4), (62, .slice x5), (63, .int .i64 x6), (64, .int .i64 x7)])) (ρ':=(za [(1, .ptr (some x0)), (5, .slice x1), (29, .slice x2), (30, .int .i64 x3), (31, .int .i64 x4), (62, .slice x5), (63, .int .i64 x6), (64, .int .i64 x7)])) (by kernel_rfl) k K).trans (qa.u13.okl k K k x0 x1 x2 x3 x4 x5 x6 x7)
theorem qa.u14.ok (k:Nat) (x0:Ad) (x1 x2:Sl) (x3 x4:Int) (x5:Sl) (x6 x7:Int) (K:KF α) :
  eC k qa.u14.c (za [(1, .ptr (some x0)), (5, .slice x1), (29, .slice x2), (30, .int .i64 x3), (31, .int .i64 x4), (62, .slice x5), (63, .int .i64 x6), (64, .int .i64 x7)]) K =
   qa.u14.f k x0 x1 x2 x3 x4 x5 x6 x7 (fun y0 y1 y2 y3 y4=>K .normal (za [(1, .ptr (some y0)), (5, .slice y1), (29, .slice y2), (30, .int .i64 y3), (31, .int .i64 y4)])):=
 (jb.trans (qa.u13.ok k x0 x1 x2 x3 x4 x5 x6 x7 (yf 4 K))).trans (by kernel_rfl)
theorem qa.u15.ok (k:Nat) (x0:Ad) (x1 x2 x3:Sl) (x4 x5:Int) (K:KF α) :
  eC k qa.u15.c (za [(1, .ptr (some x0)), (5, .slice x1), (7, .slice x2), (29, .slice x3), (30, .int .i64 x4), (31, .int .i64 x5)]) K =
   qa.u15.f k x0 x1 x2 x3 x4 x5 (fun y0 y1 y2 y3 y4=>K .normal (za [(1, .ptr (some y0)), (5, .slice y1), (29, .slice y2), (30, .int .i64 y3), (31, .int .i64 y4)])):=
 (qa.u11.ok k x0 x1 x2 x3 x4 x5 qa.u14.c K).trans
  (congrArg (fun z=>qa.u11.f k x0 x1 x2 x3 x4 x5 z) (funext fun y0=>(funext fun y1=>(funext fun y2=>(funext fun y3=>(funext fun y4=>(funext fun y5=>(funext fun y6=>(funext fun y7=>qa.u14.ok k y0 y1 y2 y3 y4 y5 y6 y7 K)))))))))
theorem qa.u16.ok (k:Nat) (x0:Ad) (x1 x2:Sl) (x3 x4:Int) (K:KF α) :
  eC k qa.u16.c (za [(1, .ptr (some x0)), (5, .slice x1), (29, .slice x2), (30, .int .i64 x3), (31, .int .i64 x4)]) K =
   qa.u16.f k x0 x1 x2 x3 x4 (fun y0 y1 y2 y3 y4=>K .normal (za [(1, .ptr (some y0)), (5, .slice y1), (29, .slice y2), (30, .int .i64 y3), (31, .int .i64 y4)])):=by kernel_rfl
theorem qa.u17.ok (k:Nat) (x0:Ad) (x1 x2 x3:Sl) (x4 x5:Int) (K:KF α) :
  eC k qa.u17.c (za [(1, .ptr (some x0)), (5, .slice x1), (7, .slice x2), (29, .slice x3), (30, .int .i64 x4), (31, .int .i64 x5)]) K =
   qa.u17.f k x0 x1 x2 x3 x4 x5 (fun y0 y1 y2 y3 y4=>K .normal (za [(1, .ptr (some y0)), (5, .slice y1), (29, .slice y2), (30, .int .i64 y3), (31, .int .i64 y4)])):=
 by
  have h:=qa.u15.ok k x0 x1 x2 x3 x4 x5 (seqK (fun ρ=>eC k qa.u16.c ρ K) K)
  simp only [zg, zj, zo, zp, qa.u16.ok] at h
  exact jl h
theorem qa.u18.ok (k:Nat) (x0:Ad) (x1 x2 x3:Sl) (x4 x5:Int) (K:KF α) :
  eC k qa.u18.c (za [(1, .ptr (some x0)), (5, .slice x1), (7, .slice x2), (29, .slice x3), (30, .int .i64 x4), (31, .int .i64 x5)]) K =
   qa.u18.f k x0 x1 x2 x3 x4 x5 (fun y0 y1 y2 y3 y4=>K .normal (za [(1, .ptr (some y0)), (5, .slice y1), (29, .slice y2), (30, .int .i64 y3), (31, .int .i64 y4)])):=
 (qa.u10.ok k x0 x1 x2 x3 x4 x5 qa.u17.c K).trans
  (congrArg (fun z=>qa.u10.f k x0 x1 x2 x3 x4 x5 z) (funext fun y0=>(funext fun y1=>(funext fun y2=>(funext fun y3=>(funext fun y4=>(funext fun y5=>qa.u17.ok k y0 y1 y2 y3 y4 y5 K)))))))
theorem qa.u19.ok (k:Nat) (x0:Ad) (x1:Sl) (x2:Int) (x3 x4:Sl) (x5 x6:Int) (K:KF α) :
  eC k qa.u19.c (za [(1, .ptr (some x0)), (5, .slice x1), (6, .int .i64 x2), (7, .slice x3), (29, .slice x4), (30, .int .i64 x5), (31, .int .i64 x6)]) K =
   qa.u19.f k x0 x1 x2 x3 x4 x5 x6 (fun y0 y1 y2 y3 y4=>K .normal (za [(1, .ptr (some y0)), (5, .slice y1), (29, .slice y2), (30, .int .i64 y3), (31, .int .i64 y4)])):=
 by
  have h:=qa.u9.ok k x0 x1 x2 x3 x4 x5 x6 (seqK (fun ρ=>eC k qa.u18.c ρ K) K)
  simp only [zg, zj, zo, zp, qa.u18.ok] at h
  exact jl h
theorem qa.u20.ok (k:Nat) (x0:Ad) (x1 x2:Sl) (x3 x4:Int) (K:KF α) :
  eC k qa.u20.c (za [(1, .ptr (some x0)), (5, .slice x1), (29, .slice x2), (30, .int .i64 x3), (31, .int .i64 x4)]) K =
   qa.u20.f k x0 x1 x2 x3 x4 (fun y0 y1 y2 y3 y4=>K .normal (za [(1, .ptr (some y0)), (5, .slice y1), (29, .slice y2), (30, .int .i64 y3), (31, .int .i64 y4)])):=
 (qa.u4.ok k x0 x1 x2 x3 x4 qa.u19.c K).trans
  (congrArg (fun z=>qa.u4.f k x0 x1 x2 x3 x4 z) (funext fun y0=>(funext fun y1=>(funext fun y2=>(funext fun y3=>(funext fun y4=>(funext fun y5=>(funext fun y6=>qa.u19.ok k y0 y1 y2 y3 y4 y5 y6 K))))))))
theorem qa.u21.ok (k:Nat) (x0:Ad) (x1 x2:Sl) (x3 x4:Int) (K:KF α) :
  eC k qa.u21.c (za [(1, .ptr (some x0)), (5, .slice x1), (29, .slice x2), (30, .int .i64 x3), (31, .int .i64 x4)]) K =
   qa.u21.f k x0 x1 x2 x3 x4 (fun y0 y1 y2 y3 y4=>K .normal (za [(1, .ptr (some y0)), (5, .slice y1), (29, .slice y2), (30, .int .i64 y3), (31, .int .i64 y4)])):=
 (jb.trans (qa.u20.ok k x0 x1 x2 x3 x4 (yf 1 K))).trans (by kernel_rfl)
theorem qa.u22.ok (k:Nat) (x0:Ad) (x1 x2:Sl) (x3 x4:Int) (K:KF α) :
  eC k qa.u22.c (za [(1, .ptr (some x0)), (5, .slice x1), (29, .slice x2), (30, .int .i64 x3), (31, .int .i64 x4)]) K =
   qa.u22.f k x0 x1 x2 x3 x4 (fun y0 y1 y2 y3 y4=>K .normal (za [(1, .ptr (some y0)), (5, .slice y1), (29, .slice y2), (30, .int .i64 y3), (31, .int .i64 y4)])):=by kernel_rfl
theorem qa.u23.ok (k:Nat) (x0:Ad) (x1 x2:Sl) (x3 x4:Int) (K:KF α) :
  eC k qa.u23.c (za [(1, .ptr (some x0)), (5, .slice x1), (29, .slice x2), (30, .int .i64 x3), (31, .int .i64 x4)]) K =
   qa.u23.f k x0 x1 x2 x3 x4 (fun y0 y1 y2 y3 y4=>K .normal (za [(1, .ptr (some y0)), (5, .slice y1), (29, .slice y2), (30, .int .i64 y3), (31, .int .i64 y4)])):=
 by
  have h:=qa.u21.ok k x0 x1 x2 x3 x4 (seqK (fun ρ=>eC k qa.u22.c ρ K) K)
  simp only [zg, zj, zo, zp, qa.u22.ok] at h
  exact jl h
theorem qa.u24.ok (k:Nat) (x0:Ad) (x1 x2:Sl) (x3 x4:Int) (K:KF α) :
  eC k qa.u24.c (za [(1, .ptr (some x0)), (5, .slice x1), (29, .slice x2), (30, .int .i64 x3), (31, .int .i64 x4)]) K =
   qa.u24.f k x0 x1 x2 x3 x4 (fun y0 y1 y2 y3 y4=>K .normal (za [(1, .ptr (some y0)), (5, .slice y1), (29, .slice y2), (30, .int .i64 y3), (31, .int .i64 y4)])) (fun y0=>K (.exit 0) (fr29 y0)):=
 (qa.u3.ok k x0 x1 x2 x3 x4 qa.u23.c K).trans
  (congrArg (fun z=>qa.u3.f k x0 x1 x2 x3 x4 z (fun y0=>K (.exit 0) (fr29 y0))) (funext fun y0=>(funext fun y1=>(funext fun y2=>(funext fun y3=>(funext fun y4=>qa.u23.ok k y0 y1 y2 y3 y4 K))))))
theorem qa.u25.ls (k:Nat) (kx0:Sl->M α) (j:Nat) (x0:Ad) (x1 x2:Sl) (x3 x4:Int):qa.u25.l k kx0 (j + 1) x0 x1 x2 x3 x4 =
 qa.u24.f k x0 x1 x2 x3 x4 (fun y0 y1 y2 y3 y4=>qa.u25.l k kx0 j y0 y1 y2 y3 y4) kx0:=rfl
theorem qa.u25.okl (k:Nat) (K:KF α):∀ (j:Nat) (x0:Ad) (x1 x2:Sl) (x3 x4:Int),
  zu (eC k qa.u24.c) [1, 5, 29, 30, 31] j (za [(1, .ptr (some x0)), (5, .slice x1), (29, .slice x2), (30, .int .i64 x3), (31, .int .i64 x4)]) K = qa.u25.l k (fun y0=>K (.exit 0) (fr29 y0)) j x0 x1 x2 x3 x4
 | 0, _, _, _, _, _=>rfl
 | j + 1, x0, x1, x2, x3, x4=>by
   have h:=qa.u24.ok k x0 x1 x2 x3 x4 (seqK (fun ρ=>zu (eC k qa.u24.c) [1, 5, 29, 30, 31] j ρ K) K)
   simp only [zj, zo, zp, zg, qa.u25.okl k K j] at h
   exact (je (by kernel_rfl) h).trans (qa.u25.ls k (fun y0=>K (.exit 0) (fr29 y0)) j x0 x1 x2 x3 x4).symm
theorem qa.u25.ok (k:Nat) (x0:Ad) (x1 x2:Sl) (x3 x4:Int) (K:KF α) :
  eC k qa.u25.c (za [(1, .ptr (some x0)), (5, .slice x1), (29, .slice x2), (30, .int .i64 x3), (31, .int .i64 x4)]) K =
   qa.u25.f k x0 x1 x2 x3 x4 (fun y0=>K (.exit 0) (fr29 y0)):=
 yi.trans <| (jd (body:=eC k qa.u24.c) (keep:=[1, 5, 29, 30, 31]) (ρ:=(za [(1, .ptr (some x0)), (5, .slice x1), (29, .slice x2), (30, .int .i64 x3), (31, .int .i64 x4)])) (ρ':=(za [(1, .ptr (some x0)), (5, .slice x1), (29, .slice x2), (30, .int .i64 x3), (31, .int .i64 x4)])) (by kernel_rfl) k K).trans (qa.u25.okl k K k x0 x1 x2 x3 x4)
theorem qa.u26.ok (k:Nat) (x0:Ad) (x1 x2:Sl) (x3 x4:Int) (K:KF α) :
  eC k qa.u26.c (za [(1, .ptr (some x0)), (5, .slice x1), (29, .slice x2), (30, .int .i64 x3), (31, .int .i64 x4)]) K =
   qa.u26.f k x0 x1 x2 x3 x4 (fun y0=>K .normal (fr29 y0)):=
 (jb.trans (qa.u25.ok k x0 x1 x2 x3 x4 (yf 0 K))).trans (by kernel_rfl)
theorem qa.u27.ok (k:Nat) (x0:Ad) (x1:Sl) (K:KF α) :
  eC k qa.u27.c (za [(1, .ptr (some x0)), (5, .slice x1)]) K =
   qa.u27.f k x0 x1 (fun y0=>K .normal (fr29 y0)):=
 (qa.u2.ok k x0 x1 qa.u26.c K).trans
  (congrArg (fun z=>qa.u2.f k x0 x1 z) (funext fun y0=>(funext fun y1=>(funext fun y2=>(funext fun y3=>(funext fun y4=>qa.u26.ok k y0 y1 y2 y3 y4 K))))))
theorem qa.u28.ok (k:Nat) (x0:Sl) (K:KF α) :
  eC k qa.u28.c (fr29 x0) K =
   qa.u28.f k x0 (fun y0=>K .ret (fr23 y0)):=by kernel_rfl
theorem qa.u29.ok (k:Nat) (x0:Ad) (x1:Sl) (K:KF α) :
  eC k qa.u29.c (za [(1, .ptr (some x0)), (5, .slice x1)]) K =
   qa.u29.f k x0 x1 (fun y0=>K .ret (fr23 y0)):=
 by
  have h:=qa.u27.ok k x0 x1 (seqK (fun ρ=>eC k qa.u28.c ρ K) K)
  simp only [zg, zj, zo, zp, qa.u28.ok] at h
  exact jl h
theorem qa.u30.ok (k:Nat) (x0 x1 x2:Sl) (K:KF α) :
  eC k qa.u30.c (za [(0, .agg [.slice x0, .slice x1, .slice x2])]) K =
   qa.u30.f k x0 x1 x2 (fun y0=>K .ret (fr23 y0)):=
 (qa.u1.ok k x0 x1 x2 qa.u29.c K).trans
  (congrArg (fun z=>qa.u1.f k x0 x1 x2 z (fun y0=>K .ret (fr23 y0))) (funext fun y0=>(funext fun y1=>qa.u29.ok k y0 y1 K)))
theorem qa.ok (k:Nat) (x0 x1 x2:Sl) (κ:Res->M α) :
  evF T (env k) k qa.c qa.res [.agg [.slice x0, .slice x1, .slice x2]] κ = qa.f (k + 1) x0 x1 x2 (fun o0=>κ (.ret (.str o0))):=
 (qa.u30.ok k x0 x1 x2 (retK T qa.res κ)).trans (by kernel_rfl)
theorem qa.code:qa.c.code = jv Tryd.f12:=by kernel_rfl
noncomputable def qv.c:IC:=qv.u1.c
noncomputable def qv.res:List ResultVar:=[(.tmp 0)]
theorem qv.u1.ok (k:Nat) (K:KF α) :
  eC k qv.u1.c (za []) K =
   qv.u1.f k (fun y0=>K .ret (fr30 y0)):=by kernel_rfl
theorem qv.ok (k:Nat) (κ:Res->M α) :
  evF T (env k) k qv.c qv.res [] κ = qv.f (k + 1) (fun o0=>κ (.ret (.bool o0))):=
 (qv.u1.ok k (retK T qv.res κ)).trans (by kernel_rfl)
theorem qv.code:qv.c.code = jv Tryd.f10:=by kernel_rfl
noncomputable def qq.c:IC:=qq.u1.c
noncomputable def qq.res:List ResultVar:=[(.tmp 4)]
theorem qq.u1.ok (k:Nat) (x0 x1:Int) (K:KF α) :
  eC k qq.u1.c (fr31 x0 x1) K =
   qq.u1.f k x0 x1 (fun y0=>K .ret (fr1 y0)):=by kernel_rfl
theorem qq.ok (k:Nat) (x0 x1:Int) (κ:Res->M α) :
  evF T (env k) k qq.c qq.res [.int .i64 x0, .int .i64 x1] κ = qq.f (k + 1) x0 x1 (fun o0=>κ (.ret (.int .i64 o0))):=
 (qq.u1.ok k x0 x1 (retK T qq.res κ)).trans (by kernel_rfl)
theorem qq.code:qq.c.code = jv Tryd.f20:=by kernel_rfl
noncomputable def qc.c:IC:=qc.u17.c
noncomputable def qc.res:List ResultVar:=[(.tmp 6)]
theorem qc.u1.ok (k:Nat) (x0 x1 x2:Sl) (x3 x4:Int) (R:IC) (K:KF α) :
  eC k (qc.u1.c R) (za [(0, .agg [.slice x0, .slice x1, .slice x2]), (1, .int .i64 x3), (2, .int .i64 x4)]) K =
   qc.u1.f k x0 x1 x2 x3 x4 (fun y0 y1 y2 y3 y4 y5=>eC k R (za [(1, .int .i64 y0), (2, .int .i64 y1), (3, .ptr (some y2)), (8, .str y3), (9, .slice y4), (10, .int .i64 y5)]) K) (fun y0=>K .ret (fr32 y0)):=by kernel_rfl
theorem qc.u2.ok (k:Nat) (x0 x1:Int) (x2:Ad) (x3:TX) (x4:Sl) (x5:Int) (R:IC) (K:KF α) :
  eC k (qc.u2.c R) (za [(1, .int .i64 x0), (2, .int .i64 x1), (3, .ptr (some x2)), (8, .str x3), (9, .slice x4), (10, .int .i64 x5)]) K =
   qc.u2.f k x0 x1 x2 x3 x4 x5 (fun y0 y1 y2 y3 y4 y5 y6=>eC k R (za [(1, .int .i64 y0), (2, .int .i64 y1), (3, .ptr (some y2)), (8, .str y3), (9, .slice y4), (10, .int .i64 y5), (11, .int .i64 y6)]) K):=by kernel_rfl
theorem qc.u3.ok (k:Nat) (x0 x1:Int) (x2:Ad) (x3:TX) (x4:Sl) (x5 x6:Int) (K:KF α) :
  eC k qc.u3.c (za [(1, .int .i64 x0), (2, .int .i64 x1), (3, .ptr (some x2)), (8, .str x3), (9, .slice x4), (10, .int .i64 x5), (11, .int .i64 x6)]) K =
   qc.u3.f k x0 x1 x2 x3 x4 x5 x6 (fun y0 y1 y2 y3 y4 y5 y6=>K .normal (za [(1, .int .i64 y0), (2, .int .i64 y1), (3, .ptr (some y2)), (8, .str y3), (9, .slice y4), (10, .int .i64 y5), (11, .int .i64 y6)])) (fun y0 y1 y2 y3=>K (.exit 0) (za [(1, .int .i64 y0), (2, .int .i64 y1), (3, .ptr (some y2)), (9, .slice y3)])):=by kernel_rfl
theorem qc.u4.ls (k:Nat) (kx0:Int->Int->Ad->Sl->M α) (j:Nat) (x0 x1:Int) (x2:Ad) (x3:TX) (x4:Sl) (x5 x6:Int):qc.u4.l k kx0 (j + 1) x0 x1 x2 x3 x4 x5 x6 =
 qc.u3.f k x0 x1 x2 x3 x4 x5 x6 (fun y0 y1 y2 y3 y4 y5 y6=>qc.u4.l k kx0 j y0 y1 y2 y3 y4 y5 y6) kx0:=rfl
theorem qc.u4.okl (k:Nat) (K:KF α):∀ (j:Nat) (x0 x1:Int) (x2:Ad) (x3:TX) (x4:Sl) (x5 x6:Int),
  zu (eC k qc.u3.c) [1, 2, 3, 8, 9, 10, 11] j (za [(1, .int .i64 x0), (2, .int .i64 x1), (3, .ptr (some x2)), (8, .str x3), (9, .slice x4), (10, .int .i64 x5), (11, .int .i64 x6)]) K = qc.u4.l k (fun y0 y1 y2 y3=>K (.exit 0) (za [(1, .int .i64 y0), (2, .int .i64 y1), (3, .ptr (some y2)), (9, .slice y3)])) j x0 x1 x2 x3 x4 x5 x6
 | 0, _, _, _, _, _, _, _=>rfl
 | j + 1, x0, x1, x2, x3, x4, x5, x6=>by
   have h:=qc.u3.ok k x0 x1 x2 x3 x4 x5 x6 (seqK (fun ρ=>zu (eC k qc.u3.c) [1, 2, 3, 8, 9, 10, 11] j ρ K) K)
   simp only [zj, zo, zp, zg, qc.u4.okl k K j] at h
   exact (je (by kernel_rfl) h).trans (qc.u4.ls k (fun y0 y1 y2 y3=>K (.exit 0) (za [(1, .int .i64 y0), (2, .int .i64 y1), (3, .ptr (some y2)), (9, .slice y3)])) j x0 x1 x2 x3 x4 x5 x6).symm
theorem qc.u4.ok (k:Nat) (x0 x1:Int) (x2:Ad) (x3:TX) (x4:Sl) (x5 x6:Int) (K:KF α) :
  eC k qc.u4.c (za [(1, .int .i64 x0), (2, .int .i64 x1), (3, .ptr (some x2)), (8, .str x3), (9, .slice x4), (10, .int .i64 x5), (11, .int .i64 x6)]) K =
   qc.u4.f k x0 x1 x2 x3 x4 x5 x6 (fun y0 y1 y2 y3=>K (.exit 0) (za [(1, .int .i64 y0), (2, .int .i64 y1), (3, .ptr (some y2)), (9, .slice y3)])):=
 yi.trans <| (jd (body:=eC k qc.u3.c) (keep:=[1, 2, 3, 8, 9, 10, 11]) (ρ:=(za [(1, .int .i64 x0), (2, .int .i64 x1), (3, .ptr (some x2)), (8, .str x3), (9, .slice x4), (10, .int .i64 x5), (11, .int .i64 x6)])) (ρ':=(za [(1, .int .i64 x0), (2, .int .i64 x1), (3, .ptr (some x2)), (8, .str x3), (9, .slice x4), (10, .int .i64 x5), (11, .int .i64 x6)])) (by kernel_rfl) k K).trans (qc.u4.okl k K k x0 x1 x2 x3 x4 x5 x6)
theorem qc.u5.ok (k:Nat) (x0 x1:Int) (x2:Ad) (x3:TX) (x4:Sl) (x5 x6:Int) (K:KF α) :
  eC k qc.u5.c (za [(1, .int .i64 x0), (2, .int .i64 x1), (3, .ptr (some x2)), (8, .str x3), (9, .slice x4), (10, .int .i64 x5), (11, .int .i64 x6)]) K =
   qc.u5.f k x0 x1 x2 x3 x4 x5 x6 (fun y0 y1 y2 y3=>K .normal (za [(1, .int .i64 y0), (2, .int .i64 y1), (3, .ptr (some y2)), (9, .slice y3)])):=
 (jb.trans (qc.u4.ok k x0 x1 x2 x3 x4 x5 x6 (yf 0 K))).trans (by kernel_rfl)
theorem qc.u6.ok (k:Nat) (x0 x1:Int) (x2:Ad) (x3:TX) (x4:Sl) (x5:Int) (K:KF α) :
  eC k qc.u6.c (za [(1, .int .i64 x0), (2, .int .i64 x1), (3, .ptr (some x2)), (8, .str x3), (9, .slice x4), (10, .int .i64 x5)]) K =
   qc.u6.f k x0 x1 x2 x3 x4 x5 (fun y0 y1 y2 y3=>K .normal (za [(1, .int .i64 y0), (2, .int .i64 y1), (3, .ptr (some y2)), (9, .slice y3)])):=
 (qc.u2.ok k x0 x1 x2 x3 x4 x5 qc.u5.c K).trans
  (congrArg (fun z=>qc.u2.f k x0 x1 x2 x3 x4 x5 z) (funext fun y0=>(funext fun y1=>(funext fun y2=>(funext fun y3=>(funext fun y4=>(funext fun y5=>(funext fun y6=>qc.u5.ok k y0 y1 y2 y3 y4 y5 y6 K))))))))
theorem qc.u7.ok (k:Nat) (x0 x1:Int) (x2:Ad) (x3:Sl) (R:IC) (K:KF α) :
  eC k (qc.u7.c R) (za [(1, .int .i64 x0), (2, .int .i64 x1), (3, .ptr (some x2)), (9, .slice x3)]) K =
   qc.u7.f k x0 x1 x2 x3 (fun y0 y1 y2 y3 y4=>eC k R (fr33 y0 y1 y2 y3 y4) K) (fun y0=>K .ret (fr32 y0)):=by kernel_rfl
theorem qc.u8.ok (k:Nat) (x0:Sl) (x1 x2:Int) (x3:TX) (x4:Int) (R:IC) (K:KF α) :
  eC k (qc.u8.c R) (fr33 x0 x1 x2 x3 x4) K =
   qc.u8.f k x0 x1 x2 x3 x4 (fun y0 y1 y2 y3 y4 y5=>eC k R (fr34 y0 y1 y2 y3 y4 y5) K):=by kernel_rfl
theorem qc.u9.ok (k:Nat) (x0:Sl) (x1 x2:Int) (x3:TX) (x4 x5:Int) (K:KF α) :
  eC k qc.u9.c (fr34 x0 x1 x2 x3 x4 x5) K =
   qc.u9.f k x0 x1 x2 x3 x4 x5 (fun y0 y1 y2 y3 y4 y5=>K .normal (fr34 y0 y1 y2 y3 y4 y5)) (fun y0 y1=>K (.exit 2) (fr35 y0 y1)):=by kernel_rfl
theorem qc.u10.ls (k:Nat) (kx2:TX->Int->M α) (j:Nat) (x0:Sl) (x1 x2:Int) (x3:TX) (x4 x5:Int):qc.u10.l k kx2 (j + 1) x0 x1 x2 x3 x4 x5 =
 qc.u9.f k x0 x1 x2 x3 x4 x5 (fun y0 y1 y2 y3 y4 y5=>qc.u10.l k kx2 j y0 y1 y2 y3 y4 y5) kx2:=rfl
theorem qc.u10.okl (k:Nat) (K:KF α):∀ (j:Nat) (x0:Sl) (x1 x2:Int) (x3:TX) (x4 x5:Int),
  zu (eC k qc.u9.c) [9, 12, 13, 14, 15, 16] j (fr34 x0 x1 x2 x3 x4 x5) K = qc.u10.l k (fun y0 y1=>K (.exit 2) (fr35 y0 y1)) j x0 x1 x2 x3 x4 x5
 | 0, _, _, _, _, _, _=>rfl
 | j + 1, x0, x1, x2, x3, x4, x5=>by
   have h:=qc.u9.ok k x0 x1 x2 x3 x4 x5 (seqK (fun ρ=>zu (eC k qc.u9.c) [9, 12, 13, 14, 15, 16] j ρ K) K)
   simp only [zj, zo, zp, zg, qc.u10.okl k K j] at h
   exact (je (by kernel_rfl) h).trans (qc.u10.ls k (fun y0 y1=>K (.exit 2) (fr35 y0 y1)) j x0 x1 x2 x3 x4 x5).symm
theorem qc.u10.ok (k:Nat) (x0:Sl) (x1 x2:Int) (x3:TX) (x4 x5:Int) (K:KF α) :
  eC k qc.u10.c (fr34 x0 x1 x2 x3 x4 x5) K =
   qc.u10.f k x0 x1 x2 x3 x4 x5 (fun y0 y1=>K (.exit 2) (fr35 y0 y1)):=
 yi.trans <| (jd (body:=eC k qc.u9.c) (keep:=[9, 12, 13, 14, 15, 16]) (ρ:=(fr34 x0 x1 x2 x3 x4 x5)) (ρ':=(fr34 x0 x1 x2 x3 x4 x5)) (by kernel_rfl) k K).trans (qc.u10.okl k K k x0 x1 x2 x3 x4 x5)
theorem qc.u11.ok (k:Nat) (x0:Sl) (x1 x2:Int) (x3:TX) (x4 x5:Int) (K:KF α) :
  eC k qc.u11.c (fr34 x0 x1 x2 x3 x4 x5) K =
   qc.u11.f k x0 x1 x2 x3 x4 x5 (fun y0 y1=>K .normal (fr35 y0 y1)):=
 (jb.trans (qc.u10.ok k x0 x1 x2 x3 x4 x5 (yf 2 K))).trans (by kernel_rfl)
theorem qc.u12.ok (k:Nat) (x0:Sl) (x1 x2:Int) (x3:TX) (x4:Int) (K:KF α) :
  eC k qc.u12.c (fr33 x0 x1 x2 x3 x4) K =
   qc.u12.f k x0 x1 x2 x3 x4 (fun y0 y1=>K .normal (fr35 y0 y1)):=
 (qc.u8.ok k x0 x1 x2 x3 x4 qc.u11.c K).trans
  (congrArg (fun z=>qc.u8.f k x0 x1 x2 x3 x4 z) (funext fun y0=>(funext fun y1=>(funext fun y2=>(funext fun y3=>(funext fun y4=>(funext fun y5=>qc.u11.ok k y0 y1 y2 y3 y4 y5 K)))))))
theorem qc.u13.ok (k:Nat) (x0:TX) (x1:Int) (K:KF α) :
  eC k qc.u13.c (fr35 x0 x1) K =
   qc.u13.f k x0 x1 (fun y0=>K .ret (fr32 y0)):=by kernel_rfl
theorem qc.u14.ok (k:Nat) (x0:Sl) (x1 x2:Int) (x3:TX) (x4:Int) (K:KF α) :
  eC k qc.u14.c (fr33 x0 x1 x2 x3 x4) K =
   qc.u14.f k x0 x1 x2 x3 x4 (fun y0=>K .ret (fr32 y0)):=
 by
  have h:=qc.u12.ok k x0 x1 x2 x3 x4 (seqK (fun ρ=>eC k qc.u13.c ρ K) K)
  simp only [zg, zj, zo, zp, qc.u13.ok] at h
  exact jl h
theorem qc.u15.ok (k:Nat) (x0 x1:Int) (x2:Ad) (x3:Sl) (K:KF α) :
  eC k qc.u15.c (za [(1, .int .i64 x0), (2, .int .i64 x1), (3, .ptr (some x2)), (9, .slice x3)]) K =
   qc.u15.f k x0 x1 x2 x3 (fun y0=>K .ret (fr32 y0)):=
 (qc.u7.ok k x0 x1 x2 x3 qc.u14.c K).trans
  (congrArg (fun z=>qc.u7.f k x0 x1 x2 x3 z (fun y0=>K .ret (fr32 y0))) (funext fun y0=>(funext fun y1=>(funext fun y2=>(funext fun y3=>(funext fun y4=>qc.u14.ok k y0 y1 y2 y3 y4 K))))))
theorem qc.u16.ok (k:Nat) (x0 x1:Int) (x2:Ad) (x3:TX) (x4:Sl) (x5:Int) (K:KF α) :
  eC k qc.u16.c (za [(1, .int .i64 x0), (2, .int .i64 x1), (3, .ptr (some x2)), (8, .str x3), (9, .slice x4), (10, .int .i64 x5)]) K =
   qc.u16.f k x0 x1 x2 x3 x4 x5 (fun y0=>K .ret (fr32 y0)):=
 by
  have h:=qc.u6.ok k x0 x1 x2 x3 x4 x5 (seqK (fun ρ=>eC k qc.u15.c ρ K) K)
  simp only [zg, zj, zo, zp, qc.u15.ok] at h
  exact jl h
theorem qc.u17.ok (k:Nat) (x0 x1 x2:Sl) (x3 x4:Int) (K:KF α) :
  eC k qc.u17.c (za [(0, .agg [.slice x0, .slice x1, .slice x2]), (1, .int .i64 x3), (2, .int .i64 x4)]) K =
   qc.u17.f k x0 x1 x2 x3 x4 (fun y0=>K .ret (fr32 y0)):=
 (qc.u1.ok k x0 x1 x2 x3 x4 qc.u16.c K).trans
  (congrArg (fun z=>qc.u1.f k x0 x1 x2 x3 x4 z (fun y0=>K .ret (fr32 y0))) (funext fun y0=>(funext fun y1=>(funext fun y2=>(funext fun y3=>(funext fun y4=>(funext fun y5=>qc.u16.ok k y0 y1 y2 y3 y4 y5 K)))))))
theorem qc.ok (k:Nat) (x0 x1 x2:Sl) (x3 x4:Int) (κ:Res->M α) :
  evF T (env k) k qc.c qc.res [.agg [.slice x0, .slice x1, .slice x2], .int .i64 x3, .int .i64 x4] κ = qc.f (k + 1) x0 x1 x2 x3 x4 (fun o0=>κ (.ret (.bool o0))):=
 (qc.u17.ok k x0 x1 x2 x3 x4 (retK T qc.res κ)).trans (by kernel_rfl)
theorem qc.code:qc.c.code = jv Tryd.f9:=by kernel_rfl
end
end Go.Ab.S8
