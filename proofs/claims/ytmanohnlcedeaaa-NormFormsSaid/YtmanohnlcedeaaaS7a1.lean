import Derived.Test.YtmanohnlcedeaaaS7a0
import Derived.Test.YtmanohnlcedeaaaAb20
import Derived.Shelf.Strings.Builder1
import Derived.Test.YtmanohnlcedeaaaProg
import Derived.KernelRfl
set_option linter.unusedVariables false
set_option linter.unusedSimpArgs false
namespace Go.Ab.S7
abbrev fr0 (x0:TX) (x1:Int):Frame:=za [(0, .str x0), (1, .int .u8 x1)]
abbrev fr1 (x0:Int):Frame:=za [(4, .int .i64 x0)]
abbrev fr2 (x0:Int):Frame:=za [(0, .int .u8 x0)]
abbrev fr3 (x0:Int):Frame:=za [(2, .int .i64 x0)]
abbrev fr4 (x0:Int) (x1:TX):Frame:=za [(0, .int .i64 x0), (1, .str x1)]
abbrev fr5 (x0:Int) (x1:TX) (x2:Int):Frame:=za [(0, .int .i64 x0), (1, .str x1), (5, .int .i64 x2)]
abbrev fr6 (x0:TX) (x1 x2:Int):Frame:=za [(1, .str x0), (5, .int .i64 x1), (6, .int .i64 x2)]
abbrev fr7 (x0:TX) (x1 x2:Int) (x3:Bool):Frame:=za [(1, .str x0), (5, .int .i64 x1), (6, .int .i64 x2), (7, .bool x3)]
abbrev fr8 (x0:TX) (x1:Int):Frame:=za [(1, .str x0), (5, .int .i64 x1)]
abbrev fr9 (x0:Int):Frame:=za [(5, .int .i64 x0)]
abbrev fr10 (x0:TX) (x1:Int) (x2:Bool):Frame:=za [(1, .str x0), (5, .int .i64 x1), (27, .bool x2)]
abbrev fr11 (x0:TX):Frame:=za [(0, .str x0)]
abbrev fr12 (x0:Int) (x1:Bool):Frame:=za [(2, .int .i64 x0), (3, .bool x1)]
abbrev fr13 (x0:TX) (x1:Int):Frame:=za [(0, .str x0), (4, .int .i64 x1)]
abbrev fr14 (x0:TX) (x1 x2 x3:Int):Frame:=za [(0, .str x0), (4, .int .i64 x1), (20, .int .i64 x2), (21, .int .i64 x3)]
abbrev fr15 (x0:TX) (x1:Int):Frame:=za [(0, .str x0), (1, .int .i64 x1)]
abbrev fr16 (x0:TX) (x1:Sl):Frame:=za [(0, .str x0), (4, .slice x1)]
abbrev fr17 (x0:TX) (x1:Sl) (x2:Int):Frame:=za [(0, .str x0), (4, .slice x1), (5, .int .i64 x2)]
abbrev fr18 (x0:Bool):Frame:=za [(2, .bool x0)]
abbrev fr19 (x0:Sl):Frame:=za [(4, .slice x0)]
abbrev fr20 (x0:Sl) (x1:Int):Frame:=za [(0, .slice x0), (5, .int .i64 x1)]
abbrev fr21 (x0:Bool):Frame:=za [(4, .bool x0)]
abbrev fr22 (x0:TX):Frame:=za [(4, .str x0)]
abbrev fr23 (x0:Int):Frame:=za [(9, .int .i64 x0)]
abbrev fr24 (x0:Int):Frame:=za [(8, .int .i64 x0)]
abbrev fr25 (x0:Sl):Frame:=za [(0, .slice x0)]
abbrev fr26 (x0:Sl):Frame:=za [(2, .slice x0)]
abbrev fr27 (x0:TX) (x1 x2:Int):Frame:=za [(0, .str x0), (1, .int .u8 x1), (2, .int .u8 x2)]
abbrev fr28 (x0:Bool):Frame:=za [(6, .bool x0)]
abbrev fr29 (x0:TX) (x1 x2:Int):Frame:=za [(0, .str x0), (30, .int .i64 x1), (31, .int .i64 x2)]
abbrev fr30 (x0:Int):Frame:=za [(0, .int .i64 x0)]
abbrev fr31 (x0 x1:Sl):Frame:=za [(0, .slice x0), (1, .slice x1)]
abbrev fr32 (x0 x1:Sl) (x2 x3:Int):Frame:=za [(0, .slice x0), (1, .slice x1), (12, .int .i64 x2), (13, .int .i64 x3)]
abbrev fr33 (x0 x1:Sl):Frame:=za [(0, .slice x0), (3, .slice x1)]
abbrev fr34 (x0 x1:Sl) (x2 x3:Int):Frame:=za [(3, .slice x0), (17, .slice x1), (18, .int .i64 x2), (19, .int .i64 x3)]
abbrev fr35 (x0:Sl):Frame:=za [(3, .slice x0)]
abbrev fr36 (x0 x1:Int):Frame:=za [(2, .int .i64 x0), (3, .int .i64 x1)]
abbrev fr37 (x0:Sl) (x1 x2:Int):Frame:=za [(3, .slice x0), (10, .int .i64 x1), (11, .int .i64 x2)]
abbrev fr38 (x0:Int):Frame:=za [(6, .int .i64 x0)]
abbrev fr39 (x0:Sl) (x1:Bool):Frame:=za [(0, .slice x0), (1, .bool x1)]
abbrev fr40 (x0 x1:Sl) (x2:Bool):Frame:=za [(0, .slice x0), (1, .slice x1), (2, .bool x2)]
abbrev fr41 (x0 x1:Sl) (x2:Bool) (x3:Int):Frame:=za [(0, .slice x0), (1, .slice x1), (2, .bool x2), (7, .int .i64 x3)]
abbrev fr42 (x0:Bool):Frame:=za [(0, .bool x0)]
abbrev fr43 (x0:Sl) (x1:Int):Frame:=za [(3, .slice x0), (4, .int .i64 x1)]
abbrev fr44 (x0:TX) (x1:Int):Frame:=za [(0, .str x0), (3, .int .i64 x1)]
section
variable {α:Type}
open Go.Proofs
noncomputable def qag.u1.f (k:Nat) (rr24:Sl->Int->Bool->Sl->(Sl->M α)->M α) (x0:Sl) (x1:Int) (x2:Bool) (x3:Sl) (kn:Sl->Bool->Sl->Ad->M α) (kr:Sl->M α):M α:=
 idxSl x0 x1 5 fun a6=>
 ldI .i64 (a6.add 0) fun x7=>
 ldI .i64 (a6.add 1) fun x8=>
 ldI .i64 (a6.add 2) fun x9=>
 ldStr (a6.add 3) fun x10=>
 ldI .i64 (a6.add 4) fun x11=>
 new [.int .i64 0, .int .i64 0, .int .i64 0, .str [], .int .i64 0] fun x12=>
 st1 (x12.add 0) (.int .i64 x7) <|
 st1 (x12.add 1) (.int .i64 x8) <|
 st1 (x12.add 2) (.int .i64 x9) <|
 st1 (x12.add 3) (.str x10) <|
 st1 (x12.add 4) (.int .i64 x11) <|
 ldI .i64 ((x12.add 0).add 0) fun x13=>
 cond (decide (x13 = 5)) (
  ldI .i64 ((x12.add 1).add 0) fun x14=>
  rr24 x0 x14 (!x2) x3 fun r15=>
  kr r15) (
  cond (x2) (
   ldI .i64 ((x12.add 0).add 0) fun x16=>
   qbk.f k x16 fun r17=>
   st1 ((x12.add 0).add 0) (.int .i64 r17) <|
   kn x0 x2 x3 x12) (
   kn x0 x2 x3 x12))
noncomputable def qag.u1.c (R:IC):IC:=(.seq (.ops 0 (zb Try.f24 0)) (.seq (.ops 1 (zb Try.f24 1)) (.seq (.seq (.ops 2 (zb Try.f24 2)) (.cond (.tmp 17) (.seq (.ops 3 (zb Try.f24 3)) (.ret [8])) .skip)) (.seq (.cut [0, 2, 3, 9] (.seq (.ops 4 (zb Try.f24 4)) (.cond (.tmp 25) (.ops 5 (zb Try.f24 5)) .skip))) R))))
noncomputable def qag.u2.f (k:Nat) (rr24:Sl->Int->Bool->Sl->(Sl->M α)->M α) (x0:Sl) (x1:Bool) (x2:Sl) (x3:Ad) (kr:Sl->M α):M α:=
 ldI .i64 ((x3.add 0).add 0) fun x6=>
 cond (decide (x6 = 6)) (
  cond (decide (x6 = 6)) (
   ldI .i64 ((x3.add 1).add 0) fun x7=>
   rr24 x0 x7 x1 x2 fun r8=>
   ldI .i64 ((x3.add 2).add 0) fun x9=>
   rr24 x0 x9 x1 r8 fun r10=>
   st1 ((x3.add 1).add 0) (.int .i64 (w64 ((r8.len:Int) - 1))) <|
   st1 ((x3.add 2).add 0) (.int .i64 (w64 ((r10.len:Int) - 1))) <|
   new [] fun r11=>
   ldI .i64 (x3.add 0) fun x12=>
   ldI .i64 (x3.add 1) fun x13=>
   ldI .i64 (x3.add 2) fun x14=>
   ldStr (x3.add 3) fun x15=>
   ldI .i64 (x3.add 4) fun x16=>
   new [.int .i64 x12, .int .i64 x13, .int .i64 x14, .str x15, .int .i64 x16] fun r17=>
   zq (⟨some r11, 0, 0, none⟩:Sl) 5 48 r10 fun x18=>
   ldI .i64 (x3.add 0) fun y19=>
   ldI .i64 (x3.add 1) fun y20=>
   ldI .i64 (x3.add 2) fun y21=>
   ldStr (x3.add 3) fun y22=>
   ldI .i64 (x3.add 4) fun y23=>
   need (decide (x12 = y19)) <|
   need (decide (x13 = y20)) <|
   need (decide (x14 = y21)) <|
   need (decide (x15 = y22)) <|
   need (decide (x16 = y23)) <|
   zq x18 5 48 (⟨some r17, 1, 1, none⟩:Sl) fun x24=>
   kr x24) (
   cond (decide (x6 = 8)) (
    cond (decide (x6 = 8)) (
     ldI .i64 ((x3.add 1).add 0) fun x25=>
     rr24 x0 x25 x1 x2 fun r26=>
     st1 ((x3.add 1).add 0) (.int .i64 (w64 ((r26.len:Int) - 1))) <|
     new [] fun r27=>
     ldI .i64 (x3.add 0) fun x28=>
     ldI .i64 (x3.add 1) fun x29=>
     ldI .i64 (x3.add 2) fun x30=>
     ldStr (x3.add 3) fun x31=>
     ldI .i64 (x3.add 4) fun x32=>
     new [.int .i64 x28, .int .i64 x29, .int .i64 x30, .str x31, .int .i64 x32] fun r33=>
     zq (⟨some r27, 0, 0, none⟩:Sl) 5 48 r26 fun x34=>
     ldI .i64 (x3.add 0) fun y35=>
     ldI .i64 (x3.add 1) fun y36=>
     ldI .i64 (x3.add 2) fun y37=>
     ldStr (x3.add 3) fun y38=>
     ldI .i64 (x3.add 4) fun y39=>
     need (decide (x28 = y35)) <|
     need (decide (x29 = y36)) <|
     need (decide (x30 = y37)) <|
     need (decide (x31 = y38)) <|
     need (decide (x32 = y39)) <|
     zq x34 5 48 (⟨some r33, 1, 1, none⟩:Sl) fun x40=>
     kr x40) (
     new [] fun r41=>
     ldI .i64 (x3.add 0) fun x42=>
     ldI .i64 (x3.add 1) fun x43=>
     ldI .i64 (x3.add 2) fun x44=>
     ldStr (x3.add 3) fun x45=>
     ldI .i64 (x3.add 4) fun x46=>
     new [.int .i64 x42, .int .i64 x43, .int .i64 x44, .str x45, .int .i64 x46] fun r47=>
     zq (⟨some r41, 0, 0, none⟩:Sl) 5 48 x2 fun x48=>
     ldI .i64 (x3.add 0) fun y49=>
     ldI .i64 (x3.add 1) fun y50=>
     ldI .i64 (x3.add 2) fun y51=>
     ldStr (x3.add 3) fun y52=>
     ldI .i64 (x3.add 4) fun y53=>
     need (decide (x42 = y49)) <|
     need (decide (x43 = y50)) <|
     need (decide (x44 = y51)) <|
     need (decide (x45 = y52)) <|
     need (decide (x46 = y53)) <|
     zq x48 5 48 (⟨some r47, 1, 1, none⟩:Sl) fun x54=>
     kr x54)) (
    cond (decide (x6 = 9)) (
     cond (decide (x6 = 9)) (
      ldI .i64 ((x3.add 1).add 0) fun x55=>
      rr24 x0 x55 x1 x2 fun r56=>
      st1 ((x3.add 1).add 0) (.int .i64 (w64 ((r56.len:Int) - 1))) <|
      new [] fun r57=>
      ldI .i64 (x3.add 0) fun x58=>
      ldI .i64 (x3.add 1) fun x59=>
      ldI .i64 (x3.add 2) fun x60=>
      ldStr (x3.add 3) fun x61=>
      ldI .i64 (x3.add 4) fun x62=>
      new [.int .i64 x58, .int .i64 x59, .int .i64 x60, .str x61, .int .i64 x62] fun r63=>
      zq (⟨some r57, 0, 0, none⟩:Sl) 5 48 r56 fun x64=>
      ldI .i64 (x3.add 0) fun y65=>
      ldI .i64 (x3.add 1) fun y66=>
      ldI .i64 (x3.add 2) fun y67=>
      ldStr (x3.add 3) fun y68=>
      ldI .i64 (x3.add 4) fun y69=>
      need (decide (x58 = y65)) <|
      need (decide (x59 = y66)) <|
      need (decide (x60 = y67)) <|
      need (decide (x61 = y68)) <|
      need (decide (x62 = y69)) <|
      zq x64 5 48 (⟨some r63, 1, 1, none⟩:Sl) fun x70=>
      kr x70) (
      new [] fun r71=>
      ldI .i64 (x3.add 0) fun x72=>
      ldI .i64 (x3.add 1) fun x73=>
      ldI .i64 (x3.add 2) fun x74=>
      ldStr (x3.add 3) fun x75=>
      ldI .i64 (x3.add 4) fun x76=>
      new [.int .i64 x72, .int .i64 x73, .int .i64 x74, .str x75, .int .i64 x76] fun r77=>
      zq (⟨some r71, 0, 0, none⟩:Sl) 5 48 x2 fun x78=>
      ldI .i64 (x3.add 0) fun y79=>
      ldI .i64 (x3.add 1) fun y80=>
      ldI .i64 (x3.add 2) fun y81=>
      ldStr (x3.add 3) fun y82=>
      ldI .i64 (x3.add 4) fun y83=>
      need (decide (x72 = y79)) <|
      need (decide (x73 = y80)) <|
      need (decide (x74 = y81)) <|
      need (decide (x75 = y82)) <|
      need (decide (x76 = y83)) <|
      zq x78 5 48 (⟨some r77, 1, 1, none⟩:Sl) fun x84=>
      kr x84)) (
     cond (decide (x6 = 10)) (
      cond (decide (x6 = 10)) (
       ldI .i64 ((x3.add 1).add 0) fun x85=>
       rr24 x0 x85 x1 x2 fun r86=>
       st1 ((x3.add 1).add 0) (.int .i64 (w64 ((r86.len:Int) - 1))) <|
       new [] fun r87=>
       ldI .i64 (x3.add 0) fun x88=>
       ldI .i64 (x3.add 1) fun x89=>
       ldI .i64 (x3.add 2) fun x90=>
       ldStr (x3.add 3) fun x91=>
       ldI .i64 (x3.add 4) fun x92=>
       new [.int .i64 x88, .int .i64 x89, .int .i64 x90, .str x91, .int .i64 x92] fun r93=>
       zq (⟨some r87, 0, 0, none⟩:Sl) 5 48 r86 fun x94=>
       ldI .i64 (x3.add 0) fun y95=>
       ldI .i64 (x3.add 1) fun y96=>
       ldI .i64 (x3.add 2) fun y97=>
       ldStr (x3.add 3) fun y98=>
       ldI .i64 (x3.add 4) fun y99=>
       need (decide (x88 = y95)) <|
       need (decide (x89 = y96)) <|
       need (decide (x90 = y97)) <|
       need (decide (x91 = y98)) <|
       need (decide (x92 = y99)) <|
       zq x94 5 48 (⟨some r93, 1, 1, none⟩:Sl) fun x100=>
       kr x100) (
       new [] fun r101=>
       ldI .i64 (x3.add 0) fun x102=>
       ldI .i64 (x3.add 1) fun x103=>
       ldI .i64 (x3.add 2) fun x104=>
       ldStr (x3.add 3) fun x105=>
       ldI .i64 (x3.add 4) fun x106=>
       new [.int .i64 x102, .int .i64 x103, .int .i64 x104, .str x105, .int .i64 x106] fun r107=>
       zq (⟨some r101, 0, 0, none⟩:Sl) 5 48 x2 fun x108=>
       ldI .i64 (x3.add 0) fun y109=>
       ldI .i64 (x3.add 1) fun y110=>
       ldI .i64 (x3.add 2) fun y111=>
       ldStr (x3.add 3) fun y112=>
       ldI .i64 (x3.add 4) fun y113=>
       need (decide (x102 = y109)) <|
       need (decide (x103 = y110)) <|
       need (decide (x104 = y111)) <|
       need (decide (x105 = y112)) <|
       need (decide (x106 = y113)) <|
       zq x108 5 48 (⟨some r107, 1, 1, none⟩:Sl) fun x114=>
       kr x114)) (
      cond (decide (x6 = 11)) (
       ldI .i64 ((x3.add 1).add 0) fun x115=>
       rr24 x0 x115 x1 x2 fun r116=>
       st1 ((x3.add 1).add 0) (.int .i64 (w64 ((r116.len:Int) - 1))) <|
       new [] fun r117=>
       ldI .i64 (x3.add 0) fun x118=>
       ldI .i64 (x3.add 1) fun x119=>
       ldI .i64 (x3.add 2) fun x120=>
       ldStr (x3.add 3) fun x121=>
       ldI .i64 (x3.add 4) fun x122=>
       new [.int .i64 x118, .int .i64 x119, .int .i64 x120, .str x121, .int .i64 x122] fun r123=>
       zq (⟨some r117, 0, 0, none⟩:Sl) 5 48 r116 fun x124=>
       ldI .i64 (x3.add 0) fun y125=>
       ldI .i64 (x3.add 1) fun y126=>
       ldI .i64 (x3.add 2) fun y127=>
       ldStr (x3.add 3) fun y128=>
       ldI .i64 (x3.add 4) fun y129=>
       need (decide (x118 = y125)) <|
       need (decide (x119 = y126)) <|
       need (decide (x120 = y127)) <|
       need (decide (x121 = y128)) <|
       need (decide (x122 = y129)) <|
       zq x124 5 48 (⟨some r123, 1, 1, none⟩:Sl) fun x130=>
       kr x130) (
       new [] fun r131=>
       ldI .i64 (x3.add 0) fun x132=>
       ldI .i64 (x3.add 1) fun x133=>
       ldI .i64 (x3.add 2) fun x134=>
       ldStr (x3.add 3) fun x135=>
       ldI .i64 (x3.add 4) fun x136=>
       new [.int .i64 x132, .int .i64 x133, .int .i64 x134, .str x135, .int .i64 x136] fun r137=>
       zq (⟨some r131, 0, 0, none⟩:Sl) 5 48 x2 fun x138=>
       ldI .i64 (x3.add 0) fun y139=>
       ldI .i64 (x3.add 1) fun y140=>
       ldI .i64 (x3.add 2) fun y141=>
       ldStr (x3.add 3) fun y142=>
       ldI .i64 (x3.add 4) fun y143=>
       need (decide (x132 = y139)) <|
       need (decide (x133 = y140)) <|
       need (decide (x134 = y141)) <|
       need (decide (x135 = y142)) <|
       need (decide (x136 = y143)) <|
       zq x138 5 48 (⟨some r137, 1, 1, none⟩:Sl) fun x144=>
       kr x144)))))) (
  cond (decide (x6 = 7)) (
   ldI .i64 ((x3.add 1).add 0) fun x145=>
   rr24 x0 x145 x1 x2 fun r146=>
   ldI .i64 ((x3.add 2).add 0) fun x147=>
   rr24 x0 x147 x1 r146 fun r148=>
   st1 ((x3.add 1).add 0) (.int .i64 (w64 ((r146.len:Int) - 1))) <|
   st1 ((x3.add 2).add 0) (.int .i64 (w64 ((r148.len:Int) - 1))) <|
   new [] fun r149=>
   ldI .i64 (x3.add 0) fun x150=>
   ldI .i64 (x3.add 1) fun x151=>
   ldI .i64 (x3.add 2) fun x152=>
   ldStr (x3.add 3) fun x153=>
   ldI .i64 (x3.add 4) fun x154=>
   new [.int .i64 x150, .int .i64 x151, .int .i64 x152, .str x153, .int .i64 x154] fun r155=>
   zq (⟨some r149, 0, 0, none⟩:Sl) 5 48 r148 fun x156=>
   ldI .i64 (x3.add 0) fun y157=>
   ldI .i64 (x3.add 1) fun y158=>
   ldI .i64 (x3.add 2) fun y159=>
   ldStr (x3.add 3) fun y160=>
   ldI .i64 (x3.add 4) fun y161=>
   need (decide (x150 = y157)) <|
   need (decide (x151 = y158)) <|
   need (decide (x152 = y159)) <|
   need (decide (x153 = y160)) <|
   need (decide (x154 = y161)) <|
   zq x156 5 48 (⟨some r155, 1, 1, none⟩:Sl) fun x162=>
   kr x162) (
   cond (decide (x6 = 8)) (
    cond (decide (x6 = 8)) (
     ldI .i64 ((x3.add 1).add 0) fun x163=>
     rr24 x0 x163 x1 x2 fun r164=>
     st1 ((x3.add 1).add 0) (.int .i64 (w64 ((r164.len:Int) - 1))) <|
     new [] fun r165=>
     ldI .i64 (x3.add 0) fun x166=>
     ldI .i64 (x3.add 1) fun x167=>
     ldI .i64 (x3.add 2) fun x168=>
     ldStr (x3.add 3) fun x169=>
     ldI .i64 (x3.add 4) fun x170=>
     new [.int .i64 x166, .int .i64 x167, .int .i64 x168, .str x169, .int .i64 x170] fun r171=>
     zq (⟨some r165, 0, 0, none⟩:Sl) 5 48 r164 fun x172=>
     ldI .i64 (x3.add 0) fun y173=>
     ldI .i64 (x3.add 1) fun y174=>
     ldI .i64 (x3.add 2) fun y175=>
     ldStr (x3.add 3) fun y176=>
     ldI .i64 (x3.add 4) fun y177=>
     need (decide (x166 = y173)) <|
     need (decide (x167 = y174)) <|
     need (decide (x168 = y175)) <|
     need (decide (x169 = y176)) <|
     need (decide (x170 = y177)) <|
     zq x172 5 48 (⟨some r171, 1, 1, none⟩:Sl) fun x178=>
     kr x178) (
     new [] fun r179=>
     ldI .i64 (x3.add 0) fun x180=>
     ldI .i64 (x3.add 1) fun x181=>
     ldI .i64 (x3.add 2) fun x182=>
     ldStr (x3.add 3) fun x183=>
     ldI .i64 (x3.add 4) fun x184=>
     new [.int .i64 x180, .int .i64 x181, .int .i64 x182, .str x183, .int .i64 x184] fun r185=>
     zq (⟨some r179, 0, 0, none⟩:Sl) 5 48 x2 fun x186=>
     ldI .i64 (x3.add 0) fun y187=>
     ldI .i64 (x3.add 1) fun y188=>
     ldI .i64 (x3.add 2) fun y189=>
     ldStr (x3.add 3) fun y190=>
     ldI .i64 (x3.add 4) fun y191=>
     need (decide (x180 = y187)) <|
     need (decide (x181 = y188)) <|
     need (decide (x182 = y189)) <|
     need (decide (x183 = y190)) <|
     need (decide (x184 = y191)) <|
     zq x186 5 48 (⟨some r185, 1, 1, none⟩:Sl) fun x192=>
     kr x192)) (
    cond (decide (x6 = 9)) (
     cond (decide (x6 = 9)) (
      ldI .i64 ((x3.add 1).add 0) fun x193=>
      rr24 x0 x193 x1 x2 fun r194=>
      st1 ((x3.add 1).add 0) (.int .i64 (w64 ((r194.len:Int) - 1))) <|
      new [] fun r195=>
      ldI .i64 (x3.add 0) fun x196=>
      ldI .i64 (x3.add 1) fun x197=>
      ldI .i64 (x3.add 2) fun x198=>
      ldStr (x3.add 3) fun x199=>
      ldI .i64 (x3.add 4) fun x200=>
      new [.int .i64 x196, .int .i64 x197, .int .i64 x198, .str x199, .int .i64 x200] fun r201=>
      zq (⟨some r195, 0, 0, none⟩:Sl) 5 48 r194 fun x202=>
      ldI .i64 (x3.add 0) fun y203=>
      ldI .i64 (x3.add 1) fun y204=>
      ldI .i64 (x3.add 2) fun y205=>
      ldStr (x3.add 3) fun y206=>
      ldI .i64 (x3.add 4) fun y207=>
      need (decide (x196 = y203)) <|
      need (decide (x197 = y204)) <|
      need (decide (x198 = y205)) <|
      need (decide (x199 = y206)) <|
      need (decide (x200 = y207)) <|
      zq x202 5 48 (⟨some r201, 1, 1, none⟩:Sl) fun x208=>
      kr x208) (
      new [] fun r209=>
      ldI .i64 (x3.add 0) fun x210=>
      ldI .i64 (x3.add 1) fun x211=>
      ldI .i64 (x3.add 2) fun x212=>
      ldStr (x3.add 3) fun x213=>
      ldI .i64 (x3.add 4) fun x214=>
      new [.int .i64 x210, .int .i64 x211, .int .i64 x212, .str x213, .int .i64 x214] fun r215=>
      zq (⟨some r209, 0, 0, none⟩:Sl) 5 48 x2 fun x216=>
      ldI .i64 (x3.add 0) fun y217=>
      ldI .i64 (x3.add 1) fun y218=>
      ldI .i64 (x3.add 2) fun y219=>
      ldStr (x3.add 3) fun y220=>
      ldI .i64 (x3.add 4) fun y221=>
      need (decide (x210 = y217)) <|
      need (decide (x211 = y218)) <|
      need (decide (x212 = y219)) <|
      need (decide (x213 = y220)) <|
      need (decide (x214 = y221)) <|
      zq x216 5 48 (⟨some r215, 1, 1, none⟩:Sl) fun x222=>
      kr x222)) (
     cond (decide (x6 = 10)) (
      cond (decide (x6 = 10)) (
       ldI .i64 ((x3.add 1).add 0) fun x223=>
       rr24 x0 x223 x1 x2 fun r224=>
       st1 ((x3.add 1).add 0) (.int .i64 (w64 ((r224.len:Int) - 1))) <|
       new [] fun r225=>
       ldI .i64 (x3.add 0) fun x226=>
       ldI .i64 (x3.add 1) fun x227=>
       ldI .i64 (x3.add 2) fun x228=>
       ldStr (x3.add 3) fun x229=>
       ldI .i64 (x3.add 4) fun x230=>
       new [.int .i64 x226, .int .i64 x227, .int .i64 x228, .str x229, .int .i64 x230] fun r231=>
       zq (⟨some r225, 0, 0, none⟩:Sl) 5 48 r224 fun x232=>
       ldI .i64 (x3.add 0) fun y233=>
       ldI .i64 (x3.add 1) fun y234=>
       ldI .i64 (x3.add 2) fun y235=>
       ldStr (x3.add 3) fun y236=>
       ldI .i64 (x3.add 4) fun y237=>
       need (decide (x226 = y233)) <|
       need (decide (x227 = y234)) <|
       need (decide (x228 = y235)) <|
       need (decide (x229 = y236)) <|
       need (decide (x230 = y237)) <|
       zq x232 5 48 (⟨some r231, 1, 1, none⟩:Sl) fun x238=>
       kr x238) (
       new [] fun r239=>
       ldI .i64 (x3.add 0) fun x240=>
       ldI .i64 (x3.add 1) fun x241=>
       ldI .i64 (x3.add 2) fun x242=>
       ldStr (x3.add 3) fun x243=>
       ldI .i64 (x3.add 4) fun x244=>
       new [.int .i64 x240, .int .i64 x241, .int .i64 x242, .str x243, .int .i64 x244] fun r245=>
       zq (⟨some r239, 0, 0, none⟩:Sl) 5 48 x2 fun x246=>
       ldI .i64 (x3.add 0) fun y247=>
       ldI .i64 (x3.add 1) fun y248=>
       ldI .i64 (x3.add 2) fun y249=>
       ldStr (x3.add 3) fun y250=>
       ldI .i64 (x3.add 4) fun y251=>
       need (decide (x240 = y247)) <|
       need (decide (x241 = y248)) <|
       need (decide (x242 = y249)) <|
       need (decide (x243 = y250)) <|
       need (decide (x244 = y251)) <|
       zq x246 5 48 (⟨some r245, 1, 1, none⟩:Sl) fun x252=>
       kr x252)) (
      cond (decide (x6 = 11)) (
       ldI .i64 ((x3.add 1).add 0) fun x253=>
       rr24 x0 x253 x1 x2 fun r254=>
       st1 ((x3.add 1).add 0) (.int .i64 (w64 ((r254.len:Int) - 1))) <|
       new [] fun r255=>
       ldI .i64 (x3.add 0) fun x256=>
       ldI .i64 (x3.add 1) fun x257=>
       ldI .i64 (x3.add 2) fun x258=>
       ldStr (x3.add 3) fun x259=>
       ldI .i64 (x3.add 4) fun x260=>
       new [.int .i64 x256, .int .i64 x257, .int .i64 x258, .str x259, .int .i64 x260] fun r261=>
       zq (⟨some r255, 0, 0, none⟩:Sl) 5 48 r254 fun x262=>
       ldI .i64 (x3.add 0) fun y263=>
       ldI .i64 (x3.add 1) fun y264=>
       ldI .i64 (x3.add 2) fun y265=>
       ldStr (x3.add 3) fun y266=>
       ldI .i64 (x3.add 4) fun y267=>
       need (decide (x256 = y263)) <|
       need (decide (x257 = y264)) <|
       need (decide (x258 = y265)) <|
       need (decide (x259 = y266)) <|
       need (decide (x260 = y267)) <|
       zq x262 5 48 (⟨some r261, 1, 1, none⟩:Sl) fun x268=>
       kr x268) (
       new [] fun r269=>
       ldI .i64 (x3.add 0) fun x270=>
       ldI .i64 (x3.add 1) fun x271=>
       ldI .i64 (x3.add 2) fun x272=>
       ldStr (x3.add 3) fun x273=>
       ldI .i64 (x3.add 4) fun x274=>
       new [.int .i64 x270, .int .i64 x271, .int .i64 x272, .str x273, .int .i64 x274] fun r275=>
       zq (⟨some r269, 0, 0, none⟩:Sl) 5 48 x2 fun x276=>
       ldI .i64 (x3.add 0) fun y277=>
       ldI .i64 (x3.add 1) fun y278=>
       ldI .i64 (x3.add 2) fun y279=>
       ldStr (x3.add 3) fun y280=>
       ldI .i64 (x3.add 4) fun y281=>
       need (decide (x270 = y277)) <|
       need (decide (x271 = y278)) <|
       need (decide (x272 = y279)) <|
       need (decide (x273 = y280)) <|
       need (decide (x274 = y281)) <|
       zq x276 5 48 (⟨some r275, 1, 1, none⟩:Sl) fun x282=>
       kr x282))))))
noncomputable def qag.u2.c:IC:=(.seq (.seq (.ops 6 (zb Try.f24 6)) (.block 0 (.seq (.seq (.ops 7 (zb Try.f24 7)) (.cond (.tmp 32) .skip (.ops 8 (zb Try.f24 8)))) (.cond (.tmp 32) (.seq (.ops 9 (zb Try.f24 9)) (.seq (.ops 10 (zb Try.f24 10)) (.seq (.ops 11 (zb Try.f24 11)) (.seq (.ops 12 (zb Try.f24 12)) (.ops 13 (zb Try.f24 13)))))) (.seq (.seq (.ops 14 (zb Try.f24 14)) (.cond (.tmp 56) .skip (.seq (.ops 15 (zb Try.f24 15)) (.cond (.tmp 56) .skip (.seq (.ops 16 (zb Try.f24 16)) (.cond (.tmp 56) .skip (.ops 17 (zb Try.f24 17)))))))) (.cond (.tmp 56) (.seq (.ops 18 (zb Try.f24 18)) (.ops 19 (zb Try.f24 19))) .skip)))))) (.seq (.drawn 20 (zb Try.f24 20) true [.op 0, .op 1, .op 3, .op 4, .op 2, .look 3, .op 5, .op 6]) (.ret [8])))
noncomputable abbrev qag.u3.f (k:Nat) (rr24:Sl->Int->Bool->Sl->(Sl->M α)->M α) (x0:Sl) (x1:Int) (x2:Bool) (x3:Sl) (kr:Sl->M α):M α:=
 qag.u1.f k rr24 x0 x1 x2 x3 (fun y0 y1 y2 y3=>qag.u2.f k rr24 y0 y1 y2 y3 kr) kr
noncomputable def qag.u3.c:IC:=qag.u1.c qag.u2.c
mutual
noncomputable def qag.f:Nat->Sl->Int->Bool->Sl->(Sl->M α)->M α
 | 0, _, _, _, _, _=>fail
 | k + 1, x0, x1, x2, x3, ret=>
  qag.u3.f k (fun z0 z1 z2 z3 z4=>qag.f k z0 z1 z2 z3 z4) x0 x1 x2 x3 (fun y0=>
   ret y0)
end
noncomputable def qas.u1.f (k:Nat) (x0:Sl) (kr:Sl->M α):M α:=
 qal.f k x0 fun r3=>
 cond (!r3) (
  kr Sl.nil) (
  qag.f k x0 (w64 ((x0.len:Int) - 1)) false Sl.nil fun r4=>
  kr r4)
noncomputable def qas.u1.c:IC:=(.seq (.ops 0 (zb Try.f13 0)) (.seq (.ops 1 (zb Try.f13 1)) (.seq (.seq (.ops 2 (zb Try.f13 2)) (.cond (.tmp 7) (.seq (.ops 3 (zb Try.f13 3)) (.ret [2])) .skip)) (.seq (.ops 4 (zb Try.f13 4)) (.ret [2])))))
noncomputable def qas.f:Nat->Sl->(Sl->M α)->M α
 | 0, _, _=>fail
 | k + 1, x0, ret=>
  qas.u1.f k x0 (fun y0=>
   ret y0)
noncomputable def qar.u1.f (k:Nat) (x0:Sl) (kr:Sl->M α):M α:=
 qal.f k x0 fun r3=>
 cond (!r3) (
  kr Sl.nil) (
  qag.f k x0 (w64 ((x0.len:Int) - 1)) true Sl.nil fun r4=>
  kr r4)
noncomputable def qar.u1.c:IC:=(.seq (.ops 0 (zb Try.f14 0)) (.seq (.ops 1 (zb Try.f14 1)) (.seq (.seq (.ops 2 (zb Try.f14 2)) (.cond (.tmp 7) (.seq (.ops 3 (zb Try.f14 3)) (.ret [2])) .skip)) (.seq (.ops 4 (zb Try.f14 4)) (.ret [2])))))
noncomputable def qar.f:Nat->Sl->(Sl->M α)->M α
 | 0, _, _=>fail
 | k + 1, x0, ret=>
  qar.u1.f k x0 (fun y0=>
   ret y0)
noncomputable def qw.u1.f (k:Nat) (x0:Sl) (kn:Sl->M α):M α:=
 kn x0
noncomputable def qw.u1.c (R:IC):IC:=(.seq (.cut [0] (.ops 0 (zb Try.f16 0))) R)
noncomputable def qw.u2.f (k:Nat) (x0:Sl) (kn:Sl->Int->M α):M α:=
 kn x0 0
noncomputable def qw.u2.c (R:IC):IC:=(.seq (.cut [0, 3] (.ops 1 (zb Try.f16 1))) R)
noncomputable def qw.u3.f (k:Nat) (x0:Sl) (x1:Int) (kn:Sl->Int->M α) (kr:Bool->M α) (kx0:Sl->M α):M α:=
 cond (decide (x1 < (x0.len:Int))) (
  idxSl x0 x1 5 fun a4=>
  ldI .i64 ((a4.add 0).add 0) fun x5=>
  cond (decide (x5 = 5)) (
   kr false) (
   kn x0 (w64 (x1 + 1)))) (
  kx0 x0)
noncomputable def qw.u3.c:IC:=(.seq (.seq (.ops 2 (zb Try.f16 2)) (.cond (.tmp 7) .skip (.exit 0 [0]))) (.seq (.block 1 (.seq (.ops 4 (zb Try.f16 4)) (.cond (.tmp 15) (.seq (.ops 5 (zb Try.f16 5)) (.ret [2])) .skip))) (.cut [0, 3] (.ops 3 (zb Try.f16 3)))))
noncomputable def qw.u4.l (k:Nat) (kr:Bool->M α) (kx0:Sl->M α):Nat->Sl->Int->M α
 | 0, _, _=>fail
 | j + 1, x0, x1=>
  qw.u3.f k x0 x1 (fun y0 y1=>qw.u4.l k kr kx0 j y0 y1) kr kx0
noncomputable abbrev qw.u4.f (k:Nat) (x0:Sl) (x1:Int) (kr:Bool->M α) (kx0:Sl->M α):M α:=
 qw.u4.l k kr kx0 k x0 x1
noncomputable def qw.u4.c:IC:=.loop [0, 3] qw.u3.c
noncomputable abbrev qw.u5.f (k:Nat) (x0:Sl) (x1:Int) (kn:Sl->M α) (kr:Bool->M α):M α:=
 qw.u4.f k x0 x1 kr (fun y0=>kn y0)
noncomputable def qw.u5.c:IC:=.block 0 qw.u4.c
noncomputable abbrev qw.u6.f (k:Nat) (x0:Sl) (kn:Sl->M α) (kr:Bool->M α):M α:=
 qw.u2.f k x0 (fun y0 y1=>qw.u5.f k y0 y1 kn kr)
noncomputable def qw.u6.c:IC:=qw.u2.c qw.u5.c
noncomputable def qw.u7.f (k:Nat) (x0:Sl) (kr:Bool->M α):M α:=
 qal.f k x0 fun r3=>
 kr r3
noncomputable def qw.u7.c:IC:=(.seq (.ops 6 (zb Try.f16 6)) (.ret [2]))
noncomputable abbrev qw.u8.f (k:Nat) (x0:Sl) (kr:Bool->M α):M α:=
 qw.u6.f k x0 (fun y0=>qw.u7.f k y0 kr) kr
noncomputable def qw.u8.c:IC:=(.seq qw.u6.c qw.u7.c)
noncomputable abbrev qw.u9.f (k:Nat) (x0:Sl) (kr:Bool->M α):M α:=
 qw.u1.f k x0 (fun y0=>qw.u8.f k y0 kr)
noncomputable def qw.u9.c:IC:=qw.u1.c qw.u8.c
noncomputable def qw.f:Nat->Sl->(Bool->M α)->M α
 | 0, _, _=>fail
 | k + 1, x0, ret=>
  qw.u9.f k x0 (fun y0=>
   ret y0)
noncomputable def qac.u1.f (k:Nat) (x0:Sl) (kn:Sl->Int->M α):M α:=
 new [.int .i64 0, .int .i64 0, .int .i64 0, .str [], .int .i64 0] fun r3=>
 zq x0 5 48 (⟨some r3, 1, 1, none⟩:Sl) fun x4=>
 kn x4 0
noncomputable def qac.u1.c (R:IC):IC:=(.seq (.ops 0 (zb Try.f17 0)) (.seq (.cut [0, 2] (.ops 1 (zb Try.f17 1))) R))
noncomputable def qac.u2.f (k:Nat) (x0:Sl) (x1:Int) (kn:Sl->Int->M α) (kx0:M α):M α:=
 cond (decide (x1 < (x0.len:Int))) (
  idxSl x0 x1 5 fun a4=>
  st1 (a4.add 0) (.int .i64 (-3)) <|
  st1 (a4.add 1) (.int .i64 0) <|
  st1 (a4.add 2) (.int .i64 0) <|
  st1 (a4.add 3) (.str []) <|
  st1 (a4.add 4) (.int .i64 0) <|
  kn x0 (w64 (x1 + 1))) (
  kx0)
noncomputable def qac.u2.c:IC:=(.seq (.seq (.ops 2 (zb Try.f17 2)) (.cond (.tmp 10) .skip (.exit 0 []))) (.seq (.block 1 (.ops 4 (zb Try.f17 4))) (.cut [0, 2] (.ops 3 (zb Try.f17 3)))))
noncomputable def qac.u3.l (k:Nat) (kx0:M α):Nat->Sl->Int->M α
 | 0, _, _=>fail
 | j + 1, x0, x1=>
  qac.u2.f k x0 x1 (fun y0 y1=>qac.u3.l k kx0 j y0 y1) kx0
noncomputable abbrev qac.u3.f (k:Nat) (x0:Sl) (x1:Int) (kx0:M α):M α:=
 qac.u3.l k kx0 k x0 x1
noncomputable def qac.u3.c:IC:=.loop [0, 2] qac.u2.c
noncomputable abbrev qac.u4.f (k:Nat) (x0:Sl) (x1:Int) (kn:M α):M α:=
 qac.u3.f k x0 x1 (kn)
noncomputable def qac.u4.c:IC:=.block 0 qac.u3.c
noncomputable abbrev qac.u5.f (k:Nat) (x0:Sl) (kn:M α):M α:=
 qac.u1.f k x0 (fun y0 y1=>qac.u4.f k y0 y1 kn)
noncomputable def qac.u5.c:IC:=qac.u1.c qac.u4.c
noncomputable def qac.f:Nat->Sl->(M α)->M α
 | 0, _, _=>fail
 | k + 1, x0, ret=>
  qac.u5.f k x0 (ret)
noncomputable def qbg.u1.f (k:Nat) (x0 x1:Sl) (kr:Bool->M α):M α:=
 qn.f k x0 x1 true fun r4=>
 cutSl x0 5 none (some (w64 ((x1.len:Int) + 1))) none fun x5=>
 cond (r4) (
  idxSl x5 (x1.len:Int) 5 fun a6=>
  ldI .i64 ((a6.add 0).add 0) fun x7=>
  kr (decide (x7 = (-7)))) (
  kr false)
noncomputable def qbg.u1.c:IC:=(.seq (.ops 0 (zb Try.f18 0)) (.seq (.ops 1 (zb Try.f18 1)) (.seq (.ops 2 (zb Try.f18 2)) (.seq (.ops 3 (zb Try.f18 3)) (.ret [4])))))
noncomputable def qbg.f:Nat->Sl->Sl->(Bool->M α)->M α
 | 0, _, _, _=>fail
 | k + 1, x0, x1, ret=>
  qbg.u1.f k x0 x1 (fun y0=>
   ret y0)
noncomputable def qq.u1.f (k:Nat) (x0:Sl) (kn:Sl->Bool->Sl->M α):M α:=
 qbi.f k fun r3=>
 qbr.f k x0 fun r4=>
 kn x0 r3 r4
noncomputable def qq.u1.c (R:IC):IC:=(.seq (.ops 0 (zb Try.f4 0)) (.seq (.ops 1 (zb Try.f4 1)) (.seq (.cut [0, 3, 4] (.ops 2 (zb Try.f4 2))) R)))
noncomputable def qq.u2.f (k:Nat) (x0:Sl) (x1:Bool) (x2:Sl) (kn:Sl->Bool->Sl->Int->M α):M α:=
 kn x0 x1 x2 0
noncomputable def qq.u2.c (R:IC):IC:=(.seq (.cut [0, 3, 4, 5] (.ops 3 (zb Try.f4 3))) R)
noncomputable def qq.u3.f (k:Nat) (x0:Sl) (x1:Bool) (x2:Sl) (x3:Int) (kn:Sl->Bool->Sl->Int->M α) (kr:Bool->M α) (kx0:Sl->Sl->M α):M α:=
 cond (decide (x3 < 2)) (
  qay.f k x2 fun r6=>
  qba.f k x2 fun r7=>
  qas.f k x0 fun r8=>
  qn.f k r6 r8 true fun r9=>
  qar.f k x0 fun r10=>
  qn.f k r7 r10 true fun r11=>
  cond (!x1) (
   kr false) (
   cond (!r9) (
    kr false) (
    cond (!r11) (
     kr false) (
     qap.f k x2 fun r12=>
     qw.f k x0 fun r13=>
     cond (!(decide (r12 = r13))) (
      kr false) (
      qac.f k r6 (
       qac.f k r7 (
        kn x0 x1 x2 (w64 (x3 + 1))))))))) (
  kx0 x0 x2)
noncomputable def qq.u3.c:IC:=(.seq (.seq (.ops 4 (zb Try.f4 4)) (.cond (.tmp 14) .skip (.exit 0 [0, 4]))) (.seq (.block 1 (.seq (.ops 6 (zb Try.f4 6)) (.seq (.ops 7 (zb Try.f4 7)) (.seq (.ops 8 (zb Try.f4 8)) (.seq (.ops 9 (zb Try.f4 9)) (.seq (.seq (.ops 10 (zb Try.f4 10)) (.cond (.tmp 45) (.seq (.ops 11 (zb Try.f4 11)) (.ret [2])) .skip)) (.seq (.ops 12 (zb Try.f4 12)) (.ops 13 (zb Try.f4 13))))))))) (.cut [0, 3, 4, 5] (.ops 5 (zb Try.f4 5)))))
noncomputable def qq.u4.l (k:Nat) (kr:Bool->M α) (kx0:Sl->Sl->M α):Nat->Sl->Bool->Sl->Int->M α
 | 0, _, _, _, _=>fail
 | j + 1, x0, x1, x2, x3=>
  qq.u3.f k x0 x1 x2 x3 (fun y0 y1 y2 y3=>qq.u4.l k kr kx0 j y0 y1 y2 y3) kr kx0
noncomputable abbrev qq.u4.f (k:Nat) (x0:Sl) (x1:Bool) (x2:Sl) (x3:Int) (kr:Bool->M α) (kx0:Sl->Sl->M α):M α:=
 qq.u4.l k kr kx0 k x0 x1 x2 x3
noncomputable def qq.u4.c:IC:=.loop [0, 3, 4, 5] qq.u3.c
noncomputable abbrev qq.u5.f (k:Nat) (x0:Sl) (x1:Bool) (x2:Sl) (x3:Int) (kn:Sl->Sl->M α) (kr:Bool->M α):M α:=
 qq.u4.f k x0 x1 x2 x3 kr (fun y0 y1=>kn y0 y1)
noncomputable def qq.u5.c:IC:=.block 0 qq.u4.c
noncomputable abbrev qq.u6.f (k:Nat) (x0:Sl) (x1:Bool) (x2:Sl) (kn:Sl->Sl->M α) (kr:Bool->M α):M α:=
 qq.u2.f k x0 x1 x2 (fun y0 y1 y2 y3=>qq.u5.f k y0 y1 y2 y3 kn kr)
noncomputable def qq.u6.c:IC:=qq.u2.c qq.u5.c
noncomputable def qq.u7.f (k:Nat) (x0 x1:Sl) (kr:Bool->M α):M α:=
 qbg.f k x1 x0 fun r4=>
 kr r4
noncomputable def qq.u7.c:IC:=(.seq (.ops 14 (zb Try.f4 14)) (.ret [2]))
noncomputable abbrev qq.u8.f (k:Nat) (x0:Sl) (x1:Bool) (x2:Sl) (kr:Bool->M α):M α:=
 qq.u6.f k x0 x1 x2 (fun y0 y1=>qq.u7.f k y0 y1 kr) kr
noncomputable def qq.u8.c:IC:=(.seq qq.u6.c qq.u7.c)
noncomputable abbrev qq.u9.f (k:Nat) (x0:Sl) (kr:Bool->M α):M α:=
 qq.u1.f k x0 (fun y0 y1 y2=>qq.u8.f k y0 y1 y2 kr)
noncomputable def qq.u9.c:IC:=qq.u1.c qq.u8.c
noncomputable def qq.f:Nat->Sl->(Bool->M α)->M α
 | 0, _, _=>fail
 | k + 1, x0, ret=>
  qq.u9.f k x0 (fun y0=>
   ret y0)
noncomputable def ti:Nat->Option TI
 | 3=>some ⟨Try.t3.desc, 1, 8, [.int .i64 0], [.int .i64], false, false⟩
 | 4=>some ⟨Try.t4.desc, 1, 1, [.bool false], [.bool], false, false⟩
 | 5=>some ⟨Try.t5.desc, 1, 1, [.int .u8 0], [.int .u8], false, false⟩
 | 9=>some ⟨Try.t9.desc, 1, 16, [.str []], [.str], false, false⟩
 | 20=>some ⟨Try.t20.desc, 1, 16, [.nilIface], [.any], false, false⟩
 | 22=>some ⟨Try.t22.desc, 1, 24, [.slice Sl.nil], [.slice], false, false⟩
 | 25=>some ⟨Try.t24.desc, 5, 48, [.int .i64 0, .int .i64 0, .int .i64 0, .str [], .int .i64 0], [.int .i64, .int .i64, .int .i64, .str, .int .i64], true, true⟩
 | 31=>some ⟨Try.t3.desc, 1, 8, [.int .i64 0], [.int .i64], false, false⟩
 | 35=>some ⟨Try.t34.desc, 1, 16, [.nilIface], [.any], false, false⟩
 | 44=>some ⟨Try.t44.desc, 1, 8, [.map none], [.map], false, false⟩
 | 45=>some ⟨Try.t45.desc, 1, 24, [.slice Sl.nil], [.slice], false, false⟩
 | 46=>some ⟨Try.t46.desc, 1, 24, [.slice Sl.nil], [.slice], false, false⟩
 | 47=>some ⟨Try.t47.desc, 1, 24, [.slice Sl.nil], [.slice], false, false⟩
 | 49=>some ⟨Try.t48.desc, 6, 128, [.slice Sl.nil, .slice Sl.nil, .int .i64 0, .slice Sl.nil, .slice Sl.nil, .slice Sl.nil], [.slice, .slice, .int .i64, .slice, .slice, .slice], true, false⟩
 | 55=>some ⟨Try.t55.desc, 1, 24, [.slice Sl.nil], [.slice], false, false⟩
 | 59=>some ⟨Try.t58.desc, 2, 16, [.int .i64 0, .int .i64 0], [.int .i64, .int .i64], true, true⟩
 | 61=>some ⟨Try.t60.desc, 2, 16, [.int .i64 0, .int .i64 0], [.int .i64, .int .i64], true, false⟩
 | 62=>some ⟨Try.t62.desc, 1, 8, [.ptr none], [.ptr], false, false⟩
 | 66=>some ⟨Try.t65.desc, 4, 40, [.int .i64 0, .int .i64 0, .str [], .int .i64 0], [.int .i64, .int .i64, .str, .int .i64], true, true⟩
 | 69=>some ⟨Try.t68.desc, 3, 56, [.slice Sl.nil, .int .i64 0, .slice Sl.nil], [.slice, .int .i64, .slice], true, false⟩
 | 73=>some ⟨Try.t72.desc, 2, 48, [.slice Sl.nil, .slice Sl.nil], [.slice, .slice], true, false⟩
 | 89=>some ⟨Try.t88.desc, 2, 16, [.int .i64 0, .int .i64 0], [.int .i64, .int .i64], true, true⟩
 | _=>none
noncomputable def T:Tab:=⟨ti, fun _=>none, fun t=>false⟩
noncomputable def env_74 (k:Nat) (args:List V) (κ:Res->M α):M α:=match args with
 | [a0, a1]=>
   zag a0 fun x1=>
   asI .u8 a1 fun x2=>
   qbv.f k x1 x2 (fun o0=>κ (.ret (.int .i64 o0)))
 | _=>fail
noncomputable def env_64 (k:Nat) (args:List V) (κ:Res->M α):M α:=match args with
 | [a0, a1]=>
   zag a0 fun x1=>
   asI .u8 a1 fun x2=>
   qbu.f k x1 x2 (fun o0=>κ (.ret (.int .i64 o0)))
 | _=>fail
noncomputable def env_50 (k:Nat) (args:List V) (κ:Res->M α):M α:=match args with
 | [a0, a1]=>
   zag a0 fun x1=>
   asI .u8 a1 fun x2=>
   qbt.f k x1 x2 (fun o0=>κ (.ret (.int .i64 o0)))
 | _=>fail
noncomputable def env_65 (k:Nat) (args:List V) (κ:Res->M α):M α:=match args with
 | [a0]=>
   asI .u8 a0 fun x1=>
   qbp.f k x1 (fun o0=>κ (.ret (.int .i64 o0)))
 | _=>fail
noncomputable def env_66 (k:Nat) (args:List V) (κ:Res->M α):M α:=match args with
 | [a0, a1]=>
   asI .i64 a0 fun x1=>
   zag a1 fun x2=>
   qf.f k x1 x2 (fun o0=>κ (.ret (.int .i64 o0)))
 | _=>fail
noncomputable def env_67 (k:Nat) (args:List V) (κ:Res->M α):M α:=match args with
 | [a0]=>
   zag a0 fun x1=>
   qk.f k x1 (fun o0 o1=>κ (.ret (.tuple [.int .i64 o0, .bool o1])))
 | _=>fail
noncomputable def env_51 (k:Nat) (args:List V) (κ:Res->M α):M α:=match args with
 | [a0, a1]=>
   zag a0 fun x1=>
   asI .i64 a1 fun x2=>
   qbj.f k x1 x2 (fun o0 o1 o2 o3 o4=>κ (.ret (.tuple [.agg [.int .i64 o0, .int .i64 o1, .str o2, .int .i64 o3], .int .i64 o4])))
 | _=>fail
noncomputable def env_34 (k:Nat) (args:List V) (κ:Res->M α):M α:=match args with
 | [a0]=>
   zag a0 fun x1=>
   ql.f k x1 (fun o0 o1=>κ (.ret (.tuple [.slice o0, o1])))
 | _=>fail
noncomputable def env_37 (k:Nat) (args:List V) (κ:Res->M α):M α:=match args with
 | [a0]=>
   asAgg a0 fun l1=>
   jz l1 fun v2 l3=>
   asI .i64 v2 fun x4=>
   jz l3 fun v5 l6=>
   asI .i64 v5 fun x7=>
   jz l6 fun v8 l9=>
   zag v8 fun x10=>
   jz l9 fun v11 l12=>
   asI .i64 v11 fun x13=>
   zaj l12 <|
   qbe.f k x4 x7 x10 x13 (fun o0=>κ (.ret (.bool o0)))
 | _=>fail
noncomputable def env_52 (k:Nat) (args:List V) (κ:Res->M α):M α:=match args with
 | [a0, a1]=>
   asS a0 fun x1=>
   zco a1 fun f2 l3 l4=>
   need (Nat.beq f2 37) <|
   zaj l3 <|
   zaj l4 <|
   qv.f k x1 (fun o0=>κ (.ret (.int .i64 o0)))
 | _=>fail
noncomputable def env_36 (k:Nat) (args:List V) (κ:Res->M α):M α:=match args with
 | [a0, a1]=>
   asS a0 fun x1=>
   zco a1 fun f2 l3 l4=>
   need (Nat.beq f2 37) <|
   zaj l3 <|
   zaj l4 <|
   qr.f k x1 (fun o0=>κ (.ret (.slice o0)))
 | _=>fail
noncomputable def env_68 (k:Nat) (args:List V) (κ:Res->M α):M α:=match args with
 | [a0, a1]=>
   asP a0 fun x1=>
   asSome x1 fun p2=>
   zag a1 fun x3=>
   qat.f k p2 x3 (fun o0=>κ (.ret (.bool o0)))
 | _=>fail
noncomputable def env_75 (k:Nat) (args:List V) (κ:Res->M α):M α:=match args with
 | [a0]=>
   asP a0 fun x1=>
   asSome x1 fun p2=>
   qan.f k p2 (fun o0 o1 o2 o3=>κ (.ret (.agg [.int .i64 o0, .int .i64 o1, .str o2, .int .i64 o3])))
 | _=>fail
noncomputable def env_69 (k:Nat) (args:List V) (κ:Res->M α):M α:=match args with
 | [a0]=>
   asP a0 fun x1=>
   asSome x1 fun p2=>
   qak.f k p2 (fun v=>κ (.pan v)) (fun o0 o1 o2 o3=>κ (.ret (.agg [.int .i64 o0, .int .i64 o1, .str o2, .int .i64 o3])))
 | _=>fail
noncomputable def env_70 (k:Nat) (args:List V) (κ:Res->M α):M α:=match args with
 | [a0, a1]=>
   asP a0 fun x1=>
   asSome x1 fun p2=>
   asAgg a1 fun l3=>
   jz l3 fun v4 l5=>
   asI .i64 v4 fun x6=>
   jz l5 fun v7 l8=>
   asI .i64 v7 fun x9=>
   jz l8 fun v10 l11=>
   asI .i64 v10 fun x12=>
   jz l11 fun v13 l14=>
   zag v13 fun x15=>
   jz l14 fun v16 l17=>
   asI .i64 v16 fun x18=>
   zaj l17 <|
   qah.f k p2 x6 x9 x12 x15 x18 (fun o0=>κ (.ret (.int .i64 o0)))
 | _=>fail
noncomputable def env_39 (k:Nat) (args:List V) (κ:Res->M α):M α:=match args with
 | [a0]=>
   asP a0 fun x1=>
   asSome x1 fun p2=>
   qav.f k p2 (fun v=>κ (.pan v)) (κ (.ret (.tuple [])))
 | _=>fail
noncomputable def env_63 (k:Nat) (args:List V) (κ:Res->M α):M α:=match args with
 | [a0]=>
   zag a0 fun x1=>
   qbf.f k x1 (fun o0=>κ (.ret (.bool o0)))
 | _=>fail
noncomputable def env_77 (k:Nat) (args:List V) (κ:Res->M α):M α:=match args with
 | [a0, a1]=>
   asP a0 fun x1=>
   asSome x1 fun p2=>
   zag a1 fun x3=>
   qaj.f k p2 x3 (fun v=>κ (.pan v)) (κ (.ret (.tuple [])))
 | _=>fail
noncomputable def env_76 (k:Nat) (args:List V) (κ:Res->M α):M α:=match args with
 | [a0, a1]=>
   asP a0 fun x1=>
   asSome x1 fun p2=>
   zag a1 fun x3=>
   qaq.f k p2 x3 (fun v=>κ (.pan v)) (fun o0=>κ (.ret (.str o0)))
 | _=>fail
noncomputable def env_38 (k:Nat) (args:List V) (κ:Res->M α):M α:=match args with
 | [a0]=>
   asP a0 fun x1=>
   asSome x1 fun p2=>
   qai.f k p2 (fun v=>κ (.pan v)) (fun o0=>κ (.ret (.int .i64 o0)))
 | _=>fail
noncomputable def env_53 (k:Nat) (args:List V) (κ:Res->M α):M α:=match args with
 | [a0, a1, a2, a3]=>
   asP a0 fun x1=>
   asSome x1 fun p2=>
   zag a1 fun x3=>
   asI .i64 a2 fun x4=>
   qab.f k p2 x3 x4 a3 (fun v=>κ (.pan v)) (fun o0=>κ (.ret (.int .i64 o0)))
 | _=>fail
noncomputable def env_54 (k:Nat) (args:List V) (κ:Res->M α):M α:=match args with
 | [a0]=>
   asP a0 fun x1=>
   asSome x1 fun p2=>
   qao.f k p2 (fun v=>κ (.pan v)) (fun o0=>κ (.ret (.int .i64 o0)))
 | _=>fail
noncomputable def env_71 (k:Nat) (args:List V) (κ:Res->M α):M α:=match args with
 | [a0]=>
   asP a0 fun x1=>
   asSome x1 fun p2=>
   qd.f k p2 (fun v=>κ (.pan v)) (fun o0=>κ (.ret (.int .i64 o0)))
 | _=>fail
noncomputable def env_78 (k:Nat) (args:List V) (κ:Res->M α):M α:=match args with
 | [a0]=>
   asP a0 fun x1=>
   asSome x1 fun p2=>
   qae.f k p2 (fun v=>κ (.pan v)) (fun o0=>κ (.ret (.int .i64 o0)))
 | _=>fail
noncomputable def env_21 (k:Nat) (args:List V) (κ:Res->M α):M α:=match args with
 | [a0]=>
   zag a0 fun x1=>
   qaf.f k x1 (fun o0 o1=>κ (.ret (.tuple [.slice o0, o1])))
 | _=>fail
noncomputable def env_45 (k:Nat) (args:List V) (κ:Res->M α):M α:=match args with
 | [a0]=>
   asS a0 fun x1=>
   qaz.f k x1 (fun o0=>κ (.ret (.slice o0)))
 | _=>fail
noncomputable def env_62 (k:Nat) (args:List V) (κ:Res->M α):M α:=match args with
 | [a0, a1, a2]=>
   zag a0 fun x1=>
   asI .u8 a1 fun x2=>
   asI .u8 a2 fun x3=>
   qz.f k x1 x2 x3 (fun o0=>κ (.ret (.bool o0)))
 | _=>fail
noncomputable def env_47 (k:Nat) (args:List V) (κ:Res->M α):M α:=match args with
 | [a0]=>
   zag a0 fun x1=>
   qax.f k x1 (fun o0=>κ (.ret (.bool o0)))
 | _=>fail
noncomputable def env_48 (k:Nat) (args:List V) (κ:Res->M α):M α:=match args with
 | [a0]=>
   zag a0 fun x1=>
   qam.f k x1 (fun o0=>κ (.ret (.bool o0)))
 | _=>fail
noncomputable def env_30 (k:Nat) (args:List V) (κ:Res->M α):M α:=match args with
 | [a0]=>
   asAgg a0 fun l1=>
   jz l1 fun v2 l3=>
   asI .i64 v2 fun x4=>
   jz l3 fun v5 l6=>
   asI .i64 v5 fun x7=>
   jz l6 fun v8 l9=>
   asI .i64 v8 fun x10=>
   jz l9 fun v11 l12=>
   zag v11 fun x13=>
   jz l12 fun v14 l15=>
   asI .i64 v14 fun x16=>
   zaj l15 <|
   qbl.f k x4 x7 x10 x13 x16 (fun o0 o1=>κ (.ret (.tuple [.int .i64 o0, .bool o1])))
 | _=>fail
noncomputable def env_32 (k:Nat) (args:List V) (κ:Res->M α):M α:=match args with
 | [a0]=>
   asI .i64 a0 fun x1=>
   qbs.f k x1 (fun o0=>κ (.ret (.bool o0)))
 | _=>fail
noncomputable def env_49 (k:Nat) (args:List V) (κ:Res->M α):M α:=match args with
 | [a0, a1]=>
   asS a0 fun x1=>
   zco a1 fun f2 l3 l4=>
   need (Nat.beq f2 32) <|
   zaj l3 <|
   zaj l4 <|
   qaa.f k x1 (fun o0=>κ (.ret (.int .i64 o0)))
 | _=>fail
noncomputable def env_31 (k:Nat) (args:List V) (κ:Res->M α):M α:=match args with
 | [a0, a1]=>
   asS a0 fun x1=>
   zco a1 fun f2 l3 l4=>
   need (Nat.beq f2 32) <|
   zaj l3 <|
   zaj l4 <|
   qbm.f k x1 (fun o0=>κ (.ret (.bool o0)))
 | _=>fail
noncomputable def env_33 (k:Nat) (args:List V) (κ:Res->M α):M α:=match args with
 | [a0, a1]=>
   asS a0 fun x1=>
   asS a1 fun x2=>
   qy.f k x1 x2 (fun o0=>κ (.ret (.bool o0)))
 | _=>fail
noncomputable def env_20 (k:Nat) (args:List V) (κ:Res->M α):M α:=match args with
 | [a0]=>
   asS a0 fun x1=>
   qm.f k x1 (fun o0=>κ (.ret (.bool o0)))
 | _=>fail
noncomputable def env_61 (k:Nat) (args:List V) (κ:Res->M α):M α:=match args with
 | [a0, a1]=>
   asP a0 fun x1=>
   asSome x1 fun p2=>
   zag a1 fun x3=>
   qs.f k p2 x3 (fun o0 o1 o2=>κ (.ret (.tuple [.agg [.int .i64 o0, .int .i64 o1], .bool o2])))
 | _=>fail
noncomputable def env_46 (k:Nat) (args:List V) (κ:Res->M α):M α:=match args with
 | [a0, a1]=>
   asP a0 fun x1=>
   asSome x1 fun p2=>
   asI .i64 a1 fun x3=>
   qb.f k p2 x3 (κ (.ret (.tuple [])))
 | _=>fail
noncomputable def env_28 (k:Nat) (args:List V) (κ:Res->M α):M α:=match args with
 | [a0]=>
   asS a0 fun x1=>
   qx.f k x1 (fun o0=>κ (.ret (.ptr (some o0))))
 | _=>fail
noncomputable def env_29 (k:Nat) (args:List V) (κ:Res->M α):M α:=match args with
 | [a0]=>
   asAgg a0 fun l1=>
   jz l1 fun v2 l3=>
   asI .i64 v2 fun x4=>
   jz l3 fun v5 l6=>
   asI .i64 v5 fun x7=>
   jz l6 fun v8 l9=>
   asI .i64 v8 fun x10=>
   jz l9 fun v11 l12=>
   zag v11 fun x13=>
   jz l12 fun v14 l15=>
   asI .i64 v14 fun x16=>
   zaj l15 <|
   qbc.f k x4 x7 x10 x13 x16 (fun o0=>κ (.ret (.bool o0)))
 | _=>fail
noncomputable def env_19 (k:Nat) (args:List V) (κ:Res->M α):M α:=match args with
 | [a0]=>
   asS a0 fun x1=>
   qa.f k x1 (fun o0 o1=>κ (.ret (.tuple [.int .i64 o0, .int .i64 o1])))
 | _=>fail
noncomputable def env_27 (k:Nat) (args:List V) (κ:Res->M α):M α:=match args with
 | [a0]=>
   asS a0 fun x1=>
   qo.f k x1 (fun o0=>κ (.ret (.bool o0)))
 | _=>fail
noncomputable def env_55 (k:Nat) (args:List V) (κ:Res->M α):M α:=match args with
 | [a0]=>
   asI .i64 a0 fun x1=>
   qbh.f k x1 (fun o0=>κ (.ret (.int .i64 o0)))
 | _=>fail
noncomputable def env_40 (k:Nat) (args:List V) (κ:Res->M α):M α:=match args with
 | [a0, a1, a2]=>
   asP a0 fun x1=>
   asSome x1 fun p2=>
   asI .i64 a1 fun x3=>
   asB a2 fun x4=>
   qad.f k p2 x3 x4 (fun o0=>κ (.ret (.int .i64 o0)))
 | _=>fail
noncomputable def env_22 (k:Nat) (args:List V) (κ:Res->M α):M α:=match args with
 | [a0, a1]=>
   asS a0 fun x1=>
   asB a1 fun x2=>
   qaw.f k x1 x2 (fun o0=>κ (.ret (.slice o0)))
 | _=>fail
noncomputable def env_9 (k:Nat) (args:List V) (κ:Res->M α):M α:=match args with
 | [a0]=>
   asS a0 fun x1=>
   qay.f k x1 (fun o0=>κ (.ret (.slice o0)))
 | _=>fail
noncomputable def env_12 (k:Nat) (args:List V) (κ:Res->M α):M α:=match args with
 | [a0, a1, a2]=>
   asS a0 fun x1=>
   asS a1 fun x2=>
   asB a2 fun x3=>
   qn.f k x1 x2 x3 (fun o0=>κ (.ret (.bool o0)))
 | _=>fail
noncomputable def env_26 (k:Nat) (args:List V) (κ:Res->M α):M α:=match args with
 | [a0]=>
   asAgg a0 fun l1=>
   jz l1 fun v2 l3=>
   asI .i64 v2 fun x4=>
   jz l3 fun v5 l6=>
   asI .i64 v5 fun x7=>
   jz l6 fun v8 l9=>
   asI .i64 v8 fun x10=>
   jz l9 fun v11 l12=>
   zag v11 fun x13=>
   jz l12 fun v14 l15=>
   asI .i64 v14 fun x16=>
   zaj l15 <|
   qbq.f k x4 x7 x10 x13 x16 (fun o0=>κ (.ret (.bool o0)))
 | _=>fail
noncomputable def env_44 (k:Nat) (args:List V) (κ:Res->M α):M α:=match args with
 | [a0, a1]=>
   asS a0 fun x1=>
   zco a1 fun f2 l3 l4=>
   need (Nat.beq f2 26) <|
   zaj l3 <|
   zaj l4 <|
   qu.f k x1 (fun o0=>κ (.ret (.int .i64 o0)))
 | _=>fail
noncomputable def env_25 (k:Nat) (args:List V) (κ:Res->M α):M α:=match args with
 | [a0, a1]=>
   asS a0 fun x1=>
   zco a1 fun f2 l3 l4=>
   need (Nat.beq f2 26) <|
   zaj l3 <|
   zaj l4 <|
   qbn.f k x1 (fun o0=>κ (.ret (.bool o0)))
 | _=>fail
noncomputable def env_15 (k:Nat) (args:List V) (κ:Res->M α):M α:=match args with
 | [a0]=>
   asS a0 fun x1=>
   qap.f k x1 (fun o0=>κ (.ret (.bool o0)))
 | _=>fail
noncomputable def env_8 (k:Nat) (args:List V) (κ:Res->M α):M α:=match args with
 | []=>
   qbi.f k (fun o0=>κ (.ret (.bool o0)))
 | _=>fail
noncomputable def env_10 (k:Nat) (args:List V) (κ:Res->M α):M α:=match args with
 | [a0]=>
   asS a0 fun x1=>
   qbr.f k x1 (fun o0=>κ (.ret (.slice o0)))
 | _=>fail
noncomputable def env_11 (k:Nat) (args:List V) (κ:Res->M α):M α:=match args with
 | [a0]=>
   asS a0 fun x1=>
   qba.f k x1 (fun o0=>κ (.ret (.slice o0)))
 | _=>fail
noncomputable def env_42 (k:Nat) (args:List V) (κ:Res->M α):M α:=match args with
 | [a0]=>
   asS a0 fun x1=>
   qp.f k x1 (fun o0=>κ (.ret (.slice o0)))
 | _=>fail
noncomputable def env_72 (k:Nat) (args:List V) (κ:Res->M α):M α:=match args with
 | [a0]=>
   asI .i64 a0 fun x1=>
   qbb.f k x1 (fun o0=>κ (.ret (.int .i64 o0)))
 | _=>fail
noncomputable def env_79 (k:Nat) (args:List V) (κ:Res->M α):M α:=match args with
 | [a0]=>
   zag a0 fun x1=>
   qj.f k x1 (fun o0=>κ (.ret (.bool o0)))
 | _=>fail
noncomputable def env_80 (k:Nat) (args:List V) (κ:Res->M α):M α:=match args with
 | [a0]=>
   zag a0 fun x1=>
   qbd.f k x1 (fun o0=>κ (.ret (.bool o0)))
 | _=>fail
noncomputable def env_73 (k:Nat) (args:List V) (κ:Res->M α):M α:=match args with
 | [a0]=>
   asAgg a0 fun l1=>
   jz l1 fun v2 l3=>
   asI .i64 v2 fun x4=>
   jz l3 fun v5 l6=>
   asI .i64 v5 fun x7=>
   jz l6 fun v8 l9=>
   asI .i64 v8 fun x10=>
   jz l9 fun v11 l12=>
   zag v11 fun x13=>
   jz l12 fun v14 l15=>
   asI .i64 v14 fun x16=>
   zaj l15 <|
   qbo.f k x4 x7 x10 x13 x16 (fun o0=>κ (.ret (.bool o0)))
 | _=>fail
noncomputable def env_56 (k:Nat) (args:List V) (κ:Res->M α):M α:=match args with
 | [a0]=>
   asS a0 fun x1=>
   qg.f k x1 (fun o0=>κ (.ret (.bool o0)))
 | _=>fail
noncomputable def env_57 (k:Nat) (args:List V) (κ:Res->M α):M α:=match args with
 | [a0]=>
   asS a0 fun x1=>
   qh.f k x1 (fun o0=>κ (.ret (.slice o0)))
 | _=>fail
noncomputable def env_60 (k:Nat) (args:List V) (κ:Res->M α):M α:=match args with
 | [a0]=>
   asAgg a0 fun l1=>
   jz l1 fun v2 l3=>
   asI .i64 v2 fun x4=>
   jz l3 fun v5 l6=>
   asI .i64 v5 fun x7=>
   jz l6 fun v8 l9=>
   asI .i64 v8 fun x10=>
   jz l9 fun v11 l12=>
   zag v11 fun x13=>
   jz l12 fun v14 l15=>
   asI .i64 v14 fun x16=>
   zaj l15 <|
   qau.f k x4 x7 x10 x13 x16 (fun o0=>κ (.ret (.bool o0)))
 | _=>fail
noncomputable def env_58 (k:Nat) (args:List V) (κ:Res->M α):M α:=match args with
 | [a0]=>
   asS a0 fun x1=>
   qi.f k x1 (fun o0=>κ (.ret (.slice o0)))
 | _=>fail
noncomputable def env_59 (k:Nat) (args:List V) (κ:Res->M α):M α:=match args with
 | [a0, a1, a2]=>
   asS a0 fun x1=>
   asS a1 fun x2=>
   asI .i64 a2 fun x3=>
   qt.f k x1 x2 x3 (fun o0 o1=>κ (.ret (.tuple [.int .i64 o0, .int .i64 o1])))
 | _=>fail
noncomputable def env_41 (k:Nat) (args:List V) (κ:Res->M α):M α:=match args with
 | [a0]=>
   asS a0 fun x1=>
   qc.f k x1 (fun o0 o1=>κ (.ret (.tuple [.int .i64 o0, .int .i64 o1])))
 | _=>fail
noncomputable def env_23 (k:Nat) (args:List V) (κ:Res->M α):M α:=match args with
 | [a0]=>
   asS a0 fun x1=>
   qal.f k x1 (fun o0=>κ (.ret (.bool o0)))
 | _=>fail
noncomputable def env_43 (k:Nat) (args:List V) (κ:Res->M α):M α:=match args with
 | [a0]=>
   asI .i64 a0 fun x1=>
   qbk.f k x1 (fun o0=>κ (.ret (.int .i64 o0)))
 | _=>fail
noncomputable def env_24 (k:Nat) (args:List V) (κ:Res->M α):M α:=match args with
 | [a0, a1, a2, a3]=>
   asS a0 fun x1=>
   asI .i64 a1 fun x2=>
   asB a2 fun x3=>
   asS a3 fun x4=>
   qag.f k x1 x2 x3 x4 (fun o0=>κ (.ret (.slice o0)))
 | _=>fail
noncomputable def env_13 (k:Nat) (args:List V) (κ:Res->M α):M α:=match args with
 | [a0]=>
   asS a0 fun x1=>
   qas.f k x1 (fun o0=>κ (.ret (.slice o0)))
 | _=>fail
noncomputable def env_14 (k:Nat) (args:List V) (κ:Res->M α):M α:=match args with
 | [a0]=>
   asS a0 fun x1=>
   qar.f k x1 (fun o0=>κ (.ret (.slice o0)))
 | _=>fail
noncomputable def env_16 (k:Nat) (args:List V) (κ:Res->M α):M α:=match args with
 | [a0]=>
   asS a0 fun x1=>
   qw.f k x1 (fun o0=>κ (.ret (.bool o0)))
 | _=>fail
noncomputable def env_17 (k:Nat) (args:List V) (κ:Res->M α):M α:=match args with
 | [a0]=>
   asS a0 fun x1=>
   qac.f k x1 (κ (.ret (.tuple [])))
 | _=>fail
noncomputable def env_18 (k:Nat) (args:List V) (κ:Res->M α):M α:=match args with
 | [a0, a1]=>
   asS a0 fun x1=>
   asS a1 fun x2=>
   qbg.f k x1 x2 (fun o0=>κ (.ret (.bool o0)))
 | _=>fail
noncomputable def env_4 (k:Nat) (args:List V) (κ:Res->M α):M α:=match args with
 | [a0]=>
   asS a0 fun x1=>
   qq.f k x1 (fun o0=>κ (.ret (.bool o0)))
 | _=>fail
noncomputable def env (k:Nat):Call α:=fun f args κ=>match f with
 | 74=>env_74 k args κ
 | 64=>env_64 k args κ
 | 50=>env_50 k args κ
 | 65=>env_65 k args κ
 | 66=>env_66 k args κ
 | 67=>env_67 k args κ
 | 51=>env_51 k args κ
 | 34=>env_34 k args κ
 | 37=>env_37 k args κ
 | 52=>env_52 k args κ
 | 36=>env_36 k args κ
 | 68=>env_68 k args κ
 | 75=>env_75 k args κ
 | 69=>env_69 k args κ
 | 70=>env_70 k args κ
 | 39=>env_39 k args κ
 | 63=>env_63 k args κ
 | 77=>env_77 k args κ
 | 76=>env_76 k args κ
 | 38=>env_38 k args κ
 | 53=>env_53 k args κ
 | 54=>env_54 k args κ
 | 71=>env_71 k args κ
 | 78=>env_78 k args κ
 | 21=>env_21 k args κ
 | 45=>env_45 k args κ
 | 62=>env_62 k args κ
 | 47=>env_47 k args κ
 | 48=>env_48 k args κ
 | 30=>env_30 k args κ
 | 32=>env_32 k args κ
 | 49=>env_49 k args κ
 | 31=>env_31 k args κ
 | 33=>env_33 k args κ
 | 20=>env_20 k args κ
 | 61=>env_61 k args κ
 | 46=>env_46 k args κ
 | 28=>env_28 k args κ
 | 29=>env_29 k args κ
 | 19=>env_19 k args κ
 | 27=>env_27 k args κ
 | 55=>env_55 k args κ
 | 40=>env_40 k args κ
 | 22=>env_22 k args κ
 | 9=>env_9 k args κ
 | 12=>env_12 k args κ
 | 26=>env_26 k args κ
 | 44=>env_44 k args κ
 | 25=>env_25 k args κ
 | 15=>env_15 k args κ
 | 8=>env_8 k args κ
 | 10=>env_10 k args κ
 | 11=>env_11 k args κ
 | 42=>env_42 k args κ
 | 72=>env_72 k args κ
 | 79=>env_79 k args κ
 | 80=>env_80 k args κ
 | 73=>env_73 k args κ
 | 56=>env_56 k args κ
 | 57=>env_57 k args κ
 | 60=>env_60 k args κ
 | 58=>env_58 k args κ
 | 59=>env_59 k args κ
 | 41=>env_41 k args κ
 | 23=>env_23 k args κ
 | 43=>env_43 k args κ
 | 24=>env_24 k args κ
 | 13=>env_13 k args κ
 | 14=>env_14 k args κ
 | 16=>env_16 k args κ
 | 17=>env_17 k args κ
 | 18=>env_18 k args κ
 | 4=>env_4 k args κ
 | _=>fail
noncomputable abbrev eC (k:Nat):IC->Frame->KF α->M α:=fun c ρ K=>evC T (env k) k c ρ K
noncomputable def qbu.c:IC:=qbu.u1.c
noncomputable def qbu.res:List ResultVar:=[(.tmp 4)]
theorem qbu.u1.ok (k:Nat) (x0:TX) (x1:Int) (K:KF α) :
  eC k qbu.u1.c (fr0 x0 x1) K =
   qbu.u1.f k x0 x1 (fun y0=>K .ret (fr1 y0)):=by kernel_rfl
theorem qbu.ok (k:Nat) (x0:TX) (x1:Int) (κ:Res->M α) :
  evF T (env k) k qbu.c qbu.res [.str x0, .int .u8 x1] κ = qbu.f (k + 1) x0 x1 (fun o0=>κ (.ret (.int .i64 o0))):=
 (qbu.u1.ok k x0 x1 (retK T qbu.res κ)).trans (by kernel_rfl)
theorem qbu.code:qbu.c.code = zr Try.f64:=by kernel_rfl
noncomputable def qbt.c:IC:=qbt.u1.c
noncomputable def qbt.res:List ResultVar:=[(.tmp 4)]
theorem qbt.u1.ok (k:Nat) (x0:TX) (x1:Int) (K:KF α) :
  eC k qbt.u1.c (fr0 x0 x1) K =
   qbt.u1.f k x0 x1 (fun y0=>K .ret (fr1 y0)):=by kernel_rfl
theorem qbt.ok (k:Nat) (x0:TX) (x1:Int) (κ:Res->M α) :
  evF T (env k) k qbt.c qbt.res [.str x0, .int .u8 x1] κ = qbt.f (k + 1) x0 x1 (fun o0=>κ (.ret (.int .i64 o0))):=
 (qbt.u1.ok k x0 x1 (retK T qbt.res κ)).trans (by kernel_rfl)
theorem qbt.code:qbt.c.code = zr Try.f50:=by kernel_rfl
noncomputable def qbp.c:IC:=qbp.u1.c
noncomputable def qbp.res:List ResultVar:=[(.tmp 2)]
theorem qbp.u1.ok (k:Nat) (x0:Int) (K:KF α) :
  eC k qbp.u1.c (fr2 x0) K =
   qbp.u1.f k x0 (fun y0=>K .ret (fr3 y0)):=by kernel_rfl
theorem qbp.ok (k:Nat) (x0:Int) (κ:Res->M α) :
  evF T (env k) k qbp.c qbp.res [.int .u8 x0] κ = qbp.f (k + 1) x0 (fun o0=>κ (.ret (.int .i64 o0))):=
 (qbp.u1.ok k x0 (retK T qbp.res κ)).trans (by kernel_rfl)
theorem qbp.code:qbp.c.code = zr Try.f65:=by kernel_rfl
noncomputable def qf.c:IC:=qf.u20.c
noncomputable def qf.res:List ResultVar:=[(.tmp 4)]
theorem qf.u1.ok (k:Nat) (x0:Int) (x1:TX) (R:IC) (K:KF α) :
  eC k (qf.u1.c R) (fr4 x0 x1) K =
   qf.u1.f k x0 x1 (fun y0 y1 y2=>eC k R (fr5 y0 y1 y2) K):=by kernel_rfl
theorem qf.u2.ok (k:Nat) (x0:Int) (x1:TX) (x2:Int) (R:IC) (K:KF α) :
  eC k (qf.u2.c R) (fr5 x0 x1 x2) K =
   qf.u2.f k x0 x1 x2 (fun y0 y1 y2=>eC k R (fr6 y0 y1 y2) K):=by kernel_rfl
theorem qf.u3.ok (k:Nat) (x0:TX) (x1 x2:Int) (R:IC) (K:KF α) :
  eC k (qf.u3.c R) (fr6 x0 x1 x2) K =
   qf.u3.f k x0 x1 x2 (fun y0 y1 y2 y3=>eC k R (fr7 y0 y1 y2 y3) K):=by kernel_rfl
theorem qf.u4.ok (k:Nat) (x0:TX) (x1:Int) (K:KF α) :
  eC k qf.u4.c (fr8 x0 x1) K =
   qf.u4.f k x0 x1 (fun y0 y1=>K .normal (fr8 y0 y1)) (fun y0=>K (.exit 1) (fr9 y0)):=by kernel_rfl
theorem qf.u5.ls (k:Nat) (kx1:Int->M α) (j:Nat) (x0:TX) (x1:Int):qf.u5.l k kx1 (j + 1) x0 x1 =
 qf.u4.f k x0 x1 (fun y0 y1=>qf.u5.l k kx1 j y0 y1) kx1:=rfl
theorem qf.u5.okl (k:Nat) (K:KF α):∀ (j:Nat) (x0:TX) (x1:Int),
  zy (eC k qf.u4.c) [1, 5] j (fr8 x0 x1) K = qf.u5.l k (fun y0=>K (.exit 1) (fr9 y0)) j x0 x1
 | 0, _, _=>rfl
 | j + 1, x0, x1=>by
   have h:=qf.u4.ok k x0 x1 (seqK (fun ρ=>zy (eC k qf.u4.c) [1, 5] j ρ K) K)
   simp only [zh, zm, zn, ze, qf.u5.okl k K j] at h
   exact (zz (by kernel_rfl) h).trans (qf.u5.ls k (fun y0=>K (.exit 1) (fr9 y0)) j x0 x1).symm
theorem qf.u5.ok (k:Nat) (x0:TX) (x1 x2:Int) (x3:Bool) (K:KF α) :
  eC k qf.u5.c (fr7 x0 x1 x2 x3) K =
   qf.u5.f k x0 x1 x2 x3 (fun y0=>K (.exit 1) (fr9 y0)):=
 jr.trans <| (ja (body:=eC k qf.u4.c) (keep:=[1, 5]) (ρ:=(fr7 x0 x1 x2 x3)) (ρ':=(fr8 x0 x1)) (by kernel_rfl) k K).trans (qf.u5.okl k K k x0 x1)
theorem qf.u6.ok (k:Nat) (x0:TX) (x1 x2:Int) (x3:Bool) (K:KF α) :
  eC k qf.u6.c (fr7 x0 x1 x2 x3) K =
   qf.u6.f k x0 x1 x2 x3 (fun y0=>K .normal (fr9 y0)):=
 (zx.trans (qf.u5.ok k x0 x1 x2 x3 (js 1 K))).trans (by kernel_rfl)
theorem qf.u7.ok (k:Nat) (x0:TX) (x1 x2:Int) (x3:Bool) (R:IC) (K:KF α) :
  eC k (qf.u7.c R) (fr7 x0 x1 x2 x3) K =
   qf.u7.f k x0 x1 x2 x3 (fun y0 y1 y2=>eC k R (fr10 y0 y1 y2) K):=by kernel_rfl
theorem qf.u8.ok (k:Nat) (x0:TX) (x1:Int) (K:KF α) :
  eC k qf.u8.c (fr8 x0 x1) K =
   qf.u8.f k x0 x1 (fun y0 y1=>K .normal (fr8 y0 y1)) (fun y0=>K (.exit 3) (fr9 y0)):=by kernel_rfl
theorem qf.u9.ls (k:Nat) (kx3:Int->M α) (j:Nat) (x0:TX) (x1:Int):qf.u9.l k kx3 (j + 1) x0 x1 =
 qf.u8.f k x0 x1 (fun y0 y1=>qf.u9.l k kx3 j y0 y1) kx3:=rfl
theorem qf.u9.okl (k:Nat) (K:KF α):∀ (j:Nat) (x0:TX) (x1:Int),
  zy (eC k qf.u8.c) [1, 5] j (fr8 x0 x1) K = qf.u9.l k (fun y0=>K (.exit 3) (fr9 y0)) j x0 x1
 | 0, _, _=>rfl
 | j + 1, x0, x1=>by
   have h:=qf.u8.ok k x0 x1 (seqK (fun ρ=>zy (eC k qf.u8.c) [1, 5] j ρ K) K)
   simp only [zh, zm, zn, ze, qf.u9.okl k K j] at h
   exact (zz (by kernel_rfl) h).trans (qf.u9.ls k (fun y0=>K (.exit 3) (fr9 y0)) j x0 x1).symm
theorem qf.u9.ok (k:Nat) (x0:TX) (x1:Int) (x2:Bool) (K:KF α) :
  eC k qf.u9.c (fr10 x0 x1 x2) K =
   qf.u9.f k x0 x1 x2 (fun y0=>K (.exit 3) (fr9 y0)):=
 jr.trans <| (ja (body:=eC k qf.u8.c) (keep:=[1, 5]) (ρ:=(fr10 x0 x1 x2)) (ρ':=(fr8 x0 x1)) (by kernel_rfl) k K).trans (qf.u9.okl k K k x0 x1)
theorem qf.u10.ok (k:Nat) (x0:TX) (x1:Int) (x2:Bool) (K:KF α) :
  eC k qf.u10.c (fr10 x0 x1 x2) K =
   qf.u10.f k x0 x1 x2 (fun y0=>K .normal (fr9 y0)):=
 (zx.trans (qf.u9.ok k x0 x1 x2 (js 3 K))).trans (by kernel_rfl)
theorem qf.u11.ok (k:Nat) (x0:TX) (x1:Int) (x2:Bool) (K:KF α) :
  eC k qf.u11.c (fr10 x0 x1 x2) K =
   qf.u11.f k x0 x1 x2 (fun y0=>K .normal (fr9 y0)):=by kernel_rfl
theorem qf.u12.ok (k:Nat) (x0:TX) (x1:Int) (x2:Bool) (K:KF α) :
  eC k qf.u12.c (fr10 x0 x1 x2) K =
   qf.u12.f k x0 x1 x2 (fun y0=>K .normal (fr9 y0)):=
 yt (g:=x2) (by kernel_rfl) (qf.u10.ok k x0 x1 x2 K) (qf.u11.ok k x0 x1 x2 K)
theorem qf.u13.ok (k:Nat) (x0:TX) (x1 x2:Int) (x3:Bool) (K:KF α) :
  eC k qf.u13.c (fr7 x0 x1 x2 x3) K =
   qf.u13.f k x0 x1 x2 x3 (fun y0=>K .normal (fr9 y0)):=
 (qf.u7.ok k x0 x1 x2 x3 qf.u12.c K).trans
  (congrArg (fun z=>qf.u7.f k x0 x1 x2 x3 z) (funext fun y0=>(funext fun y1=>(funext fun y2=>qf.u12.ok k y0 y1 y2 K))))
theorem qf.u14.ok (k:Nat) (x0:TX) (x1 x2:Int) (x3:Bool) (K:KF α) :
  eC k qf.u14.c (fr7 x0 x1 x2 x3) K =
   qf.u14.f k x0 x1 x2 x3 (fun y0=>K .normal (fr9 y0)):=
 yt (g:=x3) (by kernel_rfl) (qf.u6.ok k x0 x1 x2 x3 K) (qf.u13.ok k x0 x1 x2 x3 K)
theorem qf.u15.ok (k:Nat) (x0:TX) (x1 x2:Int) (K:KF α) :
  eC k qf.u15.c (fr6 x0 x1 x2) K =
   qf.u15.f k x0 x1 x2 (fun y0=>K .normal (fr9 y0)):=
 (qf.u3.ok k x0 x1 x2 qf.u14.c K).trans
  (congrArg (fun z=>qf.u3.f k x0 x1 x2 z) (funext fun y0=>(funext fun y1=>(funext fun y2=>(funext fun y3=>qf.u14.ok k y0 y1 y2 y3 K)))))
theorem qf.u16.ok (k:Nat) (x0:TX) (x1 x2:Int) (K:KF α) :
  eC k qf.u16.c (fr6 x0 x1 x2) K =
   qf.u16.f k x0 x1 x2 (fun y0=>K .normal (fr9 y0)):=
 (zx.trans (qf.u15.ok k x0 x1 x2 (js 0 K))).trans (by kernel_rfl)
theorem qf.u17.ok (k:Nat) (x0:Int) (x1:TX) (x2:Int) (K:KF α) :
  eC k qf.u17.c (fr5 x0 x1 x2) K =
   qf.u17.f k x0 x1 x2 (fun y0=>K .normal (fr9 y0)):=
 (qf.u2.ok k x0 x1 x2 qf.u16.c K).trans
  (congrArg (fun z=>qf.u2.f k x0 x1 x2 z) (funext fun y0=>(funext fun y1=>(funext fun y2=>qf.u16.ok k y0 y1 y2 K))))
theorem qf.u18.ok (k:Nat) (x0:Int) (K:KF α) :
  eC k qf.u18.c (fr9 x0) K =
   qf.u18.f k x0 (fun y0=>K .ret (fr1 y0)):=by kernel_rfl
theorem qf.u19.ok (k:Nat) (x0:Int) (x1:TX) (x2:Int) (K:KF α) :
  eC k qf.u19.c (fr5 x0 x1 x2) K =
   qf.u19.f k x0 x1 x2 (fun y0=>K .ret (fr1 y0)):=
 by
  have h:=qf.u17.ok k x0 x1 x2 (seqK (fun ρ=>eC k qf.u18.c ρ K) K)
  simp only [ze, zh, zm, zn, qf.u18.ok] at h
  exact zt h
theorem qf.u20.ok (k:Nat) (x0:Int) (x1:TX) (K:KF α) :
  eC k qf.u20.c (fr4 x0 x1) K =
   qf.u20.f k x0 x1 (fun y0=>K .ret (fr1 y0)):=
 (qf.u1.ok k x0 x1 qf.u19.c K).trans
  (congrArg (fun z=>qf.u1.f k x0 x1 z) (funext fun y0=>(funext fun y1=>(funext fun y2=>qf.u19.ok k y0 y1 y2 K))))
theorem qf.ok (k:Nat) (x0:Int) (x1:TX) (κ:Res->M α) :
  evF T (env k) k qf.c qf.res [.int .i64 x0, .str x1] κ = qf.f (k + 1) x0 x1 (fun o0=>κ (.ret (.int .i64 o0))):=
 (qf.u20.ok k x0 x1 (retK T qf.res κ)).trans (by kernel_rfl)
theorem qf.code:qf.c.code = zr Try.f66:=by kernel_rfl
noncomputable def qk.c:IC:=qk.u11.c
noncomputable def qk.res:List ResultVar:=[(.tmp 2), (.tmp 3)]
theorem qk.u1.ok (k:Nat) (x0:TX) (R:IC) (K:KF α) :
  eC k (qk.u1.c R) (fr11 x0) K =
   qk.u1.f k x0 (fun y0=>eC k R (fr11 y0) K) (fun y0 y1=>K .ret (fr12 y0 y1)):=by kernel_rfl
theorem qk.u2.ok (k:Nat) (x0:TX) (R:IC) (K:KF α) :
  eC k (qk.u2.c R) (fr11 x0) K =
   qk.u2.f k x0 (fun y0 y1=>eC k R (fr13 y0 y1) K):=by kernel_rfl
theorem qk.u3.ok (k:Nat) (x0:TX) (x1:Int) (R:IC) (K:KF α) :
  eC k (qk.u3.c R) (fr13 x0 x1) K =
   qk.u3.f k x0 x1 (fun y0 y1 y2 y3=>eC k R (fr14 y0 y1 y2 y3) K):=by kernel_rfl
theorem qk.u4.ok (k:Nat) (x0:TX) (x1 x2 x3:Int) (K:KF α) :
  eC k qk.u4.c (fr14 x0 x1 x2 x3) K =
   qk.u4.f k x0 x1 x2 x3 (fun y0 y1 y2 y3=>K .normal (fr14 y0 y1 y2 y3)) (fun y0=>K (.exit 0) (fr1 y0)):=by kernel_rfl
theorem qk.u5.ls (k:Nat) (kx0:Int->M α) (j:Nat) (x0:TX) (x1 x2 x3:Int):qk.u5.l k kx0 (j + 1) x0 x1 x2 x3 =
 qk.u4.f k x0 x1 x2 x3 (fun y0 y1 y2 y3=>qk.u5.l k kx0 j y0 y1 y2 y3) kx0:=rfl
theorem qk.u5.okl (k:Nat) (K:KF α):∀ (j:Nat) (x0:TX) (x1 x2 x3:Int),
  zy (eC k qk.u4.c) [0, 4, 20, 21] j (fr14 x0 x1 x2 x3) K = qk.u5.l k (fun y0=>K (.exit 0) (fr1 y0)) j x0 x1 x2 x3
 | 0, _, _, _, _=>rfl
 | j + 1, x0, x1, x2, x3=>by
   have h:=qk.u4.ok k x0 x1 x2 x3 (seqK (fun ρ=>zy (eC k qk.u4.c) [0, 4, 20, 21] j ρ K) K)
   simp only [zh, zm, zn, ze, qk.u5.okl k K j] at h
   exact (zz (by kernel_rfl) h).trans (qk.u5.ls k (fun y0=>K (.exit 0) (fr1 y0)) j x0 x1 x2 x3).symm
theorem qk.u5.ok (k:Nat) (x0:TX) (x1 x2 x3:Int) (K:KF α) :
  eC k qk.u5.c (fr14 x0 x1 x2 x3) K =
   qk.u5.f k x0 x1 x2 x3 (fun y0=>K (.exit 0) (fr1 y0)):=
 jr.trans <| (ja (body:=eC k qk.u4.c) (keep:=[0, 4, 20, 21]) (ρ:=(fr14 x0 x1 x2 x3)) (ρ':=(fr14 x0 x1 x2 x3)) (by kernel_rfl) k K).trans (qk.u5.okl k K k x0 x1 x2 x3)
theorem qk.u6.ok (k:Nat) (x0:TX) (x1 x2 x3:Int) (K:KF α) :
  eC k qk.u6.c (fr14 x0 x1 x2 x3) K =
   qk.u6.f k x0 x1 x2 x3 (fun y0=>K .normal (fr1 y0)):=
 (zx.trans (qk.u5.ok k x0 x1 x2 x3 (js 0 K))).trans (by kernel_rfl)
theorem qk.u7.ok (k:Nat) (x0:TX) (x1:Int) (K:KF α) :
  eC k qk.u7.c (fr13 x0 x1) K =
   qk.u7.f k x0 x1 (fun y0=>K .normal (fr1 y0)):=
 (qk.u3.ok k x0 x1 qk.u6.c K).trans
  (congrArg (fun z=>qk.u3.f k x0 x1 z) (funext fun y0=>(funext fun y1=>(funext fun y2=>(funext fun y3=>qk.u6.ok k y0 y1 y2 y3 K)))))
theorem qk.u8.ok (k:Nat) (x0:Int) (K:KF α) :
  eC k qk.u8.c (fr1 x0) K =
   qk.u8.f k x0 (fun y0 y1=>K .ret (fr12 y0 y1)):=by kernel_rfl
theorem qk.u9.ok (k:Nat) (x0:TX) (x1:Int) (K:KF α) :
  eC k qk.u9.c (fr13 x0 x1) K =
   qk.u9.f k x0 x1 (fun y0 y1=>K .ret (fr12 y0 y1)):=
 by
  have h:=qk.u7.ok k x0 x1 (seqK (fun ρ=>eC k qk.u8.c ρ K) K)
  simp only [ze, zh, zm, zn, qk.u8.ok] at h
  exact zt h
theorem qk.u10.ok (k:Nat) (x0:TX) (K:KF α) :
  eC k qk.u10.c (fr11 x0) K =
   qk.u10.f k x0 (fun y0 y1=>K .ret (fr12 y0 y1)):=
 (qk.u2.ok k x0 qk.u9.c K).trans
  (congrArg (fun z=>qk.u2.f k x0 z) (funext fun y0=>(funext fun y1=>qk.u9.ok k y0 y1 K)))
theorem qk.u11.ok (k:Nat) (x0:TX) (K:KF α) :
  eC k qk.u11.c (fr11 x0) K =
   qk.u11.f k x0 (fun y0 y1=>K .ret (fr12 y0 y1)):=
 (qk.u1.ok k x0 qk.u10.c K).trans
  (congrArg (fun z=>qk.u1.f k x0 z (fun y0 y1=>K .ret (fr12 y0 y1))) (funext fun y0=>qk.u10.ok k y0 K))
theorem qk.ok (k:Nat) (x0:TX) (κ:Res->M α) :
  evF T (env k) k qk.c qk.res [.str x0] κ = qk.f (k + 1) x0 (fun o0 o1=>κ (.ret (.tuple [.int .i64 o0, .bool o1]))):=
 (qk.u11.ok k x0 (retK T qk.res κ)).trans (by kernel_rfl)
theorem qk.code:qk.c.code = zr Try.f67:=by kernel_rfl
noncomputable def qbj.c:IC:=qbj.u1.c
noncomputable def qbj.res:List ResultVar:=[(.cell 4 66), (.tmp 5)]
theorem qbj.u1.ok (k:Nat) (x0:TX) (x1:Int) (K:KF α) :
  eC k qbj.u1.c (fr15 x0 x1) K =
   qbj.u1.f k x0 x1 (fun y0 y1=>K .ret (za [(4, .ptr (some y0)), (5, .int .i64 y1)])):=by kernel_rfl
theorem qbj.ok (k:Nat) (x0:TX) (x1:Int) (κ:Res->M α) :
  evF T (env k) k qbj.c qbj.res [.str x0, .int .i64 x1] κ = qbj.f (k + 1) x0 x1 (fun o0 o1 o2 o3 o4=>κ (.ret (.tuple [.agg [.int .i64 o0, .int .i64 o1, .str o2, .int .i64 o3], .int .i64 o4]))):=
 (qbj.u1.ok k x0 x1 (retK T qbj.res κ)).trans (by kernel_rfl)
theorem qbj.code:qbj.c.code = zr Try.f51:=by kernel_rfl
noncomputable def ql.c:IC:=ql.u9.c
noncomputable def ql.res:List ResultVar:=[(.tmp 2), (.tmp 3)]
theorem ql.u1.ok (k:Nat) (x0:TX) (R:IC) (K:KF α) :
  eC k (ql.u1.c R) (fr11 x0) K =
   ql.u1.f k x0 (fun y0 y1=>eC k R (fr16 y0 y1) K) (fun y0 y1=>K .ret (za [(2, .slice y0), (3, .iface 62 (.ptr (some y1)))])):=by kernel_rfl
theorem ql.u2.ok (k:Nat) (x0:TX) (x1:Sl) (R:IC) (K:KF α) :
  eC k (ql.u2.c R) (fr16 x0 x1) K =
   ql.u2.f k x0 x1 (fun y0 y1 y2=>eC k R (fr17 y0 y1 y2) K):=by kernel_rfl
theorem ql.u3.ok (k:Nat) (x0:TX) (x1:Sl) (x2:Int) (K:KF α) :
  eC k ql.u3.c (fr17 x0 x1 x2) K =
   ql.u3.f k x0 x1 x2 (fun y0 y1 y2=>K .normal (fr17 y0 y1 y2)) (fun y0 y1=>K .ret (za [(2, .slice y0), (3, .iface 62 (.ptr (some y1)))])) (fun y0 y1=>K (.exit 0) (fr16 y0 y1)):=by kernel_rfl
theorem ql.u4.ls (k:Nat) (kr:Sl->Ad->M α) (kx0:TX->Sl->M α) (j:Nat) (x0:TX) (x1:Sl) (x2:Int):ql.u4.l k kr kx0 (j + 1) x0 x1 x2 =
 ql.u3.f k x0 x1 x2 (fun y0 y1 y2=>ql.u4.l k kr kx0 j y0 y1 y2) kr kx0:=rfl
theorem ql.u4.okl (k:Nat) (K:KF α):∀ (j:Nat) (x0:TX) (x1:Sl) (x2:Int),
  zy (eC k ql.u3.c) [0, 4, 5] j (fr17 x0 x1 x2) K = ql.u4.l k (fun y0 y1=>K .ret (za [(2, .slice y0), (3, .iface 62 (.ptr (some y1)))])) (fun y0 y1=>K (.exit 0) (fr16 y0 y1)) j x0 x1 x2
 | 0, _, _, _=>rfl
 | j + 1, x0, x1, x2=>by
   have h:=ql.u3.ok k x0 x1 x2 (seqK (fun ρ=>zy (eC k ql.u3.c) [0, 4, 5] j ρ K) K)
   simp only [zh, zm, zn, ze, ql.u4.okl k K j] at h
   exact (zz (by kernel_rfl) h).trans (ql.u4.ls k (fun y0 y1=>K .ret (za [(2, .slice y0), (3, .iface 62 (.ptr (some y1)))])) (fun y0 y1=>K (.exit 0) (fr16 y0 y1)) j x0 x1 x2).symm
theorem ql.u4.ok (k:Nat) (x0:TX) (x1:Sl) (x2:Int) (K:KF α) :
  eC k ql.u4.c (fr17 x0 x1 x2) K =
   ql.u4.f k x0 x1 x2 (fun y0 y1=>K .ret (za [(2, .slice y0), (3, .iface 62 (.ptr (some y1)))])) (fun y0 y1=>K (.exit 0) (fr16 y0 y1)):=
 jr.trans <| (ja (body:=eC k ql.u3.c) (keep:=[0, 4, 5]) (ρ:=(fr17 x0 x1 x2)) (ρ':=(fr17 x0 x1 x2)) (by kernel_rfl) k K).trans (ql.u4.okl k K k x0 x1 x2)
theorem ql.u5.ok (k:Nat) (x0:TX) (x1:Sl) (x2:Int) (K:KF α) :
  eC k ql.u5.c (fr17 x0 x1 x2) K =
   ql.u5.f k x0 x1 x2 (fun y0 y1=>K .normal (fr16 y0 y1)) (fun y0 y1=>K .ret (za [(2, .slice y0), (3, .iface 62 (.ptr (some y1)))])):=
 (zx.trans (ql.u4.ok k x0 x1 x2 (js 0 K))).trans (by kernel_rfl)
theorem ql.u6.ok (k:Nat) (x0:TX) (x1:Sl) (K:KF α) :
  eC k ql.u6.c (fr16 x0 x1) K =
   ql.u6.f k x0 x1 (fun y0 y1=>K .normal (fr16 y0 y1)) (fun y0 y1=>K .ret (za [(2, .slice y0), (3, .iface 62 (.ptr (some y1)))])):=
 (ql.u2.ok k x0 x1 ql.u5.c K).trans
  (congrArg (fun z=>ql.u2.f k x0 x1 z) (funext fun y0=>(funext fun y1=>(funext fun y2=>ql.u5.ok k y0 y1 y2 K))))
theorem ql.u7.ok (k:Nat) (x0:TX) (x1:Sl) (K:KF α) :
  eC k ql.u7.c (fr16 x0 x1) K =
   ql.u7.f k x0 x1 (fun y0=>K .ret (za [(2, .slice y0), (3, .nilIface)])):=by kernel_rfl
theorem ql.u8.ok (k:Nat) (x0:TX) (x1:Sl) (K:KF α) :
  eC k ql.u8.c (fr16 x0 x1) K =
   ql.u8.f k x0 x1 (fun y0 y1=>K .ret (za [(2, .slice y0), (3, y1)])):=
 by
  have h:=ql.u6.ok k x0 x1 (seqK (fun ρ=>eC k ql.u7.c ρ K) K)
  simp only [ze, zh, zm, zn, ql.u7.ok] at h
  exact zt h
theorem ql.u9.ok (k:Nat) (x0:TX) (K:KF α) :
  eC k ql.u9.c (fr11 x0) K =
   ql.u9.f k x0 (fun y0 y1=>K .ret (za [(2, .slice y0), (3, y1)])):=
 (ql.u1.ok k x0 ql.u8.c K).trans
  (congrArg (fun z=>ql.u1.f k x0 z (fun y0 y1=>K .ret (za [(2, .slice y0), (3, .iface 62 (.ptr (some y1)))]))) (funext fun y0=>(funext fun y1=>ql.u8.ok k y0 y1 K)))
theorem ql.ok (k:Nat) (x0:TX) (κ:Res->M α) :
  evF T (env k) k ql.c ql.res [.str x0] κ = ql.f (k + 1) x0 (fun o0 o1=>κ (.ret (.tuple [.slice o0, o1]))):=
 (ql.u9.ok k x0 (retK T ql.res κ)).trans (by kernel_rfl)
theorem ql.code:ql.c.code = zr Try.f34:=by kernel_rfl
noncomputable def qbe.c:IC:=qbe.u1.c
noncomputable def qbe.res:List ResultVar:=[(.tmp 2)]
theorem qbe.u1.ok (k:Nat) (x0 x1:Int) (x2:TX) (x3:Int) (K:KF α) :
  eC k qbe.u1.c (za [(0, .agg [.int .i64 x0, .int .i64 x1, .str x2, .int .i64 x3])]) K =
   qbe.u1.f k x0 x1 x2 x3 (fun y0=>K .ret (fr18 y0)):=by kernel_rfl
theorem qbe.ok (k:Nat) (x0 x1:Int) (x2:TX) (x3:Int) (κ:Res->M α) :
  evF T (env k) k qbe.c qbe.res [.agg [.int .i64 x0, .int .i64 x1, .str x2, .int .i64 x3]] κ = qbe.f (k + 1) x0 x1 x2 x3 (fun o0=>κ (.ret (.bool o0))):=
 (qbe.u1.ok k x0 x1 x2 x3 (retK T qbe.res κ)).trans (by kernel_rfl)
theorem qbe.code:qbe.c.code = zr Try.f37:=by kernel_rfl
noncomputable def qv.c:IC:=qv.u9.c
noncomputable def qv.res:List ResultVar:=[(.tmp 4)]
theorem qv.u1.ok (k:Nat) (x0:Sl) (R:IC) (K:KF α) :
  eC k (qv.u1.c R) (za [(0, .slice x0), (1, .func 37 [] [])]) K =
   qv.u1.f k x0 (fun y0=>eC k R (za [(0, .slice y0), (1, .func 37 [] [])]) K):=by kernel_rfl
theorem qv.u2.ok (k:Nat) (x0:Sl) (R:IC) (K:KF α) :
  eC k (qv.u2.c R) (za [(0, .slice x0), (1, .func 37 [] [])]) K =
   qv.u2.f k x0 (fun y0 y1 y2=>eC k R (za [(0, .slice y0), (1, .func 37 [] []), (7, .int .i64 y1), (8, .int .i64 y2)]) K):=by kernel_rfl
theorem qv.u3.ok (k:Nat) (x0:Sl) (x1 x2:Int) (K:KF α) :
  eC k qv.u3.c (za [(0, .slice x0), (1, .func 37 [] []), (7, .int .i64 x1), (8, .int .i64 x2)]) K =
   qv.u3.f k x0 x1 x2 (fun y0 y1 y2=>K .normal (za [(0, .slice y0), (1, .func 37 [] []), (7, .int .i64 y1), (8, .int .i64 y2)])) (fun y0=>K .ret (fr1 y0)) (K (.exit 0) (za [])):=by kernel_rfl
theorem qv.u4.ls (k:Nat) (kr:Int->M α) (kx0:M α) (j:Nat) (x0:Sl) (x1 x2:Int):qv.u4.l k kr kx0 (j + 1) x0 x1 x2 =
 qv.u3.f k x0 x1 x2 (fun y0 y1 y2=>qv.u4.l k kr kx0 j y0 y1 y2) kr kx0:=rfl
theorem qv.u4.okl (k:Nat) (K:KF α):∀ (j:Nat) (x0:Sl) (x1 x2:Int),
  zy (eC k qv.u3.c) [0, 1, 7, 8] j (za [(0, .slice x0), (1, .func 37 [] []), (7, .int .i64 x1), (8, .int .i64 x2)]) K = qv.u4.l k (fun y0=>K .ret (fr1 y0)) (K (.exit 0) (za [])) j x0 x1 x2
 | 0, _, _, _=>rfl
 | j + 1, x0, x1, x2=>by
   have h:=qv.u3.ok k x0 x1 x2 (seqK (fun ρ=>zy (eC k qv.u3.c) [0, 1, 7, 8] j ρ K) K)
   simp only [zh, zm, zn, ze, qv.u4.okl k K j] at h
   exact (zz (by kernel_rfl) h).trans (qv.u4.ls k (fun y0=>K .ret (fr1 y0)) (K (.exit 0) (za [])) j x0 x1 x2).symm
theorem qv.u4.ok (k:Nat) (x0:Sl) (x1 x2:Int) (K:KF α) :
  eC k qv.u4.c (za [(0, .slice x0), (1, .func 37 [] []), (7, .int .i64 x1), (8, .int .i64 x2)]) K =
   qv.u4.f k x0 x1 x2 (fun y0=>K .ret (fr1 y0)) (K (.exit 0) (za [])):=
 jr.trans <| (ja (body:=eC k qv.u3.c) (keep:=[0, 1, 7, 8]) (ρ:=(za [(0, .slice x0), (1, .func 37 [] []), (7, .int .i64 x1), (8, .int .i64 x2)])) (ρ':=(za [(0, .slice x0), (1, .func 37 [] []), (7, .int .i64 x1), (8, .int .i64 x2)])) (by kernel_rfl) k K).trans (qv.u4.okl k K k x0 x1 x2)
theorem qv.u5.ok (k:Nat) (x0:Sl) (x1 x2:Int) (K:KF α) :
  eC k qv.u5.c (za [(0, .slice x0), (1, .func 37 [] []), (7, .int .i64 x1), (8, .int .i64 x2)]) K =
   qv.u5.f k x0 x1 x2 (K .normal (za [])) (fun y0=>K .ret (fr1 y0)):=
 (zx.trans (qv.u4.ok k x0 x1 x2 (js 0 K))).trans (by kernel_rfl)
theorem qv.u6.ok (k:Nat) (x0:Sl) (K:KF α) :
  eC k qv.u6.c (za [(0, .slice x0), (1, .func 37 [] [])]) K =
   qv.u6.f k x0 (K .normal (za [])) (fun y0=>K .ret (fr1 y0)):=
 (qv.u2.ok k x0 qv.u5.c K).trans
  (congrArg (fun z=>qv.u2.f k x0 z) (funext fun y0=>(funext fun y1=>(funext fun y2=>qv.u5.ok k y0 y1 y2 K))))
theorem qv.u7.ok (k:Nat) (K:KF α) :
  eC k qv.u7.c (za []) K =
   qv.u7.f k (fun y0=>K .ret (fr1 y0)):=by kernel_rfl
theorem qv.u8.ok (k:Nat) (x0:Sl) (K:KF α) :
  eC k qv.u8.c (za [(0, .slice x0), (1, .func 37 [] [])]) K =
   qv.u8.f k x0 (fun y0=>K .ret (fr1 y0)):=
 by
  have h:=qv.u6.ok k x0 (seqK (fun ρ=>eC k qv.u7.c ρ K) K)
  simp only [ze, zh, zm, zn, qv.u7.ok] at h
  exact zt h
theorem qv.u9.ok (k:Nat) (x0:Sl) (K:KF α) :
  eC k qv.u9.c (za [(0, .slice x0), (1, .func 37 [] [])]) K =
   qv.u9.f k x0 (fun y0=>K .ret (fr1 y0)):=
 (qv.u1.ok k x0 qv.u8.c K).trans
  (congrArg (fun z=>qv.u1.f k x0 z) (funext fun y0=>qv.u8.ok k y0 K))
theorem qv.ok (k:Nat) (x0:Sl) (κ:Res->M α) :
  evF T (env k) k qv.c qv.res [.slice x0, .func 37 [] []] κ = qv.f (k + 1) x0 (fun o0=>κ (.ret (.int .i64 o0))):=
 (qv.u9.ok k x0 (retK T qv.res κ)).trans (by kernel_rfl)
theorem qv.code:qv.c.code = zr Try.f52:=by kernel_rfl
noncomputable def qr.c:IC:=qr.u9.c
noncomputable def qr.res:List ResultVar:=[(.tmp 4)]
theorem qr.u1.ok (k:Nat) (x0:Sl) (R:IC) (K:KF α) :
  eC k (qr.u1.c R) (za [(0, .slice x0), (1, .func 37 [] [])]) K =
   qr.u1.f k x0 (fun y0 y1=>eC k R (za [(0, .slice y0), (1, .func 37 [] []), (5, .int .i64 y1)]) K) (fun y0=>K .ret (fr19 y0)):=by kernel_rfl
theorem qr.u2.ok (k:Nat) (x0:Sl) (x1:Int) (R:IC) (K:KF α) :
  eC k (qr.u2.c R) (za [(0, .slice x0), (1, .func 37 [] []), (5, .int .i64 x1)]) K =
   qr.u2.f k x0 x1 (fun y0 y1 y2=>eC k R (za [(0, .slice y0), (1, .func 37 [] []), (5, .int .i64 y1), (6, .int .i64 y2)]) K):=by kernel_rfl
theorem qr.u3.ok (k:Nat) (x0:Sl) (x1 x2:Int) (K:KF α) :
  eC k qr.u3.c (za [(0, .slice x0), (1, .func 37 [] []), (5, .int .i64 x1), (6, .int .i64 x2)]) K =
   qr.u3.f k x0 x1 x2 (fun y0 y1 y2=>K .normal (za [(0, .slice y0), (1, .func 37 [] []), (5, .int .i64 y1), (6, .int .i64 y2)])) (fun y0 y1=>K (.exit 0) (fr20 y0 y1)):=by kernel_rfl
theorem qr.u4.ls (k:Nat) (kx0:Sl->Int->M α) (j:Nat) (x0:Sl) (x1 x2:Int):qr.u4.l k kx0 (j + 1) x0 x1 x2 =
 qr.u3.f k x0 x1 x2 (fun y0 y1 y2=>qr.u4.l k kx0 j y0 y1 y2) kx0:=rfl
theorem qr.u4.okl (k:Nat) (K:KF α):∀ (j:Nat) (x0:Sl) (x1 x2:Int),
  zy (eC k qr.u3.c) [0, 1, 5, 6] j (za [(0, .slice x0), (1, .func 37 [] []), (5, .int .i64 x1), (6, .int .i64 x2)]) K = qr.u4.l k (fun y0 y1=>K (.exit 0) (fr20 y0 y1)) j x0 x1 x2
 | 0, _, _, _=>rfl
 | j + 1, x0, x1, x2=>by
   have h:=qr.u3.ok k x0 x1 x2 (seqK (fun ρ=>zy (eC k qr.u3.c) [0, 1, 5, 6] j ρ K) K)
   simp only [zh, zm, zn, ze, qr.u4.okl k K j] at h
   exact (zz (by kernel_rfl) h).trans (qr.u4.ls k (fun y0 y1=>K (.exit 0) (fr20 y0 y1)) j x0 x1 x2).symm
theorem qr.u4.ok (k:Nat) (x0:Sl) (x1 x2:Int) (K:KF α) :
  eC k qr.u4.c (za [(0, .slice x0), (1, .func 37 [] []), (5, .int .i64 x1), (6, .int .i64 x2)]) K =
   qr.u4.f k x0 x1 x2 (fun y0 y1=>K (.exit 0) (fr20 y0 y1)):=
 jr.trans <| (ja (body:=eC k qr.u3.c) (keep:=[0, 1, 5, 6]) (ρ:=(za [(0, .slice x0), (1, .func 37 [] []), (5, .int .i64 x1), (6, .int .i64 x2)])) (ρ':=(za [(0, .slice x0), (1, .func 37 [] []), (5, .int .i64 x1), (6, .int .i64 x2)])) (by kernel_rfl) k K).trans (qr.u4.okl k K k x0 x1 x2)
theorem qr.u5.ok (k:Nat) (x0:Sl) (x1 x2:Int) (K:KF α) :
  eC k qr.u5.c (za [(0, .slice x0), (1, .func 37 [] []), (5, .int .i64 x1), (6, .int .i64 x2)]) K =
   qr.u5.f k x0 x1 x2 (fun y0 y1=>K .normal (fr20 y0 y1)):=
 (zx.trans (qr.u4.ok k x0 x1 x2 (js 0 K))).trans (by kernel_rfl)
theorem qr.u6.ok (k:Nat) (x0:Sl) (x1:Int) (K:KF α) :
  eC k qr.u6.c (za [(0, .slice x0), (1, .func 37 [] []), (5, .int .i64 x1)]) K =
   qr.u6.f k x0 x1 (fun y0 y1=>K .normal (fr20 y0 y1)):=
 (qr.u2.ok k x0 x1 qr.u5.c K).trans
  (congrArg (fun z=>qr.u2.f k x0 x1 z) (funext fun y0=>(funext fun y1=>(funext fun y2=>qr.u5.ok k y0 y1 y2 K))))
theorem qr.u7.ok (k:Nat) (x0:Sl) (x1:Int) (K:KF α) :
  eC k qr.u7.c (fr20 x0 x1) K =
   qr.u7.f k x0 x1 (fun y0=>K .ret (fr19 y0)):=by kernel_rfl
theorem qr.u8.ok (k:Nat) (x0:Sl) (x1:Int) (K:KF α) :
  eC k qr.u8.c (za [(0, .slice x0), (1, .func 37 [] []), (5, .int .i64 x1)]) K =
   qr.u8.f k x0 x1 (fun y0=>K .ret (fr19 y0)):=
 by
  have h:=qr.u6.ok k x0 x1 (seqK (fun ρ=>eC k qr.u7.c ρ K) K)
  simp only [ze, zh, zm, zn, qr.u7.ok] at h
  exact zt h
theorem qr.u9.ok (k:Nat) (x0:Sl) (K:KF α) :
  eC k qr.u9.c (za [(0, .slice x0), (1, .func 37 [] [])]) K =
   qr.u9.f k x0 (fun y0=>K .ret (fr19 y0)):=
 (qr.u1.ok k x0 qr.u8.c K).trans
  (congrArg (fun z=>qr.u1.f k x0 z (fun y0=>K .ret (fr19 y0))) (funext fun y0=>(funext fun y1=>qr.u8.ok k y0 y1 K)))
theorem qr.ok (k:Nat) (x0:Sl) (κ:Res->M α) :
  evF T (env k) k qr.c qr.res [.slice x0, .func 37 [] []] κ = qr.f (k + 1) x0 (fun o0=>κ (.ret (.slice o0))):=
 (qr.u9.ok k x0 (retK T qr.res κ)).trans (by kernel_rfl)
theorem qr.code:qr.c.code = zr Try.f36:=by kernel_rfl
noncomputable def qat.c:IC:=qat.u1.c
noncomputable def qat.res:List ResultVar:=[(.tmp 4)]
theorem qat.u1.ok (k:Nat) (x0:Ad) (x1:TX) (K:KF α) :
  eC k qat.u1.c (za [(0, .ptr (some x0)), (1, .str x1)]) K =
   qat.u1.f k x0 x1 (fun y0=>K .ret (fr21 y0)):=by kernel_rfl
theorem qat.ok (k:Nat) (x0:Ad) (x1:TX) (κ:Res->M α) :
  evF T (env k) k qat.c qat.res [.ptr (some x0), .str x1] κ = qat.f (k + 1) x0 x1 (fun o0=>κ (.ret (.bool o0))):=
 (qat.u1.ok k x0 x1 (retK T qat.res κ)).trans (by kernel_rfl)
theorem qat.code:qat.c.code = zr Try.f68:=by kernel_rfl
noncomputable def qan.c:IC:=qan.u1.c
noncomputable def qan.res:List ResultVar:=[(.cell 2 66)]
theorem qan.u1.ok (k:Nat) (x0:Ad) (K:KF α) :
  eC k qan.u1.c (za [(0, .ptr (some x0))]) K =
   qan.u1.f k x0 (fun y0=>K .ret (za [(2, .ptr (some y0))])):=by kernel_rfl
theorem qan.ok (k:Nat) (x0:Ad) (κ:Res->M α) :
  evF T (env k) k qan.c qan.res [.ptr (some x0)] κ = qan.f (k + 1) x0 (fun o0 o1 o2 o3=>κ (.ret (.agg [.int .i64 o0, .int .i64 o1, .str o2, .int .i64 o3]))):=
 (qan.u1.ok k x0 (retK T qan.res κ)).trans (by kernel_rfl)
theorem qan.code:qan.c.code = zr Try.f75:=by kernel_rfl
noncomputable def qak.c:IC:=qak.u1.c
noncomputable def qak.res:List ResultVar:=[(.cell 2 66)]
theorem qak.u1.ok (k:Nat) (x0:Ad) (K:KF α) :
  eC k qak.u1.c (za [(0, .ptr (some x0))]) K =
   qak.u1.f k x0 (fun y0=>K .ret (za [(2, .ptr (some y0))])) (fun v=>K (.pan v) (za [])):=by kernel_rfl
theorem qak.ok (k:Nat) (x0:Ad) (κ:Res->M α) :
  evF T (env k) k qak.c qak.res [.ptr (some x0)] κ = qak.f (k + 1) x0 (fun v=>κ (.pan v)) (fun o0 o1 o2 o3=>κ (.ret (.agg [.int .i64 o0, .int .i64 o1, .str o2, .int .i64 o3]))):=
 (qak.u1.ok k x0 (retK T qak.res κ)).trans (by kernel_rfl)
theorem qak.code:qak.c.code = zr Try.f69:=by kernel_rfl
noncomputable def qah.c:IC:=qah.u1.c
noncomputable def qah.res:List ResultVar:=[(.tmp 4)]
theorem qah.u1.ok (k:Nat) (x0:Ad) (x1 x2 x3:Int) (x4:TX) (x5:Int) (K:KF α) :
  eC k qah.u1.c (za [(0, .ptr (some x0)), (1, .agg [.int .i64 x1, .int .i64 x2, .int .i64 x3, .str x4, .int .i64 x5])]) K =
   qah.u1.f k x0 x1 x2 x3 x4 x5 (fun y0=>K .ret (fr1 y0)):=by kernel_rfl
theorem qah.ok (k:Nat) (x0:Ad) (x1 x2 x3:Int) (x4:TX) (x5:Int) (κ:Res->M α) :
  evF T (env k) k qah.c qah.res [.ptr (some x0), .agg [.int .i64 x1, .int .i64 x2, .int .i64 x3, .str x4, .int .i64 x5]] κ = qah.f (k + 1) x0 x1 x2 x3 x4 x5 (fun o0=>κ (.ret (.int .i64 o0))):=
 (qah.u1.ok k x0 x1 x2 x3 x4 x5 (retK T qah.res κ)).trans (by kernel_rfl)
theorem qah.code:qah.c.code = zr Try.f70:=by kernel_rfl
noncomputable def qav.c:IC:=qav.u1.c
noncomputable def qav.res:List ResultVar:=[]
theorem qav.u1.ok (k:Nat) (x0:Ad) (K:KF α) :
  eC k qav.u1.c (za [(0, .ptr (some x0))]) K =
   qav.u1.f k x0 (fun v=>K (.pan v) (za [])):=by kernel_rfl
theorem qav.ok (k:Nat) (x0:Ad) (κ:Res->M α) :
  evF T (env k) k qav.c qav.res [.ptr (some x0)] κ = qav.f (k + 1) x0 (fun v=>κ (.pan v)) (κ (.ret (.tuple []))):=
 (qav.u1.ok k x0 (retK T qav.res κ)).trans (by kernel_rfl)
theorem qav.code:qav.c.code = zr Try.f39:=by kernel_rfl
noncomputable def qbf.c:IC:=qbf.u1.c
noncomputable def qbf.res:List ResultVar:=[(.tmp 2)]
theorem qbf.u1.ok (k:Nat) (x0:TX) (K:KF α) :
  eC k qbf.u1.c (fr11 x0) K =
   qbf.u1.f k x0 (fun y0=>K .ret (fr18 y0)):=by kernel_rfl
theorem qbf.ok (k:Nat) (x0:TX) (κ:Res->M α) :
  evF T (env k) k qbf.c qbf.res [.str x0] κ = qbf.f (k + 1) x0 (fun o0=>κ (.ret (.bool o0))):=
 (qbf.u1.ok k x0 (retK T qbf.res κ)).trans (by kernel_rfl)
theorem qbf.code:qbf.c.code = zr Try.f63:=by kernel_rfl
noncomputable def qaj.c:IC:=qaj.u1.c
noncomputable def qaj.res:List ResultVar:=[]
theorem qaj.u1.ok (k:Nat) (x0:Ad) (x1:TX) (K:KF α) :
  eC k qaj.u1.c (za [(0, .ptr (some x0)), (1, .str x1)]) K =
   qaj.u1.f k x0 x1 (K .normal (za [])) (fun v=>K (.pan v) (za [])):=by kernel_rfl
theorem qaj.ok (k:Nat) (x0:Ad) (x1:TX) (κ:Res->M α) :
  evF T (env k) k qaj.c qaj.res [.ptr (some x0), .str x1] κ = qaj.f (k + 1) x0 x1 (fun v=>κ (.pan v)) (κ (.ret (.tuple []))):=
 (qaj.u1.ok k x0 x1 (retK T qaj.res κ)).trans (by kernel_rfl)
theorem qaj.code:qaj.c.code = zr Try.f77:=by kernel_rfl
noncomputable def qaq.c:IC:=qaq.u1.c
noncomputable def qaq.res:List ResultVar:=[(.tmp 4)]
theorem qaq.u1.ok (k:Nat) (x0:Ad) (x1:TX) (K:KF α) :
  eC k qaq.u1.c (za [(0, .ptr (some x0)), (1, .str x1)]) K =
   qaq.u1.f k x0 x1 (fun y0=>K .ret (fr22 y0)) (fun v=>K (.pan v) (za [])):=by kernel_rfl
theorem qaq.ok (k:Nat) (x0:Ad) (x1:TX) (κ:Res->M α) :
  evF T (env k) k qaq.c qaq.res [.ptr (some x0), .str x1] κ = qaq.f (k + 1) x0 x1 (fun v=>κ (.pan v)) (fun o0=>κ (.ret (.str o0))):=
 (qaq.u1.ok k x0 x1 (retK T qaq.res κ)).trans (by kernel_rfl)
theorem qaq.code:qaq.c.code = zr Try.f76:=by kernel_rfl
noncomputable def qai.c:IC:=qai.u1.c
noncomputable def qai.res:List ResultVar:=[(.tmp 2)]
theorem qai.u1.ok (k:Nat) (x0:Ad) (K:KF α) :
  eC k qai.u1.c (za [(0, .ptr (some x0))]) K =
   qai.u1.f k (qab.f k) x0 (fun y0=>K .ret (fr3 y0)) (fun v=>K (.pan v) (za [])):=by kernel_rfl
theorem qai.ok (k:Nat) (x0:Ad) (κ:Res->M α) :
  evF T (env k) k qai.c qai.res [.ptr (some x0)] κ = qai.f (k + 1) x0 (fun v=>κ (.pan v)) (fun o0=>κ (.ret (.int .i64 o0))):=
 (qai.u1.ok k x0 (retK T qai.res κ)).trans (by kernel_rfl)
theorem qai.code:qai.c.code = zr Try.f38:=by kernel_rfl
noncomputable def qab.c:IC:=qab.u7.c
noncomputable def qab.res:List ResultVar:=[(.tmp 8)]
theorem qab.u1.ok (k:Nat) (x0:Ad) (x1:TX) (x2:Int) (x3:V) (R:IC) (K:KF α) :
  eC k (qab.u1.c R) (za [(0, .ptr (some x0)), (1, .str x1), (2, .int .i64 x2), (3, x3)]) K =
   qab.u1.f k (qao.f k) (qd.f k) x0 x1 x2 x3 (fun y0 y1 y2 y3 y4=>eC k R (za [(0, .ptr (some y0)), (1, .str y1), (2, .int .i64 y2), (3, y3), (9, .int .i64 y4)]) K) (fun v=>K (.pan v) (za [])):=by kernel_rfl
theorem qab.u2.ok (k:Nat) (x0:Ad) (x1:TX) (x2:Int) (x3:V) (x4:Int) (K:KF α) :
  eC k qab.u2.c (za [(0, .ptr (some x0)), (1, .str x1), (2, .int .i64 x2), (3, x3), (9, .int .i64 x4)]) K =
   qab.u2.f k (qao.f k) (qd.f k) x0 x1 x2 x3 x4 (fun y0 y1 y2 y3 y4=>K .normal (za [(0, .ptr (some y0)), (1, .str y1), (2, .int .i64 y2), (3, y3), (9, .int .i64 y4)])) (fun y0=>K (.exit 0) (fr23 y0)) (fun v=>K (.pan v) (za [])):=by kernel_rfl
theorem qab.u3.ls (k:Nat) (rr54:Ad->(V->M α)->(Int->M α)->M α) (rr71:Ad->(V->M α)->(Int->M α)->M α) (kx0:Int->M α) (kp:V->M α) (j:Nat) (x0:Ad) (x1:TX) (x2:Int) (x3:V) (x4:Int):qab.u3.l k rr54 rr71 kx0 kp (j + 1) x0 x1 x2 x3 x4 =
 qab.u2.f k rr54 rr71 x0 x1 x2 x3 x4 (fun y0 y1 y2 y3 y4=>qab.u3.l k rr54 rr71 kx0 kp j y0 y1 y2 y3 y4) kx0 kp:=rfl
theorem qab.u3.okl (k:Nat) (K:KF α):∀ (j:Nat) (x0:Ad) (x1:TX) (x2:Int) (x3:V) (x4:Int),
  zy (eC k qab.u2.c) [0, 1, 2, 3, 9] j (za [(0, .ptr (some x0)), (1, .str x1), (2, .int .i64 x2), (3, x3), (9, .int .i64 x4)]) K = qab.u3.l k (qao.f k) (qd.f k) (fun y0=>K (.exit 0) (fr23 y0)) (fun v=>K (.pan v) (za [])) j x0 x1 x2 x3 x4
 | 0, _, _, _, _, _=>rfl
 | j + 1, x0, x1, x2, x3, x4=>by
   have h:=qab.u2.ok k x0 x1 x2 x3 x4 (seqK (fun ρ=>zy (eC k qab.u2.c) [0, 1, 2, 3, 9] j ρ K) K)
   simp only [zh, zm, zn, ze, qab.u3.okl k K j] at h
   exact (zz (by kernel_rfl) h).trans (qab.u3.ls k (qao.f k) (qd.f k) (fun y0=>K (.exit 0) (fr23 y0)) (fun v=>K (.pan v) (za [])) j x0 x1 x2 x3 x4).symm
theorem qab.u3.ok (k:Nat) (x0:Ad) (x1:TX) (x2:Int) (x3:V) (x4:Int) (K:KF α) :
  eC k qab.u3.c (za [(0, .ptr (some x0)), (1, .str x1), (2, .int .i64 x2), (3, x3), (9, .int .i64 x4)]) K =
   qab.u3.f k (qao.f k) (qd.f k) x0 x1 x2 x3 x4 (fun y0=>K (.exit 0) (fr23 y0)) (fun v=>K (.pan v) (za [])):=
 jr.trans <| (ja (body:=eC k qab.u2.c) (keep:=[0, 1, 2, 3, 9]) (ρ:=(za [(0, .ptr (some x0)), (1, .str x1), (2, .int .i64 x2), (3, x3), (9, .int .i64 x4)])) (ρ':=(za [(0, .ptr (some x0)), (1, .str x1), (2, .int .i64 x2), (3, x3), (9, .int .i64 x4)])) (by kernel_rfl) k K).trans (qab.u3.okl k K k x0 x1 x2 x3 x4)
theorem qab.u4.ok (k:Nat) (x0:Ad) (x1:TX) (x2:Int) (x3:V) (x4:Int) (K:KF α) :
  eC k qab.u4.c (za [(0, .ptr (some x0)), (1, .str x1), (2, .int .i64 x2), (3, x3), (9, .int .i64 x4)]) K =
   qab.u4.f k (qao.f k) (qd.f k) x0 x1 x2 x3 x4 (fun y0=>K .normal (fr23 y0)) (fun v=>K (.pan v) (za [])):=
 (zx.trans (qab.u3.ok k x0 x1 x2 x3 x4 (js 0 K))).trans (by kernel_rfl)
theorem qab.u5.ok (k:Nat) (x0:Int) (K:KF α) :
  eC k qab.u5.c (fr23 x0) K =
   qab.u5.f k x0 (fun y0=>K .ret (fr24 y0)):=by kernel_rfl
theorem qab.u6.ok (k:Nat) (x0:Ad) (x1:TX) (x2:Int) (x3:V) (x4:Int) (K:KF α) :
  eC k qab.u6.c (za [(0, .ptr (some x0)), (1, .str x1), (2, .int .i64 x2), (3, x3), (9, .int .i64 x4)]) K =
   qab.u6.f k (qao.f k) (qd.f k) x0 x1 x2 x3 x4 (fun y0=>K .ret (fr24 y0)) (fun v=>K (.pan v) (za [])):=
 by
  have h:=qab.u4.ok k x0 x1 x2 x3 x4 (seqK (fun ρ=>eC k qab.u5.c ρ K) K)
  simp only [ze, zh, zm, zn, qab.u5.ok] at h
  exact zt h
theorem qab.u7.ok (k:Nat) (x0:Ad) (x1:TX) (x2:Int) (x3:V) (K:KF α) :
  eC k qab.u7.c (za [(0, .ptr (some x0)), (1, .str x1), (2, .int .i64 x2), (3, x3)]) K =
   qab.u7.f k (qao.f k) (qd.f k) x0 x1 x2 x3 (fun y0=>K .ret (fr24 y0)) (fun v=>K (.pan v) (za [])):=
 (qab.u1.ok k x0 x1 x2 x3 qab.u6.c K).trans
  (congrArg (fun z=>qab.u1.f k (qao.f k) (qd.f k) x0 x1 x2 x3 z (fun v=>K (.pan v) (za []))) (funext fun y0=>(funext fun y1=>(funext fun y2=>(funext fun y3=>(funext fun y4=>qab.u6.ok k y0 y1 y2 y3 y4 K))))))
theorem qab.ok (k:Nat) (x0:Ad) (x1:TX) (x2:Int) (x3:V) (κ:Res->M α) :
  evF T (env k) k qab.c qab.res [.ptr (some x0), .str x1, .int .i64 x2, x3] κ = qab.f (k + 1) x0 x1 x2 x3 (fun v=>κ (.pan v)) (fun o0=>κ (.ret (.int .i64 o0))):=
 (qab.u7.ok k x0 x1 x2 x3 (retK T qab.res κ)).trans (by kernel_rfl)
theorem qab.code:qab.c.code = zr Try.f53:=by kernel_rfl
noncomputable def qao.c:IC:=qao.u1.c
noncomputable def qao.res:List ResultVar:=[(.tmp 2)]
theorem qao.u1.ok (k:Nat) (x0:Ad) (K:KF α) :
  eC k qao.u1.c (za [(0, .ptr (some x0))]) K =
   qao.u1.f k (qab.f k) x0 (fun y0=>K .ret (fr3 y0)) (fun v=>K (.pan v) (za [])):=by kernel_rfl
theorem qao.ok (k:Nat) (x0:Ad) (κ:Res->M α) :
  evF T (env k) k qao.c qao.res [.ptr (some x0)] κ = qao.f (k + 1) x0 (fun v=>κ (.pan v)) (fun o0=>κ (.ret (.int .i64 o0))):=
 (qao.u1.ok k x0 (retK T qao.res κ)).trans (by kernel_rfl)
theorem qao.code:qao.c.code = zr Try.f54:=by kernel_rfl
noncomputable def qd.c:IC:=qd.u18.c
noncomputable def qd.res:List ResultVar:=[(.tmp 2)]
theorem qd.u1.ok (k:Nat) (x0:Ad) (R:IC) (K:KF α) :
  eC k (qd.u1.c R) (za [(0, .ptr (some x0))]) K =
   qd.u1.f k x0 (fun y0=>eC k R (za [(0, .ptr (some y0))]) K):=by kernel_rfl
theorem qd.u2.ok (k:Nat) (x0:Ad) (R:IC) (K:KF α) :
  eC k (qd.u2.c R) (za [(0, .ptr (some x0))]) K =
   qd.u2.f k x0 (fun y0 y1=>eC k R (za [(0, .ptr (some y0)), (10, .bool y1)]) K):=by kernel_rfl
theorem qd.u3.ok (k:Nat) (x0:Ad) (x1:Bool) (K:KF α) :
  eC k qd.u3.c (za [(0, .ptr (some x0)), (10, .bool x1)]) K =
   qd.u3.f k (qd.f k) x0 x1 (fun y0=>K .ret (fr3 y0)) (fun v=>K (.pan v) (za [])):=by kernel_rfl
theorem qd.u4.ok (k:Nat) (x0:Ad) (x1:Bool) (R:IC) (K:KF α) :
  eC k (qd.u4.c R) (za [(0, .ptr (some x0)), (10, .bool x1)]) K =
   qd.u4.f k x0 x1 (fun y0 y1=>eC k R (za [(0, .ptr (some y0)), (22, .bool y1)]) K):=by kernel_rfl
theorem qd.u5.ok (k:Nat) (x0:Ad) (x1:Bool) (K:KF α) :
  eC k qd.u5.c (za [(0, .ptr (some x0)), (22, .bool x1)]) K =
   qd.u5.f k (qd.f k) x0 x1 (fun y0=>K .ret (fr3 y0)) (fun v=>K (.pan v) (za [])):=by kernel_rfl
theorem qd.u6.ok (k:Nat) (x0:Ad) (x1:Bool) (R:IC) (K:KF α) :
  eC k (qd.u6.c R) (za [(0, .ptr (some x0)), (22, .bool x1)]) K =
   qd.u6.f k x0 x1 (fun y0 y1=>eC k R (za [(0, .ptr (some y0)), (37, .bool y1)]) K):=by kernel_rfl
theorem qd.u7.ok (k:Nat) (x0:Ad) (x1:Bool) (K:KF α) :
  eC k qd.u7.c (za [(0, .ptr (some x0)), (37, .bool x1)]) K =
   qd.u7.f k (qd.f k) x0 x1 (fun y0=>K .ret (fr3 y0)) (fun v=>K (.pan v) (za [])):=by kernel_rfl
theorem qd.u8.ok (k:Nat) (x0:Ad) (x1:Bool) (K:KF α) :
  eC k qd.u8.c (za [(0, .ptr (some x0)), (37, .bool x1)]) K =
   qd.u8.f k (qai.f k) (qae.f k) x0 x1 (fun y0=>K .normal (za [(0, .ptr (some y0))])) (fun y0=>K .ret (fr3 y0)) (fun v=>K (.pan v) (za [])):=by kernel_rfl
theorem qd.u9.ok (k:Nat) (x0:Ad) (x1:Bool) (K:KF α) :
  eC k qd.u9.c (za [(0, .ptr (some x0)), (37, .bool x1)]) K =
   qd.u9.f k (qd.f k) (qai.f k) (qae.f k) x0 x1 (fun y0=>K .normal (za [(0, .ptr (some y0))])) (fun y0=>K .ret (fr3 y0)) (fun v=>K (.pan v) (za [])):=
 yt (g:=x1) (by kernel_rfl) (qd.u7.ok k x0 x1 K) (qd.u8.ok k x0 x1 K)
theorem qd.u10.ok (k:Nat) (x0:Ad) (x1:Bool) (K:KF α) :
  eC k qd.u10.c (za [(0, .ptr (some x0)), (22, .bool x1)]) K =
   qd.u10.f k (qd.f k) (qai.f k) (qae.f k) x0 x1 (fun y0=>K .normal (za [(0, .ptr (some y0))])) (fun y0=>K .ret (fr3 y0)) (fun v=>K (.pan v) (za [])):=
 (qd.u6.ok k x0 x1 qd.u9.c K).trans
  (congrArg (fun z=>qd.u6.f k x0 x1 z) (funext fun y0=>(funext fun y1=>qd.u9.ok k y0 y1 K)))
theorem qd.u11.ok (k:Nat) (x0:Ad) (x1:Bool) (K:KF α) :
  eC k qd.u11.c (za [(0, .ptr (some x0)), (22, .bool x1)]) K =
   qd.u11.f k (qd.f k) (qai.f k) (qae.f k) x0 x1 (fun y0=>K .normal (za [(0, .ptr (some y0))])) (fun y0=>K .ret (fr3 y0)) (fun v=>K (.pan v) (za [])):=
 yt (g:=x1) (by kernel_rfl) (qd.u5.ok k x0 x1 K) (qd.u10.ok k x0 x1 K)
theorem qd.u12.ok (k:Nat) (x0:Ad) (x1:Bool) (K:KF α) :
  eC k qd.u12.c (za [(0, .ptr (some x0)), (10, .bool x1)]) K =
   qd.u12.f k (qd.f k) (qai.f k) (qae.f k) x0 x1 (fun y0=>K .normal (za [(0, .ptr (some y0))])) (fun y0=>K .ret (fr3 y0)) (fun v=>K (.pan v) (za [])):=
 (qd.u4.ok k x0 x1 qd.u11.c K).trans
  (congrArg (fun z=>qd.u4.f k x0 x1 z) (funext fun y0=>(funext fun y1=>qd.u11.ok k y0 y1 K)))
theorem qd.u13.ok (k:Nat) (x0:Ad) (x1:Bool) (K:KF α) :
  eC k qd.u13.c (za [(0, .ptr (some x0)), (10, .bool x1)]) K =
   qd.u13.f k (qd.f k) (qai.f k) (qae.f k) x0 x1 (fun y0=>K .normal (za [(0, .ptr (some y0))])) (fun y0=>K .ret (fr3 y0)) (fun v=>K (.pan v) (za [])):=
 yt (g:=x1) (by kernel_rfl) (qd.u3.ok k x0 x1 K) (qd.u12.ok k x0 x1 K)
theorem qd.u14.ok (k:Nat) (x0:Ad) (K:KF α) :
  eC k qd.u14.c (za [(0, .ptr (some x0))]) K =
   qd.u14.f k (qd.f k) (qai.f k) (qae.f k) x0 (fun y0=>K .normal (za [(0, .ptr (some y0))])) (fun y0=>K .ret (fr3 y0)) (fun v=>K (.pan v) (za [])):=
 (qd.u2.ok k x0 qd.u13.c K).trans
  (congrArg (fun z=>qd.u2.f k x0 z) (funext fun y0=>(funext fun y1=>qd.u13.ok k y0 y1 K)))
theorem qd.u15.ok (k:Nat) (x0:Ad) (K:KF α) :
  eC k qd.u15.c (za [(0, .ptr (some x0))]) K =
   qd.u15.f k (qd.f k) (qai.f k) (qae.f k) x0 (fun y0=>K .normal (za [(0, .ptr (some y0))])) (fun y0=>K .ret (fr3 y0)) (fun v=>K (.pan v) (za [])):=
 (zx.trans (qd.u14.ok k x0 (js 0 K))).trans (by kernel_rfl)
theorem qd.u16.ok (k:Nat) (x0:Ad) (K:KF α) :
  eC k qd.u16.c (za [(0, .ptr (some x0))]) K =
   qd.u16.f k x0 (fun y0=>K .ret (fr3 y0)) (fun v=>K (.pan v) (za [])):=by kernel_rfl
theorem qd.u17.ok (k:Nat) (x0:Ad) (K:KF α) :
  eC k qd.u17.c (za [(0, .ptr (some x0))]) K =
   qd.u17.f k (qd.f k) (qai.f k) (qae.f k) x0 (fun y0=>K .ret (fr3 y0)) (fun v=>K (.pan v) (za [])):=
 by
  have h:=qd.u15.ok k x0 (seqK (fun ρ=>eC k qd.u16.c ρ K) K)
  simp only [ze, zh, zm, zn, qd.u16.ok] at h
  exact zt h
theorem qd.u18.ok (k:Nat) (x0:Ad) (K:KF α) :
  eC k qd.u18.c (za [(0, .ptr (some x0))]) K =
   qd.u18.f k (qd.f k) (qai.f k) (qae.f k) x0 (fun y0=>K .ret (fr3 y0)) (fun v=>K (.pan v) (za [])):=
 (qd.u1.ok k x0 qd.u17.c K).trans
  (congrArg (fun z=>qd.u1.f k x0 z) (funext fun y0=>qd.u17.ok k y0 K))
theorem qd.ok (k:Nat) (x0:Ad) (κ:Res->M α) :
  evF T (env k) k qd.c qd.res [.ptr (some x0)] κ = qd.f (k + 1) x0 (fun v=>κ (.pan v)) (fun o0=>κ (.ret (.int .i64 o0))):=
 (qd.u18.ok k x0 (retK T qd.res κ)).trans (by kernel_rfl)
theorem qd.code:qd.c.code = zr Try.f71:=by kernel_rfl
noncomputable def qae.c:IC:=qae.u5.c
noncomputable def qae.res:List ResultVar:=[(.tmp 2)]
theorem qae.u1.ok (k:Nat) (x0:Ad) (R:IC) (K:KF α) :
  eC k (qae.u1.c R) (za [(0, .ptr (some x0))]) K =
   qae.u1.f k x0 (fun y0 y1 y2=>eC k R (za [(0, .ptr (some y0)), (3, .ptr (some y1)), (4, .int .i64 y2)]) K) (fun y0=>K .ret (fr3 y0)) (fun v=>K (.pan v) (za [])):=by kernel_rfl
theorem qae.u2.ok (k:Nat) (x0 x1:Ad) (x2:Int) (R:IC) (K:KF α) :
  eC k (qae.u2.c R) (za [(0, .ptr (some x0)), (3, .ptr (some x1)), (4, .int .i64 x2)]) K =
   qae.u2.f k x0 x1 x2 (fun y0 y1 y2=>eC k R (za [(0, .ptr (some y0)), (3, .ptr (some y1)), (4, .int .i64 y2)]) K) (fun v=>K (.pan v) (za [])):=by kernel_rfl
theorem qae.u3.ok (k:Nat) (x0 x1:Ad) (x2:Int) (K:KF α) :
  eC k qae.u3.c (za [(0, .ptr (some x0)), (3, .ptr (some x1)), (4, .int .i64 x2)]) K =
   qae.u3.f k (qai.f k) x0 x1 x2 (fun y0=>K .ret (fr3 y0)) (fun v=>K (.pan v) (za [])):=by kernel_rfl
theorem qae.u4.ok (k:Nat) (x0 x1:Ad) (x2:Int) (K:KF α) :
  eC k qae.u4.c (za [(0, .ptr (some x0)), (3, .ptr (some x1)), (4, .int .i64 x2)]) K =
   qae.u4.f k (qai.f k) x0 x1 x2 (fun y0=>K .ret (fr3 y0)) (fun v=>K (.pan v) (za [])):=
 (qae.u2.ok k x0 x1 x2 qae.u3.c K).trans
  (congrArg (fun z=>qae.u2.f k x0 x1 x2 z (fun v=>K (.pan v) (za []))) (funext fun y0=>(funext fun y1=>(funext fun y2=>qae.u3.ok k y0 y1 y2 K))))
theorem qae.u5.ok (k:Nat) (x0:Ad) (K:KF α) :
  eC k qae.u5.c (za [(0, .ptr (some x0))]) K =
   qae.u5.f k (qai.f k) x0 (fun y0=>K .ret (fr3 y0)) (fun v=>K (.pan v) (za [])):=
 (qae.u1.ok k x0 qae.u4.c K).trans
  (congrArg (fun z=>qae.u1.f k x0 z (fun y0=>K .ret (fr3 y0)) (fun v=>K (.pan v) (za []))) (funext fun y0=>(funext fun y1=>(funext fun y2=>qae.u4.ok k y0 y1 y2 K))))
theorem qae.ok (k:Nat) (x0:Ad) (κ:Res->M α) :
  evF T (env k) k qae.c qae.res [.ptr (some x0)] κ = qae.f (k + 1) x0 (fun v=>κ (.pan v)) (fun o0=>κ (.ret (.int .i64 o0))):=
 (qae.u5.ok k x0 (retK T qae.res κ)).trans (by kernel_rfl)
theorem qae.code:qae.c.code = zr Try.f78:=by kernel_rfl
noncomputable def qaf.res:List ResultVar:=[(.cell 2 22), (.cell 3 35)]
theorem qaf.sp (k:Nat) (x0:TX) (K:KF α) (Kn:Frame->M α) :
  zkf T (env k) k qaf.as (fr11 x0) K Kn = qaf.u1.f k x0 (fun y0 y1 y2=>Kn (za [(2, .ptr (some y0)), (3, .ptr (some y1)), (4, .slice y2)])) (fun y0 y1=>K .ret (za [(2, .ptr (some y0)), (3, .ptr (some y1))])):=by kernel_rfl
theorem qaf.bok (k:Nat) (y0:Ad) (y1:Ad) (y2:Sl) (K:KF α) :
  eC k qaf.u2.c (Frame.put (za [(2, .ptr (some y0)), (3, .ptr (some y1)), (4, .slice y2)]) (some 14) (.func 35 [] [.ptr (some y0), .ptr (some y1)])) K = qaf.u2.f k y0 y1 y2 (fun z0 z1=>K .ret (za [(2, .ptr (some z0)), (3, .ptr (some z1))])) (fun v=>K (.pan v) (za [])):=by kernel_rfl
theorem qaf.ret (k:Nat) (y0:Ad) (y1:Ad) (y2:Sl) (z0:Ad) (z1:Ad) (κ:Res->M α) :
  (deferB T (env k) k qaf.C.u1.c 5 [2, 3] qaf.res [.ptr (some y0), .ptr (some y1)] (za [(2, .ptr (some y0)), (3, .ptr (some y1)), (4, .slice y2)]) κ) .ret (za [(2, .ptr (some z0)), (3, .ptr (some z1))]) = qaf.C.u1.f k y0 y1 .nilIface (
 ldS (z0.add 0) fun o501=>
 ld (z1.add 0) fun o502=>
 (fun o0 o1=>κ (.ret (.tuple [.slice o0, o1]))) o501 o502):=by kernel_rfl
theorem qaf.pan (k:Nat) (y0:Ad) (y1:Ad) (y2:Sl) (v:V) (ρ:Frame) (κ:Res->M α) :
  (deferB T (env k) k qaf.C.u1.c 5 [2, 3] qaf.res [.ptr (some y0), .ptr (some y1)] (za [(2, .ptr (some y0)), (3, .ptr (some y1)), (4, .slice y2)]) κ) (.pan v) ρ = qaf.C.u1.f k y0 y1 v (
 ldS (y0.add 0) fun o501=>
 ld (y1.add 0) fun o502=>
 (fun o0 o1=>κ (.ret (.tuple [.slice o0, o1]))) o501 o502):=by kernel_rfl
theorem qaf.reta (y0:Ad) (y1:Ad) (κ:Res->M α) :
  deferA T qaf.res κ .ret (za [(2, .ptr (some y0)), (3, .ptr (some y1))]) = (
 ldS (y0.add 0) fun o501=>
 ld (y1.add 0) fun o502=>
 (fun o0 o1=>κ (.ret (.tuple [.slice o0, o1]))) o501 o502):=by kernel_rfl
theorem qaf.ok (k:Nat) (x0:TX) (κ:Res->M α) :
  zos T (env k) k qaf.as qaf.u2.c qaf.C.u1.c 35 14 5 [.tmp 2, .tmp 3] [2, 3] qaf.res [.str x0] κ = qaf.f (k + 1) x0 (fun o0 o1=>κ (.ret (.tuple [.slice o0, o1]))):=
 (qaf.sp k x0 _ _).trans (congr (congrArg (fun a b=>qaf.u1.f k x0 a b) (funext fun y0=>funext fun y1=>funext fun y2=>(qaf.bok k y0 y1 y2 _).trans (congr (congrArg (fun a b=>qaf.u2.f k y0 y1 y2 a b) (funext fun z0=>funext fun z1=>qaf.ret k y0 y1 y2 z0 z1 κ)) (funext fun v=>qaf.pan k y0 y1 y2 v _ κ)))) (funext fun y0=>funext fun y1=>qaf.reta y0 y1 κ))
noncomputable def qaz.c:IC:=qaz.u1.c
noncomputable def qaz.res:List ResultVar:=[(.tmp 2)]
theorem qaz.u1.ok (k:Nat) (x0:Sl) (K:KF α) :
  eC k qaz.u1.c (fr25 x0) K =
   qaz.u1.f k x0 (fun y0=>K .ret (fr26 y0)):=by kernel_rfl
theorem qaz.ok (k:Nat) (x0:Sl) (κ:Res->M α) :
  evF T (env k) k qaz.c qaz.res [.slice x0] κ = qaz.f (k + 1) x0 (fun o0=>κ (.ret (.slice o0))):=
 (qaz.u1.ok k x0 (retK T qaz.res κ)).trans (by kernel_rfl)
theorem qaz.code:qaz.c.code = zr Try.f45:=by kernel_rfl
noncomputable def qz.c:IC:=qz.u9.c
noncomputable def qz.res:List ResultVar:=[(.tmp 6)]
theorem qz.u1.ok (k:Nat) (x0:TX) (x1 x2:Int) (R:IC) (K:KF α) :
  eC k (qz.u1.c R) (fr27 x0 x1 x2) K =
   qz.u1.f k x0 x1 x2 (fun y0=>eC k R (fr11 y0) K) (fun y0=>K .ret (fr28 y0)):=by kernel_rfl
theorem qz.u2.ok (k:Nat) (x0:TX) (R:IC) (K:KF α) :
  eC k (qz.u2.c R) (fr11 x0) K =
   qz.u2.f k x0 (fun y0 y1 y2=>eC k R (fr29 y0 y1 y2) K):=by kernel_rfl
theorem qz.u3.ok (k:Nat) (x0:TX) (x1 x2:Int) (K:KF α) :
  eC k qz.u3.c (fr29 x0 x1 x2) K =
   qz.u3.f k x0 x1 x2 (fun y0 y1 y2=>K .normal (fr29 y0 y1 y2)) (fun y0=>K .ret (fr28 y0)) (K (.exit 0) (za [])):=by kernel_rfl
theorem qz.u4.ls (k:Nat) (kr:Bool->M α) (kx0:M α) (j:Nat) (x0:TX) (x1 x2:Int):qz.u4.l k kr kx0 (j + 1) x0 x1 x2 =
 qz.u3.f k x0 x1 x2 (fun y0 y1 y2=>qz.u4.l k kr kx0 j y0 y1 y2) kr kx0:=rfl
theorem qz.u4.okl (k:Nat) (K:KF α):∀ (j:Nat) (x0:TX) (x1 x2:Int),
  zy (eC k qz.u3.c) [0, 30, 31] j (fr29 x0 x1 x2) K = qz.u4.l k (fun y0=>K .ret (fr28 y0)) (K (.exit 0) (za [])) j x0 x1 x2
 | 0, _, _, _=>rfl
 | j + 1, x0, x1, x2=>by
   have h:=qz.u3.ok k x0 x1 x2 (seqK (fun ρ=>zy (eC k qz.u3.c) [0, 30, 31] j ρ K) K)
   simp only [zh, zm, zn, ze, qz.u4.okl k K j] at h
   exact (zz (by kernel_rfl) h).trans (qz.u4.ls k (fun y0=>K .ret (fr28 y0)) (K (.exit 0) (za [])) j x0 x1 x2).symm
theorem qz.u4.ok (k:Nat) (x0:TX) (x1 x2:Int) (K:KF α) :
  eC k qz.u4.c (fr29 x0 x1 x2) K =
   qz.u4.f k x0 x1 x2 (fun y0=>K .ret (fr28 y0)) (K (.exit 0) (za [])):=
 jr.trans <| (ja (body:=eC k qz.u3.c) (keep:=[0, 30, 31]) (ρ:=(fr29 x0 x1 x2)) (ρ':=(fr29 x0 x1 x2)) (by kernel_rfl) k K).trans (qz.u4.okl k K k x0 x1 x2)
theorem qz.u5.ok (k:Nat) (x0:TX) (x1 x2:Int) (K:KF α) :
  eC k qz.u5.c (fr29 x0 x1 x2) K =
   qz.u5.f k x0 x1 x2 (K .normal (za [])) (fun y0=>K .ret (fr28 y0)):=
 (zx.trans (qz.u4.ok k x0 x1 x2 (js 0 K))).trans (by kernel_rfl)
theorem qz.u6.ok (k:Nat) (x0:TX) (K:KF α) :
  eC k qz.u6.c (fr11 x0) K =
   qz.u6.f k x0 (K .normal (za [])) (fun y0=>K .ret (fr28 y0)):=
 (qz.u2.ok k x0 qz.u5.c K).trans
  (congrArg (fun z=>qz.u2.f k x0 z) (funext fun y0=>(funext fun y1=>(funext fun y2=>qz.u5.ok k y0 y1 y2 K))))
theorem qz.u7.ok (k:Nat) (K:KF α) :
  eC k qz.u7.c (za []) K =
   qz.u7.f k (fun y0=>K .ret (fr28 y0)):=by kernel_rfl
theorem qz.u8.ok (k:Nat) (x0:TX) (K:KF α) :
  eC k qz.u8.c (fr11 x0) K =
   qz.u8.f k x0 (fun y0=>K .ret (fr28 y0)):=
 by
  have h:=qz.u6.ok k x0 (seqK (fun ρ=>eC k qz.u7.c ρ K) K)
  simp only [ze, zh, zm, zn, qz.u7.ok] at h
  exact zt h
theorem qz.u9.ok (k:Nat) (x0:TX) (x1 x2:Int) (K:KF α) :
  eC k qz.u9.c (fr27 x0 x1 x2) K =
   qz.u9.f k x0 x1 x2 (fun y0=>K .ret (fr28 y0)):=
 (qz.u1.ok k x0 x1 x2 qz.u8.c K).trans
  (congrArg (fun z=>qz.u1.f k x0 x1 x2 z (fun y0=>K .ret (fr28 y0))) (funext fun y0=>qz.u8.ok k y0 K))
theorem qz.ok (k:Nat) (x0:TX) (x1 x2:Int) (κ:Res->M α) :
  evF T (env k) k qz.c qz.res [.str x0, .int .u8 x1, .int .u8 x2] κ = qz.f (k + 1) x0 x1 x2 (fun o0=>κ (.ret (.bool o0))):=
 (qz.u9.ok k x0 x1 x2 (retK T qz.res κ)).trans (by kernel_rfl)
theorem qz.code:qz.c.code = zr Try.f62:=by kernel_rfl
noncomputable def qax.c:IC:=qax.u1.c
noncomputable def qax.res:List ResultVar:=[(.tmp 2)]
theorem qax.u1.ok (k:Nat) (x0:TX) (K:KF α) :
  eC k qax.u1.c (fr11 x0) K =
   qax.u1.f k x0 (fun y0=>K .ret (fr18 y0)):=by kernel_rfl
theorem qax.ok (k:Nat) (x0:TX) (κ:Res->M α) :
  evF T (env k) k qax.c qax.res [.str x0] κ = qax.f (k + 1) x0 (fun o0=>κ (.ret (.bool o0))):=
 (qax.u1.ok k x0 (retK T qax.res κ)).trans (by kernel_rfl)
theorem qax.code:qax.c.code = zr Try.f47:=by kernel_rfl
noncomputable def qam.c:IC:=qam.u1.c
noncomputable def qam.res:List ResultVar:=[(.tmp 2)]
theorem qam.u1.ok (k:Nat) (x0:TX) (K:KF α) :
  eC k qam.u1.c (fr11 x0) K =
   qam.u1.f k x0 (fun y0=>K .ret (fr18 y0)):=by kernel_rfl
theorem qam.ok (k:Nat) (x0:TX) (κ:Res->M α) :
  evF T (env k) k qam.c qam.res [.str x0] κ = qam.f (k + 1) x0 (fun o0=>κ (.ret (.bool o0))):=
 (qam.u1.ok k x0 (retK T qam.res κ)).trans (by kernel_rfl)
theorem qam.code:qam.c.code = zr Try.f48:=by kernel_rfl
noncomputable def qbl.c:IC:=qbl.u1.c
noncomputable def qbl.res:List ResultVar:=[(.tmp 2), (.tmp 3)]
theorem qbl.u1.ok (k:Nat) (x0 x1 x2:Int) (x3:TX) (x4:Int) (K:KF α) :
  eC k qbl.u1.c (za [(0, .agg [.int .i64 x0, .int .i64 x1, .int .i64 x2, .str x3, .int .i64 x4])]) K =
   qbl.u1.f k x0 x1 x2 x3 x4 (fun y0 y1=>K .ret (fr12 y0 y1)):=by kernel_rfl
theorem qbl.ok (k:Nat) (x0 x1 x2:Int) (x3:TX) (x4:Int) (κ:Res->M α) :
  evF T (env k) k qbl.c qbl.res [.agg [.int .i64 x0, .int .i64 x1, .int .i64 x2, .str x3, .int .i64 x4]] κ = qbl.f (k + 1) x0 x1 x2 x3 x4 (fun o0 o1=>κ (.ret (.tuple [.int .i64 o0, .bool o1]))):=
 (qbl.u1.ok k x0 x1 x2 x3 x4 (retK T qbl.res κ)).trans (by kernel_rfl)
theorem qbl.code:qbl.c.code = zr Try.f30:=by kernel_rfl
noncomputable def qbs.c:IC:=qbs.u1.c
noncomputable def qbs.res:List ResultVar:=[(.tmp 2)]
theorem qbs.u1.ok (k:Nat) (x0:Int) (K:KF α) :
  eC k qbs.u1.c (fr30 x0) K =
   qbs.u1.f k x0 (fun y0=>K .ret (fr18 y0)):=by kernel_rfl
theorem qbs.ok (k:Nat) (x0:Int) (κ:Res->M α) :
  evF T (env k) k qbs.c qbs.res [.int .i64 x0] κ = qbs.f (k + 1) x0 (fun o0=>κ (.ret (.bool o0))):=
 (qbs.u1.ok k x0 (retK T qbs.res κ)).trans (by kernel_rfl)
theorem qbs.code:qbs.c.code = zr Try.f32:=by kernel_rfl
noncomputable def qaa.c:IC:=qaa.u9.c
noncomputable def qaa.res:List ResultVar:=[(.tmp 4)]
theorem qaa.u1.ok (k:Nat) (x0:Sl) (R:IC) (K:KF α) :
  eC k (qaa.u1.c R) (za [(0, .slice x0), (1, .func 32 [] [])]) K =
   qaa.u1.f k x0 (fun y0=>eC k R (za [(0, .slice y0), (1, .func 32 [] [])]) K):=by kernel_rfl
theorem qaa.u2.ok (k:Nat) (x0:Sl) (R:IC) (K:KF α) :
  eC k (qaa.u2.c R) (za [(0, .slice x0), (1, .func 32 [] [])]) K =
   qaa.u2.f k x0 (fun y0 y1 y2=>eC k R (za [(0, .slice y0), (1, .func 32 [] []), (7, .int .i64 y1), (8, .int .i64 y2)]) K):=by kernel_rfl
theorem qaa.u3.ok (k:Nat) (x0:Sl) (x1 x2:Int) (K:KF α) :
  eC k qaa.u3.c (za [(0, .slice x0), (1, .func 32 [] []), (7, .int .i64 x1), (8, .int .i64 x2)]) K =
   qaa.u3.f k x0 x1 x2 (fun y0 y1 y2=>K .normal (za [(0, .slice y0), (1, .func 32 [] []), (7, .int .i64 y1), (8, .int .i64 y2)])) (fun y0=>K .ret (fr1 y0)) (K (.exit 0) (za [])):=by kernel_rfl
theorem qaa.u4.ls (k:Nat) (kr:Int->M α) (kx0:M α) (j:Nat) (x0:Sl) (x1 x2:Int):qaa.u4.l k kr kx0 (j + 1) x0 x1 x2 =
 qaa.u3.f k x0 x1 x2 (fun y0 y1 y2=>qaa.u4.l k kr kx0 j y0 y1 y2) kr kx0:=rfl
theorem qaa.u4.okl (k:Nat) (K:KF α):∀ (j:Nat) (x0:Sl) (x1 x2:Int),
  zy (eC k qaa.u3.c) [0, 1, 7, 8] j (za [(0, .slice x0), (1, .func 32 [] []), (7, .int .i64 x1), (8, .int .i64 x2)]) K = qaa.u4.l k (fun y0=>K .ret (fr1 y0)) (K (.exit 0) (za [])) j x0 x1 x2
 | 0, _, _, _=>rfl
 | j + 1, x0, x1, x2=>by
   have h:=qaa.u3.ok k x0 x1 x2 (seqK (fun ρ=>zy (eC k qaa.u3.c) [0, 1, 7, 8] j ρ K) K)
   simp only [zh, zm, zn, ze, qaa.u4.okl k K j] at h
   exact (zz (by kernel_rfl) h).trans (qaa.u4.ls k (fun y0=>K .ret (fr1 y0)) (K (.exit 0) (za [])) j x0 x1 x2).symm
theorem qaa.u4.ok (k:Nat) (x0:Sl) (x1 x2:Int) (K:KF α) :
  eC k qaa.u4.c (za [(0, .slice x0), (1, .func 32 [] []), (7, .int .i64 x1), (8, .int .i64 x2)]) K =
   qaa.u4.f k x0 x1 x2 (fun y0=>K .ret (fr1 y0)) (K (.exit 0) (za [])):=
 jr.trans <| (ja (body:=eC k qaa.u3.c) (keep:=[0, 1, 7, 8]) (ρ:=(za [(0, .slice x0), (1, .func 32 [] []), (7, .int .i64 x1), (8, .int .i64 x2)])) (ρ':=(za [(0, .slice x0), (1, .func 32 [] []), (7, .int .i64 x1), (8, .int .i64 x2)])) (by kernel_rfl) k K).trans (qaa.u4.okl k K k x0 x1 x2)
theorem qaa.u5.ok (k:Nat) (x0:Sl) (x1 x2:Int) (K:KF α) :
  eC k qaa.u5.c (za [(0, .slice x0), (1, .func 32 [] []), (7, .int .i64 x1), (8, .int .i64 x2)]) K =
   qaa.u5.f k x0 x1 x2 (K .normal (za [])) (fun y0=>K .ret (fr1 y0)):=
 (zx.trans (qaa.u4.ok k x0 x1 x2 (js 0 K))).trans (by kernel_rfl)
theorem qaa.u6.ok (k:Nat) (x0:Sl) (K:KF α) :
  eC k qaa.u6.c (za [(0, .slice x0), (1, .func 32 [] [])]) K =
   qaa.u6.f k x0 (K .normal (za [])) (fun y0=>K .ret (fr1 y0)):=
 (qaa.u2.ok k x0 qaa.u5.c K).trans
  (congrArg (fun z=>qaa.u2.f k x0 z) (funext fun y0=>(funext fun y1=>(funext fun y2=>qaa.u5.ok k y0 y1 y2 K))))
theorem qaa.u7.ok (k:Nat) (K:KF α) :
  eC k qaa.u7.c (za []) K =
   qaa.u7.f k (fun y0=>K .ret (fr1 y0)):=by kernel_rfl
theorem qaa.u8.ok (k:Nat) (x0:Sl) (K:KF α) :
  eC k qaa.u8.c (za [(0, .slice x0), (1, .func 32 [] [])]) K =
   qaa.u8.f k x0 (fun y0=>K .ret (fr1 y0)):=
 by
  have h:=qaa.u6.ok k x0 (seqK (fun ρ=>eC k qaa.u7.c ρ K) K)
  simp only [ze, zh, zm, zn, qaa.u7.ok] at h
  exact zt h
theorem qaa.u9.ok (k:Nat) (x0:Sl) (K:KF α) :
  eC k qaa.u9.c (za [(0, .slice x0), (1, .func 32 [] [])]) K =
   qaa.u9.f k x0 (fun y0=>K .ret (fr1 y0)):=
 (qaa.u1.ok k x0 qaa.u8.c K).trans
  (congrArg (fun z=>qaa.u1.f k x0 z) (funext fun y0=>qaa.u8.ok k y0 K))
theorem qaa.ok (k:Nat) (x0:Sl) (κ:Res->M α) :
  evF T (env k) k qaa.c qaa.res [.slice x0, .func 32 [] []] κ = qaa.f (k + 1) x0 (fun o0=>κ (.ret (.int .i64 o0))):=
 (qaa.u9.ok k x0 (retK T qaa.res κ)).trans (by kernel_rfl)
theorem qaa.code:qaa.c.code = zr Try.f49:=by kernel_rfl
noncomputable def qbm.c:IC:=qbm.u1.c
noncomputable def qbm.res:List ResultVar:=[(.tmp 4)]
theorem qbm.u1.ok (k:Nat) (x0:Sl) (K:KF α) :
  eC k qbm.u1.c (za [(0, .slice x0), (1, .func 32 [] [])]) K =
   qbm.u1.f k x0 (fun y0=>K .ret (fr21 y0)):=by kernel_rfl
theorem qbm.ok (k:Nat) (x0:Sl) (κ:Res->M α) :
  evF T (env k) k qbm.c qbm.res [.slice x0, .func 32 [] []] κ = qbm.f (k + 1) x0 (fun o0=>κ (.ret (.bool o0))):=
 (qbm.u1.ok k x0 (retK T qbm.res κ)).trans (by kernel_rfl)
theorem qbm.code:qbm.c.code = zr Try.f31:=by kernel_rfl
noncomputable def qy.c:IC:=qy.u9.c
noncomputable def qy.res:List ResultVar:=[(.tmp 4)]
theorem qy.u1.ok (k:Nat) (x0 x1:Sl) (R:IC) (K:KF α) :
  eC k (qy.u1.c R) (fr31 x0 x1) K =
   qy.u1.f k x0 x1 (fun y0 y1=>eC k R (fr31 y0 y1) K) (fun y0=>K .ret (fr21 y0)):=by kernel_rfl
theorem qy.u2.ok (k:Nat) (x0 x1:Sl) (R:IC) (K:KF α) :
  eC k (qy.u2.c R) (fr31 x0 x1) K =
   qy.u2.f k x0 x1 (fun y0 y1 y2 y3=>eC k R (fr32 y0 y1 y2 y3) K):=by kernel_rfl
theorem qy.u3.ok (k:Nat) (x0 x1:Sl) (x2 x3:Int) (K:KF α) :
  eC k qy.u3.c (fr32 x0 x1 x2 x3) K =
   qy.u3.f k x0 x1 x2 x3 (fun y0 y1 y2 y3=>K .normal (fr32 y0 y1 y2 y3)) (fun y0=>K .ret (fr21 y0)) (K (.exit 0) (za [])):=by kernel_rfl
theorem qy.u4.ls (k:Nat) (kr:Bool->M α) (kx0:M α) (j:Nat) (x0 x1:Sl) (x2 x3:Int):qy.u4.l k kr kx0 (j + 1) x0 x1 x2 x3 =
 qy.u3.f k x0 x1 x2 x3 (fun y0 y1 y2 y3=>qy.u4.l k kr kx0 j y0 y1 y2 y3) kr kx0:=rfl
theorem qy.u4.okl (k:Nat) (K:KF α):∀ (j:Nat) (x0 x1:Sl) (x2 x3:Int),
  zy (eC k qy.u3.c) [0, 1, 12, 13] j (fr32 x0 x1 x2 x3) K = qy.u4.l k (fun y0=>K .ret (fr21 y0)) (K (.exit 0) (za [])) j x0 x1 x2 x3
 | 0, _, _, _, _=>rfl
 | j + 1, x0, x1, x2, x3=>by
   have h:=qy.u3.ok k x0 x1 x2 x3 (seqK (fun ρ=>zy (eC k qy.u3.c) [0, 1, 12, 13] j ρ K) K)
   simp only [zh, zm, zn, ze, qy.u4.okl k K j] at h
   exact (zz (by kernel_rfl) h).trans (qy.u4.ls k (fun y0=>K .ret (fr21 y0)) (K (.exit 0) (za [])) j x0 x1 x2 x3).symm
theorem qy.u4.ok (k:Nat) (x0 x1:Sl) (x2 x3:Int) (K:KF α) :
  eC k qy.u4.c (fr32 x0 x1 x2 x3) K =
   qy.u4.f k x0 x1 x2 x3 (fun y0=>K .ret (fr21 y0)) (K (.exit 0) (za [])):=
 jr.trans <| (ja (body:=eC k qy.u3.c) (keep:=[0, 1, 12, 13]) (ρ:=(fr32 x0 x1 x2 x3)) (ρ':=(fr32 x0 x1 x2 x3)) (by kernel_rfl) k K).trans (qy.u4.okl k K k x0 x1 x2 x3)
theorem qy.u5.ok (k:Nat) (x0 x1:Sl) (x2 x3:Int) (K:KF α) :
  eC k qy.u5.c (fr32 x0 x1 x2 x3) K =
   qy.u5.f k x0 x1 x2 x3 (K .normal (za [])) (fun y0=>K .ret (fr21 y0)):=
 (zx.trans (qy.u4.ok k x0 x1 x2 x3 (js 0 K))).trans (by kernel_rfl)
theorem qy.u6.ok (k:Nat) (x0 x1:Sl) (K:KF α) :
  eC k qy.u6.c (fr31 x0 x1) K =
   qy.u6.f k x0 x1 (K .normal (za [])) (fun y0=>K .ret (fr21 y0)):=
 (qy.u2.ok k x0 x1 qy.u5.c K).trans
  (congrArg (fun z=>qy.u2.f k x0 x1 z) (funext fun y0=>(funext fun y1=>(funext fun y2=>(funext fun y3=>qy.u5.ok k y0 y1 y2 y3 K)))))
theorem qy.u7.ok (k:Nat) (K:KF α) :
  eC k qy.u7.c (za []) K =
   qy.u7.f k (fun y0=>K .ret (fr21 y0)):=by kernel_rfl
theorem qy.u8.ok (k:Nat) (x0 x1:Sl) (K:KF α) :
  eC k qy.u8.c (fr31 x0 x1) K =
   qy.u8.f k x0 x1 (fun y0=>K .ret (fr21 y0)):=
 by
  have h:=qy.u6.ok k x0 x1 (seqK (fun ρ=>eC k qy.u7.c ρ K) K)
  simp only [ze, zh, zm, zn, qy.u7.ok] at h
  exact zt h
theorem qy.u9.ok (k:Nat) (x0 x1:Sl) (K:KF α) :
  eC k qy.u9.c (fr31 x0 x1) K =
   qy.u9.f k x0 x1 (fun y0=>K .ret (fr21 y0)):=
 (qy.u1.ok k x0 x1 qy.u8.c K).trans
  (congrArg (fun z=>qy.u1.f k x0 x1 z (fun y0=>K .ret (fr21 y0))) (funext fun y0=>(funext fun y1=>qy.u8.ok k y0 y1 K)))
theorem qy.ok (k:Nat) (x0 x1:Sl) (κ:Res->M α) :
  evF T (env k) k qy.c qy.res [.slice x0, .slice x1] κ = qy.f (k + 1) x0 x1 (fun o0=>κ (.ret (.bool o0))):=
 (qy.u9.ok k x0 x1 (retK T qy.res κ)).trans (by kernel_rfl)
theorem qy.code:qy.c.code = zr Try.f33:=by kernel_rfl
noncomputable def qm.c:IC:=qm.u9.c
noncomputable def qm.res:List ResultVar:=[(.tmp 2)]
theorem qm.u1.ok (k:Nat) (x0:Sl) (R:IC) (K:KF α) :
  eC k (qm.u1.c R) (fr25 x0) K =
   qm.u1.f k x0 (fun y0 y1=>eC k R (fr33 y0 y1) K) (fun y0=>K .ret (fr18 y0)):=by kernel_rfl
theorem qm.u2.ok (k:Nat) (x0 x1:Sl) (R:IC) (K:KF α) :
  eC k (qm.u2.c R) (fr33 x0 x1) K =
   qm.u2.f k x0 x1 (fun y0 y1 y2 y3=>eC k R (fr34 y0 y1 y2 y3) K):=by kernel_rfl
theorem qm.u3.ok (k:Nat) (x0 x1:Sl) (x2 x3:Int) (K:KF α) :
  eC k qm.u3.c (fr34 x0 x1 x2 x3) K =
   qm.u3.f k x0 x1 x2 x3 (fun y0 y1 y2 y3=>K .normal (fr34 y0 y1 y2 y3)) (fun y0=>K .ret (fr18 y0)) (fun y0=>K (.exit 0) (fr35 y0)):=by kernel_rfl
theorem qm.u4.ls (k:Nat) (kr:Bool->M α) (kx0:Sl->M α) (j:Nat) (x0 x1:Sl) (x2 x3:Int):qm.u4.l k kr kx0 (j + 1) x0 x1 x2 x3 =
 qm.u3.f k x0 x1 x2 x3 (fun y0 y1 y2 y3=>qm.u4.l k kr kx0 j y0 y1 y2 y3) kr kx0:=rfl
theorem qm.u4.okl (k:Nat) (K:KF α):∀ (j:Nat) (x0 x1:Sl) (x2 x3:Int),
  zy (eC k qm.u3.c) [3, 17, 18, 19] j (fr34 x0 x1 x2 x3) K = qm.u4.l k (fun y0=>K .ret (fr18 y0)) (fun y0=>K (.exit 0) (fr35 y0)) j x0 x1 x2 x3
 | 0, _, _, _, _=>rfl
 | j + 1, x0, x1, x2, x3=>by
   have h:=qm.u3.ok k x0 x1 x2 x3 (seqK (fun ρ=>zy (eC k qm.u3.c) [3, 17, 18, 19] j ρ K) K)
   simp only [zh, zm, zn, ze, qm.u4.okl k K j] at h
   exact (zz (by kernel_rfl) h).trans (qm.u4.ls k (fun y0=>K .ret (fr18 y0)) (fun y0=>K (.exit 0) (fr35 y0)) j x0 x1 x2 x3).symm
theorem qm.u4.ok (k:Nat) (x0 x1:Sl) (x2 x3:Int) (K:KF α) :
  eC k qm.u4.c (fr34 x0 x1 x2 x3) K =
   qm.u4.f k x0 x1 x2 x3 (fun y0=>K .ret (fr18 y0)) (fun y0=>K (.exit 0) (fr35 y0)):=
 jr.trans <| (ja (body:=eC k qm.u3.c) (keep:=[3, 17, 18, 19]) (ρ:=(fr34 x0 x1 x2 x3)) (ρ':=(fr34 x0 x1 x2 x3)) (by kernel_rfl) k K).trans (qm.u4.okl k K k x0 x1 x2 x3)
theorem qm.u5.ok (k:Nat) (x0 x1:Sl) (x2 x3:Int) (K:KF α) :
  eC k qm.u5.c (fr34 x0 x1 x2 x3) K =
   qm.u5.f k x0 x1 x2 x3 (fun y0=>K .normal (fr35 y0)) (fun y0=>K .ret (fr18 y0)):=
 (zx.trans (qm.u4.ok k x0 x1 x2 x3 (js 0 K))).trans (by kernel_rfl)
theorem qm.u6.ok (k:Nat) (x0 x1:Sl) (K:KF α) :
  eC k qm.u6.c (fr33 x0 x1) K =
   qm.u6.f k x0 x1 (fun y0=>K .normal (fr35 y0)) (fun y0=>K .ret (fr18 y0)):=
 (qm.u2.ok k x0 x1 qm.u5.c K).trans
  (congrArg (fun z=>qm.u2.f k x0 x1 z) (funext fun y0=>(funext fun y1=>(funext fun y2=>(funext fun y3=>qm.u5.ok k y0 y1 y2 y3 K)))))
theorem qm.u7.ok (k:Nat) (x0:Sl) (K:KF α) :
  eC k qm.u7.c (fr35 x0) K =
   qm.u7.f k x0 (fun y0=>K .ret (fr18 y0)):=by kernel_rfl
theorem qm.u8.ok (k:Nat) (x0 x1:Sl) (K:KF α) :
  eC k qm.u8.c (fr33 x0 x1) K =
   qm.u8.f k x0 x1 (fun y0=>K .ret (fr18 y0)):=
 by
  have h:=qm.u6.ok k x0 x1 (seqK (fun ρ=>eC k qm.u7.c ρ K) K)
  simp only [ze, zh, zm, zn, qm.u7.ok] at h
  exact zt h
theorem qm.u9.ok (k:Nat) (x0:Sl) (K:KF α) :
  eC k qm.u9.c (fr25 x0) K =
   qm.u9.f k x0 (fun y0=>K .ret (fr18 y0)):=
 (qm.u1.ok k x0 qm.u8.c K).trans
  (congrArg (fun z=>qm.u1.f k x0 z (fun y0=>K .ret (fr18 y0))) (funext fun y0=>(funext fun y1=>qm.u8.ok k y0 y1 K)))
theorem qm.ok (k:Nat) (x0:Sl) (κ:Res->M α) :
  evF T (env k) k qm.c qm.res [.slice x0] κ = qm.f (k + 1) x0 (fun o0=>κ (.ret (.bool o0))):=
 (qm.u9.ok k x0 (retK T qm.res κ)).trans (by kernel_rfl)
theorem qm.code:qm.c.code = zr Try.f20:=by kernel_rfl
noncomputable def qs.c:IC:=qs.u9.c
noncomputable def qs.res:List ResultVar:=[(.cell 4 89), (.tmp 5)]
theorem qs.u1.ok (k:Nat) (x0:Ad) (x1:TX) (R:IC) (K:KF α) :
  eC k (qs.u1.c R) (za [(0, .ptr (some x0)), (1, .str x1)]) K =
   qs.u1.f k x0 x1 (fun y0 y1 y2=>eC k R (za [(0, .ptr (some y0)), (1, .str y1), (4, .ptr (some y2))]) K):=by kernel_rfl
theorem qs.u2.ok (k:Nat) (x0:Ad) (x1:TX) (x2:Ad) (R:IC) (K:KF α) :
  eC k (qs.u2.c R) (za [(0, .ptr (some x0)), (1, .str x1), (4, .ptr (some x2))]) K =
   qs.u2.f k x0 x1 x2 (fun y0 y1 y2 y3=>eC k R (za [(0, .ptr (some y0)), (1, .str y1), (4, .ptr (some y2)), (6, .int .i64 y3)]) K):=by kernel_rfl
theorem qs.u3.ok (k:Nat) (x0:Ad) (x1:TX) (x2:Ad) (x3:Int) (K:KF α) :
  eC k qs.u3.c (za [(0, .ptr (some x0)), (1, .str x1), (4, .ptr (some x2)), (6, .int .i64 x3)]) K =
   qs.u3.f k x0 x1 x2 x3 (fun y0 y1 y2 y3=>K .normal (za [(0, .ptr (some y0)), (1, .str y1), (4, .ptr (some y2)), (6, .int .i64 y3)])) (fun y0 y1=>K .ret (za [(4, .ptr (some y0)), (5, .bool y1)])) (fun y0=>K (.exit 0) (za [(4, .ptr (some y0))])):=by kernel_rfl
theorem qs.u4.ls (k:Nat) (kr:Ad->Bool->M α) (kx0:Ad->M α) (j:Nat) (x0:Ad) (x1:TX) (x2:Ad) (x3:Int):qs.u4.l k kr kx0 (j + 1) x0 x1 x2 x3 =
 qs.u3.f k x0 x1 x2 x3 (fun y0 y1 y2 y3=>qs.u4.l k kr kx0 j y0 y1 y2 y3) kr kx0:=rfl
theorem qs.u4.okl (k:Nat) (K:KF α):∀ (j:Nat) (x0:Ad) (x1:TX) (x2:Ad) (x3:Int),
  zy (eC k qs.u3.c) [0, 1, 4, 6] j (za [(0, .ptr (some x0)), (1, .str x1), (4, .ptr (some x2)), (6, .int .i64 x3)]) K = qs.u4.l k (fun y0 y1=>K .ret (za [(4, .ptr (some y0)), (5, .bool y1)])) (fun y0=>K (.exit 0) (za [(4, .ptr (some y0))])) j x0 x1 x2 x3
 | 0, _, _, _, _=>rfl
 | j + 1, x0, x1, x2, x3=>by
   have h:=qs.u3.ok k x0 x1 x2 x3 (seqK (fun ρ=>zy (eC k qs.u3.c) [0, 1, 4, 6] j ρ K) K)
   simp only [zh, zm, zn, ze, qs.u4.okl k K j] at h
   exact (zz (by kernel_rfl) h).trans (qs.u4.ls k (fun y0 y1=>K .ret (za [(4, .ptr (some y0)), (5, .bool y1)])) (fun y0=>K (.exit 0) (za [(4, .ptr (some y0))])) j x0 x1 x2 x3).symm
theorem qs.u4.ok (k:Nat) (x0:Ad) (x1:TX) (x2:Ad) (x3:Int) (K:KF α) :
  eC k qs.u4.c (za [(0, .ptr (some x0)), (1, .str x1), (4, .ptr (some x2)), (6, .int .i64 x3)]) K =
   qs.u4.f k x0 x1 x2 x3 (fun y0 y1=>K .ret (za [(4, .ptr (some y0)), (5, .bool y1)])) (fun y0=>K (.exit 0) (za [(4, .ptr (some y0))])):=
 jr.trans <| (ja (body:=eC k qs.u3.c) (keep:=[0, 1, 4, 6]) (ρ:=(za [(0, .ptr (some x0)), (1, .str x1), (4, .ptr (some x2)), (6, .int .i64 x3)])) (ρ':=(za [(0, .ptr (some x0)), (1, .str x1), (4, .ptr (some x2)), (6, .int .i64 x3)])) (by kernel_rfl) k K).trans (qs.u4.okl k K k x0 x1 x2 x3)
theorem qs.u5.ok (k:Nat) (x0:Ad) (x1:TX) (x2:Ad) (x3:Int) (K:KF α) :
  eC k qs.u5.c (za [(0, .ptr (some x0)), (1, .str x1), (4, .ptr (some x2)), (6, .int .i64 x3)]) K =
   qs.u5.f k x0 x1 x2 x3 (fun y0=>K .normal (za [(4, .ptr (some y0))])) (fun y0 y1=>K .ret (za [(4, .ptr (some y0)), (5, .bool y1)])):=
 (zx.trans (qs.u4.ok k x0 x1 x2 x3 (js 0 K))).trans (by kernel_rfl)
theorem qs.u6.ok (k:Nat) (x0:Ad) (x1:TX) (x2:Ad) (K:KF α) :
  eC k qs.u6.c (za [(0, .ptr (some x0)), (1, .str x1), (4, .ptr (some x2))]) K =
   qs.u6.f k x0 x1 x2 (fun y0=>K .normal (za [(4, .ptr (some y0))])) (fun y0 y1=>K .ret (za [(4, .ptr (some y0)), (5, .bool y1)])):=
 (qs.u2.ok k x0 x1 x2 qs.u5.c K).trans
  (congrArg (fun z=>qs.u2.f k x0 x1 x2 z) (funext fun y0=>(funext fun y1=>(funext fun y2=>(funext fun y3=>qs.u5.ok k y0 y1 y2 y3 K)))))
theorem qs.u7.ok (k:Nat) (x0:Ad) (K:KF α) :
  eC k qs.u7.c (za [(4, .ptr (some x0))]) K =
   qs.u7.f k x0 (fun y0 y1=>K .ret (za [(4, .ptr (some y0)), (5, .bool y1)])):=by kernel_rfl
theorem qs.u8.ok (k:Nat) (x0:Ad) (x1:TX) (x2:Ad) (K:KF α) :
  eC k qs.u8.c (za [(0, .ptr (some x0)), (1, .str x1), (4, .ptr (some x2))]) K =
   qs.u8.f k x0 x1 x2 (fun y0 y1=>K .ret (za [(4, .ptr (some y0)), (5, .bool y1)])):=
 by
  have h:=qs.u6.ok k x0 x1 x2 (seqK (fun ρ=>eC k qs.u7.c ρ K) K)
  simp only [ze, zh, zm, zn, qs.u7.ok] at h
  exact zt h
theorem qs.u9.ok (k:Nat) (x0:Ad) (x1:TX) (K:KF α) :
  eC k qs.u9.c (za [(0, .ptr (some x0)), (1, .str x1)]) K =
   qs.u9.f k x0 x1 (fun y0 y1=>K .ret (za [(4, .ptr (some y0)), (5, .bool y1)])):=
 (qs.u1.ok k x0 x1 qs.u8.c K).trans
  (congrArg (fun z=>qs.u1.f k x0 x1 z) (funext fun y0=>(funext fun y1=>(funext fun y2=>qs.u8.ok k y0 y1 y2 K))))
theorem qs.ok (k:Nat) (x0:Ad) (x1:TX) (κ:Res->M α) :
  evF T (env k) k qs.c qs.res [.ptr (some x0), .str x1] κ = qs.f (k + 1) x0 x1 (fun o0 o1 o2=>κ (.ret (.tuple [.agg [.int .i64 o0, .int .i64 o1], .bool o2]))):=
 (qs.u9.ok k x0 x1 (retK T qs.res κ)).trans (by kernel_rfl)
theorem qs.code:qs.c.code = zr Try.f61:=by kernel_rfl
noncomputable def qb.c:IC:=qb.u22.c
noncomputable def qb.res:List ResultVar:=[]
theorem qb.u1.ok (k:Nat) (x0:Ad) (x1:Int) (R:IC) (K:KF α) :
  eC k (qb.u1.c R) (za [(0, .ptr (some x0)), (1, .int .i64 x1)]) K =
   qb.u1.f k x0 x1 (fun y0 y1 y2 y3=>eC k R (za [(0, .ptr (some y0)), (1, .int .i64 y1), (4, .ptr (some y2)), (15, .int .i64 y3)]) K):=by kernel_rfl
theorem qb.u2.ok (k:Nat) (x0:Ad) (x1:Int) (x2:Ad) (x3:Int) (R:IC) (K:KF α) :
  eC k (qb.u2.c R) (za [(0, .ptr (some x0)), (1, .int .i64 x1), (4, .ptr (some x2)), (15, .int .i64 x3)]) K =
   qb.u2.f k x0 x1 x2 x3 (fun y0 y1 y2 y3 y4=>eC k R (za [(0, .ptr (some y0)), (1, .int .i64 y1), (4, .ptr (some y2)), (15, .int .i64 y3), (16, .bool y4)]) K):=by kernel_rfl
theorem qb.u3.ok (k:Nat) (x0:Ad) (x1:Int) (x2:Ad) (x3:Int) (x4:Bool) (K:KF α) :
  eC k qb.u3.c (za [(0, .ptr (some x0)), (1, .int .i64 x1), (4, .ptr (some x2)), (15, .int .i64 x3), (16, .bool x4)]) K =
   qb.u3.f k x0 x1 x2 x3 x4 (K .normal (za [])):=by kernel_rfl
theorem qb.u4.ok (k:Nat) (x0:Ad) (x1:Int) (x2:Ad) (x3:Int) (x4:Bool) (R:IC) (K:KF α) :
  eC k (qb.u4.c R) (za [(0, .ptr (some x0)), (1, .int .i64 x1), (4, .ptr (some x2)), (15, .int .i64 x3), (16, .bool x4)]) K =
   qb.u4.f k x0 x1 x2 x3 x4 (fun y0 y1 y2 y3 y4=>eC k R (za [(0, .ptr (some y0)), (1, .int .i64 y1), (4, .ptr (some y2)), (15, .int .i64 y3), (49, .bool y4)]) K):=by kernel_rfl
theorem qb.u5.ok (k:Nat) (x0:Ad) (x1:Int) (x2:Ad) (x3:Int) (x4:Bool) (K:KF α) :
  eC k qb.u5.c (za [(0, .ptr (some x0)), (1, .int .i64 x1), (4, .ptr (some x2)), (15, .int .i64 x3), (49, .bool x4)]) K =
   qb.u5.f k (qb.f k) x0 x1 x2 x3 x4 (K .normal (za [])):=by kernel_rfl
theorem qb.u6.ok (k:Nat) (x0:Ad) (x1:Int) (x2:Ad) (x3:Int) (x4:Bool) (R:IC) (K:KF α) :
  eC k (qb.u6.c R) (za [(0, .ptr (some x0)), (1, .int .i64 x1), (4, .ptr (some x2)), (15, .int .i64 x3), (49, .bool x4)]) K =
   qb.u6.f k x0 x1 x2 x3 x4 (fun y0 y1 y2 y3 y4=>eC k R (za [(0, .ptr (some y0)), (1, .int .i64 y1), (4, .ptr (some y2)), (15, .int .i64 y3), (83, .bool y4)]) K):=by kernel_rfl
theorem qb.u7.ok (k:Nat) (x0:Ad) (x1:Int) (x2:Ad) (x3:Int) (x4:Bool) (K:KF α) :
  eC k qb.u7.c (za [(0, .ptr (some x0)), (1, .int .i64 x1), (4, .ptr (some x2)), (15, .int .i64 x3), (83, .bool x4)]) K =
   qb.u7.f k (qb.f k) x0 x1 x2 x3 x4 (K .normal (za [])):=by kernel_rfl
theorem qb.u8.ok (k:Nat) (x0:Ad) (x1:Int) (x2:Ad) (x3:Int) (x4:Bool) (R:IC) (K:KF α) :
  eC k (qb.u8.c R) (za [(0, .ptr (some x0)), (1, .int .i64 x1), (4, .ptr (some x2)), (15, .int .i64 x3), (83, .bool x4)]) K =
   qb.u8.f k x0 x1 x2 x3 x4 (fun y0 y1 y2 y3 y4=>eC k R (za [(0, .ptr (some y0)), (1, .int .i64 y1), (4, .ptr (some y2)), (15, .int .i64 y3), (104, .bool y4)]) K):=by kernel_rfl
theorem qb.u9.ok (k:Nat) (x0:Ad) (x1:Int) (x2:Ad) (x3:Int) (x4:Bool) (K:KF α) :
  eC k qb.u9.c (za [(0, .ptr (some x0)), (1, .int .i64 x1), (4, .ptr (some x2)), (15, .int .i64 x3), (104, .bool x4)]) K =
   qb.u9.f k (qb.f k) x0 x1 x2 x3 x4 (K .normal (za [])):=by kernel_rfl
theorem qb.u10.ok (k:Nat) (x0:Ad) (x1:Int) (x2:Ad) (x3:Int) (x4:Bool) (R:IC) (K:KF α) :
  eC k (qb.u10.c R) (za [(0, .ptr (some x0)), (1, .int .i64 x1), (4, .ptr (some x2)), (15, .int .i64 x3), (104, .bool x4)]) K =
   qb.u10.f k x0 x1 x2 x3 x4 (fun y0 y1 y2 y3=>eC k R (za [(0, .ptr (some y0)), (1, .int .i64 y1), (4, .ptr (some y2)), (138, .bool y3)]) K):=by kernel_rfl
theorem qb.u11.ok (k:Nat) (x0:Ad) (x1:Int) (x2:Ad) (x3:Bool) (K:KF α) :
  eC k qb.u11.c (za [(0, .ptr (some x0)), (1, .int .i64 x1), (4, .ptr (some x2)), (138, .bool x3)]) K =
   qb.u11.f k (qb.f k) x0 x1 x2 x3 (K .normal (za [])):=by kernel_rfl
theorem qb.u12.ok (k:Nat) (x0:Ad) (x1:Int) (x2:Ad) (x3:Int) (x4:Bool) (K:KF α) :
  eC k qb.u12.c (za [(0, .ptr (some x0)), (1, .int .i64 x1), (4, .ptr (some x2)), (15, .int .i64 x3), (104, .bool x4)]) K =
   qb.u12.f k (qb.f k) x0 x1 x2 x3 x4 (K .normal (za [])):=
 (qb.u10.ok k x0 x1 x2 x3 x4 qb.u11.c K).trans
  (congrArg (fun z=>qb.u10.f k x0 x1 x2 x3 x4 z) (funext fun y0=>(funext fun y1=>(funext fun y2=>(funext fun y3=>qb.u11.ok k y0 y1 y2 y3 K)))))
theorem qb.u13.ok (k:Nat) (x0:Ad) (x1:Int) (x2:Ad) (x3:Int) (x4:Bool) (K:KF α) :
  eC k qb.u13.c (za [(0, .ptr (some x0)), (1, .int .i64 x1), (4, .ptr (some x2)), (15, .int .i64 x3), (104, .bool x4)]) K =
   qb.u13.f k (qb.f k) x0 x1 x2 x3 x4 (K .normal (za [])):=
 yt (g:=x4) (by kernel_rfl) (qb.u9.ok k x0 x1 x2 x3 x4 K) (qb.u12.ok k x0 x1 x2 x3 x4 K)
theorem qb.u14.ok (k:Nat) (x0:Ad) (x1:Int) (x2:Ad) (x3:Int) (x4:Bool) (K:KF α) :
  eC k qb.u14.c (za [(0, .ptr (some x0)), (1, .int .i64 x1), (4, .ptr (some x2)), (15, .int .i64 x3), (83, .bool x4)]) K =
   qb.u14.f k (qb.f k) x0 x1 x2 x3 x4 (K .normal (za [])):=
 (qb.u8.ok k x0 x1 x2 x3 x4 qb.u13.c K).trans
  (congrArg (fun z=>qb.u8.f k x0 x1 x2 x3 x4 z) (funext fun y0=>(funext fun y1=>(funext fun y2=>(funext fun y3=>(funext fun y4=>qb.u13.ok k y0 y1 y2 y3 y4 K))))))
theorem qb.u15.ok (k:Nat) (x0:Ad) (x1:Int) (x2:Ad) (x3:Int) (x4:Bool) (K:KF α) :
  eC k qb.u15.c (za [(0, .ptr (some x0)), (1, .int .i64 x1), (4, .ptr (some x2)), (15, .int .i64 x3), (83, .bool x4)]) K =
   qb.u15.f k (qb.f k) x0 x1 x2 x3 x4 (K .normal (za [])):=
 yt (g:=x4) (by kernel_rfl) (qb.u7.ok k x0 x1 x2 x3 x4 K) (qb.u14.ok k x0 x1 x2 x3 x4 K)
theorem qb.u16.ok (k:Nat) (x0:Ad) (x1:Int) (x2:Ad) (x3:Int) (x4:Bool) (K:KF α) :
  eC k qb.u16.c (za [(0, .ptr (some x0)), (1, .int .i64 x1), (4, .ptr (some x2)), (15, .int .i64 x3), (49, .bool x4)]) K =
   qb.u16.f k (qb.f k) x0 x1 x2 x3 x4 (K .normal (za [])):=
 (qb.u6.ok k x0 x1 x2 x3 x4 qb.u15.c K).trans
  (congrArg (fun z=>qb.u6.f k x0 x1 x2 x3 x4 z) (funext fun y0=>(funext fun y1=>(funext fun y2=>(funext fun y3=>(funext fun y4=>qb.u15.ok k y0 y1 y2 y3 y4 K))))))
theorem qb.u17.ok (k:Nat) (x0:Ad) (x1:Int) (x2:Ad) (x3:Int) (x4:Bool) (K:KF α) :
  eC k qb.u17.c (za [(0, .ptr (some x0)), (1, .int .i64 x1), (4, .ptr (some x2)), (15, .int .i64 x3), (49, .bool x4)]) K =
   qb.u17.f k (qb.f k) x0 x1 x2 x3 x4 (K .normal (za [])):=
 yt (g:=x4) (by kernel_rfl) (qb.u5.ok k x0 x1 x2 x3 x4 K) (qb.u16.ok k x0 x1 x2 x3 x4 K)
theorem qb.u18.ok (k:Nat) (x0:Ad) (x1:Int) (x2:Ad) (x3:Int) (x4:Bool) (K:KF α) :
  eC k qb.u18.c (za [(0, .ptr (some x0)), (1, .int .i64 x1), (4, .ptr (some x2)), (15, .int .i64 x3), (16, .bool x4)]) K =
   qb.u18.f k (qb.f k) x0 x1 x2 x3 x4 (K .normal (za [])):=
 (qb.u4.ok k x0 x1 x2 x3 x4 qb.u17.c K).trans
  (congrArg (fun z=>qb.u4.f k x0 x1 x2 x3 x4 z) (funext fun y0=>(funext fun y1=>(funext fun y2=>(funext fun y3=>(funext fun y4=>qb.u17.ok k y0 y1 y2 y3 y4 K))))))
theorem qb.u19.ok (k:Nat) (x0:Ad) (x1:Int) (x2:Ad) (x3:Int) (x4:Bool) (K:KF α) :
  eC k qb.u19.c (za [(0, .ptr (some x0)), (1, .int .i64 x1), (4, .ptr (some x2)), (15, .int .i64 x3), (16, .bool x4)]) K =
   qb.u19.f k (qb.f k) x0 x1 x2 x3 x4 (K .normal (za [])):=
 yt (g:=x4) (by kernel_rfl) (qb.u3.ok k x0 x1 x2 x3 x4 K) (qb.u18.ok k x0 x1 x2 x3 x4 K)
theorem qb.u20.ok (k:Nat) (x0:Ad) (x1:Int) (x2:Ad) (x3:Int) (K:KF α) :
  eC k qb.u20.c (za [(0, .ptr (some x0)), (1, .int .i64 x1), (4, .ptr (some x2)), (15, .int .i64 x3)]) K =
   qb.u20.f k (qb.f k) x0 x1 x2 x3 (K .normal (za [])):=
 (qb.u2.ok k x0 x1 x2 x3 qb.u19.c K).trans
  (congrArg (fun z=>qb.u2.f k x0 x1 x2 x3 z) (funext fun y0=>(funext fun y1=>(funext fun y2=>(funext fun y3=>(funext fun y4=>qb.u19.ok k y0 y1 y2 y3 y4 K))))))
theorem qb.u21.ok (k:Nat) (x0:Ad) (x1:Int) (x2:Ad) (x3:Int) (K:KF α) :
  eC k qb.u21.c (za [(0, .ptr (some x0)), (1, .int .i64 x1), (4, .ptr (some x2)), (15, .int .i64 x3)]) K =
   qb.u21.f k (qb.f k) x0 x1 x2 x3 (K .normal (za [])):=
 (zx.trans (qb.u20.ok k x0 x1 x2 x3 (js 0 K))).trans (by kernel_rfl)
theorem qb.u22.ok (k:Nat) (x0:Ad) (x1:Int) (K:KF α) :
  eC k qb.u22.c (za [(0, .ptr (some x0)), (1, .int .i64 x1)]) K =
   qb.u22.f k (qb.f k) x0 x1 (K .normal (za [])):=
 (qb.u1.ok k x0 x1 qb.u21.c K).trans
  (congrArg (fun z=>qb.u1.f k x0 x1 z) (funext fun y0=>(funext fun y1=>(funext fun y2=>(funext fun y3=>qb.u21.ok k y0 y1 y2 y3 K)))))
theorem qb.ok (k:Nat) (x0:Ad) (x1:Int) (κ:Res->M α) :
  evF T (env k) k qb.c qb.res [.ptr (some x0), .int .i64 x1] κ = qb.f (k + 1) x0 x1 (κ (.ret (.tuple []))):=
 (qb.u22.ok k x0 x1 (retK T qb.res κ)).trans (by kernel_rfl)
theorem qb.code:qb.c.code = zr Try.f46:=by kernel_rfl
noncomputable def qx.c:IC:=qx.u9.c
noncomputable def qx.res:List ResultVar:=[(.tmp 2)]
theorem qx.u1.ok (k:Nat) (x0:Sl) (R:IC) (K:KF α) :
  eC k (qx.u1.c R) (fr25 x0) K =
   qx.u1.f k x0 (fun y0 y1=>eC k R (za [(0, .slice y0), (3, .ptr (some y1))]) K):=by kernel_rfl
theorem qx.u2.ok (k:Nat) (x0:Sl) (x1:Ad) (R:IC) (K:KF α) :
  eC k (qx.u2.c R) (za [(0, .slice x0), (3, .ptr (some x1))]) K =
   qx.u2.f k x0 x1 (fun y0 y1 y2 y3=>eC k R (za [(0, .slice y0), (3, .ptr (some y1)), (21, .int .i64 y2), (22, .int .i64 y3)]) K):=by kernel_rfl
theorem qx.u3.ok (k:Nat) (x0:Sl) (x1:Ad) (x2 x3:Int) (K:KF α) :
  eC k qx.u3.c (za [(0, .slice x0), (3, .ptr (some x1)), (21, .int .i64 x2), (22, .int .i64 x3)]) K =
   qx.u3.f k x0 x1 x2 x3 (fun y0 y1 y2 y3=>K .normal (za [(0, .slice y0), (3, .ptr (some y1)), (21, .int .i64 y2), (22, .int .i64 y3)])) (fun y0 y1=>K (.exit 0) (za [(0, .slice y0), (3, .ptr (some y1))])):=by kernel_rfl
theorem qx.u4.ls (k:Nat) (kx0:Sl->Ad->M α) (j:Nat) (x0:Sl) (x1:Ad) (x2 x3:Int):qx.u4.l k kx0 (j + 1) x0 x1 x2 x3 =
 qx.u3.f k x0 x1 x2 x3 (fun y0 y1 y2 y3=>qx.u4.l k kx0 j y0 y1 y2 y3) kx0:=rfl
theorem qx.u4.okl (k:Nat) (K:KF α):∀ (j:Nat) (x0:Sl) (x1:Ad) (x2 x3:Int),
  zy (eC k qx.u3.c) [0, 3, 21, 22] j (za [(0, .slice x0), (3, .ptr (some x1)), (21, .int .i64 x2), (22, .int .i64 x3)]) K = qx.u4.l k (fun y0 y1=>K (.exit 0) (za [(0, .slice y0), (3, .ptr (some y1))])) j x0 x1 x2 x3
 | 0, _, _, _, _=>rfl
 | j + 1, x0, x1, x2, x3=>by
   have h:=qx.u3.ok k x0 x1 x2 x3 (seqK (fun ρ=>zy (eC k qx.u3.c) [0, 3, 21, 22] j ρ K) K)
   simp only [zh, zm, zn, ze, qx.u4.okl k K j] at h
   exact (zz (by kernel_rfl) h).trans (qx.u4.ls k (fun y0 y1=>K (.exit 0) (za [(0, .slice y0), (3, .ptr (some y1))])) j x0 x1 x2 x3).symm
theorem qx.u4.ok (k:Nat) (x0:Sl) (x1:Ad) (x2 x3:Int) (K:KF α) :
  eC k qx.u4.c (za [(0, .slice x0), (3, .ptr (some x1)), (21, .int .i64 x2), (22, .int .i64 x3)]) K =
   qx.u4.f k x0 x1 x2 x3 (fun y0 y1=>K (.exit 0) (za [(0, .slice y0), (3, .ptr (some y1))])):=
 jr.trans <| (ja (body:=eC k qx.u3.c) (keep:=[0, 3, 21, 22]) (ρ:=(za [(0, .slice x0), (3, .ptr (some x1)), (21, .int .i64 x2), (22, .int .i64 x3)])) (ρ':=(za [(0, .slice x0), (3, .ptr (some x1)), (21, .int .i64 x2), (22, .int .i64 x3)])) (by kernel_rfl) k K).trans (qx.u4.okl k K k x0 x1 x2 x3)
theorem qx.u5.ok (k:Nat) (x0:Sl) (x1:Ad) (x2 x3:Int) (K:KF α) :
  eC k qx.u5.c (za [(0, .slice x0), (3, .ptr (some x1)), (21, .int .i64 x2), (22, .int .i64 x3)]) K =
   qx.u5.f k x0 x1 x2 x3 (fun y0 y1=>K .normal (za [(0, .slice y0), (3, .ptr (some y1))])):=
 (zx.trans (qx.u4.ok k x0 x1 x2 x3 (js 0 K))).trans (by kernel_rfl)
theorem qx.u6.ok (k:Nat) (x0:Sl) (x1:Ad) (K:KF α) :
  eC k qx.u6.c (za [(0, .slice x0), (3, .ptr (some x1))]) K =
   qx.u6.f k x0 x1 (fun y0 y1=>K .normal (za [(0, .slice y0), (3, .ptr (some y1))])):=
 (qx.u2.ok k x0 x1 qx.u5.c K).trans
  (congrArg (fun z=>qx.u2.f k x0 x1 z) (funext fun y0=>(funext fun y1=>(funext fun y2=>(funext fun y3=>qx.u5.ok k y0 y1 y2 y3 K)))))
theorem qx.u7.ok (k:Nat) (x0:Sl) (x1:Ad) (K:KF α) :
  eC k qx.u7.c (za [(0, .slice x0), (3, .ptr (some x1))]) K =
   qx.u7.f k x0 x1 (fun y0=>K .ret (za [(2, .ptr (some y0))])):=by kernel_rfl
theorem qx.u8.ok (k:Nat) (x0:Sl) (x1:Ad) (K:KF α) :
  eC k qx.u8.c (za [(0, .slice x0), (3, .ptr (some x1))]) K =
   qx.u8.f k x0 x1 (fun y0=>K .ret (za [(2, .ptr (some y0))])):=
 by
  have h:=qx.u6.ok k x0 x1 (seqK (fun ρ=>eC k qx.u7.c ρ K) K)
  simp only [ze, zh, zm, zn, qx.u7.ok] at h
  exact zt h
theorem qx.u9.ok (k:Nat) (x0:Sl) (K:KF α) :
  eC k qx.u9.c (fr25 x0) K =
   qx.u9.f k x0 (fun y0=>K .ret (za [(2, .ptr (some y0))])):=
 (qx.u1.ok k x0 qx.u8.c K).trans
  (congrArg (fun z=>qx.u1.f k x0 z) (funext fun y0=>(funext fun y1=>qx.u8.ok k y0 y1 K)))
theorem qx.ok (k:Nat) (x0:Sl) (κ:Res->M α) :
  evF T (env k) k qx.c qx.res [.slice x0] κ = qx.f (k + 1) x0 (fun o0=>κ (.ret (.ptr (some o0)))):=
 (qx.u9.ok k x0 (retK T qx.res κ)).trans (by kernel_rfl)
theorem qx.code:qx.c.code = zr Try.f28:=by kernel_rfl
noncomputable def qbc.c:IC:=qbc.u1.c
noncomputable def qbc.res:List ResultVar:=[(.tmp 2)]
theorem qbc.u1.ok (k:Nat) (x0 x1 x2:Int) (x3:TX) (x4:Int) (K:KF α) :
  eC k qbc.u1.c (za [(0, .agg [.int .i64 x0, .int .i64 x1, .int .i64 x2, .str x3, .int .i64 x4])]) K =
   qbc.u1.f k x0 x1 x2 x3 x4 (fun y0=>K .ret (fr18 y0)):=by kernel_rfl
theorem qbc.ok (k:Nat) (x0 x1 x2:Int) (x3:TX) (x4:Int) (κ:Res->M α) :
  evF T (env k) k qbc.c qbc.res [.agg [.int .i64 x0, .int .i64 x1, .int .i64 x2, .str x3, .int .i64 x4]] κ = qbc.f (k + 1) x0 x1 x2 x3 x4 (fun o0=>κ (.ret (.bool o0))):=
 (qbc.u1.ok k x0 x1 x2 x3 x4 (retK T qbc.res κ)).trans (by kernel_rfl)
theorem qbc.code:qbc.c.code = zr Try.f29:=by kernel_rfl
noncomputable def qa.c:IC:=qa.u29.c
noncomputable def qa.res:List ResultVar:=[(.tmp 2), (.tmp 3)]
theorem qa.u1.ok (k:Nat) (x0:Sl) (R:IC) (K:KF α) :
  eC k (qa.u1.c R) (fr25 x0) K =
   qa.u1.f k x0 (fun y0 y1 y2=>eC k R (za [(0, .slice y0), (4, .ptr (some y1)), (5, .map y2)]) K) (fun y0 y1=>K .ret (fr36 y0 y1)):=by kernel_rfl
theorem qa.u2.ok (k:Nat) (x0:Sl) (x1:Ad) (x2:Option Nat) (R:IC) (K:KF α) :
  eC k (qa.u2.c R) (za [(0, .slice x0), (4, .ptr (some x1)), (5, .map x2)]) K =
   qa.u2.f k x0 x1 x2 (fun y0 y1 y2 y3 y4=>eC k R (za [(4, .ptr (some y0)), (5, .map y1), (14, .slice y2), (15, .int .i64 y3), (16, .int .i64 y4)]) K):=by kernel_rfl
theorem qa.u3.ok (k:Nat) (x0:Ad) (x1:Option Nat) (x2:Sl) (x3 x4:Int) (R:IC) (K:KF α) :
  eC k (qa.u3.c R) (za [(4, .ptr (some x0)), (5, .map x1), (14, .slice x2), (15, .int .i64 x3), (16, .int .i64 x4)]) K =
   qa.u3.f k x0 x1 x2 x3 x4 (fun y0 y1 y2 y3 y4=>eC k R (za [(4, .ptr (some y0)), (5, .map y1), (14, .slice y2), (15, .int .i64 y3), (16, .int .i64 y4)]) K) (K (.exit 0) (za [])):=by kernel_rfl
theorem qa.u4.ok (k:Nat) (x0:Ad) (x1:Option Nat) (x2:Sl) (x3 x4:Int) (R:IC) (K:KF α) :
  eC k (qa.u4.c R) (za [(4, .ptr (some x0)), (5, .map x1), (14, .slice x2), (15, .int .i64 x3), (16, .int .i64 x4)]) K =
   qa.u4.f k x0 x1 x2 x3 x4 (fun y0 y1 y2 y3 y4 y5 y6=>eC k R (za [(4, .ptr (some y0)), (5, .map y1), (6, .int .i64 y2), (7, .ptr (some y3)), (14, .slice y4), (15, .int .i64 y5), (16, .int .i64 y6)]) K):=by kernel_rfl
theorem qa.u5.ok (k:Nat) (x0:Ad) (x1:Option Nat) (x2:Int) (x3:Ad) (x4:Sl) (x5 x6:Int) (R:IC) (K:KF α) :
  eC k (qa.u5.c R) (za [(4, .ptr (some x0)), (5, .map x1), (6, .int .i64 x2), (7, .ptr (some x3)), (14, .slice x4), (15, .int .i64 x5), (16, .int .i64 x6)]) K =
   qa.u5.f k x0 x1 x2 x3 x4 x5 x6 (fun y0 y1 y2 y3 y4 y5 y6 y7=>eC k R (za [(4, .ptr (some y0)), (5, .map y1), (6, .int .i64 y2), (7, .ptr (some y3)), (14, .slice y4), (15, .int .i64 y5), (16, .int .i64 y6), (21, .bool y7)]) K):=by kernel_rfl
theorem qa.u6.ok (k:Nat) (x0:Ad) (x1:Option Nat) (x2:Int) (x3:Ad) (x4:Sl) (x5 x6:Int) (x7:Bool) (K:KF α) :
  eC k qa.u6.c (za [(4, .ptr (some x0)), (5, .map x1), (6, .int .i64 x2), (7, .ptr (some x3)), (14, .slice x4), (15, .int .i64 x5), (16, .int .i64 x6), (21, .bool x7)]) K =
   qa.u6.f k x0 x1 x2 x3 x4 x5 x6 x7 (fun y0 y1=>K .ret (fr36 y0 y1)):=by kernel_rfl
theorem qa.u7.ok (k:Nat) (x0:Ad) (x1:Option Nat) (x2:Int) (x3:Ad) (x4:Sl) (x5 x6:Int) (x7:Bool) (R:IC) (K:KF α) :
  eC k (qa.u7.c R) (za [(4, .ptr (some x0)), (5, .map x1), (6, .int .i64 x2), (7, .ptr (some x3)), (14, .slice x4), (15, .int .i64 x5), (16, .int .i64 x6), (21, .bool x7)]) K =
   qa.u7.f k x0 x1 x2 x3 x4 x5 x6 x7 (fun y0 y1 y2 y3 y4 y5 y6 y7=>eC k R (za [(4, .ptr (some y0)), (5, .map y1), (6, .int .i64 y2), (7, .ptr (some y3)), (14, .slice y4), (15, .int .i64 y5), (16, .int .i64 y6), (36, .bool y7)]) K):=by kernel_rfl
theorem qa.u8.ok (k:Nat) (x0:Ad) (x1:Option Nat) (x2:Int) (x3:Ad) (x4:Sl) (x5 x6:Int) (x7:Bool) (K:KF α) :
  eC k qa.u8.c (za [(4, .ptr (some x0)), (5, .map x1), (6, .int .i64 x2), (7, .ptr (some x3)), (14, .slice x4), (15, .int .i64 x5), (16, .int .i64 x6), (36, .bool x7)]) K =
   qa.u8.f k x0 x1 x2 x3 x4 x5 x6 x7 (fun y0 y1=>K .ret (fr36 y0 y1)):=by kernel_rfl
theorem qa.u9.ok (k:Nat) (x0:Ad) (x1:Option Nat) (x2:Int) (x3:Ad) (x4:Sl) (x5 x6:Int) (x7:Bool) (R:IC) (K:KF α) :
  eC k (qa.u9.c R) (za [(4, .ptr (some x0)), (5, .map x1), (6, .int .i64 x2), (7, .ptr (some x3)), (14, .slice x4), (15, .int .i64 x5), (16, .int .i64 x6), (36, .bool x7)]) K =
   qa.u9.f k x0 x1 x2 x3 x4 x5 x6 x7 (fun y0 y1 y2 y3 y4 y5 y6 y7=>eC k R (za [(4, .ptr (some y0)), (5, .map y1), (6, .int .i64 y2), (7, .ptr (some y3)), (14, .slice y4), (15, .int .i64 y5), (16, .int .i64 y6), (50, .bool y7)]) K):=by kernel_rfl
theorem qa.u10.ok (k:Nat) (x0:Ad) (x1:Option Nat) (x2:Int) (x3:Ad) (x4:Sl) (x5 x6:Int) (x7:Bool) (K:KF α) :
  eC k qa.u10.c (za [(4, .ptr (some x0)), (5, .map x1), (6, .int .i64 x2), (7, .ptr (some x3)), (14, .slice x4), (15, .int .i64 x5), (16, .int .i64 x6), (50, .bool x7)]) K =
   qa.u10.f k x0 x1 x2 x3 x4 x5 x6 x7 (fun y0 y1 y2 y3 y4 y5=>K .normal (za [(4, .ptr (some y0)), (5, .map y1), (7, .ptr (some y2)), (14, .slice y3), (15, .int .i64 y4), (16, .int .i64 y5)])) (fun y0 y1=>K .ret (fr36 y0 y1)):=by kernel_rfl
theorem qa.u11.ok (k:Nat) (x0:Ad) (x1:Option Nat) (x2:Int) (x3:Ad) (x4:Sl) (x5 x6:Int) (x7:Bool) (K:KF α) :
  eC k qa.u11.c (za [(4, .ptr (some x0)), (5, .map x1), (6, .int .i64 x2), (7, .ptr (some x3)), (14, .slice x4), (15, .int .i64 x5), (16, .int .i64 x6), (36, .bool x7)]) K =
   qa.u11.f k x0 x1 x2 x3 x4 x5 x6 x7 (fun y0 y1 y2 y3 y4 y5=>K .normal (za [(4, .ptr (some y0)), (5, .map y1), (7, .ptr (some y2)), (14, .slice y3), (15, .int .i64 y4), (16, .int .i64 y5)])) (fun y0 y1=>K .ret (fr36 y0 y1)):=
 (qa.u9.ok k x0 x1 x2 x3 x4 x5 x6 x7 qa.u10.c K).trans
  (congrArg (fun z=>qa.u9.f k x0 x1 x2 x3 x4 x5 x6 x7 z) (funext fun y0=>(funext fun y1=>(funext fun y2=>(funext fun y3=>(funext fun y4=>(funext fun y5=>(funext fun y6=>(funext fun y7=>qa.u10.ok k y0 y1 y2 y3 y4 y5 y6 y7 K)))))))))
theorem qa.u12.ok (k:Nat) (x0:Ad) (x1:Option Nat) (x2:Int) (x3:Ad) (x4:Sl) (x5 x6:Int) (x7:Bool) (K:KF α) :
  eC k qa.u12.c (za [(4, .ptr (some x0)), (5, .map x1), (6, .int .i64 x2), (7, .ptr (some x3)), (14, .slice x4), (15, .int .i64 x5), (16, .int .i64 x6), (36, .bool x7)]) K =
   qa.u12.f k x0 x1 x2 x3 x4 x5 x6 x7 (fun y0 y1 y2 y3 y4 y5=>K .normal (za [(4, .ptr (some y0)), (5, .map y1), (7, .ptr (some y2)), (14, .slice y3), (15, .int .i64 y4), (16, .int .i64 y5)])) (fun y0 y1=>K .ret (fr36 y0 y1)):=
 yt (g:=x7) (by kernel_rfl) (qa.u8.ok k x0 x1 x2 x3 x4 x5 x6 x7 K) (qa.u11.ok k x0 x1 x2 x3 x4 x5 x6 x7 K)
theorem qa.u13.ok (k:Nat) (x0:Ad) (x1:Option Nat) (x2:Int) (x3:Ad) (x4:Sl) (x5 x6:Int) (x7:Bool) (K:KF α) :
  eC k qa.u13.c (za [(4, .ptr (some x0)), (5, .map x1), (6, .int .i64 x2), (7, .ptr (some x3)), (14, .slice x4), (15, .int .i64 x5), (16, .int .i64 x6), (21, .bool x7)]) K =
   qa.u13.f k x0 x1 x2 x3 x4 x5 x6 x7 (fun y0 y1 y2 y3 y4 y5=>K .normal (za [(4, .ptr (some y0)), (5, .map y1), (7, .ptr (some y2)), (14, .slice y3), (15, .int .i64 y4), (16, .int .i64 y5)])) (fun y0 y1=>K .ret (fr36 y0 y1)):=
 (qa.u7.ok k x0 x1 x2 x3 x4 x5 x6 x7 qa.u12.c K).trans
  (congrArg (fun z=>qa.u7.f k x0 x1 x2 x3 x4 x5 x6 x7 z) (funext fun y0=>(funext fun y1=>(funext fun y2=>(funext fun y3=>(funext fun y4=>(funext fun y5=>(funext fun y6=>(funext fun y7=>qa.u12.ok k y0 y1 y2 y3 y4 y5 y6 y7 K)))))))))
theorem qa.u14.ok (k:Nat) (x0:Ad) (x1:Option Nat) (x2:Int) (x3:Ad) (x4:Sl) (x5 x6:Int) (x7:Bool) (K:KF α) :
  eC k qa.u14.c (za [(4, .ptr (some x0)), (5, .map x1), (6, .int .i64 x2), (7, .ptr (some x3)), (14, .slice x4), (15, .int .i64 x5), (16, .int .i64 x6), (21, .bool x7)]) K =
   qa.u14.f k x0 x1 x2 x3 x4 x5 x6 x7 (fun y0 y1 y2 y3 y4 y5=>K .normal (za [(4, .ptr (some y0)), (5, .map y1), (7, .ptr (some y2)), (14, .slice y3), (15, .int .i64 y4), (16, .int .i64 y5)])) (fun y0 y1=>K .ret (fr36 y0 y1)):=
 yt (g:=x7) (by kernel_rfl) (qa.u6.ok k x0 x1 x2 x3 x4 x5 x6 x7 K) (qa.u13.ok k x0 x1 x2 x3 x4 x5 x6 x7 K)
theorem qa.u15.ok (k:Nat) (x0:Ad) (x1:Option Nat) (x2:Int) (x3:Ad) (x4:Sl) (x5 x6:Int) (K:KF α) :
  eC k qa.u15.c (za [(4, .ptr (some x0)), (5, .map x1), (6, .int .i64 x2), (7, .ptr (some x3)), (14, .slice x4), (15, .int .i64 x5), (16, .int .i64 x6)]) K =
   qa.u15.f k x0 x1 x2 x3 x4 x5 x6 (fun y0 y1 y2 y3 y4 y5=>K .normal (za [(4, .ptr (some y0)), (5, .map y1), (7, .ptr (some y2)), (14, .slice y3), (15, .int .i64 y4), (16, .int .i64 y5)])) (fun y0 y1=>K .ret (fr36 y0 y1)):=
 (qa.u5.ok k x0 x1 x2 x3 x4 x5 x6 qa.u14.c K).trans
  (congrArg (fun z=>qa.u5.f k x0 x1 x2 x3 x4 x5 x6 z) (funext fun y0=>(funext fun y1=>(funext fun y2=>(funext fun y3=>(funext fun y4=>(funext fun y5=>(funext fun y6=>(funext fun y7=>qa.u14.ok k y0 y1 y2 y3 y4 y5 y6 y7 K)))))))))
theorem qa.u16.ok (k:Nat) (x0:Ad) (x1:Option Nat) (x2:Int) (x3:Ad) (x4:Sl) (x5 x6:Int) (K:KF α) :
  eC k qa.u16.c (za [(4, .ptr (some x0)), (5, .map x1), (6, .int .i64 x2), (7, .ptr (some x3)), (14, .slice x4), (15, .int .i64 x5), (16, .int .i64 x6)]) K =
   qa.u16.f k x0 x1 x2 x3 x4 x5 x6 (fun y0 y1 y2 y3 y4 y5=>K .normal (za [(4, .ptr (some y0)), (5, .map y1), (7, .ptr (some y2)), (14, .slice y3), (15, .int .i64 y4), (16, .int .i64 y5)])) (fun y0 y1=>K .ret (fr36 y0 y1)):=
 (zx.trans (qa.u15.ok k x0 x1 x2 x3 x4 x5 x6 (js 2 K))).trans (by kernel_rfl)
theorem qa.u17.ok (k:Nat) (x0:Ad) (x1:Option Nat) (x2:Ad) (x3:Sl) (x4 x5:Int) (K:KF α) :
  eC k qa.u17.c (za [(4, .ptr (some x0)), (5, .map x1), (7, .ptr (some x2)), (14, .slice x3), (15, .int .i64 x4), (16, .int .i64 x5)]) K =
   qa.u17.f k x0 x1 x2 x3 x4 x5 (fun y0 y1 y2 y3 y4=>K .normal (za [(4, .ptr (some y0)), (5, .map y1), (14, .slice y2), (15, .int .i64 y3), (16, .int .i64 y4)])):=by kernel_rfl
theorem qa.u18.ok (k:Nat) (x0:Ad) (x1:Option Nat) (x2:Int) (x3:Ad) (x4:Sl) (x5 x6:Int) (K:KF α) :
  eC k qa.u18.c (za [(4, .ptr (some x0)), (5, .map x1), (6, .int .i64 x2), (7, .ptr (some x3)), (14, .slice x4), (15, .int .i64 x5), (16, .int .i64 x6)]) K =
   qa.u18.f k x0 x1 x2 x3 x4 x5 x6 (fun y0 y1 y2 y3 y4=>K .normal (za [(4, .ptr (some y0)), (5, .map y1), (14, .slice y2), (15, .int .i64 y3), (16, .int .i64 y4)])) (fun y0 y1=>K .ret (fr36 y0 y1)):=
 by
  have h:=qa.u16.ok k x0 x1 x2 x3 x4 x5 x6 (seqK (fun ρ=>eC k qa.u17.c ρ K) K)
  simp only [ze, zh, zm, zn, qa.u17.ok] at h
  exact zt h
theorem qa.u19.ok (k:Nat) (x0:Ad) (x1:Option Nat) (x2:Sl) (x3 x4:Int) (K:KF α) :
  eC k qa.u19.c (za [(4, .ptr (some x0)), (5, .map x1), (14, .slice x2), (15, .int .i64 x3), (16, .int .i64 x4)]) K =
   qa.u19.f k x0 x1 x2 x3 x4 (fun y0 y1 y2 y3 y4=>K .normal (za [(4, .ptr (some y0)), (5, .map y1), (14, .slice y2), (15, .int .i64 y3), (16, .int .i64 y4)])) (fun y0 y1=>K .ret (fr36 y0 y1)):=
 (qa.u4.ok k x0 x1 x2 x3 x4 qa.u18.c K).trans
  (congrArg (fun z=>qa.u4.f k x0 x1 x2 x3 x4 z) (funext fun y0=>(funext fun y1=>(funext fun y2=>(funext fun y3=>(funext fun y4=>(funext fun y5=>(funext fun y6=>qa.u18.ok k y0 y1 y2 y3 y4 y5 y6 K))))))))
theorem qa.u20.ok (k:Nat) (x0:Ad) (x1:Option Nat) (x2:Sl) (x3 x4:Int) (K:KF α) :
  eC k qa.u20.c (za [(4, .ptr (some x0)), (5, .map x1), (14, .slice x2), (15, .int .i64 x3), (16, .int .i64 x4)]) K =
   qa.u20.f k x0 x1 x2 x3 x4 (fun y0 y1 y2 y3 y4=>K .normal (za [(4, .ptr (some y0)), (5, .map y1), (14, .slice y2), (15, .int .i64 y3), (16, .int .i64 y4)])) (fun y0 y1=>K .ret (fr36 y0 y1)):=
 (zx.trans (qa.u19.ok k x0 x1 x2 x3 x4 (js 1 K))).trans (by kernel_rfl)
theorem qa.u21.ok (k:Nat) (x0:Ad) (x1:Option Nat) (x2:Sl) (x3 x4:Int) (K:KF α) :
  eC k qa.u21.c (za [(4, .ptr (some x0)), (5, .map x1), (14, .slice x2), (15, .int .i64 x3), (16, .int .i64 x4)]) K =
   qa.u21.f k x0 x1 x2 x3 x4 (fun y0 y1 y2 y3 y4=>K .normal (za [(4, .ptr (some y0)), (5, .map y1), (14, .slice y2), (15, .int .i64 y3), (16, .int .i64 y4)])):=by kernel_rfl
theorem qa.u22.ok (k:Nat) (x0:Ad) (x1:Option Nat) (x2:Sl) (x3 x4:Int) (K:KF α) :
  eC k qa.u22.c (za [(4, .ptr (some x0)), (5, .map x1), (14, .slice x2), (15, .int .i64 x3), (16, .int .i64 x4)]) K =
   qa.u22.f k x0 x1 x2 x3 x4 (fun y0 y1 y2 y3 y4=>K .normal (za [(4, .ptr (some y0)), (5, .map y1), (14, .slice y2), (15, .int .i64 y3), (16, .int .i64 y4)])) (fun y0 y1=>K .ret (fr36 y0 y1)):=
 by
  have h:=qa.u20.ok k x0 x1 x2 x3 x4 (seqK (fun ρ=>eC k qa.u21.c ρ K) K)
  simp only [ze, zh, zm, zn, qa.u21.ok] at h
  exact zt h
theorem qa.u23.ok (k:Nat) (x0:Ad) (x1:Option Nat) (x2:Sl) (x3 x4:Int) (K:KF α) :
  eC k qa.u23.c (za [(4, .ptr (some x0)), (5, .map x1), (14, .slice x2), (15, .int .i64 x3), (16, .int .i64 x4)]) K =
   qa.u23.f k x0 x1 x2 x3 x4 (fun y0 y1 y2 y3 y4=>K .normal (za [(4, .ptr (some y0)), (5, .map y1), (14, .slice y2), (15, .int .i64 y3), (16, .int .i64 y4)])) (fun y0 y1=>K .ret (fr36 y0 y1)) (K (.exit 0) (za [])):=
 (qa.u3.ok k x0 x1 x2 x3 x4 qa.u22.c K).trans
  (congrArg (fun z=>qa.u3.f k x0 x1 x2 x3 x4 z (K (.exit 0) (za []))) (funext fun y0=>(funext fun y1=>(funext fun y2=>(funext fun y3=>(funext fun y4=>qa.u22.ok k y0 y1 y2 y3 y4 K))))))
theorem qa.u24.ls (k:Nat) (kr:Int->Int->M α) (kx0:M α) (j:Nat) (x0:Ad) (x1:Option Nat) (x2:Sl) (x3 x4:Int):qa.u24.l k kr kx0 (j + 1) x0 x1 x2 x3 x4 =
 qa.u23.f k x0 x1 x2 x3 x4 (fun y0 y1 y2 y3 y4=>qa.u24.l k kr kx0 j y0 y1 y2 y3 y4) kr kx0:=rfl
theorem qa.u24.okl (k:Nat) (K:KF α):∀ (j:Nat) (x0:Ad) (x1:Option Nat) (x2:Sl) (x3 x4:Int),
  zy (eC k qa.u23.c) [4, 5, 14, 15, 16] j (za [(4, .ptr (some x0)), (5, .map x1), (14, .slice x2), (15, .int .i64 x3), (16, .int .i64 x4)]) K = qa.u24.l k (fun y0 y1=>K .ret (fr36 y0 y1)) (K (.exit 0) (za [])) j x0 x1 x2 x3 x4
 | 0, _, _, _, _, _=>rfl
 | j + 1, x0, x1, x2, x3, x4=>by
   have h:=qa.u23.ok k x0 x1 x2 x3 x4 (seqK (fun ρ=>zy (eC k qa.u23.c) [4, 5, 14, 15, 16] j ρ K) K)
   simp only [zh, zm, zn, ze, qa.u24.okl k K j] at h
   exact (zz (by kernel_rfl) h).trans (qa.u24.ls k (fun y0 y1=>K .ret (fr36 y0 y1)) (K (.exit 0) (za [])) j x0 x1 x2 x3 x4).symm
theorem qa.u24.ok (k:Nat) (x0:Ad) (x1:Option Nat) (x2:Sl) (x3 x4:Int) (K:KF α) :
  eC k qa.u24.c (za [(4, .ptr (some x0)), (5, .map x1), (14, .slice x2), (15, .int .i64 x3), (16, .int .i64 x4)]) K =
   qa.u24.f k x0 x1 x2 x3 x4 (fun y0 y1=>K .ret (fr36 y0 y1)) (K (.exit 0) (za [])):=
 jr.trans <| (ja (body:=eC k qa.u23.c) (keep:=[4, 5, 14, 15, 16]) (ρ:=(za [(4, .ptr (some x0)), (5, .map x1), (14, .slice x2), (15, .int .i64 x3), (16, .int .i64 x4)])) (ρ':=(za [(4, .ptr (some x0)), (5, .map x1), (14, .slice x2), (15, .int .i64 x3), (16, .int .i64 x4)])) (by kernel_rfl) k K).trans (qa.u24.okl k K k x0 x1 x2 x3 x4)
theorem qa.u25.ok (k:Nat) (x0:Ad) (x1:Option Nat) (x2:Sl) (x3 x4:Int) (K:KF α) :
  eC k qa.u25.c (za [(4, .ptr (some x0)), (5, .map x1), (14, .slice x2), (15, .int .i64 x3), (16, .int .i64 x4)]) K =
   qa.u25.f k x0 x1 x2 x3 x4 (K .normal (za [])) (fun y0 y1=>K .ret (fr36 y0 y1)):=
 (zx.trans (qa.u24.ok k x0 x1 x2 x3 x4 (js 0 K))).trans (by kernel_rfl)
theorem qa.u26.ok (k:Nat) (x0:Sl) (x1:Ad) (x2:Option Nat) (K:KF α) :
  eC k qa.u26.c (za [(0, .slice x0), (4, .ptr (some x1)), (5, .map x2)]) K =
   qa.u26.f k x0 x1 x2 (K .normal (za [])) (fun y0 y1=>K .ret (fr36 y0 y1)):=
 (qa.u2.ok k x0 x1 x2 qa.u25.c K).trans
  (congrArg (fun z=>qa.u2.f k x0 x1 x2 z) (funext fun y0=>(funext fun y1=>(funext fun y2=>(funext fun y3=>(funext fun y4=>qa.u25.ok k y0 y1 y2 y3 y4 K))))))
theorem qa.u27.ok (k:Nat) (K:KF α) :
  eC k qa.u27.c (za []) K =
   qa.u27.f k (fun y0 y1=>K .ret (fr36 y0 y1)):=by kernel_rfl
theorem qa.u28.ok (k:Nat) (x0:Sl) (x1:Ad) (x2:Option Nat) (K:KF α) :
  eC k qa.u28.c (za [(0, .slice x0), (4, .ptr (some x1)), (5, .map x2)]) K =
   qa.u28.f k x0 x1 x2 (fun y0 y1=>K .ret (fr36 y0 y1)):=
 by
  have h:=qa.u26.ok k x0 x1 x2 (seqK (fun ρ=>eC k qa.u27.c ρ K) K)
  simp only [ze, zh, zm, zn, qa.u27.ok] at h
  exact zt h
theorem qa.u29.ok (k:Nat) (x0:Sl) (K:KF α) :
  eC k qa.u29.c (fr25 x0) K =
   qa.u29.f k x0 (fun y0 y1=>K .ret (fr36 y0 y1)):=
 (qa.u1.ok k x0 qa.u28.c K).trans
  (congrArg (fun z=>qa.u1.f k x0 z (fun y0 y1=>K .ret (fr36 y0 y1))) (funext fun y0=>(funext fun y1=>(funext fun y2=>qa.u28.ok k y0 y1 y2 K))))
theorem qa.ok (k:Nat) (x0:Sl) (κ:Res->M α) :
  evF T (env k) k qa.c qa.res [.slice x0] κ = qa.f (k + 1) x0 (fun o0 o1=>κ (.ret (.tuple [.int .i64 o0, .int .i64 o1]))):=
 (qa.u29.ok k x0 (retK T qa.res κ)).trans (by kernel_rfl)
theorem qa.code:qa.c.code = zr Try.f19:=by kernel_rfl
noncomputable def qo.c:IC:=qo.u9.c
noncomputable def qo.res:List ResultVar:=[(.tmp 2)]
theorem qo.u1.ok (k:Nat) (x0:Sl) (R:IC) (K:KF α) :
  eC k (qo.u1.c R) (fr25 x0) K =
   qo.u1.f k x0 (fun y0=>eC k R (fr35 y0) K):=by kernel_rfl
theorem qo.u2.ok (k:Nat) (x0:Sl) (R:IC) (K:KF α) :
  eC k (qo.u2.c R) (fr35 x0) K =
   qo.u2.f k x0 (fun y0 y1 y2=>eC k R (fr37 y0 y1 y2) K):=by kernel_rfl
theorem qo.u3.ok (k:Nat) (x0:Sl) (x1 x2:Int) (K:KF α) :
  eC k qo.u3.c (fr37 x0 x1 x2) K =
   qo.u3.f k x0 x1 x2 (fun y0 y1 y2=>K .normal (fr37 y0 y1 y2)) (fun y0=>K (.exit 0) (fr35 y0)):=by kernel_rfl
theorem qo.u4.ls (k:Nat) (kx0:Sl->M α) (j:Nat) (x0:Sl) (x1 x2:Int):qo.u4.l k kx0 (j + 1) x0 x1 x2 =
 qo.u3.f k x0 x1 x2 (fun y0 y1 y2=>qo.u4.l k kx0 j y0 y1 y2) kx0:=rfl
theorem qo.u4.okl (k:Nat) (K:KF α):∀ (j:Nat) (x0:Sl) (x1 x2:Int),
  zy (eC k qo.u3.c) [3, 10, 11] j (fr37 x0 x1 x2) K = qo.u4.l k (fun y0=>K (.exit 0) (fr35 y0)) j x0 x1 x2
 | 0, _, _, _=>rfl
 | j + 1, x0, x1, x2=>by
   have h:=qo.u3.ok k x0 x1 x2 (seqK (fun ρ=>zy (eC k qo.u3.c) [3, 10, 11] j ρ K) K)
   simp only [zh, zm, zn, ze, qo.u4.okl k K j] at h
   exact (zz (by kernel_rfl) h).trans (qo.u4.ls k (fun y0=>K (.exit 0) (fr35 y0)) j x0 x1 x2).symm
theorem qo.u4.ok (k:Nat) (x0:Sl) (x1 x2:Int) (K:KF α) :
  eC k qo.u4.c (fr37 x0 x1 x2) K =
   qo.u4.f k x0 x1 x2 (fun y0=>K (.exit 0) (fr35 y0)):=
 jr.trans <| (ja (body:=eC k qo.u3.c) (keep:=[3, 10, 11]) (ρ:=(fr37 x0 x1 x2)) (ρ':=(fr37 x0 x1 x2)) (by kernel_rfl) k K).trans (qo.u4.okl k K k x0 x1 x2)
theorem qo.u5.ok (k:Nat) (x0:Sl) (x1 x2:Int) (K:KF α) :
  eC k qo.u5.c (fr37 x0 x1 x2) K =
   qo.u5.f k x0 x1 x2 (fun y0=>K .normal (fr35 y0)):=
 (zx.trans (qo.u4.ok k x0 x1 x2 (js 0 K))).trans (by kernel_rfl)
theorem qo.u6.ok (k:Nat) (x0:Sl) (K:KF α) :
  eC k qo.u6.c (fr35 x0) K =
   qo.u6.f k x0 (fun y0=>K .normal (fr35 y0)):=
 (qo.u2.ok k x0 qo.u5.c K).trans
  (congrArg (fun z=>qo.u2.f k x0 z) (funext fun y0=>(funext fun y1=>(funext fun y2=>qo.u5.ok k y0 y1 y2 K))))
theorem qo.u7.ok (k:Nat) (x0:Sl) (K:KF α) :
  eC k qo.u7.c (fr35 x0) K =
   qo.u7.f k x0 (fun y0=>K .ret (fr18 y0)):=by kernel_rfl
theorem qo.u8.ok (k:Nat) (x0:Sl) (K:KF α) :
  eC k qo.u8.c (fr35 x0) K =
   qo.u8.f k x0 (fun y0=>K .ret (fr18 y0)):=
 by
  have h:=qo.u6.ok k x0 (seqK (fun ρ=>eC k qo.u7.c ρ K) K)
  simp only [ze, zh, zm, zn, qo.u7.ok] at h
  exact zt h
theorem qo.u9.ok (k:Nat) (x0:Sl) (K:KF α) :
  eC k qo.u9.c (fr25 x0) K =
   qo.u9.f k x0 (fun y0=>K .ret (fr18 y0)):=
 (qo.u1.ok k x0 qo.u8.c K).trans
  (congrArg (fun z=>qo.u1.f k x0 z) (funext fun y0=>qo.u8.ok k y0 K))
theorem qo.ok (k:Nat) (x0:Sl) (κ:Res->M α) :
  evF T (env k) k qo.c qo.res [.slice x0] κ = qo.f (k + 1) x0 (fun o0=>κ (.ret (.bool o0))):=
 (qo.u9.ok k x0 (retK T qo.res κ)).trans (by kernel_rfl)
theorem qo.code:qo.c.code = zr Try.f27:=by kernel_rfl
noncomputable def qbh.c:IC:=qbh.u1.c
noncomputable def qbh.res:List ResultVar:=[(.tmp 2)]
theorem qbh.u1.ok (k:Nat) (x0:Int) (K:KF α) :
  eC k qbh.u1.c (fr30 x0) K =
   qbh.u1.f k x0 (fun y0=>K .ret (fr3 y0)):=by kernel_rfl
theorem qbh.ok (k:Nat) (x0:Int) (κ:Res->M α) :
  evF T (env k) k qbh.c qbh.res [.int .i64 x0] κ = qbh.f (k + 1) x0 (fun o0=>κ (.ret (.int .i64 o0))):=
 (qbh.u1.ok k x0 (retK T qbh.res κ)).trans (by kernel_rfl)
theorem qbh.code:qbh.c.code = zr Try.f55:=by kernel_rfl
noncomputable def qad.c:IC:=qad.u5.c
noncomputable def qad.res:List ResultVar:=[(.tmp 6)]
theorem qad.u1.ok (k:Nat) (x0:Ad) (x1:Int) (x2:Bool) (R:IC) (K:KF α) :
  eC k (qad.u1.c R) (za [(0, .ptr (some x0)), (1, .int .i64 x1), (2, .bool x2)]) K =
   qad.u1.f k (qad.f k) x0 x1 x2 (fun y0 y1 y2=>eC k R (za [(0, .ptr (some y0)), (2, .bool y1), (7, .ptr (some y2))]) K) (fun y0=>K .ret (fr38 y0)):=by kernel_rfl
theorem qad.u2.ok (k:Nat) (x0:Ad) (x1:Bool) (x2:Ad) (R:IC) (K:KF α) :
  eC k (qad.u2.c R) (za [(0, .ptr (some x0)), (2, .bool x1), (7, .ptr (some x2))]) K =
   qad.u2.f k x0 x1 x2 (fun y0 y1=>eC k R (za [(0, .ptr (some y0)), (7, .ptr (some y1))]) K):=by kernel_rfl
theorem qad.u3.ok (k:Nat) (x0 x1:Ad) (K:KF α) :
  eC k qad.u3.c (za [(0, .ptr (some x0)), (7, .ptr (some x1))]) K =
   qad.u3.f k x0 x1 (fun y0=>K .ret (fr38 y0)):=by kernel_rfl
theorem qad.u4.ok (k:Nat) (x0:Ad) (x1:Bool) (x2:Ad) (K:KF α) :
  eC k qad.u4.c (za [(0, .ptr (some x0)), (2, .bool x1), (7, .ptr (some x2))]) K =
   qad.u4.f k x0 x1 x2 (fun y0=>K .ret (fr38 y0)):=
 (qad.u2.ok k x0 x1 x2 qad.u3.c K).trans
  (congrArg (fun z=>qad.u2.f k x0 x1 x2 z) (funext fun y0=>(funext fun y1=>qad.u3.ok k y0 y1 K)))
theorem qad.u5.ok (k:Nat) (x0:Ad) (x1:Int) (x2:Bool) (K:KF α) :
  eC k qad.u5.c (za [(0, .ptr (some x0)), (1, .int .i64 x1), (2, .bool x2)]) K =
   qad.u5.f k (qad.f k) x0 x1 x2 (fun y0=>K .ret (fr38 y0)):=
 (qad.u1.ok k x0 x1 x2 qad.u4.c K).trans
  (congrArg (fun z=>qad.u1.f k (qad.f k) x0 x1 x2 z (fun y0=>K .ret (fr38 y0))) (funext fun y0=>(funext fun y1=>(funext fun y2=>qad.u4.ok k y0 y1 y2 K))))
theorem qad.ok (k:Nat) (x0:Ad) (x1:Int) (x2:Bool) (κ:Res->M α) :
  evF T (env k) k qad.c qad.res [.ptr (some x0), .int .i64 x1, .bool x2] κ = qad.f (k + 1) x0 x1 x2 (fun o0=>κ (.ret (.int .i64 o0))):=
 (qad.u5.ok k x0 x1 x2 (retK T qad.res κ)).trans (by kernel_rfl)
theorem qad.code:qad.c.code = zr Try.f40:=by kernel_rfl
noncomputable def qaw.c:IC:=qaw.u1.c
noncomputable def qaw.res:List ResultVar:=[(.tmp 4)]
theorem qaw.u1.ok (k:Nat) (x0:Sl) (x1:Bool) (K:KF α) :
  eC k qaw.u1.c (fr39 x0 x1) K =
   qaw.u1.f k x0 x1 (fun y0=>K .ret (fr19 y0)):=by kernel_rfl
theorem qaw.ok (k:Nat) (x0:Sl) (x1:Bool) (κ:Res->M α) :
  evF T (env k) k qaw.c qaw.res [.slice x0, .bool x1] κ = qaw.f (k + 1) x0 x1 (fun o0=>κ (.ret (.slice o0))):=
 (qaw.u1.ok k x0 x1 (retK T qaw.res κ)).trans (by kernel_rfl)
theorem qaw.code:qaw.c.code = zr Try.f22:=by kernel_rfl
noncomputable def qay.c:IC:=qay.u1.c
noncomputable def qay.res:List ResultVar:=[(.tmp 2)]
theorem qay.u1.ok (k:Nat) (x0:Sl) (K:KF α) :
  eC k qay.u1.c (fr25 x0) K =
   qay.u1.f k x0 (fun y0=>K .ret (fr26 y0)):=by kernel_rfl
theorem qay.ok (k:Nat) (x0:Sl) (κ:Res->M α) :
  evF T (env k) k qay.c qay.res [.slice x0] κ = qay.f (k + 1) x0 (fun o0=>κ (.ret (.slice o0))):=
 (qay.u1.ok k x0 (retK T qay.res κ)).trans (by kernel_rfl)
theorem qay.code:qay.c.code = zr Try.f9:=by kernel_rfl
noncomputable def qn.c:IC:=qn.u9.c
noncomputable def qn.res:List ResultVar:=[(.tmp 6)]
theorem qn.u1.ok (k:Nat) (x0 x1:Sl) (x2:Bool) (R:IC) (K:KF α) :
  eC k (qn.u1.c R) (fr40 x0 x1 x2) K =
   qn.u1.f k x0 x1 x2 (fun y0 y1 y2=>eC k R (fr40 y0 y1 y2) K) (fun y0=>K .ret (fr28 y0)):=by kernel_rfl
theorem qn.u2.ok (k:Nat) (x0 x1:Sl) (x2:Bool) (R:IC) (K:KF α) :
  eC k (qn.u2.c R) (fr40 x0 x1 x2) K =
   qn.u2.f k x0 x1 x2 (fun y0 y1 y2 y3=>eC k R (fr41 y0 y1 y2 y3) K):=by kernel_rfl
theorem qn.u3.ok (k:Nat) (x0 x1:Sl) (x2:Bool) (x3:Int) (K:KF α) :
  eC k qn.u3.c (fr41 x0 x1 x2 x3) K =
   qn.u3.f k x0 x1 x2 x3 (fun y0 y1 y2 y3=>K .normal (fr41 y0 y1 y2 y3)) (fun y0=>K .ret (fr28 y0)) (K (.exit 0) (za [])):=by kernel_rfl
theorem qn.u4.ls (k:Nat) (kr:Bool->M α) (kx0:M α) (j:Nat) (x0 x1:Sl) (x2:Bool) (x3:Int):qn.u4.l k kr kx0 (j + 1) x0 x1 x2 x3 =
 qn.u3.f k x0 x1 x2 x3 (fun y0 y1 y2 y3=>qn.u4.l k kr kx0 j y0 y1 y2 y3) kr kx0:=rfl
theorem qn.u4.okl (k:Nat) (K:KF α):∀ (j:Nat) (x0 x1:Sl) (x2:Bool) (x3:Int),
  zy (eC k qn.u3.c) [0, 1, 2, 7] j (fr41 x0 x1 x2 x3) K = qn.u4.l k (fun y0=>K .ret (fr28 y0)) (K (.exit 0) (za [])) j x0 x1 x2 x3
 | 0, _, _, _, _=>rfl
 | j + 1, x0, x1, x2, x3=>by
   have h:=qn.u3.ok k x0 x1 x2 x3 (seqK (fun ρ=>zy (eC k qn.u3.c) [0, 1, 2, 7] j ρ K) K)
   simp only [zh, zm, zn, ze, qn.u4.okl k K j] at h
   exact (zz (by kernel_rfl) h).trans (qn.u4.ls k (fun y0=>K .ret (fr28 y0)) (K (.exit 0) (za [])) j x0 x1 x2 x3).symm
theorem qn.u4.ok (k:Nat) (x0 x1:Sl) (x2:Bool) (x3:Int) (K:KF α) :
  eC k qn.u4.c (fr41 x0 x1 x2 x3) K =
   qn.u4.f k x0 x1 x2 x3 (fun y0=>K .ret (fr28 y0)) (K (.exit 0) (za [])):=
 jr.trans <| (ja (body:=eC k qn.u3.c) (keep:=[0, 1, 2, 7]) (ρ:=(fr41 x0 x1 x2 x3)) (ρ':=(fr41 x0 x1 x2 x3)) (by kernel_rfl) k K).trans (qn.u4.okl k K k x0 x1 x2 x3)
theorem qn.u5.ok (k:Nat) (x0 x1:Sl) (x2:Bool) (x3:Int) (K:KF α) :
  eC k qn.u5.c (fr41 x0 x1 x2 x3) K =
   qn.u5.f k x0 x1 x2 x3 (K .normal (za [])) (fun y0=>K .ret (fr28 y0)):=
 (zx.trans (qn.u4.ok k x0 x1 x2 x3 (js 0 K))).trans (by kernel_rfl)
theorem qn.u6.ok (k:Nat) (x0 x1:Sl) (x2:Bool) (K:KF α) :
  eC k qn.u6.c (fr40 x0 x1 x2) K =
   qn.u6.f k x0 x1 x2 (K .normal (za [])) (fun y0=>K .ret (fr28 y0)):=
 (qn.u2.ok k x0 x1 x2 qn.u5.c K).trans
  (congrArg (fun z=>qn.u2.f k x0 x1 x2 z) (funext fun y0=>(funext fun y1=>(funext fun y2=>(funext fun y3=>qn.u5.ok k y0 y1 y2 y3 K)))))
theorem qn.u7.ok (k:Nat) (K:KF α) :
  eC k qn.u7.c (za []) K =
   qn.u7.f k (fun y0=>K .ret (fr28 y0)):=by kernel_rfl
theorem qn.u8.ok (k:Nat) (x0 x1:Sl) (x2:Bool) (K:KF α) :
  eC k qn.u8.c (fr40 x0 x1 x2) K =
   qn.u8.f k x0 x1 x2 (fun y0=>K .ret (fr28 y0)):=
 by
  have h:=qn.u6.ok k x0 x1 x2 (seqK (fun ρ=>eC k qn.u7.c ρ K) K)
  simp only [ze, zh, zm, zn, qn.u7.ok] at h
  exact zt h
theorem qn.u9.ok (k:Nat) (x0 x1:Sl) (x2:Bool) (K:KF α) :
  eC k qn.u9.c (fr40 x0 x1 x2) K =
   qn.u9.f k x0 x1 x2 (fun y0=>K .ret (fr28 y0)):=
 (qn.u1.ok k x0 x1 x2 qn.u8.c K).trans
  (congrArg (fun z=>qn.u1.f k x0 x1 x2 z (fun y0=>K .ret (fr28 y0))) (funext fun y0=>(funext fun y1=>(funext fun y2=>qn.u8.ok k y0 y1 y2 K))))
theorem qn.ok (k:Nat) (x0 x1:Sl) (x2:Bool) (κ:Res->M α) :
  evF T (env k) k qn.c qn.res [.slice x0, .slice x1, .bool x2] κ = qn.f (k + 1) x0 x1 x2 (fun o0=>κ (.ret (.bool o0))):=
 (qn.u9.ok k x0 x1 x2 (retK T qn.res κ)).trans (by kernel_rfl)
theorem qn.code:qn.c.code = zr Try.f12:=by kernel_rfl
noncomputable def qbq.c:IC:=qbq.u1.c
noncomputable def qbq.res:List ResultVar:=[(.tmp 2)]
theorem qbq.u1.ok (k:Nat) (x0 x1 x2:Int) (x3:TX) (x4:Int) (K:KF α) :
  eC k qbq.u1.c (za [(0, .agg [.int .i64 x0, .int .i64 x1, .int .i64 x2, .str x3, .int .i64 x4])]) K =
   qbq.u1.f k x0 x1 x2 x3 x4 (fun y0=>K .ret (fr18 y0)):=by kernel_rfl
theorem qbq.ok (k:Nat) (x0 x1 x2:Int) (x3:TX) (x4:Int) (κ:Res->M α) :
  evF T (env k) k qbq.c qbq.res [.agg [.int .i64 x0, .int .i64 x1, .int .i64 x2, .str x3, .int .i64 x4]] κ = qbq.f (k + 1) x0 x1 x2 x3 x4 (fun o0=>κ (.ret (.bool o0))):=
 (qbq.u1.ok k x0 x1 x2 x3 x4 (retK T qbq.res κ)).trans (by kernel_rfl)
theorem qbq.code:qbq.c.code = zr Try.f26:=by kernel_rfl
noncomputable def qu.c:IC:=qu.u9.c
noncomputable def qu.res:List ResultVar:=[(.tmp 4)]
theorem qu.u1.ok (k:Nat) (x0:Sl) (R:IC) (K:KF α) :
  eC k (qu.u1.c R) (za [(0, .slice x0), (1, .func 26 [] [])]) K =
   qu.u1.f k x0 (fun y0=>eC k R (za [(0, .slice y0), (1, .func 26 [] [])]) K):=by kernel_rfl
theorem qu.u2.ok (k:Nat) (x0:Sl) (R:IC) (K:KF α) :
  eC k (qu.u2.c R) (za [(0, .slice x0), (1, .func 26 [] [])]) K =
   qu.u2.f k x0 (fun y0 y1 y2=>eC k R (za [(0, .slice y0), (1, .func 26 [] []), (7, .int .i64 y1), (8, .int .i64 y2)]) K):=by kernel_rfl
theorem qu.u3.ok (k:Nat) (x0:Sl) (x1 x2:Int) (K:KF α) :
  eC k qu.u3.c (za [(0, .slice x0), (1, .func 26 [] []), (7, .int .i64 x1), (8, .int .i64 x2)]) K =
   qu.u3.f k x0 x1 x2 (fun y0 y1 y2=>K .normal (za [(0, .slice y0), (1, .func 26 [] []), (7, .int .i64 y1), (8, .int .i64 y2)])) (fun y0=>K .ret (fr1 y0)) (K (.exit 0) (za [])):=by kernel_rfl
theorem qu.u4.ls (k:Nat) (kr:Int->M α) (kx0:M α) (j:Nat) (x0:Sl) (x1 x2:Int):qu.u4.l k kr kx0 (j + 1) x0 x1 x2 =
 qu.u3.f k x0 x1 x2 (fun y0 y1 y2=>qu.u4.l k kr kx0 j y0 y1 y2) kr kx0:=rfl
theorem qu.u4.okl (k:Nat) (K:KF α):∀ (j:Nat) (x0:Sl) (x1 x2:Int),
  zy (eC k qu.u3.c) [0, 1, 7, 8] j (za [(0, .slice x0), (1, .func 26 [] []), (7, .int .i64 x1), (8, .int .i64 x2)]) K = qu.u4.l k (fun y0=>K .ret (fr1 y0)) (K (.exit 0) (za [])) j x0 x1 x2
 | 0, _, _, _=>rfl
 | j + 1, x0, x1, x2=>by
   have h:=qu.u3.ok k x0 x1 x2 (seqK (fun ρ=>zy (eC k qu.u3.c) [0, 1, 7, 8] j ρ K) K)
   simp only [zh, zm, zn, ze, qu.u4.okl k K j] at h
   exact (zz (by kernel_rfl) h).trans (qu.u4.ls k (fun y0=>K .ret (fr1 y0)) (K (.exit 0) (za [])) j x0 x1 x2).symm
theorem qu.u4.ok (k:Nat) (x0:Sl) (x1 x2:Int) (K:KF α) :
  eC k qu.u4.c (za [(0, .slice x0), (1, .func 26 [] []), (7, .int .i64 x1), (8, .int .i64 x2)]) K =
   qu.u4.f k x0 x1 x2 (fun y0=>K .ret (fr1 y0)) (K (.exit 0) (za [])):=
 jr.trans <| (ja (body:=eC k qu.u3.c) (keep:=[0, 1, 7, 8]) (ρ:=(za [(0, .slice x0), (1, .func 26 [] []), (7, .int .i64 x1), (8, .int .i64 x2)])) (ρ':=(za [(0, .slice x0), (1, .func 26 [] []), (7, .int .i64 x1), (8, .int .i64 x2)])) (by kernel_rfl) k K).trans (qu.u4.okl k K k x0 x1 x2)
theorem qu.u5.ok (k:Nat) (x0:Sl) (x1 x2:Int) (K:KF α) :
  eC k qu.u5.c (za [(0, .slice x0), (1, .func 26 [] []), (7, .int .i64 x1), (8, .int .i64 x2)]) K =
   qu.u5.f k x0 x1 x2 (K .normal (za [])) (fun y0=>K .ret (fr1 y0)):=
 (zx.trans (qu.u4.ok k x0 x1 x2 (js 0 K))).trans (by kernel_rfl)
theorem qu.u6.ok (k:Nat) (x0:Sl) (K:KF α) :
  eC k qu.u6.c (za [(0, .slice x0), (1, .func 26 [] [])]) K =
   qu.u6.f k x0 (K .normal (za [])) (fun y0=>K .ret (fr1 y0)):=
 (qu.u2.ok k x0 qu.u5.c K).trans
  (congrArg (fun z=>qu.u2.f k x0 z) (funext fun y0=>(funext fun y1=>(funext fun y2=>qu.u5.ok k y0 y1 y2 K))))
theorem qu.u7.ok (k:Nat) (K:KF α) :
  eC k qu.u7.c (za []) K =
   qu.u7.f k (fun y0=>K .ret (fr1 y0)):=by kernel_rfl
theorem qu.u8.ok (k:Nat) (x0:Sl) (K:KF α) :
  eC k qu.u8.c (za [(0, .slice x0), (1, .func 26 [] [])]) K =
   qu.u8.f k x0 (fun y0=>K .ret (fr1 y0)):=
 by
  have h:=qu.u6.ok k x0 (seqK (fun ρ=>eC k qu.u7.c ρ K) K)
  simp only [ze, zh, zm, zn, qu.u7.ok] at h
  exact zt h
theorem qu.u9.ok (k:Nat) (x0:Sl) (K:KF α) :
  eC k qu.u9.c (za [(0, .slice x0), (1, .func 26 [] [])]) K =
   qu.u9.f k x0 (fun y0=>K .ret (fr1 y0)):=
 (qu.u1.ok k x0 qu.u8.c K).trans
  (congrArg (fun z=>qu.u1.f k x0 z) (funext fun y0=>qu.u8.ok k y0 K))
theorem qu.ok (k:Nat) (x0:Sl) (κ:Res->M α) :
  evF T (env k) k qu.c qu.res [.slice x0, .func 26 [] []] κ = qu.f (k + 1) x0 (fun o0=>κ (.ret (.int .i64 o0))):=
 (qu.u9.ok k x0 (retK T qu.res κ)).trans (by kernel_rfl)
theorem qu.code:qu.c.code = zr Try.f44:=by kernel_rfl
noncomputable def qbn.c:IC:=qbn.u1.c
noncomputable def qbn.res:List ResultVar:=[(.tmp 4)]
theorem qbn.u1.ok (k:Nat) (x0:Sl) (K:KF α) :
  eC k qbn.u1.c (za [(0, .slice x0), (1, .func 26 [] [])]) K =
   qbn.u1.f k x0 (fun y0=>K .ret (fr21 y0)):=by kernel_rfl
theorem qbn.ok (k:Nat) (x0:Sl) (κ:Res->M α) :
  evF T (env k) k qbn.c qbn.res [.slice x0, .func 26 [] []] κ = qbn.f (k + 1) x0 (fun o0=>κ (.ret (.bool o0))):=
 (qbn.u1.ok k x0 (retK T qbn.res κ)).trans (by kernel_rfl)
theorem qbn.code:qbn.c.code = zr Try.f25:=by kernel_rfl
noncomputable def qap.c:IC:=qap.u1.c
noncomputable def qap.res:List ResultVar:=[(.tmp 2)]
theorem qap.u1.ok (k:Nat) (x0:Sl) (K:KF α) :
  eC k qap.u1.c (fr25 x0) K =
   qap.u1.f k x0 (fun y0=>K .ret (fr18 y0)):=by kernel_rfl
theorem qap.ok (k:Nat) (x0:Sl) (κ:Res->M α) :
  evF T (env k) k qap.c qap.res [.slice x0] κ = qap.f (k + 1) x0 (fun o0=>κ (.ret (.bool o0))):=
 (qap.u1.ok k x0 (retK T qap.res κ)).trans (by kernel_rfl)
theorem qap.code:qap.c.code = zr Try.f15:=by kernel_rfl
noncomputable def qbi.c:IC:=qbi.u1.c
noncomputable def qbi.res:List ResultVar:=[(.tmp 0)]
theorem qbi.u1.ok (k:Nat) (K:KF α) :
  eC k qbi.u1.c (za []) K =
   qbi.u1.f k (fun y0=>K .ret (fr42 y0)):=by kernel_rfl
theorem qbi.ok (k:Nat) (κ:Res->M α) :
  evF T (env k) k qbi.c qbi.res [] κ = qbi.f (k + 1) (fun o0=>κ (.ret (.bool o0))):=
 (qbi.u1.ok k (retK T qbi.res κ)).trans (by kernel_rfl)
theorem qbi.code:qbi.c.code = zr Try.f8:=by kernel_rfl
noncomputable def qbr.c:IC:=qbr.u1.c
noncomputable def qbr.res:List ResultVar:=[(.tmp 2)]
theorem qbr.u1.ok (k:Nat) (x0:Sl) (K:KF α) :
  eC k qbr.u1.c (fr25 x0) K =
   qbr.u1.f k x0 (fun y0=>K .ret (fr26 y0)):=by kernel_rfl
theorem qbr.ok (k:Nat) (x0:Sl) (κ:Res->M α) :
  evF T (env k) k qbr.c qbr.res [.slice x0] κ = qbr.f (k + 1) x0 (fun o0=>κ (.ret (.slice o0))):=
 (qbr.u1.ok k x0 (retK T qbr.res κ)).trans (by kernel_rfl)
theorem qbr.code:qbr.c.code = zr Try.f10:=by kernel_rfl
noncomputable def qba.c:IC:=qba.u1.c
noncomputable def qba.res:List ResultVar:=[(.tmp 2)]
theorem qba.u1.ok (k:Nat) (x0:Sl) (K:KF α) :
  eC k qba.u1.c (fr25 x0) K =
   qba.u1.f k x0 (fun y0=>K .ret (fr26 y0)):=by kernel_rfl
theorem qba.ok (k:Nat) (x0:Sl) (κ:Res->M α) :
  evF T (env k) k qba.c qba.res [.slice x0] κ = qba.f (k + 1) x0 (fun o0=>κ (.ret (.slice o0))):=
 (qba.u1.ok k x0 (retK T qba.res κ)).trans (by kernel_rfl)
theorem qba.code:qba.c.code = zr Try.f11:=by kernel_rfl
noncomputable def qp.c:IC:=qp.u9.c
noncomputable def qp.res:List ResultVar:=[(.tmp 2)]
theorem qp.u1.ok (k:Nat) (x0:Sl) (R:IC) (K:KF α) :
  eC k (qp.u1.c R) (fr25 x0) K =
   qp.u1.f k x0 (fun y0=>eC k R (fr35 y0) K):=by kernel_rfl
theorem qp.u2.ok (k:Nat) (x0:Sl) (R:IC) (K:KF α) :
  eC k (qp.u2.c R) (fr35 x0) K =
   qp.u2.f k x0 (fun y0 y1=>eC k R (fr43 y0 y1) K):=by kernel_rfl
theorem qp.u3.ok (k:Nat) (x0:Sl) (x1:Int) (K:KF α) :
  eC k qp.u3.c (fr43 x0 x1) K =
   qp.u3.f k x0 x1 (fun y0 y1=>K .normal (fr43 y0 y1)) (fun y0=>K (.exit 0) (fr35 y0)):=by kernel_rfl
theorem qp.u4.ls (k:Nat) (kx0:Sl->M α) (j:Nat) (x0:Sl) (x1:Int):qp.u4.l k kx0 (j + 1) x0 x1 =
 qp.u3.f k x0 x1 (fun y0 y1=>qp.u4.l k kx0 j y0 y1) kx0:=rfl
theorem qp.u4.okl (k:Nat) (K:KF α):∀ (j:Nat) (x0:Sl) (x1:Int),
  zy (eC k qp.u3.c) [3, 4] j (fr43 x0 x1) K = qp.u4.l k (fun y0=>K (.exit 0) (fr35 y0)) j x0 x1
 | 0, _, _=>rfl
 | j + 1, x0, x1=>by
   have h:=qp.u3.ok k x0 x1 (seqK (fun ρ=>zy (eC k qp.u3.c) [3, 4] j ρ K) K)
   simp only [zh, zm, zn, ze, qp.u4.okl k K j] at h
   exact (zz (by kernel_rfl) h).trans (qp.u4.ls k (fun y0=>K (.exit 0) (fr35 y0)) j x0 x1).symm
theorem qp.u4.ok (k:Nat) (x0:Sl) (x1:Int) (K:KF α) :
  eC k qp.u4.c (fr43 x0 x1) K =
   qp.u4.f k x0 x1 (fun y0=>K (.exit 0) (fr35 y0)):=
 jr.trans <| (ja (body:=eC k qp.u3.c) (keep:=[3, 4]) (ρ:=(fr43 x0 x1)) (ρ':=(fr43 x0 x1)) (by kernel_rfl) k K).trans (qp.u4.okl k K k x0 x1)
theorem qp.u5.ok (k:Nat) (x0:Sl) (x1:Int) (K:KF α) :
  eC k qp.u5.c (fr43 x0 x1) K =
   qp.u5.f k x0 x1 (fun y0=>K .normal (fr35 y0)):=
 (zx.trans (qp.u4.ok k x0 x1 (js 0 K))).trans (by kernel_rfl)
theorem qp.u6.ok (k:Nat) (x0:Sl) (K:KF α) :
  eC k qp.u6.c (fr35 x0) K =
   qp.u6.f k x0 (fun y0=>K .normal (fr35 y0)):=
 (qp.u2.ok k x0 qp.u5.c K).trans
  (congrArg (fun z=>qp.u2.f k x0 z) (funext fun y0=>(funext fun y1=>qp.u5.ok k y0 y1 K)))
theorem qp.u7.ok (k:Nat) (x0:Sl) (K:KF α) :
  eC k qp.u7.c (fr35 x0) K =
   qp.u7.f k x0 (fun y0=>K .ret (fr26 y0)):=by kernel_rfl
theorem qp.u8.ok (k:Nat) (x0:Sl) (K:KF α) :
  eC k qp.u8.c (fr35 x0) K =
   qp.u8.f k x0 (fun y0=>K .ret (fr26 y0)):=
 by
  have h:=qp.u6.ok k x0 (seqK (fun ρ=>eC k qp.u7.c ρ K) K)
  simp only [ze, zh, zm, zn, qp.u7.ok] at h
  exact zt h
theorem qp.u9.ok (k:Nat) (x0:Sl) (K:KF α) :
  eC k qp.u9.c (fr25 x0) K =
   qp.u9.f k x0 (fun y0=>K .ret (fr26 y0)):=
 (qp.u1.ok k x0 qp.u8.c K).trans
  (congrArg (fun z=>qp.u1.f k x0 z) (funext fun y0=>qp.u8.ok k y0 K))
theorem qp.ok (k:Nat) (x0:Sl) (κ:Res->M α) :
  evF T (env k) k qp.c qp.res [.slice x0] κ = qp.f (k + 1) x0 (fun o0=>κ (.ret (.slice o0))):=
 (qp.u9.ok k x0 (retK T qp.res κ)).trans (by kernel_rfl)
theorem qp.code:qp.c.code = zr Try.f42:=by kernel_rfl
noncomputable def qbb.c:IC:=qbb.u1.c
noncomputable def qbb.res:List ResultVar:=[(.tmp 2)]
theorem qbb.u1.ok (k:Nat) (x0:Int) (K:KF α) :
  eC k qbb.u1.c (fr30 x0) K =
   qbb.u1.f k x0 (fun y0=>K .ret (fr3 y0)):=by kernel_rfl
theorem qbb.ok (k:Nat) (x0:Int) (κ:Res->M α) :
  evF T (env k) k qbb.c qbb.res [.int .i64 x0] κ = qbb.f (k + 1) x0 (fun o0=>κ (.ret (.int .i64 o0))):=
 (qbb.u1.ok k x0 (retK T qbb.res κ)).trans (by kernel_rfl)
theorem qbb.code:qbb.c.code = zr Try.f72:=by kernel_rfl
noncomputable def qj.c:IC:=qj.u14.c
noncomputable def qj.res:List ResultVar:=[(.tmp 2)]
theorem qj.u1.ok (k:Nat) (x0:TX) (R:IC) (K:KF α) :
  eC k (qj.u1.c R) (fr11 x0) K =
   qj.u1.f k x0 (fun y0=>eC k R (fr11 y0) K) (fun y0=>K .ret (fr18 y0)):=by kernel_rfl
theorem qj.u2.ok (k:Nat) (x0:TX) (R:IC) (K:KF α) :
  eC k (qj.u2.c R) (fr11 x0) K =
   qj.u2.f k x0 (fun y0 y1=>eC k R (fr44 y0 y1) K):=by kernel_rfl
theorem qj.u3.ok (k:Nat) (x0:TX) (x1:Int) (R:IC) (K:KF α) :
  eC k (qj.u3.c R) (fr44 x0 x1) K =
   qj.u3.f k x0 x1 (fun y0 y1=>eC k R (fr44 y0 y1) K) (K (.exit 0) (za [])):=by kernel_rfl
theorem qj.u4.ok (k:Nat) (x0:TX) (x1:Int) (K:KF α) :
  eC k qj.u4.c (fr44 x0 x1) K =
   qj.u4.f k x0 x1 (fun y0 y1=>K .normal (fr44 y0 y1)) (fun y0=>K .ret (fr18 y0)):=by kernel_rfl
theorem qj.u5.ok (k:Nat) (x0:TX) (x1:Int) (K:KF α) :
  eC k qj.u5.c (fr44 x0 x1) K =
   qj.u5.f k x0 x1 (fun y0 y1=>K .normal (fr44 y0 y1)) (fun y0=>K .ret (fr18 y0)):=
 (zx.trans (qj.u4.ok k x0 x1 (js 1 K))).trans (by kernel_rfl)
theorem qj.u6.ok (k:Nat) (x0:TX) (x1:Int) (K:KF α) :
  eC k qj.u6.c (fr44 x0 x1) K =
   qj.u6.f k x0 x1 (fun y0 y1=>K .normal (fr44 y0 y1)):=by kernel_rfl
theorem qj.u7.ok (k:Nat) (x0:TX) (x1:Int) (K:KF α) :
  eC k qj.u7.c (fr44 x0 x1) K =
   qj.u7.f k x0 x1 (fun y0 y1=>K .normal (fr44 y0 y1)) (fun y0=>K .ret (fr18 y0)):=
 by
  have h:=qj.u5.ok k x0 x1 (seqK (fun ρ=>eC k qj.u6.c ρ K) K)
  simp only [ze, zh, zm, zn, qj.u6.ok] at h
  exact zt h
theorem qj.u8.ok (k:Nat) (x0:TX) (x1:Int) (K:KF α) :
  eC k qj.u8.c (fr44 x0 x1) K =
   qj.u8.f k x0 x1 (fun y0 y1=>K .normal (fr44 y0 y1)) (fun y0=>K .ret (fr18 y0)) (K (.exit 0) (za [])):=
 (qj.u3.ok k x0 x1 qj.u7.c K).trans
  (congrArg (fun z=>qj.u3.f k x0 x1 z (K (.exit 0) (za []))) (funext fun y0=>(funext fun y1=>qj.u7.ok k y0 y1 K)))
theorem qj.u9.ls (k:Nat) (kr:Bool->M α) (kx0:M α) (j:Nat) (x0:TX) (x1:Int):qj.u9.l k kr kx0 (j + 1) x0 x1 =
 qj.u8.f k x0 x1 (fun y0 y1=>qj.u9.l k kr kx0 j y0 y1) kr kx0:=rfl
theorem qj.u9.okl (k:Nat) (K:KF α):∀ (j:Nat) (x0:TX) (x1:Int),
  zy (eC k qj.u8.c) [0, 3] j (fr44 x0 x1) K = qj.u9.l k (fun y0=>K .ret (fr18 y0)) (K (.exit 0) (za [])) j x0 x1
 | 0, _, _=>rfl
 | j + 1, x0, x1=>by
   have h:=qj.u8.ok k x0 x1 (seqK (fun ρ=>zy (eC k qj.u8.c) [0, 3] j ρ K) K)
   simp only [zh, zm, zn, ze, qj.u9.okl k K j] at h
   exact (zz (by kernel_rfl) h).trans (qj.u9.ls k (fun y0=>K .ret (fr18 y0)) (K (.exit 0) (za [])) j x0 x1).symm
theorem qj.u9.ok (k:Nat) (x0:TX) (x1:Int) (K:KF α) :
  eC k qj.u9.c (fr44 x0 x1) K =
   qj.u9.f k x0 x1 (fun y0=>K .ret (fr18 y0)) (K (.exit 0) (za [])):=
 jr.trans <| (ja (body:=eC k qj.u8.c) (keep:=[0, 3]) (ρ:=(fr44 x0 x1)) (ρ':=(fr44 x0 x1)) (by kernel_rfl) k K).trans (qj.u9.okl k K k x0 x1)
theorem qj.u10.ok (k:Nat) (x0:TX) (x1:Int) (K:KF α) :
  eC k qj.u10.c (fr44 x0 x1) K =
   qj.u10.f k x0 x1 (K .normal (za [])) (fun y0=>K .ret (fr18 y0)):=
 (zx.trans (qj.u9.ok k x0 x1 (js 0 K))).trans (by kernel_rfl)
theorem qj.u11.ok (k:Nat) (x0:TX) (K:KF α) :
  eC k qj.u11.c (fr11 x0) K =
   qj.u11.f k x0 (K .normal (za [])) (fun y0=>K .ret (fr18 y0)):=
 (qj.u2.ok k x0 qj.u10.c K).trans
  (congrArg (fun z=>qj.u2.f k x0 z) (funext fun y0=>(funext fun y1=>qj.u10.ok k y0 y1 K)))
theorem qj.u12.ok (k:Nat) (K:KF α) :
  eC k qj.u12.c (za []) K =
   qj.u12.f k (fun y0=>K .ret (fr18 y0)):=by kernel_rfl
theorem qj.u13.ok (k:Nat) (x0:TX) (K:KF α) :
  eC k qj.u13.c (fr11 x0) K =
   qj.u13.f k x0 (fun y0=>K .ret (fr18 y0)):=
 by
  have h:=qj.u11.ok k x0 (seqK (fun ρ=>eC k qj.u12.c ρ K) K)
  simp only [ze, zh, zm, zn, qj.u12.ok] at h
  exact zt h
theorem qj.u14.ok (k:Nat) (x0:TX) (K:KF α) :
  eC k qj.u14.c (fr11 x0) K =
   qj.u14.f k x0 (fun y0=>K .ret (fr18 y0)):=
 (qj.u1.ok k x0 qj.u13.c K).trans
  (congrArg (fun z=>qj.u1.f k x0 z (fun y0=>K .ret (fr18 y0))) (funext fun y0=>qj.u13.ok k y0 K))
theorem qj.ok (k:Nat) (x0:TX) (κ:Res->M α) :
  evF T (env k) k qj.c qj.res [.str x0] κ = qj.f (k + 1) x0 (fun o0=>κ (.ret (.bool o0))):=
 (qj.u14.ok k x0 (retK T qj.res κ)).trans (by kernel_rfl)
theorem qj.code:qj.c.code = zr Try.f79:=by kernel_rfl
noncomputable def qbd.c:IC:=qbd.u1.c
noncomputable def qbd.res:List ResultVar:=[(.tmp 2)]
theorem qbd.u1.ok (k:Nat) (x0:TX) (K:KF α) :
  eC k qbd.u1.c (fr11 x0) K =
   qbd.u1.f k x0 (fun y0=>K .ret (fr18 y0)):=by kernel_rfl
theorem qbd.ok (k:Nat) (x0:TX) (κ:Res->M α) :
  evF T (env k) k qbd.c qbd.res [.str x0] κ = qbd.f (k + 1) x0 (fun o0=>κ (.ret (.bool o0))):=
 (qbd.u1.ok k x0 (retK T qbd.res κ)).trans (by kernel_rfl)
theorem qbd.code:qbd.c.code = zr Try.f80:=by kernel_rfl
end
end Go.Ab.S7
