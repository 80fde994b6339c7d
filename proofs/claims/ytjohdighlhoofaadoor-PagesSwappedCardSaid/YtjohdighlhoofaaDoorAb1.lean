import GoSem.Core.Code
import GoSem.Core.Region
import GoSem.Core.Program
import GoSem.Core.View
import GoSem.Op.String
set_option linter.unusedVariables false
set_option linter.unusedSimpArgs false
namespace Go.Ab
structure Ad where
 id:Nat
 off:Nat
 deriving DecidableEq, Inhabited
def Ad.add (a:Ad) (n:Nat):Ad:=⟨a.id, a.off + n⟩
structure Sl where
 ad:Option Ad
 len:Nat
 cap:Nat
 loose:Option Nat
 deriving DecidableEq, Inhabited
def Sl.nil:Sl:=⟨none, 0, 0, none⟩
inductive V where
 | undef
 | bool (b:Bool)
 | int (k:IntKind) (n:Int)
 | str (s:List UInt8)
 | ptr (a:Option Ad)
 | slice (s:Sl)
 | map (r:Option Nat)
 | func (f:Nat) (first cap:List V)
 | nilFunc
 | iface (t:Nat) (v:V)
 | nilIface
 | agg (cs:List V)
 | tuple (vs:List V)
 deriving Inhabited
def V.cells:V->List V
 | .agg cs=>cs
 | v=>[v]
def oneV:V->Bool
 | .undef | .agg _ | .tuple _=>false
 | _=>true
def okP:V->Bool
 | .undef | .tuple _=>false
 | _=>true
inductive Blk where
 | cells (cs:List V) (own:Bool)
 | cellsT (t:Nat) (full:Bool) (cs:List V)
 | map (es:List (V × V))
 deriving Inhabited
structure H where
 next:Nat
 get:Nat->Option Blk
def H.put (h:H) (i:Nat) (b:Option Blk):H:=⟨h.next, fun j=>cond (Nat.beq j i) b (h.get j)⟩
def H.push (h:H) (b:Blk):H:=⟨h.next + 1, fun j=>cond (Nat.beq j h.next) (some b) (h.get j)⟩
def H.cell (h:H) (a:Ad):Option V:=
 match h.get a.id with
 | some (.cells cs _)=>cs[a.off]?
 | some (.cellsT _ _ cs)=>cs[a.off]?
 | _=>none
def H.row (h:H) (a:Ad) (n:Nat):Option (List V):=
 match h.get a.id with
 | some (.cells cs _)=>cond (Nat.ble (a.off + n) cs.length) (some ((cs.drop a.off).take n)) none
 | _=>none
def H.setCell (h:H) (a:Ad) (v:V):Option H:=
 match h.get a.id with
 | some (.cells cs true)=>cond (oneV v && Nat.blt a.off cs.length) (some (h.put a.id (some (.cells (cs.set a.off v) true)))) none
 | some (.cellsT t f cs)=>cond (oneV v && Nat.blt a.off cs.length) (some (h.put a.id (some (.cellsT t f (cs.set a.off v))))) none
 | _=>none
def over (cs:List V) (off:Nat) (vs:List V):List V:=cs.take off ++ (vs ++ cs.drop (off + vs.length))
def H.setRow (h:H) (a:Ad) (vs:List V):Option H:=
 match h.get a.id with
 | some (.cells cs true)=>cond (Nat.ble (a.off + vs.length) cs.length) (some (h.put a.id (some (.cells (over cs a.off vs) true)))) none
 | _=>none
def H.own (h:H) (i:Nat):Bool:=match h.get i with | some (.cells _ b)=>b | _=>false
inductive Res where
 | ret (v:V)
 | pan (v:V)
abbrev M (α:Type):=H->Option α
def fail {α:Type}:M α:=fun _=>none
def yz:IntKind->IntKind->Bool
 | .i8, .i8 | .i16, .i16 | .i32, .i32 | .i64, .i64 | .u8, .u8 | .u16, .u16 | .u32, .u32 | .u64, .u64=>true
 | _, _=>false
section prims
variable {α:Type}
def asI (k:IntKind) (v:V) (K:Int->M α):M α:=match v with | .int j n=>cond (yz j k) (K n) fail | _=>fail
def asB (v:V) (K:Bool->M α):M α:=match v with | .bool b=>K b | _=>fail
def zcs (v:V) (K:List UInt8->M α):M α:=match v with | .str s=>K s | _=>fail
def asP (v:V) (K:Option Ad->M α):M α:=match v with | .ptr a=>K a | _=>fail
def asS (v:V) (K:Sl->M α):M α:=match v with | .slice s=>K s | _=>fail
def asMap (v:V) (K:Option Nat->M α):M α:=match v with | .map r=>K r | _=>fail
def asAgg (v:V) (K:List V->M α):M α:=match v with | .agg s=>K s | _=>fail
def asSome {β:Type} (a:Option β) (K:β->M α):M α:=match a with | some x=>K x | none=>fail
def asNil (v:V) (K:Bool->M α):M α:=match v with | .nilIface=>K true | .iface _ _=>K false | _=>fail
def bcase (b:Bool) (f:Bool->M α):M α:=cond b (f true) (f false)
def need (b:Bool) (K:M α):M α:=cond b K fail
def ld (a:Ad) (K:V->M α):M α:=fun h=>match h.cell a with | some v=>K v h | none=>none
def st1 (a:Ad) (v:V) (K:M α):M α:=fun h=>match h.setCell a v with | some h'=>K h' | none=>none
def stL (a:Ad):Nat->List V->M α->M α
 | _, [], K=>K
 | i, v :: vs, K=>st1 (a.add i) v (stL a (i + 1) vs K)
def new (cs:List V) (K:Ad->M α):M α:=need (cs.all oneV) fun h=>K ⟨h.next, 0⟩ (h.push (.cells cs true))
def newT (t:Nat) (cs:List V) (K:Ad->M α):M α:=need (cs.all oneV) fun h=>K ⟨h.next, 0⟩ (h.push (.cellsT t true cs))
def ziw (a:Ad) (n:Nat) (K:List V->M α):M α:=fun h=>match h.row a n with | some cs=>K cs h | none=>none
def zkk (a:Ad) (vs:List V) (K:M α):M α:=fun h=>match h.setRow a vs with | some h'=>K h' | none=>none
inductive Sh where
 | int (k:IntKind) | bool | str | ptr | slice | map | any
 deriving DecidableEq
def asSh (s:Sh) (v:V) (K:V->M α):M α:=
 match s with
 | .int k=>asI k v fun n=>K (.int k n)
 | .bool=>asB v fun n=>K (.bool n)
 | .str=>zcs v fun n=>K (.str n)
 | .ptr=>asP v fun n=>K (.ptr n)
 | .slice=>asS v fun n=>K (.slice n)
 | .map=>asMap v fun n=>K (.map n)
 | .any=>K v
def ldSh (s:Sh) (a:Ad) (K:V->M α):M α:=ld a fun v=>asSh s v K
def zah (a:Ad):Nat->List Sh->(List V->M α)->M α
 | _, [], K=>K []
 | i, s :: ss, K=>ldSh s (a.add i) fun v=>zah a (i + 1) ss fun vs=>K (v :: vs)
def ldI (k:IntKind) (a:Ad) (K:Int->M α):M α:=ld a fun v=>asI k v K
def ldStr (a:Ad) (K:List UInt8->M α):M α:=ld a fun v=>zcs v K
def ldP (a:Ad) (K:Option Ad->M α):M α:=ld a fun v=>asP v K
def ldS (a:Ad) (K:Sl->M α):M α:=ld a fun v=>asS v K
def asAll:List Sh->List V->(List V->M α)->M α
 | [], [], K=>K []
 | s :: ss, v :: vs, K=>asSh s v fun v=>asAll ss vs fun vs=>K (v :: vs)
 | _, _, _=>fail
def mk (isAgg:Bool) (cs:List V) (K:V->M α):M α:=cond isAgg (K (.agg cs)) (match cs with | [v]=>K v | _=>fail)
def cat (a b:List UInt8) (K:List UInt8->M α):M α:=need (Nat.ble (a.length + b.length) 4611686018427387904) (K (a ++ b))
def idxStr (s:List UInt8) (i:Int) (K:Int->M α):M α:=need (decide (0≤i)) (match s[i.toNat]? with | some b=>K (b.toNat:Int) | none=>fail)
def idxSl (s:Sl) (i:Int) (size:Nat) (K:Ad->M α):M α:=
 asSome s.ad fun a=>need (decide (0≤i)) (need (decide (i < (s.len:Int))) (K (a.add (i.toNat * size))))
def bnd (x:Int) (y:Nat) (K:Nat->M α):M α:=need (decide (0≤x)) (need (decide (x≤(y:Int))) (K x.toNat))
def cutStr (s:List UInt8) (lo hi:Option Int) (K:List UInt8->M α):M α:=
 let top (K:Nat->M α):M α:=match hi with | some x=>bnd x s.length K | none=>K s.length
 top fun h=>(match lo with | some x=>bnd x h (fun l=>K ((s.take h).drop l)) | none=>K (s.take h))
def Sl.from (s:Sl) (l m size:Nat):Option Ad:=
 match s.loose with
 | none=>cond (Nat.beq m l) s.ad (s.ad.map (·.add (l * size)))
 | some _=>s.ad.map (·.add (l * size))
def cutSl (s:Sl) (size:Nat) (lo hi mx:Option Int) (K:Sl->M α):M α:=
 match mx with
 | some x=>bnd x s.cap fun m=>(match hi with
  | some x=>bnd x m fun h=>(match lo with
   | some x=>bnd x h (fun l=>need (s.loose.isNone || Nat.beq l 0) (K ⟨s.from l m size, h - l, m - l, none⟩))
   | none=>K ⟨s.from 0 m size, h, m, none⟩)
  | none=>fail)
 | none=>need (match s.loose with | none=>true | some e=>Nat.beq e size) <|
  let top (K:Nat->M α):M α:=match hi with | some x=>bnd x s.cap K | none=>K s.len
  top fun h=>(match lo with
   | some x=>bnd x h (fun l=>K ⟨s.from l s.cap size, h - l, s.cap - l, s.loose⟩)
   | none=>K ⟨s.from 0 s.cap size, h, s.cap, s.loose⟩)
def rdSl (s:Sl) (size:Nat) (K:List V->M α):M α:=
 match s.ad with | some a=>ziw a (s.len * size) K | none=>need (Nat.beq s.len 0) (K [])
def zdn (s:Sl) (size bytes n:Nat) (more:List V) (K:Sl->M α):M α:=
 need (Nat.beq more.length (n * size)) <|
 match s.loose with
 | none=>
  cond (Nat.ble (s.len + n) s.cap)
   (match s.ad with
    | some a=>zkk (a.add (s.len * size)) more (K ⟨s.ad, s.len + n, s.cap, none⟩)
    | none=>K ⟨none, s.len + n, s.cap, none⟩)
   (need (Nat.blt 0 bytes && Nat.ble ((s.len + n + (s.len + n) / 4 + 512) * bytes) 281474976710656) (rdSl s size fun old=>
    fun h=>K ⟨some ⟨h.next, 0⟩, s.len + n, s.len + n, some size⟩ (h.push (.cells (old ++ more) true))))
 | some e=>
  cond (Nat.beq n 0) (K s) <|
  need (Nat.beq e size) <| need (Nat.blt 0 bytes && Nat.ble ((s.len + n + (s.len + n) / 4 + 512) * bytes) 281474976710656) <|
  match s.ad with
  | none=>fail
  | some a=>ziw a (s.len * size) fun old=>fun h=>
   cond (h.own a.id) (K ⟨some ⟨h.next, 0⟩, s.len + n, s.len + n, some size⟩ ((h.put a.id none).push (.cells (old ++ more) true))) none
def bytesOf:List V->Option (List UInt8)
 | []=>some []
 | .int .u8 n :: vs=>(bytesOf vs).map (UInt8.ofNat n.toNat :: ·)
 | _=>none
def zm (s:List UInt8):List V:=s.map fun b=>.int .u8 (b.toNat:Int)
def zih (s:List UInt8) (K:Ad->M α):M α:=fun h=>K ⟨h.next, 0⟩ (h.push (.cells (zm s) true))
def ownK (s:Sl) (K:M α):M α:=need (Nat.blt 0 s.cap) <| match s.ad with | some a=>fun h=>cond (h.own a.id) (K h) none | none=>fail
def jk (s:Sl) (size bytes:Nat) (x:Sl) (K:Sl->M α):M α:=rdSl x size fun more=>zdn s size bytes x.len more K
def zme (s:Sl) (x:List UInt8) (K:Sl->M α):M α:=zdn s 1 1 x.length (zm x) K
def zho (el:Nat) (s:Sl) (x:List UInt8) (K:Sl->M α):M α:=fun h=>
 cond (Nat.beq x.length 0) (K s h) <|
 cond (Nat.ble (s.len + x.length + (s.len + x.length) / 4 + 512) 281474976710656)
  (match s.ad with
   | none=>K ⟨some ⟨h.next, 0⟩, s.len + x.length, s.len + x.length, some 1⟩ (h.push (.cellsT el false (zm x)))
   | some a=>match h.get a.id with
    | some (.cellsT t false cs)=>cond (Nat.beq t el && (Nat.beq a.off 0 && (Nat.beq cs.length s.len && decide (s.loose = some 1))))
      (K ⟨some ⟨h.next, 0⟩, s.len + x.length, s.len + x.length, some 1⟩ ((h.put a.id none).push (.cellsT el false (cs ++ zm x)))) none
    | _=>none) none
def copySl (d x:Sl) (size:Nat) (K:Int->M α):M α:=
 rdSl { x with len:=min x.len d.len } size fun more=>
  match d.ad with
  | some a=>zkk a more (K (min x.len d.len:Int))
  | none=>K (min x.len d.len:Int)
def clearSl (s:Sl) (zero:List V) (K:M α):M α:=
 match s.ad with
 | some a=>need (zero.all oneV) (zkk a ((List.replicate s.len zero).flatten) K)
 | none=>K
def mkSl (l c:Int) (bytes:Nat) (zero:List V) (K:Sl->M α):M α:=
 need (decide (0≤l)) <| need (decide (l≤c)) <| need (decide (c * (bytes:Int)≤281474976710656)) <| need (decide (c≤281474976710656)) <|
  need (zero.all oneV) fun h=>K ⟨some ⟨h.next, 0⟩, l.toNat, c.toNat, none⟩ (h.push (.cells ((List.replicate c.toNat zero).flatten) true))
def zko (l:List V) (K:List UInt8->M α):M α:=match bytesOf l with | some b=>K b | none=>fail
def ziz (v:V) (t:Nat) (Ky:V->M α) (Kn:M α):M α:=
 match v with | .nilIface=>Kn | .iface u w=>cond (Nat.beq u t) (Ky w) Kn | _=>fail
def zbt (l:List V) (K:V->List V->M α):M α:=match l with | x :: xs=>K x xs | []=>fail
def unnil (l:List V) (K:M α):M α:=match l with | []=>K | _ :: _=>fail
def asLen:Nat->List V->(List V->M α)->M α
 | 0, l, K=>unnil l (K [])
 | n + 1, l, K=>zbt l fun x xs=>asLen n xs fun ys=>K (x :: ys)
def asFunc (v:V) (K:Nat->List V->List V->M α):M α:=match v with | .func f a b=>K f a b | _=>fail
def zer:List UInt8->UInt8->Int
 | [], _=>-1
 | b :: l, c=>if b == c then 0 else if zer l c == -1 then -1 else zer l c + 1
def indexByte (s:List UInt8) (c:Int):Int:=zer s c.toNat.toUInt8
def zjn (t tt:Nat) (e target:V) (K:Bool->M α):M α:=
 match target with
 | .iface u (.ptr (some q))=>need (Nat.beq u tt) <| (match e with
  | .nilIface=>K false
  | .iface w v=>need (Nat.beq w t) (asP v fun p=>asSome p fun p=>st1 q (.ptr (some p)) (K true))
  | _=>fail)
 | _=>fail
def zib:TypeDesc->V->Bool
 | .int k, .int j _=>yz k j
 | .string, .str _=>true
 | .bool, .bool _=>true
 | _, _=>false
def keq:V->V->Option Bool
 | .int j a, .int k b=>cond (yz j k) (some (decide (a = b))) none
 | .str a, .str b=>some (decide (a = b))
 | .bool a, .bool b=>some (decide (a = b))
 | _, _=>none
def zky (k:V):List (V × V)->Option (Option V)
 | []=>some none
 | e :: es=>match keq k e.1 with | some true=>some (some e.2) | some false=>zky k es | none=>none
def putK (k v:V):List (V × V)->Option (List (V × V))
 | []=>some [(k, v)]
 | e :: es=>match keq k e.1 with | some true=>some ((k, v) :: es) | some false=>(putK k v es).map (e :: ·) | none=>none
def newMap (K:Nat->M α):M α:=fun h=>K h.next (h.push (.map []))
def zlv (r:Option Nat) (K:List (V × V)->M α):M α:=
 match r with
 | none=>K []
 | some i=>fun h=>match h.get i with | some (.map es)=>K es h | _=>none
def lookM (r:Option Nat) (k:V) (Kn:M α) (Ks:V->M α):M α:=
 zlv r fun es=>match zky k es with | some (some v)=>Ks v | some none=>Kn | none=>fail
def setMap (r:Option Nat) (k v:V) (K:M α):M α:=
 match r with
 | none=>fail
 | some i=>fun h=>match h.get i with
  | some (.map es)=>(match putK k v es with | some es=>K (h.put i (some (.map es))) | none=>none)
  | _=>none
end prims
structure TI where
 und:TypeDesc
 size:Nat
 bytes:Nat
 zero:List V
 sh:List Sh
 agg:Bool
 plain:Bool
structure Tab where
 ti:Nat->Option TI
 glob:Nat->Option Nat
 spec:Nat->Bool
abbrev zb:=Nat->V
def zb.set (ρ:zb) (t:Nat) (v:V):zb:=fun u=>cond (Nat.beq u t) v (ρ u)
def zb.put (ρ:zb) (d:Option Nat) (v:V):zb:=match d with | some t=>ρ.set t v | none=>ρ
def za:List (Nat × V)->zb
 | []=>fun _=>.undef
 | (t, v) :: r=>fun u=>cond (Nat.beq u t) v (za r u)
def zdw (keep:List Nat) (ρ:zb):zb:=za (keep.map fun t=>(t, ρ t))
def idx:Nat->List V->List (Nat × V)
 | _, []=>[]
 | i, v :: r=>(i, v) :: idx (i + 1) r
def ofV:Value->V
 | .bool b=>.bool b
 | .int k n=>.int k n
 | .string s=>.str s.data.toList
 | .pointer none=>.ptr none
 | .slice none 0 0=>.slice Sl.nil
 | .map none=>.map none
 | .nilFunc=>.nilFunc
 | .nilIface=>.nilIface
 | _=>.undef
def ofVal:Value->V
 | .agg cs=>.agg (cs.toList.map ofV)
 | v=>ofV v
def ev (T:Tab) (ρ:zb):Operand->V
 | .tmp t=>ρ t
 | .const v=>ofVal v
 | .global g=>(match T.glob g with | some i=>.ptr (some ⟨i, 0⟩) | none=>.undef)
 | .func f=>.func f [] []
def isC:Operand->Bool
 | .const _=>true
 | _=>false
abbrev w64 (n:Int):Int:=IntKind.wrap .i64 n
section ops
variable {α:Type}
def bits (op:BinOp) (k:IntKind) (x y:Int):Int:=
 k.wrap ((match op with
  | .and=>BitVec.ofInt k.bits x &&& BitVec.ofInt k.bits y
  | .or=>BitVec.ofInt k.bits x ||| BitVec.ofInt k.bits y
  | .xor=>BitVec.ofInt k.bits x ^^^ BitVec.ofInt k.bits y
  | _=>BitVec.ofInt k.bits x &&& ~~~BitVec.ofInt k.bits y).toNat:Int)
def arith (op:BinOp) (k:IntKind) (a b:Int) (K:V->M α):M α:=
 match op with
 | .add=>K (.int k (k.wrap (a + b)))
 | .sub=>K (.int k (k.wrap (a - b)))
 | .mul=>K (.int k (k.wrap (a * b)))
 | .quo=>need (!decide (b = 0)) (K (.int k (k.wrap (a.tdiv b))))
 | .rem=>need (!decide (b = 0)) (K (.int k (a.tmod b)))
 | .and=>K (.int k (bits .and k a b))
 | .or=>K (.int k (bits .or k a b))
 | .xor=>K (.int k (bits .xor k a b))
 | .andNot=>K (.int k (bits .andNot k a b))
 | .eql=>K (.bool (decide (a = b)))
 | .neq=>K (.bool (!decide (a = b)))
 | .lss=>K (.bool (decide (a < b)))
 | .leq=>K (.bool (decide (a≤b)))
 | .gtr=>K (.bool (decide (b < a)))
 | .geq=>K (.bool (decide (b≤a)))
 | _=>fail
def shift (op:BinOp) (k:IntKind) (a b:Int) (K:V->M α):M α:=
 need (decide (0≤b)) <| match op with
 | .shl=>K (.int k (k.wrap (a * 2 ^ (min b.toNat k.bits))))
 | .shr=>K (.int k (a.fdiv (2 ^ (min b.toNat k.bits))))
 | _=>fail
def strOp (op:BinOp) (a b:List UInt8) (K:V->M α):M α:=
 match op with
 | .add=>cat a b fun s=>K (.str s)
 | .eql=>K (.bool (decide (a = b)))
 | .neq=>K (.bool (!decide (a = b)))
 | .lss=>K (.bool (Op.bytesLess a b))
 | .leq=>K (.bool (Op.bytesLess a b || decide (a = b)))
 | .gtr=>K (.bool (!(Op.bytesLess a b || decide (a = b))))
 | .geq=>K (.bool (!Op.bytesLess a b))
 | _=>fail
def eq1 (x y:V) (K:Bool->M α):M α:=
 match x, y with
 | .int j a, .int k b=>need (yz j k) (K (decide (a = b)))
 | .str a, .str b=>K (decide (a = b))
 | .bool a, .bool b=>K (decide (a = b))
 | _, _=>fail
def eqAll:List V->List V->(Bool->M α)->M α
 | [], [], K=>K true
 | x :: xs, y :: ys, K=>eq1 x y fun b=>eqAll xs ys fun c=>K (b && c)
 | _, _, _=>fail
def undK:TypeDesc->Nat
 | .pointer _=>0
 | .slice _=>1
 | .map _ _=>2
 | .func _ _ _=>3
 | .bool=>4
 | .interface _=>5
 | _=>6
def fitSh:Sh->V->Bool
 | .int k, .int j _=>yz k j
 | .bool, .bool _=>true
 | .str, .str _=>true
 | _, _=>false
def zco:List Sh->List V->Bool
 | [], []=>true
 | s :: ss, v :: vs=>fitSh s v && zco ss vs
 | _, _=>false
def isK (T:Tab) (t:TypeId) (n:Nat):Bool:=match T.ti t with | some i=>Nat.beq (undK i.und) n | none=>false
def eqV (T:Tab) (t:TypeId) (x y:V) (K:Bool->M α):M α:=
 match x, y with
 | .ptr a, .ptr none=>need (isK T t 0) (K a.isNone)
 | .ptr none, .ptr (some _)=>need (isK T t 0) (K false)
 | .slice s, .slice ⟨none, _, _, _⟩=>need (isK T t 1) (K s.ad.isNone)
 | .map a, .map none=>need (isK T t 2) (K a.isNone)
 | .nilFunc, .nilFunc=>need (isK T t 3) (K true)
 | .func _ _ _, .nilFunc=>need (isK T t 3) (K false)
 | .bool a, .bool b=>need (isK T t 4) (K (decide (a = b)))
 | .agg xs, .agg ys=>(match T.ti t with | some i=>need (i.plain && zco i.sh xs) (eqAll xs ys K) | none=>fail)
 | _, _=>fail
def eqOr (op:BinOp) (b:Bool):Bool:=match op with | .eql=>b | _=>!b
def binOp (T:Tab) (op:BinOp) (t:TypeId) (ox oy:Operand) (x y:V) (K:V->M α):M α:=
 match op with
 | .shl | .shr=>(match x, y with | .int k a, .int _ b=>shift op k a b K | _, _=>fail)
 | .eql | .neq=>
  let out (b:Bool):M α:=K (.bool (eqOr op b))
  (match y with
   | .nilIface=>need (isC ox || isC oy) (need (isK T t 5) (asNil x out))
   | _=>(match x, y with
    | .int j a, .int k b=>need (yz j k) (arith op k a b K)
    | .str a, .str b=>strOp op a b K
    | _, _=>eqV T t x y out))
 | _=>(match x, y with
  | .int j a, .int k b=>need (yz j k) (arith op k a b K)
  | .str a, .str b=>strOp op a b K
  | _, _=>fail)
def unOp (op:UnOp) (x:V) (K:V->M α):M α:=
 match op, x with
 | .neg, .int k n=>K (.int k (k.wrap (0 - n)))
 | .xor, .int k n=>K (.int k (bits .xor k (if k.signed then -1 else k.max) n))
 | .not, .bool b=>K (.bool !b)
 | _, _=>fail
def flatV:V->Bool
 | .bool _ | .int _ _ | .str _ | .ptr none | .map none | .nilFunc | .nilIface=>true
 | .slice s=>(match s.ad with | none=>true | some _=>false)
 | _=>false
def plainV:V->Bool
 | .bool _ | .int _ _ | .str _=>true
 | _=>false
def plainOk (z cs:List V):Bool:=cond (z.all plainV) (cs.all flatV) true
def fillL (place:Nat->Option (Nat × Nat)) (cells:List V) (K:List V->M α):List (Nat × V)->M α
 | []=>K cells
 | (i, v) :: r=>(match place i with
  | none=>fail
  | some (off, size)=>need (okP v && (Nat.beq v.cells.length size && Nat.ble (off + size) cells.length)) (fillL place (over cells off v.cells) K r))
def fieldAt (T:Tab) (fs:Array Field) (i:Nat):Option (Nat × TI):=
 match fs[i]? with
 | some f=>(match T.ti f.type with | some ti=>some (f.offset, ti) | none=>none)
 | none=>none
def part (ti:TI) (cs:List V) (off:Nat) (K:V->M α):M α:=
 cond ti.agg (K (.agg ((cs.drop off).take ti.size))) (match cs[off]? with | some v=>K v | none=>fail)
def rep (n:Nat) (z:List V):List V:=(List.replicate n z).flatten
def conv (T:Tab) (src dst:TypeId) (x:V) (K:V->M α):M α:=
 match T.ti src, T.ti dst with
 | some s, some d=>(match d.und, x with
  | .int k, .int _ n=>K (.int k (k.wrap n))
  | .string, .str b=>K (.str b)
  | .slice e, .slice sl=>(match T.ti e with
   | some ⟨.int .u8, _, _, _, _, _, _⟩=>need (Nat.beq src dst) (ownK sl (K (.slice sl)))
   | _=>fail)
  | .slice e, .str b=>(match s.und with
   | .string=>(match T.ti e with
    | some ⟨.int .u8, _, _, _, _, _, _⟩=>zih b fun a=>K (.slice ⟨some a, b.length, b.length, some 1⟩)
    | _=>fail)
   | _=>fail)
  | .string, .slice sl=>(match s.und with
   | .slice e=>(match T.ti e with
    | some ⟨.int .u8, _, _, _, _, _, _⟩=>rdSl sl 1 fun cs=>zko cs fun b=>K (.str b)
    | _=>fail)
   | _=>fail)
  | _, _=>fail)
 | _, _=>fail
def oI (T:Tab) (ρ:zb) (o:Option Operand) (K:Option Int->M α):M α:=
 match o with
 | none=>K none
 | some x=>(match ev T ρ x with | .int _ n=>K (some n) | _=>fail)
abbrev Call (α:Type):=FuncId->List V->(Res->M α)->M α
def zca (T:Tab) (ats:Array TypeId) (i:Nat):Nat:=
 match ats[i]? with
 | some t=>(match T.ti t with
  | some ⟨.string, _, _, _, _, _, _⟩=>0
  | some ⟨.slice _, _, _, _, _, _, _⟩=>1
  | some ⟨.map _ _, _, _, _, _, _, _⟩=>2
  | _=>3)
 | none=>3
def builtin (T:Tab) (b:Builtin) (ats:Array TypeId) (args:List V) (K:V->M α):M α:=
 match b, args with
 | .len, [.str s]=>need (Nat.beq (zca T ats 0) 0) (K (.int .i64 (s.length:Int)))
 | .len, [.slice s]=>need (Nat.beq (zca T ats 0) 1) (K (.int .i64 (s.len:Int)))
 | .len, [.map r]=>need (Nat.beq (zca T ats 0) 2) (zlv r fun es=>K (.int .i64 (es.length:Int)))
 | .cap, [.slice s]=>need (Nat.beq (zca T ats 0) 1) (need s.loose.isNone (K (.int .i64 (s.cap:Int))))
 | .min, [.int j a, .int k b]=>need (yz j k) (K (.int j (if b < a then b else a)))
 | .max, [.int j a, .int k b]=>need (yz j k) (K (.int j (if b > a then b else a)))
 | .append, [.slice s, .str x]=>need (Nat.beq (zca T ats 1) 0) <| (match ats[0]? with
  | some t=>(match T.ti t with
   | some ⟨.slice e, _, _, _, _, _, _⟩=>(match T.ti e with
    | some i=>need (Nat.beq i.size 1 && Nat.beq i.bytes 1) (cond (T.spec e) (zho e s x fun s=>K (.slice s)) (zme s x fun s=>K (.slice s)))
    | none=>fail)
   | _=>fail)
  | none=>fail)
 | .append, [.slice s, .slice x]=>need (Nat.beq (zca T ats 1) 1) <| (match ats[0]? with
  | some t=>(match T.ti t with
   | some ⟨.slice e, _, _, _, _, _, _⟩=>(match T.ti e with
    | some i=>jk s i.size i.bytes x fun s=>K (.slice s)
    | none=>fail)
   | _=>fail)
  | none=>fail)
 | .clear, [.slice s]=>(match ats[0]? with
  | some t=>(match T.ti t with
   | some ⟨.slice e, _, _, _, _, _, _⟩=>(match T.ti e with
    | some i=>clearSl s i.zero (K (.tuple []))
    | none=>fail)
   | _=>fail)
  | none=>fail)
 | .copy, [.slice d, .slice x]=>(match ats[0]? with
  | some t=>(match T.ti t with
   | some ⟨.slice e, _, _, _, _, _, _⟩=>(match T.ti e with
    | some i=>copySl d x i.size fun n=>K (.int .i64 n)
    | none=>fail)
   | _=>fail)
  | none=>fail)
 | _, _=>fail
def zf (T:Tab) (call:Call α) (ρ:zb) (o:Oper) (K:V->M α) (E:V->M α):M α:=
 match o.op with
 | .move x | .assign x=>K (ev T ρ x)
 | .pick c a b=>asB (ev T ρ c) fun g=>cond g (K (ev T ρ a)) (K (ev T ρ b))
 | .alloc t=>(match T.ti t with | some i=>cond (T.spec t) (newT t i.zero fun a=>K (.ptr (some a))) (new i.zero fun a=>K (.ptr (some a))) | none=>fail)
 | .box _ x=>new (ev T ρ x).cells fun a=>K (.ptr (some a))
 | .build t ps=>(match T.ti t with
  | some ⟨.struct fs, _, _, z, _, _, _⟩=>
   fillL (fun i=>(fieldAt T fs i).map fun (o, ti)=>(o, ti.size)) z (fun cs=>K (.agg cs)) (ps.toList.map fun (i, x)=>(i, ev T ρ x))
  | some ⟨.array _ e, _, _, z, _, _, _⟩=>(match T.ti e with
   | some ti=>fillL (fun i=>some (i * ti.size, ti.size)) z (fun cs=>K (.agg cs)) (ps.toList.map fun (i, x)=>(i, ev T ρ x))
   | none=>fail)
  | _=>fail)
 | .buildSlice t n ps=>(match T.ti t with
  | some ⟨.slice e, _, _, _, _, _, _⟩=>(match T.ti e with
   | some ti=>need (Nat.ble (n * ti.size) 16777216) <|
    fillL (fun i=>some (i * ti.size, ti.size)) (rep n ti.zero) (fun cs=>need (plainOk ti.zero cs) <| new cs fun a=>K (.slice ⟨some a, n, n, none⟩)) (ps.toList.map fun (i, x)=>(i, ev T ρ x))
   | none=>fail)
  | _=>fail)
 | .load t a=>asP (ev T ρ a) fun p=>asSome p fun p=>(match T.ti t with
  | some i=>zah p 0 i.sh fun cs=>mk i.agg cs K
  | none=>fail)
 | .store t a x=>asP (ev T ρ a) fun p=>asSome p fun p=>(match T.ti t with
  | some i=>need (Nat.beq (ev T ρ x).cells.length i.size) (stL p 0 (ev T ρ x).cells (K .undef))
  | none=>fail)
 | .nilCheck x=>(match ev T ρ x with
  | .ptr p=>asSome p fun p=>K (.ptr (some p))
  | .func f a b=>K (.func f a b)
  | _=>fail)
 | .binOp op t x y _=>binOp T op t x y (ev T ρ x) (ev T ρ y) K
 | .unOp op _ x=>unOp op (ev T ρ x) K
 | .convert s d x=>conv T s d (ev T ρ x) K
 | .makeInterface t x=>(match T.ti t with
  | some ⟨.interface _, _, _, _, _, _, _⟩=>fail
  | some _=>K (.iface t (ev T ρ x))
  | none=>fail)
 | .makeFunc (.func f) first cap=>K (.func f (first.toList.map (ev T ρ)) (cap.toList.map (ev T ρ)))
 | .makeMap _ none=>newMap fun r=>K (.map (some r))
 | .makeSlice t l c=>(match T.ti t with
  | some ⟨.slice e, _, _, _, _, _, _⟩=>(match T.ti e, ev T ρ l, ev T ρ c with
   | some i, .int _ l, .int _ c=>mkSl l c i.bytes i.zero fun s=>K (.slice s)
   | _, _, _=>fail)
  | _=>fail)
 | .slice t x lo hi mx=>oI T ρ lo fun lo=>oI T ρ hi fun hi=>oI T ρ mx fun mx=>(match ev T ρ x with
  | .str s=>(match T.ti t with
   | some ⟨.string, _, _, _, _, _, _⟩=>(match mx with | none=>cutStr s lo hi fun s=>K (.str s) | some _=>fail)
   | _=>fail)
  | .slice s=>(match T.ti t with
   | some ⟨.slice e, _, _, _, _, _, _⟩=>(match T.ti e with | some i=>cutSl s i.size lo hi mx fun s=>K (.slice s) | none=>fail)
   | _=>fail)
  | .ptr (some p)=>(match T.ti t with
   | some ⟨.array n e, _, _, _, _, _, _⟩=>(match T.ti e with
    | some i=>(match mx with | none=>cutSl ⟨some p, n, n, none⟩ i.size lo hi none fun s=>K (.slice s) | some _=>fail)
    | none=>fail)
   | _=>fail)
  | _=>fail)
 | .fieldAddr t x i=>asP (ev T ρ x) fun p=>asSome p fun p=>(match T.ti t with
  | some ⟨.struct fs, _, _, _, _, _, _⟩=>(match fieldAt T fs i with
   | some (off, ti)=>need (Nat.blt 0 ti.size) (K (.ptr (some (p.add off))))
   | none=>fail)
  | _=>fail)
 | .field t x i=>(match T.ti t with
  | some ⟨.struct fs, _, _, _, _, _, _⟩=>(match fieldAt T fs i with
   | some (off, ti)=>asAgg (ev T ρ x) fun cs=>part ti cs off K
   | none=>fail)
  | _=>fail)
 | .indexAddr t x ix=>(match T.ti t with
  | some ⟨.slice e, _, _, _, _, _, _⟩=>(match T.ti e, ev T ρ ix with
   | some i, .int _ n=>asS (ev T ρ x) fun s=>idxSl s n i.size fun a=>K (.ptr (some a))
   | _, _=>fail)
  | some ⟨.array len e, _, _, _, _, _, _⟩=>(match T.ti e, ev T ρ ix with
   | some i, .int _ n=>asP (ev T ρ x) fun p=>asSome p fun p=>
    need (decide (0≤n)) (need (decide (n < (len:Int))) (K (.ptr (some (p.add (n.toNat * i.size))))))
   | _, _=>fail)
  | _=>fail)
 | .index t x ix=>(match ev T ρ ix with
  | .int _ n=>(match ev T ρ x with
   | .str s=>(match T.ti t with | some ⟨.string, _, _, _, _, _, _⟩=>idxStr s n fun b=>K (.int .u8 b) | _=>fail)
   | .agg cs=>(match T.ti t with
    | some ⟨.array len e, _, _, _, _, _, _⟩=>(match T.ti e with
     | some i=>need (decide (0≤n)) (need (decide (n < (len:Int))) (part i cs (n.toNat * i.size) K))
     | none=>fail)
    | _=>fail)
   | _=>fail)
  | _=>fail)
 | .lookup t x k ok=>(match T.ti t with
  | some ⟨.map kt e, _, _, _, _, _, _⟩=>(match T.ti kt, T.ti e with
   | some ki, some i=>asMap (ev T ρ x) fun r=>need (zib ki.und (ev T ρ k)) <|
    let out (v:V) (b:Bool):M α:=cond ok (K (.tuple [v, .bool b])) (K v)
    lookM r (ev T ρ k) (mk i.agg i.zero fun v=>out v false) fun v=>
     cond i.agg (asAgg v fun cs=>asAll i.sh cs fun cs=>out (.agg cs) true) (match i.sh with | [s]=>asSh s v fun v=>out v true | _=>fail)
   | _, _=>fail)
  | _=>fail)
 | .mapUpdate t m k x=>(match T.ti t with
  | some ⟨.map kt _, _, _, _, _, _, _⟩=>(match T.ti kt with
   | some ki=>asMap (ev T ρ m) fun r=>need (zib ki.und (ev T ρ k)) (setMap r (ev T ρ k) (ev T ρ x) (K .undef))
   | none=>fail)
  | _=>fail)
 | .typeAssert x _ t true=>(match T.ti t with
  | some ⟨.interface _, _, _, _, _, _, _⟩=>fail
  | some i=>ziz (ev T ρ x) t (fun v=>K (.tuple [v, .bool true])) (mk i.agg i.zero fun z=>K (.tuple [z, .bool false]))
  | none=>fail)
 | .extract t i=>(match ev T ρ t with
  | .tuple vs=>(match vs[i]? with | some v=>K v | none=>fail)
  | _=>fail)
 | .call c=>(match c.callee with
  | .value f=>(match ev T ρ f with
   | .func g first cap=>call g (first ++ (c.args.toList.map (ev T ρ) ++ cap)) fun r=>(match r with | .ret v=>K v | .pan v=>E v)
   | _=>fail)
  | .builtin b=>builtin T b c.argTypes (c.args.toList.map (ev T ρ)) K
  | .invoke _ _=>fail)
 | .panic x=>(match ev T ρ x with | .iface t v=>E (.iface t v) | _=>fail)
 | _=>fail
def zcw (all:Array Oper) (j:Nat):Option Nat:=match all[j]? with | some o=>o.dst | none=>none
def zcc (T:Tab) (call:Call α) (all:Array Oper):List Oper->zb->(zb->M α)->(V->M α)->M α
 | [], ρ, K, _=>K ρ
 | o :: rest, ρ, K, E=>
  match o.guard with
  | none=>zf T call ρ o (fun v=>zcc T call all rest (ρ.put o.dst v) K E) E
  | some (j, want)=>
   match zcw all j with
   | none=>fail
   | some t=>match ρ t with
    | .bool g=>bcase g fun g=>
     cond (g == want)
      (zf T call (ρ.set t (.bool g)) o (fun v=>zcc T call all rest ((ρ.set t (.bool g)).put o.dst v) K E) E)
      (zcc T call all rest ((ρ.set t (.bool g)).put o.dst (.tuple [])) K E)
    | .tuple []=>zcc T call all rest (ρ.put o.dst (.tuple [])) K E
    | _=>fail
end ops
inductive Do where
 | op (i:Nat)
 | look (i:Nat)
 | expect (t:Nat) (fs:List (Nat × Nat × Nat))
inductive IC where
 | skip
 | ops (id:Nat) (ops:Array Oper)
 | drawn (id:Nat) (ops:Array Oper) (draw:Bool) (plan:List Do)
 | seq (a b:IC)
 | cond (c:Operand) (a b:IC)
 | block (id:Nat) (c:IC)
 | loop (keep:List Nat) (c:IC)
 | cut (keep:List Nat) (c:IC)
 | exit (id:Nat) (keep:List Nat)
 | ret (keep:List Nat)
 | dead (c:Code)
inductive Ex where
 | normal
 | exit (id:Nat)
 | ret
 | pan (v:V)
section code
variable {α:Type}
def zem:V->V->M α->M α
 | .nilIface, .nilIface, K=>K
 | .nilFunc, .nilFunc, K=>K
 | .iface t a, .iface u b, K=>need (Nat.beq t u) (zem a b K)
 | .int j a, .int k b, K=>need (yz j k && decide (a = b)) K
 | .bool a, .bool b, K=>need (decide (a = b)) K
 | .str a, .str b, K=>need (decide (a = b)) K
 | .ptr a, .ptr b, K=>need (decide (a = b)) K
 | .slice a, .slice b, K=>need (decide (a = b)) K
 | .map a, .map b, K=>need (decide (a = b)) K
 | _, _, _=>fail
def lookL:List V->List V->M α->M α
 | [], [], K=>K
 | v :: vs, w :: ws, K=>zem v w (lookL vs ws K)
 | _, _, _=>fail
def skipped (v:V) (K K':M α):M α:=match v with | .tuple []=>K | _=>K'
def lookAt (T:Tab) (ρ:zb) (o:Oper) (K:M α):M α:=
 match o.op, o.dst with
 | .load t a, some d=>skipped (ρ d) K (asP (ev T ρ a) fun p=>asSome p fun p=>(match T.ti t with
   | some i=>zah p 0 i.sh fun cs=>lookL (ρ d).cells cs K
   | none=>fail))
 | _, _=>fail
def zhs (ρ:zb) (t:Nat) (f:Nat) (a b:List V) (K:zb->M α):List (Nat × Nat × Nat)->M α
 | []=>fail
 | (g, n, m) :: r=>cond (Nat.beq f g) (asLen n a fun a=>asLen m b fun b=>K (ρ.set t (.func g a b))) (zhs ρ t f a b K r)
def ya (T:Tab) (call:Call α) (all:Array Oper):List Do->zb->(zb->M α)->(V->M α)->M α
 | [], ρ, K, _=>K ρ
 | .op i :: rest, ρ, K, E=>(match all[i]? with
  | some o=>zcc T call all [o] ρ (fun ρ=>ya T call all rest ρ K E) E
  | none=>fail)
 | .look i :: rest, ρ, K, E=>(match all[i]? with
  | some o=>lookAt T ρ o (ya T call all rest ρ K E)
  | none=>fail)
 | .expect t fs :: rest, ρ, K, E=>asFunc (ρ t) fun f a b=>zhs ρ t f a b (fun ρ=>ya T call all rest ρ K E) fs
def seqK (N:zb->M α) (K:Ex->zb->M α):Ex->zb->M α
 | .normal, ρ=>N ρ
 | .exit i, ρ=>K (.exit i) ρ
 | .ret, ρ=>K .ret ρ
 | .pan v, ρ=>K (.pan v) ρ
def yf (id:Nat) (K:Ex->zb->M α):Ex->zb->M α
 | .normal, ρ=>K .normal ρ
 | .exit i, ρ=>cond (Nat.beq i id) (K .normal ρ) (K (.exit i) ρ)
 | .ret, ρ=>K .ret ρ
 | .pan v, ρ=>K (.pan v) ρ
def zu (body:zb->(Ex->zb->M α)->M α) (keep:List Nat):Nat->zb->(Ex->zb->M α)->M α
 | 0, _, _=>fail
 | j + 1, ρ, K=>body (zdw keep ρ) (seqK (fun ρ=>zu body keep j ρ K) K)
theorem jd {body:zb->(Ex->zb->M α)->M α} {keep:List Nat} {ρ ρ':zb} (h:zdw keep ρ = zdw keep ρ') (j:Nat) (K:Ex->zb->M α) :
  zu body keep j ρ K = zu body keep j ρ' K:=by
 cases j with
 | zero=>rfl
 | succ j=>exact congrArg (fun r=>body r (seqK (fun ρ=>zu body keep j ρ K) K)) h
def evC (T:Tab) (call:Call α) (n:Nat):IC->zb->(Ex->zb->M α)->M α
 | .skip, ρ, K=>K .normal ρ
 | .ops _ ops, ρ, K=>zcc T call ops ops.toList ρ (K .normal) (fun v=>K (.pan v) (za []))
 | .drawn _ ops _ plan, ρ, K=>ya T call ops plan ρ (K .normal) (fun v=>K (.pan v) (za []))
 | .seq a b, ρ, K=>evC T call n a ρ (seqK (fun ρ=>evC T call n b ρ K) K)
 | .cond c a b, ρ, K=>asB (ev T ρ c) fun g=>_root_.cond g (evC T call n a ρ K) (evC T call n b ρ K)
 | .block id c, ρ, K=>evC T call n c ρ (yf id K)
 | .loop keep c, ρ, K=>zu (evC T call n c) keep n ρ K
 | .cut keep c, ρ, K=>evC T call n c ρ (seqK (fun ρ=>K .normal (zdw keep ρ)) K)
 | .exit id keep, ρ, K=>K (.exit id) (zdw keep ρ)
 | .ret keep, ρ, K=>K .ret (zdw keep ρ)
 | .dead _, _, _=>fail
section rules
variable {T:Tab} {call:Call α} {n:Nat} {K:Ex->zb->M α} {N:zb->M α} {ρ:zb}
theorem zg:seqK N K .normal ρ = N ρ:=(Eq.refl _).trans (Eq.refl _)
theorem zj {i:Nat}:seqK N K (.exit i) ρ = K (.exit i) ρ:=(Eq.refl _).trans (Eq.refl _)
theorem zo:seqK N K .ret ρ = K .ret ρ:=(Eq.refl _).trans (Eq.refl _)
theorem zp {v:V}:seqK N K (.pan v) ρ = K (.pan v) ρ:=(Eq.refl _).trans (Eq.refl _)
theorem jl {a b:IC} {R:M α} (h:evC T call n a ρ (seqK (fun ρ=>evC T call n b ρ K) K) = R):evC T call n (.seq a b) ρ K = R:=h
theorem jb {id:Nat} {c:IC}:evC T call n (.block id c) ρ K = evC T call n c ρ (yf id K):=rfl
theorem zdf {c:Operand} {a b:IC} {g:Bool} {A B:M α} (hg:ev T ρ c = .bool g) (ha:evC T call n a ρ K = A) (hb:evC T call n b ρ K = B):evC T call n (.cond c a b) ρ K = cond g A B:=by
 subst ha hb
 show asB (ev T ρ c) _ = _
 rw [hg]
 rfl
theorem yi {keep:List Nat} {c:IC}:evC T call n (.loop keep c) ρ K = zu (evC T call n c) keep n ρ K:=rfl
theorem je {body:zb->(Ex->zb->M α)->M α} {keep:List Nat} {j:Nat} {ρ':zb} {R:M α} (hk:zdw keep ρ = ρ')
  (h:body ρ' (seqK (fun ρ=>zu body keep j ρ K) K) = R):zu body keep (j + 1) ρ K = R:=by
 subst hk
 exact h
end rules
def resV (T:Tab) (rs:List ResultVar) (ρ:zb) (K:List V->M α):M α:=
 match rs with
 | []=>K []
 | .tmp t :: r=>resV T r ρ fun vs=>K (ρ t :: vs)
 | .cell a t :: r=>asP (ρ a) fun p=>asSome p fun p=>(match T.ti t with
  | some i=>zah p 0 i.sh fun cs=>mk i.agg cs fun v=>resV T r ρ fun vs=>K (v :: vs)
  | none=>fail)
def retK (T:Tab) (rs:List ResultVar) (κ:Res->M α):Ex->zb->M α
 | .normal, ρ=>resV T rs ρ fun vs=>κ (.ret (match vs with | [v]=>v | vs=>.tuple vs))
 | .ret, ρ=>resV T rs ρ fun vs=>κ (.ret (match vs with | [v]=>v | vs=>.tuple vs))
 | .pan v, _=>κ (.pan v)
 | .exit _, _=>fail
def evF (T:Tab) (call:Call α) (n:Nat) (c:IC) (rs:List ResultVar) (args:List V) (κ:Res->M α):M α:=
 evC T call n c (za (idx 0 args)) (retK T rs κ)
end code
def IC.code:IC->Code
 | .skip=>.skip
 | .ops id os=>.region id os false
 | .drawn id os d _=>.region id os d
 | .seq a b=>.seq a.code b.code
 | .cond c a b=>.cond c a.code b.code
 | .block id c=>.block id c.code
 | .loop _ c=>.loop c.code
 | .cut _ c=>c.code
 | .exit id _=>.exit id
 | .ret _=>.ret
 | .dead c=>c
def ops?:Code->Nat->Option (Array Oper)
 | .region id ops _, n=>cond (Nat.beq id n) (some ops) none
 | .seq a b, n=>match ops? a n with | some o=>some o | none=>ops? b n
 | .cond _ a b, n=>match ops? a n with | some o=>some o | none=>ops? b n
 | .block _ c, n=>ops? c n
 | .loop c, n=>ops? c n
 | _, _=>none
def jv (f:Func):Code:=match f.body with | some c=>c | none=>.skip
def zd (f:Func) (n:Nat):Array Oper:=match ops? (jv f) n with | some o=>o | none=>#[]
end Go.Ab
