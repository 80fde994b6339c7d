import GoSem.Core.Code
import GoSem.Core.Region
import GoSem.Core.Program
import GoSem.Core.View
import GoSem.Op.String
set_option linter.unusedVariables false
set_option linter.unusedSimpArgs false
set_option linter.unusedSectionVars false
namespace Go.Ab
structure Ad where
 id:Nat
 off:Nat
 deriving DecidableEq, Inhabited
def Ad.add (a:Ad) (n:Nat):Ad:=⟨a.id, a.off + n⟩
structure Sl where
 ad:Option Ad
 len:Nat
 cap:Nat
 loose:Option Nat
 deriving DecidableEq, Inhabited
def Sl.nil:Sl:=⟨none, 0, 0, none⟩
inductive V where
 | undef
 | bool (b:Bool)
 | int (k:IntKind) (n:Int)
 | str (s:List UInt8)
 | ptr (a:Option Ad)
 | slice (s:Sl)
 | map (r:Option Nat)
 | func (f:Nat) (first cap:List V)
 | nilFunc
 | iface (t:Nat) (v:V)
 | nilIface
 | agg (cs:List V)
 | tuple (vs:List V)
 deriving Inhabited
def V.cells:V->List V
 | .agg cs=>cs
 | v=>[v]
def oneV:V->Bool
 | .undef | .agg _ | .tuple _=>false
 | _=>true
def okP:V->Bool
 | .undef | .tuple _=>false
 | _=>true
inductive It where
 | map (m:Option Nat) (n seen last:Nat)
 | str (s:List UInt8) (pos:Nat)
 deriving Inhabited
inductive Blk where
 | cells (cs:List V) (own:Bool)
 | cellsT (t:Nat) (full:Bool) (cs:List V)
 | map (es:List (V × V))
 | iter (x:It)
 deriving Inhabited
inductive Tr where
 | lf
 | nd (b:Option Blk) (l r:Tr)
def Tr.root:Tr->Option Blk
 | .lf=>none
 | .nd b _ _=>b
def Tr.left:Tr->Tr
 | .lf=>.lf
 | .nd _ l _=>l
def Tr.right:Tr->Tr
 | .lf=>.lf
 | .nd _ _ r=>r
noncomputable def Tr.at (t:Tr):Nat->Option Blk:=Tr.rec (motive:=fun _=>Nat->Option Blk) (fun _=>none)
 (fun b _ _ ihl ihr j=>Nat.rec (motive:=fun _=>Option Blk) b (fun j _=>Bool.rec (motive:=fun _=>Option Blk) (ihr (j / 2)) (ihl (j / 2)) (Nat.beq (j % 2) 0)) j) t
noncomputable def Tr.setF (f:Nat):Tr->Nat->Option Blk->Tr:=Nat.rec (motive:=fun _=>Tr->Nat->Option Blk->Tr) (fun t _ _=>t)
 (fun _ ih t i b=>Nat.rec (motive:=fun _=>Tr) (.nd b t.left t.right)
  (fun j _=>Bool.rec (motive:=fun _=>Tr) (.nd t.root t.left (ih t.right (j / 2) b)) (.nd t.root (ih t.left (j / 2) b) t.right) (Nat.beq (j % 2) 0)) i) f
noncomputable def Tr.set (t:Tr) (i:Nat) (b:Option Blk):Tr:=Tr.setF (i + 1) t i b
theorem Tr.at_succ (b:Option Blk) (l r:Tr) (j:Nat):(Tr.nd b l r).at (j + 1) = cond (Nat.beq (j % 2) 0) (l.at (j / 2)) (r.at (j / 2)):=by
 show Bool.rec (motive:=fun _=>Option Blk) (r.at (j / 2)) (l.at (j / 2)) (Nat.beq (j % 2) 0) = _
 cases Nat.beq (j % 2) 0 <;> rfl
theorem Tr.at_nd (t:Tr) (j:Nat):t.at j = match j with | 0=>t.root | j + 1=>cond (Nat.beq (j % 2) 0) (t.left.at (j / 2)) (t.right.at (j / 2)):=by
 cases t with
 | lf=>cases j with | zero=>rfl | succ j=>show none = cond _ none none; cases Nat.beq (j % 2) 0 <;> rfl
 | nd b l r=>cases j with | zero=>rfl | succ j=>exact Tr.at_succ b l r j
theorem Tr.setF_succ (f:Nat) (t:Tr) (j:Nat) (b:Option Blk):Tr.setF (f + 1) t (j + 1) b = cond (Nat.beq (j % 2) 0) (.nd t.root (Tr.setF f t.left (j / 2) b) t.right) (.nd t.root t.left (Tr.setF f t.right (j / 2) b)):=by
 show Bool.rec (motive:=fun _=>Tr) (.nd t.root t.left (Tr.setF f t.right (j / 2) b)) (.nd t.root (Tr.setF f t.left (j / 2) b) t.right) (Nat.beq (j % 2) 0) = _
 cases Nat.beq (j % 2) 0 <;> rfl
theorem Tr.setF_fuel:∀ (f g:Nat) (t:Tr) (i:Nat) (b:Option Blk), i < f->i < g->Tr.setF f t i b = Tr.setF g t i b
 | 0, _, _, _, _, h, _=>absurd h (Nat.not_lt_zero _)
 | _ + 1, 0, _, _, _, _, h=>absurd h (Nat.not_lt_zero _)
 | f + 1, g + 1, t, 0, b, _, _=>rfl
 | f + 1, g + 1, t, j + 1, b, h, h'=>by
  have h1:j / 2 < f:=by omega
  have h2:j / 2 < g:=by omega
  rw [Tr.setF_succ, Tr.setF_succ, Tr.setF_fuel f g _ _ _ h1 h2, Tr.setF_fuel f g _ _ _ h1 h2]
theorem Tr.set_zero (t:Tr) (b:Option Blk):t.set 0 b = .nd b t.left t.right:=rfl
theorem Tr.set_succ (t:Tr) (j:Nat) (b:Option Blk):t.set (j + 1) b = cond (Nat.beq (j % 2) 0) (.nd t.root (t.left.set (j / 2) b) t.right) (.nd t.root t.left (t.right.set (j / 2) b)):=by
 have h1:j / 2 < j + 1:=by omega
 have h2:j / 2 < j / 2 + 1:=Nat.lt_succ_self _
 unfold Tr.set
 rw [Tr.setF_succ, Tr.setF_fuel (j + 1) (j / 2 + 1) _ _ _ h1 h2, Tr.setF_fuel (j + 1) (j / 2 + 1) _ _ _ h1 h2]
theorem Tr.half {i j:Nat} (hb:Nat.beq (i % 2) 0 = Nat.beq (j % 2) 0):(i / 2 = j / 2) ↔ i = j:=by
 have key:∀ n:Nat, Nat.beq n 0 = true ↔ n = 0:=fun n=>⟨Nat.eq_of_beq_eq_true, fun h=>by rw [h]; rfl⟩
 have:(i % 2 = 0) ↔ (j % 2 = 0):=by rw [← key, ← key, hb]
 omega
theorem Tr.at_set:∀ (i:Nat) (t:Tr) (b:Option Blk) (j:Nat), (t.set i b).at j = if j = i then b else t.at j:=by
 intro i
 induction i using Nat.strongRecOn with
 | _ i ih=>
  intro t b j
  cases i with
  | zero=>
   rw [Tr.set_zero]
   cases j with
   | zero=>rfl
   | succ j=>rw [if_neg (by omega), Tr.at_succ, Tr.at_nd t]
  | succ i=>
   have hi:i / 2 < i + 1:=by omega
   rw [Tr.set_succ]
   cases j with
   | zero=>rw [if_neg (by omega), Tr.at_nd t]; cases Nat.beq (i % 2) 0 <;> rfl
   | succ j=>
    rw [Tr.at_nd t]
    dsimp only
    cases hb:Nat.beq (i % 2) 0 with
    | true=>
     rw [cond_true, Tr.at_succ]
     cases hc:Nat.beq (j % 2) 0 with
     | true=>
      rw [cond_true, cond_true, ih _ hi]
      have:=Tr.half (i:=j) (j:=i) (hc.trans hb.symm)
      by_cases e:j = i
      ·rw [if_pos (this.2 e), if_pos (by rw [e])]
      ·rw [if_neg (fun h=>e (this.1 h)), if_neg (by omega)]
     | false=>
      rw [cond_false, cond_false, if_neg]
      intro e
      have:j = i:=by omega
      subst this
      rw [hb] at hc; cases hc
    | false=>
     rw [cond_false, Tr.at_succ]
     cases hc:Nat.beq (j % 2) 0 with
     | true=>
      rw [cond_true, cond_true, if_neg]
      intro e
      have:j = i:=by omega
      subst this
      rw [hb] at hc; cases hc
     | false=>
      rw [cond_false, cond_false, ih _ hi]
      have:=Tr.half (i:=j) (j:=i) (hc.trans hb.symm)
      by_cases e:j = i
      ·rw [if_pos (this.2 e), if_pos (by rw [e])]
      ·rw [if_neg (fun h=>e (this.1 h)), if_neg (by omega)]
theorem Tr.set_set:∀ (i:Nat) (t:Tr) (b c:Option Blk), (t.set i b).set i c = t.set i c:=by
 intro i
 induction i using Nat.strongRecOn with
 | _ i ih=>
  intro t b c
  cases i with
  | zero=>rfl
  | succ i=>
   have hi:i / 2 < i + 1:=by omega
   rw [Tr.set_succ t, Tr.set_succ, Tr.set_succ]
   cases Nat.beq (i % 2) 0 with
   | true=>simp only [cond_true, Tr.left, Tr.right, Tr.root, ih _ hi]
   | false=>simp only [cond_false, Tr.left, Tr.right, Tr.root, ih _ hi]
theorem Tr.set_same:∀ (i:Nat) (t:Tr) (b:Blk), t.at i = some b->t.set i (some b) = t:=by
 intro i
 induction i using Nat.strongRecOn with
 | _ i ih=>
  intro t b h
  cases t with
  | lf=>cases h
  | nd c l r=>
   cases i with
   | zero=>rw [Tr.set_zero, show c = some b from h]; rfl
   | succ i=>
    have hi:i / 2 < i + 1:=by omega
    rw [Tr.at_succ] at h
    rw [Tr.set_succ]
    cases hb:Nat.beq (i % 2) 0 with
    | true=>rw [hb, cond_true] at h; simp only [cond_true, Tr.left, Tr.right, Tr.root, ih _ hi _ _ h]
    | false=>rw [hb, cond_false] at h; simp only [cond_false, Tr.left, Tr.right, Tr.root, ih _ hi _ _ h]
structure H where
 next:Nat
 tr:Tr
noncomputable def H.get (h:H) (i:Nat):Option Blk:=h.tr.at i
noncomputable def H.put (h:H) (i:Nat) (b:Option Blk):H:=⟨h.next, h.tr.set i b⟩
noncomputable def H.push (h:H) (b:Blk):H:=⟨h.next + 1, h.tr.set h.next (some b)⟩
theorem zh (h:H) (i:Nat) (b:Option Blk):(h.put i b).get i = b:=(Tr.at_set i h.tr b i).trans (if_pos rfl)
theorem zo (h:H) {i j:Nat} (b:Option Blk) (hne:j ≠ i):(h.put i b).get j = h.get j:=(Tr.at_set i h.tr b j).trans (if_neg hne)
theorem je (h:H) (b:Blk):(h.push b).get h.next = some b:=(Tr.at_set _ h.tr _ _).trans (if_pos rfl)
theorem yb (h:H) (b:Blk) {j:Nat} (hne:j ≠ h.next):(h.push b).get j = h.get j:=(Tr.at_set _ h.tr _ j).trans (if_neg hne)
theorem jg (h:H) (i:Nat) (b c:Option Blk):(h.put i b).put i c = h.put i c:=congrArg (H.mk h.next) (Tr.set_set i h.tr b c)
theorem put_same (h:H) {i:Nat} {b:Blk} (hg:h.get i = some b):h.put i (some b) = h:=congrArg (H.mk h.next) (Tr.set_same i h.tr b hg)
theorem put_push9 (h:H) (b c:Blk):(h.push b).put h.next (some c) = h.push c:=congrArg (H.mk (h.next + 1)) (Tr.set_set h.next h.tr _ _)
def h0:H:=⟨0, .lf⟩
theorem h0_get (i:Nat):h0.get i = none:=rfl
noncomputable def H.cell (h:H) (a:Ad):Option V:=
 match h.get a.id with
 | some (.cells cs _)=>cs[a.off]?
 | some (.cellsT _ _ cs)=>cs[a.off]?
 | _=>none
noncomputable def H.row (h:H) (a:Ad) (n:Nat):Option (List V):=
 match h.get a.id with
 | some (.cells cs _)=>cond (Nat.ble (a.off + n) cs.length) (some ((cs.drop a.off).take n)) none
 | _=>none
noncomputable def H.setCell (h:H) (a:Ad) (v:V):Option H:=
 match h.get a.id with
 | some (.cells cs true)=>cond (oneV v && Nat.blt a.off cs.length) (some (h.put a.id (some (.cells (cs.set a.off v) true)))) none
 | some (.cellsT t f cs)=>cond (oneV v && Nat.blt a.off cs.length) (some (h.put a.id (some (.cellsT t f (cs.set a.off v))))) none
 | _=>none
def over (cs:List V) (off:Nat) (vs:List V):List V:=cs.take off ++ (vs ++ cs.drop (off + vs.length))
noncomputable def H.setRow (h:H) (a:Ad) (vs:List V):Option H:=
 match h.get a.id with
 | some (.cells cs true)=>cond (Nat.ble (a.off + vs.length) cs.length) (some (h.put a.id (some (.cells (over cs a.off vs) true)))) none
 | _=>none
noncomputable def H.own (h:H) (i:Nat):Bool:=match h.get i with | some (.cells _ b)=>b | _=>false
inductive Res where
 | ret (v:V)
 | pan (v:V)
abbrev M (α:Type):=H->Option α
noncomputable def fail {α:Type}:M α:=fun _=>none
def yc:IntKind->IntKind->Bool
 | .i8, .i8 | .i16, .i16 | .i32, .i32 | .i64, .i64 | .u8, .u8 | .u16, .u16 | .u32, .u32 | .u64, .u64=>true
 | _, _=>false
section prims
variable {α:Type}
noncomputable def asI (k:IntKind) (v:V) (K:Int->M α):M α:=match v with | .int j n=>cond (yc j k) (K n) fail | _=>fail
noncomputable def asB (v:V) (K:Bool->M α):M α:=match v with | .bool b=>K b | _=>fail
noncomputable def asStr (v:V) (K:List UInt8->M α):M α:=match v with | .str s=>K s | _=>fail
noncomputable def asP (v:V) (K:Option Ad->M α):M α:=match v with | .ptr a=>K a | _=>fail
noncomputable def asS (v:V) (K:Sl->M α):M α:=match v with | .slice s=>K s | _=>fail
noncomputable def asMap (v:V) (K:Option Nat->M α):M α:=match v with | .map r=>K r | _=>fail
noncomputable def asAgg (v:V) (K:List V->M α):M α:=match v with | .agg s=>K s | _=>fail
noncomputable def asSome {β:Type} (a:Option β) (K:β->M α):M α:=match a with | some x=>K x | none=>fail
noncomputable def asNil (v:V) (K:Bool->M α):M α:=match v with | .nilIface=>K true | .iface _ _=>K false | _=>fail
noncomputable def zif (b:Bool) (f:Bool->M α):M α:=cond b (f true) (f false)
noncomputable def need (b:Bool) (K:M α):M α:=cond b K fail
noncomputable def ld (a:Ad) (K:V->M α):M α:=fun h=>match h.cell a with | some v=>K v h | none=>none
noncomputable def st1 (a:Ad) (v:V) (K:M α):M α:=fun h=>match h.setCell a v with | some h'=>K h' | none=>none
noncomputable def stL (a:Ad):Nat->List V->M α->M α
 | _, [], K=>K
 | i, v :: vs, K=>st1 (a.add i) v (stL a (i + 1) vs K)
noncomputable def new (cs:List V) (K:Ad->M α):M α:=need (cs.all oneV) fun h=>K ⟨h.next, 0⟩ (h.push (.cells cs true))
noncomputable def newT (t:Nat) (cs:List V) (K:Ad->M α):M α:=need (cs.all oneV) fun h=>K ⟨h.next, 0⟩ (h.push (.cellsT t true cs))
noncomputable def zgr (a:Ad) (n:Nat) (K:List V->M α):M α:=fun h=>match h.row a n with | some cs=>K cs h | none=>none
noncomputable def zdc (a:Ad) (vs:List V) (K:M α):M α:=fun h=>match h.setRow a vs with | some h'=>K h' | none=>none
inductive Sh where
 | int (k:IntKind) | bool | str | ptr | slice | map | any
 deriving DecidableEq
noncomputable def asSh (s:Sh) (v:V) (K:V->M α):M α:=
 match s with
 | .int k=>asI k v fun n=>K (.int k n)
 | .bool=>asB v fun n=>K (.bool n)
 | .str=>asStr v fun n=>K (.str n)
 | .ptr=>asP v fun n=>K (.ptr n)
 | .slice=>asS v fun n=>K (.slice n)
 | .map=>asMap v fun n=>K (.map n)
 | .any=>K v
noncomputable def ldSh (s:Sh) (a:Ad) (K:V->M α):M α:=ld a fun v=>asSh s v K
noncomputable def yz (a:Ad):Nat->List Sh->(List V->M α)->M α
 | _, [], K=>K []
 | i, s :: ss, K=>ldSh s (a.add i) fun v=>yz a (i + 1) ss fun vs=>K (v :: vs)
noncomputable def ldI (k:IntKind) (a:Ad) (K:Int->M α):M α:=ld a fun v=>asI k v K
noncomputable def ldS (a:Ad) (K:Sl->M α):M α:=ld a fun v=>asS v K
noncomputable def asAll:List Sh->List V->(List V->M α)->M α
 | [], [], K=>K []
 | s :: ss, v :: vs, K=>asSh s v fun v=>asAll ss vs fun vs=>K (v :: vs)
 | _, _, _=>fail
noncomputable def mk (isAgg:Bool) (cs:List V) (K:V->M α):M α:=cond isAgg (K (.agg cs)) (match cs with | [v]=>K v | _=>fail)
noncomputable def cat (a b:List UInt8) (K:List UInt8->M α):M α:=need (Nat.ble (a.length + b.length) 4611686018427387904) (K (a ++ b))
noncomputable def idxStr (s:List UInt8) (i:Int) (K:Int->M α):M α:=need (decide (0≤i)) (match s[i.toNat]? with | some b=>K (b.toNat:Int) | none=>fail)
noncomputable def idxSl (s:Sl) (i:Int) (size:Nat) (K:Ad->M α):M α:=
 asSome s.ad fun a=>need (decide (0≤i)) (need (decide (i < (s.len:Int))) (K (a.add (i.toNat * size))))
noncomputable def bnd (x:Int) (y:Nat) (K:Nat->M α):M α:=need (decide (0≤x)) (need (decide (x≤(y:Int))) (K x.toNat))
noncomputable def cutStr (s:List UInt8) (lo hi:Option Int) (K:List UInt8->M α):M α:=
 let top (K:Nat->M α):M α:=match hi with | some x=>bnd x s.length K | none=>K s.length
 top fun h=>(match lo with | some x=>bnd x h (fun l=>K ((s.take h).drop l)) | none=>K (s.take h))
def Sl.from (s:Sl) (l m size:Nat):Option Ad:=
 match s.loose with
 | none=>cond (Nat.beq m l) s.ad (s.ad.map (·.add (l * size)))
 | some _=>s.ad.map (·.add (l * size))
noncomputable def cutSl (s:Sl) (size:Nat) (lo hi mx:Option Int) (K:Sl->M α):M α:=
 match mx with
 | some x=>bnd x s.cap fun m=>(match hi with
  | some x=>bnd x m fun h=>(match lo with
   | some x=>bnd x h (fun l=>need (s.loose.isNone || Nat.beq l 0) (K ⟨s.from l m size, h - l, m - l, none⟩))
   | none=>K ⟨s.from 0 m size, h, m, none⟩)
  | none=>fail)
 | none=>need (match s.loose with | none=>true | some e=>Nat.beq e size) <|
  let top (K:Nat->M α):M α:=match hi with | some x=>bnd x s.cap K | none=>K s.len
  top fun h=>(match lo with
   | some x=>bnd x h (fun l=>K ⟨s.from l s.cap size, h - l, s.cap - l, s.loose⟩)
   | none=>K ⟨s.from 0 s.cap size, h, s.cap, s.loose⟩)
noncomputable def rdSl (s:Sl) (size:Nat) (K:List V->M α):M α:=
 match s.ad with | some a=>zgr a (s.len * size) K | none=>need (Nat.beq s.len 0) (K [])
noncomputable def zbo (s:Sl) (size bytes n:Nat) (more:List V) (K:Sl->M α):M α:=
 need (Nat.beq more.length (n * size)) <|
 match s.loose with
 | none=>
  cond (Nat.ble (s.len + n) s.cap)
   (match s.ad with
    | some a=>zdc (a.add (s.len * size)) more (K ⟨s.ad, s.len + n, s.cap, none⟩)
    | none=>K ⟨none, s.len + n, s.cap, none⟩)
   (need (Nat.blt 0 bytes && Nat.ble ((s.len + n + (s.len + n) / 4 + 512) * bytes) 281474976710656) (rdSl s size fun old=>
    fun h=>K ⟨some ⟨h.next, 0⟩, s.len + n, s.len + n, some size⟩ (h.push (.cells (old ++ more) true))))
 | some e=>
  cond (Nat.beq n 0) (K s) <|
  need (Nat.beq e size) <| need (Nat.blt 0 bytes && Nat.ble ((s.len + n + (s.len + n) / 4 + 512) * bytes) 281474976710656) <|
  match s.ad with
  | none=>fail
  | some a=>zgr a (s.len * size) fun old=>fun h=>
   cond (h.own a.id) (K ⟨some ⟨h.next, 0⟩, s.len + n, s.len + n, some size⟩ ((h.put a.id none).push (.cells (old ++ more) true))) none
def bytesOf:List V->Option (List UInt8)
 | []=>some []
 | .int .u8 n :: vs=>(bytesOf vs).map (UInt8.ofNat n.toNat :: ·)
 | _=>none
def yn (s:List UInt8):List V:=s.map fun b=>.int .u8 (b.toNat:Int)
noncomputable def zgq (s:List UInt8) (K:Ad->M α):M α:=fun h=>K ⟨h.next, 0⟩ (h.push (.cells (yn s) true))
noncomputable def ownK (s:Sl) (K:M α):M α:=need (Nat.blt 0 s.cap) <| match s.ad with | some a=>fun h=>cond (h.own a.id) (K h) none | none=>fail
noncomputable def yr (s:Sl) (size bytes:Nat) (x:Sl) (K:Sl->M α):M α:=rdSl x size fun more=>zbo s size bytes x.len more K
noncomputable def appStr (s:Sl) (x:List UInt8) (K:Sl->M α):M α:=zbo s 1 1 x.length (yn x) K
noncomputable def zgo (el:Nat) (s:Sl) (x:List UInt8) (K:Sl->M α):M α:=fun h=>
 cond (Nat.beq x.length 0) (K s h) <|
 cond (Nat.ble (s.len + x.length + (s.len + x.length) / 4 + 512) 281474976710656)
  (match s.ad with
   | none=>K ⟨some ⟨h.next, 0⟩, s.len + x.length, s.len + x.length, some 1⟩ (h.push (.cellsT el false (yn x)))
   | some a=>match h.get a.id with
    | some (.cellsT t false cs)=>cond (Nat.beq t el && (Nat.beq a.off 0 && (Nat.beq cs.length s.len && decide (s.loose = some 1))))
      (K ⟨some ⟨h.next, 0⟩, s.len + x.length, s.len + x.length, some 1⟩ ((h.put a.id none).push (.cellsT el false (cs ++ yn x)))) none
    | _=>none) none
noncomputable def zds (d x:Sl) (size:Nat) (K:Int->M α):M α:=
 rdSl { x with len:=min x.len d.len } size fun more=>
  match d.ad with
  | some a=>zdc a more (K (min x.len d.len:Int))
  | none=>K (min x.len d.len:Int)
noncomputable def clearSl (s:Sl) (zero:List V) (K:M α):M α:=
 match s.ad with
 | some a=>need (zero.all oneV) (zdc a ((List.replicate s.len zero).flatten) K)
 | none=>K
noncomputable def mkSl (l c:Int) (bytes:Nat) (zero:List V) (K:Sl->M α):M α:=
 need (decide (0≤l)) <| need (decide (l≤c)) <| need (decide (c * (bytes:Int)≤281474976710656)) <| need (decide (c≤281474976710656)) <|
  need (zero.all oneV) fun h=>K ⟨some ⟨h.next, 0⟩, l.toNat, c.toNat, none⟩ (h.push (.cells ((List.replicate c.toNat zero).flatten) true))
noncomputable def toStr (l:List V) (K:List UInt8->M α):M α:=match bytesOf l with | some b=>K b | none=>fail
noncomputable def zhr (v:V) (t:Nat) (Ky:V->M α) (Kn:M α):M α:=
 match v with | .nilIface=>Kn | .iface u w=>cond (Nat.beq u t) (Ky w) Kn | _=>fail
noncomputable def zf (l:List V) (K:V->List V->M α):M α:=match l with | x :: xs=>K x xs | []=>fail
noncomputable def jq (l:List V) (K:M α):M α:=match l with | []=>K | _ :: _=>fail
noncomputable def asLen:Nat->List V->(List V->M α)->M α
 | 0, l, K=>jq l (K [])
 | n + 1, l, K=>zf l fun x xs=>asLen n xs fun ys=>K (x :: ys)
noncomputable def zbc (v:V) (K:Nat->List V->List V->M α):M α:=match v with | .func f a b=>K f a b | _=>fail
def zhf:List UInt8->UInt8->Int
 | [], _=>-1
 | b :: l, c=>if b == c then 0 else if zhf l c == -1 then -1 else zhf l c + 1
def indexByte (s:List UInt8) (c:Int):Int:=zhf s c.toNat.toUInt8
def eq1B:V->V->Option Bool
 | .int j a, .int k b=>cond (yc j k) (some (decide (a = b))) none
 | .str a, .str b=>some (decide (a = b))
 | .bool a, .bool b=>some (decide (a = b))
 | _, _=>none
def eqB:List V->List V->Option Bool
 | [], []=>some true
 | x :: xs, y :: ys=>match eq1B x y, eqB xs ys with | some b, some c=>some (b && c) | _, _=>none
 | _, _=>none
def zeb:TypeDesc->V->Bool
 | .int k, .int j _=>yc k j
 | .string, .str _=>true
 | .bool, .bool _=>true
 | _, _=>false
def keq:V->V->Option Bool
 | .int j a, .int k b=>cond (yc j k) (some (decide (a = b))) none
 | .str a, .str b=>some (decide (a = b))
 | .bool a, .bool b=>some (decide (a = b))
 | .agg a, .agg b=>eqB a b
 | _, _=>none
def zee (k:V):List (V × V)->Option (Option V)
 | []=>some none
 | e :: es=>match keq k e.1 with | some true=>some (some e.2) | some false=>zee k es | none=>none
def putK (k v:V):List (V × V)->Option (List (V × V))
 | []=>some [(k, v)]
 | e :: es=>match keq k e.1 with | some true=>some ((k, v) :: es) | some false=>(putK k v es).map (e :: ·) | none=>none
noncomputable def newMap (K:Nat->M α):M α:=fun h=>K h.next (h.push (.map []))
noncomputable def zha (r:Option Nat) (K:List (V × V)->M α):M α:=
 match r with
 | none=>K []
 | some i=>fun h=>match h.get i with | some (.map es)=>K es h | _=>none
noncomputable def lookM (r:Option Nat) (k:V) (Kn:M α) (Ks:V->M α):M α:=
 zha r fun es=>match zee k es with | some (some v)=>Ks v | some none=>Kn | none=>fail
noncomputable def setMap (r:Option Nat) (k v:V) (K:M α):M α:=
 match r with
 | none=>fail
 | some i=>fun h=>match h.get i with
  | some (.map es)=>(match putK k v es with | some es=>K (h.put i (some (.map es))) | none=>none)
  | _=>none
noncomputable def anyK {β:Type}:List β->(β->M α)->M α
 | [], _=>fail
 | x :: xs, K=>fun h=>match K x h with
  | some a=>cond (xs.all fun y=>(K y h).isSome) (some a) none
  | none=>none
noncomputable def newIt (x:It) (K:Nat->M α):M α:=fun h=>K h.next (h.push (.iter x))
def zfz (n seen:Nat):List Nat:=(List.range n).filter fun i=>!seen.testBit i
noncomputable def nextM (r:Nat) (Kd:M α) (K:V->V->M α):M α:=fun h=>match h.get r with
 | some (.iter (.map none _ _ _))=>Kd (h.put r none)
 | some (.iter (.map (some m) n seen _))=>(match h.get m with
  | some (.map es)=>cond (Nat.beq es.length n) (match zfz n seen with
   | []=>Kd (h.put r none)
   | i :: l=>anyK (i :: l) (fun i=>match es[i]? with
    | some e=>fun h=>K e.1 e.2 (h.put r (some (.iter (.map (some m) n (seen ||| 2 ^ i) i))))
    | none=>fail) h) none
  | _=>none)
 | _=>none
noncomputable def nextS (r:Nat) (Kd:M α) (K:Int->Int->M α):M α:=fun h=>match h.get r with
 | some (.iter (.str s pos))=>(match s[pos]? with
  | none=>Kd (h.put r none)
  | some b=>cond (Nat.blt b.toNat 128) (K (pos:Int) (b.toNat:Int) (h.put r (some (.iter (.str s (pos + 1)))))) none)
 | _=>none
noncomputable def entM (r:Nat) (K:V->V->M α):M α:=fun h=>match h.get r with
 | some (.iter (.map (some m) n seen last))=>cond (Nat.beq seen 0) none (match h.get m with
  | some (.map es)=>cond (Nat.beq es.length n) (match es[last]? with | some e=>K e.1 e.2 h | none=>none) none
  | _=>none)
 | _=>none
end prims
structure TI where
 und:TypeDesc
 size:Nat
 bytes:Nat
 zero:List V
 sh:List Sh
 agg:Bool
 plain:Bool
structure Tab where
 ti:Nat->Option TI
 glob:Nat->Option Nat
 spec:Nat->Bool
def lookT:List (Nat × TI)->Nat->Option TI
 | [], _=>none
 | (k, i) :: l, t=>cond (Nat.beq t k) (some i) (lookT l t)
abbrev Frame:=Nat->V
def Frame.set (ρ:Frame) (t:Nat) (v:V):Frame:=fun u=>cond (Nat.beq u t) v (ρ u)
def Frame.put (ρ:Frame) (d:Option Nat) (v:V):Frame:=match d with | some t=>ρ.set t v | none=>ρ
def za:List (Nat × V)->Frame
 | []=>fun _=>.undef
 | (t, v) :: r=>fun u=>cond (Nat.beq u t) v (za r u)
def zat (keep:List Nat) (ρ:Frame):Frame:=za (keep.map fun t=>(t, ρ t))
def idx:Nat->List V->List (Nat × V)
 | _, []=>[]
 | i, v :: r=>(i, v) :: idx (i + 1) r
def ofV:Value->V
 | .bool b=>.bool b
 | .int k n=>.int k n
 | .string s=>.str s.data.toList
 | .pointer none=>.ptr none
 | .slice none 0 0=>.slice Sl.nil
 | .map none=>.map none
 | .nilFunc=>.nilFunc
 | .nilIface=>.nilIface
 | _=>.undef
def ofVal:Value->V
 | .agg cs=>.agg (cs.toList.map ofV)
 | v=>ofV v
def ev (T:Tab) (ρ:Frame):Operand->V
 | .tmp t=>ρ t
 | .const v=>ofVal v
 | .global g=>(match T.glob g with | some i=>.ptr (some ⟨i, 0⟩) | none=>.undef)
 | .func f=>.func f [] []
def isC:Operand->Bool
 | .const _=>true
 | _=>false
abbrev w64 (n:Int):Int:=IntKind.wrap .i64 n
section ops
variable {α:Type}
def bits (op:BinOp) (k:IntKind) (x y:Int):Int:=
 k.wrap ((match op with
  | .and=>BitVec.ofInt k.bits x &&& BitVec.ofInt k.bits y
  | .or=>BitVec.ofInt k.bits x ||| BitVec.ofInt k.bits y
  | .xor=>BitVec.ofInt k.bits x ^^^ BitVec.ofInt k.bits y
  | _=>BitVec.ofInt k.bits x &&& ~~~BitVec.ofInt k.bits y).toNat:Int)
noncomputable def arith (op:BinOp) (k:IntKind) (a b:Int) (K:V->M α):M α:=
 match op with
 | .add=>K (.int k (k.wrap (a + b)))
 | .sub=>K (.int k (k.wrap (a - b)))
 | .mul=>K (.int k (k.wrap (a * b)))
 | .quo=>need (!decide (b = 0)) (K (.int k (k.wrap (a.tdiv b))))
 | .rem=>need (!decide (b = 0)) (K (.int k (a.tmod b)))
 | .and=>K (.int k (bits .and k a b))
 | .or=>K (.int k (bits .or k a b))
 | .xor=>K (.int k (bits .xor k a b))
 | .andNot=>K (.int k (bits .andNot k a b))
 | .eql=>K (.bool (decide (a = b)))
 | .neq=>K (.bool (!decide (a = b)))
 | .lss=>K (.bool (decide (a < b)))
 | .leq=>K (.bool (decide (a≤b)))
 | .gtr=>K (.bool (decide (b < a)))
 | .geq=>K (.bool (decide (b≤a)))
 | _=>fail
noncomputable def shift (op:BinOp) (k:IntKind) (a b:Int) (K:V->M α):M α:=
 need (decide (0≤b)) <| match op with
 | .shl=>K (.int k (k.wrap (a * 2 ^ (min b.toNat k.bits))))
 | .shr=>K (.int k (a.fdiv (2 ^ (min b.toNat k.bits))))
 | _=>fail
noncomputable def strOp (op:BinOp) (a b:List UInt8) (K:V->M α):M α:=
 match op with
 | .add=>cat a b fun s=>K (.str s)
 | .eql=>K (.bool (decide (a = b)))
 | .neq=>K (.bool (!decide (a = b)))
 | .lss=>K (.bool (Op.bytesLess a b))
 | .leq=>K (.bool (Op.bytesLess a b || decide (a = b)))
 | .gtr=>K (.bool (!(Op.bytesLess a b || decide (a = b))))
 | .geq=>K (.bool (!Op.bytesLess a b))
 | _=>fail
noncomputable def eq1 (x y:V) (K:Bool->M α):M α:=
 match x, y with
 | .int j a, .int k b=>need (yc j k) (K (decide (a = b)))
 | .str a, .str b=>K (decide (a = b))
 | .bool a, .bool b=>K (decide (a = b))
 | _, _=>fail
noncomputable def eqAll:List V->List V->(Bool->M α)->M α
 | [], [], K=>K true
 | x :: xs, y :: ys, K=>eq1 x y fun b=>eqAll xs ys fun c=>K (b && c)
 | _, _, _=>fail
def undK:TypeDesc->Nat
 | .pointer _=>0
 | .slice _=>1
 | .map _ _=>2
 | .func _ _ _=>3
 | .bool=>4
 | .interface _=>5
 | _=>6
def zel:Sh->V->Bool
 | .int k, .int j _=>yc k j
 | .bool, .bool _=>true
 | .str, .str _=>true
 | _, _=>false
def jv:List Sh->List V->Bool
 | [], []=>true
 | s :: ss, v :: vs=>zel s v && jv ss vs
 | _, _=>false
def zcx (i:TI) (k:V):Bool:=zeb i.und k || (match i.und, k with | .struct _, .agg cs=>i.plain && jv i.sh cs | _, _=>false)
def isK (T:Tab) (t:TypeId) (n:Nat):Bool:=match T.ti t with | some i=>Nat.beq (undK i.und) n | none=>false
noncomputable def eqV (T:Tab) (t:TypeId) (x y:V) (K:Bool->M α):M α:=
 match x, y with
 | .ptr a, .ptr none=>need (isK T t 0) (K a.isNone)
 | .ptr none, .ptr (some _)=>need (isK T t 0) (K false)
 | .slice s, .slice ⟨none, _, _, _⟩=>need (isK T t 1) (K s.ad.isNone)
 | .map a, .map none=>need (isK T t 2) (K a.isNone)
 | .nilFunc, .nilFunc=>need (isK T t 3) (K true)
 | .func _ _ _, .nilFunc=>need (isK T t 3) (K false)
 | .bool a, .bool b=>need (isK T t 4) (K (decide (a = b)))
 | .agg xs, .agg ys=>(match T.ti t with | some i=>need (i.plain && jv i.sh xs) (eqAll xs ys K) | none=>fail)
 | _, _=>fail
def eqOr (op:BinOp) (b:Bool):Bool:=match op with | .eql=>b | _=>!b
noncomputable def binOp (T:Tab) (op:BinOp) (t:TypeId) (ox oy:Operand) (x y:V) (K:V->M α):M α:=
 match op with
 | .shl | .shr=>(match x, y with | .int k a, .int _ b=>shift op k a b K | _, _=>fail)
 | .eql | .neq=>
  let out (b:Bool):M α:=K (.bool (eqOr op b))
  (match y with
   | .nilIface=>need (isC ox || isC oy) (need (isK T t 5) (asNil x out))
   | _=>(match x, y with
    | .int j a, .int k b=>need (yc j k) (arith op k a b K)
    | .str a, .str b=>strOp op a b K
    | _, _=>eqV T t x y out))
 | _=>(match x, y with
  | .int j a, .int k b=>need (yc j k) (arith op k a b K)
  | .str a, .str b=>strOp op a b K
  | _, _=>fail)
noncomputable def unOp (op:UnOp) (x:V) (K:V->M α):M α:=
 match op, x with
 | .neg, .int k n=>K (.int k (k.wrap (0 - n)))
 | .xor, .int k n=>K (.int k (bits .xor k (if k.signed then -1 else k.max) n))
 | .not, .bool b=>K (.bool !b)
 | _, _=>fail
def flatV:V->Bool
 | .bool _ | .int _ _ | .str _ | .ptr none | .map none | .nilFunc | .nilIface=>true
 | .slice s=>(match s.ad with | none=>true | some _=>false)
 | _=>false
def plainV:V->Bool
 | .bool _ | .int _ _ | .str _=>true
 | _=>false
def plainOk (z cs:List V):Bool:=cond (z.all plainV) (cs.all flatV) true
noncomputable def fillL (place:Nat->Option (Nat × Nat)) (cells:List V) (K:List V->M α):List (Nat × V)->M α
 | []=>K cells
 | (i, v) :: r=>(match place i with
  | none=>fail
  | some (off, size)=>need (okP v && (Nat.beq v.cells.length size && Nat.ble (off + size) cells.length)) (fillL place (over cells off v.cells) K r))
def fieldAt (T:Tab) (fs:Array Field) (i:Nat):Option (Nat × TI):=
 match fs[i]? with
 | some f=>(match T.ti f.type with | some ti=>some (f.offset, ti) | none=>none)
 | none=>none
noncomputable def part (ti:TI) (cs:List V) (off:Nat) (K:V->M α):M α:=
 cond ti.agg (K (.agg ((cs.drop off).take ti.size))) (match cs[off]? with | some v=>K v | none=>fail)
def rep (n:Nat) (z:List V):List V:=(List.replicate n z).flatten
noncomputable def conv (T:Tab) (src dst:TypeId) (x:V) (K:V->M α):M α:=
 match T.ti src, T.ti dst with
 | some s, some d=>(match d.und, x with
  | .int k, .int _ n=>K (.int k (k.wrap n))
  | .string, .str b=>K (.str b)
  | .slice e, .slice sl=>(match T.ti e with
   | some ⟨.int .u8, _, _, _, _, _, _⟩=>need (Nat.beq src dst) (ownK sl (K (.slice sl)))
   | _=>fail)
  | .slice e, .str b=>(match s.und with
   | .string=>(match T.ti e with
    | some ⟨.int .u8, _, _, _, _, _, _⟩=>zgq b fun a=>K (.slice ⟨some a, b.length, b.length, some 1⟩)
    | _=>fail)
   | _=>fail)
  | .string, .slice sl=>(match s.und with
   | .slice e=>(match T.ti e with
    | some ⟨.int .u8, _, _, _, _, _, _⟩=>rdSl sl 1 fun cs=>toStr cs fun b=>K (.str b)
    | _=>fail)
   | _=>fail)
  | _, _=>fail)
 | _, _=>fail
noncomputable def oI (T:Tab) (ρ:Frame) (o:Option Operand) (K:Option Int->M α):M α:=
 match o with
 | none=>K none
 | some x=>(match ev T ρ x with | .int _ n=>K (some n) | _=>fail)
abbrev Call (α:Type):=FuncId->List V->(Res->M α)->M α
def zbr (T:Tab) (ats:Array TypeId) (i:Nat):Nat:=
 match ats[i]? with
 | some t=>(match T.ti t with
  | some ⟨.string, _, _, _, _, _, _⟩=>0
  | some ⟨.slice _, _, _, _, _, _, _⟩=>1
  | some ⟨.map _ _, _, _, _, _, _, _⟩=>2
  | _=>3)
 | none=>3
noncomputable def builtin (T:Tab) (b:Builtin) (ats:Array TypeId) (args:List V) (K:V->M α):M α:=
 match b, args with
 | .len, [.str s]=>need (Nat.beq (zbr T ats 0) 0) (K (.int .i64 (s.length:Int)))
 | .len, [.slice s]=>need (Nat.beq (zbr T ats 0) 1) (K (.int .i64 (s.len:Int)))
 | .len, [.map r]=>need (Nat.beq (zbr T ats 0) 2) (zha r fun es=>K (.int .i64 (es.length:Int)))
 | .cap, [.slice s]=>need (Nat.beq (zbr T ats 0) 1) (need s.loose.isNone (K (.int .i64 (s.cap:Int))))
 | .min, [.int j a, .int k b]=>need (yc j k) (K (.int j (if b < a then b else a)))
 | .max, [.int j a, .int k b]=>need (yc j k) (K (.int j (if b > a then b else a)))
 | .append, [.slice s, .str x]=>need (Nat.beq (zbr T ats 1) 0) <| (match ats[0]? with
  | some t=>(match T.ti t with
   | some ⟨.slice e, _, _, _, _, _, _⟩=>(match T.ti e with
    | some i=>need (Nat.beq i.size 1 && Nat.beq i.bytes 1) (cond (T.spec e) (zgo e s x fun s=>K (.slice s)) (appStr s x fun s=>K (.slice s)))
    | none=>fail)
   | _=>fail)
  | none=>fail)
 | .append, [.slice s, .slice x]=>need (Nat.beq (zbr T ats 1) 1) <| (match ats[0]? with
  | some t=>(match T.ti t with
   | some ⟨.slice e, _, _, _, _, _, _⟩=>(match T.ti e with
    | some i=>yr s i.size i.bytes x fun s=>K (.slice s)
    | none=>fail)
   | _=>fail)
  | none=>fail)
 | .clear, [.slice s]=>(match ats[0]? with
  | some t=>(match T.ti t with
   | some ⟨.slice e, _, _, _, _, _, _⟩=>(match T.ti e with
    | some i=>clearSl s i.zero (K (.tuple []))
    | none=>fail)
   | _=>fail)
  | none=>fail)
 | .copy, [.slice d, .slice x]=>(match ats[0]? with
  | some t=>(match T.ti t with
   | some ⟨.slice e, _, _, _, _, _, _⟩=>(match T.ti e with
    | some i=>zds d x i.size fun n=>K (.int .i64 n)
    | none=>fail)
   | _=>fail)
  | none=>fail)
 | _, _=>fail
noncomputable def shV (b:Bool) (sh:List Sh) (v:V) (K:V->M α):M α:=cond b (K v) (match sh with | [s]=>asSh s v K | _=>fail)
noncomputable def atL (cs:List V) (n:Nat) (K:V->M α):M α:=match cs[n]? with | some v=>K v | none=>fail
noncomputable def zi (T:Tab) (call:Call α) (ρ:Frame) (o:Oper) (K:V->M α) (E:V->M α):M α:=
 match o.op with
 | .move x | .assign x=>K (ev T ρ x)
 | .pick c a b=>asB (ev T ρ c) fun g=>cond g (K (ev T ρ a)) (K (ev T ρ b))
 | .alloc t=>(match T.ti t with | some i=>cond (T.spec t) (newT t i.zero fun a=>K (.ptr (some a))) (new i.zero fun a=>K (.ptr (some a))) | none=>fail)
 | .box _ x=>new (ev T ρ x).cells fun a=>K (.ptr (some a))
 | .build t ps=>(match T.ti t with
  | some ⟨.struct fs, _, _, z, _, _, _⟩=>
   fillL (fun i=>(fieldAt T fs i).map fun (o, ti)=>(o, ti.size)) z (fun cs=>K (.agg cs)) (ps.toList.map fun (i, x)=>(i, ev T ρ x))
  | some ⟨.array _ e, _, _, z, _, _, _⟩=>(match T.ti e with
   | some ti=>fillL (fun i=>some (i * ti.size, ti.size)) z (fun cs=>K (.agg cs)) (ps.toList.map fun (i, x)=>(i, ev T ρ x))
   | none=>fail)
  | _=>fail)
 | .buildSlice t n ps=>(match T.ti t with
  | some ⟨.slice e, _, _, _, _, _, _⟩=>(match T.ti e with
   | some ti=>need (Nat.ble (n * ti.size) 16777216) <|
    fillL (fun i=>some (i * ti.size, ti.size)) (rep n ti.zero) (fun cs=>need (plainOk ti.zero cs) <| new cs fun a=>K (.slice ⟨some a, n, n, none⟩)) (ps.toList.map fun (i, x)=>(i, ev T ρ x))
   | none=>fail)
  | _=>fail)
 | .load t a=>asP (ev T ρ a) fun p=>asSome p fun p=>(match T.ti t with
  | some i=>yz p 0 i.sh fun cs=>mk i.agg cs K
  | none=>fail)
 | .store t a x=>asP (ev T ρ a) fun p=>asSome p fun p=>(match T.ti t with
  | some i=>need (Nat.beq (ev T ρ x).cells.length i.size) (stL p 0 (ev T ρ x).cells (K .undef))
  | none=>fail)
 | .nilCheck x=>(match ev T ρ x with
  | .ptr p=>asSome p fun p=>K (.ptr (some p))
  | .func f a b=>K (.func f a b)
  | _=>fail)
 | .binOp op t x y _=>binOp T op t x y (ev T ρ x) (ev T ρ y) K
 | .unOp op _ x=>unOp op (ev T ρ x) K
 | .convert s d x=>conv T s d (ev T ρ x) K
 | .makeInterface t x=>(match T.ti t with
  | some ⟨.interface _, _, _, _, _, _, _⟩=>fail
  | some _=>K (.iface t (ev T ρ x))
  | none=>fail)
 | .makeFunc (.func f) first cap=>K (.func f (first.toList.map (ev T ρ)) (cap.toList.map (ev T ρ)))
 | .makeMap _ none=>newMap fun r=>K (.map (some r))
 | .makeSlice t l c=>(match T.ti t with
  | some ⟨.slice e, _, _, _, _, _, _⟩=>(match T.ti e, ev T ρ l, ev T ρ c with
   | some i, .int _ l, .int _ c=>mkSl l c i.bytes i.zero fun s=>K (.slice s)
   | _, _, _=>fail)
  | _=>fail)
 | .slice t x lo hi mx=>oI T ρ lo fun lo=>oI T ρ hi fun hi=>oI T ρ mx fun mx=>(match ev T ρ x with
  | .str s=>(match T.ti t with
   | some ⟨.string, _, _, _, _, _, _⟩=>(match mx with | none=>cutStr s lo hi fun s=>K (.str s) | some _=>fail)
   | _=>fail)
  | .slice s=>(match T.ti t with
   | some ⟨.slice e, _, _, _, _, _, _⟩=>(match T.ti e with | some i=>cutSl s i.size lo hi mx fun s=>K (.slice s) | none=>fail)
   | _=>fail)
  | .ptr (some p)=>(match T.ti t with
   | some ⟨.array n e, _, _, _, _, _, _⟩=>(match T.ti e with
    | some i=>(match mx with | none=>cutSl ⟨some p, n, n, none⟩ i.size lo hi none fun s=>K (.slice s) | some _=>fail)
    | none=>fail)
   | _=>fail)
  | _=>fail)
 | .fieldAddr t x i=>asP (ev T ρ x) fun p=>asSome p fun p=>(match T.ti t with
  | some ⟨.struct fs, _, _, _, _, _, _⟩=>(match fieldAt T fs i with
   | some (off, ti)=>need (Nat.blt 0 ti.size) (K (.ptr (some (p.add off))))
   | none=>fail)
  | _=>fail)
 | .field t x i=>(match T.ti t with
  | some ⟨.struct fs, _, _, _, _, _, _⟩=>(match fieldAt T fs i with
   | some (off, ti)=>asAgg (ev T ρ x) fun cs=>part ti cs off K
   | none=>fail)
  | _=>fail)
 | .indexAddr t x ix=>(match T.ti t with
  | some ⟨.slice e, _, _, _, _, _, _⟩=>(match T.ti e, ev T ρ ix with
   | some i, .int _ n=>asS (ev T ρ x) fun s=>idxSl s n i.size fun a=>K (.ptr (some a))
   | _, _=>fail)
  | some ⟨.array len e, _, _, _, _, _, _⟩=>(match T.ti e, ev T ρ ix with
   | some i, .int _ n=>asP (ev T ρ x) fun p=>asSome p fun p=>
    need (decide (0≤n)) (need (decide (n < (len:Int))) (K (.ptr (some (p.add (n.toNat * i.size))))))
   | _, _=>fail)
  | _=>fail)
 | .index t x ix=>(match ev T ρ ix with
  | .int _ n=>(match ev T ρ x with
   | .str s=>(match T.ti t with | some ⟨.string, _, _, _, _, _, _⟩=>idxStr s n fun b=>K (.int .u8 b) | _=>fail)
   | .agg cs=>(match T.ti t with
    | some ⟨.array len e, _, _, _, _, _, _⟩=>(match T.ti e with
     | some i=>need (decide (0≤n)) (need (decide (n < (len:Int))) (part i cs (n.toNat * i.size) fun v=>shV i.agg i.sh v K))
     | none=>fail)
    | _=>fail)
   | _=>fail)
  | _=>fail)
 | .lookup t x k ok=>(match T.ti t with
  | some ⟨.map kt e, _, _, _, _, _, _⟩=>(match T.ti kt, T.ti e with
   | some ki, some i=>asMap (ev T ρ x) fun r=>need (zcx ki (ev T ρ k)) <|
    let out (v:V) (b:Bool):M α:=cond ok (K (.tuple [v, .bool b])) (K v)
    lookM r (ev T ρ k) (mk i.agg i.zero fun v=>out v false) fun v=>
     cond i.agg (asAgg v fun cs=>asAll i.sh cs fun cs=>out (.agg cs) true) (match i.sh with | [s]=>asSh s v fun v=>out v true | _=>fail)
   | _, _=>fail)
  | _=>fail)
 | .mapUpdate t m k x=>(match T.ti t with
  | some ⟨.map kt _, _, _, _, _, _, _⟩=>(match T.ti kt with
   | some ki=>asMap (ev T ρ m) fun r=>need (zcx ki (ev T ρ k)) (setMap r (ev T ρ k) (ev T ρ x) (K .undef))
   | none=>fail)
  | _=>fail)
 | .range t x=>(match ev T ρ x with
  | .str s=>(match T.ti t with | some ⟨.string, _, _, _, _, _, _⟩=>newIt (.str s 0) fun r=>K (.ptr (some ⟨r, 0⟩)) | _=>fail)
  | .map r=>(match T.ti t with | some ⟨.map _ _, _, _, _, _, _, _⟩=>zha r fun es=>newIt (.map r es.length 0 0) fun r=>K (.ptr (some ⟨r, 0⟩)) | _=>fail)
  | _=>fail)
 | .next it b=>asP (ev T ρ it) fun p=>asSome p fun p=>need (Nat.beq p.off 0) <| (match b with
  | true=>nextS p.id (K (.tuple [.bool false])) fun i c=>K (.tuple [.bool true, .int .i64 i, .int .i32 c])
  | false=>nextM p.id (K (.tuple [.bool false])) fun k v=>K (.tuple [.bool true, k, v]))
 | .entry it=>asP (ev T ρ it) fun p=>asSome p fun p=>need (Nat.beq p.off 0) (entM p.id fun k v=>K (.tuple [k, v]))
 | .typeAssert x _ t true=>(match T.ti t with
  | some ⟨.interface _, _, _, _, _, _, _⟩=>fail
  | some i=>zhr (ev T ρ x) t (fun v=>K (.tuple [v, .bool true])) (mk i.agg i.zero fun z=>K (.tuple [z, .bool false]))
  | none=>fail)
 | .extract t i=>(match ev T ρ t with
  | .tuple vs=>(match vs[i]? with | some v=>K v | none=>fail)
  | _=>fail)
 | .call c=>(match c.callee with
  | .value f=>(match ev T ρ f with
   | .func g first cap=>call g (first ++ (c.args.toList.map (ev T ρ) ++ cap)) fun r=>(match r with | .ret v=>K v | .pan v=>E v)
   | _=>fail)
  | .builtin b=>builtin T b c.argTypes (c.args.toList.map (ev T ρ)) K
  | .invoke _ _=>fail)
 | .panic x=>(match ev T ρ x with | .iface t v=>E (.iface t v) | _=>fail)
 | _=>fail
def zbv (all:Array Oper) (j:Nat):Option Nat:=match all[j]? with | some o=>o.dst | none=>none
noncomputable def zal (T:Tab) (call:Call α) (all:Array Oper):List Oper->Frame->(Frame->M α)->(V->M α)->M α
 | [], ρ, K, _=>K ρ
 | o :: rest, ρ, K, E=>
  match o.guard with
  | none=>zi T call ρ o (fun v=>zal T call all rest (ρ.put o.dst v) K E) E
  | some (j, want)=>
   match zbv all j with
   | none=>fail
   | some t=>match ρ t with
    | .bool g=>zif g fun g=>
     cond (g == want)
      (zi T call (ρ.set t (.bool g)) o (fun v=>zal T call all rest ((ρ.set t (.bool g)).put o.dst v) K E) E)
      (zal T call all rest ((ρ.set t (.bool g)).put o.dst (.tuple [])) K E)
    | .tuple []=>zal T call all rest (ρ.put o.dst (.tuple [])) K E
    | _=>fail
end ops
inductive Do where
 | op (i:Nat)
 | np (i:Nat)
 | look (i:Nat)
 | expect (t:Nat) (fs:List (Nat × Nat × Nat))
inductive IC where
 | skip
 | ops (id:Nat) (ops:Array Oper)
 | drawn (id:Nat) (ops:Array Oper) (draw:Bool) (plan:List Do)
 | seq (a b:IC)
 | cond (c:Operand) (a b:IC)
 | block (id:Nat) (c:IC)
 | loop (keep:List Nat) (c:IC)
 | cut (keep:List Nat) (c:IC)
 | exit (id:Nat) (keep:List Nat)
 | ret (keep:List Nat)
 | dead (c:Code)
inductive Ex where
 | normal
 | exit (id:Nat)
 | ret
 | pan (v:V)
section code
variable {α:Type}
def zcg (f:V->V->Bool):List V->List V->Bool
 | [], []=>true
 | x :: xs, y :: ys=>f x y && zcg f xs ys
 | _, _=>false
def zar:Nat->V->V->Bool
 | 0, _, _=>false
 | d + 1, v, w=>match v, w with
  | .nilIface, .nilIface=>true
  | .nilFunc, .nilFunc=>true
  | .int j a, .int k b=>yc j k && decide (a = b)
  | .bool a, .bool b=>decide (a = b)
  | .str a, .str b=>decide (a = b)
  | .ptr a, .ptr b=>decide (a = b)
  | .slice a, .slice b=>decide (a = b)
  | .map a, .map b=>decide (a = b)
  | .func f a b, .func g x y=>Nat.beq f g && (zcg (zar d) a x && zcg (zar d) b y)
  | .agg a, .agg b=>zcg (zar d) a b
  | .tuple a, .tuple b=>zcg (zar d) a b
  | .iface t a, .iface u b=>Nat.beq t u && zar d a b
  | _, _=>false
noncomputable def zcy:V->V->M α->M α
 | .nilIface, .nilIface, K=>K
 | .nilFunc, .nilFunc, K=>K
 | .iface t a, .iface u b, K=>need (Nat.beq t u) (zcy a b K)
 | .int j a, .int k b, K=>need (yc j k && decide (a = b)) K
 | .bool a, .bool b, K=>need (decide (a = b)) K
 | .str a, .str b, K=>need (decide (a = b)) K
 | .ptr a, .ptr b, K=>need (decide (a = b)) K
 | .slice a, .slice b, K=>need (decide (a = b)) K
 | .map a, .map b, K=>need (decide (a = b)) K
 | .func f a b, .func g x y, K=>need (zar 3 (.func f a b) (.func g x y)) K
 | _, _, _=>fail
noncomputable def zfo:List V->List V->M α->M α
 | [], [], K=>K
 | v :: vs, w :: ws, K=>zcy v w (zfo vs ws K)
 | _, _, _=>fail
noncomputable def zdg (v:V) (K K':M α):M α:=match v with | .tuple []=>K | _=>K'
noncomputable def zjf (T:Tab) (ρ:Frame) (o:Oper) (K:M α):M α:=
 match o.op, o.dst with
 | .load t a, some d=>zdg (ρ d) K (asP (ev T ρ a) fun p=>asSome p fun p=>(match T.ti t with
   | some i=>yz p 0 i.sh fun cs=>zfo (ρ d).cells cs K
   | none=>fail))
 | _, _=>fail
noncomputable def zec (ρ:Frame) (t:Nat) (f:Nat) (a b:List V) (K:Frame->M α):List (Nat × Nat × Nat)->M α
 | []=>fail
 | (g, n, m) :: r=>cond (Nat.beq f g) (asLen n a fun a=>asLen m b fun b=>K (ρ.set t (.func g a b))) (zec ρ t f a b K r)
noncomputable def jw (T:Tab) (call:Call α) (all:Array Oper):List Do->Frame->(Frame->M α)->(V->M α)->M α
 | [], ρ, K, _=>K ρ
 | .op i :: rest, ρ, K, E=>(match all[i]? with
  | some o=>zal T call all [o] ρ (fun ρ=>jw T call all rest ρ K E) E
  | none=>fail)
 | .np i :: rest, ρ, K, E=>(match all[i]? with
  | some o=>zal T call all [o] ρ (fun ρ=>jw T call all rest ρ K E) (fun _=>fail)
  | none=>fail)
 | .look i :: rest, ρ, K, E=>(match all[i]? with
  | some o=>zjf T ρ o (jw T call all rest ρ K E)
  | none=>fail)
 | .expect t fs :: rest, ρ, K, E=>zbc (ρ t) fun f a b=>zec ρ t f a b (fun ρ=>jw T call all rest ρ K E) fs
noncomputable def seqK (N:Frame->M α) (K:Ex->Frame->M α):Ex->Frame->M α
 | .normal, ρ=>N ρ
 | .exit i, ρ=>K (.exit i) ρ
 | .ret, ρ=>K .ret ρ
 | .pan v, ρ=>K (.pan v) ρ
noncomputable def jp (id:Nat) (K:Ex->Frame->M α):Ex->Frame->M α
 | .normal, ρ=>K .normal ρ
 | .exit i, ρ=>cond (Nat.beq i id) (K .normal ρ) (K (.exit i) ρ)
 | .ret, ρ=>K .ret ρ
 | .pan v, ρ=>K (.pan v) ρ
noncomputable def zu (body:Frame->(Ex->Frame->M α)->M α) (keep:List Nat):Nat->Frame->(Ex->Frame->M α)->M α
 | 0, _, _=>fail
 | j + 1, ρ, K=>body (zat keep ρ) (seqK (fun ρ=>zu body keep j ρ K) K)
theorem zx {body:Frame->(Ex->Frame->M α)->M α} {keep:List Nat} {ρ ρ':Frame} (h:zat keep ρ = zat keep ρ') (j:Nat) (K:Ex->Frame->M α) :
  zu body keep j ρ K = zu body keep j ρ' K:=by
 cases j with
 | zero=>rfl
 | succ j=>exact congrArg (fun r=>body r (seqK (fun ρ=>zu body keep j ρ K) K)) h
noncomputable def evC (T:Tab) (call:Call α) (n:Nat):IC->Frame->(Ex->Frame->M α)->M α
 | .skip, ρ, K=>K .normal ρ
 | .ops _ ops, ρ, K=>zal T call ops ops.toList ρ (K .normal) (fun v=>K (.pan v) (za []))
 | .drawn _ ops _ plan, ρ, K=>jw T call ops plan ρ (K .normal) (fun v=>K (.pan v) (za []))
 | .seq a b, ρ, K=>evC T call n a ρ (seqK (fun ρ=>evC T call n b ρ K) K)
 | .cond c a b, ρ, K=>asB (ev T ρ c) fun g=>_root_.cond g (evC T call n a ρ K) (evC T call n b ρ K)
 | .block id c, ρ, K=>evC T call n c ρ (jp id K)
 | .loop keep c, ρ, K=>zu (evC T call n c) keep n ρ K
 | .cut keep c, ρ, K=>evC T call n c ρ (seqK (fun ρ=>K .normal (zat keep ρ)) K)
 | .exit id keep, ρ, K=>K (.exit id) (zat keep ρ)
 | .ret keep, ρ, K=>K .ret (zat keep ρ)
 | .dead _, _, _=>fail
section rules
variable {T:Tab} {call:Call α} {n:Nat} {K:Ex->Frame->M α} {N:Frame->M α} {ρ:Frame}
theorem zj:seqK N K .normal ρ = N ρ:=(Eq.refl _).trans (Eq.refl _)
theorem zn {i:Nat}:seqK N K (.exit i) ρ = K (.exit i) ρ:=(Eq.refl _).trans (Eq.refl _)
theorem zq:seqK N K .ret ρ = K .ret ρ:=(Eq.refl _).trans (Eq.refl _)
theorem zp {v:V}:seqK N K (.pan v) ρ = K (.pan v) ρ:=(Eq.refl _).trans (Eq.refl _)
theorem jd {a b:IC} {R:M α} (h:evC T call n a ρ (seqK (fun ρ=>evC T call n b ρ K) K) = R):evC T call n (.seq a b) ρ K = R:=h
theorem ja {id:Nat} {c:IC}:evC T call n (.block id c) ρ K = evC T call n c ρ (jp id K):=rfl
theorem zjq {c:Operand} {a b:IC} {g:Bool} {A B:M α} (hg:ev T ρ c = .bool g) (ha:evC T call n a ρ K = A) (hb:evC T call n b ρ K = B):evC T call n (.cond c a b) ρ K = cond g A B:=by
 subst ha hb
 show asB (ev T ρ c) _ = _
 rw [hg]
 rfl
theorem jo {keep:List Nat} {c:IC}:evC T call n (.loop keep c) ρ K = zu (evC T call n c) keep n ρ K:=rfl
theorem zy {body:Frame->(Ex->Frame->M α)->M α} {keep:List Nat} {j:Nat} {ρ':Frame} {R:M α} (hk:zat keep ρ = ρ')
  (h:body ρ' (seqK (fun ρ=>zu body keep j ρ K) K) = R):zu body keep (j + 1) ρ K = R:=by
 subst hk
 exact h
end rules
noncomputable def resV (T:Tab) (rs:List ResultVar) (ρ:Frame) (K:List V->M α):M α:=
 match rs with
 | []=>K []
 | .tmp t :: r=>resV T r ρ fun vs=>K (ρ t :: vs)
 | .cell a t :: r=>asP (ρ a) fun p=>asSome p fun p=>(match T.ti t with
  | some i=>yz p 0 i.sh fun cs=>mk i.agg cs fun v=>resV T r ρ fun vs=>K (v :: vs)
  | none=>fail)
noncomputable def retK (T:Tab) (rs:List ResultVar) (κ:Res->M α):Ex->Frame->M α
 | .normal, ρ=>resV T rs ρ fun vs=>κ (.ret (match vs with | [v]=>v | vs=>.tuple vs))
 | .ret, ρ=>resV T rs ρ fun vs=>κ (.ret (match vs with | [v]=>v | vs=>.tuple vs))
 | .pan v, _=>κ (.pan v)
 | .exit _, _=>fail
noncomputable def evF (T:Tab) (call:Call α) (n:Nat) (c:IC) (rs:List ResultVar) (args:List V) (κ:Res->M α):M α:=
 evC T call n c (za (idx 0 args)) (retK T rs κ)
end code
def IC.code:IC->Code
 | .skip=>.skip
 | .ops id os=>.region id os false
 | .drawn id os d _=>.region id os d
 | .seq a b=>.seq a.code b.code
 | .cond c a b=>.cond c a.code b.code
 | .block id c=>.block id c.code
 | .loop _ c=>.loop c.code
 | .cut _ c=>c.code
 | .exit id _=>.exit id
 | .ret _=>.ret
 | .dead c=>c
def ops?:Code->Nat->Option (Array Oper)
 | .region id ops _, n=>cond (Nat.beq id n) (some ops) none
 | .seq a b, n=>match ops? a n with | some o=>some o | none=>ops? b n
 | .cond _ a b, n=>match ops? a n with | some o=>some o | none=>ops? b n
 | .block _ c, n=>ops? c n
 | .loop c, n=>ops? c n
 | _, _=>none
def jt (f:Func):Code:=match f.body with | some c=>c | none=>.skip
def zb (f:Func) (n:Nat):Array Oper:=match ops? (jt f) n with | some o=>o | none=>#[]
end Go.Ab
