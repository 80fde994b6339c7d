import Derived.Test.YtdhjpnacjnkbgaaGreatDoorAb15
import Derived.Lib.Bytealg
import Derived.Laws.Externs
import Derived.Below
set_option linter.unusedVariables false
set_option linter.unusedSimpArgs false
set_option linter.unusedSectionVars false
namespace Go.Ab
section
variable {T:Tab} {base:Nat} {w0:World} {X:Nat->Prop} {ι:Io} {h:H} {w:World}
theorem HR.other (R:HR T base w0 X ι h w) (o:Obj):HR T base w0 X ι h (w.alloc o) ∧ Went X ι h w ι h (w.alloc o):=by
 have hold:∀ b, b < w.heap.size->(w.alloc o).heap[b]? = w.heap[b]?:=fun b hb=>by rw [yg, if_neg (Nat.ne_of_lt hb)]
 refine ⟨⟨?_, fun b hb=>?_, R.dom, fun i b hx hb=>?_, R.inj, R.glob, R.env⟩, ⟨fun _ _=>rfl, Nat.le_refl _, fun _ _=>rfl, by simp, fun b hb _=>hold b hb, fun i c hx hc ho=>.inr ⟨i, c, hx, hc, ho, rfl⟩⟩⟩
 ·have:=R.size; simp; omega
 ·rw [hold b (Nat.lt_of_lt_of_le hb R.size)]; exact R.old b hb
 ·have hbk:=R.blk i b hx hb
  exact hbk.mono (fun _ _=>rfl) (fun _ hj=>hj) (hold _ hbk.lt)
theorem indexB_eq (l:List UInt8) (c:UInt8):zhf l c = Lib.indexByte l c:=by
 induction l with
 | nil=>rfl
 | cons b l ih=>simp only [zhf, Lib.indexByte, ih]
def ι0:Io:=fun _=>⟨0, 0, 0⟩
theorem HR.init (hg:∀ g, T.glob g = none) (W:World):HR T W.heap.size W (fun _=>False) ι0 h0 W:=
 ⟨Nat.le_refl _, fun _ _=>rfl, fun _ _ h=>(by cases h), fun _ _ _ h=>(by cases h), fun _ _ _ _ _ _ h=>(by cases h), fun g i h=>(by rw [hg g] at h; cases h), rfl, rfl, rfl⟩
noncomputable def κ0:Res->M Unit:=fun r _=>match r with | .ret (.bool true)=>some () | _=>none
theorem law_below {P:Program} (hm:P.follows .mixedOrders = true) (hT:TabOk P T) (hg:∀ g, T.glob g = none) {W:World} {call:Call Unit} (hC:jb P T W.heap.size W call) {f:FuncId} {fn:Func} {c:IC} {rs:List ResultVar}
  (hf:P.funcs[f]? = some fn) (hb:fn.body = some c.code) (hname:(fn.name == "runtime.NumGoroutine") = false) (hrs:fn.results.toList = rs) (hic:icOk T fn.ntmps c = true) {args:List V} {xs:Array Value} {n:Nat}
  (hv:VRL ι0 (okOf h0 fun _=>False) args xs.toList) (hsz:args.length≤fn.ntmps) (e:evF T call n c rs args κ0 h0 = some ()) :
  Calls P f xs W fun e w'=>e = .returned (.bool true) ∧ RowKit.Below W.heap.size W w':=by
 refine (zdw hm hT hC hf hb hname hrs hic (HR.init hg W) (Lft.none _) hv hsz e).2.mono ?_
 rintro e w' ⟨r, h'', ι', e1, R', _, hend⟩
 have:r = .ret (.bool true):=by
  unfold κ0 at e1
  cases r with
  | pan v=>cases e1
  | ret v=>
   cases v with
   | bool b=>
    cases b
    ·cases e1
    ·rfl
   | _=>cases e1
 subst this
 refine ⟨?_, R'.env.1, R'.env.2.1, R'.env.2.2, R'.size, R'.old⟩
 cases e with
 | returned x=>rw [show x = _ from hend]
 | _=>exact hend.elim
end
end Go.Ab
namespace Go.Ab
section
variable {α:Type} {h:H}
theorem yt {n:Int} (h1:-9223372036854775808≤n) (h2:n≤9223372036854775807):w64 n = n:=by
 unfold w64
 rw [IntKind.wrap_i64]
 omega
theorem zw (b:Blk) (j:Nat):(h.push b).get j = if j = h.next then some b else h.get j:=by
 by_cases e:j = h.next
 ·subst e; rw [je, if_pos rfl]
 ·rw [if_neg e, yb h b e]
theorem zm (b:Blk):(h.push b).next = h.next + 1:=rfl
theorem zdo (i:Nat) (b:Option Blk) (j:Nat):(h.put i b).get j = if j = i then b else h.get j:=by
 by_cases e:j = i
 ·subst e; rw [zh, if_pos rfl]
 ·rw [zo h b e, if_neg e]
theorem zcr (i:Nat) (b:Option Blk):(h.put i b).next = h.next:=rfl
def Ext (h h':H):Prop:=h.next≤h'.next ∧ ∀ i, i < h.next->h'.get i = h.get i
theorem Ext.refl (h:H):Ext h h:=⟨Nat.le_refl _, fun _ _=>rfl⟩
theorem Ext.trans {a b c:H} (x:Ext a b) (y:Ext b c):Ext a c:=
 ⟨Nat.le_trans x.1 y.1, fun i hi=>by rw [y.2 i (Nat.lt_of_lt_of_le hi x.1), x.2 i hi]⟩
theorem Ext.push {a b:H} (x:Ext a b) (k:Blk):Ext a (b.push k):=
 ⟨by rw [zm]; have:=x.1; omega, fun i hi=>by rw [zw, if_neg (by have:=x.1; omega)]; exact x.2 i hi⟩
theorem Ext.put {a b:H} (x:Ext a b) {i:Nat} (k:Option Blk) (hi:a.next≤i):Ext a (b.put i k):=
 ⟨x.1, fun j hj=>by rw [zdo, if_neg (by omega)]; exact x.2 j hj⟩
theorem zd {b:Bool} {K:M α} (hb:b = true):need b K h = K h:=by subst hb; rfl
theorem jl {cs:List V} {K:Ad->M α} (hc:cs.all oneV = true):new cs K h = K ⟨h.next, 0⟩ (h.push (.cells cs true)):=by
 unfold new; rw [zd hc]
theorem zt {a:Ad} {cs:List V} {o:Bool} (hg:h.get a.id = some (.cells cs o)):h.cell a = cs[a.off]?:=by unfold H.cell; rw [hg]
theorem zea {a:Ad} {K:V->M α} {v:V} (hc:h.cell a = some v):ld a K h = K v h:=by unfold ld; rw [hc]
theorem jh {a:Ad} {k:IntKind} {K:Int->M α} {n:Int} (hc:h.cell a = some (.int k n)):ldI k a K h = K n h:=by
 unfold ldI
 rw [zea hc]
 cases k <;> rfl
theorem yl {a:Ad} {K:Sl->M α} {n:Sl} (hc:h.cell a = some (.slice n)):ldS a K h = K n h:=by unfold ldS; rw [zea hc]; rfl
theorem zz {a:Ad} {v:V} {K:M α} {cs:List V} (hg:h.get a.id = some (.cells cs true)) (ho:oneV v = true) (hl:a.off < cs.length) :
  st1 a v K h = K (h.put a.id (some (.cells (cs.set a.off v) true))):=by
 unfold st1 H.setCell
 rw [hg]
 simp only [ho, Bool.true_and, show Nat.blt a.off cs.length = true from Nat.ble_eq_true_of_le hl, cond_true]
theorem ya (i n m:Nat):(Ad.mk i n).add m = ⟨i, n + m⟩:=rfl
theorem bnd_run {x:Int} {y n:Nat} {K:Nat->M α} (hx:x = (n:Int)) (hy:n≤y):bnd x y K h = K n h:=by
 subst hx
 unfold bnd
 rw [zd (by simp), zd (by simpa using hy), Int.toNat_natCast]
def Row (h:H) (s:Sl) (size:Nat) (cs:List V):Prop:=
 (s = Sl.nil ∧ cs = []) ∨ ∃ id, s = ⟨some ⟨id, 0⟩, s.len, s.len, some size⟩ ∧ h.get id = some (.cells cs true) ∧ cs.length = s.len * size ∧ id < h.next
theorem Row.nil (h:H) (size:Nat):Row h Sl.nil size []:=.inl ⟨rfl, rfl⟩
theorem Row.len {s:Sl} {size:Nat} {cs:List V} (r:Row h s size cs):cs.length = s.len * size:=by
 rcases r with ⟨rfl, rfl⟩ | ⟨_, _, _, hl, _⟩
 ·simp [Sl.nil]
 ·exact hl
theorem Row.ext {h':H} {s:Sl} {size:Nat} {cs:List V} (r:Row h s size cs) (x:Ext h h'):Row h' s size cs:=by
 rcases r with h1 | ⟨id, h1, h2, h3, h4⟩
 ·exact .inl h1
 ·exact .inr ⟨id, h1, by rw [x.2 id h4]; exact h2, h3, Nat.lt_of_lt_of_le h4 x.1⟩
theorem zao {a:Ad} {cs:List V} {o:Bool} {n:Nat} (hg:h.get a.id = some (.cells cs o)) (hl:a.off + n≤cs.length):h.row a n = some ((cs.drop a.off).take n):=by
 unfold H.row
 rw [hg]
 simp only [show Nat.ble (a.off + n) cs.length = true from Nat.ble_eq_true_of_le hl, cond_true]
theorem zaz {a:Ad} {n:Nat} {K:List V->M α} {cs:List V} (hr:h.row a n = some cs):zgr a n K h = K cs h:=by unfold zgr; rw [hr]
theorem Row.rd {s:Sl} {size:Nat} {cs:List V} {K:List V->M α} (r:Row h s size cs):rdSl s size K h = K cs h:=by
 unfold rdSl
 rcases r with ⟨rfl, rfl⟩ | ⟨id, h1, h2, h3, h4⟩
 ·rfl
 ·rw [h1]
  dsimp only
  rw [zaz (zao (a:=⟨id, 0⟩) h2 (by show 0 + _≤_; omega))]
  simp [← h3]
def Owned (h₀:H) (s:Sl):Prop:=∀ a, s.ad = some a->h₀.next≤a.id
theorem Owned.nil (h₀:H):Owned h₀ Sl.nil:=fun _ h=>by cases h
theorem Ext.app {h₀ h h':H} {s:Sl} (x:Ext h₀ h) (o:Owned h₀ s) (hn:h'.next = h.next + 1) (hg:∀ i, i < h.next->(∀ a, s.ad = some a->i ≠ a.id)->h'.get i = h.get i):Ext h₀ h':=
 ⟨by rw [hn]; have:=x.1; omega, fun i hi=>by
  rw [hg i (Nat.lt_of_lt_of_le hi x.1) (fun a ha=>by have:=o a ha; omega)]
  exact x.2 i hi⟩
end
end Go.Ab
namespace Go.Ab
section
variable {α:Type} {h:H}
theorem zbi {β:Type} {c:β->List V} {size:Nat} (hc:∀ x, (c x).length = size):∀ l:List β, (l.flatMap c).length = l.length * size
 | []=>by simp
 | x :: l=>by rw [List.flatMap_cons, List.length_append, hc, zbi hc l, List.length_cons, Nat.add_mul]; omega
theorem zce {β:Type} {c:β->List V} {size:Nat} (hc:∀ x, (c x).length = size):∀ (l:List β) (i:Nat) (x:β) (j:Nat), l[i]? = some x->j < size->(l.flatMap c)[i * size + j]? = (c x)[j]?
 | [], i, x, j, h, _=>by simp at h
 | y :: l, 0, x, j, h, hj=>by
  simp only [List.getElem?_cons_zero, Option.some.injEq] at h
  subst h
  rw [List.flatMap_cons, Nat.zero_mul, Nat.zero_add, List.getElem?_append_left (by rw [hc]; exact hj)]
 | y :: l, i + 1, x, j, h, hj=>by
  rw [List.flatMap_cons, List.getElem?_append_right (by rw [hc, Nat.add_mul]; omega), hc, show (i + 1) * size + j - size = i * size + j by rw [Nat.add_mul]; omega]
  exact zce hc l i x j (by simpa using h) hj
theorem zky {β:Type} {c:β->List V} {size:Nat} (hc:∀ x, (c x).length = size):∀ (l:List β) (i:Nat) (x y:β) (j:Nat) (v:V), l[i]? = some x->c y = (c x).set j v->j < size->(l.flatMap c).set (i * size + j) v = (l.set i y).flatMap c
 | [], i, x, y, j, v, h, _, _=>by simp at h
 | z :: l, 0, x, y, j, v, h, hy, hj=>by
  simp only [List.getElem?_cons_zero, Option.some.injEq] at h
  subst h
  rw [List.flatMap_cons, Nat.zero_mul, Nat.zero_add, List.set_append_left _ _ (by rw [hc]; exact hj), List.set_cons_zero, List.flatMap_cons, hy]
 | z :: l, i + 1, x, y, j, v, h, hy, hj=>by
  rw [List.flatMap_cons, List.set_append_right _ _ (by rw [hc, Nat.add_mul]; omega), hc, show (i + 1) * size + j - size = i * size + j by rw [Nat.add_mul]; omega,
   zky hc l i x y j v (by simpa using h) hy hj, List.set_cons_succ, List.flatMap_cons]
def cI (n:Int):List V:=[.int .i64 n]
def Sl.at (s:Sl) (n:Nat):Ad:=⟨(s.ad.getD ⟨0, 0⟩).id, (s.ad.getD ⟨0, 0⟩).off + n⟩
theorem zgy (s:Sl) (n m:Nat):(s.at n).add m = s.at (n + m):=by simp [Sl.at, Ad.add, Nat.add_assoc]
structure Rd (h:H) (s:Sl) (size:Nat) (cs:List V):Prop where
 len:cs.length = s.len * size
 row:∀ a, s.ad = some a->h.row a cs.length = some cs ∧ a.id < h.next
 nil:s.ad = none->s.len = 0
theorem Rd.ext {h':H} {s:Sl} {size:Nat} {cs:List V} (r:Rd h s size cs) (x:Ext h h'):Rd h' s size cs:=by
 refine ⟨r.len, fun a ha=>?_, r.nil⟩
 obtain ⟨h1, h2⟩:=r.row a ha
 refine ⟨?_, Nat.lt_of_lt_of_le h2 x.1⟩
 unfold H.row at h1 ⊢
 rw [x.2 _ h2]; exact h1
theorem Rd.keep {h':H} {s:Sl} {size:Nat} {cs:List V} (r:Rd h s size cs) (hn:h.next≤h'.next) (hg:∀ a, s.ad = some a->h'.get a.id = h.get a.id):Rd h' s size cs:=by
 refine ⟨r.len, fun a ha=>?_, r.nil⟩
 obtain ⟨h1, h2⟩:=r.row a ha
 refine ⟨?_, Nat.lt_of_lt_of_le h2 hn⟩
 unfold H.row at h1 ⊢
 rw [hg _ ha]; exact h1
theorem Rd.nilSl (h:H) (size:Nat):Rd h Sl.nil size []:=⟨by simp [Sl.nil], fun a ha=>(by cases ha), fun _=>rfl⟩
theorem zki {a:Ad} {cs:List V} {n:Nat} (hr:h.row a n = some cs):∃ bs o, h.get a.id = some (.cells bs o) ∧ a.off + n≤bs.length ∧ cs = (bs.drop a.off).take n:=by
 unfold H.row at hr
 cases hg:h.get a.id with
 | none=>rw [hg] at hr; cases hr
 | some b=>
  cases b with
  | map es=>rw [hg] at hr; cases hr
  | iter es=>rw [hg] at hr; cases hr
  | cellsT _ _ _=>rw [hg] at hr; cases hr
  | cells bs o=>
   rw [hg] at hr
   dsimp only at hr
   by_cases hle:a.off + n≤bs.length
   ·rw [show Nat.ble (a.off + n) bs.length = true from Nat.ble_eq_true_of_le hle, cond_true] at hr
    cases hr
    exact ⟨bs, o, rfl, hle, rfl⟩
   ·rw [show Nat.ble (a.off + n) bs.length = false by cases hq:Nat.ble (a.off + n) bs.length with | false=>rfl | true=>exact absurd (Nat.le_of_ble_eq_true hq) hle] at hr
    cases hr
theorem Rd.cell {s:Sl} {size:Nat} {cs:List V} (r:Rd h s size cs) {n:Nat} {v:V} (hv:cs[n]? = some v):h.cell (s.at n) = some v:=by
 have hlt:n < cs.length:=by
  rcases Nat.lt_or_ge n cs.length with h | h
  ·exact h
  ·rw [List.getElem?_eq_none h] at hv; cases hv
 cases ha:s.ad with
 | none=>have:=r.nil ha; have:=r.len; simp_all
 | some a=>
  obtain ⟨bs, o, hg, hle, hcs⟩:=zki (r.row a ha).1
  rw [hcs, List.getElem?_take_of_lt hlt, List.getElem?_drop] at hv
  unfold Sl.at
  rw [ha]
  exact (zt (a:=⟨a.id, a.off + n⟩) hg).trans hv
theorem zei {s:Sl} {size:Nat} {cs:List V} (r:Rd h s size cs) {x:Int} {i:Nat} (hx:x = (i:Int)) (hi:i < s.len) (K:Ad->M α):idxSl s x size K h = K (s.at (i * size)) h:=by
 subst hx
 cases ha:s.ad with
 | none=>have:=r.nil ha; omega
 | some a=>
  unfold idxSl asSome Sl.at
  rw [ha]
  dsimp only [Option.getD]
  rw [zd (by simp), zd (by simpa using hi), Int.toNat_natCast]
  rfl
theorem Rd.rd {s:Sl} {size:Nat} {cs:List V} (r:Rd h s size cs) (K:List V->M α):rdSl s size K h = K cs h:=by
 unfold rdSl
 cases ha:s.ad with
 | none=>
  have h0:=r.nil ha
  have:cs = []:=List.eq_nil_of_length_eq_zero (by rw [r.len, h0, Nat.zero_mul])
  subst this
  dsimp only
  rw [zd (by rw [h0]; rfl)]
 | some a=>
  dsimp only
  rw [← r.len, zaz (r.row a ha).1]
theorem Rd.ldI {s:Sl} {size:Nat} {cs:List V} (r:Rd h s size cs) {n:Nat} {k:IntKind} {v:Int} (hv:cs[n]? = some (.int k v)) (K:Int->M α):Ab.ldI k (s.at n) K h = K v h:=jh (r.cell hv)
theorem Rd.ldS {s:Sl} {size:Nat} {cs:List V} (r:Rd h s size cs) {n:Nat} {v:Sl} (hv:cs[n]? = some (.slice v)) (K:Sl->M α):Ab.ldS (s.at n) K h = K v h:=yl (r.cell hv)
theorem zgn {β:Type} {c:β->List V} (hc:∀ x, (c x).length = 1) {s:Sl} {l:List β} (r:Rd h s 1 (l.flatMap c)):s.len = l.length:=by
 have:=r.len
 rw [zbi hc] at this
 omega
theorem slen {β:Type} {c:β->List V} {size:Nat} (hc:∀ x, (c x).length = size) (h0:0 < size) {s:Sl} {l:List β} (r:Rd h s size (l.flatMap c)):s.len = l.length:=by
 have:=r.len
 rw [zbi hc] at this
 exact (Nat.eq_of_mul_eq_mul_right h0 this).symm
theorem yy {β:Type} {l:List β} {i:Nat} {x:β} (hi:l[i]? = some x):i < l.length:=by
 rcases Nat.lt_or_ge i l.length with h | h
 ·exact h
 ·rw [List.getElem?_eq_none h] at hi; cases hi
theorem jy {s:Sl} {l:List Int} (r:Rd h s 1 (l.flatMap cI)) {x:Int} {i:Nat} {v:Int} (hx:x = (i:Int)) (hi:l[i]? = some v) (K:Int->M α):idxSl s x 1 (fun a=>ldI .i64 (a.add 0) K) h = K v h:=by
 rw [zei r hx (by rw [slen (size:=1) (fun _=>rfl) (by decide) r]; exact yy hi), zgy]
 exact r.ldI (by rw [zce (size:=1) (fun _=>rfl) l i v 0 hi (by decide)]; rfl) K
theorem from_zero (s:Sl) (m size:Nat):s.from 0 m size = s.ad:=by
 unfold Sl.from
 have:s.ad.map (·.add (0 * size)) = s.ad:=by cases s.ad with | none=>rfl | some a=>simp [Ad.add]
 cases s.loose with
 | none=>dsimp only; rw [this]; cases Nat.beq m 0 <;> rfl
 | some e=>exact this
def Sl.fine (s:Sl) (size:Nat):Prop:=s.len≤s.cap ∧ (s.loose = none ∨ s.loose = some size)
theorem zit {s:Sl} {size:Nat} (f:s.fine size) {K K':M α} (hK:K h = K' h):need (match s.loose with | none=>true | some e=>Nat.beq e size) K h = K' h:=by
 rw [← hK]
 refine zd ?_
 rcases f.2 with h | h <;> rw [h]
 exact Nat.beq_refl _
theorem cut_to {s:Sl} {size:Nat} (f:s.fine size) {y:Int} {m:Nat} (hy:y = (m:Int)) (hm:m≤s.cap) (K:Sl->M α):cutSl s size none (some y) none K h = K ⟨s.ad, m, s.cap, s.loose⟩ h:=by
 unfold cutSl
 dsimp only
 exact (zit f rfl).trans (by rw [bnd_run hy hm, from_zero])
theorem zmf {s:Sl} {size:Nat} (f:s.fine size) {x:Int} {n:Nat} (hx:x = (n:Int)) (hn:n≤s.len) (K:Sl->M α):cutSl s size (some x) none none K h = K ⟨s.from n s.cap size, s.len - n, s.cap - n, s.loose⟩ h:=by
 unfold cutSl
 dsimp only
 exact (zit f rfl).trans (by rw [bnd_run hx hn])
theorem Rd.to {s:Sl} {size:Nat} {cs:List V} (r:Rd h s size cs) (m c:Nat) (lo:Option Nat) (hm:m≤s.len):Rd h ⟨s.ad, m, c, lo⟩ size (cs.take (m * size)):=by
 have hle:m * size≤cs.length:=by rw [r.len]; exact Nat.mul_le_mul_right _ hm
 have hl:(cs.take (m * size)).length = m * size:=by rw [List.length_take]; omega
 refine ⟨hl, fun a ha=>?_, fun ha=>?_⟩
 ·obtain ⟨h1, h2⟩:=r.row a ha
  refine ⟨?_, h2⟩
  obtain ⟨bs, o, hg, hle', hcs⟩:=zki h1
  rw [hl, zao hg (by omega)]
  conv=>rhs; rw [hcs, List.take_take]
  rw [Nat.min_eq_left hle]
 ·have:=r.nil ha
  show m = 0
  omega
theorem Rd.from {s:Sl} {size:Nat} {cs:List V} (r:Rd h s size cs) (n c m:Nat) (lo:Option Nat) (hn:n≤s.len) (hm:s.len≤m):Rd h ⟨s.from n m size, s.len - n, c, lo⟩ size (cs.drop (n * size)):=by
 have hle:n * size≤cs.length:=by rw [r.len]; exact Nat.mul_le_mul_right _ hn
 refine ⟨by rw [List.length_drop, r.len, Nat.sub_mul], fun a ha=>?_, fun ha=>?_⟩
 ·cases hs:s.ad with
  | none=>
   unfold Sl.from at ha
   rw [hs] at ha
   cases hl:s.loose with
   | none=>rw [hl] at ha; dsimp only at ha; cases hq:Nat.beq m n <;> simp [hq] at ha
   | some e=>rw [hl] at ha; cases ha
  | some b=>
   obtain ⟨h1, h2⟩:=r.row b hs
   obtain ⟨bs, o, hg, hle', hcs⟩:=zki h1
   have key:∀ c:Ad, c.id = b.id->c.off = b.off + n * size ∨ (s.len = n ∧ c.off≤b.off + n * size)->h.row c (cs.drop (n * size)).length = some (cs.drop (n * size)):=by
    intro c hc1 hc2
    rw [List.length_drop]
    rcases hc2 with hc2 | ⟨hc2, hc3⟩
    ·rw [zao (by rw [hc1]; exact hg) (by rw [hc2]; omega), hc2]
     congr 1
     conv=>rhs; rw [hcs, List.drop_take, List.drop_drop]
    ·have hz:cs.length - n * size = 0:=by rw [r.len, hc2]; omega
     rw [hz, zao (by rw [hc1]; exact hg) (by omega), List.drop_of_length_le (l:=cs) (by omega)]
     simp
   unfold Sl.from at ha
   rw [hs] at ha
   cases hl:s.loose with
   | some e=>
    rw [hl] at ha
    simp only [Option.map_some, Option.some.injEq] at ha
    subst ha
    exact ⟨key _ rfl (.inl rfl), h2⟩
   | none=>
    rw [hl] at ha
    dsimp only at ha
    by_cases hmn:m = n
    ·have:Nat.beq m n = true:=by rw [hmn]; exact Nat.beq_refl _
     rw [this, cond_true] at ha
     cases ha
     exact ⟨key _ rfl (.inr ⟨by omega, by omega⟩), h2⟩
    ·rw [zab hmn, cond_false] at ha
     simp only [Option.map_some, Option.some.injEq] at ha
     subst ha
     exact ⟨key _ rfl (.inl rfl), h2⟩
 ·have hz:s.ad = none:=by
   unfold Sl.from at ha
   cases hl:s.loose with
   | none=>rw [hl] at ha; dsimp only at ha; cases hq:Nat.beq m n <;> simp [hq] at ha <;> exact ha
   | some e=>rw [hl] at ha; dsimp only at ha; simpa using ha
  have:=r.nil hz
  show s.len - n = 0
  omega
structure App (h:H) (s:Sl) (size:Nat) (cs:List V):Prop where
 rd:Rd h s size cs
 none':s.ad = none->s = Sl.nil
 mode:(s.loose = none ∧ s.cap = s.len) ∨ (s.loose = some size ∧ s.len≤s.cap ∧ ∃ a, s.ad = some a ∧ h.own a.id = true)
theorem App.nilSl (h:H) (size:Nat):App h Sl.nil size []:=⟨Rd.nilSl h size, fun _=>rfl, .inl ⟨rfl, rfl⟩⟩
theorem App.fine {s:Sl} {size:Nat} {cs:List V} (r:App h s size cs):s.fine size:=by
 rcases r.mode with ⟨h1, h2⟩ | ⟨h1, h2, _⟩
 ·exact ⟨by omega, .inl h1⟩
 ·exact ⟨h2, .inr h1⟩
theorem App.ext {h':H} {s:Sl} {size:Nat} {cs:List V} (r:App h s size cs) (x:Ext h h'):App h' s size cs:=by
 refine ⟨r.rd.ext x, r.none', r.mode.imp id fun ⟨h1, h2, a, h3, h4⟩=>⟨h1, h2, a, h3, ?_⟩⟩
 unfold H.own at h4 ⊢
 rw [x.2 _ (r.rd.row a h3).2]; exact h4
theorem App.keep {h':H} {s:Sl} {size:Nat} {cs:List V} (r:App h s size cs) (hn:h.next≤h'.next) (hg:∀ a, s.ad = some a->h'.get a.id = h.get a.id):App h' s size cs:=by
 refine ⟨r.rd.keep hn hg, r.none', r.mode.imp id fun ⟨h1, h2, a, h3, h4⟩=>⟨h1, h2, a, h3, ?_⟩⟩
 unfold H.own at h4 ⊢
 rw [hg _ h3]; exact h4
def Kept (h:H) (s:Sl) (h':H):Prop:=h'.next = h.next + 1 ∧ ∀ i, i < h.next->(s.loose ≠ none->∀ a, s.ad = some a->i ≠ a.id)->h'.get i = h.get i
theorem Kept.ext {h₀ h':H} {s:Sl} (k:Kept h s h') (x:Ext h₀ h) (o:Owned h₀ s):Ext h₀ h':=
 ⟨by rw [k.1]; have:=x.1; omega, fun i hi=>by
  rw [k.2 i (Nat.lt_of_lt_of_le hi x.1) (fun _ a ha=>by have:=o a ha; omega)]
  exact x.2 i hi⟩
theorem app_run {s:Sl} {size bytes n:Nat} {cs more:List V} (r:App h s size cs) (hm:more.length = n * size) (hn:0 < n) (hb:0 < bytes) (hr:(s.len + n + (s.len + n) / 4 + 512) * bytes≤281474976710656) :
  ∃ h', (∀ (α:Type) (K:Sl->M α), zbo s size bytes n more K h = K ⟨some ⟨h.next, 0⟩, s.len + n, s.len + n, some size⟩ h') ∧ App h' ⟨some ⟨h.next, 0⟩, s.len + n, s.len + n, some size⟩ size (cs ++ more) ∧
   h'.get h.next = some (.cells (cs ++ more) true) ∧ Kept h s h':=by
 have hlen:=r.rd.len
 have hbb:(Nat.blt 0 bytes && Nat.ble ((s.len + n + (s.len + n) / 4 + 512) * bytes) 281474976710656) = true:=by
  rw [Bool.and_eq_true]; exact ⟨Nat.ble_eq_true_of_le hb, Nat.ble_eq_true_of_le hr⟩
 have hn0:Nat.beq n 0 = false:=zab (by omega)
 have fin:∀ (h1:H), h1.next = h.next->App (h1.push (.cells (cs ++ more) true)) ⟨some ⟨h.next, 0⟩, s.len + n, s.len + n, some size⟩ size (cs ++ more):=by
  intro h1 hn1
  have hg:(h1.push (.cells (cs ++ more) true)).get h.next = some (.cells (cs ++ more) true):=by rw [zw, if_pos hn1.symm]
  refine ⟨⟨by simp [hlen, hm, Nat.add_mul], fun a ha=>?_, fun ha=>by cases ha⟩, (fun ha=>by cases ha), .inr ⟨rfl, Nat.le_refl _, _, rfl, ?_⟩⟩
  ·cases ha
   refine ⟨?_, by rw [zm, hn1]; exact Nat.lt_succ_self _⟩
   rw [zao hg (by show 0 + _≤_; omega), List.drop_zero, List.take_length]
  ·show H.own _ h.next = true
   unfold H.own
   rw [hg]
 have hm':Nat.beq more.length (n * size) = true:=by rw [hm]; exact Nat.beq_refl _
 rcases r.mode with ⟨h1, h2⟩ | ⟨h1, h2, a, h3, h4⟩
 ·refine ⟨_, fun α K=>?_, fin h rfl, by rw [zw, if_pos rfl], zm _, fun i hi _=>by rw [zw, if_neg (by omega)]⟩
  unfold zbo
  rw [zd hm', h1]
  dsimp only
  rw [show Nat.ble (s.len + n) s.cap = false by cases hq:Nat.ble (s.len + n) s.cap with | false=>rfl | true=>have:=Nat.le_of_ble_eq_true hq; omega]
  simp only [cond_false]
  rw [zd hbb, r.rd.rd]
 ·refine ⟨_, fun α K=>?_, fin (h.put a.id none) rfl, by rw [zw]; exact if_pos rfl, zm _, fun i hi hne=>?_⟩
  ·unfold zbo
   rw [zd hm', h1]
   dsimp only
   rw [hn0]
   simp only [cond_false]
   rw [zd (Nat.beq_refl _), zd hbb, h3]
   dsimp only
   rw [← hlen, zaz (r.rd.row a h3).1]
   simp only [h4, cond_true]
  ·rw [zw, if_neg (by show i ≠ h.next; omega), zdo, if_neg (hne (by rw [h1]; exact fun h=>by cases h) a h3)]
theorem app_row {s x:Sl} {size bytes:Nat} {cs more:List V} (r:App h s size cs) (hx:Rd h x size more) (hn:0 < x.len) (hb:0 < bytes) (hr:(s.len + x.len + (s.len + x.len) / 4 + 512) * bytes≤281474976710656) :
  ∃ h', (∀ (α:Type) (K:Sl->M α), yr s size bytes x K h = K ⟨some ⟨h.next, 0⟩, s.len + x.len, s.len + x.len, some size⟩ h') ∧ App h' ⟨some ⟨h.next, 0⟩, s.len + x.len, s.len + x.len, some size⟩ size (cs ++ more) ∧
   h'.get h.next = some (.cells (cs ++ more) true) ∧ Kept h s h':=by
 obtain ⟨h', e, r', k⟩:=app_run (bytes:=bytes) r hx.len hn hb hr
 exact ⟨h', fun α K=>by unfold yr; rw [hx.rd]; exact e α K, r', k⟩
structure Own (h:H) (s:Sl) (size:Nat) (cs:List V):Prop where
 len:cs.length = s.len * size
 blk:∃ id more, s.ad = some ⟨id, 0⟩ ∧ h.get id = some (.cells (cs ++ more) true) ∧ id < h.next
def Sl.id (s:Sl):Nat:=(s.ad.getD ⟨0, 0⟩).id
theorem Own.rd {s:Sl} {size:Nat} {cs:List V} (o:Own h s size cs):Rd h s size cs:=by
 obtain ⟨id, more, h1, h2, h3⟩:=o.blk
 refine ⟨o.len, fun a ha=>?_, fun ha=>by rw [h1] at ha; cases ha⟩
 rw [h1] at ha
 cases ha
 refine ⟨?_, h3⟩
 rw [zao h2 (by simp)]
 simp
theorem Own.ext {h':H} {s:Sl} {size:Nat} {cs:List V} (o:Own h s size cs) (x:Ext h h'):Own h' s size cs:=by
 obtain ⟨id, more, h1, h2, h3⟩:=o.blk
 exact ⟨o.len, id, more, h1, by rw [x.2 id h3]; exact h2, Nat.lt_of_lt_of_le h3 x.1⟩
theorem Own.keep {h':H} {s:Sl} {size:Nat} {cs:List V} (o:Own h s size cs) (hn:h.next≤h'.next) (hg:h'.get s.id = h.get s.id):Own h' s size cs:=by
 obtain ⟨id, more, h1, h2, h3⟩:=o.blk
 have:s.id = id:=by unfold Sl.id; rw [h1]; rfl
 rw [this] at hg
 exact ⟨o.len, id, more, h1, by rw [hg]; exact h2, Nat.lt_of_lt_of_le h3 hn⟩
theorem own_st {s:Sl} {size:Nat} {cs:List V} (o:Own h s size cs) {n:Nat} {v:V} (hv:oneV v = true) (hn:n < cs.length) :
  ∃ h', (∀ (α:Type) (K:M α), st1 (s.at n) v K h = K h') ∧ Own h' s size (cs.set n v) ∧ h'.next = h.next ∧ ∀ i, i ≠ s.id->h'.get i = h.get i:=by
 obtain ⟨id, more, h1, h2, h3⟩:=o.blk
 have e1:s.id = id:=by unfold Sl.id; rw [h1]; rfl
 have e2:s.at n = ⟨id, n⟩:=by unfold Sl.at; rw [h1]; simp
 refine ⟨h.put id (some (.cells ((cs ++ more).set n v) true)), fun α K=>?_, ⟨by rw [List.length_set]; exact o.len, id, more, h1, ?_, h3⟩, rfl, fun i hi=>?_⟩
 ·rw [e2, zz (a:=⟨id, n⟩) h2 hv (by show n < _; rw [List.length_append]; omega)]
 ·rw [zh, List.set_append_left _ _ hn]
 ·rw [zdo, if_neg (by rw [← e1]; exact hi)]
theorem zdx {s:Sl} {l:List Int} (o:Own h s 1 (l.flatMap cI)) {x:Int} {i:Nat} (v:Int) (hx:x = (i:Int)) (hi:i < l.length) :
  ∃ h', (∀ (α:Type) (K:M α), idxSl s x 1 (fun a=>st1 (a.add 0) (.int .i64 v) K) h = K h') ∧ Own h' s 1 ((l.set i v).flatMap cI) ∧ h'.next = h.next ∧ ∀ i, i ≠ s.id->h'.get i = h.get i:=by
 obtain ⟨h', e, o', k⟩:=own_st o (n:=i * 1 + 0) (v:=.int .i64 v) rfl (by rw [zbi (size:=1) (fun _=>rfl)]; omega)
 refine ⟨h', fun α K=>?_, ?_, k⟩
 ·rw [zei o.rd hx (by rw [slen (size:=1) (fun _=>rfl) (by decide) o.rd]; exact hi), zgy]
  exact e α K
 ·rw [zky (size:=1) (fun _=>rfl) l i l[i] v 0 _ (List.getElem?_eq_getElem hi) rfl (by decide)] at o'
  exact o'
theorem mk_run {n:Nat} {bytes:Nat} {zero:List V} {x y:Int} (hx:x = (n:Int)) (hy:y = (n:Int)) (hb:n * bytes≤281474976710656) (hb2:n≤281474976710656) (hz:zero.all oneV = true) :
  ∃ h', (∀ (α:Type) (K:Sl->M α), mkSl x y bytes zero K h = K ⟨some ⟨h.next, 0⟩, n, n, none⟩ h') ∧ Own h' ⟨some ⟨h.next, 0⟩, n, n, none⟩ zero.length ((List.replicate n zero).flatten) ∧ h'.next = h.next + 1 ∧ Ext h h':=by
 subst hx hy
 refine ⟨h.push (.cells ((List.replicate n zero).flatten) true), fun α K=>?_, ⟨by simp, h.next, [], rfl, by rw [zw, if_pos rfl, List.append_nil], by rw [zm]; exact Nat.lt_succ_self _⟩, zm _, (Ext.refl h).push _⟩
 unfold mkSl
 rw [zd (by simp), zd (by simp), zd (decide_eq_true (by rw [← Int.natCast_mul]; omega)), zd (decide_eq_true (by omega)), zd hz]
 simp only [Int.toNat_natCast]
theorem zcc {β:Type} (c:β->List V) (x:β):∀ n:Nat, (List.replicate n (c x)).flatten = (List.replicate n x).flatMap c
 | 0=>rfl
 | n + 1=>by rw [List.replicate_succ, List.replicate_succ, List.flatten_cons, List.flatMap_cons, zcc c x n]
theorem mkI_run {n:Nat} {x y:Int} (hx:x = (n:Int)) (hy:y = (n:Int)) (hb:n≤1000000) :
  ∃ h', (∀ (α:Type) (K:Sl->M α), mkSl x y 8 [.int .i64 0] K h = K ⟨some ⟨h.next, 0⟩, n, n, none⟩ h') ∧ Own h' ⟨some ⟨h.next, 0⟩, n, n, none⟩ 1 ((List.replicate n (0:Int)).flatMap cI) ∧ h'.next = h.next + 1 ∧ Ext h h':=by
 obtain ⟨h', e, o, r⟩:=mk_run (h:=h) (bytes:=8) (zero:=[.int .i64 0]) hx hy (by omega) (by omega) rfl
 exact ⟨h', e, by rw [← zcc]; exact o, r⟩
theorem Own.app {s:Sl} {size:Nat} {cs:List V} (o:Own h s size cs) (h1:s.loose = none) (h2:s.cap = s.len):App h s size cs:=
 ⟨o.rd, fun ha=>(by obtain ⟨id, more, h3, _⟩:=o.blk; rw [h3] at ha; cases ha), .inl ⟨h1, h2⟩⟩
end
end Go.Ab
