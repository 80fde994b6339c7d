import Derived.Test.YtjohdighlhoofaaDoorAb15
import Derived.Lib.Bytealg
import Derived.Laws.Externs
import Derived.Below
set_option linter.unusedVariables false
set_option linter.unusedSimpArgs false
namespace Go.Ab
section
variable {T:Tab} {base:Nat} {w0:World} {X:Nat->Prop} {ι:Io} {h:H} {w:World}
theorem HR.other (R:HR T base w0 X ι h w) (o:Obj):HR T base w0 X ι h (w.alloc o) ∧ Went X ι h w ι h (w.alloc o):=by
 have hold:∀ b, b < w.heap.size->(w.alloc o).heap[b]? = w.heap[b]?:=fun b hb=>by rw [zan, if_neg (Nat.ne_of_lt hb)]
 refine ⟨⟨?_, fun b hb=>?_, R.dom, fun i b hx hb=>?_, R.inj, R.glob, R.env⟩, ⟨fun _ _=>rfl, Nat.le_refl _, fun _ _=>rfl, by simp, fun b hb _=>hold b hb, fun i c hx hc ho=>.inr ⟨i, c, hx, hc, ho, rfl⟩⟩⟩
 ·have:=R.size; simp; omega
 ·rw [hold b (Nat.lt_of_lt_of_le hb R.size)]; exact R.old b hb
 ·have hbk:=R.blk i b hx hb
  exact hbk.mono (fun _ _=>rfl) (fun _ hj=>hj) (hold _ hbk.lt)
theorem st1_inv {α:Type} {out:α} {a:Ad} {v:V} {K:M α} (e:st1 a v K h = some out):∃ h', h.setCell a v = some h' ∧ K h' = some out:=by
 unfold st1 at e
 cases hs:h.setCell a v with
 | none=>rw [hs] at e; cases e
 | some h'=>rw [hs] at e; exact ⟨h', rfl, e⟩
theorem indexB_eq (l:List UInt8) (c:UInt8):zer l c = Lib.indexByte l c:=by
 induction l with
 | nil=>rfl
 | cons b l ih=>simp only [zer, Lib.indexByte, ih]
def h0:H:=⟨0, fun _=>none⟩
def κ0:Res->M (Bool × H):=fun r h=>match r with | .ret (.bool b)=>some (b, h) | _=>none
end
end Go.Ab
namespace Go.Ab
section
variable {α:Type} {h:H}
theorem jg {n:Int} (h1:-9223372036854775808≤n) (h2:n≤9223372036854775807):w64 n = n:=by
 unfold w64
 rw [IntKind.wrap_i64]
 omega
theorem zt (b:Blk) (j:Nat):(h.push b).get j = if j = h.next then some b else h.get j:=by
 show cond (Nat.beq j h.next) (some b) (h.get j) = _
 by_cases e:j = h.next
 ·subst e; simp
 ·rw [jx e, if_neg e]; rfl
theorem zk (b:Blk):(h.push b).next = h.next + 1:=rfl
theorem zw (i:Nat) (b:Option Blk) (j:Nat):(h.put i b).get j = if j = i then b else h.get j:=by
 by_cases e:j = i
 ·subst e; rw [js, if_pos rfl]
 ·rw [zbv h b e, if_neg e]
theorem zai (i:Nat) (b:Option Blk):(h.put i b).next = h.next:=rfl
def Ext (h h':H):Prop:=h.next≤h'.next ∧ ∀ i, i < h.next->h'.get i = h.get i
theorem Ext.refl (h:H):Ext h h:=⟨Nat.le_refl _, fun _ _=>rfl⟩
theorem Ext.trans {a b c:H} (x:Ext a b) (y:Ext b c):Ext a c:=
 ⟨Nat.le_trans x.1 y.1, fun i hi=>by rw [y.2 i (Nat.lt_of_lt_of_le hi x.1), x.2 i hi]⟩
theorem Ext.push {a b:H} (x:Ext a b) (k:Blk):Ext a (b.push k):=
 ⟨by rw [zk]; have:=x.1; omega, fun i hi=>by rw [zt, if_neg (by have:=x.1; omega)]; exact x.2 i hi⟩
theorem Ext.put {a b:H} (x:Ext a b) {i:Nat} (k:Option Blk) (hi:a.next≤i):Ext a (b.put i k):=
 ⟨x.1, fun j hj=>by rw [zw, if_neg (by omega)]; exact x.2 j hj⟩
theorem zq {b:Bool} {K:M α} (hb:b = true):need b K h = K h:=by subst hb; rfl
theorem jc {cs:List V} {K:Ad->M α} (hc:cs.all oneV = true):new cs K h = K ⟨h.next, 0⟩ (h.push (.cells cs true)):=by
 unfold new; rw [zq hc]
theorem jp {a:Ad} {cs:List V} {o:Bool} (hg:h.get a.id = some (.cells cs o)):h.cell a = cs[a.off]?:=by unfold H.cell; rw [hg]
theorem zli {a:Ad} {K:V->M α} {v:V} (hc:h.cell a = some v):ld a K h = K v h:=by unfold ld; rw [hc]
theorem jq {a:Ad} {k:IntKind} {K:Int->M α} {n:Int} (hc:h.cell a = some (.int k n)):ldI k a K h = K n h:=by
 unfold ldI
 rw [zli hc]
 cases k <;> rfl
theorem zad {a:Ad} {K:List UInt8->M α} {n:List UInt8} (hc:h.cell a = some (.str n)):ldStr a K h = K n h:=by unfold ldStr; rw [zli hc]; rfl
theorem zfp {a:Ad} {K:Option Ad->M α} {n:Option Ad} (hc:h.cell a = some (.ptr n)):ldP a K h = K n h:=by unfold ldP; rw [zli hc]; rfl
theorem zcf {a:Ad} {K:Sl->M α} {n:Sl} (hc:h.cell a = some (.slice n)):ldS a K h = K n h:=by unfold ldS; rw [zli hc]; rfl
theorem zas {a:Ad} {v:V} {K:M α} {cs:List V} (hg:h.get a.id = some (.cells cs true)) (ho:oneV v = true) (hl:a.off < cs.length) :
  st1 a v K h = K (h.put a.id (some (.cells (cs.set a.off v) true))):=by
 unfold st1 H.setCell
 rw [hg]
 simp only [ho, Bool.true_and, show Nat.blt a.off cs.length = true from Nat.ble_eq_true_of_le hl, cond_true]
theorem zig (b c:Blk):(h.push b).put h.next (some c) = h.push c:=by
 unfold H.put H.push
 simp only [H.mk.injEq, true_and]
 funext j
 cases Nat.beq j h.next <;> rfl
theorem push_put (b:Blk) {i:Nat} (k:Option Blk) (hi:i < h.next):(h.push b).put i k = (h.put i k).push b:=by
 unfold H.put H.push
 simp only [H.mk.injEq, true_and]
 funext j
 by_cases e:j = h.next
 ·subst e
  rw [jx (show h.next ≠ i by omega)]
  simp
 ·rw [jx e]; rfl
theorem yd {cs:List V} {i:Nat} {v:V} {K:M α} (ho:oneV v = true) (hl:i < cs.length) :
  st1 ⟨h.next, i⟩ v K (h.push (.cells cs true)) = K (h.push (.cells (cs.set i v) true)):=by
 rw [zas (cs:=cs) (by rw [zt, if_pos rfl]) ho hl, zig]
theorem zfl {cs:List V} {i:Nat} {v:V} {K:M α} {b:Blk} (ho:oneV v = true) (hl:i < cs.length) :
  st1 ⟨h.next, i⟩ v K ((h.push (.cells cs true)).push b) = K ((h.push (.cells (cs.set i v) true)).push b):=by
 rw [zas (cs:=cs) (by rw [zt, if_neg (by rw [zk]; show h.next ≠ _; omega), zt, if_pos rfl]) ho hl]
 rw [push_put _ _ (by rw [zk]; show h.next < _; omega), zig]
theorem jy {cs:List V} {i:Nat} {o:Bool}:(h.push (.cells cs o)).cell ⟨h.next, i⟩ = cs[i]?:=jp (by rw [zt, if_pos rfl])
theorem zmo {b:Blk} {a:Ad} (ha:a.id ≠ h.next):(h.push b).cell a = h.cell a:=by
 unfold H.cell; rw [zt, if_neg ha]
theorem zdz {cs:List V} {i:Nat} {o:Bool} {b:Blk}:((h.push (.cells cs o)).push b).cell ⟨h.next, i⟩ = cs[i]?:=by
 rw [zmo (by rw [zk]; show h.next ≠ _; omega), jy]
theorem jn (i n m:Nat):(Ad.mk i n).add m = ⟨i, n + m⟩:=rfl
theorem jt {s:List UInt8} {i:Int} {K:Int->M α} {b:UInt8} {n:Nat} (hi:i = (n:Int)) (hb:s[n]? = some b):idxStr s i K h = K (b.toNat:Int) h:=by
 subst hi
 unfold idxStr
 rw [zq (by simp), Int.toNat_natCast, hb]
theorem zfq {x:Int} {y n:Nat} {K:Nat->M α} (hx:x = (n:Int)) (hy:n≤y):bnd x y K h = K n h:=by
 subst hx
 unfold bnd
 rw [zq (by simp), zq (by simpa using hy), Int.toNat_natCast]
theorem zha {s:List UInt8} {x:Int} {n:Nat} {K:List UInt8->M α} (hx:x = (n:Int)) (hn:n≤s.length):cutStr s (some x) none K h = K (s.drop n) h:=by
 unfold cutStr
 simp only
 rw [zfq hx hn, List.take_length]
theorem zci {s:List UInt8} {x y:Int} {n m:Nat} {K:List UInt8->M α} (hx:x = (n:Int)) (hy:y = (m:Int)) (hn:n≤m) (hm:m≤s.length):cutStr s (some x) (some y) K h = K ((s.take m).drop n) h:=by
 unfold cutStr
 simp only
 rw [zfq hy hm, zfq hx hn]
def Row (h:H) (s:Sl) (size:Nat) (cs:List V):Prop:=
 (s = Sl.nil ∧ cs = []) ∨ ∃ id, s = ⟨some ⟨id, 0⟩, s.len, s.len, some size⟩ ∧ h.get id = some (.cells cs true) ∧ cs.length = s.len * size ∧ id < h.next
theorem Row.nil (h:H) (size:Nat):Row h Sl.nil size []:=.inl ⟨rfl, rfl⟩
theorem Row.len {s:Sl} {size:Nat} {cs:List V} (r:Row h s size cs):cs.length = s.len * size:=by
 rcases r with ⟨rfl, rfl⟩ | ⟨_, _, _, hl, _⟩
 ·simp [Sl.nil]
 ·exact hl
theorem Row.ext {h':H} {s:Sl} {size:Nat} {cs:List V} (r:Row h s size cs) (x:Ext h h'):Row h' s size cs:=by
 rcases r with h1 | ⟨id, h1, h2, h3, h4⟩
 ·exact .inl h1
 ·exact .inr ⟨id, h1, by rw [x.2 id h4]; exact h2, h3, Nat.lt_of_lt_of_le h4 x.1⟩
theorem zau {a:Ad} {cs:List V} {o:Bool} {n:Nat} (hg:h.get a.id = some (.cells cs o)) (hl:a.off + n≤cs.length):h.row a n = some ((cs.drop a.off).take n):=by
 unfold H.row
 rw [hg]
 simp only [show Nat.ble (a.off + n) cs.length = true from Nat.ble_eq_true_of_le hl, cond_true]
theorem zbq {a:Ad} {n:Nat} {K:List V->M α} {cs:List V} (hr:h.row a n = some cs):ziw a n K h = K cs h:=by unfold ziw; rw [hr]
theorem Row.rd {s:Sl} {size:Nat} {cs:List V} {K:List V->M α} (r:Row h s size cs):rdSl s size K h = K cs h:=by
 unfold rdSl
 rcases r with ⟨rfl, rfl⟩ | ⟨id, h1, h2, h3, h4⟩
 ·rfl
 ·rw [h1]
  dsimp only
  rw [zbq (zau (a:=⟨id, 0⟩) h2 (by show 0 + _≤_; omega))]
  simp [← h3]
theorem appSl_run {s:Sl} {size bytes n:Nat} {cs more:List V} (r:Row h s size cs) (hm:more.length = n * size) (hn:0 < n) (hb:0 < bytes) (hr:(s.len + n + (s.len + n) / 4 + 512) * bytes≤281474976710656) :
  ∃ h', (∀ (α:Type) (K:Sl->M α), zdn s size bytes n more K h = K ⟨some ⟨h.next, 0⟩, s.len + n, s.len + n, some size⟩ h') ∧ Row h' ⟨some ⟨h.next, 0⟩, s.len + n, s.len + n, some size⟩ size (cs ++ more) ∧
   h'.next = h.next + 1 ∧ ∀ i, i < h.next->(∀ a, s.ad = some a->i ≠ a.id)->h'.get i = h.get i:=by
 have hlen:=r.len
 have hbb:(Nat.blt 0 bytes && Nat.ble ((s.len + n + (s.len + n) / 4 + 512) * bytes) 281474976710656) = true:=by
  rw [Bool.and_eq_true]; exact ⟨Nat.ble_eq_true_of_le hb, Nat.ble_eq_true_of_le hr⟩
 have hn0:Nat.beq n 0 = false:=jx (by omega)
 have fin:∀ (h1:H), h1.next = h.next->Row (h1.push (.cells (cs ++ more) true)) ⟨some ⟨h.next, 0⟩, s.len + n, s.len + n, some size⟩ size (cs ++ more):=by
  intro h1 hn1
  refine .inr ⟨h.next, rfl, by rw [zt, if_pos hn1.symm], by simp [hlen, hm, Nat.add_mul], by rw [zk, hn1]; omega⟩
 have hm':Nat.beq more.length (n * size) = true:=by rw [hm]; exact Nat.beq_refl _
 rcases r with ⟨rfl, rfl⟩ | ⟨id, h1, h2, h3, h4⟩
 ·refine ⟨_, fun α K=>?_, fin h rfl, rfl, fun i hi _=>by rw [zt, if_neg (by omega)]⟩
  unfold zdn
  rw [zq hm']
  simp only [Sl.nil] at hbb ⊢
  rw [show Nat.ble (0 + n) 0 = false by cases hq:Nat.ble (0 + n) 0 with | false=>rfl | true=>have:=Nat.le_of_ble_eq_true hq; omega]
  simp only [cond_false]
  rw [zq (by simpa using hbb)]
  rfl
 ·have e1:s.loose = some size:=by rw [h1]
  have e2:s.ad = some ⟨id, 0⟩:=by rw [h1]
  refine ⟨_, fun α K=>?_, fin (h.put id none) rfl, rfl, fun i hi hne=>?_⟩
  ·unfold zdn
   rw [zq hm', e1]
   dsimp only
   rw [hn0]
   simp only [cond_false]
   rw [zq (Nat.beq_refl _), zq hbb, e2]
   dsimp only
   rw [zbq (zau (a:=⟨id, 0⟩) h2 (by show 0 + _≤_; omega))]
   have hown:h.own id = true:=by unfold H.own; rw [h2]
   simp only [hown, cond_true, List.drop_zero]
   rw [← h3, List.take_length]
  ·rw [zt, if_neg (by show i ≠ h.next; omega), zw, if_neg (hne ⟨id, 0⟩ e2)]
theorem idxSl_run {s:Sl} {id:Nat} {off:Nat} {i:Int} {n size:Nat} {K:Ad->M α} (hs:s.ad = some ⟨id, off⟩) (hi:i = (n:Int)) (hn:n < s.len):idxSl s i size K h = K ⟨id, off + n * size⟩ h:=by
 subst hi
 unfold idxSl asSome
 rw [hs]
 dsimp only
 rw [zq (by simp), zq (by simpa using hn), Int.toNat_natCast]
 rfl
theorem zjl {s x:Sl} {size bytes:Nat} {cs more:List V} {a:Ad} (r:Row h s size cs) (hx:x.ad = some a) (hrow:h.row a (x.len * size) = some more) (hn:0 < x.len) (hb:0 < bytes)
  (hr:(s.len + x.len + (s.len + x.len) / 4 + 512) * bytes≤281474976710656) :
  ∃ h', (∀ (α:Type) (K:Sl->M α), jk s size bytes x K h = K ⟨some ⟨h.next, 0⟩, s.len + x.len, s.len + x.len, some size⟩ h') ∧ Row h' ⟨some ⟨h.next, 0⟩, s.len + x.len, s.len + x.len, some size⟩ size (cs ++ more) ∧
   h'.next = h.next + 1 ∧ ∀ i, i < h.next->(∀ a, s.ad = some a->i ≠ a.id)->h'.get i = h.get i:=by
 obtain ⟨h', a1, a2⟩:=appSl_run (bytes:=bytes) r (zmu hrow).1 hn hb hr
 refine ⟨h', fun α K=>?_, a2⟩
 unfold jk rdSl
 rw [hx]
 dsimp only
 rw [zbq hrow]
 exact a1 α K
def zen (h₀:H) (s:Sl):Prop:=∀ a, s.ad = some a->h₀.next≤a.id
theorem zen.nil (h₀:H):zen h₀ Sl.nil:=fun _ h=>by cases h
theorem Ext.app {h₀ h h':H} {s:Sl} (x:Ext h₀ h) (o:zen h₀ s) (hn:h'.next = h.next + 1) (hg:∀ i, i < h.next->(∀ a, s.ad = some a->i ≠ a.id)->h'.get i = h.get i):Ext h₀ h':=
 ⟨by rw [hn]; have:=x.1; omega, fun i hi=>by
  rw [hg i (Nat.lt_of_lt_of_le hi x.1) (fun a ha=>by have:=o a ha; omega)]
  exact x.2 i hi⟩
end
end Go.Ab
namespace Go.Ab
section
variable {α:Type} {h:H}
theorem zcq {β:Type} {c:β->List V} {size:Nat} (hc:∀ x, (c x).length = size):∀ l:List β, (l.flatMap c).length = l.length * size
 | []=>by simp
 | x :: l=>by rw [List.flatMap_cons, List.length_append, hc, zcq hc l, List.length_cons, Nat.add_mul]; omega
theorem zbx {β:Type} {c:β->List V} {size:Nat} (hc:∀ x, (c x).length = size):∀ (l:List β) (i:Nat) (x:β) (j:Nat), l[i]? = some x->j < size->(l.flatMap c)[i * size + j]? = (c x)[j]?
 | [], i, x, j, h, _=>by simp at h
 | y :: l, 0, x, j, h, hj=>by
  simp only [List.getElem?_cons_zero, Option.some.injEq] at h
  subst h
  rw [List.flatMap_cons, Nat.zero_mul, Nat.zero_add, List.getElem?_append_left (by rw [hc]; exact hj)]
 | y :: l, i + 1, x, j, h, hj=>by
  rw [List.flatMap_cons, List.getElem?_append_right (by rw [hc, Nat.add_mul]; omega), hc, show (i + 1) * size + j - size = i * size + j by rw [Nat.add_mul]; omega]
  exact zbx hc l i x j (by simpa using h) hj
theorem znh {β:Type} {c:β->List V} {size:Nat} (hc:∀ x, (c x).length = size):∀ (l:List β) (i:Nat) (x y:β) (j:Nat) (v:V), l[i]? = some x->c y = (c x).set j v->j < size->(l.flatMap c).set (i * size + j) v = (l.set i y).flatMap c
 | [], i, x, y, j, v, h, _, _=>by simp at h
 | z :: l, 0, x, y, j, v, h, hy, hj=>by
  simp only [List.getElem?_cons_zero, Option.some.injEq] at h
  subst h
  rw [List.flatMap_cons, Nat.zero_mul, Nat.zero_add, List.set_append_left _ _ (by rw [hc]; exact hj), List.set_cons_zero, List.flatMap_cons, hy]
 | z :: l, i + 1, x, y, j, v, h, hy, hj=>by
  rw [List.flatMap_cons, List.set_append_right _ _ (by rw [hc, Nat.add_mul]; omega), hc, show (i + 1) * size + j - size = i * size + j by rw [Nat.add_mul]; omega,
   znh hc l i x y j v (by simpa using h) hy hj, List.set_cons_succ, List.flatMap_cons]
theorem zkz {β:Type} {c:β->List V} {size:Nat} (hc:∀ x, (c x).length = size):∀ (l:List β) (i:Nat), (l.flatMap c).drop (i * size) = (l.drop i).flatMap c
 | [], i=>by simp
 | x :: l, 0=>by simp
 | x :: l, i + 1=>by
  rw [List.flatMap_cons, List.drop_append, List.drop_of_length_le (by rw [hc, Nat.add_mul]; omega), hc, show (i + 1) * size - size = i * size by rw [Nat.add_mul]; omega, zkz hc l i, List.drop_succ_cons, List.nil_append]
def cI (n:Int):List V:=[.int .i64 n]
def cS (b:List UInt8):List V:=[.str b]
def Sl.at (s:Sl) (n:Nat):Ad:=⟨(s.ad.getD ⟨0, 0⟩).id, (s.ad.getD ⟨0, 0⟩).off + n⟩
theorem zjs (s:Sl) (n m:Nat):(s.at n).add m = s.at (n + m):=by simp [Sl.at, Ad.add, Nat.add_assoc]
structure Rd (h:H) (s:Sl) (size:Nat) (cs:List V):Prop where
 len:cs.length = s.len * size
 row:∀ a, s.ad = some a->h.row a cs.length = some cs ∧ a.id < h.next
 nil:s.ad = none->s.len = 0
theorem Rd.ext {h':H} {s:Sl} {size:Nat} {cs:List V} (r:Rd h s size cs) (x:Ext h h'):Rd h' s size cs:=by
 refine ⟨r.len, fun a ha=>?_, r.nil⟩
 obtain ⟨h1, h2⟩:=r.row a ha
 refine ⟨?_, Nat.lt_of_lt_of_le h2 x.1⟩
 unfold H.row at h1 ⊢
 rw [x.2 _ h2]; exact h1
theorem Rd.keep {h':H} {s:Sl} {size:Nat} {cs:List V} (r:Rd h s size cs) (hn:h.next≤h'.next) (hg:∀ a, s.ad = some a->h'.get a.id = h.get a.id):Rd h' s size cs:=by
 refine ⟨r.len, fun a ha=>?_, r.nil⟩
 obtain ⟨h1, h2⟩:=r.row a ha
 refine ⟨?_, Nat.lt_of_lt_of_le h2 hn⟩
 unfold H.row at h1 ⊢
 rw [hg _ ha]; exact h1
theorem Rd.nilSl (h:H) (size:Nat):Rd h Sl.nil size []:=⟨by simp [Sl.nil], fun a ha=>(by cases ha), fun _=>rfl⟩
theorem zls {a:Ad} {cs:List V} {n:Nat} (hr:h.row a n = some cs):∃ bs o, h.get a.id = some (.cells bs o) ∧ a.off + n≤bs.length ∧ cs = (bs.drop a.off).take n:=by
 unfold H.row at hr
 cases hg:h.get a.id with
 | none=>rw [hg] at hr; cases hr
 | some b=>
  cases b with
  | map es=>rw [hg] at hr; cases hr
  | cellsT _ _ _=>rw [hg] at hr; cases hr
  | cells bs o=>
   rw [hg] at hr
   dsimp only at hr
   by_cases hle:a.off + n≤bs.length
   ·rw [show Nat.ble (a.off + n) bs.length = true from Nat.ble_eq_true_of_le hle, cond_true] at hr
    cases hr
    exact ⟨bs, o, rfl, hle, rfl⟩
   ·rw [show Nat.ble (a.off + n) bs.length = false by cases hq:Nat.ble (a.off + n) bs.length with | false=>rfl | true=>exact absurd (Nat.le_of_ble_eq_true hq) hle] at hr
    cases hr
theorem Rd.cell {s:Sl} {size:Nat} {cs:List V} (r:Rd h s size cs) {n:Nat} {v:V} (hv:cs[n]? = some v):h.cell (s.at n) = some v:=by
 have hlt:n < cs.length:=by
  rcases Nat.lt_or_ge n cs.length with h | h
  ·exact h
  ·rw [List.getElem?_eq_none h] at hv; cases hv
 cases ha:s.ad with
 | none=>have:=r.nil ha; have:=r.len; simp_all
 | some a=>
  obtain ⟨bs, o, hg, hle, hcs⟩:=zls (r.row a ha).1
  rw [hcs, List.getElem?_take_of_lt hlt, List.getElem?_drop] at hv
  unfold Sl.at
  rw [ha]
  exact (jp (a:=⟨a.id, a.off + n⟩) hg).trans hv
theorem zff {s:Sl} {size:Nat} {cs:List V} (r:Rd h s size cs) {x:Int} {i:Nat} (hx:x = (i:Int)) (hi:i < s.len) (K:Ad->M α):idxSl s x size K h = K (s.at (i * size)) h:=by
 subst hx
 cases ha:s.ad with
 | none=>have:=r.nil ha; omega
 | some a=>
  unfold idxSl asSome Sl.at
  rw [ha]
  dsimp only [Option.getD]
  rw [zq (by simp), zq (by simpa using hi), Int.toNat_natCast]
  rfl
theorem Rd.rd {s:Sl} {size:Nat} {cs:List V} (r:Rd h s size cs) (K:List V->M α):rdSl s size K h = K cs h:=by
 unfold rdSl
 cases ha:s.ad with
 | none=>
  have h0:=r.nil ha
  have:cs = []:=List.eq_nil_of_length_eq_zero (by rw [r.len, h0, Nat.zero_mul])
  subst this
  dsimp only
  rw [zq (by rw [h0]; rfl)]
 | some a=>
  dsimp only
  rw [← r.len, zbq (r.row a ha).1]
theorem Rd.ldI {s:Sl} {size:Nat} {cs:List V} (r:Rd h s size cs) {n:Nat} {k:IntKind} {v:Int} (hv:cs[n]? = some (.int k v)) (K:Int->M α):Ab.ldI k (s.at n) K h = K v h:=jq (r.cell hv)
theorem Rd.ldStr {s:Sl} {size:Nat} {cs:List V} (r:Rd h s size cs) {n:Nat} {v:List UInt8} (hv:cs[n]? = some (.str v)) (K:List UInt8->M α):Ab.ldStr (s.at n) K h = K v h:=zad (r.cell hv)
theorem Rd.ldS {s:Sl} {size:Nat} {cs:List V} (r:Rd h s size cs) {n:Nat} {v:Sl} (hv:cs[n]? = some (.slice v)) (K:Sl->M α):Ab.ldS (s.at n) K h = K v h:=zcf (r.cell hv)
theorem zex {β:Type} {c:β->List V} (hc:∀ x, (c x).length = 1) {s:Sl} {l:List β} (r:Rd h s 1 (l.flatMap c)):s.len = l.length:=by
 have:=r.len
 rw [zcq hc] at this
 omega
theorem slen {β:Type} {c:β->List V} {size:Nat} (hc:∀ x, (c x).length = size) (h0:0 < size) {s:Sl} {l:List β} (r:Rd h s size (l.flatMap c)):s.len = l.length:=by
 have:=r.len
 rw [zcq hc] at this
 exact (Nat.eq_of_mul_eq_mul_right h0 this).symm
theorem zbf {β:Type} {l:List β} {i:Nat} {x:β} (hi:l[i]? = some x):i < l.length:=by
 rcases Nat.lt_or_ge i l.length with h | h
 ·exact h
 ·rw [List.getElem?_eq_none h] at hi; cases hi
theorem zbz {s:Sl} {l:List Int} (r:Rd h s 1 (l.flatMap cI)) {x:Int} {i:Nat} {v:Int} (hx:x = (i:Int)) (hi:l[i]? = some v) (K:Int->M α):idxSl s x 1 (fun a=>ldI .i64 (a.add 0) K) h = K v h:=by
 rw [zff r hx (by rw [slen (size:=1) (fun _=>rfl) (by decide) r]; exact zbf hi), zjs]
 exact r.ldI (by rw [zbx (size:=1) (fun _=>rfl) l i v 0 hi (by decide)]; rfl) K
theorem from_zero (s:Sl) (m size:Nat):s.from 0 m size = s.ad:=by
 unfold Sl.from
 have:s.ad.map (·.add (0 * size)) = s.ad:=by cases s.ad with | none=>rfl | some a=>simp [Ad.add]
 cases s.loose with
 | none=>dsimp only; rw [this]; cases Nat.beq m 0 <;> rfl
 | some e=>exact this
def Sl.fine (s:Sl) (size:Nat):Prop:=s.len≤s.cap ∧ (s.loose = none ∨ s.loose = some size)
theorem zki {s:Sl} {size:Nat} (f:s.fine size) {K K':M α} (hK:K h = K' h):need (match s.loose with | none=>true | some e=>Nat.beq e size) K h = K' h:=by
 rw [← hK]
 refine zq ?_
 rcases f.2 with h | h <;> rw [h]
 exact Nat.beq_refl _
theorem cut_to {s:Sl} {size:Nat} (f:s.fine size) {y:Int} {m:Nat} (hy:y = (m:Int)) (hm:m≤s.cap) (K:Sl->M α):cutSl s size none (some y) none K h = K ⟨s.ad, m, s.cap, s.loose⟩ h:=by
 unfold cutSl
 dsimp only
 exact (zki f rfl).trans (by rw [zfq hy hm, from_zero])
theorem cut_from {s:Sl} {size:Nat} (f:s.fine size) {x:Int} {n:Nat} (hx:x = (n:Int)) (hn:n≤s.len) (K:Sl->M α):cutSl s size (some x) none none K h = K ⟨s.from n s.cap size, s.len - n, s.cap - n, s.loose⟩ h:=by
 unfold cutSl
 dsimp only
 exact (zki f rfl).trans (by rw [zfq hx hn])
theorem Rd.to {s:Sl} {size:Nat} {cs:List V} (r:Rd h s size cs) (m c:Nat) (lo:Option Nat) (hm:m≤s.len):Rd h ⟨s.ad, m, c, lo⟩ size (cs.take (m * size)):=by
 have hle:m * size≤cs.length:=by rw [r.len]; exact Nat.mul_le_mul_right _ hm
 have hl:(cs.take (m * size)).length = m * size:=by rw [List.length_take]; omega
 refine ⟨hl, fun a ha=>?_, fun ha=>?_⟩
 ·obtain ⟨h1, h2⟩:=r.row a ha
  refine ⟨?_, h2⟩
  obtain ⟨bs, o, hg, hle', hcs⟩:=zls h1
  rw [hl, zau hg (by omega)]
  conv=>rhs; rw [hcs, List.take_take]
  rw [Nat.min_eq_left hle]
 ·have:=r.nil ha
  show m = 0
  omega
theorem Rd.from {s:Sl} {size:Nat} {cs:List V} (r:Rd h s size cs) (n c m:Nat) (lo:Option Nat) (hn:n≤s.len) (hm:s.len≤m):Rd h ⟨s.from n m size, s.len - n, c, lo⟩ size (cs.drop (n * size)):=by
 have hle:n * size≤cs.length:=by rw [r.len]; exact Nat.mul_le_mul_right _ hn
 refine ⟨by rw [List.length_drop, r.len, Nat.sub_mul], fun a ha=>?_, fun ha=>?_⟩
 ·cases hs:s.ad with
  | none=>
   unfold Sl.from at ha
   rw [hs] at ha
   cases hl:s.loose with
   | none=>rw [hl] at ha; dsimp only at ha; cases hq:Nat.beq m n <;> simp [hq] at ha
   | some e=>rw [hl] at ha; cases ha
  | some b=>
   obtain ⟨h1, h2⟩:=r.row b hs
   obtain ⟨bs, o, hg, hle', hcs⟩:=zls h1
   have key:∀ c:Ad, c.id = b.id->c.off = b.off + n * size ∨ (s.len = n ∧ c.off≤b.off + n * size)->h.row c (cs.drop (n * size)).length = some (cs.drop (n * size)):=by
    intro c hc1 hc2
    rw [List.length_drop]
    rcases hc2 with hc2 | ⟨hc2, hc3⟩
    ·rw [zau (by rw [hc1]; exact hg) (by rw [hc2]; omega), hc2]
     congr 1
     conv=>rhs; rw [hcs, List.drop_take, List.drop_drop]
    ·have hz:cs.length - n * size = 0:=by rw [r.len, hc2]; omega
     rw [hz, zau (by rw [hc1]; exact hg) (by omega), List.drop_of_length_le (l:=cs) (by omega)]
     simp
   unfold Sl.from at ha
   rw [hs] at ha
   cases hl:s.loose with
   | some e=>
    rw [hl] at ha
    simp only [Option.map_some, Option.some.injEq] at ha
    subst ha
    exact ⟨key _ rfl (.inl rfl), h2⟩
   | none=>
    rw [hl] at ha
    dsimp only at ha
    by_cases hmn:m = n
    ·have:Nat.beq m n = true:=by rw [hmn]; exact Nat.beq_refl _
     rw [this, cond_true] at ha
     cases ha
     exact ⟨key _ rfl (.inr ⟨by omega, by omega⟩), h2⟩
    ·rw [jx hmn, cond_false] at ha
     simp only [Option.map_some, Option.some.injEq] at ha
     subst ha
     exact ⟨key _ rfl (.inl rfl), h2⟩
 ·have hz:s.ad = none:=by
   unfold Sl.from at ha
   cases hl:s.loose with
   | none=>rw [hl] at ha; dsimp only at ha; cases hq:Nat.beq m n <;> simp [hq] at ha <;> exact ha
   | some e=>rw [hl] at ha; dsimp only at ha; simpa using ha
  have:=r.nil hz
  show s.len - n = 0
  omega
structure App (h:H) (s:Sl) (size:Nat) (cs:List V):Prop where
 rd:Rd h s size cs
 none':s.ad = none->s = Sl.nil
 mode:(s.loose = none ∧ s.cap = s.len) ∨ (s.loose = some size ∧ s.len≤s.cap ∧ ∃ a, s.ad = some a ∧ h.own a.id = true)
theorem App.nilSl (h:H) (size:Nat):App h Sl.nil size []:=⟨Rd.nilSl h size, fun _=>rfl, .inl ⟨rfl, rfl⟩⟩
theorem App.fine {s:Sl} {size:Nat} {cs:List V} (r:App h s size cs):s.fine size:=by
 rcases r.mode with ⟨h1, h2⟩ | ⟨h1, h2, _⟩
 ·exact ⟨by omega, .inl h1⟩
 ·exact ⟨h2, .inr h1⟩
theorem App.ext {h':H} {s:Sl} {size:Nat} {cs:List V} (r:App h s size cs) (x:Ext h h'):App h' s size cs:=by
 refine ⟨r.rd.ext x, r.none', r.mode.imp id fun ⟨h1, h2, a, h3, h4⟩=>⟨h1, h2, a, h3, ?_⟩⟩
 unfold H.own at h4 ⊢
 rw [x.2 _ (r.rd.row a h3).2]; exact h4
theorem App.keep {h':H} {s:Sl} {size:Nat} {cs:List V} (r:App h s size cs) (hn:h.next≤h'.next) (hg:∀ a, s.ad = some a->h'.get a.id = h.get a.id):App h' s size cs:=by
 refine ⟨r.rd.keep hn hg, r.none', r.mode.imp id fun ⟨h1, h2, a, h3, h4⟩=>⟨h1, h2, a, h3, ?_⟩⟩
 unfold H.own at h4 ⊢
 rw [hg _ h3]; exact h4
def Kept (h:H) (s:Sl) (h':H):Prop:=h'.next = h.next + 1 ∧ ∀ i, i < h.next->(s.loose ≠ none->∀ a, s.ad = some a->i ≠ a.id)->h'.get i = h.get i
theorem Kept.ext {h₀ h':H} {s:Sl} (k:Kept h s h') (x:Ext h₀ h) (o:zen h₀ s):Ext h₀ h':=
 ⟨by rw [k.1]; have:=x.1; omega, fun i hi=>by
  rw [k.2 i (Nat.lt_of_lt_of_le hi x.1) (fun _ a ha=>by have:=o a ha; omega)]
  exact x.2 i hi⟩
theorem zlz {s:Sl} {size bytes n:Nat} {cs more:List V} (r:App h s size cs) (hm:more.length = n * size) (hn:0 < n) (hb:0 < bytes) (hr:(s.len + n + (s.len + n) / 4 + 512) * bytes≤281474976710656) :
  ∃ h', (∀ (α:Type) (K:Sl->M α), zdn s size bytes n more K h = K ⟨some ⟨h.next, 0⟩, s.len + n, s.len + n, some size⟩ h') ∧ App h' ⟨some ⟨h.next, 0⟩, s.len + n, s.len + n, some size⟩ size (cs ++ more) ∧
   h'.get h.next = some (.cells (cs ++ more) true) ∧ Kept h s h':=by
 have hlen:=r.rd.len
 have hbb:(Nat.blt 0 bytes && Nat.ble ((s.len + n + (s.len + n) / 4 + 512) * bytes) 281474976710656) = true:=by
  rw [Bool.and_eq_true]; exact ⟨Nat.ble_eq_true_of_le hb, Nat.ble_eq_true_of_le hr⟩
 have hn0:Nat.beq n 0 = false:=jx (by omega)
 have fin:∀ (h1:H), h1.next = h.next->App (h1.push (.cells (cs ++ more) true)) ⟨some ⟨h.next, 0⟩, s.len + n, s.len + n, some size⟩ size (cs ++ more):=by
  intro h1 hn1
  have hg:(h1.push (.cells (cs ++ more) true)).get h.next = some (.cells (cs ++ more) true):=by rw [zt, if_pos hn1.symm]
  refine ⟨⟨by simp [hlen, hm, Nat.add_mul], fun a ha=>?_, fun ha=>by cases ha⟩, (fun ha=>by cases ha), .inr ⟨rfl, Nat.le_refl _, _, rfl, ?_⟩⟩
  ·cases ha
   refine ⟨?_, by rw [zk, hn1]; exact Nat.lt_succ_self _⟩
   rw [zau hg (by show 0 + _≤_; omega), List.drop_zero, List.take_length]
  ·show H.own _ h.next = true
   unfold H.own
   rw [hg]
 have hm':Nat.beq more.length (n * size) = true:=by rw [hm]; exact Nat.beq_refl _
 rcases r.mode with ⟨h1, h2⟩ | ⟨h1, h2, a, h3, h4⟩
 ·refine ⟨_, fun α K=>?_, fin h rfl, by rw [zt, if_pos rfl], zk _, fun i hi _=>by rw [zt, if_neg (by omega)]⟩
  unfold zdn
  rw [zq hm', h1]
  dsimp only
  rw [show Nat.ble (s.len + n) s.cap = false by cases hq:Nat.ble (s.len + n) s.cap with | false=>rfl | true=>have:=Nat.le_of_ble_eq_true hq; omega]
  simp only [cond_false]
  rw [zq hbb, r.rd.rd]
 ·refine ⟨_, fun α K=>?_, fin (h.put a.id none) rfl, by rw [zt]; exact if_pos rfl, zk _, fun i hi hne=>?_⟩
  ·unfold zdn
   rw [zq hm', h1]
   dsimp only
   rw [hn0]
   simp only [cond_false]
   rw [zq (Nat.beq_refl _), zq hbb, h3]
   dsimp only
   rw [← hlen, zbq (r.rd.row a h3).1]
   simp only [h4, cond_true]
  ·rw [zt, if_neg (by show i ≠ h.next; omega), zw, if_neg (hne (by rw [h1]; exact fun h=>by cases h) a h3)]
theorem app_made {s:Sl} {size bytes n:Nat} {cs more:List V} (r:App h s size cs) (hm:more.length = n * size) (ho:more.all oneV = true) (hn:0 < n) (hb:0 < bytes) (hr:(s.len + n + (s.len + n) / 4 + 512) * bytes≤281474976710656) :
  ∃ h', (∀ (α:Type) (K:Sl->M α), new more (fun a=>jk s size bytes ⟨some a, n, n, none⟩ K) h = K ⟨some ⟨h.next + 1, 0⟩, s.len + n, s.len + n, some size⟩ h') ∧ App h' ⟨some ⟨h.next + 1, 0⟩, s.len + n, s.len + n, some size⟩ size (cs ++ more) ∧
   h'.get (h.next + 1) = some (.cells (cs ++ more) true) ∧ h'.next = h.next + 2 ∧ (∀ i, i < h.next->(s.loose ≠ none->∀ a, s.ad = some a->i ≠ a.id)->h'.get i = h.get i):=by
 have x:Ext h (h.push (.cells more true)):=(Ext.refl h).push _
 obtain ⟨h', e, r', g, k⟩:=zlz (bytes:=bytes) (r.ext x) hm hn hb hr
 refine ⟨h', fun α K=>?_, r', g, k.1, fun i hi hne=>?_⟩
 ·rw [jc ho]
  unfold jk rdSl
  dsimp only
  have:(h.push (.cells more true)).row ⟨h.next, 0⟩ (n * size) = some more:=by
   rw [zau (cs:=more) (o:=true) (by show (h.push _).get h.next = _; rw [zt, if_pos rfl]) (by show 0 + n * size≤more.length; omega), ← hm]
   simp
  rw [zbq this]
  exact e α K
 ·rw [k.2 i (by rw [zk]; omega) hne, zt, if_neg (by omega)]
theorem zhn {s x:Sl} {size bytes:Nat} {cs more:List V} (r:App h s size cs) (hx:Rd h x size more) (hn:0 < x.len) (hb:0 < bytes) (hr:(s.len + x.len + (s.len + x.len) / 4 + 512) * bytes≤281474976710656) :
  ∃ h', (∀ (α:Type) (K:Sl->M α), jk s size bytes x K h = K ⟨some ⟨h.next, 0⟩, s.len + x.len, s.len + x.len, some size⟩ h') ∧ App h' ⟨some ⟨h.next, 0⟩, s.len + x.len, s.len + x.len, some size⟩ size (cs ++ more) ∧
   h'.get h.next = some (.cells (cs ++ more) true) ∧ Kept h s h':=by
 obtain ⟨h', e, r', k⟩:=zlz (bytes:=bytes) r hx.len hn hb hr
 exact ⟨h', fun α K=>by unfold jk; rw [hx.rd]; exact e α K, r', k⟩
structure Own (h:H) (s:Sl) (size:Nat) (cs:List V):Prop where
 len:cs.length = s.len * size
 blk:∃ id more, s.ad = some ⟨id, 0⟩ ∧ h.get id = some (.cells (cs ++ more) true) ∧ id < h.next
def Sl.id (s:Sl):Nat:=(s.ad.getD ⟨0, 0⟩).id
theorem Own.rd {s:Sl} {size:Nat} {cs:List V} (o:Own h s size cs):Rd h s size cs:=by
 obtain ⟨id, more, h1, h2, h3⟩:=o.blk
 refine ⟨o.len, fun a ha=>?_, fun ha=>by rw [h1] at ha; cases ha⟩
 rw [h1] at ha
 cases ha
 refine ⟨?_, h3⟩
 rw [zau h2 (by simp)]
 simp
theorem Own.ext {h':H} {s:Sl} {size:Nat} {cs:List V} (o:Own h s size cs) (x:Ext h h'):Own h' s size cs:=by
 obtain ⟨id, more, h1, h2, h3⟩:=o.blk
 exact ⟨o.len, id, more, h1, by rw [x.2 id h3]; exact h2, Nat.lt_of_lt_of_le h3 x.1⟩
theorem Own.keep {h':H} {s:Sl} {size:Nat} {cs:List V} (o:Own h s size cs) (hn:h.next≤h'.next) (hg:h'.get s.id = h.get s.id):Own h' s size cs:=by
 obtain ⟨id, more, h1, h2, h3⟩:=o.blk
 have:s.id = id:=by unfold Sl.id; rw [h1]; rfl
 rw [this] at hg
 exact ⟨o.len, id, more, h1, by rw [hg]; exact h2, Nat.lt_of_lt_of_le h3 hn⟩
theorem own_st {s:Sl} {size:Nat} {cs:List V} (o:Own h s size cs) {n:Nat} {v:V} (hv:oneV v = true) (hn:n < cs.length) :
  ∃ h', (∀ (α:Type) (K:M α), st1 (s.at n) v K h = K h') ∧ Own h' s size (cs.set n v) ∧ h'.next = h.next ∧ ∀ i, i ≠ s.id->h'.get i = h.get i:=by
 obtain ⟨id, more, h1, h2, h3⟩:=o.blk
 have e1:s.id = id:=by unfold Sl.id; rw [h1]; rfl
 have e2:s.at n = ⟨id, n⟩:=by unfold Sl.at; rw [h1]; simp
 refine ⟨h.put id (some (.cells ((cs ++ more).set n v) true)), fun α K=>?_, ⟨by rw [List.length_set]; exact o.len, id, more, h1, ?_, h3⟩, rfl, fun i hi=>?_⟩
 ·rw [e2, zas (a:=⟨id, n⟩) h2 hv (by show n < _; rw [List.length_append]; omega)]
 ·rw [js, List.set_append_left _ _ hn]
 ·rw [zw, if_neg (by rw [← e1]; exact hi)]
theorem Own.app {s:Sl} {size:Nat} {cs:List V} (o:Own h s size cs) (h1:s.loose = none) (h2:s.cap = s.len):App h s size cs:=
 ⟨o.rd, fun ha=>(by obtain ⟨id, more, h3, _⟩:=o.blk; rw [h3] at ha; cases ha), .inl ⟨h1, h2⟩⟩
end
end Go.Ab
