import Derived.Test.YtdhjpnacjnkbgaaGreatDoorAb1
import Derived.WalkKit
set_option linter.unusedVariables false
set_option linter.unusedSimpArgs false
set_option linter.unusedSectionVars false
namespace Go.Ab
structure Pl where
 cb:Nat
 sh:Nat
 tot:Nat
abbrev Io:=Nat->Pl
def Ad.to (ι:Io) (a:Ad):Addr:=⟨(ι a.id).cb, (ι a.id).sh + a.off, none⟩
def SlR (ι:Io) (ok:Nat->Prop) (s:Sl) (x:Value):Prop:=
 match s.ad with
 | none=>s = Sl.nil ∧ x = .slice none 0 0
 | some a=>ok a.id ∧ ∃ (b:Addr) (c:Nat), x = .slice (some b) s.len c ∧ (c = 0 ∨ b = a.to ι) ∧ s.len≤s.cap ∧
   match s.loose with
   | none=>c = s.cap
   | some e=>s.cap≤c ∧ a.off + c * e = (ι a.id).tot
mutual
def VR (ι:Io) (ok:Nat->Prop):V->Value->Prop
 | .undef, _=>True
 | .bool b, x=>x = .bool b
 | .int k n, x=>x = .int k n
 | .str s, x=>∃ b:ByteArray, x = .string b ∧ b.data.toList = s
 | .ptr none, x=>x = .pointer none
 | .ptr (some a), x=>ok a.id ∧ x = .pointer (some (a.to ι))
 | .slice s, x=>SlR ι ok s x
 | .map none, x=>x = .map none
 | .map (some r), x=>ok r ∧ x = .map (some (ι r).cb)
 | .func f first cap, x=>∃ a b:Array Value, x = .func (.func f) a b ∧ VRL ι ok first a.toList ∧ VRL ι ok cap b.toList
 | .nilFunc, x=>x = .nilFunc
 | .iface t v, x=>∃ y, x = .iface t y ∧ VR ι ok v y
 | .nilIface, x=>x = .nilIface
 | .agg cs, x=>∃ a:Array Value, x = .agg a ∧ VRL ι ok cs a.toList
 | .tuple vs, x=>∃ a:Array Value, x = .tuple a ∧ VRL ι ok vs a.toList
def VRL (ι:Io) (ok:Nat->Prop):List V->List Value->Prop
 | [], []=>True
 | v :: vs, x :: xs=>VR ι ok v x ∧ VRL ι ok vs xs
 | _, _=>False
end
section
variable {ι ι':Io} {ok ok':Nat->Prop}
theorem SlR.mono (hι:∀ i, ok i->ι' i = ι i) (hok:∀ i, ok i->ok' i) {s:Sl} {x:Value} (h:SlR ι ok s x):SlR ι' ok' s x:=by
 unfold SlR at *
 cases hs:s.ad with
 | none=>simp only [hs] at h ⊢; exact h
 | some a=>
  simp only [hs] at h ⊢
  obtain ⟨ha, b, c, hx, hb, hl, hc⟩:=h
  refine ⟨hok _ ha, b, c, hx, ?_, hl, ?_⟩
  ·rcases hb with hb | hb
   ·exact .inl hb
   ·exact .inr (by rw [hb]; simp [Ad.to, hι _ ha])
  ·cases hl:s.loose with
   | none=>simp only [hl] at hc ⊢; exact hc
   | some e=>simp only [hl] at hc ⊢; rw [hι _ ha]; exact hc
mutual
theorem VR.mono (hι:∀ i, ok i->ι' i = ι i) (hok:∀ i, ok i->ok' i):∀ {v:V} {x:Value}, VR ι ok v x->VR ι' ok' v x
 | .undef, _, _=>trivial
 | .bool _, _, h=>h
 | .int _ _, _, h=>h
 | .str _, _, h=>h
 | .ptr none, _, h=>h
 | .ptr (some a), _, h=>⟨hok _ h.1, by rw [h.2]; simp [Ad.to, hι _ h.1]⟩
 | .slice _, _, h=>SlR.mono hι hok h
 | .map none, _, h=>h
 | .map (some r), _, h=>⟨hok _ h.1, by rw [h.2, hι _ h.1]⟩
 | .func _ _ _, _, ⟨a, b, hx, ha, hb⟩=>⟨a, b, hx, VRL.mono hι hok ha, VRL.mono hι hok hb⟩
 | .nilFunc, _, h=>h
 | .iface _ _, _, ⟨y, hx, hy⟩=>⟨y, hx, VR.mono hι hok hy⟩
 | .nilIface, _, h=>h
 | .agg _, _, ⟨a, hx, ha⟩=>⟨a, hx, VRL.mono hι hok ha⟩
 | .tuple _, _, ⟨a, hx, ha⟩=>⟨a, hx, VRL.mono hι hok ha⟩
theorem VRL.mono (hι:∀ i, ok i->ι' i = ι i) (hok:∀ i, ok i->ok' i):∀ {vs:List V} {xs:List Value}, VRL ι ok vs xs->VRL ι' ok' vs xs
 | [], [], _=>trivial
 | _ :: _, _ :: _, ⟨h, hr⟩=>⟨VR.mono hι hok h, VRL.mono hι hok hr⟩
 | [], _ :: _, h=>h.elim
 | _ :: _, [], h=>h.elim
end
theorem VRL.length:∀ {vs:List V} {xs:List Value}, VRL ι ok vs xs->vs.length = xs.length
 | [], [], _=>rfl
 | _ :: _, _ :: _, h=>by simp [VRL.length h.2]
 | [], _ :: _, h=>h.elim
 | _ :: _, [], h=>h.elim
theorem VRL.get:∀ {vs:List V} {xs:List Value}, VRL ι ok vs xs->∀ {i:Nat} {v:V}, vs[i]? = some v->∃ x, xs[i]? = some x ∧ VR ι ok v x
 | [], _, _, i, v, h=>by simp at h
 | v :: vs, x :: xs, h, 0, u, hu=>by simp at hu; subst hu; exact ⟨x, rfl, h.1⟩
 | v :: vs, x :: xs, h, i + 1, u, hu=>by simp at hu ⊢; exact VRL.get h.2 hu
 | _ :: _, [], h, _, _, _=>h.elim
theorem VRL.append:∀ {vs ws:List V} {xs ys:List Value}, VRL ι ok vs xs->VRL ι ok ws ys->VRL ι ok (vs ++ ws) (xs ++ ys)
 | [], _, [], _, _, h=>h
 | _ :: _, _, _ :: _, _, h, g=>⟨h.1, VRL.append h.2 g⟩
 | [], _, _ :: _, _, h, _=>h.elim
 | _ :: _, _, [], _, h, _=>h.elim
theorem VRL.drop:∀ {vs:List V} {xs:List Value} (n:Nat), VRL ι ok vs xs->VRL ι ok (vs.drop n) (xs.drop n)
 | _, _, 0, h=>h
 | [], [], _ + 1, _=>trivial
 | _ :: _, _ :: _, n + 1, h=>VRL.drop n h.2
 | [], _ :: _, _ + 1, h=>h.elim
 | _ :: _, [], _ + 1, h=>h.elim
theorem VRL.take:∀ {vs:List V} {xs:List Value} (n:Nat), VRL ι ok vs xs->VRL ι ok (vs.take n) (xs.take n)
 | _, _, 0, _=>by simp [VRL]
 | [], [], _ + 1, _=>trivial
 | _ :: _, _ :: _, n + 1, h=>⟨h.1, VRL.take n h.2⟩
 | [], _ :: _, _ + 1, h=>h.elim
 | _ :: _, [], _ + 1, h=>h.elim
theorem VRL.over {cs vs:List V} {xs ys:List Value} (off:Nat) (h:VRL ι ok cs xs) (g:VRL ι ok vs ys) :
  VRL ι ok (over cs off vs) (xs.take off ++ (ys ++ xs.drop (off + ys.length))):=by
 unfold Ab.over
 rw [← g.length]
 exact (h.take off).append (g.append (h.drop _))
theorem VRL.of_get:∀ {vs:List V} {xs:List Value}, vs.length = xs.length->(∀ (i:Nat) (v:V), vs[i]? = some v->∃ x:Value, xs[i]? = some x ∧ VR ι ok v x)->VRL ι ok vs xs
 | [], [], _, _=>trivial
 | v :: vs, x :: xs, hl, h=>by
  refine ⟨?_, VRL.of_get (by simpa using hl) fun i v hv=>?_⟩
  ·obtain ⟨y, hy, hr⟩:=h 0 v rfl
   simp at hy; subst hy; exact hr
  ·obtain ⟨y, hy, hr⟩:=h (i + 1) v (by simpa using hv)
   exact ⟨y, by simpa using hy, hr⟩
 | [], _ :: _, hl, _=>by simp at hl
 | _ :: _, [], hl, _=>by simp at hl
theorem VR.oneCell {v:V} {x:Value} (hv:oneV v = true) (h:VR ι ok v x):x.oneCell' = true:=by
 cases v with
 | undef=>simp [oneV] at hv
 | agg _=>simp [oneV] at hv
 | tuple _=>simp [oneV] at hv
 | ptr a=>cases a with
  | none=>rw [show x = _ from h]; rfl
  | some a=>rw [h.2]; rfl
 | map r=>cases r with
  | none=>rw [show x = _ from h]; rfl
  | some a=>rw [h.2]; rfl
 | slice s=>
  unfold VR SlR at h
  split at h
  ·rw [h.2]; rfl
  ·obtain ⟨_, b, c, hx, _⟩:=h
   rw [hx]; rfl
 | str s=>obtain ⟨b, rfl, _⟩:=h; rfl
 | func _ _ _=>obtain ⟨_, _, rfl, _⟩:=h; rfl
 | iface _ _=>obtain ⟨_, rfl, _⟩:=h; rfl
 | bool _=>rw [show x = _ from h]; rfl
 | int _ _=>rw [show x = _ from h]; rfl
 | nilFunc=>rw [show x = _ from h]; rfl
 | nilIface=>rw [show x = _ from h]; rfl
theorem VR.cells {v:V} {x:Value} (hv:v.cells.all oneV = true) (h:VR ι ok v x):VRL ι ok v.cells x.cells.toList:=by
 by_cases ha:∃ cs, v = .agg cs
 ·obtain ⟨cs, rfl⟩:=ha
  obtain ⟨a, rfl, ha⟩:=h
  exact ha
 ·have hc:v.cells = [v]:=by cases v <;> first | rfl | exact absurd ⟨_, rfl⟩ ha
  rw [hc] at hv ⊢
  have h1:oneV v = true:=by simpa using hv
  have h2:=h.oneCell h1
  have:x.cells = #[x]:=by cases x <;> first | rfl | simp [Value.oneCell'] at h2
  rw [this]
  exact ⟨h, trivial⟩
end
def zcu (ces:Array MapEntry) (clock:Nat):Prop:=clock = ces.size ∧ ∀ (i:Nat) (e:MapEntry), ces[i]? = some e->e.born = i
def ItR (ι:Io) (ok:Nat->Prop) (w:World) (p:Pl):It->Prop
 | .map m n seen last=>∃ sn:Array Nat, w.heap[p.cb]? = some (.mapIter (m.map fun r=>(ι r).cb) n sn n) ∧ (∀ r, m = some r->ok r) ∧ (∀ i, sn.contains i = seen.testBit i) ∧ (seen ≠ 0->sn.back? = some last)
 | .str s pos=>∃ b:ByteArray, w.heap[p.cb]? = some (.stringIter b pos) ∧ b.data.toList = s
def BlkR (ι:Io) (ok:Nat->Prop) (base:Nat) (w:World) (p:Pl):Blk->Prop
 | .cells cs own=>∃ (arr:Array Value) (elem:TypeId) (lo hi:Nat), w.heap[p.cb]? = some (.cells arr elem (lo, hi)) ∧ p.sh + cs.length≤arr.size ∧
   VRL ι ok cs ((arr.toList.drop p.sh).take cs.length) ∧ cs.all oneV = true ∧
   (own = true->base≤p.cb ∧ p.sh + p.tot = arr.size ∧ (lo = hi ∨ arr.size≤lo)) ∧ (own = false->p.cb < base)
 | .cellsT t full cs=>∃ arr:Array Value, w.heap[p.cb]? = some (.cells arr t (0, 0)) ∧ p.sh = 0 ∧ p.tot = arr.size ∧ (cs.length≤arr.size ∧ (full = true->arr.size = cs.length)) ∧ VRL ι ok cs (arr.toList.take cs.length) ∧ cs.all oneV = true ∧ base≤p.cb
 | .map es=>∃ (ces:Array MapEntry) (clock:Nat), w.heap[p.cb]? = some (.map ces clock) ∧ base≤p.cb ∧
   VRL ι ok (es.map (·.1)) (ces.toList.map (·.key)) ∧ VRL ι ok (es.map (·.2)) (ces.toList.map (·.val)) ∧ zcu ces clock
 | .iter x=>p.sh = 0 ∧ base≤p.cb ∧ ItR ι ok w p x
def Blk.own:Blk->Bool
 | .cells _ b=>b
 | .cellsT _ _ _=>true
 | .map _=>true
 | .iter _=>true
structure HR (T:Tab) (base:Nat) (w0:World) (X:Nat->Prop) (ι:Io) (h:H) (w:World):Prop where
 size:base≤w.heap.size
 old:∀ b, b < base->w.heap[b]? = w0.heap[b]?
 dom:∀ i b, h.get i = some b->i < h.next
 blk:∀ i b, ¬ X i->h.get i = some b->BlkR ι (fun i=>i < h.next ∧ ¬ X i) base w (ι i) b
 inj:∀ i j b c, ¬ X i->¬ X j->h.get i = some b->h.get j = some c->b.own = true->c.own = true->(ι i).cb = (ι j).cb->i = j
 glob:∀ g i, T.glob g = some i->i < h.next ∧ ¬ X i ∧ (ι i).cb = g ∧ (ι i).sh = 0
 env:w.os = w0.os ∧ w.tape = w0.tape ∧ w.output = w0.output
structure Went (X:Nat->Prop) (ι:Io) (h:H) (w:World) (ι':Io) (h':H) (w':World):Prop where
 ext:∀ i, i < h.next->ι' i = ι i
 next:h.next≤h'.next
 out:∀ i, X i->h'.get i = h.get i
 size:w.heap.size≤w'.heap.size
 kept:∀ b, b < w.heap.size->(∀ i c, ¬ X i->h.get i = some c->c.own = true->(ι i).cb ≠ b)->w'.heap[b]? = w.heap[b]?
 org:∀ i c, ¬ X i->h'.get i = some c->c.own = true->w.heap.size≤(ι' i).cb ∨ ∃ j d, ¬ X j ∧ h.get j = some d ∧ d.own = true ∧ (ι j).cb = (ι' i).cb
theorem Went.refl (X:Nat->Prop) (ι:Io) (h:H) (w:World):Went X ι h w ι h w:=
 ⟨fun _ _=>rfl, Nat.le_refl _, fun _ _=>rfl, Nat.le_refl _, fun _ _ _=>rfl, fun i c hx hc ho=>.inr ⟨i, c, hx, hc, ho, rfl⟩⟩
theorem Went.trans {X:Nat->Prop} {ι ι₁ ι₂:Io} {h h₁ h₂:H} {w w₁ w₂:World} (a:Went X ι h w ι₁ h₁ w₁) (b:Went X ι₁ h₁ w₁ ι₂ h₂ w₂) :
  Went X ι h w ι₂ h₂ w₂:=by
 refine ⟨fun i hi=>?_, Nat.le_trans a.next b.next, fun i hx=>?_, Nat.le_trans a.size b.size, fun c hc hn=>?_, fun i c hx hc ho=>?_⟩
 ·rw [b.ext i (Nat.lt_of_lt_of_le hi a.next), a.ext i hi]
 ·rw [b.out i hx, a.out i hx]
 ·rw [b.kept c (Nat.lt_of_lt_of_le hc a.size) ?_, a.kept c hc hn]
  intro i d hx hd ho he
  rcases a.org i d hx hd ho with hge | ⟨j, e, hj, he', ho', hcb⟩
  ·omega
  ·exact hn j e hj he' ho' (by rw [hcb, he])
 ·rcases b.org i c hx hc ho with hge | ⟨j, e, hj, he', ho', hcb⟩
  ·exact .inl (Nat.le_trans a.size hge)
  ·rcases a.org j e hj he' ho' with hge | ⟨l, f, hl, hf, hof, hcb'⟩
   ·exact .inl (by rw [← hcb]; exact hge)
   ·exact .inr ⟨l, f, hl, hf, hof, by rw [hcb', hcb]⟩
section
variable {T:Tab} {base:Nat} {w0:World} {X:Nat->Prop} {ι:Io} {h:H} {w:World}
def HR.ok (_:HR T base w0 X ι h w):Nat->Prop:=fun i=>i < h.next ∧ ¬ X i
theorem HR.row (R:HR T base w0 X ι h w) {a:Ad} {n:Nat} {cs:List V} (ha:¬ X a.id) (hc:h.row a n = some cs) :
  ∃ (arr:Array Value) (elem:TypeId) (fr:Nat × Nat), w.heap[(ι a.id).cb]? = some (.cells arr elem fr) ∧ (ι a.id).sh + a.off + n≤arr.size ∧
   VRL ι (fun i=>i < h.next ∧ ¬ X i) cs ((arr.toList.drop ((ι a.id).sh + a.off)).take n) ∧ cs.all oneV = true ∧ cs.length = n:=by
 unfold H.row at hc
 split at hc
 ·rename_i bs own hb
  cases hle:Nat.ble (a.off + n) bs.length with
  | false=>rw [hle] at hc; simp at hc
  | true=>
   rw [hle] at hc
   have hle':a.off + n≤bs.length:=Nat.le_of_ble_eq_true hle
   simp only [cond_true, Option.some.injEq] at hc
   subst hc
   obtain ⟨arr, elem, lo, hi, harr, hsz, hv, hone, _⟩:=R.blk a.id _ ha hb
   refine ⟨arr, elem, (lo, hi), harr, by omega, ?_, ?_, by simp; omega⟩
   ·have h1:=(hv.drop a.off).take n
    rw [List.drop_take, List.take_take, List.drop_drop] at h1
    rw [show min n (bs.length - a.off) = n by omega] at h1
    exact h1
   ·rw [List.all_eq_true] at hone ⊢
    intro v hv
    exact hone v (List.mem_of_mem_drop (List.mem_of_mem_take hv))
 ·cases hc
theorem HR.cell (R:HR T base w0 X ι h w) {a:Ad} {v:V} (ha:¬ X a.id) (hc:h.cell a = some v) :
  ∃ x, w.cell? (a.to ι) = some x ∧ VR ι (fun i=>i < h.next ∧ ¬ X i) v x ∧ oneV v = true:=by
 unfold H.cell at hc
 split at hc
 ·rename_i cs own hb
  obtain ⟨arr, elem, lo, hi, harr, hsz, hv, hone, _⟩:=R.blk a.id _ ha hb
  obtain ⟨x, hx, hr⟩:=hv.get hc
  refine ⟨x, ?_, hr, ?_⟩
  ·have hlt:a.off < cs.length:=by
    rcases Nat.lt_or_ge a.off cs.length with h | h
    ·exact h
    ·rw [List.getElem?_eq_none h] at hc; cases hc
   rw [List.getElem?_take_of_lt hlt, List.getElem?_drop] at hx
   simp only [World.cell?, Ad.to, harr, Option.isSome_none, Bool.false_eq_true, if_false]
   rw [← Array.getElem?_toList]; exact hx
  ·rw [List.all_eq_true] at hone
   exact hone v (List.mem_of_getElem? hc)
 ·rename_i t full cs hb
  obtain ⟨arr, harr, hsh, htot, hsz, hv, hone, hbase⟩:=R.blk a.id _ ha hb
  obtain ⟨x, hx, hr⟩:=hv.get hc
  have hlt:a.off < cs.length:=by
   rcases Nat.lt_or_ge a.off cs.length with h | h
   ·exact h
   ·rw [List.getElem?_eq_none h] at hc; cases hc
  rw [List.getElem?_take_of_lt hlt] at hx
  refine ⟨x, ?_, hr, ?_⟩
  ·simp only [World.cell?, Ad.to, harr, Option.isSome_none, Bool.false_eq_true, if_false, hsh, Nat.zero_add]
   rw [← Array.getElem?_toList]; exact hx
  ·rw [List.all_eq_true] at hone
   exact hone v (List.mem_of_getElem? hc)
 ·cases hc
end
end Go.Ab
namespace Go.Ab
section
variable {T:Tab} {base:Nat} {w0:World} {X:Nat->Prop} {ι:Io} {h:H} {w:World}
theorem zab {i j:Nat} (h:i ≠ j):Nat.beq i j = false:=by
 cases hb:Nat.beq i j
 ·rfl
 ·exact absurd (Nat.eq_of_beq_eq_true hb) h
theorem yg (o:Obj) (b:Nat):(w.alloc o).heap[b]? = if b = w.heap.size then some o else w.heap[b]?:=by
 simp only [World.alloc, Array.getElem?_push]
theorem BlkR.mono {ι':Io} {ok ok':Nat->Prop} {w':World} {p:Pl} {b:Blk} (hι:∀ i, ok i->ι' i = ι i) (hok:∀ i, ok i->ok' i)
  (hw:w'.heap[p.cb]? = w.heap[p.cb]?) (hb:BlkR ι ok base w p b):BlkR ι' ok' base w' p b:=by
 cases b with
 | cells cs own=>
  obtain ⟨arr, elem, lo, hi, h1, h2, h3, h4, h5⟩:=hb
  exact ⟨arr, elem, lo, hi, by rw [hw]; exact h1, h2, h3.mono hι hok, h4, h5⟩
 | cellsT t full cs=>
  obtain ⟨arr, h1, h2, h3, h4, h5, h6⟩:=hb
  exact ⟨arr, by rw [hw]; exact h1, h2, h3, h4, h5.mono hι hok, h6⟩
 | map es=>
  obtain ⟨ces, clock, h1, h2, h3, h4, h5⟩:=hb
  exact ⟨ces, clock, by rw [hw]; exact h1, h2, h3.mono hι hok, h4.mono hι hok, h5⟩
 | iter x=>
  obtain ⟨h1, h2, h3⟩:=hb
  refine ⟨h1, h2, ?_⟩
  cases x with
  | map m n seen last=>
   obtain ⟨sn, g1, g2, g3⟩:=h3
   refine ⟨sn, ?_, fun r hr=>hok r (g2 r hr), g3⟩
   rw [hw, g1]
   cases m with
   | none=>rfl
   | some r=>simp only [Option.map_some, hι r (g2 r rfl)]
  | str s pos=>
   obtain ⟨b, g1, g2⟩:=h3
   exact ⟨b, by rw [hw]; exact g1, g2⟩
theorem BlkR.lt {ok:Nat->Prop} {p:Pl} {b:Blk} (hb:BlkR ι ok base w p b):p.cb < w.heap.size:=by
 have:∃ o, w.heap[p.cb]? = some o:=by
  cases b with
  | cells cs own=>obtain ⟨arr, elem, lo, hi, h1, _⟩:=hb; exact ⟨_, h1⟩
  | cellsT t full cs=>obtain ⟨arr, h1, _⟩:=hb; exact ⟨_, h1⟩
  | map es=>obtain ⟨ces, clock, h1, _⟩:=hb; exact ⟨_, h1⟩
  | iter x=>
   obtain ⟨_, _, h3⟩:=hb
   cases x with
   | map m n seen last=>obtain ⟨_, g1, _⟩:=h3; exact ⟨_, g1⟩
   | str s pos=>obtain ⟨_, g1, _⟩:=h3; exact ⟨_, g1⟩
 obtain ⟨o, ho⟩:=this
 rcases Nat.lt_or_ge p.cb w.heap.size with h | h
 ·exact h
 ·rw [Array.getElem?_eq_none h] at ho; cases ho
def Io.set (ι:Io) (i:Nat) (p:Pl):Io:=fun j=>if j = i then p else ι j
theorem HR.push (R:HR T base w0 X ι h w) (hX:∀ i, X i->i < h.next) {o:Obj} {b:Blk} {p:Pl} (hp:p.cb = w.heap.size)
  (hb:BlkR (ι.set h.next p) (fun i=>i < h.next + 1 ∧ ¬ X i) base (w.alloc o) p b) :
  HR T base w0 X (ι.set h.next p) (h.push b) (w.alloc o) ∧ Went X ι h w (ι.set h.next p) (h.push b) (w.alloc o):=by
 have hext:∀ i, i < h.next->(ι.set h.next p) i = ι i:=fun i hi=>by simp [Io.set, Nat.ne_of_lt hi]
 have hget:∀ i c, (h.push b).get i = some c->(i = h.next ∧ c = b) ∨ (i ≠ h.next ∧ h.get i = some c):=by
  intro i c hc
  by_cases he:i = h.next
  ·subst he; rw [je] at hc; exact .inl ⟨rfl, (Option.some.inj hc).symm⟩
  ·rw [yb h b he] at hc; exact .inr ⟨he, hc⟩
 have hxn:¬ X h.next:=fun hx=>absurd (hX _ hx) (Nat.lt_irrefl _)
 refine ⟨⟨?_, ?_, ?_, ?_, ?_, ?_, R.env⟩, ⟨hext, by simp [H.push], ?_, by simp, ?_, ?_⟩⟩
 ·have:=R.size; simp; omega
 ·intro c hc
  have:=R.size
  rw [yg, if_neg (by omega)]; exact R.old c hc
 ·intro i c hc
  rcases hget i c hc with ⟨rfl, _⟩ | ⟨_, hg⟩
  ·simp [H.push]
  ·have:=R.dom i c hg; simp [H.push]; omega
 ·intro i c hx hc
  rcases hget i c hc with ⟨rfl, rfl⟩ | ⟨_, hg⟩
  ·have:(ι.set h.next p) h.next = p:=by simp [Io.set]
   rw [this]; exact hb
  ·have hlt:=R.dom i c hg
   rw [hext i hlt]
   have hbk:=R.blk i c hx hg
   refine hbk.mono (fun j hj=>hext j hj.1) (fun j hj=>⟨by simp [H.push]; omega, hj.2⟩) ?_
   rw [yg, if_neg (Nat.ne_of_lt hbk.lt)]
 ·intro i j c d hxi hxj hc hd ho1 ho2 hcb
  rcases hget i c hc with ⟨rfl, rfl⟩ | ⟨hi, hg⟩ <;> rcases hget j d hd with ⟨rfl, rfl⟩ | ⟨hj, hg'⟩
  ·rfl
  ·exfalso
   have hlt:=R.dom j d hg'
   rw [hext j hlt] at hcb
   have:=(R.blk j d hxj hg').lt
   simp [Io.set, hp] at hcb; omega
  ·exfalso
   have hlt:=R.dom i c hg
   rw [hext i hlt] at hcb
   have:=(R.blk i c hxi hg).lt
   simp [Io.set, hp] at hcb; omega
  ·rw [hext i (R.dom i c hg), hext j (R.dom j d hg')] at hcb
   exact R.inj i j c d hxi hxj hg hg' ho1 ho2 hcb
 ·intro g i hg
  obtain ⟨h1, h2, h3, h4⟩:=R.glob g i hg
  exact ⟨by simp [H.push]; omega, h2, by rw [hext i h1]; exact h3, by rw [hext i h1]; exact h4⟩
 ·intro i hx
  have hlt:=hX i hx
  exact yb h b (Nat.ne_of_lt hlt)
 ·intro c hc _
  rw [yg, if_neg (Nat.ne_of_lt hc)]
 ·intro i c hx hc ho
  rcases hget i c hc with ⟨rfl, rfl⟩ | ⟨_, hg⟩
  ·left; simp [Io.set, hp]
  ·right; exact ⟨i, c, hx, hg, ho, by rw [hext i (R.dom i c hg)]⟩
theorem HR.pushRow (R:HR T base w0 X ι h w) (hX:∀ i, X i->i < h.next) {cs:List V} {arr:Array Value} {elem:TypeId}
  (hv:VRL ι (fun i=>i < h.next ∧ ¬ X i) cs (arr.toList.take cs.length)) (hsz:cs.length≤arr.size) (hone:cs.all oneV = true) :
  HR T base w0 X (ι.set h.next ⟨w.heap.size, 0, arr.size⟩) (h.push (.cells cs true)) (w.alloc (.cells arr elem)) ∧
   Went X ι h w (ι.set h.next ⟨w.heap.size, 0, arr.size⟩) (h.push (.cells cs true)) (w.alloc (.cells arr elem)):=by
 refine R.push hX rfl ⟨arr, elem, 0, 0, by rw [yg, if_pos rfl], by simpa using hsz, ?_, hone, fun _=>⟨R.size, by simp, .inl rfl⟩, fun h=>by cases h⟩
 simp only [List.drop_zero]
 exact hv.mono (fun i hi=>by simp [Io.set, Nat.ne_of_lt hi.1]) (fun i hi=>⟨by omega, hi.2⟩)
theorem zae (a:Addr) (v:Value) (b:Nat):(w.setCell a v).heap[b]? =
  if b = a.block then (w.heap[b]?).map (fun o=>match o with
   | .cells c elem frozen=>.cells (if a.spot.isSome then c else c.setIfInBounds a.off v) elem frozen
   | o=>o) else w.heap[b]?:=by
 simp only [World.setCell, Array.getElem?_modify]
 split
 ·rename_i h; rw [if_pos h.symm]; cases w.heap[b]? <;> rfl
 ·rename_i h; rw [if_neg (fun e=>h e.symm)]
theorem HR.setCell (R:HR T base w0 X ι h w) {a:Ad} {v:V} {x:Value} {h':H} (ha:¬ X a.id) (hv:VR ι (fun i=>i < h.next ∧ ¬ X i) v x)
  (hs:h.setCell a v = some h') :
  (∃ y, w.cell? (a.to ι) = some y) ∧ w.frozen? (a.to ι) = false ∧ x.oneCell' = true ∧
   HR T base w0 X ι h' (w.setCell (a.to ι) x) ∧ Went X ι h w ι h' (w.setCell (a.to ι) x):=by
 unfold H.setCell at hs
 split at hs
 ·rename_i cs hb
  cases hc:(oneV v && Nat.blt a.off cs.length) with
  | false=>rw [hc] at hs; simp at hs
  | true=>
   rw [hc] at hs
   simp only [cond_true, Option.some.injEq] at hs
   rw [Bool.and_eq_true] at hc
   obtain ⟨hone, hlt'⟩:=hc
   have hlt:a.off < cs.length:=Nat.lt_of_succ_le (Nat.le_of_ble_eq_true hlt')
   obtain ⟨arr, elem, lo, hi, harr, hsz, hvs, hall, hown, _⟩:=R.blk a.id _ ha hb
   obtain ⟨hbase, htot, hfr⟩:=hown rfl
   have hin:(ι a.id).sh + a.off < arr.size:=by omega
   have hcell:w.cell? (a.to ι) = some arr[(ι a.id).sh + a.off]:=by
    simp [World.cell?, Ad.to, harr, hin]
   have hnext:h'.next = h.next:=by rw [← hs]; rfl
   have hget:∀ i c, h'.get i = some c->(i = a.id ∧ c = .cells (cs.set a.off v) true) ∨ (i ≠ a.id ∧ h.get i = some c):=by
    intro i c hc
    rw [← hs] at hc
    by_cases he:i = a.id
    ·subst he; rw [zh] at hc; exact .inl ⟨rfl, (Option.some.inj hc).symm⟩
    ·rw [zo h _ he] at hc; exact .inr ⟨he, hc⟩
   have hother:∀ b, b ≠ (ι a.id).cb->(w.setCell (a.to ι) x).heap[b]? = w.heap[b]?:=by
    intro b hb; rw [zae, if_neg (by simpa [Ad.to] using hb)]
   have hsame:(w.setCell (a.to ι) x).heap[(ι a.id).cb]? = some (.cells (arr.setIfInBounds ((ι a.id).sh + a.off) x) elem (lo, hi)):=by
    rw [zae, if_pos (by simp [Ad.to]), harr]; simp [Ad.to]
   refine ⟨⟨_, hcell⟩, ?_, hv.oneCell hone, ⟨?_, ?_, ?_, ?_, ?_, ?_, R.env⟩, ⟨fun _ _=>rfl, by rw [hnext]; exact Nat.le_refl _, ?_, by simp, ?_, ?_⟩⟩
   ·simp only [World.frozen?, Ad.to, harr]
    have:¬ (lo≤(ι a.id).sh + a.off ∧ (ι a.id).sh + a.off < hi):=by omega
    rw [Bool.and_eq_false_iff]
    by_cases h1:lo≤(ι a.id).sh + a.off
    ·exact .inr (decide_eq_false fun h2=>this ⟨h1, h2⟩)
    ·exact .inl (decide_eq_false h1)
   ·simpa using R.size
   ·intro b hlt; rw [hother b (by omega)]; exact R.old b hlt
   ·intro i c hc
    rw [hnext]
    rcases hget i c hc with ⟨rfl, _⟩ | ⟨_, hg⟩
    ·exact R.dom _ _ hb
    ·exact R.dom i c hg
   ·intro i c hx hc
    rcases hget i c hc with ⟨rfl, rfl⟩ | ⟨hi', hg⟩
    ·refine ⟨_, elem, lo, hi, hsame, by simpa using hsz, ?_, ?_, fun _=>⟨hbase, by simpa using htot, by simpa using hfr⟩, fun h=>by cases h⟩
     ·rw [hnext]
      refine VRL.of_get (by simp; omega) ?_
      intro i u hu
      rw [List.getElem?_set] at hu
      simp only [List.length_set]
      have hilt:i < cs.length:=by
       rcases Nat.lt_or_ge i cs.length with h1 | h1
       ·exact h1
       ·rw [if_neg (by omega), List.getElem?_eq_none h1] at hu; cases hu
      rw [List.getElem?_take_of_lt hilt, List.getElem?_drop]
      simp only [Array.getElem?_toList, Array.getElem?_setIfInBounds]
      by_cases he:a.off = i
      ·subst he
       rw [if_pos rfl, if_pos hlt] at hu
       cases hu
       exact ⟨x, by simp [hin], hv⟩
      ·rw [if_neg he] at hu
       obtain ⟨y, hy, hr⟩:=hvs.get hu
       rw [List.getElem?_take_of_lt hilt, List.getElem?_drop, Array.getElem?_toList] at hy
       exact ⟨y, by rw [if_neg (by omega)]; exact hy, hr⟩
     ·rw [List.all_eq_true] at hall ⊢
      intro u hu
      rcases List.mem_or_eq_of_mem_set hu with h1 | h1
      ·exact hall u h1
      ·rw [h1]; exact hone
    ·have hbk:=R.blk i c hx hg
     by_cases hcb:(ι i).cb = (ι a.id).cb
     ·-- then it is no block of the run's own: it lies below 'base', or is a map
      cases c with
      | cells cs' own=>
       cases own with
       | true=>exact absurd (R.inj i a.id _ _ hx ha hg hb rfl rfl hcb) hi'
       | false=>
        obtain ⟨_, _, _, _, _, _, _, _, _, hf⟩:=hbk
        have:=hf rfl
        omega
      | cellsT _ _ _=>exact absurd (R.inj i a.id _ _ hx ha hg hb rfl rfl hcb) hi'
      | map es=>exact absurd (R.inj i a.id _ _ hx ha hg hb rfl rfl hcb) hi'
      | iter es=>exact absurd (R.inj i a.id _ _ hx ha hg hb rfl rfl hcb) hi'
     ·rw [hnext]
      exact hbk.mono (fun _ _=>rfl) (fun _ hj=>hj) (hother _ hcb)
   ·intro i j c d hxi hxj hc hd ho1 ho2 hcb
    rcases hget i c hc with ⟨rfl, rfl⟩ | ⟨hi', hg⟩ <;> rcases hget j d hd with ⟨rfl, rfl⟩ | ⟨hj', hg'⟩
    ·rfl
    ·exact R.inj _ _ _ _ hxi hxj hb hg' rfl ho2 hcb
    ·exact R.inj _ _ _ _ hxi hxj hg hb ho1 rfl hcb
    ·exact R.inj i j c d hxi hxj hg hg' ho1 ho2 hcb
   ·intro g i hg; rw [hnext]; exact R.glob g i hg
   ·intro i hx
    rw [← hs]
    exact zo h _ fun e=>ha (e ▸ hx)
   ·intro b _ hn
    exact hother b (fun e=>hn a.id _ ha hb rfl e.symm)
   ·intro i c hx hc ho
    rcases hget i c hc with ⟨rfl, rfl⟩ | ⟨_, hg⟩
    ·exact .inr ⟨a.id, _, ha, hb, rfl, rfl⟩
    ·exact .inr ⟨i, c, hx, hg, ho, rfl⟩
 ·rename_i t full cs hb
  cases hc:(oneV v && Nat.blt a.off cs.length) with
  | false=>rw [hc] at hs; simp at hs
  | true=>
   rw [hc] at hs
   simp only [cond_true, Option.some.injEq] at hs
   rw [Bool.and_eq_true] at hc
   obtain ⟨hone, hlt'⟩:=hc
   have hlt:a.off < cs.length:=Nat.lt_of_succ_le (Nat.le_of_ble_eq_true hlt')
   obtain ⟨arr, harr, hsh, htot, hsz, hvs, hall, hbase⟩:=R.blk a.id _ ha hb
   have hin:(ι a.id).sh + a.off < arr.size:=by omega
   have hcell:w.cell? (a.to ι) = some arr[(ι a.id).sh + a.off]:=by
    simp [World.cell?, Ad.to, harr, hin]
   have hnext:h'.next = h.next:=by rw [← hs]; rfl
   have hget:∀ i c, h'.get i = some c->(i = a.id ∧ c = .cellsT t full (cs.set a.off v)) ∨ (i ≠ a.id ∧ h.get i = some c):=by
    intro i c hc
    rw [← hs] at hc
    by_cases he:i = a.id
    ·subst he; rw [zh] at hc; exact .inl ⟨rfl, (Option.some.inj hc).symm⟩
    ·rw [zo h _ he] at hc; exact .inr ⟨he, hc⟩
   have hother:∀ b, b ≠ (ι a.id).cb->(w.setCell (a.to ι) x).heap[b]? = w.heap[b]?:=by
    intro b hb; rw [zae, if_neg (by simpa [Ad.to] using hb)]
   have hsame:(w.setCell (a.to ι) x).heap[(ι a.id).cb]? = some (.cells (arr.setIfInBounds ((ι a.id).sh + a.off) x) t (0, 0)):=by
    rw [zae, if_pos (by simp [Ad.to]), harr]; simp [Ad.to]
   refine ⟨⟨_, hcell⟩, ?_, hv.oneCell hone, ⟨?_, ?_, ?_, ?_, ?_, ?_, R.env⟩, ⟨fun _ _=>rfl, by rw [hnext]; exact Nat.le_refl _, ?_, by simp, ?_, ?_⟩⟩
   ·simp [World.frozen?, Ad.to, harr]
   ·simpa using R.size
   ·intro b hlt; rw [hother b (by omega)]; exact R.old b hlt
   ·intro i c hc
    rw [hnext]
    rcases hget i c hc with ⟨rfl, _⟩ | ⟨_, hg⟩
    ·exact R.dom _ _ hb
    ·exact R.dom i c hg
   ·intro i c hx hc
    rcases hget i c hc with ⟨rfl, rfl⟩ | ⟨hi', hg⟩
    ·refine ⟨_, hsame, hsh, by simpa using htot, by simpa using hsz, ?_, ?_, hbase⟩
     ·rw [hnext]
      refine VRL.of_get (by simp; omega) ?_
      intro i u hu
      rw [List.getElem?_set] at hu
      have hilt:i < cs.length:=by
       rcases Nat.lt_or_ge i cs.length with h1 | h1
       ·exact h1
       ·rw [if_neg (by omega), List.getElem?_eq_none h1] at hu; cases hu
      simp only [hsh, Nat.zero_add, List.length_set]
      by_cases he:a.off = i
      ·subst he
       rw [if_pos rfl, if_pos hlt] at hu
       cases hu
       exact ⟨x, by rw [List.getElem?_take_of_lt (by simpa using hlt)]; simp [show a.off < arr.size by omega], hv⟩
      ·rw [if_neg he] at hu
       obtain ⟨y, hy, hr⟩:=hvs.get hu
       rw [List.getElem?_take_of_lt hilt] at hy
       exact ⟨y, by rw [List.getElem?_take_of_lt hilt]; simp only [Array.getElem?_toList, Array.getElem?_setIfInBounds, if_neg he]; rw [← Array.getElem?_toList]; exact hy, hr⟩
     ·rw [List.all_eq_true] at hall ⊢
      intro u hu
      rcases List.mem_or_eq_of_mem_set hu with h1 | h1
      ·exact hall u h1
      ·rw [h1]; exact hone
    ·have hbk:=R.blk i c hx hg
     by_cases hcb:(ι i).cb = (ι a.id).cb
     ·-- then it is no block of the run's own: it lies below 'base', or is a map
      cases c with
      | cells cs' own=>
       cases own with
       | true=>exact absurd (R.inj i a.id _ _ hx ha hg hb rfl rfl hcb) hi'
       | false=>
        obtain ⟨_, _, _, _, _, _, _, _, _, hf⟩:=hbk
        have:=hf rfl
        omega
      | cellsT _ _ _=>exact absurd (R.inj i a.id _ _ hx ha hg hb rfl rfl hcb) hi'
      | map es=>exact absurd (R.inj i a.id _ _ hx ha hg hb rfl rfl hcb) hi'
      | iter es=>exact absurd (R.inj i a.id _ _ hx ha hg hb rfl rfl hcb) hi'
     ·rw [hnext]
      exact hbk.mono (fun _ _=>rfl) (fun _ hj=>hj) (hother _ hcb)
   ·intro i j c d hxi hxj hc hd ho1 ho2 hcb
    rcases hget i c hc with ⟨rfl, rfl⟩ | ⟨hi', hg⟩ <;> rcases hget j d hd with ⟨rfl, rfl⟩ | ⟨hj', hg'⟩
    ·rfl
    ·exact R.inj _ _ _ _ hxi hxj hb hg' rfl ho2 hcb
    ·exact R.inj _ _ _ _ hxi hxj hg hb ho1 rfl hcb
    ·exact R.inj i j c d hxi hxj hg hg' ho1 ho2 hcb
   ·intro g i hg; rw [hnext]; exact R.glob g i hg
   ·intro i hx
    rw [← hs]
    exact zo h _ fun e=>ha (e ▸ hx)
   ·intro b _ hn
    exact hother b (fun e=>hn a.id _ ha hb rfl e.symm)
   ·intro i c hx hc ho
    rcases hget i c hc with ⟨rfl, rfl⟩ | ⟨_, hg⟩
    ·exact .inr ⟨a.id, _, ha, hb, rfl, rfl⟩
    ·exact .inr ⟨i, c, hx, hg, ho, rfl⟩
 ·cases hs
theorem zbl (ι:Io) (a:Ad) (n:Nat):(a.to ι).add n = (a.add n).to ι:=by
 unfold Addr.add
 split
 ·rename_i h; subst h; simp [Ad.to, Ad.add]
 ·simp [Ad.to, Ad.add, Nat.add_assoc]
noncomputable def H.setL (h:H) (a:Ad):Nat->List V->Option H
 | _, []=>some h
 | i, v :: vs=>match h.setCell (a.add i) v with | some h'=>H.setL h' a (i + 1) vs | none=>none
theorem stL_eq {α:Type} (a:Ad) (K:M α):∀ (vs:List V) (i:Nat) (h:H), stL a i vs K h = match h.setL a i vs with | some h'=>K h' | none=>none
 | [], _, _=>rfl
 | v :: vs, i, h=>by
  simp only [stL, st1, H.setL]
  cases h.setCell (a.add i) v with
  | none=>rfl
  | some h'=>exact stL_eq a K vs (i + 1) h'
theorem zfw {h h':H} {a:Ad} {v:V} (hs:h.setCell a v = some h'):oneV v = true ∧ ∃ b, h' = h.put a.id (some b):=by
 unfold H.setCell at hs
 split at hs
 ·rename_i cs hb
  cases hc:(oneV v && Nat.blt a.off cs.length) with
  | false=>rw [hc] at hs; simp at hs
  | true=>
   rw [hc] at hs
   simp only [cond_true, Option.some.injEq] at hs
   rw [Bool.and_eq_true] at hc
   exact ⟨hc.1, _, hs.symm⟩
 ·rename_i t full cs hb
  cases hc:(oneV v && Nat.blt a.off cs.length) with
  | false=>rw [hc] at hs; simp at hs
  | true=>
   rw [hc] at hs
   simp only [cond_true, Option.some.injEq] at hs
   rw [Bool.and_eq_true] at hc
   exact ⟨hc.1, _, hs.symm⟩
 ·cases hs
theorem HR.stores (P:Program) {a:Ad} (ha:¬ X a.id):∀ (vs:List V) (xs:List Value) (i:Nat) (h h':H) (w:World), HR T base w0 X ι h w ->
  VRL ι (fun i=>i < h.next ∧ ¬ X i) vs xs->h.setL a i vs = some h' ->
  ∃ w', (storeCells (a.to ι) xs i).run P w = .ok () w' ∧ HR T base w0 X ι h' w' ∧ Went X ι h w ι h' w' ∧ w'.heap.size = w.heap.size
 | [], [], i, h, h', w, R, _, hs=>by
  simp only [H.setL, Option.some.injEq] at hs
  subst hs
  exact ⟨w, rfl, R, Went.refl X ι h w, rfl⟩
 | v :: vs, x :: xs, i, h, h', w, R, hv, hs=>by
  simp only [H.setL] at hs
  cases hc:h.setCell (a.add i) v with
  | none=>rw [hc] at hs; cases hs
  | some h1=>
   rw [hc] at hs
   obtain ⟨⟨y, hy⟩, hfr, hone, R1, W1⟩:=R.setCell (a:=a.add i) ha hv.1 hc
   have hn:h1.next = h.next:=by
    obtain ⟨_, _, rfl⟩:=zfw hc
    rfl
   obtain ⟨w', hrun, R2, W2, hz⟩:=HR.stores P ha vs xs (i + 1) h1 h' _ R1 (by rw [hn]; exact hv.2) hs
   refine ⟨w', ?_, R2, W1.trans W2, by rw [hz]; simp⟩
   unfold storeCells
   simp only [Sem.run_bind, zbl]
   rw [run_store P w _ _ _ hone, hy]
   simp only [hfr, Bool.false_eq_true, if_false, Result.andThen_ok]
   exact hrun
 | [], _ :: _, _, _, _, _, _, hv, _=>hv.elim
 | _ :: _, [], _, _, _, _, _, hv, _=>hv.elim
theorem over_cons (cs:List V) (off:Nat) (v:V) (vs:List V) (h:off < cs.length):over cs off (v :: vs) = over (cs.set off v) (off + 1) vs:=by
 have hl:(cs.take off).length = off:=by simp; omega
 have e:cs.set off v = cs.take off ++ v :: cs.drop (off + 1):=by rw [List.set_eq_take_append_cons_drop, if_pos h]
 have e1:(cs.take off ++ v :: cs.drop (off + 1)).take (off + 1) = cs.take off ++ [v]:=by
  have:=List.take_length_add_append (l₁:=cs.take off) (l₂:=v :: cs.drop (off + 1)) (i:=1)
  rw [hl] at this; rw [this]; rfl
 have e2:(cs.take off ++ v :: cs.drop (off + 1)).drop (off + 1 + vs.length) = cs.drop (off + 1 + vs.length):=by
  have:=List.drop_length_add_append (l₁:=cs.take off) (l₂:=v :: cs.drop (off + 1)) (i:=1 + vs.length)
  rw [hl] at this; rw [Nat.add_assoc, this, Nat.add_comm 1, List.drop_succ_cons, List.drop_drop]; congr 1; omega
 unfold over
 rw [e, e1, e2, List.append_assoc, List.length_cons, show off + (vs.length + 1) = off + 1 + vs.length by omega]
 rfl
theorem zda {h h':H} {a:Ad} {vs:List V} (hs:h.setRow a vs = some h'):∃ cs, h.get a.id = some (.cells cs true) ∧ a.off + vs.length≤cs.length ∧
  h' = h.put a.id (some (.cells (over cs a.off vs) true)):=by
 unfold H.setRow at hs
 split at hs
 ·rename_i cs hb
  cases hc:Nat.ble (a.off + vs.length) cs.length with
  | false=>rw [hc] at hs; simp at hs
  | true=>
   rw [hc] at hs
   simp only [cond_true, Option.some.injEq] at hs
   exact ⟨cs, hb, Nat.le_of_ble_eq_true hc, hs.symm⟩
 ·cases hs
theorem setRow_mk {h:H} {a:Ad} {vs cs:List V} (hb:h.get a.id = some (.cells cs true)) (hl:a.off + vs.length≤cs.length) :
  h.setRow a vs = some (h.put a.id (some (.cells (over cs a.off vs) true))):=by
 unfold H.setRow
 rw [hb]
 simp only [show Nat.ble (a.off + vs.length) cs.length = true from Nat.ble_eq_true_of_le hl, cond_true]
theorem zfq:∀ (vs:List V) (i:Nat) (h h':H) (a:Ad), vs.all oneV = true->h.setRow (a.add i) vs = some h'->h.setL a i vs = some h'
 | [], i, h, h', a, _, hs=>by
  obtain ⟨cs, hb, hl, rfl⟩:=zda hs
  simp only [over, List.length_nil, Nat.add_zero, List.nil_append, List.take_append_drop, H.setL]
  have:h.put (a.add i).id (some (.cells cs true)) = h:=put_same h hb
  rw [this]
 | v :: vs, i, h, h', a, hv, hs=>by
  obtain ⟨cs, hb, hl, rfl⟩:=zda hs
  simp only [List.all_cons, Bool.and_eq_true] at hv
  simp only [List.length_cons] at hl
  have hlt:(a.add i).off < cs.length:=by omega
  have hc:h.setCell (a.add i) v = some (h.put a.id (some (.cells (cs.set (a.add i).off v) true))):=by
   unfold H.setCell
   rw [hb]
   simp only [hv.1, Bool.true_and, show Nat.blt (a.add i).off cs.length = true from Nat.ble_eq_true_of_le hlt, cond_true]
   rfl
  simp only [H.setL, hc]
  apply zfq vs (i + 1) _ _ a hv.2
  refine (setRow_mk (a:=a.add (i + 1)) (cs:=cs.set (a.add i).off v) (zh h a.id _) (by simp [Ad.add] at hl ⊢; omega)).trans ?_
  rw [over_cons cs _ v vs hlt]
  show some ((h.put a.id _).put a.id _) = some (h.put a.id _)
  rw [jg]
  rfl
theorem HR.setRow (R:HR T base w0 X ι h w) (P:Program) {a:Ad} {vs:List V} {xs:List Value} {h':H} (ha:¬ X a.id) (hv:VRL ι (fun i=>i < h.next ∧ ¬ X i) vs xs)
  (hone:vs.all oneV = true) (hs:h.setRow a vs = some h') :
  ∃ w', (storeCells (a.to ι) xs).run P w = .ok () w' ∧ HR T base w0 X ι h' w' ∧ Went X ι h w ι h' w' ∧ w'.heap.size = w.heap.size:=
 HR.stores P ha vs xs 0 h h' w R hv (zfq vs 0 h h' a hone hs)
theorem HR.kill (R:HR T base w0 X ι h w) {i:Nat} (hx:¬ X i):HR T base w0 X ι (h.put i none) w ∧ Went X ι h w ι (h.put i none) w:=by
 have hget:∀ j c, (h.put i none).get j = some c->h.get j = some c:=by
  intro j c hc
  by_cases he:j = i
  ·subst he; rw [zh] at hc; cases hc
  ·rwa [zo h none he] at hc
 refine ⟨⟨R.size, R.old, fun j c hc=>R.dom j c (hget j c hc), fun j c hxj hc=>R.blk j c hxj (hget j c hc),
  fun j l c d hj hl hc hd=>R.inj j l c d hj hl (hget j c hc) (hget l d hd), R.glob, R.env⟩,
  ⟨fun _ _=>rfl, Nat.le_refl _, fun j hj=>zo h none (fun e=>hx (e ▸ hj)), Nat.le_refl _, fun _ _ _=>rfl,
   fun j c hxj hc ho=>.inr ⟨j, c, hxj, hget j c hc, ho, rfl⟩⟩⟩
theorem zan (P:Program) {cb:Nat} {elem:TypeId} {lo hi:Nat}:∀ (xs:List Value) (off i:Nat) (w:World) (arr:Array Value),
  w.heap[cb]? = some (.cells arr elem (lo, hi))->off + i + xs.length≤arr.size->(∀ j, off + i≤j->j < off + i + xs.length->¬ (lo≤j ∧ j < hi)) ->
  (∀ x, x ∈ xs->x.oneCell' = true) ->
  ∃ (w':World) (arr':Array Value), (storeCells ⟨cb, off, none⟩ xs i).run P w = .ok () w' ∧ w'.heap[cb]? = some (.cells arr' elem (lo, hi)) ∧
   arr'.size = arr.size ∧ (∀ j, arr'[j]? = if off + i≤j ∧ j < off + i + xs.length then xs[j - (off + i)]? else arr[j]?) ∧
   (∀ b, b ≠ cb->w'.heap[b]? = w.heap[b]?) ∧ w'.heap.size = w.heap.size ∧ w'.os = w.os ∧ w'.tape = w.tape ∧ w'.output = w.output
 | [], off, i, w, arr, harr, _, _, _=>⟨w, arr, rfl, harr, rfl, fun j=>by rw [if_neg (by simp only [List.length_nil]; omega)], fun _ _=>rfl, rfl, rfl, rfl, rfl⟩
 | x :: xs, off, i, w, arr, harr, hin, hfr, hone=>by
  simp only [List.length_cons] at hin hfr
  have hlt:off + i < arr.size:=by omega
  have ea:(⟨cb, off, none⟩:Addr).add i = ⟨cb, off + i, none⟩:=by
   unfold Addr.add
   by_cases h:i = 0
   ·subst h; rfl
   ·rw [if_neg h]
  have hcell:w.cell? ⟨cb, off + i, none⟩ = some arr[off + i]:=by simp [World.cell?, harr, hlt]
  have hfz:w.frozen? ⟨cb, off + i, none⟩ = false:=by
   simp only [World.frozen?, harr]
   have:=hfr (off + i) (Nat.le_refl _) (by omega)
   rw [Bool.and_eq_false_iff]
   by_cases h1:lo≤off + i
   ·exact .inr (decide_eq_false fun h2=>this ⟨h1, h2⟩)
   ·exact .inl (decide_eq_false h1)
  have hsame:(w.setCell ⟨cb, off + i, none⟩ x).heap[cb]? = some (.cells (arr.setIfInBounds (off + i) x) elem (lo, hi)):=by
   rw [zae, if_pos rfl, harr]; simp
  obtain ⟨w', arr', hrun, h1, h2, h3, h4, h5, h6⟩:=zan P xs off (i + 1) (w.setCell ⟨cb, off + i, none⟩ x) _ hsame (by simp; omega)
   (fun j h1 h2=>hfr j (by omega) (by omega)) (fun y hy=>hone y (List.mem_cons_of_mem _ hy))
  refine ⟨w', arr', ?_, h1, by rw [h2]; simp, fun j=>?_, fun b hb=>?_, by rw [h5]; simp, h6.1, h6.2.1, h6.2.2⟩
  ·unfold storeCells
   simp only [Sem.run_bind, ea]
   rw [run_store P w _ _ _ (hone x (List.mem_cons_self ..)), hcell]
   simp only [hfz, Bool.false_eq_true, if_false, Result.andThen_ok]
   exact hrun
  ·rw [h3 j, Array.getElem?_setIfInBounds]
   simp only [List.length_cons]
   by_cases hj:off + i = j
   ·subst hj
    rw [if_neg (by omega), if_pos rfl, if_pos (by omega)]
    simp
   ·by_cases h6:off + (i + 1)≤j ∧ j < off + (i + 1) + xs.length
    ·rw [if_pos h6, if_pos (by omega)]
     obtain ⟨d, hd⟩:∃ d, j - (off + i) = d + 1:=⟨j - (off + i) - 1, by omega⟩
     rw [hd, List.getElem?_cons_succ]
     congr 1; omega
    ·rw [if_neg h6, if_neg hj, if_neg (by omega)]
  ·rw [h4 b hb, zae, if_neg hb]
theorem HR.grow (R:HR T base w0 X ι h w) (hX:∀ i, X i->i < h.next) (P:Program) {a:Ad} {n:Nat} {old more:List V} {xs:List Value} (ha:¬ X a.id)
  (hown:h.own a.id = true) (hrow:h.row a n = some old) (hv:VRL ι (fun i=>i < h.next ∧ ¬ X i) more xs) (hone:more.all oneV = true)
  (htot:a.off + n + more.length≤(ι a.id).tot) :
  ∃ w', (storeCells ((a.add n).to ι) xs).run P w = .ok () w' ∧
   HR T base w0 X (ι.set h.next ⟨(ι a.id).cb, (ι a.id).sh + a.off, (ι a.id).tot - a.off⟩) ((h.put a.id none).push (.cells (old ++ more) true)) w' ∧
   Went X ι h w (ι.set h.next ⟨(ι a.id).cb, (ι a.id).sh + a.off, (ι a.id).tot - a.off⟩) ((h.put a.id none).push (.cells (old ++ more) true)) w':=by
 obtain ⟨arr0, elem0, fr0, harr0, hsz0, hold, holdone, holdlen⟩:=R.row ha hrow
 obtain ⟨cs, hb⟩:∃ cs, h.get a.id = some (.cells cs true):=by
  unfold H.own at hown
  split at hown
  ·rename_i cs b hb; subst hown; exact ⟨cs, hb⟩
  ·cases hown
 obtain ⟨arr, elem, lo, hi, harr, hsz, hvs, hall, hown', _⟩:=R.blk a.id _ ha hb
 obtain ⟨hbase, htt, hfr⟩:=hown' rfl
 obtain ⟨rfl, rfl, rfl⟩:arr = arr0 ∧ elem = elem0 ∧ (lo, hi) = fr0:=by
  have:=harr.symm.trans harr0
  simpa using this
 have hlen:=hv.length
 obtain ⟨w', arr', hrun, g1, g2, g3, g4, g5, g6⟩:=zan P xs ((ι a.id).sh + (a.off + n)) 0 w arr harr (by omega) (fun j h1 h2=>by omega)
  (by
   intro x hx
   obtain ⟨i, hi⟩:=List.mem_iff_getElem?.1 hx
   have hil:i < more.length:=by
    rw [hlen]
    rcases Nat.lt_or_ge i xs.length with h1 | h1
    ·exact h1
    ·rw [List.getElem?_eq_none h1] at hi; cases hi
   obtain ⟨y, hy, hr⟩:=hv.get (List.getElem?_eq_getElem hil)
   rw [hi] at hy; cases hy
   exact hr.oneCell (List.all_eq_true.1 hone _ (List.getElem_mem hil)))
 have hext:∀ i, i < h.next->(ι.set h.next ⟨(ι a.id).cb, (ι a.id).sh + a.off, (ι a.id).tot - a.off⟩) i = ι i:=fun i hi=>by simp [Io.set, Nat.ne_of_lt hi]
 have hget:∀ i c, ((h.put a.id none).push (.cells (old ++ more) true)).get i = some c ->
   (i = h.next ∧ c = .cells (old ++ more) true) ∨ (i ≠ h.next ∧ i ≠ a.id ∧ h.get i = some c):=by
  intro i c hc
  by_cases he:i = h.next
  ·subst he
   have:=(je (h.put a.id none) (.cells (old ++ more) true)).symm.trans hc
   exact .inl ⟨rfl, (Option.some.inj this).symm⟩
  ·rw [yb (h.put a.id none) _ he] at hc
   by_cases he':i = a.id
   ·subst he'; rw [zh] at hc; cases hc
   ·rw [zo h none he'] at hc; exact .inr ⟨he, he', hc⟩
 have hnx:((h.put a.id none).push (.cells (old ++ more) true)).next = h.next + 1:=rfl
 have hothercb:∀ i c, ¬ X i->h.get i = some c->i ≠ a.id->(ι i).cb ≠ (ι a.id).cb:=by
  intro i c hxi hg hne hcb
  cases c with
  | cells cs' own=>
   cases own with
   | true=>exact hne (R.inj i a.id _ _ hxi ha hg hb rfl rfl hcb)
   | false=>
    obtain ⟨_, _, _, _, _, _, _, _, _, hf⟩:=R.blk i _ hxi hg
    have:=hf rfl
    omega
  | cellsT _ _ _=>exact hne (R.inj i a.id _ _ hxi ha hg hb rfl rfl hcb)
  | map es=>exact hne (R.inj i a.id _ _ hxi ha hg hb rfl rfl hcb)
  | iter es=>exact hne (R.inj i a.id _ _ hxi ha hg hb rfl rfl hcb)
 refine ⟨w', ?_, ⟨?_, ?_, ?_, ?_, ?_, ?_, by rw [g6.1, g6.2.1, g6.2.2]; exact R.env⟩, ⟨hext, by rw [hnx]; omega, ?_, by rw [g5]; exact Nat.le_refl _, ?_, ?_⟩⟩
 ·exact hrun
 ·rw [g5]; exact R.size
 ·intro b hlt; rw [g4 b (by omega)]; exact R.old b hlt
 ·intro i c hc
  rw [hnx]
  rcases hget i c hc with ⟨rfl, _⟩ | ⟨_, _, hg⟩
  ·omega
  ·have:=R.dom i c hg; omega
 ·intro i c hxi hc
  rw [hnx]
  rcases hget i c hc with ⟨rfl, rfl⟩ | ⟨_, hne, hg⟩
  ·have e:(ι.set h.next ⟨(ι a.id).cb, (ι a.id).sh + a.off, (ι a.id).tot - a.off⟩) h.next = ⟨(ι a.id).cb, (ι a.id).sh + a.off, (ι a.id).tot - a.off⟩:=by simp [Io.set]
   rw [e]
   refine ⟨arr', elem, lo, hi, g1, by simp [holdlen]; omega, ?_, by rw [List.all_append, holdone, hone]; rfl, fun _=>⟨hbase, by simp; omega, by omega⟩, fun hf=>by cases hf⟩
   refine VRL.mono (ok:=fun i=>i < h.next ∧ ¬ X i) (fun i hi=>hext i hi.1) (fun i hi=>⟨by omega, hi.2⟩) ?_
   have e2:(arr'.toList.drop ((ι a.id).sh + a.off)).take (old ++ more).length = (arr.toList.drop ((ι a.id).sh + a.off)).take n ++ xs:=by
    apply List.ext_getElem?
    intro j
    simp only [List.getElem?_take, List.getElem?_drop, List.getElem?_append, List.length_take, List.length_drop, List.length_append, Array.getElem?_toList, g3, holdlen, Array.length_toList]
    rw [show min n (arr.size - ((ι a.id).sh + a.off)) = n by omega]
    by_cases h1:j < n
    ·rw [if_pos (by omega), if_neg (by omega), if_pos h1, if_pos h1]
    ·rw [if_neg h1]
     by_cases h2:j < n + more.length
     ·rw [if_pos h2, if_pos (by omega)]
      congr 1; omega
     ·rw [if_neg h2, List.getElem?_eq_none (by omega)]
   rw [e2]
   exact hold.append hv
  ·rw [hext i (R.dom i c hg)]
   refine (R.blk i c hxi hg).mono (fun j hj=>hext j hj.1) (fun j hj=>⟨by omega, hj.2⟩) (g4 _ (hothercb i c hxi hg hne))
 ·intro i j c d hxi hxj hc hd ho1 ho2 hcb
  rcases hget i c hc with ⟨rfl, rfl⟩ | ⟨hi1, hi2, hg⟩ <;> rcases hget j d hd with ⟨rfl, rfl⟩ | ⟨hj1, hj2, hg'⟩
  ·rfl
  ·exfalso
   rw [hext j (R.dom j d hg')] at hcb
   exact hothercb j d hxj hg' hj2 (by rw [← hcb]; simp [Io.set])
  ·exfalso
   rw [hext i (R.dom i c hg)] at hcb
   exact hothercb i c hxi hg hi2 (by rw [hcb]; simp [Io.set])
  ·rw [hext i (R.dom i c hg), hext j (R.dom j d hg')] at hcb
   exact R.inj i j c d hxi hxj hg hg' ho1 ho2 hcb
 ·intro g i hg
  obtain ⟨h1, h2, h3, h4⟩:=R.glob g i hg
  exact ⟨by rw [hnx]; omega, h2, by rw [hext i h1]; exact h3, by rw [hext i h1]; exact h4⟩
 ·intro i hxi
  have h1:=hX i hxi
  have h2:i ≠ a.id:=fun e=>ha (e ▸ hxi)
  exact (yb (h.put a.id none) _ (by show i ≠ h.next; omega)).trans (zo h none h2)
 ·intro b _ hn
  exact g4 b (fun e=>hn a.id _ ha hb rfl e.symm)
 ·intro i c hxi hc ho
  rcases hget i c hc with ⟨rfl, rfl⟩ | ⟨_, _, hg⟩
  ·right; exact ⟨a.id, _, ha, hb, rfl, by simp [Io.set]⟩
  ·right; exact ⟨i, c, hxi, hg, ho, by rw [hext i (R.dom i c hg)]⟩
theorem HR.setBlk (R:HR T base w0 X ι h w) {r:Nat} {b b':Blk} {o:Obj} (ha:¬ X r) (hb:h.get r = some b) (ho:b.own = true) (hbase:base≤(ι r).cb)
  (hb':BlkR ι (fun i=>i < h.next ∧ ¬ X i) base { w with heap:=w.heap.setIfInBounds (ι r).cb o } (ι r) b') :
  HR T base w0 X ι (h.put r (some b')) { w with heap:=w.heap.setIfInBounds (ι r).cb o } ∧
   Went X ι h w ι (h.put r (some b')) { w with heap:=w.heap.setIfInBounds (ι r).cb o }:=by
 have hother:∀ b, b ≠ (ι r).cb->(w.heap.setIfInBounds (ι r).cb o)[b]? = w.heap[b]?:=by
  intro b hb; rw [Array.getElem?_setIfInBounds, if_neg (fun e=>hb e.symm)]
 have hget:∀ i c, (h.put r (some b')).get i = some c->(i = r ∧ c = b') ∨ (i ≠ r ∧ h.get i = some c):=by
  intro i c hc
  by_cases he:i = r
  ·subst he; rw [zh] at hc; exact .inl ⟨rfl, (Option.some.inj hc).symm⟩
  ·rw [zo h _ he] at hc; exact .inr ⟨he, hc⟩
 refine ⟨⟨by simpa using R.size, fun b hlt=>?_, fun i c hc=>?_, fun i c hx hc=>?_, fun i j c d hxi hxj hc hd ho1 ho2 hcb=>?_, R.glob, R.env⟩,
  ⟨fun _ _=>rfl, Nat.le_refl _, fun i hx=>zo h _ (fun e=>ha (e ▸ hx)), by simp, fun b _ hn=>?_, fun i c hx hc ho=>?_⟩⟩
 ·show (w.heap.setIfInBounds (ι r).cb o)[b]? = _
  rw [hother b (by omega)]; exact R.old b hlt
 ·rcases hget i c hc with ⟨rfl, _⟩ | ⟨_, hg⟩
  ·exact R.dom _ _ hb
  ·exact R.dom i c hg
 ·rcases hget i c hc with ⟨rfl, rfl⟩ | ⟨hne, hg⟩
  ·exact hb'
  ·refine (R.blk i c hx hg).mono (fun _ _=>rfl) (fun _ hj=>hj) (hother _ fun hcb=>?_)
   cases c with
   | cells cs own=>
    cases own with
    | true=>exact hne (R.inj i r _ _ hx ha hg hb rfl ho hcb)
    | false=>
     obtain ⟨_, _, _, _, _, _, _, _, _, hf⟩:=R.blk i _ hx hg
     have:=hf rfl
     omega
   | cellsT _ _ _=>exact hne (R.inj i r _ _ hx ha hg hb rfl ho hcb)
   | map _=>exact hne (R.inj i r _ _ hx ha hg hb rfl ho hcb)
   | iter _=>exact hne (R.inj i r _ _ hx ha hg hb rfl ho hcb)
 ·rcases hget i c hc with ⟨rfl, rfl⟩ | ⟨_, hg⟩ <;> rcases hget j d hd with ⟨rfl, rfl⟩ | ⟨_, hg'⟩
  ·rfl
  ·exact R.inj _ _ _ _ hxi hxj hb hg' ho ho2 hcb
  ·exact R.inj _ _ _ _ hxi hxj hg hb ho1 ho hcb
  ·exact R.inj i j c d hxi hxj hg hg' ho1 ho2 hcb
 ·exact hother b (fun e=>hn r _ ha hb ho e.symm)
 ·rcases hget i c hc with ⟨rfl, rfl⟩ | ⟨_, hg⟩
  ·exact .inr ⟨_, _, ha, hb, by assumption, rfl⟩
  ·exact .inr ⟨i, c, hx, hg, by assumption, rfl⟩
theorem HR.forget (R:HR T base w0 X ι h w) {r:Nat} (ha:¬ X r):HR T base w0 X ι (h.put r none) w ∧ Went X ι h w ι (h.put r none) w:=by
 have hget:∀ i c, (h.put r none).get i = some c->h.get i = some c:=by
  intro i c hc
  by_cases he:i = r
  ·subst he; rw [zh] at hc; cases hc
  ·rw [zo h _ he] at hc; exact hc
 exact ⟨⟨R.size, R.old, fun i c hc=>R.dom i c (hget i c hc), fun i c hx hc=>(R.blk i c hx (hget i c hc)).mono (fun _ _=>rfl) (fun _ hj=>hj) rfl, fun i j c d hxi hxj hc hd=>R.inj i j c d hxi hxj (hget i c hc) (hget j d hd), R.glob, R.env⟩,
  ⟨fun _ _=>rfl, Nat.le_refl _, fun i hx=>zo h _ (fun e=>ha (e ▸ hx)), Nat.le_refl _, fun _ _ _=>rfl, fun i c hx hc ho=>.inr ⟨i, c, hx, hget i c hc, ho, rfl⟩⟩⟩
theorem HR.setMap (R:HR T base w0 X ι h w) {r:Nat} {es es':List (V × V)} {ces:Array MapEntry} {clock:Nat} (ha:¬ X r) (hb:h.get r = some (.map es)) (hs:zcu ces clock)
  (hk:VRL ι (fun i=>i < h.next ∧ ¬ X i) (es'.map (·.1)) (ces.toList.map (·.key))) (hv:VRL ι (fun i=>i < h.next ∧ ¬ X i) (es'.map (·.2)) (ces.toList.map (·.val))) :
  HR T base w0 X ι (h.put r (some (.map es'))) { w with heap:=w.heap.setIfInBounds (ι r).cb (.map ces clock) } ∧
   Went X ι h w ι (h.put r (some (.map es'))) { w with heap:=w.heap.setIfInBounds (ι r).cb (.map ces clock) }:=by
 have hbk:=R.blk r _ ha hb
 have hlt:=hbk.lt
 obtain ⟨ces0, clock0, hm, hbase, _, _⟩:=hbk
 exact R.setBlk ha hb rfl hbase ⟨ces, clock, by simp [hlt], hbase, hk, hv, hs⟩
theorem HR.drew (R:HR T base w0 X ι h w):HR T base w0 X ι h w.drew:=⟨R.size, R.old, R.dom, R.blk, R.inj, R.glob, R.env⟩
theorem Went.drew (X:Nat->Prop) (ι:Io) (h:H) (w:World):Went X ι h w ι h w.drew:=
 ⟨fun _ _=>rfl, Nat.le_refl _, fun _ _=>rfl, Nat.le_refl _, fun _ _ _=>rfl, fun i c hx hc ho=>.inr ⟨i, c, hx, hc, ho, rfl⟩⟩
end
end Go.Ab
