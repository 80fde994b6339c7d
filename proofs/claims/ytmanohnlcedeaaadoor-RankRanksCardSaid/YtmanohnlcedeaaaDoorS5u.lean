import Derived.Test.YtmanohnlcedeaaaDoorS5nr
import Derived.Lib.TrailingZeros
set_option linter.unusedVariables false
set_option linter.unusedSimpArgs false
namespace Go.Ab.S5
def loA:Tr->Nat->List Nat
 | .leaf _ _ _, b=>[b]
 | .un _ _ _ a, b=>loA a b ++ [b]
 | .bin _ _ _ a c, b=>loA a b ++ (loA c (b + a.size) ++ [b])
theorem zbf:∀ (t:Tr) (b:Nat), (loA t b).length = t.size
 | .leaf _ _ _, _=>rfl
 | .un _ _ _ a, b=>by simp [loA, Tr.size, zbf a]
 | .bin _ _ _ a c, b=>by simp [loA, Tr.size, zbf a, zbf c]; omega
inductive At (r:Tr):Tr->Nat->Anc->Int->Prop where
 | root:At r r 0 [] (-1)
 | un {k s p a b A q}:At r (.un k s p a) b A q->At r a b ((b + a.size, (Tr.un k s p a).node b) :: A) ((b + a.size:Nat):Int)
 | left {k s p a c b A q}:At r (.bin k s p a c) b A q->At r a b ((b + a.size + c.size, (Tr.bin k s p a c).node b) :: A) ((b + a.size + c.size:Nat):Int)
 | right {k s p a c b A q}:At r (.bin k s p a c) b A q->At r c (b + a.size) ((b + a.size + c.size, (Tr.bin k s p a c).node b) :: A) ((b + a.size + c.size:Nat):Int)
def zkx:Tr->Anc->Int
 | .leaf k s p, A=>yp k s A
 | _, _=>-1
def Seg {β:Type} (l:List β) (b:Nat) (m:List β):Prop:=∀ i x, m[i]? = some x->l[b + i]? = some x
theorem Seg.fst {β:Type} {l m n:List β} {b:Nat} (s:Seg l b (m ++ n)):Seg l b m:=fun i x h=>s i x (by
 rw [List.getElem?_append_left]; exact h
 exact (List.getElem?_eq_some_iff.1 h).1)
theorem Seg.snd {β:Type} {l m n:List β} {b c:Nat} (s:Seg l b (m ++ n)) (hc:c = b + m.length):Seg l c n:=fun i x h=>by
 have:=s (m.length + i) x (by rw [List.getElem?_append_right (by omega), Nat.add_sub_cancel_left]; exact h)
 rw [hc, Nat.add_assoc]; exact this
theorem Seg.hd {β:Type} {l:List β} {b:Nat} {x:β} (s:Seg l b [x]):l[b]? = some x:=s 0 x rfl
section
variable {r t:Tr} {b:Nat} {A:Anc} {q:Int}
theorem At.seg (h:At r t b A q):Seg (r.flat 0) b (t.flat b) ∧ Seg (upA r 0 (-1)) b (upA t b q) ∧ Seg (toA r 0 []) b (toA t b A) ∧ Seg (loA r 0) b (loA t b) ∧ b + t.size≤r.size:=by
 induction h with
 | root=>exact ⟨fun i x h=>by rw [Nat.zero_add]; exact h, fun i x h=>by rw [Nat.zero_add]; exact h, fun i x h=>by rw [Nat.zero_add]; exact h, fun i x h=>by rw [Nat.zero_add]; exact h, by omega⟩
 | un _ ih=>
  obtain ⟨h1, h2, h3, h4, h5⟩:=ih
  simp only [Tr.flat, upA, toA, loA, Tr.size] at h1 h2 h3 h4 h5
  exact ⟨h1.fst, h2.fst, h3.fst, h4.fst, by omega⟩
 | left _ ih=>
  obtain ⟨h1, h2, h3, h4, h5⟩:=ih
  simp only [Tr.flat, upA, toA, loA, Tr.size] at h1 h2 h3 h4 h5
  exact ⟨h1.fst, h2.fst, h3.fst, h4.fst, by omega⟩
 | right _ ih=>
  obtain ⟨h1, h2, h3, h4, h5⟩:=ih
  simp only [Tr.flat, upA, toA, loA, Tr.size] at h1 h2 h3 h4 h5
  exact ⟨(h1.snd (by rw [ze])).fst, (h2.snd (by rw [je])).fst, (h3.snd (by rw [jo])).fst, (h4.snd (by rw [zbf])).fst, by omega⟩
theorem At.last (h:At r t b A q):(r.flat 0)[b + t.size - 1]? = some (t.node b) ∧ (upA r 0 (-1))[b + t.size - 1]? = some q ∧ (loA r 0)[b + t.size - 1]? = some b ∧
  (toA r 0 [])[b + t.size - 1]? = some (zkx t A):=by
 obtain ⟨h1, h2, h3, h4, h5⟩:=h.seg
 cases t with
 | leaf k s p=>
  simp only [Tr.flat, upA, toA, loA, Tr.size] at h1 h2 h3 h4 h5 ⊢
  exact ⟨h1.hd, h2.hd, h4.hd, h3.hd⟩
 | un k s p a=>
  simp only [Tr.flat, upA, toA, loA, Tr.size] at h1 h2 h3 h4 h5 ⊢
  rw [show b + (a.size + 1) - 1 = b + a.size by omega]
  exact ⟨(h1.snd (by rw [ze])).hd, (h2.snd (by rw [je])).hd, (h4.snd (by rw [zbf])).hd, (h3.snd (by rw [jo])).hd⟩
 | bin k s p a c=>
  simp only [Tr.flat, upA, toA, loA, Tr.size] at h1 h2 h3 h4 h5 ⊢
  rw [show b + (a.size + c.size + 1) - 1 = b + a.size + c.size by omega]
  exact ⟨((h1.snd (by rw [ze])).snd (by rw [ze])).hd, ((h2.snd (by rw [je])).snd (by rw [je])).hd, ((h4.snd (by rw [zbf])).snd (by rw [zbf])).hd, ((h3.snd (by rw [jo])).snd (by rw [jo])).hd⟩
theorem At.lastAt (h:At r t b A q) {i:Nat} (hi:b + t.size = i + 1):(r.flat 0)[i]? = some (t.node b) ∧ (loA r 0)[i]? = some b:=by
 have:=h.last
 rw [show b + t.size - 1 = i by omega] at this
 exact ⟨this.1, this.2.2.1⟩
theorem At.anc (h:At r t b A q):∀ i x, (i, x) ∈ A->b + t.size≤i ∧ (r.flat 0)[i]? = some x ∧ ∃ m, (loA r 0)[i]? = some m ∧ m≤b:=by
 induction h with
 | root=>intro i x h; cases h
 | @un k s p a b A q h ih=>
  intro i x hm
  have hl:=h.lastAt (i:=b + a.size) (by simp only [Tr.size]; omega)
  simp only [Tr.size] at ih ⊢
  rcases List.mem_cons.1 hm with e | hm
  ·cases e
   exact ⟨Nat.le_refl _, hl.1, _, hl.2, Nat.le_refl _⟩
  ·obtain ⟨h1, h2, m, h3, h4⟩:=ih i x hm
   exact ⟨by omega, h2, m, h3, h4⟩
 | @left k s p a c b A q h ih=>
  intro i x hm
  have hl:=h.lastAt (i:=b + a.size + c.size) (by simp only [Tr.size]; omega)
  simp only [Tr.size] at ih ⊢
  rcases List.mem_cons.1 hm with e | hm
  ·cases e
   exact ⟨by omega, hl.1, _, hl.2, Nat.le_refl _⟩
  ·obtain ⟨h1, h2, m, h3, h4⟩:=ih i x hm
   exact ⟨by omega, h2, m, h3, h4⟩
 | @right k s p a c b A q h ih=>
  intro i x hm
  have hl:=h.lastAt (i:=b + a.size + c.size) (by simp only [Tr.size]; omega)
  simp only [Tr.size] at ih ⊢
  rcases List.mem_cons.1 hm with e | hm
  ·cases e
   exact ⟨by omega, hl.1, _, hl.2, by omega⟩
  ·obtain ⟨h1, h2, m, h3, h4⟩:=ih i x hm
   exact ⟨by omega, h2, m, h3, by omega⟩
theorem At.inside:∀ {t:Tr} {b:Nat} {A:Anc} {q:Int}, At r t b A q->∀ v, b≤v->v < b + t.size->∃ t' b' A' q', At r t' b' A' q' ∧ b' + t'.size = v + 1 ∧ b≤b' ∧ depT t'≤depT t
 | .leaf k s p, b, A, q, h, v, h1, h2=>⟨_, _, _, _, h, by simp only [Tr.size] at h2 ⊢; omega, Nat.le_refl _, Nat.le_refl _⟩
 | .un k s p a, b, A, q, h, v, h1, h2=>by
  simp only [Tr.size] at h2
  by_cases hv:v < b + a.size
  ·obtain ⟨t', b', A', q', g1, g2, g3, g4⟩:=h.un.inside v h1 hv
   exact ⟨t', b', A', q', g1, g2, g3, by have:=depT_up k s p a; omega⟩
  ·exact ⟨_, _, _, _, h, by simp only [Tr.size]; omega, Nat.le_refl _, Nat.le_refl _⟩
 | .bin k s p a c, b, A, q, h, v, h1, h2=>by
  simp only [Tr.size] at h2
  by_cases hv:v < b + a.size
  ·obtain ⟨t', b', A', q', g1, g2, g3, g4⟩:=h.left.inside v h1 hv
   exact ⟨t', b', A', q', g1, g2, g3, by simp only [depT]; omega⟩
  ·by_cases hv2:v < b + a.size + c.size
   ·obtain ⟨t', b', A', q', g1, g2, g3, g4⟩:=h.right.inside v (by omega) hv2
    exact ⟨t', b', A', q', g1, g2, by omega, by simp only [depT]; omega⟩
   ·exact ⟨_, _, _, _, h, by simp only [Tr.size]; omega, Nat.le_refl _, Nat.le_refl _⟩
theorem At.all (r:Tr) (v:Nat) (hv:v < r.size):∃ t' b' A' q', At r t' b' A' q' ∧ b' + t'.size = v + 1 ∧ depT t'≤depT r:=by
 obtain ⟨t', b', A', q', h1, h2, _, h3⟩:=(At.root (r:=r)).inside v (Nat.zero_le _) (by omega)
 exact ⟨t', b', A', q', h1, h2, h3⟩
theorem At.up (h:At r t b A q):(q = -1 ∧ b + t.size = r.size) ∨ ∃ p:Nat, q = (p:Int) ∧ b + t.size≤p ∧ p < r.size ∧ (∃ m, (loA r 0)[p]? = some m ∧ m≤b) ∧ ∀ n m, b + t.size≤n->n < p->(loA r 0)[n]? = some m->b + t.size≤m:=by
 cases h with
 | root=>left; exact ⟨rfl, by omega⟩
 | @un k s p a b A q h=>
  right
  have hl:=h.lastAt (i:=b + t.size) (by simp only [Tr.size]; omega); have hs:=h.seg.2.2.2.2
  simp only [Tr.size] at hs
  exact ⟨_, rfl, Nat.le_refl _, by omega, ⟨_, hl.2, Nat.le_refl _⟩, fun n m h1 h2=>absurd h2 (by omega)⟩
 | @left k s p a c b A q h=>
  right
  have hl:=h.lastAt (i:=b + t.size + c.size) (by simp only [Tr.size]; omega); have hs:=h.seg.2.2.2.2
  simp only [Tr.size] at hs
  refine ⟨_, rfl, by omega, by omega, ⟨_, hl.2, Nat.le_refl _⟩, fun n m h1 h2 h3=>?_⟩
  obtain ⟨t', b', A', q', g1, g2, g3, _⟩:=h.right.inside n h1 h2
  have:=(g1.lastAt (i:=n) (by omega)).2
  rw [h3] at this
  cases this
  exact g3
 | @right k s p a c b' A q h=>
  right
  have hl:=h.lastAt (i:=b' + a.size + t.size) (by simp only [Tr.size]; omega); have hs:=h.seg.2.2.2.2
  simp only [Tr.size] at hs
  exact ⟨_, rfl, by omega, by omega, ⟨_, hl.2, by omega⟩, fun n m h1 h2=>absurd h2 (by omega)⟩
end
theorem znh {s:List UInt8}:∀ {A:Anc} {i m:Nat}, zar s A = some (i, m)->∃ x, (i, x) ∈ A ∧ fixK x.kind = true ∧ x.name = s
 | [], i, m, h=>by cases h
 | (j, n) :: A, i, m, h=>by
  simp only [zar] at h
  split at h
  ·rename_i hc; cases h; exact ⟨n, List.mem_cons_self .., hc⟩
  ·obtain ⟨x, h1, h2⟩:=znh h; exact ⟨x, List.mem_cons_of_mem _ h1, h2⟩
structure Lay (N:Nat) (nd:Nat->Nd) (U T:Nat->Int) (L:Nat->Nat):Prop where
 tb:∀ i, i < N->0≤T i->∃ j:Nat, T i = (j:Int) ∧ i < j ∧ j < N ∧ fixK (nd j).kind = true ∧ L j≤i
 tn:∀ i, i < N->(nd i).kind ≠ 4->T i = -1
 ll:∀ i, i < N->L i≤i
 ar:∀ i, i < N->arF (nd i).kind = 0 ∨ arF (nd i).kind = 1 ∨ arF (nd i).kind = 2
 a0:∀ i, i < N->arF (nd i).kind = 0->L i = i
 a1:∀ i, i < N->arF (nd i).kind = 1->∃ j:Nat, i = j + 1 ∧ (nd i).a = (j:Int) ∧ L i = L j
 a2:∀ i, i < N->arF (nd i).kind = 2->∃ j c:Nat, i = j + 1 ∧ (nd i).b = (j:Int) ∧ L j = c + 1 ∧ (nd i).a = (c:Int) ∧ L i = L c
 nest:∀ n v, n < N->L n≤v->v≤n->L n≤L v
 u1:∀ i, i < N->U i = -1 ∨ ∃ p:Nat, U i = (p:Int) ∧ i < p ∧ p < N ∧ L p≤i
 u2:∀ i n, i < n->n < N->L n≤i->∃ p:Nat, U i = (p:Int) ∧ p≤n
abbrev ndF (t:Tr) (i:Nat):Nd:=(t.flat 0).getD i default
abbrev upF (t:Tr) (i:Nat):Int:=(upA t 0 (-1)).getD i (-1)
abbrev toF (t:Tr) (i:Nat):Int:=(toA t 0 []).getD i (-1)
abbrev loF (t:Tr) (i:Nat):Nat:=(loA t 0).getD i 0
theorem zda {β:Type} {l:List β} {i:Nat} {x d:β} (h:l[i]? = some x):l.getD i d = x:=by rw [List.getD_eq_getElem?_getD, h]; rfl
theorem zdq {r t:Tr} {b i:Nat} {A:Anc} {q:Int} (h:At r t b A q) (hi:b + t.size = i + 1):ndF r i = t.node b ∧ upF r i = q ∧ loF r i = b ∧ toF r i = (zkx t A) ∧ i < r.size:=by
 have:=h.last
 rw [show b + t.size - 1 = i by omega] at this
 exact ⟨zda this.1, zda this.2.1, zda this.2.2.1, zda this.2.2.2, by have:=h.seg.2.2.2.2; omega⟩
theorem zhd {r t:Tr} {b:Nat} {A:Anc} {q:Int} (h:At r t b A q) (hr:r.ok = true):t.ok = true:=by
 induction h with
 | root=>exact hr
 | un _ ih=>simp only [Tr.ok, Bool.and_eq_true] at ih; exact ih.2
 | left _ ih=>simp only [Tr.ok, Bool.and_eq_true] at ih; exact ih.1.2
 | right _ ih=>simp only [Tr.ok, Bool.and_eq_true] at ih; exact ih.2
theorem lo_some {r:Tr} {i:Nat} (hi:i < r.size):(loA r 0)[i]? = some (loF r i):=by
 have:i < (loA r 0).length:=by rw [zbf]; exact hi
 rw [List.getElem?_eq_getElem this, loF, List.getD_eq_getElem?_getD, List.getElem?_eq_getElem this]; rfl
theorem zqa (r:Tr) (hr:r.ok = true):Lay r.size (ndF r) (upF r) (toF r) (loF r):=by
 constructor
 ·intro i hi h0
  obtain ⟨t, b, A, q, h, hb, _⟩:=At.all r i hi
  obtain ⟨e1, e2, e3, e4, _⟩:=zdq h hb
  cases t with
  | un k s p a=>rw [e4] at h0; exact absurd h0 (by simp [zkx])
  | bin k s p a c=>rw [e4] at h0; exact absurd h0 (by simp [zkx])
  | leaf k s p=>
   rw [e4] at h0 ⊢
   simp only [zkx, yp] at h0 ⊢
   by_cases hk:k = 4
   ·rw [if_pos hk] at h0 ⊢
    cases hf:zar s A with
    | none=>rw [hf] at h0; exact absurd h0 (by decide)
    | some jm=>
     obtain ⟨j, m⟩:=jm
     obtain ⟨x, hx, hfx, _⟩:=znh hf
     obtain ⟨g1, g2, mm, g3, g4⟩:=h.anc j x hx
     simp only [Tr.size] at g1 hb
     have hj:j < r.size:=by have:=(List.getElem?_eq_some_iff.1 g2).1; rwa [ze] at this
     refine ⟨j, rfl, by omega, hj, ?_, ?_⟩
     ·rw [show ndF r j = x from zda g2]; exact hfx
     ·rw [show loF r j = mm from zda g3]; omega
   ·rw [if_neg hk] at h0; exact absurd h0 (by decide)
 ·intro i hi hk
  obtain ⟨t, b, A, q, h, hb, _⟩:=At.all r i hi
  obtain ⟨e1, e2, e3, e4, _⟩:=zdq h hb
  rw [e4]
  cases t with
  | un=>rfl
  | bin=>rfl
  | leaf k s p=>
   rw [e1] at hk
   simp only [Tr.node] at hk
   simp only [zkx, yp, if_neg hk]
 ·intro i hi
  obtain ⟨t, b, A, q, h, hb, _⟩:=At.all r i hi
  obtain ⟨e1, e2, e3, e4, _⟩:=zdq h hb
  have:=t.pos
  rw [e3]; omega
 ·intro i hi
  obtain ⟨t, b, A, q, h, hb, _⟩:=At.all r i hi
  obtain ⟨e1, e2, e3, e4, _⟩:=zdq h hb
  have ho:=zhd h hr
  rw [e1]
  cases t <;> simp only [Tr.ok, Bool.and_eq_true, decide_eq_true_eq] at ho <;> simp only [Tr.node]
  ·exact .inl ho.1
  ·exact .inr (.inl ho.1.1)
  ·exact .inr (.inr ho.1.1.1)
 ·intro i hi h0
  obtain ⟨t, b, A, q, h, hb, _⟩:=At.all r i hi
  obtain ⟨e1, e2, e3, e4, _⟩:=zdq h hb
  have ho:=zhd h hr
  rw [e1] at h0
  rw [e3]
  cases t <;> simp only [Tr.ok, Bool.and_eq_true, decide_eq_true_eq] at ho <;> simp only [Tr.node] at h0 <;> simp only [Tr.size] at hb
  ·omega
  ·have:=ho.1.1; omega
  ·have:=ho.1.1.1; omega
 ·intro i hi h0
  obtain ⟨t, b, A, q, h, hb, _⟩:=At.all r i hi
  obtain ⟨e1, e2, e3, e4, _⟩:=zdq h hb
  have ho:=zhd h hr
  rw [e1] at h0
  cases t <;> simp only [Tr.ok, Bool.and_eq_true, decide_eq_true_eq] at ho <;> simp only [Tr.node] at h0 <;> simp only [Tr.size] at hb
  ·have:=ho.1; omega
  ·rename_i k s p a hd
   have:=a.pos
   obtain ⟨g1, g2, g3, g4, _⟩:=zdq (i:=i - 1) h.un (by omega)
   refine ⟨i - 1, by omega, ?_, by rw [e3, g3]⟩
   rw [e1]; simp only [Tr.node]; congr 1; omega
  ·have:=ho.1.1.1; omega
 ·intro i hi h0
  obtain ⟨t, b, A, q, h, hb, _⟩:=At.all r i hi
  obtain ⟨e1, e2, e3, e4, _⟩:=zdq h hb
  have ho:=zhd h hr
  rw [e1] at h0
  cases t <;> simp only [Tr.ok, Bool.and_eq_true, decide_eq_true_eq] at ho <;> simp only [Tr.node] at h0 <;> simp only [Tr.size] at hb
  ·have:=ho.1; omega
  ·have:=ho.1.1; omega
  ·rename_i k s p a c hd
   have:=a.pos; have:=c.pos
   obtain ⟨g1, g2, g3, g4, _⟩:=zdq (i:=i - 1) h.right (by omega)
   obtain ⟨f1, f2, f3, f4, _⟩:=zdq (i:=b + a.size - 1) h.left (by omega)
   refine ⟨i - 1, b + a.size - 1, by omega, ?_, by rw [g3]; omega, ?_, by rw [e3, f3]⟩
   ·rw [e1]; simp only [Tr.node]; congr 1; omega
   ·rw [e1]; simp only [Tr.node]
 ·intro n v hn h1 h2
  obtain ⟨t, b, A, q, h, hb, _⟩:=At.all r n hn
  obtain ⟨e1, e2, e3, e4, _⟩:=zdq h hb
  rw [e3] at h1 ⊢
  obtain ⟨t', b', A', q', g, gb, g3, _⟩:=h.inside v h1 (by omega)
  rw [(zdq g gb).2.2.1]
  exact g3
 ·intro i hi
  obtain ⟨t, b, A, q, h, hb, _⟩:=At.all r i hi
  obtain ⟨e1, e2, e3, e4, _⟩:=zdq h hb
  have:=t.pos
  rw [e2]
  rcases h.up with ⟨h1, _⟩ | ⟨p, h1, h2, h3, ⟨m, h4, h5⟩, _⟩
  ·exact .inl h1
  ·refine .inr ⟨p, h1, by omega, h3, ?_⟩
   rw [show loF r p = m from zda h4]; omega
 ·intro i n h1 h2 h3
  obtain ⟨t, b, A, q, h, hb, _⟩:=At.all r i (by omega)
  obtain ⟨e1, e2, e3, e4, _⟩:=zdq h hb
  rw [e2]
  rcases h.up with ⟨g1, g2⟩ | ⟨p, g1, g2, g3, _, g4⟩
  ·omega
  ·refine ⟨p, g1, ?_⟩
   by_cases hp:p≤n
   ·exact hp
   ·have:=g4 n _ (by omega) (by omega) (lo_some h2)
    omega
end Go.Ab.S5
namespace Go.Ab.S5
def orU (g:Nat->Nat):Nat->Nat
 | 0=>0
 | n + 1=>orU g n ||| g n
theorem zpb (g:Nat->Nat) (j:Nat):∀ n, (orU g n).testBit j = true ↔ ∃ v, v < n ∧ (g v).testBit j = true
 | 0=>by simp [orU]
 | n + 1=>by
  rw [orU, Nat.testBit_or, Bool.or_eq_true, zpb g j n]
  constructor
  ·rintro (⟨v, h1, h2⟩ | h)
   ·exact ⟨v, by omega, h2⟩
   ·exact ⟨n, by omega, h⟩
  ·rintro ⟨v, h1, h2⟩
   by_cases hv:v < n
   ·exact .inl ⟨v, hv, h2⟩
   ·have:v = n:=by omega
    subst this; exact .inr h2
theorem zei {a b:Nat} (h:∀ j, a.testBit j = true ↔ b.testBit j = true):a = b:=
 Nat.eq_of_testBit_eq fun j=>by
  have:=h j
  cases ha:a.testBit j <;> cases hb:b.testBit j <;> simp_all
theorem zhx (n j:Nat):(2 ^ n).testBit j = true ↔ n = j:=by rw [Nat.testBit_two_pow]; simp
def frB (T:Nat->Int) (lo b v:Nat):Nat:=if lo≤v ∧ (b:Int) < T v then 2 ^ (T v).toNat else 0
def frF (T:Nat->Int) (L:Nat->Nat) (i:Nat):Nat:=orU (frB T (L i) i) (i + 1)
theorem zbv (T:Nat->Int) (L:Nat->Nat) (i j:Nat):(frF T L i).testBit j = true ↔ ∃ v, v≤i ∧ L i≤v ∧ T v = (j:Int) ∧ i < j:=by
 rw [frF, zpb]
 constructor
 ·rintro ⟨v, h1, h2⟩
  unfold frB at h2
  by_cases hc:L i≤v ∧ (i:Int) < T v
  ·rw [if_pos hc, zhx] at h2
   exact ⟨v, by omega, hc.1, by omega, by omega⟩
  ·rw [if_neg hc] at h2; simp at h2
 ·rintro ⟨v, h1, h2, h3, h4⟩
  refine ⟨v, by omega, ?_⟩
  unfold frB
  rw [if_pos ⟨h2, by omega⟩, zhx]
  omega
def clr (m i:Nat):Nat:=m &&& (18446744073709551615 - 2 ^ i)
theorem clr_bit {m i:Nat} (hm:m < 18446744073709551616) (hi:i < 64) (j:Nat):(clr m i).testBit j = true ↔ m.testBit j = true ∧ i ≠ j:=by
 unfold clr
 have h2:2 ^ i < 2 ^ 64:=Nat.pow_lt_pow_right (by decide) hi
 rw [Nat.testBit_and, show 18446744073709551615 - 2 ^ i = 2 ^ 64 - (2 ^ i + 1) by omega, Nat.testBit_two_pow_sub_succ h2]
 rw [Bool.and_eq_true, Bool.and_eq_true, decide_eq_true_eq, Nat.testBit_two_pow]
 constructor
 ·rintro ⟨h3, h4, h5⟩
  refine ⟨h3, ?_⟩
  simpa using h5
 ·rintro ⟨h3, h4⟩
  refine ⟨h3, ?_, by simpa using h4⟩
  by_cases hj:j < 64
  ·exact hj
  ·exfalso
   have:=Nat.testBit_lt_two_pow (x:=m) (i:=j) (Nat.lt_of_lt_of_le hm (Nat.pow_le_pow_right (n:=2) (by decide) (by omega:64≤j)))
   rw [this] at h3; cases h3
section
variable {N:Nat} {nd:Nat->Nd} {U T:Nat->Int} {L:Nat->Nat}
theorem zih (y:Lay N nd U T L) (hN:N≤60) {i:Nat} (hi:i < N):frF T L i < 18446744073709551616:=by
 refine Nat.lt_pow_two_of_testBit (n:=64) _ fun j hj=>?_
 cases hb:(frF T L i).testBit j with
 | false=>rfl
 | true=>
  obtain ⟨v, h1, h2, h3, h4⟩:=(zbv T L i j).1 hb
  obtain ⟨j', h5, h6, h7, _⟩:=y.tb v (by omega) (by omega)
  omega
theorem frF_in (y:Lay N nd U T L) {i j:Nat} (hi:i < N) (hb:(frF T L i).testBit j = true):i < j ∧ j < N ∧ fixK (nd j).kind = true ∧ L j≤i ∧ L j≤L i:=by
 obtain ⟨v, h1, h2, h3, h4⟩:=(zbv T L i j).1 hb
 obtain ⟨j', h5, h6, h7, h8, h9⟩:=y.tb v (by omega) (by omega)
 have:j' = j:=by omega
 subst this
 exact ⟨h4, h7, h8, by omega, y.nest j' i h7 (by omega) (by omega)⟩
theorem frF_var (y:Lay N nd U T L) {i:Nat} (hi:i < N) (hk:(nd i).kind = 4) (h0:0≤T i):frF T L i = 2 ^ (T i).toNat:=by
 obtain ⟨j, e, h1, h2, _⟩:=y.tb i hi h0
 have hl:=y.a0 i hi (by rw [hk]; decide)
 refine zei fun b=>?_
 rw [zbv, zhx]
 constructor
 ·rintro ⟨v, g1, g2, g3, g4⟩
  have:v = i:=by omega
  subst this; omega
 ·intro h
  exact ⟨i, Nat.le_refl _, by omega, by omega, by omega⟩
theorem frF_leaf (y:Lay N nd U T L) {i:Nat} (hi:i < N) (h0:arF (nd i).kind = 0) (hk:(nd i).kind ≠ 4):frF T L i = 0:=by
 have hl:=y.a0 i hi h0
 refine zei fun b=>?_
 rw [zbv, Nat.zero_testBit]
 constructor
 ·rintro ⟨v, g1, g2, g3, g4⟩
  have:v = i:=by omega
  subst this
  have:=y.tn v hi hk
  omega
 ·intro h; cases h
theorem zop {k:Int} (h:arF k = 1 ∨ arF k = 2):k ≠ 4:=by rintro rfl; rcases h with h | h <;> exact absurd h (by decide)
theorem frF_un (y:Lay N nd U T L) {i:Nat} (hi:i < N) (h1:arF (nd i).kind = 1) (hf:fixK (nd i).kind = false):∃ a:Nat, (nd i).a = (a:Int) ∧ a < i ∧ frF T L i = frF T L a:=by
 obtain ⟨j, rfl, e, hl⟩:=y.a1 i hi h1
 refine ⟨j, e, by omega, zei fun b=>?_⟩
 rw [zbv, zbv]
 constructor
 ·rintro ⟨v, g1, g2, g3, g4⟩
  by_cases hv:v = j + 1
  ·subst hv
   have:=y.tn _ hi (zop (.inl h1)); omega
  ·exact ⟨v, by omega, by omega, g3, by omega⟩
 ·rintro ⟨v, g1, g2, g3, g4⟩
  refine ⟨v, by omega, by omega, g3, ?_⟩
  obtain ⟨j', h5, h6, h7, h8, h9⟩:=y.tb v (by omega) (by omega)
  by_cases hb:b = j + 1
  ·subst hb
   have:j' = j + 1:=by omega
   subst this
   rw [hf] at h8; cases h8
  ·omega
theorem frF_fix (y:Lay N nd U T L) (hN:N≤60) {i:Nat} (hi:i < N) (h1:arF (nd i).kind = 1):∃ a:Nat, (nd i).a = (a:Int) ∧ a < i ∧ (fixK (nd i).kind = true->frF T L i = clr (frF T L a) i):=by
 obtain ⟨j, rfl, e, hl⟩:=y.a1 i hi h1
 refine ⟨j, e, by omega, fun hf=>zei fun b=>?_⟩
 rw [clr_bit (zih y hN (by omega)) (by omega), zbv, zbv]
 constructor
 ·rintro ⟨v, g1, g2, g3, g4⟩
  by_cases hv:v = j + 1
  ·subst hv
   have:=y.tn _ hi (zop (.inl h1)); omega
  ·exact ⟨⟨v, by omega, by omega, g3, by omega⟩, by omega⟩
 ·rintro ⟨⟨v, g1, g2, g3, g4⟩, g5⟩
  exact ⟨v, by omega, by omega, g3, by omega⟩
theorem zpq {k:Int} (h:arF k = 2):fixK k = false:=by
 rcases zkd h with rfl | rfl <;> decide
theorem frF_bin (y:Lay N nd U T L) {i:Nat} (hi:i < N) (h2:arF (nd i).kind = 2):∃ a b:Nat, (nd i).a = (a:Int) ∧ (nd i).b = (b:Int) ∧ a < i ∧ b < i ∧ frF T L i = frF T L a ||| frF T L b:=by
 obtain ⟨j, c, rfl, e1, e2, e3, hl⟩:=y.a2 i hi h2
 have hlj:=y.ll j (by omega)
 refine ⟨c, j, e3, e1, by omega, by omega, zei fun b=>?_⟩
 rw [zbv, Nat.testBit_or, Bool.or_eq_true, zbv, zbv]
 constructor
 ·rintro ⟨v, g1, g2, g3, g4⟩
  by_cases hv:v = j + 1
  ·subst hv
   have:=y.tn _ hi (zop (.inr h2)); omega
  ·by_cases hc:v≤c
   ·exact .inl ⟨v, hc, by omega, g3, by omega⟩
   ·exact .inr ⟨v, by omega, by omega, g3, by omega⟩
 ·have hn:∀ v, v≤j->T v = ((j + 1:Nat):Int)->False:=fun v hv hT=>by
   obtain ⟨j', h5, h6, h7, h8, h9⟩:=y.tb v (by omega) (by omega)
   have:j' = j + 1:=by omega
   subst this
   rw [zpq h2] at h8; cases h8
  have hlc:=y.ll c (by omega)
  rintro (⟨v, g1, g2, g3, g4⟩ | ⟨v, g1, g2, g3, g4⟩)
  ·refine ⟨v, by omega, by omega, g3, ?_⟩
   obtain ⟨j', h5, h6, h7, h8, h9⟩:=y.tb v (by omega) (by omega)
   have hb:b ≠ j + 1:=fun e=>hn v (by omega) (by rw [g3, e])
   by_cases hbj:b≤j
   ·have hnest:=y.nest j j' (by omega) (by omega) (by omega)
    omega
   ·omega
  ·refine ⟨v, by omega, by omega, g3, ?_⟩
   have hb:b ≠ j + 1:=fun e=>hn v (by omega) (by rw [g3, e])
   omega
def rfB (T:Nat->Int) (lo n v:Nat):Nat:=if 0≤T v ∧ (lo≤v ∧ v≤n) ∧ ¬ ((lo:Int)≤T v ∧ T v≤(n:Int)) then 2 ^ (T v).toNat else 0
theorem frF_ref (y:Lay N nd U T L) {n:Nat} (hn:n < N):orU (rfB T (L n) n) N = frF T L n:=by
 refine zei fun b=>?_
 rw [zpb, zbv]
 constructor
 ·rintro ⟨v, h1, h2⟩
  unfold rfB at h2
  by_cases hc:0≤T v ∧ (L n≤v ∧ v≤n) ∧ ¬ ((L n:Int)≤T v ∧ T v≤(n:Int))
  ·rw [if_pos hc, zhx] at h2
   obtain ⟨c1, c2, c3⟩:=hc
   obtain ⟨j', h5, h6, h7, h8, h9⟩:=y.tb v (by omega) (by omega)
   exact ⟨v, c2.2, c2.1, by omega, by omega⟩
  ·rw [if_neg hc] at h2; simp at h2
 ·rintro ⟨v, h1, h2, h3, h4⟩
  refine ⟨v, by omega, ?_⟩
  unfold rfB
  rw [if_pos ⟨by omega, ⟨h2, h1⟩, by omega⟩, zhx]
  omega
end
def mxU (g:Nat->Nat):Nat->Nat
 | 0=>0
 | n + 1=>max (mxU g n) (g n)
theorem zmq {g g':Nat->Nat}:∀ n, (∀ v, v < n->g v = g' v)->mxU g n = mxU g' n
 | 0, _=>rfl
 | n + 1, h=>by rw [mxU, mxU, zmq n (fun v hv=>h v (by omega)), h n (by omega)]
theorem mxU_le {g:Nat->Nat} {m:Nat}:∀ n, (∀ v, v < n->g v≤m)->mxU g n≤m
 | 0, _=>Nat.zero_le _
 | n + 1, h=>by
  have:=mxU_le n (fun v hv=>h v (by omega)); have:=h n (by omega)
  rw [mxU]; omega
def lowF (fx:Nat->Bool) (W R:Nat->Nat) (m b:Nat):Nat:=mxU (fun k=>if fx k = true ∧ (W k).testBit b = true then R k else 0) m
def adj (m o:Nat):Nat:=m + (m + o) % 2
def rkV (nd:Nat->Nd) (W:Nat->Nat) (R:List Nat) (n:Nat):Nat:=
 if fixK (nd n).kind = true then adj (lowF (fun k=>fixK (nd k).kind) W (fun k=>R.getD k 0) n n) (if (nd n).kind = 10 then 1 else 0) else 0
def rkL (nd:Nat->Nd) (W:Nat->Nat):Nat->List Nat
 | 0=>[]
 | n + 1=>rkL nd W n ++ [rkV nd W (rkL nd W n) n]
theorem zeu (nd:Nat->Nd) (W:Nat->Nat):∀ n, (rkL nd W n).length = n
 | 0=>rfl
 | n + 1=>by simp [rkL, zeu nd W n]
def rkF (nd:Nat->Nd) (W:Nat->Nat) (n:Nat):Nat:=rkV nd W (rkL nd W n) n
theorem rkL_get (nd:Nat->Nd) (W:Nat->Nat):∀ n k, k < n->(rkL nd W n)[k]? = some (rkF nd W k)
 | n + 1, k, h=>by
  rw [rkL]
  by_cases hk:k < n
  ·rw [List.getElem?_append_left (by rw [zeu]; exact hk)]; exact rkL_get nd W n k hk
  ·have:k = n:=by omega
   subst this
   rw [List.getElem?_append_right (by rw [zeu]; omega), zeu, Nat.sub_self]; rfl
theorem zlw (nd:Nat->Nd) (W:Nat->Nat) (n:Nat):rkF nd W n = if fixK (nd n).kind = true then adj (lowF (fun k=>fixK (nd k).kind) W (rkF nd W) n n) (if (nd n).kind = 10 then 1 else 0) else 0:=by
 rw [rkF, rkV]
 have:lowF (fun k=>fixK (nd k).kind) W (fun k=>(rkL nd W n).getD k 0) n n = lowF (fun k=>fixK (nd k).kind) W (rkF nd W) n n:=by
  unfold lowF
  refine zmq n fun v hv=>?_
  dsimp only
  rw [List.getD_eq_getElem?_getD, rkL_get nd W n v hv]; rfl
 rw [this]
theorem rkF_le (nd:Nat->Nd) (W:Nat->Nat):∀ n, rkF nd W n≤n + 1:=by
 intro n
 induction n using Nat.strongRecOn with
 | ind n ih=>
  rw [zlw]
  split
  ·have:lowF (fun k=>fixK (nd k).kind) W (rkF nd W) n n≤n:=mxU_le n fun v hv=>by
    have:=ih v hv
    dsimp only
    split <;> omega
   unfold adj; split <;> omega
  ·omega
end Go.Ab.S5
namespace Go.Ab.S5
variable {α:Type}
structure MS (h₀ h:H) (m:Nat) (f:Sl) (l:List Nd) (o:Sl) (O:List Nd):Prop where
 ext:Ext h₀ h
 blk:h.get m = some (.cells [.slice f, .slice o] true)
 mlt:m < h.next
 m0:h₀.next≤m
 f:NdR h₀ f l
 ap:App h o 5 (cN O)
 low:zag h₀ o
 nm:∀ a, o.ad = some a->a.id ≠ m
def Qt (h:H) (m:Nat) (o:Sl) (h':H):Prop:=h.next≤h'.next ∧ ∀ i, i < h.next->i ≠ m->(∀ a, o.ad = some a->i ≠ a.id)->h'.get i = h.get i
section
variable {h₀ h h1 h2:H} {m q:Nat} {f o o1:Sl} {l O:List Nd} {n:Nd}
theorem Qt.of (x:Ext h h1):Qt h m o h1:=⟨x.1, fun i hi _ _=>x.2 i hi⟩
theorem Qt.trans (a:Qt h m o h1) (hn:∀ a, o1.ad = some a->h.next≤a.id ∨ o1.ad = o.ad) (b:Qt h1 m o1 h2):Qt h m o h2:=
 ⟨Nat.le_trans a.1 b.1, fun i hi hm ho=>by
  rw [b.2 i (Nat.lt_of_lt_of_le hi a.1) hm (fun c hc=>?_), a.2 i hi hm ho]
  rcases hn c hc with h | h
  ·omega
  ·exact ho c (by rw [← h]; exact hc)⟩
theorem MS.push (W:MS h₀ h m f l o O) (x:Ext h h1):MS h₀ h1 m f l o O:=
 ⟨W.ext.trans x, by rw [x.2 _ W.mlt]; exact W.blk, Nat.lt_of_lt_of_le W.mlt x.1, W.m0, W.f, W.ap.ext x, W.low, W.nm⟩
end
end Go.Ab.S5
namespace Go.Ab.S5
structure St where
 l:List Tok
 made:Nat
 f:List Nd
 deriving DecidableEq
abbrev Er:=Int × Int
def St.hd (s:St):Tok:=s.l.headD ⟨0, 0, [], 0⟩
def St.adv (s:St):St:={ s with l:=s.l.tail }
def isS (sign:List UInt8) (s:St):Bool:=decide (s.hd.kind = 5) && decide (s.hd.text = sign)
def zcr (s:St):Er:=(s.hd.pos, if s.hd.kind = 0 then 6 else 7)
def zaw (s:St):Except Er (Tok × St):=if s.made = 60 then .error (s.hd.pos, 10) else .ok (s.hd, { s.adv with made:=s.made + 1 })
def zdp (sign:List UInt8) (s:St):Except Er St:=if isS sign s = true then .ok s.adv else .error (zcr s)
def layE (n:Nd) (s:St):Int × St:=((s.f.length:Int), { s with f:=s.f ++ [n] })
def zfc (shut:List UInt8) (s:St):Except Er (List UInt8 × St):=
 if isS [45] s = true ∨ (s.hd.kind = 2 ∧ zdu s.hd.text = false) then (match zdp shut s.adv with | .error e=>.error e | .ok s'=>.ok (s.hd.text, s')) else .error (zcr s)
inductive Rl where
 | un
 | row (o:Bool)
 | loop (o:Bool)
def signO (o:Bool):List UInt8:=if o then [124] else [38]
def zen (o:Bool):Int:=if o then 7 else 6
def oneO (o:Bool):Rl:=if o then .row false else .un
def zab {β γ:Type} (x:Except Er β) (f:β->Except Er γ):Except Er γ:=match x with | .error e=>.error e | .ok b=>f b
def pz:Nat->Rl->Int->St->Except Er (Int × St)
 | 0, _, _, _=>.error (0, 0)
 | j + 1, .row o, _, s=>zab (pz j (oneO o) 0 s) fun x=>pz j (.loop o) x.1 x.2
 | j + 1, .loop o, a, s=>
  if isS (signO o) s = true then
   zab (zaw s) fun x=>zab (pz j (oneO o) 0 x.2) fun y=>pz j (.loop o) (layE ⟨zen o, a, y.1, [], x.1.pos⟩ y.2).1 (layE ⟨zen o, a, y.1, [], x.1.pos⟩ y.2).2
  else .ok (a, s)
 | j + 1, .un, _, s=>
  if isS [126] s = true then zab (zaw s) fun x=>zab (pz j .un 0 x.2) fun y=>.ok (layE ⟨5, y.1, 0, [], x.1.pos⟩ y.2)
  else if isS [60] s = true then zab (zaw s) fun x=>zab (zfc [62] x.2) fun z=>zab (pz j .un 0 z.2) fun y=>.ok (layE ⟨8, y.1, 0, z.1, x.1.pos⟩ y.2)
  else if isS [91] s = true then zab (zaw s) fun x=>zab (zfc [93] x.2) fun z=>zab (pz j .un 0 z.2) fun y=>.ok (layE ⟨9, y.1, 0, z.1, x.1.pos⟩ y.2)
  else if isS [40] s = true then zab (pz j (.row true) 0 s.adv) fun y=>zab (zdp [41] y.2) fun z=>.ok (y.1, z)
  else if s.hd.kind = 3 then zab (zaw s) fun x=>.ok (layE ⟨4, 0, 0, x.1.text, x.1.pos⟩ x.2)
  else if s.hd.kind = 2 then zab (zaw s) fun x=>
   if x.1.text = [116, 116] then .ok (layE ⟨1, 0, 0, [], x.1.pos⟩ x.2)
   else if x.1.text = [102, 102] then .ok (layE ⟨2, 0, 0, [], x.1.pos⟩ x.2)
   else if x.1.text = [109, 117] ∨ x.1.text = [110, 117] then
    (if x.2.hd.kind = 3 then zab (zdp [46] x.2.adv) fun z=>zab (pz j (.row true) 0 z) fun y=>.ok (layE ⟨if x.1.text = [109, 117] then 10 else 11, y.1, 0, x.2.hd.text, x.1.pos⟩ y.2) else .error (zcr x.2))
   else .ok (layE ⟨3, 0, 0, x.1.text, x.1.pos⟩ x.2)
  else .error (zcr s)
def parseE (l:List Tok):Except Er (List Nd):=
 zab (pz (3 * l.length + 10) (.row true) 0 ⟨l, 0, []⟩) fun y=>if y.2.hd.kind = 0 then .ok y.2.f else .error (zcr y.2)
def Ends:List Tok->Prop
 | []=>False
 | [t]=>t.kind = 0
 | t :: u :: l=>t.kind ≠ 0 ∧ Ends (u :: l)
theorem Ends.ne {l:List Tok} (h:Ends l):∃ t r, l = t :: r:=by
 match l, h with
 | [t], _=>exact ⟨t, [], rfl⟩
 | t :: u :: r, _=>exact ⟨t, u :: r, rfl⟩
theorem Ends.tail {l:List Tok} {t:Tok} (h:Ends (t :: l)) (hk:t.kind ≠ 0):Ends l:=by
 match l, h with
 | [], h=>exact absurd h hk
 | u :: r, h=>exact h.2
theorem jv {sign:List UInt8} {s:St} (h:isS sign s = true):s.hd.kind = 5:=by
 simp only [isS, Bool.and_eq_true, decide_eq_true_eq] at h; exact h.1
theorem zbz {s:St} (h:Ends s.l) (hk:s.hd.kind ≠ 0):Ends s.adv.l:=by
 obtain ⟨t, r, hl⟩:=h.ne
 unfold St.hd at hk
 unfold St.adv
 rw [hl] at h hk ⊢
 exact h.tail hk
def Bal (s s':St):Prop:=s'.made + s.f.length = s.made + s'.f.length ∧ s.made≤s'.made ∧ (s.made≤60->s'.made≤60) ∧ (Ends s.l->Ends s'.l) ∧ s'.l.length≤s.l.length
theorem Bal.refl (s:St):Bal s s:=⟨rfl, Nat.le_refl _, id, id, Nat.le_refl _⟩
theorem Bal.trans {a b c:St} (x:Bal a b) (y:Bal b c):Bal a c:=⟨by have:=x.1; have:=y.1; omega, Nat.le_trans x.2.1 y.2.1, fun h=>y.2.2.1 (x.2.2.1 h), fun h=>y.2.2.2.1 (x.2.2.2.1 h), Nat.le_trans y.2.2.2.2 x.2.2.2.2⟩
theorem Bal.adv (s:St) (hk:s.hd.kind ≠ 0):Bal s s.adv:=⟨rfl, Nat.le_refl _, id, fun he=>zbz he hk, by unfold St.adv; rw [List.length_tail]; exact Nat.sub_le _ _⟩
theorem zcn {s:St} {t:Tok} {s':St} (h:zaw s = .ok (t, s')):s.made ≠ 60 ∧ t = s.hd ∧ s' = { s.adv with made:=s.made + 1 }:=by
 unfold zaw at h
 split at h
 ·cases h
 ·cases h; exact ⟨by assumption, rfl, rfl⟩
theorem zal {β γ:Type} {x:Except Er β} {f:β->Except Er γ} {c:γ} (h:zab x f = .ok c):∃ b, x = .ok b ∧ f b = .ok c:=by
 cases x with
 | error e=>cases h
 | ok b=>exact ⟨b, rfl, h⟩
theorem zfm {sign:List UInt8} {s s':St} (h:zdp sign s = .ok s'):isS sign s = true ∧ s' = s.adv:=by
 unfold zdp at h
 split at h
 ·cases h; exact ⟨by assumption, rfl⟩
 ·cases h
theorem zlm {shut:List UInt8} {s:St} {z:List UInt8 × St} (h:zfc shut s = .ok z):(isS [45] s = true ∨ (s.hd.kind = 2 ∧ zdu s.hd.text = false)) ∧ z.1 = s.hd.text ∧ isS shut s.adv = true ∧ z.2 = s.adv.adv:=by
 unfold zfc at h
 split at h
 ·rename_i hc
  cases hn:zdp shut s.adv with
  | error e=>rw [hn] at h; cases h
  | ok s'=>
   rw [hn] at h
   cases h
   obtain ⟨h1, rfl⟩:=zfm hn
   exact ⟨hc, rfl, h1, rfl⟩
 ·cases h
theorem ziv:∀ (j:Nat) (r:Rl) (a:Int) (s:St) (n:Int) (s':St), pz j r a s = .ok (n, s')->Bal s s':=by
 intro j
 induction j with
 | zero=>intro r a s n s' h; cases h
 | succ j ih=>
  intro r a s n s' h
  -- a token makes a node, which is laid behind what comes between
  have lay:∀ {s1 s2:St} {nd:Nd} {t:Tok}, zaw s = .ok (t, s1)->s.hd.kind ≠ 0->Bal s1 s2->Bal s (layE nd s2).2:=by
   intro s1 s2 nd t hm hk hb
   obtain ⟨h60, _, rfl⟩:=zcn hm
   obtain ⟨b1, b2, b3, b4, b5⟩:=hb
   refine ⟨?_, ?_, ?_, fun he=>b4 (zbz he hk), by simp only [layE, St.adv, List.length_tail] at *; omega⟩
   ·simp only [layE, St.adv, List.length_append, List.length_cons, List.length_nil] at *; omega
   ·simp only [layE, St.adv] at *; omega
   ·intro h; exact b3 (by show s.made + 1≤60; omega)
  have refl:=Bal.refl
  have trans:∀ {a b c:St}, Bal a b->Bal b c->Bal a c:=Bal.trans
  have adv:=Bal.adv
  cases r with
  | row o=>
   rw [pz] at h
   obtain ⟨⟨m, s1⟩, h1, h2⟩:=zal h
   exact trans (ih _ _ _ _ _ h1) (ih _ _ _ _ _ h2)
  | loop o=>
   rw [pz] at h
   split at h
   ·rename_i hs
    obtain ⟨⟨t, s1⟩, h1, h⟩:=zal h
    obtain ⟨⟨b, s2⟩, h2, h⟩:=zal h
    exact trans (lay h1 (by rw [jv hs]; decide) (ih _ _ _ _ _ h2)) (ih _ _ _ _ _ h)
   ·cases h; exact refl s
  | un=>
   rw [pz] at h
   have steps:∀ (k:Int) (shut:List UInt8), s.hd.kind = 5->zab (zaw s) (fun x=>zab (zfc shut x.2) fun z=>zab (pz j .un 0 z.2) fun y=>.ok (layE ⟨k, y.1, 0, z.1, x.1.pos⟩ y.2)) = .ok (n, s')->Bal s s':=by
    intro k shut hs h
    obtain ⟨⟨t, s1⟩, h1, h⟩:=zal h
    obtain ⟨⟨x, s2⟩, h2, h⟩:=zal h
    obtain ⟨⟨b, s3⟩, h3, h⟩:=zal h
    obtain ⟨c1, c2, c3, c4⟩:=zlm h2
    have k1:s1.hd.kind ≠ 0:=by
     rcases c1 with c1 | c1
     ·rw [jv c1]; decide
     ·rw [c1.1]; decide
    have k2:s1.adv.hd.kind ≠ 0:=by rw [jv c3]; decide
    have b2:Bal s1 s2:=by
     have:s2 = s1.adv.adv:=c4
     rw [this]
     exact trans (adv s1 k1) (adv _ k2)
    have:=lay (nd:=⟨k, b, 0, x, t.pos⟩) h1 (by rw [hs]; decide) (trans b2 (ih _ _ _ _ _ h3))
    cases h; exact this
   by_cases c1:isS [126] s = true
   ·rw [if_pos c1] at h
    obtain ⟨⟨t, s1⟩, h1, h⟩:=zal h
    obtain ⟨⟨b, s2⟩, h2, h⟩:=zal h
    have:=lay (nd:=⟨5, b, 0, [], t.pos⟩) h1 (by rw [jv c1]; decide) (ih _ _ _ _ _ h2)
    cases h; exact this
   rw [if_neg c1] at h
   by_cases c2:isS [60] s = true
   ·rw [if_pos c2] at h; exact steps 8 [62] (jv c2) h
   rw [if_neg c2] at h
   by_cases c3:isS [91] s = true
   ·rw [if_pos c3] at h; exact steps 9 [93] (jv c3) h
   rw [if_neg c3] at h
   by_cases c4:isS [40] s = true
   ·rw [if_pos c4] at h
    obtain ⟨⟨b, s1⟩, h1, h⟩:=zal h
    obtain ⟨s2, h2, h⟩:=zal h
    obtain ⟨d1, d2⟩:=zfm h2
    cases h
    rw [d2]
    exact trans (adv s (by rw [jv c4]; decide)) (trans (ih _ _ _ _ _ h1) (adv _ (by rw [jv d1]; decide)))
   rw [if_neg c4] at h
   by_cases c5:s.hd.kind = 3
   ·rw [if_pos c5] at h
    obtain ⟨⟨t, s1⟩, h1, h⟩:=zal h
    have:=lay (nd:=⟨4, 0, 0, t.text, t.pos⟩) h1 (by rw [c5]; decide) (refl s1)
    cases h; exact this
   rw [if_neg c5] at h
   by_cases c6:s.hd.kind = 2
   ·rw [if_pos c6] at h
    obtain ⟨⟨t, s1⟩, h1, h⟩:=zal h
    have hk:s.hd.kind ≠ 0:=by rw [c6]; decide
    dsimp only at h
    by_cases d1:t.text = [116, 116]
    ·rw [if_pos d1] at h
     have:=lay (nd:=⟨1, 0, 0, [], t.pos⟩) h1 hk (refl s1)
     cases h; exact this
    rw [if_neg d1] at h
    by_cases d2:t.text = [102, 102]
    ·rw [if_pos d2] at h
     have:=lay (nd:=⟨2, 0, 0, [], t.pos⟩) h1 hk (refl s1)
     cases h; exact this
    rw [if_neg d2] at h
    by_cases d3:t.text = [109, 117] ∨ t.text = [110, 117]
    ·rw [if_pos d3] at h
     by_cases h3:s1.hd.kind = 3
     ·rw [if_pos h3] at h
      obtain ⟨s2, h2, h⟩:=zal h
      obtain ⟨⟨b, s3⟩, h4, h⟩:=zal h
      obtain ⟨e1, e2⟩:=zfm h2
      have b2:Bal s1 s2:=by
       rw [e2]
       exact trans (adv s1 (by rw [h3]; decide)) (adv _ (by rw [jv e1]; decide))
      have:=lay (nd:=⟨if t.text = [109, 117] then 10 else 11, b, 0, s1.hd.text, t.pos⟩) h1 hk (trans b2 (ih _ _ _ _ _ h4))
      cases h; exact this
     ·rw [if_neg h3] at h; cases h
    ·rw [if_neg d3] at h
     have:=lay (nd:=⟨3, 0, 0, t.text, t.pos⟩) h1 hk (refl s1)
     cases h; exact this
   ·rw [if_neg c6] at h; cases h
def cost:Rl->Nat->Nat
 | .un, n=>3 * n + 1
 | .row o, n=>if o then 3 * n + 3 else 3 * n + 2
 | .loop _, n=>3 * n + 1
theorem zad {β γ:Type} {x:Except Er β} {f:β->Except Er γ} {e:Er} (h:zab x f = .error e):x = .error e ∨ ∃ b, x = .ok b ∧ f b = .error e:=by
 cases x with
 | error e'=>
  left
  have h:(Except.error e':Except Er γ) = .error e:=h
  cases h; rfl
 | ok b=>exact .inr ⟨b, rfl, h⟩
theorem zdw {s:St} {e:Er} (h:zaw s = .error e):e.2 ≠ 0:=by
 unfold zaw at h
 split at h
 ·cases h; show (10:Int) ≠ 0; decide
 ·cases h
theorem zgc (s:St):(zcr s).2 ≠ 0:=by unfold zcr; dsimp only; split <;> decide
theorem zio {sign:List UInt8} {s:St} {e:Er} (h:zdp sign s = .error e):e.2 ≠ 0:=by
 unfold zdp at h
 split at h
 ·cases h
 ·cases h; exact zgc s
theorem stepE_err {sign:List UInt8} {s:St} {e:Er} (h:zfc sign s = .error e):e.2 ≠ 0:=by
 unfold zfc at h
 split at h
 ·cases hn:zdp sign s.adv with
  | error e'=>rw [hn] at h; cases h; exact zio hn
  | ok s'=>rw [hn] at h; cases h
 ·cases h; exact zgc s
theorem zoj {s:St} (he:Ends s.l):s.adv.l.length + 1 = s.l.length:=by
 obtain ⟨t, r, hl⟩:=he.ne
 unfold St.adv; rw [hl]; rfl
theorem pz_fuel:∀ (j:Nat) (r:Rl) (a:Int) (s:St) (e:Er), Ends s.l->cost r s.l.length≤j->pz j r a s = .error e->e.2 ≠ 0:=by
 intro j
 induction j with
 | zero=>intro r a s e he hc h; cases r <;> simp only [cost] at hc <;> (try split at hc) <;> omega
 | succ j ih=>
  intro r a s e he hc h
  have hlen:=zoj he
  cases r with
  | row o=>
   rw [pz] at h
   rcases zad h with h | ⟨x, hx, h⟩
   ·refine ih _ _ _ _ he ?_ h
    cases o <;> simp [cost, oneO] at hc ⊢ <;> omega
   ·have hb:=ziv _ _ _ _ _ _ hx
    refine ih _ _ _ _ (hb.2.2.2.1 he) ?_ h
    have:=hb.2.2.2.2
    cases o <;> simp [cost] at hc ⊢ <;> omega
  | loop o=>
   rw [pz] at h
   simp only [cost] at hc
   by_cases hs:isS (signO o) s = true
   ·rw [if_pos hs] at h
    have he1:=zbz he (by rw [jv hs]; decide)
    rcases zad h with h | ⟨x, hx, h⟩
    ·exact zdw h
    obtain ⟨t, s1⟩:=x
    obtain ⟨_, _, hs1⟩:=zcn hx
    have hl1:s1.l = s.adv.l:=by rw [hs1]
    dsimp only at h
    rcases zad h with h | ⟨y, hy, h⟩
    ·refine ih _ _ _ _ (by rw [hl1]; exact he1) ?_ h
     rw [hl1]
     cases o <;> simp [cost, oneO] <;> omega
    ·have hb:=ziv _ _ _ _ _ _ hy
     refine ih _ _ _ _ (by simp only [layE]; exact hb.2.2.2.1 (by rw [hl1]; exact he1)) ?_ h
     have:=hb.2.2.2.2
     rw [hl1] at this
     simp only [cost, layE]
     omega
   ·rw [if_neg hs] at h; cases h
  | un=>
   rw [pz] at h
   simp only [cost] at hc
   have steps:∀ (k:Int) (shut:List UInt8), s.hd.kind = 5->zab (zaw s) (fun x=>zab (zfc shut x.2) fun z=>zab (pz j .un 0 z.2) fun y=>.ok (layE ⟨k, y.1, 0, z.1, x.1.pos⟩ y.2)) = .error e->e.2 ≠ 0:=by
    intro k shut hs h
    have he1:=zbz he (by rw [hs]; decide)
    rcases zad h with h | ⟨x, hx, h⟩
    ·exact zdw h
    obtain ⟨t, s1⟩:=x
    obtain ⟨_, _, hs1⟩:=zcn hx
    have hl1:s1.l = s.adv.l:=by rw [hs1]
    rcases zad h with h | ⟨z, hz, h⟩
    ·exact stepE_err h
    obtain ⟨w1, w2, w3, w4⟩:=zlm hz
    have k1:s1.hd.kind ≠ 0:=by
     rcases w1 with w1 | w1
     ·rw [jv w1]; decide
     ·rw [w1.1]; decide
    have hB:Bal s1 z.2:=by rw [w4]; exact (Bal.adv s1 k1).trans (Bal.adv _ (by rw [jv w3]; decide))
    have:=hB.2.2.2.2
    rw [hl1] at this
    rcases zad h with h | ⟨y, hy, h⟩
    ·exact ih _ _ _ _ (hB.2.2.2.1 (by rw [hl1]; exact he1)) (by simp only [cost]; omega) h
    ·cases h
   by_cases c1:isS [126] s = true
   ·rw [if_pos c1] at h
    have he1:=zbz he (by rw [jv c1]; decide)
    rcases zad h with h | ⟨x, hx, h⟩
    ·exact zdw h
    obtain ⟨t, s1⟩:=x
    obtain ⟨_, _, hs1⟩:=zcn hx
    have hl1:s1.l = s.adv.l:=by rw [hs1]
    rcases zad h with h | ⟨y, hy, h⟩
    ·exact ih _ _ _ _ (by rw [hl1]; exact he1) (by rw [hl1]; simp only [cost]; omega) h
    ·cases h
   rw [if_neg c1] at h
   by_cases c2:isS [60] s = true
   ·rw [if_pos c2] at h; exact steps 8 [62] (jv c2) h
   rw [if_neg c2] at h
   by_cases c3:isS [91] s = true
   ·rw [if_pos c3] at h; exact steps 9 [93] (jv c3) h
   rw [if_neg c3] at h
   by_cases c4:isS [40] s = true
   ·rw [if_pos c4] at h
    have he1:=zbz he (by rw [jv c4]; decide)
    rcases zad h with h | ⟨y, hy, h⟩
    ·exact ih _ _ _ _ he1 (by simp [cost]; omega) h
    rcases zad h with h | ⟨z, hz, h⟩
    ·exact zio h
    ·cases h
   rw [if_neg c4] at h
   by_cases c5:s.hd.kind = 3
   ·rw [if_pos c5] at h
    rcases zad h with h | ⟨x, hx, h⟩
    ·exact zdw h
    ·cases h
   rw [if_neg c5] at h
   by_cases c6:s.hd.kind = 2
   ·rw [if_pos c6] at h
    have he1:=zbz he (by rw [c6]; decide)
    rcases zad h with h | ⟨x, hx, h⟩
    ·exact zdw h
    obtain ⟨t, s1⟩:=x
    obtain ⟨_, _, hs1⟩:=zcn hx
    have hl1:s1.l = s.adv.l:=by rw [hs1]
    dsimp only at h
    by_cases d1:t.text = [116, 116]
    ·rw [if_pos d1] at h; cases h
    rw [if_neg d1] at h
    by_cases d2:t.text = [102, 102]
    ·rw [if_pos d2] at h; cases h
    rw [if_neg d2] at h
    by_cases d3:t.text = [109, 117] ∨ t.text = [110, 117]
    ·rw [if_pos d3] at h
     by_cases h3:s1.hd.kind = 3
     ·rw [if_pos h3] at h
      rcases zad h with h | ⟨z, hz, h⟩
      ·exact zio h
      obtain ⟨w1, w2⟩:=zfm hz
      have hB:Bal s1 z:=by rw [w2]; exact (Bal.adv s1 (by rw [h3]; decide)).trans (Bal.adv _ (by rw [jv w1]; decide))
      have:=hB.2.2.2.2
      rw [hl1] at this
      have he3:=hB.2.2.2.1 (by rw [hl1]; exact he1)
      have l2:=zoj (s:=s1) (by rw [hl1]; exact he1)
      have l3:z.l.length < s.adv.l.length:=by
       rw [w2]
       have:=zoj (s:=s1.adv) (zbz (by rw [hl1]; exact he1) (by rw [h3]; decide))
       rw [hl1] at l2
       omega
      rcases zad h with h | ⟨y, hy, h⟩
      ·exact ih _ _ _ _ he3 (by simp [cost]; omega) h
      ·cases h
     ·rw [if_neg h3] at h; cases h; exact zgc _
    ·rw [if_neg d3] at h; cases h
   ·rw [if_neg c6] at h; cases h; exact zgc _
end Go.Ab.S5
namespace Go.Ab.S5
variable {α:Type} {h:H}
theorem zgi (h:H) (i:Nat) (a b:Option Blk):(h.put i a).put i b = h.put i b:=by
 unfold H.put
 simp only [H.mk.injEq, true_and]
 funext j
 cases Nat.beq j i <;> rfl
abbrev tkC (t:Tok):Blk:=.cells [.int .i64 t.kind, .int .i64 t.pos, .str t.text, .int .i64 t.num] true
theorem st4_run {q:Nat} {v0 v1 v2 v3:V} (hq:h.get q = some (.cells [v0, v1, v2, v3] true)) (t:Tok) (K:M α) :
  (st1 ((⟨q, 0⟩:Ad).add 0) (.int .i64 t.kind) <| st1 ((⟨q, 0⟩:Ad).add 1) (.int .i64 t.pos) <| st1 ((⟨q, 0⟩:Ad).add 2) (.str t.text) <| st1 ((⟨q, 0⟩:Ad).add 3) (.int .i64 t.num) K) h = K (h.put q (some (tkC t))):=by
 simp only [jn, Nat.zero_add]
 rw [zaa (a:=⟨q, 0⟩) hq rfl (by simp), zaa (a:=⟨q, 1⟩) (by rw [yi]) rfl (by simp), zgi, zaa (a:=⟨q, 2⟩) (by rw [yi]) rfl (by simp), zgi, zaa (a:=⟨q, 3⟩) (by rw [yi]) rfl (by simp), zgi]
 rfl
theorem zid {t:Tok} {q:Nat} (hq:h.get q = some (tkC t)) (K:Int->Int->List UInt8->Int->M α) :
  (ldI .i64 ((⟨q, 0⟩:Ad).add 0) fun y0=>ldI .i64 ((⟨q, 0⟩:Ad).add 1) fun y1=>ldStr ((⟨q, 0⟩:Ad).add 2) fun y2=>ldI .i64 ((⟨q, 0⟩:Ad).add 3) fun y3=>K y0 y1 y2 y3) h = K t.kind t.pos t.text t.num h:=by
 simp only [jn]
 rw [jk (by rw [jg (a:=⟨q, 0 + 0⟩) hq]; rfl), jk (by rw [jg (a:=⟨q, 0 + 1⟩) hq]; rfl), yz (by rw [jg (a:=⟨q, 0 + 2⟩) hq]; rfl), jk (by rw [jg (a:=⟨q, 0 + 3⟩) hq]; rfl)]
theorem zbu {t:Tok} {q:Nat} (hq:h.get q = some (tkC t)) (K:Int->M α):ldI .i64 (((⟨q, 0⟩:Ad).add 1).add 0) K h = K t.pos h:=jk (by simp only [jn]; rw [jg (a:=⟨q, 0 + 1 + 0⟩) hq]; rfl)
theorem zdy {t:Tok} {q:Nat} (hq:h.get q = some (tkC t)) (K:List UInt8->M α):ldStr (((⟨q, 0⟩:Ad).add 2).add 0) K h = K t.text h:=yz (by simp only [jn]; rw [jg (a:=⟨q, 0 + 2 + 0⟩) hq]; rfl)
theorem zkb {z0 z1 z3:Int} {z2:List UInt8} (t:Tok) (K:Ad->M α) :
  new [.int .i64 z0, .int .i64 z1, .str z2, .int .i64 z3] (fun n=>st1 (n.add 0) (.int .i64 t.kind) <| st1 (n.add 1) (.int .i64 t.pos) <| st1 (n.add 2) (.str t.text) <| st1 (n.add 3) (.int .i64 t.num) <| K n) h =
   K ⟨h.next, 0⟩ (h.push (tkC t)):=by
 rw [js rfl]
 simp only [jn, Nat.zero_add]
 rw [ye rfl (by simp), ye rfl (by simp), ye rfl (by simp), ye rfl (by simp)]
 rfl
theorem Tok.len (t:Tok):t.cells.length = 4:=rfl
abbrev TkR (h:H) (s:Sl) (l:List Tok):Prop:=Rd h s 4 (jx l)
section
variable {s:Sl} {l:List Tok}
theorem zfz (r:TkR h s l):s.len = l.length:=slen (c:=Tok.cells) Tok.len (by decide) r
theorem zez (r:TkR h s l) {i:Nat} {n:Tok} (hi:l[i]? = some n) {j:Nat} {v:V} (hv:n.cells[j]? = some v) (hj:j < 4):(jx l)[i * 4 + j]? = some v:=
 (zci Tok.len l i n j hi hj).trans hv
theorem zoi (r:TkR h s l) {x:Int} {i:Nat} {n:Tok} (hx:x = (i:Int)) (hi:l[i]? = some n) (K:Ad->M α):idxSl s x 4 K h = K (s.at (i * 4)) h:=
 zce r hx (by rw [zfz r]; exact yt hi) K
theorem zca (r:TkR h s l) {x:Int} {i:Nat} {n:Tok} (hx:x = (i:Int)) (hi:l[i]? = some n) (K:Int->M α):idxSl s x 4 (fun a=>ldI .i64 ((a.add 0).add 0) K) h = K n.kind h:=by
 rw [zoi r hx hi, yu, yu]; exact r.ldI (zez r hi (j:=0) rfl (by decide)) K
theorem tk_pos (r:TkR h s l) {x:Int} {i:Nat} {n:Tok} (hx:x = (i:Int)) (hi:l[i]? = some n) (K:Int->M α):idxSl s x 4 (fun a=>ldI .i64 ((a.add 1).add 0) K) h = K n.pos h:=by
 rw [zoi r hx hi, yu, yu]; exact r.ldI (zez r hi (j:=1) rfl (by decide)) K
theorem zok (r:TkR h s l) {x:Int} {i:Nat} {n:Tok} (hx:x = (i:Int)) (hi:l[i]? = some n) (K:List UInt8->M α):idxSl s x 4 (fun a=>ldStr ((a.add 2).add 0) K) h = K n.text h:=by
 rw [zoi r hx hi, yu, yu]; exact r.ldStr (zez r hi (j:=2) rfl (by decide)) K
theorem tk_all (r:TkR h s l) {x:Int} {i:Nat} {n:Tok} (hx:x = (i:Int)) (hi:l[i]? = some n) (K:Int->Int->List UInt8->Int->M α) :
  idxSl s x 4 (fun a=>ldI .i64 (a.add 0) fun x0=>ldI .i64 (a.add 1) fun x1=>ldStr (a.add 2) fun x2=>ldI .i64 (a.add 3) fun x3=>K x0 x1 x2 x3) h = K n.kind n.pos n.text n.num h:=by
 rw [zoi r hx hi]
 simp only [yu]
 rw [r.ldI (zez r hi (j:=0) rfl (by decide)), r.ldI (zez r hi (j:=1) rfl (by decide)), r.ldStr (zez r hi (j:=2) rfl (by decide)), r.ldI (zez r hi (j:=3) rfl (by decide))]
end
theorem from_id {s:Sl} {n m size:Nat} {b:Ad} (hb:s.from n m size = some b):∃ a, s.ad = some a ∧ a.id = b.id:=by
 unfold Sl.from at hb
 cases hls:s.ad with
 | none=>
  rw [hls] at hb
  cases hlo:s.loose with
  | none=>rw [hlo] at hb; dsimp only at hb; cases hq:Nat.beq m n <;> simp [hq] at hb
  | some e=>rw [hlo] at hb; cases hb
 | some a=>
  rw [hls] at hb
  refine ⟨a, rfl, ?_⟩
  cases hlo:s.loose with
  | none=>
   rw [hlo] at hb
   dsimp only at hb
   cases hq:Nat.beq m n with
   | true=>rw [hq, cond_true] at hb; cases hb; rfl
   | false=>rw [hq, cond_false] at hb; cases hb; rfl
  | some e=>rw [hlo] at hb; cases hb; rfl
structure PS (h₀ h:H) (p tb:Nat) (ls fs:Sl) (s:St):Prop where
 ext:Ext h₀ h
 p0:h₀.next≤p
 plt:p < h.next
 blk:h.get p = some (.cells [.slice ls, .int .i64 (s.made:Int), .slice fs] true)
 toks:TkR h ls s.l
 fine:ls.fine 4
 nodes:App h fs 5 (cN s.f)
 low:zag h₀ fs
 tok:∀ a, ls.ad = some a->a.id = tb
 tp:tb ≠ p
 tl:tb < h.next
 fp:∀ a, fs.ad = some a->a.id ≠ p ∧ a.id ≠ tb
 ends:Ends s.l
 bal:s.f.length≤s.made
 m60:s.made≤60
structure QP (p:Nat) (fs fs':Sl) (h h':H):Prop where
 nx:h.next≤h'.next
 keep:∀ i, i < h.next->i ≠ p->(∀ a, fs.ad = some a->i ≠ a.id)->h'.get i = h.get i
 nf:∀ a, fs'.ad = some a->h.next≤a.id ∨ fs'.ad = fs.ad
theorem QP.refl (p:Nat) (fs:Sl) (h:H):QP p fs fs h h:=⟨Nat.le_refl _, fun _ _ _ _=>rfl, fun _ _=>.inr rfl⟩
theorem QP.of {p:Nat} {fs:Sl} {h h':H} (x:Ext h h'):QP p fs fs h h':=⟨x.1, fun i hi _ _=>x.2 i hi, fun _ _=>.inr rfl⟩
theorem QP.trans {p:Nat} {a b c:Sl} {h h' h'':H} (x:QP p a b h h') (y:QP p b c h' h''):QP p a c h h'':=by
 refine ⟨Nat.le_trans x.nx y.nx, fun i hi hp ha=>?_, fun q hq=>?_⟩
 ·rw [y.keep i (Nat.lt_of_lt_of_le hi x.nx) hp (fun q hq=>?_), x.keep i hi hp ha]
  rcases x.nf q hq with h | h
  ·omega
  ·exact ha q (by rw [← h]; exact hq)
 ·rcases y.nf q hq with h | h
  ·exact .inl (Nat.le_trans x.nx h)
  ·rw [h] at hq
   rcases x.nf q hq with h' | h'
   ·exact .inl h'
   ·exact .inr (h.trans h')
section
variable {h₀:H} {p tb:Nat} {ls fs:Sl} {s:St}
theorem PS.push (P:PS h₀ h p tb ls fs s) {h':H} (x:Ext h h'):PS h₀ h' p tb ls fs s:=
 ⟨P.ext.trans x, P.p0, Nat.lt_of_lt_of_le P.plt x.1, by rw [x.2 p P.plt]; exact P.blk, P.toks.ext x, P.fine, P.nodes.ext x, P.low, P.tok, P.tp, Nat.lt_of_lt_of_le P.tl x.1, P.fp, P.ends, P.bal, P.m60⟩
theorem PS.setblk (P:PS h₀ h p tb ls fs s) {ls':Sl} {s':St} (hf:s'.f = s.f) (ht:TkR h ls' s'.l) (hfine:ls'.fine 4) (had:∀ b, ls'.ad = some b->∃ a, ls.ad = some a ∧ a.id = b.id) (he:Ends s'.l) (hb:s'.f.length≤s'.made) (hm:s'.made≤60) :
  PS h₀ (h.put p (some (.cells [.slice ls', .int .i64 (s'.made:Int), .slice fs] true))) p tb ls' fs s':=by
 have hg:∀ i, i ≠ p->(h.put p (some (.cells [.slice ls', .int .i64 (s'.made:Int), .slice fs] true))).get i = h.get i:=fun i hi=>by rw [zu, if_neg hi]
 have htb:∀ b, ls'.ad = some b->b.id = tb:=fun b hb=>by
  obtain ⟨a, ha, e⟩:=had b hb
  rw [← e]; exact P.tok a ha
 refine ⟨P.ext.put _ P.p0, P.p0, P.plt, by rw [yi], ht.keep (Nat.le_refl _) fun b hb=>hg _ (by rw [htb b hb]; exact P.tp), hfine, ?_, P.low, htb, P.tp, P.tl, P.fp, he, hb, hm⟩
 rw [hf]; exact P.nodes.keep (Nat.le_refl _) fun a ha=>hg _ (P.fp a ha).1
theorem qp_put (b:Option Blk):QP p fs fs h (h.put p b):=⟨Nat.le_refl _, fun i _ hi _=>by rw [zu, if_neg hi], fun _ _=>.inr rfl⟩
theorem p_l (P:PS h₀ h p tb ls fs s) (K:Sl->M α):ldS (((⟨p, 0⟩:Ad).add 0).add 0) K h = K ls h:=zcj (by simp only [jn]; rw [jg P.blk]; rfl)
theorem p_made (P:PS h₀ h p tb ls fs s) (K:Int->M α):ldI .i64 (((⟨p, 0⟩:Ad).add 1).add 0) K h = K s.made h:=jk (by simp only [jn]; rw [jg P.blk]; rfl)
theorem p_f (P:PS h₀ h p tb ls fs s) (K:Sl->M α):ldS (((⟨p, 0⟩:Ad).add 2).add 0) K h = K fs h:=zcj (by simp only [jn]; rw [jg P.blk]; rfl)
theorem PS.hd (P:PS h₀ h p tb ls fs s):s.l[0]? = some s.hd:=by
 obtain ⟨t, r, hl⟩:=P.ends.ne
 unfold St.hd
 rw [hl]; rfl
theorem zay (P:PS h₀ h p tb ls fs s) (k:Nat) (sign:List UInt8) (ret:Bool->M α):qaw.f (k + 1) ⟨p, 0⟩ sign ret h = ret (isS sign s) h:=by
 rw [qaw.f, qaw.u1.f, p_l P, zca P.toks (x:=0) (i:=0) rfl P.hd]
 unfold isS
 by_cases h5:s.hd.kind = 5
 ·rw [dT h5, cond_true, p_l P, zok P.toks (x:=0) (i:=0) rfl P.hd, Bool.true_and]
 ·rw [dF h5, cond_false, Bool.false_and]
theorem zdh (P:PS h₀ h p tb ls fs s) (k:Nat) (pan:V->M α) (ret:M α):qav.f (k + 1) ⟨p, 0⟩ pan ret h = pan (.iface 56 (.agg [.int .i64 (zcr s).1, .int .i64 (zcr s).2])) h:=by
 rw [qav.f, qav.u1.f, p_l P, zca P.toks (x:=0) (i:=0) rfl P.hd]
 unfold zcr
 by_cases h5:s.hd.kind = 0
 ·rw [dT h5, cond_true, p_l P, tk_pos P.toks (x:=0) (i:=0) rfl P.hd, if_pos h5]
 ·rw [dF h5, cond_false, p_l P, tk_pos P.toks (x:=0) (i:=0) rfl P.hd, if_neg h5]
theorem PS.other (P:PS h₀ h p tb ls fs s) {i:Nat} (b:Blk) (hi:h₀.next≤i) (hp:i ≠ p) (hl:tb ≠ i) (hf:∀ a, fs.ad = some a->a.id ≠ i):PS h₀ (h.put i (some b)) p tb ls fs s:=by
 have hg:∀ j, j ≠ i->(h.put i (some b)).get j = h.get j:=fun j hj=>by rw [zu, if_neg hj]
 exact ⟨P.ext.put _ hi, P.p0, P.plt, by rw [hg _ (Ne.symm hp)]; exact P.blk, P.toks.keep (Nat.le_refl _) (fun a ha=>hg _ (by rw [P.tok a ha]; exact hl)), P.fine, P.nodes.keep (Nat.le_refl _) (fun a ha=>hg _ (hf a ha)), P.low, P.tok, P.tp, P.tl, P.fp, P.ends, P.bal, P.m60⟩
theorem zfs (P:PS h₀ h p tb ls fs s) (k:Nat) (hk:s.hd.kind ≠ 0) :
  ∃ h' ls', (∀ (α:Type) (ret:Int->Int->List UInt8->Int->M α), qao.f (k + 1) ⟨p, 0⟩ ret h = ret s.hd.kind s.hd.pos s.hd.text s.hd.num h') ∧ PS h₀ h' p tb ls' fs s.adv ∧ QP p fs fs h h':=by
 have he:=zbz P.ends hk
 obtain ⟨t, r, hl⟩:=P.ends.ne
 have hhd:s.hd = t:=by unfold St.hd; rw [hl]; rfl
 have hadv:s.adv = { s with l:=r }:=by unfold St.adv; rw [hl]; rfl
 have hlen:ls.len = r.length + 1:=by rw [zfz P.toks, hl]; rfl
 -- the two copies
 have x2:Ext h ((h.push (.cells [.int .i64 0, .int .i64 0, .str [], .int .i64 0] true)).push (tkC t)):=((Ext.refl h).push _).push _
 have hn2:((h.push (.cells [.int .i64 0, .int .i64 0, .str [], .int .i64 0] true)).push (tkC t)).next = h.next + 2:=rfl
 have P1:=P.push ((Ext.refl h).push (.cells [.int .i64 0, .int .i64 0, .str [], .int .i64 0] true))
 have P2:=P.push x2
 have hz:((h.push (.cells [.int .i64 0, .int .i64 0, .str [], .int .i64 0] true)).push (tkC t)).get h.next = some (.cells [.int .i64 0, .int .i64 0, .str [], .int .i64 0] true):=by
  rw [zq, if_neg (by rw [zz]; omega), zq, if_pos rfl]
 have ht:((h.push (.cells [.int .i64 0, .int .i64 0, .str [], .int .i64 0] true)).push (tkC t)).get (h.next + 1) = some (tkC t):=by rw [zq, if_pos (by rw [zz])]
 have start:∀ (α:Type) (ret:Int->Int->List UInt8->Int->M α), qao.f (k + 1) ⟨p, 0⟩ ret h = _:=fun α ret=>by
  rw [qao.f, qao.u1.f, js rfl, p_l P1, tk_all P1.toks (x:=0) (i:=0) (n:=t) rfl (by rw [hl]; rfl), zkb]
 rw [show (h.push (.cells [.int .i64 0, .int .i64 0, .str [], .int .i64 0] true)).next = h.next + 1 from rfl] at start
 generalize (h.push (.cells [.int .i64 0, .int .i64 0, .str [], .int .i64 0] true)).push (tkC t) = h2 at start x2 hn2 P2 hz ht
 have rf:=P2.toks.from 1 (ls.cap - 1) ls.cap ls.loose (by omega) P2.fine.1
 have hdr:(jx s.l).drop (1 * 4) = jx r:=by
  rw [hl]
  exact zgb (c:=Tok.cells) (size:=4) Tok.len (t :: r) 1
 rw [hdr] at rf
 have P3:=P2.setblk (ls':=⟨ls.from 1 ls.cap 4, ls.len - 1, ls.cap - 1, ls.loose⟩) (s':={ s with l:=r }) rfl rf ⟨by show ls.len - 1≤ls.cap - 1; have:=P.fine.1; omega, P.fine.2⟩ (fun b hb=>from_id hb) (by rw [hadv] at he; exact he) P.bal P.m60
 have q3:QP p fs fs h2 (h2.put p (some (.cells [.slice ⟨ls.from 1 ls.cap 4, ls.len - 1, ls.cap - 1, ls.loose⟩, .int .i64 (s.made:Int), .slice fs] true))):=qp_put _
 have hg3:∀ i, i ≠ p->(h2.put p (some (.cells [.slice ⟨ls.from 1 ls.cap 4, ls.len - 1, ls.cap - 1, ls.loose⟩, .int .i64 (s.made:Int), .slice fs] true))).get i = h2.get i:=fun i hi=>by rw [zu, if_neg hi]
 have e3:∀ (α:Type) (K:M α), st1 (((⟨p, 0⟩:Ad).add 0).add 0) (.slice ⟨ls.from 1 ls.cap 4, ls.len - 1, ls.cap - 1, ls.loose⟩) K h2 = K (h2.put p (some (.cells [.slice ⟨ls.from 1 ls.cap 4, ls.len - 1, ls.cap - 1, ls.loose⟩, .int .i64 (s.made:Int), .slice fs] true))):=fun α K=>by
  simp only [jn]
  rw [zaa (a:=⟨p, 0 + 0 + 0⟩) P2.blk rfl (by simp)]
  rfl
 have hn3:(h2.put p (some (.cells [.slice ⟨ls.from 1 ls.cap 4, ls.len - 1, ls.cap - 1, ls.loose⟩, .int .i64 (s.made:Int), .slice fs] true))).next = h2.next:=rfl
 generalize h2.put p (some (.cells [.slice ⟨ls.from 1 ls.cap 4, ls.len - 1, ls.cap - 1, ls.loose⟩, .int .i64 (s.made:Int), .slice fs] true)) = h3 at P3 q3 e3 hg3 hn3
 have hpl:=P.plt
 have hz3:h3.get h.next = some (.cells [.int .i64 0, .int .i64 0, .str [], .int .i64 0] true):=by rw [hg3 _ (by omega)]; exact hz
 have ht3:h3.get (h.next + 1) = some (tkC t):=by rw [hg3 _ (by omega)]; exact ht
 have hfs:∀ a, fs.ad = some a->a.id < h.next:=fun a ha=>(P.nodes.rd.row a ha).2
 have hls:∀ a, ls.ad = some a->a.id < h.next:=fun a ha=>(P.toks.row a ha).2
 -- the answer's own copy
 have P4:=P3.other (tkC t) (i:=h.next) P.ext.1 (by omega) (by have:=P.tl; omega) (fun a ha=>by have:=hfs a ha; omega)
 refine ⟨h3.put h.next (some (tkC t)), _, fun α ret=>?_, by rw [hadv]; exact P4, ⟨by show h.next≤h3.next; omega, fun i hi hp _=>by rw [zu, if_neg (by omega), hg3 i hp, x2.2 i hi], fun _ _=>.inr rfl⟩⟩
 ·rw [start, p_l P2, zhg P2.fine (x:=1) (n:=1) rfl (by omega), e3, zid ht3, st4_run hz3]
  have hq4:(h3.put h.next (some (tkC t))).get h.next = some (tkC t):=by rw [yi]
  rw [zid hq4, hhd]
theorem PS.lts (P:PS h₀ h p tb ls fs s):(∀ a, ls.ad = some a->a.id < h.next) ∧ ∀ a, fs.ad = some a->a.id < h.next:=⟨fun a ha=>(P.toks.row a ha).2, fun a ha=>(P.nodes.rd.row a ha).2⟩
abbrev zhc (e:Er):V:=.iface 56 (.agg [.int .i64 e.1, .int .i64 e.2])
theorem zmk (P:PS h₀ h p tb ls fs s) (k:Nat) (hk:s.hd.kind ≠ 0) :
  match zaw s with
  | .error e=>∃ h', Ext h₀ h' ∧ ∀ (α:Type) (pan:V->M α) (ret:Int->Int->List UInt8->Int->M α), qan.f (k + 2) ⟨p, 0⟩ pan ret h = pan (zhc e) h'
  | .ok x=>∃ h' ls', (∀ (α:Type) (pan:V->M α) (ret:Int->Int->List UInt8->Int->M α), qan.f (k + 2) ⟨p, 0⟩ pan ret h = ret x.1.kind x.1.pos x.1.text x.1.num h') ∧ PS h₀ h' p tb ls' fs x.2 ∧ QP p fs fs h h':=by
 have x1:Ext h (h.push (.cells [.int .i64 0, .int .i64 0, .str [], .int .i64 0] true)):=(Ext.refl h).push _
 have P1:=P.push x1
 have hz:(h.push (.cells [.int .i64 0, .int .i64 0, .str [], .int .i64 0] true)).get h.next = some (.cells [.int .i64 0, .int .i64 0, .str [], .int .i64 0] true):=by rw [zq, if_pos rfl]
 have hn1:(h.push (.cells [.int .i64 0, .int .i64 0, .str [], .int .i64 0] true)).next = h.next + 1:=rfl
 have start:∀ (α:Type) (pan:V->M α) (ret:Int->Int->List UInt8->Int->M α), qan.f (k + 2) ⟨p, 0⟩ pan ret h = _:=fun α pan ret=>by
  rw [qan.f, qan.u1.f, js rfl, p_made P1]
 generalize h.push (.cells [.int .i64 0, .int .i64 0, .str [], .int .i64 0] true) = h1 at start x1 P1 hz hn1
 have hpl:=P.plt
 have hlts:=P.lts
 unfold zaw
 by_cases h60:s.made = 60
 ·rw [if_pos h60]
  refine ⟨h1, P1.ext, fun α pan ret=>?_⟩
  rw [start, dT (by rw [h60]; rfl), cond_true, p_l P1, tk_pos P1.toks (x:=0) (i:=0) rfl P1.hd]
 rw [if_neg h60]
 have hm:=P.m60
 have hb:=P.bal
 -- one more is made
 have P2:=P1.setblk (ls':=ls) (s':={ s with made:=s.made + 1 }) rfl P1.toks P1.fine (fun b hb=>⟨b, hb, rfl⟩) P1.ends (by show s.f.length≤s.made + 1; omega) (by show s.made + 1≤60; omega)
 have q2:QP p fs fs h1 (h1.put p (some (.cells [.slice ls, .int .i64 ((s.made + 1:Nat):Int), .slice fs] true))):=qp_put _
 have e2:∀ (α:Type) (K:M α), st1 (((⟨p, 0⟩:Ad).add 1).add 0) (.int .i64 ((s.made + 1:Nat):Int)) K h1 = K (h1.put p (some (.cells [.slice ls, .int .i64 ((s.made + 1:Nat):Int), .slice fs] true))):=fun α K=>by
  simp only [jn]
  rw [zaa (a:=⟨p, 0 + 1 + 0⟩) P1.blk rfl (by simp)]
  rfl
 have hz2:(h1.put p (some (.cells [.slice ls, .int .i64 ((s.made + 1:Nat):Int), .slice fs] true))).get h.next = some (.cells [.int .i64 0, .int .i64 0, .str [], .int .i64 0] true):=by rw [zu, if_neg (by omega)]; exact hz
 have hn2:(h1.put p (some (.cells [.slice ls, .int .i64 ((s.made + 1:Nat):Int), .slice fs] true))).next = h1.next:=rfl
 generalize h1.put p (some (.cells [.slice ls, .int .i64 ((s.made + 1:Nat):Int), .slice fs] true)) = h2 at P2 q2 e2 hz2 hn2
 obtain ⟨h3, ls3, e3, P3, q3⟩:=zfs P2 k hk
 have hf3:∀ a, fs.ad = some a->a.id ≠ h.next:=fun a ha=>by have:=hlts.2 a ha; omega
 have hz3:h3.get h.next = some (.cells [.int .i64 0, .int .i64 0, .str [], .int .i64 0] true):=by
  rw [q3.keep h.next (by omega) (by omega) (fun a ha=>Ne.symm (hf3 a ha))]; exact hz2
 have P4:=P3.other (tkC s.hd) (i:=h.next) P.ext.1 (by omega) (by have:=P.tl; omega) hf3
 refine ⟨h3.put h.next (some (tkC s.hd)), ls3, fun α pan ret=>?_, P4, ⟨by show h.next≤h3.next; have:=q3.nx; omega, fun i hi hp ha=>by rw [zu, if_neg (by omega), q3.keep i (by omega) hp ha, q2.keep i (by omega) hp ha, x1.2 i hi], fun _ _=>.inr rfl⟩⟩
 rw [start, dF (by omega:¬ (s.made:Int) = 60), cond_false, p_made P1, zw (by omega) (by omega)]
 refine (e2 α _).trans ?_
 rw [e3]
 show (st1 ((⟨h.next, 0⟩:Ad).add 0) (.int .i64 s.hd.kind) <| st1 ((⟨h.next, 0⟩:Ad).add 1) (.int .i64 s.hd.pos) <| st1 ((⟨h.next, 0⟩:Ad).add 2) (.str s.hd.text) <| st1 ((⟨h.next, 0⟩:Ad).add 3) (.int .i64 s.hd.num) _) h3 = _
 rw [st4_run hz3, zid (t:=s.hd) (by rw [yi])]
end
end Go.Ab.S5
