
set_option linter.unusedVariables false
set_option linter.unusedSimpArgs false
set_option linter.unusedSectionVars false
namespace Go.Ab.S9
structure PG where
 own:Nat->Bool
 pr:Nat->Nat
 E:Nat->Nat->Prop
def zac (f:Nat->Nat) (p:Bool):Prop:=∃ q, (q % 2 == 1) = p ∧ (∀ N, ∃ k, N≤k ∧ f k = q) ∧ ∃ N, ∀ k, N≤k->f k≤q
theorem zac.tail {f:Nat->Nat} {p:Bool} (n:Nat) (h:zac (fun k=>f (k + n)) p):zac f p:=by
 obtain ⟨q, h1, h2, N, h3⟩:=h
 refine ⟨q, h1, fun M=>?_, N + n, fun k hk=>?_⟩
 ·obtain ⟨k, hk, e⟩:=h2 M
  exact ⟨k + n, by omega, e⟩
 ·have:f (k - n + n)≤q:=h3 (k - n) (by omega)
  rw [show k - n + n = k by omega] at this
  exact this
theorem zac.uniq {f:Nat->Nat} {p p':Bool} (h:zac f p) (g:zac f p'):p = p':=by
 obtain ⟨q, h1, h2, N, h3⟩:=h
 obtain ⟨r, g1, g2, M, g3⟩:=g
 have a:q≤r:=by
  obtain ⟨k, hk, e⟩:=h2 M
  have:=g3 k hk; omega
 have b:r≤q:=by
  obtain ⟨k, hk, e⟩:=g2 N
  have:=h3 k hk; omega
 have:q = r:=by omega
 rw [← h1, ← g1, this]
def Tot (G:PG) (I:Nat->Prop):Prop:=∀ i, I i->∃ j, G.E i j ∧ I j
structure Strat (G:PG) (I W:Nat->Prop) (p:Bool) (σ:Nat->Nat):Prop where
 mine:∀ i, W i->G.own i = p->G.E i (σ i) ∧ W (σ i)
 other:∀ i, W i->G.own i = !p->∀ j, G.E i j->I j->W j
 plays:∀ π:Nat->Nat, (∀ k, W (π k))->(∀ k, G.E (π k) (π (k + 1)))->(∀ k, G.own (π k) = p->π (k + 1) = σ (π k))->zac (fun k=>G.pr (π k)) p
structure Win (G:PG) (I W:Nat->Prop) (p:Bool):Prop where
 sub:∀ i, W i->I i
 st:∃ σ, Strat G I W p σ
structure Attr (G:PG) (I:Nat->Prop) (p:Bool) (T A:Nat->Prop):Prop where
 sub:∀ i, A i->I i
 top:∀ i, T i->I i->A i
 rank:∃ r:Nat->Nat, (∀ i, A i->¬ T i->G.own i = p->∃ j, G.E i j ∧ A j ∧ r j < r i) ∧ (∀ i, A i->¬ T i->G.own i = !p->∀ j, G.E i j->I j->A j ∧ r j < r i)
 out:∀ i, I i->¬ A i->(G.own i = p->∀ j, G.E i j->I j->¬ A j) ∧ (G.own i = !p->∃ j, G.E i j ∧ I j ∧ ¬ A j)
theorem own_or {G:PG} (p:Bool) (i:Nat):G.own i = p ∨ G.own i = !p:=by cases G.own i <;> cases p <;> simp
theorem Attr.tot {G:PG} {I T A:Nat->Prop} {p:Bool} (a:Attr G I p T A) (t:Tot G I):Tot G fun i=>I i ∧ ¬ A i:=by
 rintro i ⟨hi, ha⟩
 obtain ⟨o1, o2⟩:=a.out i hi ha
 rcases own_or (G:=G) p i with h | h
 ·obtain ⟨j, h1, h2⟩:=t i hi
  exact ⟨j, h1, h2, o1 h j h1 h2⟩
 ·obtain ⟨j, h1, h2, h3⟩:=o2 h
  exact ⟨j, h1, h2, h3⟩
theorem zis (G:PG) (I:Nat->Prop) (p:Bool):Win G I (fun _=>False) p:=
 ⟨fun _ h=>h.elim, ⟨fun i=>i, ⟨fun _ h=>h.elim, fun _ h=>h.elim, fun π h=>(h 0).elim⟩⟩⟩
theorem Win.congr {G:PG} {I J W V:Nat->Prop} {p:Bool} (h:Win G I W p) (hI:∀ i, I i ↔ J i) (hW:∀ i, W i ↔ V i):Win G J V p:=by
 have e1:I = J:=funext fun i=>propext (hI i)
 have e2:W = V:=funext fun i=>propext (hW i)
 subst e1 e2
 exact h
theorem comes {G:PG} {I T A:Nat->Prop} {p:Bool} {r:Nat->Nat} {π:Nat->Nat} {σ:Nat->Nat}
  (hr:(∀ i, A i->¬ T i->G.own i = p->G.E i (σ i) ∧ A (σ i) ∧ r (σ i) < r i) ∧ (∀ i, A i->¬ T i->G.own i = !p->∀ j, G.E i j->I j->A j ∧ r j < r i))
  (hI:∀ k, I (π k)) (hE:∀ k, G.E (π k) (π (k + 1))) (hσ:∀ k, A (π k)->¬ T (π k)->G.own (π k) = p->π (k + 1) = σ (π k)):∀ (n k:Nat), r (π k) < n->A (π k)->∃ k', k≤k' ∧ A (π k') ∧ T (π k'):=by
 intro n
 induction n with
 | zero=>intro k h; omega
 | succ n ih=>
  intro k h ha
  by_cases ht:T (π k)
  ·exact ⟨k, Nat.le_refl _, ha, ht⟩
  ·have next:A (π (k + 1)) ∧ r (π (k + 1)) < r (π k):=by
    rcases own_or (G:=G) p (π k) with ho | ho
    ·rw [hσ k ha ht ho]
     exact (hr.1 _ ha ht ho).2
    ·exact hr.2 _ ha ht ho _ (hE k) (hI _)
   obtain ⟨k', h1, h2⟩:=ih (k + 1) (by omega) next.1
   exact ⟨k', by omega, h2⟩
open Classical in
theorem zhg {G:PG} {I T A:Nat->Prop} {p:Bool} (a:Attr G I p T A):∃ (r σ:Nat->Nat), (∀ i, A i->¬ T i->G.own i = p->G.E i (σ i) ∧ A (σ i) ∧ r (σ i) < r i) ∧ (∀ i, A i->¬ T i->G.own i = !p->∀ j, G.E i j->I j->A j ∧ r j < r i):=by
 obtain ⟨r, h1, h2⟩:=a.rank
 refine ⟨r, fun i=>if h:A i ∧ ¬ T i ∧ G.own i = p then (h1 i h.1 h.2.1 h.2.2).choose else 0, fun i x y z=>?_, h2⟩
 have h:A i ∧ ¬ T i ∧ G.own i = p:=⟨x, y, z⟩
 simp only [dif_pos h]
 exact (h1 i x y z).choose_spec
open Classical in
theorem zielonka1 {G:PG} {I T A:Nat->Prop} {p:Bool} {d:Nat} (t:Tot G I) (hd:(d % 2 == 1) = p) (hT:∀ i, T i->G.pr i = d) (hmax:∀ i, I i->G.pr i≤d) (a:Attr G I p T A)
  (w:Win G (fun i=>I i ∧ ¬ A i) (fun i=>I i ∧ ¬ A i) p):Win G I I p:=by
 obtain ⟨r, σa, ha⟩:=zhg a
 obtain ⟨σ', s⟩:=w.st
 let σ:Nat->Nat:=fun i=>if A i then (if T i then (if h:I i then (t i h).choose else 0) else σa i) else σ' i
 refine ⟨fun _ h=>h, σ, ⟨fun i hi ho=>?_, fun i hi ho j hE hj=>hj, fun π hI hE hσ=>?_⟩⟩
 ·by_cases hA:A i
  ·by_cases hTi:T i
   ·have e:σ i = (t i hi).choose:=by simp [σ, hA, hTi, hi]
    rw [e]; exact (t i hi).choose_spec
   ·have e:σ i = σa i:=by simp [σ, hA, hTi]
    rw [e]
    obtain ⟨h1, h2, _⟩:=ha.1 i hA hTi ho
    exact ⟨h1, a.sub _ h2⟩
  ·have e:σ i = σ' i:=by simp [σ, hA]
   rw [e]
   obtain ⟨h1, h2⟩:=s.mine i ⟨hi, hA⟩ ho
   exact ⟨h1, h2.1⟩
 ·by_cases c:∀ N, ∃ k, N≤k ∧ A (π k)
  ·refine ⟨d, hd, fun N=>?_, 0, fun k _=>hmax _ (hI k)⟩
   obtain ⟨k, hk, hA⟩:=c N
   obtain ⟨k', h1, _, h2⟩:=comes ha hI hE (fun k h1 h2 h3=>by rw [hσ k h3]; simp [σ, h1, h2]) (r (π k) + 1) k (Nat.lt_succ_self _) hA
   exact ⟨k', by omega, hT _ h2⟩
  ·obtain ⟨N, hN⟩:=Classical.not_forall.1 c
   have hN:∀ k, N≤k->¬ A (π k):=fun k hk hA=>hN ⟨k, hk, hA⟩
   refine zac.tail N (s.plays (fun k=>π (k + N)) (fun k=>⟨hI _, hN _ (by omega)⟩) (fun k=>?_) fun k ho=>?_)
   ·have:=hE (k + N)
    rw [show k + N + 1 = k + 1 + N by omega] at this
    exact this
   ·have:=hσ (k + N) ho
    rw [show k + N + 1 = k + 1 + N by omega] at this
    rw [this]
    simp [σ, hN (k + N) (by omega)]
theorem zielonka2 {G:PG} {I L B S:Nat->Prop} {p:Bool} (b:Attr G I (!p) L B) (w:Win G (fun i=>I i ∧ ¬ B i) S p):Win G I S p:=by
 obtain ⟨σ, s⟩:=w.st
 refine ⟨fun i h=>(w.sub i h).1, σ, ⟨s.mine, fun i hi ho j hE hj=>?_, s.plays⟩⟩
 have hB:=(b.out i (w.sub i hi).1 (w.sub i hi).2).1 ho j hE hj
 exact s.other i hi ho j hE ⟨hj, hB⟩
open Classical in
theorem zielonka3 {G:PG} {I T A L B S:Nat->Prop} {p:Bool} (a:Attr G I p T A) (l:Win G (fun i=>I i ∧ ¬ A i) L (!p)) (b:Attr G I (!p) L B) (w:Win G (fun i=>I i ∧ ¬ B i) S (!p)) :
  Win G I (fun i=>S i ∨ B i) (!p):=by
 obtain ⟨r, σb, hb⟩:=zhg b
 obtain ⟨σl, sl⟩:=l.st
 obtain ⟨σs, ss⟩:=w.st
 have LB:∀ i, L i->B i:=fun i h=>b.top i h (l.sub i h).1
 have sub:∀ i, S i ∨ B i->I i:=fun i h=>h.elim (fun h=>(w.sub i h).1) (b.sub i)
 let σ:Nat->Nat:=fun i=>if L i then σl i else if B i then σb i else σs i
 -- from what was won behind the highest nothing leads away
 have Lother:∀ i, L i->G.own i = p->∀ j, G.E i j->I j->L j:=fun i hi ho j hE hj=>by
  have hA:=(a.out i (l.sub i hi).1 (l.sub i hi).2).1 ho j hE hj
  exact sl.other i hi (by simpa using ho) j hE ⟨hj, hA⟩
 refine ⟨sub, σ, ⟨fun i hi ho=>?_, fun i hi ho j hE hj=>?_, fun π hW hE hσ=>?_⟩⟩
 ·by_cases hL:L i
  ·have e:σ i = σl i:=by simp [σ, hL]
   rw [e]
   obtain ⟨h1, h2⟩:=sl.mine i hL ho
   exact ⟨h1, .inr (LB _ h2)⟩
  ·by_cases hB:B i
   ·have e:σ i = σb i:=by simp [σ, hL, hB]
    rw [e]
    obtain ⟨h1, h2, _⟩:=hb.1 i hB hL ho
    exact ⟨h1, .inr h2⟩
   ·have e:σ i = σs i:=by simp [σ, hL, hB]
    rw [e]
    obtain ⟨h1, h2⟩:=ss.mine i (hi.resolve_right hB) ho
    exact ⟨h1, .inl h2⟩
 ·have ho':G.own i = p:=by simpa using ho
  by_cases hL:L i
  ·exact .inr (LB _ (Lother i hL ho' j hE hj))
  ·by_cases hB:B i
   ·exact .inr (hb.2 i hB hL ho j hE hj).1
   ·by_cases hBj:B j
    ·exact .inr hBj
    ·exact .inl (ss.other i (hi.resolve_right hB) ho j hE ⟨hj, hBj⟩)
 ·have hI:∀ k, I (π k):=fun k=>sub _ (hW k)
  have Lnext:∀ k, L (π k)->L (π (k + 1)):=fun k hL=>by
   rcases own_or (G:=G) p (π k) with ho | ho
   ·exact Lother _ hL ho _ (hE k) (hI _)
   ·rw [hσ k ho]
    have e:σ (π k) = σl (π k):=by simp [σ, hL]
    rw [e]
    exact (sl.mine _ hL ho).2
  by_cases c:∃ k, L (π k)
  ·obtain ⟨N, hN⟩:=c
   have stay:∀ k, L (π (k + N)):=fun k=>by
    induction k with
    | zero=>rw [Nat.zero_add]; exact hN
    | succ k ih=>
     have:=Lnext _ ih
     rw [show k + N + 1 = k + 1 + N by omega] at this
     exact this
   refine zac.tail N (sl.plays (fun k=>π (k + N)) stay (fun k=>?_) fun k ho=>?_)
   ·have:=hE (k + N)
    rw [show k + N + 1 = k + 1 + N by omega] at this
    exact this
   ·have:=hσ (k + N) ho
    rw [show k + N + 1 = k + 1 + N by omega] at this
    rw [this]
    simp [σ, stay k]
  ·have nL:∀ k, ¬ L (π k):=fun k h=>c ⟨k, h⟩
   have nB:∀ k, ¬ B (π k):=fun k hB=>by
    obtain ⟨k', _, _, h⟩:=comes hb hI hE (fun k h1 h2 h3=>by rw [hσ k h3]; simp [σ, h1, h2]) (r (π k) + 1) k (Nat.lt_succ_self _) hB
    exact nL k' h
   refine ss.plays π (fun k=>(hW k).resolve_right (nB k)) hE fun k ho=>?_
   rw [hσ k ho]
   simp [σ, nL k, nB k]
open Classical in
theorem no_worse {G G':PG} {I W W':Nat->Prop} (t:Tot G I) (hE:∀ i j, G'.E i j ↔ G.E i j) (ho:∀ i, G'.own i = true->G.own i = true)
  (hp:∀ π:Nat->Nat, zac (fun k=>G.pr (π k)) false->zac (fun k=>G'.pr (π k)) false) (w:Win G I W false) (w':Win G' I W' true):∀ i, W i->¬ W' i:=by
 intro i0 h0 h0'
 obtain ⟨σ, s⟩:=w.st
 obtain ⟨σ', s'⟩:=w'.st
 let nx:Nat->Nat:=fun i=>if G.own i = false then σ i else if G'.own i = true then σ' i else if h:I i then (t i h).choose else 0
 have step:∀ i, W i->W' i->G.E i (nx i) ∧ W (nx i) ∧ W' (nx i):=by
  intro i hi hi'
  have hI:=w.sub i hi
  cases hq:G.own i with
  | false=>
   have e:nx i = σ i:=by simp [nx, hq]
   have hq':G'.own i = false:=by
    cases hz:G'.own i with
    | false=>rfl
    | true=>rw [ho i hz] at hq; cases hq
   rw [e]
   obtain ⟨h1, h2⟩:=s.mine i hi hq
   exact ⟨h1, h2, s'.other i hi' (by rw [hq']; rfl) _ ((hE _ _).2 h1) (w.sub _ h2)⟩
  | true=>
   cases hz:G'.own i with
   | true=>
    have e:nx i = σ' i:=by simp [nx, hq, hz]
    rw [e]
    obtain ⟨h1, h2⟩:=s'.mine i hi' hz
    exact ⟨(hE _ _).1 h1, s.other i hi (by rw [hq]; rfl) _ ((hE _ _).1 h1) (w'.sub _ h2), h2⟩
   | false=>
    have e:nx i = (t i hI).choose:=by simp [nx, hq, hz, hI]
    rw [e]
    obtain ⟨h1, h2⟩:=(t i hI).choose_spec
    exact ⟨h1, s.other i hi (by rw [hq]; rfl) _ h1 h2, s'.other i hi' (by rw [hz]; rfl) _ ((hE _ _).2 h1) h2⟩
 let π:Nat->Nat:=fun k=>Nat.rec i0 (fun _ x=>nx x) k
 have hπ:∀ k, W (π k) ∧ W' (π k):=fun k=>by
  induction k with
  | zero=>exact ⟨h0, h0'⟩
  | succ k ih=>exact (step _ ih.1 ih.2).2
 have hs:∀ k, π (k + 1) = nx (π k):=fun k=>rfl
 have hedge:∀ k, G.E (π k) (π (k + 1)):=fun k=>by rw [hs]; exact (step _ (hπ k).1 (hπ k).2).1
 have m1:=s.plays π (fun k=>(hπ k).1) hedge fun k hk=>by rw [hs]; simp [nx, hk]
 have m2:=s'.plays π (fun k=>(hπ k).2) (fun k=>(hE _ _).2 (hedge k)) fun k hk=>by
  rw [hs]
  have:=ho _ hk
  simp [nx, hk, this]
 exact absurd ((hp π m1).uniq m2) (by decide)
theorem raised {f g:Nat->Nat} {π:Nat->Nat} {at':Nat} (hsame:∀ i, i ≠ at'->g i = f i) (hup:g at' = f at' + 1) (he:g at' % 2 = 0) (h:zac (fun k=>f (π k)) false):zac (fun k=>g (π k)) false:=by
 obtain ⟨q, h1, h2, N, h3⟩:=h
 have h1':q % 2 = 0:=by
  have:¬ q % 2 = 1:=by simpa using h1
  omega
 have hq:∀ k, f (π k) = q->g (π k) = q:=fun k e=>by
  have hne:π k ≠ at':=fun e'=>by rw [e'] at e; omega
  rw [hsame _ hne]; exact e
 by_cases c:∀ M, ∃ k, M≤k ∧ π k = at'
 ·by_cases d:g at'≤q
  ·refine ⟨q, h1, fun M=>?_, N, fun k hk=>?_⟩
   ·obtain ⟨k, hk, e⟩:=h2 M
    exact ⟨k, hk, hq k e⟩
   ·show g (π k)≤q
    by_cases e:π k = at'
    ·rw [e]; exact d
    ·rw [hsame _ e]; exact h3 k hk
  ·refine ⟨g at', by simp [he], fun M=>?_, N, fun k hk=>?_⟩
   ·obtain ⟨k, hk, e⟩:=c M
    exact ⟨k, hk, by show g (π k) = _; rw [e]⟩
   ·show g (π k)≤g at'
    by_cases e:π k = at'
    ·rw [e]; exact Nat.le_refl _
    ·rw [hsame _ e]
     have:f (π k)≤q:=h3 k hk
     omega
 ·obtain ⟨M, hM⟩:=Classical.not_forall.1 c
  have hM:∀ k, M≤k->π k ≠ at':=fun k hk e=>hM ⟨k, hk, e⟩
  refine ⟨q, h1, fun L=>?_, N + M, fun k hk=>?_⟩
  ·obtain ⟨k, hk, e⟩:=h2 L
   exact ⟨k, hk, hq k e⟩
  ·show g (π k)≤q
   rw [hsame _ (hM k (by omega))]
   exact h3 k (by omega)
theorem lowered {f g:Nat->Nat} {π:Nat->Nat} {at':Nat} (hsame:∀ i, i ≠ at'->g i = f i) (hup:g at' = f at' + 1) (he:g at' % 2 = 1) (h:zac (fun k=>g (π k)) false):zac (fun k=>f (π k)) false:=by
 obtain ⟨q, h1, h2, N, h3⟩:=h
 have h1':q % 2 = 0:=by
  have:¬ q % 2 = 1:=by simpa using h1
  omega
 have hq:∀ k, g (π k) = q->f (π k) = q:=fun k e=>by
  have hne:π k ≠ at':=fun e'=>by rw [e'] at e; omega
  rw [← hsame _ hne]; exact e
 refine ⟨q, h1, fun L=>?_, N, fun k hk=>?_⟩
 ·obtain ⟨k, hk, e⟩:=h2 L
  exact ⟨k, hk, hq k e⟩
 ·have:g (π k)≤q:=h3 k hk
  show f (π k)≤q
  by_cases e:π k = at'
  ·rw [e] at this ⊢; omega
  ·rw [← hsame _ e]; exact this
end Go.Ab.S9
namespace Go.Ab.S9
theorem pig:∀ (n:Nat) (l:List Nat), l.Nodup->(∀ x ∈ l, x < n)->l.length≤n
 | 0, l, _, hx=>by cases l with | nil=>exact Nat.le_refl _ | cons a l=>exact absurd (hx a List.mem_cons_self) (Nat.not_lt_zero _)
 | n + 1, l, hd, hx=>by
  by_cases hn:n ∈ l
  ·have h1:=pig n (l.erase n) (hd.erase n) fun x hm=>by
    have h2:=(hd.mem_erase_iff).1 hm
    have:=hx x h2.2
    have:=h2.1
    omega
   rw [List.length_erase_of_mem hn] at h1
   omega
  ·have:=pig n l hd fun x hm=>by
    have h1:=hx x hm
    have:x ≠ n:=fun e=>hn (e ▸ hm)
    omega
   omega
theorem zbk {F:List Nat} {t i:Nat} (hi:F[t]? = some i) (j:Nat):(F.take (t + 1)).count j = (F.take t).count j + if i = j then 1 else 0:=by
 rw [List.take_add_one, List.count_append, hi]
 by_cases e:i = j
 ·subst e; simp
 ·rw [if_neg e]; simp [List.count_cons, e]
structure AInv (G:PG) (sv:Nat->List Nat) (I T:Nat->Prop) (p:Bool) (L:List Nat) (S:Nat):Prop where
 set:∀ j, S.testBit j = true ↔ j ∈ L
 nd:L.Nodup
 inI:∀ j ∈ L, I j
 tp:∀ i, T i->I i->i ∈ L
 rk:∃ r:Nat->Nat, (∀ j ∈ L, r j < L.length) ∧ ∀ i ∈ L, ¬ T i->(G.own i = p->∃ m ∈ sv i, m ∈ L ∧ r m < r i) ∧ (G.own i = !p->∀ m ∈ sv i, I m->m ∈ L ∧ r m < r i)
def cnt (I:Nat->Bool) (D:List Nat) (l:List Nat):Nat:=l.countP fun m=>I m && !D.contains m
def Acc (G:PG) (sv:Nat->List Nat) (I:Nat->Bool) (p:Bool) (L D F:List Nat) (t:Nat) (lf:Nat->Int):Prop:=
 ∀ i, I i = true->lf i + ((F.take t).count i:Int) = (cnt I D (sv i):Int) ∧
  (i ∉ L->(G.own i = p->(∀ m ∈ sv i, I m = true->m ∉ D) ∧ i ∉ F.take t) ∧ (G.own i = (!p)->0 < lf i))
section
variable {G:PG} {sv:Nat->List Nat} {I:Nat->Bool} {T:Nat->Prop} {p:Bool} {L D F:List Nat} {S t:Nat} {lf:Nat->Int}
theorem Acc.start (a:Acc G sv I p L D [] 0 lf) (F:List Nat):Acc G sv I p L D F 0 lf:=fun i hi=>by
 have:=a i hi
 simpa using this
theorem Acc.skip (a:Acc G sv I p L D F t lf) {i:Nat} (hi:F[t]? = some i) (hs:i ∈ L ∨ (G.own i = (!p) ∧ 0 < lf i - 1)) :
  Acc G sv I p L D F (t + 1) (fun j=>if j = i then lf i - 1 else lf j):=fun j hj=>by
 obtain ⟨a1, a2⟩:=a j hj
 rw [zbk hi]
 dsimp only
 by_cases e:j = i
 ·subst e
  rw [if_pos rfl, if_pos rfl]
  refine ⟨by push_cast; omega, fun hn=>?_⟩
  rcases hs with hs | ⟨h1, h2⟩
  ·exact absurd hs hn
  ·exact ⟨fun ho=>by rw [h1] at ho; cases p <;> simp at ho, fun _=>h2⟩
 ·rw [if_neg e, if_neg (fun q=>e q.symm)]
  refine ⟨by push_cast; omega, fun hn=>?_⟩
  obtain ⟨b1, b2⟩:=a2 hn
  refine ⟨fun ho=>⟨(b1 ho).1, fun hm=>?_⟩, b2⟩
  rw [List.take_add_one, hi, List.mem_append] at hm
  rcases hm with hm | hm
  ·exact (b1 ho).2 hm
  ·simp at hm; exact e hm
theorem Acc.add (a:Acc G sv I p L D F t lf) {i:Nat} (hi:F[t]? = some i):Acc G sv I p (L ++ [i]) D F (t + 1) (fun j=>if j = i then lf i - 1 else lf j):=fun j hj=>by
 obtain ⟨a1, a2⟩:=a j hj
 rw [zbk hi]
 dsimp only
 by_cases e:j = i
 ·subst e
  rw [if_pos rfl, if_pos rfl]
  exact ⟨by push_cast; omega, fun hn=>absurd (List.mem_append_right _ (List.mem_singleton.2 rfl)) hn⟩
 ·rw [if_neg e, if_neg (fun q=>e q.symm)]
  refine ⟨by push_cast; omega, fun hn=>?_⟩
  obtain ⟨b1, b2⟩:=a2 fun q=>hn (List.mem_append_left _ q)
  refine ⟨fun ho=>⟨(b1 ho).1, fun hm=>?_⟩, b2⟩
  rw [List.take_add_one, hi, List.mem_append] at hm
  rcases hm with hm | hm
  ·exact (b1 ho).2 hm
  ·simp at hm; exact e hm
theorem ziu {m:Nat} (hI:I m = true) (hm:m ∉ D) (l:List Nat):cnt I D l = cnt I (D ++ [m]) l + l.count m:=by
 unfold cnt
 induction l with
 | nil=>rfl
 | cons x l ih=>
  rw [List.countP_cons, List.countP_cons, List.count_cons, ih]
  by_cases e:x = m
  ·subst e
   have h1:(!D.contains x) = true:=by
    cases h:D.contains x with
    | false=>rfl
    | true=>exact absurd (List.contains_iff_mem.1 h) hm
   have h2:(!(D ++ [x]).contains x) = false:=by
    have:(D ++ [x]).contains x = true:=List.contains_iff_mem.2 (List.mem_append_right _ (List.mem_singleton.2 rfl))
    rw [this]; rfl
   rw [h1, h2, hI, if_pos (by rfl), if_neg (by decide), if_pos (by simp)]
   omega
  ·have h1:(D ++ [m]).contains x = D.contains x:=by
    cases h:D.contains x with
    | true=>exact List.contains_iff_mem.2 (List.mem_append_left _ (List.contains_iff_mem.1 h))
    | false=>
     cases h2:(D ++ [m]).contains x with
     | false=>rfl
     | true=>
      rcases List.mem_append.1 (List.contains_iff_mem.1 h2) with h3 | h3
      ·rw [List.contains_iff_mem.2 h3] at h; cases h
      ·exact absurd (List.mem_singleton.1 h3) e
   have h2:(x == m) = false:=by simpa using e
   rw [h1, h2, if_neg (by decide:¬ false = true)]
   omega
theorem Acc.fin {m:Nat} (a:Acc G sv I p L D F F.length lf) (hI:I m = true) (hm:m ∉ D) (hF:∀ i, I i = true->F.count i = (sv i).count m):Acc G sv I p L (D ++ [m]) [] 0 lf:=fun i hi=>by
 obtain ⟨a1, a2⟩:=a i hi
 rw [List.take_length] at a1 a2
 have:=ziu hI hm (sv i)
 have hF:=hF i hi
 refine ⟨by simp; omega, fun hn=>?_⟩
 obtain ⟨b1, b2⟩:=a2 hn
 refine ⟨fun ho=>⟨fun q hq hIq hqD=>?_, by simp⟩, b2⟩
 rw [List.mem_append] at hqD
 rcases hqD with hqD | hqD
 ·exact (b1 ho).1 q hq hIq hqD
 ·have e:=List.mem_singleton.1 hqD
  subst e
  have h1:=List.count_pos_iff.2 hq
  exact (b1 ho).2 (List.count_pos_iff.1 (by omega))
theorem AInv.add {m i:Nat} (v:AInv G sv (fun j=>I j = true) T p L S) (a:Acc G sv I p L D F t lf) (hi:F[t]? = some i) (hIi:I i = true) (hI:I m = true) (hm:m ∉ D) (hmL:m ∈ L) (hD:∀ d ∈ D, d ∈ L)
  (hF:∀ i, I i = true->F.count i = (sv i).count m) (hn:i ∉ L) (hs:¬ (G.own i = (!p) ∧ 0 < lf i - 1)):AInv G sv (fun j=>I j = true) T p (L ++ [i]) (S ||| 2 ^ i):=by
 obtain ⟨a1, a2⟩:=a i hIi
 obtain ⟨r, r1, r2⟩:=v.rk
 have hle:(F.take (t + 1)).count i≤F.count i:=List.Sublist.count_le _ (List.take_sublist _ _)
 rw [zbk hi, if_pos rfl] at hle
 have hFi:=hF i hIi
 have hms:m ∈ sv i:=List.count_pos_iff.1 (by omega)
 refine ⟨fun j=>?_, ?_, ?_, fun j h1 h2=>List.mem_append_left _ (v.tp j h1 h2), fun j=>if j = i then L.length else r j, ?_, ?_⟩
 ·rw [Nat.testBit_or, Nat.testBit_two_pow, List.mem_append, List.mem_singleton, Bool.or_eq_true, v.set, decide_eq_true_eq]
  exact or_congr Iff.rfl eq_comm
 ·rw [List.nodup_append]
  exact ⟨v.nd, by simp, fun x hx y hy e=>by rw [List.mem_singleton] at hy; subst hy; subst e; exact hn hx⟩
 ·intro j hj
  rcases List.mem_append.1 hj with hj | hj
  ·exact v.inI j hj
  ·rw [List.mem_singleton] at hj; subst hj; exact hIi
 ·intro j hj
  rw [List.length_append]
  show (if j = i then L.length else r j) < L.length + 1
  by_cases e:j = i
  ·rw [if_pos e]; omega
  ·rw [if_neg e]
   rcases List.mem_append.1 hj with hj | hj
   ·have:=r1 j hj; omega
   ·exact absurd (List.mem_singleton.1 hj) e
 ·have key:∀ q, q ∈ L->q ∈ L ++ [i] ∧ (if q = i then L.length else r q) = r q:=fun q hq=>⟨List.mem_append_left _ hq, if_neg (show ¬ q = i from fun e=>hn (e ▸ hq))⟩
  intro j hj hT
  rcases List.mem_append.1 hj with hj | hj
  ·obtain ⟨b1, b2⟩:=r2 j hj hT
   refine ⟨fun ho=>?_, fun ho q hq hIq=>?_⟩
   ·obtain ⟨q, h1, h2, h3⟩:=b1 ho
    refine ⟨q, h1, (key q h2).1, ?_⟩
    dsimp only
    rw [(key q h2).2, (key j hj).2]; exact h3
   ·obtain ⟨h2, h3⟩:=b2 ho q hq hIq
    refine ⟨(key q h2).1, ?_⟩
    dsimp only
    rw [(key q h2).2, (key j hj).2]; exact h3
  ·rw [List.mem_singleton] at hj
   subst hj
   refine ⟨fun ho=>⟨m, hms, (key m hmL).1, ?_⟩, fun ho q hq hIq=>?_⟩
   ·dsimp only
    rw [(key m hmL).2, if_pos rfl]; exact r1 m hmL
   ·-- nothing keeps it out
    have h0:lf j - 1≤0:=by
     rcases Int.lt_or_le 0 (lf j - 1) with h | h
     ·exact absurd ⟨ho, h⟩ hs
     ·exact h
    have hsp:=ziu hI hm (sv j)
    have hz:cnt I (D ++ [m]) (sv j) = 0:=by omega
    have hq2:q ∈ L:=by
     unfold cnt at hz
     rw [List.countP_eq_zero] at hz
     have:=hz q hq
     rw [hIq, Bool.true_and] at this
     have hc:(D ++ [m]).contains q = true:=by
      cases e:(D ++ [m]).contains q with
      | true=>rfl
      | false=>rw [e] at this; exact absurd rfl this
     have hc:=List.contains_iff_mem.1 hc
     rcases List.mem_append.1 hc with hc | hc
     ·exact hD q hc
     ·rw [List.mem_singleton] at hc; subst hc; exact hmL
    refine ⟨(key q hq2).1, ?_⟩
    dsimp only
    rw [(key q hq2).2, if_pos rfl]; exact r1 q hq2
theorem AInv.attr (v:AInv G sv (fun j=>I j = true) T p L S) (a:Acc G sv I p L L [] 0 lf) (hE:∀ i j, I i = true->(G.E i j ↔ j ∈ sv i)):Attr G (fun j=>I j = true) p T (fun j=>S.testBit j = true):=by
 obtain ⟨r, r1, r2⟩:=v.rk
 refine ⟨fun i hi=>v.inI i ((v.set i).1 hi), fun i h1 h2=>(v.set i).2 (v.tp i h1 h2), ⟨r, fun i hA hT ho=>?_, fun i hA hT ho j hij hIj=>?_⟩, fun i hIi hA=>⟨fun ho j hij hIj hAj=>?_, fun ho=>?_⟩⟩
 ·have hL:=(v.set i).1 hA
  obtain ⟨m, h1, h2, h3⟩:=(r2 i hL hT).1 ho
  exact ⟨m, (hE i m (v.inI i hL)).2 h1, (v.set m).2 h2, h3⟩
 ·have hL:=(v.set i).1 hA
  obtain ⟨h2, h3⟩:=(r2 i hL hT).2 ho j ((hE i j (v.inI i hL)).1 hij) hIj
  exact ⟨(v.set j).2 h2, h3⟩
 ·have hn:i ∉ L:=fun q=>hA ((v.set i).2 q)
  exact ((a i hIi).2 hn).1 ho |>.1 j ((hE i j hIi).1 hij) hIj ((v.set j).1 hAj)
 ·have hn:i ∉ L:=fun q=>hA ((v.set i).2 q)
  have h1:=(a i hIi).1
  have h2:=((a i hIi).2 hn).2 ho
  have hpos:0 < cnt I L (sv i):=by simp at h1; omega
  unfold cnt at hpos
  rw [List.countP_pos_iff] at hpos
  obtain ⟨m, hm, hc⟩:=hpos
  rw [Bool.and_eq_true] at hc
  refine ⟨m, (hE i m hIi).2 hm, hc.1, fun hAm=>?_⟩
  have:=(v.set m).1 hAm
  have h3:=List.contains_iff_mem.2 this
  rw [h3] at hc
  exact absurd hc.2 (by decide)
end
end Go.Ab.S9
