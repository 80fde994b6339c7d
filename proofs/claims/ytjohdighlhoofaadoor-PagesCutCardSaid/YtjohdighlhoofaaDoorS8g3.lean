import Derived.Test.YtjohdighlhoofaaDoorS8gr
set_option linter.unusedVariables false
set_option linter.unusedSimpArgs false
namespace Go.Ab.S8
variable {α:Type} {h:H}
theorem same_loop (k:Nat) (kr:Bool->M α) (kx:M α) {a b:Sl} {la lb:List Int} (ra:Rd h a 1 (la.flatMap cI)) (rb:Rd h b 1 (lb.flatMap cI)) (hl:la.length = lb.length) (hb:la.length≤4611686018427387904) :
  ∀ (f j:Nat), j≤la.length->la.length - j < f->qm.u4.l k kr kx f a b (j:Int) h = if la.drop j = lb.drop j then kx h else kr false h:=by
 have l1:=ilen ra
 intro f
 induction f with
 | zero=>intro j _ hf; omega
 | succ f ih=>
  intro j hj hf
  rw [qm.u4.l, qm.u3.f, l1]
  rcases idec hj with ⟨v, hv, hd, hlt⟩ | ⟨hd, he⟩
  ·have hlt':j < lb.length:=by omega
   have hw:lb[j]? = some lb[j]:=List.getElem?_eq_getElem hlt'
   have hd':lb.drop j = lb[j] :: lb.drop (j + 1):=List.drop_eq_getElem_cons hlt'
   rw [dT (by omega:(j:Int) < (la.length:Int)), cond_true, zbh ra rfl hv, zbh rb rfl hw, hd, hd']
   by_cases c:v = lb[j]
   ·rw [dT c, Bool.not_true, cond_false, jl (by omega) (by omega)]
    refine (ih (j + 1) hlt (by omega)).trans ?_
    simp only [c, List.cons.injEq, true_and]
   ·rw [dF c, Bool.not_false, cond_true, if_neg (fun e=>c (List.cons.inj e).1)]
  ·rw [dF (by omega:¬ (j:Int) < (la.length:Int)), cond_false, hd, List.drop_of_length_le (by omega:lb.length≤j), if_pos rfl]
theorem zdg (k:Nat) {a b:Sl} {la lb:List Int} (ra:Rd h a 1 (la.flatMap cI)) (rb:Rd h b 1 (lb.flatMap cI)) (hb:la.length≤4611686018427387904) (hk:la.length < k) (ret:Bool->M α) :
  qm.f (k + 1) a b ret h = ret (decide (la = lb)) h:=by
 rw [qm.f, qm.u9.f, qm.u1.f, ilen ra, ilen rb]
 by_cases c:la.length = lb.length
 ·rw [dT (by omega:(la.length:Int) = (lb.length:Int)), Bool.not_true, cond_false]
  refine (same_loop k ret (qm.u7.f k ret) ra rb c hb k 0 (Nat.zero_le _) (by omega)).trans ?_
  rw [List.drop_zero, List.drop_zero]
  by_cases e:la = lb
  ·rw [if_pos e, dT e]; rfl
  ·rw [if_neg e, dF e]
 ·rw [dF (by omega:¬ (la.length:Int) = (lb.length:Int)), Bool.not_false, cond_true, dF (fun e=>c (by rw [e]))]
structure GB (k:Nat) (g:Gm):Prop where
 o:g.ow.length < k ∧ g.ow.length≤17592186044416
 p:g.pr.length < k ∧ g.pr.length≤17592186044416
 m:g.mv.length < k ∧ g.mv.length≤5864062014805
 l:∀ l ∈ g.mv, l.length < k ∧ l.length≤17592186044416
theorem GB.mono {k j:Nat} {g:Gm} (b:GB k g) (h:k≤j):GB j g:=
 ⟨⟨by have:=b.o.1; omega, b.o.2⟩, ⟨by have:=b.p.1; omega, b.p.2⟩, ⟨by have:=b.m.1; omega, b.m.2⟩, fun l hl=>⟨by have:=(b.l l hl).1; omega, (b.l l hl).2⟩⟩
theorem GB.k {k:Nat} {g:Gm} (b:GB k g):∀ l ∈ g.mv, l.length < k ∧ l.length≤4611686018427387904:=fun l hl=>⟨(b.l l hl).1, by have:=(b.l l hl).2; omega⟩
theorem same_rows (k:Nat) (kr:Bool->M α) (kx:M α) {qa qb:Nat} {o p a o' p' b:Sl} {la lb:List (List Int)} {ra rb:List Sl} (ha:h.get qa = some (gC o p a)) (hb:h.get qb = some (gC o' p' b)) (ma:MvR h a la ra) (mb:MvR h b lb rb)
  (hl:la.length = lb.length) (hk:∀ l ∈ la, l.length < k ∧ l.length≤4611686018427387904) (hlen:la.length≤4611686018427387904) :
  ∀ (f j:Nat), j≤la.length->la.length - j < f->qn.u4.l (k + 1) kr kx f ⟨qa, 0⟩ ⟨qb, 0⟩ (j:Int) h = if la.drop j = lb.drop j then kx h else kr false h:=by
 have l1:=mlen ma
 intro f
 induction f with
 | zero=>intro j _ hf; omega
 | succ f ih=>
  intro j hj hf
  rw [qn.u4.l, qn.u3.f, g_m ha, l1]
  rcases idec hj with ⟨v, hv, hd, hlt⟩ | ⟨hd, he⟩
  ·have hlt':j < lb.length:=by omega
   have hw:lb[j]? = some lb[j]:=List.getElem?_eq_getElem hlt'
   have hd':lb.drop j = lb[j] :: lb.drop (j + 1):=List.drop_eq_getElem_cons hlt'
   obtain ⟨s, rs, _, es⟩:=mv_at ma hv
   obtain ⟨u, ru, _, eu⟩:=mv_at mb hw
   have hbv:=hk v (List.mem_of_getElem? hv)
   rw [dT (by omega:(j:Int) < (la.length:Int)), cond_true, g_m ha, es α _ _ rfl, g_m hb, eu α _ _ rfl, zdg k rs ru hbv.2 hbv.1, hd, hd']
   by_cases c:v = lb[j]
   ·rw [dT c, Bool.not_true, cond_false, jl (by omega) (by omega)]
    refine (ih (j + 1) hlt (by omega)).trans ?_
    simp only [c, List.cons.injEq, true_and]
   ·rw [dF c, Bool.not_false, cond_true, if_neg (fun e=>c (List.cons.inj e).1)]
  ·rw [dF (by omega:¬ (j:Int) < (la.length:Int)), cond_false, hd, List.drop_of_length_le (by omega:lb.length≤j), if_pos rfl]
theorem same_run (k:Nat) {oa pa ma ob pb mb:Sl} {a b:Gm} (ra:GmR h oa pa ma a) (rb:GmR h ob pb mb b) (hb:GB k a) :
  ∃ h', Ext h h' ∧ ∀ (α:Type) (ret:Bool->M α), qn.f (k + 2) oa pa ma ob pb mb ret h = ret (decide (a = b)) h':=by
 obtain ⟨rowa, mra⟩:=ra.m
 obtain ⟨rowb, mrb⟩:=rb.m
 have x:Ext h ((h.push (gC oa pa ma)).push (gC ob pb mb)):=((Ext.refl h).push _).push _
 refine ⟨_, x, fun α ret=>?_⟩
 have hq:((h.push (gC oa pa ma)).push (gC ob pb mb)).get h.next = some (gC oa pa ma):=by rw [zt, if_neg (by rw [zm]; omega), yg]
 have hq':((h.push (gC oa pa ma)).push (gC ob pb mb)).get (h.next + 1) = some (gC ob pb mb):=by rw [zt, if_pos (by rw [zm])]
 have hbo:=hb.o; have hbp:=hb.p; have hbm:=hb.m
 rw [qn.f, qn.u9.f, qn.u1.f, jh rfl, jh rfl]
 rw [show (h.push (gC oa pa ma)).next = h.next + 1 from rfl]
 rw [g_o hq, g_o hq', zdg k (ra.o.ext x) (rb.o.ext x) (by omega) (by omega), g_p hq, g_p hq', zdg k (ra.p.ext x) (rb.p.ext x) (by omega) (by omega)]
 by_cases c1:a.ow = b.ow
 ·rw [dT c1, Bool.not_true, cond_false]
  by_cases c2:a.pr = b.pr
  ·rw [dT c2, Bool.not_true, cond_false, g_m hq, g_m hq', mlen mra, mlen mrb]
   by_cases c3:a.mv.length = b.mv.length
   ·rw [dT (by omega:(a.mv.length:Int) = (b.mv.length:Int)), Bool.not_true, cond_false]
    refine (same_rows k ret (qn.u7.f (k + 1) ret) hq hq' (mra.ext x) (mrb.ext x) c3 hb.k (by omega) (k + 1) 0 (Nat.zero_le _) (by omega)).trans ?_
    rw [List.drop_zero, List.drop_zero]
    by_cases e:a.mv = b.mv
    ·rw [if_pos e, dT (by cases a; cases b; simp_all)]; rfl
    ·rw [if_neg e, dF (fun e'=>e (by rw [e']))]
   ·rw [dF (by omega:¬ (a.mv.length:Int) = (b.mv.length:Int)), Bool.not_false, cond_true, dF (fun e=>c3 (by rw [e]))]
  ·rw [dF c2, Bool.not_false, cond_true, dF (fun e=>c2 (by rw [e]))]
 ·rw [dF c1, Bool.not_false, cond_true, dF (fun e=>c1 (by rw [e]))]
structure MvO (h:H) (b:Nat) (m:Sl) (mv:List (List Int)) (rows:List Sl):Prop where
 app:App h m 1 (rows.flatMap cSl)
 len:rows.length = mv.length
 row:∀ (i:Nat) (r:Sl) (l:List Int), rows[i]? = some r->mv[i]? = some l->Rd h r 1 (l.flatMap cI)
 top:∀ a, m.ad = some a->b≤a.id
 own:∀ (r:Sl) (a:Ad), r ∈ rows->r.ad = some a->b≤a.id ∧ ∀ a', m.ad = some a'->a.id ≠ a'.id
theorem MvO.rd {b:Nat} {m:Sl} {mv:List (List Int)} {rows:List Sl} (r:MvO h b m mv rows):MvR h m mv rows:=⟨r.app.rd, r.len, r.row⟩
theorem MvO.nil (h:H) (b:Nat):MvO h b Sl.nil [] []:=⟨App.nilSl h 1, rfl, fun i r l h=>(by simp at h), fun a ha=>(by cases ha), fun r a h=>(by cases h)⟩
theorem MvO.keep {h':H} {b:Nat} {m:Sl} {mv:List (List Int)} {rows:List Sl} (r:MvO h b m mv rows) (hn:h.next≤h'.next) (hg:∀ i, b≤i->i < h.next->h'.get i = h.get i):MvO h' b m mv rows:=by
 refine ⟨r.app.keep hn fun a ha=>hg _ (r.top a ha) (r.app.rd.row a ha).2, r.len, fun i s l h1 h2=>?_, r.top, r.own⟩
 have:=r.row i s l h1 h2
 exact this.keep hn fun a ha=>hg _ (r.own s a (List.mem_of_getElem? h1) ha).1 (this.row a ha).2
theorem zle {q:Nat} {v:V} (hq:h.get q = some (.cells [v] true)) (hlt:q < h.next):Rd h ⟨some ⟨q, 0⟩, 1, 1, none⟩ 1 [v]:=
 ⟨rfl, fun a ha=>by cases ha; exact ⟨(zax hq (Nat.le_refl _)).trans rfl, hlt⟩, fun e=>(by cases e)⟩
end Go.Ab.S8
namespace Go.Ab.S8
variable {α:Type} {h:H}
theorem g_st {q:Nat} {v0 v1 v2:V} (hq:h.get q = some (.cells [v0, v1, v2] true)) (o p m:Sl) (K:M α) :
  (st1 ((⟨q, 0⟩:Ad).add 0) (.slice o) <| st1 ((⟨q, 0⟩:Ad).add 1) (.slice p) <| st1 ((⟨q, 0⟩:Ad).add 2) (.slice m) K) h = K (h.put q (some (gC o p m))):=by
 have pp:∀ (h:H) (i:Nat) (a b:Option Blk), (h.put i a).put i b = h.put i b:=zfu
 simp only [jq, Nat.zero_add]
 rw [zaz (a:=⟨q, 0⟩) hq rfl (by simp), zaz (a:=⟨q, 1⟩) (by rw [yb]) rfl (by simp), pp, zaz (a:=⟨q, 2⟩) (by rw [yb]) rfl (by simp), pp]
 rfl
theorem g_new (o p m:Sl) (K:Ad->M α) :
  (new [.slice Sl.nil, .slice Sl.nil, .slice Sl.nil] fun x=>st1 (x.add 0) (.slice o) <| st1 (x.add 1) (.slice p) <| st1 (x.add 2) (.slice m) (K x)) h = K ⟨h.next, 0⟩ (h.push (gC o p m)):=by
 rw [jh rfl, g_st (yg _), zin]
end Go.Ab.S8
