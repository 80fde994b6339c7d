import Derived.Test.YtjohdighlhoofaaDoorS8gr
set_option linter.unusedVariables false
set_option linter.unusedSimpArgs false
namespace Go.Ab.S8
variable {α:Type} {h:H}
theorem mv_loop2 (k:Nat) (kr:Int->Int->M α) (kx2:Ad->Int->Int->M α) {q:Nat} {o p m:Sl} {g:Gm} {rows:List Sl} (hq:h.get q = some (gC o p m)) (rm:MvR h m g.mv rows) {n:Int} {i:Nat} {l:List Int} (hi:g.mv[i]? = some l) (hl:l.length≤4611686018427387904) :
  ∀ (f j:Nat), j≤l.length->l.length - j < f ->
   qf.u7.l k kr kx2 f ⟨q, 0⟩ n (i:Int) (zat l j) (j:Int) h = if yo n (zat l j) (l.drop j) then kx2 ⟨q, 0⟩ n i h else kr i 16 h:=by
 obtain ⟨s, rs, _, es⟩:=zgh rm hi
 have hslen:=ilen rs
 intro f
 induction f with
 | zero=>intro j _ hf; omega
 | succ f ih=>
  intro j hj hf
  rw [qf.u7.l, qf.u6.f, g_m hq, es α _ _ rfl, hslen]
  rcases idec hj with ⟨v, hv, hd, hlt⟩ | ⟨hd, he⟩
  ·rw [dT (by omega:(j:Int) < (l.length:Int)), cond_true, g_m hq, es α _ _ rfl, yt rs rfl hv, hd]
   by_cases h0:v≤zat l j
   ·rw [dT h0, cond_true, zbq (fun hh=>by omega)]; rfl
   rw [dF h0, cond_false]
   by_cases h1:n≤v
   ·rw [dT h1, cond_true, zbq (fun hh=>by omega)]; rfl
   rw [dF h1, cond_false, zhr (by omega) (by omega), jg (by omega) (by omega)]
   have:=ih (j + 1) hlt (by omega)
   rw [zde hv] at this
   exact this
  ·rw [dF (by omega:¬ (j:Int) < (l.length:Int)), cond_false, hd]
   rfl
theorem zmk (k:Nat) (kr:Int->Int->M α) (kx1:M α) {q:Nat} {o p m:Sl} {g:Gm} {rows:List Sl} (hq:h.get q = some (gC o p m)) (ro:Rd h o 1 (g.ow.flatMap cI)) (rp:Rd h p 1 (g.pr.flatMap cI)) (rm:MvR h m g.mv rows)
  (h1:g.ow.length = g.mv.length) (h2:g.pr.length = g.mv.length) (hn:g.mv.length≤200) (hk:∀ l ∈ g.mv, l.length < k ∧ l.length≤4611686018427387904) :
  ∀ (f i:Nat), i≤g.mv.length->g.mv.length - i < f ->
   qf.u15.l k kr kx1 f ⟨q, 0⟩ (g.mv.length:Int) (i:Int) h =
    if (zar g.mv.length i (g.ow.drop i) (g.pr.drop i) (g.mv.drop i)).2 = 0 then kx1 h else kr (zar g.mv.length i (g.ow.drop i) (g.pr.drop i) (g.mv.drop i)).1 (zar g.mv.length i (g.ow.drop i) (g.pr.drop i) (g.mv.drop i)).2 h:=by
 intro f
 induction f with
 | zero=>intro i _ hf; omega
 | succ f ih=>
  intro i hi hf
  rw [qf.u15.l, qf.u14.f, qf.u3.f]
  by_cases hlt:i < g.mv.length
  ·obtain ⟨x, y, l, hx, hy, hl, dx, dy, dl⟩:=drop3 h1 h2 hlt
   obtain ⟨s, rs, _, es⟩:=zgh rm hl
   have hb:=hk l (List.mem_of_getElem? hl)
   have hslen:=ilen rs
   rw [dT (by omega:(i:Int) < (g.mv.length:Int)), cond_true, dx, dy, dl, zar]
   unfold qf.u13.f qf.u11.f qf.u10.f qf.u4.f
   have tail:0≤x->x≤1->qf.u9.f k ⟨q, 0⟩ (g.mv.length:Int) (i:Int) (fun y0 y1 y2=>qf.u12.f k y0 y1 y2 fun y0 y1 y2=>qf.u15.l k kr kx1 f y0 y1 y2) kr h =
     if (if rowE (g.mv.length:Int) x y l = 0 then zar (g.mv.length:Int) (i + 1) (g.ow.drop (i + 1)) (g.pr.drop (i + 1)) (g.mv.drop (i + 1)) else ((i:Int), rowE (g.mv.length:Int) x y l)).2 = 0 then kx1 h
     else kr (if rowE (g.mv.length:Int) x y l = 0 then zar (g.mv.length:Int) (i + 1) (g.ow.drop (i + 1)) (g.pr.drop (i + 1)) (g.mv.drop (i + 1)) else ((i:Int), rowE (g.mv.length:Int) x y l)).1
      (if rowE (g.mv.length:Int) x y l = 0 then zar (g.mv.length:Int) (i + 1) (g.ow.drop (i + 1)) (g.pr.drop (i + 1)) (g.mv.drop (i + 1)) else ((i:Int), rowE (g.mv.length:Int) x y l)).2 h:=by
    intro c1 c2
    have e1:rowE (g.mv.length:Int) x y l = if y < 0 ∨ 7 < y then 15 else if l.length = 0 then 17 else if yo (g.mv.length:Int) (-1) l then 0 else 16:=if_neg (by omega)
    unfold qf.u9.f qf.u5.f
    rw [g_p hq, yt rp rfl hy]
    by_cases c3:y < 0
    ·rw [dT c3, cond_true, e1, if_pos (Or.inl c3)]; rfl
    rw [dF c3, cond_false, g_p hq, yt rp rfl hy]
    by_cases c4:7 < y
    ·rw [dT c4, cond_true, e1, if_pos (Or.inr c4)]; rfl
    rw [if_neg (by omega)] at e1
    rw [dF c4, cond_false, g_m hq, es α _ _ rfl, hslen]
    by_cases c5:l.length = 0
    ·rw [dT (by omega:(l.length:Int) = 0), cond_true, e1, if_pos c5]; rfl
    rw [if_neg c5] at e1
    rw [dF (by omega:¬ (l.length:Int) = 0), cond_false]
    have hloop:=mv_loop2 k kr (fun y0 y1 y2=>qf.u12.f k y0 y1 y2 fun y0 y1 y2=>qf.u15.l k kr kx1 f y0 y1 y2) (n:=(g.mv.length:Int)) hq rm hl hb.2 k 0 (Nat.zero_le _) (by omega)
    rw [show zat l 0 = -1 from rfl, List.drop_zero] at hloop
    refine hloop.trans ?_
    rw [e1]
    cases hm:yo (g.mv.length:Int) (-1) l with
    | false=>rfl
    | true=>
     rw [if_pos rfl, if_pos rfl, if_pos rfl, qf.u12.f, jg (by omega) (by omega)]
     exact ih (i + 1) hlt (by omega)
   rw [g_o hq, yt ro rfl hx]
   by_cases c0:x = 0
   ·rw [dT c0, Bool.not_true, cond_false]; exact tail (by omega) (by omega)
   rw [dF c0, Bool.not_false, cond_true, g_o hq, yt ro rfl hx]
   by_cases c1:x = 1
   ·rw [dT c1, Bool.not_true, cond_false]; exact tail (by omega) (by omega)
   rw [dF c1, Bool.not_false, cond_true, show rowE (g.mv.length:Int) x y l = 14 from if_pos (by omega)]; rfl
  ·have:i = g.mv.length:=by omega
   subst this
   rw [dF (by omega:¬ (g.mv.length:Int) < (g.mv.length:Int)), cond_false, List.drop_length, List.drop_of_length_le (Nat.le_of_eq h1), List.drop_of_length_le (Nat.le_of_eq h2)]
   rfl
theorem zml (k:Nat) {o p m:Sl} {g:Gm} (r:GmR h o p m g) (h200:201 < k) (hk:∀ l ∈ g.mv, l.length < k ∧ l.length≤4611686018427387904) (ret:Int->Int->M α) :
  qf.f (k + 1) o p m ret h = ret (zau g).1 (zau g).2 (h.push (gC o p m)):=by
 obtain ⟨rows, rm⟩:=r.m
 have x:=(Ext.refl h).push (gC o p m)
 have hq:(h.push (gC o p m)).get h.next = some (gC o p m):=jj _
 have l1:=ilen r.o
 have l2:=ilen r.p
 have l3:=mlen rm
 rw [qf.f, qf.u20.f, qf.u1.f, zu rfl, g_o hq, g_p hq, l1, l2]
 unfold zau
 by_cases c2:g.pr.length = g.ow.length
 ·rw [dT (by omega:(g.pr.length:Int) = (g.ow.length:Int)), Bool.not_true, cond_false, g_m hq, l3]
  by_cases c1:g.mv.length = g.ow.length
  ·rw [dT (by omega:(g.mv.length:Int) = (g.ow.length:Int)), Bool.not_true, cond_false, if_neg (by omega)]
   by_cases c3:g.mv.length < 1
   ·rw [dT (by omega:(g.ow.length:Int) = 0), cond_true, if_pos (Or.inl c3)]
   rw [dF (by omega:¬ (g.ow.length:Int) = 0), cond_false]
   by_cases c4:200 < g.mv.length
   ·rw [dT (by omega:200 < (g.ow.length:Int)), cond_true, if_pos (Or.inr c4)]
   rw [dF (by omega:¬ 200 < (g.ow.length:Int)), cond_false, if_neg (by omega)]
   unfold qf.u19.f qf.u17.f qf.u2.f
   rw [← c1]
   refine (zmk k ret (qf.u18.f k ret) hq (r.o.ext x) (r.p.ext x) (rm.ext x) c1.symm (by omega) (by omega) hk k 0 (Nat.zero_le _) (by omega)).trans ?_
   simp only [List.drop_zero]
   cases hr:zar (g.mv.length:Int) 0 g.ow g.pr g.mv with
   | mk a e=>
    by_cases he:e = 0
    ·subst he
     have:=zek (g.mv.length:Int) 0 g.ow g.pr g.mv (by rw [hr])
     rw [hr] at this
     obtain rfl:a = 0:=(Prod.mk.inj this).1
     rfl
    ·rw [if_neg he]
  ·rw [dF (by omega:¬ (g.mv.length:Int) = (g.ow.length:Int)), Bool.not_false, cond_true, if_pos (by omega)]
 ·rw [dF (by omega:¬ (g.pr.length:Int) = (g.ow.length:Int)), Bool.not_false, cond_true, if_pos (by omega)]
theorem is_run (k:Nat) {o p m:Sl} {g:Gm} (r:GmR h o p m g) (h200:201 < k) (hk:∀ l ∈ g.mv, l.length < k ∧ l.length≤4611686018427387904) (ret:Bool->M α) :
  qac.f (k + 2) o p m ret h = ret (decide ((zau g).2 = 0)) ((h.push (gC o p m)).push (gC o p m)):=by
 have x:=(Ext.refl h).push (gC o p m)
 have hq:(h.push (gC o p m)).get h.next = some (gC o p m):=jj _
 rw [qac.f, qac.u1.f, zu rfl, g_o' hq, g_p' hq, g_m' hq, zml k (r.ext x) h200 hk]
theorem same_loop (k:Nat) (kr:Bool->M α) (kx:M α) {a b:Sl} {la lb:List Int} (ra:Rd h a 1 (la.flatMap cI)) (rb:Rd h b 1 (lb.flatMap cI)) (hl:la.length = lb.length) (hb:la.length≤4611686018427387904) :
  ∀ (f j:Nat), j≤la.length->la.length - j < f->qr.u4.l k kr kx f a b (j:Int) h = if la.drop j = lb.drop j then kx h else kr false h:=by
 have l1:=ilen ra
 intro f
 induction f with
 | zero=>intro j _ hf; omega
 | succ f ih=>
  intro j hj hf
  rw [qr.u4.l, qr.u3.f, l1]
  rcases idec hj with ⟨v, hv, hd, hlt⟩ | ⟨hd, he⟩
  ·have hlt':j < lb.length:=by omega
   have hw:lb[j]? = some lb[j]:=List.getElem?_eq_getElem hlt'
   have hd':lb.drop j = lb[j] :: lb.drop (j + 1):=List.drop_eq_getElem_cons hlt'
   rw [dT (by omega:(j:Int) < (la.length:Int)), cond_true, yt ra rfl hv, yt rb rfl hw, hd, hd']
   by_cases c:v = lb[j]
   ·rw [dT c, Bool.not_true, cond_false, jg (by omega) (by omega)]
    refine (ih (j + 1) hlt (by omega)).trans ?_
    simp only [c, List.cons.injEq, true_and]
   ·rw [dF c, Bool.not_false, cond_true, if_neg (fun e=>c (List.cons.inj e).1)]
  ·rw [dF (by omega:¬ (j:Int) < (la.length:Int)), cond_false, hd, List.drop_of_length_le (by omega:lb.length≤j), if_pos rfl]
theorem zcn (k:Nat) {a b:Sl} {la lb:List Int} (ra:Rd h a 1 (la.flatMap cI)) (rb:Rd h b 1 (lb.flatMap cI)) (hb:la.length≤4611686018427387904) (hk:la.length < k) (ret:Bool->M α) :
  qr.f (k + 1) a b ret h = ret (decide (la = lb)) h:=by
 rw [qr.f, qr.u9.f, qr.u1.f, ilen ra, ilen rb]
 by_cases c:la.length = lb.length
 ·rw [dT (by omega:(la.length:Int) = (lb.length:Int)), Bool.not_true, cond_false]
  refine (same_loop k ret (qr.u7.f k ret) ra rb c hb k 0 (Nat.zero_le _) (by omega)).trans ?_
  rw [List.drop_zero, List.drop_zero]
  by_cases e:la = lb
  ·rw [if_pos e, dT e]; rfl
  ·rw [if_neg e, dF e]
 ·rw [dF (by omega:¬ (la.length:Int) = (lb.length:Int)), Bool.not_false, cond_true, dF (fun e=>c (by rw [e]))]
structure GB (k:Nat) (g:Gm):Prop where
 o:g.ow.length < k ∧ g.ow.length≤17592186044416
 p:g.pr.length < k ∧ g.pr.length≤17592186044416
 m:g.mv.length < k ∧ g.mv.length≤5864062014805
 l:∀ l ∈ g.mv, l.length < k ∧ l.length≤17592186044416
theorem GB.mono {k j:Nat} {g:Gm} (b:GB k g) (h:k≤j):GB j g:=
 ⟨⟨by have:=b.o.1; omega, b.o.2⟩, ⟨by have:=b.p.1; omega, b.p.2⟩, ⟨by have:=b.m.1; omega, b.m.2⟩, fun l hl=>⟨by have:=(b.l l hl).1; omega, (b.l l hl).2⟩⟩
theorem GB.k {k:Nat} {g:Gm} (b:GB k g):∀ l ∈ g.mv, l.length < k ∧ l.length≤4611686018427387904:=fun l hl=>⟨(b.l l hl).1, by have:=(b.l l hl).2; omega⟩
theorem same_rows (k:Nat) (kr:Bool->M α) (kx:M α) {qa qb:Nat} {o p a o' p' b:Sl} {la lb:List (List Int)} {ra rb:List Sl} (ha:h.get qa = some (gC o p a)) (hb:h.get qb = some (gC o' p' b)) (ma:MvR h a la ra) (mb:MvR h b lb rb)
  (hl:la.length = lb.length) (hk:∀ l ∈ la, l.length < k ∧ l.length≤4611686018427387904) (hlen:la.length≤4611686018427387904) :
  ∀ (f j:Nat), j≤la.length->la.length - j < f->qs.u4.l (k + 1) kr kx f ⟨qa, 0⟩ ⟨qb, 0⟩ (j:Int) h = if la.drop j = lb.drop j then kx h else kr false h:=by
 have l1:=mlen ma
 intro f
 induction f with
 | zero=>intro j _ hf; omega
 | succ f ih=>
  intro j hj hf
  rw [qs.u4.l, qs.u3.f, g_m ha, l1]
  rcases idec hj with ⟨v, hv, hd, hlt⟩ | ⟨hd, he⟩
  ·have hlt':j < lb.length:=by omega
   have hw:lb[j]? = some lb[j]:=List.getElem?_eq_getElem hlt'
   have hd':lb.drop j = lb[j] :: lb.drop (j + 1):=List.drop_eq_getElem_cons hlt'
   obtain ⟨s, rs, _, es⟩:=zgh ma hv
   obtain ⟨u, ru, _, eu⟩:=zgh mb hw
   have hbv:=hk v (List.mem_of_getElem? hv)
   rw [dT (by omega:(j:Int) < (la.length:Int)), cond_true, g_m ha, es α _ _ rfl, g_m hb, eu α _ _ rfl, zcn k rs ru hbv.2 hbv.1, hd, hd']
   by_cases c:v = lb[j]
   ·rw [dT c, Bool.not_true, cond_false, jg (by omega) (by omega)]
    refine (ih (j + 1) hlt (by omega)).trans ?_
    simp only [c, List.cons.injEq, true_and]
   ·rw [dF c, Bool.not_false, cond_true, if_neg (fun e=>c (List.cons.inj e).1)]
  ·rw [dF (by omega:¬ (j:Int) < (la.length:Int)), cond_false, hd, List.drop_of_length_le (by omega:lb.length≤j), if_pos rfl]
theorem same_run (k:Nat) {oa pa ma ob pb mb:Sl} {a b:Gm} (ra:GmR h oa pa ma a) (rb:GmR h ob pb mb b) (hb:GB k a) :
  ∃ h', Ext h h' ∧ ∀ (α:Type) (ret:Bool->M α), qs.f (k + 2) oa pa ma ob pb mb ret h = ret (decide (a = b)) h':=by
 obtain ⟨rowa, mra⟩:=ra.m
 obtain ⟨rowb, mrb⟩:=rb.m
 have x:Ext h ((h.push (gC oa pa ma)).push (gC ob pb mb)):=((Ext.refl h).push _).push _
 refine ⟨_, x, fun α ret=>?_⟩
 have hq:((h.push (gC oa pa ma)).push (gC ob pb mb)).get h.next = some (gC oa pa ma):=by rw [zo, if_neg (by rw [zh]; omega), jj]
 have hq':((h.push (gC oa pa ma)).push (gC ob pb mb)).get (h.next + 1) = some (gC ob pb mb):=by rw [zo, if_pos (by rw [zh])]
 have hbo:=hb.o; have hbp:=hb.p; have hbm:=hb.m
 rw [qs.f, qs.u9.f, qs.u1.f, zu rfl, zu rfl]
 rw [show (h.push (gC oa pa ma)).next = h.next + 1 from rfl]
 rw [g_o hq, g_o hq', zcn k (ra.o.ext x) (rb.o.ext x) (by omega) (by omega), g_p hq, g_p hq', zcn k (ra.p.ext x) (rb.p.ext x) (by omega) (by omega)]
 by_cases c1:a.ow = b.ow
 ·rw [dT c1, Bool.not_true, cond_false]
  by_cases c2:a.pr = b.pr
  ·rw [dT c2, Bool.not_true, cond_false, g_m hq, g_m hq', mlen mra, mlen mrb]
   by_cases c3:a.mv.length = b.mv.length
   ·rw [dT (by omega:(a.mv.length:Int) = (b.mv.length:Int)), Bool.not_true, cond_false]
    refine (same_rows k ret (qs.u7.f (k + 1) ret) hq hq' (mra.ext x) (mrb.ext x) c3 hb.k (by omega) (k + 1) 0 (Nat.zero_le _) (by omega)).trans ?_
    rw [List.drop_zero, List.drop_zero]
    by_cases e:a.mv = b.mv
    ·rw [if_pos e, dT (by cases a; cases b; simp_all)]; rfl
    ·rw [if_neg e, dF (fun e'=>e (by rw [e']))]
   ·rw [dF (by omega:¬ (a.mv.length:Int) = (b.mv.length:Int)), Bool.not_false, cond_true, dF (fun e=>c3 (by rw [e]))]
  ·rw [dF c2, Bool.not_false, cond_true, dF (fun e=>c2 (by rw [e]))]
 ·rw [dF c1, Bool.not_false, cond_true, dF (fun e=>c1 (by rw [e]))]
theorem app_empty {r:Nat} (hr:h.get r = some (.cells [] true)) (hlt:r < h.next):App h ⟨some ⟨r, 0⟩, 0, 0, none⟩ 1 []:=by
 refine ⟨⟨rfl, fun a ha=>?_, fun e=>(by cases e)⟩, fun e=>(by cases e), .inl ⟨rfl, rfl⟩⟩
 cases ha
 refine ⟨?_, hlt⟩
 unfold H.row
 rw [hr]
 rfl
theorem zfu {r:Nat} (hr:h.get r = some (.cells [] true)) (hlt:r < h.next) {x:Sl} {cs:List V} (hx:Rd h x 1 cs) (hb:x.len≤17592186044416) :
  ∃ s h', (∀ (α:Type) (K:Sl->M α), je ⟨some ⟨r, 0⟩, 0, 0, none⟩ 1 8 x K h = K s h') ∧ Rd h' s 1 cs ∧ Ext h h' ∧ (∀ a, s.ad = some a->a.id = r ∨ h.next≤a.id) ∧ h'.next≤h.next + 1:=by
 have A:=app_empty hr hlt
 by_cases h0:x.len = 0
 ·have hcs:cs = []:=List.eq_nil_of_length_eq_zero (by rw [hx.len, h0])
  subst hcs
  refine ⟨_, h, fun α K=>app_row0 A hx h0 K fun _ a ha=>?_, A.rd, Ext.refl h, fun a ha=>?_, Nat.le_succ _⟩
  ·cases ha; exact ⟨hr, rfl, rfl⟩
  ·cases ha; exact .inl rfl
 ·obtain ⟨h', e, A', _, kp⟩:=zet (bytes:=8) A hx (by omega) (by decide) (by show (0 + x.len + (0 + x.len) / 4 + 512) * 8≤_; omega)
  refine ⟨_, h', e, by simpa using A'.rd, ⟨by rw [kp.1]; omega, fun i hi=>kp.2 i hi (fun hn=>absurd rfl hn)⟩, fun a ha=>?_, by rw [kp.1]; omega⟩
  cases ha
  exact .inr (Nat.le_refl _)
structure MvO (h:H) (b:Nat) (m:Sl) (mv:List (List Int)) (rows:List Sl):Prop where
 app:App h m 1 (rows.flatMap cSl)
 len:rows.length = mv.length
 row:∀ (i:Nat) (r:Sl) (l:List Int), rows[i]? = some r->mv[i]? = some l->Rd h r 1 (l.flatMap cI)
 top:∀ a, m.ad = some a->b≤a.id
 own:∀ (r:Sl) (a:Ad), r ∈ rows->r.ad = some a->b≤a.id ∧ ∀ a', m.ad = some a'->a.id ≠ a'.id
theorem MvO.rd {b:Nat} {m:Sl} {mv:List (List Int)} {rows:List Sl} (r:MvO h b m mv rows):MvR h m mv rows:=⟨r.app.rd, r.len, r.row⟩
theorem MvO.nil (h:H) (b:Nat):MvO h b Sl.nil [] []:=⟨App.nilSl h 1, rfl, fun i r l h=>(by simp at h), fun a ha=>(by cases ha), fun r a h=>(by cases h)⟩
theorem MvO.keep {h':H} {b:Nat} {m:Sl} {mv:List (List Int)} {rows:List Sl} (r:MvO h b m mv rows) (hn:h.next≤h'.next) (hg:∀ i, b≤i->i < h.next->h'.get i = h.get i):MvO h' b m mv rows:=by
 refine ⟨r.app.keep hn fun a ha=>hg _ (r.top a ha) (r.app.rd.row a ha).2, r.len, fun i s l h1 h2=>?_, r.top, r.own⟩
 have:=r.row i s l h1 h2
 exact this.keep hn fun a ha=>hg _ (r.own s a (List.mem_of_getElem? h1) ha).1 (this.row a ha).2
theorem mv_app {b:Nat} {m x s:Sl} {mv:List (List Int)} {rows:List Sl} {l:List Int} (r:MvO h b m mv rows) (hx:Rd h x 1 [.slice s]) (rs:Rd h s 1 (l.flatMap cI)) (hs:∀ a, s.ad = some a->b≤a.id ∧ ∀ a', m.ad = some a'->a.id ≠ a'.id) (hb:mv.length≤5864062014805) (hbn:b≤h.next) :
  ∃ m' h', (∀ (α:Type) (K:Sl->M α), je m 1 24 x K h = K m' h') ∧ MvO h' b m' (mv ++ [l]) (rows ++ [s]) ∧ h'.next = h.next + 1 ∧ m'.ad = some ⟨h.next, 0⟩ ∧ (∀ i, i < h.next->(∀ a, m.ad = some a->i ≠ a.id)->h'.get i = h.get i):=by
 have hm:=mlen r.rd
 have hxl:x.len = 1:=by have:=hx.len; simpa using this.symm
 obtain ⟨h', e, A', _, kp⟩:=zet (bytes:=24) r.app hx (by omega) (by decide) (by rw [hxl, hm]; omega)
 have hk:∀ i, i < h.next->(∀ a, m.ad = some a->i ≠ a.id)->h'.get i = h.get i:=fun i hi hne=>kp.2 i hi fun _=>hne
 refine ⟨_, h', e, ⟨by rw [List.flatMap_append]; exact A', by simp [r.len], fun i u l' h1 h2=>?_, fun a ha=>?_, fun u a hu ha=>?_⟩, kp.1, rfl, hk⟩
 ·have key:Rd h u 1 (l'.flatMap cI) ∧ ∀ a, u.ad = some a->∀ a', m.ad = some a'->a.id ≠ a'.id:=by
   by_cases hi:i < rows.length
   ·rw [List.getElem?_append_left hi] at h1
    rw [List.getElem?_append_left (by rw [← r.len]; exact hi)] at h2
    exact ⟨r.row i u l' h1 h2, fun a ha=>(r.own u a (List.mem_of_getElem? h1) ha).2⟩
   ·have hi':i = rows.length:=by have:=zaz h1; simp at this; omega
    subst hi'
    rw [List.getElem?_append_right (Nat.le_refl _), Nat.sub_self] at h1
    rw [r.len, List.getElem?_append_right (Nat.le_refl _), Nat.sub_self] at h2
    cases h1; cases h2
    exact ⟨rs, fun a ha=>(hs a ha).2⟩
  exact key.1.keep (by rw [kp.1]; omega) fun a ha=>hk _ (key.1.row a ha).2 fun a' ha'=>key.2 a ha a' ha'
 ·cases ha; exact hbn
 ·have key:b≤a.id ∧ a.id < h.next:=by
   rcases List.mem_append.1 hu with hu | hu
   ·obtain ⟨i, hi⟩:=List.getElem?_of_mem hu
    have hlt:i < mv.length:=by rw [← r.len]; exact zaz hi
    exact ⟨(r.own u a hu ha).1, ((r.row i u mv[i] hi (List.getElem?_eq_getElem hlt)).row a ha).2⟩
   ·obtain rfl:=List.mem_singleton.1 hu
    exact ⟨(hs a ha).1, (rs.row a ha).2⟩
  exact ⟨key.1, fun a' ha'=>by cases ha'; show a.id ≠ h.next; have:=key.2; omega⟩
theorem zfy {q:Nat} {v:V} (hq:h.get q = some (.cells [v] true)) (hlt:q < h.next):Rd h ⟨some ⟨q, 0⟩, 1, 1, none⟩ 1 [v]:=
 ⟨rfl, fun a ha=>by cases ha; exact ⟨(zak hq (Nat.le_refl _)).trans rfl, hlt⟩, fun e=>(by cases e)⟩
theorem copy_loop (k:Nat) {qi qo:Nat} {o p m:Sl} {mv:List (List Int)} {rows:List Sl} {b:Nat} {o' p':Sl} (hqi:qi < b) (hqo:qo < b) (hne:qi ≠ qo) (rm:MvR h m mv rows) (hb:∀ l ∈ mv, l.length≤17592186044416) (hmv:mv.length≤5864062014805)
  (hi:h.get qi = some (gC o p m)) (hnx:b≤h.next) (hmb:(∀ a, m.ad = some a->a.id < b ∧ a.id ≠ qo) ∧ ∀ s a, s ∈ rows->s.ad = some a->a.id < b ∧ a.id ≠ qo):∀ (f i:Nat) (g:H) (m':Sl) (rows':List Sl), i≤mv.length->mv.length - i < f->h.next≤g.next->(∀ j, j < b->j ≠ qo->g.get j = h.get j)->g.get qo = some (gC o' p' m')->MvO g b m' (mv.take i) rows' ->
   ∃ g' m'' rows'', h.next≤g'.next ∧ (∀ j, j < b->j ≠ qo->g'.get j = h.get j) ∧ g'.get qo = some (gC o' p' m'') ∧ MvO g' b m'' mv rows'' ∧
    ∀ (α:Type) (kx:Ad->Ad->M α) (x1:Ad), qq.u4.l k kx f ⟨qi, 0⟩ x1 ⟨qo, 0⟩ (i:Int) g = kx x1 ⟨qo, 0⟩ g':=by
 intro f
 induction f with
 | zero=>intro i _ _ _ _ hf; omega
 | succ f ih=>
  intro i g m' rows' hle hf hnx' hold hqg Mo
  have hi':g.get qi = some (gC o p m):=by rw [hold _ hqi hne]; exact hi
  have rmg:MvR g m mv rows:=⟨rm.top.keep (by omega) fun a ha=>hold _ (hmb.1 a ha).1 (hmb.1 a ha).2, rm.len, fun j s l h1 h2=>(rm.row j s l h1 h2).keep (by omega) fun a ha=>have hh:=hmb.2 s a (List.mem_of_getElem? h1) ha; hold _ hh.1 hh.2⟩
  have hlen:=mlen rmg
  by_cases hlt:i < mv.length
  ·have hl:mv[i]? = some mv[i]:=List.getElem?_eq_getElem hlt
   obtain ⟨s, rs, hsr, es⟩:=zgh rmg hl
   have hbl:=hb mv[i] (List.getElem_mem hlt)
   -- an empty row
   have x1:Ext g (g.push (.cells [] true)):=(Ext.refl g).push _
   have hq1:(g.push (.cells [] true)).get g.next = some (.cells [] true):=jj _
   obtain ⟨c, h2, e2, rc, x2, hc, hn2⟩:=zfu hq1 (by rw [zh]; omega) (rs.ext x1) (by rw [ilen rs]; exact hbl)
   have x12:=x1.trans x2
   have M2:MvO h2 b m' (mv.take i) rows':=Mo.keep x12.1 fun j _ hj=>x12.2 j hj
   have hq2:h2.get qo = some (gC o' p' m'):=by rw [x12.2 _ (by omega)]; exact hqg
   -- its place
   have x3:Ext h2 (h2.push (.cells [.slice c] true)):=(Ext.refl h2).push _
   have M3:MvO (h2.push (.cells [.slice c] true)) b m' (mv.take i) rows':=M2.keep x3.1 fun j _ hj=>x3.2 j hj
   have hcs:∀ a, c.ad = some a->b≤a.id ∧ ∀ a', m'.ad = some a'->a.id ≠ a'.id:=fun a ha=>by
    have h1:g.next≤a.id:=by
     rcases hc a ha with h | h
     ·omega
     ·rw [zh] at h; omega
    refine ⟨by omega, fun a' ha'=>?_⟩
    have:=(Mo.app.rd.row a' ha').2
    omega
   obtain ⟨m2, h4, e4, M4, hn4, hm4, k4⟩:=mv_app M3 (zfy (jj _) (by rw [zh]; omega)) (rc.ext x3) hcs (by simp; omega) (by rw [zh]; have:=x12.1; omega)
   have hq4:h4.get qo = some (gC o' p' m'):=by
    rw [k4 qo (by rw [zh]; have:=x12.1; omega) (fun a ha=>by have:=Mo.top a ha; omega), x3.2 _ (by have:=x12.1; omega)]; exact hq2
   have hold4:∀ j, j < b->j ≠ qo->h4.get j = h.get j:=fun j hj hjq=>by
    rw [k4 j (by rw [zh]; have:=x12.1; omega) (fun a ha=>by have:=Mo.top a ha; omega), x3.2 _ (by have:=x12.1; omega), x12.2 _ (by omega), hold j hj hjq]
   have hst:∀ (α:Type) (K:M α), st1 (((⟨qo, 0⟩:Ad).add 2).add 0) (.slice m2) K h4 = K (h4.put qo (some (gC o' p' m2))):=fun α K=>by
    simp only [jp]
    rw [zao (a:=⟨qo, 0 + 2 + 0⟩) hq4 rfl (by simp)]
    rfl
   have M5:MvO (h4.put qo (some (gC o' p' m2))) b m2 (mv.take (i + 1)) (rows' ++ [c]):=by
    rw [List.take_succ_eq_append_getElem hlt]
    exact M4.keep (Nat.le_refl _) fun j hj _=>by rw [zr, if_neg (by omega)]
   obtain ⟨g', m'', rows'', f1, f2, f3, f4, f5⟩:=ih (i + 1) _ m2 _ hlt (by omega) (by rw [yi, hn4, zh]; have:=x12.1; omega) (fun j hj hjq=>by rw [zr, if_neg hjq]; exact hold4 j hj hjq) (by rw [zr, if_pos rfl]) M5
   refine ⟨g', m'', rows'', f1, f2, f3, f4, fun α kx y=>?_⟩
   rw [qq.u4.l, qq.u3.f, g_m hi', hlen, dT (by omega:(i:Int) < (mv.length:Int)), cond_true, g_m hqg, g_m hi']
   have rmx:∀ {h':H}, Ext g h'->MvR h' m mv rows:=fun x=>rmg.ext x
   rw [mv_idx rmg rfl hlt, mv_ld rmg hsr, zu rfl, g_m (h:=g.push (.cells [] true)) (by rw [x1.2 _ (by omega)]; exact hqg), zn (dT rfl), g_m (h:=g.push (.cells [] true)) (by rw [x1.2 _ (by omega)]; exact hi'), zn (dT rfl), mv_ld (rmx x1) hsr, zn (dT rfl), e2]
   rw [g_m hq2, zn (dT rfl), zu rfl, g_m (by rw [x3.2 _ (by have:=x12.1; omega)]; exact hq2), zn (dT rfl), e4, hst, jg (by omega) (by omega)]
   exact f5 α kx y
  ·have:i = mv.length:=by omega
   subst this
   rw [List.take_length] at Mo
   refine ⟨g, m', rows', hnx', hold, hqg, Mo, fun α kx x1=>?_⟩
   rw [qq.u4.l, qq.u3.f, g_m hi', hlen, dF (by omega:¬ (mv.length:Int) < (mv.length:Int)), cond_false]
end Go.Ab.S8
namespace Go.Ab.S8
variable {α:Type} {h:H}
theorem g_st {q:Nat} {v0 v1 v2:V} (hq:h.get q = some (.cells [v0, v1, v2] true)) (o p m:Sl) (K:M α) :
  (st1 ((⟨q, 0⟩:Ad).add 0) (.slice o) <| st1 ((⟨q, 0⟩:Ad).add 1) (.slice p) <| st1 ((⟨q, 0⟩:Ad).add 2) (.slice m) K) h = K (h.put q (some (gC o p m))):=by
 have pp:∀ (h:H) (i:Nat) (a b:Option Blk), (h.put i a).put i b = h.put i b:=zey
 simp only [jp, Nat.zero_add]
 rw [zao (a:=⟨q, 0⟩) hq rfl (by simp), zao (a:=⟨q, 1⟩) (by rw [jx]) rfl (by simp), pp, zao (a:=⟨q, 2⟩) (by rw [jx]) rfl (by simp), pp]
 rfl
theorem g_new (o p m:Sl) (K:Ad->M α) :
  (new [.slice Sl.nil, .slice Sl.nil, .slice Sl.nil] fun x=>st1 (x.add 0) (.slice o) <| st1 (x.add 1) (.slice p) <| st1 (x.add 2) (.slice m) (K x)) h = K ⟨h.next, 0⟩ (h.push (gC o p m)):=by
 rw [zu rfl, g_st (jj _), zib]
theorem copy_run (k:Nat) {o p m:Sl} {g:Gm} (r:GmR h o p m g) (hb:GB k g) :
  ∃ o' p' m' h', (∀ (α:Type) (ret:Sl->Sl->Sl->M α), qq.f (k + 1) o p m ret h = ret o' p' m' h') ∧ Ext h h' ∧ GmR h' o' p' m' g:=by
 obtain ⟨rows, rm⟩:=r.m
 have lo:=ilen r.o
 have lp:=ilen r.p
 have ho:=hb.o; have hp:=hb.p; have hm:=hb.m
 -- five blocks
 let h5:=((((h.push (gC o p m)).push (gC Sl.nil Sl.nil Sl.nil)).push (.cells [] true)).push (.cells [] true)).push (gC Sl.nil Sl.nil Sl.nil)
 have x5:Ext h h5:=((((((Ext.refl h).push _).push _).push _).push _).push _)
 have n5:h5.next = h.next + 5:=rfl
 have b0:h5.get h.next = some (gC o p m):=by simp only [h5, zo, zh]; (repeat rw [if_neg (by omega)]); simp
 have b1:h5.get (h.next + 1) = some (gC Sl.nil Sl.nil Sl.nil):=by simp only [h5, zo, zh]; (repeat rw [if_neg (by omega)]); simp
 have b2:h5.get (h.next + 2) = some (.cells [] true):=by simp only [h5, zo, zh]; (repeat rw [if_neg (by omega)]); simp
 have b3:h5.get (h.next + 3) = some (.cells [] true):=by simp only [h5, zo, zh]; (repeat rw [if_neg (by omega)]); simp
 have b4:h5.get (h.next + 4) = some (gC Sl.nil Sl.nil Sl.nil):=by simp only [h5, zo, zh]; (repeat rw [if_neg (by omega)]); simp
 obtain ⟨o', h6, e6, r6, x6, c6, n6⟩:=zfu b2 (by omega) (r.o.ext x5) (by omega)
 have b3':h6.get (h.next + 3) = some (.cells [] true):=by rw [x6.2 _ (by omega)]; exact b3
 obtain ⟨p', h7, e7, r7, x7, c7, n7⟩:=zfu b3' (by have:=x6.1; omega) (r.p.ext (x5.trans x6)) (by omega)
 have x57:=x6.trans x7
 have b0':h7.get h.next = some (gC o p m):=by rw [x57.2 _ (by omega)]; exact b0
 have b1':h7.get (h.next + 1) = some (gC Sl.nil Sl.nil Sl.nil):=by rw [x57.2 _ (by omega)]; exact b1
 have b4':h7.get (h.next + 4) = some (gC Sl.nil Sl.nil Sl.nil):=by rw [x57.2 _ (by omega)]; exact b4
 have hle7:=x57.1
 -- out
 let h8:=h7.put (h.next + 4) (some (gC o' p' Sl.nil))
 have g8:∀ j, j ≠ h.next + 4->h8.get j = h7.get j:=fun j hj=>by simp only [h8]; rw [zr, if_neg hj]
 have n8:h8.next = h7.next:=rfl
 have hlt:∀ {s:Sl} {l:List V} {n:Nat} {a:Ad}, Rd h s n l->s.ad = some a->a.id < h7.next ∧ a.id ≠ h.next + 4:=fun r ha=>by have:=(r.row _ ha).2; omega
 obtain ⟨g', m', rows', f1, f2, f3, f4, f5⟩:=copy_loop (h:=h8) k (qi:=h.next) (qo:=h.next + 4) (o:=o) (p:=p) (m:=m) (mv:=g.mv) (rows:=rows) (b:=h7.next) (o':=o') (p':=p') (by omega) (by omega) (by omega)
  ⟨rm.top.keep (by omega) (fun a ha=>by rw [g8 _ (hlt rm.top ha).2, (x5.trans x57).2 _ (rm.top.row a ha).2]), rm.len, fun i s l h1 h2=>(rm.row i s l h1 h2).keep (by omega) (fun a ha=>by rw [g8 _ (hlt (rm.row i s l h1 h2) ha).2, (x5.trans x57).2 _ ((rm.row i s l h1 h2).row a ha).2])⟩
  (fun l hl=>(hb.l l hl).2) hm.2 (by rw [g8 _ (by omega)]; exact b0') (Nat.le_refl _)
  ⟨fun a ha=>hlt rm.top ha, fun s a hs ha=>by
   obtain ⟨i, hi⟩:=List.getElem?_of_mem hs
   have hil:i < g.mv.length:=by rw [← rm.len]; exact zaz hi
   exact hlt (rm.row i s g.mv[i] hi (List.getElem?_eq_getElem hil)) ha⟩
  k 0 h8 Sl.nil [] (Nat.zero_le _) (by omega) (Nat.le_refl _) (fun _ _ _=>rfl) (by simp only [h8]; rw [zr, if_pos rfl]) (MvO.nil _ _)
 have hb1:g'.get (h.next + 1) = some (gC Sl.nil Sl.nil Sl.nil):=by rw [f2 _ (by omega) (by omega), g8 _ (by omega)]; exact b1'
 refine ⟨o', p', m', g'.put (h.next + 1) (some (gC o' p' m')), fun α ret=>?_, ⟨by rw [yi]; have:=x5.1; omega, fun i hi=>by rw [zr, if_neg (by omega), f2 i (by omega) (by omega), g8 _ (by omega), (x5.trans x57).2 i hi]⟩, ?_⟩
 ·rewrite [qq.f]
  unfold qq.u9.f qq.u1.f
  rewrite [zu rfl, zu rfl, zu rfl, g_o (q:=h.next) (o:=o) (p:=p) (m:=m) (by simp only [zo, zh]; (repeat rw [if_neg (by omega)]); simp), zu rfl, g_p (q:=h.next) (o:=o) (p:=p) (m:=m) (by simp only [zo, zh]; (repeat rw [if_neg (by omega)]); simp), zu rfl]
  refine (e6 α _).trans ?_
  rewrite [g_p (q:=h.next) (h:=h6) (by rw [x6.2 _ (by omega)]; exact b0), zn (dT rfl)]
  refine (e7 α _).trans ?_
  refine (g_st (q:=h.next + 4) b4' o' p' Sl.nil _).trans ?_
  refine (f5 α _ _).trans ?_
  unfold qq.u7.f
  dsimp only
  rewrite [g_o' f3, g_p' f3, g_m' f3]
  refine (g_st (q:=h.next + 1) hb1 o' p' m' _).trans ?_
  have hq:(g'.put (h.next + 1) (some (gC o' p' m'))).get (h.next + 1) = some (gC o' p' m'):=by rw [jx]
  show (ldS ((⟨h.next + 1, 0⟩:Ad).add 0) fun o501=>ldS ((⟨h.next + 1, 0⟩:Ad).add 1) fun o502=>ldS ((⟨h.next + 1, 0⟩:Ad).add 2) fun o503=>ret o501 o502 o503) _ = _
  rw [g_o' hq, g_p' hq, g_m' hq]
 ·have hfin:∀ j, j < h7.next->j ≠ h.next + 4->j ≠ h.next + 1->(g'.put (h.next + 1) (some (gC o' p' m'))).get j = h7.get j:=fun j h1 h2 h3=>by rw [zr, if_neg h3, f2 j h1 h2, g8 _ h2]
  refine ⟨(r6.ext x7).keep (by rw [yi]; omega) fun a ha=>hfin _ ((r6.ext x7).row a ha).2 ?_ ?_, r7.keep (by rw [yi]; omega) fun a ha=>hfin _ (r7.row a ha).2 ?_ ?_, rows', (f4.keep (h':=g'.put (h.next + 1) (some (gC o' p' m'))) (Nat.le_refl _) fun j hj _=>by rw [zr, if_neg (by omega)]).rd⟩
  ·rcases c6 a ha with h | h <;> omega
  ·rcases c6 a ha with h | h <;> omega
  ·have:=x6.1
   rcases c7 a ha with h | h <;> omega
  ·have:=x6.1
   rcases c7 a ha with h | h <;> omega
end Go.Ab.S8
