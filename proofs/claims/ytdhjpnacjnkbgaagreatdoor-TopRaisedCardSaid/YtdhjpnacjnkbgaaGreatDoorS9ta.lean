import Derived.Test.YtdhjpnacjnkbgaaGreatDoorS9su
set_option linter.unusedVariables false
set_option linter.unusedSimpArgs false
set_option linter.unusedSectionVars false
namespace Go.Ab.S9
variable {α:Type} {h:H}
theorem zfe (k:Nat) {x:Sl} {l:List Int} (rx:Rd h x 1 (l.flatMap cI)) (hl:l.length≤1000000) :
  ∃ s h', Ext h h' ∧ Rd h' s 1 (l.flatMap cI) ∧ (∀ a, s.ad = some a->h.next≤a.id) ∧ (l ≠ []->Own h' s 1 (l.flatMap cI)) ∧ ∀ (α:Type) (ret:Sl->M α), qz.f (k + 1) x ret h = ret s h':=by
 have hlen:=ilen rx
 cases hx:x.ad with
 | none=>
  have hl0:l = []:=List.eq_nil_of_length_eq_zero (by have:=rx.nil hx; omega)
  subst hl0
  refine ⟨Sl.nil, h, Ext.refl h, Rd.nilSl h 1, fun a ha=>(by cases ha), fun q=>absurd rfl q, fun α ret=>?_⟩
  rw [qz.f, qz.u1.f, hx]
  rfl
 | some a0=>
  let h1:=h.push (.cells [] true)
  have x1:Ext h h1:=(Ext.refl h).push _
  have n1:h1.next = h.next + 1:=rfl
  have g1:h1.get h.next = some (.cells [] true):=je _ _
  have start:∀ (α:Type) (ret:Sl->M α), qz.f (k + 1) x ret h = zbo ⟨some ⟨h.next, 0⟩, 0, 0, none⟩ 1 8 l.length (l.flatMap cI) ret h1:=fun α ret=>by
   rw [qz.f, qz.u1.f, hx]
   rw [show (some a0).isNone = false from rfl, cond_false, jl rfl]
   unfold yr
   rw [(rx.ext x1).rd, hlen]
  by_cases h0:l = []
  ·subst h0
   refine ⟨⟨some ⟨h.next, 0⟩, 0, 0, none⟩, h1.put h.next (some (.cells [] true)), x1.put _ (Nat.le_refl _), ⟨rfl, fun a ha=>?_, fun ha=>(by cases ha)⟩, fun a ha=>by cases ha; exact Nat.le_refl _, fun q=>absurd rfl q, fun α ret=>?_⟩
   ·cases ha
    exact ⟨(zao (a:=⟨h.next, 0⟩) (cs:=[]) (o:=true) (n:=0) (zh _ _ _) (Nat.le_refl 0)).trans rfl, by rw [zcr]; exact Nat.lt_succ_self _⟩
   ·rw [start]
    unfold zbo
    rw [zd (show Nat.beq (([]:List Int).flatMap cI).length (([]:List Int).length * 1) = true from rfl)]
    show zdc ⟨h.next, 0⟩ [] _ h1 = _
    unfold zdc H.setRow
    rw [g1]
    rfl
  ·have hpos:0 < l.length:=List.length_pos_iff.2 h0
   refine ⟨⟨some ⟨h1.next, 0⟩, l.length, l.length, some 1⟩, h1.push (.cells (l.flatMap cI) true), x1.push _, ?_, fun a ha=>?_, fun _=>?_, fun α ret=>?_⟩
   ·exact (Own.rd ⟨by rw [zba, Nat.mul_one], h1.next, [], rfl, by rw [List.append_nil]; exact je _ _, by rw [zm]; exact Nat.lt_succ_self _⟩)
   ·cases ha; show h.next≤h1.next; omega
   ·exact ⟨by rw [zba, Nat.mul_one], h1.next, [], rfl, by rw [List.append_nil]; exact je _ _, by rw [zm]; exact Nat.lt_succ_self _⟩
   ·rw [start]
    unfold zbo
    dsimp only
    rw [zd (show Nat.beq (l.flatMap cI).length (l.length * 1) = true by rw [zba, Nat.mul_one]; exact Nat.beq_refl _)]
    rw [show Nat.ble (0 + l.length) 0 = false by cases hq:Nat.ble (0 + l.length) 0 with | false=>rfl | true=>have:=Nat.le_of_ble_eq_true hq; omega, cond_false]
    rw [zd (by rw [Bool.and_eq_true]; exact ⟨rfl, Nat.ble_eq_true_of_le (by omega)⟩)]
    unfold rdSl
    dsimp only
    rw [zaz (cs:=[]) ((zao g1 (by simp)).trans rfl), Nat.zero_add]
    rfl
structure MvO (h:H) (b:Nat) (m:Sl) (mv:List (List Int)) (rows:List Sl):Prop where
 app:App h m 1 (rows.flatMap cSl)
 len:rows.length = mv.length
 row:∀ (i:Nat) (r:Sl) (l:List Int), rows[i]? = some r->mv[i]? = some l->Rd h r 1 (l.flatMap cI)
 top:∀ a, m.ad = some a->b≤a.id
 own:∀ (r:Sl) (a:Ad), r ∈ rows->r.ad = some a->b≤a.id ∧ ∀ a', m.ad = some a'->a.id ≠ a'.id
theorem MvO.rd {b:Nat} {m:Sl} {mv:List (List Int)} {rows:List Sl} (r:MvO h b m mv rows):MvR h m mv rows:=⟨r.app.rd, r.len, r.row⟩
theorem MvO.nil (h:H) (b:Nat):MvO h b Sl.nil [] []:=⟨App.nilSl h 1, rfl, fun i r l h=>(by simp at h), fun a ha=>(by cases ha), fun r a h=>(by cases h)⟩
theorem MvO.keep {h':H} {b:Nat} {m:Sl} {mv:List (List Int)} {rows:List Sl} (r:MvO h b m mv rows) (hn:h.next≤h'.next) (hg:∀ i, b≤i->i < h.next->h'.get i = h.get i):MvO h' b m mv rows:=by
 refine ⟨r.app.keep hn fun a ha=>hg _ (r.top a ha) (r.app.rd.row a ha).2, r.len, fun i s l h1 h2=>?_, r.top, r.own⟩
 have:=r.row i s l h1 h2
 exact this.keep hn fun a ha=>hg _ (r.own s a (List.mem_of_getElem? h1) ha).1 (this.row a ha).2
theorem mv_app {b:Nat} {m x s:Sl} {mv:List (List Int)} {rows:List Sl} {l:List Int} (r:MvO h b m mv rows) (hx:Rd h x 1 [.slice s]) (rs:Rd h s 1 (l.flatMap cI)) (hs:∀ a, s.ad = some a->b≤a.id ∧ ∀ a', m.ad = some a'->a.id ≠ a'.id) (hb:mv.length≤5864062014805) (hbn:b≤h.next) :
  ∃ m' h', (∀ (α:Type) (K:Sl->M α), yr m 1 24 x K h = K m' h') ∧ MvO h' b m' (mv ++ [l]) (rows ++ [s]) ∧ h'.next = h.next + 1 ∧ m'.ad = some ⟨h.next, 0⟩ ∧ (∀ i, i < h.next->(∀ a, m.ad = some a->i ≠ a.id)->h'.get i = h.get i):=by
 have hm:=mlen r.rd
 have hxl:x.len = 1:=by have:=hx.len; simpa using this.symm
 obtain ⟨h', e, A', _, kp⟩:=app_row (bytes:=24) r.app hx (by omega) (by decide) (by rw [hxl, hm]; omega)
 have hk:∀ i, i < h.next->(∀ a, m.ad = some a->i ≠ a.id)->h'.get i = h.get i:=fun i hi hne=>kp.2 i hi fun _=>hne
 refine ⟨_, h', e, ⟨by rw [List.flatMap_append]; exact A', by simp [r.len], fun i u l' h1 h2=>?_, fun a ha=>?_, fun u a hu ha=>?_⟩, kp.1, rfl, hk⟩
 ·have key:Rd h u 1 (l'.flatMap cI) ∧ ∀ a, u.ad = some a->∀ a', m.ad = some a'->a.id ≠ a'.id:=by
   by_cases hi:i < rows.length
   ·rw [List.getElem?_append_left hi] at h1
    rw [List.getElem?_append_left (by rw [← r.len]; exact hi)] at h2
    exact ⟨r.row i u l' h1 h2, fun a ha=>(r.own u a (List.mem_of_getElem? h1) ha).2⟩
   ·have hi':i = rows.length:=by have:=yy h1; simp at this; omega
    subst hi'
    rw [List.getElem?_append_right (Nat.le_refl _), Nat.sub_self] at h1
    rw [r.len, List.getElem?_append_right (Nat.le_refl _), Nat.sub_self] at h2
    cases h1; cases h2
    exact ⟨rs, fun a ha=>(hs a ha).2⟩
  exact key.1.keep (by rw [kp.1]; omega) fun a ha=>hk _ (key.1.row a ha).2 fun a' ha'=>key.2 a ha a' ha'
 ·cases ha; exact hbn
 ·have key:b≤a.id ∧ a.id < h.next:=by
   rcases List.mem_append.1 hu with hu | hu
   ·obtain ⟨i, hi⟩:=List.getElem?_of_mem hu
    have hlt:i < mv.length:=by rw [← r.len]; exact yy hi
    exact ⟨(r.own u a hu ha).1, ((r.row i u mv[i] hi (List.getElem?_eq_getElem hlt)).row a ha).2⟩
   ·obtain rfl:=List.mem_singleton.1 hu
    exact ⟨(hs a ha).1, (rs.row a ha).2⟩
  exact ⟨key.1, fun a' ha'=>by cases ha'; show a.id ≠ h.next; have:=key.2; omega⟩
theorem one_rd {q:Nat} {v:V} (hq:h.get q = some (.cells [v] true)) (hlt:q < h.next):Rd h ⟨some ⟨q, 0⟩, 1, 1, none⟩ 1 [v]:=
 ⟨rfl, fun a ha=>by cases ha; exact ⟨(zao hq (Nat.le_refl _)).trans rfl, hlt⟩, fun e=>(by cases e)⟩
theorem copy_loop (k:Nat) {qo:Nat} {m:Sl} {mv:List (List Int)} {rows:List Sl} {b:Nat} {o' p':Sl} (hqo:qo < b) (rm:MvR h m mv rows) (hb:∀ l ∈ mv, l.length≤1000000) (hmv:mv.length≤1000)
  (hnx:b≤h.next) (hmb:(∀ a, m.ad = some a->a.id < b ∧ a.id ≠ qo) ∧ ∀ s a, s ∈ rows->s.ad = some a->a.id < b ∧ a.id ≠ qo):∀ (f i:Nat) (g:H) (m':Sl) (rows':List Sl), i≤mv.length->mv.length - i < f->h.next≤g.next->(∀ j, j < b->j ≠ qo->g.get j = h.get j)->g.get qo = some (gC o' p' m')->MvO g b m' (mv.take i) rows' ->
   ∃ g' m'' rows'', h.next≤g'.next ∧ (∀ j, j < b->j ≠ qo->g'.get j = h.get j) ∧ g'.get qo = some (gC o' p' m'') ∧ MvO g' b m'' mv rows'' ∧
    ∀ (α:Type) (kx:Ad->Ad->M α) (x0:Ad), qh.u4.l (k + 1) kx f x0 ⟨qo, 0⟩ m (mv.length:Int) (i:Int) g = kx x0 ⟨qo, 0⟩ g':=by
 intro f
 induction f with
 | zero=>intro i _ _ _ _ hf; omega
 | succ f ih=>
  intro i g m' rows' hle hf hnx' hold hqg Mo
  have rmg:MvR g m mv rows:=⟨rm.top.keep (by omega) fun a ha=>hold _ (hmb.1 a ha).1 (hmb.1 a ha).2, rm.len, fun j s l h1 h2=>(rm.row j s l h1 h2).keep (by omega) fun a ha=>have hh:=hmb.2 s a (List.mem_of_getElem? h1) ha; hold _ hh.1 hh.2⟩
  by_cases hlt:i < mv.length
  ·have hl:mv[i]? = some mv[i]:=List.getElem?_eq_getElem hlt
   obtain ⟨s, rs, hsr, es⟩:=zio rmg hl
   have hbl:=hb mv[i] (List.getElem_mem hlt)
   obtain ⟨c, h2, x12, rc, hc, _, e2⟩:=zfe (h:=g) k rs hbl
   have M2:MvO h2 b m' (mv.take i) rows':=Mo.keep x12.1 fun j _ hj=>x12.2 j hj
   have hq2:h2.get qo = some (gC o' p' m'):=by rw [x12.2 _ (by omega)]; exact hqg
   -- its place
   have x3:Ext h2 (h2.push (.cells [.slice c] true)):=(Ext.refl h2).push _
   have M3:MvO (h2.push (.cells [.slice c] true)) b m' (mv.take i) rows':=M2.keep x3.1 fun j _ hj=>x3.2 j hj
   have hcs:∀ a, c.ad = some a->b≤a.id ∧ ∀ a', m'.ad = some a'->a.id ≠ a'.id:=fun a ha=>by
    have h1:=hc a ha
    refine ⟨by omega, fun a' ha'=>?_⟩
    have:=(Mo.app.rd.row a' ha').2
    omega
   obtain ⟨m2, h4, e4, M4, hn4, hm4, k4⟩:=mv_app M3 (one_rd (zjy _) (by rw [zm]; omega)) (rc.ext x3) hcs (by simp; omega) (by rw [zm]; have:=x12.1; omega)
   have hq4:h4.get qo = some (gC o' p' m'):=by
    rw [k4 qo (by rw [zm]; have:=x12.1; omega) (fun a ha=>by have:=Mo.top a ha; omega), x3.2 _ (by have:=x12.1; omega)]; exact hq2
   have hold4:∀ j, j < b->j ≠ qo->h4.get j = h.get j:=fun j hj hjq=>by
    rw [k4 j (by rw [zm]; have:=x12.1; omega) (fun a ha=>by have:=Mo.top a ha; omega), x3.2 _ (by have:=x12.1; omega), x12.2 _ (by omega), hold j hj hjq]
   have hst:∀ (α:Type) (K:M α), st1 (((⟨qo, 0⟩:Ad).add 2).add 0) (.slice m2) K h4 = K (h4.put qo (some (gC o' p' m2))):=fun α K=>by
    simp only [ya]
    rw [zz (a:=⟨qo, 0 + 2 + 0⟩) hq4 rfl (by simp)]
    rfl
   have M5:MvO (h4.put qo (some (gC o' p' m2))) b m2 (mv.take (i + 1)) (rows' ++ [c]):=by
    rw [List.take_succ_eq_append_getElem hlt]
    exact M4.keep (Nat.le_refl _) fun j hj _=>zo _ _ (by omega)
   obtain ⟨g', m'', rows'', f1, f2, f3, f4, f5⟩:=ih (i + 1) _ m2 _ hlt (by omega) (by rw [zcr, hn4, zm]; have:=x12.1; omega) (fun j hj hjq=>by rw [zo _ _ hjq]; exact hold4 j hj hjq) (zh _ _ _) M5
   refine ⟨g', m'', rows'', f1, f2, f3, f4, fun α kx y=>?_⟩
   rw [qh.u4.l, qh.u3.f, dT (by omega:(i:Int) < (mv.length:Int)), cond_true, es _ _ _ rfl, g_m hqg, e2, g_m hq2, zd (dT rfl), jl rfl, g_m (by rw [x3.2 _ (by have:=x12.1; omega)]; exact hq2), zd (dT rfl), e4, hst, nxt (by omega)]
   exact f5 α kx y
  ·have:i = mv.length:=by omega
   subst this
   rw [List.take_length] at Mo
   refine ⟨g, m', rows', hnx', hold, hqg, Mo, fun α kx x1=>?_⟩
   rw [qh.u4.l, qh.u3.f, dF (by omega:¬ (mv.length:Int) < (mv.length:Int)), cond_false]
end Go.Ab.S9
namespace Go.Ab.S9
variable {α:Type} {h:H}
theorem g_st {q:Nat} {v0 v1 v2:V} (hq:h.get q = some (.cells [v0, v1, v2] true)) (o p m:Sl) (K:M α) :
  (st1 ((⟨q, 0⟩:Ad).add 0) (.slice o) <| st1 ((⟨q, 0⟩:Ad).add 1) (.slice p) <| st1 ((⟨q, 0⟩:Ad).add 2) (.slice m) K) h = K (h.put q (some (gC o p m))):=by
 have pp:∀ (h:H) (i:Nat) (a b:Option Blk), (h.put i a).put i b = h.put i b:=jg
 simp only [ya, Nat.zero_add]
 rw [zz (a:=⟨q, 0⟩) hq rfl (by simp), zz (a:=⟨q, 1⟩) (by rw [zh]) rfl (by simp), pp, zz (a:=⟨q, 2⟩) (by rw [zh]) rfl (by simp), pp]
 rfl
structure CpR (b:Nat) (h:H) (o p m:Sl) (g:Gm) (rows:List Sl):Prop where
 ro:Own h o 1 (g.ow.flatMap cI)
 rp:Own h p 1 (g.pr.flatMap cI)
 rm:MvR h m g.mv rows
 ne:o.id ≠ p.id
 bo:b≤o.id
 bp:b≤p.id
 mi:∀ a, m.ad = some a->a.id ≠ o.id ∧ a.id ≠ p.id
 ri:∀ s a, s ∈ rows->s.ad = some a->a.id ≠ o.id ∧ a.id ≠ p.id
theorem CpR.gm {b:Nat} {o p m:Sl} {g:Gm} {rows:List Sl} (c:CpR b h o p m g rows):GmR h o p m g:=⟨c.ro.rd, c.rp.rd, rows, c.rm⟩
theorem CpR.push {b:Nat} {o p m:Sl} {g:Gm} {rows:List Sl} (c:CpR b h o p m g rows) {h':H} (x:Ext h h'):CpR b h' o p m g rows:={ c with ro:=c.ro.ext x, rp:=c.rp.ext x, rm:=c.rm.ext x }
theorem CpR.stp {b:Nat} {o p m:Sl} {g:Gm} {rows:List Sl} (c:CpR b h o p m g rows) {i:Nat} (v:Int) {x:Int} (hx:x = (i:Int)) (hi:i < g.pr.length) :
  ∃ h', (∀ (α:Type) (K:M α), idxSl p x 1 (fun a=>st1 (a.add 0) (.int .i64 v) K) h = K h') ∧ CpR b h' o p m { g with pr:=g.pr.set i v } rows ∧ h'.next = h.next ∧ ∀ j, j ≠ p.id->h'.get j = h.get j:=by
 obtain ⟨h', e, ow, n', g'⟩:=zdx c.rp v hx hi
 exact ⟨h', e, { c with
  ro:=c.ro.keep (by omega) (g' _ c.ne)
  rp:=ow
  rm:=c.rm.keep (by omega) (fun a ha=>g' _ (c.mi a ha).2) fun i s a hs ha=>g' _ (c.ri s a (List.mem_of_getElem? hs) ha).2 }, n', g'⟩
theorem copy_run (k:Nat) (hk:1000 < k) {o p m:Sl} {g:Gm} (r:GmR h o p m g) (h1:g.ow ≠ []) (h2:g.pr ≠ []) (lo:g.ow.length≤1000) (lp:g.pr.length≤1000) (lm:g.mv.length≤500) (ll:∀ l ∈ g.mv, l.length≤1000000) :
  ∃ o' p' m' rows h', Ext h h' ∧ CpR h.next h' o' p' m' g rows ∧ ∀ (α:Type) (ret:Sl->Sl->Sl->M α), qh.f (k + 1) o p m ret h = ret o' p' m' h':=by
 obtain ⟨k, rfl⟩:∃ q, k = q + 1:=⟨k - 1, by omega⟩
 obtain ⟨rows, rm⟩:=r.m
 let h3:=((h.push (gC o p m)).push (gC Sl.nil Sl.nil Sl.nil)).push (gC Sl.nil Sl.nil Sl.nil)
 have n3:h3.next = h.next + 3:=rfl
 have x3:Ext h h3:=(((Ext.refl h).push _).push _).push _
 have b0:h3.get h.next = some (gC o p m):=by simp only [h3, zw, zm]; (repeat rw [if_neg (by omega)]); simp
 have b1:h3.get (h.next + 1) = some (gC Sl.nil Sl.nil Sl.nil):=by simp only [h3, zw, zm]; (repeat rw [if_neg (by omega)]); simp
 have b2:h3.get (h.next + 2) = some (gC Sl.nil Sl.nil Sl.nil):=by simp only [h3, zw, zm]; simp
 obtain ⟨o', h4, x4, r4, i4, o4, e4⟩:=zfe (h:=h3) k (r.o.ext x3) (by omega)
 obtain ⟨p', h5, x5, r5, i5, o5, e5⟩:=zfe (h:=h4) k (r.p.ext (x3.trans x4)) (by omega)
 have x45:=x4.trans x5
 have x35:=x3.trans x45
 have c0:h4.get h.next = some (gC o p m):=by rw [x4.2 _ (by omega)]; exact b0
 have d0:h5.get h.next = some (gC o p m):=by rw [x45.2 _ (by omega)]; exact b0
 have d1:h5.get (h.next + 1) = some (gC Sl.nil Sl.nil Sl.nil):=by rw [x45.2 _ (by omega)]; exact b1
 have d2:h5.get (h.next + 2) = some (gC Sl.nil Sl.nil Sl.nil):=by rw [x45.2 _ (by omega)]; exact b2
 have n5:=x45.1
 have n4:=x4.1
 have ow4:=(o4 h1).ext x5
 have ow5:=o5 h2
 obtain ⟨idA, moreA, qa1, _, _⟩:=(o4 h1).blk
 obtain ⟨idB, moreB, qb1, _, _⟩:=ow5.blk
 have ia:o'.id = idA:=by unfold Sl.id; rw [qa1]; rfl
 have ib:p'.id = idB:=by unfold Sl.id; rw [qb1]; rfl
 have la:h3.next≤o'.id:=by rw [ia]; exact i4 _ qa1
 have lb:h4.next≤p'.id:=by rw [ib]; exact i5 _ qb1
 have ua:o'.id < h4.next:=Own.idlt (o4 h1)
 have ub:p'.id < h5.next:=Own.idlt ow5
 let h6:=h5.put (h.next + 2) (some (gC o' p' Sl.nil))
 have g6:∀ j, j ≠ h.next + 2->h6.get j = h5.get j:=fun j hj=>zo _ _ hj
 have old:∀ {s:Sl} {c:List V} {a:Ad}, Rd h s 1 c->s.ad = some a->a.id < h.next:=fun q ha=>(q.row _ ha).2
 obtain ⟨g', m', rows', f1, f2, f3, f4, f5⟩:=copy_loop (h:=h6) k (qo:=h.next + 2) (m:=m) (mv:=g.mv) (rows:=rows) (b:=h5.next) (o':=o') (p':=p') (by omega)
  ((rm.ext x35).keep (Nat.le_refl _) (fun a ha=>g6 _ (by have:=old rm.top ha; omega)) fun i s a hs ha=>by
   obtain ⟨l, hl⟩:∃ l, g.mv[i]? = some l:=⟨_, List.getElem?_eq_getElem (by rw [← rm.len]; exact yy hs)⟩
   exact g6 _ (by have:=old (rm.row i s l hs hl) ha; omega)) ll (by omega) (Nat.le_refl _)
  ⟨fun a ha=>by have:=old rm.top ha; omega, fun s a hs ha=>by
   obtain ⟨i, hi⟩:=List.getElem?_of_mem hs
   obtain ⟨l, hl⟩:∃ l, g.mv[i]? = some l:=⟨_, List.getElem?_eq_getElem (by rw [← rm.len]; exact yy hi)⟩
   have:=old (rm.row i s l hi hl) ha; omega⟩
  (k + 1) 0 h6 Sl.nil [] (Nat.zero_le _) (by omega) (Nat.le_refl _) (fun _ _ _=>rfl) (zh _ _ _) (MvO.nil _ _)
 have hb1:g'.get (h.next + 1) = some (gC Sl.nil Sl.nil Sl.nil):=by rw [f2 _ (by omega) (by omega), g6 _ (by omega)]; exact d1
 have f1':h5.next≤g'.next:=f1
 let h7:=g'.put (h.next + 1) (some (gC o' p' m'))
 have fin:∀ j, j < h5.next->j ≠ h.next + 2->j ≠ h.next + 1->h7.get j = h5.get j:=fun j a1 a2 a3=>by rw [show h7.get j = g'.get j from zo _ _ a3, f2 j a1 a2, g6 j a2]
 have M7:MvO h7 h5.next m' g.mv rows':=f4.keep (Nat.le_refl _) fun j hj _=>zo _ _ (by omega)
 refine ⟨o', p', m', rows', h7, ⟨by show h.next≤g'.next; omega, fun i hi=>by rw [fin i (by omega) (by omega) (by omega), x35.2 i hi]⟩,
  {
   ro:=ow4.keep f1' (fin _ (by omega) (by omega) (by omega))
   rp:=ow5.keep f1' (fin _ (by omega) (by omega) (by omega))
   rm:=M7.rd
   ne:=by omega
   bo:=by omega
   bp:=by omega
   mi:=fun a ha=>by have:=M7.top a ha; omega
   ri:=fun s a hs ha=>by have:=(M7.own s a hs ha).1; omega }, fun α ret=>?_⟩
 rw [qh.f]
 unfold qh.u9.f qh.u1.f
 rw [jl rfl, jl rfl]
 have t0:((h.push (gC o p m)).push (gC Sl.nil Sl.nil Sl.nil)).get h.next = some (gC o p m):=by rw [yb _ _ (by rw [zm]; omega)]; exact je _ _
 show (ldS (((⟨h.next, 0⟩:Ad).add 0).add 0) _) ((h.push (gC o p m)).push (gC Sl.nil Sl.nil Sl.nil)) = _
 rw [g_o t0, g_p t0, jl rfl]
 refine (e4 α _).trans ?_
 rw [g_p c0, zd (dT rfl)]
 refine (e5 α _).trans ?_
 refine (g_st (q:=h.next + 2) d2 o' p' Sl.nil _).trans ?_
 unfold qh.u8.f qh.u6.f qh.u2.f qh.u5.f qh.u4.f
 show (ldS (((⟨h.next, 0⟩:Ad).add 2).add 0) _) h6 = _
 rw [g_m (by rw [g6 _ (by omega)]; exact d0)]
 have hln:(m.len:Int) = (g.mv.length:Int):=by rw [mlen rm]
 rw [hln]
 refine (f5 α _ ⟨h.next + 1, 0⟩).trans ?_
 unfold qh.u7.f
 show (ldS ((⟨h.next + 2, 0⟩:Ad).add 0) _) g' = _
 rw [g_o' f3, g_p' f3, g_m' f3]
 refine (g_st (q:=h.next + 1) hb1 o' p' m' _).trans ?_
 have hq:h7.get (h.next + 1) = some (gC o' p' m'):=zh _ _ _
 show (ldS ((⟨h.next + 1, 0⟩:Ad).add 0) fun o501=>ldS ((⟨h.next + 1, 0⟩:Ad).add 1) fun o502=>ldS ((⟨h.next + 1, 0⟩:Ad).add 2) fun o503=>ret o501 o502 o503) h7 = _
 rw [g_o' hq, g_p' hq, g_m' hq]
end Go.Ab.S9
namespace Go.Ab.S9
variable {α:Type} {h:H}
theorem zmb {n:Int}:∀ (i:Nat) (os ps:List Int) (ls:List (List Int)), os.length = ls.length->ps.length = ls.length ->
  (∀ (j:Nat) (o p:Int) (l:List Int), os[j]? = some o->ps[j]? = some p->ls[j]? = some l->rowE n o p l = 0)->zbq n i os ps ls = (0, 0)
 | i, o :: os, p :: ps, l :: ls, h1, h2, h=>by
  rw [zbq, if_pos (h 0 o p l rfl rfl rfl)]
  exact zmb (i + 1) os ps ls (Nat.succ.inj h1) (Nat.succ.inj h2) fun j o p l e1 e2 e3=>h (j + 1) o p l e1 e2 e3
 | _, [], _, _, _, _, _=>by cases ‹List Int› <;> cases ‹List (List Int)› <;> rfl
 | _, _ :: _, [], _, _, _, _=>by cases ‹List (List Int)› <;> rfl
 | _, _ :: _, _ :: _, [], _, _, _=>rfl
theorem zir {g:Gm} (hr:(yo g).2 = 0):g.ow.length = g.mv.length ∧ g.pr.length = g.mv.length ∧ 1≤g.mv.length ∧ g.mv.length≤200 ∧ (zbq g.mv.length 0 g.ow g.pr g.mv).2 = 0:=by
 unfold yo at hr
 by_cases c1:g.ow.length ≠ g.mv.length ∨ g.pr.length ≠ g.mv.length
 ·rw [if_pos c1] at hr; cases hr
 rw [if_neg c1] at hr
 by_cases c2:g.mv.length < 1 ∨ 200 < g.mv.length
 ·rw [if_pos c2] at hr; cases hr
 rw [if_neg c2] at hr
 exact ⟨by omega, by omega, by omega, by omega, hr⟩
theorem zmd {g:Gm} (h1:g.ow.length = g.mv.length) (h2:g.pr.length = g.mv.length) (h3:1≤g.mv.length) (h4:g.mv.length≤200)
  (h5:∀ (j:Nat) (o p:Int) (l:List Int), g.ow[j]? = some o->g.pr[j]? = some p->g.mv[j]? = some l->rowE g.mv.length o p l = 0):yo g = (0, 0):=by
 unfold yo
 rw [if_neg (by omega), if_neg (by omega)]
 exact zmb 0 _ _ _ h1 h2 h5
theorem right00 {g:Gm} (hr:(yo g).2 = 0):yo g = (0, 0):=by
 obtain ⟨a1, a2, a3, a4, a5⟩:=zir hr
 exact zmd a1 a2 a3 a4 (zcf 0 _ _ _ a5 a1 a2)
theorem rowE_pr {n o p p':Int} {l:List Int} (h:rowE n o p l = 0) (hp:0≤p' ∧ p'≤7):rowE n o p' l = 0:=by
 unfold rowE at h ⊢
 by_cases c:o < 0 ∨ 1 < o
 ·rw [if_pos c] at h; cases h
 rw [if_neg c] at h ⊢
 by_cases c2:p < 0 ∨ 7 < p
 ·rw [if_pos c2] at h; cases h
 rw [if_neg c2] at h
 rw [if_neg (by omega)]; exact h
theorem zma {l:List Int} {i j:Nat} {v x:Int} (e:(l.set i v)[j]? = some x):(j = i ∧ x = v ∧ ∃ y, l[j]? = some y) ∨ l[j]? = some x:=by
 by_cases hij:i = j
 ·subst hij
  have hlt:i < l.length:=by have:=yy e; rw [List.length_set] at this; exact this
  rw [List.getElem?_set_self hlt] at e
  cases e
  exact .inl ⟨rfl, rfl, _, List.getElem?_eq_getElem hlt⟩
 ·rw [List.getElem?_set_ne hij] at e
  exact .inr e
theorem right_pr {g:Gm} (hr:(yo g).2 = 0) (i:Nat) (v:Int) (hv:0≤v ∧ v≤7):yo { g with pr:=g.pr.set i v } = (0, 0):=by
 obtain ⟨a1, a2, a3, a4, a5⟩:=zir hr
 refine zmd a1 (by rw [List.length_set]; exact a2) a3 a4 fun j o p l e1 e2 e3=>?_
 rcases zma e2 with ⟨_, rfl, y, ey⟩ | ey
 ·exact rowE_pr (zcf 0 _ _ _ a5 a1 a2 j o y l e1 ey e3) hv
 ·exact zcf 0 _ _ _ a5 a1 a2 j o p l e1 ey e3
theorem ofL_bl (S:Nat):∀ n, n≤256->∀ j, (ofL (bl S n)).testBit j = true ↔ j < n ∧ S.testBit j = true
 | 0, _, j=>by
  rw [bl_zero]
  unfold ofL
  rw [List.foldl_nil, Nat.zero_testBit]; simp
 | n + 1, hn, j=>by
  have ih:=ofL_bl S n (by omega) j
  by_cases hb:S.testBit n = true
  ·have e:ofL (bl S (n + 1)) = wth (ofL (bl S n)) (n:Int):=by
    unfold ofL
    rw [zgh, if_pos hb, List.foldl_append, List.foldl_cons, List.foldl_nil]
   rw [e, zjz (by omega), ih]
   constructor
   ·rintro (⟨h1, h2⟩ | rfl)
    ·exact ⟨by omega, h2⟩
    ·exact ⟨Nat.lt_succ_self _, hb⟩
   ·rintro ⟨h1, h2⟩
    by_cases e:j = n
    ·exact .inr e
    ·exact .inl ⟨by omega, h2⟩
  ·have e:ofL (bl S (n + 1)) = ofL (bl S n):=by
    unfold ofL
    rw [zgh, if_neg hb, List.append_nil]
   rw [e, ih]
   constructor
   ·rintro ⟨h1, h2⟩; exact ⟨by omega, h2⟩
   ·rintro ⟨h1, h2⟩
    refine ⟨?_, h2⟩
    by_cases e:j = n
    ·subst e; exact absurd h2 hb
    ·omega
theorem ofL_all {S:Nat} (hS:S < FS):ofL (bl S 256) = S:=zaf fun j=>by
 have:=ofL_bl S 256 (Nat.le_refl _) j
 cases e:S.testBit j with
 | true=>exact this.2 ⟨zjp hS e, e⟩
 | false=>
  cases e2:(ofL (bl S 256)).testBit j with
  | false=>rfl
  | true=>have:=(this.1 e2).2; rw [e] at this; cases this
theorem zgf (k:Nat) (hk:1000 < k) {s:Sl} {S:Nat} (hS:S < FS) (r:Rd h s 1 ((bl S 256).flatMap cI)):∃ h', Ext h h' ∧ ∀ (α:Type) (ret:Int->Int->Int->Int->M α),
  qu.f (k + 1) s ret h = ret (wi S 0) (wi S 1) (wi S 2) (wi S 3) h':=by
 obtain ⟨k, rfl⟩:∃ q, k = q + 1:=⟨k - 1, by omega⟩
 let h1:=h.push (c4 0 0 0 0)
 have x1:Ext h h1:=(Ext.refl h).push _
 have hl:=zfa S 256
 obtain ⟨h2, x2, e2⟩:=Of_run (h:=h1) k (r.ext x1) (by omega) (by omega)
 rw [ofL_all hS] at e2
 have q2:h2.get h.next = some (c4 0 0 0 0):=by rw [x2.2 _ (Nat.lt_succ_self _)]; exact zav _ _ _ _
 refine ⟨h2.put h.next (some (c4 (wi S 0) (wi S 1) (wi S 2) (wi S 3))), (x1.trans x2).put _ (Nat.le_refl _), fun α ret=>?_⟩
 rw [qu.f, qu.u1.f, new4, e2]
 refine (st4 ⟨_, _, _, _, q2⟩ _).trans ?_
 exact ld4 (zh _ _ _) _
theorem sub_dif {S U:Nat} (hs:∀ i, S.testBit i = true->U.testBit i = true):dif S U = 0:=zaf fun j=>by
 rw [zau, Nat.zero_testBit]
 cases e:S.testBit j with
 | false=>rfl
 | true=>rw [hs j e]; rfl
theorem tot_all {g:Gm} {n:Nat} {sv:Nat->List Nat} {G:PG} (rg:RG g n sv G):Tot G fun j=>j < n:=by
 rintro i hi
 obtain ⟨j, hj⟩:=List.exists_mem_of_ne_nil _ (rg.ne i hi)
 exact ⟨j, (rg.E i j hi).2 hj, rg.ml i hi j hj⟩
theorem more {G G':PG} {n W0 W1 V0 V1:Nat} (t:Tot G fun j=>j < n) (hE:∀ i j, G'.E i j ↔ G.E i j) (ho:∀ i, G'.own i = true->G.own i = true) (hp:∀ π:Nat->Nat, zac (fun k=>G.pr (π k)) false->zac (fun k=>G'.pr (π k)) false)
  (w:∀ b, Win G (fun j=>j < n) (fun j=>(pk b W0 W1).testBit j = true) b) (pw:∀ i, i < n ↔ W0.testBit i = true ∨ W1.testBit i = true)
  (v:∀ b, Win G' (fun j=>j < n) (fun j=>(pk b V0 V1).testBit j = true) b) (pv:∀ i, i < n ↔ V0.testBit i = true ∨ V1.testBit i = true):dif W0 V0 = 0:=
 sub_dif fun i hi=>by
  have h1:=no_worse t hE ho hp (w false) (v true) i hi
  rcases (pv i).1 ((pw i).2 (.inl hi)) with h2 | h2
  ·exact h2
  ·exact absurd h2 h1
end Go.Ab.S9
namespace Go.Ab.S9
variable {α:Type} {h:H}
structure GN (g:Gm):Prop where
 o:g.ow.length≤17592186044416
 p:g.pr.length≤17592186044416
 m:g.mv.length≤5864062014805
 l:∀ l ∈ g.mv, l.length≤17592186044416
theorem sum_ge:∀ (ls:List (List Int)) (l:List Int), l ∈ ls->l.length≤(ls.map List.length).sum
 | x :: ls, l, h=>by
  simp only [List.map_cons, List.sum_cons]
  rcases List.mem_cons.1 h with rfl | h
  ·omega
  ·have:=sum_ge ls l h; omega
abbrev prG (g:Gm) (a:Nat) (v:Int):Gm:={ g with pr:=g.pr.set a v }
theorem pr_same {g:Gm} {a i:Nat} {v:Int} (h:i ≠ a):(pgOf (prG g a v)).pr i = (pgOf g).pr i:=by
 show ((g.pr.set a v).getD i 0).toNat = (g.pr.getD i 0).toNat
 rw [zaj, if_neg (fun q=>h q.1.symm)]
theorem zjw {g:Gm} {a:Nat} {v:Int} (h:a < g.pr.length):(pgOf (prG g a v)).pr a = v.toNat:=by
 show ((g.pr.set a v).getD a 0).toNat = v.toNat
 rw [zaj, if_pos ⟨rfl, h⟩]
abbrev Sols (g:Gm) (W0 W1:Nat):Prop:=(∀ b, Win (pgOf g) (fun j=>j < g.mv.length) (fun j=>(pk b W0 W1).testBit j = true) b) ∧ ∀ i, i < g.mv.length ↔ W0.testBit i = true ∨ W1.testBit i = true
theorem zkn {g:Gm} (rg:RG g g.mv.length (svOf g) (pgOf g)) {a q:Nat} (ha:a < g.pr.length) (hq:g.pr.getD a 0 = (q:Int)) (he:(q + 1) % 2 = 0) {W0 W1 V0 V1:Nat} (w:Sols g W0 W1) (v:Sols (prG g a ((q + 1:Nat):Int)) V0 V1):dif W0 V0 = 0:=
 more (G:=pgOf g) (G':=pgOf (prG g a ((q + 1:Nat):Int))) (tot_all rg) (fun i j=>Iff.rfl) (fun i hi=>hi)
  (fun π h=>raised (at':=a) (fun i hi=>pr_same hi) (by rw [zjw ha]; show (q + 1:Nat) = (g.pr.getD a 0).toNat + 1; rw [hq]; rfl) (by rw [zjw ha]; exact he) h) w.1 w.2 v.1 v.2
theorem zly {g:Gm} {a q:Nat} (rg:RG (prG g a ((q + 1:Nat):Int)) g.mv.length (svOf g) (pgOf (prG g a ((q + 1:Nat):Int)))) (ha:a < g.pr.length) (hq:g.pr.getD a 0 = (q:Int)) (he:(q + 1) % 2 = 1) {W0 W1 V0 V1:Nat} (w:Sols g W0 W1) (v:Sols (prG g a ((q + 1:Nat):Int)) V0 V1):dif V0 W0 = 0:=
 more (G:=pgOf (prG g a ((q + 1:Nat):Int))) (G':=pgOf g) (tot_all rg) (fun i j=>Iff.rfl) (fun i hi=>hi)
  (fun π h=>lowered (at':=a) (fun i hi=>pr_same hi) (by rw [zjw ha]; show (q + 1:Nat) = (g.pr.getD a 0).toNat + 1; rw [hq]; rfl) (by rw [zjw ha]; exact he) h) v.1 v.2 w.1 w.2
end Go.Ab.S9
namespace Go.Ab.S9
variable {α:Type} {h:H}
theorem zje (k:Nat) {o p m:Sl} {g:Gm} (r:GmR h o p m g) (h200:201 < k) (hk:∀ l ∈ g.mv, l.length < k ∧ l.length≤4611686018427387904) (ret:Bool->M α) :
  qac.f (k + 2) o p m ret h = ret (decide ((yo g).2 = 0)) ((h.push (gC o p m)).push (gC o p m)):=by
 have x:=(Ext.refl h).push (gC o p m)
 have hq:(h.push (gC o p m)).get h.next = some (gC o p m):=zjy _
 rw [qac.f, qac.u1.f, jl rfl, g_o' hq, g_p' hq, g_m' hq, zfb k (r.ext x) h200 hk]
theorem TopRaised_law {o p m:Sl} {g:Gm} (r:GmR h o p m g) (hb:GN g) (at':Int):∃ k h', ∀ (α:Type) (ret:Bool->M α), qv.f (k + 1) o p m at' ret h = ret true h':=by
 let k0:=6000000 + (g.mv.map List.length).sum
 have hk0:∀ l ∈ g.mv, l.length < k0 ∧ l.length≤4611686018427387904:=fun l hl=>⟨by have:=sum_ge g.mv l hl; omega, by have:=hb.l l hl; omega⟩
 let h1:=h.push (gC o p m)
 have x1:Ext h h1:=(Ext.refl h).push _
 have b1:h1.get h.next = some (gC o p m):=je h _
 let h2:=(h1.push (gC o p m)).push (gC o p m)
 have x2:Ext h1 h2:=((Ext.refl h1).push _).push _
 have n2:h2.next = h.next + 3:=rfl
 have b2:h2.get h.next = some (gC o p m):=by rw [x2.2 _ (Nat.lt_succ_self _)]; exact b1
 by_cases hr:(yo g).2 = 0
 ·by_cases h0:at' < 0
  ·refine ⟨k0 + 2, h2, fun α ret=>?_⟩
   rw [qv.f, qv.u1.f, jl rfl]
   show (ldS ((⟨h.next, 0⟩:Ad).add 0) _) h1 = _
   rw [g_o' b1, g_p' b1, g_m' b1, zje k0 (r.ext x1) (by omega) hk0, Bool.not_true, cond_false, dT hr, Bool.not_true, cond_false]
   show (cond (decide (at' < 0)) (_:M α) (_:M α)) h2 = _
   rw [dT h0, cond_true]
  by_cases h3:(g.ow.length:Int)≤at'
  ·refine ⟨k0 + 2, h2, fun α ret=>?_⟩
   rw [qv.f, qv.u1.f, jl rfl]
   show (ldS ((⟨h.next, 0⟩:Ad).add 0) _) h1 = _
   rw [g_o' b1, g_p' b1, g_m' b1, zje k0 (r.ext x1) (by omega) hk0, Bool.not_true, cond_false, dT hr, Bool.not_true, cond_false]
   show (cond (decide (at' < 0)) (_:M α) (_:M α)) h2 = _
   rw [dF h0, cond_false, g_o b2, ilen r.o, dT h3, cond_true]
  have rg:=zlz hr
  have n200:=rg.n200
  have n1:=rg.n1
  have lo:=rg.lo
  have lp:=rg.lp
  obtain ⟨a, rfl⟩:=Int.eq_ofNat_of_zero_le (show 0≤at' by omega)
  have ha:a < g.mv.length:=by omega
  have ha':a < g.pr.length:=by omega
  have hpa:=rg.pr a ha
  have r2:=(r.ext x1).ext x2
  have begin_:∀ (α:Type) (ret:Bool->M α), qv.f (k0 + 2 + 1) o p m (a:Int) ret h = cond (decide (7≤(((pgOf g).pr a:Nat):Int))) (ret true)
    (qc.f (k0 + 2) o p m fun r19 r20 r21 r22 r23=>
      new [.slice Sl.nil, .slice Sl.nil, .slice Sl.nil, .slice Sl.nil] fun c24=>
      st1 (c24.add 0) (.slice r19) <|
      st1 (c24.add 1) (.slice r20) <|
      st1 (c24.add 2) (.slice r21) <|
      st1 (c24.add 3) (.slice r22) <|
      ldS ((⟨h.next, 0⟩:Ad).add 0) fun x25=>
      ldS ((⟨h.next, 0⟩:Ad).add 1) fun x26=>
      ldS ((⟨h.next, 0⟩:Ad).add 2) fun x27=>
      qh.f (k0 + 2) x25 x26 x27 fun r28 r29 r30=>
      new [.slice Sl.nil, .slice Sl.nil, .slice Sl.nil] fun h31=>
      st1 (h31.add 0) (.slice r28) <|
      st1 (h31.add 1) (.slice r29) <|
      st1 (h31.add 2) (.slice r30) <|
      ldS ((h31.add 1).add 0) fun x32=>
      idxSl x32 (a:Int) 1 fun a33=>
      ldI .i64 (a33.add 0) fun x34=>
      idxSl x32 (a:Int) 1 fun a35=>
      st1 (a35.add 0) (.int .i64 (w64 (x34 + 1))) <|
      ldS (h31.add 0) fun x36=>
      ldS (h31.add 1) fun x37=>
      ldS (h31.add 2) fun x38=>
      qc.f (k0 + 2) x36 x37 x38 fun r39 r40 r41 r42 r43=>
      new [.slice Sl.nil, .slice Sl.nil, .slice Sl.nil, .slice Sl.nil] fun d44=>
      st1 (d44.add 0) (.slice r39) <|
      st1 (d44.add 1) (.slice r40) <|
      st1 (d44.add 2) (.slice r41) <|
      st1 (d44.add 3) (.slice r42) <|
      ldS ((h31.add 1).add 0) fun x45=>
      idxSl x45 (a:Int) 1 fun a46=>
      ldI .i64 (a46.add 0) fun x47=>
      cond (decide (Int.tmod x47 2 = 0)) (
       ldS ((((c24.add 0).add 0)).add 0) fun x48=>
       ldS ((((d44.add 0).add 0)).add 0) fun x49=>
       qu.f (k0 + 2) x48 fun r50 r51 r52 r53=>
       ldS ((((d44.add 0).add 0)).add 0) fun y54=>
       need (decide (x49 = y54)) <|
       qu.f (k0 + 2) x49 fun r55 r56 r57 r58=>
       qaa.f (k0 + 2) r50 r51 r52 r53 r55 r56 r57 r58 fun r59=>
       ret r59) (
       ldS ((((d44.add 0).add 0)).add 0) fun x60=>
       ldS ((((c24.add 0).add 0)).add 0) fun x61=>
       qu.f (k0 + 2) x60 fun r62 r63 r64 r65=>
       ldS ((((c24.add 0).add 0)).add 0) fun y66=>
       need (decide (x61 = y66)) <|
       qu.f (k0 + 2) x61 fun r67 r68 r69 r70=>
       qaa.f (k0 + 2) r62 r63 r64 r65 r67 r68 r69 r70 fun r71=>
       ret r71)) h2:=fun α ret=>by
   rw [qv.f, qv.u1.f, jl rfl]
   show (ldS ((⟨h.next, 0⟩:Ad).add 0) _) h1 = _
   rw [g_o' b1, g_p' b1, g_m' b1, zje k0 (r.ext x1) (by omega) hk0, Bool.not_true, cond_false, dT hr, Bool.not_true, cond_false]
   show (cond (decide ((a:Int) < 0)) (_:M α) (_:M α)) h2 = _
   rw [dF h0, cond_false, g_o b2, ilen r.o, dF h3, cond_false, g_p b2, jy r2.p rfl hpa]
   cases decide (7≤(((pgOf g).pr a:Nat):Int)) with
   | true=>rfl
   | false=>rw [cond_false, cond_false, g_o' b2, g_p' b2, g_m' b2]
  by_cases h7:7≤(pgOf g).pr a
  ·exact ⟨k0 + 2, h2, fun α ret=>by rw [begin_, dT (by omega), cond_true]⟩
  generalize hq:(pgOf g).pr a = q at hpa begin_ h7
  have hqg:g.pr.getD a 0 = (q:Int):=by rw [List.getD_eq_getElem?_getD, hpa]; rfl
  have hne1:g.ow ≠ []:=fun e=>by rw [e] at lo; simp at lo; omega
  have hne2:g.pr ≠ []:=fun e=>by rw [e] at lp; simp at lp; omega
  have hll:∀ l ∈ g.mv, l.length≤1000000:=fun l hl=>by
   obtain ⟨i, hi⟩:=List.getElem?_of_mem hl
   have hin:=yy hi
   rw [rg.mv i hin] at hi
   cases hi
   rw [yp]
   have:=pig _ _ (rg.nd i hin) (rg.ml i hin)
   omega
  obtain ⟨W0, W1, r0, r1, r2', r3, dp, h4, x4, hW0, rr, win, prt, e4⟩:=zie (h:=h2) (k0 + 1) (by omega) r2 rg (right00 hr)
  have w:Sols g W0 W1:=⟨win, prt⟩
  let h5:=(h4.push (s4 Sl.nil Sl.nil Sl.nil Sl.nil)).put h4.next (some (s4 r0 r1 r2' r3))
  have x5:Ext h4 h5:=((Ext.refl h4).push _).put _ (Nat.le_refl _)
  have x25:=x4.trans x5
  have n5:h5.next = h4.next + 1:=rfl
  have c5:h5.get h4.next = some (s4 r0 r1 r2' r3):=zh _ _ _
  have g5:h5.get h.next = some (gC o p m):=by rw [x25.2 _ (by omega)]; exact b2
  have n04:=x4.1
  obtain ⟨o', p', m', rows, h6, x6, C6, e6⟩:=copy_run (h:=h5) (k0 + 1) (by omega) (r2.ext x25) hne1 hne2 (by omega) (by omega) (by omega) hll
  let h8:=(h6.push (gC Sl.nil Sl.nil Sl.nil)).put h6.next (some (gC o' p' m'))
  have x8:Ext h6 h8:=((Ext.refl h6).push _).put _ (Nat.le_refl _)
  have n8:h8.next = h6.next + 1:=rfl
  have C8:=C6.push x8
  obtain ⟨h9, e9, C9, n9, k9⟩:=C8.stp ((q + 1:Nat):Int) (x:=(a:Int)) rfl ha'
  have lp':p'.id < h6.next:=Own.idlt C6.rp
  have bp':=C6.bp
  have q8:h8.get h6.next = some (gC o' p' m'):=zh _ _ _
  have q9:h9.get h6.next = some (gC o' p' m'):=by rw [k9 _ (by omega)]; exact q8
  have hr':yo (prG g a ((q + 1:Nat):Int)) = (0, 0):=right_pr hr a _ (by omega)
  have rg':RG (prG g a ((q + 1:Nat):Int)) g.mv.length (svOf g) (pgOf (prG g a ((q + 1:Nat):Int))):=zlz (g:=prG g a ((q + 1:Nat):Int)) (by rw [hr'])
  obtain ⟨V0, V1, s0, s1, s2, s3, dp', h10, x10, hV0, rs, win', prt', e10⟩:=zie (h:=h9) (k0 + 1) (by omega) C9.gm rg' hr'
  have v:Sols (prG g a ((q + 1:Nat):Int)) V0 V1:=⟨win', prt'⟩
  let h11:=(h10.push (s4 Sl.nil Sl.nil Sl.nil Sl.nil)).put h10.next (some (s4 s0 s1 s2 s3))
  have x11:Ext h10 h11:=((Ext.refl h10).push _).put _ (Nat.le_refl _)
  have n11:h11.next = h10.next + 1:=rfl
  have x911:=x10.trans x11
  have n56:=x6.1
  have n910:=x10.1
  have x511:Ext h5 h11:=⟨by omega, fun j hj=>by rw [x911.2 _ (by omega), k9 _ (by omega), x8.2 _ (by omega), x6.2 _ hj]⟩
  have c11:h11.get h4.next = some (s4 r0 r1 r2' r3):=(x511.2 h4.next (by omega)).trans c5
  have d11:h11.get h10.next = some (s4 s0 s1 s2 s3):=zh _ _ _
  have q11:h11.get h6.next = some (gC o' p' m'):=(x911.2 h6.next (by omega)).trans q9
  have hfirst:∀ {hh:H} {q:Nat} {a b c d:Sl} (α:Type) (K:Sl->M α), hh.get q = some (s4 a b c d)->ldS (((((⟨q, 0⟩:Ad).add 0).add 0)).add 0) K hh = K a hh:=fun α K hq=>yl (by rw [show ((((⟨_, 0⟩:Ad).add 0).add 0)).add 0 = ⟨_, 0⟩ from rfl, zt hq]; rfl)
  have rr11:=(rr.ext x5).ext x511
  have rs11:=rs.ext x11
  have hset:(g.pr.set a ((q + 1:Nat):Int))[a]? = some ((q + 1:Nat):Int):=List.getElem?_set_self ha'
  have rp11:=(C9.push x911).rp.rd
  have htm:∀ (x:Nat), Int.tmod ((x:Nat):Int) 2 = ((x % 2:Nat):Int):=fun x=>by rw [Int.tmod_eq_emod_of_nonneg (by omega)]; rfl
  have mid:∀ (α:Type) (ret:Bool->M α), qv.f (k0 + 2 + 1) o p m (a:Int) ret h =
    cond (decide ((q + 1) % 2 = 0)) (
       ldS (((((⟨h4.next, 0⟩:Ad).add 0).add 0)).add 0) fun x48=>
       ldS (((((⟨h10.next, 0⟩:Ad).add 0).add 0)).add 0) fun x49=>
       qu.f (k0 + 2) x48 fun r50 r51 r52 r53=>
       ldS (((((⟨h10.next, 0⟩:Ad).add 0).add 0)).add 0) fun y54=>
       need (decide (x49 = y54)) <|
       qu.f (k0 + 2) x49 fun r55 r56 r57 r58=>
       qaa.f (k0 + 2) r50 r51 r52 r53 r55 r56 r57 r58 fun r59=>
       ret r59) (
       ldS (((((⟨h10.next, 0⟩:Ad).add 0).add 0)).add 0) fun x60=>
       ldS (((((⟨h4.next, 0⟩:Ad).add 0).add 0)).add 0) fun x61=>
       qu.f (k0 + 2) x60 fun r62 r63 r64 r65=>
       ldS (((((⟨h4.next, 0⟩:Ad).add 0).add 0)).add 0) fun y66=>
       need (decide (x61 = y66)) <|
       qu.f (k0 + 2) x61 fun r67 r68 r69 r70=>
       qaa.f (k0 + 2) r62 r63 r64 r65 r67 r68 r69 r70 fun r71=>
       ret r71) h11:=fun α ret=>by
   rw [begin_, dF (by omega), cond_false, e4, jl rfl]
   refine (st4s (je h4 _) _).trans ?_
   show (ldS ((⟨h.next, 0⟩:Ad).add 0) _) h5 = _
   rw [g_o' g5, g_p' g5, g_m' g5, e6, jl rfl]
   refine (g_st (je h6 _) o' p' m' _).trans ?_
   show (ldS (((⟨h6.next, 0⟩:Ad).add 1).add 0) _) h8 = _
   rw [g_p q8, jy C8.rp.rd rfl hpa, yt (by omega) (by omega)]
   refine (e9 α _).trans ?_
   rw [g_o' q9, g_p' q9, g_m' q9, e10, jl rfl]
   refine (st4s (je h10 _) _).trans ?_
   show (ldS (((⟨h6.next, 0⟩:Ad).add 1).add 0) _) h11 = _
   rw [g_p q11, jy rp11 rfl hset, htm]
   have:decide ((((q + 1) % 2:Nat):Int) = 0) = decide ((q + 1) % 2 = 0):=by
    by_cases e:(q + 1) % 2 = 0
    ·rw [dT e, dT (by omega)]
    ·rw [dF e, dF (by omega)]
   rw [this]
  by_cases he:(q + 1) % 2 = 0
  ·obtain ⟨h12, x12, e12⟩:=zgf (h:=h11) (k0 + 1) (by omega) hW0 rr11
   obtain ⟨h13, x13, e13⟩:=zgf (h:=h12) (k0 + 1) (by omega) hV0 (rs11.ext x12)
   obtain ⟨h14, x14, e14⟩:=In_run (h:=h13) (k0 + 1) (by omega) (S:=W0) (U:=V0) hW0
   refine ⟨k0 + 2, h14, fun α ret=>?_⟩
   rw [mid, dT he, cond_true, hfirst _ _ c11, hfirst _ _ d11, e12, hfirst _ _ ((x12.2 h10.next (by omega)).trans d11), zd (dT rfl), e13, e14, dT (zkn rg ha' hqg he w v)]
  ·obtain ⟨h12, x12, e12⟩:=zgf (h:=h11) (k0 + 1) (by omega) hV0 rs11
   obtain ⟨h13, x13, e13⟩:=zgf (h:=h12) (k0 + 1) (by omega) hW0 (rr11.ext x12)
   obtain ⟨h14, x14, e14⟩:=In_run (h:=h13) (k0 + 1) (by omega) (S:=V0) (U:=W0) hV0
   refine ⟨k0 + 2, h14, fun α ret=>?_⟩
   rw [mid, dF he, cond_false, hfirst _ _ d11, hfirst _ _ c11, e12, hfirst _ _ ((x12.2 h4.next (by omega)).trans c11), zd (dT rfl), e13, e14, dT (zly rg' ha' hqg (by omega) w v)]
 ·refine ⟨k0 + 2, h2, fun α ret=>?_⟩
  rw [qv.f, qv.u1.f, jl rfl]
  show (ldS ((⟨h.next, 0⟩:Ad).add 0) _) h1 = _
  rw [g_o' b1, g_p' b1, g_m' b1, zje k0 (r.ext x1) (by omega) hk0, Bool.not_true, cond_false, dF hr]
  rfl
end Go.Ab.S9
