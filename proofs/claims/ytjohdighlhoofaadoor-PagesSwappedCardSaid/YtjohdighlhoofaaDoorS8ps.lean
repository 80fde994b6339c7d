import Derived.Test.YtjohdighlhoofaaDoorS8g3
import Derived.Laws.BitsAllLaws
set_option linter.unusedVariables false
set_option linter.unusedSimpArgs false
namespace Go.Ab.S8
variable {α:Type} {h:H}
def dg (n:Nat):UInt8:=UInt8.ofNat (48 + n)
def decD (n:Nat):List UInt8:=if n < 10 then [dg n] else if n < 100 then [dg (n / 10), dg (n % 10)] else [dg (n / 100), dg (n / 10 % 10), dg (n % 10)]
theorem lit0_at:∀ n, n < 10->(lit0.take (n + 1)).drop n = [dg n]:=by decide +kernel
theorem lit1_at:∀ n, n < 100->(lit1.take (n * 2 + 2)).drop (n * 2) = [dg (n / 10), dg (n % 10)]:=by decide +kernel
theorem lit1_one:∀ n, n < 100->lit1[n * 2]? = some (dg (n / 10)) ∧ lit1[n * 2 + 1]? = some (dg (n % 10)):=by decide +kernel
theorem lit0_len:lit0.length = 36:=by decide +kernel
theorem lit1_len:lit1.length = 200:=by decide +kernel
theorem dg_toNat (n:Nat) (hn:n < 10):(dg n).toNat = 48 + n:=by
 unfold dg
 rw [UInt8.toNat_ofNat']
 omega
def Keep (b:Nat) (h h':H):Prop:=h.next≤h'.next ∧ ∀ i, i < b->h'.get i = h.get i
theorem Keep.refl (b:Nat) (h:H):Keep b h h:=⟨Nat.le_refl _, fun _ _=>rfl⟩
theorem Keep.trans {b:Nat} {h h' h'':H} (x:Keep b h h') (y:Keep b h' h''):Keep b h h'':=⟨Nat.le_trans x.1 y.1, fun i hi=>by rw [y.2 i hi, x.2 i hi]⟩
theorem Keep.of {b:Nat} {h h':H} (x:Ext h h') (hb:b≤h.next):Keep b h h':=⟨x.1, fun i hi=>x.2 i (by omega)⟩
structure BR (h:H) (b:Nat) (s:Sl) (bs:List UInt8):Prop where
 app:App h s 1 (zm bs)
 top:∀ a, s.ad = some a->b≤a.id
 nx:b≤h.next
theorem zce (bs:List UInt8):(zm bs).length = bs.length:=by simp [zm]
theorem zhb (a b:List UInt8):zm (a ++ b) = zm a ++ zm b:=by simp [zm]
theorem BR.len {b:Nat} {s:Sl} {bs:List UInt8} (r:BR h b s bs):s.len = bs.length:=by
 have:=r.app.rd.len
 rw [zce] at this
 omega
theorem BR.ext {h':H} {b:Nat} {s:Sl} {bs:List UInt8} (r:BR h b s bs) (x:Ext h h'):BR h' b s bs:=⟨r.app.ext x, r.top, by have:=r.nx; have:=x.1; omega⟩
structure BStep (h:H) (s:Sl) (h':H) (s':Sl):Prop where
 nx:h.next≤h'.next
 kept:∀ i, i < h.next->(∀ a, s.ad = some a->i ≠ a.id)->h'.get i = h.get i
 new:∀ a, s'.ad = some a->h.next≤a.id
theorem BStep.trans {h h' h'':H} {s s' s'':Sl} (x:BStep h s h' s') (y:BStep h' s' h'' s''):BStep h s h'' s'':=
 ⟨Nat.le_trans x.nx y.nx, fun i hi hn=>by rw [y.kept i (Nat.lt_of_lt_of_le hi x.nx) (fun a ha=>by have:=x.new a ha; omega), x.kept i hi hn], fun a ha=>Nat.le_trans x.nx (y.new a ha)⟩
theorem BStep.ext {h h' h'':H} {s s':Sl} (x:Ext h h') (y:BStep h' s h'' s'):BStep h s h'' s':=
 ⟨Nat.le_trans x.1 y.nx, fun i hi hn=>by rw [y.kept i (Nat.lt_of_lt_of_le hi x.1) hn, x.2 i hi], fun a ha=>Nat.le_trans x.1 (y.new a ha)⟩
theorem BStep.keep {h h':H} {b:Nat} {s s':Sl} {bs:List UInt8} (x:BStep h s h' s') (B:BR h b s bs):Keep b h h':=
 ⟨x.nx, fun i hi=>x.kept i (by have:=B.nx; omega) fun a ha=>by have:=B.top a ha; omega⟩
theorem br_row {b:Nat} {s x:Sl} {bs more:List UInt8} (r:BR h b s bs) (hx:Rd h x 1 (zm more)) (hne:more ≠ []) (hb:bs.length + more.length≤17592186044416) :
  ∃ s' h', (∀ (α:Type) (K:Sl->M α), jk s 1 1 x K h = K s' h') ∧ BR h' b s' (bs ++ more) ∧ BStep h s h' s':=by
 have hl:=r.len
 have hxl:x.len = more.length:=by have:=hx.len; rw [zce] at this; omega
 have hp:0 < x.len:=by rw [hxl]; cases more with | nil=>exact absurd rfl hne | cons _ _=>simp
 obtain ⟨h', e, A, _, kp⟩:=zhn (bytes:=1) r.app hx hp (by decide) (by omega)
 refine ⟨_, h', fun α K=>e α K, ⟨by rw [zhb]; exact A, fun a ha=>by cases ha; exact r.nx, by rw [kp.1]; have:=r.nx; omega⟩, ⟨by rw [kp.1]; omega, fun i hi hn=>kp.2 i hi fun _=>hn, fun a ha=>by cases ha; exact Nat.le_refl _⟩⟩
theorem br_str {b:Nat} {s:Sl} {bs:List UInt8} (r:BR h b s bs) (x:List UInt8) (hx:x ≠ []) (hb:bs.length + x.length≤17592186044416) :
  ∃ s' h', (∀ (α:Type) (K:Sl->M α), zme s x K h = K s' h') ∧ BR h' b s' (bs ++ x) ∧ BStep h s h' s':=by
 have hl:=r.len
 have hp:0 < x.length:=by cases x with | nil=>exact absurd rfl hx | cons _ _=>simp
 obtain ⟨h', e, A, _, kp⟩:=zlz (bytes:=1) (n:=x.length) (more:=zm x) r.app (by rw [zce, Nat.mul_one]) hp (by decide) (by omega)
 refine ⟨_, h', fun α K=>e α K, ⟨by rw [zhb]; exact A, fun a ha=>by cases ha; exact r.nx, by rw [kp.1]; have:=r.nx; omega⟩, ⟨by rw [kp.1]; omega, fun i hi hn=>kp.2 i hi fun _=>hn, fun a ha=>by cases ha; exact Nat.le_refl _⟩⟩
theorem zfk {b:Nat} {s:Sl} {bs:List UInt8} (r:BR h b s bs) (c:UInt8) (hb:bs.length + 1≤17592186044416) :
  ∃ s' h', (∀ (α:Type) (K:Sl->M α), (new [.int .u8 (c.toNat:Int)] fun a=>jk s 1 1 ⟨some a, 1, 1, none⟩ K) h = K s' h') ∧ BR h' b s' (bs ++ [c]) ∧ BStep h s h' s':=by
 have x1:Ext h (h.push (.cells [.int .u8 (c.toNat:Int)] true)):=(Ext.refl h).push _
 obtain ⟨s', h', e, B, kp⟩:=br_row (r.ext x1) (x:=⟨some ⟨h.next, 0⟩, 1, 1, none⟩) (more:=[c]) (zim (ye _) (by rw [zk]; omega)) (by simp) (by simpa using hb)
 exact ⟨s', h', fun α K=>by rw [jc rfl]; exact e α K, B, BStep.ext x1 kp⟩
theorem small_str (k:Nat) (n:Nat) (hn:n < 100) (ret:List UInt8->M α):qu.f (k + 1) (n:Int) ret h = ret (decD n) h:=by
 rw [qu.f, qu.u1.f]
 unfold decD
 by_cases c:n < 10
 ·rw [dT (by omega:(n:Int) < 10), cond_true, if_pos c, jg (by omega) (by omega), zci (n:=n) (m:=n + 1) rfl (by omega) (by omega) (by rw [lit0_len]; omega), lit0_at n c]
 ·rw [dF (by omega:¬ (n:Int) < 10), cond_false, if_neg c, if_pos hn, jg (n:=(n:Int) * 2) (by omega) (by omega), jg (by omega) (by omega), zci (n:=n * 2) (m:=n * 2 + 2) (by omega) (by omega) (by omega) (by rw [lit1_len]; omega), lit1_at n hn]
theorem nd3 (n:Nat) (h1:100≤n) (h2:n < 1000):Lib.nDigits n = 3:=by
 rw [Lib.nDigits_big (by omega), Lib.nDigits_big (by omega), Lib.nDigits_small (by omega)]
abbrev z24:List V:=List.replicate 24 (.int .u8 0)
theorem fmt3 (k:Nat) (n:Nat) (h1:100≤n) (h2:n < 1000) {q:Nat} (hq:h.get q = some (.cells z24 true)) (hlt:q < h.next) (K:M α) :
  qg.f (k + 2) ⟨some ⟨q, 0⟩, 3, 24, none⟩ (n:Int) K h = K (h.put q (some (.cells (zm (decD n) ++ List.replicate 21 (.int .u8 0)) true))):=by
 have wu:∀ x:Int, 0≤x->x < 4294967296->IntKind.wrap .u32 x = x:=fun x h1 h2=>by rw [IntKind.wrap_u32']; omega
 have wb:∀ x:Int, 0≤x->x < 256->IntKind.wrap .u8 x = x:=fun x h1 h2=>by rw [IntKind.wrap_u8']; omega
 have pp:∀ (h:H) (i:Nat) (a b:Option Blk), (h.put i a).put i b = h.put i b:=zfr
 have hm:Int.tmod (n:Int) 100 = ((n % 100:Nat):Int):=by rw [Int.tmod_eq_emod_of_nonneg (by omega)]; omega
 have hd:Int.tdiv (n:Int) 100 = ((n / 100:Nat):Int):=by rw [Int.tdiv_eq_ediv_of_nonneg (by omega)]; omega
 obtain ⟨l1, l2⟩:=lit1_one (n % 100) (by omega)
 have hidx:∀ (g:H) (i:Nat), i < 3->∀ (K:Ad->M α), idxSl ⟨some ⟨q, 0⟩, 3, 24, none⟩ (i:Int) 1 K g = K ⟨q, 0 + i * 1⟩ g:=fun g i hi K=>idxSl_run rfl rfl hi
 rw [qg.f]
 unfold qg.u12.f qg.u1.f qg.u11.f qg.u7.f qg.u6.f
 simp only [qg.u6.l]
 unfold qg.u5.f qg.u2.f
 rw [dF (by decide:¬ (8:Int)≤((3:Nat):Int)), cond_false]
 unfold qg.u10.f qg.u8.f
 dsimp only
 rw [dF (by decide:¬ (4:Int)≤((3:Nat):Int)), cond_false]
 unfold qg.u9.f
 rw [dT (by decide:(2:Int)≤((3:Nat):Int)), cond_true, wu (n:Int) (by omega) (by omega), hm, hd]
 rw [wu (((n % 100:Nat):Int) * 2) (by omega) (by omega), wu (((n % 100:Nat):Int) * 2 + 1) (by omega) (by omega), jt (n:=n % 100 * 2 + 1) (by omega) l2, jt (n:=n % 100 * 2) (by omega) l1]
 rw [show w64 (((3:Nat):Int) - 1) = ((2:Nat):Int) from rfl, show w64 (((3:Nat):Int) - 2) = ((1:Nat):Int) from rfl, hidx _ 2 (by decide)]
 simp only [jn]
 rw [zas (a:=⟨q, 0 + 2 * 1 + 0⟩) hq rfl (by simp), hidx _ 1 (by decide)]
 simp only [jn]
 rw [zas (a:=⟨q, 0 + 1 * 1 + 0⟩) (by rw [js]) rfl (by simp), pp, dT (by decide:(0:Int) < ((1:Nat):Int)), cond_true]
 have h0:=hidx (h.put q (some (.cells ((z24.set (0 + 2 * 1 + 0) (.int .u8 ((dg (n % 100 % 10)).toNat:Int))).set (0 + 1 * 1 + 0) (.int .u8 ((dg (n % 100 / 10)).toNat:Int))) true))) 0 (by decide)
 rw [show (((0:Nat):Int)) = (0:Int) from rfl] at h0
 rw [h0]
 simp only [jn]
 rw [zas (a:=⟨q, 0 + 0 * 1 + 0⟩) (by rw [js]) rfl (by simp), pp, wu ((n / 100:Nat):Int) (by omega) (by omega), wu (48 + ((n / 100:Nat):Int)) (by omega) (by omega), wb _ (by omega) (by omega)]
 congr 3
 have e1:decD n = [dg (n / 100), dg (n / 10 % 10), dg (n % 10)]:=by unfold decD; rw [if_neg (by omega), if_neg (by omega)]
 have e2:(48 + ((n / 100:Nat):Int)) = ((dg (n / 100)).toNat:Int):=by rw [dg_toNat _ (by omega)]; omega
 rw [e1, e2, show n % 100 % 10 = n % 10 by omega, show n % 100 / 10 = n / 10 % 10 by omega]
 rfl
theorem zcl (k:Nat) {b:Nat} {s:Sl} {bs:List UInt8} (r:BR h b s bs) (n:Nat) (hn:n < 1000) (hb:bs.length≤17592186000000) :
  ∃ s' h', (∀ (α:Type) (K:Sl->M α), qp.f (k + 5) s (n:Int) 10 K h = K s' h') ∧ BR h' b s' (bs ++ decD n) ∧ BStep h s h' s':=by
 have hne:decD n ≠ []:=by unfold decD; split <;> (try split) <;> simp
 have hl3:(decD n).length≤3:=by unfold decD; split <;> (try split) <;> simp
 have w1:IntKind.wrap .u64 (n:Int) = n:=by rw [IntKind.wrap_u64]; omega
 have start:∀ (α:Type) (K:Sl->M α), qp.f (k + 5) s (n:Int) 10 K h = qs.u1.f (k + 2) s (n:Int) 10 K h:=fun α K=>by
  rw [qp.f, qp.u1.f, qy.f, qy.u1.f, dF (by omega:¬ (n:Int) < 0), cond_false, w1, qs.f]
 by_cases c:n < 100
 ·obtain ⟨s', h', e, B, kp⟩:=br_str r (decD n) hne (by omega)
  refine ⟨s', h', fun α K=>?_, B, kp⟩
  rw [start, qs.u1.f, dT rfl, cond_true, dT (by omega:(n:Int) < 100), cond_true, jg (by omega) (by omega), small_str _ n c]
  exact e α K
 ·have x1:Ext h (h.push (.cells z24 true)):=(Ext.refl h).push _
  have x2:Ext h ((h.push (.cells z24 true)).put h.next (some (.cells (zm (decD n) ++ List.replicate 21 (.int .u8 0)) true))):=x1.put _ (Nat.le_refl _)
  have hq:((h.push (.cells z24 true)).put h.next (some (.cells (zm (decD n) ++ List.replicate 21 (.int .u8 0)) true))).get h.next = some (.cells (zm (decD n) ++ List.replicate 21 (.int .u8 0)) true):=by rw [js]
  have hlen:(decD n).length = 3:=by unfold decD; rw [if_neg (by omega), if_neg c]; rfl
  have hrd:Rd ((h.push (.cells z24 true)).put h.next (some (.cells (zm (decD n) ++ List.replicate 21 (.int .u8 0)) true))) ⟨some ⟨h.next, 0⟩, 3, 24, none⟩ 1 (zm (decD n)):=by
   refine ⟨by rw [zce, hlen]; rfl, fun a ha=>?_, fun e=>(by cases e)⟩
   cases ha
   refine ⟨?_, Nat.lt_succ_self _⟩
   rw [zau hq (by simp)]
   simp
  obtain ⟨s', h', e, B, kp⟩:=br_row (r.ext x2) hrd hne (by omega)
  refine ⟨s', h', fun α K=>?_, B, BStep.ext x2 kp⟩
  rw [start, qs.u1.f, dT rfl, cond_true, dF (by omega:¬ (n:Int) < 100), cond_false, jc rfl]
  rw [show qab.f (k + 2) (n:Int) = fun ret=>need (decide (1≤(n:Int)) && decide ((n:Int) < 18446744073709551616)) (ret (Lib.nDigits (n:Int).toNat)) from rfl]
  dsimp only
  rw [zq (by rw [dT (by omega:1≤(n:Int)), dT (by omega:(n:Int) < 18446744073709551616)]; rfl), show (n:Int).toNat = n from rfl, nd3 n (by omega) hn]
  have f:Sl.fine ⟨some ⟨h.next, 0⟩, 24, 24, none⟩ 1:=⟨Nat.le_refl _, .inl rfl⟩
  have hcut:∀ (g:H) (K:Sl->M α), cutSl ⟨some ⟨h.next, 0⟩, 24, 24, none⟩ 1 none (some ((3:Nat):Int)) none K g = K ⟨some ⟨h.next, 0⟩, 3, 24, none⟩ g:=fun g K=>cut_to f rfl (show 3≤24 by omega) K
  rw [hcut]
  refine (fmt3 k n (by omega) hn (ye _) (Nat.lt_succ_self _) _).trans ?_
  rw [hcut]
  exact e α K
end Go.Ab.S8
namespace Go.Ab.S8
variable {α:Type} {h:H}
theorem zhw {a b:List UInt8} {K:List UInt8->M α} (hb:a.length + b.length≤4611686018427387904):cat a b K h = K (a ++ b) h:=by
 unfold cat
 rw [zq (Nat.ble_eq_true_of_le hb)]
end Go.Ab.S8
namespace Go.Ab.S8
structure RowOk (n o p:Int) (l:List Int):Prop where
 o:0≤o ∧ o≤1
 p:0≤p ∧ p≤7
 ne:l ≠ []
 m:yy n (-1) l = true
theorem rowE_ok {n o p:Int} {l:List Int}:rowE n o p l = 0 ↔ RowOk n o p l:=by
 unfold rowE
 constructor
 ·intro h
  by_cases c1:o < 0 ∨ 1 < o
  ·rw [if_pos c1] at h; cases h
  rw [if_neg c1] at h
  by_cases c2:p < 0 ∨ 7 < p
  ·rw [if_pos c2] at h; cases h
  rw [if_neg c2] at h
  by_cases c3:l.length = 0
  ·rw [if_pos c3] at h; cases h
  rw [if_neg c3] at h
  refine ⟨by omega, by omega, fun e=>c3 (by rw [e]; rfl), ?_⟩
  cases hm:yy n (-1) l with
  | true=>rfl
  | false=>rw [hm] at h; cases h
 ·intro h
  have h3:¬ l.length = 0:=fun e=>h.ne (List.eq_nil_of_length_eq_zero e)
  rw [if_neg (by have:=h.o; omega), if_neg (by have:=h.p; omega), if_neg h3, h.m, if_pos rfl]
theorem zby {n:Int}:∀ {l:List Int} {last:Int}, yy n last l = true->∀ m ∈ l, last < m ∧ m < n
 | [], _, _, m, hm=>by cases hm
 | x :: l, last, h, m, hm=>by
  simp only [yy, Bool.and_eq_true, decide_eq_true_eq] at h
  cases hm with
  | head=>exact h.1
  | tail _ hm=>have:=zby h.2 m hm; omega
theorem zdg {n:Int}:∀ {l:List Int} {last:Int}, last < n->yy n last l = true->(l.length:Int)≤n - 1 - last
 | [], _, hl, _=>by simp; omega
 | x :: l, last, hl, h=>by
  simp only [yy, Bool.and_eq_true, decide_eq_true_eq] at h
  have:=zdg (by omega) h.2
  simp only [List.length_cons]
  omega
structure Ok (g:Gm):Prop where
 l1:g.ow.length = g.mv.length
 l2:g.pr.length = g.mv.length
 n1:1≤g.mv.length
 n2:g.mv.length≤200
 row:∀ (i:Nat) (o p:Int) (l:List Int), g.ow[i]? = some o->g.pr[i]? = some p->g.mv[i]? = some l->RowOk g.mv.length o p l
theorem zml {n:Int}:∀ (k:Nat) (os ps:List Int) (ls:List (List Int)), os.length = ls.length->ps.length = ls.length ->
  ((zdh n k os ps ls).2 = 0 ↔ ∀ (i:Nat) (o p:Int) (l:List Int), os[i]? = some o->ps[i]? = some p->ls[i]? = some l->RowOk n o p l)
 | k, [], [], [], _, _=>⟨fun _ i o p l h=>(by simp at h), fun _=>rfl⟩
 | k, o :: os, p :: ps, l :: ls, h1, h2=>by
  simp only [List.length_cons, Nat.add_right_cancel_iff] at h1 h2
  rw [zdh]
  by_cases c:rowE n o p l = 0
  ·rw [if_pos c, zml (k + 1) os ps ls h1 h2]
   constructor
   ·intro h i o' p' l' e1 e2 e3
    cases i with
    | zero=>simp only [List.getElem?_cons_zero, Option.some.injEq] at e1 e2 e3; subst e1 e2 e3; exact rowE_ok.1 c
    | succ i=>exact h i o' p' l' (by simpa using e1) (by simpa using e2) (by simpa using e3)
   ·exact fun h i o' p' l' e1 e2 e3=>h (i + 1) o' p' l' (by simpa using e1) (by simpa using e2) (by simpa using e3)
  ·rw [if_neg c]
   exact ⟨fun h=>absurd h c, fun h=>absurd (rowE_ok.2 (h 0 o p l rfl rfl rfl)) c⟩
 | _, [], _, _ :: _, h1, _=>by simp at h1
 | _, _ :: _, _, [], h1, _=>by simp at h1
 | _, [], _ :: _, [], _, h2=>by simp at h2
 | _, _ :: _, [], _ :: _, _, h2=>by simp at h2
theorem zkm {g:Gm}:(zde g).2 = 0 ↔ Ok g:=by
 unfold zde
 by_cases c1:g.ow.length ≠ g.mv.length ∨ g.pr.length ≠ g.mv.length
 ·rw [if_pos c1]
  exact ⟨fun h=>(by cases h), fun h=>(by have:=h.l1; have:=h.l2; omega)⟩
 rw [if_neg c1]
 by_cases c2:g.mv.length < 1 ∨ 200 < g.mv.length
 ·rw [if_pos c2]
  exact ⟨fun h=>(by cases h), fun h=>(by have:=h.n1; have:=h.n2; omega)⟩
 rw [if_neg c2, zml 0 g.ow g.pr g.mv (by omega) (by omega)]
 exact ⟨fun h=>⟨by omega, by omega, by omega, by omega, h⟩, fun h=>h.row⟩
def mvS (m:Int):List UInt8:=32 :: decD m.toNat
def zbn (i:Nat) (o p:Int):List UInt8:=decD i ++ ([32] ++ (decD o.toNat ++ ([32] ++ (decD p.toNat ++ [32, 58]))))
def zek (i:Nat) (o p:Int) (l:List Int):List UInt8:=zbn i o p ++ (l.flatMap mvS ++ [10])
def zbw:Nat->List Int->List Int->List (List Int)->List UInt8
 | i, o :: os, p :: ps, l :: ls=>zek i o p l ++ zbw (i + 1) os ps ls
 | _, _, _, _=>[]
def topS (n:Nat):List UInt8:=[103, 97, 109, 101, 32] ++ (decD n ++ [10])
def zbe (g:Gm):List UInt8:=topS g.mv.length ++ zbw 0 g.ow g.pr g.mv
theorem yq (n:Nat):1≤(decD n).length ∧ (decD n).length≤3:=by unfold decD; split <;> (try split) <;> simp
theorem zlp:∀ l:List Int, (l.flatMap mvS).length≤4 * l.length
 | []=>by simp
 | m :: l=>by
  have:=zlp l
  have:=yq m.toNat
  simp only [List.flatMap_cons, List.length_append, mvS, List.length_cons]
  omega
theorem headS_len (i:Nat) (o p:Int):(zbn i o p).length≤13:=by
 have:=yq i
 have:=yq o.toNat
 have:=yq p.toNat
 simp only [zbn, List.length_append, List.length_cons, List.length_nil]
 omega
theorem zgu {n o p:Int} {l:List Int} (i:Nat) (hn:n≤200) (h:RowOk n o p l):(zek i o p l).length≤820:=by
 have h0:(-1:Int) < n:=by
  cases l with
  | nil=>exact absurd rfl h.ne
  | cons m l=>have:=zby h.m m (by simp); omega
 have:=zdg h0 h.m
 have:=zlp l
 have:=headS_len i o p
 simp only [zek, List.length_append, List.length_cons, List.length_nil]
 omega
theorem zjc {n:Int} (hn:n≤200):∀ (k:Nat) (os ps:List Int) (ls:List (List Int)), (∀ (i:Nat) (o p:Int) (l:List Int), os[i]? = some o->ps[i]? = some p->ls[i]? = some l->RowOk n o p l)->(zbw k os ps ls).length≤820 * ls.length
 | k, o :: os, p :: ps, l :: ls, h=>by
  have h1:=zgu k hn (h 0 o p l rfl rfl rfl)
  have h2:=zjc hn (k + 1) os ps ls fun i o p l e1 e2 e3=>h (i + 1) o p l (by simpa using e1) (by simpa using e2) (by simpa using e3)
  simp only [zbw, List.length_append, List.length_cons]
  omega
 | _, [], _, _, _=>by simp [zbw]
 | _, _ :: _, [], _, _=>by simp [zbw]
 | _, _ :: _, _ :: _, [], _=>by simp [zbw]
theorem zew {g:Gm} (h:Ok g):(zbe g).length≤164020 ∧ zbe g ≠ []:=by
 have h1:=zjc (n:=(g.mv.length:Int)) (by have:=h.n2; omega) 0 g.ow g.pr g.mv h.row
 have h2:=yq g.mv.length
 have h3:=h.n2
 refine ⟨?_, by simp [zbe, topS]⟩
 simp only [zbe, topS, List.length_append, List.length_cons, List.length_nil]
 omega
end Go.Ab.S8
namespace Go.Ab.S8
variable {α:Type} {h:H}
theorem Keep.xt {h₁ h h':H} (x:Ext h₁ h) (k:Keep h₁.next h h'):Ext h₁ h':=⟨Nat.le_trans x.1 k.1, fun i hi=>by rw [k.2 i hi, x.2 i hi]⟩
theorem pmv_loop (k:Nat) {h₁:H} {g5:Ad} {sl m:Sl} {c ii:Int} {l:List Int} (r:Rd h₁ sl 1 (l.flatMap cI)) (hl:∀ v ∈ l, 0≤v ∧ v < 1000) (hll:l.length≤1000000) :
  ∀ (f j:Nat) (s:Sl) (bs:List UInt8) (h:H), j≤l.length->l.length - j < f->bs.length + 4 * (l.length - j)≤17592186000000->Ext h₁ h->BR h h₁.next s bs ->
   ∃ s' h', Ext h₁ h' ∧ BR h' h₁.next s' (bs ++ (l.drop j).flatMap mvS) ∧ ∀ (α:Type) (kx:Ad->Sl->Sl->Int->Int->M α), qa.u13.l (k + 5) kx f g5 s m c ii sl (sl.len:Int) (j:Int) h = kx g5 s' m c ii h':=by
 have hlen:=ilen r
 intro f
 induction f with
 | zero=>intro j s bs h _ hf; omega
 | succ f ih=>
  intro j s bs h hj hf hb x B
  rcases idec hj with ⟨v, hv, hd, hlt⟩ | ⟨hd, he⟩
  ·obtain ⟨n, rfl⟩:=Int.eq_ofNat_of_zero_le (hl v (List.mem_of_getElem? hv)).1
   have hn:n < 1000:=by have:=(hl _ (List.mem_of_getElem? hv)).2; omega
   have hdl:=yq n
   obtain ⟨s1, h1, e1, B1, k1⟩:=zfk B 32 (by omega)
   obtain ⟨s2, h2, e2, B2, k2⟩:=zcl k B1 n hn (by simp; omega)
   have x2:Ext h₁ h2:=Keep.xt x ((k1.trans k2).keep B)
   obtain ⟨s3, h3, x3, B3, e3⟩:=ih (j + 1) s2 _ h2 hlt (by omega) (by simp; omega) x2 B2
   refine ⟨s3, h3, x3, ?_, fun α kx=>?_⟩
   ·rw [hd, List.flatMap_cons]
    have e:bs ++ (mvS (n:Int) ++ (l.drop (j + 1)).flatMap mvS) = bs ++ [32] ++ decD n ++ (l.drop (j + 1)).flatMap mvS:=by simp [mvS]
    rw [e]; exact B3
   ·rw [qa.u13.l, qa.u12.f, hlen, dT (by omega:(j:Int) < (l.length:Int)), cond_true, zbz (r.ext x) rfl hv]
    refine (e1 α _).trans ?_
    rw [e2, jg (by omega) (by omega), ← hlen]
    exact e3 α kx
  ·refine ⟨s, h, x, by rw [hd]; simpa using B, fun α kx=>?_⟩
   rw [qa.u13.l, qa.u12.f, hlen, dF (by omega:¬ (j:Int) < (l.length:Int)), cond_false]
theorem pnum_loop (k:Nat) {h₁:H} {g5:Ad} {sl l m:Sl} {c ii:Int} {ns:List Nat} (hn:∀ v ∈ ns, v < 1000) (hnl:ns.length≤1000000) :
  ∀ (f j:Nat) (s:Sl) (bs:List UInt8) (h:H), Rd h sl 1 ((ns.map fun (n:Nat)=>(n:Int)).flatMap cI)->(∀ a a', sl.ad = some a->s.ad = some a'->a.id ≠ a'.id)->j≤ns.length->ns.length - j < f->bs.length + 4 * (ns.length - j)≤17592186000000->Ext h₁ h->BR h h₁.next s bs ->
   ∃ s' h', Ext h₁ h' ∧ BR h' h₁.next s' (bs ++ (ns.drop j).flatMap fun n=>decD n ++ [32]) ∧ ∀ (α:Type) (kx:Ad->Sl->Sl->Sl->Int->Int->M α), qa.u7.l (k + 5) kx f g5 s l m c ii sl (ns.length:Int) (j:Int) h = kx g5 s' l m c ii h':=by
 intro f
 induction f with
 | zero=>intro j s bs h _ _ _ hf; omega
 | succ f ih=>
  intro j s bs h r hid hj hf hb x B
  rcases idec hj with ⟨n, hv, hd, hlt⟩ | ⟨hd, he⟩
  ·have hn':n < 1000:=hn n (List.mem_of_getElem? hv)
   have hdl:=yq n
   obtain ⟨s1, h1, e1, B1, k1⟩:=zcl k B n hn' (by omega)
   obtain ⟨s2, h2, e2, B2, k2⟩:=zfk B1 32 (by simp; omega)
   have k12:=k1.trans k2
   have x2:Ext h₁ h2:=Keep.xt x (k12.keep B)
   have r1:Rd h1 sl 1 ((ns.map fun (n:Nat)=>(n:Int)).flatMap cI):=r.keep k1.nx fun a ha=>k1.kept _ (r.row a ha).2 fun a' ha'=>hid a a' ha ha'
   obtain ⟨s3, h3, x3, B3, e3⟩:=ih (j + 1) s2 _ h2 (r.keep k12.nx fun a ha=>k12.kept _ (r.row a ha).2 fun a' ha'=>hid a a' ha ha') (fun a a' ha ha'=>by have:=(r.row a ha).2; have:=k12.new a' ha'; omega) hlt (by omega) (by simp; omega) x2 B2
   refine ⟨s3, h3, x3, ?_, fun α kx=>?_⟩
   ·rw [hd, List.flatMap_cons]
    have e:bs ++ (decD n ++ [32] ++ (ns.drop (j + 1)).flatMap fun n=>decD n ++ [32]) = bs ++ decD n ++ [32] ++ (ns.drop (j + 1)).flatMap fun n=>decD n ++ [32]:=by simp
    rw [e]; exact B3
   ·rw [qa.u7.l, qa.u6.f, dT (by omega:(j:Int) < (ns.length:Int)), cond_true, zbz r rfl (v:=(n:Int)) (by rw [List.getElem?_map, hv]; rfl), e1]
    refine (e2 α _).trans ?_
    rw [jg (by omega) (by omega)]
    exact e3 α kx
  ·refine ⟨s, h, x, by rw [hd]; simpa using B, fun α kx=>?_⟩
   rw [qa.u7.l, qa.u6.f, dF (by omega:¬ (j:Int) < (ns.length:Int)), cond_false]
theorem prow_loop (k:Nat) {h₁:H} {q:Nat} {o p m:Sl} {g:Gm} {rows:List Sl} (hq:h₁.get q = some (gC o p m)) (hqn:q < h₁.next) (ro:Rd h₁ o 1 (g.ow.flatMap cI)) (rp:Rd h₁ p 1 (g.pr.flatMap cI)) (rm:MvR h₁ m g.mv rows) (ok:Ok g) (hk:210≤k) :
  ∀ (f i:Nat) (s:Sl) (bs:List UInt8) (h:H), i≤g.mv.length->g.mv.length - i < f->bs.length + 820 * (g.mv.length - i)≤17592180000000->Ext h₁ h->BR h h₁.next s bs ->
   ∃ s' h', Ext h₁ h' ∧ BR h' h₁.next s' (bs ++ zbw i (g.ow.drop i) (g.pr.drop i) (g.mv.drop i)) ∧ ∀ (α:Type) (kx:Sl->M α), qa.u25.l (k + 5) kx f ⟨q, 0⟩ s m (g.mv.length:Int) (i:Int) h = kx s' h':=by
 have hn2:=ok.n2
 intro f
 induction f with
 | zero=>intro i s bs h _ hf; omega
 | succ f ih=>
  intro i s bs h hi hf hb x B
  by_cases hlt:i < g.mv.length
  ·obtain ⟨ov, pv, l, eo, ep, el, dow, dp, dl⟩:=drop3 ok.l1 ok.l2 hlt
   have R:=ok.row i ov pv l eo ep el
   obtain ⟨no, rfl⟩:=Int.eq_ofNat_of_zero_le R.o.1
   obtain ⟨np, rfl⟩:=Int.eq_ofNat_of_zero_le R.p.1
   have hmem:=zby R.m
   have hline:=zgu i (n:=(g.mv.length:Int)) (by omega) R
   have hll:l.length≤200:=by
    have h0:(-1:Int) < (g.mv.length:Int):=by omega
    have:=zdg h0 R.m
    omega
   have hq':h.get q = some (gC o p m):=by rw [x.2 q hqn]; exact hq
   obtain ⟨sl, rs, hsl, es⟩:=mv_at (rm.ext x) el
   have rs₁:=rm.row i sl l hsl el
   -- three numbers
   have xa:Ext h (h.push (.cells [.int .i64 (i:Int), .int .i64 (no:Int), .int .i64 (np:Int)] true)):=(Ext.refl h).push _
   have r3:Rd (h.push (.cells [.int .i64 (i:Int), .int .i64 (no:Int), .int .i64 (np:Int)] true)) ⟨some ⟨h.next, 0⟩, 3, 3, none⟩ 1 (([i, no, np].map fun (n:Nat)=>(n:Int)).flatMap cI):=by
    refine ⟨rfl, fun a ha=>?_, fun e=>(by cases e)⟩
    cases ha
    exact ⟨(zau (ye _) (Nat.le_refl _)).trans rfl, Nat.lt_succ_self _⟩
   have Ba:=B.ext xa
   obtain ⟨s1, h1, x1, B1, e1⟩:=pnum_loop k (h₁:=h₁) (g5:=⟨q, 0⟩) (sl:=⟨some ⟨h.next, 0⟩, 3, 3, none⟩) (l:=sl) (m:=m) (c:=(g.mv.length:Int)) (ii:=(i:Int)) (ns:=[i, no, np]) (by
     intro v hv
     have:=R.o.2; have:=R.p.2
     simp only [List.mem_cons, List.not_mem_nil, or_false] at hv
     omega) (by simp) (k + 5) 0 s bs _ r3 (fun a a' ha ha'=>by cases ha; have:=(B.app.rd.row a' ha').2; show h.next ≠ a'.id; omega) (Nat.zero_le _) (by show 3 - 0 < k + 5; omega) (by show bs.length + 4 * (3 - 0)≤_; omega) (x.trans xa) Ba
   have hl1:(decD i).length≤3 ∧ (decD no).length≤3 ∧ (decD np).length≤3:=⟨(yq i).2, (yq no).2, (yq np).2⟩
   obtain ⟨s2, h2, e2, B2, k2⟩:=zfk B1 58 (by simp; omega)
   have x2:Ext h₁ h2:=Keep.xt x1 (k2.keep B1)
   obtain ⟨s3, h3, x3, B3, e3⟩:=pmv_loop k (g5:=⟨q, 0⟩) (m:=m) (c:=(g.mv.length:Int)) (ii:=(i:Int)) rs₁ (fun v hv=>by have:=hmem v hv; omega) (by omega) (k + 5) 0 s2 _ h2 (Nat.zero_le _) (by omega) (by simp; omega) x2 B2
   have hml:=zlp l
   obtain ⟨s4, h4, e4, B4, k4⟩:=zfk B3 10 (by simp only [List.drop_zero, List.length_append, List.flatMap_cons, List.flatMap_nil, List.length_cons, List.length_nil]; omega)
   have x4:Ext h₁ h4:=Keep.xt x3 (k4.keep B3)
   have hB4:bs ++ List.flatMap (fun n=>decD n ++ [32]) (List.drop 0 [i, no, np]) ++ [58] ++ List.flatMap mvS (List.drop 0 l) ++ [10] = bs ++ zek i (no:Int) (np:Int) l:=by
    simp [zek, zbn]
   rw [hB4] at B4
   obtain ⟨s5, h5, x5, B5, e5⟩:=ih (i + 1) s4 _ h4 hlt (by omega) (by rw [List.length_append]; omega) x4 B4
   refine ⟨s5, h5, x5, ?_, fun α kx=>?_⟩
   ·rw [dow, dp, dl, zbw, ← List.append_assoc]; exact B5
   ·rw [qa.u25.l]
    unfold qa.u24.f qa.u3.f
    dsimp only
    rw [dT (by omega:(i:Int) < (g.mv.length:Int)), cond_true]
    unfold qa.u23.f qa.u21.f qa.u20.f qa.u4.f
    dsimp only
    rw [es α _ _ rfl]
    unfold qa.u19.f qa.u9.f qa.u5.f
    dsimp only
    rw [g_o hq', zbz (ro.ext x) rfl eo, g_p hq', zbz (rp.ext x) rfl ep, jc rfl]
    unfold qa.u8.f qa.u7.f
    refine (e1 α _).trans ?_
    unfold qa.u18.f qa.u10.f
    refine (e2 α _).trans ?_
    unfold qa.u17.f qa.u15.f qa.u11.f qa.u14.f qa.u13.f
    refine (e3 α _).trans ?_
    unfold qa.u16.f
    refine (e4 α _).trans ?_
    unfold qa.u22.f
    dsimp only
    rw [jg (by omega) (by omega)]
    exact e5 α kx
  ·have hie:i = g.mv.length:=by omega
   subst hie
   refine ⟨s, h, x, by rw [List.drop_length, List.drop_of_length_le (Nat.le_of_eq ok.l1), List.drop_of_length_le (Nat.le_of_eq ok.l2)]; simpa [zbw] using B, fun α kx=>?_⟩
   rw [qa.u25.l]
   unfold qa.u24.f qa.u3.f
   dsimp only
   rw [dF (by omega:¬ (g.mv.length:Int) < (g.mv.length:Int)), cond_false]
theorem zjd:∀ l:List UInt8, bytesOf (zm l) = some l
 | []=>rfl
 | b :: l=>by
  show bytesOf (.int .u8 (b.toNat:Int) :: zm l) = _
  rw [bytesOf, zjd l]
  simp
theorem br_read {b:Nat} {s:Sl} {bs:List UInt8} (B:BR h b s bs) (K:List UInt8->M α):(rdSl s 1 fun cs=>zko cs fun x=>K x) h = K bs h:=by
 rw [B.app.rd.rd]
 unfold zko
 dsimp only
 rw [zjd]
theorem zkt (k:Nat) {o p m:Sl} {g:Gm} (r:GmR h o p m g) (hb:GB k g) (hk:210≤k) :
  ∃ h', Ext h h' ∧ ∀ (α:Type) (ret:List UInt8->M α), qa.f (k + 6) o p m ret h = ret (if (zde g).2 = 0 then zbe g else []) h':=by
 have x1:Ext h (h.push (gC o p m)):=(Ext.refl h).push _
 have x2:Ext h ((h.push (gC o p m)).push (gC o p m)):=x1.push _
 have hq:(h.push (gC o p m)).get h.next = some (gC o p m):=ye _
 have hq2:((h.push (gC o p m)).push (gC o p m)).get h.next = some (gC o p m):=by rw [zt, if_neg (by rw [zk]; omega)]; exact hq
 have n2:((h.push (gC o p m)).push (gC o p m)).next = h.next + 2:=rfl
 have hbk:∀ l ∈ g.mv, l.length < k + 4 ∧ l.length≤4611686018427387904:=(hb.mono (by omega:k≤k + 4)).k
 have start:∀ (α:Type) (ret:List UInt8->M α), qa.f (k + 6) o p m ret h = _:=fun α ret=>by
  rewrite [qa.f]
  unfold qa.u30.f qa.u1.f
  rewrite [jc rfl, g_o' hq, g_p' hq, g_m' hq, right_run (k + 4) (r.ext x1) (by omega) hbk]
  exact rfl
 by_cases c:(zde g).2 = 0
 ·have ok:=zkm.1 c
  obtain ⟨rows, rm⟩:=r.m
  have lo:=ilen r.o
  generalize (h.push (gC o p m)).push (gC o p m) = h2 at start x2 hq2 n2
  have x3:Ext h2 (h2.push (.cells (zm [103, 97, 109, 101, 32]) true)):=(Ext.refl h2).push _
  have B0:BR (h2.push (.cells (zm [103, 97, 109, 101, 32]) true)) h2.next ⟨some ⟨h2.next, 0⟩, 5, 5, none⟩ [103, 97, 109, 101, 32]:=by
   refine ⟨⟨⟨rfl, fun a ha=>?_, fun e=>(by cases e)⟩, fun e=>(by cases e), .inl ⟨rfl, rfl⟩⟩, fun a ha=>(by cases ha; exact Nat.le_refl _), Nat.le_succ _⟩
   cases ha
   exact ⟨(zau (ye _) (Nat.le_refl _)).trans rfl, Nat.lt_succ_self _⟩
  obtain ⟨s4, h4, e4, B4, k4⟩:=zcl k B0 g.mv.length (by have:=ok.n2; omega) (by decide)
  have hdl:=yq g.mv.length
  obtain ⟨s5, h5, e5, B5, k5⟩:=zfk B4 10 (by simp; omega)
  have x5:Ext h2 h5:=Keep.xt x3 ((k4.trans k5).keep B0)
  have hq5:h5.get h.next = some (gC o p m):=by rw [x5.2 _ (by omega)]; exact hq2
  obtain ⟨s6, h6, x6, B6, e6⟩:=prow_loop k (h₁:=h2) hq2 (by omega) (r.o.ext x2) (r.p.ext x2) (rm.ext x2) ok hk (k + 5) 0 s5 _ h5 (Nat.zero_le _) (by have:=ok.n2; omega) (by simp; have:=ok.n2; omega) x5 B5
  refine ⟨h6, x2.trans x6, fun α ret=>?_⟩
  rw [start, if_pos c, dT c, Bool.not_true, cond_false, jc rfl]
  have hown:∀ (K:M α), ownK ⟨some ⟨h2.next, 0⟩, 5, 5, none⟩ K (h2.push (.cells (zm [103, 97, 109, 101, 32]) true)) = K (h2.push (.cells (zm [103, 97, 109, 101, 32]) true)):=fun K=>by
   unfold ownK
   refine (zq rfl).trans ?_
   dsimp only
   unfold H.own
   rw [ye]
   rfl
  refine (hown _).trans ?_
  rw [g_o (q:=h.next) (h:=h2.push (.cells (zm [103, 97, 109, 101, 32]) true)) (o:=o) (p:=p) (m:=m) (by rw [x3.2 _ (by omega)]; exact hq2), lo, ok.l1]
  refine (e4 α _).trans ?_
  refine (e5 α _).trans ?_
  unfold qa.u29.f qa.u27.f qa.u2.f
  dsimp only
  rw [g_m hq5, mlen rm]
  unfold qa.u26.f qa.u25.f
  refine (e6 α _).trans ?_
  unfold qa.u28.f
  dsimp only
  rw [br_read B6]
  simp [zbe, topS]
 ·refine ⟨_, x2, fun α ret=>?_⟩
  rw [start, if_neg c, dF c, Bool.not_false, cond_true]
end Go.Ab.S8
namespace Go.Ab.S8
structure St where
 l:List Tok
 f:Option (Int × Int)
def St.hd (s:St):Tok:=s.l.headD ⟨0, 0, [], 0⟩
def zbc (e:Int) (s:St):St:=if s.f.isSome then s else ⟨s.l, some (s.hd.pos, e)⟩
def yv (kind:Int) (text:List UInt8) (s:St):Int × St:=
 if s.f.isSome then (0, s) else if s.hd.kind = kind ∧ (text = [] ∨ s.hd.text = text) then (s.hd.num, if kind = 0 then s else ⟨s.l.tail, s.f⟩) else (0, zbc (if s.hd.kind = 0 then 6 else 7) s)
def numP (a b e:Int) (s:St):Int × St:=yv 4 [] (if s.hd.kind = 4 ∧ (s.hd.num < a ∨ b < s.hd.num) then zbc e s else s)
def zaz:List Tok->List Tok
 | t :: r=>if t.kind = 1 then zaz r else t :: r
 | []=>[]
def yc (s:St):St:=⟨zaz s.l, s.f⟩
def endP (s:St):St:=if s.hd.kind = 0 then s else (yv 1 [] s).2
def mvsP (n:Int):Nat->List Int->Int->St->List Int × St
 | 0, acc, _, s=>(acc, s)
 | k + 1, acc, last, s=>if s.f.isNone ∧ s.hd.kind = 4 then mvsP n k (acc ++ [(numP (last + 1) (n - 1) 16 s).1]) (numP (last + 1) (n - 1) 16 s).1 (numP (last + 1) (n - 1) 16 s).2 else (acc, s)
def zgo (r:List Int × St):List Int × St:=(r.1, if r.1 = [] ∧ (r.2.hd.kind = 1 ∨ r.2.hd.kind = 0) then zbc 17 r.2 else r.2)
def zay (n:Int) (s:St):List Int × St:=zgo (mvsP n (s.l.length + 2) [] (-1) s)
structure Rw where
 o:Int
 p:Int
 m:List Int
def rowP (n i:Int) (s:St):Rw × St:=
 let a:=numP 0 1 14 (numP i i 8 (yc s)).2
 let b:=numP 0 7 15 a.2
 let m:=zay n (yv 5 [58] b.2).2
 (⟨a.1, b.1, m.1⟩, endP m.2)
def Gm.add (g:Gm) (r:Rw):Gm:=⟨g.ow ++ [r.o], g.pr ++ [r.p], g.mv ++ [r.m]⟩
def zax (n:Int):Nat->Int->Gm->St->Gm × St
 | 0, _, g, s=>(g, s)
 | c + 1, i, g, s=>if s.f.isNone then zax n c (i + 1) (g.add (rowP n i s).1) (rowP n i s).2 else (g, s)
def yn (s:St):Int × St:=
 let a:=numP 1 200 10 (yv 2 [103, 97, 109, 101] (yc s)).2
 (a.1, endP a.2)
def zlr (r:Gm × St):Except (Int × Int) Gm:=match (yv 0 [] (yc r.2)).2.f with | none=>.ok r.1 | some e=>.error e
def pageP (ts:List Tok):Except (Int × Int) Gm:=zlr (zax (yn ⟨ts, none⟩).1 (yn ⟨ts, none⟩).1.toNat 0 ⟨[], [], []⟩ (yn ⟨ts, none⟩).2)
def zgb (text:List UInt8):Except (Int × Int) Gm:=match zcu text with | .error (m, e)=>.error ((m:Int), e) | .ok ts=>pageP ts
theorem yk {kind:Int} {text:List UInt8} {s:St} {fe:Int × Int} (hf:s.f = some fe):yv kind text s = (0, s):=by
 unfold yv
 rw [hf]; rfl
theorem zea {kind:Int} {text:List UInt8} {s:St} (hf:s.f = none) (c:s.hd.kind = kind ∧ (text = [] ∨ s.hd.text = text)):yv kind text s = (s.hd.num, if kind = 0 then s else ⟨s.l.tail, none⟩):=by
 unfold yv
 rw [hf, if_neg (by simp), if_pos c]
theorem zid {kind:Int} {text:List UInt8} {s:St} (hf:s.f = none) (c:¬ (s.hd.kind = kind ∧ (text = [] ∨ s.hd.text = text))):yv kind text s = (0, zbc (if s.hd.kind = 0 then 6 else 7) s):=by
 unfold yv
 rw [hf, if_neg (by simp), if_neg c]
theorem zcz {e:Int} {s:St} {fe:Int × Int} (hf:s.f = some fe):zbc e s = s:=by unfold zbc; rw [hf]; rfl
theorem zeu {e:Int} {s:St} (hf:s.f = none):zbc e s = ⟨s.l, some (s.hd.pos, e)⟩:=by unfold zbc; rw [hf]; rfl
def Ends (l:List Tok):Prop:=∃ r e, l = r ++ [e] ∧ e.kind = 0 ∧ ∀ t ∈ r, t.kind ≠ 0
theorem Ends.ne {l:List Tok} (h:Ends l):∃ t r, l = t :: r:=by
 obtain ⟨r, e, rfl, _⟩:=h
 cases r with
 | nil=>exact ⟨e, [], rfl⟩
 | cons t r=>exact ⟨t, r ++ [e], rfl⟩
theorem Ends.tail {t:Tok} {r:List Tok} (h:Ends (t :: r)) (hk:t.kind ≠ 0):Ends r:=by
 obtain ⟨l, e, h1, h2, h3⟩:=h
 cases l with
 | nil=>simp at h1; rw [h1.1] at hk; exact absurd h2 hk
 | cons u l=>
  simp only [List.cons_append, List.cons.injEq] at h1
  exact ⟨l, e, h1.2, h2, fun t ht=>h3 t (List.mem_cons_of_mem _ ht)⟩
theorem Ends.hd {s:St} (h:Ends s.l):s.l[0]? = some s.hd:=by
 obtain ⟨t, r, hl⟩:=h.ne
 unfold St.hd
 rw [hl]; rfl
theorem Ends.tailS {s:St} (h:Ends s.l) (hk:s.hd.kind ≠ 0):Ends s.l.tail ∧ s.l = s.hd :: s.l.tail:=by
 obtain ⟨t, r, hl⟩:=h.ne
 have hh:s.hd = t:=by unfold St.hd; rw [hl]; rfl
 rw [hl] at h ⊢
 rw [hh] at hk ⊢
 exact ⟨h.tail hk, rfl⟩
theorem Ends.blank:∀ {l:List Tok}, Ends l->Ends (zaz l)
 | [], h=>h
 | t :: r, h=>by
  rw [zaz]
  by_cases c:t.kind = 1
  ·rw [if_pos c]; exact Ends.blank (h.tail (by omega))
  ·rw [if_neg c]; exact h
theorem zfi (e:Int) (s:St):(zbc e s).l = s.l:=by unfold zbc; split <;> rfl
theorem Ends.take {s:St} (h:Ends s.l) (kind:Int) (text:List UInt8):Ends (yv kind text s).2.l:=by
 unfold yv
 split
 ·exact h
 split
 ·rename_i hc
  split
  ·exact h
  ·exact (h.tailS (by omega)).1
 ·rw [zfi]; exact h
theorem Ends.num {s:St} (h:Ends s.l) (a b e:Int):Ends (numP a b e s).2.l:=by
 unfold numP
 apply Ends.take
 split
 ·rw [zfi]; exact h
 ·exact h
theorem Ends.endP {s:St} (h:Ends s.l):Ends (endP s).l:=by
 unfold S8.endP
 split
 ·exact h
 ·exact h.take 1 []
def St.mu (s:St):Nat:=s.l.length + (if s.f.isNone then 1 else 0)
theorem num_mu {s:St} (h:Ends s.l) (hf:s.f = none) (h4:s.hd.kind = 4) (a b e:Int):(numP a b e s).2.mu < s.mu:=by
 obtain ⟨h1, h2⟩:=h.tailS (by omega)
 have hlen:s.l.length = s.l.tail.length + 1:=by rw [h2]; rfl
 unfold numP
 by_cases c:s.hd.num < a ∨ b < s.hd.num
 ·rw [if_pos ⟨h4, c⟩]
  have hfp:zbc e s = ⟨s.l, some (s.hd.pos, e)⟩:=by unfold zbc; rw [hf]; rfl
  rw [hfp]
  unfold yv St.mu
  simp [hf]
 ·rw [if_neg (fun hc=>c hc.2)]
  unfold yv St.mu
  simp [hf, h4]
  omega
end Go.Ab.S8
namespace Go.Ab.S8
variable {α:Type} {h:H}
def ExQ (q:Nat) (h h':H):Prop:=h.next≤h'.next ∧ ∀ i, i < h.next->i ≠ q->h'.get i = h.get i
theorem ExQ.refl (q:Nat) (h:H):ExQ q h h:=⟨Nat.le_refl _, fun _ _ _=>rfl⟩
theorem ExQ.trans {q:Nat} {a b c:H} (x:ExQ q a b) (y:ExQ q b c):ExQ q a c:=⟨Nat.le_trans x.1 y.1, fun i hi hn=>by rw [y.2 i (by have:=x.1; omega) hn, x.2 i hi hn]⟩
theorem ExQ.of {q:Nat} {a b:H} (x:Ext a b):ExQ q a b:=⟨x.1, fun i hi _=>x.2 i hi⟩
theorem ExQ.put (q:Nat) (h:H) (b:Option Blk):ExQ q h (h.put q b):=⟨Nat.le_refl _, fun i _ hn=>by rw [zw, if_neg hn]⟩
def FR (h:H) (q:Nat) (p:Option Ad):Option (Int × Int)->Prop
 | none=>p = none
 | some (m, e)=>∃ i, p = some ⟨i, 0⟩ ∧ i ≠ q ∧ i < h.next ∧ h.get i = some (.cells [.int .i64 m, .int .i64 e] true)
structure PR (h:H) (q:Nat) (sl:Sl) (p:Option Ad) (s:St):Prop where
 lt:q < h.next
 blk:h.get q = some (.cells [.slice sl, .ptr p] true)
 toks:TkR h sl s.l
 fine:sl.fine 4
 tok:∀ a, sl.ad = some a->a.id ≠ q
 f:FR h q p s.f
 ends:Ends s.l
theorem FR.ext {h':H} {q:Nat} {p:Option Ad} {f:Option (Int × Int)} (r:FR h q p f) (x:ExQ q h h'):FR h' q p f:=by
 cases f with
 | none=>exact r
 | some e=>
  obtain ⟨i, h1, h2, h3, h4⟩:=r
  exact ⟨i, h1, h2, Nat.lt_of_lt_of_le h3 x.1, by rw [x.2 i h3 h2]; exact h4⟩
section
variable {q:Nat} {sl:Sl} {p:Option Ad} {s:St}
theorem PR.ext {h':H} (P:PR h q sl p s) (x:ExQ q h h') (hb:h'.get q = h.get q):PR h' q sl p s:=
 ⟨Nat.lt_of_lt_of_le P.lt x.1, by rw [hb]; exact P.blk, P.toks.keep x.1 fun a ha=>x.2 _ (P.toks.row a ha).2 (P.tok a ha), P.fine, P.tok, P.f.ext x, P.ends⟩
theorem PR.push (P:PR h q sl p s) (b:Blk):PR (h.push b) q sl p s:=P.ext (.of ((Ext.refl h).push b)) (((Ext.refl h).push b).2 q P.lt)
theorem p_l (P:PR h q sl p s) (K:Sl->M α):ldS (((⟨q, 0⟩:Ad).add 0).add 0) K h = K sl h:=zcf (by simp only [jn]; rw [jp (a:=⟨q, 0 + 0 + 0⟩) P.blk]; rfl)
theorem p_f (P:PR h q sl p s) (K:Option Ad->M α):ldP (((⟨q, 0⟩:Ad).add 1).add 0) K h = K p h:=zfp (by simp only [jn]; rw [jp (a:=⟨q, 0 + 1 + 0⟩) P.blk]; rfl)
theorem FR.isNone {f:Option (Int × Int)} (r:FR h q p f):p.isNone = f.isNone:=by
 cases f with
 | none=>rw [show p = none from r]; rfl
 | some e=>obtain ⟨i, h1, _⟩:=r; rw [h1]; rfl
theorem zar (P:PR h q sl p s) (k:Nat) (ret:Int->Int->List UInt8->Int->M α) :
  qn.f (k + 1) ⟨q, 0⟩ ret h = ret s.hd.kind s.hd.pos s.hd.text s.hd.num (h.push (tkC s.hd)):=by
 rw [qn.f, qn.u1.f, jc rfl, p_l (P.push _), tk_all (P.push _).toks (x:=0) (i:=0) rfl P.ends.hd]
 simp only [jn, Nat.zero_add]
 rw [yd rfl (by simp), yd rfl (by simp), yd rfl (by simp), yd rfl (by simp)]
 simp only [List.set_cons_zero, List.set_cons_succ]
 exact tk4_all (t:=s.hd) (ye _) ret
theorem PR.setf (P:PR h q sl none s) (hs:s.f = none) {i:Nat} {m e:Int} (hi:i ≠ q) (hlt:i < h.next) (hg:h.get i = some (.cells [.int .i64 m, .int .i64 e] true)) :
  PR (h.put q (some (.cells [.slice sl, .ptr (some ⟨i, 0⟩)] true))) q sl (some ⟨i, 0⟩) ⟨s.l, some (m, e)⟩ ∧ ∀ (α:Type) (K:M α), st1 (((⟨q, 0⟩:Ad).add 1).add 0) (.ptr (some ⟨i, 0⟩)) K h = K (h.put q (some (.cells [.slice sl, .ptr (some ⟨i, 0⟩)] true))):=by
 refine ⟨⟨P.lt, by rw [js], P.toks.keep (Nat.le_refl _) fun a ha=>by rw [zw, if_neg (P.tok a ha)], P.fine, P.tok, ⟨i, rfl, hi, hlt, by rw [zw, if_neg hi]; exact hg⟩, P.ends⟩, fun α K=>?_⟩
 simp only [jn]
 rw [zas (a:=⟨q, 0 + 1 + 0⟩) P.blk rfl (by simp)]
 rfl
structure Qr (q:Nat) (h:H) (sl:Sl) (p:Option Ad) (h':H) (sl':Sl) (p':Option Ad):Prop where
 x:ExQ q h h'
 s:∀ a', sl'.ad = some a'->∃ a, sl.ad = some a ∧ a.id = a'.id
 p:∀ a', p' = some a'->p = some a' ∨ h.next≤a'.id
theorem Qr.trans {h' h'':H} {sl' sl'':Sl} {p' p'':Option Ad} (x:Qr q h sl p h' sl' p') (y:Qr q h' sl' p' h'' sl'' p''):Qr q h sl p h'' sl'' p'':=
 ⟨x.x.trans y.x, fun a ha=>by obtain ⟨b, hb, e⟩:=y.s a ha; obtain ⟨c, hc, e'⟩:=x.s b hb; exact ⟨c, hc, by rw [e', e]⟩, fun a ha=>by
  rcases y.p a ha with h1 | h1
  ·exact x.p a h1
  ·exact .inr (Nat.le_trans x.x.1 h1)⟩
theorem Qr.of {h':H} (x:ExQ q h h'):Qr q h sl p h' sl p:=⟨x, fun a ha=>⟨a, ha, rfl⟩, fun a ha=>.inl ha⟩
theorem PR.adv (P:PR h q sl p s) (hk:s.hd.kind ≠ 0) :
  ∃ sl', PR (h.put q (some (.cells [.slice sl', .ptr p] true))) q sl' p ⟨s.l.tail, s.f⟩ ∧ Qr q h sl p (h.put q (some (.cells [.slice sl', .ptr p] true))) sl' p ∧ ∀ (α:Type) (K:M α), (cutSl sl 4 (some 1) none none fun x=>st1 (((⟨q, 0⟩:Ad).add 0).add 0) (.slice x) K) h = K (h.put q (some (.cells [.slice sl', .ptr p] true))):=by
 obtain ⟨he, hl⟩:=P.ends.tailS hk
 have hlen:sl.len = s.l.tail.length + 1:=by rw [tk_slen P.toks, hl]; rfl
 have rf:=P.toks.from 1 (sl.cap - 1) sl.cap sl.loose (by omega) P.fine.1
 have hdr:(zag s.l).drop (1 * 4) = zag s.l.tail:=by
  rw [hl]
  exact zkz (c:=Tok.cells) (size:=4) Tok.len (s.hd :: s.l.tail) 1
 rw [hdr] at rf
 have had:∀ a, sl.from 1 sl.cap 4 = some a->a.id ≠ q:=fun a ha=>by
  obtain ⟨b, hb, e⟩:=from_id ha
  rw [← e]; exact P.tok b hb
 refine ⟨⟨sl.from 1 sl.cap 4, sl.len - 1, sl.cap - 1, sl.loose⟩, ⟨P.lt, by rw [js], rf.keep (Nat.le_refl _) fun a ha=>by rw [zw, if_neg (had a ha)], ⟨by show sl.len - 1≤sl.cap - 1; have:=P.fine.1; omega, P.fine.2⟩, had, P.f.ext (ExQ.put q h _), he⟩, ⟨ExQ.put q h _, fun a ha=>from_id ha, fun a ha=>.inl ha⟩, fun α K=>?_⟩
 rw [cut_from P.fine (x:=1) (n:=1) rfl (by omega)]
 simp only [jn]
 rw [zas (a:=⟨q, 0 + 0 + 0⟩) P.blk rfl (by simp)]
 rfl
def zkw (q:Nat) (h:H) (sl:Sl) (p:Option Ad) (s':St) (C:H->Prop):Prop:=∃ h' sl' p', PR h' q sl' p' s' ∧ Qr q h sl p h' sl' p' ∧ C h'
theorem zdp (P:PR h q sl p s) (k:Nat) (e:Int):zkw q h sl p (zbc e s) fun h'=>∀ (α:Type) (ret:M α), qm.f (k + 2) ⟨q, 0⟩ e ret h = ret h':=by
 cases hf:s.f with
 | some fe=>
  have hp:p.isNone = false:=by rw [P.f.isNone, hf]; rfl
  have:zbc e s = s:=by unfold zbc; rw [hf]; rfl
  rw [this]
  refine ⟨h, sl, p, P, Qr.of (ExQ.refl q h), fun α ret=>?_⟩
  rw [qm.f, qm.u1.f, p_f P, hp, cond_false]
 | none=>
  have hp:p = none:=by have:=P.f; rw [hf] at this; exact this
  subst hp
  have:zbc e s = ⟨s.l, some (s.hd.pos, e)⟩:=by unfold zbc; rw [hf]; rfl
  rw [this]
  have P1:=P.push (tkC s.hd)
  have P2:=P1.push (.cells [.int .i64 s.hd.pos, .int .i64 e] true)
  have hlt:=P.lt
  obtain ⟨P3, e3⟩:=P2.setf hf (i:=h.next + 1) (m:=s.hd.pos) (e:=e) (by omega) (by simp only [zk]; omega) (ye _)
  refine ⟨_, _, _, P3, ⟨(ExQ.of (((Ext.refl h).push _).push _)).trans (ExQ.put q _ _), fun a ha=>⟨a, ha, rfl⟩, fun a ha=>(by cases ha; exact .inr (Nat.le_succ _))⟩, fun α ret=>?_⟩
  rw [qm.f, qm.u1.f, p_f P]
  simp only [Option.isNone_none, cond_true]
  rw [zar P, jc rfl]
  exact e3 α ret
theorem zbj (P:PR h q sl p s) (k:Nat) (kind:Int) (text:List UInt8):zkw q h sl p (yv kind text s).2 fun h'=>∀ (α:Type) (ret:Int->M α), qf.f (k + 3) ⟨q, 0⟩ kind text ret h = ret (yv kind text s).1 h':=by
 have P1:=P.push (tkC s.hd)
 have P2:=P1.push (tkC s.hd)
 have x2:Qr q h sl p ((h.push (tkC s.hd)).push (tkC s.hd)) sl p:=Qr.of (ExQ.of (((Ext.refl h).push _).push _))
 have ht:((h.push (tkC s.hd)).push (tkC s.hd)).get (h.next + 1) = some (tkC s.hd):=ye _
 have start:∀ (α:Type) (ret:Int->M α), qf.f (k + 3) ⟨q, 0⟩ kind text ret h = qf.u11.f (k + 2) ⟨q, 0⟩ kind text ⟨h.next + 1, 0⟩ ret ((h.push (tkC s.hd)).push (tkC s.hd)):=fun α ret=>by
  rw [qf.f]
  unfold qf.u12.f qf.u1.f
  dsimp only
  rw [zar P]
  exact tk_copy s.hd _
 generalize (h.push (tkC s.hd)).push (tkC s.hd) = h2 at P2 x2 ht start
 cases hf:s.f with
 | some fe=>
  have hp:p.isNone = false:=by rw [P.f.isNone, hf]; rfl
  rw [yk hf]
  refine ⟨h2, sl, p, P2, x2, fun α ret=>?_⟩
  rw [start]
  unfold qf.u11.f qf.u9.f qf.u8.f qf.u2.f
  dsimp only
  rw [p_f P2, hp]
  rfl
 | none=>
  have hp:p.isNone = true:=by rw [P.f.isNone, hf]; rfl
  have go:∀ (α:Type) (ret:Int->M α), qf.f (k + 3) ⟨q, 0⟩ kind text ret h = qf.u5.f (k + 2) ⟨q, 0⟩ kind ⟨h.next + 1, 0⟩ (decide (s.hd.kind = kind ∧ (text = [] ∨ s.hd.text = text))) (qf.u10.f (k + 2) ret) ret h2:=fun α ret=>by
   rw [start]
   unfold qf.u11.f qf.u9.f qf.u8.f qf.u2.f
   dsimp only
   rw [p_f P2, hp]
   unfold qf.u7.f
   simp only [Bool.not_true, cond_false]
   unfold qf.u6.f qf.u4.f
   dsimp only
   rw [jq (n:=s.hd.kind) (by simp only [jn]; rw [jp (a:=⟨h.next + 1, 0 + 0 + 0⟩) ht]; rfl)]
   by_cases c1:s.hd.kind = kind
   ·rw [dT c1, cond_true]
    by_cases c2:text = []
    ·rw [dT c2, cond_true, dT ⟨c1, Or.inl c2⟩]
    ·rw [dF c2, cond_false, tk4_text ht]
     by_cases c3:s.hd.text = text
     ·rw [dT c3, dT ⟨c1, Or.inr c3⟩]
     ·rw [dF c3, dF (fun hh=>hh.2.elim c2 c3)]
   ·rw [dF c1, cond_false, dF (fun hh=>c1 hh.1)]
  by_cases c:s.hd.kind = kind ∧ (text = [] ∨ s.hd.text = text)
  ·rw [zea hf c]
   have hnum:∀ {g:H} (α:Type) (K:Int->M α), g.get (h.next + 1) = some (tkC s.hd)->ldI .i64 (((⟨h.next + 1, 0⟩:Ad).add 3).add 0) K g = K s.hd.num g:=fun α K hg=>jq (by simp only [jn]; rw [jp (a:=⟨h.next + 1, 0 + 3 + 0⟩) hg]; rfl)
   by_cases c0:kind = 0
   ·rw [if_pos c0]
    refine ⟨h2, sl, p, P2, x2, fun α ret=>?_⟩
    rw [go, dT c, qf.u5.f, cond_true, dT c0, Bool.not_true, cond_false, hnum α _ ht]
   ·rw [if_neg c0]
    obtain ⟨sl', P3, x3, e3⟩:=P2.adv (by rw [c.1]; exact c0)
    rw [hf] at P3
    refine ⟨_, sl', p, P3, x2.trans x3, fun α ret=>?_⟩
    rw [go, dT c, qf.u5.f, cond_true, dF c0, Bool.not_false, cond_true, p_l P2]
    refine (e3 α _).trans ?_
    exact hnum α _ (by rw [zw, if_neg (by have:=P.lt; omega)]; exact ht)
  ·rw [zid hf c]
   by_cases c0:s.hd.kind = 0
   ·rw [if_pos c0]
    obtain ⟨h3, sl3, p3, P3, x3, e3⟩:=zdp P2 k 6
    refine ⟨h3, sl3, p3, P3, x2.trans x3, fun α ret=>?_⟩
    rw [go, dF c, qf.u5.f, cond_false, jq (n:=s.hd.kind) (by simp only [jn]; rw [jp (a:=⟨h.next + 1, 0 + 0 + 0⟩) ht]; rfl), dT c0, cond_true, e3]
    rfl
   ·rw [if_neg c0]
    obtain ⟨h3, sl3, p3, P3, x3, e3⟩:=zdp P2 k 7
    refine ⟨h3, sl3, p3, P3, x2.trans x3, fun α ret=>?_⟩
    rw [go, dF c, qf.u5.f, cond_false, jq (n:=s.hd.kind) (by simp only [jn]; rw [jp (a:=⟨h.next + 1, 0 + 0 + 0⟩) ht]; rfl), dF c0, cond_false, e3]
    rfl
end
end Go.Ab.S8
namespace Go.Ab.S8
variable {α:Type} {h:H}
section
variable {q:Nat} {sl:Sl} {p:Option Ad} {s:St}
theorem zft (P:PR h q sl p s) (k:Nat) (a b e:Int):zkw q h sl p (numP a b e s).2 fun h'=>∀ (α:Type) (ret:Int->M α), qo.f (k + 4) ⟨q, 0⟩ a b e ret h = ret (numP a b e s).1 h':=by
 have P1:=P.push (tkC s.hd)
 have P2:=P1.push (tkC s.hd)
 have x2:Qr q h sl p ((h.push (tkC s.hd)).push (tkC s.hd)) sl p:=Qr.of (ExQ.of (((Ext.refl h).push _).push _))
 have ht:((h.push (tkC s.hd)).push (tkC s.hd)).get (h.next + 1) = some (tkC s.hd):=ye _
 have hnum:∀ (α:Type) (K:Int->M α), ldI .i64 (((⟨h.next + 1, 0⟩:Ad).add 3).add 0) K ((h.push (tkC s.hd)).push (tkC s.hd)) = K s.hd.num ((h.push (tkC s.hd)).push (tkC s.hd)):=fun α K=>jq (by simp only [jn]; rw [jp (a:=⟨h.next + 1, 0 + 3 + 0⟩) ht]; rfl)
 have start:∀ (α:Type) (ret:Int->M α), qo.f (k + 4) ⟨q, 0⟩ a b e ret h = _:=fun α ret=>by
  rewrite [qo.f, qo.u1.f, zar P, tk_copy, show (h.push (tkC s.hd)).next = h.next + 1 from rfl, jq (n:=s.hd.kind) (by simp only [jn]; rw [jp (a:=⟨h.next + 1, 0 + 0 + 0⟩) ht]; rfl)]
  exact rfl
 generalize (h.push (tkC s.hd)).push (tkC s.hd) = h2 at P2 x2 ht start hnum
 unfold numP
 by_cases c4:s.hd.kind = 4
 ·by_cases ca:s.hd.num < a
  ·rw [if_pos ⟨c4, Or.inl ca⟩]
   obtain ⟨h3, sl3, p3, P3, x3, e3⟩:=zdp P2 (k + 1) e
   obtain ⟨h5, sl5, p5, P5, x5, e5⟩:=zbj P3 k 4 []
   refine ⟨h5, sl5, p5, P5, (x2.trans x3).trans x5, fun α ret=>?_⟩
   rw [start, dT c4, cond_true, hnum, dT ca, cond_true, e3, e5]
  ·by_cases cb:b < s.hd.num
   ·rw [if_pos ⟨c4, Or.inr cb⟩]
    obtain ⟨h3, sl3, p3, P3, x3, e3⟩:=zdp P2 (k + 1) e
    obtain ⟨h5, sl5, p5, P5, x5, e5⟩:=zbj P3 k 4 []
    refine ⟨h5, sl5, p5, P5, (x2.trans x3).trans x5, fun α ret=>?_⟩
    rw [start, dT c4, cond_true, hnum, dF ca, cond_false, hnum, dT cb, cond_true, e3, e5]
   ·rw [if_neg (fun hh=>hh.2.elim ca cb)]
    obtain ⟨h5, sl5, p5, P5, x5, e5⟩:=zbj P2 k 4 []
    refine ⟨h5, sl5, p5, P5, x2.trans x5, fun α ret=>?_⟩
    rw [start, dT c4, cond_true, hnum, dF ca, cond_false, hnum, dF cb, cond_false, e5]
 ·rw [if_neg (fun hh=>c4 hh.1)]
  obtain ⟨h5, sl5, p5, P5, x5, e5⟩:=zbj P2 k 4 []
  refine ⟨h5, sl5, p5, P5, x2.trans x5, fun α ret=>?_⟩
  rw [start, dF c4, cond_false, e5]
theorem zny (k:Nat) (f:Option (Int × Int)):∀ (j:Nat) (l:List Tok) (h:H) (sl:Sl), l.length < j->PR h q sl p ⟨l, f⟩->zkw q h sl p (yc ⟨l, f⟩) fun h'=>∀ (α:Type) (kx:M α), ql.u2.l (k + 1) kx j ⟨q, 0⟩ h = kx h':=by
 intro j
 induction j with
 | zero=>intro l h sl hj; omega
 | succ j ih=>
  intro l h sl hj P
  have P1:=P.push (tkC (⟨l, f⟩:St).hd)
  obtain ⟨t, r, hl⟩:=P.ends.ne
  have hl:l = t :: r:=hl
  subst hl
  have x1:Qr q h sl p (h.push (tkC t)) sl p:=Qr.of (ExQ.of ((Ext.refl h).push _))
  have start:∀ (α:Type) (kx:M α), ql.u2.l (k + 1) kx (j + 1) ⟨q, 0⟩ h = _:=fun α kx=>by
   rewrite [ql.u2.l, ql.u1.f, zar P]
   exact rfl
  by_cases c:t.kind = 1
  ·obtain ⟨sl', P2, x2, e2⟩:=P1.adv (by show t.kind ≠ 0; omega)
   obtain ⟨h3, sl3, p3, P3, x3, e3⟩:=ih r _ sl' (by simp at hj; omega) P2
   have hb:yc ⟨t :: r, f⟩ = yc ⟨r, f⟩:=by unfold yc; rw [zaz, if_pos c]
   rw [hb]
   refine ⟨h3, sl3, p3, P3, (x1.trans x2).trans x3, fun α kx=>?_⟩
   rw [start]
   rw [show decide ((⟨t :: r, f⟩:St).hd.kind = 1) = true from dT c, cond_true, p_l P1]
   refine (e2 α _).trans ?_
   exact e3 α kx
  ·have hb:yc ⟨t :: r, f⟩ = ⟨t :: r, f⟩:=by unfold yc; rw [zaz, if_neg c]
   rw [hb]
   refine ⟨_, sl, p, P1, x1, fun α kx=>?_⟩
   rw [start]
   rw [show decide ((⟨t :: r, f⟩:St).hd.kind = 1) = false from dF c, cond_false]
theorem zgr (P:PR h q sl p s) (k:Nat) (hk:s.l.length < k + 1):zkw q h sl p (yc s) fun h'=>∀ (α:Type) (ret:M α), ql.f (k + 2) ⟨q, 0⟩ ret h = ret h':=by
 obtain ⟨h', sl', p', P', x', e'⟩:=zny k s.f (k + 1) s.l h sl hk P
 refine ⟨h', sl', p', P', x', fun α ret=>?_⟩
 rw [ql.f]
 exact e' α ret
theorem end_run (P:PR h q sl p s) (k:Nat):zkw q h sl p (endP s) fun h'=>∀ (α:Type) (ret:M α), qr.f (k + 4) ⟨q, 0⟩ ret h = ret h':=by
 have P1:=P.push (tkC s.hd)
 have x1:Qr q h sl p (h.push (tkC s.hd)) sl p:=Qr.of (ExQ.of ((Ext.refl h).push _))
 unfold endP
 by_cases c:s.hd.kind = 0
 ·rw [if_pos c]
  refine ⟨_, sl, p, P1, x1, fun α ret=>?_⟩
  rw [qr.f, qr.u1.f, zar P, dT c, Bool.not_true, cond_false]
 ·rw [if_neg c]
  obtain ⟨h3, sl3, p3, P3, x3, e3⟩:=zbj P1 k 1 []
  refine ⟨h3, sl3, p3, P3, x1.trans x3, fun α ret=>?_⟩
  rw [qr.f, qr.u1.f, zar P, dF c, Bool.not_false, cond_true, e3]
structure LR (h:H) (b q:Nat) (s:Sl) (l:List Int):Prop where
 app:App h s 1 (l.flatMap cI)
 top:∀ a, s.ad = some a->b≤a.id ∧ a.id ≠ q
 ls:s.loose = none->s.ad = none
theorem LR.ext {h':H} {b:Nat} {s:Sl} {l:List Int} (L:LR h b q s l) (x:ExQ q h h'):LR h' b q s l:=
 ⟨L.app.keep x.1 fun a ha=>x.2 _ (L.app.rd.row a ha).2 (L.top a ha).2, L.top, L.ls⟩
theorem LR.len {b:Nat} {s:Sl} {l:List Int} (L:LR h b q s l):s.len = l.length:=ilen L.app.rd
theorem lr_add {b:Nat} {s:Sl} {l:List Int} (L:LR h b q s l) (hb:b≤h.next) (hq:q < h.next) (v:Int) (hl:l.length≤17592186000000) :
  ∃ s' h', (∀ (α:Type) (K:Sl->M α), (new [.int .i64 v] fun a=>jk s 1 8 ⟨some a, 1, 1, none⟩ K) h = K s' h') ∧ LR h' b q s' (l ++ [v]) ∧ h.next≤h'.next ∧ (∀ i, i < h.next->(∀ a, s.ad = some a->i ≠ a.id)->h'.get i = h.get i) ∧ (∀ a, s'.ad = some a->h.next≤a.id):=by
 have hlen:=L.len
 obtain ⟨h', e, A, _, n, kp⟩:=app_made (bytes:=8) (n:=1) (more:=[.int .i64 v]) L.app rfl rfl (by decide) (by decide) (by omega)
 refine ⟨_, h', e, ⟨by rw [List.flatMap_append]; exact A, fun a ha=>?_, fun hn=>(by cases hn)⟩, by omega, fun i hi hn=>kp i hi fun _=>hn, fun a ha=>(by cases ha; exact Nat.le_succ _)⟩
 cases ha
 exact ⟨by show b≤h.next + 1; omega, by show h.next + 1 ≠ q; omega⟩
theorem zmq {s:St} {a b e:Int} (hf:s.f = none) (h4:s.hd.kind = 4):(numP a b e s).1 = 0 ∨ ((numP a b e s).1 = s.hd.num ∧ a≤s.hd.num ∧ s.hd.num≤b):=by
 unfold numP
 by_cases c:s.hd.num < a ∨ b < s.hd.num
 ·rw [if_pos ⟨h4, c⟩, zeu hf, yk rfl]
  exact .inl rfl
 ·rw [if_neg (fun hh=>c hh.2), zea hf ⟨h4, .inl rfl⟩]
  exact .inr ⟨rfl, by omega, by omega⟩
theorem PR.plt (P:PR h q sl p s):∀ a, p = some a->a.id < h.next:=by
 intro a ha
 have hfr:=P.f
 cases hf:s.f with
 | none=>rw [hf] at hfr; rw [show p = none from hfr] at ha; cases ha
 | some e=>
  rw [hf] at hfr
  obtain ⟨i, h1, h2, h3, h4⟩:=hfr
  rw [h1] at ha
  cases ha
  exact h3
theorem PR.app (P:PR h q sl p s) {v:Sl} {h':H} (hn:h.next≤h'.next) (hk:∀ i, i < h.next->(∀ a, v.ad = some a->i ≠ a.id)->h'.get i = h.get i) (hv:∀ a, v.ad = some a->a.id ≠ q ∧ (∀ a', sl.ad = some a'->a.id ≠ a'.id) ∧ ∀ a', p = some a'->a.id ≠ a'.id):PR h' q sl p s:=by
 refine ⟨Nat.lt_of_lt_of_le P.lt hn, by rw [hk q P.lt fun a ha=>Ne.symm (hv a ha).1]; exact P.blk, P.toks.keep hn fun a ha=>hk _ (P.toks.row a ha).2 fun a' ha'=>Ne.symm ((hv a' ha').2.1 a ha), P.fine, P.tok, ?_, P.ends⟩
 cases hf:s.f with
 | none=>have:=P.f; rw [hf] at this; exact this
 | some e=>
  have hfr:=P.f
  rw [hf] at hfr
  obtain ⟨i, h1, h2, h3, h4⟩:=hfr
  exact ⟨i, h1, h2, Nat.lt_of_lt_of_le h3 hn, by rw [hk i h3 fun a ha=>Ne.symm ((hv a ha).2.2 _ h1)]; exact h4⟩
theorem mvs_loop (k:Nat) (n:Int) (hn:0≤n ∧ n≤1000000) {h₀:H} {sl₀:Sl} {p₀:Option Ad} (hq0:q < h₀.next) (hsl:∀ a, sl₀.ad = some a->a.id < h₀.next) (hp0:∀ a, p₀ = some a->a.id < h₀.next):∀ (fp j:Nat) (acc:List Int) (last:Int) (s:St) (h:H) (sl:Sl) (p:Option Ad) (v:Sl), s.mu < fp->fp≤j->acc.length + fp≤1000000->-1≤last ∧ last≤n ->
   PR h q sl p s->Qr q h₀ sl₀ p₀ h sl p->LR h h₀.next q v acc->(∀ a, v.ad = some a->∀ a', p = some a'->a.id ≠ a'.id) ->
  ∃ h' sl' p' v', PR h' q sl' p' (mvsP n fp acc last s).2 ∧ Qr q h₀ sl₀ p₀ h' sl' p' ∧ LR h' h₀.next q v' (mvsP n fp acc last s).1 ∧ (∀ a, v'.ad = some a->∀ a', p' = some a'->a.id ≠ a'.id) ∧ ∀ (α:Type) (kx:Ad->Sl->M α), qk.u3.l (k + 4) kx j ⟨q, 0⟩ n v last h = kx ⟨q, 0⟩ v' h':=by
 intro fp
 induction fp with
 | zero=>intro j acc last s h sl p v hmu; omega
 | succ fp ih=>
  intro j acc last s h sl p v hmu hj hacc hlast P Q L hpv
  obtain ⟨j, rfl⟩:∃ i, j = i + 1:=⟨j - 1, by omega⟩
  have hpn:=P.f.isNone
  by_cases c:s.f.isNone ∧ s.hd.kind = 4
  ·have hf:s.f = none:=by cases hs:s.f with | none=>rfl | some e=>rw [hs] at c; exact absurd c.1 (by simp)
   have P1:=P.push (tkC s.hd)
   have x1:Qr q h sl p (h.push (tkC s.hd)) sl p:=Qr.of (ExQ.of ((Ext.refl h).push _))
   obtain ⟨h2, sl2, p2, P2, x2, e2⟩:=zft P1 k (last + 1) (n - 1) 16
   have x12:=x1.trans x2
   have L2:=L.ext x12.x
   have Q2:=Q.trans x12
   have hlen:=L.len
   obtain ⟨v3, h3, e3, L3, hn3, k3, n3⟩:=lr_add L2 (by have:=Q2.x.1; omega) (by have:=P2.lt; omega) (numP (last + 1) (n - 1) 16 s).1 (by omega)
   have hvs:∀ a, v.ad = some a->h₀.next≤a.id ∧ a.id < h.next:=fun a ha=>⟨(L.top a ha).1, (L.app.rd.row a ha).2⟩
   have hv3:∀ a, v.ad = some a->a.id ≠ q ∧ (∀ a', sl2.ad = some a'->a.id ≠ a'.id) ∧ ∀ a', p2 = some a'->a.id ≠ a'.id:=fun a ha=>by
    refine ⟨(L.top a ha).2, fun a' ha'=>?_, fun a' ha'=>?_⟩
    ·obtain ⟨b', hb', e'⟩:=Q2.s a' ha'
     have:=hsl b' hb'
     have:=(hvs a ha).1
     omega
    ·rcases x12.p a' ha' with h1 | h1
     ·exact hpv a ha a' h1
     ·have:=(hvs a ha).2; omega
   have P3:=P2.app hn3 k3 hv3
   have Q3:Qr q h₀ sl₀ p₀ h3 sl2 p2:=⟨⟨Nat.le_trans Q2.x.1 hn3, fun i hi hiq=>by rw [k3 i (by have:=Q2.x.1; omega) (fun a ha=>by have:=(hvs a ha).1; omega), Q2.x.2 i hi hiq]⟩, Q2.s, Q2.p⟩
   have hval:=zmq (a:=last + 1) (b:=n - 1) (e:=16) hf c.2
   have hnext:=num_mu P.ends hf c.2 (last + 1) (n - 1) 16
   have hp3:∀ a, v3.ad = some a->∀ a', p2 = some a'->a.id ≠ a'.id:=fun a ha a' ha'=>by
    have:=n3 a ha
    have:=P2.plt a' ha'
    omega
   obtain ⟨h', sl', p', v', P', Q', L', d', e'⟩:=ih j (acc ++ [(numP (last + 1) (n - 1) 16 s).1]) (numP (last + 1) (n - 1) 16 s).1 _ h3 sl2 p2 v3 (by omega) (by omega) (by simp; omega) (by omega) P3 Q3 L3 hp3
   rw [mvsP, if_pos c]
   refine ⟨h', sl', p', v', P', Q', L', d', fun α kx=>?_⟩
   rw [qk.u3.l, qk.u2.f, p_f P, hpn, c.1, cond_true, zar P, dT c.2, cond_true, jg (by omega) (by omega), jg (by omega) (by omega), e2]
   refine (e3 α _).trans ?_
   exact e' α kx
  ·rw [mvsP, if_neg c]
   by_cases c1:s.f.isNone = true
   ·have P1:=P.push (tkC s.hd)
    have x1:Qr q h sl p (h.push (tkC s.hd)) sl p:=Qr.of (ExQ.of ((Ext.refl h).push _))
    refine ⟨_, sl, p, v, P1, Q.trans x1, L.ext x1.x, hpv, fun α kx=>?_⟩
    rw [qk.u3.l, qk.u2.f, p_f P, hpn, c1, cond_true, zar P, dF (fun h4=>c ⟨c1, h4⟩), cond_false]
   ·refine ⟨h, sl, p, v, P, Q, L, hpv, fun α kx=>?_⟩
    rw [qk.u3.l, qk.u2.f, p_f P, hpn, show s.f.isNone = false by (cases hs:s.f.isNone with | true=>exact absurd hs c1 | false=>rfl), cond_false]
theorem moves_run (P:PR h q sl p s) (k:Nat) (n:Int) (hn:0≤n ∧ n≤1000000) (hl:s.l.length + 10≤k ∧ s.l.length≤900000) :
  ∃ h' sl' p' v', PR h' q sl' p' (zay n s).2 ∧ Qr q h sl p h' sl' p' ∧ LR h' h.next q v' (zay n s).1 ∧ (∀ a, v'.ad = some a->∀ a', p' = some a'->a.id ≠ a'.id) ∧ ∀ (α:Type) (ret:Sl->M α), qk.f (k + 5) ⟨q, 0⟩ n ret h = ret v' h':=by
 have hslt:∀ a, sl.ad = some a->a.id < h.next:=fun a ha=>(P.toks.row a ha).2
 obtain ⟨h1, sl1, p1, v1, P1, Q1, L1, d1, e1⟩:=mvs_loop k n hn P.lt hslt P.plt (s.l.length + 2) (k + 4) [] (-1) s h sl p Sl.nil (by unfold St.mu; split <;> omega) (by omega) (by simp; omega) (by omega) P (Qr.of (ExQ.refl q h)) ⟨App.nilSl h 1, fun a ha=>(by cases ha), fun _=>rfl⟩ (fun a ha=>by cases ha)
 unfold zay
 generalize mvsP n (s.l.length + 2) [] (-1) s = r at P1 L1 e1
 obtain ⟨l, s1⟩:=r
 dsimp only at P1 L1 e1
 have P2:=P1.push (tkC s1.hd)
 have x2:Qr q h1 sl1 p1 (h1.push (tkC s1.hd)) sl1 p1:=Qr.of (ExQ.of ((Ext.refl h1).push _))
 have start:∀ (α:Type) (ret:Sl->M α), qk.f (k + 5) ⟨q, 0⟩ n ret h = qk.u5.f (k + 4) ⟨q, 0⟩ v1 ret h1:=fun α ret=>by
  rewrite [qk.f]
  unfold qk.u7.f qk.u1.f qk.u6.f qk.u4.f qk.u3.f
  exact e1 α _
 have hlen:=L1.len
 unfold zgo
 dsimp only
 by_cases c:l = [] ∧ (s1.hd.kind = 1 ∨ s1.hd.kind = 0)
 ·rw [if_pos c]
  obtain ⟨h3, sl3, p3, P3, x3, e3⟩:=zdp P2 (k + 2) 17
  refine ⟨h3, sl3, p3, v1, P3, (Q1.trans x2).trans x3, L1.ext (x2.trans x3).x, fun a ha a' ha'=>?_, fun α ret=>?_⟩
  ·rcases (x2.trans x3).p a' ha' with h | h
   ·exact d1 a ha a' h
   ·have:=(L1.app.rd.row a ha).2; omega
  rw [start, qk.u5.f, zar P1, hlen, c.1, dT (by rfl:(([]:List Int).length:Int) = 0), cond_true]
  rcases c.2 with c1 | c0
  ·rw [dT c1, cond_true, e3]
  ·rw [dF (by omega:¬ s1.hd.kind = 1), cond_false, dT c0, cond_true, e3]
 ·rw [if_neg c]
  refine ⟨_, sl1, p1, v1, P2, Q1.trans x2, L1.ext x2.x, d1, fun α ret=>?_⟩
  rw [start, qk.u5.f, zar P1, hlen]
  by_cases c2:l = []
  ·rw [c2, dT (by rfl:(([]:List Int).length:Int) = 0), cond_true, dF (fun h1=>c ⟨c2, .inl h1⟩), cond_false, dF (fun h1=>c ⟨c2, .inr h1⟩), cond_false]
  ·rw [dF (fun h1=>c2 (List.eq_nil_of_length_eq_zero (by omega))), cond_false]
end
end Go.Ab.S8
