import Derived.Test.YtmanohnlcedeaaaS7q
set_option linter.unusedVariables false
set_option linter.unusedSimpArgs false
namespace Go.Ab.S7
variable {α:Type} {h:H}
def psF (at_:Bool) (n:Nd):Nd:=if at_ = true then n else { n with pos:=0 }
theorem nd_eq (a b:Nd):(decide (a.kind = b.kind) && (decide (a.a = b.a) && (decide (a.b = b.b) && (decide (a.name = b.name) && (decide (a.pos = b.pos) && true))))) = decide (a = b):=by
 rw [Bool.eq_iff_iff]
 simp only [Bool.and_eq_true, decide_eq_true_eq, and_true]
 cases a; cases b
 simp [Nd.mk.injEq]
theorem same_loop {h₀:H} {f g:Sl} {l m:List Nd} (r:NdR h₀ f l) (q:NdR h₀ g m) (hlen:l.length = m.length) (hl:l.length≤4611686018427387900) (at_:Bool) (k:Nat):∀ (j i:Nat) (h:H), i≤l.length->l.length - i < j->Ext h₀ h ->
  ∃ h', Ext h₀ h' ∧ ∀ (α:Type) (kr:Bool->M α) (kx:M α), qn.u4.l k kr kx j f g at_ (i:Int) h = if (l.drop i).map (psF at_) = (m.drop i).map (psF at_) then kx h' else kr false h':=by
 intro j
 induction j with
 | zero=>intro i h hi hj; omega
 | succ j ih=>
  intro i h hi hj x
  have hfl:=jv r
  by_cases hlt:i < l.length
  rotate_left
  ·refine ⟨h, x, fun α kr kx=>?_⟩
   rw [qn.u4.l, qn.u3.f, hfl, dF (by omega:¬ (i:Int) < (l.length:Int)), cond_false, List.drop_of_length_le (by omega), List.drop_of_length_le (by omega), if_pos rfl]
  have hn:l[i]? = some l[i]:=List.getElem?_eq_getElem hlt
  have hm:m[i]? = some m[i]:=List.getElem?_eq_getElem (by omega)
  rw [List.drop_eq_getElem_cons hlt, List.drop_eq_getElem_cons (by omega:i < m.length)]
  generalize l[i] = a at hn ⊢
  generalize m[i] = b at hm ⊢
  have x1:Ext h ((h.push (ndC (psF at_ a))).push (ndC (psF at_ b))):=((Ext.refl h).push _).push _
  have hqa:((h.push (ndC (psF at_ a))).push (ndC (psF at_ b))).get h.next = some (ndC (psF at_ a)):=by
   rw [zk, if_neg (by rw [zj]; omega), zk, if_pos rfl]
  have hqb:((h.push (ndC (psF at_ a))).push (ndC (psF at_ b))).get (h.next + 1) = some (ndC (psF at_ b)):=by
   rw [zk, if_pos (by rw [zj])]
  have start:∀ (α:Type) (kr:Bool->M α) (kx:M α), qn.u4.l k kr kx (j + 1) f g at_ (i:Int) h = cond (!(decide (psF at_ a = psF at_ b))) (kr false) (qn.u4.l k kr kx j f g at_ (w64 ((i:Int) + 1))) ((h.push (ndC (psF at_ a))).push (ndC (psF at_ b))):=fun α kr kx=>by
   rw [qn.u4.l, qn.u3.f, hfl, dT (by omega:(i:Int) < (l.length:Int)), cond_true, zcv (r.ext x) rfl hn, zeb, zcv (q.ext (x.push _)) rfl hm, zeb]
   rw [show (h.push (Blk.cells [.int .i64 a.kind, .int .i64 a.a, .int .i64 a.b, .str a.name, .int .i64 a.pos] true)).next = h.next + 1 from rfl]
   cases at_ with
   | true=>
    rw [Bool.not_true, cond_false, zbq (h:=(h.push (ndC a)).push (ndC b)) (n:=a) hqa, zbq (h:=(h.push (ndC a)).push (ndC b)) (n:=b) hqb, nd_eq]
    rfl
   | false=>
    rw [Bool.not_false, cond_true]
    have s1:∀ K:M α, st1 (((⟨h.next, 0⟩:Ad).add 4).add 0) (.int .i64 0) K ((h.push (ndC a)).push (ndC b)) = K ((h.push (ndC (psF false a))).push (ndC b)):=fun K=>by
     simp only [jg]
     exact zfw rfl (by simp)
    have s2:∀ K:M α, st1 (((⟨h.next + 1, 0⟩:Ad).add 4).add 0) (.int .i64 0) K ((h.push (ndC (psF false a))).push (ndC b)) = K ((h.push (ndC (psF false a))).push (ndC (psF false b))):=fun K=>by
     simp only [jg]
     exact yc (h:=h.push (ndC (psF false a))) rfl (by simp)
    rw [s1, s2, zbq (n:=psF false a) hqa, zbq (n:=psF false b) hqb, nd_eq]
  generalize (h.push (ndC (psF at_ a))).push (ndC (psF at_ b)) = h1 at start x1
  simp only [List.map_cons]
  by_cases he:psF at_ a = psF at_ b
  ·obtain ⟨h', x', e'⟩:=ih (i + 1) h1 (by omega) (by omega) (x.trans x1)
   refine ⟨h', x', fun α kr kx=>?_⟩
   rw [start, dT he, Bool.not_true, cond_false, zw (by omega) (by omega), he]
   simp only [List.cons.injEq, true_and]
   exact e' α kr kx
  ·refine ⟨h1, x.trans x1, fun α kr kx=>?_⟩
   rw [start, dF he, Bool.not_false, cond_true, if_neg (fun e=>he (List.cons.inj e).1)]
theorem zkp (k:Nat) {f g:Sl} {l m:List Nd} (h:H) (r:NdR h f l) (q:NdR h g m) (hk:l.length + 2≤k) (hl:l.length≤4611686018427387900) (at_:Bool) :
  ∃ h', (∀ (α:Type) (ret:Bool->M α), qn.f (k + 1) f g at_ ret h = ret (decide (l.map (psF at_) = m.map (psF at_))) h') ∧ Ext h h':=by
 have hfl:=jv r
 have hgl:=jv q
 by_cases hlen:l.length = m.length
 ·obtain ⟨h', x', e'⟩:=same_loop r q hlen hl at_ k k 0 h (Nat.zero_le _) (by omega) (Ext.refl h)
  simp only [List.drop_zero] at e'
  refine ⟨h', fun α ret=>?_, x'⟩
  rw [qn.f, qn.u9.f, qn.u1.f, hfl, hgl, dT (by omega:(l.length:Int) = (m.length:Int)), Bool.not_true, cond_false, qn.u8.f, qn.u6.f, qn.u2.f, qn.u5.f, qn.u4.f]
  refine (e' α _ _).trans ?_
  by_cases he:l.map (psF at_) = m.map (psF at_)
  ·rw [if_pos he, dT he, qn.u7.f]
  ·rw [if_neg he, dF he]
 ·refine ⟨h, fun α ret=>?_, Ext.refl h⟩
  rw [qn.f, qn.u9.f, qn.u1.f, hfl, hgl, dF (by omega:¬ (l.length:Int) = (m.length:Int)), Bool.not_false, cond_true, dF (fun e=>hlen (by have:=congrArg List.length e; simpa using this))]
def n7:Nd:=⟨-7, 0, 0, [], 0⟩
structure Lent (h:H) (o:Sl) (l:List Nd):Prop where
 all:Rd h ⟨o.ad, l.length + 1, l.length + 1, o.loose⟩ 5 (cN (l ++ [n7]))
 len:o.len = l.length
 cap:o.cap = l.length + 1
 lo:o.loose = some 5
theorem Lent.ext {o:Sl} {l:List Nd} (L:Lent h o l) {h':H} (x:Ext h h'):Lent h' o l:=⟨L.all.ext x, L.len, L.cap, L.lo⟩
theorem Lent.rd {o:Sl} {l:List Nd} (L:Lent h o l):NdR h o l:=by
 have:=L.all.to l.length o.cap o.loose (Nat.le_succ _)
 rw [zck Nd.len, List.take_left] at this
 cases o
 have h2:=L.len
 dsimp only at h2 this ⊢
 rw [h2]
 exact this
def Room (n:Nat):Prop:=n * 48≤140737488351232
theorem room_a {n:Nat} (h:Room n):(n + n / 4 + 512) * 48≤281474976710656:=by unfold Room at h; omega
theorem room_b {n:Nat} (h:Room n):(n + 1 + (n + 1) / 4 + 512) * 48≤281474976710656:=by unfold Room at h; omega
end Go.Ab.S7
namespace Go.Ab.S7
variable {α:Type} {h:H}
theorem room_n {n:Nat} (h:Room n):(0 + n + (0 + n) / 4 + 512) * 48≤281474976710656:=by unfold Room at h; omega
theorem Room.le {n:Nat} (h:Room n):n≤4611686018427387900:=by unfold Room at h; omega
theorem clone_run (k:Nat) {x:Sl} {l:List Nd} (h:H) (r:NdR h x l) (hr:Room l.length) :
  ∃ d h', (∀ (α:Type) (ret:Sl->M α), qaz.f (k + 1) x ret h = ret d h') ∧ Ext h h' ∧ NdR h' d l ∧ (l ≠ []->Own h' d 5 (cN l)) ∧ zah h d:=by
 have hlen:=jv r
 cases ha:x.ad with
 | none=>
  have hl:l = []:=List.eq_nil_of_length_eq_zero (by rw [← hlen]; exact r.nil ha)
  subst hl
  refine ⟨Sl.nil, h, fun α ret=>?_, Ext.refl h, Rd.nilSl h 5, fun h=>absurd rfl h, zah.nil h⟩
  rw [qaz.f, qaz.u1.f, ha]
  rfl
 | some a=>
  have x1:Ext h (h.push (.cells [] true)):=(Ext.refl h).push _
  have hg:(h.push (.cells [] true)).get h.next = some (.cells [] true):=by rw [zk, if_pos rfl]
  have ap:App (h.push (.cells [] true)) ⟨some ⟨h.next, 0⟩, 0, 0, none⟩ 5 []:=⟨Rd.pushed h (by simp), fun ha=>(by cases ha), .inl ⟨rfl, rfl⟩⟩
  have st:∀ (α:Type) (ret:Sl->M α), qaz.f (k + 1) x ret h = zq ⟨some ⟨h.next, 0⟩, 0, 0, none⟩ 5 48 x ret (h.push (.cells [] true)):=by
   intro α ret
   rw [qaz.f, qaz.u1.f, ha]
   rw [show (some a).isNone = false from rfl, cond_false, jk rfl]
  by_cases h0:x.len = 0
  ·have hl:l = []:=List.eq_nil_of_length_eq_zero (by rw [← hlen]; exact h0)
   subst hl
   refine ⟨⟨some ⟨h.next, 0⟩, 0, 0, none⟩, h.push (.cells [] true), fun α ret=>?_, x1, ap.rd, fun h=>absurd rfl h, fun a ha=>by cases ha; exact Nat.le_refl _⟩
   rw [st]
   exact zhj ap (r.ext x1) h0 ret (fun _ a ha=>by cases ha; exact ⟨hg, rfl, rfl⟩)
  ·obtain ⟨h', e, ap', g, kp⟩:=zea (bytes:=48) ap (r.ext x1) (by omega) (by decide) (by rw [hlen]; exact room_n hr)
   rw [List.nil_append] at ap' g
   refine ⟨_, h', fun α ret=>(st α ret).trans (e α ret), kp.ext x1 (fun a ha=>by cases ha; exact Nat.le_refl _), ap'.rd, fun _=>⟨ap'.rd.len, _, [], rfl, by rw [List.append_nil]; exact g, by rw [kp.1]; exact Nat.lt_succ_self _⟩, fun a ha=>by cases ha; show h.next≤h.next + 1; omega⟩
theorem nd_stk {s:Sl} {l:List Nd} (o:Own h s 5 (cN l)) {i:Nat} {n:Nd} (hi:l[i]? = some n) (v:Int) :
  ∃ h', (∀ (α:Type) (K:M α), idxSl s (i:Int) 5 (fun a=>st1 ((a.add 0).add 0) (.int .i64 v) K) h = K h') ∧ Own h' s 5 (cN (l.set i { n with kind:=v })) ∧ h'.next = h.next ∧ ∀ i, i ≠ s.id->h'.get i = h.get i:=by
 have hlt:=yu hi
 obtain ⟨h', e, o', k⟩:=zcp o (n:=i * 5 + 0) (v:=.int .i64 v) rfl (by rw [zbd Nd.len]; omega)
 refine ⟨h', fun α K=>?_, ?_, k⟩
 ·rw [zgw o.rd rfl hi, yl, yl]
  exact e α K
 ·rw [zen Nd.len l i n { n with kind:=v } 0 _ hi rfl (by decide)] at o'
  exact o'
theorem zka {l:List Nd} {i:Nat} {n:Nd} (hi:l[i]? = some n):((l.take i).map plN ++ l.drop i).set i (plN n) = (l.take (i + 1)).map plN ++ l.drop (i + 1):=by
 have hlt:=yu hi
 have hg:l[i] = n:=by rw [List.getElem?_eq_getElem hlt] at hi; exact Option.some.inj hi
 rw [List.set_append_right _ _ (by simp; omega), List.drop_eq_getElem_cons hlt, List.length_map, List.length_take, Nat.min_eq_left (by omega), Nat.sub_self, List.set_cons_zero, List.take_succ_eq_append_getElem hlt, List.map_append, hg]
 simp
theorem plN_get {l:List Nd} {i:Nat} {n:Nd} (hi:l[i]? = some n):((l.take i).map plN ++ l.drop i)[i]? = some n:=by
 have hlt:=yu hi
 rw [List.getElem?_append_right (by simp; omega), List.length_map, List.length_take, Nat.min_eq_left (by omega), Nat.sub_self, List.getElem?_drop, Nat.add_zero]
 exact hi
theorem wide_loop (k:Nat) {s:Sl} {l:List Nd} (hl:l.length≤4611686018427387800) (hs:s.len = l.length):∀ (j i:Nat) (h:H), i≤l.length->l.length - i < j->Own h s 5 (cN ((l.take i).map plN ++ l.drop i)) ->
  ∃ h', (∀ (α:Type) (kx:Sl->M α), qo.u4.l k kx j s (l.length:Int) (i:Int) h = kx s h') ∧ Own h' s 5 (cN (l.map plN)) ∧ h'.next = h.next ∧ ∀ i, i ≠ s.id->h'.get i = h.get i:=by
 intro j
 induction j with
 | zero=>intro i h hi hj; omega
 | succ j ih=>
  intro i h hi hj o
  by_cases hlt:i < l.length
  ·have hn:l[i]? = some l[i]:=List.getElem?_eq_getElem hlt
   generalize l[i] = n at hn
   have hg:=plN_get hn
   by_cases h12:n.kind = 12
   ·obtain ⟨h1, e1, o1, n1, g1⟩:=nd_stk o hg 3
    have:({ n with kind:=3 }:Nd) = plN n:=by unfold plN plK; rw [if_pos h12]
    rw [this, zka hn] at o1
    obtain ⟨h2, e2, o2, n2, g2⟩:=ih (i + 1) h1 (by omega) (by omega) o1
    refine ⟨h2, fun α kx=>?_, o2, by omega, fun i hi=>by rw [g2 i hi, g1 i hi]⟩
    rw [qo.u4.l, qo.u3.f, dT (by omega:(i:Int) < (l.length:Int)), cond_true, zam o.rd rfl hg, dT h12, cond_true]
    refine (e1 α _).trans ?_
    rw [zw (by omega) (by omega)]
    exact e2 α kx
   ·have:plN n = n:=by unfold plN plK; rw [if_neg h12]
    have o1:=o
    have e0:=zka hn
    rw [this, show ((l.take i).map plN ++ l.drop i).set i n = (l.take i).map plN ++ l.drop i by
     have hlt':=yu hg
     rw [List.getElem?_eq_getElem hlt'] at hg
     rw [← Option.some.inj hg]; exact List.set_getElem_self hlt'] at e0
    rw [e0] at o1
    obtain ⟨h2, e2, o2, n2, g2⟩:=ih (i + 1) h (by omega) (by omega) o1
    refine ⟨h2, fun α kx=>?_, o2, n2, g2⟩
    rw [qo.u4.l, qo.u3.f, dT (by omega:(i:Int) < (l.length:Int)), cond_true, zam o.rd rfl hg, dF h12, cond_false, zw (by omega) (by omega)]
    exact e2 α kx
  ·refine ⟨h, fun α kx=>?_, ?_, rfl, fun _ _=>rfl⟩
   ·rw [qo.u4.l, qo.u3.f, dF (by omega:¬ (i:Int) < (l.length:Int)), cond_false]
   ·rw [List.take_of_length_le (by omega), List.drop_of_length_le (by omega), List.append_nil] at o
    exact o
structure Wide (l:List Nd) (u:Tr):Prop where
 ok:u.pl.ok = true
 size:u.size≤60
 flat:l = u.flat 0
 chk:(chkT u.pl).2 = 0
def zdz (l:List Nd):Prop:=zcs (l.map plN) = false ∨ ∃ u:Tr, u.pl.ok = true ∧ u.size≤60 ∧ l = u.flat 0 ∧ (chkT u.pl).2 ≠ 0
theorem wide_or (l:List Nd):(∃ u, Wide l u) ∨ zdz l:=by
 cases hR:zcs (l.map plN) with
 | false=>exact .inr (.inl hR)
 | true=>
  obtain ⟨t, h1, h2, h3⟩:=(zik _).1 hR
  obtain ⟨u, rfl, hu⟩:=zgf t 0 l h2
  rw [zbn] at h3
  by_cases hc:(chkT u.pl).2 = 0
  ·exact .inl ⟨u, h1, h3, hu, hc⟩
  ·exact .inr (.inr ⟨u, h1, h3, hu, hc⟩)
theorem zpe (k:Nat) {f:Sl} {l:List Nd} (hr:Room l.length) (hk:600 + l.length≤k) (h:H) (r:NdR h f l) :
  ∃ d h', (∀ (α:Type) (ret:Bool->M α), qo.f (k + 1) f ret h = qa.f k d (fun _ e=>ret (decide (e = 0))) h') ∧ Ext h h' ∧ NdR h' d (l.map plN):=by
 obtain ⟨k, rfl⟩:∃ q, k = q + 1:=⟨k - 1, by omega⟩
 obtain ⟨d, h1, e1, x1, r1, o1, w1⟩:=clone_run k h r hr
 have hd:=jv r1
 have st:∀ (α:Type) (ret:Bool->M α), qo.f (k + 1 + 1) f ret h = qo.u4.l (k + 1) (fun y0=>qo.u7.f (k + 1) y0 ret) (k + 1) d (l.length:Int) ((0:Nat):Int) h1:=by
  intro α ret
  rw [qo.f, qo.u9.f, qo.u1.f, e1, qo.u8.f, qo.u6.f, qo.u2.f, hd, qo.u5.f, qo.u4.f]
  rfl
 by_cases h0:l = []
 ·subst h0
  refine ⟨d, h1, fun α ret=>?_, x1, r1⟩
  rw [st, qo.u4.l, qo.u3.f]
  rfl
 ·obtain ⟨h2, e2, o2, n2, g2⟩:=wide_loop (k + 1) (by unfold Room at hr; omega) hd (k + 1) 0 h1 (Nat.zero_le _) (by omega) (o1 h0)
  have hid:h.next≤d.id:=by
   obtain ⟨id, more, q1, q2, q3⟩:=(o1 h0).blk
   unfold Sl.id
   rw [q1]
   exact w1 _ q1
  refine ⟨d, h2, fun α ret=>?_, ⟨by have:=x1.1; omega, fun i hi=>?_⟩, o2.rd⟩
  ·rw [st, e2, qo.u7.f]
  ·rw [g2 i (by omega)]; exact x1.2 i hi
theorem zni (k:Nat) {f:Sl} {l:List Nd} {u:Tr} (w:Wide l u) (hk:700≤k) (h:H) (r:NdR h f l) :
  ∃ h', (∀ (α:Type) (ret:Bool->M α), qo.f (k + 1) f ret h = ret true h') ∧ Ext h h':=by
 obtain ⟨k, rfl⟩:∃ q, k = q + 1:=⟨k - 1, by omega⟩
 have hl:l.length≤60:=by rw [w.flat, zd]; exact w.size
 obtain ⟨d, h1, e1, x1, r1⟩:=zpe (k + 1) (by unfold Room; omega) (by omega) h r
 rw [w.flat, ← zey] at r1
 obtain ⟨h2, e2, x2⟩:=znd k (by omega) (t:=u.pl) w.ok (by rw [zbn]; exact w.size) h1 r1
 refine ⟨h2, fun α ret=>?_, x1.trans x2⟩
 rw [e1, e2, w.chk, dT rfl]
theorem zqf (k:Nat) {f:Sl} {l:List Nd} (w:zdz l) (hr:Room l.length) (hk:700 + l.length≤k) (h:H) (r:NdR h f l) :
  ∃ h', (∀ (α:Type) (ret:Bool->M α), qo.f (k + 1) f ret h = ret false h') ∧ Ext h h':=by
 obtain ⟨k, rfl⟩:∃ q, k = q + 1:=⟨k - 1, by omega⟩
 obtain ⟨d, h1, e1, x1, r1⟩:=zpe (k + 1) hr (by omega) h r
 rcases w with w | ⟨u, u1, u2, u3, u4⟩
 ·obtain ⟨h2, e2, x2⟩:=check_bad k (by omega) w h1 r1
  refine ⟨h2, fun α ret=>?_, x1.trans x2⟩
  rw [e1, e2, dF (by decide)]
 ·rw [u3, ← zey] at r1
  obtain ⟨h2, e2, x2⟩:=znd k (by omega) (t:=u.pl) u1 (by rw [zbn]; exact u2) h1 r1
  refine ⟨h2, fun α ret=>?_, x1.trans x2⟩
  rw [e1, e2, dF u4]
end Go.Ab.S7
namespace Go.Ab.S7
variable {α:Type}
theorem dual_run {h:H} (k:Nat) (x:Int) (ret:Int->M α):qbh.f (k + 1) x ret h = ret (zdy x) h:=by
 rw [qbh.f, qbh.u1.f]
 unfold zdy
 by_cases h1:x = 1
 ·rw [dT h1, cond_true, if_pos h1]
 rw [dF h1, cond_false, if_neg h1]
 by_cases h2:x = 2
 ·rw [dT h2, cond_true, if_pos h2]
 rw [dF h2, cond_false, if_neg h2]
 by_cases h3:x = 3
 ·rw [dT h3, cond_true, if_pos h3]
 rw [dF h3, cond_false, if_neg h3]
 by_cases h4:x = 12
 ·rw [dT h4, cond_true, if_pos h4]
 rw [dF h4, cond_false, if_neg h4]
 by_cases h5:x = 6
 ·rw [dT h5, cond_true, if_pos h5]
 rw [dF h5, cond_false, if_neg h5]
 by_cases h6:x = 7
 ·rw [dT h6, cond_true, if_pos h6]
 rw [dF h6, cond_false, if_neg h6]
 by_cases h7:x = 8
 ·rw [dT h7, cond_true, if_pos h7]
 rw [dF h7, cond_false, if_neg h7]
 by_cases h8:x = 9
 ·rw [dT h8, cond_true, if_pos h8]
 rw [dF h8, cond_false, if_neg h8]
 by_cases h9:x = 10
 ·rw [dT h9, cond_true, if_pos h9]
 rw [dF h9, cond_false, if_neg h9]
 by_cases h10:x = 11
 ·rw [dT h10, cond_true, if_pos h10]
 rw [dF h10, cond_false, if_neg h10]
structure MS (h₀ h:H) (m:Nat) (f:Sl) (l:List Nd) (o:Sl) (O:List Nd):Prop where
 ext:Ext h₀ h
 blk:h.get m = some (.cells [.slice f, .slice o] true)
 mlt:m < h.next
 m0:h₀.next≤m
 f:NdR h₀ f l
 ap:App h o 5 (cN O)
 low:zah h₀ o
 nm:∀ a, o.ad = some a->a.id ≠ m
def Qt (h:H) (m:Nat) (o:Sl) (h':H):Prop:=h.next≤h'.next ∧ ∀ i, i < h.next->i ≠ m->(∀ a, o.ad = some a->i ≠ a.id)->h'.get i = h.get i
section
variable {h₀ h h1 h2:H} {m q:Nat} {f o o1:Sl} {l O:List Nd} {n:Nd}
theorem Qt.of (x:Ext h h1):Qt h m o h1:=⟨x.1, fun i hi _ _=>x.2 i hi⟩
theorem Qt.trans (a:Qt h m o h1) (hn:∀ a, o1.ad = some a->h.next≤a.id ∨ o1.ad = o.ad) (b:Qt h1 m o1 h2):Qt h m o h2:=
 ⟨Nat.le_trans a.1 b.1, fun i hi hm ho=>by
  rw [b.2 i (Nat.lt_of_lt_of_le hi a.1) hm (fun c hc=>?_), a.2 i hi hm ho]
  rcases hn c hc with h | h
  ·omega
  ·exact ho c (by rw [← h]; exact hc)⟩
theorem MS.olt (W:MS h₀ h m f l o O):∀ a, o.ad = some a->a.id < h.next:=fun a ha=>(W.ap.rd.row a ha).2
theorem MS.push (W:MS h₀ h m f l o O) (x:Ext h h1):MS h₀ h1 m f l o O:=
 ⟨W.ext.trans x, by rw [x.2 _ W.mlt]; exact W.blk, Nat.lt_of_lt_of_le W.mlt x.1, W.m0, W.f, W.ap.ext x, W.low, W.nm⟩
theorem MS.putq (W:MS h₀ h m f l o O) (b:Option Blk) (h0:h₀.next≤q) (hm:q ≠ m) (ho:∀ a, o.ad = some a->q ≠ a.id):MS h₀ (h.put q b) m f l o O:=
 ⟨W.ext.put b h0, by rw [zi, if_neg (Ne.symm hm)]; exact W.blk, W.mlt, W.m0, W.f, W.ap.keep (Nat.le_refl _) (fun a ha=>by rw [zi, if_neg (Ne.symm (ho a ha))]), W.low, W.nm⟩
theorem zfl (hq:h.get q = some (ndC n)) {j:Nat} {v:V} (n':Nd) (hj:j < 5) (hv:oneV v = true) (hs:n'.cells = n.cells.set j v) (K:M α):st1 (((⟨q, 0⟩:Ad).add j).add 0) v K h = K (h.put q (some (ndC n'))):=by
 simp only [jg, Nat.zero_add, Nat.add_zero]
 rw [yv (a:=⟨q, j⟩) hq hv hj]
 show K (h.put q (some (.cells (n.cells.set j v) true))) = _
 rw [← hs]
 rfl
theorem ms_f (W:MS h₀ h m f l o O) (K:Sl->M α):ldS (((⟨m, 0⟩:Ad).add 0).add 0) K h = K f h:=zbb (by simp only [jg]; rw [jf (a:=⟨m, 0 + 0 + 0⟩) W.blk]; rfl)
theorem ms_o (W:MS h₀ h m f l o O) (K:Sl->M α):ldS (((⟨m, 0⟩:Ad).add 1).add 0) K h = K o h:=zbb (by simp only [jg]; rw [jf (a:=⟨m, 0 + 1 + 0⟩) W.blk]; rfl)
theorem znx (W:MS h₀ h m f l o O) (hq:h.get q = some (ndC n)) (hql:q < h.next) (h0:h₀.next≤q) (hm:q ≠ m) (ho:∀ a, o.ad = some a->q ≠ a.id) (hO:O.length≤1000) (k:Nat) (neg:Bool) :
  ∃ h' o', (∀ (α:Type) (ret:Int->M α), qad.u4.f (k + 1) ⟨m, 0⟩ neg ⟨q, 0⟩ ret h = ret (O.length:Int) h') ∧ MS h₀ h' m f l o' (O ++ [{ n with kind:=negK neg n.kind }]) ∧ (∀ a, o'.ad = some a->h.next≤a.id) ∧
   h.next≤h'.next ∧ ∀ i, i < h.next->i ≠ m->i ≠ q->(∀ a, o.ad = some a->i ≠ a.id)->h'.get i = h.get i:=by
 -- the kind
 obtain ⟨h1, e1, M1, q1, n1, g1⟩:∃ h1, (∀ (α:Type) (kn:Ad->Ad->M α), qad.u2.f (k + 1) ⟨m, 0⟩ neg ⟨q, 0⟩ kn h = kn ⟨m, 0⟩ ⟨q, 0⟩ h1) ∧ MS h₀ h1 m f l o O ∧ h1.get q = some (ndC { n with kind:=negK neg n.kind }) ∧ h1.next = h.next ∧ ∀ i, i ≠ q->h1.get i = h.get i:=by
  cases neg with
  | false=>exact ⟨h, fun α kn=>by rw [qad.u2.f, cond_false], W, hq, rfl, fun _ _=>rfl⟩
  | true=>
   refine ⟨h.put q (some (ndC { n with kind:=zdy n.kind })), fun α kn=>?_, W.putq _ h0 hm ho, jt _ _ _, rfl, fun i hi=>by rw [zi, if_neg hi]⟩
   have hk:∀ K:Int->M α, ldI .i64 (((⟨q, 0⟩:Ad).add 0).add 0) K h = K n.kind h:=fun K=>zaw hq K
   rw [qad.u2.f, cond_true, hk, dual_run, zfl hq { n with kind:=zdy n.kind } (by decide) rfl rfl]
 generalize hn':({ n with kind:=negK neg n.kind }:Nd) = n' at q1
 have hol:=jv M1.ap.rd
 have x2:Ext h1 (h1.push (ndC n')):=(Ext.refl h1).push _
 have M2:=M1.push x2
 have rx:Rd (h1.push (ndC n')) ⟨some ⟨h1.next, 0⟩, 1, 1, none⟩ 5 n'.cells:=Rd.pushed h1 rfl
 obtain ⟨h3, e3, ap3, g3, kp3⟩:=zea (bytes:=48) M2.ap rx (by show 0 < 1; decide) (by decide) (by rw [hol]; show (O.length + 1 + (O.length + 1) / 4 + 512) * 48≤_; omega)
 have hm3:h3.get m = some (.cells [.slice f, .slice o] true):=by
  rw [kp3.2 m M2.mlt (fun _ a ha=>Ne.symm (M2.nm a ha))]; exact M2.blk
 have hn3:h3.next = h1.next + 2:=by rw [kp3.1]; rfl
 have hc:cN O ++ n'.cells = cN (O ++ [n']):=by simp [List.flatMap_append]
 rw [hc] at ap3
 have hmlt:=M1.mlt
 have hm0:=W.m0
 refine ⟨h3.put m (some (.cells [.slice f, .slice ⟨some ⟨h1.next + 1, 0⟩, o.len + 1, o.len + 1, some 5⟩] true)), ⟨some ⟨h1.next + 1, 0⟩, o.len + 1, o.len + 1, some 5⟩, fun α ret=>?_, ?_, ?_, ?_, ?_⟩
 ·rw [qad.u4.f, e1, qad.u3.f, ms_o M1, zbq q1, jk rfl]
  show (ldS _ _) (h1.push (ndC n')) = _
  rw [ms_o M2, jc (dT rfl), e3]
  simp only [jg, Nat.zero_add, Nat.add_zero]
  rw [yv (a:=⟨m, 1⟩) hm3 rfl (by simp), zbb (n:=⟨some ⟨h1.next + 1, 0⟩, o.len + 1, o.len + 1, some 5⟩) (by rw [jf (a:=⟨m, 1⟩) (jt _ _ _)]; rfl)]
  show ret (w64 (((o.len + 1:Nat):Int) - 1)) _ = _
  rw [hol, zw (by omega) (by omega), show (((O.length + 1:Nat):Int) - 1) = (O.length:Int) by omega]
  rfl
 ·have x3:Ext h₀ h3:=kp3.ext M2.ext (fun a ha=>M2.low a ha)
  refine ⟨x3.put _ W.m0, jt _ _ _, by show m < h3.next; omega, W.m0, W.f, ?_, fun a ha=>?_, fun a ha=>?_⟩
  ·refine ap3.keep (Nat.le_refl _) fun a ha=>?_
   cases ha
   rw [zi, if_neg (by show h1.next + 1 ≠ m; omega)]
  ·cases ha; show h₀.next≤h1.next + 1; omega
  ·cases ha; show h1.next + 1 ≠ m; omega
 ·intro a ha
  cases ha
  show h.next≤h1.next + 1
  omega
 ·show h.next≤h3.next
  omega
 ·intro i hi him hiq hio
  rw [zi, if_neg him, kp3.2 i (by show i < h1.next + 1; omega) (fun _ a ha=>hio a ha), x2.2 i (by omega), g1 i hiq]
def NR (h₀:H) (m:Nat) (f:Sl) (l:List Nd) (t:Tr):Prop:=
 ∀ (base:Nat) (neg:Bool) (k:Nat) (h:H) (o:Sl) (O:List Nd), (∀ i n, (t.flat base)[i]? = some n->l[base + i]? = some n)->t.size + 5≤k->MS h₀ h m f l o O->O.length + t.size≤1000 ->
  ∃ h' o', (∀ (α:Type) (ret:Int->M α), qad.f k ⟨m, 0⟩ ((base + t.size - 1:Nat):Int) neg ret h = ret ((O.length + (nfT t neg).size - 1:Nat):Int) h') ∧
   MS h₀ h' m f l o' (O ++ (nfT t neg).flat O.length) ∧ Qt h m o h' ∧ (∀ a, o'.ad = some a->h.next≤a.id)
theorem zhn (W:MS h₀ h m f l o O) {i:Nat} (hi:l[i]? = some n) (k:Nat) (neg:Bool) (ret:Int->M α) :
  qad.f (k + 1) ⟨m, 0⟩ (i:Int) neg ret h =
   (if n.kind = 5 then qad.f k ⟨m, 0⟩ n.a (!neg) ret
   else if n.kind = 6 ∨ n.kind = 7 then qad.f k ⟨m, 0⟩ n.a neg fun r=>ldI .i64 (((⟨h.next, 0⟩:Ad).add 2).add 0) fun y=>need (decide (n.b = y)) <| qad.f k ⟨m, 0⟩ n.b neg fun r'=>st1 (((⟨h.next, 0⟩:Ad).add 1).add 0) (.int .i64 r) <| st1 (((⟨h.next, 0⟩:Ad).add 2).add 0) (.int .i64 r') <| qad.u4.f k ⟨m, 0⟩ neg ⟨h.next, 0⟩ ret
   else if n.kind = 8 ∨ n.kind = 9 ∨ n.kind = 10 ∨ n.kind = 11 then qad.f k ⟨m, 0⟩ n.a neg fun r=>st1 (((⟨h.next, 0⟩:Ad).add 1).add 0) (.int .i64 r) <| qad.u4.f k ⟨m, 0⟩ neg ⟨h.next, 0⟩ ret
   else qad.u4.f k ⟨m, 0⟩ neg ⟨h.next, 0⟩ ret) (h.push (ndC n)):=by
 have hq:(h.push (ndC n)).get h.next = some (ndC n):=by rw [zk, if_pos rfl]
 rw [qad.f, qad.u5.f, qad.u1.f, ms_f W, zcv (W.f.ext W.ext) rfl hi, zeb, zaw hq]
 by_cases h5:n.kind = 5
 ·rw [dT h5, cond_true, zcc hq, if_pos h5]
 rw [dF h5, cond_false, zaw hq, if_neg h5]
 by_cases h6:n.kind = 6
 ·rw [dT h6, cond_true, cond_true, zcc hq, zmv hq, if_pos (.inl h6)]
 rw [dF h6, cond_false]
 by_cases h7:n.kind = 7
 ·rw [dT h7, cond_true, zcc hq, zmv hq, if_pos (.inr h7)]
 rw [dF h7, cond_false, if_neg (by omega)]
 by_cases h8:n.kind = 8
 ·rw [dT h8, cond_true, cond_true, zcc hq, if_pos (.inl h8)]
 rw [dF h8, cond_false]
 by_cases h9:n.kind = 9
 ·rw [dT h9, cond_true, cond_true, zcc hq, if_pos (.inr (.inl h9))]
 rw [dF h9, cond_false]
 by_cases h10:n.kind = 10
 ·rw [dT h10, cond_true, cond_true, zcc hq, if_pos (.inr (.inr (.inl h10)))]
 rw [dF h10, cond_false]
 by_cases h11:n.kind = 11
 ·rw [dT h11, cond_true, zcc hq, if_pos (.inr (.inr (.inr h11)))]
 rw [dF h11, cond_false, if_neg (by omega)]
theorem mroot (t:Tr) (base:Nat):(t.flat base)[t.size - 1]? = some (t.node base):=by
 cases t with
 | leaf k s p=>rfl
 | un k s p a=>
  simp only [Tr.flat, Tr.size]
  rw [List.getElem?_append_right (by rw [zd]; omega), zd]
  simp
 | bin k s p a b=>
  simp only [Tr.flat, Tr.size]
  rw [List.getElem?_append_right (by rw [zd]; omega), zd, List.getElem?_append_right (by rw [zd]; omega), zd, show a.size + b.size + 1 - 1 - a.size - b.size = 0 by omega]
  rfl
theorem zeq {t:Tr} {base:Nat} (hfl:∀ i n, (t.flat base)[i]? = some n->l[base + i]? = some n):l[base + t.size - 1]? = some (t.node base):=by
 have:=hfl _ _ (mroot t base)
 have hp:=Tr.pos t
 rw [show base + t.size - 1 = base + (t.size - 1) by omega]
 exact this
theorem zfq (hf:NdR h₀ f l):∀ t:Tr, t.pl.ok = true->NR h₀ m f l t
 | .leaf kd s p, hok=>by
  intro base neg k h o O hfl hk W hO
  obtain ⟨k, rfl⟩:∃ q, k = q + 2:=⟨k - 2, by omega⟩
  simp only [Tr.pl, Tr.ok, Bool.and_eq_true, decide_eq_true_eq] at hok
  have hkk:=zae (k:=kd) (by omega)
  have hn:=zeq hfl
  have x1:Ext h (h.push (ndC ((Tr.leaf kd s p).node base))):=(Ext.refl h).push _
  have hq:(h.push (ndC ((Tr.leaf kd s p).node base))).get h.next = some (ndC ((Tr.leaf kd s p).node base)):=by rw [zk, if_pos rfl]
  have hml:=W.mlt
  have h0l:=W.ext.1
  obtain ⟨h', o', e, W', q1, q2, q3⟩:=znx (W.push x1) hq (by rw [zj]; omega) (by omega) (by omega) (fun a ha=>by have:=W.olt a ha; omega) (by simp only [Tr.size] at hO; omega) k neg
  refine ⟨h', o', fun α ret=>?_, W', ?_, fun a ha=>by have:=q1 a ha; rw [zj] at this; omega⟩
  ·rw [zhn W hn]
   have hk':((Tr.leaf kd s p).node base).kind = kd:=rfl
   rw [hk', if_neg (by rintro rfl; exact absurd hok.1 (by decide)), if_neg (by rintro (rfl | rfl) <;> exact absurd hok.1 (by decide)), if_neg (by rintro (rfl | rfl | rfl | rfl) <;> exact absurd hok.1 (by decide)), e]
   simp [nfT, Tr.size]
  ·refine ⟨by rw [zj] at q2; omega, fun i hi hm ho=>?_⟩
   rw [q3 i (by rw [zj]; omega) hm (by omega) ho, x1.2 i hi]
 | .un kd s p a, hok=>by
  intro base neg k h o O hfl hk W hO
  obtain ⟨k, rfl⟩:∃ q, k = q + 2:=⟨k - 2, by omega⟩
  simp only [Tr.pl, Tr.ok, Bool.and_eq_true, decide_eq_true_eq] at hok
  have hkk:=zae (k:=kd) (by omega)
  simp only [Tr.size] at hO hk
  have hn:=zeq hfl
  have hsub:=zcb (l:=l) (a:=a) (base:=base) (rest:=[(Tr.un kd s p a).node base]) hfl
  have x1:Ext h (h.push (ndC ((Tr.un kd s p a).node base))):=(Ext.refl h).push _
  have hq:(h.push (ndC ((Tr.un kd s p a).node base))).get h.next = some (ndC ((Tr.un kd s p a).node base)):=by rw [zk, if_pos rfl]
  have hml:=W.mlt
  have h0l:=W.ext.1
  by_cases h5:kd = 5
  ·obtain ⟨h', o', e, W', q1, q2⟩:=zfq hf a hok.2 base (!neg) (k + 1) _ o O hsub.1 (by omega) (W.push x1) (by omega)
   refine ⟨h', o', fun α ret=>?_, ?_, (Qt.of x1).trans (fun _ _=>.inr rfl) q1, fun a ha=>by have:=q2 a ha; rw [zj] at this; omega⟩
   ·rw [zhn W hn, show ((Tr.un kd s p a).node base).kind = 5 from h5, if_pos rfl]
    simp only [nfT, if_pos h5]
    exact e α ret
   ·simp only [nfT, if_pos h5]; exact W'
  ·obtain ⟨h2, o2, e2, M2, q2, w2⟩:=zfq hf a hok.2 base neg (k + 1) _ o O hsub.1 (by omega) (W.push x1) (by omega)
   have hq2:h2.get h.next = some (ndC ((Tr.un kd s p a).node base)):=by
    rw [q2.2 h.next (by rw [zj]; omega) (by omega) (fun a ha=>by have:=W.olt a ha; omega)]; exact hq
   have hn2:=q2.1
   rw [zj] at hn2
   have ho2:∀ a, o2.ad = some a->h.next ≠ a.id:=fun a ha=>by have:=w2 a ha; rw [zj] at this; omega
   have M3:=M2.putq (q:=h.next) (some (ndC { (Tr.un kd s p a).node base with a:=((O.length + (nfT a neg).size - 1:Nat):Int) })) (by omega) (by omega) ho2
   have hla:=zfi a neg
   obtain ⟨h', o', e, W', q1, q2', q3⟩:=znx M3 (jt _ _ _) (by show h.next < h2.next; omega) (by omega) (by omega) ho2 (by rw [List.length_append, zd]; omega) k neg
   refine ⟨h', o', fun α ret=>?_, ?_, ⟨by have:h2.next≤h'.next:=q2'; omega, fun i hi hm ho=>?_⟩, fun a ha=>by have:h2.next≤a.id:=q1 a ha; omega⟩
   ·have hk':((Tr.un kd s p a).node base).kind = kd:=rfl
    have hr:kd = 8 ∨ kd = 9 ∨ kd = 10 ∨ kd = 11:=by
     rcases hkk with rfl | rfl | rfl | rfl | rfl | rfl | rfl | rfl | rfl | rfl | rfl | rfl <;> first | (exact absurd hok.1.1 (by decide)) | omega
    rw [zhn W hn, hk', if_neg h5, if_neg (by omega), if_pos hr]
    refine (e2 α _).trans ?_
    rw [zfl hq2 { (Tr.un kd s p a).node base with a:=((O.length + (nfT a neg).size - 1:Nat):Int) } (by decide) rfl rfl, e, List.length_append, zd]
    simp only [nfT, if_neg h5, Tr.size]
    congr 2
   ·simp only [nfT, if_neg h5, Tr.flat]
    rw [List.append_assoc] at W'
    exact W'
   ·rw [q3 i (by show i < h2.next; omega) hm (by omega) (fun a ha=>by have:=w2 a ha; rw [zj] at this; omega), zi, if_neg (by omega), q2.2 i (by rw [zj]; omega) hm ho, x1.2 i hi]
 | .bin kd s p a c, hok=>by
  intro base neg k h o O hfl hk W hO
  obtain ⟨k, rfl⟩:∃ q, k = q + 2:=⟨k - 2, by omega⟩
  simp only [Tr.pl, Tr.ok, Bool.and_eq_true, decide_eq_true_eq] at hok
  have hkk:=zae (k:=kd) (by omega)
  simp only [Tr.size] at hO hk
  have hn:=zeq hfl
  have hs1:=zcb (l:=l) (a:=a) (base:=base) (rest:=c.flat (base + a.size) ++ [(Tr.bin kd s p a c).node base]) hfl
  have hs2:=zcb (l:=l) (a:=c) (base:=base + a.size) (rest:=[(Tr.bin kd s p a c).node base]) hs1.2
  have x1:Ext h (h.push (ndC ((Tr.bin kd s p a c).node base))):=(Ext.refl h).push _
  have hq:(h.push (ndC ((Tr.bin kd s p a c).node base))).get h.next = some (ndC ((Tr.bin kd s p a c).node base)):=by rw [zk, if_pos rfl]
  have hml:=W.mlt
  have h0l:=W.ext.1
  obtain ⟨h2, o2, e2, M2, q2, w2⟩:=zfq hf a hok.1.2 base neg (k + 1) _ o O hs1.1 (by omega) (W.push x1) (by omega)
  have hq2:h2.get h.next = some (ndC ((Tr.bin kd s p a c).node base)):=by
   rw [q2.2 h.next (by rw [zj]; omega) (by omega) (fun a ha=>by have:=W.olt a ha; omega)]; exact hq
  have hn2:=q2.1
  rw [zj] at hn2
  have hla:=zfi a neg
  have hlc:=zfi c neg
  have hpa:=Tr.pos (nfT a neg)
  have hpc:=Tr.pos (nfT c neg)
  obtain ⟨h3, o3, e3, M3, q3, w3⟩:=zfq hf c hok.2 (base + a.size) neg (k + 1) h2 o2 _ hs2.1 (by omega) M2 (by rw [List.length_append, zd]; omega)
  have hq3:h3.get h.next = some (ndC ((Tr.bin kd s p a c).node base)):=by
   rw [q3.2 h.next (by omega) (by omega) (fun a ha=>by have:=w2 a ha; rw [zj] at this; omega)]; exact hq2
  have hn3:=q3.1
  have ho3:∀ a, o3.ad = some a->h.next ≠ a.id:=fun a ha=>by have:=w3 a ha; omega
  generalize hr1:((O.length + (nfT a neg).size - 1:Nat):Int) = r1 at e2
  generalize hr2:(((O ++ (nfT a neg).flat O.length).length + (nfT c neg).size - 1:Nat):Int) = r2 at e3
  have M4:=(M3.putq (q:=h.next) (some (ndC { (Tr.bin kd s p a c).node base with a:=r1 })) (by omega) (by omega) ho3).putq (q:=h.next) (some (ndC { (Tr.bin kd s p a c).node base with a:=r1, b:=r2 })) (by omega) (by omega) ho3
  obtain ⟨h', o', e, W', p1, p2, p3⟩:=znx M4 (jt _ _ _) (by show h.next < h3.next; omega) (by omega) (by omega) ho3 (by rw [List.length_append, List.length_append, zd, zd]; omega) k neg
  rw [List.length_append, zd] at hr2
  refine ⟨h', o', fun α ret=>?_, ?_, ⟨by have:h3.next≤h'.next:=p2; omega, fun i hi hm ho=>?_⟩, fun a ha=>by have:h3.next≤a.id:=p1 a ha; omega⟩
  ·have hk':((Tr.bin kd s p a c).node base).kind = kd:=rfl
   have hr:kd = 6 ∨ kd = 7:=by
    rcases hkk with rfl | rfl | rfl | rfl | rfl | rfl | rfl | rfl | rfl | rfl | rfl | rfl <;> first | (exact absurd hok.1.1.1 (by decide)) | omega
   rw [zhn W hn, hk', if_neg (by omega), if_pos hr]
   refine (e2 α _).trans ?_
   rw [zmv hq2, jc (dT rfl)]
   refine (e3 α _).trans ?_
   rw [zfl hq3 { (Tr.bin kd s p a c).node base with a:=r1 } (by decide) rfl rfl, zfl (jt _ _ _) { (Tr.bin kd s p a c).node base with a:=r1, b:=r2 } (by decide) rfl rfl, e, List.length_append, List.length_append, zd, zd]
   simp only [nfT, Tr.size]
   congr 2
   omega
  ·simp only [nfT, Tr.flat]
   rw [List.append_assoc, List.append_assoc, List.length_append, zd] at W'
   have e:(Tr.bin (negK neg kd) s p (nfT a neg) (nfT c neg)).node O.length = { (Tr.bin kd s p a c).node base with a:=r1, b:=r2, kind:=negK neg kd }:=by
    simp only [Tr.node, Nd.mk.injEq, true_and]
    exact ⟨hr1, hr2, trivial⟩
   rw [e]
   exact W'
  ·rw [p3 i (by show i < h3.next; omega) hm (by omega) (fun a ha=>by have:=w3 a ha; omega), zi, if_neg (by omega), zi, if_neg (by omega), q3.2 i (by omega) hm (fun a ha=>by have:=w2 a ha; rw [zj] at this; omega), q2.2 i (by rw [zj]; omega) hm ho, x1.2 i hi]
end
end Go.Ab.S7
namespace Go.Ab.S7
structure St where
 l:List Tok
 made:Nat
 f:List Nd
 deriving DecidableEq
abbrev Er:=Int × Int
def St.hd (s:St):Tok:=s.l.headD ⟨0, 0, [], 0⟩
def St.adv (s:St):St:={ s with l:=s.l.tail }
def isS (sign:List UInt8) (s:St):Bool:=decide (s.hd.kind = 5) && decide (s.hd.text = sign)
def zce (s:St):Er:=(s.hd.pos, if s.hd.kind = 0 then 6 else 7)
def zat (s:St):Except Er (Tok × St):=if s.made = 60 then .error (s.hd.pos, 10) else .ok (s.hd, { s.adv with made:=s.made + 1 })
def zdl (sign:List UInt8) (s:St):Except Er St:=if isS sign s = true then .ok s.adv else .error (zce s)
def layE (n:Nd) (s:St):Int × St:=((s.f.length:Int), { s with f:=s.f ++ [n] })
def zfk (shut:List UInt8) (s:St):Except Er (List UInt8 × St):=
 if isS [45] s = true ∨ (s.hd.kind = 2 ∧ zdw s.hd.text = false) then (match zdl shut s.adv with | .error e=>.error e | .ok s'=>.ok (s.hd.text, s')) else .error (zce s)
inductive Rl where
 | un
 | row (o:Bool)
 | loop (o:Bool)
def signO (o:Bool):List UInt8:=if o then [124] else [38]
def zew (o:Bool):Int:=if o then 7 else 6
def oneO (o:Bool):Rl:=if o then .row false else .un
def zab {β γ:Type} (x:Except Er β) (f:β->Except Er γ):Except Er γ:=match x with | .error e=>.error e | .ok b=>f b
def pz:Nat->Rl->Int->St->Except Er (Int × St)
 | 0, _, _, _=>.error (0, 0)
 | j + 1, .row o, _, s=>zab (pz j (oneO o) 0 s) fun x=>pz j (.loop o) x.1 x.2
 | j + 1, .loop o, a, s=>
  if isS (signO o) s = true then
   zab (zat s) fun x=>zab (pz j (oneO o) 0 x.2) fun y=>pz j (.loop o) (layE ⟨zew o, a, y.1, [], x.1.pos⟩ y.2).1 (layE ⟨zew o, a, y.1, [], x.1.pos⟩ y.2).2
  else .ok (a, s)
 | j + 1, .un, _, s=>
  if isS [126] s = true then zab (zat s) fun x=>zab (pz j .un 0 x.2) fun y=>.ok (layE ⟨5, y.1, 0, [], x.1.pos⟩ y.2)
  else if isS [60] s = true then zab (zat s) fun x=>zab (zfk [62] x.2) fun z=>zab (pz j .un 0 z.2) fun y=>.ok (layE ⟨8, y.1, 0, z.1, x.1.pos⟩ y.2)
  else if isS [91] s = true then zab (zat s) fun x=>zab (zfk [93] x.2) fun z=>zab (pz j .un 0 z.2) fun y=>.ok (layE ⟨9, y.1, 0, z.1, x.1.pos⟩ y.2)
  else if isS [40] s = true then zab (pz j (.row true) 0 s.adv) fun y=>zab (zdl [41] y.2) fun z=>.ok (y.1, z)
  else if s.hd.kind = 3 then zab (zat s) fun x=>.ok (layE ⟨4, 0, 0, x.1.text, x.1.pos⟩ x.2)
  else if s.hd.kind = 2 then zab (zat s) fun x=>
   if x.1.text = [116, 116] then .ok (layE ⟨1, 0, 0, [], x.1.pos⟩ x.2)
   else if x.1.text = [102, 102] then .ok (layE ⟨2, 0, 0, [], x.1.pos⟩ x.2)
   else if x.1.text = [109, 117] ∨ x.1.text = [110, 117] then
    (if x.2.hd.kind = 3 then zab (zdl [46] x.2.adv) fun z=>zab (pz j (.row true) 0 z) fun y=>.ok (layE ⟨if x.1.text = [109, 117] then 10 else 11, y.1, 0, x.2.hd.text, x.1.pos⟩ y.2) else .error (zce x.2))
   else .ok (layE ⟨3, 0, 0, x.1.text, x.1.pos⟩ x.2)
  else .error (zce s)
def parseE (l:List Tok):Except Er (List Nd):=
 zab (pz (3 * l.length + 10) (.row true) 0 ⟨l, 0, []⟩) fun y=>if y.2.hd.kind = 0 then .ok y.2.f else .error (zce y.2)
def Ends:List Tok->Prop
 | []=>False
 | [t]=>t.kind = 0
 | t :: u :: l=>t.kind ≠ 0 ∧ Ends (u :: l)
theorem Ends.ne {l:List Tok} (h:Ends l):∃ t r, l = t :: r:=by
 match l, h with
 | [t], _=>exact ⟨t, [], rfl⟩
 | t :: u :: r, _=>exact ⟨t, u :: r, rfl⟩
theorem Ends.tail {l:List Tok} {t:Tok} (h:Ends (t :: l)) (hk:t.kind ≠ 0):Ends l:=by
 match l, h with
 | [], h=>exact absurd h hk
 | u :: r, h=>exact h.2
theorem jw {sign:List UInt8} {s:St} (h:isS sign s = true):s.hd.kind = 5:=by
 simp only [isS, Bool.and_eq_true, decide_eq_true_eq] at h; exact h.1
theorem zbw {s:St} (h:Ends s.l) (hk:s.hd.kind ≠ 0):Ends s.adv.l:=by
 obtain ⟨t, r, hl⟩:=h.ne
 unfold St.hd at hk
 unfold St.adv
 rw [hl] at h hk ⊢
 exact h.tail hk
def Bal (s s':St):Prop:=s'.made + s.f.length = s.made + s'.f.length ∧ s.made≤s'.made ∧ (s.made≤60->s'.made≤60) ∧ (Ends s.l->Ends s'.l) ∧ s'.l.length≤s.l.length
theorem Bal.refl (s:St):Bal s s:=⟨rfl, Nat.le_refl _, id, id, Nat.le_refl _⟩
theorem Bal.trans {a b c:St} (x:Bal a b) (y:Bal b c):Bal a c:=⟨by have:=x.1; have:=y.1; omega, Nat.le_trans x.2.1 y.2.1, fun h=>y.2.2.1 (x.2.2.1 h), fun h=>y.2.2.2.1 (x.2.2.2.1 h), Nat.le_trans y.2.2.2.2 x.2.2.2.2⟩
theorem Bal.adv (s:St) (hk:s.hd.kind ≠ 0):Bal s s.adv:=⟨rfl, Nat.le_refl _, id, fun he=>zbw he hk, by unfold St.adv; rw [List.length_tail]; exact Nat.sub_le _ _⟩
theorem zch {s:St} {t:Tok} {s':St} (h:zat s = .ok (t, s')):s.made ≠ 60 ∧ t = s.hd ∧ s' = { s.adv with made:=s.made + 1 }:=by
 unfold zat at h
 split at h
 ·cases h
 ·cases h; exact ⟨by assumption, rfl, rfl⟩
theorem zai {β γ:Type} {x:Except Er β} {f:β->Except Er γ} {c:γ} (h:zab x f = .ok c):∃ b, x = .ok b ∧ f b = .ok c:=by
 cases x with
 | error e=>cases h
 | ok b=>exact ⟨b, rfl, h⟩
theorem zgd {sign:List UInt8} {s s':St} (h:zdl sign s = .ok s'):isS sign s = true ∧ s' = s.adv:=by
 unfold zdl at h
 split at h
 ·cases h; exact ⟨by assumption, rfl⟩
 ·cases h
theorem zld {shut:List UInt8} {s:St} {z:List UInt8 × St} (h:zfk shut s = .ok z):(isS [45] s = true ∨ (s.hd.kind = 2 ∧ zdw s.hd.text = false)) ∧ z.1 = s.hd.text ∧ isS shut s.adv = true ∧ z.2 = s.adv.adv:=by
 unfold zfk at h
 split at h
 ·rename_i hc
  cases hn:zdl shut s.adv with
  | error e=>rw [hn] at h; cases h
  | ok s'=>
   rw [hn] at h
   cases h
   obtain ⟨h1, rfl⟩:=zgd hn
   exact ⟨hc, rfl, h1, rfl⟩
 ·cases h
theorem zim:∀ (j:Nat) (r:Rl) (a:Int) (s:St) (n:Int) (s':St), pz j r a s = .ok (n, s')->Bal s s':=by
 intro j
 induction j with
 | zero=>intro r a s n s' h; cases h
 | succ j ih=>
  intro r a s n s' h
  -- a token makes a node, which is laid behind what comes between
  have lay:∀ {s1 s2:St} {nd:Nd} {t:Tok}, zat s = .ok (t, s1)->s.hd.kind ≠ 0->Bal s1 s2->Bal s (layE nd s2).2:=by
   intro s1 s2 nd t hm hk hb
   obtain ⟨h60, _, rfl⟩:=zch hm
   obtain ⟨b1, b2, b3, b4, b5⟩:=hb
   refine ⟨?_, ?_, ?_, fun he=>b4 (zbw he hk), by simp only [layE, St.adv, List.length_tail] at *; omega⟩
   ·simp only [layE, St.adv, List.length_append, List.length_cons, List.length_nil] at *; omega
   ·simp only [layE, St.adv] at *; omega
   ·intro h; exact b3 (by show s.made + 1≤60; omega)
  have refl:=Bal.refl
  have trans:∀ {a b c:St}, Bal a b->Bal b c->Bal a c:=Bal.trans
  have adv:=Bal.adv
  cases r with
  | row o=>
   rw [pz] at h
   obtain ⟨⟨m, s1⟩, h1, h2⟩:=zai h
   exact trans (ih _ _ _ _ _ h1) (ih _ _ _ _ _ h2)
  | loop o=>
   rw [pz] at h
   split at h
   ·rename_i hs
    obtain ⟨⟨t, s1⟩, h1, h⟩:=zai h
    obtain ⟨⟨b, s2⟩, h2, h⟩:=zai h
    exact trans (lay h1 (by rw [jw hs]; decide) (ih _ _ _ _ _ h2)) (ih _ _ _ _ _ h)
   ·cases h; exact refl s
  | un=>
   rw [pz] at h
   have steps:∀ (k:Int) (shut:List UInt8), s.hd.kind = 5->zab (zat s) (fun x=>zab (zfk shut x.2) fun z=>zab (pz j .un 0 z.2) fun y=>.ok (layE ⟨k, y.1, 0, z.1, x.1.pos⟩ y.2)) = .ok (n, s')->Bal s s':=by
    intro k shut hs h
    obtain ⟨⟨t, s1⟩, h1, h⟩:=zai h
    obtain ⟨⟨x, s2⟩, h2, h⟩:=zai h
    obtain ⟨⟨b, s3⟩, h3, h⟩:=zai h
    obtain ⟨c1, c2, c3, c4⟩:=zld h2
    have k1:s1.hd.kind ≠ 0:=by
     rcases c1 with c1 | c1
     ·rw [jw c1]; decide
     ·rw [c1.1]; decide
    have k2:s1.adv.hd.kind ≠ 0:=by rw [jw c3]; decide
    have b2:Bal s1 s2:=by
     have:s2 = s1.adv.adv:=c4
     rw [this]
     exact trans (adv s1 k1) (adv _ k2)
    have:=lay (nd:=⟨k, b, 0, x, t.pos⟩) h1 (by rw [hs]; decide) (trans b2 (ih _ _ _ _ _ h3))
    cases h; exact this
   by_cases c1:isS [126] s = true
   ·rw [if_pos c1] at h
    obtain ⟨⟨t, s1⟩, h1, h⟩:=zai h
    obtain ⟨⟨b, s2⟩, h2, h⟩:=zai h
    have:=lay (nd:=⟨5, b, 0, [], t.pos⟩) h1 (by rw [jw c1]; decide) (ih _ _ _ _ _ h2)
    cases h; exact this
   rw [if_neg c1] at h
   by_cases c2:isS [60] s = true
   ·rw [if_pos c2] at h; exact steps 8 [62] (jw c2) h
   rw [if_neg c2] at h
   by_cases c3:isS [91] s = true
   ·rw [if_pos c3] at h; exact steps 9 [93] (jw c3) h
   rw [if_neg c3] at h
   by_cases c4:isS [40] s = true
   ·rw [if_pos c4] at h
    obtain ⟨⟨b, s1⟩, h1, h⟩:=zai h
    obtain ⟨s2, h2, h⟩:=zai h
    obtain ⟨d1, d2⟩:=zgd h2
    cases h
    rw [d2]
    exact trans (adv s (by rw [jw c4]; decide)) (trans (ih _ _ _ _ _ h1) (adv _ (by rw [jw d1]; decide)))
   rw [if_neg c4] at h
   by_cases c5:s.hd.kind = 3
   ·rw [if_pos c5] at h
    obtain ⟨⟨t, s1⟩, h1, h⟩:=zai h
    have:=lay (nd:=⟨4, 0, 0, t.text, t.pos⟩) h1 (by rw [c5]; decide) (refl s1)
    cases h; exact this
   rw [if_neg c5] at h
   by_cases c6:s.hd.kind = 2
   ·rw [if_pos c6] at h
    obtain ⟨⟨t, s1⟩, h1, h⟩:=zai h
    have hk:s.hd.kind ≠ 0:=by rw [c6]; decide
    dsimp only at h
    by_cases d1:t.text = [116, 116]
    ·rw [if_pos d1] at h
     have:=lay (nd:=⟨1, 0, 0, [], t.pos⟩) h1 hk (refl s1)
     cases h; exact this
    rw [if_neg d1] at h
    by_cases d2:t.text = [102, 102]
    ·rw [if_pos d2] at h
     have:=lay (nd:=⟨2, 0, 0, [], t.pos⟩) h1 hk (refl s1)
     cases h; exact this
    rw [if_neg d2] at h
    by_cases d3:t.text = [109, 117] ∨ t.text = [110, 117]
    ·rw [if_pos d3] at h
     by_cases h3:s1.hd.kind = 3
     ·rw [if_pos h3] at h
      obtain ⟨s2, h2, h⟩:=zai h
      obtain ⟨⟨b, s3⟩, h4, h⟩:=zai h
      obtain ⟨e1, e2⟩:=zgd h2
      have b2:Bal s1 s2:=by
       rw [e2]
       exact trans (adv s1 (by rw [h3]; decide)) (adv _ (by rw [jw e1]; decide))
      have:=lay (nd:=⟨if t.text = [109, 117] then 10 else 11, b, 0, s1.hd.text, t.pos⟩) h1 hk (trans b2 (ih _ _ _ _ _ h4))
      cases h; exact this
     ·rw [if_neg h3] at h; cases h
    ·rw [if_neg d3] at h
     have:=lay (nd:=⟨3, 0, 0, t.text, t.pos⟩) h1 hk (refl s1)
     cases h; exact this
   ·rw [if_neg c6] at h; cases h
def cost:Rl->Nat->Nat
 | .un, n=>3 * n + 1
 | .row o, n=>if o then 3 * n + 3 else 3 * n + 2
 | .loop _, n=>3 * n + 1
theorem zaa {β γ:Type} {x:Except Er β} {f:β->Except Er γ} {e:Er} (h:zab x f = .error e):x = .error e ∨ ∃ b, x = .ok b ∧ f b = .error e:=by
 cases x with
 | error e'=>
  left
  have h:(Except.error e':Except Er γ) = .error e:=h
  cases h; rfl
 | ok b=>exact .inr ⟨b, rfl, h⟩
theorem zds {s:St} {e:Er} (h:zat s = .error e):e.2 ≠ 0:=by
 unfold zat at h
 split at h
 ·cases h; show (10:Int) ≠ 0; decide
 ·cases h
theorem zgp (s:St):(zce s).2 ≠ 0:=by unfold zce; dsimp only; split <;> decide
theorem zif {sign:List UInt8} {s:St} {e:Er} (h:zdl sign s = .error e):e.2 ≠ 0:=by
 unfold zdl at h
 split at h
 ·cases h
 ·cases h; exact zgp s
theorem stepE_err {sign:List UInt8} {s:St} {e:Er} (h:zfk sign s = .error e):e.2 ≠ 0:=by
 unfold zfk at h
 split at h
 ·cases hn:zdl sign s.adv with
  | error e'=>rw [hn] at h; cases h; exact zif hn
  | ok s'=>rw [hn] at h; cases h
 ·cases h; exact zgp s
theorem zof {s:St} (he:Ends s.l):s.adv.l.length + 1 = s.l.length:=by
 obtain ⟨t, r, hl⟩:=he.ne
 unfold St.adv; rw [hl]; rfl
theorem pz_fuel:∀ (j:Nat) (r:Rl) (a:Int) (s:St) (e:Er), Ends s.l->cost r s.l.length≤j->pz j r a s = .error e->e.2 ≠ 0:=by
 intro j
 induction j with
 | zero=>intro r a s e he hc h; cases r <;> simp only [cost] at hc <;> (try split at hc) <;> omega
 | succ j ih=>
  intro r a s e he hc h
  have hlen:=zof he
  cases r with
  | row o=>
   rw [pz] at h
   rcases zaa h with h | ⟨x, hx, h⟩
   ·refine ih _ _ _ _ he ?_ h
    cases o <;> simp [cost, oneO] at hc ⊢ <;> omega
   ·have hb:=zim _ _ _ _ _ _ hx
    refine ih _ _ _ _ (hb.2.2.2.1 he) ?_ h
    have:=hb.2.2.2.2
    cases o <;> simp [cost] at hc ⊢ <;> omega
  | loop o=>
   rw [pz] at h
   simp only [cost] at hc
   by_cases hs:isS (signO o) s = true
   ·rw [if_pos hs] at h
    have he1:=zbw he (by rw [jw hs]; decide)
    rcases zaa h with h | ⟨x, hx, h⟩
    ·exact zds h
    obtain ⟨t, s1⟩:=x
    obtain ⟨_, _, hs1⟩:=zch hx
    have hl1:s1.l = s.adv.l:=by rw [hs1]
    dsimp only at h
    rcases zaa h with h | ⟨y, hy, h⟩
    ·refine ih _ _ _ _ (by rw [hl1]; exact he1) ?_ h
     rw [hl1]
     cases o <;> simp [cost, oneO] <;> omega
    ·have hb:=zim _ _ _ _ _ _ hy
     refine ih _ _ _ _ (by simp only [layE]; exact hb.2.2.2.1 (by rw [hl1]; exact he1)) ?_ h
     have:=hb.2.2.2.2
     rw [hl1] at this
     simp only [cost, layE]
     omega
   ·rw [if_neg hs] at h; cases h
  | un=>
   rw [pz] at h
   simp only [cost] at hc
   have steps:∀ (k:Int) (shut:List UInt8), s.hd.kind = 5->zab (zat s) (fun x=>zab (zfk shut x.2) fun z=>zab (pz j .un 0 z.2) fun y=>.ok (layE ⟨k, y.1, 0, z.1, x.1.pos⟩ y.2)) = .error e->e.2 ≠ 0:=by
    intro k shut hs h
    have he1:=zbw he (by rw [hs]; decide)
    rcases zaa h with h | ⟨x, hx, h⟩
    ·exact zds h
    obtain ⟨t, s1⟩:=x
    obtain ⟨_, _, hs1⟩:=zch hx
    have hl1:s1.l = s.adv.l:=by rw [hs1]
    rcases zaa h with h | ⟨z, hz, h⟩
    ·exact stepE_err h
    obtain ⟨w1, w2, w3, w4⟩:=zld hz
    have k1:s1.hd.kind ≠ 0:=by
     rcases w1 with w1 | w1
     ·rw [jw w1]; decide
     ·rw [w1.1]; decide
    have hB:Bal s1 z.2:=by rw [w4]; exact (Bal.adv s1 k1).trans (Bal.adv _ (by rw [jw w3]; decide))
    have:=hB.2.2.2.2
    rw [hl1] at this
    rcases zaa h with h | ⟨y, hy, h⟩
    ·exact ih _ _ _ _ (hB.2.2.2.1 (by rw [hl1]; exact he1)) (by simp only [cost]; omega) h
    ·cases h
   by_cases c1:isS [126] s = true
   ·rw [if_pos c1] at h
    have he1:=zbw he (by rw [jw c1]; decide)
    rcases zaa h with h | ⟨x, hx, h⟩
    ·exact zds h
    obtain ⟨t, s1⟩:=x
    obtain ⟨_, _, hs1⟩:=zch hx
    have hl1:s1.l = s.adv.l:=by rw [hs1]
    rcases zaa h with h | ⟨y, hy, h⟩
    ·exact ih _ _ _ _ (by rw [hl1]; exact he1) (by rw [hl1]; simp only [cost]; omega) h
    ·cases h
   rw [if_neg c1] at h
   by_cases c2:isS [60] s = true
   ·rw [if_pos c2] at h; exact steps 8 [62] (jw c2) h
   rw [if_neg c2] at h
   by_cases c3:isS [91] s = true
   ·rw [if_pos c3] at h; exact steps 9 [93] (jw c3) h
   rw [if_neg c3] at h
   by_cases c4:isS [40] s = true
   ·rw [if_pos c4] at h
    have he1:=zbw he (by rw [jw c4]; decide)
    rcases zaa h with h | ⟨y, hy, h⟩
    ·exact ih _ _ _ _ he1 (by simp [cost]; omega) h
    rcases zaa h with h | ⟨z, hz, h⟩
    ·exact zif h
    ·cases h
   rw [if_neg c4] at h
   by_cases c5:s.hd.kind = 3
   ·rw [if_pos c5] at h
    rcases zaa h with h | ⟨x, hx, h⟩
    ·exact zds h
    ·cases h
   rw [if_neg c5] at h
   by_cases c6:s.hd.kind = 2
   ·rw [if_pos c6] at h
    have he1:=zbw he (by rw [c6]; decide)
    rcases zaa h with h | ⟨x, hx, h⟩
    ·exact zds h
    obtain ⟨t, s1⟩:=x
    obtain ⟨_, _, hs1⟩:=zch hx
    have hl1:s1.l = s.adv.l:=by rw [hs1]
    dsimp only at h
    by_cases d1:t.text = [116, 116]
    ·rw [if_pos d1] at h; cases h
    rw [if_neg d1] at h
    by_cases d2:t.text = [102, 102]
    ·rw [if_pos d2] at h; cases h
    rw [if_neg d2] at h
    by_cases d3:t.text = [109, 117] ∨ t.text = [110, 117]
    ·rw [if_pos d3] at h
     by_cases h3:s1.hd.kind = 3
     ·rw [if_pos h3] at h
      rcases zaa h with h | ⟨z, hz, h⟩
      ·exact zif h
      obtain ⟨w1, w2⟩:=zgd hz
      have hB:Bal s1 z:=by rw [w2]; exact (Bal.adv s1 (by rw [h3]; decide)).trans (Bal.adv _ (by rw [jw w1]; decide))
      have:=hB.2.2.2.2
      rw [hl1] at this
      have he3:=hB.2.2.2.1 (by rw [hl1]; exact he1)
      have l2:=zof (s:=s1) (by rw [hl1]; exact he1)
      have l3:z.l.length < s.adv.l.length:=by
       rw [w2]
       have:=zof (s:=s1.adv) (zbw (by rw [hl1]; exact he1) (by rw [h3]; decide))
       rw [hl1] at l2
       omega
      rcases zaa h with h | ⟨y, hy, h⟩
      ·exact ih _ _ _ _ he3 (by simp [cost]; omega) h
      ·cases h
     ·rw [if_neg h3] at h; cases h; exact zgp _
    ·rw [if_neg d3] at h; cases h
   ·rw [if_neg c6] at h; cases h; exact zgp _
end Go.Ab.S7
namespace Go.Ab.S7
variable {α:Type} {h:H}
theorem zgh (h:H) (i:Nat) (a b:Option Blk):(h.put i a).put i b = h.put i b:=by
 unfold H.put
 simp only [H.mk.injEq, true_and]
 funext j
 cases Nat.beq j i <;> rfl
abbrev tkC (t:Tok):Blk:=.cells [.int .i64 t.kind, .int .i64 t.pos, .str t.text, .int .i64 t.num] true
theorem st4_run {q:Nat} {v0 v1 v2 v3:V} (hq:h.get q = some (.cells [v0, v1, v2, v3] true)) (t:Tok) (K:M α) :
  (st1 ((⟨q, 0⟩:Ad).add 0) (.int .i64 t.kind) <| st1 ((⟨q, 0⟩:Ad).add 1) (.int .i64 t.pos) <| st1 ((⟨q, 0⟩:Ad).add 2) (.str t.text) <| st1 ((⟨q, 0⟩:Ad).add 3) (.int .i64 t.num) K) h = K (h.put q (some (tkC t))):=by
 simp only [jg, Nat.zero_add]
 rw [yv (a:=⟨q, 0⟩) hq rfl (by simp), yv (a:=⟨q, 1⟩) (by rw [jt]) rfl (by simp), zgh, yv (a:=⟨q, 2⟩) (by rw [jt]) rfl (by simp), zgh, yv (a:=⟨q, 3⟩) (by rw [jt]) rfl (by simp), zgh]
 rfl
theorem zho {t:Tok} {q:Nat} (hq:h.get q = some (tkC t)) (K:Int->Int->List UInt8->Int->M α) :
  (ldI .i64 ((⟨q, 0⟩:Ad).add 0) fun y0=>ldI .i64 ((⟨q, 0⟩:Ad).add 1) fun y1=>ldStr ((⟨q, 0⟩:Ad).add 2) fun y2=>ldI .i64 ((⟨q, 0⟩:Ad).add 3) fun y3=>K y0 y1 y2 y3) h = K t.kind t.pos t.text t.num h:=by
 simp only [jg]
 rw [jn (by rw [jf (a:=⟨q, 0 + 0⟩) hq]; rfl), jn (by rw [jf (a:=⟨q, 0 + 1⟩) hq]; rfl), zad (by rw [jf (a:=⟨q, 0 + 2⟩) hq]; rfl), jn (by rw [jf (a:=⟨q, 0 + 3⟩) hq]; rfl)]
theorem zbr {t:Tok} {q:Nat} (hq:h.get q = some (tkC t)) (K:Int->M α):ldI .i64 (((⟨q, 0⟩:Ad).add 1).add 0) K h = K t.pos h:=jn (by simp only [jg]; rw [jf (a:=⟨q, 0 + 1 + 0⟩) hq]; rfl)
theorem zdx {t:Tok} {q:Nat} (hq:h.get q = some (tkC t)) (K:List UInt8->M α):ldStr (((⟨q, 0⟩:Ad).add 2).add 0) K h = K t.text h:=zad (by simp only [jg]; rw [jf (a:=⟨q, 0 + 2 + 0⟩) hq]; rfl)
theorem zke {z0 z1 z3:Int} {z2:List UInt8} (t:Tok) (K:Ad->M α) :
  new [.int .i64 z0, .int .i64 z1, .str z2, .int .i64 z3] (fun n=>st1 (n.add 0) (.int .i64 t.kind) <| st1 (n.add 1) (.int .i64 t.pos) <| st1 (n.add 2) (.str t.text) <| st1 (n.add 3) (.int .i64 t.num) <| K n) h =
   K ⟨h.next, 0⟩ (h.push (tkC t)):=by
 rw [jk rfl]
 simp only [jg, Nat.zero_add]
 rw [yc rfl (by simp), yc rfl (by simp), yc rfl (by simp), yc rfl (by simp)]
 rfl
theorem Tok.len (t:Tok):t.cells.length = 4:=rfl
abbrev TkR (h:H) (s:Sl) (l:List Tok):Prop:=Rd h s 4 (jx l)
section
variable {s:Sl} {l:List Tok}
theorem zgl (r:TkR h s l):s.len = l.length:=slen (c:=Tok.cells) Tok.len (by decide) r
theorem zfe (r:TkR h s l) {i:Nat} {n:Tok} (hi:l[i]? = some n) {j:Nat} {v:V} (hv:n.cells[j]? = some v) (hj:j < 4):(jx l)[i * 4 + j]? = some v:=
 (zcn Tok.len l i n j hi hj).trans hv
theorem zog (r:TkR h s l) {x:Int} {i:Nat} {n:Tok} (hx:x = (i:Int)) (hi:l[i]? = some n) (K:Ad->M α):idxSl s x 4 K h = K (s.at (i * 4)) h:=
 zcy r hx (by rw [zgl r]; exact yu hi) K
theorem zbz (r:TkR h s l) {x:Int} {i:Nat} {n:Tok} (hx:x = (i:Int)) (hi:l[i]? = some n) (K:Int->M α):idxSl s x 4 (fun a=>ldI .i64 ((a.add 0).add 0) K) h = K n.kind h:=by
 rw [zog r hx hi, yl, yl]; exact r.ldI (zfe r hi (j:=0) rfl (by decide)) K
theorem tk_pos (r:TkR h s l) {x:Int} {i:Nat} {n:Tok} (hx:x = (i:Int)) (hi:l[i]? = some n) (K:Int->M α):idxSl s x 4 (fun a=>ldI .i64 ((a.add 1).add 0) K) h = K n.pos h:=by
 rw [zog r hx hi, yl, yl]; exact r.ldI (zfe r hi (j:=1) rfl (by decide)) K
theorem zon (r:TkR h s l) {x:Int} {i:Nat} {n:Tok} (hx:x = (i:Int)) (hi:l[i]? = some n) (K:List UInt8->M α):idxSl s x 4 (fun a=>ldStr ((a.add 2).add 0) K) h = K n.text h:=by
 rw [zog r hx hi, yl, yl]; exact r.ldStr (zfe r hi (j:=2) rfl (by decide)) K
theorem tk_all (r:TkR h s l) {x:Int} {i:Nat} {n:Tok} (hx:x = (i:Int)) (hi:l[i]? = some n) (K:Int->Int->List UInt8->Int->M α) :
  idxSl s x 4 (fun a=>ldI .i64 (a.add 0) fun x0=>ldI .i64 (a.add 1) fun x1=>ldStr (a.add 2) fun x2=>ldI .i64 (a.add 3) fun x3=>K x0 x1 x2 x3) h = K n.kind n.pos n.text n.num h:=by
 rw [zog r hx hi]
 simp only [yl]
 rw [r.ldI (zfe r hi (j:=0) rfl (by decide)), r.ldI (zfe r hi (j:=1) rfl (by decide)), r.ldStr (zfe r hi (j:=2) rfl (by decide)), r.ldI (zfe r hi (j:=3) rfl (by decide))]
end
theorem from_id {s:Sl} {n m size:Nat} {b:Ad} (hb:s.from n m size = some b):∃ a, s.ad = some a ∧ a.id = b.id:=by
 unfold Sl.from at hb
 cases hls:s.ad with
 | none=>
  rw [hls] at hb
  cases hlo:s.loose with
  | none=>rw [hlo] at hb; dsimp only at hb; cases hq:Nat.beq m n <;> simp [hq] at hb
  | some e=>rw [hlo] at hb; cases hb
 | some a=>
  rw [hls] at hb
  refine ⟨a, rfl, ?_⟩
  cases hlo:s.loose with
  | none=>
   rw [hlo] at hb
   dsimp only at hb
   cases hq:Nat.beq m n with
   | true=>rw [hq, cond_true] at hb; cases hb; rfl
   | false=>rw [hq, cond_false] at hb; cases hb; rfl
  | some e=>rw [hlo] at hb; cases hb; rfl
structure PS (h₀ h:H) (p tb:Nat) (ls fs:Sl) (s:St):Prop where
 ext:Ext h₀ h
 p0:h₀.next≤p
 plt:p < h.next
 blk:h.get p = some (.cells [.slice ls, .int .i64 (s.made:Int), .slice fs] true)
 toks:TkR h ls s.l
 fine:ls.fine 4
 nodes:App h fs 5 (cN s.f)
 low:zah h₀ fs
 tok:∀ a, ls.ad = some a->a.id = tb
 tp:tb ≠ p
 tl:tb < h.next
 fp:∀ a, fs.ad = some a->a.id ≠ p ∧ a.id ≠ tb
 ends:Ends s.l
 bal:s.f.length≤s.made
 m60:s.made≤60
structure QP (p:Nat) (fs fs':Sl) (h h':H):Prop where
 nx:h.next≤h'.next
 keep:∀ i, i < h.next->i ≠ p->(∀ a, fs.ad = some a->i ≠ a.id)->h'.get i = h.get i
 nf:∀ a, fs'.ad = some a->h.next≤a.id ∨ fs'.ad = fs.ad
theorem QP.refl (p:Nat) (fs:Sl) (h:H):QP p fs fs h h:=⟨Nat.le_refl _, fun _ _ _ _=>rfl, fun _ _=>.inr rfl⟩
theorem QP.of {p:Nat} {fs:Sl} {h h':H} (x:Ext h h'):QP p fs fs h h':=⟨x.1, fun i hi _ _=>x.2 i hi, fun _ _=>.inr rfl⟩
theorem QP.trans {p:Nat} {a b c:Sl} {h h' h'':H} (x:QP p a b h h') (y:QP p b c h' h''):QP p a c h h'':=by
 refine ⟨Nat.le_trans x.nx y.nx, fun i hi hp ha=>?_, fun q hq=>?_⟩
 ·rw [y.keep i (Nat.lt_of_lt_of_le hi x.nx) hp (fun q hq=>?_), x.keep i hi hp ha]
  rcases x.nf q hq with h | h
  ·omega
  ·exact ha q (by rw [← h]; exact hq)
 ·rcases y.nf q hq with h | h
  ·exact .inl (Nat.le_trans x.nx h)
  ·rw [h] at hq
   rcases x.nf q hq with h' | h'
   ·exact .inl h'
   ·exact .inr (h.trans h')
section
variable {h₀:H} {p tb:Nat} {ls fs:Sl} {s:St}
theorem PS.push (P:PS h₀ h p tb ls fs s) {h':H} (x:Ext h h'):PS h₀ h' p tb ls fs s:=
 ⟨P.ext.trans x, P.p0, Nat.lt_of_lt_of_le P.plt x.1, by rw [x.2 p P.plt]; exact P.blk, P.toks.ext x, P.fine, P.nodes.ext x, P.low, P.tok, P.tp, Nat.lt_of_lt_of_le P.tl x.1, P.fp, P.ends, P.bal, P.m60⟩
theorem PS.setblk (P:PS h₀ h p tb ls fs s) {ls':Sl} {s':St} (hf:s'.f = s.f) (ht:TkR h ls' s'.l) (hfine:ls'.fine 4) (had:∀ b, ls'.ad = some b->∃ a, ls.ad = some a ∧ a.id = b.id) (he:Ends s'.l) (hb:s'.f.length≤s'.made) (hm:s'.made≤60) :
  PS h₀ (h.put p (some (.cells [.slice ls', .int .i64 (s'.made:Int), .slice fs] true))) p tb ls' fs s':=by
 have hg:∀ i, i ≠ p->(h.put p (some (.cells [.slice ls', .int .i64 (s'.made:Int), .slice fs] true))).get i = h.get i:=fun i hi=>by rw [zi, if_neg hi]
 have htb:∀ b, ls'.ad = some b->b.id = tb:=fun b hb=>by
  obtain ⟨a, ha, e⟩:=had b hb
  rw [← e]; exact P.tok a ha
 refine ⟨P.ext.put _ P.p0, P.p0, P.plt, by rw [jt], ht.keep (Nat.le_refl _) fun b hb=>hg _ (by rw [htb b hb]; exact P.tp), hfine, ?_, P.low, htb, P.tp, P.tl, P.fp, he, hb, hm⟩
 rw [hf]; exact P.nodes.keep (Nat.le_refl _) fun a ha=>hg _ (P.fp a ha).1
theorem qp_put (b:Option Blk):QP p fs fs h (h.put p b):=⟨Nat.le_refl _, fun i _ hi _=>by rw [zi, if_neg hi], fun _ _=>.inr rfl⟩
theorem p_l (P:PS h₀ h p tb ls fs s) (K:Sl->M α):ldS (((⟨p, 0⟩:Ad).add 0).add 0) K h = K ls h:=zbb (by simp only [jg]; rw [jf P.blk]; rfl)
theorem p_made (P:PS h₀ h p tb ls fs s) (K:Int->M α):ldI .i64 (((⟨p, 0⟩:Ad).add 1).add 0) K h = K s.made h:=jn (by simp only [jg]; rw [jf P.blk]; rfl)
theorem p_f (P:PS h₀ h p tb ls fs s) (K:Sl->M α):ldS (((⟨p, 0⟩:Ad).add 2).add 0) K h = K fs h:=zbb (by simp only [jg]; rw [jf P.blk]; rfl)
theorem PS.hd (P:PS h₀ h p tb ls fs s):s.l[0]? = some s.hd:=by
 obtain ⟨t, r, hl⟩:=P.ends.ne
 unfold St.hd
 rw [hl]; rfl
theorem zaq (P:PS h₀ h p tb ls fs s) (k:Nat) (sign:List UInt8) (ret:Bool->M α):qat.f (k + 1) ⟨p, 0⟩ sign ret h = ret (isS sign s) h:=by
 rw [qat.f, qat.u1.f, p_l P, zbz P.toks (x:=0) (i:=0) rfl P.hd]
 unfold isS
 by_cases h5:s.hd.kind = 5
 ·rw [dT h5, cond_true, p_l P, zon P.toks (x:=0) (i:=0) rfl P.hd, Bool.true_and]
 ·rw [dF h5, cond_false, Bool.false_and]
theorem zdf (P:PS h₀ h p tb ls fs s) (k:Nat) (pan:V->M α) (ret:M α):qav.f (k + 1) ⟨p, 0⟩ pan ret h = pan (.iface 61 (.agg [.int .i64 (zce s).1, .int .i64 (zce s).2])) h:=by
 rw [qav.f, qav.u1.f, p_l P, zbz P.toks (x:=0) (i:=0) rfl P.hd]
 unfold zce
 by_cases h5:s.hd.kind = 0
 ·rw [dT h5, cond_true, p_l P, tk_pos P.toks (x:=0) (i:=0) rfl P.hd, if_pos h5]
 ·rw [dF h5, cond_false, p_l P, tk_pos P.toks (x:=0) (i:=0) rfl P.hd, if_neg h5]
theorem PS.other (P:PS h₀ h p tb ls fs s) {i:Nat} (b:Blk) (hi:h₀.next≤i) (hp:i ≠ p) (hl:tb ≠ i) (hf:∀ a, fs.ad = some a->a.id ≠ i):PS h₀ (h.put i (some b)) p tb ls fs s:=by
 have hg:∀ j, j ≠ i->(h.put i (some b)).get j = h.get j:=fun j hj=>by rw [zi, if_neg hj]
 exact ⟨P.ext.put _ hi, P.p0, P.plt, by rw [hg _ (Ne.symm hp)]; exact P.blk, P.toks.keep (Nat.le_refl _) (fun a ha=>hg _ (by rw [P.tok a ha]; exact hl)), P.fine, P.nodes.keep (Nat.le_refl _) (fun a ha=>hg _ (hf a ha)), P.low, P.tok, P.tp, P.tl, P.fp, P.ends, P.bal, P.m60⟩
theorem zfs (P:PS h₀ h p tb ls fs s) (k:Nat) (hk:s.hd.kind ≠ 0) :
  ∃ h' ls', (∀ (α:Type) (ret:Int->Int->List UInt8->Int->M α), qan.f (k + 1) ⟨p, 0⟩ ret h = ret s.hd.kind s.hd.pos s.hd.text s.hd.num h') ∧ PS h₀ h' p tb ls' fs s.adv ∧ QP p fs fs h h':=by
 have he:=zbw P.ends hk
 obtain ⟨t, r, hl⟩:=P.ends.ne
 have hhd:s.hd = t:=by unfold St.hd; rw [hl]; rfl
 have hadv:s.adv = { s with l:=r }:=by unfold St.adv; rw [hl]; rfl
 have hlen:ls.len = r.length + 1:=by rw [zgl P.toks, hl]; rfl
 -- the two copies
 have x2:Ext h ((h.push (.cells [.int .i64 0, .int .i64 0, .str [], .int .i64 0] true)).push (tkC t)):=((Ext.refl h).push _).push _
 have hn2:((h.push (.cells [.int .i64 0, .int .i64 0, .str [], .int .i64 0] true)).push (tkC t)).next = h.next + 2:=rfl
 have P1:=P.push ((Ext.refl h).push (.cells [.int .i64 0, .int .i64 0, .str [], .int .i64 0] true))
 have P2:=P.push x2
 have hz:((h.push (.cells [.int .i64 0, .int .i64 0, .str [], .int .i64 0] true)).push (tkC t)).get h.next = some (.cells [.int .i64 0, .int .i64 0, .str [], .int .i64 0] true):=by
  rw [zk, if_neg (by rw [zj]; omega), zk, if_pos rfl]
 have ht:((h.push (.cells [.int .i64 0, .int .i64 0, .str [], .int .i64 0] true)).push (tkC t)).get (h.next + 1) = some (tkC t):=by rw [zk, if_pos (by rw [zj])]
 have start:∀ (α:Type) (ret:Int->Int->List UInt8->Int->M α), qan.f (k + 1) ⟨p, 0⟩ ret h = _:=fun α ret=>by
  rw [qan.f, qan.u1.f, jk rfl, p_l P1, tk_all P1.toks (x:=0) (i:=0) (n:=t) rfl (by rw [hl]; rfl), zke]
 rw [show (h.push (.cells [.int .i64 0, .int .i64 0, .str [], .int .i64 0] true)).next = h.next + 1 from rfl] at start
 generalize (h.push (.cells [.int .i64 0, .int .i64 0, .str [], .int .i64 0] true)).push (tkC t) = h2 at start x2 hn2 P2 hz ht
 have rf:=P2.toks.from 1 (ls.cap - 1) ls.cap ls.loose (by omega) P2.fine.1
 have hdr:(jx s.l).drop (1 * 4) = jx r:=by
  rw [hl]
  exact zgm (c:=Tok.cells) (size:=4) Tok.len (t :: r) 1
 rw [hdr] at rf
 have P3:=P2.setblk (ls':=⟨ls.from 1 ls.cap 4, ls.len - 1, ls.cap - 1, ls.loose⟩) (s':={ s with l:=r }) rfl rf ⟨by show ls.len - 1≤ls.cap - 1; have:=P.fine.1; omega, P.fine.2⟩ (fun b hb=>from_id hb) (by rw [hadv] at he; exact he) P.bal P.m60
 have q3:QP p fs fs h2 (h2.put p (some (.cells [.slice ⟨ls.from 1 ls.cap 4, ls.len - 1, ls.cap - 1, ls.loose⟩, .int .i64 (s.made:Int), .slice fs] true))):=qp_put _
 have hg3:∀ i, i ≠ p->(h2.put p (some (.cells [.slice ⟨ls.from 1 ls.cap 4, ls.len - 1, ls.cap - 1, ls.loose⟩, .int .i64 (s.made:Int), .slice fs] true))).get i = h2.get i:=fun i hi=>by rw [zi, if_neg hi]
 have e3:∀ (α:Type) (K:M α), st1 (((⟨p, 0⟩:Ad).add 0).add 0) (.slice ⟨ls.from 1 ls.cap 4, ls.len - 1, ls.cap - 1, ls.loose⟩) K h2 = K (h2.put p (some (.cells [.slice ⟨ls.from 1 ls.cap 4, ls.len - 1, ls.cap - 1, ls.loose⟩, .int .i64 (s.made:Int), .slice fs] true))):=fun α K=>by
  simp only [jg]
  rw [yv (a:=⟨p, 0 + 0 + 0⟩) P2.blk rfl (by simp)]
  rfl
 have hn3:(h2.put p (some (.cells [.slice ⟨ls.from 1 ls.cap 4, ls.len - 1, ls.cap - 1, ls.loose⟩, .int .i64 (s.made:Int), .slice fs] true))).next = h2.next:=rfl
 generalize h2.put p (some (.cells [.slice ⟨ls.from 1 ls.cap 4, ls.len - 1, ls.cap - 1, ls.loose⟩, .int .i64 (s.made:Int), .slice fs] true)) = h3 at P3 q3 e3 hg3 hn3
 have hpl:=P.plt
 have hz3:h3.get h.next = some (.cells [.int .i64 0, .int .i64 0, .str [], .int .i64 0] true):=by rw [hg3 _ (by omega)]; exact hz
 have ht3:h3.get (h.next + 1) = some (tkC t):=by rw [hg3 _ (by omega)]; exact ht
 have hfs:∀ a, fs.ad = some a->a.id < h.next:=fun a ha=>(P.nodes.rd.row a ha).2
 have hls:∀ a, ls.ad = some a->a.id < h.next:=fun a ha=>(P.toks.row a ha).2
 -- the answer's own copy
 have P4:=P3.other (tkC t) (i:=h.next) P.ext.1 (by omega) (by have:=P.tl; omega) (fun a ha=>by have:=hfs a ha; omega)
 refine ⟨h3.put h.next (some (tkC t)), _, fun α ret=>?_, by rw [hadv]; exact P4, ⟨by show h.next≤h3.next; omega, fun i hi hp _=>by rw [zi, if_neg (by omega), hg3 i hp, x2.2 i hi], fun _ _=>.inr rfl⟩⟩
 ·rw [start, p_l P2, zhs P2.fine (x:=1) (n:=1) rfl (by omega), e3, zho ht3, st4_run hz3]
  have hq4:(h3.put h.next (some (tkC t))).get h.next = some (tkC t):=by rw [jt]
  rw [zho hq4, hhd]
theorem PS.lts (P:PS h₀ h p tb ls fs s):(∀ a, ls.ad = some a->a.id < h.next) ∧ ∀ a, fs.ad = some a->a.id < h.next:=⟨fun a ha=>(P.toks.row a ha).2, fun a ha=>(P.nodes.rd.row a ha).2⟩
abbrev zhf (e:Er):V:=.iface 61 (.agg [.int .i64 e.1, .int .i64 e.2])
theorem znk (P:PS h₀ h p tb ls fs s) (k:Nat) (hk:s.hd.kind ≠ 0) :
  match zat s with
  | .error e=>∃ h', Ext h₀ h' ∧ ∀ (α:Type) (pan:V->M α) (ret:Int->Int->List UInt8->Int->M α), qak.f (k + 2) ⟨p, 0⟩ pan ret h = pan (zhf e) h'
  | .ok x=>∃ h' ls', (∀ (α:Type) (pan:V->M α) (ret:Int->Int->List UInt8->Int->M α), qak.f (k + 2) ⟨p, 0⟩ pan ret h = ret x.1.kind x.1.pos x.1.text x.1.num h') ∧ PS h₀ h' p tb ls' fs x.2 ∧ QP p fs fs h h':=by
 have x1:Ext h (h.push (.cells [.int .i64 0, .int .i64 0, .str [], .int .i64 0] true)):=(Ext.refl h).push _
 have P1:=P.push x1
 have hz:(h.push (.cells [.int .i64 0, .int .i64 0, .str [], .int .i64 0] true)).get h.next = some (.cells [.int .i64 0, .int .i64 0, .str [], .int .i64 0] true):=by rw [zk, if_pos rfl]
 have hn1:(h.push (.cells [.int .i64 0, .int .i64 0, .str [], .int .i64 0] true)).next = h.next + 1:=rfl
 have start:∀ (α:Type) (pan:V->M α) (ret:Int->Int->List UInt8->Int->M α), qak.f (k + 2) ⟨p, 0⟩ pan ret h = _:=fun α pan ret=>by
  rw [qak.f, qak.u1.f, jk rfl, p_made P1]
 generalize h.push (.cells [.int .i64 0, .int .i64 0, .str [], .int .i64 0] true) = h1 at start x1 P1 hz hn1
 have hpl:=P.plt
 have hlts:=P.lts
 unfold zat
 by_cases h60:s.made = 60
 ·rw [if_pos h60]
  refine ⟨h1, P1.ext, fun α pan ret=>?_⟩
  rw [start, dT (by rw [h60]; rfl), cond_true, p_l P1, tk_pos P1.toks (x:=0) (i:=0) rfl P1.hd]
 rw [if_neg h60]
 have hm:=P.m60
 have hb:=P.bal
 -- one more is made
 have P2:=P1.setblk (ls':=ls) (s':={ s with made:=s.made + 1 }) rfl P1.toks P1.fine (fun b hb=>⟨b, hb, rfl⟩) P1.ends (by show s.f.length≤s.made + 1; omega) (by show s.made + 1≤60; omega)
 have q2:QP p fs fs h1 (h1.put p (some (.cells [.slice ls, .int .i64 ((s.made + 1:Nat):Int), .slice fs] true))):=qp_put _
 have e2:∀ (α:Type) (K:M α), st1 (((⟨p, 0⟩:Ad).add 1).add 0) (.int .i64 ((s.made + 1:Nat):Int)) K h1 = K (h1.put p (some (.cells [.slice ls, .int .i64 ((s.made + 1:Nat):Int), .slice fs] true))):=fun α K=>by
  simp only [jg]
  rw [yv (a:=⟨p, 0 + 1 + 0⟩) P1.blk rfl (by simp)]
  rfl
 have hz2:(h1.put p (some (.cells [.slice ls, .int .i64 ((s.made + 1:Nat):Int), .slice fs] true))).get h.next = some (.cells [.int .i64 0, .int .i64 0, .str [], .int .i64 0] true):=by rw [zi, if_neg (by omega)]; exact hz
 have hn2:(h1.put p (some (.cells [.slice ls, .int .i64 ((s.made + 1:Nat):Int), .slice fs] true))).next = h1.next:=rfl
 generalize h1.put p (some (.cells [.slice ls, .int .i64 ((s.made + 1:Nat):Int), .slice fs] true)) = h2 at P2 q2 e2 hz2 hn2
 obtain ⟨h3, ls3, e3, P3, q3⟩:=zfs P2 k hk
 have hf3:∀ a, fs.ad = some a->a.id ≠ h.next:=fun a ha=>by have:=hlts.2 a ha; omega
 have hz3:h3.get h.next = some (.cells [.int .i64 0, .int .i64 0, .str [], .int .i64 0] true):=by
  rw [q3.keep h.next (by omega) (by omega) (fun a ha=>Ne.symm (hf3 a ha))]; exact hz2
 have P4:=P3.other (tkC s.hd) (i:=h.next) P.ext.1 (by omega) (by have:=P.tl; omega) hf3
 refine ⟨h3.put h.next (some (tkC s.hd)), ls3, fun α pan ret=>?_, P4, ⟨by show h.next≤h3.next; have:=q3.nx; omega, fun i hi hp ha=>by rw [zi, if_neg (by omega), q3.keep i (by omega) hp ha, q2.keep i (by omega) hp ha, x1.2 i hi], fun _ _=>.inr rfl⟩⟩
 rw [start, dF (by omega:¬ (s.made:Int) = 60), cond_false, p_made P1, zw (by omega) (by omega)]
 refine (e2 α _).trans ?_
 rw [e3]
 show (st1 ((⟨h.next, 0⟩:Ad).add 0) (.int .i64 s.hd.kind) <| st1 ((⟨h.next, 0⟩:Ad).add 1) (.int .i64 s.hd.pos) <| st1 ((⟨h.next, 0⟩:Ad).add 2) (.str s.hd.text) <| st1 ((⟨h.next, 0⟩:Ad).add 3) (.int .i64 s.hd.num) _) h3 = _
 rw [st4_run hz3, zho (t:=s.hd) (by rw [jt])]
end
end Go.Ab.S7
