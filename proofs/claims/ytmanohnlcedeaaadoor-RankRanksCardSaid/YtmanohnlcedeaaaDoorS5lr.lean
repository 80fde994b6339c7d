import Derived.Test.YtmanohnlcedeaaaDoorS5ri
import Derived.Test.YtmanohnlcedeaaaDoorS5q2
import Derived.Test.YtmanohnlcedeaaaDoorS5nl
set_option linter.unusedVariables false
set_option linter.unusedSimpArgs false
namespace Go.Ab.S5
section
variable {h:H}
theorem copy_own {x:Sl} {l:List Nd} (r:NdR h x l) (hr:Room l.length) :
  ∃ d h', (∀ (α:Type) (K:Sl->M α), new [] (fun a=>jw ⟨some a, 0, 0, none⟩ 5 48 x K) h = K d h') ∧ Ext h h' ∧ NdR h' d l ∧ (l ≠ []->Own h' d 5 (cN l)) ∧ zag h d:=by
 have hlen:=yd r
 have x1:Ext h (h.push (.cells [] true)):=(Ext.refl h).push _
 have hg:(h.push (.cells [] true)).get h.next = some (.cells [] true):=by rw [zq, if_pos rfl]
 have ap:App (h.push (.cells [] true)) ⟨some ⟨h.next, 0⟩, 0, 0, none⟩ 5 []:=⟨Rd.pushed h (by simp), fun ha=>(by cases ha), .inl ⟨rfl, rfl⟩⟩
 by_cases h0:x.len = 0
 ·have hl:l = []:=List.eq_nil_of_length_eq_zero (by rw [← hlen]; exact h0)
  subst hl
  refine ⟨⟨some ⟨h.next, 0⟩, 0, 0, none⟩, h.push (.cells [] true), fun α K=>?_, x1, ap.rd, fun h=>absurd rfl h, fun a ha=>by cases ha; exact Nat.le_refl _⟩
  rw [js rfl]
  exact zly ap (r.ext x1) h0 K (fun _ a ha=>by cases ha; exact ⟨hg, rfl, rfl⟩)
 ·obtain ⟨h', e, ap', g, kp⟩:=zhq (bytes:=48) ap (r.ext x1) (by omega) (by decide) (by rw [hlen]; exact room_n hr)
  rw [List.nil_append] at ap' g
  refine ⟨_, h', fun α K=>?_, kp.ext x1 (fun a ha=>by cases ha; exact Nat.le_refl _), ap'.rd, fun _=>⟨ap'.rd.len, _, [], rfl, by rw [List.append_nil]; exact g, by rw [kp.1]; exact Nat.lt_succ_self _⟩, fun a ha=>by cases ha; show h.next≤h.next + 1; omega⟩
  rw [js rfl]
  exact e α K
end
theorem zpw (k:Nat) {s:Sl} {l:List Nd} (hl:l.length≤4611686018427387800) (hs:s.len = l.length):∀ (j i:Nat) (h:H), i≤l.length->l.length - i < j->Own h s 5 (cN ((l.take i).map plN ++ l.drop i)) ->
  ∃ h', (∀ (α:Type) (kx:Sl->M α), qt.u4.l k kx j s (i:Int) h = kx s h') ∧ Own h' s 5 (cN (l.map plN)) ∧ h'.next = h.next ∧ ∀ i, i ≠ s.id->h'.get i = h.get i:=by
 intro j
 induction j with
 | zero=>intro i h hi hj; omega
 | succ j ih=>
  intro i h hi hj o
  by_cases hlt:i < l.length
  ·have hn:l[i]? = some l[i]:=List.getElem?_eq_getElem hlt
   generalize l[i] = n at hn
   have hg:=znz hn
   by_cases h12:n.kind = 12
   ·obtain ⟨h1, e1, o1, n1, g1⟩:=nd_stk o hg 3
    have:({ n with kind:=3 }:Nd) = plN n:=by unfold plN plK; rw [if_pos h12]
    rw [this, zga hn] at o1
    obtain ⟨h2, e2, o2, n2, g2⟩:=ih (i + 1) h1 (by omega) (by omega) o1
    refine ⟨h2, fun α kx=>?_, o2, by omega, fun i hi=>by rw [g2 i hi, g1 i hi]⟩
    rw [qt.u4.l, qt.u3.f, hs, dT (by omega:(i:Int) < (l.length:Int)), cond_true, zac o.rd rfl hg, dT h12, cond_true]
    refine (e1 α _).trans ?_
    rw [zw (by omega) (by omega)]
    exact e2 α kx
   ·have:plN n = n:=by unfold plN plK; rw [if_neg h12]
    have o1:=o
    have e0:=zga hn
    rw [this, show ((l.take i).map plN ++ l.drop i).set i n = (l.take i).map plN ++ l.drop i by
     have hlt':=yt hg
     rw [List.getElem?_eq_getElem hlt'] at hg
     rw [← Option.some.inj hg]; exact List.set_getElem_self hlt'] at e0
    rw [e0] at o1
    obtain ⟨h2, e2, o2, n2, g2⟩:=ih (i + 1) h (by omega) (by omega) o1
    refine ⟨h2, fun α kx=>?_, o2, n2, g2⟩
    rw [qt.u4.l, qt.u3.f, hs, dT (by omega:(i:Int) < (l.length:Int)), cond_true, zac o.rd rfl hg, dF h12, cond_false, zw (by omega) (by omega)]
    exact e2 α kx
  ·refine ⟨h, fun α kx=>?_, ?_, rfl, fun _ _=>rfl⟩
   ·rw [qt.u4.l, qt.u3.f, hs, dF (by omega:¬ (i:Int) < (l.length:Int)), cond_false]
   ·rw [List.take_of_length_le (by omega), List.drop_of_length_le (by omega), List.append_nil] at o
    exact o
theorem pl_NL {l:List Nd} (hnl:NL l):NL (l.map plN):=fun i n hi=>by
 rw [List.getElem?_map] at hi
 cases hx:l[i]? with
 | none=>rw [hx] at hi; cases hi
 | some m=>rw [hx] at hi; cases hi; exact hnl i m hx
theorem zgu (k:Nat) {f:Sl} {l:List Nd} (hr:Room l.length) (hk:10 + l.length≤k) (h:H) (r:NdR h f l) :
  ∃ d h', (∀ (α:Type) (ret:Sl->M α), qt.f (k + 1) f ret h = ret d h') ∧ Ext h h' ∧ NdR h' d (l.map plN):=by
 obtain ⟨d, h1, e1, x1, r1, o1, w1⟩:=copy_own r hr
 have hd:=yd r1
 have st:∀ (α:Type) (ret:Sl->M α), qt.f (k + 1) f ret h = qt.u4.l k (fun y0=>qt.u7.f k y0 ret) k d ((0:Nat):Int) h1:=by
  intro α ret
  rw [qt.f, qt.u9.f, qt.u1.f, e1, qt.u8.f, qt.u6.f, qt.u2.f, qt.u5.f, qt.u4.f]
  rfl
 by_cases h0:l = []
 ·subst h0
  obtain ⟨k, rfl⟩:∃ q, k = q + 1:=⟨k - 1, by omega⟩
  refine ⟨d, h1, fun α ret=>?_, x1, r1⟩
  rw [st, qt.u4.l, qt.u3.f, hd]
  rfl
 ·obtain ⟨h2, e2, o2, n2, g2⟩:=zpw k (by unfold Room at hr; omega) hd k 0 h1 (Nat.zero_le _) (by omega) (o1 h0)
  have hid:h.next≤d.id:=by
   obtain ⟨id, more, q1, q2, q3⟩:=(o1 h0).blk
   unfold Sl.id
   rw [q1]
   exact w1 _ q1
  refine ⟨d, h2, fun α ret=>?_, ⟨by have:=x1.1; omega, fun i hi=>?_⟩, o2.rd⟩
  ·rw [st, e2, qt.u7.f]
  ·rw [g2 i (by omega)]; exact x1.2 i hi
theorem zqz (k:Nat) {f:Sl} {l:List Nd} {u:Tr} (w:Wide l u) (hnl:NL l) (hk:700≤k) (h:H) (r:NdR h f l) :
  ∃ h', (∀ (α:Type) (ret:Bool->M α), qau.f (k + 1) f ret h = ret true h') ∧ Ext h h':=by
 obtain ⟨k, rfl⟩:∃ q, k = q + 1:=⟨k - 1, by omega⟩
 have hl:l.length≤60:=by rw [w.flat, ze]; exact w.size
 obtain ⟨d, h1, e1, x1, r1⟩:=zgu k (by unfold Room; omega) (by omega) h r
 have hn:=pl_NL hnl
 rw [w.flat, ← zbm] at r1 hn
 obtain ⟨h2, e2, x2⟩:=zlt k (by omega) (t:=u.pl) w.ok (by rw [yx]; exact w.size) hn h1 r1
 refine ⟨h2, fun α ret=>?_, x1.trans x2⟩
 rw [qau.f, qau.u1.f, e1, e2, w.chk, dT rfl]
theorem rwide_not (k:Nat) {f:Sl} {l:List Nd} (w:zde l) (hnl:NL l) (hr:Room l.length) (hk:700 + l.length≤k) (h:H) (r:NdR h f l) :
  ∃ h', (∀ (α:Type) (ret:Bool->M α), qau.f (k + 1) f ret h = ret false h') ∧ Ext h h':=by
 obtain ⟨k, rfl⟩:∃ q, k = q + 1:=⟨k - 1, by omega⟩
 obtain ⟨d, h1, e1, x1, r1⟩:=zgu k hr (by omega) h r
 have hn:=pl_NL hnl
 rcases w with w | ⟨u, u1, u2, u3, u4⟩
 ·obtain ⟨h2, e2, x2⟩:=zrn k (by omega) w hn h1 r1
  refine ⟨h2, fun α ret=>?_, x1.trans x2⟩
  rw [qau.f, qau.u1.f, e1, e2, dF (by decide)]
 ·rw [u3, ← zbm] at r1 hn
  obtain ⟨h2, e2, x2⟩:=zlt k (by omega) (t:=u.pl) u1 (by rw [yx]; exact u2) hn h1 r1
  refine ⟨h2, fun α ret=>?_, x1.trans x2⟩
  rw [qau.f, qau.u1.f, e1, e2, dF u4]
theorem zrw (k:Nat) {h:H} {s:Sl} {l:List Nd} (r:NdR h s l) (hl:l.length≤4611686018427387800):∀ (j i:Nat), i≤l.length->l.length - i < j ->
  ∀ (α:Type) (kr:Bool->M α) (kx:Sl->M α), qv.u4.l k kr kx j s (i:Int) h = if (l.drop i).any (fun n=>decide (n.kind = 5)) = true then kr false h else kx s h:=by
 intro j
 have hs:=yd r
 induction j with
 | zero=>intro i hi hj; omega
 | succ j ih=>
  intro i hi hj α kr kx
  by_cases hlt:i < l.length
  ·have hn:l[i]? = some l[i]:=List.getElem?_eq_getElem hlt
   rw [List.drop_eq_getElem_cons hlt, List.any_cons]
   generalize l[i] = n at hn
   rw [qv.u4.l, qv.u3.f, hs, dT (by omega:(i:Int) < (l.length:Int)), cond_true, zac r rfl hn]
   by_cases h5:n.kind = 5
   ·rw [dT h5, cond_true]; rfl
   ·rw [dF h5, cond_false, Bool.false_or, zw (by omega) (by omega)]
    exact ih (i + 1) (by omega) (by omega) α kr kx
  ·rw [qv.u4.l, qv.u3.f, hs, dF (by omega:¬ (i:Int) < (l.length:Int)), cond_false, List.drop_of_length_le (by omega)]
   rfl
theorem znu (k:Nat) {s:Sl} {l:List Nd} (h:H) (r:NdR h s l) (hr:Room l.length) (hk:l.length + 5≤k) (α:Type) (ret:Bool->M α) :
  qv.f (k + 1) s ret h = if l.any (fun n=>decide (n.kind = 5)) = true then ret false h else qau.f k s ret h:=by
 rw [qv.f, qv.u9.f, qv.u1.f, qv.u8.f, qv.u6.f, qv.u2.f, qv.u5.f, qv.u4.f]
 exact (zrw k r (by unfold Room at hr; omega) k 0 (Nat.zero_le _) (by omega) α _ _)
theorem zlo (k:Nat) (hk:900≤k) {f:Sl} {l:List Nd} {u:Tr} (w:Wide l u) (hnl:NL l) (h:H) (r:NdR h f l) :
  ∃ h', (∀ (α:Type) (ret:Bool->M α), qv.f (k + 1) f ret h = ret (pos5 u) h') ∧ Ext h h':=by
 obtain ⟨k, rfl⟩:∃ q, k = q + 1:=⟨k - 1, by omega⟩
 have hl:l.length≤60:=by rw [w.flat, ze]; exact w.size
 have hf:=zdk u 0 w.ok
 rw [← w.flat] at hf
 cases hp:pos5 u with
 | true=>
  obtain ⟨h1, e1, x1⟩:=zqz k w hnl (by omega) h r
  refine ⟨h1, fun α ret=>?_, x1⟩
  rw [znu (k + 1) h r (by unfold Room; omega) (by omega), hf, hp, if_neg (by decide), e1]
 | false=>
  refine ⟨h, fun α ret=>?_, Ext.refl h⟩
  rw [znu (k + 1) h r (by unfold Room; omega) (by omega), hf, hp, if_pos (by decide)]
theorem ris_not (k:Nat) {f:Sl} {l:List Nd} (w:zde l) (hnl:NL l) (hr:Room l.length) (hk:900 + l.length≤k) (h:H) (r:NdR h f l) :
  ∃ h', (∀ (α:Type) (ret:Bool->M α), qv.f (k + 1) f ret h = ret false h') ∧ Ext h h':=by
 obtain ⟨k, rfl⟩:∃ q, k = q + 1:=⟨k - 1, by omega⟩
 obtain ⟨h1, e1, x1⟩:=rwide_not k w hnl hr (by omega) h r
 by_cases hf:l.any (fun n=>decide (n.kind = 5)) = true
 ·refine ⟨h, fun α ret=>?_, Ext.refl h⟩
  rw [znu (k + 1) h r hr (by omega), if_pos hf]
 ·refine ⟨h1, fun α ret=>?_, x1⟩
  rw [znu (k + 1) h r hr (by omega), if_neg hf, e1]
theorem zsq (k:Nat) (hk:700≤k) {f:Sl} {l:List Nd} {u:Tr} (w:Wide l u) (hnl:NL l) (h:H) (r:NdR h f l) :
  ∃ s h', (∀ (α:Type) (ret:Sl->M α), qbh.f (k + 1) f ret h = ret s h') ∧ Ext h h' ∧ Rd h' s 1 (cIs (toA u.pl 0 [])):=by
 obtain ⟨k, rfl⟩:∃ q, k = q + 1:=⟨k - 1, by omega⟩
 have hl:l.length≤60:=by rw [w.flat, ze]; exact w.size
 obtain ⟨d, h1, e1, x1, r1⟩:=zgu k (by unfold Room; omega) (by omega) h r
 have hn:=pl_NL hnl
 rw [w.flat, ← zbm] at r1 hn
 obtain ⟨h2, s, e2, x2, a2, _⟩:=zny k (by omega) w.ok (by rw [yx]; exact w.size) hn h1 r1
 refine ⟨s, h2, fun α ret=>?_, x1.trans x2, a2.rd⟩
 rw [qbh.f, qbh.u1.f, e1, e2]
theorem zoa (k:Int) (n:Nat) (hn:n = 0 ∨ n = 1):((n:Int) < arF (plK k)) ↔ ((n:Int) < arF k):=by
 unfold plK
 by_cases h:k = 12
 ·subst h; rw [if_pos rfl]; rcases hn with rfl | rfl <;> decide
 ·rw [if_neg h]
theorem upL_pl:∀ (l:List Nd) (i:Nat) (out:List Int), upL (l.map plN) i out = upL l i out
 | [], i, out=>rfl
 | n :: l, i, out=>by
  rw [List.map_cons, upL, upL, upL_pl l]
  have h0:=zoa n.kind 0 (.inl rfl)
  have h1:=zoa n.kind 1 (.inr rfl)
  have e:upS out i (plN n) = upS out i n:=by
   unfold upS
   have e0:(0 < arF (plN n).kind) = (0 < arF n.kind):=propext h0
   have e1:(1 < arF (plN n).kind) = (1 < arF n.kind):=propext h1
   simp only [e0, e1]
   rfl
  rw [e]
theorem below_pl {l:List Nd} (h:Below (l.map plN)):Below l:=fun i n hi=>by
 have:=h i (plN n) (by rw [List.getElem?_map, hi]; rfl)
 exact ⟨fun q=>this.1 ((zoa n.kind 0 (.inl rfl)).2 q), fun q=>this.2 ((zoa n.kind 1 (.inr rfl)).2 q)⟩
theorem upw_run (k:Nat) (hk:200≤k) {f:Sl} {l:List Nd} {u:Tr} (w:Wide l u) (h:H) (r:NdR h f l) :
  ∃ h' s, (∀ (α:Type) (ret:Sl->M α), ql.f (k + 1) f ret h = ret s h') ∧ Mine h h' s (cIs (upA u.pl 0 (-1))):=by
 obtain ⟨k, rfl⟩:∃ q, k = q + 1:=⟨k - 1, by omega⟩
 have hs:=w.size
 have hll:=w.len
 have hfl:f.len = u.size:=by rw [yd r, hll]
 have hb:Below l:=below_pl (by rw [w.flat, ← zbm]; exact zgv w.ok)
 obtain ⟨h1, e1, o1, n1, x1⟩:=zcs (h:=h) (n:=u.size) (x:=(f.len:Int)) (y:=(f.len:Int)) (by rw [hfl]) (by rw [hfl]) (by omega)
 have m1:Mine h h1 ⟨some ⟨h.next, 0⟩, u.size, u.size, none⟩ (cIs (List.replicate 0 (-1) ++ List.replicate (l.length - 0) 0)):=⟨x1, by rw [hll]; exact o1, Nat.le_refl _⟩
 obtain ⟨h2, e2, m2⟩:=zqu r (by omega) (k + 1) (k + 1) 0 h1 (Nat.zero_le _) (by omega) m1
 obtain ⟨h3, e3, m3⟩:=zqo r hb (by omega) k (k + 1) 0 h2 _ (Nat.zero_le _) (by omega) (by simp) m2
 rw [List.drop_zero, hll, ← upL_pl, w.flat, ← zbm, ← yx, zpp u.pl w.ok] at m3
 refine ⟨h3, _, fun α ret=>?_, m3⟩
 rw [ql.f, ql.u15.f, ql.u1.f, e1, ql.u14.f, ql.u6.f, ql.u2.f, ql.u5.f, ql.u4.f]
 refine (e2 α _).trans ?_
 rw [ql.u13.f, ql.u11.f, ql.u7.f, ql.u10.f, ql.u9.f]
 refine (e3 α _).trans ?_
 rw [ql.u12.f, yx]
end Go.Ab.S5
namespace Go.Ab.S5
section
variable {u:Tr} {l:List Nd} {h₀ h:H} {up f to out w:Sl}
theorem Wide.upg (wd:Wide l u) {i:Nat} (hi:i < u.size):(upA u.pl 0 (-1))[i]? = some (upF u.pl i):=by
 have:i < (upA u.pl 0 (-1)).length:=by rw [je, yx]; exact hi
 rw [List.getElem?_eq_getElem this, upF, List.getD_eq_getElem?_getD, List.getElem?_eq_getElem this]; rfl
theorem zsc (wd:Wide l u) (ru:Rd h up 1 (cIs (upA u.pl 0 (-1)))) {b:Nat} (hb:b < u.size) (k:Nat):∀ (j i:Nat), i < u.size->u.size - i < j->∀ (α:Type) (kr:Bool->M α) (kx:M α),
  qag.u3.l k kr kx j up (i:Int) (b:Int) h = if loF u.pl b≤i ∧ i≤b then kr true h else kx h:=by
 have y:=wd.lay
 intro j
 induction j with
 | zero=>intro i hi hj; omega
 | succ j ih=>
  intro i hi hj α kr kx
  rw [qag.u3.l, qag.u2.f, dT (by omega:(0:Int)≤(i:Int)), cond_true]
  by_cases e:i = b
  ·subst e
   rw [dT rfl, cond_true, if_pos ⟨y.ll i hi, Nat.le_refl _⟩]
  rw [dF (by omega:¬ (i:Int) = (b:Int)), cond_false, jp ru rfl (wd.upg hi)]
  rcases y.u1 i hi with h1 | ⟨p, h1, h2, h3, h4⟩
  ·rw [if_neg (fun c=>by
    obtain ⟨p, g1, _⟩:=y.u2 i b (by omega) hb c.1
    omega), h1]
   obtain ⟨j, rfl⟩:∃ q, j = q + 1:=⟨j - 1, by omega⟩
   rw [qag.u3.l, qag.u2.f, dF (by omega), cond_false]
  ·rw [h1, ih p h3 (by omega)]
   by_cases c:loF u.pl b≤i ∧ i≤b
   ·obtain ⟨p', g1, g2⟩:=y.u2 i b (by omega) hb c.1
    rw [if_pos c, if_pos ⟨by omega, by omega⟩]
   ·rw [if_neg c, if_neg (fun d=>c ⟨by have:=y.nest b p hb d.1 d.2; omega, by omega⟩)]
theorem zie (wd:Wide l u) (ru:Rd h up 1 (cIs (upA u.pl 0 (-1)))) {b i:Nat} {x z:Int} (hx:x = (i:Int)) (hz:z = (b:Int)) (hb:b < u.size) (hi:i < u.size) (k:Nat) (hk:100≤k) (α:Type) (ret:Bool->M α) :
  qag.f (k + 1) up x z ret h = ret (decide (loF u.pl b≤i ∧ i≤b)) h:=by
 subst hx hz
 rw [qag.f, qag.u7.f, qag.u1.f, qag.u6.f, qag.u4.f, qag.u3.f]
 have:=wd.size
 rw [zsc wd ru hb k k i hi (by omega)]
 by_cases c:loF u.pl b≤i ∧ i≤b
 ·rw [if_pos c, decide_eq_true c]
 ·rw [if_neg c, decide_eq_false c, qag.u5.f]
theorem orU_lt {g:Nat->Nat}:∀ n, (∀ v, v < n->g v < 18446744073709551616)->orU g n < 18446744073709551616
 | 0, _=>by simp [orU]
 | n + 1, h=>Nat.or_lt_two_pow (n:=64) (orU_lt n fun v hv=>h v (by omega)) (h n (by omega))
theorem rfB_lt (wd:Wide l u) (lo n:Nat) {v:Nat} (hv:v < u.size):rfB (toF u.pl) lo n v < 18446744073709551616:=by
 have:=wd.size
 unfold rfB
 split
 ·rename_i c
  obtain ⟨j, h1, h2, h3, _⟩:=wd.lay.tb v hv c.1
  rw [h1, Int.toNat_natCast]
  exact zkk (by omega)
 ·decide
theorem zqx (wd:Wide l u) (r:NdR h f l) (ru:Rd h up 1 (cIs (upA u.pl 0 (-1)))) (rt:Rd h to 1 (cIs (toA u.pl 0 []))) {n:Nat} (hn:n < u.size) (s:Sl) (k:Nat) (hk:200≤k):∀ (j v:Nat), v≤u.size->u.size - v < j ->
  ∀ (α:Type) (kx:Sl->Sl->Sl->Sl->Int->Int->M α), qi.u7.l (k + 1) kx j f up to s (n:Int) ((orU (rfB (toF u.pl) (loF u.pl n) n) v:Nat):Int) (v:Int) h = kx f up to s (n:Int) ((frW u n:Nat):Int) h:=by
 have y:=wd.lay
 have hs:=wd.size
 have hfl:f.len = u.size:=by rw [yd r, wd.len]
 intro j
 induction j with
 | zero=>intro v hv hj; omega
 | succ j ih=>
  intro v hv hj α kx
  rw [qi.u7.l, qi.u6.f, hfl]
  by_cases hlt:v < u.size
  rotate_left
  ·have:v = u.size:=by omega
   subst this
   rw [dF (by omega:¬ (u.size:Int) < (u.size:Int)), cond_false, frF_ref y hn]
  rw [dT (by omega:(v:Int) < (u.size:Int)), cond_true, jp rt rfl (wd.to hlt)]
  have nxt:∀ x:Int, x = ((orU (rfB (toF u.pl) (loF u.pl n) n) (v + 1):Nat):Int)->qi.u7.l (k + 1) kx j f up to s (n:Int) x (w64 ((v:Int) + 1)) h = kx f up to s (n:Int) ((frW u n:Nat):Int) h:=by
   rintro x rfl
   rw [zw (by omega) (by omega)]
   exact ih (v + 1) (by omega) (by omega) α kx
  have zero:rfB (toF u.pl) (loF u.pl n) n v = 0->((orU (rfB (toF u.pl) (loF u.pl n) n) v:Nat):Int) = ((orU (rfB (toF u.pl) (loF u.pl n) n) (v + 1):Nat):Int):=fun e=>by
   rw [orU, e, Nat.or_zero]
  by_cases h0:0≤toF u.pl v
  rotate_left
  ·rw [dF h0, cond_false]
   exact nxt _ (zero (by unfold rfB; rw [if_neg (fun c=>h0 c.1)]))
  obtain ⟨t, ht, ht1, ht2, _⟩:=y.tb v hlt h0
  rw [dT h0, cond_true, zie wd ru rfl rfl hn hlt k (by omega)]
  by_cases c1:loF u.pl n≤v ∧ v≤n
  rotate_left
  ·rw [decide_eq_false c1, cond_false]
   exact nxt _ (zero (by unfold rfB; rw [if_neg (fun c=>c1 c.2.1)]))
  rw [decide_eq_true c1, cond_true, jp rt rfl (wd.to hlt), zie wd ru ht rfl hn ht2 k (by omega)]
  by_cases c2:loF u.pl n≤t ∧ t≤n
  ·rw [decide_eq_true c2, Bool.not_true, cond_false]
   exact nxt _ (zero (by unfold rfB; rw [if_neg (fun c=>c.2.2 ⟨by omega, by omega⟩)]))
  ·have hw:IntKind.wrap .u64 (toF u.pl v) = (t:Int):=by rw [ht, IntKind.wrap_u64]; omega
   rw [decide_eq_false c2, Bool.not_false, cond_true, jp rt rfl (wd.to hlt), zkh (by rw [hw, decide_eq_true_eq]; omega), sh_int hw (by omega), or_int (orU_lt v fun q hq=>rfB_lt wd _ _ (by omega)) (zkk (by omega))]
   refine nxt _ ?_
   rw [orU]
   congr 2
   unfold rfB
   rw [if_pos ⟨h0, c1, fun c=>c2 ⟨by omega, by omega⟩⟩, ht, Int.toNat_natCast]
theorem tab_snoc {β:Type} (n:Nat) (g:Nat->β):tab (n + 1) g = tab n g ++ [g n]:=by simp [tab, List.range_succ]
theorem cUs_snoc (l:List Int) (x:Int):cUs (l ++ [x]) = cUs l ++ cU x:=by simp [List.flatMap_append]
theorem us_len {s:Sl} {l:List Int} (r:Rd h s 1 (cUs l)):s.len = l.length:=slen (size:=1) (fun _=>rfl) (by decide) r
theorem zrh (wd:Wide l u) (r:NdR h₀ f l) (ru:Rd h₀ up 1 (cIs (upA u.pl 0 (-1)))) (rt:Rd h₀ to 1 (cIs (toA u.pl 0 []))) (k:Nat) (hk:200≤k):∀ (j n:Nat) (h:H) (s:Sl), n≤u.size->u.size - n < j->Ext h₀ h->App h s 1 (cUs (tab n fun v=>((frW u v:Nat):Int)))->zag h₀ s ->
  ∃ h' s', (∀ (α:Type) (kx:Sl->M α), qi.u17.l (k + 1) kx j f up to s (n:Int) h = kx s' h') ∧ Ext h₀ h' ∧ App h' s' 1 (cUs (tab u.size fun v=>((frW u v:Nat):Int))) ∧ zag h₀ s':=by
 have y:=wd.lay
 have hs:=wd.size
 have hfl:f.len = u.size:=by rw [yd r, wd.len]
 intro j
 induction j with
 | zero=>intro n h s hv hj; omega
 | succ j ih=>
  intro n h s hv hj x ap ow
  by_cases hlt:n < u.size
  rotate_left
  ·have:n = u.size:=by omega
   subst this
   refine ⟨h, s, fun α kx=>?_, x, ap, ow⟩
   rw [qi.u17.l, qi.u16.f, qi.u3.f, hfl, dF (by omega:¬ (u.size:Int) < (u.size:Int)), cond_false]
  have hsl:=us_len ap.rd
  rw [zas] at hsl
  obtain ⟨h2, e2, ap2, g2, n2, k2⟩:=zfe (bytes:=8) (more:=cU ((frW u n:Nat):Int)) ap rfl rfl (n:=1) (by decide) (by decide) (room1 _ (by omega))
  have x2:Ext h₀ h2:=by
   refine ⟨by rw [n2]; have:=x.1; omega, fun q hq=>?_⟩
   rw [k2 q (Nat.lt_of_lt_of_le hq x.1) (fun _ a ha=>by have:=ow a ha; omega)]
   exact x.2 q hq
  obtain ⟨h', s', e', x', ap', ow'⟩:=ih (n + 1) h2 _ (by omega) (by omega) x2 (by rw [tab_snoc, cUs_snoc]; exact ap2) (fun a ha=>by cases ha; show h₀.next≤h.next + 1; have:=x.1; omega)
  refine ⟨h', s', fun α kx=>?_, x', ap', ow'⟩
  have inn:=zqx wd (r.ext x) (ru.ext x) (rt.ext x) hlt s k hk (k + 1) 0 (Nat.zero_le _) (by omega) α
  rw [qi.u17.l, qi.u16.f, qi.u3.f, hfl, dT (by omega:(n:Int) < (u.size:Int)), cond_true, qi.u15.f, qi.u13.f, qi.u12.f, qi.u4.f, qi.u11.f, qi.u9.f, qi.u5.f, qi.u8.f, qi.u7.f]
  refine (inn _).trans ?_
  rw [qi.u10.f]
  refine (e2 α _).trans ?_
  rw [qi.u14.f, zw (by omega) (by omega)]
  exact e' α kx
theorem zsa (k:Nat) (hk:1000≤k) (wd:Wide l u) (hp:pos5 u = true) (hnl:NL l) (h:H) (r:NdR h f l) :
  ∃ s h', (∀ (α:Type) (ret:Sl->M α), qi.f (k + 1) f ret h = ret s h') ∧ Ext h h' ∧ App h' s 1 (cUs (tab u.size fun v=>((frW u v:Nat):Int))) ∧ zag h s:=by
 obtain ⟨k, rfl⟩:∃ q, k = q + 1:=⟨k - 1, by omega⟩
 have hs:=wd.size
 obtain ⟨h1, e1, x1⟩:=zlo k (by omega) wd hnl h r
 rw [hp] at e1
 obtain ⟨h2, up, e2, m2⟩:=upw_run k (by omega) wd h1 (r.ext x1)
 have x2:=x1.trans m2.ext
 obtain ⟨to, h3, e3, x3, rt⟩:=zsq k (by omega) wd hnl h2 (r.ext x2)
 have x13:=x2.trans x3
 obtain ⟨h', s', e', x', ap', ow'⟩:=zrh wd (r.ext x13) (m2.own.rd.ext x3) rt k (by omega) (k + 1) 0 h3 Sl.nil (Nat.zero_le _) (by omega) (Ext.refl h3) (App.nilSl _ _) (zag.nil _)
 refine ⟨s', h', fun α ret=>?_, x13.trans x', ap', fun a ha=>Nat.le_trans x13.1 (ow' a ha)⟩
 rw [qi.f, qi.u22.f, qi.u1.f, e1, Bool.not_true, cond_false, e2, e3, qi.u21.f, qi.u19.f, qi.u2.f, qi.u18.f, qi.u17.f]
 refine (e' α _).trans ?_
 rw [qi.u20.f]
end
end Go.Ab.S5
namespace Go.Ab.S5
section
variable {u:Tr} {l:List Nd} {h₀ h:H} {up f out w:Sl}
theorem shr_nat {m n:Nat} {x:Int} (hx:x = (n:Int)) (hn:n < 64):Int.fdiv (m:Int) (2 ^ (min x.toNat 64)) = ((m >>> n:Nat):Int):=by
 rw [hx, Int.toNat_natCast, Nat.min_eq_left (by omega), show ((2:Int) ^ n) = ((2 ^ n:Nat):Int) by simp, Int.fdiv_eq_ediv_of_nonneg _ (Int.natCast_nonneg _), Nat.shiftRight_eq_div_pow]
 rfl
theorem shr_bit {m n:Nat} (hm:m < 18446744073709551616) {x:Int} (hx:x = (n:Int)) (hn:n < 64):bits .and .u64 (Int.fdiv (m:Int) (2 ^ (min x.toNat 64))) 1 = (((if m.testBit n = true then 1 else 0):Nat):Int):=by
 have hle:m >>> n < 18446744073709551616:=by rw [Nat.shiftRight_eq_div_pow]; exact Nat.lt_of_le_of_lt (Nat.div_le_self ..) hm
 rw [shr_nat hx hn, show (1:Int) = ((1:Nat):Int) from rfl, and_int hle (by decide), Nat.and_one_is_mod, Nat.shiftRight_eq_div_pow, Nat.testBit_eq_decide_div_mod_eq]
 by_cases h:m / 2 ^ n % 2 = 1
 ·rw [h, decide_eq_true rfl, if_pos rfl]
 ·rw [decide_eq_false h, if_neg (by decide)]
  congr 1; omega
theorem zow (wd:Wide l u) (r:NdR h₀ f l) (ru:Rd h₀ up 1 (cIs (upA u.pl 0 (-1)))) (rw':Rd h₀ w 1 (cUs (tab u.size fun v=>((frW u v:Nat):Int)))) {n:Nat} (hn:n < u.size) {T:Nat->Int} (hT:∀ v, v < n->T v = ((rkT u v:Nat):Int)) (k:Nat) (hk:200≤k):∀ (j v:Nat) (h:H), v≤n->n - v < j->Mine h₀ h out (cIs (tab u.size T)) ->
  ∃ h', (∀ (α:Type) (kx:Sl->Sl->Sl->Sl->Int->Int->M α), qd.u7.l (k + 1) kx j f up w out (n:Int) ((lwT u v n:Nat):Int) (v:Int) h = kx f up w out (n:Int) ((lwT u n n:Nat):Int) h') ∧ Mine h₀ h' out (cIs (tab u.size T)):=by
 have y:=wd.lay
 have hs:=wd.size
 have hlen:=wd.len
 intro j
 induction j with
 | zero=>intro v h hv hj; omega
 | succ j ih=>
  intro v h hv hj m
  by_cases hlt:v < n
  rotate_left
  ·have:v = n:=by omega
   subst this
   refine ⟨h, fun α kx=>?_, m⟩
   rw [qd.u7.l, qd.u6.f, dF (by omega:¬ (v:Int) < (v:Int)), cond_false]
  have hnd:l[v]? = some l[v]:=List.getElem?_eq_getElem (by omega)
  generalize l[v] = nd at hnd
  have e:=wd.nd hnd
  have hfx:fxF u v = fixK nd.kind:=by show fixK (ndF u.pl v).kind = _; rw [e]; exact pl_fix nd.kind
  have m1:=m.push ((Ext.refl h).push (ndC nd))
  have st:∀ (α:Type) (kx:Sl->Sl->Sl->Sl->Int->Int->M α), qd.u7.l (k + 1) kx (j + 1) f up w out (n:Int) ((lwT u v n:Nat):Int) (v:Int) h =
    qd.u7.l (k + 1) kx j f up w out (n:Int) ((lwT u (v + 1) n:Nat):Int) ((v + 1:Nat):Int) (h.push (ndC nd)):=by
   intro α kx
   rw [qd.u7.l, qd.u6.f, dT (by omega:(v:Int) < (n:Int)), cond_true, zck (r.ext m.ext) rfl hnd, zcb]
   have nxt:∀ x:Int, x = ((lwT u (v + 1) n:Nat):Int)->qd.u7.l (k + 1) kx j f up w out (n:Int) x (w64 ((v:Int) + 1)) (h.push (ndC nd)) = qd.u7.l (k + 1) kx j f up w out (n:Int) ((lwT u (v + 1) n:Nat):Int) ((v + 1:Nat):Int) (h.push (ndC nd)):=by
    rintro x rfl
    rw [zw (by omega) (by omega)]
    rfl
   have zero:¬ (fxF u v = true ∧ (frW u v).testBit n = true)->((lwT u v n:Nat):Int) = ((lwT u (v + 1) n:Nat):Int):=fun c=>by
    rw [zho, if_neg c, Nat.max_eq_left (Nat.zero_le _)]
   cases hf:fixK nd.kind with
   | false=>
    rw [cond_false]
    exact nxt _ (zero (fun c=>by rw [hfx, hf] at c; exact absurd c.1 (by decide)))
   | true=>
    rw [cond_true, zie wd (ru.ext m1.ext) rfl rfl hn (by omega) k (by omega)]
    by_cases c1:loF u.pl n≤v ∧ v≤n
    rotate_left
    ·rw [decide_eq_false c1, cond_false]
     exact nxt _ (zero (fun c=>c1 (by have:=frF_in y (by omega) c.2; exact ⟨this.2.2.2.1, by omega⟩)))
    have hw:IntKind.wrap .u64 (n:Int) = (n:Int):=by rw [IntKind.wrap_u64]; omega
    rw [decide_eq_true c1, cond_true, znw (rw'.ext m1.ext) rfl (zao (by omega) _), zkh (by rw [hw, decide_eq_true_eq]; omega), shr_bit (zih y hs (by omega)) hw (by omega)]
    by_cases c2:(frW u v).testBit n = true
    rotate_left
    ·rw [if_neg c2, dF (by decide), cond_false]
     exact nxt _ (zero (fun c=>c2 c.2))
    rw [if_pos c2, dT (by decide), cond_true, jp m1.own.rd rfl (zao (by omega) _), hT v hlt]
    have hsucc:lwT u (v + 1) n = max (lwT u v n) (rkT u v):=by rw [zho, if_pos ⟨by rw [hfx, hf], c2⟩]
    by_cases c3:lwT u v n < rkT u v
    ·rw [dT (by omega:((lwT u v n:Nat):Int) < ((rkT u v:Nat):Int)), cond_true, jp m1.own.rd rfl (zao (by omega) _), hT v hlt]
     exact nxt _ (by rw [hsucc, Nat.max_eq_right (by omega)])
    ·rw [dF (by omega:¬ ((lwT u v n:Nat):Int) < ((rkT u v:Nat):Int)), cond_false]
     exact nxt _ (by rw [hsucc, Nat.max_eq_left (by omega)])
  obtain ⟨h2, e2, m2⟩:=ih (v + 1) _ (by omega) (by omega) m1
  exact ⟨h2, fun α kx=>(st α kx).trans (e2 α kx), m2⟩
theorem zpz (wd:Wide l u) (r:NdR h₀ f l) (ru:Rd h₀ up 1 (cIs (upA u.pl 0 (-1)))) (rw':Rd h₀ w 1 (cUs (tab u.size fun v=>((frW u v:Nat):Int)))) (k:Nat) (hk:200≤k):∀ (j n:Nat) (h:H), n≤u.size->u.size - n < j ->
  Mine h₀ h out (cIs (tab u.size fun v=>((if v < n then rkT u v else 0:Nat):Int))) ->
  ∃ h', (∀ (α:Type) (kx:Sl->M α), qd.u19.l (k + 1) kx j f up w out (n:Int) h = kx out h') ∧ Mine h₀ h' out (cIs (tab u.size fun v=>((rkT u v:Nat):Int))):=by
 have y:=wd.lay
 have hs:=wd.size
 have hlen:=wd.len
 have hfl:f.len = u.size:=by rw [yd r, wd.len]
 intro j
 induction j with
 | zero=>intro n h hv hj; omega
 | succ j ih=>
  intro n h hv hj m
  by_cases hlt:n < u.size
  rotate_left
  ·have:n = u.size:=by omega
   subst this
   refine ⟨h, fun α kx=>?_, ?_⟩
   ·rw [qd.u19.l, qd.u18.f, qd.u3.f, hfl, dF (by omega:¬ (u.size:Int) < (u.size:Int)), cond_false]
   ·rw [yw (g':=fun v=>((rkT u v:Nat):Int)) (fun v hv=>by rw [if_pos hv])] at m
    exact m
  have hnd:l[n]? = some l[n]:=List.getElem?_eq_getElem (by omega)
  generalize l[n] = nd at hnd
  have e:=wd.nd hnd
  have hfx:fxF u n = fixK nd.kind:=by show fixK (ndF u.pl n).kind = _; rw [e]; exact pl_fix nd.kind
  have h10:(ndF u.pl n).kind = 10 ↔ nd.kind = 10:=by rw [e]; show plK nd.kind = 10 ↔ _; unfold plK; split <;> omega
  have m1:=m.push ((Ext.refl h).push (ndC nd))
  have key:∃ h1, (∀ (α:Type) (kx:Sl->M α), qd.u19.l (k + 1) kx (j + 1) f up w out (n:Int) h = qd.u19.l (k + 1) kx j f up w out ((n + 1:Nat):Int) h1) ∧
    Mine h₀ h1 out (cIs (tab u.size fun v=>((if v < n + 1 then rkT u v else 0:Nat):Int))):=by
   cases hf:fixK nd.kind with
   | false=>
    have hr0:rkT u n = 0:=by rw [rkT, zlw, if_neg (by rw [show fixK (ndF u.pl n).kind = fxF u n from rfl, hfx, hf]; decide)]
    refine ⟨h.push (ndC nd), fun α kx=>?_, ?_⟩
    ·rw [qd.u19.l, qd.u18.f, qd.u3.f, hfl, dT (by omega:(n:Int) < (u.size:Int)), cond_true, qd.u17.f, qd.u15.f, qd.u14.f, qd.u4.f, zck (r.ext m.ext) rfl hnd, zcb, hf, Bool.not_false, cond_true, qd.u16.f, zw (by omega) (by omega)]
     rfl
    ·rw [yw (g:=fun v=>((if v < n + 1 then rkT u v else 0:Nat):Int)) (g':=fun v=>((if v < n then rkT u v else 0:Nat):Int)) (fun v hv=>by
      by_cases e:v = n
      ·subst e; rw [if_pos (show v < v + 1 by omega), if_neg (show ¬ v < v by omega), hr0]
      ·by_cases h2:v < n
       ·rw [if_pos (show v < n + 1 by omega), if_pos h2]
       ·rw [if_neg (show ¬ v < n + 1 by omega), if_neg h2])]
     exact m1
   | true=>
    have hrk:rkT u n = adj (lwT u n n) (if nd.kind = 10 then 1 else 0):=by
     rw [rkT, zlw, if_pos (by rw [show fixK (ndF u.pl n).kind = fxF u n from rfl, hfx, hf])]
     by_cases h:nd.kind = 10
     ·rw [if_pos (h10.2 h), if_pos h]
     ·rw [if_neg (fun q=>h (h10.1 q)), if_neg h]
    obtain ⟨h2, e2, m2⟩:=zow wd r ru rw' hlt (fun v hv=>by rw [if_pos hv]) k hk (k + 1) 0 _ (Nat.zero_le _) (by omega) m1
    obtain ⟨h3, e3, m3, _⟩:=m2.st (x:=(n:Int)) (i:=n) ((adj (lwT u n n) (if nd.kind = 10 then 1 else 0):Nat):Int) rfl (by rw [zas]; exact hlt)
    rw [zib, ← hrk, yw (g':=fun v=>((if v < n + 1 then rkT u v else 0:Nat):Int)) (fun v hv=>by
      by_cases e:v = n
      ·subst e; rw [if_pos rfl, if_pos (show v < v + 1 by omega)]
      ·by_cases h2:v < n
       ·rw [if_neg e, if_pos h2, if_pos (show v < n + 1 by omega)]
       ·rw [if_neg e, if_neg h2, if_neg (show ¬ v < n + 1 by omega)])] at m3
    refine ⟨h3, fun α kx=>?_, m3⟩
    have hle:=lwT_le u n n
    rw [qd.u19.l, qd.u18.f, qd.u3.f, hfl, dT (by omega:(n:Int) < (u.size:Int)), cond_true, qd.u17.f, qd.u15.f, qd.u14.f, qd.u4.f, zck (r.ext m.ext) rfl hnd, zcb, hf, Bool.not_true, cond_false, qd.u13.f, qd.u9.f, qd.u5.f, qd.u8.f, qd.u7.f]
    refine (e2 α _).trans ?_
    rw [qd.u12.f, qd.u10.f, zac (r.ext m2.ext) rfl hnd]
    have fin:∀ o:Nat, o = (if nd.kind = 10 then 1 else 0)->qd.u11.f (k + 1) f up w out (n:Int) ((lwT u n n:Nat):Int) (o:Int) (fun y0 y1 y2 y3 y4=>qd.u16.f (k + 1) y0 y1 y2 y3 y4 (fun y0 y1 y2 y3 y4=>qd.u19.l (k + 1) kx j y0 y1 y2 y3 y4)) h2 = qd.u19.l (k + 1) kx j f up w out ((n + 1:Nat):Int) h3:=by
     intro o ho
     rw [← ho] at e3
     have ho1:o≤1:=by rw [ho]; split <;> omega
     have fe:∀ K, idxSl out (n:Int) 1 (fun a=>st1 (a.add 0) (.int .i64 ((adj (lwT u n n) o:Nat):Int)) K) h2 = K h3:=fun K=>e3 α K
     rw [qd.u11.f, show Int.tmod ((lwT u n n:Nat):Int) 2 = ((lwT u n n % 2:Nat):Int) from rfl]
     by_cases c:lwT u n n % 2 = o
     ·have ha:adj (lwT u n n) o = lwT u n n:=by unfold adj; omega
      rw [ha] at fe
      rw [decide_eq_true (show ((lwT u n n % 2:Nat):Int) = (o:Int) by omega), Bool.not_true, cond_false]
      refine (fe _).trans ?_
      rw [qd.u16.f, zw (by omega) (by omega)]
      rfl
     ·have ha:adj (lwT u n n) o = lwT u n n + 1:=by unfold adj; omega
      rw [ha] at fe
      rw [decide_eq_false (show ¬ ((lwT u n n % 2:Nat):Int) = (o:Int) by omega), Bool.not_false, cond_true, zw (by omega) (by omega)]
      refine (fe _).trans ?_
      rw [qd.u16.f, zw (by omega) (by omega)]
      rfl
    by_cases hh:nd.kind = 10
    ·rw [dT hh, cond_true]
     exact fin 1 (by rw [if_pos hh])
    ·rw [dF hh, cond_false]
     exact fin 0 (by rw [if_neg hh])
  obtain ⟨h1, e1, m1⟩:=key
  obtain ⟨h2, e2, m2⟩:=ih (n + 1) h1 (by omega) (by omega) m1
  exact ⟨h2, fun α kx=>(e1 α kx).trans (e2 α kx), m2⟩
theorem zqg (k:Nat) (hk:1100≤k) (wd:Wide l u) (hp:pos5 u = true) (hnl:NL l) (h:H) (r:NdR h f l) :
  ∃ s h', (∀ (α:Type) (ret:Sl->M α), qd.f (k + 1) f ret h = ret s h') ∧ Ext h h' ∧ Rd h' s 1 (cIs (tab u.size fun v=>((rkT u v:Nat):Int))):=by
 obtain ⟨k, rfl⟩:∃ q, k = q + 1:=⟨k - 1, by omega⟩
 have hs:=wd.size
 have hfl:f.len = u.size:=by rw [yd r, wd.len]
 obtain ⟨h1, e1, x1⟩:=zlo k (by omega) wd hnl h r
 rw [hp] at e1
 obtain ⟨h2, up, e2, m2⟩:=upw_run k (by omega) wd h1 (r.ext x1)
 have x2:=x1.trans m2.ext
 obtain ⟨w, h3, e3, x3, a3, _⟩:=zsa k (by omega) wd hp hnl h2 (r.ext x2)
 have x13:=x2.trans x3
 obtain ⟨h4, e4, o4, n4, x4⟩:=zcs (h:=h3) (n:=u.size) (x:=(f.len:Int)) (y:=(f.len:Int)) (by rw [hfl]) (by rw [hfl]) (by omega)
 rw [zor] at o4
 obtain ⟨h5, e5, m5⟩:=zpz (out:=⟨some ⟨h3.next, 0⟩, u.size, u.size, none⟩) wd (r.ext x13) (m2.own.rd.ext x3) a3.rd k (by omega) (k + 1) 0 h4 (Nat.zero_le _) (by omega) ⟨x4, o4, Nat.le_refl _⟩
 refine ⟨_, h5, fun α ret=>?_, x13.trans m5.ext, m5.own.rd⟩
 rw [qd.f, qd.u24.f, qd.u1.f, e1, Bool.not_true, cond_false, e2, e3, e4, qd.u23.f, qd.u21.f, qd.u2.f, qd.u20.f, qd.u19.f]
 refine (e5 α _).trans ?_
 rw [qd.u22.f]
theorem zsl (k:Nat) (hn:zde l ∨ ∃ u, Wide l u ∧ pos5 u = false) (hnl:NL l) (hr:Room l.length) (hk:1000 + l.length≤k) (h:H) (r:NdR h f l) :
  ∃ h', (∀ (α:Type) (ret:Sl->M α), qd.f (k + 1) f ret h = ret Sl.nil h') ∧ Ext h h':=by
 obtain ⟨k, rfl⟩:∃ q, k = q + 1:=⟨k - 1, by omega⟩
 obtain ⟨h1, e1, x1⟩:∃ h', (∀ (α:Type) (ret:Bool->M α), qv.f (k + 1) f ret h = ret false h') ∧ Ext h h':=by
  rcases hn with w | ⟨u, w, hp⟩
  ·exact ris_not k w hnl hr (by omega) h r
  ·obtain ⟨h1, e1, x1⟩:=zlo k (by omega) w hnl h r
   rw [hp] at e1
   exact ⟨h1, e1, x1⟩
 refine ⟨h1, fun α ret=>?_, x1⟩
 rw [qd.f, qd.u24.f, qd.u1.f, e1]
 rfl
end
end Go.Ab.S5
namespace Go.Ab.S5
def ty1:Tr:=.un 11 [88] 0 (.un 10 [89] 6 (.bin 7 [] 21 (.bin 6 [] 17 (.un 8 [97] 12 (.leaf 4 [88] 15)) (.leaf 3 [112] 19)) (.un 8 [97] 23 (.leaf 4 [89] 26))))
theorem py1:parseF [110, 117, 32, 88, 46, 32, 109, 117, 32, 89, 46, 32, 60, 97, 62, 88, 32, 38, 32, 112, 32, 124, 32, 60, 97, 62, 89] = .ok (ty1.flat 0):=by kernel_rfl
theorem wy1:Wide (ty1.flat 0) ty1:=⟨by decide, by decide, rfl, by decide⟩
theorem fy1:frW ty1 7 = 256:=by kernel_rfl
theorem ry1:rkT ty1 7 = 1:=by kernel_rfl
theorem ry2:rkT ty1 8 = 2:=by kernel_rfl
theorem zrx (k:Nat) (hk:4000000≤k) (h:H):∃ h', (∀ (α:Type) (ret:Bool->M α), qbl.f (k + 1) ret h = ret true h') ∧ Ext h h':=by
 obtain ⟨k, rfl⟩:∃ q, k = q + 1:=⟨k - 1, by omega⟩
 have a1:=parse_run k (by omega) [110, 117, 32, 88, 46, 32, 109, 117, 32, 89, 46, 32, 60, 97, 62, 88, 32, 38, 32, 112, 32, 124, 32, 60, 97, 62, 89] h
 rw [py1] at a1
 obtain ⟨h1, s1, e1, x1, p1, _⟩:=a1
 obtain ⟨w, h2, e2, m2⟩:=znm k (by omega) wy1 (by decide) h1 p1.rd
 obtain ⟨r, h3, e3, m3⟩:=zld k (by omega) wy1 (by decide) p1.fine h2 (p1.rd.ext m2.ext)
 refine ⟨h3, fun α ret=>?_, (x1.trans m2.ext).trans m3.ext⟩
 have rw':=m2.own.rd.ext m3.ext
 have hw:w.len = 9:=by rw [us_len rw', zas]; rfl
 have hr:r.len = 9:=by rw [zba m3.own.rd, zas]; rfl
 rw [qbl.f, qbl.u1.f, e1, e2, e3, zis, cond_true, hw, dT (by decide:((9:Nat):Int) = 9), cond_true, znw rw' (x:=7) (i:=7) rfl (zao (by decide) _), fy1, dT (by decide:((256:Nat):Int) = 256), cond_true, hr, dT (by decide:((9:Nat):Int) = 9), cond_true,
  jp m3.own.rd (x:=7) (i:=7) rfl (zao (by decide) _), ry1, dT (by decide:((1:Nat):Int) = 1), cond_true, jp m3.own.rd (x:=8) (i:=8) rfl (zao (by decide) _), ry2, dT (by decide:((2:Nat):Int) = 2)]
theorem pos_or (l:List Nd):(∃ u, Wide l u ∧ pos5 u = true) ∨ (zde l ∨ ∃ u, Wide l u ∧ pos5 u = false):=by
 rcases wide_or l with ⟨u, w⟩ | w
 ·cases hp:pos5 u with
  | true=>exact .inl ⟨u, w, hp⟩
  | false=>exact .inr (.inr ⟨u, w, hp⟩)
 ·exact .inr (.inl w)
end Go.Ab.S5
namespace Go.Ab.S5
section
variable {u:Tr} {l:List Nd} {h₀ h:H} {f w s o:Sl}
theorem dec5 (n:Nd):(decide (n.kind = n.kind) && (decide (n.a = n.a) && (decide (n.b = n.b) && (decide (n.name = n.name) && (decide (n.pos = n.pos) && true))))) = true:=by simp
theorem zqn (wd:Wide l u) (r:NdR h₀ f l) (ro:NdR h₀ o (l ++ [⟨-7, 0, 0, [], 0⟩])) (rw':Rd h₀ w 1 (cIs (tab u.size fun v=>((rkT u v:Nat):Int)))) (t:Int) (k:Nat):∀ (j i:Nat) (h:H), i≤u.size->u.size - i < j ->
  Mine h₀ h s (cIs (tab u.size fun v=>if v < i then -5 else ((rkT u v:Nat):Int))) ->
  ∃ h', (∀ (α:Type) (kr:Bool->M α) (kx:Sl->Bool->Sl->Sl->Int->M α), qj.u6.l k kr kx j f true w o t s (i:Int) h = kx f true w o t h') ∧ Ext h₀ h':=by
 have hs:=wd.size
 have hlen:=wd.len
 intro j
 induction j with
 | zero=>intro i h hi hj; omega
 | succ j ih=>
  intro i h hi hj m
  have hsl:s.len = u.size:=by rw [zba m.own.rd, zas]
  by_cases hlt:i < u.size
  rotate_left
  ·refine ⟨h, fun α kr kx=>?_, m.ext⟩
   rw [qj.u6.l, qj.u5.f, hsl, dF (by omega:¬ (i:Int) < (u.size:Int)), cond_false]
  obtain ⟨h1, e1, m1, _⟩:=m.st (x:=(i:Int)) (i:=i) (-5) rfl (by rw [zas]; exact hlt)
  rw [zib, yw (g':=fun v=>if v < i + 1 then -5 else ((rkT u v:Nat):Int)) (fun v hv=>by
   by_cases e:v = i
   ·subst e; rw [if_pos rfl, if_pos (show v < v + 1 by omega)]
   ·by_cases h2:v < i
    ·rw [if_neg e, if_pos h2, if_pos (show v < i + 1 by omega)]
    ·rw [if_neg e, if_neg h2, if_neg (show ¬ v < i + 1 by omega)])] at m1
  obtain ⟨h2, e2, x2⟩:=ih (i + 1) h1 (by omega) (by omega) m1
  refine ⟨h2, fun α kr kx=>?_, x2⟩
  have hg:(tab u.size fun v=>if v < i then -5 else ((rkT u v:Nat):Int))[i]? = some ((rkT u i:Nat):Int):=by rw [zao hlt, if_neg (by omega)]
  have hn:l[i]? = some l[i]:=List.getElem?_eq_getElem (by omega)
  generalize l[i] = n at hn
  have hno:(l ++ [⟨-7, 0, 0, [], 0⟩])[i]? = some n:=by rw [List.getElem?_append_left (by omega)]; exact hn
  rw [qj.u6.l, qj.u5.f, hsl, dT (by omega:(i:Int) < (u.size:Int)), cond_true, jp m.own.rd rfl hg, jp (rw'.ext m.ext) rfl (zao hlt _), dT rfl, Bool.not_true, cond_false, zck (ro.ext m.ext) rfl hno, zck (r.ext m.ext) rfl hn, dec5, Bool.not_true, cond_false]
  refine (e1 α _).trans ?_
  rw [zw (by omega) (by omega)]
  exact e2 α kr kx
end
theorem RankRanks_law {f:Sl} {l:List Nd} {h:H} (r:NdR h f l) (hnl:NL l) (hr:Room l.length) (hf:f.fine 5):∃ k h', ∀ (α:Type) (ret:Bool->M α), qj.f (k + 1) f ret h = ret true h':=by
 obtain ⟨k, hk1, hk2⟩:∃ k, 4000000≤k ∧ l.length + 2000≤k:=⟨4002000 + l.length, by omega, by omega⟩
 refine ⟨k + 1, ?_⟩
 obtain ⟨h1, e1, x1⟩:=zrx k hk1 h
 have hfl:=yd r
 have round:∃ w h2, (∀ (α:Type) (ret:Sl->M α), qd.f (k + 1) f ret h1 = ret w h2) ∧ Ext h1 h2 ∧
   ∀ (o:Sl) (h3:H) (t:Int), Ext h2 h3->NdR h3 o (l ++ [⟨-7, 0, 0, [], 0⟩])->o.fine 5->0≤t->t≤5->∃ h4, Ext h3 h4 ∧ ∀ (α:Type) (kn:Sl->Bool->Sl->Sl->Int->M α) (kr:Bool->M α), qj.u11.f (k + 1) f true w o t kn kr h3 = kn f true w o (t + 1) h4:=by
  have cut:∀ (o:Sl) (h3:H), NdR h3 o (l ++ [⟨-7, 0, 0, [], 0⟩])->o.fine 5->NdR h3 ⟨o.ad, l.length, o.cap, o.loose⟩ l ∧ (⟨o.ad, l.length, o.cap, o.loose⟩:Sl).fine 5 ∧ ∀ (α:Type) (K:Sl->M α), cutSl o 5 none (some (f.len:Int)) none K h3 = K ⟨o.ad, l.length, o.cap, o.loose⟩ h3:=by
   intro o h3 ro fo
   have hol:=yd ro
   rw [List.length_append, List.length_singleton] at hol
   have hc:=fo.1
   have h5:=ro.to l.length o.cap o.loose (by omega)
   rw [zbn Nd.len, List.take_left' rfl] at h5
   exact ⟨h5, ⟨by show l.length≤o.cap; omega, fo.2⟩, fun α K=>zft fo (by rw [hfl]) (by omega) K⟩
  rcases pos_or l with ⟨u, wd, hp⟩ | hn
  ·obtain ⟨w, h2, e2, x2, a2⟩:=zqg k (by omega) wd hp hnl h1 (r.ext x1)
   refine ⟨w, h2, e2, x2, fun o h3 t x3 ro fo t0 t5=>?_⟩
   have hs:=wd.size
   obtain ⟨rc, fc, ec⟩:=cut o h3 ro fo
   obtain ⟨s, h4, e4, m4⟩:=zld k (by omega) wd hp fc h3 rc
   obtain ⟨h5, e5, x5⟩:=zqn (h₀:=h3) (f:=f) (s:=s) (w:=w) (o:=o) wd (r.ext ((x1.trans x2).trans x3)) ro (a2.ext x3) t (k + 1) (k + 1) 0 h4 (Nat.zero_le _) (by omega) (by
    rw [yw (g':=fun v=>((rkT u v:Nat):Int)) (fun v hv=>if_neg (by omega))]; exact m4)
   refine ⟨h5, x5, fun α kn kr=>?_⟩
   have l1:s.len = u.size:=by rw [zba m4.own.rd, zas]
   have l2:w.len = u.size:=by rw [zba a2, zas]
   rw [qj.u11.f, qj.u9.f, qj.u8.f, qj.u4.f, ec, e4, Bool.not_true, cond_false, l1, l2, dT rfl, Bool.not_true, cond_false, qj.u7.f, qj.u6.f]
   refine (e5 α _ _).trans ?_
   rw [qj.u10.f, zw (by omega) (by omega)]
  ·obtain ⟨h2, e2, x2⟩:=zsl k hn hnl hr (by omega) h1 (r.ext x1)
   refine ⟨Sl.nil, h2, e2, x2, fun o h3 t x3 ro fo t0 t5=>?_⟩
   obtain ⟨rc, fc, ec⟩:=cut o h3 ro fo
   obtain ⟨s, h4, e4, x4, l4⟩:=ranks_not k hn hr (by omega) fc h3 rc
   refine ⟨h4, x4, fun α kn kr=>?_⟩
   rw [qj.u11.f, qj.u9.f, qj.u8.f, qj.u4.f, ec, e4, Bool.not_true, cond_false, l4, dT (show ((0:Nat):Int) = (Sl.nil.len:Int) from rfl), Bool.not_true, cond_false, qj.u7.f, qj.u6.f, qj.u6.l, qj.u5.f, l4, dF (by decide:¬ ((0:Int) < ((0:Nat):Int))), cond_false, qj.u10.f, zw (by omega) (by omega)]
 obtain ⟨w, h2, e2, x2, rd⟩:=round
 -- o
 have r2:=(r.ext x1).ext x2
 obtain ⟨o1, h3, e3, a3, x3, ow3, lo3, ad3⟩:=zqr (bytes:=48) r2 (by decide) (by decide) (by rw [hfl]; exact room_a hr)
 have hlen3:o1.len = l.length:=yd a3.rd
 obtain ⟨h4, e4, a4, g4, n4, k4⟩:=zfe (bytes:=48) (more:=Nd.cells ⟨-7, 0, 0, [], 0⟩) a3 rfl rfl (n:=1) (by decide) (by decide) (by rw [hlen3]; exact room_b hr)
 have x4:Ext h2 h4:=by
  refine ⟨by rw [n4]; have:=x3.1; omega, fun q hq=>?_⟩
  rw [k4 q (Nat.lt_of_lt_of_le hq x3.1) (fun _ a ha=>by have:=ow3 a ha; omega)]
  exact x3.2 q hq
 have ro:NdR h4 ⟨some ⟨h3.next + 1, 0⟩, o1.len + 1, o1.len + 1, some 5⟩ (l ++ [⟨-7, 0, 0, [], 0⟩]):=by
  have:=a4.rd
  rw [show cN l ++ Nd.cells ⟨-7, 0, 0, [], 0⟩ = cN (l ++ [⟨-7, 0, 0, [], 0⟩]) by simp [List.flatMap_append]] at this
  exact this
 have fo:(⟨some ⟨h3.next + 1, 0⟩, o1.len + 1, o1.len + 1, some 5⟩:Sl).fine 5:=a4.fine
 generalize (⟨some ⟨h3.next + 1, 0⟩, o1.len + 1, o1.len + 1, some 5⟩:Sl) = o at e4 ro fo
 obtain ⟨h5, x5, e5⟩:=rd o h4 0 x4 ro fo (by decide) (by decide)
 obtain ⟨h6, x6, e6⟩:=rd o h5 1 (x4.trans x5) (ro.ext x5) fo (by decide) (by decide)
 refine ⟨h6, fun α ret=>?_⟩
 obtain ⟨k2, rfl⟩:∃ q, k = q + 2:=⟨k - 2, by omega⟩
 have hlast:(l ++ [⟨-7, 0, 0, [], 0⟩])[l.length]? = some (⟨-7, 0, 0, [], 0⟩:Nd):=by simp
 rw [qj.f, qj.u18.f, qj.u1.f, e1, e2, e3]
 refine (e4 α _).trans ?_
 rw [qj.u17.f, qj.u15.f, qj.u2.f, qj.u14.f, qj.u13.f]
 rw [qj.u13.l, qj.u12.f, qj.u3.f, dT (by decide), cond_true, e5]
 rw [qj.u13.l, qj.u12.f, qj.u3.f, dT (by decide), cond_true]
 refine (e6 α _ _).trans ?_
 rw [qj.u13.l, qj.u12.f, qj.u3.f, dF (by decide), cond_false, qj.u16.f, zac (ro.ext (x5.trans x6)) (by rw [hfl]) hlast]
 rfl
end Go.Ab.S5
