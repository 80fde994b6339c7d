import Derived.Test.YtmanohnlcedeaaaS7nl
import Derived.Test.YtmanohnlcedeaaaS7q
set_option linter.unusedVariables false
set_option linter.unusedSimpArgs false
namespace Go.Ab.S7
section
variable {h:H}
theorem copy_own {x:Sl} {l:List Nd} (r:NdR h x l) (hr:Room l.length) :
  ∃ d h', (∀ (α:Type) (K:Sl->M α), new [] (fun a=>zq ⟨some a, 0, 0, none⟩ 5 48 x K) h = K d h') ∧ Ext h h' ∧ NdR h' d l ∧ (l ≠ []->Own h' d 5 (cN l)) ∧ zah h d:=by
 have hlen:=jv r
 have x1:Ext h (h.push (.cells [] true)):=(Ext.refl h).push _
 have hg:(h.push (.cells [] true)).get h.next = some (.cells [] true):=by rw [zk, if_pos rfl]
 have ap:App (h.push (.cells [] true)) ⟨some ⟨h.next, 0⟩, 0, 0, none⟩ 5 []:=⟨Rd.pushed h (by simp), fun ha=>(by cases ha), .inl ⟨rfl, rfl⟩⟩
 by_cases h0:x.len = 0
 ·have hl:l = []:=List.eq_nil_of_length_eq_zero (by rw [← hlen]; exact h0)
  subst hl
  refine ⟨⟨some ⟨h.next, 0⟩, 0, 0, none⟩, h.push (.cells [] true), fun α K=>?_, x1, ap.rd, fun h=>absurd rfl h, fun a ha=>by cases ha; exact Nat.le_refl _⟩
  rw [jk rfl]
  exact zhj ap (r.ext x1) h0 K (fun _ a ha=>by cases ha; exact ⟨hg, rfl, rfl⟩)
 ·obtain ⟨h', e, ap', g, kp⟩:=zea (bytes:=48) ap (r.ext x1) (by omega) (by decide) (by rw [hlen]; exact room_n hr)
  rw [List.nil_append] at ap' g
  refine ⟨_, h', fun α K=>?_, kp.ext x1 (fun a ha=>by cases ha; exact Nat.le_refl _), ap'.rd, fun _=>⟨ap'.rd.len, _, [], rfl, by rw [List.append_nil]; exact g, by rw [kp.1]; exact Nat.lt_succ_self _⟩, fun a ha=>by cases ha; show h.next≤h.next + 1; omega⟩
  rw [jk rfl]
  exact e α K
end
theorem zpx (k:Nat) {s:Sl} {l:List Nd} (hl:l.length≤4611686018427387800) (hs:s.len = l.length):∀ (j i:Nat) (h:H), i≤l.length->l.length - i < j->Own h s 5 (cN ((l.take i).map plN ++ l.drop i)) ->
  ∃ h', (∀ (α:Type) (kx:Sl->M α), qp.u4.l k kx j s (i:Int) h = kx s h') ∧ Own h' s 5 (cN (l.map plN)) ∧ h'.next = h.next ∧ ∀ i, i ≠ s.id->h'.get i = h.get i:=by
 intro j
 induction j with
 | zero=>intro i h hi hj; omega
 | succ j ih=>
  intro i h hi hj o
  by_cases hlt:i < l.length
  ·have hn:l[i]? = some l[i]:=List.getElem?_eq_getElem hlt
   generalize l[i] = n at hn
   have hg:=plN_get hn
   by_cases h12:n.kind = 12
   ·obtain ⟨h1, e1, o1, n1, g1⟩:=nd_stk o hg 3
    have:({ n with kind:=3 }:Nd) = plN n:=by unfold plN plK; rw [if_pos h12]
    rw [this, zka hn] at o1
    obtain ⟨h2, e2, o2, n2, g2⟩:=ih (i + 1) h1 (by omega) (by omega) o1
    refine ⟨h2, fun α kx=>?_, o2, by omega, fun i hi=>by rw [g2 i hi, g1 i hi]⟩
    rw [qp.u4.l, qp.u3.f, hs, dT (by omega:(i:Int) < (l.length:Int)), cond_true, zam o.rd rfl hg, dT h12, cond_true]
    refine (e1 α _).trans ?_
    rw [zw (by omega) (by omega)]
    exact e2 α kx
   ·have:plN n = n:=by unfold plN plK; rw [if_neg h12]
    have o1:=o
    have e0:=zka hn
    rw [this, show ((l.take i).map plN ++ l.drop i).set i n = (l.take i).map plN ++ l.drop i by
     have hlt':=yu hg
     rw [List.getElem?_eq_getElem hlt'] at hg
     rw [← Option.some.inj hg]; exact List.set_getElem_self hlt'] at e0
    rw [e0] at o1
    obtain ⟨h2, e2, o2, n2, g2⟩:=ih (i + 1) h (by omega) (by omega) o1
    refine ⟨h2, fun α kx=>?_, o2, n2, g2⟩
    rw [qp.u4.l, qp.u3.f, hs, dT (by omega:(i:Int) < (l.length:Int)), cond_true, zam o.rd rfl hg, dF h12, cond_false, zw (by omega) (by omega)]
    exact e2 α kx
  ·refine ⟨h, fun α kx=>?_, ?_, rfl, fun _ _=>rfl⟩
   ·rw [qp.u4.l, qp.u3.f, hs, dF (by omega:¬ (i:Int) < (l.length:Int)), cond_false]
   ·rw [List.take_of_length_le (by omega), List.drop_of_length_le (by omega), List.append_nil] at o
    exact o
theorem pl_NL {l:List Nd} (hnl:NL l):NL (l.map plN):=fun i n hi=>by
 rw [List.getElem?_map] at hi
 cases hx:l[i]? with
 | none=>rw [hx] at hi; cases hi
 | some m=>rw [hx] at hi; cases hi; exact hnl i m hx
theorem zla (k:Nat) {f:Sl} {l:List Nd} (hr:Room l.length) (hk:10 + l.length≤k) (h:H) (r:NdR h f l) :
  ∃ d h', (∀ (α:Type) (ret:Sl->M α), qp.f (k + 1) f ret h = ret d h') ∧ Ext h h' ∧ NdR h' d (l.map plN):=by
 obtain ⟨d, h1, e1, x1, r1, o1, w1⟩:=copy_own r hr
 have hd:=jv r1
 have st:∀ (α:Type) (ret:Sl->M α), qp.f (k + 1) f ret h = qp.u4.l k (fun y0=>qp.u7.f k y0 ret) k d ((0:Nat):Int) h1:=by
  intro α ret
  rw [qp.f, qp.u9.f, qp.u1.f, e1, qp.u8.f, qp.u6.f, qp.u2.f, qp.u5.f, qp.u4.f]
  rfl
 by_cases h0:l = []
 ·subst h0
  obtain ⟨k, rfl⟩:∃ q, k = q + 1:=⟨k - 1, by omega⟩
  refine ⟨d, h1, fun α ret=>?_, x1, r1⟩
  rw [st, qp.u4.l, qp.u3.f, hd]
  rfl
 ·obtain ⟨h2, e2, o2, n2, g2⟩:=zpx k (by unfold Room at hr; omega) hd k 0 h1 (Nat.zero_le _) (by omega) (o1 h0)
  have hid:h.next≤d.id:=by
   obtain ⟨id, more, q1, q2, q3⟩:=(o1 h0).blk
   unfold Sl.id
   rw [q1]
   exact w1 _ q1
  refine ⟨d, h2, fun α ret=>?_, ⟨by have:=x1.1; omega, fun i hi=>?_⟩, o2.rd⟩
  ·rw [st, e2, qp.u7.f]
  ·rw [g2 i (by omega)]; exact x1.2 i hi
theorem zlx (k:Nat) {f:Sl} {l:List Nd} {u:Tr} (w:Wide l u) (hnl:NL l) (hk:700≤k) (h:H) (r:NdR h f l) :
  ∃ h', (∀ (α:Type) (ret:Bool->M α), qal.f (k + 1) f ret h = ret true h') ∧ Ext h h':=by
 obtain ⟨k, rfl⟩:∃ q, k = q + 1:=⟨k - 1, by omega⟩
 have hl:l.length≤60:=by rw [w.flat, zd]; exact w.size
 obtain ⟨d, h1, e1, x1, r1⟩:=zla k (by unfold Room; omega) (by omega) h r
 have hn:=pl_NL hnl
 rw [w.flat, ← zey] at r1 hn
 obtain ⟨h2, e2, x2⟩:=zko k (by omega) (t:=u.pl) w.ok (by rw [zbn]; exact w.size) hn h1 r1
 refine ⟨h2, fun α ret=>?_, x1.trans x2⟩
 rw [qal.f, qal.u1.f, e1, e2, w.chk, dT rfl]
theorem znf (k:Nat) {f:Sl} {l:List Nd} (w:zdz l) (hnl:NL l) (hr:Room l.length) (hk:700 + l.length≤k) (h:H) (r:NdR h f l) :
  ∃ h', (∀ (α:Type) (ret:Bool->M α), qal.f (k + 1) f ret h = ret false h') ∧ Ext h h':=by
 obtain ⟨k, rfl⟩:∃ q, k = q + 1:=⟨k - 1, by omega⟩
 obtain ⟨d, h1, e1, x1, r1⟩:=zla k hr (by omega) h r
 have hn:=pl_NL hnl
 rcases w with w | ⟨u, u1, u2, u3, u4⟩
 ·obtain ⟨h2, e2, x2⟩:=zqx k (by omega) w hn h1 r1
  refine ⟨h2, fun α ret=>?_, x1.trans x2⟩
  rw [qal.f, qal.u1.f, e1, e2, dF (by decide)]
 ·rw [u3, ← zey] at r1 hn
  obtain ⟨h2, e2, x2⟩:=zko k (by omega) (t:=u.pl) u1 (by rw [zbn]; exact u2) hn h1 r1
  refine ⟨h2, fun α ret=>?_, x1.trans x2⟩
  rw [qal.f, qal.u1.f, e1, e2, dF u4]
theorem zrx (k:Nat) {h:H} {s:Sl} {l:List Nd} (r:NdR h s l) (hl:l.length≤4611686018427387800):∀ (j i:Nat), i≤l.length->l.length - i < j ->
  ∀ (α:Type) (kr:Bool->M α) (kx:Sl->M α), qw.u4.l k kr kx j s (i:Int) h = if (l.drop i).any (fun n=>decide (n.kind = 5)) = true then kr false h else kx s h:=by
 intro j
 have hs:=jv r
 induction j with
 | zero=>intro i hi hj; omega
 | succ j ih=>
  intro i hi hj α kr kx
  by_cases hlt:i < l.length
  ·have hn:l[i]? = some l[i]:=List.getElem?_eq_getElem hlt
   rw [List.drop_eq_getElem_cons hlt, List.any_cons]
   generalize l[i] = n at hn
   rw [qw.u4.l, qw.u3.f, hs, dT (by omega:(i:Int) < (l.length:Int)), cond_true, zam r rfl hn]
   by_cases h5:n.kind = 5
   ·rw [dT h5, cond_true]; rfl
   ·rw [dF h5, cond_false, Bool.false_or, zw (by omega) (by omega)]
    exact ih (i + 1) (by omega) (by omega) α kr kx
  ·rw [qw.u4.l, qw.u3.f, hs, dF (by omega:¬ (i:Int) < (l.length:Int)), cond_false, List.drop_of_length_le (by omega)]
   rfl
theorem zoo (k:Nat) {s:Sl} {l:List Nd} (h:H) (r:NdR h s l) (hr:Room l.length) (hk:l.length + 5≤k) (α:Type) (ret:Bool->M α) :
  qw.f (k + 1) s ret h = if l.any (fun n=>decide (n.kind = 5)) = true then ret false h else qal.f k s ret h:=by
 rw [qw.f, qw.u9.f, qw.u1.f, qw.u8.f, qw.u6.f, qw.u2.f, qw.u5.f, qw.u4.f]
 exact (zrx k r (by unfold Room at hr; omega) k 0 (Nat.zero_le _) (by omega) α _ _)
theorem ris_good (k:Nat) (hk:900≤k) {f:Sl} {l:List Nd} {u:Tr} (w:Wide l u) (hnl:NL l) (h:H) (r:NdR h f l) :
  ∃ h', (∀ (α:Type) (ret:Bool->M α), qw.f (k + 1) f ret h = ret (pos5 u) h') ∧ Ext h h':=by
 obtain ⟨k, rfl⟩:∃ q, k = q + 1:=⟨k - 1, by omega⟩
 have hl:l.length≤60:=by rw [w.flat, zd]; exact w.size
 have hf:=zet u 0 w.ok
 rw [← w.flat] at hf
 cases hp:pos5 u with
 | true=>
  obtain ⟨h1, e1, x1⟩:=zlx k w hnl (by omega) h r
  refine ⟨h1, fun α ret=>?_, x1⟩
  rw [zoo (k + 1) h r (by unfold Room; omega) (by omega), hf, hp, if_neg (by decide), e1]
 | false=>
  refine ⟨h, fun α ret=>?_, Ext.refl h⟩
  rw [zoo (k + 1) h r (by unfold Room; omega) (by omega), hf, hp, if_pos (by decide)]
theorem ris_not (k:Nat) {f:Sl} {l:List Nd} (w:zdz l) (hnl:NL l) (hr:Room l.length) (hk:900 + l.length≤k) (h:H) (r:NdR h f l) :
  ∃ h', (∀ (α:Type) (ret:Bool->M α), qw.f (k + 1) f ret h = ret false h') ∧ Ext h h':=by
 obtain ⟨k, rfl⟩:∃ q, k = q + 1:=⟨k - 1, by omega⟩
 obtain ⟨h1, e1, x1⟩:=znf k w hnl hr (by omega) h r
 by_cases hf:l.any (fun n=>decide (n.kind = 5)) = true
 ·refine ⟨h, fun α ret=>?_, Ext.refl h⟩
  rw [zoo (k + 1) h r hr (by omega), if_pos hf]
 ·refine ⟨h1, fun α ret=>?_, x1⟩
  rw [zoo (k + 1) h r hr (by omega), if_neg hf, e1]
end Go.Ab.S7
namespace Go.Ab.S7
variable {α:Type} {h₀ h h1 h2:H} {q:Nat} {f o:Sl} {l O:List Nd} {n:Nd}
theorem other_run (k:Nat) (x:Int) (ret:Int->M α):qbk.f (k + 1) x ret h = ret (zdy x) h:=by
 unfold zdy
 rw [qbk.f, qbk.u1.f]
 by_cases h1:x = 1
 ·rw [dT h1, cond_true, if_pos h1]
 rw [dF h1, cond_false, if_neg h1]
 by_cases h1:x = 2
 ·rw [dT h1, cond_true, if_pos h1]
 rw [dF h1, cond_false, if_neg h1]
 by_cases h1:x = 3
 ·rw [dT h1, cond_true, if_pos h1]
 rw [dF h1, cond_false, if_neg h1]
 by_cases h1:x = 12
 ·rw [dT h1, cond_true, if_pos h1]
 rw [dF h1, cond_false, if_neg h1]
 by_cases h1:x = 6
 ·rw [dT h1, cond_true, if_pos h1]
 rw [dF h1, cond_false, if_neg h1]
 by_cases h1:x = 7
 ·rw [dT h1, cond_true, if_pos h1]
 rw [dF h1, cond_false, if_neg h1]
 by_cases h1:x = 8
 ·rw [dT h1, cond_true, if_pos h1]
 rw [dF h1, cond_false, if_neg h1]
 by_cases h1:x = 9
 ·rw [dT h1, cond_true, if_pos h1]
 rw [dF h1, cond_false, if_neg h1]
 by_cases h1:x = 10
 ·rw [dT h1, cond_true, if_pos h1]
 rw [dF h1, cond_false, if_neg h1]
 by_cases h1:x = 11
 ·rw [dT h1, cond_true, if_pos h1]
 rw [dF h1, cond_false, if_neg h1]
noncomputable def tailM (q:Ad) (r:Sl) (kr:Sl->M α):M α:=
 new [] fun r11=>
 ldI .i64 (q.add 0) fun x12=>
 ldI .i64 (q.add 1) fun x13=>
 ldI .i64 (q.add 2) fun x14=>
 ldStr (q.add 3) fun x15=>
 ldI .i64 (q.add 4) fun x16=>
 new [.int .i64 x12, .int .i64 x13, .int .i64 x14, .str x15, .int .i64 x16] fun r17=>
 zq (⟨some r11, 0, 0, none⟩:Sl) 5 48 r fun x18=>
 ldI .i64 (q.add 0) fun y19=>
 ldI .i64 (q.add 1) fun y20=>
 ldI .i64 (q.add 2) fun y21=>
 ldStr (q.add 3) fun y22=>
 ldI .i64 (q.add 4) fun y23=>
 need (decide (x12 = y19)) <|
 need (decide (x13 = y20)) <|
 need (decide (x14 = y21)) <|
 need (decide (x15 = y22)) <|
 need (decide (x16 = y23)) <|
 zq x18 5 48 (⟨some r17, 1, 1, none⟩:Sl) fun x24=>
 kr x24
theorem zls {b:Bool} (hb:b = true) (K:M α):need b K h = K h:=by rw [hb]; rfl
theorem room48 (x:Nat) (h:x≤1001):(x + 1 + (x + 1) / 4 + 512) * 48≤281474976710656:=by omega
theorem room48' (x:Nat) (h:x≤1001):(0 + x + (0 + x) / 4 + 512) * 48≤281474976710656:=by omega
theorem zmh (hq:h.get q = some (ndC n)) (hql:q < h.next) (r:Rd h o 5 (cN O)) (hO:O.length≤1000) :
  ∃ o' h', (∀ (α:Type) (kr:Sl->M α), tailM ⟨q, 0⟩ o kr h = kr o' h') ∧ Ext h h' ∧ App h' o' 5 (cN (O ++ [n])) ∧ zah h o':=by
 have hol:o.len = O.length:=jv r
 have x1:Ext h (h.push (.cells [] true)):=(Ext.refl h).push _
 have x2:Ext h ((h.push (.cells [] true)).push (ndC n)):=x1.push _
 have hg:((h.push (.cells [] true)).push (ndC n)).get h.next = some (.cells [] true):=by rw [zk, if_neg (by rw [zj]; omega), zk, if_pos rfl]
 have hq1:(h.push (.cells [] true)).get q = some (ndC n):=by rw [x1.2 q hql]; exact hq
 have hn1:(h.push (.cells [] true)).next = h.next + 1:=zj ..
 have ap:App ((h.push (.cells [] true)).push (ndC n)) ⟨some ⟨h.next, 0⟩, 0, 0, none⟩ 5 []:=
  ⟨(Rd.pushed h (by simp):Rd (h.push (.cells [] true)) ⟨some ⟨h.next, 0⟩, 0, 0, none⟩ 5 []).ext ((Ext.refl _).push _), fun ha=>(by cases ha), .inl ⟨rfl, rfl⟩⟩
 have rn:Rd ((h.push (.cells [] true)).push (ndC n)) ⟨some ⟨h.next + 1, 0⟩, 1, 1, none⟩ 5 n.cells:=by
  rw [← hn1]; exact Rd.pushed _ rfl
 obtain ⟨d, h3, e3, x3, a3, ow3⟩:∃ d h3, (∀ (α:Type) (K:Sl->M α), zq ⟨some ⟨h.next, 0⟩, 0, 0, none⟩ 5 48 o K ((h.push (.cells [] true)).push (ndC n)) = K d h3) ∧ Ext ((h.push (.cells [] true)).push (ndC n)) h3 ∧ App h3 d 5 (cN O) ∧ ∀ a, d.ad = some a->h.next≤a.id ∧ a.id ≠ h.next + 1:=by
  by_cases h0:o.len = 0
  ·have hO0:O = []:=List.eq_nil_of_length_eq_zero (by omega)
   subst hO0
   exact ⟨_, _, fun α K=>zhj ap (r.ext x2) h0 K (fun _ a ha=>by cases ha; exact ⟨hg, rfl, rfl⟩), Ext.refl _, ap, fun a ha=>by cases ha; exact ⟨Nat.le_refl _, by show h.next ≠ h.next + 1; omega⟩⟩
  ·obtain ⟨h3, e3, a3, g3, kp⟩:=zea (bytes:=48) ap (r.ext x2) (by omega) (by decide) (by rw [hol]; exact room48' _ (by omega))
   rw [List.nil_append] at a3
   exact ⟨_, h3, e3, ⟨by rw [kp.1]; omega, fun i hi=>kp.2 i hi (fun hl=>absurd rfl hl)⟩, a3, fun a ha=>by cases ha; show h.next≤(((h.push (.cells [] true)).push (ndC n)).next) ∧ (((h.push (.cells [] true)).push (ndC n)).next) ≠ h.next + 1; rw [zj, hn1]; omega⟩
 have hdl:d.len = O.length:=jv a3.rd
 have hq3:h3.get q = some (ndC n):=by rw [x3.2 q (by rw [zj, hn1]; omega), x2.2 q hql]; exact hq
 obtain ⟨h4, e4, a4, g4, kp4⟩:=zea (bytes:=48) a3 (rn.ext x3) Nat.one_pos (by decide) (by rw [hdl]; exact room48 _ (by omega))
 have hc:cN O ++ n.cells = cN (O ++ [n]):=by simp [List.flatMap_append]
 rw [hc] at a4
 refine ⟨_, h4, fun α kr=>?_, ⟨by rw [kp4.1]; have:=x2.1; have:=x3.1; omega, fun i hi=>?_⟩, a4, fun a ha=>by cases ha; show h.next≤h3.next; have:=x2.1; have:=x3.1; omega⟩
 ·have hnew:∀ K:Ad->M α, new [.int .i64 n.kind, .int .i64 n.a, .int .i64 n.b, .str n.name, .int .i64 n.pos] K (h.push (.cells [] true)) = K ⟨h.next + 1, 0⟩ ((h.push (.cells [] true)).push (ndC n)):=fun K=>by
   rw [jk rfl, hn1]
  rw [tailM, jk rfl, zbq hq1, hnew, e3, zbq hq3, zls (by simp), zls (by simp), zls (by simp), zls (by simp), zls (by simp)]
  exact e4 α _
 ·rw [kp4.2 i (by have:=x2.1; have:=x3.1; omega) (fun _ a ha=>by have:=(ow3 a ha).1; omega), x3.2 i (by have:=x2.1; omega), x2.2 i hi]
end Go.Ab.S7
namespace Go.Ab.S7
variable {α:Type} {h₀ h h1 h2:H} {q:Nat} {f o:Sl} {l O:List Nd} {n:Nd}
section
variable (k:Nat) (rr:Sl->Int->Bool->Sl->(Sl->M α)->M α) (x0:Sl) (g:Bool) (r:Sl) (kr:Sl->M α)
theorem mu_bin (hq:h.get q = some (ndC n)) (hk:n.kind = 6 ∨ n.kind = 7):qag.u2.f k rr x0 g r ⟨q, 0⟩ kr h =
  (rr x0 n.a g r fun r8=>ldI .i64 (((⟨q, 0⟩:Ad).add 2).add 0) fun x9=>rr x0 x9 g r8 fun r10=>st1 (((⟨q, 0⟩:Ad).add 1).add 0) (.int .i64 (w64 ((r8.len:Int) - 1))) <| st1 (((⟨q, 0⟩:Ad).add 2).add 0) (.int .i64 (w64 ((r10.len:Int) - 1))) <| tailM ⟨q, 0⟩ r10 kr) h:=by
 rw [qag.u2.f, zaw hq]
 rcases hk with e | e <;> rw [e] <;> simp only [↓cT, ↓cF, decide_true, Int.reduceEq, decide_false] <;> rw [zcc hq] <;> rfl
theorem mu_un (hq:h.get q = some (ndC n)) (hk:n.kind = 8 ∨ n.kind = 9 ∨ n.kind = 10 ∨ n.kind = 11):qag.u2.f k rr x0 g r ⟨q, 0⟩ kr h =
  (rr x0 n.a g r fun r8=>st1 (((⟨q, 0⟩:Ad).add 1).add 0) (.int .i64 (w64 ((r8.len:Int) - 1))) <| tailM ⟨q, 0⟩ r8 kr) h:=by
 rw [qag.u2.f, zaw hq]
 rcases hk with e | e | e | e <;> rw [e] <;> simp only [↓cT, ↓cF, decide_true, Int.reduceEq, decide_false] <;> rw [zcc hq] <;> rfl
theorem mu_leaf (hq:h.get q = some (ndC n)) (hk:n.kind = 1 ∨ n.kind = 2 ∨ n.kind = 3 ∨ n.kind = 4 ∨ n.kind = 12):qag.u2.f k rr x0 g r ⟨q, 0⟩ kr h = tailM ⟨q, 0⟩ r kr h:=by
 rw [qag.u2.f, zaw hq]
 rcases hk with e | e | e | e | e <;> rw [e] <;> simp only [↓cT, ↓cF, decide_true, Int.reduceEq, decide_false] <;> rfl
end
def znb (h:H) (n:Nd) (g:Bool):H:=if g = true then (h.push (ndC n)).put h.next (some (ndC { n with kind:=zdy n.kind })) else h.push (ndC n)
theorem ziw (g:Bool):(znb h n g).get h.next = some (ndC { n with kind:=negK g n.kind }):=by
 cases g
 ·show (h.push (ndC n)).get h.next = _
  rw [zk, if_pos rfl]; rfl
 ·show ((h.push (ndC n)).put h.next _).get h.next = _
  rw [zi, if_pos rfl]; rfl
theorem zip (g:Bool):Ext h (znb h n g):=by
 cases g
 ·exact (Ext.refl h).push _
 ·exact ((Ext.refl h).push _).put _ (Nat.le_refl _)
theorem zgx (g:Bool):(znb h n g).next = h.next + 1:=by
 cases g
 ·exact zj ..
 ·show (h.push (ndC n)).next = _; rw [zj]
theorem made_5 (r:NdR h f l) {i:Nat} (hi:l[i]? = some n) (h5:n.kind = 5) (k:Nat) (g:Bool) (ret:Sl->M α) :
  qag.f (k + 1) f (i:Int) g o ret h = qag.f k f n.a (!g) o ret (h.push (ndC n)):=by
 have hq:(h.push (ndC n)).get h.next = some (ndC n):=by rw [zk, if_pos rfl]
 rw [qag.f, qag.u3.f, qag.u1.f, zcv r rfl hi, zeb, zaw hq, dT h5, cond_true, zcc hq]
theorem made_n (r:NdR h f l) {i:Nat} (hi:l[i]? = some n) (h5:n.kind ≠ 5) (k:Nat) (hk:1≤k) (g:Bool) (ret:Sl->M α) :
  qag.f (k + 1) f (i:Int) g o ret h = qag.u2.f k (fun z0 z1 z2 z3 z4=>qag.f k z0 z1 z2 z3 z4) f g o ⟨h.next, 0⟩ ret (znb h n g):=by
 have hq:(h.push (ndC n)).get h.next = some (ndC n):=by rw [zk, if_pos rfl]
 rw [qag.f, qag.u3.f, qag.u1.f, zcv r rfl hi, zeb, zaw hq, dF h5, cond_false]
 cases g with
 | false=>rw [cond_false]; rfl
 | true=>
  obtain ⟨k, rfl⟩:∃ q, k = q + 1:=⟨k - 1, by omega⟩
  rw [cond_true, zaw hq, other_run, zfl hq { n with kind:=zdy n.kind } (j:=0) (by decide) rfl rfl]
  rfl
theorem flat_un {k:Int} {s:List UInt8} {p:Int} {a:Tr} {base:Nat} (hfl:∀ i n, ((Tr.un k s p a).flat base)[i]? = some n->l[base + i]? = some n):∀ i n, (a.flat base)[i]? = some n->l[base + i]? = some n:=
 fun i n hi=>hfl i n (by simp only [Tr.flat]; rw [List.getElem?_append_left (yu hi)]; exact hi)
theorem flat_l {k:Int} {s:List UInt8} {p:Int} {a b:Tr} {base:Nat} (hfl:∀ i n, ((Tr.bin k s p a b).flat base)[i]? = some n->l[base + i]? = some n):∀ i n, (a.flat base)[i]? = some n->l[base + i]? = some n:=
 fun i n hi=>hfl i n (by simp only [Tr.flat]; rw [List.getElem?_append_left (yu hi)]; exact hi)
theorem flat_r {k:Int} {s:List UInt8} {p:Int} {a b:Tr} {base:Nat} (hfl:∀ i n, ((Tr.bin k s p a b).flat base)[i]? = some n->l[base + i]? = some n):∀ i n, (b.flat (base + a.size))[i]? = some n->l[base + a.size + i]? = some n:=
 fun i n hi=>by
  rw [Nat.add_assoc]
  refine hfl (a.size + i) n ?_
  simp only [Tr.flat]
  rw [List.getElem?_append_right (by rw [zd]; omega), zd, Nat.add_sub_cancel_left, List.getElem?_append_left (yu hi)]
  exact hi
def MR (f:Sl) (l:List Nd) (t:Tr):Prop:=
 ∀ (base:Nat) (g:Bool) (k:Nat) (h:H) (o:Sl) (O:List Nd), (∀ i n, (t.flat base)[i]? = some n->l[base + i]? = some n)->t.size + 5≤k->NdR h f l->App h o 5 (cN O)->O.length + t.size≤1000 ->
  ∃ o' h', (∀ (α:Type) (ret:Sl->M α), qag.f k f ((base + t.size - 1:Nat):Int) g o ret h = ret o' h') ∧ Ext h h' ∧ App h' o' 5 (cN (O ++ (nfT t g).flat O.length)) ∧ zah h o'
theorem zek:∀ t:Tr, t.pl.ok = true->MR f l t
 | .leaf kd s p, hok=>by
  intro base g k h o O hfl hk r a hO
  obtain ⟨k, rfl⟩:∃ q, k = q + 1:=⟨k - 1, by omega⟩
  simp only [Tr.pl, Tr.ok, Bool.and_eq_true, decide_eq_true_eq] at hok
  have hkd:=zae (k:=kd) (by omega)
  have hrt:=zeq hfl
  have hkk:kd = 1 ∨ kd = 2 ∨ kd = 3 ∨ kd = 4 ∨ kd = 12:=by
   unfold zcf at hkd
   rcases hkd with e | e | e | e | e | e | e | e | e | e | e | e <;> subst e <;> first | (left; rfl) | (right; left; rfl) | (right; right; left; rfl) | (right; right; right; left; rfl) | (right; right; right; right; rfl) | (exact absurd hok.1 (by decide))
  have hn:∀ g, negK g kd = 1 ∨ negK g kd = 2 ∨ negK g kd = 3 ∨ negK g kd = 4 ∨ negK g kd = 12:=fun g=>by
   cases g
   ·exact hkk
   ·rcases hkk with e | e | e | e | e <;> subst e <;> decide
  have hq:=ziw (h:=h) (n:=(Tr.leaf kd s p).node base) g
  have x1:=zip (h:=h) (n:=(Tr.leaf kd s p).node base) g
  obtain ⟨o', h', e', x', a', w'⟩:=zmh hq (by rw [zgx]; omega) (a.rd.ext x1) (by omega)
  refine ⟨o', h', fun α ret=>?_, x1.trans x', a', fun c hc=>Nat.le_trans x1.1 (w' c hc)⟩
  rw [made_n r hrt (by show kd ≠ 5; rintro rfl; omega) k (by omega), mu_leaf _ _ _ _ _ _ hq (hn g)]
  exact e' α ret
 | .un kd s p t, hok=>by
  intro base g k h o O hfl hk r a hO
  obtain ⟨k, rfl⟩:∃ q, k = q + 1:=⟨k - 1, by omega⟩
  simp only [Tr.pl, Tr.ok, Bool.and_eq_true, decide_eq_true_eq] at hok
  have hkd:=zae (k:=kd) (by omega)
  have hrt:=zeq hfl
  simp only [Tr.size] at hk hO
  have hp:=t.pos
  by_cases h5:kd = 5
  ·obtain ⟨o', h', e', x', a', w'⟩:=zek t hok.2 base (!g) k (h.push (ndC ((Tr.un kd s p t).node base))) o O (flat_un hfl) (by omega) (r.ext ((Ext.refl h).push _)) (a.ext ((Ext.refl h).push _)) (by omega)
   refine ⟨o', h', fun α ret=>?_, ((Ext.refl h).push _).trans x', ?_, fun c hc=>Nat.le_trans ((Ext.refl h).push _).1 (w' c hc)⟩
   ·rw [made_5 r hrt h5]
    exact e' α ret
   ·simp only [nfT, if_pos h5]; exact a'
  ·have hkk:kd = 8 ∨ kd = 9 ∨ kd = 10 ∨ kd = 11:=by
    unfold zcf at hkd
    rcases hkd with e | e | e | e | e | e | e | e | e | e | e | e <;> subst e <;> first | (left; rfl) | (right; left; rfl) | (right; right; left; rfl) | (right; right; right; rfl) | (exact absurd hok.1.1 (by decide)) | (exact absurd rfl h5)
   have hn:∀ g, negK g kd = 8 ∨ negK g kd = 9 ∨ negK g kd = 10 ∨ negK g kd = 11:=fun g=>by
    cases g
    ·exact hkk
    ·rcases hkk with e | e | e | e <;> subst e <;> decide
   have hq:=ziw (h:=h) (n:=(Tr.un kd s p t).node base) g
   have x1:=zip (h:=h) (n:=(Tr.un kd s p t).node base) g
   have hnx:=zgx (h:=h) (n:=(Tr.un kd s p t).node base) g
   obtain ⟨o2, h2, e2, x2, a2, w2⟩:=zek t hok.2 base g k (znb h ((Tr.un kd s p t).node base) g) o O (flat_un hfl) (by omega) (r.ext x1) (a.ext x1) (by omega)
   have hl2:o2.len = O.length + (nfT t g).size:=by rw [jv a2.rd, List.length_append, zd]
   have hle:=zfi t g
   have hpp:=(nfT t g).pos
   have hq2:h2.get h.next = some (ndC { (Tr.un kd s p t).node base with kind:=negK g kd }):=by rw [x2.2 _ (by omega)]; exact hq
   have x3:Ext h (h2.put h.next (some (ndC ⟨negK g kd, ((O.length + (nfT t g).size - 1:Nat):Int), 0, s, p⟩))):=(x1.trans x2).put _ (Nat.le_refl _)
   have hne:∀ c, o2.ad = some c->c.id ≠ h.next:=fun c hc=>by have:=w2 c hc; omega
   have a3:App (h2.put h.next (some (ndC ⟨negK g kd, ((O.length + (nfT t g).size - 1:Nat):Int), 0, s, p⟩))) o2 5 (cN (O ++ (nfT t g).flat O.length)):=a2.keep (Nat.le_refl _) fun c hc=>by rw [zi, if_neg (hne c hc)]
   obtain ⟨o', h', e', x', a', w'⟩:=zmh (q:=h.next) (n:=⟨negK g kd, ((O.length + (nfT t g).size - 1:Nat):Int), 0, s, p⟩) (by rw [zi, if_pos rfl]) (by rw [zkw]; have:=x2.1; omega) a3.rd (by rw [List.length_append, zd]; omega)
   refine ⟨o', h', fun α ret=>?_, x3.trans x', ?_, fun c hc=>Nat.le_trans x3.1 (w' c hc)⟩
   ·rw [made_n r hrt (by show kd ≠ 5; exact h5) k (by omega), mu_un _ _ _ _ _ _ hq (hn g)]
    show qag.f k f ((base + t.size - 1:Nat):Int) g o _ _ = _
    rw [e2, hl2, zw (by omega) (by omega), zfl hq2 ⟨negK g kd, ((O.length + (nfT t g).size - 1:Nat):Int), 0, s, p⟩ (j:=1) (by decide) rfl (by simp only [Nd.cells, List.set]; congr 3; omega)]
    exact e' α ret
   ·simp only [nfT, if_neg h5, Tr.flat, Tr.node, ← List.append_assoc]; exact a'
 | .bin kd s p t b, hok=>by
  intro base g k h o O hfl hk r a hO
  obtain ⟨k, rfl⟩:∃ q, k = q + 1:=⟨k - 1, by omega⟩
  simp only [Tr.pl, Tr.ok, Bool.and_eq_true, decide_eq_true_eq] at hok
  have hkd:=zae (k:=kd) (by omega)
  have hrt:=zeq hfl
  simp only [Tr.size] at hk hO
  have hp:=t.pos
  have hpb:=b.pos
  have hkk:kd = 6 ∨ kd = 7:=by
   unfold zcf at hkd
   rcases hkd with e | e | e | e | e | e | e | e | e | e | e | e <;> subst e <;> first | (left; rfl) | (right; rfl) | (exact absurd hok.1.1.1 (by decide))
  have hn:∀ g, negK g kd = 6 ∨ negK g kd = 7:=fun g=>by
   cases g
   ·exact hkk
   ·rcases hkk with e | e <;> subst e <;> decide
  have hq:=ziw (h:=h) (n:=(Tr.bin kd s p t b).node base) g
  have x1:=zip (h:=h) (n:=(Tr.bin kd s p t b).node base) g
  have hnx:=zgx (h:=h) (n:=(Tr.bin kd s p t b).node base) g
  obtain ⟨o2, h2, e2, x2, a2, w2⟩:=zek t hok.1.2 base g k (znb h ((Tr.bin kd s p t b).node base) g) o O (flat_l hfl) (by omega) (r.ext x1) (a.ext x1) (by omega)
  have hl2:o2.len = O.length + (nfT t g).size:=by rw [jv a2.rd, List.length_append, zd]
  have hle:=zfi t g
  have hleb:=zfi b g
  have hpp:=(nfT t g).pos
  have hppb:=(nfT b g).pos
  have hO2:(O ++ (nfT t g).flat O.length).length = O.length + (nfT t g).size:=by rw [List.length_append, zd]
  obtain ⟨o3, h3, e3, x3, a3, w3⟩:=zek b hok.2 (base + t.size) g k h2 o2 _ (flat_r hfl) (by omega) (r.ext (x1.trans x2)) a2 (by rw [hO2]; omega)
  rw [hO2] at a3
  have hl3:o3.len = O.length + (nfT t g).size + (nfT b g).size:=by rw [jv a3.rd, List.length_append, hO2, zd]
  have hq2:h2.get h.next = some (ndC { (Tr.bin kd s p t b).node base with kind:=negK g kd }):=by rw [x2.2 _ (by omega)]; exact hq
  have hq3:h3.get h.next = some (ndC { (Tr.bin kd s p t b).node base with kind:=negK g kd }):=by rw [x3.2 _ (by have:=x2.1; omega)]; exact hq2
  generalize hA:((O.length + (nfT t g).size - 1:Nat):Int) = A
  generalize hB:((O.length + (nfT t g).size + (nfT b g).size - 1:Nat):Int) = B
  have x4:Ext h ((h3.put h.next (some (ndC ⟨negK g kd, A, ((base + t.size + b.size - 1:Nat):Int), s, p⟩))).put h.next (some (ndC ⟨negK g kd, A, B, s, p⟩))):=(((x1.trans x2).trans x3).put _ (Nat.le_refl _)).put _ (Nat.le_refl _)
  have hne:∀ c, o3.ad = some c->c.id ≠ h.next:=fun c hc=>by have:=w3 c hc; have:=x2.1; omega
  have a4:App ((h3.put h.next (some (ndC ⟨negK g kd, A, ((base + t.size + b.size - 1:Nat):Int), s, p⟩))).put h.next (some (ndC ⟨negK g kd, A, B, s, p⟩))) o3 5 (cN (O ++ (nfT t g).flat O.length ++ (nfT b g).flat (O.length + (nfT t g).size))):=
   a3.keep (Nat.le_refl _) fun c hc=>by rw [zi, if_neg (hne c hc), zi, if_neg (hne c hc)]
  obtain ⟨o', h', e', x', a', w'⟩:=zmh (q:=h.next) (n:=⟨negK g kd, A, B, s, p⟩) (by rw [zi, if_pos rfl]) (by rw [zkw, zkw]; have:=x2.1; have:=x3.1; omega) a4.rd (by rw [List.length_append, hO2, zd]; omega)
  refine ⟨o', h', fun α ret=>?_, x4.trans x', ?_, fun c hc=>Nat.le_trans x4.1 (w' c hc)⟩
  ·rw [made_n r hrt (by show kd ≠ 5; rcases hkk with e | e <;> rw [e] <;> decide) k (by omega), mu_bin _ _ _ _ _ _ hq (hn g)]
   show qag.f k f ((base + t.size - 1:Nat):Int) g o _ _ = _
   rw [e2, zmv hq2]
   show qag.f k f ((base + t.size + b.size - 1:Nat):Int) g o2 _ _ = _
   rw [e3, hl2, hl3, zw (by omega) (by omega), zw (by omega) (by omega), zfl hq3 ⟨negK g kd, A, ((base + t.size + b.size - 1:Nat):Int), s, p⟩ (j:=1) (by decide) rfl (by simp only [Nd.cells, List.set]; rw [← hA]; congr 3; omega),
    zfl (n:=⟨negK g kd, A, ((base + t.size + b.size - 1:Nat):Int), s, p⟩) (by rw [zi, if_pos rfl]) ⟨negK g kd, A, B, s, p⟩ (j:=2) (by decide) rfl (by simp only [Nd.cells, List.set]; rw [← hB]; congr 4; omega)]
   exact e' α ret
  ·have e1:(Tr.bin (negK g kd) s p (nfT t g) (nfT b g)).node O.length = ⟨negK g kd, A, B, s, p⟩:=by rw [← hA, ← hB]; rfl
   simp only [nfT, Tr.flat, e1, ← List.append_assoc]; exact a'
end Go.Ab.S7
namespace Go.Ab.S7
noncomputable def rposneg (g:Bool):{α:Type}->Nat->Sl->(Sl->M α)->M α:=fun k f ret=>if g = true then qar.f k f ret else qas.f k f ret
theorem zpj (g:Bool) (k:Nat) (hk:1000≤k) {f:Sl} {l:List Nd} {u:Tr} (w:Wide l u) (hnl:NL l) (h:H) (r:NdR h f l) :
  ∃ s h', (∀ (α:Type) (ret:Sl->M α), rposneg g (k + 1) f ret h = ret s h') ∧ Ext h h' ∧ App h' s 5 (cN ((nfT u g).flat 0)) ∧ zah h s:=by
 have hs:=w.size
 have hp:=u.pos
 have hfl:f.len = u.size:=by rw [jv r, w.flat, zd]
 obtain ⟨h1, e1, x1⟩:∃ h', (∀ (α:Type) (ret:Bool->M α), qal.f k f ret h = ret true h') ∧ Ext h h':=by
  obtain ⟨k, rfl⟩:∃ q, k = q + 1:=⟨k - 1, by omega⟩
  exact zlx k w hnl (by omega) h r
 have m:=zek (f:=f) (l:=l) u w.ok 0 g k h1 Sl.nil [] (fun i n hi=>by rw [w.flat, Nat.zero_add]; exact hi) (by omega) (r.ext x1) (App.nilSl _ _) (by simp; omega)
 obtain ⟨s, h2, e2, x2, a2, w2⟩:=m
 refine ⟨s, h2, fun α ret=>?_, x1.trans x2, a2, fun c hc=>Nat.le_trans x1.1 (w2 c hc)⟩
 have hix:w64 ((f.len:Int) - 1) = ((0 + u.size - 1:Nat):Int):=by rw [hfl, zw (by omega) (by omega)]; omega
 cases g
 ·show qas.f (k + 1) f ret h = _
  rw [qas.f, qas.u1.f, e1, Bool.not_true, cond_false, hix, e2]
 ·show qar.f (k + 1) f ret h = _
  rw [qar.f, qar.u1.f, e1, Bool.not_true, cond_false, hix, e2]
theorem rpn_not (g:Bool) (k:Nat) {f:Sl} {l:List Nd} (w:zdz l) (hnl:NL l) (hr:Room l.length) (hk:1000 + l.length≤k) (h:H) (r:NdR h f l) :
  ∃ h', (∀ (α:Type) (ret:Sl->M α), rposneg g (k + 1) f ret h = ret Sl.nil h') ∧ Ext h h':=by
 obtain ⟨h1, e1, x1⟩:∃ h', (∀ (α:Type) (ret:Bool->M α), qal.f k f ret h = ret false h') ∧ Ext h h':=by
  obtain ⟨k, rfl⟩:∃ q, k = q + 1:=⟨k - 1, by omega⟩
  exact znf k w hnl hr (by omega) h r
 refine ⟨h1, fun α ret=>?_, x1⟩
 cases g
 ·show qas.f (k + 1) f ret h = _
  rw [qas.f, qas.u1.f, e1]; rfl
 ·show qar.f (k + 1) f ret h = _
  rw [qar.f, qar.u1.f, e1]; rfl
theorem lent_run (k:Nat) {f:Sl} {l:List Nd} (h:H) (r:NdR h f l) (hr:Room l.length) :
  ∃ h' o, (∀ (α:Type) (ret:Sl->M α), qbr.f (k + 1) f ret h = ret o h') ∧ Ext h h' ∧ Lent h' o l:=by
 have hfl:=jv r
 obtain ⟨d, h1, e1, ap1, x1, o1, l1, _⟩:=zpi (bytes:=48) r (by decide) (by decide) (by rw [hfl]; exact room_a hr)
 have hd:d.len = l.length:=slen Nd.len (by decide) ap1.rd
 obtain ⟨h2, e2, ap2, g2, n2, k2⟩:=zhz (bytes:=48) (more:=n7.cells) ap1 rfl rfl (n:=1) (by decide) (by decide) (by rw [hd]; exact room_b hr)
 have hc:cN l ++ n7.cells = cN (l ++ [n7]):=by simp [List.flatMap_append]
 rw [hc] at ap2
 have x2:Ext h h2:=by
  refine ⟨by rw [n2]; have:=x1.1; omega, fun i hi=>?_⟩
  rw [k2 i (Nat.lt_of_lt_of_le hi x1.1) (fun _ a ha=>by have:=o1 a ha; omega)]
  exact x1.2 i hi
 refine ⟨h2, ⟨some ⟨h1.next + 1, 0⟩, l.length, l.length + 1, some 5⟩, fun α ret=>?_, x2, ?_⟩
 ·rw [qbr.f, qbr.u1.f]
  have e3:=(e1 α (fun x4=>new n7.cells fun r5=>zq x4 5 48 ⟨some r5, 1, 1, none⟩ fun x6=>cutSl x6 5 none (some (f.len:Int)) none fun x7=>ret x7)).trans (e2 α _)
  refine e3.trans ?_
  rw [zgz ap2.fine (m:=l.length) (by omega) (by show l.length≤d.len + 1; omega), hd]
 ·refine ⟨?_, rfl, rfl, rfl⟩
  rw [hd] at ap2
  exact ap2.rd
theorem kept_run (k:Nat) {o f:Sl} {l:List Nd} (h:H) (L:Lent h o l) (r:NdR h f l) (hk:l.length + 3≤k) (hl:l.length≤4611686018427387900) :
  ∃ h', (∀ (α:Type) (ret:Bool->M α), qbg.f (k + 1) o f ret h = ret true h') ∧ Ext h h':=by
 obtain ⟨k, rfl⟩:∃ q, k = q + 1:=⟨k - 1, by omega⟩
 have hfl:=jv r
 obtain ⟨h1, e1, x1⟩:=zkp k h L.rd r (by omega) hl true
 have L1:=L.ext x1
 refine ⟨h1, fun α ret=>?_, x1⟩
 rw [qbg.f, qbg.u1.f, e1, dT rfl, hfl, zw (by omega) (by omega), zgz (s:=o) (m:=l.length + 1) ⟨by rw [L.len, L.cap]; omega, .inr L.lo⟩ (by omega) (by rw [L.cap]; exact Nat.le_refl _), cond_true]
 have:=zam (α:=α) (s:=⟨o.ad, l.length + 1, o.cap, o.loose⟩) (by rw [L.cap]; exact L1.all) (x:=(l.length:Int)) (i:=l.length) (n:=n7) rfl (by simp) (fun x7=>ret (decide (x7 = -7)))
 exact this
theorem zev (B:List Nd) (i:Nat) (x y:Nd) (j:Nat) (v:V) (hx:B[i]? = some x) (hy:y.cells = x.cells.set j v) (hj:j < 5):(cN B).set (i * 5 + j) v = cN (B.set i y):=
 zen (c:=Nd.cells) Nd.len B i x y j v hx hy hj
theorem nd_set {h:H} {s:Sl} {B:List Nd} (o:Own h s 5 (cN B)) {i:Nat} (t:Nd) (hi:i < B.length) :
  ∃ h', (∀ (α:Type) (K:M α), idxSl s (i:Int) 5 (fun a=>st1 (a.add 0) (.int .i64 t.kind) <| st1 (a.add 1) (.int .i64 t.a) <| st1 (a.add 2) (.int .i64 t.b) <| st1 (a.add 3) (.str t.name) <| st1 (a.add 4) (.int .i64 t.pos) K) h = K h') ∧ Own h' s 5 (cN (B.set i t)) ∧ h'.next = h.next ∧ ∀ i, i ≠ s.id->h'.get i = h.get i:=by
 have hb:B[i]? = some B[i]:=List.getElem?_eq_getElem hi
 have hll:∀ C:List Nd, C.length = B.length->∀ j, j < 5->i * 5 + j < (cN C).length:=fun C hC j hj=>by rw [show (cN C).length = C.length * 5 from zbd Nd.len C, hC]; omega
 obtain ⟨h1, e1, o1, n1, g1⟩:=zcp o (n:=i * 5 + 0) (v:=.int .i64 t.kind) rfl (hll B rfl 0 (by decide))
 rw [zev B i B[i] ⟨t.kind, B[i].a, B[i].b, B[i].name, B[i].pos⟩ 0 _ hb rfl (by decide)] at o1
 obtain ⟨h2, e2, o2, n2, g2⟩:=zcp o1 (n:=i * 5 + 1) (v:=.int .i64 t.a) rfl (hll _ (by simp) 1 (by decide))
 rw [zev _ i ⟨t.kind, B[i].a, B[i].b, B[i].name, B[i].pos⟩ ⟨t.kind, t.a, B[i].b, B[i].name, B[i].pos⟩ 1 _ (by rw [List.getElem?_set_self (by omega)]) rfl (by decide), List.set_set] at o2
 obtain ⟨h3, e3, o3, n3, g3⟩:=zcp o2 (n:=i * 5 + 2) (v:=.int .i64 t.b) rfl (hll _ (by simp) 2 (by decide))
 rw [zev _ i ⟨t.kind, t.a, B[i].b, B[i].name, B[i].pos⟩ ⟨t.kind, t.a, t.b, B[i].name, B[i].pos⟩ 2 _ (by rw [List.getElem?_set_self (by omega)]) rfl (by decide), List.set_set] at o3
 obtain ⟨h4, e4, o4, n4, g4⟩:=zcp o3 (n:=i * 5 + 3) (v:=.str t.name) rfl (hll _ (by simp) 3 (by decide))
 rw [zev _ i ⟨t.kind, t.a, t.b, B[i].name, B[i].pos⟩ ⟨t.kind, t.a, t.b, t.name, B[i].pos⟩ 3 _ (by rw [List.getElem?_set_self (by omega)]) rfl (by decide), List.set_set] at o4
 obtain ⟨h5, e5, o5, n5, g5⟩:=zcp o4 (n:=i * 5 + 4) (v:=.int .i64 t.pos) rfl (hll _ (by simp) 4 (by decide))
 rw [zev _ i ⟨t.kind, t.a, t.b, t.name, B[i].pos⟩ t 4 _ (by rw [List.getElem?_set_self (by omega)]) rfl (by decide), List.set_set] at o5
 refine ⟨h5, fun α K=>?_, o5, by omega, fun q hq=>by rw [g5 q hq, g4 q hq, g3 q hq, g2 q hq, g1 q hq]⟩
 rw [zgw o.rd rfl hb, yl, yl, yl, yl, yl, e1, e2, e3, e4]
 exact e5 α K
theorem zrr (k:Nat) {s:Sl}:∀ (j i:Nat) (h:H) (B:List Nd), B.length≤2000->i≤B.length->B.length - i < j->Own h s 5 (cN B) ->
  ∃ h', (∀ (α:Type) (kx:M α), qac.u3.l k kx j s (i:Int) h = kx h') ∧ h'.next = h.next ∧ ∀ i, i ≠ s.id->h'.get i = h.get i:=by
 intro j
 induction j with
 | zero=>intro i h B hB hi hj; omega
 | succ j ih=>
  intro i h B hB hi hj o
  have hs:=jv o.rd
  by_cases hlt:i < B.length
  ·obtain ⟨h1, e1, o1, n1, g1⟩:=nd_set o ⟨-3, 0, 0, [], 0⟩ hlt
   obtain ⟨h2, e2, n2, g2⟩:=ih (i + 1) h1 _ (by rw [List.length_set]; exact hB) (by rw [List.length_set]; omega) (by rw [List.length_set]; omega) o1
   refine ⟨h2, fun α kx=>?_, by omega, fun q hq=>by rw [g2 q hq, g1 q hq]⟩
   rw [qac.u3.l, qac.u2.f, hs, dT (by omega:(i:Int) < (B.length:Int)), cond_true]
   refine (e1 α _).trans ?_
   rw [zw (by omega) (by omega)]
   exact e2 α kx
  ·refine ⟨h, fun α kx=>?_, rfl, fun _ _=>rfl⟩
   rw [qac.u3.l, qac.u2.f, hs, dF (by omega:¬ (i:Int) < (B.length:Int)), cond_false]
theorem zgn (k:Nat) {s:Sl} {B:List Nd} (h:H) (a:App h s 5 (cN B)) (hB:B.length≤1000) (hk:2000≤k) :
  ∃ h', (∀ (α:Type) (ret:M α), qac.f (k + 1) s ret h = ret h') ∧ h.next≤h'.next ∧ ∀ i, i < h.next->(∀ c, s.ad = some c->i ≠ c.id)->h'.get i = h.get i:=by
 have hs:=jv a.rd
 obtain ⟨h1, e1, a1, g1, n1, k1⟩:=zhz (bytes:=48) (more:=Nd.cells ⟨0, 0, 0, [], 0⟩) a rfl rfl (n:=1) (by decide) (by decide) (by rw [hs]; exact room48 _ (by omega))
 have hc:cN B ++ Nd.cells ⟨0, 0, 0, [], 0⟩ = cN (B ++ [⟨0, 0, 0, [], 0⟩]):=by simp [List.flatMap_append]
 have o1:Own h1 ⟨some ⟨h.next + 1, 0⟩, s.len + 1, s.len + 1, some 5⟩ 5 (cN (B ++ [⟨0, 0, 0, [], 0⟩])):=⟨by rw [zbd Nd.len]; simp; omega, _, [], rfl, by rw [List.append_nil, ← hc]; exact g1, by omega⟩
 obtain ⟨h2, e2, n2, g2⟩:=zrr k k 0 h1 _ (by simp; omega) (Nat.zero_le _) (by simp; omega) o1
 refine ⟨h2, fun α ret=>?_, by omega, fun i hi hne=>?_⟩
 ·rw [qac.f, qac.u5.f, qac.u1.f]
  refine (e1 α _).trans ?_
  rw [qac.u4.f, qac.u3.f]
  exact e2 α ret
 ·rw [g2 i (by show i ≠ h.next + 1; omega), k1 i hi (fun _=>hne)]
end Go.Ab.S7
namespace Go.Ab.S7
theorem zpw (k:Nat) (h:H) (hk:10≤k):∃ h', (∀ (α:Type) (ret:Bool->M α), qn.f (k + 1) Sl.nil Sl.nil true ret h = ret true h') ∧ Ext h h':=
 zic k h (l:=[]) (Rd.nilSl h 5) (Rd.nilSl h 5) (by simp; omega) (by simp)
theorem zjk (k:Nat) (hk:1100≤k) {f o:Sl} {l:List Nd} (hkl:l.length + 1100≤k) (hk3:3000≤k) (h:H) (r:NdR h f l) (L:Lent h o l) (hnl:NL l) (hr:Room l.length) (t:Int) (t0:0≤t) (t2:t < 2) :
  ∃ h', Ext h h' ∧ ∀ (α:Type) (kn:Sl->Bool->Sl->Int->M α) (kr:Bool->M α) (kx:Sl->Sl->M α), qq.u3.f (k + 1) f true o t kn kr kx h = kn f true o (t + 1) h':=by
 rcases wide_or l with ⟨u, w⟩ | w
 ·have hs:=w.size
  obtain ⟨a, h2, e2, x2, a2, ow2⟩:=zor false k (by omega) w h L.rd
  obtain ⟨b, h3, e3, x3, a3, ow3⟩:=zor true k (by omega) w h2 (L.ext x2).rd
  have x23:=x2.trans x3
  obtain ⟨x, h4, e4, x4, a4, ow4⟩:=zpj false k (by omega) w hnl h3 (r.ext x23)
  have fl:∀ g:Bool, ((nfT u g).flat 0).length≤60:=fun g=>by rw [zd]; have:=zfi u g; omega
  obtain ⟨h5, e5, x5⟩:=zic k h4 (a2.rd.ext (x3.trans x4)) a4.rd (by have:=fl false; omega) (by have:=fl false; omega)
  have x45:=x4.trans x5
  obtain ⟨y, h6, e6, x6, a6, ow6⟩:=zpj true k (by omega) w hnl h5 (r.ext (x23.trans x45))
  obtain ⟨h7, e7, x7⟩:=zic k h6 (a3.rd.ext (x45.trans x6)) a6.rd (by have:=fl true; omega) (by have:=fl true; omega)
  have x67:=x6.trans x7
  have x47:=x45.trans x67
  obtain ⟨h8, e8, x8⟩:=is_good k (by omega) w h7 (L.ext (x23.trans x47)).rd
  obtain ⟨h9, e9, x9⟩:=ris_good k (by omega) w hnl h8 (r.ext ((x23.trans x47).trans x8))
  have x89:=x8.trans x9
  have x39:=x47.trans x89
  have a9:=a2.ext (x3.trans x39)
  have b9:=a3.ext x39
  obtain ⟨h10, e10, n10, g10⟩:=zgn k h9 a9 (by have:=fl false; omega) (by omega)
  have alt:∀ c, a.ad = some c->c.id < h2.next:=fun c hc=>(a2.rd.row c hc).2
  have blt:∀ c, b.ad = some c->c.id < h3.next:=fun c hc=>(a3.rd.row c hc).2
  have b10:App h10 b 5 (cN ((nfT u true).flat 0)):=b9.keep n10 fun c hc=>g10 c.id (by have:=blt c hc; have:=x39.1; omega) (fun d hd=>by have:=alt d hd; have:=ow3 c hc; omega)
  obtain ⟨h11, e11, n11, g11⟩:=zgn k h10 b10 (by have:=fl true; omega) (by omega)
  refine ⟨h11, ⟨by have:=x23.1; have:=x39.1; omega, fun i hi=>?_⟩, fun α kn kr kx=>?_⟩
  ·have hi9:i < h9.next:=by have:=x23.1; have:=x39.1; omega
   rw [g11 i (by omega) (fun c hc=>by have:=ow3 c hc; have:=x2.1; omega), g10 i hi9 (fun c hc=>by have:=ow2 c hc; omega), x39.2 i (by have:=x23.1; omega), x23.2 i hi]
  ·have e2':∀ ret:Sl->M α, qay.f (k + 1) o ret h = ret a h2:=e2 α
   have e3':∀ ret:Sl->M α, qba.f (k + 1) o ret h2 = ret b h3:=e3 α
   have e4':∀ ret:Sl->M α, qas.f (k + 1) f ret h3 = ret x h4:=e4 α
   have e6':∀ ret:Sl->M α, qar.f (k + 1) f ret h5 = ret y h6:=e6 α
   rw [qq.u3.f, dT t2, cond_true, e2', e3', e4', e5, e6', e7, Bool.not_true, cond_false, cond_false, cond_false, e8, e9, dT rfl, Bool.not_true, cond_false, e10, e11, zw (by omega) (by omega)]
 ·obtain ⟨h2, e2, x2⟩:=pn_not false k w hr (by omega) h L.rd
  obtain ⟨h3, e3, x3⟩:=pn_not true k w hr (by omega) h2 (L.ext x2).rd
  have x23:=x2.trans x3
  obtain ⟨h4, e4, x4⟩:=rpn_not false k w hnl hr (by omega) h3 (r.ext x23)
  obtain ⟨h5, e5, x5⟩:=zpw k h4 (by omega)
  have x45:=x4.trans x5
  obtain ⟨h6, e6, x6⟩:=rpn_not true k w hnl hr (by omega) h5 (r.ext (x23.trans x45))
  obtain ⟨h7, e7, x7⟩:=zpw k h6 (by omega)
  have x47:=x45.trans (x6.trans x7)
  obtain ⟨h8, e8, x8⟩:=is_not k w hr (by omega) h7 (L.ext (x23.trans x47)).rd
  obtain ⟨h9, e9, x9⟩:=ris_not k w hnl hr (by omega) h8 (r.ext ((x23.trans x47).trans x8))
  have x39:=x47.trans (x8.trans x9)
  obtain ⟨h10, e10, n10, g10⟩:=zgn k (B:=[]) h9 (App.nilSl _ _) (by simp) (by omega)
  obtain ⟨h11, e11, n11, g11⟩:=zgn k (B:=[]) h10 (App.nilSl _ _) (by simp) (by omega)
  refine ⟨h11, ⟨by have:=x23.1; have:=x39.1; omega, fun i hi=>?_⟩, fun α kn kr kx=>?_⟩
  ·have hi9:i < h9.next:=by have:=x23.1; have:=x39.1; omega
   rw [g11 i (by omega) (fun c hc=>by cases hc), g10 i hi9 (fun c hc=>by cases hc), x39.2 i (by have:=x23.1; omega), x23.2 i hi]
  ·have e2':∀ ret:Sl->M α, qay.f (k + 1) o ret h = ret Sl.nil h2:=e2 α
   have e3':∀ ret:Sl->M α, qba.f (k + 1) o ret h2 = ret Sl.nil h3:=e3 α
   have e4':∀ ret:Sl->M α, qas.f (k + 1) f ret h3 = ret Sl.nil h4:=e4 α
   have e6':∀ ret:Sl->M α, qar.f (k + 1) f ret h5 = ret Sl.nil h6:=e6 α
   rw [qq.u3.f, dT t2, cond_true, e2', e3', e4', e5, e6', e7, Bool.not_true, cond_false, cond_false, cond_false, e8, e9, dT rfl, Bool.not_true, cond_false, e10, e11, zw (by omega) (by omega)]
theorem NormForms_law {f:Sl} {l:List Nd} {h:H} (r:NdR h f l) (hnl:NL l) (hr:Room l.length):∃ k h', ∀ (α:Type) (ret:Bool->M α), qq.f (k + 1) f ret h = ret true h':=by
 obtain ⟨k, hk1, hk2⟩:∃ k, 4000000≤k ∧ l.length + 2000≤k:=⟨4002000 + l.length, by omega, by omega⟩
 refine ⟨k + 1, ?_⟩
 obtain ⟨h1, e1, x1⟩:=zqz k hk1 h
 obtain ⟨h2, o, e2, x2, L⟩:=lent_run k h1 (r.ext x1) hr
 have x12:=x1.trans x2
 obtain ⟨h3, x3, e3⟩:=zjk k (by omega) (by omega) (by omega) h2 (r.ext x12) L hnl hr 0 (by decide) (by decide)
 obtain ⟨h4, x4, e4⟩:=zjk k (by omega) (by omega) (by omega) h3 (r.ext (x12.trans x3)) (L.ext x3) hnl hr 1 (by decide) (by decide)
 obtain ⟨h5, e5, x5⟩:=kept_run k h4 (L.ext (x3.trans x4)) (r.ext ((x12.trans x3).trans x4)) (by omega) (by unfold Room at hr; omega)
 refine ⟨h5, fun α ret=>?_⟩
 obtain ⟨k2, rfl⟩:∃ q, k = q + 2:=⟨k - 2, by omega⟩
 rw [qq.f, qq.u9.f, qq.u1.f, e1, e2, qq.u8.f, qq.u6.f, qq.u2.f, qq.u5.f, qq.u4.f]
 rw [qq.u4.l, e3, qq.u4.l]
 refine (e4 α _ _ _).trans ?_
 rw [qq.u4.l, qq.u3.f, dF (by decide), cond_false, qq.u7.f, e5]
end Go.Ab.S7
