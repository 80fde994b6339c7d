import Derived.Test.YtmanohnlcedeaaaS7u
set_option linter.unusedVariables false
set_option linter.unusedSimpArgs false
namespace Go.Ab.S7
variable {α:Type} {h h₀:H} {p tb:Nat} {ls fs:Sl} {s:St}
theorem zin (P:PS h₀ h p tb ls fs s) (k:Nat) (sign:List UInt8) :
  match zdl sign s with
  | .error e=>∀ (α:Type) (pan:V->M α) (ret:M α), qaj.f (k + 2) ⟨p, 0⟩ sign pan ret h = pan (zhf e) h
  | .ok s'=>∃ h' ls', (∀ (α:Type) (pan:V->M α) (ret:M α), qaj.f (k + 2) ⟨p, 0⟩ sign pan ret h = ret h') ∧ PS h₀ h' p tb ls' fs s' ∧ QP p fs fs h h':=by
 unfold zdl
 by_cases hs:isS sign s = true
 ·rw [if_pos hs]
  obtain ⟨h', ls', e', P', q'⟩:=zfs P k (by rw [jw hs]; decide)
  refine ⟨h', ls', fun α pan ret=>?_, P', q'⟩
  rw [qaj.f, qaj.u1.f, zaq P, hs, Bool.not_true, cond_false, e']
 ·rw [if_neg hs]
  intro α pan ret
  rw [qaj.f, qaj.u1.f, zaq P, Bool.eq_false_iff.2 hs, Bool.not_false, cond_true, zdf P]
theorem step_run (P:PS h₀ h p tb ls fs s) (k:Nat) (shut:List UInt8) :
  match zfk shut s with
  | .error e=>∃ h', Ext h₀ h' ∧ ∀ (α:Type) (pan:V->M α) (ret:List UInt8->M α), qaq.f (k + 3) ⟨p, 0⟩ shut pan ret h = pan (zhf e) h'
  | .ok z=>∃ h' ls', (∀ (α:Type) (pan:V->M α) (ret:List UInt8->M α), qaq.f (k + 3) ⟨p, 0⟩ shut pan ret h = ret z.1 h') ∧ PS h₀ h' p tb ls' fs z.2 ∧ QP p fs fs h h':=by
 unfold zfk
 by_cases hc:isS [45] s = true ∨ (s.hd.kind = 2 ∧ zdw s.hd.text = false)
 ·rw [if_pos hc]
  have hk:s.hd.kind ≠ 0:=by
   rcases hc with hc | hc
   ·rw [jw hc]; decide
   ·rw [hc.1]; decide
  obtain ⟨h1, ls1, e1, P1, q1⟩:=zfs P (k + 1) hk
  have start:∀ (α:Type) (pan:V->M α) (ret:List UInt8->M α), qaq.f (k + 3) ⟨p, 0⟩ shut pan ret h = qaj.f (k + 2) ⟨p, 0⟩ shut pan (ret s.hd.text) h1:=fun α pan ret=>by
   rw [qaq.f, qaq.u1.f, zaq P]
   by_cases h45:isS [45] s = true
   ·rw [h45, Bool.not_true, cond_false, e1]
   ·have h2:=hc.resolve_left h45
    rw [Bool.eq_false_iff.2 h45, Bool.not_false, cond_true, p_l P, zbz P.toks (x:=0) (i:=0) rfl P.hd, dT h2.1, Bool.not_true, cond_false, p_l P, zon P.toks (x:=0) (i:=0) rfl P.hd, zmg, h2.2, cond_false, e1]
  have hn:=zin P1 k shut
  cases hne:zdl shut s.adv with
  | error e=>
   rw [hne] at hn
   exact ⟨h1, P1.ext, fun α pan ret=>(start α pan ret).trans (hn α pan _)⟩
  | ok s'=>
   rw [hne] at hn
   obtain ⟨h2, ls2, e2, P2, q2⟩:=hn
   exact ⟨h2, ls2, fun α pan ret=>(start α pan ret).trans (e2 α pan _), P2, q1.trans q2⟩
 ·rw [if_neg hc]
  refine ⟨h, P.ext, fun α pan ret=>?_⟩
  have h45:¬ isS [45] s = true:=fun e=>hc (.inl e)
  rw [qaq.f, qaq.u1.f, zaq P, Bool.eq_false_iff.2 h45, Bool.not_false, cond_true, p_l P, zbz P.toks (x:=0) (i:=0) rfl P.hd]
  by_cases h2:s.hd.kind = 2
  ·have hw:zdw s.hd.text = true:=by
    cases hq:zdw s.hd.text with
    | true=>rfl
    | false=>exact absurd (.inr ⟨h2, hq⟩) hc
   rw [dT h2, Bool.not_true, cond_false, p_l P, zon P.toks (x:=0) (i:=0) rfl P.hd, zmg, hw, cond_true, zdf P]
  ·rw [dF h2, Bool.not_false, cond_true, zdf P]
theorem lay_run (P:PS h₀ h p tb ls fs s) (k:Nat) (n:Nd) (hlt:s.f.length < s.made) :
  ∃ h' fs', (∀ (α:Type) (ret:Int->M α), qah.f (k + 1) ⟨p, 0⟩ n.kind n.a n.b n.name n.pos ret h = ret (layE n s).1 h') ∧ PS h₀ h' p tb ls fs' (layE n s).2 ∧ QP p fs fs' h h':=by
 have hm:=P.m60
 have hfl:fs.len = s.f.length:=slen Nd.len (by decide) P.nodes.rd
 have x1:Ext h (h.push (ndC n)):=(Ext.refl h).push _
 have hq:(h.push (ndC n)).get h.next = some (ndC n):=by rw [zk, if_pos rfl]
 have P1:=P.push x1
 have e1:∀ (α:Type) (K:Ad->M α), new [.int .i64 n.kind, .int .i64 n.a, .int .i64 n.b, .str n.name, .int .i64 n.pos] K h = K ⟨h.next, 0⟩ (h.push (ndC n)):=fun α K=>jk rfl
 have hn1:(h.push (ndC n)).next = h.next + 1:=rfl
 generalize h.push (ndC n) = h1 at x1 hq P1 e1 hn1
 have x2:Ext h1 (h1.push (ndC n)):=(Ext.refl h1).push _
 have P2:=P1.push x2
 have e2:∀ (α:Type) (K:Ad->M α), new [.int .i64 n.kind, .int .i64 n.a, .int .i64 n.b, .str n.name, .int .i64 n.pos] K h1 = K ⟨h1.next, 0⟩ (h1.push (ndC n)):=fun α K=>jk rfl
 have rp:Rd (h1.push (ndC n)) ⟨some ⟨h1.next, 0⟩, 1, 1, none⟩ 5 n.cells:=Rd.pushed h1 rfl
 have hn2:(h1.push (ndC n)).next = h1.next + 1:=rfl
 generalize h1.push (ndC n) = h2 at x2 P2 e2 rp hn2
 obtain ⟨h3, e3, ap3, g3, k3⟩:=zea (bytes:=48) P2.nodes rp (by show 0 < 1; decide) (by decide) (by show (fs.len + 1 + (fs.len + 1) / 4 + 512) * 48≤_; omega)
 dsimp only at e3 ap3
 have hlts:=P2.lts
 have keep:∀ i, i < h2.next->(∀ a, fs.ad = some a->i ≠ a.id)->h3.get i = h2.get i:=fun i hi ha=>k3.2 i hi fun _ a h=>ha a h
 have gp:h3.get p = h2.get p:=keep p P2.plt fun a ha=>Ne.symm (P2.fp a ha).1
 have hn3:=k3.1
 refine ⟨h3.put p (some (.cells [.slice ls, .int .i64 (s.made:Int), .slice ⟨some ⟨h2.next, 0⟩, fs.len + 1, fs.len + 1, some 5⟩] true)), ⟨some ⟨h2.next, 0⟩, fs.len + 1, fs.len + 1, some 5⟩, fun α ret=>?_, ?_, ?_⟩
 ·have e4:∀ K:M α, st1 (((⟨p, 0⟩:Ad).add 2).add 0) (.slice ⟨some ⟨h2.next, 0⟩, fs.len + 1, fs.len + 1, some 5⟩) K h3 = K (h3.put p (some (.cells [.slice ls, .int .i64 (s.made:Int), .slice ⟨some ⟨h2.next, 0⟩, fs.len + 1, fs.len + 1, some 5⟩] true))):=fun K=>by
   simp only [jg]
   rw [yv (a:=⟨p, 0 + 2 + 0⟩) (gp.trans P2.blk) rfl (by simp)]
   rfl
  rw [qah.f, qah.u1.f, e1, p_f P1, zbq hq, e2, p_f P2, jc (by simp), e3, e4, zbb (n:=⟨some ⟨h2.next, 0⟩, fs.len + 1, fs.len + 1, some 5⟩) (by simp only [jg]; rw [jf (a:=⟨p, 0 + 2 + 0⟩) (jt _ _ _)]; rfl)]
  rw [zw (by dsimp only; omega) (by dsimp only; omega)]
  unfold layE
  dsimp only
  rw [show ((fs.len + 1:Nat):Int) - 1 = (s.f.length:Int) by omega]
 ·have hg:∀ i, i ≠ p->(h3.put p (some (.cells [.slice ls, .int .i64 (s.made:Int), .slice ⟨some ⟨h2.next, 0⟩, fs.len + 1, fs.len + 1, some 5⟩] true))).get i = h3.get i:=fun i hi=>by rw [zi, if_neg hi]
  have hc:cN (s.f ++ [n]) = cN s.f ++ n.cells:=by simp [List.flatMap_append]
  have hpl:=P2.plt
  have htl:=P2.tl
  refine ⟨(k3.ext P2.ext P2.low).put _ P.p0, P.p0, by show p < h3.next; omega, by rw [jt]; rfl, P2.toks.keep (by show h2.next≤h3.next; omega) (fun a ha=>?_), P.fine, ?_, (fun a ha=>by cases ha; exact P2.ext.1), P.tok, P.tp, by show tb < h3.next; omega, (fun a ha=>by cases ha; exact ⟨by show h2.next ≠ p; omega, by show h2.next ≠ tb; omega⟩), P.ends, ?_, P.m60⟩
  ·rw [hg _ (by rw [P.tok a ha]; exact P.tp)]
   exact keep _ (hlts.1 a ha) fun b hb=>by rw [P.tok a ha]; exact Ne.symm (P2.fp b hb).2
  ·show App _ _ 5 (cN (s.f ++ [n]))
   rw [hc]
   exact ap3.keep (Nat.le_refl _) fun a ha=>by cases ha; exact hg _ (by show h2.next ≠ p; omega)
  ·show (s.f ++ [n]).length≤s.made
   rw [List.length_append]; exact hlt
 ·refine ⟨by show h.next≤h3.next; omega, fun i hi hp ha=>?_, fun a ha=>by cases ha; left; show h.next≤h2.next; omega⟩
  rw [zi, if_neg hp, keep i (by omega) ha, x2.2 i (by omega), x1.2 i hi]
def fnO (p:Nat) (o:Bool):V:=if o then .func 54 [.ptr (some ⟨p, 0⟩)] [] else .func 71 [.ptr (some ⟨p, 0⟩)] []
noncomputable def rowF (k:Nat) (o:Bool) (p:Nat) {α:Type} (pan:V->M α) (ret:Int->M α):M α:=if o then qai.f k ⟨p, 0⟩ pan ret else qao.f k ⟨p, 0⟩ pan ret
noncomputable def cps (k jj:Nat) (p:Nat) (r:Rl) (a:Int) {α:Type} (pan:V->M α) (ret:Int->M α):M α:=
 match r with
 | .un=>qd.f k ⟨p, 0⟩ pan ret
 | .row o=>rowF k o p pan ret
 | .loop o=>qab.u3.l k (fun z0 z1 z2=>qao.f k z0 z1 z2) (fun z0 z1 z2=>qd.f k z0 z1 z2) ret pan jj ⟨p, 0⟩ (signO o) (zew o) (fnO p o) a
def jq (h₀ h:H) (p tb:Nat) (fs:Sl) (x:Except Er (Int × St)) (C:∀ α:Type, (V->M α)->(Int->M α)->M α):Prop:=
 match x with
 | .error e=>e.2 ≠ 0->∃ h', Ext h₀ h' ∧ ∀ (α:Type) (pan:V->M α) (ret:Int->M α), C α pan ret h = pan (zhf e) h'
 | .ok y=>∃ h' ls' fs', (∀ (α:Type) (pan:V->M α) (ret:Int->M α), C α pan ret h = ret y.1 h') ∧ PS h₀ h' p tb ls' fs' y.2 ∧ QP p fs fs' h h'
theorem QP.tok {fs':Sl} {h':H} (q:QP p fs fs' h h') {i:Nat} {b:Blk} (hi:i < h.next) (hp:i ≠ p) (hf:∀ a, fs.ad = some a->i ≠ a.id) (hb:h.get i = some b):h'.get i = some b:=by rw [q.keep i hi hp hf]; exact hb
theorem zqb (P:PS h₀ h p tb ls fs s) (t:Tok):PS h₀ (h.push (tkC t)) p tb ls fs s ∧ QP p fs fs h (h.push (tkC t)) ∧ (h.push (tkC t)).get h.next = some (tkC t) ∧ h.next < (h.push (tkC t)).next ∧ h.next ≠ p ∧ ∀ a, fs.ad = some a->h.next ≠ a.id:=
 ⟨P.push ((Ext.refl h).push _), QP.of ((Ext.refl h).push _), by rw [zk, if_pos rfl], by rw [zj]; omega, by have:=P.plt; omega, fun a ha=>by have:=P.lts.2 a ha; omega⟩
theorem pz_loop (o:Bool) (k j:Nat) (ih:∀ (r:Rl) (a:Int) (s:St) (h:H) (ls fs:Sl) (k jj:Nat), 2 * j + 20≤k->j≤jj->PS h₀ h p tb ls fs s->jq h₀ h p tb fs (pz j r a s) (fun α=>cps k jj p r a)) (a:Int) (s:St) (h:H) (ls fs:Sl) (jj:Nat) (hk:2 * j + 20≤k) (hj:j≤jj) (P:PS h₀ h p tb ls fs s) :
  jq h₀ h p tb fs (pz (j + 1) (.loop o) a s) (fun α=>cps k (jj + 1) p (.loop o) a):=by
 obtain ⟨k, rfl⟩:∃ q, k = q + 2:=⟨k - 2, by omega⟩
 have start:∀ (α:Type) (pan:V->M α) (ret:Int->M α), cps (k + 2) (jj + 1) p (.loop o) a pan ret h = cond (isS (signO o) s) (qak.f (k + 2) ⟨p, 0⟩ (fun e33=>pan e33) fun r8 r9 r10 r11=>
   new [.int .i64 0, .int .i64 0, .str [], .int .i64 0] fun t12=>st1 (t12.add 0) (.int .i64 r8) <| st1 (t12.add 1) (.int .i64 r9) <| st1 (t12.add 2) (.str r10) <| st1 (t12.add 3) (.int .i64 r11) <|
   ldI .i64 ((t12.add 1).add 0) fun x13=>cps (k + 2) (k + 2) p (oneO o) 0 pan fun r21=>ldI .i64 ((t12.add 1).add 0) fun y22=>need (decide (x13 = y22)) <| qah.f (k + 2) ⟨p, 0⟩ (zew o) a r21 [] x13 fun r23=>cps (k + 2) jj p (.loop o) r23 pan ret) (ret a) h:=fun α pan ret=>by
  show qab.u3.l _ _ _ _ _ _ _ _ _ _ _ h = _
  rw [qab.u3.l, qab.u2.f, zaq P]
  cases o <;> rfl
 rw [pz]
 by_cases hs:isS (signO o) s = true
 rotate_left
 ·rw [if_neg hs]
  refine ⟨h, ls, fs, fun α pan ret=>?_, P, QP.refl _ _ _⟩
  refine (start α pan ret).trans ?_
  rw [Bool.eq_false_iff.2 hs, cond_false]
 rw [if_pos hs]
 have hm:=znk P k (by rw [jw hs]; decide)
 cases hme:zat s with
 | error e=>
  rw [hme] at hm
  obtain ⟨h', x', e'⟩:=hm
  exact fun _=>⟨h', x', fun α pan ret=>(start α pan ret).trans (by rw [hs, cond_true, e'])⟩
 | ok x=>
  rw [hme] at hm
  obtain ⟨h1, ls1, e1, P1, q1⟩:=hm
  obtain ⟨t, s1⟩:=x
  dsimp only at e1 P1
  obtain ⟨P2, q2, g2, l2, n2, f2⟩:=zqb P1 t
  have start2:∀ (α:Type) (pan:V->M α) (ret:Int->M α), cps (k + 2) (jj + 1) p (.loop o) a pan ret h = cps (k + 2) (k + 2) p (oneO o) 0 pan (fun r21=>ldI .i64 (((⟨h1.next, 0⟩:Ad).add 1).add 0) fun y22=>need (decide (t.pos = y22)) <| qah.f (k + 2) ⟨p, 0⟩ (zew o) a r21 [] t.pos fun r23=>cps (k + 2) jj p (.loop o) r23 pan ret) (h1.push (tkC t)):=fun α pan ret=>by
   rw [start, hs, cond_true, e1, zke, zbr g2]
  have hi:=ih (oneO o) 0 s1 _ ls1 fs (k + 2) (k + 2) hk (by omega) P2
  show jq h₀ h p tb fs (zab (pz j (oneO o) 0 s1) fun y=>_) _
  cases hz:pz j (oneO o) 0 s1 with
  | error e=>
   rw [hz] at hi
   exact fun he=>by
    obtain ⟨h', x', e'⟩:=hi he
    exact ⟨h', x', fun α pan ret=>(start2 α pan ret).trans (e' α pan _)⟩
  | ok y=>
   rw [hz] at hi
   obtain ⟨n, s2⟩:=y
   obtain ⟨h3, ls3, fs3, e3, P3, q3⟩:=hi
   dsimp only at e3 P3
   have hb:=zim _ _ _ _ _ _ hz
   have hmk:=zch hme
   have hlt:s2.f.length < s2.made:=by
    have h1:=hb.1
    rw [hmk.2.2] at h1
    simp only [St.adv] at h1
    have:=P.bal
    omega
   have g3:h3.get h1.next = some (tkC t):=q3.tok l2 n2 f2 g2
   obtain ⟨h4, fs4, e4, P4, q4⟩:=lay_run P3 (k + 1) ⟨zew o, a, n, [], t.pos⟩ hlt
   dsimp only at e4
   have hi2:=ih (.loop o) (layE ⟨zew o, a, n, [], t.pos⟩ s2).1 (layE ⟨zew o, a, n, [], t.pos⟩ s2).2 h4 ls3 fs4 (k + 2) jj hk hj P4
   have q04:=q1.trans (q2.trans (q3.trans q4))
   have start3:∀ (α:Type) (pan:V->M α) (ret:Int->M α), cps (k + 2) (jj + 1) p (.loop o) a pan ret h = cps (k + 2) jj p (.loop o) (layE ⟨zew o, a, n, [], t.pos⟩ s2).1 pan ret h4:=fun α pan ret=>by
    rw [start2, e3, zbr g3, jc (by simp), e4]
   show jq h₀ h p tb fs (pz j (.loop o) (layE ⟨zew o, a, n, [], t.pos⟩ s2).1 (layE ⟨zew o, a, n, [], t.pos⟩ s2).2) _
   cases hz2:pz j (.loop o) (layE ⟨zew o, a, n, [], t.pos⟩ s2).1 (layE ⟨zew o, a, n, [], t.pos⟩ s2).2 with
   | error e=>
    rw [hz2] at hi2
    exact fun he=>by
     obtain ⟨h', x', e'⟩:=hi2 he
     exact ⟨h', x', fun α pan ret=>(start3 α pan ret).trans (e' α pan ret)⟩
   | ok y=>
    rw [hz2] at hi2
    obtain ⟨h', ls', fs', e', P', q'⟩:=hi2
    exact ⟨h', ls', fs', fun α pan ret=>(start3 α pan ret).trans (e' α pan ret), P', q04.trans q'⟩
theorem pz_row (o:Bool) (k j:Nat) (ih:∀ (r:Rl) (a:Int) (s:St) (h:H) (ls fs:Sl) (k jj:Nat), 2 * j + 20≤k->j≤jj->PS h₀ h p tb ls fs s->jq h₀ h p tb fs (pz j r a s) (fun α=>cps k jj p r a)) (a:Int) (s:St) (h:H) (ls fs:Sl) (jj:Nat) (hk:2 * (j + 1) + 20≤k) (P:PS h₀ h p tb ls fs s) :
  jq h₀ h p tb fs (pz (j + 1) (.row o) a s) (fun α=>cps k jj p (.row o) a):=by
 obtain ⟨k, rfl⟩:∃ q, k = q + 2:=⟨k - 2, by omega⟩
 have start:∀ (α:Type) (pan:V->M α) (ret:Int->M α), cps (k + 2) jj p (.row o) a pan ret h = cps k k p (oneO o) 0 pan (fun n=>cps k k p (.loop o) n pan ret) h:=fun α pan ret=>by
  cases o <;> rfl
 rw [pz]
 have hi:=ih (oneO o) 0 s h ls fs k k (by omega) (by omega) P
 cases hz:pz j (oneO o) 0 s with
 | error e=>
  rw [hz] at hi
  exact fun he=>by
   obtain ⟨h', x', e'⟩:=hi he
   exact ⟨h', x', fun α pan ret=>(start α pan ret).trans (e' α pan _)⟩
 | ok y=>
  rw [hz] at hi
  obtain ⟨h1, ls1, fs1, e1, P1, q1⟩:=hi
  have hi2:=ih (.loop o) y.1 y.2 h1 ls1 fs1 k k (by omega) (by omega) P1
  show jq h₀ h p tb fs (pz j (.loop o) y.1 y.2) _
  cases hz2:pz j (.loop o) y.1 y.2 with
  | error e=>
   rw [hz2] at hi2
   exact fun he=>by
    obtain ⟨h', x', e'⟩:=hi2 he
    exact ⟨h', x', fun α pan ret=>(start α pan ret).trans ((e1 α pan _).trans (e' α pan ret))⟩
  | ok y2=>
   rw [hz2] at hi2
   obtain ⟨h', ls', fs', e', P', q'⟩:=hi2
   exact ⟨h', ls', fs', fun α pan ret=>(start α pan ret).trans ((e1 α pan _).trans (e' α pan ret)), P', q1.trans q'⟩
end Go.Ab.S7
namespace Go.Ab.S7
variable {α:Type} {h h₀:H} {p tb:Nat} {ls fs:Sl} {s:St}
theorem jq.of {x:Except Er (Int × St)} {C C':∀ α:Type, (V->M α)->(Int->M α)->M α} {h1:H} {fs1:Sl} (r:jq h₀ h1 p tb fs1 x C') (q:QP p fs fs1 h h1) (e:∀ (α:Type) (pan:V->M α) (ret:Int->M α), C α pan ret h = C' α pan ret h1):jq h₀ h p tb fs x C:=by
 unfold jq at r ⊢
 cases x with
 | error e'=>
  exact fun he=>by
   obtain ⟨h', x', e''⟩:=r he
   exact ⟨h', x', fun α pan ret=>(e α pan ret).trans (e'' α pan ret)⟩
 | ok y=>
  obtain ⟨h', ls', fs', e'', P', q'⟩:=r
  exact ⟨h', ls', fs', fun α pan ret=>(e α pan ret).trans (e'' α pan ret), P', q.trans q'⟩
theorem jq.err {e:Er} {C:∀ α:Type, (V->M α)->(Int->M α)->M α} {h':H} (x:Ext h₀ h') (c:∀ (α:Type) (pan:V->M α) (ret:Int->M α), C α pan ret h = pan (zhf e) h'):jq h₀ h p tb fs (.error e) C:=fun _=>⟨h', x, c⟩
theorem jq.lay (P:PS h₀ h p tb ls fs s) (k:Nat) (n:Nd) (hlt:s.f.length < s.made):jq h₀ h p tb fs (.ok (layE n s)) (fun α pan ret=>qah.f (k + 1) ⟨p, 0⟩ n.kind n.a n.b n.name n.pos ret):=by
 obtain ⟨h', fs', e', P', q'⟩:=lay_run P k n hlt
 exact ⟨h', ls, fs', fun α pan ret=>e' α ret, P', q'⟩
theorem jq.bind {x:Except Er (Int × St)} {F:Int × St->Except Er (Int × St)} {C C':∀ α:Type, (V->M α)->(Int->M α)->M α} {G:∀ α:Type, (V->M α)->(Int->M α)->Int->M α} (r:jq h₀ h p tb fs x C')
  (e:∀ (α:Type) (pan:V->M α) (ret:Int->M α), C α pan ret h = C' α pan (G α pan ret) h) (on:∀ (y:Int × St) (h1:H) (ls1 fs1:Sl), x = .ok y->PS h₀ h1 p tb ls1 fs1 y.2->QP p fs fs1 h h1->jq h₀ h1 p tb fs1 (F y) (fun α pan ret=>G α pan ret y.1)):jq h₀ h p tb fs (zab x F) C:=by
 cases x with
 | error e'=>
  exact fun he=>by
   obtain ⟨h', x', e''⟩:=r he
   exact ⟨h', x', fun α pan ret=>(e α pan ret).trans (e'' α pan _)⟩
 | ok y=>
  obtain ⟨h1, ls1, fs1, e1, P1, q1⟩:=r
  exact jq.of (on y h1 ls1 fs1 rfl P1 q1) q1 fun α pan ret=>(e α pan ret).trans (e1 α pan _)
theorem jq.makes (P:PS h₀ h p tb ls fs s) (k:Nat) (hk:s.hd.kind ≠ 0) {F:Tok × St->Except Er (Int × St)} {C:∀ α:Type, (V->M α)->(Int->M α)->M α} {G:∀ α:Type, (V->M α)->(Int->M α)->Ad->M α}
  (e:∀ (α:Type) (pan:V->M α) (ret:Int->M α), C α pan ret h = qak.f (k + 2) ⟨p, 0⟩ (fun e=>pan e) (fun r4 r5 r6 r7=>new [.int .i64 0, .int .i64 0, .str [], .int .i64 0] fun t8=>st1 (t8.add 0) (.int .i64 r4) <| st1 (t8.add 1) (.int .i64 r5) <| st1 (t8.add 2) (.str r6) <| st1 (t8.add 3) (.int .i64 r7) <| G α pan ret t8) h)
  (on:∀ (t:Tok) (s1:St) (h1:H) (ls1:Sl) (q:Nat), t = s.hd->s1 = { s.adv with made:=s.made + 1 }->PS h₀ h1 p tb ls1 fs s1->h1.get q = some (tkC t)->q < h1.next->q ≠ p->(∀ a, fs.ad = some a->q ≠ a.id)->jq h₀ h1 p tb fs (F (t, s1)) (fun α pan ret=>G α pan ret ⟨q, 0⟩)):jq h₀ h p tb fs (zab (zat s) F) C:=by
 have hm:=znk P k hk
 cases hme:zat s with
 | error e'=>
  rw [hme] at hm
  obtain ⟨h', x', e''⟩:=hm
  exact jq.err x' fun α pan ret=>(e α pan ret).trans (e'' α _ _)
 | ok x=>
  rw [hme] at hm
  obtain ⟨t, s1⟩:=x
  obtain ⟨h1, ls1, e1, P1, q1⟩:=hm
  dsimp only at e1 P1
  obtain ⟨_, ht, hs1⟩:=zch hme
  obtain ⟨P2, q2, g2, l2, n2, f2⟩:=zqb P1 t
  refine jq.of (on t s1 _ ls1 h1.next ht hs1 P2 g2 l2 n2 f2) (q1.trans q2) fun α pan ret=>?_
  rw [e, e1, zke]
theorem pz_un (k j:Nat) (ih:∀ (r:Rl) (a:Int) (s:St) (h:H) (ls fs:Sl) (k jj:Nat), 2 * j + 20≤k->j≤jj->PS h₀ h p tb ls fs s->jq h₀ h p tb fs (pz j r a s) (fun α=>cps k jj p r a)) (a:Int) (s:St) (h:H) (ls fs:Sl) (jj:Nat) (hk:2 * (j + 1) + 20≤k) (P:PS h₀ h p tb ls fs s) :
  jq h₀ h p tb fs (pz (j + 1) .un a s) (fun α=>cps k jj p .un a):=by
 obtain ⟨k, rfl⟩:∃ q, k = q + 4:=⟨k - 4, by omega⟩
 have ihu:=fun (s:St) (h:H) (ls fs:Sl) (P:PS h₀ h p tb ls fs s)=>ih .un 0 s h ls fs (k + 3) (k + 3) (by omega) (by omega) P
 have ihf:=fun (s:St) (h:H) (ls fs:Sl) (P:PS h₀ h p tb ls fs s)=>ih (.row true) 0 s h ls fs (k + 3) (k + 3) (by omega) (by omega) P
 have ihw:=fun (s:St) (h:H) (ls fs:Sl) (P:PS h₀ h p tb ls fs s)=>ih (.row true) 0 s h ls fs (k + 2) (k + 2) (by omega) (by omega) P
 have hb:=P.bal
 -- the room for a node, behind what was made
 have room:∀ {s1 s2:St}, s1 = { s.adv with made:=s.made + 1 }->Bal s1 s2->s2.f.length < s2.made:=by
  rintro s1 s2 rfl hB
  have:=hB.1
  simp only [St.adv] at this
  omega
 rw [pz]
 by_cases c1:isS [126] s = true
 ·rw [if_pos c1]
  refine jq.makes P (k + 1) (by rw [jw c1]; decide) (G:=fun α pan ret t8=>ldI .i64 ((t8.add 1).add 0) fun x9=>qd.f (k + 3) ⟨p, 0⟩ (fun e=>pan e) fun r10=>ldI .i64 ((t8.add 1).add 0) fun y11=>need (decide (x9 = y11)) <| qah.f (k + 3) ⟨p, 0⟩ 5 r10 0 [] x9 fun r12=>ret r12) (fun α pan ret=>?_) ?_
  ·show qd.f (k + 4) ⟨p, 0⟩ pan ret h = _
   rw [qd.f, qd.u18.f, qd.u1.f, qd.u17.f, qd.u15.f, qd.u14.f, qd.u2.f, zaq P, qd.u13.f, c1, cond_true, qd.u3.f]
  ·intro t s1 h1 ls1 q ht hs1 P1 g1 l1 n1 f1
   refine jq.bind (ihu s1 h1 ls1 fs P1) (G:=fun α pan ret r10=>ldI .i64 (((⟨q, 0⟩:Ad).add 1).add 0) fun y11=>need (decide (t.pos = y11)) <| qah.f (k + 3) ⟨p, 0⟩ 5 r10 0 [] t.pos fun r12=>ret r12) (fun α pan ret=>?_) ?_
   ·rw [zbr g1]; rfl
   ·intro y h2 ls2 fs2 hy P2 q2
    have g2:=q2.tok l1 n1 f1 g1
    refine jq.of (jq.lay P2 (k + 2) ⟨5, y.1, 0, [], t.pos⟩ (room hs1 (zim _ _ _ _ _ _ hy))) (QP.refl _ _ _) fun α pan ret=>?_
    rw [zbr g2, jc (by simp)]
 rw [if_neg c1]
 have d1:=Bool.eq_false_iff.2 c1
 -- the two steps
 have steps:∀ (kd:Int) (shut:List UInt8), s.hd.kind = 5->∀ (C:∀ α:Type, (V->M α)->(Int->M α)->M α), (∀ (α:Type) (pan:V->M α) (ret:Int->M α), C α pan ret h = qak.f (k + 3) ⟨p, 0⟩ (fun e=>pan e) (fun r4 r5 r6 r7=>new [.int .i64 0, .int .i64 0, .str [], .int .i64 0] fun t8=>st1 (t8.add 0) (.int .i64 r4) <| st1 (t8.add 1) (.int .i64 r5) <| st1 (t8.add 2) (.str r6) <| st1 (t8.add 3) (.int .i64 r7) <|
   qaq.f (k + 3) ⟨p, 0⟩ shut (fun e=>pan e) fun r21=>ldI .i64 ((t8.add 1).add 0) fun x22=>qd.f (k + 3) ⟨p, 0⟩ (fun e=>pan e) fun r23=>ldI .i64 ((t8.add 1).add 0) fun y24=>need (decide (x22 = y24)) <| qah.f (k + 3) ⟨p, 0⟩ kd r23 0 r21 x22 fun r25=>ret r25) h) ->
   jq h₀ h p tb fs (zab (zat s) fun x=>zab (zfk shut x.2) fun z=>zab (pz j .un 0 z.2) fun y=>.ok (layE ⟨kd, y.1, 0, z.1, x.1.pos⟩ y.2)) C:=by
  intro kd shut hs C hC
  refine jq.makes P (k + 1) (by rw [hs]; decide) (G:=fun α pan ret t8=>qaq.f (k + 3) ⟨p, 0⟩ shut (fun e=>pan e) fun r21=>ldI .i64 ((t8.add 1).add 0) fun x22=>qd.f (k + 3) ⟨p, 0⟩ (fun e=>pan e) fun r23=>ldI .i64 ((t8.add 1).add 0) fun y24=>need (decide (x22 = y24)) <| qah.f (k + 3) ⟨p, 0⟩ kd r23 0 r21 x22 fun r25=>ret r25) hC ?_
  intro t s1 h1 ls1 q ht hs1 P1 g1 l1 n1 f1
  have hst:=step_run P1 k shut
  dsimp only
  cases hse:zfk shut s1 with
  | error e=>
   rw [hse] at hst
   obtain ⟨h', x', e'⟩:=hst
   exact jq.err x' fun α pan ret=>e' α _ _
  | ok z=>
   rw [hse] at hst
   obtain ⟨h2, ls2, e2, P2, q2⟩:=hst
   have g2:=q2.tok l1 n1 f1 g1
   have l2:=Nat.lt_of_lt_of_le l1 q2.nx
   obtain ⟨w1, w2, w3, w4⟩:=zld hse
   have hbal:Bal s1 z.2:=by
    rw [w4]
    have k1:s1.hd.kind ≠ 0:=by
     rcases w1 with w1 | w1
     ·rw [jw w1]; decide
     ·rw [w1.1]; decide
    exact (Bal.adv s1 k1).trans (Bal.adv _ (by rw [jw w3]; decide))
   refine jq.of (h1:=h2) (C':=fun α pan ret=>qd.f (k + 3) ⟨p, 0⟩ (fun e=>pan e) fun r23=>ldI .i64 (((⟨q, 0⟩:Ad).add 1).add 0) fun y24=>need (decide (t.pos = y24)) <| qah.f (k + 3) ⟨p, 0⟩ kd r23 0 z.1 t.pos fun r25=>ret r25) ?_ q2 (fun α pan ret=>by rw [e2, zbr g2])
   refine jq.bind (ihu z.2 h2 ls2 fs P2) (G:=fun α pan ret r23=>ldI .i64 (((⟨q, 0⟩:Ad).add 1).add 0) fun y24=>need (decide (t.pos = y24)) <| qah.f (k + 3) ⟨p, 0⟩ kd r23 0 z.1 t.pos fun r25=>ret r25) (fun α pan ret=>rfl) ?_
   intro y h3 ls3 fs3 hy P3 q3
   have g3:=q3.tok l2 n1 f1 g2
   have hB:=zim _ _ _ _ _ _ hy
   have hB':Bal s1 y.2:=hbal.trans hB
   refine jq.of (jq.lay P3 (k + 2) ⟨kd, y.1, 0, z.1, t.pos⟩ (room hs1 hB')) (QP.refl _ _ _) fun α pan ret=>?_
   rw [zbr g3, jc (by simp)]
 by_cases c2:isS [60] s = true
 ·rw [if_pos c2]
  refine steps 8 [62] (jw c2) _ fun α pan ret=>?_
  show qd.f (k + 4) ⟨p, 0⟩ pan ret h = _
  rw [qd.f, qd.u18.f, qd.u1.f, qd.u17.f, qd.u15.f, qd.u14.f, qd.u2.f, zaq P, qd.u13.f, d1, cond_false, qd.u12.f, qd.u4.f, zaq P, qd.u11.f, c2, cond_true, qd.u5.f]
 rw [if_neg c2]
 have d2:=Bool.eq_false_iff.2 c2
 by_cases c3:isS [91] s = true
 ·rw [if_pos c3]
  refine steps 9 [93] (jw c3) _ fun α pan ret=>?_
  show qd.f (k + 4) ⟨p, 0⟩ pan ret h = _
  rw [qd.f, qd.u18.f, qd.u1.f, qd.u17.f, qd.u15.f, qd.u14.f, qd.u2.f, zaq P, qd.u13.f, d1, cond_false, qd.u12.f, qd.u4.f, zaq P, qd.u11.f, d2, cond_false, qd.u10.f, qd.u6.f, zaq P, qd.u9.f, c3, cond_true, qd.u7.f]
 rw [if_neg c3]
 have d3:=Bool.eq_false_iff.2 c3
 clear steps
 by_cases c4:isS [40] s = true
 ·rw [if_pos c4]
  obtain ⟨h1, ls1, e1, P1, q1⟩:=zfs P (k + 2) (by rw [jw c4]; decide)
  refine jq.of (h1:=h1) (C':=fun α pan ret=>qai.f (k + 3) ⟨p, 0⟩ (fun e=>pan e) fun r48=>qaj.f (k + 3) ⟨p, 0⟩ [41] (fun e=>pan e) (ret r48)) ?_ q1 (fun α pan ret=>by
   show qd.f (k + 4) ⟨p, 0⟩ pan ret h = _
   rw [qd.f, qd.u18.f, qd.u1.f, qd.u17.f, qd.u15.f, qd.u14.f, qd.u2.f, zaq P, qd.u13.f, d1, cond_false, qd.u12.f, qd.u4.f, zaq P, qd.u11.f, d2, cond_false, qd.u10.f, qd.u6.f, zaq P, qd.u9.f, d3, cond_false, qd.u8.f, zaq P, c4, cond_true, e1])
  refine jq.bind (ihf s.adv h1 ls1 fs P1) (G:=fun α pan ret r48=>qaj.f (k + 3) ⟨p, 0⟩ [41] (fun e=>pan e) (ret r48)) (fun α pan ret=>rfl) ?_
  intro y h2 ls2 fs2 hy P2 q2
  have hn:=zin P2 (k + 1) [41]
  cases hne:zdl [41] y.2 with
  | error e=>
   rw [hne] at hn
   exact jq.err P2.ext fun α pan ret=>hn α _ _
  | ok s'=>
   rw [hne] at hn
   obtain ⟨h3, ls3, e3, P3, q3⟩:=hn
   exact ⟨h3, ls3, fs2, fun α pan ret=>e3 α _ _, P3, q3⟩
 rw [if_neg c4]
 have d4:=Bool.eq_false_iff.2 c4
 have start:∀ (α:Type) (pan:V->M α) (ret:Int->M α), cps (k + 4) jj p .un a pan ret h = _:=fun α pan ret=>by
  rw [show cps (k + 4) jj p .un a pan ret = qd.f (k + 4) ⟨p, 0⟩ pan ret from rfl, qd.f, qd.u18.f, qd.u1.f, qd.u17.f, qd.u15.f, qd.u14.f, qd.u2.f, zaq P, qd.u13.f, d1, cond_false, qd.u12.f, qd.u4.f, zaq P, qd.u11.f, d2, cond_false, qd.u10.f, qd.u6.f, zaq P, qd.u9.f, d3, cond_false, qd.u8.f, zaq P, d4, cond_false, p_l P, zbz P.toks (x:=0) (i:=0) rfl P.hd]
 by_cases c5:s.hd.kind = 3
 ·rw [if_pos c5]
  refine jq.makes P (k + 1) (by rw [c5]; decide) (G:=fun α pan ret t58=>ldStr ((t58.add 2).add 0) fun x59=>ldI .i64 ((t58.add 1).add 0) fun x60=>qah.f (k + 3) ⟨p, 0⟩ 4 0 0 x59 x60 fun r61=>ret r61) (fun α pan ret=>(start α pan ret).trans (by rw [dT c5, cond_true])) ?_
  intro t s1 h1 ls1 q ht hs1 P1 g1 l1 n1 f1
  refine jq.of (jq.lay P1 (k + 2) ⟨4, 0, 0, t.text, t.pos⟩ (room hs1 (Bal.refl _))) (QP.refl _ _ _) fun α pan ret=>?_
  rw [zdx g1, zbr g1]
 rw [if_neg c5]
 by_cases c6:s.hd.kind = 2
 rotate_left
 ·rw [if_neg c6]
  refine jq.err P.ext fun α pan ret=>(start α pan ret).trans ?_
  rw [dF c5, cond_false, p_l P, zbz P.toks (x:=0) (i:=0) rfl P.hd, dF c6, cond_false, qd.u16.f, zdf P]
 rw [if_pos c6]
 refine jq.makes P k (by rw [c6]; decide) (G:=fun α pan ret t7=>ldStr ((t7.add 2).add 0) fun x8=>cond (decide (x8 = [116, 116])) (ldI .i64 ((t7.add 1).add 0) fun x9=>qah.f (k + 2) ⟨p, 0⟩ 1 0 0 [] x9 fun r10=>ret r10) <|
   cond (decide (x8 = [102, 102])) (ldI .i64 ((t7.add 1).add 0) fun x11=>qah.f (k + 2) ⟨p, 0⟩ 2 0 0 [] x11 fun r12=>ret r12) <|
   cond (decide (x8 = [109, 117])) (qae.u4.f (k + 2) (fun z0 z1 z2=>qai.f (k + 2) z0 z1 z2) ⟨p, 0⟩ t7 10 ret pan) <| cond (decide (x8 = [110, 117])) (qae.u4.f (k + 2) (fun z0 z1 z2=>qai.f (k + 2) z0 z1 z2) ⟨p, 0⟩ t7 11 ret pan) <|
   ldStr ((t7.add 2).add 0) fun x13=>ldI .i64 ((t7.add 1).add 0) fun x14=>qah.f (k + 2) ⟨p, 0⟩ 3 0 0 x13 x14 fun r15=>ret r15) (fun α pan ret=>(start α pan ret).trans (by
   rw [dF c5, cond_false, p_l P, zbz P.toks (x:=0) (i:=0) rfl P.hd, dT c6, cond_true, qae.f, qae.u5.f, qae.u1.f])) ?_
 intro t s1 h1 ls1 q ht hs1 P1 g1 l1 n1 f1
 have lay0:=fun (n:Nd)=>jq.lay P1 (k + 1) n (room hs1 (Bal.refl _))
 dsimp only
 by_cases e1:t.text = [116, 116]
 ·rw [if_pos e1]
  refine jq.of (lay0 ⟨1, 0, 0, [], t.pos⟩) (QP.refl _ _ _) fun α pan ret=>?_
  rw [zdx g1, dT e1, cond_true, zbr g1]
 rw [if_neg e1]
 by_cases e2:t.text = [102, 102]
 ·rw [if_pos e2]
  refine jq.of (lay0 ⟨2, 0, 0, [], t.pos⟩) (QP.refl _ _ _) fun α pan ret=>?_
  rw [zdx g1, dF e1, cond_false, dT e2, cond_true, zbr g1]
 rw [if_neg e2]
 by_cases e3:t.text = [109, 117] ∨ t.text = [110, 117]
 rotate_left
 ·rw [if_neg e3]
  refine jq.of (lay0 ⟨3, 0, 0, t.text, t.pos⟩) (QP.refl _ _ _) fun α pan ret=>?_
  rw [zdx g1, dF e1, cond_false, dF e2, cond_false, dF (fun h=>e3 (.inl h)), cond_false, dF (fun h=>e3 (.inr h)), cond_false, zdx g1, zbr g1]
 rw [if_pos e3]
 -- a fixpoint
 generalize hkd:(if t.text = [109, 117] then (10:Int) else 11) = kd
 have start2:jq h₀ h1 p tb fs (if s1.hd.kind = 3 then zab (zdl [46] s1.adv) fun z=>zab (pz j (.row true) 0 z) fun y=>.ok (layE ⟨kd, y.1, 0, s1.hd.text, t.pos⟩ y.2) else .error (zce s1)) (fun α pan ret=>qae.u4.f (k + 2) (fun z0 z1 z2=>qai.f (k + 2) z0 z1 z2) ⟨p, 0⟩ ⟨q, 0⟩ kd ret pan):=by
  by_cases h3:s1.hd.kind = 3
  rotate_left
  ·rw [if_neg h3]
   refine jq.err P1.ext fun α pan ret=>?_
   rw [qae.u4.f, qae.u2.f, p_l P1, zbz P1.toks (x:=0) (i:=0) rfl P1.hd, dF h3, Bool.not_false, cond_true, zdf P1]
  rw [if_pos h3]
  obtain ⟨h2, ls2, e2', P2, q2⟩:=zfs P1 (k + 1) (by rw [h3]; decide)
  have g2:=q2.tok l1 n1 f1 g1
  have l2:=Nat.lt_of_lt_of_le l1 q2.nx
  have hn:=zin P2 k [46]
  refine jq.of (h1:=h2) (C':=fun α pan ret=>qaj.f (k + 2) ⟨p, 0⟩ [46] (fun e=>pan e) (ldI .i64 (((⟨q, 0⟩:Ad).add 1).add 0) fun x9=>qai.f (k + 2) ⟨p, 0⟩ (fun e=>pan e) fun r10=>ldI .i64 (((⟨q, 0⟩:Ad).add 1).add 0) fun y11=>need (decide (x9 = y11)) <| qah.f (k + 2) ⟨p, 0⟩ kd r10 0 s1.hd.text x9 fun r12=>ret r12)) ?_ q2 (fun α pan ret=>by
   rw [qae.u4.f, qae.u2.f, p_l P1, zbz P1.toks (x:=0) (i:=0) rfl P1.hd, dT h3, Bool.not_true, cond_false, qae.u3.f, e2'])
  cases hne:zdl [46] s1.adv with
  | error e=>
   rw [hne] at hn
   exact jq.err P2.ext fun α pan ret=>hn α _ _
  | ok s'=>
   rw [hne] at hn
   obtain ⟨h3', ls3, e3', P3, q3⟩:=hn
   have g3:=q3.tok l2 n1 f1 g2
   have l3:=Nat.lt_of_lt_of_le l2 q3.nx
   obtain ⟨w1, w2⟩:=zgd hne
   have hbal:Bal s1 s':=by
    rw [w2]
    exact (Bal.adv s1 (by rw [h3]; decide)).trans (Bal.adv _ (by rw [jw w1]; decide))
   refine jq.of (h1:=h3') (C':=fun α pan ret=>qai.f (k + 2) ⟨p, 0⟩ (fun e=>pan e) fun r10=>ldI .i64 (((⟨q, 0⟩:Ad).add 1).add 0) fun y11=>need (decide (t.pos = y11)) <| qah.f (k + 2) ⟨p, 0⟩ kd r10 0 s1.hd.text t.pos fun r12=>ret r12) ?_ q3 (fun α pan ret=>by rw [e3', zbr g3])
   refine jq.bind (ihw s' h3' ls3 fs P3) (G:=fun α pan ret r10=>ldI .i64 (((⟨q, 0⟩:Ad).add 1).add 0) fun y11=>need (decide (t.pos = y11)) <| qah.f (k + 2) ⟨p, 0⟩ kd r10 0 s1.hd.text t.pos fun r12=>ret r12) (fun α pan ret=>rfl) ?_
   intro y h4 ls4 fs4 hy P4 q4
   have g4:=q4.tok l3 n1 f1 g3
   have hB:=zim _ _ _ _ _ _ hy
   have hB':Bal s1 y.2:=hbal.trans hB
   refine jq.of (jq.lay P4 (k + 1) ⟨kd, y.1, 0, s1.hd.text, t.pos⟩ (room hs1 hB')) (QP.refl _ _ _) fun α pan ret=>?_
   rw [zbr g4, jc (by simp)]
 refine jq.of start2 (QP.refl _ _ _) fun α pan ret=>?_
 by_cases e4:t.text = [109, 117]
 ·rw [if_pos e4] at hkd
  rw [zdx g1, dF e1, cond_false, dF e2, cond_false, dT e4, cond_true, hkd]
 ·rw [if_neg e4] at hkd
  rw [zdx g1, dF e1, cond_false, dF e2, cond_false, dF e4, cond_false, dT (e3.resolve_left e4), cond_true, hkd]
theorem pz_run:∀ (j:Nat) (r:Rl) (a:Int) (s:St) (h:H) (ls fs:Sl) (k jj:Nat), 2 * j + 20≤k->j≤jj->PS h₀ h p tb ls fs s->jq h₀ h p tb fs (pz j r a s) (fun α=>cps k jj p r a):=by
 intro j
 induction j with
 | zero=>intro r a s h ls fs k jj hk hj P; exact fun h=>absurd rfl h
 | succ j ih=>
  intro r a s h ls fs k jj hk hj P
  cases r with
  | un=>exact pz_un k j ih a s h ls fs jj hk P
  | row o=>exact pz_row o k j ih a s h ls fs jj hk P
  | loop o=>
   obtain ⟨jj, rfl⟩:∃ q, jj = q + 1:=⟨jj - 1, by omega⟩
   exact pz_loop o k j ih a s h ls fs jj (by omega) (by omega) P
end Go.Ab.S7
namespace Go.Ab.S7
variable {α:Type} {h:H}
def zbp (t:Tok):Bool:=decide (t.kind = 1)
theorem c2_run (k:Nat) (t:Tok) (ret:Bool->M α):qbe.f (k + 1) t.kind t.pos t.text t.num ret h = ret (zbp t) (h.push (tkC t)):=by
 rw [qbe.f, qbe.u1.f, jk rfl, jn (n:=t.kind) (by simp only [jg]; rw [yb]; rfl)]
 rfl
theorem find_tok {h₀:H} {s:Sl} {l:List Tok} (r:TkR h₀ s l) (hl:l.length≤4611686018427387900) (k:Nat):∀ (j n:Nat) (h:H), n≤l.length->l.length - n < j->Ext h₀ h->∃ h', Ext h₀ h' ∧ ∀ (α:Type) (kr:Int->M α) (kx:M α),
  qv.u4.l (k + 1) kr kx j s (l.length:Int) (n:Int) h = (match (l.drop n).findIdx? zbp with | some i=>kr ((n + i:Nat):Int) h' | none=>kx h'):=by
 intro j
 induction j with
 | zero=>intro n h hn hj; omega
 | succ j ih=>
  intro n h hn hj x
  by_cases hlt:n < l.length
  rotate_left
  ·refine ⟨h, x, fun α kr kx=>?_⟩
   rw [qv.u4.l, qv.u3.f, dF (by omega:¬ (n:Int) < (l.length:Int)), cond_false, List.drop_of_length_le (by omega)]
   rfl
  have hn':l[n]? = some l[n]:=List.getElem?_eq_getElem hlt
  rw [List.drop_eq_getElem_cons hlt, List.findIdx?_cons]
  generalize l[n] = t at hn'
  have x1:Ext h (h.push (tkC t)):=(Ext.refl h).push _
  have start:∀ (α:Type) (kr:Int->M α) (kx:M α), qv.u4.l (k + 1) kr kx (j + 1) s (l.length:Int) (n:Int) h = cond (zbp t) (kr (n:Int)) (qv.u4.l (k + 1) kr kx j s (l.length:Int) (w64 ((n:Int) + 1))) (h.push (tkC t)):=fun α kr kx=>by
   rw [qv.u4.l, qv.u3.f, dT (by omega:(n:Int) < (l.length:Int)), cond_true, tk_all (r.ext x) rfl hn', c2_run]
  cases hlt':zbp t with
  | true=>
   rw [hlt'] at start
   exact ⟨_, x.trans x1, start⟩
  | false=>
   rw [hlt'] at start
   obtain ⟨h', x', e'⟩:=ih (n + 1) _ (by omega) (by omega) (x.trans x1)
   refine ⟨h', x', fun α kr kx=>?_⟩
   rw [start, cond_false, zw (by omega) (by omega)]
   refine (e' α kr kx).trans ?_
   cases hf:(l.drop (n + 1)).findIdx? zbp with
   | none=>rfl
   | some i=>
    show kr _ h' = kr _ h'
    rw [show n + 1 + i = n + (i + 1) by omega]
theorem zgg (B:List Tok) (i:Nat) (x y:Tok) (j:Nat) (v:V) (hx:B[i]? = some x) (hy:y.cells = x.cells.set j v) (hj:j < 4):(jx B).set (i * 4 + j) v = jx (B.set i y):=
 zen (c:=Tok.cells) Tok.len B i x y j v hx hy hj
theorem tok_st {s:Sl} {B:List Tok} (o:Own h s 4 (jx B)) {x:Int} {i:Nat} (t:Tok) (hx:x = (i:Int)) (hi:i < B.length) :
  ∃ h', (∀ (α:Type) (K:M α), idxSl s x 4 (fun a=>st1 (a.add 0) (.int .i64 t.kind) <| st1 (a.add 1) (.int .i64 t.pos) <| st1 (a.add 2) (.str t.text) <| st1 (a.add 3) (.int .i64 t.num) K) h = K h') ∧ Own h' s 4 (jx (B.set i t)) ∧ h'.next = h.next ∧ ∀ i, i ≠ s.id->h'.get i = h.get i:=by
 have hb:B[i]? = some B[i]:=List.getElem?_eq_getElem hi
 have hll:∀ C:List Tok, C.length = B.length->∀ j, j < 4->i * 4 + j < (jx C).length:=fun C hC j hj=>by rw [show (jx C).length = C.length * 4 from zbd Tok.len C, hC]; omega
 obtain ⟨h1, e1, o1, n1, g1⟩:=zcp o (n:=i * 4 + 0) (v:=.int .i64 t.kind) rfl (hll B rfl 0 (by decide))
 rw [zgg B i B[i] ⟨t.kind, B[i].pos, B[i].text, B[i].num⟩ 0 _ hb rfl (by decide)] at o1
 obtain ⟨h2, e2, o2, n2, g2⟩:=zcp o1 (n:=i * 4 + 1) (v:=.int .i64 t.pos) rfl (hll _ (by simp) 1 (by decide))
 rw [zgg _ i ⟨t.kind, B[i].pos, B[i].text, B[i].num⟩ ⟨t.kind, t.pos, B[i].text, B[i].num⟩ 1 _ (by rw [List.getElem?_set_self (by omega)]) rfl (by decide), List.set_set] at o2
 obtain ⟨h3, e3, o3, n3, g3⟩:=zcp o2 (n:=i * 4 + 2) (v:=.str t.text) rfl (hll _ (by simp) 2 (by decide))
 rw [zgg _ i ⟨t.kind, t.pos, B[i].text, B[i].num⟩ ⟨t.kind, t.pos, t.text, B[i].num⟩ 2 _ (by rw [List.getElem?_set_self (by omega)]) rfl (by decide), List.set_set] at o3
 obtain ⟨h4, e4, o4, n4, g4⟩:=zcp o3 (n:=i * 4 + 3) (v:=.int .i64 t.num) rfl (hll _ (by simp) 3 (by decide))
 rw [zgg _ i ⟨t.kind, t.pos, t.text, B[i].num⟩ t 3 _ (by rw [List.getElem?_set_self (by omega)]) rfl (by decide), List.set_set] at o4
 refine ⟨h4, fun α K=>?_, o4, by omega, fun j hj=>by rw [g4 j hj, g3 j hj, g2 j hj, g1 j hj]⟩
 rw [zcy o.rd hx (by rw [zgl o.rd]; exact hi)]
 simp only [yl]
 rw [e1, e2, e3, e4]
theorem del_loop {h₀:H} {s:Sl} {l:List Tok} (hl:l.length≤4611686018427387900) (h00:h₀.next≤s.id) (k:Nat):∀ (j n w:Nat) (B:List Tok) (h:H), n≤l.length->l.length - n < j->w < n->B.length = l.length->B.take w = (l.take n).filter (fun t=>!zbp t)->B.drop n = l.drop n->Own h s 4 (jx B)->Ext h₀ h ->
  ∃ (w':Nat) (B':List Tok) (h':H), (∀ (α:Type) (kx:Sl->Int->M α), qr.u4.l (k + 1) kx j s (w:Int) (n:Int) h = kx s (w':Int) h') ∧ w' < l.length ∧ B'.length = l.length ∧ B'.take w' = l.filter (fun t=>!zbp t) ∧ Own h' s 4 (jx B') ∧ Ext h₀ h' ∧ h.next≤h'.next:=by
 intro j
 induction j with
 | zero=>intro n w B h hn hj; omega
 | succ j ih=>
  intro n w B h hn hj hw hB ht hd o x
  have hsl:s.len = l.length:=by rw [zgl o.rd, hB]
  by_cases hlt:n < l.length
  rotate_left
  ·refine ⟨w, B, h, fun α kx=>?_, by omega, hB, by rw [ht, List.take_of_length_le (by omega)], o, x, Nat.le_refl _⟩
   rw [qr.u4.l, qr.u3.f, hsl, dF (by omega:¬ (n:Int) < (l.length:Int)), cond_false]
  have hn':l[n]? = some l[n]:=List.getElem?_eq_getElem hlt
  have hBn:B[n]? = some l[n]:=by
   have:=congrArg (fun l:List Tok=>l[0]?) hd
   simp only [List.getElem?_drop, Nat.add_zero] at this
   rw [this, hn']
  have hdn:B.drop (n + 1) = l.drop (n + 1):=by
   have:=congrArg (List.drop 1) hd
   simpa [List.drop_drop] using this
  have htk:(l.take (n + 1)).filter (fun t=>!zbp t) = (l.take n).filter (fun t=>!zbp t) ++ (if zbp l[n] = true then [] else [l[n]]):=by
   rw [List.take_add_one, hn', List.filter_append]
   cases hq:zbp l[n] <;> simp [hq]
  generalize l[n] = t at *
  have x1:Ext h ((h.push (tkC t)).push (tkC t)):=((Ext.refl h).push _).push _
  have hq1:(h.push (tkC t)).get h.next = some (tkC t):=by rw [zk, if_pos rfl]
  have hq2:((h.push (tkC t)).push (tkC t)).get h.next = some (tkC t):=by rw [zk, if_neg (by rw [zj]; omega), zk, if_pos rfl]
  have start:∀ (α:Type) (kx:Sl->Int->M α), qr.u4.l (k + 1) kx (j + 1) s (w:Int) (n:Int) h = _:=fun α kx=>by
   rw [qr.u4.l, qr.u3.f, hsl, dT (by omega:(n:Int) < (l.length:Int)), cond_true, tk_all o.rd rfl hBn, zke, zho hq1, c2_run]
  have hnx:((h.push (tkC t)).push (tkC t)).next = h.next + 2:=rfl
  generalize (h.push (tkC t)).push (tkC t) = h2 at start x1 hq2 hnx
  cases hq:zbp t with
  | true=>
   rw [hq] at start htk
   simp only [if_true, List.append_nil] at htk
   obtain ⟨w', B', h', e', r'⟩:=ih (n + 1) w B h2 (by omega) (by omega) (by omega) hB (by rw [htk]; exact ht) hdn (o.ext x1) (x.trans x1)
   refine ⟨w', B', h', fun α kx=>?_, r'.1, r'.2.1, r'.2.2.1, r'.2.2.2.1, r'.2.2.2.2.1, by have:=r'.2.2.2.2.2; omega⟩
   rw [start, Bool.not_true, cond_false, zw (by omega) (by omega)]
   exact e' α kx
  | false=>
   rw [hq] at start htk
   simp only [Bool.false_eq_true, if_false] at htk
   obtain ⟨h3, e3, o3, n3, g3⟩:=tok_st (o.ext x1) (x:=(w:Int)) (i:=w) t rfl (by omega)
   have x3:Ext h₀ h3:=⟨by have:=x.1; omega, fun i hi=>by rw [g3 i (by omega), x1.2 i (by have:=x.1; omega), x.2 i hi]⟩
   have htw:(B.set w t).take (w + 1) = (l.take (n + 1)).filter (fun t=>!zbp t):=by
    rw [htk, ← ht, List.take_add_one, List.getElem?_set_self (by omega), List.take_set_of_le (Nat.le_refl _)]
    rfl
   obtain ⟨w', B', h', e', r'⟩:=ih (n + 1) (w + 1) (B.set w t) h3 (by omega) (by omega) (by omega) (by simp [hB]) htw (by rw [List.drop_set_of_lt (by omega)]; exact hdn) o3 x3
   refine ⟨w', B', h', fun α kx=>?_, r'.1, r'.2.1, r'.2.2.1, r'.2.2.2.1, r'.2.2.2.2.1, by have:=r'.2.2.2.2.2; omega⟩
   rw [start, Bool.not_false, cond_true, zho hq2, e3, zw (by omega) (by omega), zw (by omega) (by omega)]
   exact e' α kx
theorem del_run (k:Nat) {s:Sl} {l:List Tok} (h₀ h:H) (x:Ext h₀ h) (o:Own h s 4 (jx l)) (h00:h₀.next≤s.id) (hfine:s.fine 4) (hk:l.length + 4≤k) (hl:l.length≤4611686018427387900) :
  ∃ h' s', (∀ (α:Type) (ret:Sl->M α), qr.f (k + 1) s ret h = ret s' h') ∧ TkR h' s' (l.filter (fun t=>!zbp t)) ∧ s'.fine 4 ∧ s'.ad = s.ad ∧ Ext h₀ h' ∧ h.next≤h'.next:=by
 obtain ⟨k, rfl⟩:∃ q, k = q + 2:=⟨k - 2, by omega⟩
 have hsl:s.len = l.length:=zgl o.rd
 obtain ⟨h1, x1, e1⟩:=find_tok o.rd hl k (k + 1) 0 h (Nat.zero_le _) (by omega) (Ext.refl h)
 rw [List.drop_zero] at e1
 have start:∀ (α:Type) (ret:Sl->M α), qr.f (k + 3) s ret h = qv.u4.l (k + 1) (fun r3=>cond (decide (r3 = (-1))) (ret s) (qr.u8.f (k + 2) s r3 ret)) (cond (decide ((-1:Int) = (-1))) (ret s) (qr.u8.f (k + 2) s (-1) ret)) (k + 1) s (l.length:Int) ((0:Nat):Int) h:=fun α ret=>by
  rw [qr.f, qr.u9.f, qr.u1.f, qv.f, qv.u9.f, qv.u1.f, qv.u8.f, qv.u6.f, qv.u2.f, hsl, qv.u5.f, qv.u4.f, qv.u7.f]
  rfl
 cases hf:l.findIdx? zbp with
 | none=>
  rw [hf] at e1
  have hnone:l.filter (fun t=>!zbp t) = l:=by
   rw [List.findIdx?_eq_none_iff] at hf
   exact List.filter_eq_self.2 fun t ht=>by rw [hf t ht]; rfl
  refine ⟨h1, s, fun α ret=>?_, by rw [hnone]; exact o.rd.ext x1, hfine, rfl, x.trans x1, x1.1⟩
  rw [start, e1]
  rfl
 | some i=>
  rw [hf] at e1
  have hfi:=hf
  rw [List.findIdx?_eq_some_iff_getElem] at hf
  obtain ⟨hi, hp, hno⟩:=hf
  have htk:(l.take (i + 1)).filter (fun t=>!zbp t) = l.take i:=by
   rw [List.take_add_one, List.getElem?_eq_getElem hi, List.filter_append]
   have h1:(l.take i).filter (fun t=>!zbp t) = l.take i:=by
    refine List.filter_eq_self.2 fun t ht=>?_
    obtain ⟨q, hq, rfl⟩:=List.getElem_of_mem ht
    rw [List.getElem_take]
    have hqi:q < i:=by simp at hq; omega
    have:=hno q hqi
    simp at this
    simp [this]
   rw [h1]
   simp [hp]
  obtain ⟨w', B', h2, e2, w1, w2, w3, w4, w5, w6⟩:=del_loop (h₀:=h₀) (s:=s) (l:=l) hl h00 (k + 1) (k + 2) (i + 1) i l h1 (by omega) (by omega) (by omega) rfl htk.symm rfl (o.ext x1) (x.trans x1)
  obtain ⟨id, more, g1, g2, g3⟩:=w4.blk
  have hs2:s.len = B'.length:=zgl w4.rd
  have hcl:(jx B').length = B'.length * 4:=zbd Tok.len B'
  -- the rest is cleared
  have hover:over (jx B' ++ more) (w' * 4) ((List.replicate (s.len - w') [V.int .i64 0, .int .i64 0, .str [], .int .i64 0]).flatten) = jx (B'.take w') ++ ((List.replicate (s.len - w') [V.int .i64 0, .int .i64 0, .str [], .int .i64 0]).flatten ++ more):=by
   unfold over
   have hz:((List.replicate (s.len - w') [V.int .i64 0, .int .i64 0, .str [], .int .i64 0]).flatten).length = (s.len - w') * 4:=by simp
   rw [hz, List.take_append_of_le_length (by omega), show (jx B').take (w' * 4) = jx (B'.take w') from zck (c:=Tok.cells) Tok.len B' w', List.drop_append, List.drop_of_length_le (by omega), List.nil_append, hcl, show w' * 4 + (s.len - w') * 4 - B'.length * 4 = 0 by omega, List.drop_zero]
  generalize hZ:(List.replicate (s.len - w') [V.int .i64 0, .int .i64 0, .str [], .int .i64 0]).flatten = Z at hover
  have hZl:Z.length = (s.len - w') * 4:=by rw [← hZ]; simp
  have hfrom:s.from w' s.cap 4 = some ⟨id, w' * 4⟩:=by
   unfold Sl.from
   rw [g1]
   have hne:s.cap ≠ w':=by have:=hfine.1; omega
   cases hlo:s.loose with
   | none=>dsimp only; rw [yp hne, cond_false]; simp [Ad.add]
   | some e=>dsimp only; simp [Ad.add]
  refine ⟨h2.put id (some (.cells (jx (B'.take w') ++ (Z ++ more)) true)), ⟨s.ad, w', s.cap, s.loose⟩, fun α ret=>?_, ?_, ⟨by show w'≤s.cap; have:=hfine.1; omega, hfine.2⟩, rfl, ?_, ?_⟩
  ·rw [start, e1]
   dsimp only
   rw [dF (by omega:¬ ((0 + i:Nat):Int) = -1), cond_false, qr.u8.f, qr.u6.f, qr.u2.f, zw (by omega) (by omega), qr.u5.f, qr.u4.f]
   rw [show ((0 + i:Nat):Int) = (i:Int) by omega, show ((i:Int) + 1) = ((i + 1:Nat):Int) by omega, e2, qr.u7.f, zhs hfine rfl (by omega)]
   unfold zkk
   dsimp only
   rw [hfrom]
   dsimp only
   rw [jc (by rfl), hZ]
   unfold zjb H.setRow
   dsimp only
   rw [g2]
   dsimp only
   rw [show Nat.ble (w' * 4 + Z.length) (jx B' ++ more).length = true from Nat.ble_eq_true_of_le (by rw [List.length_append, hZl, hcl]; omega), cond_true, hover]
   dsimp only
   rw [zgz hfine rfl (by have:=hfine.1; omega)]
  ·have hg:(h2.put id (some (.cells (jx (B'.take w') ++ (Z ++ more)) true))).get id = some (.cells (jx (B'.take w') ++ (Z ++ more)) true):=jt _ _ _
   rw [← w3]
   have hcl':(jx (B'.take w')).length = w' * 4:=by rw [show (jx (B'.take w')).length = (B'.take w').length * 4 from zbd Tok.len _, List.length_take, Nat.min_eq_left (by omega)]
   refine ⟨hcl', fun a ha=>?_, fun ha=>by rw [g1] at ha; cases ha⟩
   rw [g1] at ha
   cases ha
   refine ⟨?_, g3⟩
   rw [zct (a:=⟨id, 0⟩) hg (by show 0 + _≤_; rw [List.length_append]; omega), List.drop_zero, List.take_left]
  ·refine w5.put _ ?_
   have:s.id = id:=by unfold Sl.id; rw [g1]; rfl
   omega
  ·show h.next≤h2.next
   have:=x1.1
   omega
end Go.Ab.S7
namespace Go.Ab.S7
variable {α:Type} {h:H}
theorem znt (a:Ad) (i:Nat) (K:M α):stL a i [] K = K:=rfl
def parseF (text:List UInt8):Except Er (List Nd):=
 match zhr text with
 | .error (m, e)=>.error ((m:Int), e)
 | .ok ts=>parseE (ts.filter fun t=>!zbp t)
theorem tokF_kind {text:List UInt8} {n:Nat} {c:UInt8} (h:(tokF text n c).2 = 0):(tokF text n c).1.kind ≠ 0:=by
 unfold tokF at h ⊢
 by_cases h0:yn c.toNat = 0
 ·rw [if_pos h0] at h; exact absurd (show (3:Int) = 0 from h) (by decide)
 ·rw [if_neg h0]
  by_cases h2:yn c.toNat = 2 ∨ yn c.toNat = 3
  ·rw [if_pos h2]; exact h0
  ·rw [if_neg h2]
   by_cases h4:yn c.toNat = 4
   ·rw [if_pos h4]; split <;> (show (4:Int) ≠ 0; decide)
   ·rw [if_neg h4]; exact h0
theorem Sc.kinds {text:List UInt8} {n m:Nat} {ts:List Tok} (s:Sc text n ts m):∀ t ∈ ts, t.kind ≠ 0:=by
 induction s with
 | nil _=>intro t ht; cases ht
 | blank _ _ _ ih=>exact ih
 | rem _ _ _ _ ih=>exact ih
 | tok _ _ _ he _ ih=>
  intro t ht
  rcases List.mem_cons.1 ht with rfl | ht
  ·exact tokF_kind he
  ·exact ih t ht
theorem znr:∀ (l:List Tok) (e:Tok), (∀ t ∈ l, t.kind ≠ 0)->e.kind = 0->Ends (l ++ [e])
 | [], e, _, he=>he
 | [t], e, hl, he=>⟨hl t List.mem_cons_self, he⟩
 | t :: u :: l, e, hl, he=>⟨hl t List.mem_cons_self, znr (u :: l) e (fun t ht=>hl t (List.mem_cons_of_mem _ ht)) he⟩
theorem scan_ends {text:List UInt8} {ts:List Tok} (h:zhr text = .ok ts):Ends (ts.filter fun t=>!zbp t) ∧ ts ≠ [] ∧ ts.length≤text.length + 1 ∨ False:=by
 rcases zqm text with ⟨_, hs⟩ | ⟨hl, us, sc, hs⟩ | ⟨_, _, _, _, _, _, hs⟩
 ·rw [hs] at h; cases h
 ·rw [hs] at h
  cases h
  left
  refine ⟨?_, by simp, ?_⟩
  ·rw [List.filter_append]
   exact znr _ _ (fun t ht=>sc.kinds t (List.mem_filter.1 ht).1) rfl
  ·have a1:=All_run (262144 + 6) text (by omega) h0
   rw [hs] at a1
   obtain ⟨_, _, _, _, _, _, h5, _⟩:=a1
   exact h5
 ·rw [hs] at h; cases h
theorem zsb (ts:List Tok):(ts.filter fun t=>!zbp t).length≤ts.length:=List.length_filter_le _ _
theorem parse_run (k:Nat) (hk:3000000≤k) (text:List UInt8) (h:H) :
  match parseF text with
  | .ok l=>∃ h' s, (∀ (α:Type) (ret:Sl->V->M α), qaf.f (k + 1) text ret h = ret s .nilIface h') ∧ Ext h h' ∧ App h' s 5 (cN l) ∧ zah h s
  | .error e=>∃ h' q, (∀ (α:Type) (ret:Sl->V->M α), qaf.f (k + 1) text ret h = ret Sl.nil (.iface 62 (.ptr (some ⟨q, 0⟩))) h') ∧ Ext h h' ∧ h.next≤q ∧ q < h'.next ∧ h'.get q = some (.cells [.int .i64 e.1, .int .i64 e.2] true):=by
 obtain ⟨k, rfl⟩:∃ q, k = q + 2:=⟨k - 2, by omega⟩
 -- the two results' cells
 have x2:Ext h ((h.push (.cells [.slice Sl.nil] true)).push (.cells [.nilIface] true)):=((Ext.refl h).push _).push _
 have g3:((h.push (.cells [.slice Sl.nil] true)).push (.cells [.nilIface] true)).get h.next = some (.cells [.slice Sl.nil] true):=by rw [zk, if_neg (by rw [zj]; omega), zk, if_pos rfl]
 have g4:((h.push (.cells [.slice Sl.nil] true)).push (.cells [.nilIface] true)).get (h.next + 1) = some (.cells [.nilIface] true):=by rw [zk, if_pos (by rw [zj])]
 have hn2:((h.push (.cells [.slice Sl.nil] true)).push (.cells [.nilIface] true)).next = h.next + 2:=rfl
 have start:∀ (α:Type) (ret:Sl->V->M α), qaf.f (k + 3) text ret h = _:=fun α ret=>by
  rw [qaf.f, qaf.u1.f, jk rfl, jk rfl]
 rw [show (h.push (.cells [.slice Sl.nil] true)).next = h.next + 1 from rfl] at start
 generalize (h.push (.cells [.slice Sl.nil] true)).push (.cells [.nilIface] true) = h2 at start x2 g3 g4 hn2
 have a1:=All_run (k + 1) text (by omega) h2
 unfold parseF
 cases hsc:zhr text with
 | error me=>
  rw [hsc] at a1
  obtain ⟨m, e⟩:=me
  obtain ⟨q, h5, e5, x5, hq1, hq2, g5⟩:=a1
  dsimp only
  have g4':h5.get (h.next + 1) = some (.cells [.nilIface] true):=by rw [x5.2 _ (by omega)]; exact g4
  have g3':h5.get h.next = some (.cells [.slice Sl.nil] true):=by rw [x5.2 _ (by omega)]; exact g3
  have hqn:q ≠ h.next + 1:=by omega
  -- the error is laid down, twice
  refine ⟨((h5.put (h.next + 1) (some (.cells [.iface 62 (.ptr (some ⟨q, 0⟩))] true))).put h.next (some (.cells [.slice Sl.nil] true))).put (h.next + 1) (some (.cells [.iface 62 (.ptr (some ⟨q, 0⟩))] true)), q, fun α ret=>?_, ?_, by omega, ?_, ?_⟩
  ·rw [start, e5]
   rw [jc (by rfl)]
   show (st1 ((⟨h.next + 1, 0⟩:Ad).add 0) (.iface 62 (.ptr (some ⟨q, 0⟩))) _) h5 = _
   simp only [jg, Nat.zero_add]
   rw [yv (a:=⟨h.next + 1, 0⟩) g4' rfl (by simp), znt]
   rw [zdt (v:=.iface 62 (.ptr (some ⟨q, 0⟩))) (by rw [jf (a:=⟨h.next + 1, 0⟩) (jt _ _ _)]; rfl)]
   rw [zjp, Bool.not_false, cond_true]
   rw [zdt (v:=.iface 62 (.ptr (some ⟨q, 0⟩))) (by rw [jf (a:=⟨h.next + 1, 0⟩) (jt _ _ _)]; rfl)]
   rw [yv (a:=⟨h.next, 0⟩) (by rw [zi, if_neg (by show h.next ≠ h.next + 1; omega)]; exact g3') rfl (by simp)]
   have hs:∀ (K K':M α), zjs (.iface 62 (.ptr (some ⟨q, 0⟩))) K K' = K':=fun _ _=>rfl
   rw [hs]
   have gq:((h5.put (h.next + 1) (some (.cells (([V.nilIface]).set 0 (.iface 62 (.ptr (some ⟨q, 0⟩)))) true))).put h.next (some (.cells (([V.slice Sl.nil]).set 0 (.slice Sl.nil)) true))).get (h.next + 1) = some (.cells [.iface 62 (.ptr (some ⟨q, 0⟩))] true):=by
    rw [zi, if_neg (by omega), zi, if_pos rfl]; rfl
   rw [zdt (v:=.iface 62 (.ptr (some ⟨q, 0⟩))) (by rw [jf (a:=⟨h.next + 1, 0⟩) gq]; rfl)]
   have hlk:∀ (K:M α), zmy (V.cells (.iface 62 (.ptr (some ⟨q, 0⟩)))) [.iface 62 (.ptr (some ⟨q, 0⟩))] K = need (Nat.beq 62 62) (need (decide ((some (⟨q, 0⟩:Ad)) = some ⟨q, 0⟩)) K):=fun _=>rfl
   rw [hlk, jc (by rfl), jc (by simp), jc (by rfl)]
   show (st1 ((⟨h.next + 1, 0⟩:Ad).add 0) (.iface 62 (.ptr (some ⟨q, 0⟩))) _) _ = _
   simp only [jg, Nat.zero_add]
   rw [yv (a:=⟨h.next + 1, 0⟩) gq rfl (by simp), znt]
   rw [zbb (n:=Sl.nil) (by rw [jf (a:=⟨h.next, 0⟩) (cs:=[.slice Sl.nil]) (o:=true) (by rw [zi, if_neg (by show h.next ≠ h.next + 1; omega), zi, if_pos rfl]; rfl)]; rfl)]
   rw [zdt (v:=.iface 62 (.ptr (some ⟨q, 0⟩))) (by rw [jf (a:=⟨h.next + 1, 0⟩) (jt _ _ _)]; rfl)]
   rfl
  ·exact (((x2.trans x5).put _ (by omega)).put _ (Nat.le_refl _)).put _ (by omega)
  ·show q < h5.next
   exact hq2
  ·rw [zi, if_neg hqn, zi, if_neg (by omega), zi, if_neg hqn]
   exact g5
 | ok ts=>
  rw [hsc] at a1
  obtain ⟨sl, h5, e5, x5, r5, o5, b5, hl⟩:=a1
  dsimp only
  obtain ⟨hends, hne, hlen⟩:=(scan_ends hsc).resolve_right id
  have g4':h5.get (h.next + 1) = some (.cells [.nilIface] true):=by rw [x5.2 _ (by omega)]; exact g4
  have g3':h5.get h.next = some (.cells [.slice Sl.nil] true):=by rw [x5.2 _ (by omega)]; exact g3
  -- the tokens are the run's own
  obtain ⟨id, s1, s2, s3, s4⟩:∃ id, sl = ⟨some ⟨id, 0⟩, sl.len, sl.len, some 4⟩ ∧ h5.get id = some (.cells (jx ts) true) ∧ (jx ts).length = sl.len * 4 ∧ id < h5.next:=by
   rcases r5 with ⟨r1, r2⟩ | r
   ·exfalso
    obtain ⟨t, r, rfl⟩:∃ t r, ts = t :: r:=by cases ts with | nil=>exact absurd rfl hne | cons t r=>exact ⟨t, r, rfl⟩
    simp [jx, Tok.cells] at r2
   ·exact r
  have hidad:sl.ad = some ⟨id, 0⟩:=by rw [s1]
  have hsid:sl.id = id:=by unfold Sl.id; rw [hidad]; rfl
  have hid0:h2.next≤id:=o5 ⟨id, 0⟩ hidad
  -- nothing is laid down as an error
  have hput:h5.put (h.next + 1) (some (.cells [.nilIface] true)) = h5:=by
   rw [← g4']
   unfold H.put
   cases h5 with
   | mk nx gt=>
    simp only [H.mk.injEq, true_and]
    funext j
    by_cases e:j = h.next + 1
    ·subst e; simp
    ·rw [yp e]; rfl
  have start2:∀ (α:Type) (ret:Sl->V->M α), qaf.f (k + 3) text ret h = qaf.u2.f (k + 2) ⟨h.next, 0⟩ ⟨h.next + 1, 0⟩ sl (fun z0 z1=>qaf.C.u1.f (k + 2) ⟨h.next, 0⟩ ⟨h.next + 1, 0⟩ .nilIface (ldS (z0.add 0) fun o501=>ld (z1.add 0) fun o502=>ret o501 o502))
    (fun v=>qaf.C.u1.f (k + 2) ⟨h.next, 0⟩ ⟨h.next + 1, 0⟩ v (ldS ((⟨h.next, 0⟩:Ad).add 0) fun o501=>ld ((⟨h.next + 1, 0⟩:Ad).add 0) fun o502=>ret o501 o502)) h5:=fun α ret=>by
   rw [start, e5, jc (by rfl)]
   show (st1 ((⟨h.next + 1, 0⟩:Ad).add 0) .nilIface _) h5 = _
   simp only [jg, Nat.zero_add]
   rw [yv (a:=⟨h.next + 1, 0⟩) g4' rfl (by simp), znt]
   rw [show ([V.nilIface].set (⟨h.next + 1, 0⟩:Ad).off V.nilIface) = [V.nilIface] from rfl]
   dsimp only
   rw [hput, zdt (v:=.nilIface) (by rw [jf (a:=⟨h.next + 1, 0⟩) g4']; rfl), ziq, Bool.not_true, cond_false]
  clear start
  have own5:Own h5 sl 4 (jx ts):=⟨s3, id, [], hidad, by rw [List.append_nil]; exact s2, s4⟩
  have hfine:sl.fine 4:=by rw [s1]; exact ⟨Nat.le_refl _, .inr rfl⟩
  obtain ⟨h6, s6, e6, r6, f6, a6, x6, n6⟩:=del_run (k + 1) h2 h5 x5 own5 (by rw [hsid]; exact hid0) hfine (by omega) (by omega)
  have hl6:=zsb ts
  generalize ts.filter (fun t=>!zbp t) = us at hends r6 hl6
  have x26:=x2.trans x6
  -- the parser
  have x7:Ext h6 (h6.push (.cells [.slice s6, .int .i64 0, .slice Sl.nil] true)):=(Ext.refl h6).push _
  have hid6:id < h6.next:=by omega
  have P7:PS h2 (h6.push (.cells [.slice s6, .int .i64 0, .slice Sl.nil] true)) h6.next id s6 Sl.nil ⟨us, 0, []⟩:=by
   refine ⟨x6.trans x7, x6.1, by rw [zj]; omega, by rw [zk, if_pos rfl]; rfl, r6.ext x7, f6, App.nilSl _ _, zah.nil _, fun a ha=>?_, by omega, by rw [zj]; omega, fun a ha=>(by cases ha), hends, Nat.le_refl _, by show (0:Nat)≤60; omega⟩
   rw [a6, hidad] at ha
   cases ha; rfl
  have hpz:=pz_run (p:=h6.next) (tb:=id) (3 * us.length + 10) (.row true) 0 ⟨us, 0, []⟩ _ s6 Sl.nil (k + 2) (k + 2) (by omega) (by omega) P7
  have start3:∀ (α:Type) (ret:Sl->V->M α), qaf.f (k + 3) text ret h = cps (k + 2) (k + 2) h6.next (.row true) 0 (fun v=>qaf.C.u1.f (k + 2) ⟨h.next, 0⟩ ⟨h.next + 1, 0⟩ v (ldS ((⟨h.next, 0⟩:Ad).add 0) fun o501=>ld ((⟨h.next + 1, 0⟩:Ad).add 0) fun o502=>ret o501 o502))
    (fun r7=>ldS (((⟨h6.next, 0⟩:Ad).add 0).add 0) fun x8=>idxSl x8 0 4 fun a9=>ldI .i64 ((a9.add 0).add 0) fun x10=>cond (!(decide (x10 = 0))) (
     qav.f (k + 2) ⟨h6.next, 0⟩ (fun e12=>qaf.C.u1.f (k + 2) ⟨h.next, 0⟩ ⟨h.next + 1, 0⟩ e12 (ldS ((⟨h.next, 0⟩:Ad).add 0) fun o501=>ld ((⟨h.next + 1, 0⟩:Ad).add 0) fun o502=>ret o501 o502)) (
      ldS (((⟨h6.next, 0⟩:Ad).add 2).add 0) fun x11=>st1 ((⟨h.next, 0⟩:Ad).add 0) (.slice x11) <| st1 ((⟨h.next + 1, 0⟩:Ad).add 0) .nilIface <| qaf.C.u1.f (k + 2) ⟨h.next, 0⟩ ⟨h.next + 1, 0⟩ .nilIface (ldS ((⟨h.next, 0⟩:Ad).add 0) fun o501=>ld ((⟨h.next + 1, 0⟩:Ad).add 0) fun o502=>ret o501 o502))) (
     ldS (((⟨h6.next, 0⟩:Ad).add 2).add 0) fun x11=>st1 ((⟨h.next, 0⟩:Ad).add 0) (.slice x11) <| st1 ((⟨h.next + 1, 0⟩:Ad).add 0) .nilIface <| qaf.C.u1.f (k + 2) ⟨h.next, 0⟩ ⟨h.next + 1, 0⟩ .nilIface (ldS ((⟨h.next, 0⟩:Ad).add 0) fun o501=>ld ((⟨h.next + 1, 0⟩:Ad).add 0) fun o502=>ret o501 o502)))
    (h6.push (.cells [.slice s6, .int .i64 0, .slice Sl.nil] true)):=fun α ret=>by
   rw [start2, qaf.u2.f, e6, jk rfl]
   rfl
  clear start2
  generalize h6.push (.cells [.slice s6, .int .i64 0, .slice Sl.nil] true) = h7 at x7 P7 hpz start3
  -- the end of an error
  have bad:∀ (e:Er) (h8:H), Ext h2 h8->(∀ (α:Type) (ret:Sl->V->M α), qaf.f (k + 3) text ret h = qaf.C.u1.f (k + 2) ⟨h.next, 0⟩ ⟨h.next + 1, 0⟩ (zhf e) (ldS ((⟨h.next, 0⟩:Ad).add 0) fun o501=>ld ((⟨h.next + 1, 0⟩:Ad).add 0) fun o502=>ret o501 o502) h8) ->
    ∃ h' q, (∀ (α:Type) (ret:Sl->V->M α), qaf.f (k + 3) text ret h = ret Sl.nil (.iface 62 (.ptr (some ⟨q, 0⟩))) h') ∧ Ext h h' ∧ h.next≤q ∧ q < h'.next ∧ h'.get q = some (.cells [.int .i64 e.1, .int .i64 e.2] true):=by
   intro e h8 x8 e8
   have c3:h8.get h.next = some (.cells [.slice Sl.nil] true):=by rw [x8.2 _ (by omega)]; exact g3
   have c4:h8.get (h.next + 1) = some (.cells [.nilIface] true):=by rw [x8.2 _ (by omega)]; exact g4
   have hle:=x8.1
   have x9:Ext h8 (h8.push (.cells [.int .i64 e.1, .int .i64 e.2] true)):=(Ext.refl h8).push _
   have d3:(h8.push (.cells [.int .i64 e.1, .int .i64 e.2] true)).get h.next = some (.cells [.slice Sl.nil] true):=by rw [x9.2 _ (by omega)]; exact c3
   have d4:(h8.push (.cells [.int .i64 e.1, .int .i64 e.2] true)).get (h.next + 1) = some (.cells [.nilIface] true):=by rw [x9.2 _ (by omega)]; exact c4
   have d5:(h8.push (.cells [.int .i64 e.1, .int .i64 e.2] true)).get h8.next = some (.cells [.int .i64 e.1, .int .i64 e.2] true):=by rw [zk, if_pos rfl]
   refine ⟨((h8.push (.cells [.int .i64 e.1, .int .i64 e.2] true)).put h.next (some (.cells [.slice Sl.nil] true))).put (h.next + 1) (some (.cells [.iface 62 (.ptr (some ⟨h8.next, 0⟩))] true)), h8.next, fun α ret=>?_, ?_, by omega, ?_, ?_⟩
   ·rw [e8, qaf.C.u1.f, zhf, zjp, cond_false]
    show (new [.int .i64 0, .int .i64 0] fun s7=>need (Nat.beq 2 2) <| st1 (s7.add 0) (.int .i64 e.1) <| st1 (s7.add 1) (.int .i64 e.2) <| st1 ((⟨h.next, 0⟩:Ad).add 0) (.slice Sl.nil) <| st1 ((⟨h.next + 1, 0⟩:Ad).add 0) (.iface 62 (.ptr (some (s7.add 0)))) _) h8 = _
    rw [jk rfl, jc (by rfl)]
    simp only [jg, Nat.zero_add]
    rw [yc rfl (by simp), yc rfl (by simp)]
    simp only [List.set_cons_zero, List.set_cons_succ]
    rw [yv (a:=⟨h.next, 0⟩) d3 rfl (by simp), yv (a:=⟨h.next + 1, 0⟩) (by rw [zi, if_neg (by show h.next + 1 ≠ h.next; omega)]; exact d4) rfl (by simp)]
    simp only [List.set_cons_zero]
    rw [zbb (n:=Sl.nil) (by rw [jf (a:=⟨h.next, 0⟩) (cs:=[.slice Sl.nil]) (o:=true) (by rw [zi, if_neg (by show h.next ≠ h.next + 1; omega), zi, if_pos rfl])]; rfl)]
    rw [zdt (v:=.iface 62 (.ptr (some ⟨h8.next, 0⟩))) (by rw [jf (a:=⟨h.next + 1, 0⟩) (jt _ _ _)]; rfl)]
   ·exact (((x2.trans x8).trans x9).put _ (Nat.le_refl _)).put _ (by omega)
   ·show h8.next < h8.next + 1
    omega
   ·rw [zi, if_neg (by omega), zi, if_neg (by omega)]
    exact d5
  unfold parseE
  cases hz:pz (3 * us.length + 10) (.row true) 0 ⟨us, 0, []⟩ with
  | error e=>
   rw [hz] at hpz
   have he:=pz_fuel _ _ _ ⟨us, 0, []⟩ _ hends (by simp [cost]) hz
   obtain ⟨h8, x8, e8⟩:=hpz he
   exact bad e h8 x8 fun α ret=>(start3 α ret).trans (e8 α _ _)
  | ok y=>
   rw [hz] at hpz
   obtain ⟨n, s'⟩:=y
   obtain ⟨h8, ls8, fs8, e8, P8, q8⟩:=hpz
   dsimp only at e8 P8
   show match (if s'.hd.kind = 0 then Except.ok s'.f else Except.error (zce s')) with | .ok l=>_ | .error e=>_
   by_cases hk0:s'.hd.kind = 0
   ·rw [if_pos hk0]
    dsimp only
    have c3:h8.get h.next = some (.cells [.slice Sl.nil] true):=by rw [P8.ext.2 _ (by omega)]; exact g3
    have c4:h8.get (h.next + 1) = some (.cells [.nilIface] true):=by rw [P8.ext.2 _ (by omega)]; exact g4
    have hfs:∀ a, fs8.ad = some a->h2.next≤a.id:=P8.low
    refine ⟨(h8.put h.next (some (.cells [.slice fs8] true))).put (h.next + 1) (some (.cells [.nilIface] true)), fs8, fun α ret=>?_, ((x2.trans P8.ext).put _ (Nat.le_refl _)).put _ (by omega), P8.nodes.keep (Nat.le_refl _) (fun a ha=>?_), fun a ha=>by have:=hfs a ha; omega⟩
    ·rw [start3, e8, p_l P8, zbz P8.toks (x:=0) (i:=0) rfl P8.hd, dT hk0, Bool.not_true, cond_false, p_f P8]
     simp only [jg, Nat.zero_add]
     rw [yv (a:=⟨h.next, 0⟩) c3 rfl (by simp), yv (a:=⟨h.next + 1, 0⟩) (by rw [zi, if_neg (by show h.next + 1 ≠ h.next; omega)]; exact c4) rfl (by simp), qaf.C.u1.f, ziq, cond_true]
     simp only [List.set_cons_zero]
     rw [zbb (n:=fs8) (by rw [jf (a:=⟨h.next, 0⟩) (cs:=[.slice fs8]) (o:=true) (by rw [zi, if_neg (by show h.next ≠ h.next + 1; omega), zi, if_pos rfl])]; rfl)]
     rw [zdt (v:=.nilIface) (by rw [jf (a:=⟨h.next + 1, 0⟩) (jt _ _ _)]; rfl)]
    ·have:=hfs a ha
     rw [zi, if_neg (by omega), zi, if_neg (by omega)]
   ·rw [if_neg hk0]
    dsimp only
    refine bad (zce s') h8 P8.ext fun α ret=>?_
    rw [start3, e8, p_l P8, zbz P8.toks (x:=0) (i:=0) rfl P8.hd, dF hk0, Bool.not_false, cond_true, zdf P8]
end Go.Ab.S7
namespace Go.Ab.S7
variable {α:Type} {h:H}
theorem form_good (k:Nat) (hk:900≤k) {f:Sl} {l:List Nd} {u:Tr} (w:Wide l u) (neg:Bool) (h:H) (r:NdR h f l) :
  ∃ s h', (∀ (α:Type) (ret:Sl->M α), qaw.f (k + 1) f neg ret h = ret s h') ∧ Ext h h' ∧ App h' s 5 (cN ((nfT u neg).flat 0)) ∧ zah h s:=by
 obtain ⟨k, rfl⟩:∃ q, k = q + 1:=⟨k - 1, by omega⟩
 obtain ⟨h1, e1, x1⟩:=zni k w (by omega) h r
 have hlen:=jv r
 have hl:l.length = u.size:=by rw [w.flat, zd]
 have hp:=Tr.pos u
 have hs:=w.size
 have x2:Ext h1 (h1.push (.cells [.slice f, .slice Sl.nil] true)):=(Ext.refl h1).push _
 have W:MS h1 (h1.push (.cells [.slice f, .slice Sl.nil] true)) h1.next f l Sl.nil []:=
  ⟨x2, by rw [zk, if_pos rfl], by rw [zj]; omega, Nat.le_refl _, r.ext x1, App.nilSl _ _, zah.nil _, fun a ha=>by cases ha⟩
 obtain ⟨h3, o, e3, W3, q3, w3⟩:=zfq (r.ext x1) u w.ok 0 neg (k + 1) _ Sl.nil [] (fun i n hi=>by rw [Nat.zero_add, w.flat]; exact hi) (by omega) W (by simp; omega)
 rw [List.nil_append] at W3
 refine ⟨o, h3, fun α ret=>?_, x1.trans W3.ext, W3.ap, fun a ha=>by have:=W3.low a ha; have:=x1.1; omega⟩
 rw [qaw.f, qaw.u1.f, e1, Bool.not_true, cond_false, jk rfl, hlen, hl, zw (by omega) (by omega), show ((u.size:Int) - 1) = ((0 + u.size - 1:Nat):Int) by omega]
 refine (e3 α _).trans ?_
 rw [ms_o W3]
theorem form_not (k:Nat) {f:Sl} {l:List Nd} (w:zdz l) (hr:Room l.length) (hk:900 + l.length≤k) (neg:Bool) (h:H) (r:NdR h f l) :
  ∃ h', (∀ (α:Type) (ret:Sl->M α), qaw.f (k + 1) f neg ret h = ret Sl.nil h') ∧ Ext h h':=by
 obtain ⟨k, rfl⟩:∃ q, k = q + 1:=⟨k - 1, by omega⟩
 obtain ⟨h1, e1, x1⟩:=zqf k w hr (by omega) h r
 refine ⟨h1, fun α ret=>?_, x1⟩
 rw [qaw.f, qaw.u1.f, e1, Bool.not_false, cond_true]
noncomputable def posneg (g:Bool):{α:Type}->Nat->Sl->(Sl->M α)->M α:=fun k f ret=>if g = true then qba.f k f ret else qay.f k f ret
theorem pn_form (g:Bool) (k:Nat) (f:Sl) (ret:Sl->M α):posneg g (k + 1) f ret = qaw.f k f g ret:=by
 cases g
 ·show qay.f (k + 1) f ret = _
  rw [qay.f, qay.u1.f]
 ·show qba.f (k + 1) f ret = _
  rw [qba.f, qba.u1.f]
theorem zor (g:Bool) (k:Nat) (hk:1000≤k) {f:Sl} {l:List Nd} {u:Tr} (w:Wide l u) (h:H) (r:NdR h f l) :
  ∃ s h', (∀ (α:Type) (ret:Sl->M α), posneg g (k + 1) f ret h = ret s h') ∧ Ext h h' ∧ App h' s 5 (cN ((nfT u g).flat 0)) ∧ zah h s:=by
 obtain ⟨k, rfl⟩:∃ q, k = q + 1:=⟨k - 1, by omega⟩
 obtain ⟨s, h', e, r'⟩:=form_good k (by omega) w g h r
 exact ⟨s, h', fun α ret=>by rw [pn_form]; exact e α ret, r'⟩
theorem pn_not (g:Bool) (k:Nat) {f:Sl} {l:List Nd} (w:zdz l) (hr:Room l.length) (hk:1000 + l.length≤k) (h:H) (r:NdR h f l) :
  ∃ h', (∀ (α:Type) (ret:Sl->M α), posneg g (k + 1) f ret h = ret Sl.nil h') ∧ Ext h h':=by
 obtain ⟨k, rfl⟩:∃ q, k = q + 1:=⟨k - 1, by omega⟩
 obtain ⟨h', e, x⟩:=form_not k w hr (by omega) g h r
 exact ⟨h', fun α ret=>by rw [pn_form]; exact e α ret, x⟩
theorem five_run (k:Nat) (n:Nd) (ret:Bool->M α):qbq.f (k + 1) n.kind n.a n.b n.name n.pos ret h = ret (decide (n.kind = 5)) (h.push (ndC n)):=by
 rw [qbq.f, qbq.u1.f, jk rfl]
 have hq:(h.push (ndC n)).get h.next = some (ndC n):=by rw [zk, if_pos rfl]
 exact zaw hq _
theorem five_loop (k:Nat) {h₀:H} {s:Sl} {l:List Nd} (r:NdR h₀ s l) (hl:l.length≤4611686018427387800):∀ (j i:Nat) (h:H), i≤l.length->l.length - i < j->Ext h₀ h ->
  ∃ h', Ext h₀ h' ∧ (((l.drop i).any (fun n=>decide (n.kind = 5)) = true ∧ ∃ m:Nat, ∀ (α:Type) (kr:Int->M α) (kx:M α), qu.u4.l (k + 1) kr kx j s (l.length:Int) (i:Int) h = kr m h') ∨
   ((l.drop i).any (fun n=>decide (n.kind = 5)) = false ∧ ∀ (α:Type) (kr:Int->M α) (kx:M α), qu.u4.l (k + 1) kr kx j s (l.length:Int) (i:Int) h = kx h')):=by
 intro j
 induction j with
 | zero=>intro i h hi hj; omega
 | succ j ih=>
  intro i h hi hj x
  by_cases hlt:i < l.length
  ·have hn:l[i]? = some l[i]:=List.getElem?_eq_getElem hlt
   rw [List.drop_eq_getElem_cons hlt]
   generalize l[i] = n at hn
   have x1:Ext h (h.push (ndC n)):=(Ext.refl h).push _
   have st:∀ (α:Type) (kr:Int->M α) (kx:M α), qu.u4.l (k + 1) kr kx (j + 1) s (l.length:Int) (i:Int) h = cond (decide (n.kind = 5)) (kr (i:Int)) (qu.u4.l (k + 1) kr kx j s (l.length:Int) ((i + 1:Nat):Int)) (h.push (ndC n)):=by
    intro α kr kx
    rw [qu.u4.l, qu.u3.f, dT (by omega:(i:Int) < (l.length:Int)), cond_true, zcv (r.ext x) rfl hn, five_run, zw (by omega) (by omega)]
    rfl
   by_cases h5:n.kind = 5
   ·refine ⟨h.push (ndC n), x.trans x1, .inl ⟨by rw [List.any_cons, dT h5]; rfl, i, fun α kr kx=>?_⟩⟩
    rw [st, dT h5, cond_true]
   ·obtain ⟨h', x', e'⟩:=ih (i + 1) (h.push (ndC n)) (by omega) (by omega) (x.trans x1)
    refine ⟨h', x', ?_⟩
    rw [List.any_cons, dF h5, Bool.false_or]
    rcases e' with ⟨a1, m, a2⟩ | ⟨a1, a2⟩
    ·exact .inl ⟨a1, m, fun α kr kx=>by rw [st, dF h5, cond_false]; exact a2 α kr kx⟩
    ·exact .inr ⟨a1, fun α kr kx=>by rw [st, dF h5, cond_false]; exact a2 α kr kx⟩
  ·refine ⟨h, x, .inr ⟨by rw [List.drop_of_length_le (by omega)]; rfl, fun α kr kx=>?_⟩⟩
   rw [qu.u4.l, qu.u3.f, dF (by omega:¬ (i:Int) < (l.length:Int)), cond_false]
theorem zjm (k:Nat) {s:Sl} {l:List Nd} (h:H) (r:NdR h s l) (hl:l.length≤4611686018427387800) (hk:l.length + 5≤k) :
  ∃ h', (∀ (α:Type) (ret:Bool->M α), qbn.f (k + 1) s ret h = ret (l.any (fun n=>decide (n.kind = 5))) h') ∧ Ext h h':=by
 obtain ⟨k, rfl⟩:∃ q, k = q + 2:=⟨k - 2, by omega⟩
 have hlen:=jv r
 obtain ⟨h', x', e'⟩:=five_loop k r hl (k + 1) 0 h (Nat.zero_le _) (by omega) (Ext.refl h)
 rw [List.drop_zero] at e'
 refine ⟨h', fun α ret=>?_, x'⟩
 rw [qbn.f, qbn.u1.f, qu.f, qu.u9.f, qu.u1.f, qu.u8.f, qu.u6.f, qu.u2.f, qu.u5.f, qu.u4.f, hlen]
 rcases e' with ⟨a1, m, a2⟩ | ⟨a1, a2⟩
 ·rw [a1]
  refine (a2 α _ _).trans ?_
  rw [dT (by omega)]
 ·rw [a1]
  refine (a2 α _ _).trans ?_
  rw [qu.u7.f, dF (by decide)]
theorem zet:∀ (t:Tr) (base:Nat), t.pl.ok = true->(t.flat base).any (fun n=>decide (n.kind = 5)) = !pos5 t
 | .leaf k s p, base, h=>by simp [Tr.flat, Tr.node, pos5]
 | .un k s p a, base, h=>by
  simp only [Tr.pl, Tr.ok, Bool.and_eq_true] at h
  simp only [Tr.flat, List.any_append, zet a base h.2, List.any_cons, List.any_nil, Tr.node, pos5, Bool.or_false]
  by_cases h5:k = 5 <;> simp [h5]
 | .bin k s p a b, base, h=>by
  simp only [Tr.pl, Tr.ok, Bool.and_eq_true] at h
  simp only [Tr.flat, List.any_append, zet a base h.1.2, zet b _ h.2, List.any_cons, List.any_nil, Tr.node, pos5, Bool.or_false]
  cases pos5 a <;> cases pos5 b <;> by_cases h5:k = 5 <;> simp [h5]
theorem is_good (k:Nat) (hk:900≤k) {f:Sl} {l:List Nd} {u:Tr} (w:Wide l u) (h:H) (r:NdR h f l) :
  ∃ h', (∀ (α:Type) (ret:Bool->M α), qap.f (k + 1) f ret h = ret (pos5 u) h') ∧ Ext h h':=by
 obtain ⟨k, rfl⟩:∃ q, k = q + 1:=⟨k - 1, by omega⟩
 have hl:l.length≤60:=by rw [w.flat, zd]; exact w.size
 obtain ⟨h1, e1, x1⟩:=zjm k h r (by omega) (by omega)
 have ha:l.any (fun n=>decide (n.kind = 5)) = !pos5 u:=by rw [w.flat]; exact zet u 0 w.ok
 rw [ha] at e1
 cases hp:pos5 u with
 | true=>
  obtain ⟨h2, e2, x2⟩:=zni k w (by omega) h1 (r.ext x1)
  refine ⟨h2, fun α ret=>?_, x1.trans x2⟩
  rw [qap.f, qap.u1.f, e1, hp, Bool.not_true, Bool.not_false, cond_true, e2]
 | false=>
  refine ⟨h1, fun α ret=>?_, x1⟩
  rw [qap.f, qap.u1.f, e1, hp, Bool.not_false, Bool.not_true, cond_false]
theorem is_not (k:Nat) {f:Sl} {l:List Nd} (w:zdz l) (hr:Room l.length) (hk:900 + l.length≤k) (h:H) (r:NdR h f l) :
  ∃ h', (∀ (α:Type) (ret:Bool->M α), qap.f (k + 1) f ret h = ret false h') ∧ Ext h h':=by
 obtain ⟨k, rfl⟩:∃ q, k = q + 1:=⟨k - 1, by omega⟩
 obtain ⟨h1, e1, x1⟩:=zjm k h r (by unfold Room at hr; omega) (by omega)
 obtain ⟨h2, e2, x2⟩:=zqf k w hr (by omega) h1 (r.ext x1)
 cases hp:l.any (fun n=>decide (n.kind = 5)) with
 | true=>
  refine ⟨h1, fun α ret=>?_, x1⟩
  rw [qap.f, qap.u1.f, e1, hp, Bool.not_true, cond_false]
 | false=>
  refine ⟨h2, fun α ret=>?_, x1.trans x2⟩
  rw [qap.f, qap.u1.f, e1, hp, Bool.not_false, cond_true, e2]
theorem Wide.form {l:List Nd} {u:Tr} (w:Wide l u) (g:Bool):Wide ((nfT u g).flat 0) (nfT u g):=
 ⟨znl u g w.ok, Nat.le_trans (zfi u g) w.size, rfl, chk_nf g w.ok w.chk⟩
def tz1:Tr:=.un 5 [] 0 (.bin 6 [] 4 (.leaf 3 [112] 2) (.un 8 [97] 6 (.leaf 3 [113] 9)))
theorem pz1:parseF [126, 40, 112, 32, 38, 32, 60, 97, 62, 113, 41] = .ok (tz1.flat 0):=by kernel_rfl
theorem wz1:Wide (tz1.flat 0) tz1:=⟨by decide, by decide, rfl, by decide⟩
theorem zqz (k:Nat) (hk:4000000≤k) (h:H):∃ h', (∀ (α:Type) (ret:Bool->M α), qbi.f (k + 1) ret h = ret true h') ∧ Ext h h':=by
 obtain ⟨k, rfl⟩:∃ q, k = q + 1:=⟨k - 1, by omega⟩
 have a1:=parse_run k (by omega) [126, 40, 112, 32, 38, 32, 60, 97, 62, 113, 41] h
 rw [pz1] at a1
 obtain ⟨h1, s1, e1, x1, p1, _⟩:=a1
 obtain ⟨s2, h2, e2, x2, p2, _⟩:=zor false k (by omega) wz1 h1 p1.rd
 have x3:Ext h2 (h2.push (.cells (cN ((nfT tz1 false).flat 0)) true)):=(Ext.refl h2).push _
 have rn:NdR (h2.push (.cells (cN ((nfT tz1 false).flat 0)) true)) ⟨some ⟨h2.next, 0⟩, 4, 4, none⟩ ((nfT tz1 false).flat 0):=Rd.pushed h2 rfl
 obtain ⟨h4, e4, x4⟩:=zkp k _ (p2.rd.ext x3) rn (by show 4 + 2≤k; omega) (by decide) true
 obtain ⟨h5, e5, x5⟩:=is_good k (by omega) (wz1.form false) h4 (p2.rd.ext (x3.trans x4))
 refine ⟨h5, fun α ret=>?_, (((x1.trans x2).trans x3).trans x4).trans x5⟩
 have e2':∀ ret:Sl->M α, qay.f (k + 1) s1 ret h1 = ret s2 h2:=e2 α
 have hnew:∀ K:Ad->M α, new [.int .i64 12, .int .i64 0, .int .i64 0, .str [112], .int .i64 2, .int .i64 12, .int .i64 0, .int .i64 0, .str [113], .int .i64 9, .int .i64 9, .int .i64 1, .int .i64 0, .str [97], .int .i64 6, .int .i64 7, .int .i64 0, .int .i64 2, .str [], .int .i64 4] K h2 = K ⟨h2.next, 0⟩ (h2.push (.cells (cN ((nfT tz1 false).flat 0)) true)):=fun K=>jk rfl
 rw [qbi.f, qbi.u1.f, e1, e2', hnew, e4, ziq, cond_true, dT rfl, cond_true, e5]
 rfl
theorem zic (k:Nat) {f g:Sl} {l:List Nd} (h:H) (r:NdR h f l) (q:NdR h g l) (hk:l.length + 2≤k) (hl:l.length≤4611686018427387900) :
  ∃ h', (∀ (α:Type) (ret:Bool->M α), qn.f (k + 1) f g true ret h = ret true h') ∧ Ext h h':=by
 obtain ⟨h', e, x⟩:=zkp k h r q hk hl true
 exact ⟨h', fun α ret=>by rw [e, dT rfl], x⟩
end Go.Ab.S7
