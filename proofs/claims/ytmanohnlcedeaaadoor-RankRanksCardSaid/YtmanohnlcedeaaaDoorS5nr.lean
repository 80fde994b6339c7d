import Derived.Test.YtmanohnlcedeaaaDoorS5nf
set_option linter.unusedVariables false
set_option linter.unusedSimpArgs false
namespace Go.Ab.S5
variable {α:Type} {h:H}
theorem zcb (k:Nat) (n:Nd) (ret:Bool->M α):qar.f (k + 1) n.kind n.a n.b n.name n.pos ret h = ret (fixK n.kind) (h.push (ndC n)):=by
 rw [qar.f, qar.u1.f, js rfl, n5_0]
 unfold fixK
 by_cases h1:n.kind = 10
 ·rw [dT h1, cond_true]; rfl
 ·rw [dF h1, cond_false, n5_0]; rfl
def Below (l:List Nd):Prop:=∀ i n, l[i]? = some n->(0 < arF n.kind->∃ j:Nat, n.a = (j:Int) ∧ j < i) ∧ (1 < arF n.kind->∃ j:Nat, n.b = (j:Int) ∧ j < i)
theorem zey:∀ (t:Tr) (base:Nat), t.ok = true->∀ i n, (t.flat base)[i]? = some n->(0 < arF n.kind->∃ j:Nat, n.a = (j:Int) ∧ j < base + i) ∧ (1 < arF n.kind->∃ j:Nat, n.b = (j:Int) ∧ j < base + i)
 | .leaf k s p, base, ht, i, n, h=>by
  simp only [Tr.flat] at h
  have hi:=yt h
  simp only [List.length_cons, List.length_nil] at hi
  have:i = 0:=by omega
  subst this
  simp only [List.getElem?_cons_zero, Option.some.injEq] at h
  subst h
  simp only [Tr.ok, Bool.and_eq_true, decide_eq_true_eq] at ht
  have:arF (Tr.node (.leaf k s p) base).kind = 0:=ht.1
  rw [this]
  exact ⟨fun h=>by omega, fun h=>by omega⟩
 | .un k s p a, base, ht, i, n, h=>by
  simp only [Tr.ok, Bool.and_eq_true, decide_eq_true_eq] at ht
  simp only [Tr.flat] at h
  have hp:=Tr.pos a
  by_cases hi:i < a.size
  ·rw [List.getElem?_append_left (by rw [ze]; exact hi)] at h
   exact zey a base ht.2 i n h
  ·have hl:=yt h
   simp only [List.length_append, ze, List.length_cons, List.length_nil] at hl
   have:i = a.size:=by omega
   subst this
   rw [List.getElem?_append_right (by rw [ze]; omega), ze, Nat.sub_self] at h
   simp only [List.getElem?_cons_zero, Option.some.injEq] at h
   subst h
   have:arF (Tr.node (.un k s p a) base).kind = 1:=ht.1.1
   rw [this]
   exact ⟨fun _=>⟨base + a.size - 1, rfl, by omega⟩, fun h=>by omega⟩
 | .bin k s p a b, base, ht, i, n, h=>by
  simp only [Tr.ok, Bool.and_eq_true, decide_eq_true_eq] at ht
  simp only [Tr.flat] at h
  have hp:=Tr.pos a
  have hp':=Tr.pos b
  by_cases hi:i < a.size
  ·rw [List.getElem?_append_left (by rw [ze]; exact hi)] at h
   exact zey a base ht.1.2 i n h
  ·rw [List.getElem?_append_right (by rw [ze]; omega), ze] at h
   by_cases hi2:i - a.size < b.size
   ·rw [List.getElem?_append_left (by rw [ze]; exact hi2)] at h
    have e0:base + a.size + (i - a.size) = base + i:=by omega
    have:=zey b (base + a.size) ht.2 (i - a.size) n h
    rwa [e0] at this
   ·have hl:=yt h
    simp only [List.length_append, ze, List.length_cons, List.length_nil] at hl
    have:i = a.size + b.size:=by omega
    subst this
    rw [List.getElem?_append_right (by rw [ze]; omega), ze, show a.size + b.size - a.size - b.size = 0 by omega] at h
    simp only [List.getElem?_cons_zero, Option.some.injEq] at h
    subst h
    have:arF (Tr.node (.bin k s p a b) base).kind = 2:=ht.1.1.1
    rw [this]
    exact ⟨fun _=>⟨base + a.size - 1, rfl, by omega⟩, fun _=>⟨base + a.size + b.size - 1, rfl, by omega⟩⟩
theorem zgv {t:Tr} (ht:t.ok = true):Below (t.flat 0):=fun i n h=>by
 have:=zey t 0 ht i n h
 rwa [Nat.zero_add] at this
def upS (out:List Int) (i:Nat) (n:Nd):List Int:=
 let o:=if 0 < arF n.kind then out.set n.a.toNat (i:Int) else out
 if 1 < arF n.kind then o.set n.b.toNat (i:Int) else o
def upL:List Nd->Nat->List Int->List Int
 | [], _, out=>out
 | n :: l, i, out=>upL l (i + 1) (upS out i n)
def upA:Tr->Nat->Int->List Int
 | .leaf _ _ _, _, p=>[p]
 | .un _ _ _ a, base, p=>upA a base ((base + a.size:Nat):Int) ++ [p]
 | .bin _ _ _ a b, base, p=>upA a base ((base + a.size + b.size:Nat):Int) ++ (upA b (base + a.size) ((base + a.size + b.size:Nat):Int) ++ [p])
theorem je:∀ (t:Tr) (base:Nat) (p:Int), (upA t base p).length = t.size
 | .leaf _ _ _, _, _=>rfl
 | .un _ _ _ a, base, p=>by simp [upA, Tr.size, je a]
 | .bin _ _ _ a b, base, p=>by simp [upA, Tr.size, je a, je b]; omega
theorem zon:∀ (t:Tr) (base:Nat) (p q:Int), (upA t base p).set (t.size - 1) q = upA t base q
 | .leaf _ _ _, _, _, _=>rfl
 | .un _ _ _ a, base, p, q=>by
  simp only [upA, Tr.size]
  rw [List.set_append_right _ _ (by rw [je]; omega), je, show a.size + 1 - 1 - a.size = 0 by omega]
  rfl
 | .bin _ _ _ a b, base, p, q=>by
  simp only [upA, Tr.size]
  rw [List.set_append_right _ _ (by rw [je]; omega), List.set_append_right _ _ (by rw [je, je]; omega), je, je, show a.size + b.size + 1 - 1 - a.size - b.size = 0 by omega]
  rfl
theorem zmb {β:Type} (P S Q:List β) (y:β) {n i:Nat} (hn:n = P.length + i) (hi:i < S.length):(P ++ (S ++ Q)).set n y = P ++ (S.set i y ++ Q):=by
 subst hn
 rw [List.set_append_right _ _ (by omega), show P.length + i - P.length = i by omega, List.set_append_left _ _ hi]
theorem zhw:∀ (t:Tr) (base:Nat) (rest:List Nd) (P Q:List Int), t.ok = true->P.length = base ->
  upL (t.flat base ++ rest) base (P ++ (List.replicate t.size (-1) ++ Q)) = upL rest (base + t.size) (P ++ (upA t base (-1) ++ Q))
 | .leaf k s p, base, rest, P, Q, ht, hP=>by
  simp only [Tr.ok, Bool.and_eq_true, decide_eq_true_eq] at ht
  simp only [Tr.flat, List.cons_append, List.nil_append, upL, upS]
  rw [if_neg (by show ¬ 1 < arF k; rw [ht.1]; omega), if_neg (by show ¬ 0 < arF k; rw [ht.1]; omega)]
  rfl
 | .un k s p a, base, rest, P, Q, ht, hP=>by
  simp only [Tr.ok, Bool.and_eq_true, decide_eq_true_eq] at ht
  have hp:=Tr.pos a
  simp only [Tr.flat, List.append_assoc, Tr.size]
  rw [zdg, zhw a base _ P _ ht.2 hP]
  simp only [List.cons_append, List.nil_append, upL, upS]
  rw [if_neg (by show ¬ 1 < arF k; rw [ht.1.1]; omega), if_pos (by show 0 < arF k; rw [ht.1.1]; omega)]
  show upL rest (base + a.size + 1) ((P ++ (upA a base (-1) ++ ((-1) :: Q))).set ((base + a.size - 1:Nat):Int).toNat ((base + a.size:Nat):Int)) = _
  rw [Int.toNat_natCast, zmb P (upA a base (-1)) _ _ (i:=a.size - 1) (by omega) (by rw [je]; omega), zon]
  simp only [upA, List.append_assoc, List.cons_append, List.nil_append]
  rfl
 | .bin k s p a b, base, rest, P, Q, ht, hP=>by
  simp only [Tr.ok, Bool.and_eq_true, decide_eq_true_eq] at ht
  have hp:=Tr.pos a
  have hp':=Tr.pos b
  simp only [Tr.flat, List.append_assoc, Tr.size]
  rw [zic, zhw a base _ P _ ht.1.2 hP, ← List.append_assoc P, zhw b (base + a.size) _ (P ++ upA a base (-1)) _ ht.2 (by rw [List.length_append, je, hP])]
  simp only [List.cons_append, List.nil_append, upL, upS]
  rw [if_pos (by show 1 < arF k; rw [ht.1.1.1]; omega), if_pos (by show 0 < arF k; rw [ht.1.1.1]; omega)]
  show upL rest (base + a.size + b.size + 1) (((P ++ upA a base (-1) ++ (upA b (base + a.size) (-1) ++ ((-1) :: Q))).set ((base + a.size - 1:Nat):Int).toNat ((base + a.size + b.size:Nat):Int)).set ((base + a.size + b.size - 1:Nat):Int).toNat ((base + a.size + b.size:Nat):Int)) = _
  rw [Int.toNat_natCast, Int.toNat_natCast, List.append_assoc, zmb P (upA a base (-1)) _ _ (i:=a.size - 1) (by omega) (by rw [je]; omega), zon, ← List.append_assoc,
   zmb (P ++ upA a base _) (upA b (base + a.size) (-1)) _ _ (i:=b.size - 1) (by rw [List.length_append, je]; omega) (by rw [je]; omega), zon]
  simp only [upA, List.append_assoc, List.cons_append, List.nil_append]
  rw [show base + a.size + b.size + 1 = base + (a.size + b.size + 1) by omega]
theorem zpp (t:Tr) (ht:t.ok = true):upL (t.flat 0) 0 (List.replicate t.size (-1)) = upA t 0 (-1):=by
 have:=zhw t 0 [] [] [] ht rfl
 simpa [upL] using this
theorem zsj (out:List Int) (i:Nat) (n:Nd):(upS out i n).length = out.length:=by
 unfold upS
 simp only
 split <;> split <;> simp
section
variable {h₀:H} {f out:Sl} {l:List Nd}
structure Mine (h₀ h:H) (s:Sl) (cs:List V):Prop where
 ext:Ext h₀ h
 own:Own h s 1 cs
 low:h₀.next≤s.id
theorem Mine.push {cs:List V} (m:Mine h₀ h out cs) {h':H} (x:Ext h h'):Mine h₀ h' out cs:=⟨m.ext.trans x, m.own.ext x, m.low⟩
theorem Mine.st {T:List Int} (m:Mine h₀ h out (cIs T)) {x:Int} {i:Nat} (v:Int) (hx:x = (i:Int)) (hi:i < T.length) :
  ∃ h', (∀ (α:Type) (K:M α), idxSl out x 1 (fun a=>st1 (a.add 0) (.int .i64 v) K) h = K h') ∧ Mine h₀ h' out (cIs (T.set i v)) ∧ h'.next = h.next:=by
 obtain ⟨h', e, o, n, g⟩:=zil m.own v hx hi
 exact ⟨h', e, ⟨⟨by rw [n]; exact m.ext.1, fun i hi=>by rw [g i (by have:=m.low; omega)]; exact m.ext.2 i hi⟩, o, m.low⟩, n⟩
theorem zqu (r:NdR h₀ f l) (hl:l.length≤1000) (k:Nat):∀ (j i:Nat) (h:H), i≤l.length->l.length - i < j->Mine h₀ h out (cIs (List.replicate i (-1) ++ List.replicate (l.length - i) 0)) ->
  ∃ h', (∀ (α:Type) (kx:Sl->Sl->M α), ql.u4.l k kx j f out (i:Int) h = kx f out h') ∧ Mine h₀ h' out (cIs (List.replicate l.length (-1))):=by
 intro j
 induction j with
 | zero=>intro i h hi hj; omega
 | succ j ih=>
  intro i h hi hj m
  have hfl:=yd r
  by_cases hlt:i < l.length
  ·obtain ⟨h1, e1, m1, n1⟩:=m.st (x:=(i:Int)) (i:=i) (-1) rfl (by simp; omega)
   have es:(List.replicate i (-1) ++ List.replicate (l.length - i) 0).set i (-1) = List.replicate (i + 1) (-1) ++ List.replicate (l.length - (i + 1)) (0:Int):=by
    rw [List.set_append_right _ _ (by simp), List.length_replicate, Nat.sub_self, show l.length - i = (l.length - (i + 1)) + 1 by omega, List.replicate_succ, List.set_cons_zero, List.replicate_succ', List.append_assoc]
    rfl
   rw [es] at m1
   obtain ⟨h2, e2, m2⟩:=ih (i + 1) h1 (by omega) (by omega) m1
   refine ⟨h2, fun α kx=>?_, m2⟩
   rw [ql.u4.l, ql.u3.f, hfl, dT (by omega:(i:Int) < (l.length:Int)), cond_true, e1, zw (by omega) (by omega)]
   exact e2 α kx
  ·have:i = l.length:=by omega
   subst this
   refine ⟨h, fun α kx=>?_, by simpa using m⟩
   rw [ql.u4.l, ql.u3.f, hfl, dF (by omega:¬ (l.length:Int) < (l.length:Int)), cond_false]
theorem zqo (r:NdR h₀ f l) (hb:Below l) (hl:l.length≤1000) (k:Nat):∀ (j i:Nat) (h:H) (T:List Int), i≤l.length->l.length - i < j->T.length = l.length->Mine h₀ h out (cIs T) ->
  ∃ h', (∀ (α:Type) (kx:Sl->M α), ql.u9.l (k + 1) kx j f out (i:Int) h = kx out h') ∧ Mine h₀ h' out (cIs (upL (l.drop i) i T)):=by
 intro j
 induction j with
 | zero=>intro i h T hi hj; omega
 | succ j ih=>
  intro i h T hi hj hT m
  have hfl:=yd r
  by_cases hlt:i < l.length
  rotate_left
  ·refine ⟨h, fun α kx=>?_, by rw [List.drop_of_length_le (by omega)]; exact m⟩
   rw [ql.u9.l, ql.u8.f, hfl, dF (by omega:¬ (i:Int) < (l.length:Int)), cond_false]
  have hn:l[i]? = some l[i]:=List.getElem?_eq_getElem hlt
  rw [List.drop_eq_getElem_cons hlt, upL]
  generalize l[i] = n at hn ⊢
  have rr:=fun (h:H) (x:Ext h₀ h)=>r.ext x
  obtain ⟨b1, b2⟩:=hb i n hn
  have key:∃ h1, (∀ (α:Type) (kx:Sl->M α), ql.u9.l (k + 1) kx (j + 1) f out (i:Int) h = ql.u9.l (k + 1) kx j f out (w64 ((i:Int) + 1)) h1) ∧ Mine h₀ h1 out (cIs (upS T i n)):=by
   rcases zff n.kind with e | e | e | e
   ·refine ⟨h, fun α kx=>?_, ?_⟩
    ·rw [ql.u9.l, ql.u8.f, hfl, dT (by omega:(i:Int) < (l.length:Int)), cond_true, zac (rr h m.ext) rfl hn, zcp, e]
     rfl
    ·unfold upS; rw [e]; exact m
   ·refine ⟨h, fun α kx=>?_, ?_⟩
    ·rw [ql.u9.l, ql.u8.f, hfl, dT (by omega:(i:Int) < (l.length:Int)), cond_true, zac (rr h m.ext) rfl hn, zcp, e]
     rfl
    ·unfold upS; rw [e]; exact m
   ·obtain ⟨a, ha, hai⟩:=b1 (by omega)
    obtain ⟨h1, e1, m1, _⟩:=m.st (x:=n.a) (i:=a) (i:Int) ha (by omega)
    refine ⟨h1, fun α kx=>?_, ?_⟩
    ·rw [ql.u9.l, ql.u8.f, hfl, dT (by omega:(i:Int) < (l.length:Int)), cond_true, zac (rr h m.ext) rfl hn, zcp, e, dT (by omega:(0:Int) < 1), cond_true, nd_a (rr h m.ext) rfl hn, e1]
     rfl
    ·unfold upS; rw [e, ha]; exact m1
   ·obtain ⟨a, ha, hai⟩:=b1 (by omega)
    obtain ⟨b, hb, hbi⟩:=b2 (by omega)
    obtain ⟨h1, e1, m1, _⟩:=m.st (x:=n.a) (i:=a) (i:Int) ha (by omega)
    obtain ⟨h2, e2, m2, _⟩:=m1.st (x:=n.b) (i:=b) (i:Int) hb (by rw [List.length_set]; omega)
    refine ⟨h2, fun α kx=>?_, ?_⟩
    ·rw [ql.u9.l, ql.u8.f, hfl, dT (by omega:(i:Int) < (l.length:Int)), cond_true, zac (rr h m.ext) rfl hn, zcp, e, dT (by omega:(0:Int) < 2), cond_true, nd_a (rr h m.ext) rfl hn, e1, dT (by omega:(1:Int) < 2), cond_true, nd_b (rr h1 m1.ext) rfl hn, e2]
    ·unfold upS; rw [e, ha, hb]; exact m2
  obtain ⟨h1, e1, m1⟩:=key
  clear b1 b2
  obtain ⟨h2, e2, m2⟩:=ih (i + 1) h1 _ (by omega) (by omega) (by rw [zsj]; exact hT) m1
  refine ⟨h2, fun α kx=>?_, m2⟩
  rw [e1, zw (by omega) (by omega)]
  exact e2 α kx
theorem up_run (k:Nat) (hk:200≤k) {t:Tr} (ht:t.ok = true) (hs:t.size≤60) (h:H) (r:NdR h f (t.flat 0)) :
  ∃ h' s, (∀ (α:Type) (ret:Sl->M α), ql.f (k + 1) f ret h = ret s h') ∧ Mine h h' s (cIs (upA t 0 (-1))):=by
 obtain ⟨k, rfl⟩:∃ q, k = q + 1:=⟨k - 1, by omega⟩
 have hfl:f.len = t.size:=by rw [yd r, ze]
 obtain ⟨h1, e1, o1, n1, x1⟩:=zcs (h:=h) (n:=t.size) (x:=(f.len:Int)) (y:=(f.len:Int)) (by rw [hfl]) (by rw [hfl]) (by omega)
 have m1:Mine h h1 ⟨some ⟨h.next, 0⟩, t.size, t.size, none⟩ (cIs (List.replicate 0 (-1) ++ List.replicate ((t.flat 0).length - 0) 0)):=⟨x1, by rw [ze]; exact o1, Nat.le_refl _⟩
 obtain ⟨h2, e2, m2⟩:=zqu r (by rw [ze]; omega) (k + 1) (k + 1) 0 h1 (Nat.zero_le _) (by rw [ze]; omega) m1
 obtain ⟨h3, e3, m3⟩:=zqo r (zgv ht) (by rw [ze]; omega) k (k + 1) 0 h2 _ (Nat.zero_le _) (by rw [ze]; omega) (by simp) m2
 rw [List.drop_zero, ze, zpp t ht] at m3
 refine ⟨h3, _, fun α ret=>?_, m3⟩
 rw [ql.f, ql.u15.f, ql.u1.f, e1, ql.u14.f, ql.u6.f, ql.u2.f, ql.u5.f, ql.u4.f]
 refine (e2 α _).trans ?_
 rw [ql.u13.f, ql.u11.f, ql.u7.f, ql.u10.f, ql.u9.f]
 exact e3 α _
end
end Go.Ab.S5
namespace Go.Ab.S5
variable {α:Type} {h:H}
def dpV (out:List Int) (n:Nd):Int:=
 let v:=if 0 < arF n.kind then (out[n.a.toNat]?).getD 0 else 0
 let v2:=if 1 < arF n.kind ∧ v < (out[n.b.toNat]?).getD 0 then (out[n.b.toNat]?).getD 0 else v
 if fixK n.kind = true then v2 + 1 else v2
def dpL:List Nd->Nat->List Int->List Int
 | [], _, out=>out
 | n :: l, i, out=>dpL l (i + 1) (out.set i (dpV out n))
theorem zos {k:Int} (h:fixK k = true):arF k = 1:=by
 simp only [fixK, Bool.or_eq_true, decide_eq_true_eq] at h
 rcases h with rfl | rfl <;> rfl
theorem zhi:∀ (t:Tr) (base:Nat) (rest:List Nd) (P Q:List Int), t.ok = true->P.length = base ->
  dpL (t.flat base ++ rest) base (P ++ (List.replicate t.size 0 ++ Q)) = dpL rest (base + t.size) (P ++ (depI t ++ Q))
 | .leaf k s p, base, rest, P, Q, ht, hP=>by
  simp only [Tr.ok, Bool.and_eq_true, decide_eq_true_eq] at ht
  have hf:fixK k = false:=by
   cases hq:fixK k with
   | false=>rfl
   | true=>have:=zos hq; omega
  have hv:dpV (P ++ (List.replicate 1 0 ++ Q)) ((Tr.leaf k s p).node base) = 0:=by
   have e1:arF ((Tr.leaf k s p).node base).kind = 0:=ht.1
   have e2:fixK ((Tr.leaf k s p).node base).kind = false:=hf
   simp [dpV, e1, e2]
  simp only [Tr.flat, List.cons_append, List.nil_append, dpL]
  rw [show (Tr.leaf k s p).size = 1 from rfl, hv]
  have:=zgd P [] (0:Int) 0 Q (n:=base) (by simp [hP])
  rw [show P ++ (List.replicate 1 (0:Int) ++ Q) = P ++ ([] ++ ((0:Int) :: Q)) from rfl, this]
  rfl
 | .un k s p a, base, rest, P, Q, ht, hP=>by
  simp only [Tr.ok, Bool.and_eq_true, decide_eq_true_eq] at ht
  have hp:=Tr.pos a
  simp only [Tr.flat, List.append_assoc, Tr.size]
  rw [zdg, zhi a base _ P _ ht.2 hP]
  simp only [List.cons_append, List.nil_append, dpL]
  have hg:(P ++ (depI a ++ ((0:Int) :: Q)))[base + a.size - 1]? = some (depT a:Int):=by
   rw [zgl P (depI a) _ (i:=a.size - 1) (by omega) (by rw [jr]; omega)]; exact zdj a
  have hv:dpV (P ++ (depI a ++ ((0:Int) :: Q))) ((Tr.un k s p a).node base) = (depT (.un k s p a):Int):=by
   have e1:arF ((Tr.un k s p a).node base).kind = 1:=ht.1.1
   have e2:((Tr.un k s p a).node base).a.toNat = base + a.size - 1:=by show ((base + a.size - 1:Nat):Int).toNat = _; rw [Int.toNat_natCast]
   have e3:((Tr.un k s p a).node base).kind = k:=rfl
   simp only [dpV, e3, ht.1.1, e2, hg, depT]
   cases hq:fixK k <;> simp
  rw [hv, zgd P (depI a) 0 _ Q (n:=base + a.size) (by rw [hP, jr]), zch]
  have:depI (.un k s p a) = depI a ++ [(depT (.un k s p a):Int)]:=by simp [depI, depA]
  rw [this]
  rfl
 | .bin k s p a b, base, rest, P, Q, ht, hP=>by
  simp only [Tr.ok, Bool.and_eq_true, decide_eq_true_eq] at ht
  have hp:=Tr.pos a
  have hp':=Tr.pos b
  simp only [Tr.flat, List.append_assoc, Tr.size]
  rw [zic, zhi a base _ P _ ht.1.2 hP, ← List.append_assoc P, zhi b (base + a.size) _ (P ++ depI a) _ ht.2 (by rw [List.length_append, jr, hP])]
  simp only [List.cons_append, List.nil_append, dpL]
  have hg1:(P ++ depI a ++ (depI b ++ ((0:Int) :: Q)))[base + a.size - 1]? = some (depT a:Int):=by
   rw [List.append_assoc, zgl P (depI a) _ (i:=a.size - 1) (by omega) (by rw [jr]; omega)]; exact zdj a
  have hg2:(P ++ depI a ++ (depI b ++ ((0:Int) :: Q)))[base + a.size + b.size - 1]? = some (depT b:Int):=by
   rw [zgl (P ++ depI a) (depI b) _ (i:=b.size - 1) (by rw [List.length_append, jr]; omega) (by rw [jr]; omega)]; exact zdj b
  have hf:fixK k = false:=by
   cases hq:fixK k with
   | false=>rfl
   | true=>have:=zos hq; omega
  have hv:dpV (P ++ depI a ++ (depI b ++ ((0:Int) :: Q))) ((Tr.bin k s p a b).node base) = (depT (.bin k s p a b):Int):=by
   have e1:arF ((Tr.bin k s p a b).node base).kind = 2:=ht.1.1.1
   have e2:((Tr.bin k s p a b).node base).a.toNat = base + a.size - 1:=by show ((base + a.size - 1:Nat):Int).toNat = _; rw [Int.toNat_natCast]
   have e4:((Tr.bin k s p a b).node base).b.toNat = base + a.size + b.size - 1:=by show ((base + a.size + b.size - 1:Nat):Int).toNat = _; rw [Int.toNat_natCast]
   have e3:fixK ((Tr.bin k s p a b).node base).kind = false:=hf
   simp only [dpV, e1, e2, e4, hg1, hg2, e3, depT]
   simp
   split <;> omega
  rw [hv, zgd (P ++ depI a) (depI b) 0 _ Q (n:=base + a.size + b.size) (by rw [List.length_append, hP, jr, jr]), zch]
  have:depI (.bin k s p a b) = depI a ++ (depI b ++ [(depT (.bin k s p a b):Int)]):=by simp [depI, depA]
  rw [this]
  simp only [List.append_assoc]
  rw [show base + a.size + b.size + 1 = base + (a.size + b.size + 1) by omega]
theorem dpL_tree (t:Tr) (ht:t.ok = true):dpL (t.flat 0) 0 (List.replicate t.size 0) = depI t:=by
 have:=zhi t 0 [] [] [] ht rfl
 simpa [dpL] using this
section
variable {h₀:H} {f out:Sl} {l:List Nd}
theorem zht (r:NdR h₀ f l) {T:List Int} (m:Mine h₀ h out (cIs T)) {i:Nat} {n:Nd} (hn:l[i]? = some n) {v:Int} (hv:T[i]? = some v) (h0:0≤v) (h1:v≤1000) (k:Nat) :
  ∃ h', (∀ (α:Type) (K:M α), (idxSl f (i:Int) 5 fun a=>ldI .i64 (a.add 0) fun x0=>ldI .i64 (a.add 1) fun x1=>ldI .i64 (a.add 2) fun x2=>ldStr (a.add 3) fun x3=>ldI .i64 (a.add 4) fun x4=>qar.f (k + 1) x0 x1 x2 x3 x4 fun r=>
   cond r (idxSl out (i:Int) 1 fun b=>ldI .i64 (b.add 0) fun y=>idxSl out (i:Int) 1 fun c=>st1 (c.add 0) (.int .i64 (w64 (y + 1))) K) K) h = K h') ∧ Mine h₀ h' out (cIs (T.set i (if fixK n.kind = true then v + 1 else v))):=by
 have x1:Ext h (h.push (ndC n)):=(Ext.refl h).push _
 have m1:=m.push x1
 cases c:fixK n.kind with
 | false=>
  refine ⟨h.push (ndC n), fun α K=>?_, ?_⟩
  ·rw [zck (r.ext m.ext) rfl hn, zcb, c, cond_false]
  ·have:T.set i v = T:=by
    have:=List.getElem?_eq_some_iff.1 hv
    obtain ⟨hlt, rfl⟩:=this
    exact List.set_getElem_self hlt
   simp only [Bool.false_eq_true, if_false]
   rw [this]; exact m1
 | true=>
  obtain ⟨h2, e2, m2, _⟩:=m1.st (x:=(i:Int)) (i:=i) (v + 1) rfl (yt hv)
  refine ⟨h2, fun α K=>?_, by simpa using m2⟩
  rw [zck (r.ext m.ext) rfl hn, zcb, c, cond_true, jp m1.own.rd rfl hv, zw (by omega) (by omega), e2]
theorem set_set (T:List Int) (i:Nat) (x y:Int):(T.set i x).set i y = T.set i y:=by simp
theorem deep_loop (r:NdR h₀ f l) (hb:Below l) (hl:l.length≤500) (k:Nat):∀ (j i:Nat) (h:H) (S:List Int), i≤l.length->l.length - i < j->S.length = i->(∀ (q:Nat) (v:Int), S[q]? = some v->0≤v ∧ v≤q + 1)->Mine h₀ h out (cIs (S ++ List.replicate (l.length - i) 0)) ->
  ∃ h', (∀ (α:Type) (kx:Sl->M α), qn.u11.l (k + 1) kx j f out (i:Int) h = kx out h') ∧ Mine h₀ h' out (cIs (dpL (l.drop i) i (S ++ List.replicate (l.length - i) 0))):=by
 intro j
 induction j with
 | zero=>intro i h S hi hj; omega
 | succ j ih=>
  intro i h S hi hj hS hb0 m
  have hfl:=yd r
  by_cases hlt:i < l.length
  rotate_left
  ·refine ⟨h, fun α kx=>?_, by rw [List.drop_of_length_le (by omega)]; exact m⟩
   rw [qn.u11.l, qn.u10.f, qn.u3.f, hfl, dF (by omega:¬ (i:Int) < (l.length:Int)), cond_false]
  have hn:l[i]? = some l[i]:=List.getElem?_eq_getElem hlt
  rw [List.drop_eq_getElem_cons hlt, dpL]
  generalize l[i] = n at hn ⊢
  have rr:=fun (h:H) (x:Ext h₀ h)=>r.ext x
  have hTl:(S ++ List.replicate (l.length - i) (0:Int)).length = l.length:=by simp; omega
  have hTi:(S ++ List.replicate (l.length - i) (0:Int))[i]? = some 0:=by
   rw [List.getElem?_append_right (by omega), hS, Nat.sub_self, List.getElem?_replicate, if_pos (by omega)]
  have hTq:∀ q, q < i->(S ++ List.replicate (l.length - i) (0:Int))[q]? = S[q]?:=fun q hq=>List.getElem?_append_left (by omega)
  have hset:∀ v, (S ++ List.replicate (l.length - i) (0:Int)).set i v = (S ++ [v]) ++ List.replicate (l.length - (i + 1)) 0:=fun v=>by
   rw [List.set_append_right _ _ (by omega), hS, Nat.sub_self, show l.length - i = (l.length - (i + 1)) + 1 by omega, List.replicate_succ, List.set_cons_zero, List.append_assoc]
   rfl
  obtain ⟨b1, b2⟩:=hb i n hn
  generalize hTT:S ++ List.replicate (l.length - i) (0:Int) = T at *
  have start:∀ (α:Type) (kx:Sl->M α), qn.u11.l (k + 1) kx (j + 1) f out (i:Int) h = _:=fun α kx=>by
   rw [qn.u11.l, qn.u10.f, qn.u3.f, hfl, dT (by clear b1 b2; omega:(i:Int) < (l.length:Int)), cond_true, qn.u9.f, qn.u7.f, qn.u6.f, qn.u4.f, zac (rr h m.ext) rfl hn, zcp]
  have key:∃ h1, (∀ (α:Type) (kx:Sl->M α), qn.u11.l (k + 1) kx (j + 1) f out (i:Int) h = qn.u11.l (k + 1) kx j f out (w64 ((i:Int) + 1)) h1) ∧ Mine h₀ h1 out (cIs (T.set i (dpV T n))) ∧ 0≤dpV T n ∧ dpV T n≤i + 1:=by
   have arity0:arF n.kind≤0->∃ h1, (∀ (α:Type) (kx:Sl->M α), qn.u11.l (k + 1) kx (j + 1) f out (i:Int) h = qn.u11.l (k + 1) kx j f out (w64 ((i:Int) + 1)) h1) ∧ Mine h₀ h1 out (cIs (T.set i (dpV T n))) ∧ 0≤dpV T n ∧ dpV T n≤i + 1:=by
    clear b1 b2
    intro e
    obtain ⟨h1, e1, m1⟩:=zht r m hn hTi (Int.le_refl _) (by omega) k
    have hf:fixK n.kind = false:=by
     cases hq:fixK n.kind with
     | false=>rfl
     | true=>have:=zos hq; omega
    have hv:dpV T n = 0:=by
     have n1:¬ 0 < arF n.kind:=by omega
     have n2:¬ 1 < arF n.kind:=by omega
     simp [dpV, n1, n2, hf]
    refine ⟨h1, fun α kx=>?_, ?_, ?_, ?_⟩
    ·rw [start, dF (by omega:¬ 0 < arF n.kind), cond_false, qn.u5.f, dF (by omega:¬ 1 < arF n.kind), cond_false, e1]
     rfl
    ·rw [hf] at m1; rw [hv]; exact m1
    ·omega
    ·omega
   rcases zff n.kind with e | e | e | e
   ·exact arity0 (by omega)
   ·exact arity0 (by omega)
   ·obtain ⟨a, ha, hai⟩:=b1 (by omega)
    clear b1 b2 arity0
    obtain ⟨va, hva⟩:∃ v, T[a]? = some v:=⟨_, List.getElem?_eq_getElem (by omega)⟩
    have hvb:=hb0 a va (by rw [← hTq a hai]; exact hva)
    obtain ⟨h1, e1, m1, _⟩:=m.st (x:=(i:Int)) (i:=i) va rfl (by omega)
    obtain ⟨h2, e2, m2⟩:=zht r m1 hn (v:=va) (by rw [List.getElem?_set_self (by omega)]) hvb.1 (by omega) k
    have hv:dpV T n = if fixK n.kind = true then va + 1 else va:=by
     simp only [dpV, e, ha, Int.toNat_natCast, hva, Option.getD_some]
     simp
    refine ⟨h2, fun α kx=>?_, by rw [hv, ← set_set T i va]; exact m2, ?_, ?_⟩
    ·rw [start, e, dT (by omega:(0:Int) < 1), cond_true, nd_a (rr h m.ext) rfl hn, jp m.own.rd ha hva, e1, qn.u5.f, dF (by omega:¬ (1:Int) < 1), cond_false, e2]
     rfl
    ·rw [hv]; split <;> omega
    ·rw [hv]; split <;> omega
   ·obtain ⟨a, ha, hai⟩:=b1 (by omega)
    obtain ⟨b, hb', hbi⟩:=b2 (by omega)
    clear b1 b2 arity0
    obtain ⟨va, hva⟩:∃ v, T[a]? = some v:=⟨_, List.getElem?_eq_getElem (by omega)⟩
    obtain ⟨vb, hvb⟩:∃ v, T[b]? = some v:=⟨_, List.getElem?_eq_getElem (by omega)⟩
    have hva':=hb0 a va (by rw [← hTq a hai]; exact hva)
    have hvb':=hb0 b vb (by rw [← hTq b hbi]; exact hvb)
    have hf:fixK n.kind = false:=by
     cases hq:fixK n.kind with
     | false=>rfl
     | true=>have:=zos hq; omega
    obtain ⟨h1, e1, m1, _⟩:=m.st (x:=(i:Int)) (i:=i) va rfl (by omega)
    have hb1:(T.set i va)[b]? = some vb:=by rw [List.getElem?_set_ne (by omega)]; exact hvb
    have hi1:(T.set i va)[i]? = some va:=List.getElem?_set_self (by omega)
    have hv:dpV T n = if va < vb then vb else va:=by
     simp only [dpV, e, ha, hb', Int.toNat_natCast, hva, hvb, hf, Option.getD_some]
     simp
    by_cases c:va < vb
    ·obtain ⟨h2, e2, m2, _⟩:=m1.st (x:=(i:Int)) (i:=i) vb rfl (by rw [List.length_set]; omega)
     obtain ⟨h3, e3, m3⟩:=zht r m2 hn (v:=vb) (by rw [List.getElem?_set_self (by rw [List.length_set]; omega)]) hvb'.1 (by omega) k
     rw [hf] at m3
     refine ⟨h3, fun α kx=>?_, by rw [hv, if_pos c]; simpa using m3, ?_, ?_⟩
     ·rw [start, e, dT (by omega:(0:Int) < 2), cond_true, nd_a (rr h m.ext) rfl hn, jp m.own.rd ha hva, e1, qn.u5.f, dT (by omega:(1:Int) < 2), cond_true, nd_b (rr h1 m1.ext) rfl hn, jp m1.own.rd hb' hb1, jp m1.own.rd rfl hi1, dT c, cond_true,
       nd_b (rr h1 m1.ext) rfl hn, jp m1.own.rd hb' hb1, e2, e3]
      rfl
     ·rw [hv]; split <;> omega
     ·rw [hv]; split <;> omega
    ·obtain ⟨h3, e3, m3⟩:=zht r m1 hn hi1 hva'.1 (by omega) k
     rw [hf] at m3
     refine ⟨h3, fun α kx=>?_, by rw [hv, if_neg c]; simpa using m3, ?_, ?_⟩
     ·rw [start, e, dT (by omega:(0:Int) < 2), cond_true, nd_a (rr h m.ext) rfl hn, jp m.own.rd ha hva, e1, qn.u5.f, dT (by omega:(1:Int) < 2), cond_true, nd_b (rr h1 m1.ext) rfl hn, jp m1.own.rd hb' hb1, jp m1.own.rd rfl hi1, dF c, cond_false, e3]
      rfl
     ·rw [hv]; split <;> omega
     ·rw [hv]; split <;> omega
  obtain ⟨h1, e1, m1, v0, v1⟩:=key
  clear b1 b2
  rw [hset] at m1 ⊢
  obtain ⟨h2, e2, m2⟩:=ih (i + 1) h1 (S ++ [dpV T n]) (by omega) (by omega) (by simp [hS]) (fun q v hq=>by
   by_cases hqi:q < i
   ·rw [List.getElem?_append_left (by omega)] at hq; exact hb0 q v hq
   ·have hl':=yt hq
    simp only [List.length_append, List.length_cons, List.length_nil] at hl'
    have:q = i:=by omega
    subst this
    rw [List.getElem?_append_right (by omega), hS, Nat.sub_self] at hq
    simp only [List.getElem?_cons_zero, Option.some.injEq] at hq
    omega) m1
  refine ⟨h2, fun α kx=>?_, m2⟩
  rw [e1, zw (by omega) (by omega)]
  exact e2 α kx
theorem deep_run (k:Nat) (hk:200≤k) {t:Tr} (ht:t.ok = true) (hs:t.size≤60) (h:H) (r:NdR h f (t.flat 0)) :
  ∃ h' s, (∀ (α:Type) (ret:Sl->M α), qn.f (k + 1) f ret h = ret s h') ∧ Mine h h' s (cIs (depI t)):=by
 obtain ⟨k, rfl⟩:∃ q, k = q + 1:=⟨k - 1, by omega⟩
 have hfl:f.len = t.size:=by rw [yd r, ze]
 obtain ⟨h1, e1, o1, n1, x1⟩:=zcs (h:=h) (n:=t.size) (x:=(f.len:Int)) (y:=(f.len:Int)) (by rw [hfl]) (by rw [hfl]) (by omega)
 have m1:Mine h h1 ⟨some ⟨h.next, 0⟩, t.size, t.size, none⟩ (cIs ([] ++ List.replicate ((t.flat 0).length - 0) 0)):=⟨x1, by rw [ze]; exact o1, Nat.le_refl _⟩
 obtain ⟨h2, e2, m2⟩:=deep_loop r (zgv ht) (by rw [ze]; omega) k (k + 1) 0 h1 [] (Nat.zero_le _) (by rw [ze]; omega) rfl (fun q v hq=>by simp at hq) m1
 rw [List.drop_zero, ze] at m2
 rw [Nat.sub_zero, List.nil_append, dpL_tree t ht] at m2
 refine ⟨h2, _, fun α ret=>?_, m2⟩
 rw [qn.f, qn.u16.f, qn.u1.f, e1, qn.u15.f, qn.u13.f, qn.u2.f, qn.u12.f, qn.u11.f]
 exact e2 α _
end
end Go.Ab.S5
namespace Go.Ab.S5
variable {α:Type} {h:H}
def zgs (l:List Nd) (U:List Int):Int->Anc->Prop
 | m, []=>m = -1
 | m, (i, n) :: A=>m = (i:Int) ∧ l[i]? = some n ∧ ∃ m', U[i]? = some m' ∧ zgs l U m' A
def zma (name:List UInt8):Anc->Nat->Option (Nat × Nat)
 | [], _=>none
 | (i, n) :: A, c=>if fixK n.kind = true ∧ n.name = name then some (i, c) else zma name A (if n.kind = 5 then c + 1 else c)
theorem znr (name:List UInt8):∀ (A:Anc) (c:Nat), zma name A c = (zar name A).map fun p=>(p.1, c + (cntN A - p.2))
 | [], c=>rfl
 | (i, n) :: A, c=>by
  simp only [zma, zar]
  by_cases h:fixK n.kind = true ∧ n.name = name
  ·rw [if_pos h, if_pos h]
   have h5:n.kind ≠ 5:=by
    intro e; rw [e] at h; exact absurd h.1 (by decide)
   simp [cntN, h5]
  ·rw [if_neg h, if_neg h, znr name A]
   cases hf:zar name A with
   | none=>rfl
   | some p=>
    obtain ⟨j, m⟩:=p
    have:=zfi hf
    simp only [Option.map_some, cntN]
    split <;> simp <;> omega
theorem zes {l:List Nd} {U:List Int}:∀ (t:Tr) (base:Nat) (A:Anc) (p:Int), t.ok = true->(∀ i n, (t.flat base)[i]? = some n->l[base + i]? = some n)->(∀ (i:Nat) (v:Int), (upA t base p)[i]? = some v->U[base + i]? = some v)->zgs l U p A ->
  ∀ i n, (t.flat base)[i]? = some n->∃ (B:Anc) (m:Int), U[base + i]? = some m ∧ zgs l U m B ∧ (toA t base A)[i]? = some (yp n.kind n.name B) ∧ (oddA t base A)[i]? = some (zax n.kind n.name B) ∧ B.length≤A.length + t.size
 | .leaf k s q, base, A, p, ht, hl, hU, hc, i, n, hi=>by
  have h1:=yt hi
  rw [ze] at h1
  have:i = 0:=by simp only [Tr.size] at h1; omega
  subst this
  simp only [Tr.flat, List.getElem?_cons_zero, Option.some.injEq] at hi
  subst hi
  exact ⟨A, p, hU 0 p rfl, hc, rfl, rfl, by omega⟩
 | .un k s q a, base, A, p, ht, hl, hU, hc, i, n, hi=>by
  simp only [Tr.ok, Bool.and_eq_true, decide_eq_true_eq] at ht
  have hsub:=zep (l:=l) (a:=a) (base:=base) (rest:=[(Tr.un k s q a).node base]) hl
  have hself:l[base + a.size]? = some ((Tr.un k s q a).node base):=hsub.2 0 _ rfl
  have hUs:U[base + a.size]? = some p:=hU a.size p (by simp only [upA]; rw [List.getElem?_append_right (by rw [je]; omega), je, Nat.sub_self]; rfl)
  have hUa:∀ (i:Nat) (v:Int), (upA a base ((base + a.size:Nat):Int))[i]? = some v->U[base + i]? = some v:=fun i v h=>hU i v (by simp only [upA]; rw [List.getElem?_append_left (yt h)]; exact h)
  have hc':zgs l U ((base + a.size:Nat):Int) ((base + a.size, (Tr.un k s q a).node base) :: A):=⟨rfl, hself, p, hUs, hc⟩
  simp only [Tr.flat] at hi
  by_cases hlt:i < a.size
  ·rw [List.getElem?_append_left (by rw [ze]; exact hlt)] at hi
   obtain ⟨B, m, b1, b2, b3, b4, b5⟩:=zes a base _ _ ht.2 hsub.1 hUa hc' i n hi
   refine ⟨B, m, b1, b2, ?_, ?_, by simp only [List.length_cons, Tr.size] at b5 ⊢; omega⟩
   ·simp only [toA]; rw [List.getElem?_append_left (by rw [jo]; exact hlt)]; exact b3
   ·simp only [oddA]; rw [List.getElem?_append_left (by rw [yc]; exact hlt)]; exact b4
  ·have h1:=yt hi
   simp only [List.length_append, ze, List.length_cons, List.length_nil] at h1
   have:i = a.size:=by omega
   subst this
   rw [List.getElem?_append_right (by rw [ze]; omega), ze, Nat.sub_self] at hi
   simp only [List.getElem?_cons_zero, Option.some.injEq] at hi
   subst hi
   have h4:k ≠ 4:=by
    intro e; rw [e] at ht; exact absurd ht.1.1 (by decide)
   refine ⟨A, p, hUs, hc, ?_, ?_, by omega⟩
   ·simp only [toA]
    rw [List.getElem?_append_right (by rw [jo]; omega), jo, Nat.sub_self]
    simp [yp, Tr.node, h4]
   ·simp only [oddA]
    rw [List.getElem?_append_right (by rw [yc]; omega), yc, Nat.sub_self]
    simp [zax, Tr.node, h4]
 | .bin k s q a b, base, A, p, ht, hl, hU, hc, i, n, hi=>by
  simp only [Tr.ok, Bool.and_eq_true, decide_eq_true_eq] at ht
  have hsub:=zep (l:=l) (a:=a) (base:=base) (rest:=b.flat (base + a.size) ++ [(Tr.bin k s q a b).node base]) hl
  have hsub2:=zep (l:=l) (a:=b) (base:=base + a.size) (rest:=[(Tr.bin k s q a b).node base]) hsub.2
  have hself:l[base + a.size + b.size]? = some ((Tr.bin k s q a b).node base):=hsub2.2 0 _ rfl
  have hUs:U[base + a.size + b.size]? = some p:=by
   have:=hU (a.size + b.size) p (by
    simp only [upA]
    rw [List.getElem?_append_right (by rw [je]; omega), je, List.getElem?_append_right (by rw [je]; omega), je, show a.size + b.size - a.size - b.size = 0 by omega]; rfl)
   rwa [← Nat.add_assoc] at this
  have hUa:∀ (i:Nat) (v:Int), (upA a base ((base + a.size + b.size:Nat):Int))[i]? = some v->U[base + i]? = some v:=fun i v h=>hU i v (by simp only [upA]; rw [List.getElem?_append_left (yt h)]; exact h)
  have hUb:∀ (i:Nat) (v:Int), (upA b (base + a.size) ((base + a.size + b.size:Nat):Int))[i]? = some v->U[base + a.size + i]? = some v:=fun i v h=>by
   have:=hU (a.size + i) v (by
    simp only [upA]
    rw [List.getElem?_append_right (by rw [je]; omega), je, show a.size + i - a.size = i by omega, List.getElem?_append_left (yt h)]; exact h)
   rwa [← Nat.add_assoc] at this
  have hc':zgs l U ((base + a.size + b.size:Nat):Int) ((base + a.size + b.size, (Tr.bin k s q a b).node base) :: A):=⟨rfl, hself, p, hUs, hc⟩
  simp only [Tr.flat] at hi
  by_cases hlt:i < a.size
  ·rw [List.getElem?_append_left (by rw [ze]; exact hlt)] at hi
   obtain ⟨B, m, b1, b2, b3, b4, b5⟩:=zes a base _ _ ht.1.2 hsub.1 hUa hc' i n hi
   have:=Tr.pos b
   refine ⟨B, m, b1, b2, ?_, ?_, by simp only [List.length_cons, Tr.size] at b5 ⊢; omega⟩
   ·simp only [toA]; rw [List.getElem?_append_left (by rw [jo]; exact hlt)]; exact b3
   ·simp only [oddA]; rw [List.getElem?_append_left (by rw [yc]; exact hlt)]; exact b4
  ·rw [List.getElem?_append_right (by rw [ze]; omega), ze] at hi
   have e0:base + a.size + (i - a.size) = base + i:=by omega
   by_cases hlt2:i - a.size < b.size
   ·rw [List.getElem?_append_left (by rw [ze]; exact hlt2)] at hi
    obtain ⟨B, m, b1, b2, b3, b4, b5⟩:=zes b (base + a.size) _ _ ht.2 hsub2.1 hUb hc' (i - a.size) n hi
    have:=Tr.pos a
    rw [e0] at b1
    refine ⟨B, m, b1, b2, ?_, ?_, by simp only [List.length_cons, Tr.size] at b5 ⊢; omega⟩
    ·simp only [toA]; rw [List.getElem?_append_right (by rw [jo]; omega), jo, List.getElem?_append_left (by rw [jo]; exact hlt2)]; exact b3
    ·simp only [oddA]; rw [List.getElem?_append_right (by rw [yc]; omega), yc, List.getElem?_append_left (by rw [yc]; exact hlt2)]; exact b4
   ·have h1:=yt hi
    simp only [List.length_append, ze, List.length_cons, List.length_nil] at h1
    have:i = a.size + b.size:=by omega
    subst this
    rw [List.getElem?_append_right (by rw [ze]; omega), ze, show a.size + b.size - a.size - b.size = 0 by omega] at hi
    simp only [List.getElem?_cons_zero, Option.some.injEq] at hi
    subst hi
    have h4:k ≠ 4:=by
     intro e; rw [e] at ht; exact absurd ht.1.1.1 (by decide)
    refine ⟨A, p, by rw [← Nat.add_assoc]; exact hUs, hc, ?_, ?_, by omega⟩
    ·simp only [toA]
     rw [List.getElem?_append_right (by rw [jo]; omega), jo, List.getElem?_append_right (by rw [jo]; omega), jo, show a.size + b.size - a.size - b.size = 0 by omega]
     simp [yp, Tr.node, h4]
    ·simp only [oddA]
     rw [List.getElem?_append_right (by rw [yc]; omega), yc, List.getElem?_append_right (by rw [yc]; omega), yc, show a.size + b.size - a.size - b.size = 0 by omega]
     simp [zax, Tr.node, h4]
section
variable {h₀:H} {f up:Sl} {l:List Nd} {U:List Int}
theorem zpg (r:NdR h₀ f l) (ru:Rd h₀ up 1 (cIs U)) {a:Nat} {n0:Nd} (hn0:l[a]? = some n0) (k:Nat):∀ (A:Anc) (m:Int) (c j:Nat) (h:H), zgs l U m A->A.length < j->c + A.length≤1000->Ext h₀ h ->
  ∃ h', Ext h₀ h' ∧ ∀ (α:Type) (kr:Int->Int->M α) (kx:M α), qx.u4.l (k + 1) kr kx j f up (a:Int) (c:Int) m h = (match zma n0.name A c with | some (i, d)=>kr i d h' | none=>kx h'):=by
 intro A
 induction A with
 | nil=>
  intro m c j h hc hj hb x
  obtain ⟨j, rfl⟩:∃ q, j = q + 1:=⟨j - 1, by simp at hj; omega⟩
  have hm:m = -1:=hc
  subst hm
  refine ⟨h, x, fun α kr kx=>?_⟩
  rw [qx.u4.l, qx.u3.f, dF (by omega:¬ (0:Int)≤-1), cond_false]
  rfl
 | cons p A ih=>
  intro m c j h hc hj hb x
  obtain ⟨i, n⟩:=p
  obtain ⟨rfl, hi, m', hm', hc'⟩:=hc
  simp only [List.length_cons] at hj hb
  obtain ⟨j, rfl⟩:∃ q, j = q + 1:=⟨j - 1, by omega⟩
  have x1:Ext h (h.push (ndC n)):=(Ext.refl h).push _
  have start:∀ (α:Type) (kr:Int->Int->M α) (kx:M α), qx.u4.l (k + 1) kr kx (j + 1) f up (a:Int) (c:Int) (i:Int) h = _:=fun α kr kx=>by
   rw [qx.u4.l, qx.u3.f, dT (by omega:(0:Int)≤(i:Int)), cond_true, zck (r.ext x) rfl hi, zcb]
  generalize h.push (ndC n) = h1 at start x1
  have x01:=x.trans x1
  have rr:=r.ext x01
  have ruu:=ru.ext x01
  simp only [zma]
  -- on
  have on:∀ (d:Nat), d = (if n.kind = 5 then c + 1 else c)->∃ h', Ext h₀ h' ∧ ∀ (α:Type) (kr:Int->Int->M α) (kx:M α), qx.u4.l (k + 1) kr kx j f up (a:Int) (d:Int) m' h1 = (match zma n0.name A (if n.kind = 5 then c + 1 else c) with | some (i, d)=>kr i d h' | none=>kx h'):=by
   intro d hd
   rw [← hd]
   exact ih m' d j h1 hc' (by omega) (by rw [hd]; split <;> omega) x01
  by_cases hfx:fixK n.kind = true
  ·by_cases hname:n.name = n0.name
   ·rw [if_pos ⟨hfx, hname⟩]
    refine ⟨h1, x01, fun α kr kx=>?_⟩
    rw [start, hfx, cond_true, zcz rr rfl hi, zcz rr rfl hn0, dT hname, cond_true]
   ·rw [if_neg (fun h=>hname h.2)]
    have h5:n.kind ≠ 5:=by
     intro e; rw [e] at hfx; exact absurd hfx (by decide)
    obtain ⟨h', x', e'⟩:=on c (by rw [if_neg h5])
    refine ⟨h', x', fun α kr kx=>?_⟩
    rw [start, hfx, cond_true, zcz rr rfl hi, zcz rr rfl hn0, dF hname, cond_false, zac rr rfl hi, dF h5, cond_false, jp ruu rfl hm']
    exact e' α kr kx
  ·rw [if_neg (fun h=>hfx h.1)]
   rw [Bool.not_eq_true] at hfx
   by_cases h5:n.kind = 5
   ·obtain ⟨h', x', e'⟩:=on (c + 1) (by rw [if_pos h5])
    refine ⟨h', x', fun α kr kx=>?_⟩
    rw [start, hfx, cond_false, zac rr rfl hi, dT h5, cond_true, jp ruu rfl hm', zw (by omega) (by omega)]
    exact e' α kr kx
   ·obtain ⟨h', x', e'⟩:=on c (by rw [if_neg h5])
    refine ⟨h', x', fun α kr kx=>?_⟩
    rw [start, hfx, cond_false, zac rr rfl hi, dF h5, cond_false, jp ruu rfl hm']
    exact e' α kr kx
theorem zkz (r:NdR h₀ f l) (ru:Rd h₀ up 1 (cIs U)) {a:Nat} {n0:Nd} (hn0:l[a]? = some n0) {A:Anc} {m:Int} (hm:U[a]? = some m) (hc:zgs l U m A) (hl:A.length≤200) (k:Nat) (hk:300≤k) (h:H) (x:Ext h₀ h) :
  ∃ h', Ext h₀ h' ∧ ∀ (α:Type) (ret:Int->Int->M α), qx.f (k + 1) f up (a:Int) ret h = (match zma n0.name A 0 with | some (i, d)=>ret i d h' | none=>ret (-1) 0 h'):=by
 obtain ⟨k, rfl⟩:∃ q, k = q + 1:=⟨k - 1, by omega⟩
 obtain ⟨h', x', e'⟩:=zpg r ru hn0 k A m 0 (k + 1) h hc (by omega) (by omega) x
 refine ⟨h', x', fun α ret=>?_⟩
 rw [qx.f, qx.u9.f, qx.u1.f, qx.u8.f, qx.u6.f, qx.u2.f, jp (ru.ext x) rfl hm, qx.u5.f, qx.u4.f, qx.u7.f]
 exact e' α _ _
end
end Go.Ab.S5
namespace Go.Ab.S5
variable {α:Type} {h:H}
def yk (l:List Nd):List (List UInt8):=(l.filter fun n=>fixK n.kind).map Nd.name
theorem zmf (l:List Nd) (n:Nd):yk (l ++ [n]) = if fixK n.kind = true then yk l ++ [n.name] else yk l:=by
 unfold yk
 rw [List.filter_append, List.map_append]
 cases h:fixK n.kind <;> simp [h]
theorem zmd (l:List Nd) (n:Nd):yk (n :: l) = if fixK n.kind = true then n.name :: yk l else yk l:=by
 unfold yk
 rw [List.filter_cons]
 cases h:fixK n.kind <;> simp
theorem zmi {l:List Nd} {i:Nat} {n:Nd} (hi:l[i]? = some n):yk (l.take (i + 1)) = if fixK n.kind = true then yk (l.take i) ++ [n.name] else yk (l.take i):=by
 rw [List.take_add_one, hi]
 exact zmf _ _
section
variable {h₁:H} {f up high:Sl} {l:List Nd} {U D:List Int}
theorem dup_loop (r:NdR h₁ f l) {i:Nat} {n:Nd} (hi:l[i]? = some n) (hl:l.length≤1000) (k:Nat):∀ (j c:Nat) (h:H), c≤i->i - c < j->Ext h₁ h ->
  ∃ h', Ext h₁ h' ∧ ∀ (α:Type) (kr:Int->Int->M α) (kx:Sl->Sl->Sl->Int->M α), qf.u8.l (k + 1) kr kx j f up high (i:Int) (c:Int) h = if n.name ∈ yk ((l.take i).drop c) then kr (i:Int) 9 h' else kx f up high (i:Int) h':=by
 have hil:=yt hi
 intro j
 induction j with
 | zero=>intro c h hc hj; omega
 | succ j ih=>
  intro c h hc hj x
  by_cases hlt:c < i
  rotate_left
  ·refine ⟨h, x, fun α kr kx=>?_⟩
   rw [qf.u8.l, qf.u7.f, dF (by omega:¬ (c:Int) < (i:Int)), cond_false, List.drop_of_length_le (by simp; omega), if_neg (by simp [yk])]
  have hc':l[c]? = some l[c]:=List.getElem?_eq_getElem (by omega)
  have hd:(l.take i).drop c = l[c] :: (l.take i).drop (c + 1):=by
   rw [List.drop_eq_getElem_cons (by simp; omega)]
   simp
  rw [hd]
  generalize l[c] = m at hc' ⊢
  have x1:Ext h (h.push (ndC m)):=(Ext.refl h).push _
  have start:∀ (α:Type) (kr:Int->Int->M α) (kx:Sl->Sl->Sl->Int->M α), qf.u8.l (k + 1) kr kx (j + 1) f up high (i:Int) (c:Int) h = _:=fun α kr kx=>by
   rw [qf.u8.l, qf.u7.f, dT (by omega:(c:Int) < (i:Int)), cond_true, zck (r.ext x) rfl hc', zcb]
  generalize h.push (ndC m) = h1 at start x1
  have rr:=r.ext (x.trans x1)
  obtain ⟨h', x', e'⟩:=ih (c + 1) h1 (by omega) (by omega) (x.trans x1)
  have hmem:n.name ∈ yk (m :: (l.take i).drop (c + 1)) ↔ (fixK m.kind = true ∧ m.name = n.name) ∨ n.name ∈ yk ((l.take i).drop (c + 1)):=by
   rw [zmd]
   cases hf:fixK m.kind with
   | false=>simp
   | true=>
    simp only [if_true, List.mem_cons, true_and]
    exact ⟨fun h=>h.imp Eq.symm id, fun h=>h.imp Eq.symm id⟩
  by_cases hdup:fixK m.kind = true ∧ m.name = n.name
  ·refine ⟨h1, x.trans x1, fun α kr kx=>?_⟩
   rw [start, if_pos (hmem.2 (.inl hdup)), hdup.1, cond_true, zcz rr rfl hc', zcz rr rfl hi, dT hdup.2, cond_true]
  ·refine ⟨h', x', fun α kr kx=>?_⟩
   have hiff:(n.name ∈ yk (m :: (l.take i).drop (c + 1))) = (n.name ∈ yk ((l.take i).drop (c + 1))):=propext ⟨fun h=>(hmem.1 h).resolve_left hdup, fun h=>hmem.2 (.inr h)⟩
   rw [start]
   simp only [hiff]
   refine Eq.trans ?_ (e' α kr kx)
   cases hf:fixK m.kind with
   | false=>rw [cond_false, zw (by omega) (by omega)]; rfl
   | true=>rw [cond_true, zcz rr rfl hc', zcz rr rfl hi, dF (fun e=>hdup ⟨hf, e⟩), cond_false, zw (by omega) (by omega)]; rfl
theorem zqk {T:List Int} {O:List Bool} (r:NdR h₁ f l) (ru:Rd h₁ up 1 (cIs U)) (rh:Rd h₁ high 1 (cIs D)) (hT:T.length = l.length) (hO:O.length = l.length) (hD:D.length = l.length) (hl:l.length≤100)
  (hch:∀ (i:Nat) (n:Nd), l[i]? = some n->∃ (B:Anc) (m:Int), U[i]? = some m ∧ zgs l U m B ∧ T[i]? = some (yp n.kind n.name B) ∧ O[i]? = some (zax n.kind n.name B) ∧ B.length≤200) (k:Nat) (hk:400≤k):∀ (j i:Nat) (h:H), i≤l.length->l.length - i < j->Ext h₁ h ->
   ∃ h', Ext h₁ h' ∧ ∀ (α:Type) (kr:Int->Int->M α), qf.u19.l (k + 1) kr (kr 0 0) j f up high (i:Int) h = kr (chk (l.drop i) (T.drop i) (O.drop i) (D.drop i) i (yk (l.take i))).1 (chk (l.drop i) (T.drop i) (O.drop i) (D.drop i) i (yk (l.take i))).2 h':=by
 intro j
 induction j with
 | zero=>intro i h hi hj; omega
 | succ j ih=>
  intro i h hi hj x
  have hfl:=yd r
  by_cases hlt:i < l.length
  rotate_left
  ·refine ⟨h, x, fun α kr=>?_⟩
   rw [qf.u19.l, qf.u18.f, qf.u3.f, hfl, dF (by omega:¬ (i:Int) < (l.length:Int)), cond_false, List.drop_of_length_le (by omega)]
   rfl
  have hn:l[i]? = some l[i]:=List.getElem?_eq_getElem hlt
  have hDi:D[i]? = some D[i]:=List.getElem?_eq_getElem (by omega)
  have hstep:=zmi hn
  obtain ⟨B, m, c1, c2, c3, c4, c5⟩:=hch i l[i] hn
  have hTi:T[i] = yp l[i].kind l[i].name B:=by
   rw [List.getElem?_eq_getElem (by omega)] at c3; exact Option.some.inj c3
  have hOi:O[i] = zax l[i].kind l[i].name B:=by
   rw [List.getElem?_eq_getElem (by omega)] at c4; exact Option.some.inj c4
  rw [List.drop_eq_getElem_cons hlt, List.drop_eq_getElem_cons (by omega:i < T.length), List.drop_eq_getElem_cons (by omega:i < O.length), List.drop_eq_getElem_cons (by omega:i < D.length), chk, hTi, hOi, ← hstep]
  generalize l[i] = n at hn ⊢
  generalize D[i] = di at hDi ⊢
  have start:∀ (α:Type) (kr:Int->Int->M α), qf.u19.l (k + 1) kr (kr 0 0) (j + 1) f up high (i:Int) h = _:=fun α kr=>by
   rw [qf.u19.l, qf.u18.f, qf.u3.f, hfl, dT (by omega:(i:Int) < (l.length:Int)), cond_true, qf.u17.f, qf.u15.f, qf.u14.f, qf.u4.f, zac (r.ext x) rfl hn]
  -- the next round
  have next:∀ (h1:H), Ext h₁ h1->∃ h', Ext h₁ h' ∧ ∀ (α:Type) (kr:Int->Int->M α), qf.u16.f (k + 1) f up high (i:Int) (fun y0 y1 y2 y3=>qf.u19.l (k + 1) kr (kr 0 0) j y0 y1 y2 y3) h1 = kr (chk (l.drop (i + 1)) (T.drop (i + 1)) (O.drop (i + 1)) (D.drop (i + 1)) (i + 1) (yk (l.take (i + 1)))).1 (chk (l.drop (i + 1)) (T.drop (i + 1)) (O.drop (i + 1)) (D.drop (i + 1)) (i + 1) (yk (l.take (i + 1)))).2 h':=by
   intro h1 x1
   obtain ⟨h', x', e'⟩:=ih (i + 1) h1 (by omega) (by omega) x1
   refine ⟨h', x', fun α kr=>?_⟩
   rw [qf.u16.f, zw (by omega) (by omega)]
   exact e' α kr
  by_cases h4:n.kind = 4
  ·-- a variable
   have hnf:fixK n.kind = false:=by rw [h4]; rfl
   obtain ⟨h1, x1, e1⟩:=zkz r ru hn c1 c2 c5 k (by omega) h x
   have hR:=znr n.name B 0
   cases hf:zar n.name B with
   | none=>
    rw [hf] at hR
    rw [hR] at e1
    have t0:yp n.kind n.name B = -1:=by simp [yp, h4, hf]
    rw [if_pos ⟨h4, by rw [t0]; decide⟩]
    refine ⟨h1, x1, fun α kr=>?_⟩
    rw [start, dT h4, cond_true, e1]
    rfl
   | some p=>
    obtain ⟨q, d⟩:=p
    have hd:=zfi hf
    have hcl:=zjx B
    rw [hf] at hR
    rw [hR] at e1
    simp only [Option.map_some] at e1
    have t0:yp n.kind n.name B = (q:Int):=by simp [yp, h4, hf]
    have o0:zax n.kind n.name B = decide ((cntN B - d) % 2 ≠ 0):=by simp [zax, h4, hf]
    rw [if_neg (by rw [t0]; omega)]
    have em:((0 + (cntN B - d):Nat):Int) = ((cntN B - d:Nat):Int):=by omega
    have et:Int.tmod ((0 + (cntN B - d):Nat):Int) 2 = (((cntN B - d) % 2:Nat):Int):=by
     rw [em, Int.tmod_eq_emod_of_nonneg (by omega)]; omega
    have start2:∀ (α:Type) (kr:Int->Int->M α), qf.u19.l (k + 1) kr (kr 0 0) (j + 1) f up high (i:Int) h = _:=fun α kr=>by
     rw [start, dT h4, cond_true, e1, dF (by omega:¬ (q:Int) < 0), cond_false, et]
    by_cases ho:(cntN B - d) % 2 ≠ 0
    ·rw [if_pos ⟨h4, by rw [o0]; exact dT ho⟩]
     refine ⟨h1, x1, fun α kr=>?_⟩
     rw [start2, dT (by omega:(((cntN B - d) % 2:Nat):Int) = 1), cond_true]
    ·rw [if_neg (fun h=>ho (by have:=h.2; rw [o0] at this; exact of_decide_eq_true this)), if_neg (by rw [hnf]; exact fun h=>by cases h.1), if_neg (by rw [hnf]; exact fun h=>by cases h.1)]
     have x2:Ext h1 (h1.push (ndC n)):=(Ext.refl h1).push _
     obtain ⟨h', x', e'⟩:=next _ (x1.trans x2)
     refine ⟨h', x', fun α kr=>?_⟩
     rw [start2, dF (by omega:¬ (((cntN B - d) % 2:Nat):Int) = 1), cond_false, qf.u13.f, qf.u5.f, zck (r.ext x1) rfl hn, zcb, hnf, Bool.not_false, cond_true]
     exact e' α kr
  ·rw [if_neg (fun h=>h4 h.1), if_neg (fun h=>h4 h.1)]
   have x2:Ext h (h.push (ndC n)):=(Ext.refl h).push _
   have start2:∀ (α:Type) (kr:Int->Int->M α), qf.u19.l (k + 1) kr (kr 0 0) (j + 1) f up high (i:Int) h = _:=fun α kr=>by
    rw [start, dF h4, cond_false, qf.u13.f, qf.u5.f, zck (r.ext x) rfl hn, zcb]
   generalize h.push (ndC n) = h1 at start2 x2
   have x01:=x.trans x2
   cases hf:fixK n.kind with
   | false=>
    rw [hf] at start2
    rw [if_neg (fun h=>by cases h.1), if_neg (fun h=>by cases h.1)]
    obtain ⟨h', x', e'⟩:=next h1 x01
    refine ⟨h', x', fun α kr=>?_⟩
    rw [start2, Bool.not_false, cond_true]
    exact e' α kr
   | true=>
    rw [hf] at start2
    obtain ⟨h2, x2', e2⟩:=dup_loop (up:=up) (high:=high) r hn (by omega) k (k + 1) 0 h1 (Nat.zero_le _) (by omega) x01
    rw [List.drop_zero] at e2
    have start3:∀ (α:Type) (kr:Int->Int->M α), qf.u19.l (k + 1) kr (kr 0 0) (j + 1) f up high (i:Int) h = _:=fun α kr=>by
     refine Eq.trans ?_ (e2 α kr fun y0 y1 y2 y3=>qf.u11.f (k + 1) y0 y1 y2 y3 (fun y0 y1 y2 y3=>qf.u16.f (k + 1) y0 y1 y2 y3 fun y0 y1 y2 y3=>qf.u19.l (k + 1) kr (kr 0 0) j y0 y1 y2 y3) kr)
     rw [start2, Bool.not_true, cond_false, qf.u12.f, qf.u10.f, qf.u6.f, qf.u9.f, qf.u8.f]
     rfl
    by_cases hs:n.name ∈ yk (l.take i)
    ·rw [if_pos ⟨rfl, hs⟩]
     refine ⟨h2, x2', fun α kr=>?_⟩
     rw [start3, if_pos hs]
    ·rw [if_neg (fun h=>hs h.2)]
     by_cases hd:4 < di
     ·rw [if_pos ⟨rfl, hd⟩]
      refine ⟨h2, x2', fun α kr=>?_⟩
      rw [start3, if_neg hs, qf.u11.f, jp (rh.ext x2') rfl hDi, dT hd, cond_true]
     ·rw [if_neg (fun h=>hd h.2)]
      obtain ⟨h', x', e'⟩:=next h2 x2'
      refine ⟨h', x', fun α kr=>?_⟩
      rw [start3, if_neg hs, qf.u11.f, jp (rh.ext x2') rfl hDi, dF hd, cond_false]
      exact e' α kr
theorem zjf {t:Tr} (ht:t.ok = true) (hs:t.size≤60):∀ (i:Nat) (n:Nd), (t.flat 0)[i]? = some n->∃ (B:Anc) (m:Int), (upA t 0 (-1))[i]? = some m ∧ zgs (t.flat 0) (upA t 0 (-1)) m B ∧ (toA t 0 [])[i]? = some (yp n.kind n.name B) ∧ (oddA t 0 [])[i]? = some (zax n.kind n.name B) ∧ B.length≤200:=by
 intro i n hi
 obtain ⟨B, m, b1, b2, b3, b4, b5⟩:=zes (l:=t.flat 0) (U:=upA t 0 (-1)) t 0 [] (-1) ht (fun i n h=>by rw [Nat.zero_add]; exact h) (fun i v h=>by rw [Nat.zero_add]; exact h) rfl i n hi
 rw [Nat.zero_add] at b1
 exact ⟨B, m, b1, b2, b3, b4, by simp at b5; omega⟩
theorem zlt (k:Nat) (hk:500≤k) {t:Tr} (ht:t.ok = true) (hs:t.size≤60) (hnl:NL (t.flat 0)) (h:H) (r:NdR h f (t.flat 0)) :
  ∃ h', (∀ (α:Type) (ret:Int->Int->M α), qf.f (k + 1) f ret h = ret (chkT t).1 (chkT t).2 h') ∧ Ext h h':=by
 obtain ⟨k, rfl⟩:∃ q, k = q + 1:=⟨k - 1, by omega⟩
 have hR:zcc (t.flat 0) = true:=(zeo _).2 ⟨t, ht, rfl, hs⟩
 obtain ⟨h1, e1, x1⟩:=zhb k (by omega) hnl h r
 rw [hR] at e1
 obtain ⟨h2, up, e2, m2⟩:=up_run k (by omega) ht hs h1 (r.ext x1)
 obtain ⟨h3, high, e3, m3⟩:=deep_run k (by omega) ht hs h2 (r.ext (x1.trans m2.ext))
 have x13:=(x1.trans m2.ext).trans m3.ext
 obtain ⟨h', x', e'⟩:=zqk (r.ext x13) (m2.own.rd.ext m3.ext) m3.own.rd (by rw [jo, ze]) (by rw [yc, ze]) (by rw [jr, ze]) (by rw [ze]; omega) (zjf ht hs) k (by omega) (k + 1) 0 h3 (Nat.zero_le _) (by rw [ze]; omega) (Ext.refl h3)
 simp only [List.drop_zero, List.take_zero] at e'
 refine ⟨h', fun α ret=>?_, x13.trans x'⟩
 rw [qf.f, qf.u24.f, qf.u1.f, e1, Bool.not_true, cond_false, e2, e3, qf.u23.f, qf.u21.f, qf.u2.f, qf.u20.f, qf.u19.f, qf.u22.f]
 exact e' α ret
theorem zrn (k:Nat) (hk:500≤k) {l:List Nd} (hR:zcc l = false) (hnl:NL l) (h:H) (r:NdR h f l) :
  ∃ h', (∀ (α:Type) (ret:Int->Int->M α), qf.f (k + 1) f ret h = ret 0 1 h') ∧ Ext h h':=by
 obtain ⟨k, rfl⟩:∃ q, k = q + 1:=⟨k - 1, by omega⟩
 obtain ⟨h1, e1, x1⟩:=zhb k (by omega) hnl h r
 rw [hR] at e1
 refine ⟨h1, fun α ret=>?_, x1⟩
 rw [qf.f, qf.u24.f, qf.u1.f, e1, Bool.not_false, cond_true]
theorem room1 (x:Nat) (h:x≤100):(x + 1 + (x + 1) / 4 + 512) * 8≤281474976710656:=by omega
end
end Go.Ab.S5
namespace Go.Ab.S5
variable {α:Type} {h:H}
def n7:Nd:=⟨-7, 0, 0, [], 0⟩
structure Lent (h:H) (o:Sl) (l:List Nd):Prop where
 all:Rd h ⟨o.ad, l.length + 1, l.length + 1, o.loose⟩ 5 (cN (l ++ [n7]))
 len:o.len = l.length
 cap:o.cap = l.length + 1
 lo:o.loose = some 5
theorem Lent.ext {o:Sl} {l:List Nd} (L:Lent h o l) {h':H} (x:Ext h h'):Lent h' o l:=⟨L.all.ext x, L.len, L.cap, L.lo⟩
theorem Lent.rd {o:Sl} {l:List Nd} (L:Lent h o l):NdR h o l:=by
 have:=L.all.to l.length o.cap o.loose (Nat.le_succ _)
 rw [zbn Nd.len, List.take_left] at this
 cases o
 have h2:=L.len
 dsimp only at h2 this ⊢
 rw [h2]
 exact this
def Room (n:Nat):Prop:=n * 48≤140737488351232
theorem room_a {n:Nat} (h:Room n):(n + n / 4 + 512) * 48≤281474976710656:=by unfold Room at h; omega
theorem room_b {n:Nat} (h:Room n):(n + 1 + (n + 1) / 4 + 512) * 48≤281474976710656:=by unfold Room at h; omega
end Go.Ab.S5
namespace Go.Ab.S5
variable {α:Type} {h:H}
theorem room_n {n:Nat} (h:Room n):(0 + n + (0 + n) / 4 + 512) * 48≤281474976710656:=by unfold Room at h; omega
theorem Room.le {n:Nat} (h:Room n):n≤4611686018427387900:=by unfold Room at h; omega
theorem zmt (k:Nat) {x:Sl} {l:List Nd} (h:H) (r:NdR h x l) (hr:Room l.length) :
  ∃ d h', (∀ (α:Type) (ret:Sl->M α), qay.f (k + 1) x ret h = ret d h') ∧ Ext h h' ∧ NdR h' d l ∧ (l ≠ []->Own h' d 5 (cN l)) ∧ zag h d:=by
 have hlen:=yd r
 cases ha:x.ad with
 | none=>
  have hl:l = []:=List.eq_nil_of_length_eq_zero (by rw [← hlen]; exact r.nil ha)
  subst hl
  refine ⟨Sl.nil, h, fun α ret=>?_, Ext.refl h, Rd.nilSl h 5, fun h=>absurd rfl h, zag.nil h⟩
  rw [qay.f, qay.u1.f, ha]
  rfl
 | some a=>
  have x1:Ext h (h.push (.cells [] true)):=(Ext.refl h).push _
  have hg:(h.push (.cells [] true)).get h.next = some (.cells [] true):=by rw [zq, if_pos rfl]
  have ap:App (h.push (.cells [] true)) ⟨some ⟨h.next, 0⟩, 0, 0, none⟩ 5 []:=⟨Rd.pushed h (by simp), fun ha=>(by cases ha), .inl ⟨rfl, rfl⟩⟩
  have st:∀ (α:Type) (ret:Sl->M α), qay.f (k + 1) x ret h = jw ⟨some ⟨h.next, 0⟩, 0, 0, none⟩ 5 48 x ret (h.push (.cells [] true)):=by
   intro α ret
   rw [qay.f, qay.u1.f, ha]
   rw [show (some a).isNone = false from rfl, cond_false, js rfl]
  by_cases h0:x.len = 0
  ·have hl:l = []:=List.eq_nil_of_length_eq_zero (by rw [← hlen]; exact h0)
   subst hl
   refine ⟨⟨some ⟨h.next, 0⟩, 0, 0, none⟩, h.push (.cells [] true), fun α ret=>?_, x1, ap.rd, fun h=>absurd rfl h, fun a ha=>by cases ha; exact Nat.le_refl _⟩
   rw [st]
   exact zly ap (r.ext x1) h0 ret (fun _ a ha=>by cases ha; exact ⟨hg, rfl, rfl⟩)
  ·obtain ⟨h', e, ap', g, kp⟩:=zhq (bytes:=48) ap (r.ext x1) (by omega) (by decide) (by rw [hlen]; exact room_n hr)
   rw [List.nil_append] at ap' g
   refine ⟨_, h', fun α ret=>(st α ret).trans (e α ret), kp.ext x1 (fun a ha=>by cases ha; exact Nat.le_refl _), ap'.rd, fun _=>⟨ap'.rd.len, _, [], rfl, by rw [List.append_nil]; exact g, by rw [kp.1]; exact Nat.lt_succ_self _⟩, fun a ha=>by cases ha; show h.next≤h.next + 1; omega⟩
theorem nd_stk {s:Sl} {l:List Nd} (o:Own h s 5 (cN l)) {i:Nat} {n:Nd} (hi:l[i]? = some n) (v:Int) :
  ∃ h', (∀ (α:Type) (K:M α), idxSl s (i:Int) 5 (fun a=>st1 ((a.add 0).add 0) (.int .i64 v) K) h = K h') ∧ Own h' s 5 (cN (l.set i { n with kind:=v })) ∧ h'.next = h.next ∧ ∀ i, i ≠ s.id->h'.get i = h.get i:=by
 have hlt:=yt hi
 obtain ⟨h', e, o', k⟩:=zfo o (n:=i * 5 + 0) (v:=.int .i64 v) rfl (by rw [zbg Nd.len]; omega)
 refine ⟨h', fun α K=>?_, ?_, k⟩
 ·rw [ziq o.rd rfl hi, yu, yu]
  exact e α K
 ·rw [zel Nd.len l i n { n with kind:=v } 0 _ hi rfl (by decide)] at o'
  exact o'
theorem zga {l:List Nd} {i:Nat} {n:Nd} (hi:l[i]? = some n):((l.take i).map plN ++ l.drop i).set i (plN n) = (l.take (i + 1)).map plN ++ l.drop (i + 1):=by
 have hlt:=yt hi
 have hg:l[i] = n:=by rw [List.getElem?_eq_getElem hlt] at hi; exact Option.some.inj hi
 rw [List.set_append_right _ _ (by simp; omega), List.drop_eq_getElem_cons hlt, List.length_map, List.length_take, Nat.min_eq_left (by omega), Nat.sub_self, List.set_cons_zero, List.take_succ_eq_append_getElem hlt, List.map_append, hg]
 simp
theorem znz {l:List Nd} {i:Nat} {n:Nd} (hi:l[i]? = some n):((l.take i).map plN ++ l.drop i)[i]? = some n:=by
 have hlt:=yt hi
 rw [List.getElem?_append_right (by simp; omega), List.length_map, List.length_take, Nat.min_eq_left (by omega), Nat.sub_self, List.getElem?_drop, Nat.add_zero]
 exact hi
theorem wide_loop (k:Nat) {s:Sl} {l:List Nd} (hl:l.length≤4611686018427387800) (hs:s.len = l.length):∀ (j i:Nat) (h:H), i≤l.length->l.length - i < j->Own h s 5 (cN ((l.take i).map plN ++ l.drop i)) ->
  ∃ h', (∀ (α:Type) (kx:Sl->M α), qs.u4.l k kx j s (l.length:Int) (i:Int) h = kx s h') ∧ Own h' s 5 (cN (l.map plN)) ∧ h'.next = h.next ∧ ∀ i, i ≠ s.id->h'.get i = h.get i:=by
 intro j
 induction j with
 | zero=>intro i h hi hj; omega
 | succ j ih=>
  intro i h hi hj o
  by_cases hlt:i < l.length
  ·have hn:l[i]? = some l[i]:=List.getElem?_eq_getElem hlt
   generalize l[i] = n at hn
   have hg:=znz hn
   by_cases h12:n.kind = 12
   ·obtain ⟨h1, e1, o1, n1, g1⟩:=nd_stk o hg 3
    have:({ n with kind:=3 }:Nd) = plN n:=by unfold plN plK; rw [if_pos h12]
    rw [this, zga hn] at o1
    obtain ⟨h2, e2, o2, n2, g2⟩:=ih (i + 1) h1 (by omega) (by omega) o1
    refine ⟨h2, fun α kx=>?_, o2, by omega, fun i hi=>by rw [g2 i hi, g1 i hi]⟩
    rw [qs.u4.l, qs.u3.f, dT (by omega:(i:Int) < (l.length:Int)), cond_true, zac o.rd rfl hg, dT h12, cond_true]
    refine (e1 α _).trans ?_
    rw [zw (by omega) (by omega)]
    exact e2 α kx
   ·have:plN n = n:=by unfold plN plK; rw [if_neg h12]
    have o1:=o
    have e0:=zga hn
    rw [this, show ((l.take i).map plN ++ l.drop i).set i n = (l.take i).map plN ++ l.drop i by
     have hlt':=yt hg
     rw [List.getElem?_eq_getElem hlt'] at hg
     rw [← Option.some.inj hg]; exact List.set_getElem_self hlt'] at e0
    rw [e0] at o1
    obtain ⟨h2, e2, o2, n2, g2⟩:=ih (i + 1) h (by omega) (by omega) o1
    refine ⟨h2, fun α kx=>?_, o2, n2, g2⟩
    rw [qs.u4.l, qs.u3.f, dT (by omega:(i:Int) < (l.length:Int)), cond_true, zac o.rd rfl hg, dF h12, cond_false, zw (by omega) (by omega)]
    exact e2 α kx
  ·refine ⟨h, fun α kx=>?_, ?_, rfl, fun _ _=>rfl⟩
   ·rw [qs.u4.l, qs.u3.f, dF (by omega:¬ (i:Int) < (l.length:Int)), cond_false]
   ·rw [List.take_of_length_le (by omega), List.drop_of_length_le (by omega), List.append_nil] at o
    exact o
structure Wide (l:List Nd) (u:Tr):Prop where
 ok:u.pl.ok = true
 size:u.size≤60
 flat:l = u.flat 0
 chk:(chkT u.pl).2 = 0
def zde (l:List Nd):Prop:=zcc (l.map plN) = false ∨ ∃ u:Tr, u.pl.ok = true ∧ u.size≤60 ∧ l = u.flat 0 ∧ (chkT u.pl).2 ≠ 0
theorem wide_or (l:List Nd):(∃ u, Wide l u) ∨ zde l:=by
 cases hR:zcc (l.map plN) with
 | false=>exact .inr (.inl hR)
 | true=>
  obtain ⟨t, h1, h2, h3⟩:=(zeo _).1 hR
  obtain ⟨u, rfl, hu⟩:=zgg t 0 l h2
  rw [yx] at h3
  by_cases hc:(chkT u.pl).2 = 0
  ·exact .inl ⟨u, h1, h3, hu, hc⟩
  ·exact .inr (.inr ⟨u, h1, h3, hu, hc⟩)
theorem zpm (k:Nat) {f:Sl} {l:List Nd} (hr:Room l.length) (hk:600 + l.length≤k) (h:H) (r:NdR h f l) :
  ∃ d h', (∀ (α:Type) (ret:Bool->M α), qs.f (k + 1) f ret h = qa.f k d (fun _ e=>ret (decide (e = 0))) h') ∧ Ext h h' ∧ NdR h' d (l.map plN):=by
 obtain ⟨k, rfl⟩:∃ q, k = q + 1:=⟨k - 1, by omega⟩
 obtain ⟨d, h1, e1, x1, r1, o1, w1⟩:=zmt k h r hr
 have hd:=yd r1
 have st:∀ (α:Type) (ret:Bool->M α), qs.f (k + 1 + 1) f ret h = qs.u4.l (k + 1) (fun y0=>qs.u7.f (k + 1) y0 ret) (k + 1) d (l.length:Int) ((0:Nat):Int) h1:=by
  intro α ret
  rw [qs.f, qs.u9.f, qs.u1.f, e1, qs.u8.f, qs.u6.f, qs.u2.f, hd, qs.u5.f, qs.u4.f]
  rfl
 by_cases h0:l = []
 ·subst h0
  refine ⟨d, h1, fun α ret=>?_, x1, r1⟩
  rw [st, qs.u4.l, qs.u3.f]
  rfl
 ·obtain ⟨h2, e2, o2, n2, g2⟩:=wide_loop (k + 1) (by unfold Room at hr; omega) hd (k + 1) 0 h1 (Nat.zero_le _) (by omega) (o1 h0)
  have hid:h.next≤d.id:=by
   obtain ⟨id, more, q1, q2, q3⟩:=(o1 h0).blk
   unfold Sl.id
   rw [q1]
   exact w1 _ q1
  refine ⟨d, h2, fun α ret=>?_, ⟨by have:=x1.1; omega, fun i hi=>?_⟩, o2.rd⟩
  ·rw [st, e2, qs.u7.f]
  ·rw [g2 i (by omega)]; exact x1.2 i hi
theorem wide_good (k:Nat) {f:Sl} {l:List Nd} {u:Tr} (w:Wide l u) (hk:700≤k) (h:H) (r:NdR h f l) :
  ∃ h', (∀ (α:Type) (ret:Bool->M α), qs.f (k + 1) f ret h = ret true h') ∧ Ext h h':=by
 obtain ⟨k, rfl⟩:∃ q, k = q + 1:=⟨k - 1, by omega⟩
 have hl:l.length≤60:=by rw [w.flat, ze]; exact w.size
 obtain ⟨d, h1, e1, x1, r1⟩:=zpm (k + 1) (by unfold Room; omega) (by omega) h r
 rw [w.flat, ← zbm] at r1
 obtain ⟨h2, e2, x2⟩:=zmz k (by omega) (t:=u.pl) w.ok (by rw [yx]; exact w.size) h1 r1
 refine ⟨h2, fun α ret=>?_, x1.trans x2⟩
 rw [e1, e2, w.chk, dT rfl]
theorem wide_not (k:Nat) {f:Sl} {l:List Nd} (w:zde l) (hr:Room l.length) (hk:700 + l.length≤k) (h:H) (r:NdR h f l) :
  ∃ h', (∀ (α:Type) (ret:Bool->M α), qs.f (k + 1) f ret h = ret false h') ∧ Ext h h':=by
 obtain ⟨k, rfl⟩:∃ q, k = q + 1:=⟨k - 1, by omega⟩
 obtain ⟨d, h1, e1, x1, r1⟩:=zpm (k + 1) hr (by omega) h r
 rcases w with w | ⟨u, u1, u2, u3, u4⟩
 ·obtain ⟨h2, e2, x2⟩:=check_bad k (by omega) w h1 r1
  refine ⟨h2, fun α ret=>?_, x1.trans x2⟩
  rw [e1, e2, dF (by decide)]
 ·rw [u3, ← zbm] at r1
  obtain ⟨h2, e2, x2⟩:=zmz k (by omega) (t:=u.pl) u1 (by rw [yx]; exact u2) h1 r1
  refine ⟨h2, fun α ret=>?_, x1.trans x2⟩
  rw [e1, e2, dF u4]
end Go.Ab.S5
