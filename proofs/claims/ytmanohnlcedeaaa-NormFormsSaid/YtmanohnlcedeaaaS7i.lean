import Derived.Test.YtmanohnlcedeaaaS7f
set_option linter.unusedVariables false
set_option linter.unusedSimpArgs false
namespace Go.Ab.S7
variable {α:Type} {h:H}
abbrev cIs (l:List Int):List V:=l.flatMap cI
theorem Rd.pushed (h:H) {cs:List V} {o:Bool} {n c size:Nat} {lo:Option Nat} (hl:cs.length = n * size):Rd (h.push (.cells cs o)) ⟨some ⟨h.next, 0⟩, n, c, lo⟩ size cs:=by
 refine ⟨hl, fun a ha=>?_, fun ha=>by cases ha⟩
 cases ha
 refine ⟨?_, by rw [zj]; exact Nat.lt_succ_self _⟩
 rw [zct (cs:=cs) (o:=o) (by show (h.push _).get h.next = _; rw [zk, if_pos rfl]) (by show 0 + _≤_; omega), List.drop_zero, List.take_length]
theorem zdq {s:Sl} {l:List Int} (r:Rd h s 1 (cIs l)):s.len = l.length:=slen (size:=1) (fun _=>rfl) (by decide) r
theorem any_loop (k:Nat) {s:Sl} {l:List Int} (r:Rd h s 1 (cIs l)) (hl:l.length≤4611686018427387900):∀ (j n:Nat), n≤l.length->l.length - n < j->∀ (α:Type) (kr:Int->M α) (kx:M α),
  qaa.u4.l (k + 1) kr kx j s (l.length:Int) (n:Int) h = (match (l.drop n).findIdx? (· ≠ 0) with | some i=>kr ((n + i:Nat):Int) h | none=>kx h):=by
 intro j
 induction j with
 | zero=>intro n hn hj; omega
 | succ j ih=>
  intro n hn hj α kr kx
  rw [qaa.u4.l, qaa.u3.f]
  by_cases hlt:n < l.length
  ·rw [dT (by omega:(n:Int) < (l.length:Int)), cond_true, yk r rfl (List.getElem?_eq_getElem hlt), List.drop_eq_getElem_cons hlt, List.findIdx?_cons]
   simp only [qbs.f, qbs.u1.f]
   by_cases h0:l[n] = 0
   ·rw [dT h0]
    rw [Bool.not_true, cond_false, zw (by omega) (by omega), show ((n:Int) + 1) = ((n + 1:Nat):Int) by omega, ih (n + 1) (by omega) (by omega), if_neg (by simp [h0])]
    cases hf:(l.drop (n + 1)).findIdx? (· ≠ 0) with
    | none=>rfl
    | some i=>
     show kr _ h = kr _ h
     rw [show n + 1 + i = n + (i + 1) by omega]
   ·rw [dF h0, if_pos (by simp [h0])]
    rfl
  ·rw [dF (by omega:¬ (n:Int) < (l.length:Int)), cond_false, List.drop_of_length_le (by omega)]
   rfl
theorem any_run (k:Nat) {s:Sl} {l:List Int} (r:Rd h s 1 (cIs l)) (hk:l.length + 2≤k) (hl:l.length≤4611686018427387900) (ret:Bool->M α):qbm.f (k + 1) s ret h = ret (l.any (fun x=>decide (x ≠ 0))) h:=by
 obtain ⟨k, rfl⟩:∃ q, k = q + 2:=⟨k - 2, by omega⟩
 simp only [qbm.f]
 unfold qbm.u1.f
 simp only [qaa.f]
 unfold qaa.u9.f qaa.u1.f qaa.u8.f qaa.u6.f qaa.u2.f qaa.u5.f qaa.u4.f qaa.u7.f
 dsimp only
 rw [zdq r]
 refine (any_loop k r hl (k + 1) 0 (Nat.zero_le _) (by omega) α _ _).trans ?_
 rw [List.drop_zero]
 cases hf:l.findIdx? (· ≠ 0) with
 | none=>
  have:l.any (fun x=>decide (x ≠ 0)) = false:=by
   rw [List.findIdx?_eq_none_iff] at hf
   rw [Bool.eq_false_iff]
   intro ha
   obtain ⟨x, hx, hx0⟩:=List.any_eq_true.1 ha
   have:=hf x hx
   rw [hx0] at this; cases this
  rw [this]; rfl
 | some i=>
  have:l.any (fun x=>decide (x ≠ 0)) = true:=by
   rw [List.findIdx?_eq_some_iff_getElem] at hf
   obtain ⟨hi, hp, _⟩:=hf
   exact List.any_eq_true.2 ⟨l[i], List.getElem_mem hi, hp⟩
  rw [this]
  dsimp only
  rw [dT (by omega:(0:Int)≤_)]
theorem zrl (k:Nat) {s t:Sl} {l m:List Int} (r:Rd h s 1 (cIs l)) (q:Rd h t 1 (cIs m)) (he:l.length = m.length) (hl:l.length≤4611686018427387900):∀ (j n:Nat), n≤l.length->l.length - n < j->∀ (α:Type) (kr:Bool->M α) (kx:M α),
  qy.u4.l k kr kx j s t (l.length:Int) (n:Int) h = if l.drop n = m.drop n then kx h else kr false h:=by
 intro j
 induction j with
 | zero=>intro n hn hj; omega
 | succ j ih=>
  intro n hn hj α kr kx
  rw [qy.u4.l, qy.u3.f]
  by_cases hlt:n < l.length
  ·rw [dT (by omega:(n:Int) < (l.length:Int)), cond_true, yk r rfl (List.getElem?_eq_getElem hlt), yk q rfl (List.getElem?_eq_getElem (by omega)), List.drop_eq_getElem_cons hlt, List.drop_eq_getElem_cons (by omega:n < m.length)]
   by_cases h0:l[n] = m[n]
   ·rw [dT h0, Bool.not_true, cond_false, zw (by omega) (by omega), show ((n:Int) + 1) = ((n + 1:Nat):Int) by omega, ih (n + 1) (by omega) (by omega)]
    simp only [h0, List.cons.injEq, true_and]
   ·rw [dF h0]
    simp only [h0, List.cons.injEq, false_and, if_false]
    rfl
  ·rw [dF (by omega:¬ (n:Int) < (l.length:Int)), cond_false, List.drop_of_length_le (by omega), List.drop_of_length_le (by omega)]
   simp
theorem equal_run (k:Nat) {s t:Sl} {l m:List Int} (r:Rd h s 1 (cIs l)) (q:Rd h t 1 (cIs m)) (hk:l.length < k) (hl:l.length≤4611686018427387900) (ret:Bool->M α):qy.f (k + 1) s t ret h = ret (decide (l = m)) h:=by
 simp only [qy.f]
 unfold qy.u9.f qy.u1.f qy.u8.f qy.u6.f qy.u2.f qy.u5.f qy.u4.f qy.u7.f
 dsimp only
 rw [zdq r, zdq q]
 by_cases he:l.length = m.length
 ·rw [dT (by omega:(l.length:Int) = (m.length:Int)), Bool.not_true, cond_false]
  refine (zrl k r q he hl k 0 (Nat.zero_le _) (by omega) α _ _).trans ?_
  simp only [List.drop_zero]
  by_cases hm:l = m <;> simp [hm]
 ·rw [dF (by omega:¬ (l.length:Int) = (m.length:Int)), Bool.not_false, cond_true, dF (fun e=>he (by rw [e]))]
def zcu (n:Nd):List Int:=[n.a, n.b]
def zfy (st:List Int) (i:Int) (n:Nd):Option (List Int):=
 if 0≤arF n.kind ∧ yz n.kind n.name = true then
  if st.length < (arF n.kind).toNat then none
  else if ((zcu n).drop (arF n.kind).toNat).any (fun x=>decide (x ≠ 0)) then none
  else if st.drop (st.length - (arF n.kind).toNat) = (zcu n).take (arF n.kind).toNat then some (st.take (st.length - (arF n.kind).toNat) ++ [i]) else none
 else none
def zak:List Nd->Nat->List Int->Option (List Int)
 | [], _, st=>some st
 | n :: l, i, st=>match zfy st i n with | none=>none | some st'=>zak l (i + 1) st'
def zcs (l:List Nd):Bool:=decide (1≤l.length ∧ l.length≤60) && (match zak l 0 [] with | some st=>decide (st.length = 1) | none=>false)
theorem zga (x:Int):arF x = -1 ∨ arF x = 0 ∨ arF x = 1 ∨ arF x = 2:=by
 unfold arF
 repeat' split
 all_goals simp
theorem zrm (k:Nat) (hk:13≤k) {f:Sl} {l:List Nd} (h₀:H) (r₀:NdR h₀ f l) (hl:l.length≤60) (hk:70≤k):∀ (j n:Nat) (st:List Int) (sl:Sl) (h:H), n≤l.length->l.length - n < j->Ext h₀ h->App h sl 1 (cIs st)->zah h₀ sl->(sl.loose = none->sl.len = 0)->st.length≤n ->
  ∃ h', Ext h₀ h' ∧ (match zak (l.drop n) n st with
   | none=>∀ (α:Type) (kr:Bool->M α) (kx:Sl->M α), qm.u4.l k kr kx j sl f (l.length:Int) (n:Int) h = kr false h'
   | some st'=>∃ sl':Sl, sl'.len = st'.length ∧ ∀ (α:Type) (kr:Bool->M α) (kx:Sl->M α), qm.u4.l k kr kx j sl f (l.length:Int) (n:Int) h = kx sl' h'):=by
 obtain ⟨k, rfl⟩:∃ q, k = q + 1:=⟨k - 1, by omega⟩
 intro j
 induction j with
 | zero=>intro n st sl h hn hj; omega
 | succ j ih=>
  intro n st sl h hn hj x ap ow hlo hst
  have hsl:sl.len = st.length:=zdq ap.rd
  by_cases hlt:n < l.length
  rotate_left
  ·rw [List.drop_of_length_le (by omega)]
   refine ⟨h, x, sl, hsl, fun α kr kx=>?_⟩
   rw [qm.u4.l, qm.u3.f, dF (by omega:¬ (n:Int) < (l.length:Int)), cond_false]
  have hi:l[n]? = some l[n]:=List.getElem?_eq_getElem hlt
  rw [List.drop_eq_getElem_cons hlt, zak]
  generalize l[n] = nd at hi
  -- up to the call of below
  have r:=r₀.ext x
  have start:∀ (α:Type) (kr:Bool->M α) (kx:Sl->M α), qm.u4.l (k + 1) kr kx (j + 1) sl f (l.length:Int) (n:Int) h = _:=fun α kr kx=>by
   rw [qm.u4.l, qm.u3.f, dT (by omega:(n:Int) < (l.length:Int)), cond_true, zcv r rfl hi, zeb, n5_all, below_run k (by omega)]
  generalize hh1:h.push (.cells [.int .i64 nd.kind, .int .i64 nd.a, .int .i64 nd.b, .str nd.name, .int .i64 nd.pos] true) = h1 at start
  have x1:Ext h₀ (h1.push (.cells [.int .i64 nd.kind, .int .i64 nd.a, .int .i64 nd.b, .str nd.name, .int .i64 nd.pos] true)):=by
   rw [← hh1]; exact (x.push _).push _
  have ca:∀ (α:Type) (K:Int->M α), ldI .i64 (((⟨h.next, 0⟩:Ad).add 1).add 0) K (h1.push (.cells [.int .i64 nd.kind, .int .i64 nd.a, .int .i64 nd.b, .str nd.name, .int .i64 nd.pos] true)) = K nd.a (h1.push (.cells [.int .i64 nd.kind, .int .i64 nd.a, .int .i64 nd.b, .str nd.name, .int .i64 nd.pos] true)):=fun α K=>by
   rw [← hh1]; exact jn (by simp only [jg]; rw [zdj]; rfl)
  have cb:∀ (α:Type) (K:Int->M α), ldI .i64 (((⟨h.next, 0⟩:Ad).add 2).add 0) K (h1.push (.cells [.int .i64 nd.kind, .int .i64 nd.a, .int .i64 nd.b, .str nd.name, .int .i64 nd.pos] true)) = K nd.b (h1.push (.cells [.int .i64 nd.kind, .int .i64 nd.a, .int .i64 nd.b, .str nd.name, .int .i64 nd.pos] true)):=fun α K=>by
   rw [← hh1]; exact jn (by simp only [jg]; rw [zdj]; rfl)
  have x12:Ext h (h1.push (.cells [.int .i64 nd.kind, .int .i64 nd.a, .int .i64 nd.b, .str nd.name, .int .i64 nd.pos] true)):=by
   rw [← hh1]; exact ((Ext.refl h).push _).push _
  generalize h1.push (.cells [.int .i64 nd.kind, .int .i64 nd.a, .int .i64 nd.b, .str nd.name, .int .i64 nd.pos] true) = h2 at start x1 ca cb x12
  clear hh1 h1
  unfold zfy
  by_cases hok:0≤arF nd.kind ∧ yz nd.kind nd.name = true
  rotate_left
  ·rw [if_neg hok]
   refine ⟨h2, x1, fun α kr kx=>?_⟩
   rw [start]
   have:(decide (0≤arF nd.kind) && yz nd.kind nd.name) = false:=by
    rw [Bool.and_eq_false_iff]
    by_cases h0:0≤arF nd.kind
    ·right; rw [Bool.eq_false_iff]; exact fun e=>hok ⟨h0, e⟩
    ·left; exact dF h0
   rw [this, Bool.not_false, cond_true]
  rw [if_pos hok]
  have hbel:belF nd.kind = ((arF nd.kind).toNat:Int):=by unfold belF; rw [if_neg (by omega)]; omega
  have har2:(arF nd.kind).toNat≤2:=by rcases zga nd.kind with h | h | h | h <;> omega
  rw [dT hok.1, hok.2, hbel] at start
  simp only [Bool.and_self, Bool.not_true, cond_false] at start
  generalize (arF nd.kind).toNat = a at start har2
  by_cases hlen:st.length < a
  ·rw [if_pos hlen]
   refine ⟨h2, x1, fun α kr kx=>?_⟩
   rw [start, dT (by omega:(sl.len:Int) < (a:Int)), cond_true]
  rw [if_neg hlen]
  -- what is wanted
  have rw1:Rd (h2.push (.cells [.int .i64 nd.a, .int .i64 nd.b] true)) ⟨some ⟨h2.next, 0⟩, 2, 2, none⟩ 1 (cIs (zcu nd)):=Rd.pushed h2 rfl
  have x3:Ext h2 (h2.push (.cells [.int .i64 nd.a, .int .i64 nd.b] true)):=(Ext.refl h2).push _
  have start2:∀ (α:Type) (kr:Bool->M α) (kx:Sl->M α), qm.u4.l (k + 1) kr kx (j + 1) sl f (l.length:Int) (n:Int) h = _:=fun α kr kx=>by
   rw [start, dF (by omega:¬ (sl.len:Int) < (a:Int)), cond_false, ca, cb, jk rfl]
  generalize h2.push (.cells [.int .i64 nd.a, .int .i64 nd.b] true) = h3 at start2 rw1 x3
  have x03:=x1.trans x3
  have ap3:=ap.ext (x12.trans x3)
  have rf:=rw1.from a (2 - a) 2 none har2 (Nat.le_refl _)
  rw [Nat.mul_one] at rf
  have e1:(cIs (zcu nd)).drop a = cIs ((zcu nd).drop a):=by have:=zgm (size:=1) (c:=cI) (fun _=>rfl) (zcu nd) a; rwa [Nat.mul_one] at this
  have e2:(cIs (zcu nd)).take a = cIs ((zcu nd).take a):=by have:=zck (size:=1) (c:=cI) (fun _=>rfl) (zcu nd) a; rwa [Nat.mul_one] at this
  rw [e1] at rf
  have start3:∀ (α:Type) (kr:Bool->M α) (kx:Sl->M α), qm.u4.l (k + 1) kr kx (j + 1) sl f (l.length:Int) (n:Int) h = _:=fun α kr kx=>by
   rw [start2, zhs (s:=⟨some ⟨h2.next, 0⟩, 2, 2, none⟩) ⟨Nat.le_refl _, .inl rfl⟩ rfl har2]
  have start4:∀ (α:Type) (kr:Bool->M α) (kx:Sl->M α), qm.u4.l (k + 1) kr kx (j + 1) sl f (l.length:Int) (n:Int) h = _:=fun α kr kx=>by
   rw [start3, any_run k rf (by simp [zcu]; omega) (by simp [zcu]; omega)]
  clear start start2 start3
  by_cases hany:((zcu nd).drop a).any (fun x=>decide (x ≠ 0)) = true
  ·rw [if_pos hany]
   refine ⟨h3, x03, fun α kr kx=>?_⟩
   rw [start4, hany, cond_true]
  rw [if_neg hany]
  rw [Bool.not_eq_true] at hany
  rw [hany] at start4
  have rs:=ap3.rd.from (sl.len - a) (sl.cap - (sl.len - a)) sl.cap sl.loose (Nat.sub_le _ _) ap3.fine.1
  rw [Nat.mul_one] at rs
  have e3:(cIs st).drop (sl.len - a) = cIs (st.drop (st.length - a)):=by rw [hsl]; have:=zgm (size:=1) (c:=cI) (fun _=>rfl) st (st.length - a); rwa [Nat.mul_one] at this
  rw [e3] at rs
  have rt:=rw1.to a 2 none har2
  rw [Nat.mul_one, e2] at rt
  have ew:w64 ((sl.len:Int) - (a:Int)) = ((sl.len - a:Nat):Int):=by rw [zw (by omega) (by omega)]; omega
  have start5:∀ (α:Type) (kr:Bool->M α) (kx:Sl->M α), qm.u4.l (k + 1) kr kx (j + 1) sl f (l.length:Int) (n:Int) h = _:=fun α kr kx=>by
   rw [start4, cond_false, ew, zhs ap3.fine rfl (Nat.sub_le _ _), zgz (s:=⟨some ⟨h2.next, 0⟩, 2, 2, none⟩) ⟨Nat.le_refl _, .inl rfl⟩ rfl har2]
  have start6:∀ (α:Type) (kr:Bool->M α) (kx:Sl->M α), qm.u4.l (k + 1) kr kx (j + 1) sl f (l.length:Int) (n:Int) h = _:=fun α kr kx=>by
   rw [start5, equal_run k rs rt (by simp; omega) (by simp; omega)]
  clear start4 start5
  by_cases heq:st.drop (st.length - a) = (zcu nd).take a
  rotate_left
  ·rw [if_neg heq]
   refine ⟨h3, x03, fun α kr kx=>?_⟩
   rw [start6, dF heq, Bool.not_false, cond_true]
  rw [if_pos heq]
  rw [dT heq] at start6
  -- the stack, shorter
  have hfin:∀ a:Ad, sl.ad = some a->sl.loose = some 1->h3.own a.id = true:=by
   intro b hb hlo1
   rcases ap3.mode with ⟨h1, _⟩ | ⟨_, _, c, h4, h5⟩
   ·rw [h1] at hlo1; cases hlo1
   ·rw [hb] at h4; cases h4; exact h5
  have apc:App h3 ⟨sl.ad, sl.len - a, sl.cap, sl.loose⟩ 1 (cIs (st.take (st.length - a))):=by
   have q:=ap3.rd.to (sl.len - a) sl.cap sl.loose (Nat.sub_le _ _)
   rw [Nat.mul_one] at q
   have e4:(cIs st).take (sl.len - a) = cIs (st.take (st.length - a)):=by rw [hsl]; have:=zck (size:=1) (c:=cI) (fun _=>rfl) st (st.length - a); rwa [Nat.mul_one] at this
   rw [e4] at q
   refine ⟨q, fun ha=>?_, ?_⟩
   ·have hn:=ap3.none' ha
    subst hn
    show (⟨none, 0 - a, 0, none⟩:Sl) = ⟨none, 0, 0, none⟩
    rw [Nat.zero_sub]
   ·rcases ap3.mode with ⟨h1, h2⟩ | ⟨h1, h2, b, h3, h4⟩
    ·left
     have:=hlo h1
     exact ⟨h1, by show sl.cap = sl.len - a; omega⟩
    ·exact .inr ⟨h1, by show sl.len - a≤sl.cap; omega, b, h3, h4⟩
  obtain ⟨h4, e4, ap4, g4, n4, k4⟩:=zhz (bytes:=8) (more:=cI (n:Int)) apc rfl rfl (n:=1) (by decide) (by decide) (by dsimp only; omega)
  have x4:Ext h₀ h4:=by
   refine ⟨by rw [n4]; have:=x03.1; omega, fun i hi=>?_⟩
   rw [k4 i (Nat.lt_of_lt_of_le hi x03.1) (fun _ b hb=>by have:=ow b hb; omega)]
   exact x03.2 i hi
  have ap4':App h4 ⟨some ⟨h3.next + 1, 0⟩, sl.len - a + 1, sl.len - a + 1, some 1⟩ 1 (cIs (st.take (st.length - a) ++ [(n:Int)])):=by
   have:cIs (st.take (st.length - a) ++ [(n:Int)]) = cIs (st.take (st.length - a)) ++ cI (n:Int):=by simp [List.flatMap_append]
   rw [this]; exact ap4
  obtain ⟨h', x', rest⟩:=ih (n + 1) (st.take (st.length - a) ++ [(n:Int)]) _ h4 (by omega) (by omega) x4 ap4' (fun b hb=>by cases hb; show h₀.next≤h3.next + 1; have:=x03.1; omega) (fun e=>by cases e) (by simp; omega)
  have start7:∀ (α:Type) (kr:Bool->M α) (kx:Sl->M α), qm.u4.l (k + 1) kr kx (j + 1) sl f (l.length:Int) (n:Int) h = qm.u4.l (k + 1) kr kx j ⟨some ⟨h3.next + 1, 0⟩, sl.len - a + 1, sl.len - a + 1, some 1⟩ f (l.length:Int) ((n + 1:Nat):Int) h4:=fun α kr kx=>by
   rw [start6, Bool.not_true, cond_false, zgz ap3.fine rfl (by have:=ap3.fine.1; omega)]
   refine (e4 α _).trans ?_
   rw [zw (by omega) (by omega)]
   rfl
  refine ⟨h', x', ?_⟩
  dsimp only
  cases hr:zak (l.drop (n + 1)) (n + 1) (st.take (st.length - a) ++ [(n:Int)]) with
  | none=>
   rw [hr] at rest
   exact fun α kr kx=>(start7 α kr kx).trans (rest α kr kx)
  | some st'=>
   rw [hr] at rest
   obtain ⟨sl', hl', e'⟩:=rest
   exact ⟨sl', hl', fun α kr kx=>(start7 α kr kx).trans (e' α kr kx)⟩
theorem zna (k:Nat) (hk:70≤k) {f:Sl} {l:List Nd} (h:H) (r:NdR h f l):∃ h', (∀ (α:Type) (ret:Bool->M α), qm.f (k + 1) f ret h = ret (zcs l) h') ∧ Ext h h':=by
 have hfl:=jv r
 unfold zcs
 by_cases hl:1≤l.length ∧ l.length≤60
 rotate_left
 ·refine ⟨h, fun α ret=>?_, Ext.refl h⟩
  simp only [qm.f]
  unfold qm.u9.f qm.u1.f
  rw [hfl, dF hl]
  by_cases h1:(l.length:Int) < 1
  ·rw [dT h1]; rfl
  ·rw [dF h1, dT (by omega:(60:Int) < (l.length:Int))]; rfl
 obtain ⟨h', x', rest⟩:=zrm k (by omega) h r hl.2 hk k 0 [] Sl.nil h (Nat.zero_le _) (by omega) (Ext.refl h) (App.nilSl h 1) (zah.nil h) (fun _=>rfl) (Nat.le_refl _)
 rw [List.drop_zero] at rest
 have start:∀ (α:Type) (ret:Bool->M α), qm.f (k + 1) f ret h = qm.u4.l k ret (fun y0=>qm.u7.f k y0 ret) k Sl.nil f (l.length:Int) ((0:Nat):Int) h:=fun α ret=>by
  simp only [qm.f]
  unfold qm.u9.f qm.u1.f
  rw [hfl, dF (by omega:¬ (l.length:Int) < 1), cond_false, dF (by omega:¬ (60:Int) < (l.length:Int)), cond_false]
  unfold qm.u8.f qm.u6.f qm.u2.f qm.u5.f qm.u4.f
  dsimp only
  rw [hfl]
  rfl
 refine ⟨h', fun α ret=>(start α ret).trans ?_, x'⟩
 rw [dT hl, Bool.true_and]
 cases hr:zak l 0 [] with
 | none=>rw [hr] at rest; exact rest α ret _
 | some st'=>
  rw [hr] at rest
  obtain ⟨sl', hl', e'⟩:=rest
  refine (e' α ret _).trans ?_
  unfold qm.u7.f
  rw [hl']
  dsimp only
  congr 1
  by_cases h1:st'.length = 1 <;> simp [h1]
  omega
theorem zqt {st:List Int} {x:Int}:st.drop (st.length - 1) = [x] ↔ st[st.length - 1]? = some x ∧ 1≤st.length:=by
 constructor
 ·intro h
  have h1:=congrArg (fun l:List Int=>l[0]?) h
  simp only [List.getElem?_drop, Nat.add_zero] at h1
  have h2:=congrArg List.length h
  simp only [List.length_drop, List.length_cons, List.length_nil] at h2
  exact ⟨h1, by omega⟩
 ·rintro ⟨h1, h2⟩
  rw [List.drop_eq_getElem_cons (by omega:st.length - 1 < st.length), List.drop_of_length_le (by omega)]
  rw [List.getElem?_eq_getElem (by omega)] at h1
  rw [Option.some.inj h1]
theorem zra {st:List Int} {x y:Int}:st.drop (st.length - 2) = [x, y] ↔ st[st.length - 2]? = some x ∧ st[st.length - 1]? = some y ∧ 2≤st.length:=by
 constructor
 ·intro h
  have h1:=congrArg (fun l:List Int=>l[0]?) h
  have h3:=congrArg (fun l:List Int=>l[1]?) h
  simp only [List.getElem?_drop, Nat.add_zero] at h1 h3
  have h2:=congrArg List.length h
  simp only [List.length_drop, List.length_cons, List.length_nil] at h2
  rw [show st.length - 2 + 1 = st.length - 1 by omega] at h3
  exact ⟨h1, h3, by omega⟩
 ·rintro ⟨h1, h3, h2⟩
  rw [List.drop_eq_getElem_cons (by omega:st.length - 2 < st.length), List.drop_eq_getElem_cons (by omega:st.length - 2 + 1 < st.length), List.drop_of_length_le (by omega)]
  rw [List.getElem?_eq_getElem (by omega)] at h1 h3
  rw [Option.some.inj h1]
  have:st[st.length - 2 + 1]'(by omega) = st[st.length - 1]'(by omega):=by congr 1; omega
  rw [this, Option.some.inj h3]
theorem stepP_m {st:List Int} {i:Int} {n:Nd} (h:arF n.kind = -1):zfy st i n = none:=by unfold zfy; rw [if_neg (by rw [h]; omega)]
theorem zod {st:List Int} {i:Int} {n:Nd} (h:arF n.kind = 0):zfy st i n = if yz n.kind n.name = true ∧ n.b = 0 ∧ n.a = 0 then some (st ++ [i]) else none:=by
 unfold zfy
 rw [h]
 by_cases h1:yz n.kind n.name = true <;> by_cases h2:n.a = 0 <;> by_cases h3:n.b = 0 <;> simp [h1, h2, h3, zcu]
theorem zoh {st:List Int} {i:Int} {n:Nd} (h:arF n.kind = 1):zfy st i n = if yz n.kind n.name = true ∧ 1≤st.length ∧ n.b = 0 ∧ st[st.length - 1]? = some n.a then some (st.take (st.length - 1) ++ [i]) else none:=by
 unfold zfy
 rw [h]
 simp only [show (1:Int).toNat = 1 from rfl, zcu, List.drop_succ_cons, List.drop_zero, List.take_succ_cons, List.take_zero, zqt, List.any_cons, List.any_nil, Bool.or_false, decide_eq_true_eq]
 by_cases h1:yz n.kind n.name = true <;> by_cases h2:1≤st.length <;> by_cases h3:n.b = 0 <;> by_cases h5:st[st.length - 1]? = some n.a <;> simp only [h1, h2, h3, h5, and_true, true_and, and_false, false_and, if_true, if_false, ne_eq, not_true_eq_false, not_false_eq_true, Int.reduceLE, Bool.false_eq_true, ite_self] <;> (repeat' split) <;> first | rfl | omega
theorem zox {st:List Int} {i:Int} {n:Nd} (h:arF n.kind = 2):zfy st i n = if yz n.kind n.name = true ∧ 2≤st.length ∧ st[st.length - 1]? = some n.b ∧ st[st.length - 2]? = some n.a then some (st.take (st.length - 2) ++ [i]) else none:=by
 unfold zfy
 rw [h]
 simp only [show (2:Int).toNat = 2 from rfl, zcu, List.drop_succ_cons, List.drop_zero, List.drop_nil, List.take_succ_cons, List.take_zero, List.take_nil, zra, List.any_nil, Bool.false_eq_true, if_false]
 by_cases h1:yz n.kind n.name = true <;> by_cases h2:2≤st.length <;> by_cases h3:st[st.length - 1]? = some n.b <;> by_cases h5:st[st.length - 2]? = some n.a <;> simp only [h1, h2, h3, h5, and_true, true_and, and_false, false_and, if_true, if_false, Int.reduceLE, Bool.false_eq_true, ite_self] <;> (repeat' split) <;> first | rfl | omega
end Go.Ab.S7
namespace Go.Ab.S7
variable {α:Type} {h:H}
theorem zpi {x:Sl} {size bytes:Nat} {cs:List V} (r:Rd h x size cs) (hs:0 < size) (hb:0 < bytes) (hr:(x.len + x.len / 4 + 512) * bytes≤281474976710656) :
  ∃ sl h', (∀ (α:Type) (K:Sl->M α), new [] (fun a=>zq ⟨some a, 0, 0, none⟩ size bytes x K) h = K sl h') ∧ App h' sl size cs ∧ Ext h h' ∧ zah h sl ∧ (sl.loose = none->sl.len = 0) ∧ sl.ad ≠ none:=by
 have x1:Ext h (h.push (.cells [] true)):=(Ext.refl h).push _
 have hg:(h.push (.cells [] true)).get h.next = some (.cells [] true):=by rw [zk, if_pos rfl]
 have ap:App (h.push (.cells [] true)) ⟨some ⟨h.next, 0⟩, 0, 0, none⟩ size []:=by
  refine ⟨Rd.pushed h (by simp), fun ha=>(by cases ha), .inl ⟨rfl, rfl⟩⟩
 by_cases h0:x.len = 0
 ·have hc:cs = []:=List.eq_nil_of_length_eq_zero (by rw [r.len, h0, Nat.zero_mul])
  subst hc
  refine ⟨⟨some ⟨h.next, 0⟩, 0, 0, none⟩, h.push (.cells [] true), fun α K=>?_, ap, x1, (fun a ha=>by cases ha; exact Nat.le_refl _), fun _=>rfl, fun e=>by cases e⟩
  rw [jk rfl]
  exact zhj ap (r.ext x1) h0 K (fun _ a ha=>by cases ha; exact ⟨hg, rfl, rfl⟩)
 ·obtain ⟨h', e, ap', g, k⟩:=zea (bytes:=bytes) ap (r.ext x1) (by omega) hb (by simpa using hr)
  refine ⟨_, h', fun α K=>?_, by simpa using ap', ?_, (fun a ha=>by cases ha; show h.next≤h.next + 1; omega), (fun e=>by cases e), fun e=>by cases e⟩
  ·rw [jk rfl, e α K, Nat.zero_add]
  ·exact k.ext x1 (fun a ha=>by cases ha; exact Nat.le_refl _)
theorem cIs_snoc (l:List Int) (x:Int):cIs (l ++ [x]) = cIs l ++ cI x:=by simp [List.flatMap_append]
theorem cIs_take (l:List Int) (n:Nat):(cIs l).take (n * 1) = cIs (l.take n):=zck (size:=1) (fun _=>rfl) l n
theorem rstep {sl:Sl} {st:List Int} (ap:App h sl 1 (cIs st)) {a:Nat} (ha:a≤st.length) (hl:st.length≤1000) (i:Int) {x y:Int} (hx:x = (st.length:Int)) (hy:y = (a:Int)) :
  ∃ sl' h', (∀ (α:Type) (K:Sl->M α), new [] (fun r=>cutSl sl 1 none (some (w64 (x - y))) none fun c=>zq ⟨some r, 0, 0, none⟩ 1 8 c fun d=>new [.int .i64 i] fun e=>zq d 1 8 ⟨some e, 1, 1, none⟩ K) h = K sl' h') ∧
   Ext h h' ∧ App h' sl' 1 (cIs (st.take (st.length - a) ++ [i])) ∧ zah h sl':=by
 subst hx hy
 have hsl:=zdq ap.rd
 have rc:Rd h ⟨sl.ad, sl.len - a, sl.cap, sl.loose⟩ 1 (cIs (st.take (st.length - a))):=by
  have:=ap.rd.to (sl.len - a) sl.cap sl.loose (Nat.sub_le _ _)
  rw [cIs_take, hsl] at this
  rwa [hsl]
 obtain ⟨d, h1, e1, ap1, x1, o1, l1, n1⟩:=zpi (bytes:=8) rc (by decide) (by decide) (by dsimp only; omega)
 have hd:=zdq ap1.rd
 obtain ⟨h2, e2, ap2, g2, n2, k2⟩:=zhz (bytes:=8) (more:=cI i) ap1 rfl rfl (n:=1) (by decide) (by decide) (by rw [hd]; simp only [List.length_take]; omega)
 refine ⟨_, h2, fun α K=>?_, ?_, by rw [cIs_snoc]; exact ap2, (fun a ha=>by cases ha; show h.next≤h1.next + 1; have:=x1.1; omega)⟩
 ·have ew:w64 ((st.length:Int) - (a:Int)) = ((sl.len - a:Nat):Int):=by rw [zw (by omega) (by omega)]; omega
  have c1:∀ (h':H) (K:Sl->M α), cutSl sl 1 none (some (w64 ((st.length:Int) - (a:Int)))) none K h' = K ⟨sl.ad, sl.len - a, sl.cap, sl.loose⟩ h':=fun h' K=>by
   rw [ew, zgz ap.fine rfl (by have:=ap.fine.1; omega)]
  have e3:=(e1 α (fun d=>new [.int .i64 i] fun e=>zq d 1 8 ⟨some e, 1, 1, none⟩ K)).trans (e2 α K)
  rw [jk rfl] at e3 ⊢
  rw [c1]
  exact e3
 ·refine ⟨by rw [n2]; have:=x1.1; omega, fun i hi=>?_⟩
  rw [k2 i (Nat.lt_of_lt_of_le hi x1.1) (fun _ a ha=>by have:=o1 a ha; omega)]
  exact x1.2 i hi
def NL (l:List Nd):Prop:=∀ (i:Nat) (n:Nd), l[i]? = some n->n.name.length≤4611686018427387900
theorem zqn (k:Nat) (hk:70≤k) {f:Sl} {l:List Nd} (h₀:H) (r₀:NdR h₀ f l) (hl:l.length≤60) (hnl:NL l):∀ (j n:Nat) (st:List Int) (sl:Sl) (h:H), n≤l.length->l.length - n < j->Ext h₀ h->App h sl 1 (cIs st)->st.length≤n ->
  ∃ h', Ext h₀ h' ∧ (match zak (l.drop n) n st with
   | none=>∀ (α:Type) (kr:Bool->M α) (kx:Sl->M α), qg.u11.l k kr kx j f sl (n:Int) h = kr false h'
   | some st'=>∃ sl':Sl, sl'.len = st'.length ∧ ∀ (α:Type) (kr:Bool->M α) (kx:Sl->M α), qg.u11.l k kr kx j f sl (n:Int) h = kx sl' h'):=by
 obtain ⟨k, rfl⟩:∃ q, k = q + 1:=⟨k - 1, by omega⟩
 intro j
 induction j with
 | zero=>intro n st sl h hn hj; omega
 | succ j ih=>
  intro n st sl h hn hj x ap hst
  have hfl:=jv r₀
  have hsl:sl.len = st.length:=zdq ap.rd
  by_cases hlt:n < l.length
  rotate_left
  ·rw [List.drop_of_length_le (by omega)]
   refine ⟨h, x, sl, hsl, fun α kr kx=>?_⟩
   rw [qg.u11.l]
   unfold qg.u10.f qg.u3.f
   rw [hfl, dF (by omega:¬ (n:Int) < (l.length:Int)), cond_false]
  have hi:l[n]? = some l[n]:=List.getElem?_eq_getElem hlt
  rw [List.drop_eq_getElem_cons hlt, zak]
  generalize l[n] = nd at hi
  have r:=r₀.ext x
  have start:∀ (α:Type) (kr:Bool->M α) (kx:Sl->M α), qg.u11.l (k + 1) kr kx (j + 1) f sl (n:Int) h = _:=fun α kr kx=>by
   rw [qg.u11.l, qg.u10.f, qg.u3.f, hfl, dT (by omega:(n:Int) < (l.length:Int)), cond_true, qg.u9.f, qg.u7.f, qg.u6.f, qg.u4.f, zam r rfl hi, zcg, zcv r rfl hi, zre k (by omega) _ _ _ _ _ (hnl n nd hi)]
  have x1:Ext h (h.push (.cells [.int .i64 nd.kind, .int .i64 nd.a, .int .i64 nd.b, .str nd.name, .int .i64 nd.pos] true)):=(Ext.refl h).push _
  generalize h.push (.cells [.int .i64 nd.kind, .int .i64 nd.a, .int .i64 nd.b, .str nd.name, .int .i64 nd.pos] true) = h1 at start x1
  have r1:=r.ext x1
  have ap1:=ap.ext x1
  have eb:∀ (α:Type) (K:Int->M α), idxSl f (n:Int) 5 (fun a=>ldI .i64 ((a.add 2).add 0) K) h1 = K nd.b h1:=fun α K=>nd_b r1 rfl hi K
  have ea:∀ (α:Type) (K:Int->M α), idxSl f (n:Int) 5 (fun a=>ldI .i64 ((a.add 1).add 0) K) h1 = K nd.a h1:=fun α K=>nd_a r1 rfl hi K
  -- wrong: nothing more is done
  have bad:(∀ (α:Type) (kr:Bool->M α) (kx:Sl->M α), qg.u11.l (k + 1) kr kx (j + 1) f sl (n:Int) h = kr false h1)->∃ h', Ext h₀ h' ∧ ∀ (α:Type) (kr:Bool->M α) (kx:Sl->M α), qg.u11.l (k + 1) kr kx (j + 1) f sl (n:Int) h = kr false h':=fun e=>⟨h1, x.trans x1, e⟩
  -- right: on
  have good:∀ (a:Nat) (y:Int), a≤st.length->y = (a:Int)->(∀ (α:Type) (kr:Bool->M α) (kx:Sl->M α), qg.u11.l (k + 1) kr kx (j + 1) f sl (n:Int) h =
    new [] (fun r=>cutSl sl 1 none (some (w64 ((st.length:Int) - y))) none fun c=>zq ⟨some r, 0, 0, none⟩ 1 8 c fun d=>new [.int .i64 (n:Int)] fun e=>zq d 1 8 ⟨some e, 1, 1, none⟩ fun z=>qg.u11.l (k + 1) kr kx j f z (w64 ((n:Int) + 1))) h1) ->
    ∃ h', Ext h₀ h' ∧ (match zak (l.drop (n + 1)) (n + 1) (st.take (st.length - a) ++ [(n:Int)]) with
     | none=>∀ (α:Type) (kr:Bool->M α) (kx:Sl->M α), qg.u11.l (k + 1) kr kx (j + 1) f sl (n:Int) h = kr false h'
     | some st'=>∃ sl':Sl, sl'.len = st'.length ∧ ∀ (α:Type) (kr:Bool->M α) (kx:Sl->M α), qg.u11.l (k + 1) kr kx (j + 1) f sl (n:Int) h = kx sl' h'):=by
   intro a y ha hy e
   obtain ⟨sl4, h4, e4, x4, ap4, o4⟩:=rstep ap1 ha (by omega) (n:Int) rfl hy
   obtain ⟨h', x', rest⟩:=ih (n + 1) _ sl4 h4 (by omega) (by omega) ((x.trans x1).trans x4) ap4 (by simp; omega)
   have e5:∀ (α:Type) (kr:Bool->M α) (kx:Sl->M α), qg.u11.l (k + 1) kr kx (j + 1) f sl (n:Int) h = qg.u11.l (k + 1) kr kx j f sl4 ((n + 1:Nat):Int) h4:=fun α kr kx=>by
    rw [e, e4, zw (by omega) (by omega), show ((n:Int) + 1) = ((n + 1:Nat):Int) from rfl]
   refine ⟨h', x', ?_⟩
   cases hr:zak (l.drop (n + 1)) (n + 1) (st.take (st.length - a) ++ [(n:Int)]) with
   | none=>rw [hr] at rest; exact fun α kr kx=>(e5 α kr kx).trans (rest α kr kx)
   | some st'=>
    rw [hr] at rest
    obtain ⟨sl', hl', e'⟩:=rest
    exact ⟨sl', hl', fun α kr kx=>(e5 α kr kx).trans (e' α kr kx)⟩
  rcases zga nd.kind with e | e | e | e
  ·rw [stepP_m e]
   refine bad fun α kr kx=>?_
   rw [start, e]
   rfl
  ·rw [zod e]
   by_cases hc:yz nd.kind nd.name = true ∧ nd.b = 0 ∧ nd.a = 0
   ·rw [if_pos hc]
    have:=good 0 0 (Nat.zero_le _) rfl (fun α kr kx=>by
     rw [start, e, hc.1]
     simp only [↓cT, ↓cF, Bool.not_true, eb, ea, hc.2.1, hc.2.2, Int.reduceLT, decide_true, decide_false, hsl, dF (by omega:¬ ((st.length:Int) < 0))]
     unfold qg.u5.f qg.u8.f
     simp only [↓cF, Int.reduceEq, decide_false])
    rwa [Nat.sub_zero, List.take_length] at this
   ·rw [if_neg hc]
    refine bad fun α kr kx=>?_
    rw [start, e]
    by_cases h1:yz nd.kind nd.name = true <;> by_cases h2:nd.b = 0 <;> by_cases h3:nd.a = 0 <;> first
     | (simp only [↓cT, ↓cF, h1, h2, h3, Bool.not_true, Bool.not_false, eb, ea, Int.reduceLT, decide_true, decide_false, hsl, dF (by omega:¬ ((st.length:Int) < 0))]; done)
     | exact absurd ⟨h1, h2, h3⟩ hc
  ·rw [zoh e]
   by_cases hc:yz nd.kind nd.name = true ∧ 1≤st.length ∧ nd.b = 0 ∧ st[st.length - 1]? = some nd.a
   ·rw [if_pos hc]
    have hx:w64 ((st.length:Int) - 1) = ((st.length - 1:Nat):Int):=by rw [zw (by omega) (by omega)]; omega
    exact good 1 1 hc.2.1 rfl (fun α kr kx=>by
     rw [start, e, hc.1]
     simp only [↓cT, ↓cF, Bool.not_true, eb, ea, hc.2.2.1, Int.reduceLT, decide_true, decide_false, hsl, dF (by omega:¬ ((st.length:Int) < 1))]
     unfold qg.u5.f qg.u8.f
     simp only [↓cT, ↓cF, Int.reduceEq, decide_true, decide_false, Bool.not_true, hx, yk ap1.rd rfl hc.2.2.2, ea, hsl])
   ·rw [if_neg hc]
    refine bad fun α kr kx=>?_
    rw [start, e]
    by_cases h1:yz nd.kind nd.name = true
    ·by_cases h2:1≤st.length
     ·have hx:w64 ((st.length:Int) - 1) = ((st.length - 1:Nat):Int):=by rw [zw (by omega) (by omega)]; omega
      obtain ⟨v, hv⟩:∃ v, st[st.length - 1]? = some v:=⟨_, List.getElem?_eq_getElem (by omega)⟩
      by_cases h3:nd.b = 0
      ·have h4:¬ v = nd.a:=fun h=>hc ⟨h1, h2, h3, by rw [hv, h]⟩
       simp only [↓cT, ↓cF, Bool.not_true, eb, ea, h1, h3, Int.reduceLT, decide_true, decide_false, hsl, dF (by omega:¬ ((st.length:Int) < 1))]
       unfold qg.u5.f qg.u8.f
       simp only [↓cT, ↓cF, Int.reduceEq, decide_true, decide_false, Bool.not_true, Bool.not_false, hx, yk ap1.rd rfl hv, ea, hsl, h4]
      ·simp only [↓cT, ↓cF, Bool.not_true, Bool.not_false, eb, ea, h1, h3, Int.reduceLT, decide_true, decide_false, hsl, dF (by omega:¬ ((st.length:Int) < 1))]
     ·simp only [↓cT, ↓cF, Bool.not_true, Bool.not_false, h1, Int.reduceLT, decide_true, decide_false, hsl, dT (by omega:((st.length:Int) < 1))]
    ·simp only [↓cT, ↓cF, h1, Bool.not_false, Int.reduceLT, decide_false]
  ·rw [zox e]
   by_cases hc:yz nd.kind nd.name = true ∧ 2≤st.length ∧ st[st.length - 1]? = some nd.b ∧ st[st.length - 2]? = some nd.a
   ·rw [if_pos hc]
    have hx:w64 ((st.length:Int) - 1) = ((st.length - 1:Nat):Int):=by rw [zw (by omega) (by omega)]; omega
    have hy:w64 ((st.length:Int) - 2) = ((st.length - 2:Nat):Int):=by rw [zw (by omega) (by omega)]; omega
    exact good 2 2 hc.2.1 rfl (fun α kr kx=>by
     rw [start, e, hc.1]
     simp only [↓cT, ↓cF, Bool.not_true, Int.reduceLT, decide_true, decide_false, hsl, dF (by omega:¬ ((st.length:Int) < 2))]
     unfold qg.u5.f qg.u8.f
     simp only [↓cT, ↓cF, Int.reduceEq, decide_true, decide_false, Bool.not_true, hx, hy, yk ap1.rd rfl hc.2.2.1, yk ap1.rd rfl hc.2.2.2, ea, eb, hsl])
   ·rw [if_neg hc]
    refine bad fun α kr kx=>?_
    rw [start, e]
    by_cases h1:yz nd.kind nd.name = true
    ·by_cases h2:2≤st.length
     ·have hx:w64 ((st.length:Int) - 1) = ((st.length - 1:Nat):Int):=by rw [zw (by omega) (by omega)]; omega
      have hy:w64 ((st.length:Int) - 2) = ((st.length - 2:Nat):Int):=by rw [zw (by omega) (by omega)]; omega
      obtain ⟨v, hv⟩:∃ v, st[st.length - 1]? = some v:=⟨_, List.getElem?_eq_getElem (by omega)⟩
      obtain ⟨u, hu⟩:∃ v, st[st.length - 2]? = some v:=⟨_, List.getElem?_eq_getElem (by omega)⟩
      simp only [↓cT, ↓cF, Bool.not_true, h1, Int.reduceLT, decide_true, decide_false, hsl, dF (by omega:¬ ((st.length:Int) < 2))]
      unfold qg.u5.f qg.u8.f
      by_cases h3:v = nd.b
      ·have h4:¬ u = nd.a:=fun h=>hc ⟨h1, h2, by rw [hv, h3], by rw [hu, h]⟩
       simp only [↓cT, ↓cF, Int.reduceEq, decide_true, decide_false, Bool.not_true, Bool.not_false, hx, hy, yk ap1.rd rfl hv, yk ap1.rd rfl hu, ea, eb, hsl, h3, h4]
      ·simp only [↓cT, ↓cF, Int.reduceEq, decide_true, decide_false, Bool.not_true, Bool.not_false, hx, hy, yk ap1.rd rfl hv, ea, eb, hsl, h3]
     ·simp only [↓cT, ↓cF, Bool.not_true, Bool.not_false, h1, Int.reduceLT, decide_true, decide_false, hsl, dT (by omega:((st.length:Int) < 2))]
    ·simp only [↓cT, ↓cF, h1, Bool.not_false, Int.reduceLT, decide_false]
theorem zle (k:Nat) (hk:70≤k) {f:Sl} {l:List Nd} (hnl:NL l) (h:H) (r:NdR h f l):∃ h', (∀ (α:Type) (ret:Bool->M α), qg.f (k + 1) f ret h = ret (zcs l) h') ∧ Ext h h':=by
 have hfl:=jv r
 unfold zcs
 by_cases hl:1≤l.length ∧ l.length≤60
 rotate_left
 ·refine ⟨h, fun α ret=>?_, Ext.refl h⟩
  simp only [qg.f]
  unfold qg.u16.f qg.u1.f
  rw [hfl, dF hl]
  by_cases h1:(l.length:Int) < 1
  ·rw [dT h1]; rfl
  ·rw [dF h1, dT (by omega:(60:Int) < (l.length:Int))]; rfl
 obtain ⟨h', x', rest⟩:=zqn k hk h r hl.2 hnl k 0 [] Sl.nil h (Nat.zero_le _) (by omega) (Ext.refl h) (App.nilSl h 1) (Nat.le_refl _)
 rw [List.drop_zero] at rest
 have start:∀ (α:Type) (ret:Bool->M α), qg.f (k + 1) f ret h = qg.u11.l k ret (fun y0=>qg.u14.f k y0 ret) k f Sl.nil ((0:Nat):Int) h:=fun α ret=>by
  simp only [qg.f]
  unfold qg.u16.f qg.u1.f
  rw [hfl, dF (by omega:¬ (l.length:Int) < 1), cond_false, dF (by omega:¬ (60:Int) < (l.length:Int)), cond_false]
  unfold qg.u15.f qg.u13.f qg.u2.f qg.u12.f qg.u11.f
  rfl
 refine ⟨h', fun α ret=>(start α ret).trans ?_, x'⟩
 rw [dT hl, Bool.true_and]
 cases hr:zak l 0 [] with
 | none=>rw [hr] at rest; exact rest α ret _
 | some st'=>
  rw [hr] at rest
  obtain ⟨sl', hl', e'⟩:=rest
  refine (e' α ret _).trans ?_
  unfold qg.u14.f
  rw [hl']
  dsimp only
  congr 1
  by_cases h1:st'.length = 1 <;> simp [h1]
  omega
end Go.Ab.S7
namespace Go.Ab.S7
inductive Tr where
 | leaf (k:Int) (s:List UInt8) (p:Int)
 | un (k:Int) (s:List UInt8) (p:Int) (a:Tr)
 | bin (k:Int) (s:List UInt8) (p:Int) (a b:Tr)
 deriving DecidableEq, Inhabited
def Tr.size:Tr->Nat
 | .leaf _ _ _=>1
 | .un _ _ _ a=>a.size + 1
 | .bin _ _ _ a b=>a.size + b.size + 1
theorem Tr.pos:∀ t:Tr, 1≤t.size
 | .leaf _ _ _=>Nat.le_refl _
 | .un _ _ _ a=>Nat.succ_le_succ (Nat.zero_le _)
 | .bin _ _ _ a b=>Nat.succ_le_succ (Nat.zero_le _)
def Tr.node:Tr->Nat->Nd
 | .leaf k s p, _=>⟨k, 0, 0, s, p⟩
 | .un k s p a, base=>⟨k, ((base + a.size - 1:Nat):Int), 0, s, p⟩
 | .bin k s p a b, base=>⟨k, ((base + a.size - 1:Nat):Int), ((base + a.size + b.size - 1:Nat):Int), s, p⟩
def Tr.flat:Tr->Nat->List Nd
 | .leaf k s p, base=>[(Tr.leaf k s p).node base]
 | .un k s p a, base=>a.flat base ++ [(Tr.un k s p a).node base]
 | .bin k s p a b, base=>a.flat base ++ (b.flat (base + a.size) ++ [(Tr.bin k s p a b).node base])
def Tr.ok:Tr->Bool
 | .leaf k s _=>decide (arF k = 0) && yz k s
 | .un k s _ a=>decide (arF k = 1) && yz k s && a.ok
 | .bin k s _ a b=>decide (arF k = 2) && yz k s && a.ok && b.ok
theorem zd:∀ (t:Tr) (base:Nat), (t.flat base).length = t.size
 | .leaf _ _ _, _=>rfl
 | .un _ _ _ a, base=>by simp [Tr.flat, Tr.size, zd a]
 | .bin _ _ _ a b, base=>by simp [Tr.flat, Tr.size, zd a, zd b]; omega
def zdp:List Tr->Nat->List Nd
 | [], _=>[]
 | t :: ts, base=>t.flat base ++ zdp ts (base + t.size)
def zao (ts:List Tr):Nat:=(ts.map Tr.size).sum
def zaf:List Tr->Nat->List Int
 | [], _=>[]
 | t :: ts, base=>((base + t.size - 1:Nat):Int) :: zaf ts (base + t.size)
theorem zku (t:Tr) (ts:List Tr):zao (t :: ts) = t.size + zao ts:=by simp [zao]
theorem zbi (ts us:List Tr):zao (ts ++ us) = zao ts + zao us:=by simp [zao]
theorem zbl:∀ (ts us:List Tr) (base:Nat), zdp (ts ++ us) base = zdp ts base ++ zdp us (base + zao ts)
 | [], us, base=>by simp [zdp, zao]
 | t :: ts, us, base=>by
  rw [List.cons_append, zdp, zdp, zbl ts us, zku, List.append_assoc, Nat.add_assoc]
theorem zbo:∀ (ts us:List Tr) (base:Nat), zaf (ts ++ us) base = zaf ts base ++ zaf us (base + zao ts)
 | [], us, base=>by simp [zaf, zao]
 | t :: ts, us, base=>by
  rw [List.cons_append, zaf, zaf, zbo ts us, zku, List.cons_append, Nat.add_assoc]
theorem zdc:∀ (ts:List Tr) (base:Nat), (zaf ts base).length = ts.length
 | [], _=>rfl
 | t :: ts, base=>by simp [zaf, zdc ts]
theorem zjy {β:Type}:∀ (l:List β), 1≤l.length->∃ (m:List β) (x:β), l = m ++ [x]
 | [], h=>by simp at h
 | [x], _=>⟨[], x, rfl⟩
 | x :: y :: l, _=>by
  obtain ⟨m, z, h⟩:=zjy (y :: l) (by simp)
  exact ⟨x :: m, z, by rw [h]; rfl⟩
theorem zjj:∀ (l:List Nd) (ts:List Tr) (st:List Int), (∀ t ∈ ts, t.ok = true)->zak l (zao ts) (zaf ts 0) = some st ->
  ∃ us:List Tr, (∀ t ∈ us, t.ok = true) ∧ zdp us 0 = zdp ts 0 ++ l ∧ st = zaf us 0
 | [], ts, st, hok, h=>by
  simp only [zak, Option.some.injEq] at h
  exact ⟨ts, hok, by simp, h.symm⟩
 | n :: l, ts, st, hok, h=>by
  rw [zak] at h
  cases hs:zfy (zaf ts 0) (zao ts:Nat) n with
  | none=>rw [hs] at h; cases h
  | some st'=>
   rw [hs] at h
   dsimp only at h
   have hex:∃ vs:List Tr, (∀ t ∈ vs, t.ok = true) ∧ st' = zaf vs 0 ∧ zao vs = zao ts + 1 ∧ zdp vs 0 = zdp ts 0 ++ [n]:=by
    rcases zga n.kind with e | e | e | e
    ·rw [stepP_m e] at hs; cases hs
    ·rw [zod e] at hs
     split at hs
     case isFalse=>cases hs
     case isTrue hc=>
     obtain ⟨c1, c2, c3⟩:=hc
     simp only [Option.some.injEq] at hs
     subst hs
     refine ⟨ts ++ [.leaf n.kind n.name n.pos], fun t ht=>?_, ?_, ?_, ?_⟩
     ·rcases List.mem_append.1 ht with ht | ht
      ·exact hok t ht
      ·rw [List.mem_singleton.1 ht]; simp [Tr.ok, e, c1]
     ·simp [zbo, zaf, Tr.size]
     ·simp [zbi, zao, Tr.size]
     ·rw [zbl]
      congr 1
      cases n
      simp_all [zdp, Tr.flat, Tr.node]
    ·rw [zoh e] at hs
     split at hs
     case isFalse=>cases hs
     case isTrue hc=>
     obtain ⟨c1, c2, c3, c4⟩:=hc
     simp only [Option.some.injEq] at hs
     subst hs
     rw [zdc] at c2
     obtain ⟨vs, a, rfl⟩:=zjy ts c2
     have ha:=Tr.pos a
     rw [zbo, zaf, zaf, Nat.zero_add] at c4 ⊢
     have hl:(zaf vs 0 ++ [((zao vs + a.size - 1:Nat):Int)]).length - 1 = (zaf vs 0).length:=by simp
     rw [hl, List.getElem?_append_right (Nat.le_refl _), Nat.sub_self] at c4
     simp only [List.getElem?_cons_zero, Option.some.injEq] at c4
     refine ⟨vs ++ [.un n.kind n.name n.pos a], fun t ht=>?_, ?_, ?_, ?_⟩
     ·rcases List.mem_append.1 ht with ht | ht
      ·exact hok t (List.mem_append_left _ ht)
      ·rw [List.mem_singleton.1 ht]
       have:=hok a (List.mem_append_right _ (List.mem_singleton.2 rfl))
       simp [Tr.ok, e, c1, this]
     ·rw [hl, List.take_left, zbo, Nat.zero_add, zaf, zaf, zbi]
      simp [zao, Tr.size]
     ·simp [zbi, zao, Tr.size]; omega
     ·rw [zbl, zbl, List.append_assoc]
      congr 1
      simp only [zdp, Tr.flat, List.append_nil, Nat.zero_add]
      congr 1
      cases n
      simp_all [Tr.node]
    ·rw [zox e] at hs
     split at hs
     case isFalse=>cases hs
     case isTrue hc=>
     obtain ⟨c1, c2, c3, c4⟩:=hc
     simp only [Option.some.injEq] at hs
     subst hs
     rw [zdc] at c2
     obtain ⟨ws, b, rfl⟩:=zjy ts (by omega)
     obtain ⟨vs, a, rfl⟩:=zjy ws (by simp at c2; omega)
     have ha:=Tr.pos a
     have hb:=Tr.pos b
     have er:zaf (vs ++ [a] ++ [b]) 0 = zaf vs 0 ++ [((zao vs + a.size - 1:Nat):Int), ((zao vs + a.size + b.size - 1:Nat):Int)]:=by
      rw [List.append_assoc, zbo]
      simp [zaf]
     rw [er] at c3 c4 ⊢
     have h1:(zaf vs 0 ++ [((zao vs + a.size - 1:Nat):Int), ((zao vs + a.size + b.size - 1:Nat):Int)]).length - 1 = (zaf vs 0).length + 1:=by simp
     have h2:(zaf vs 0 ++ [((zao vs + a.size - 1:Nat):Int), ((zao vs + a.size + b.size - 1:Nat):Int)]).length - 2 = (zaf vs 0).length:=by simp
     rw [h1, List.getElem?_append_right (by omega), show (zaf vs 0).length + 1 - (zaf vs 0).length = 1 by omega] at c3
     rw [h2, List.getElem?_append_right (Nat.le_refl _), Nat.sub_self] at c4
     simp only [List.getElem?_cons_zero, List.getElem?_cons_succ, Option.some.injEq] at c3 c4
     refine ⟨vs ++ [.bin n.kind n.name n.pos a b], fun t ht=>?_, ?_, ?_, ?_⟩
     ·rcases List.mem_append.1 ht with ht | ht
      ·exact hok t (List.mem_append_left _ (List.mem_append_left _ ht))
      ·rw [List.mem_singleton.1 ht]
       have g1:=hok a (List.mem_append_left _ (List.mem_append_right _ (List.mem_singleton.2 rfl)))
       have g2:=hok b (List.mem_append_right _ (List.mem_singleton.2 rfl))
       simp [Tr.ok, e, c1, g1, g2]
     ·rw [h2, List.take_left, zbo, Nat.zero_add, zaf, zaf, zbi, zbi]
      simp [zao, Tr.size]
      omega
     ·simp [zbi, zao, Tr.size]; omega
     ·rw [List.append_assoc, zbl, zbl, List.append_assoc]
      congr 1
      simp only [List.cons_append, List.nil_append, zdp, Tr.flat, List.append_nil, Nat.zero_add, List.append_assoc]
      congr 2
      cases n
      simp_all [Tr.node]
   obtain ⟨vs, v1, v2, v3, v4⟩:=hex
   subst v2
   rw [← v3] at h
   obtain ⟨us, u1, u2, u3⟩:=zjj l vs st v1 h
   exact ⟨us, u1, by rw [u2, v4, List.append_assoc]; rfl, u3⟩
theorem zfg:∀ (t:Tr) (base:Nat) (rest:List Nd) (st:List Int), t.ok = true->zak (t.flat base ++ rest) base st = zak rest (base + t.size) (st ++ [((base + t.size - 1:Nat):Int)])
 | .leaf k s p, base, rest, st, h=>by
  simp only [Tr.ok, Bool.and_eq_true, decide_eq_true_eq] at h
  have e:arF (Tr.node (.leaf k s p) base).kind = 0:=h.1
  simp only [Tr.flat, List.cons_append, List.nil_append, zak]
  rw [zod e, if_pos ⟨h.2, rfl, rfl⟩]
  simp [Tr.size]
 | .un k s p a, base, rest, st, h=>by
  simp only [Tr.ok, Bool.and_eq_true, decide_eq_true_eq] at h
  have e:arF (Tr.node (.un k s p a) base).kind = 1:=h.1.1
  simp only [Tr.flat, List.append_assoc, List.cons_append, List.nil_append]
  rw [zfg a base _ st h.2, zak, zoh e, if_pos ⟨h.1.2, by simp, rfl, by simp [Tr.node]⟩]
  have:=Tr.pos a
  simp [Tr.size]
  rw [show base + a.size + 1 = base + (a.size + 1) by omega]
 | .bin k s p a b, base, rest, st, h=>by
  simp only [Tr.ok, Bool.and_eq_true, decide_eq_true_eq] at h
  have e:arF (Tr.node (.bin k s p a b) base).kind = 2:=h.1.1.1
  simp only [Tr.flat, List.append_assoc, List.cons_append, List.nil_append]
  rw [zfg a base _ st h.1.2, zfg b (base + a.size) _ _ h.2, zak, zox e, if_pos ⟨h.1.1.2, by simp, by simp [Tr.node], by simp [Tr.node]⟩]
  have:=Tr.pos a
  have:=Tr.pos b
  simp [Tr.size]
  rw [show base + a.size + b.size + 1 = base + (a.size + b.size + 1) by omega, Int.add_assoc]
theorem zik (l:List Nd):zcs l = true ↔ ∃ t:Tr, t.ok = true ∧ l = t.flat 0 ∧ t.size≤60:=by
 unfold zcs
 constructor
 ·intro h
  simp only [Bool.and_eq_true, decide_eq_true_eq] at h
  obtain ⟨⟨h1, h2⟩, h3⟩:=h
  cases hr:zak l 0 [] with
  | none=>rw [hr] at h3; cases h3
  | some st=>
   rw [hr] at h3
   obtain ⟨us, u1, u2, u3⟩:=zjj l [] st (fun t ht=>by cases ht) hr
   have h3':st.length = 1:=of_decide_eq_true h3
   rw [u3, zdc] at h3'
   match us, h3' with
   | [t], _=>
    simp only [zdp, List.append_nil, List.nil_append] at u2
    exact ⟨t, u1 t List.mem_cons_self, u2.symm, by rw [← zd t 0, u2]; exact h2⟩
 ·rintro ⟨t, ht, rfl, hs⟩
  have h1:=zfg t 0 [] [] ht
  rw [List.append_nil] at h1
  rw [h1, zd]
  have:=Tr.pos t
  simp [zak]
  omega
end Go.Ab.S7
namespace Go.Ab.S7
variable {α:Type} {h:H}
def fixK (k:Int):Bool:=decide (k = 10) || decide (k = 11)
abbrev Anc:=List (Nat × Nd)
def cntN:Anc->Nat
 | []=>0
 | (_, n) :: A=>cntN A + (if n.kind = 5 then 1 else 0)
def jy:Anc->List (Int × Int)
 | []=>[]
 | (i, n) :: A=>jy A ++ (if fixK n.kind = true then [((i:Int), (cntN A:Int))] else [])
def zbc (name:List UInt8):Anc->Option (Nat × Nat)
 | []=>none
 | (i, n) :: A=>if fixK n.kind = true ∧ n.name = name then some (i, cntN A) else zbc name A
def zbg (k:Int) (s:List UInt8) (A:Anc):Int:=if k = 4 then (match zbc s A with | some (i, _)=>(i:Int) | none=>-1) else -1
def zas (k:Int) (s:List UInt8) (A:Anc):Bool:=if k = 4 then (match zbc s A with | some (_, m)=>decide ((cntN A - m) % 2 ≠ 0) | none=>false) else false
def toA:Tr->Nat->Anc->List Int
 | .leaf k s p, _, A=>[zbg k s A]
 | .un k s p a, base, A=>toA a base ((base + a.size, (Tr.un k s p a).node base) :: A) ++ [-1]
 | .bin k s p a b, base, A=>toA a base ((base + a.size + b.size, (Tr.bin k s p a b).node base) :: A) ++ (toA b (base + a.size) ((base + a.size + b.size, (Tr.bin k s p a b).node base) :: A) ++ [-1])
def oddA:Tr->Nat->Anc->List Bool
 | .leaf k s p, _, A=>[zas k s A]
 | .un k s p a, base, A=>oddA a base ((base + a.size, (Tr.un k s p a).node base) :: A) ++ [false]
 | .bin k s p a b, base, A=>oddA a base ((base + a.size + b.size, (Tr.bin k s p a b).node base) :: A) ++ (oddA b (base + a.size) ((base + a.size + b.size, (Tr.bin k s p a b).node base) :: A) ++ [false])
def depT:Tr->Nat
 | .leaf _ _ _=>0
 | .un k _ _ a=>if fixK k = true then depT a + 1 else depT a
 | .bin _ _ _ a b=>max (depT a) (depT b)
def depA:Tr->List Nat
 | .leaf _ _ _=>[0]
 | .un k s p a=>depA a ++ [depT (.un k s p a)]
 | .bin k s p a b=>depA a ++ (depA b ++ [depT (.bin k s p a b)])
theorem ye:∀ (t:Tr) (base:Nat) (A:Anc), (toA t base A).length = t.size
 | .leaf _ _ _, _, _=>rfl
 | .un _ _ _ a, base, A=>by simp [toA, Tr.size, ye a]
 | .bin _ _ _ a b, base, A=>by simp [toA, Tr.size, ye a, ye b]; omega
theorem ya:∀ (t:Tr) (base:Nat) (A:Anc), (oddA t base A).length = t.size
 | .leaf _ _ _, _, _=>rfl
 | .un _ _ _ a, base, A=>by simp [oddA, Tr.size, ya a]
 | .bin _ _ _ a b, base, A=>by simp [oddA, Tr.size, ya a, ya b]; omega
theorem yx:∀ (t:Tr), (depA t).length = t.size
 | .leaf _ _ _=>rfl
 | .un _ _ _ a=>by simp [depA, Tr.size, yx a]
 | .bin _ _ _ a b=>by simp [depA, Tr.size, yx a, yx b]; omega
theorem zjt:∀ t:Tr, depT t≤t.size
 | .leaf _ _ _=>Nat.zero_le _
 | .un k _ _ a=>by have:=zjt a; simp only [depT, Tr.size]; split <;> omega
 | .bin _ _ _ a b=>by have:=zjt a; have:=zjt b; simp only [depT, Tr.size]; omega
theorem depA_last:∀ t:Tr, (depA t)[t.size - 1]? = some (depT t)
 | .leaf _ _ _=>rfl
 | .un k s p a=>by simp only [depA, Tr.size]; rw [List.getElem?_append_right (by rw [yx]; omega), yx]; simp
 | .bin k s p a b=>by simp only [depA, Tr.size]; rw [List.getElem?_append_right (by rw [yx]; omega), List.getElem?_append_right (by rw [yx, yx]; omega), yx, yx, show a.size + b.size + 1 - 1 - a.size - b.size = 0 by omega]; rfl
theorem zkj:∀ A:Anc, cntN A≤A.length
 | []=>Nat.le_refl _
 | (_, n) :: A=>by have:=zkj A; simp only [cntN, List.length_cons]; split <;> omega
theorem zgo:∀ A:Anc, (jy A).length≤A.length
 | []=>Nat.le_refl _
 | (_, n) :: A=>by have:=zgo A; simp only [jy, List.length_cons, List.length_append]; split <;> simp <;> omega
theorem zfu {name:List UInt8}:∀ {A:Anc} {i m:Nat}, zbc name A = some (i, m)->m≤cntN A
 | [], i, m, h=>by simp [zbc] at h
 | (j, n) :: A, i, m, h=>by
  simp only [zbc] at h
  split at h
  ·cases h; simp only [cntN]; omega
  ·have:=zfu h; simp only [cntN]; omega
def cSc (x:Int × Int):List V:=[.int .i64 x.1, .int .i64 x.2]
abbrev cScs (l:List (Int × Int)):List V:=l.flatMap cSc
structure WD (h₀:H) (w:Nat) (to odd dep:Sl):Prop where
 w0:h₀.next≤w
 t0:h₀.next≤to.id
 o0:h₀.next≤odd.id
 d0:h₀.next≤dep.id
 tw:to.id ≠ w
 ow:odd.id ≠ w
 dw:dep.id ≠ w
 t_o:to.id ≠ odd.id
 t_d:to.id ≠ dep.id
 o_d:odd.id ≠ dep.id
structure WS (h₀ h:H) (w:Nat) (f to odd dep:Sl) (l:List Nd) (ins:Sl) (sc:List (Int × Int)) (nots:Int) (T:List Int) (O:List Bool) (D:List Int):Prop where
 ext:Ext h₀ h
 blk:h.get w = some (.cells [.slice f, .slice ins, .int .i64 nots, .slice to, .slice odd, .slice dep] true)
 wlt:w < h.next
 f:NdR h₀ f l
 ap:App h ins 2 (cScs sc)
 low:zah h₀ ins
 lo:ins.loose = none->ins.len = 0
 nw:∀ a, ins.ad = some a->a.id ≠ w ∧ a.id ≠ to.id ∧ a.id ≠ odd.id ∧ a.id ≠ dep.id
 to:Own h to 1 (cIs T)
 odd:Own h odd 1 (O.flatMap cB)
 dep:Own h dep 1 (cIs D)
section ws
variable {h₀ h:H} {w:Nat} {f to odd dep:Sl} {l:List Nd} {ins:Sl} {sc:List (Int × Int)} {nots:Int} {T:List Int} {O:List Bool} {D:List Int}
theorem WS.push (W:WS h₀ h w f to odd dep l ins sc nots T O D) {h':H} (x:Ext h h'):WS h₀ h' w f to odd dep l ins sc nots T O D:=
 ⟨W.ext.trans x, by rw [x.2 w W.wlt]; exact W.blk, Nat.lt_of_lt_of_le W.wlt x.1, W.f, W.ap.ext x, W.low, W.lo, W.nw, W.to.ext x, W.odd.ext x, W.dep.ext x⟩
theorem WS.setblk (W:WS h₀ h w f to odd dep l ins sc nots T O D) (d:WD h₀ w to odd dep) {nots':Int} {ins':Sl} (he:ins' = ins) :
  WS h₀ (h.put w (some (.cells [.slice f, .slice ins', .int .i64 nots', .slice to, .slice odd, .slice dep] true))) w f to odd dep l ins sc nots' T O D:=by
 subst he
 have hg:∀ i, i ≠ w->(h.put w (some (.cells [.slice f, .slice ins', .int .i64 nots', .slice to, .slice odd, .slice dep] true))).get i = h.get i:=fun i hi=>by rw [zi, if_neg hi]
 refine ⟨W.ext.put _ d.w0, by rw [jt], W.wlt, W.f, W.ap.keep (Nat.le_refl _) fun a ha=>hg _ (W.nw a ha).1, W.low, W.lo, W.nw, W.to.keep (Nat.le_refl _) (hg _ d.tw), W.odd.keep (Nat.le_refl _) (hg _ d.ow), W.dep.keep (Nat.le_refl _) (hg _ d.dw)⟩
theorem WS.setto (W:WS h₀ h w f to odd dep l ins sc nots T O D) (d:WD h₀ w to odd dep) {h':H} {T':List Int} (o:Own h' to 1 (cIs T')) (hn:h'.next = h.next) (hg:∀ i, i ≠ to.id->h'.get i = h.get i):WS h₀ h' w f to odd dep l ins sc nots T' O D:=by
 have hle:h.next≤h'.next:=by omega
 refine ⟨⟨by have:=W.ext.1; omega, fun i hi=>by rw [hg i (by have:=d.t0; omega)]; exact W.ext.2 i hi⟩, by rw [hg w (Ne.symm d.tw)]; exact W.blk, by rw [hn]; exact W.wlt, W.f, W.ap.keep hle fun a ha=>hg _ (W.nw a ha).2.1, W.low, W.lo, W.nw, o, W.odd.keep hle (hg _ (Ne.symm d.t_o)), W.dep.keep hle (hg _ (Ne.symm d.t_d))⟩
theorem WS.setodd (W:WS h₀ h w f to odd dep l ins sc nots T O D) (d:WD h₀ w to odd dep) {h':H} {O':List Bool} (o:Own h' odd 1 (O'.flatMap cB)) (hn:h'.next = h.next) (hg:∀ i, i ≠ odd.id->h'.get i = h.get i):WS h₀ h' w f to odd dep l ins sc nots T O' D:=by
 have hle:h.next≤h'.next:=by omega
 refine ⟨⟨by have:=W.ext.1; omega, fun i hi=>by rw [hg i (by have:=d.o0; omega)]; exact W.ext.2 i hi⟩, by rw [hg w (Ne.symm d.ow)]; exact W.blk, by rw [hn]; exact W.wlt, W.f, W.ap.keep hle fun a ha=>hg _ (W.nw a ha).2.2.1, W.low, W.lo, W.nw, W.to.keep hle (hg _ d.t_o), o, W.dep.keep hle (hg _ (Ne.symm d.o_d))⟩
theorem WS.setdep (W:WS h₀ h w f to odd dep l ins sc nots T O D) (d:WD h₀ w to odd dep) {h':H} {D':List Int} (o:Own h' dep 1 (cIs D')) (hn:h'.next = h.next) (hg:∀ i, i ≠ dep.id->h'.get i = h.get i):WS h₀ h' w f to odd dep l ins sc nots T O D':=by
 have hle:h.next≤h'.next:=by omega
 refine ⟨⟨by have:=W.ext.1; omega, fun i hi=>by rw [hg i (by have:=d.d0; omega)]; exact W.ext.2 i hi⟩, by rw [hg w (Ne.symm d.dw)]; exact W.blk, by rw [hn]; exact W.wlt, W.f, W.ap.keep hle fun a ha=>hg _ (W.nw a ha).2.2.2, W.low, W.lo, W.nw, W.to.keep hle (hg _ d.t_d), W.odd.keep hle (hg _ d.o_d), o⟩
theorem w_f (W:WS h₀ h w f to odd dep l ins sc nots T O D) (K:Sl->M α):ldS (((⟨w, 0⟩:Ad).add 0).add 0) K h = K f h:=zbb (by simp only [jg]; rw [jf W.blk]; rfl)
theorem w_in (W:WS h₀ h w f to odd dep l ins sc nots T O D) (K:Sl->M α):ldS (((⟨w, 0⟩:Ad).add 1).add 0) K h = K ins h:=zbb (by simp only [jg]; rw [jf W.blk]; rfl)
theorem zob (W:WS h₀ h w f to odd dep l ins sc nots T O D) (K:Int->M α):ldI .i64 (((⟨w, 0⟩:Ad).add 2).add 0) K h = K nots h:=jn (by simp only [jg]; rw [jf W.blk]; rfl)
theorem w_to (W:WS h₀ h w f to odd dep l ins sc nots T O D) (K:Sl->M α):ldS (((⟨w, 0⟩:Ad).add 3).add 0) K h = K to h:=zbb (by simp only [jg]; rw [jf W.blk]; rfl)
theorem w_odd (W:WS h₀ h w f to odd dep l ins sc nots T O D) (K:Sl->M α):ldS (((⟨w, 0⟩:Ad).add 4).add 0) K h = K odd h:=zbb (by simp only [jg]; rw [jf W.blk]; rfl)
theorem zgu (W:WS h₀ h w f to odd dep l ins sc nots T O D) (K:Sl->M α):ldS (((⟨w, 0⟩:Ad).add 5).add 0) K h = K dep h:=zbb (by simp only [jg]; rw [jf W.blk]; rfl)
theorem w_snots (W:WS h₀ h w f to odd dep l ins sc nots T O D) (n:Int) (K:M α):st1 (((⟨w, 0⟩:Ad).add 2).add 0) (.int .i64 n) K h = K (h.put w (some (.cells [.slice f, .slice ins, .int .i64 n, .slice to, .slice odd, .slice dep] true))):=by
 simp only [jg]
 rw [yv (a:=⟨w, 0 + 2 + 0⟩) W.blk rfl (by simp)]
 rfl
theorem w_sin (W:WS h₀ h w f to odd dep l ins sc nots T O D) (s:Sl) {h':H} (hg:h'.get w = h.get w) (K:M α):st1 (((⟨w, 0⟩:Ad).add 1).add 0) (.slice s) K h' = K (h'.put w (some (.cells [.slice f, .slice s, .int .i64 nots, .slice to, .slice odd, .slice dep] true))):=by
 simp only [jg]
 rw [yv (a:=⟨w, 0 + 1 + 0⟩) (hg.trans W.blk) rfl (by simp)]
 rfl
end ws
theorem sc_get {l:List (Int × Int)} {i:Nat} {x:Int × Int} (hi:l[i]? = some x):(cScs l)[i * 2 + 0]? = some (.int .i64 x.1) ∧ (cScs l)[i * 2 + 1]? = some (.int .i64 x.2):=
 ⟨zcn (c:=cSc) (fun _=>rfl) l i x 0 hi (by decide), zcn (c:=cSc) (fun _=>rfl) l i x 1 hi (by decide)⟩
theorem find_loop {h₀ h:H} {w:Nat} {f to odd dep:Sl} {l:List Nd} {ins:Sl} {sc:List (Int × Int)} {nots:Int} {T:List Int} {O:List Bool} {D:List Int}
  (W:WS h₀ h w f to odd dep l ins sc nots T O D) (k:Nat) (name:List UInt8):∀ (A:Anc) (more:List (Int × Int)) (j:Nat), sc = jy A ++ more->(∀ p ∈ A, l[p.1]? = some p.2)->(jy A).length < j->A.length≤1000->∀ (α:Type) (kr:Ad->Bool->M α) (kx:Ad->M α),
   qs.u4.l k kr kx j ⟨w, 0⟩ name ⟨h.next, 0⟩ (((jy A).length:Int) - 1) (h.push (.cells [.int .i64 0, .int .i64 0] true)) =
    (match zbc name A with
    | some (i, m)=>kr ⟨h.next, 0⟩ true (h.push (.cells [.int .i64 i, .int .i64 m] true))
    | none=>kx ⟨h.next, 0⟩ (h.push (.cells [.int .i64 0, .int .i64 0] true))):=by
 have W':=W.push ((Ext.refl h).push (.cells [.int .i64 0, .int .i64 0] true))
 intro A
 induction A with
 | nil=>
  intro more j hsc hA hj hl α kr kx
  obtain ⟨j, rfl⟩:∃ q, j = q + 1:=⟨j - 1, by omega⟩
  rw [qs.u4.l, qs.u3.f]
  simp [jy, zbc]
 | cons p A ih=>
  intro more j hsc hA hj hl α kr kx
  obtain ⟨i, n⟩:=p
  simp only [List.length_cons] at hl
  by_cases hf:fixK n.kind = true
  ·have e:jy ((i, n) :: A) = jy A ++ [((i:Int), (cntN A:Int))]:=by simp [jy, hf]
   rw [e] at hsc hj ⊢
   simp only [List.length_append, List.length_cons, List.length_nil] at hj ⊢
   obtain ⟨j, rfl⟩:∃ q, j = q + 1:=⟨j - 1, by omega⟩
   have hsl:=zgo A
   have hget:sc[(jy A).length]? = some ((i:Int), (cntN A:Int)):=by rw [hsc]; simp
   have hlt:(jy A).length < ins.len:=by
    rw [slen (c:=cSc) (fun _=>rfl) (by decide) W.ap.rd]; exact yu hget
   obtain ⟨g0, g1⟩:=sc_get hget
   have ex:((((jy A).length + (0 + 1):Nat):Int) - 1) = ((jy A).length:Int):=by omega
   have hn:=hA (i, n) List.mem_cons_self
   rw [qs.u4.l, qs.u3.f, ex, dT (by omega:(0:Int)≤((jy A).length:Int)), cond_true, w_f W', w_in W', zcy W'.ap.rd rfl hlt, yl, yl, W'.ap.rd.ldI g0, zdd (W'.f.ext W'.ext) rfl hn]
   simp only [zbc]
   by_cases hname:n.name = name
   ·rw [if_pos ⟨hf, hname⟩, dT hname, cond_true, w_in W', zcy W'.ap.rd rfl hlt, yl, W'.ap.rd.ldI g0, yl, W'.ap.rd.ldI g1]
    simp only [jg, Nat.zero_add]
    rw [yc rfl (by simp), yc rfl (by simp)]
    rfl
   ·rw [if_neg (fun h=>hname h.2), dF hname, cond_false, zw (by omega) (by omega)]
    exact ih _ j (by rw [hsc, List.append_assoc]) (fun p hp=>hA p (List.mem_cons_of_mem _ hp)) (by omega) (by omega) α kr kx
  ·have e:jy ((i, n) :: A) = jy A:=by simp [jy, hf]
   rw [e] at hsc hj ⊢
   simp only [zbc]
   rw [if_neg (fun h=>hf h.1)]
   exact ih more j hsc (fun p hp=>hA p (List.mem_cons_of_mem _ hp)) hj (by omega) α kr kx
theorem find_run {h₀ h:H} {w:Nat} {f to odd dep:Sl} {l:List Nd} {ins:Sl} {nots:Int} {T:List Int} {O:List Bool} {D:List Int} {A:Anc}
  (W:WS h₀ h w f to odd dep l ins (jy A) nots T O D) (k:Nat) (name:List UInt8) (hA:∀ p ∈ A, l[p.1]? = some p.2) (hk:A.length < k) (hl:A.length≤1000) (ret:Int->Int->Bool->M α) :
  qs.f (k + 1) ⟨w, 0⟩ name ret h = (match zbc name A with
   | some (i, m)=>ret i m true (h.push (.cells [.int .i64 i, .int .i64 m] true))
   | none=>ret 0 0 false (h.push (.cells [.int .i64 0, .int .i64 0] true))):=by
 have W':=W.push ((Ext.refl h).push (.cells [.int .i64 0, .int .i64 0] true))
 have hsl:=zgo A
 have hins:ins.len = (jy A).length:=slen (c:=cSc) (fun _=>rfl) (by decide) W.ap.rd
 have key:∀ (kr:Ad->Bool->M α), qs.u9.f k ⟨w, 0⟩ name kr h = qs.u4.l k kr (fun y0=>qs.u7.f k y0 kr) k ⟨w, 0⟩ name ⟨h.next, 0⟩ (((jy A).length:Int) - 1) (h.push (.cells [.int .i64 0, .int .i64 0] true)):=fun kr=>by
  rw [qs.u9.f, qs.u1.f, jk rfl, qs.u8.f, qs.u6.f, qs.u2.f, w_in W', hins, zw (by omega) (by omega), qs.u5.f, qs.u4.f]
 rw [qs.f, key, find_loop W k name A [] k (by simp) hA (by omega) hl]
 cases hf:zbc name A with
 | none=>
  dsimp only
  rw [qs.u7.f]
  simp only [jg, Nat.zero_add]
  rw [yc rfl (by simp), yc rfl (by simp), jn (by rw [yb]; rfl), jn (by rw [yb]; rfl)]
  rfl
 | some p=>
  obtain ⟨i, m⟩:=p
  dsimp only
  simp only [jg, Nat.zero_add]
  rw [jn (by rw [yb]; rfl), jn (by rw [yb]; rfl)]
end Go.Ab.S7
