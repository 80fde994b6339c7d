import Derived.Test.YtmanohnlcedeaaaDoorS5u
import Derived.Test.YtmanohnlcedeaaaDoorS5nl
import Derived.Laws.BitsAllLaws
set_option linter.unusedVariables false
set_option linter.unusedSimpArgs false
namespace Go.Ab.S5
theorem fit_sub {r t:Tr} {b:Nat} {A:Anc} {q:Int} (h:At r t b A q) (hr:r.ok = true) (hf:fit r [] = true):fit t (envA A) = true:=by
 induction h with
 | root=>exact hf
 | @un k s p a b A q h ih=>
  simp only [fit] at ih
  have e:envA ((b + a.size, (Tr.un k s p a).node b) :: A) = if fixK k = true then (s, false) :: envA A else if k = 5 then zli (envA A) else envA A:=rfl
  rw [e]
  by_cases hk:fixK k = true
  ·rw [if_pos hk] at ih ⊢; exact ih
  ·rw [if_neg hk] at ih ⊢
   by_cases h5:k = 5
   ·rw [if_pos h5] at ih ⊢; exact ih
   ·rw [if_neg h5] at ih ⊢; exact ih
 | left h ih=>
  have ho:=zhd h hr
  simp only [Tr.ok, Bool.and_eq_true, decide_eq_true_eq] at ho
  simp only [fit, Bool.and_eq_true] at ih
  simp only [envA, Tr.node]
  rcases zkd ho.1.1.1 with e | e <;> subst e <;> exact ih.1
 | right h ih=>
  have ho:=zhd h hr
  simp only [Tr.ok, Bool.and_eq_true, decide_eq_true_eq] at ho
  simp only [fit, Bool.and_eq_true] at ih
  simp only [envA, Tr.node]
  rcases zkd ho.1.1.1 with e | e <;> subst e <;> exact ih.2
theorem zso {r:Tr} (hr:r.ok = true) (hf:fit r [] = true):∀ i, i < r.size->(ndF r i).kind = 4->0≤toF r i:=by
 intro i hi h4
 obtain ⟨t, b, A, q, h, hb, _⟩:=At.all r i hi
 obtain ⟨e1, e2, e3, e4, _⟩:=zdq h hb
 have ho:=zhd h hr
 rw [e1] at h4
 rw [e4]
 cases t with
 | leaf k s p=>
  simp only [Tr.node] at h4
  have:=fit_sub h hr hf
  simp only [fit] at this
  have:=(zpn (k:=k) (s:=s) (A:=A)).2 this
  simp only [zkx]
  have:=this.1
  omega
 | un k s p a=>
  simp only [Tr.node] at h4
  simp only [Tr.ok, Bool.and_eq_true, decide_eq_true_eq] at ho
  rw [h4] at ho; exact absurd ho.1.1 (by decide)
 | bin k s p a c=>
  simp only [Tr.node] at h4
  simp only [Tr.ok, Bool.and_eq_true, decide_eq_true_eq] at ho
  rw [h4] at ho; exact absurd ho.1.1.1 (by decide)
def tab {β:Type} (N:Nat) (g:Nat->β):List β:=(List.range N).map g
section
variable {β:Type} {N:Nat} {g g':Nat->β}
theorem zas (N:Nat) (g:Nat->β):(tab N g).length = N:=by simp [tab]
theorem zao {v:Nat} (h:v < N) (g:Nat->β):(tab N g)[v]? = some (g v):=by simp [tab, h]
theorem yw (h:∀ v, v < N->g v = g' v):tab N g = tab N g':=List.map_congr_left fun v hv=>h v (List.mem_range.1 hv)
theorem zib (N:Nat) (g:Nat->β) (i:Nat) (x:β):(tab N g).set i x = tab N (fun v=>if v = i then x else g v):=by
 refine List.ext_getElem? fun v=>?_
 rw [List.getElem?_set]
 by_cases hv:v < N
 ·rw [zao hv, zao hv]
  by_cases h:i = v
  ·subst h; rw [if_pos rfl, zas, if_pos hv, if_pos rfl]
  ·rw [if_neg h, if_neg (Ne.symm h)]
 ·have e1:∀ g:Nat->β, (tab N g)[v]? = none:=fun g=>List.getElem?_eq_none (by rw [zas]; omega)
  rw [e1, e1]
  by_cases h:i = v
  ·subst h; rw [if_pos rfl, zas, if_neg hv]
  ·rw [if_neg h]
theorem zor (N:Nat) (x:β):List.replicate N x = tab N (fun _=>x):=by
 refine List.ext_getElem? fun v=>?_
 by_cases hv:v < N
 ·rw [zao hv, List.getElem?_replicate, if_pos hv]
 ·rw [List.getElem?_eq_none (by simp; omega), List.getElem?_eq_none (by rw [zas]; omega)]
end
abbrev cUs (l:List Int):List V:=l.flatMap cU
theorem Mine.stU {h₀ h:H} {out:Sl} {T:List Int} (m:Mine h₀ h out (cUs T)) {x:Int} {i:Nat} (v:Int) (hx:x = (i:Int)) (hi:i < T.length) :
  ∃ h', (∀ (α:Type) (K:M α), idxSl out x 1 (fun a=>st1 (a.add 0) (.int .u64 v) K) h = K h') ∧ Mine h₀ h' out (cUs (T.set i v)) ∧ h'.next = h.next:=by
 obtain ⟨h', e, o, n, g⟩:=u64_st m.own v hx hi
 exact ⟨h', e, ⟨⟨by rw [n]; exact m.ext.1, fun i hi=>by rw [g i (by have:=m.low; omega)]; exact m.ext.2 i hi⟩, o, m.low⟩, n⟩
theorem sh_nat {i:Nat} (hi:i < 64):IntKind.wrap .u64 (1 * 2 ^ (min i 64)) = ((2 ^ i:Nat):Int):=by
 rw [Nat.min_eq_left (by omega), Int.one_mul, show ((2:Int) ^ i) = ((2 ^ i:Nat):Int) by simp, IntKind.wrap_u64]
 have:2 ^ i < 18446744073709551616:=Nat.pow_lt_pow_right (a:=2) (m:=i) (n:=64) (by decide) hi
 generalize 2 ^ i = z at this ⊢
 omega
theorem sh_int {i:Nat} {x:Int} (hx:x = (i:Int)) (hi:i < 64):IntKind.wrap .u64 (1 * 2 ^ (min x.toNat 64)) = ((2 ^ i:Nat):Int):=by
 rw [hx, Int.toNat_natCast]; exact sh_nat hi
theorem zkk {i:Nat} (hi:i < 64):2 ^ i < 18446744073709551616:=Nat.pow_lt_pow_right (a:=2) (m:=i) (n:=64) (by decide) hi
theorem clr_int {m i:Nat} (hm:m < 18446744073709551616) (hi:i < 64):bits .andNot .u64 (m:Int) ((2 ^ i:Nat):Int) = ((clr m i:Nat):Int):=u64_andNot_nat m _ hm (zkk hi)
theorem or_int {a b:Nat} (ha:a < 18446744073709551616) (hb:b < 18446744073709551616):bits .or .u64 (a:Int) (b:Int) = ((a ||| b:Nat):Int):=u64_or_nat a b ha hb
theorem and_int {a b:Nat} (ha:a < 18446744073709551616) (hb:b < 18446744073709551616):bits .and .u64 (a:Int) (b:Int) = ((a &&& b:Nat):Int):=u64_and_nat a b ha hb
theorem zkh {α:Type} {h:H} {b:Bool} (hb:b = true) (K:M α):need b K h = K h:=by rw [hb]; rfl
theorem zrs (k:Nat) {s:Sl} {l:List Nd} (hl:l.length≤4611686018427387800) (hs:s.len = l.length):∀ (j i:Nat) (h:H), i≤l.length->l.length - i < j->Own h s 5 (cN ((l.take i).map plN ++ l.drop i)) ->
  ∃ h', (∀ (α:Type) (kx:Sl->M α), qz.u4.l k kx j s (l.length:Int) (i:Int) h = kx s h') ∧ Own h' s 5 (cN (l.map plN)) ∧ h'.next = h.next ∧ ∀ i, i ≠ s.id->h'.get i = h.get i:=by
 intro j
 induction j with
 | zero=>intro i h hi hj; omega
 | succ j ih=>
  intro i h hi hj o
  by_cases hlt:i < l.length
  ·have hn:l[i]? = some l[i]:=List.getElem?_eq_getElem hlt
   generalize l[i] = n at hn
   have hg:=znz hn
   by_cases h12:n.kind = 12
   ·obtain ⟨h1, e1, o1, n1, g1⟩:=nd_stk o hg 3
    have:({ n with kind:=3 }:Nd) = plN n:=by unfold plN plK; rw [if_pos h12]
    rw [this, zga hn] at o1
    obtain ⟨h2, e2, o2, n2, g2⟩:=ih (i + 1) h1 (by omega) (by omega) o1
    refine ⟨h2, fun α kx=>?_, o2, by omega, fun i hi=>by rw [g2 i hi, g1 i hi]⟩
    rw [qz.u4.l, qz.u3.f, dT (by omega:(i:Int) < (l.length:Int)), cond_true, zac o.rd rfl hg, dT h12, cond_true]
    refine (e1 α _).trans ?_
    rw [zw (by omega) (by omega)]
    exact e2 α kx
   ·have:plN n = n:=by unfold plN plK; rw [if_neg h12]
    have o1:=o
    have e0:=zga hn
    rw [this, show ((l.take i).map plN ++ l.drop i).set i n = (l.take i).map plN ++ l.drop i by
     have hlt':=yt hg
     rw [List.getElem?_eq_getElem hlt'] at hg
     rw [← Option.some.inj hg]; exact List.set_getElem_self hlt'] at e0
    rw [e0] at o1
    obtain ⟨h2, e2, o2, n2, g2⟩:=ih (i + 1) h (by omega) (by omega) o1
    refine ⟨h2, fun α kx=>?_, o2, n2, g2⟩
    rw [qz.u4.l, qz.u3.f, dT (by omega:(i:Int) < (l.length:Int)), cond_true, zac o.rd rfl hg, dF h12, cond_false, zw (by omega) (by omega)]
    exact e2 α kx
  ·refine ⟨h, fun α kx=>?_, ?_, rfl, fun _ _=>rfl⟩
   ·rw [qz.u4.l, qz.u3.f, dF (by omega:¬ (i:Int) < (l.length:Int)), cond_false]
   ·rw [List.take_of_length_le (by omega), List.drop_of_length_le (by omega), List.append_nil] at o
    exact o
theorem bound_run (k:Nat) (hk:700≤k) {f:Sl} {l:List Nd} {u:Tr} (w:Wide l u) (h:H) (r:NdR h f l) :
  ∃ s h', (∀ (α:Type) (ret:Sl->M α), qz.f (k + 1) f ret h = ret s h') ∧ Ext h h' ∧ Rd h' s 1 (cIs (toA u.pl 0 [])):=by
 obtain ⟨k, rfl⟩:∃ q, k = q + 1:=⟨k - 1, by omega⟩
 have hl:l.length≤60:=by rw [w.flat, ze]; exact w.size
 have hpos:l ≠ []:=by intro h0; have:=u.pos; have hh:=ze u 0; rw [← w.flat, h0] at hh; simp at hh; omega
 obtain ⟨d, h1, e1, x1, r1, o1, w1⟩:=zmt k h r (by unfold Room; omega)
 have hd:=yd r1
 obtain ⟨h2, e2, o2, n2, g2⟩:=zrs (k + 1) (by omega) hd (k + 1) 0 h1 (Nat.zero_le _) (by omega) (o1 hpos)
 have hid:h.next≤d.id:=by
  obtain ⟨id, more, q1, q2, q3⟩:=(o1 hpos).blk
  unfold Sl.id
  rw [q1]
  exact w1 _ q1
 have x2:Ext h h2:=⟨by have:=x1.1; omega, fun i hi=>by rw [g2 i (by omega)]; exact x1.2 i hi⟩
 have r2:=o2.rd
 rw [w.flat, ← zbm] at r2
 obtain ⟨h3, s, e3, x3, o3, _⟩:=zpu k (by omega) w.ok (by rw [yx]; exact w.size) h2 r2
 refine ⟨s, h3, fun α ret=>?_, x2.trans x3, o3.rd⟩
 rw [qz.f, qz.u9.f, qz.u1.f, e1, qz.u8.f, qz.u6.f, qz.u2.f, hd, qz.u5.f, qz.u4.f]
 refine (e2 α _).trans ?_
 rw [qz.u7.f, e3]
end Go.Ab.S5
namespace Go.Ab.S5
section
variable {α:Type} {h:H}
theorem free_4 (k:Nat) (x0 x1 x4:Sl) (x2 x5 x6:Int) (q:Ad) (kn:Sl->Sl->Sl->Int->Int->M α):qb.u16.f k x0 x1 x2 q x4 x5 x6 4 kn = qb.u6.f k x0 x1 x2 q x4 x5 x6 4 true kn:=by
 simp only [qb.u5.f, ↓cT, decide_true]
theorem free_67 (k:Nat) (x0 x1 x4:Sl) (x2 x5 x6:Int) (q:Ad) (kd:Int) (hk:kd = 6 ∨ kd = 7) (kn:Sl->Sl->Sl->Int->Int->M α):qb.u16.f k x0 x1 x2 q x4 x5 x6 kd kn = qb.u8.f k x0 x1 x2 q x4 x5 x6 kd true kn:=by
 rcases hk with rfl | rfl <;> simp only [qb.u5.f, qb.u7.f, ↓cT, ↓cF, decide_true, Int.reduceEq, decide_false]
theorem free_89 (k:Nat) (x0 x1 x4:Sl) (x2 x5 x6:Int) (q:Ad) (kd:Int) (hk:kd = 8 ∨ kd = 9) (kn:Sl->Sl->Sl->Int->Int->M α):qb.u16.f k x0 x1 x2 q x4 x5 x6 kd kn =
  ldI .i64 ((q.add 1).add 0) fun x11=>idxSl x1 x11 1 fun a12=>ldI .u64 (a12.add 0) fun x13=>idxSl x1 x2 1 fun a14=>st1 (a14.add 0) (.int .u64 x13) <| kn x0 x1 x4 x5 x6:=by
 rcases hk with rfl | rfl <;> simp only [qb.u5.f, qb.u7.f, qb.u9.f, qb.u10.f, ↓cT, ↓cF, decide_true, Int.reduceEq, decide_false]
theorem free_fix (k:Nat) (x0 x1 x4:Sl) (x2 x5 x6:Int) (q:Ad) (kd:Int) (hk:kd = 10 ∨ kd = 11) (kn:Sl->Sl->Sl->Int->Int->M α):qb.u16.f k x0 x1 x2 q x4 x5 x6 kd kn =
  ldI .i64 ((q.add 1).add 0) fun x11=>idxSl x1 x11 1 fun a12=>ldI .u64 (a12.add 0) fun x13=>need (decide (0≤x2)) <| idxSl x1 x2 1 fun a14=>st1 (a14.add 0) (.int .u64 (bits .andNot .u64 x13 (IntKind.wrap .u64 (1 * 2 ^ (min x2.toNat 64))))) <| kn x0 x1 x4 x5 x6:=by
 rcases hk with rfl | rfl <;> simp only [qb.u5.f, qb.u7.f, qb.u9.f, qb.u10.f, ↓cT, ↓cF, decide_true, Int.reduceEq, decide_false]
theorem zrj (k:Nat) (x0 x1 x4:Sl) (x2 x5 x6:Int) (q:Ad) (kd:Int) (hk:kd = 1 ∨ kd = 2 ∨ kd = 3 ∨ kd = 12) (kn:Sl->Sl->Sl->Int->Int->M α):qb.u16.f k x0 x1 x2 q x4 x5 x6 kd kn = kn x0 x1 x4 x5 x6:=by
 rcases hk with rfl | rfl | rfl | rfl <;> simp only [qb.u5.f, qb.u7.f, qb.u9.f, qb.u10.f, ↓cT, ↓cF, decide_true, Int.reduceEq, decide_false]
end
theorem pos_kinds {u:Tr} (hok:u.pl.ok = true) (hp:pos5 u = true) {i:Nat} {n:Nd} (hi:(u.flat 0)[i]? = some n) :
  n.kind = 4 ∨ (n.kind = 6 ∨ n.kind = 7) ∨ (n.kind = 8 ∨ n.kind = 9) ∨ (n.kind = 10 ∨ n.kind = 11) ∨ (n.kind = 1 ∨ n.kind = 2 ∨ n.kind = 3 ∨ n.kind = 12):=by
 have h5:=zdk u 0 hok
 rw [hp] at h5
 have hn:n.kind ≠ 5:=fun e=>by
  have:=List.any_eq_false.1 h5 n (List.mem_of_getElem? hi)
  simp [e] at this
 have hlt:=yt hi
 rw [ze] at hlt
 have y:=zqa u.pl hok
 have ha:=y.ar i (by rw [yx]; exact hlt)
 have e:ndF u.pl i = plN n:=zda (by rw [zbm, List.getElem?_map, hi]; rfl)
 rw [e] at ha
 have:=arF_kinds (k:=n.kind) (by rcases ha with h | h | h <;> (have:arF (plK n.kind) = _:=h; omega))
 unfold kindsW at this
 omega
abbrev frW (u:Tr):Nat->Nat:=frF (toF u.pl) (loF u.pl)
section
variable {u:Tr} {l:List Nd}
theorem Wide.fits (w:Wide l u):fit u.pl [] = true:=((chk_fit w.ok).1 w.chk).1
theorem Wide.lay (w:Wide l u):Lay u.size (ndF u.pl) (upF u.pl) (toF u.pl) (loF u.pl):=by
 have:=zqa u.pl w.ok; rwa [yx] at this
theorem Wide.len (w:Wide l u):l.length = u.size:=by rw [w.flat, ze]
theorem Wide.nd (w:Wide l u) {i:Nat} {n:Nd} (hi:l[i]? = some n):ndF u.pl i = plN n:=zda (by rw [zbm, ← w.flat, List.getElem?_map, hi]; rfl)
theorem Wide.lt (w:Wide l u) {i:Nat} {n:Nd} (hi:l[i]? = some n):i < u.size:=by have:=yt hi; rwa [w.len] at this
theorem Wide.to (w:Wide l u) {i:Nat} (hi:i < u.size):(toA u.pl 0 [])[i]? = some (toF u.pl i):=by
 have:i < (toA u.pl 0 []).length:=by rw [jo, yx]; exact hi
 rw [List.getElem?_eq_getElem this, toF, List.getD_eq_getElem?_getD, List.getElem?_eq_getElem this]; rfl
theorem free_loop {h₀:H} {f to ws:Sl} (w:Wide l u) (hp:pos5 u = true) (r:NdR h₀ f l) (rt:Rd h₀ to 1 (cIs (toA u.pl 0 []))) (k:Nat):∀ (j i:Nat) (h:H), i≤u.size->u.size - i < j ->
  Mine h₀ h ws (cUs (tab u.size fun v=>if v < i then ((frW u v:Nat):Int) else 0)) ->
  ∃ h', (∀ (α:Type) (kx:Sl->M α), qb.u22.l k kx j to ws f (u.size:Int) (i:Int) h = kx ws h') ∧ Mine h₀ h' ws (cUs (tab u.size fun v=>((frW u v:Nat):Int))):=by
 have y:=w.lay
 have hs:=w.size
 intro j
 induction j with
 | zero=>intro i h hi hj; omega
 | succ j ih=>
  intro i h hi hj m
  by_cases hlt:i < u.size
  rotate_left
  ·have:i = u.size:=by omega
   subst this
   refine ⟨h, fun α kx=>?_, ?_⟩
   ·rw [qb.u22.l, qb.u21.f, qb.u3.f, dF (by omega:¬ (u.size:Int) < (u.size:Int)), cond_false]
   ·rw [yw (g':=fun v=>((frW u v:Nat):Int)) (fun v hv=>if_pos hv)] at m
    exact m
  have hlen:=w.len
  have hn:l[i]? = some l[i]:=List.getElem?_eq_getElem (by omega)
  generalize l[i] = n at hn
  have e:=w.nd hn
  have hk:=pos_kinds w.ok hp (by rw [← w.flat]; exact hn)
  have hkd:(ndF u.pl i).kind = plK n.kind:=by rw [e]; rfl
  have hna:(ndF u.pl i).a = n.a:=by rw [e]; rfl
  have hnb:(ndF u.pl i).b = n.b:=by rw [e]; rfl
  -- the node's own copy
  have m1:Mine h₀ (h.push (ndC n)) ws _:=m.push ((Ext.refl h).push _)
  have hq:(h.push (ndC n)).get h.next = some (ndC n):=by rw [zq, if_pos rfl]
  have st:∀ (α:Type) (kx:Sl->M α), qb.u22.l k kx (j + 1) to ws f (u.size:Int) (i:Int) h = qb.u16.f k to ws (i:Int) ⟨h.next, 0⟩ f (u.size:Int) (i:Int) n.kind (fun y0 y1 y2 y3 y4=>qb.u22.l k kx j y0 y1 y2 y3 (w64 (y4 + 1))) (h.push (ndC n)):=by
   intro α kx
   rw [qb.u22.l, qb.u21.f, qb.u3.f, dT (by omega:(i:Int) < (u.size:Int)), cond_true, qb.u20.f, qb.u18.f, qb.u17.f, qb.u4.f, zck (r.ext m.ext) rfl hn, zhm, n5_0]
   rfl
  have key:∃ h1, (∀ (α:Type) (kn:Sl->Sl->Sl->Int->Int->M α), qb.u16.f k to ws (i:Int) ⟨h.next, 0⟩ f (u.size:Int) (i:Int) n.kind kn (h.push (ndC n)) = kn to ws f (u.size:Int) (i:Int) h1) ∧
    Mine h₀ h1 ws (cUs (tab u.size fun v=>if v < i + 1 then ((frW u v:Nat):Int) else 0)):=by
   have put:∀ x:Nat, frW u i = x->∃ h1, (∀ (α:Type) (K:M α), idxSl ws (i:Int) 1 (fun a=>st1 (a.add 0) (.int .u64 (x:Int)) K) (h.push (ndC n)) = K h1) ∧ Mine h₀ h1 ws (cUs (tab u.size fun v=>if v < i + 1 then ((frW u v:Nat):Int) else 0)):=by
    intro x hx
    obtain ⟨h1, e1, m2, _⟩:=m1.stU (x:=(i:Int)) (i:=i) (x:Int) rfl (by rw [zas]; exact hlt)
    refine ⟨h1, e1, ?_⟩
    rw [zib] at m2
    rw [yw (g':=fun v=>if v = i then ((x:Nat):Int) else if v < i then ((frW u v:Nat):Int) else 0) (fun v hv=>?_)]
    ·exact m2
    ·by_cases hvi:v = i
     ·subst hvi; rw [if_pos (by omega), if_pos rfl, hx]
     ·rw [if_neg hvi]
      by_cases hv2:v < i
      ·rw [if_pos hv2, if_pos (by omega)]
      ·rw [if_neg hv2, if_neg (by omega)]
   have get:∀ (x:Int) (a:Nat) (hx:x = (a:Int)) (ha:a < i) (α:Type) (K:Int->M α), idxSl ws x 1 (fun b=>ldI .u64 (b.add 0) K) (h.push (ndC n)) = K ((frW u a:Nat):Int) (h.push (ndC n)):=by
    intro x a hx ha α K
    refine znw m1.own.rd hx ?_ K
    rw [zao (by omega), if_pos ha]
   rcases hk with hk | hk | hk | hk | hk
   ·have h0:=zso w.ok w.fits i (by rw [yx]; exact hlt) (by rw [hkd, hk]; rfl)
    obtain ⟨b, hb, hb1, hb2, _⟩:=y.tb i hlt h0
    obtain ⟨h1, e1, m2⟩:=put (2 ^ b) (by
     show frF (toF u.pl) (loF u.pl) i = _
     rw [frF_var y hlt (by rw [hkd, hk]; rfl) h0, hb, Int.toNat_natCast])
    refine ⟨h1, fun α kn=>?_, m2⟩
    rw [hk, free_4, qb.u6.f, jp (rt.ext (m.ext.push _)) rfl (w.to hlt), zkh (by rw [decide_eq_true_eq]; exact h0), sh_int hb (by omega)]
    exact e1 α _
   ·obtain ⟨a, b, ha, hb, ha1, hb1, he⟩:=frF_bin y hlt (by rw [hkd]; rcases hk with hk | hk <;> rw [hk] <;> rfl)
    rw [hna] at ha; rw [hnb] at hb
    obtain ⟨h1, e1, m2⟩:=put (frW u a ||| frW u b) he
    refine ⟨h1, fun α kn=>?_, m2⟩
    rw [free_67 _ _ _ _ _ _ _ _ _ hk, qb.u8.f, zfn hq, get _ a ha ha1, own_b hq, get _ b hb hb1, or_int (zih y hs (by omega)) (zih y hs (by omega))]
    exact e1 α _
   ·obtain ⟨a, ha, ha1, he⟩:=frF_un y hlt (by rw [hkd]; rcases hk with hk | hk <;> rw [hk] <;> rfl) (by rw [hkd]; rcases hk with hk | hk <;> rw [hk] <;> rfl)
    rw [hna] at ha
    obtain ⟨h1, e1, m2⟩:=put (frW u a) he
    refine ⟨h1, fun α kn=>?_, m2⟩
    rw [free_89 _ _ _ _ _ _ _ _ _ hk, zfn hq, get _ a ha ha1]
    exact e1 α _
   ·obtain ⟨a, ha, ha1, he⟩:=frF_fix y hs hlt (by rw [hkd]; rcases hk with hk | hk <;> rw [hk] <;> rfl)
    rw [hna] at ha
    obtain ⟨h1, e1, m2⟩:=put (clr (frW u a) i) (he (by rw [hkd]; rcases hk with hk | hk <;> rw [hk] <;> rfl))
    refine ⟨h1, fun α kn=>?_, m2⟩
    rw [free_fix _ _ _ _ _ _ _ _ _ hk, zfn hq, get _ a ha ha1, zkh (by rw [decide_eq_true_eq]; omega), sh_int rfl (by omega), clr_int (zih y hs (by omega)) (by omega)]
    exact e1 α _
   ·have he:frW u i = 0:=frF_leaf y hlt (by rw [hkd]; rcases hk with hk | hk | hk | hk <;> rw [hk] <;> rfl) (by rw [hkd]; rcases hk with hk | hk | hk | hk <;> rw [hk] <;> decide)
    refine ⟨h.push (ndC n), fun α kn=>by rw [zrj _ _ _ _ _ _ _ _ _ hk], ?_⟩
    rw [yw (g':=fun v=>if v < i then ((frW u v:Nat):Int) else 0) (fun v hv=>?_)]
    ·exact m1
    ·by_cases hvi:v = i
     ·subst hvi; rw [if_pos (by omega), if_neg (by omega), he]; rfl
     ·by_cases hv2:v < i
      ·rw [if_pos hv2, if_pos (by omega)]
      ·rw [if_neg hv2, if_neg (by omega)]
  obtain ⟨h1, e1, m2⟩:=key
  obtain ⟨h2, e2, m3⟩:=ih (i + 1) h1 (by omega) (by omega) m2
  refine ⟨h2, fun α kx=>?_, m3⟩
  rw [st, e1, zw (by omega) (by omega)]
  exact e2 α kx
theorem znm (k:Nat) (hk:1000≤k) {f:Sl} (w:Wide l u) (hp:pos5 u = true) (h:H) (r:NdR h f l) :
  ∃ s h', (∀ (α:Type) (ret:Sl->M α), qb.f (k + 1) f ret h = ret s h') ∧ Mine h h' s (cUs (tab u.size fun v=>((frW u v:Nat):Int))):=by
 obtain ⟨k, rfl⟩:∃ q, k = q + 1:=⟨k - 1, by omega⟩
 have hs:=w.size
 have hfl:f.len = u.size:=by rw [yd r, w.len]
 obtain ⟨h1, e1, x1⟩:=is_good k (by omega) w h r
 rw [hp] at e1
 obtain ⟨to, h2, e2, x2, rt⟩:=bound_run k (by omega) w h1 (r.ext x1)
 obtain ⟨h3, e3, o3, n3, x3⟩:=mkU_run (h:=h2) (n:=u.size) (x:=(f.len:Int)) (y:=(f.len:Int)) (by rw [hfl]) (by rw [hfl]) (by omega)
 rw [zor] at o3
 obtain ⟨h4, e4, m4⟩:=free_loop (h₀:=h2) w hp ((r.ext x1).ext x2) rt (k + 1) (k + 1) 0 h3 (by omega) (by omega) ⟨x3, o3, Nat.le_refl _⟩
 refine ⟨_, h4, fun α ret=>?_, (x1.trans x2).trans m4.ext, m4.own, Nat.le_trans (x1.trans x2).1 m4.low⟩
 rw [qb.f, qb.u27.f, qb.u1.f, e1]
 rw [show (!true) = false from rfl, cond_false, e2, e3, qb.u26.f, qb.u24.f, qb.u2.f, qb.u23.f, qb.u22.f, hfl]
 refine (e4 α _).trans ?_
 rw [qb.u25.f]
theorem free_not (k:Nat) {f:Sl} (hn:zde l ∨ ∃ u, Wide l u ∧ pos5 u = false) (hr:Room l.length) (hk:1000 + l.length≤k) (h:H) (r:NdR h f l) :
  ∃ h', (∀ (α:Type) (ret:Sl->M α), qb.f (k + 1) f ret h = ret Sl.nil h') ∧ Ext h h':=by
 obtain ⟨k, rfl⟩:∃ q, k = q + 1:=⟨k - 1, by omega⟩
 obtain ⟨h1, e1, x1⟩:∃ h', (∀ (α:Type) (ret:Bool->M α), qas.f (k + 1) f ret h = ret false h') ∧ Ext h h':=by
  rcases hn with w | ⟨u, w, hp⟩
  ·exact is_not k w hr (by omega) h r
  ·obtain ⟨h1, e1, x1⟩:=is_good k (by omega) w h r
   rw [hp] at e1
   exact ⟨h1, e1, x1⟩
 refine ⟨h1, fun α ret=>?_, x1⟩
 rw [qb.f, qb.u27.f, qb.u1.f, e1]
 rfl
end
end Go.Ab.S5
namespace Go.Ab.S5
theorem zpl {x:Nat} (h0:x ≠ 0) (hx:x < 18446744073709551616):∃ m, x = 2 ^ (Lib.ctz 64 x + 1) * m + 2 ^ Lib.ctz 64 x ∧ Lib.ctz 64 x < 64:=by
 obtain ⟨m, h1, h2⟩:=Lib.ctzFrom_spec 64 x (by omega) hx
 have e:Lib.ctz 64 x = Lib.ctzFrom 64 x:=by simp [Lib.ctz, h0]
 rw [e]
 refine ⟨m, ?_, h2⟩
 rw [Nat.pow_succ]
 conv=>lhs; rw [h1]
 rw [Nat.mul_add, Nat.mul_one, Nat.mul_assoc]
theorem low_bits {x:Nat} (h0:x ≠ 0) (hx:x < 18446744073709551616):x.testBit (Lib.ctz 64 x) = true ∧ (∀ b, x.testBit b = true->Lib.ctz 64 x≤b) ∧ ∀ b, (x &&& (x - 1)).testBit b = true ↔ x.testBit b = true ∧ b ≠ Lib.ctz 64 x:=by
 obtain ⟨m, e, h2⟩:=zpl h0 hx
 generalize Lib.ctz 64 x = c at e h2 ⊢
 have p1:2 ^ c < 2 ^ (c + 1):=Nat.pow_lt_pow_right (by decide) (by omega)
 have p0:0 < 2 ^ c:=Nat.pow_pos (by decide)
 have b1:∀ b, x.testBit b = if b < c + 1 then decide (c = b) else m.testBit (b - (c + 1)):=fun b=>by
  rw [e, Nat.testBit_two_pow_mul_add m p1, Nat.testBit_two_pow]
 have b2:∀ b, (x - 1).testBit b = if b < c + 1 then decide (b < c) else m.testBit (b - (c + 1)):=fun b=>by
  rw [show x - 1 = 2 ^ (c + 1) * m + (2 ^ c - 1) by omega, Nat.testBit_two_pow_mul_add m (by omega), Nat.testBit_two_pow_sub_one]
 refine ⟨by rw [b1, if_pos (by omega)]; simp, fun b hb=>?_, fun b=>?_⟩
 ·rw [b1] at hb
  by_cases hbc:b < c + 1
  ·rw [if_pos hbc, decide_eq_true_eq] at hb; omega
  ·omega
 ·rw [Nat.testBit_and, b1, b2, Bool.and_eq_true]
  by_cases hbc:b < c + 1
  ·rw [if_pos hbc, if_pos hbc, decide_eq_true_eq, decide_eq_true_eq]; omega
  ·rw [if_neg hbc, if_neg hbc]
   constructor
   ·rintro ⟨h, _⟩; exact ⟨h, by omega⟩
   ·rintro ⟨h, _⟩; exact ⟨h, h⟩
theorem ctz_lt {x:Nat} (h0:x ≠ 0) (hx:x < 18446744073709551616):Lib.ctz 64 x < 64:=by obtain ⟨m, _, h⟩:=zpl h0 hx; exact h
theorem tz_run {α:Type} {h:H} (k:Nat) {x:Nat} (hx:x < 18446744073709551616) (ret:Int->M α):qbr.f (k + 1) (x:Int) ret h = ret ((Lib.ctz 64 x:Nat):Int) h:=by
 rw [qbr.f, zkh (by rw [Bool.and_eq_true, decide_eq_true_eq, decide_eq_true_eq]; omega), Int.toNat_natCast]
theorem less_one {x:Nat} (h0:x ≠ 0) (hx:x < 18446744073709551616):bits .and .u64 (x:Int) (IntKind.wrap .u64 ((x:Int) - 1)) = ((x &&& (x - 1):Nat):Int):=by
 have:IntKind.wrap .u64 ((x:Int) - 1) = ((x - 1:Nat):Int):=by rw [IntKind.wrap_u64]; omega
 rw [this]; exact and_int hx (by omega)
structure Two (h₀ h:H) (a b:Sl) (A B:List Int):Prop where
 ext:Ext h₀ h
 oa:Own h a 1 (cIs A)
 ob:Own h b 1 (cIs B)
 la:h₀.next≤a.id
 lb:h₀.next≤b.id
 ne:a.id ≠ b.id
section
variable {h₀ h:H} {a b:Sl} {A B:List Int}
theorem Two.push (m:Two h₀ h a b A B) {h':H} (x:Ext h h'):Two h₀ h' a b A B:=⟨m.ext.trans x, m.oa.ext x, m.ob.ext x, m.la, m.lb, m.ne⟩
theorem Two.sta (m:Two h₀ h a b A B) {x:Int} {i:Nat} (v:Int) (hx:x = (i:Int)) (hi:i < A.length) :
  ∃ h', (∀ (α:Type) (K:M α), idxSl a x 1 (fun p=>st1 (p.add 0) (.int .i64 v) K) h = K h') ∧ Two h₀ h' a b (A.set i v) B:=by
 obtain ⟨h', e, o, n, g⟩:=zil m.oa v hx hi
 exact ⟨h', e, ⟨by rw [n]; exact m.ext.1, fun i hi=>by rw [g i (by have:=m.la; omega)]; exact m.ext.2 i hi⟩, o, m.ob.keep (by omega) (g _ (Ne.symm m.ne)), m.la, m.lb, m.ne⟩
theorem Two.stb (m:Two h₀ h a b A B) {x:Int} {i:Nat} (v:Int) (hx:x = (i:Int)) (hi:i < B.length) :
  ∃ h', (∀ (α:Type) (K:M α), idxSl b x 1 (fun p=>st1 (p.add 0) (.int .i64 v) K) h = K h') ∧ Two h₀ h' a b A (B.set i v):=by
 obtain ⟨h', e, o, n, g⟩:=zil m.ob v hx hi
 exact ⟨h', e, ⟨by rw [n]; exact m.ext.1, fun i hi=>by rw [g i (by have:=m.lb; omega)]; exact m.ext.2 i hi⟩, m.oa.keep (by omega) (g _ m.ne), o, m.la, m.lb, m.ne⟩
theorem bits_loop {w f:Sl} {i N:Nat} {A:List Int} {x:Nat} (hN:N≤60) (hA:A[i]? = some (x:Int)) (z:Int) (k:Nat):∀ (j c rest:Nat) (g:Nat->Nat) (h:H), rest < 18446744073709551616 ->
  (∀ q, rest.testBit q = true->c≤q ∧ q < N)->c≤N->N - c < j->Two h₀ h a b A (tab N fun v=>((g v:Nat):Int)) ->
  ∃ h', (∀ (α:Type) (kx:Sl->Sl->Sl->Sl->Int->Int->M α), qg.u8.l (k + 1) kx j w a b (i:Int) (rest:Int) f z (i:Int) h = kx w a b f z (i:Int) h') ∧
   Two h₀ h' a b A (tab N fun v=>((if rest.testBit v = true then max (g v) x else g v:Nat):Int)):=by
 intro j
 induction j with
 | zero=>intro c rest g h _ _ _ hj; omega
 | succ j ih=>
  intro c rest g h hr hq hc hj m
  by_cases h0:rest = 0
  ·subst h0
   refine ⟨h, fun α kx=>?_, ?_⟩
   ·rw [qg.u8.l, qg.u7.f]
    rfl
   ·rw [yw (g':=fun v=>((g v:Nat):Int)) (fun v hv=>by rw [Nat.zero_testBit]; rfl)]
    exact m
  obtain ⟨b1, b2, b3⟩:=low_bits h0 hr
  have hlt:=ctz_lt h0 hr
  have hz:(!(decide ((rest:Int) = 0))) = true:=by rw [decide_eq_false (by omega)]; rfl
  have ht:=fun (α:Type) (h:H) (ret:Int->M α)=>tz_run (h:=h) k hr ret
  generalize Lib.ctz 64 rest = y at b1 b2 b3 hlt ht
  obtain ⟨y1, y2⟩:=hq y b1
  obtain ⟨h1, e1, m1⟩:=m.stb (x:=(y:Int)) (i:=y) (if (x:Int) > ((g y:Nat):Int) then (x:Int) else ((g y:Nat):Int)) rfl (by rw [zas]; exact y2)
  rw [zib, yw (g':=fun v=>(((if v = y then max (g v) x else g v):Nat):Int)) (fun v hv=>by
   by_cases e:v = y
   ·subst e
    rw [if_pos rfl, if_pos rfl]
    by_cases hx:(x:Int) > ((g v:Nat):Int)
    ·rw [if_pos hx, Nat.max_eq_right (by omega)]
    ·rw [if_neg hx, Nat.max_eq_left (by omega)]
   ·rw [if_neg e, if_neg e])] at m1
  have hr':rest &&& (rest - 1) < 18446744073709551616:=Nat.lt_of_le_of_lt Nat.and_le_left hr
  obtain ⟨h2, e2, m2⟩:=ih (y + 1) (rest &&& (rest - 1)) (fun v=>if v = y then max (g v) x else g v) h1 hr' (fun q hb=>by
   have:=(b3 q).1 hb
   have h3:=b2 q this.1
   exact ⟨by omega, (hq q this.1).2⟩) (by omega) (by omega) m1
  refine ⟨h2, fun α kx=>?_, ?_⟩
  ·rw [qg.u8.l, qg.u7.f, hz, cond_true, ht, jp m.ob.rd rfl (zao y2 _), jp m.oa.rd rfl hA]
   refine (e1 α _).trans ?_
   rw [less_one h0 hr]
   exact e2 α kx
  ·rw [yw (g':=fun v=>(((if rest.testBit v = true then max (g v) x else g v):Nat):Int)) (fun v hv=>?_)] at m2
   ·exact m2
   ·have:=b3 v
    by_cases e:v = y
    ·subst e
     rw [if_neg (by rw [this]; exact fun h=>h.2 rfl), if_pos rfl, if_pos b1]
    ·by_cases hv2:rest.testBit v = true
     ·rw [if_pos (this.2 ⟨hv2, e⟩), if_neg e, if_pos hv2]
     ·rw [if_neg (fun h=>hv2 (this.1 h).1), if_neg e, if_neg hv2]
end
end Go.Ab.S5
namespace Go.Ab.S5
abbrev fxF (u:Tr):Nat->Bool:=fun v=>fixK (ndF u.pl v).kind
abbrev rkT (u:Tr):Nat->Nat:=rkF (ndF u.pl) (frW u)
abbrev lwT (u:Tr) (m b:Nat):Nat:=lowF (fxF u) (frW u) (rkT u) m b
theorem zho (u:Tr) (m b:Nat):lwT u (m + 1) b = max (lwT u m b) (if fxF u m = true ∧ (frW u m).testBit b = true then rkT u m else 0):=rfl
theorem lwT_le (u:Tr) (m b:Nat):lwT u m b≤m:=mxU_le m fun v hv=>by
 have:=rkF_le (ndF u.pl) (frW u) v
 by_cases hc:fxF u v = true ∧ (frW u v).testBit b = true
 ·rw [if_pos hc]; show rkF (ndF u.pl) (frW u) v≤m; omega
 ·rw [if_neg hc]; omega
theorem fix_kind {k:Int}:fixK k = true ↔ k = 10 ∨ k = 11:=by unfold fixK; simp
section
variable {u:Tr} {l:List Nd} {h₀:H} {w a b f:Sl}
theorem odd_sum {m o:Nat} (h1:m≤1000) (h2:o≤1):w64 ((m:Int) + Int.tmod (w64 ((m:Int) + (o:Int))) 2) = ((adj m o:Nat):Int):=by
 rw [zw (n:=(m:Int) + (o:Int)) (by omega) (by omega), show (m:Int) + (o:Int) = ((m + o:Nat):Int) by omega, show Int.tmod ((m + o:Nat):Int) 2 = (((m + o) % 2:Nat):Int) from rfl, zw (by omega) (by omega)]
 unfold adj; omega
theorem zsd (wd:Wide l u) (r:NdR h₀ f l) (rw':Rd h₀ w 1 (cUs (tab u.size fun v=>((frW u v:Nat):Int)))) (k:Nat) (hk:100≤k):∀ (j i:Nat) (h:H), i≤u.size->u.size - i < j ->
  Two h₀ h a b (tab u.size fun v=>((if v < i then rkT u v else 0:Nat):Int)) (tab u.size fun v=>((lwT u i v:Nat):Int)) ->
  ∃ h' A, (∀ (α:Type) (kx:Sl->M α), qg.u17.l (k + 1) kx j w a b f (u.size:Int) (i:Int) h = kx a h') ∧ Two h₀ h' a b (tab u.size fun v=>((rkT u v:Nat):Int)) A:=by
 have y:=wd.lay
 have hs:=wd.size
 intro j
 induction j with
 | zero=>intro i h hi hj; omega
 | succ j ih=>
  intro i h hi hj m
  by_cases hlt:i < u.size
  rotate_left
  ·have:i = u.size:=by omega
   subst this
   refine ⟨h, tab u.size fun v=>((lwT u u.size v:Nat):Int), fun α kx=>?_, ?_⟩
   ·rw [qg.u17.l, qg.u16.f, qg.u3.f, dF (by omega:¬ (u.size:Int) < (u.size:Int)), cond_false]
   ·rw [yw (g':=fun v=>((rkT u v:Nat):Int)) (fun v hv=>by rw [if_pos hv])] at m
    exact m
  have hlen:=wd.len
  have hn:l[i]? = some l[i]:=List.getElem?_eq_getElem (by omega)
  generalize l[i] = n at hn
  have e:=wd.nd hn
  have hfx:fxF u i = fixK n.kind:=by show fixK (ndF u.pl i).kind = _; rw [e]; exact pl_fix n.kind
  have h10:(ndF u.pl i).kind = 10 ↔ n.kind = 10:=by rw [e]; show plK n.kind = 10 ↔ _; unfold plK; split <;> omega
  have m1:Two h₀ (h.push (ndC n)) a b _ _:=m.push ((Ext.refl h).push _)
  have st:∀ (α:Type) (kx:Sl->M α), qg.u17.l (k + 1) kx (j + 1) w a b f (u.size:Int) (i:Int) h =
    cond (!(decide (n.kind = 10))) (cond (!(decide (n.kind = 11))) (qg.u14.f (k + 1) w a b f (u.size:Int) (i:Int) (fun y0 y1 y2 y3 y4 y5=>qg.u17.l (k + 1) kx j y0 y1 y2 y3 y4 y5))
     (qg.u11.f (k + 1) w a b (i:Int) ⟨h.next, 0⟩ f (u.size:Int) (i:Int) (fun y0 y1 y2 y3 y4 y5=>qg.u14.f (k + 1) y0 y1 y2 y3 y4 y5 (fun y0 y1 y2 y3 y4 y5=>qg.u17.l (k + 1) kx j y0 y1 y2 y3 y4 y5))))
     (qg.u11.f (k + 1) w a b (i:Int) ⟨h.next, 0⟩ f (u.size:Int) (i:Int) (fun y0 y1 y2 y3 y4 y5=>qg.u14.f (k + 1) y0 y1 y2 y3 y4 y5 (fun y0 y1 y2 y3 y4 y5=>qg.u17.l (k + 1) kx j y0 y1 y2 y3 y4 y5))) (h.push (ndC n)):=by
   intro α kx
   rw [qg.u17.l, qg.u16.f, qg.u3.f, dT (by omega:(i:Int) < (u.size:Int)), cond_true, qg.u15.f, qg.u13.f, qg.u12.f, qg.u4.f, zck (r.ext m.ext) rfl hn, zhm, n5_0]
   cases hh:decide (n.kind = 10)
   ·rw [Bool.not_false, cond_true, cond_true, n5_0]
   ·rfl
  have key:∃ h1, (∀ (α:Type) (kx:Sl->M α), qg.u17.l (k + 1) kx (j + 1) w a b f (u.size:Int) (i:Int) h = qg.u17.l (k + 1) kx j w a b f (u.size:Int) ((i + 1:Nat):Int) h1) ∧
    Two h₀ h1 a b (tab u.size fun v=>((if v < i + 1 then rkT u v else 0:Nat):Int)) (tab u.size fun v=>((lwT u (i + 1) v:Nat):Int)):=by
   cases hf:fixK n.kind with
   | false=>
    have hne:n.kind ≠ 10 ∧ n.kind ≠ 11:=by
     constructor <;> (intro e; rw [e] at hf; exact absurd hf (by decide))
    have hr0:rkT u i = 0:=by rw [rkT, zlw, if_neg (by rw [show fixK (ndF u.pl i).kind = fxF u i from rfl, hfx, hf]; decide)]
    refine ⟨h.push (ndC n), fun α kx=>?_, ?_⟩
    ·rw [st, decide_eq_false hne.1, decide_eq_false hne.2, Bool.not_false, cond_true, cond_true, qg.u14.f, zw (by omega) (by omega)]
     rfl
    ·rw [yw (g:=fun v=>((if v < i + 1 then rkT u v else 0:Nat):Int)) (g':=fun v=>((if v < i then rkT u v else 0:Nat):Int)) (fun v hv=>by
      by_cases e:v = i
      ·subst e; rw [if_pos (show v < v + 1 by omega), if_neg (show ¬ v < v by omega), hr0]
      ·by_cases h2:v < i
       ·rw [if_pos (show v < i + 1 by omega), if_pos h2]
       ·rw [if_neg (show ¬ v < i + 1 by omega), if_neg h2]),
      yw (g:=fun v=>((lwT u (i + 1) v:Nat):Int)) (g':=fun v=>((lwT u i v:Nat):Int)) (fun v hv=>by
       rw [zho, if_neg (by rw [hfx, hf]; exact fun h=>absurd h.1 (by decide)), Nat.max_eq_left (Nat.zero_le _)])]
     exact m1
   | true=>
    have hk2:=fix_kind.1 hf
    have hq:(h.push (ndC n)).get h.next = some (ndC n):=by rw [zq, if_pos rfl]
    have hrk:rkT u i = adj (lwT u i i) (if n.kind = 10 then 1 else 0):=by
     rw [rkT, zlw, if_pos (by rw [show fixK (ndF u.pl i).kind = fxF u i from rfl, hfx, hf])]
     by_cases h:n.kind = 10
     ·rw [if_pos (h10.2 h), if_pos h]
     ·rw [if_neg (fun q=>h (h10.1 q)), if_neg h]
    obtain ⟨h1, e1, m2⟩:=m1.sta (x:=(i:Int)) (i:=i) ((adj (lwT u i i) (if n.kind = 10 then 1 else 0):Nat):Int) rfl (by rw [zas]; exact hlt)
    rw [zib, ← hrk, yw (g':=fun v=>((if v < i + 1 then rkT u v else 0:Nat):Int)) (fun v hv=>by
      by_cases e:v = i
      ·subst e; rw [if_pos rfl, if_pos (show v < v + 1 by omega)]
      ·by_cases h2:v < i
       ·rw [if_neg e, if_pos h2, if_pos (show v < i + 1 by omega)]
       ·rw [if_neg e, if_neg h2, if_neg (show ¬ v < i + 1 by omega)])] at m2
    obtain ⟨h2, e2, m3⟩:=bits_loop (i:=i) (x:=rkT u i) (w:=w) (f:=f) hs (by rw [zao hlt, if_pos (by omega)]) (u.size:Int) k (k + 1) 0 (frW u i) (fun v=>lwT u i v) h1 (zih y hs hlt) (fun q hq=>⟨Nat.zero_le _, (frF_in y hlt hq).2.1⟩) (Nat.zero_le _) (by omega) m2
    have hu11:∀ (α:Type) (kn:Sl->Sl->Sl->Sl->Int->Int->M α), qg.u11.f (k + 1) w a b (i:Int) ⟨h.next, 0⟩ f (u.size:Int) (i:Int) kn (h.push (ndC n)) = kn w a b f (u.size:Int) (i:Int) h2:=by
     intro α kn
     have hod:qg.u11.f (k + 1) w a b (i:Int) ⟨h.next, 0⟩ f (u.size:Int) (i:Int) kn (h.push (ndC n)) = qg.u10.f (k + 1) w a b (i:Int) (((if n.kind = 10 then 1 else 0):Nat):Int) f (u.size:Int) (i:Int) kn (h.push (ndC n)):=by
      rw [qg.u11.f, qg.u5.f, zhe hq]
      by_cases hh:n.kind = 10
      ·rw [dT hh, cond_true, if_pos hh]; rfl
      ·rw [dF hh, cond_false, if_neg hh]; rfl
     rw [hod, qg.u10.f, qg.u6.f, jp m1.ob.rd rfl (zao hlt _), jp m1.ob.rd rfl (zao hlt _), odd_sum (by have:=lwT_le u i i; omega) (by split <;> omega)]
     refine (e1 α _).trans ?_
     rw [znw (rw'.ext m2.ext) rfl (zao hlt _)]
     exact e2 α kn
    refine ⟨h2, fun α kx=>?_, ?_⟩
    ·have e14:∀ (h:H), qg.u14.f (k + 1) w a b f (u.size:Int) (i:Int) (fun y0 y1 y2 y3 y4 y5=>qg.u17.l (k + 1) kx j y0 y1 y2 y3 y4 y5) h = qg.u17.l (k + 1) kx j w a b f (u.size:Int) ((i + 1:Nat):Int) h:=fun h=>by
      rw [qg.u14.f, zw (by omega) (by omega)]; rfl
     rw [st]
     rcases hk2 with hk2 | hk2
     ·rw [decide_eq_true hk2, Bool.not_true, cond_false, hu11, e14]
     ·rw [decide_eq_false (by omega), decide_eq_true hk2, Bool.not_false, cond_true, Bool.not_true, cond_false, hu11, e14]
    ·rw [yw (g:=fun v=>((lwT u (i + 1) v:Nat):Int)) (g':=fun v=>((if (frW u i).testBit v = true then max (lwT u i v) (rkT u i) else lwT u i v:Nat):Int)) (fun v hv=>by
       rw [zho, hfx, hf]
       by_cases hb:(frW u i).testBit v = true
       ·rw [if_pos ⟨rfl, hb⟩, if_pos hb]
       ·rw [if_neg (fun h=>hb h.2), if_neg hb, Nat.max_eq_left (Nat.zero_le _)])]
     exact m3
  obtain ⟨h1, e1, m1⟩:=key
  obtain ⟨h2, A, e2, m2⟩:=ih (i + 1) h1 (by omega) (by omega) m1
  exact ⟨h2, A, fun α kx=>(e1 α kx).trans (e2 α kx), m2⟩
theorem zld (k:Nat) (hk:1100≤k) (wd:Wide l u) (hp:pos5 u = true) (hf:f.fine 5) (h:H) (r:NdR h f l) :
  ∃ s h', (∀ (α:Type) (ret:Sl->M α), qg.f (k + 1) f ret h = ret s h') ∧ Mine h h' s (cIs (tab u.size fun v=>((rkT u v:Nat):Int))):=by
 obtain ⟨k, rfl⟩:∃ q, k = q + 1:=⟨k - 1, by omega⟩
 have hs:=wd.size
 have hfl:f.len = u.size:=by rw [yd r, wd.len]
 obtain ⟨w, h1, e1, m1⟩:=znm k (by omega) wd hp h r
 have hwl:w.len = u.size:=by have:=m1.own.len; rw [zbg (size:=1) (fun _=>rfl), zas] at this; omega
 obtain ⟨h2, e2, o2, n2, x2⟩:=zcs (h:=h1) (n:=u.size) (x:=(w.len:Int)) (y:=(w.len:Int)) (by rw [hwl]) (by rw [hwl]) (by omega)
 obtain ⟨h3, e3, o3, n3, x3⟩:=zcs (h:=h2) (n:=u.size) (x:=(w.len:Int)) (y:=(w.len:Int)) (by rw [hwl]) (by rw [hwl]) (by omega)
 rw [zor] at o2 o3
 have t0:Two h1 h3 ⟨some ⟨h1.next, 0⟩, u.size, u.size, none⟩ ⟨some ⟨h2.next, 0⟩, u.size, u.size, none⟩ (tab u.size fun v=>((if v < 0 then rkT u v else 0:Nat):Int)) (tab u.size fun v=>((lwT u 0 v:Nat):Int)):=
  ⟨x2.trans x3, o2.ext x3, o3, Nat.le_refl _, x2.1, by show h1.next ≠ h2.next; omega⟩
 have hr:=(r.ext m1.ext).to u.size f.cap f.loose (by omega)
 rw [zbn Nd.len, List.take_of_length_le (by rw [wd.len]; omega)] at hr
 obtain ⟨h4, A, e4, m4⟩:=zsd (w:=w) (f:=⟨f.ad, u.size, f.cap, f.loose⟩) wd hr m1.own.rd k (by omega) (k + 1) 0 h3 (Nat.zero_le _) (by omega) t0
 refine ⟨_, h4, fun α ret=>?_, m1.ext.trans m4.ext, m4.oa, Nat.le_trans m1.ext.1 m4.la⟩
 rw [qg.f, qg.u22.f, qg.u1.f, e1, e2, e3, qg.u21.f, qg.u19.f, qg.u2.f, zft hf (y:=(w.len:Int)) (m:=u.size) (by rw [hwl]) (by have:=hf.1; omega), qg.u18.f, qg.u17.f]
 refine (e4 α _).trans ?_
 rw [qg.u20.f]
theorem ranks_not (k:Nat) (hn:zde l ∨ ∃ u, Wide l u ∧ pos5 u = false) (hr:Room l.length) (hk:1100 + l.length≤k) (hf:f.fine 5) (h:H) (r:NdR h f l) :
  ∃ s h', (∀ (α:Type) (ret:Sl->M α), qg.f (k + 1) f ret h = ret s h') ∧ Ext h h' ∧ s.len = 0:=by
 obtain ⟨k, rfl⟩:∃ q, k = q + 1:=⟨k - 1, by omega⟩
 obtain ⟨h1, e1, x1⟩:=free_not k hn hr (by omega) h r
 obtain ⟨h2, e2, o2, n2, x2⟩:=zcs (h:=h1) (n:=0) (x:=(Sl.nil.len:Int)) (y:=(Sl.nil.len:Int)) rfl rfl (by omega)
 obtain ⟨h3, e3, o3, n3, x3⟩:=zcs (h:=h2) (n:=0) (x:=(Sl.nil.len:Int)) (y:=(Sl.nil.len:Int)) rfl rfl (by omega)
 refine ⟨⟨some ⟨h1.next, 0⟩, 0, 0, none⟩, h3, fun α ret=>?_, (x1.trans x2).trans x3, rfl⟩
 rw [qg.f, qg.u22.f, qg.u1.f, e1, e2, e3, qg.u21.f, qg.u19.f, qg.u2.f, zft hf (y:=(Sl.nil.len:Int)) (m:=0) rfl (Nat.zero_le _), qg.u18.f, qg.u17.f]
 rw [qg.u17.l, qg.u16.f, qg.u3.f, dF (by show ¬ ((0:Int) < ((0:Nat):Int)); omega), cond_false, qg.u20.f]
end
end Go.Ab.S5
