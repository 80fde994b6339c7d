import Derived.Test.YtmanohnlcedeaaaDoorS5nr
set_option linter.unusedVariables false
set_option linter.unusedSimpArgs false
namespace Go.Ab.S5
variable {α:Type} {h:H}
section
variable {h₁:H} {f up high:Sl} {l:List Nd} {U D:List Int}
theorem zmg {T:List Int} (r:NdR h₁ f l) (ru:Rd h₁ up 1 (cIs U)) (hT:T.length = l.length) (hl:l.length≤100)
  (hch:∀ (i:Nat) (n:Nd), l[i]? = some n->∃ (B:Anc) (m:Int), U[i]? = some m ∧ zgs l U m B ∧ T[i]? = some (yp n.kind n.name B) ∧ B.length≤200) (k:Nat) (hk:400≤k):∀ (j i:Nat) (h:H) (s:Sl), i≤l.length->l.length - i < j->Ext h₁ h->App h s 1 (cIs (T.take i))->zag h₁ s ->
   ∃ h' s', Ext h₁ h' ∧ App h' s' 1 (cIs T) ∧ zag h₁ s' ∧ ∀ (α:Type) (kx:Sl->M α), qy.u4.l (k + 1) kx j f up s (i:Int) h = kx s' h':=by
 intro j
 induction j with
 | zero=>intro i h s hi hj; omega
 | succ j ih=>
  intro i h s hi hj x ap ow
  have hfl:=yd r
  by_cases hlt:i < l.length
  rotate_left
  ·refine ⟨h, s, x, by rw [List.take_of_length_le (by omega)] at ap; exact ap, ow, fun α kx=>?_⟩
   rw [qy.u4.l, qy.u3.f, hfl, dF (by omega:¬ (i:Int) < (l.length:Int)), cond_false]
  have hn:l[i]? = some l[i]:=List.getElem?_eq_getElem hlt
  obtain ⟨B, m, c1, c2, c3, c5⟩:=hch i l[i] hn
  generalize l[i] = n at hn c3
  have start:∀ (α:Type) (kx:Sl->M α), qy.u4.l (k + 1) kx (j + 1) f up s (i:Int) h = _:=fun α kx=>by
   rw [qy.u4.l, qy.u3.f, hfl, dT (by omega:(i:Int) < (l.length:Int)), cond_true, zac (r.ext x) rfl hn]
  -- one more
  have key:∃ h1, Ext h₁ h1 ∧ App h1 s 1 (cIs (T.take i)) ∧ ∀ (α:Type) (kx:Sl->M α), qy.u4.l (k + 1) kx (j + 1) f up s (i:Int) h =
    (new [.int .i64 (yp n.kind n.name B)] fun e=>jw s 1 8 ⟨some e, 1, 1, none⟩ fun z=>qy.u4.l (k + 1) kx j f up z (w64 ((i:Int) + 1))) h1:=by
   by_cases h4:n.kind = 4
   ·obtain ⟨h1, x1, e1⟩:=zkz (h₀:=h) (r.ext x) (ru.ext x) hn c1 c2 c5 k (by omega) h (Ext.refl h)
    refine ⟨h1, x.trans x1, ap.ext x1, fun α kx=>?_⟩
    rw [start, dT h4, cond_true, e1, znr]
    cases hf:zar n.name B with
    | none=>
     have t0:yp n.kind n.name B = -1:=by simp [yp, h4, hf]
     rw [t0]; rfl
    | some p=>
     obtain ⟨q, d⟩:=p
     have t0:yp n.kind n.name B = (q:Int):=by simp [yp, h4, hf]
     rw [t0]; rfl
   ·have t0:yp n.kind n.name B = -1:=by simp [yp, h4]
    refine ⟨h, x, ap, fun α kx=>?_⟩
    rw [start, dF h4, cond_false, t0]
  obtain ⟨h1, x1, ap1, e1⟩:=key
  have hsl:=zba ap1.rd
  rw [List.length_take] at hsl
  have hsl':s.len≤100:=by omega
  have hroom:(s.len + 1 + (s.len + 1) / 4 + 512) * 8≤281474976710656:=room1 _ hsl'
  obtain ⟨h2, e2, ap2, g2, n2, k2⟩:=zfe (bytes:=8) (more:=cI (yp n.kind n.name B)) ap1 rfl rfl (n:=1) (by decide) (by decide) hroom
  have ht:T.take (i + 1) = T.take i ++ [yp n.kind n.name B]:=by rw [List.take_add_one, c3]; rfl
  have x2:Ext h₁ h2:=by
   refine ⟨by rw [n2]; have:=x1.1; omega, fun q hq=>?_⟩
   rw [k2 q (Nat.lt_of_lt_of_le hq x1.1) (fun _ a ha=>by have:=ow a ha; omega)]
   exact x1.2 q hq
  obtain ⟨h', s', x', ap', ow', e'⟩:=ih (i + 1) h2 _ (by omega) (by omega) x2 (by rw [ht, zpy]; exact ap2) (fun a ha=>by cases ha; show h₁.next≤h1.next + 1; have:=x1.1; omega)
  refine ⟨h', s', x', ap', ow', fun α kx=>?_⟩
  rw [e1]
  refine (e2 α _).trans ?_
  rw [zw (by omega) (by omega)]
  exact e' α kx
theorem zny (k:Nat) (hk:500≤k) {t:Tr} (ht:t.ok = true) (hs:t.size≤60) (hnl:NL (t.flat 0)) (h:H) (r:NdR h f (t.flat 0)) :
  ∃ h' s, (∀ (α:Type) (ret:Sl->M α), qy.f (k + 1) f ret h = ret s h') ∧ Ext h h' ∧ App h' s 1 (cIs (toA t 0 [])) ∧ zag h s:=by
 obtain ⟨k, rfl⟩:∃ q, k = q + 1:=⟨k - 1, by omega⟩
 have hR:zcc (t.flat 0) = true:=(zeo _).2 ⟨t, ht, rfl, hs⟩
 obtain ⟨h1, e1, x1⟩:=zhb k (by omega) hnl h r
 rw [hR] at e1
 obtain ⟨h2, up, e2, m2⟩:=up_run k (by omega) ht hs h1 (r.ext x1)
 have x12:=x1.trans m2.ext
 obtain ⟨h', s', x', ap', ow', e'⟩:=zmg (T:=toA t 0 []) (r.ext x12) m2.own.rd (by rw [jo, ze]) (by rw [ze]; omega) (fun i n hi=>by
  obtain ⟨B, m, b1, b2, b3, b4, b5⟩:=zjf ht hs i n hi
  exact ⟨B, m, b1, b2, b3, b5⟩) k (by omega) (k + 1) 0 h2 Sl.nil (Nat.zero_le _) (by rw [ze]; omega) (Ext.refl h2) (App.nilSl _ _) (zag.nil _)
 refine ⟨h', s', fun α ret=>?_, x12.trans x', ap', fun a ha=>Nat.le_trans x12.1 (ow' a ha)⟩
 rw [qy.f, qy.u9.f, qy.u1.f, e1, Bool.not_true, cond_false, e2, qy.u8.f, qy.u6.f, qy.u2.f, qy.u5.f, qy.u4.f]
 exact e' α _
end
end Go.Ab.S5
