import Derived.Test.YtdhjpnacjnkbgaaGreatDoorS9gr
set_option linter.unusedVariables false
set_option linter.unusedSimpArgs false
set_option linter.unusedSectionVars false
namespace Go.Ab.S9
variable {α:Type} {h:H}
theorem and127 (x:Int):∃ c:Nat, bits .and .i64 x 127 = (c:Int) ∧ c≤127:=by
 have e:(BitVec.ofInt 64 x &&& BitVec.ofInt 64 (127:Int)).toNat≤127:=by
  rw [show (127:Int) = ((127:Nat):Int) from rfl, zag, BitVec.toNat_and, BitVec.toNat_ofNat]
  exact Nat.and_le_right
 refine ⟨(BitVec.ofInt 64 x &&& BitVec.ofInt 64 (127:Int)).toNat, ?_, e⟩
 show IntKind.wrap .i64 (((BitVec.ofInt 64 x &&& BitVec.ofInt 64 (127:Int)).toNat:Nat):Int) = _
 exact yt (by omega) (by omega)
theorem ones_run (k:Nat) (x:Int):∃ c:Nat, c≤127 ∧ ∀ (α:Type) (h:H) (ret:Int->M α), qae.f (k + 1) x ret h = ret (c:Int) h:=by
 have:∃ y, ∀ (α:Type) (ret:Int->M α), qae.f (k + 1) x ret = ret (bits .and .i64 y 127):=⟨_, fun α ret=>rfl⟩
 obtain ⟨y, e⟩:=this
 obtain ⟨c, e2, hc⟩:=and127 y
 exact ⟨c, hc, fun α h ret=>by rw [e, e2]⟩
theorem len_loop (k:Nat) (S:Nat):∀ (n i s:Nat), i + n = 4->s≤127 * i ->
  ∃ r:Nat, r≤508 ∧ ∀ (α:Type) (j:Nat) (h:H) (kx:Int->M α), n < j ->
   qq.u4.l (k + 1) kx j (s:Int) (wi S 0) (wi S 1) (wi S 2) (wi S 3) (i:Int) h = kx (r:Int) h:=by
 intro n
 induction n with
 | zero=>
  intro i s hi hs
  refine ⟨s, by omega, fun α j h kx hj=>?_⟩
  obtain ⟨j, rfl⟩:∃ m, j = m + 1:=⟨j - 1, by omega⟩
  rw [qq.u4.l, qq.u3.f, dF (by omega), cond_false]
 | succ n ih=>
  intro i s hi hs
  have hi4:i < 4:=by omega
  obtain ⟨c, hc, ec⟩:=ones_run k (wi S i)
  obtain ⟨r, hr, e⟩:=ih (i + 1) (s + c) (by omega) (by omega)
  refine ⟨r, hr, fun α j h kx hj=>?_⟩
  obtain ⟨j, rfl⟩:∃ m, j = m + 1:=⟨j - 1, by omega⟩
  rw [qq.u4.l, qq.u3.f, dT (by omega), cond_true]
  refine (zej rfl hi4 _).trans ?_
  rw [ec, nxt (by omega), show w64 ((s:Int) + (c:Int)) = ((s + c:Nat):Int) by rw [yt (by omega) (by omega)]; rfl]
  exact e α j h kx (by omega)
theorem Len_run (k:Nat) (hk:5 < k) (S:Nat):∃ (r:Nat) (h':H), r≤508 ∧ Ext h h' ∧ ∀ (α:Type) (ret:Int->M α),
  qq.f (k + 1) (wi S 0) (wi S 1) (wi S 2) (wi S 3) ret h = ret (r:Int) h':=by
 obtain ⟨k, rfl⟩:∃ m, k = m + 1:=⟨k - 1, by omega⟩
 obtain ⟨r, hr, e⟩:=len_loop k S 4 0 0 rfl (by omega)
 refine ⟨r, h.push (c4 (wi S 0) (wi S 1) (wi S 2) (wi S 3)), hr, (Ext.refl h).push _, fun α ret=>?_⟩
 rw [qq.f]
 unfold qq.u9.f qq.u1.f
 rw [new4]
 refine (ld4 (zav _ _ _ _) _).trans ?_
 exact e α (k + 1) _ _ (by omega)
def bl (S n:Nat):List Int:=((List.range n).filter fun j=>S.testBit j).map fun (j:Nat)=>(j:Int)
theorem bl_zero (S:Nat):bl S 0 = []:=rfl
theorem zgh (S n:Nat):bl S (n + 1) = bl S n ++ if S.testBit n = true then [(n:Int)] else []:=by
 unfold bl
 rw [List.range_succ, List.filter_append, List.map_append]
 congr 1
 by_cases e:S.testBit n = true
 ·rw [if_pos e, List.filter_cons_of_pos e]; rfl
 ·rw [if_neg e, List.filter_cons_of_neg e]; rfl
theorem zfa (S n:Nat):(bl S n).length≤n:=by
 unfold bl
 rw [List.length_map]
 exact Nat.le_trans (List.length_filter_le _ _) (Nat.le_of_eq List.length_range)
theorem bl_same (S:Nat) {n:Nat}:∀ d, (∀ j, n≤j->j < n + d->S.testBit j = false)->bl S (n + d) = bl S n:=by
 intro d
 induction d with
 | zero=>intro _; rfl
 | succ d ih=>
  intro hq
  rw [← Nat.add_assoc, zgh, ih fun j h1 h2=>hq j h1 (by omega), hq (n + d) (by omega) (by omega)]
  simp
theorem zkl {S n:Nat} {v:Int}:v ∈ bl S n ↔ ∃ j:Nat, v = (j:Int) ∧ j < n ∧ S.testBit j = true:=by
 unfold bl
 rw [List.mem_map]
 constructor
 ·rintro ⟨j, hj, rfl⟩
  rw [List.mem_filter, List.mem_range] at hj
  exact ⟨j, rfl, hj.1, hj.2⟩
 ·rintro ⟨j, rfl, h1, h2⟩
  exact ⟨j, by rw [List.mem_filter, List.mem_range]; exact ⟨h1, h2⟩, rfl⟩
theorem list_word (k:Nat) {S i b:Nat} (hi:i < 4):∀ (n c w:Nat) (s:Sl) (h:H), c + n = 64->c≤64->w < 18446744073709551616 ->
  (∀ j, w.testBit j = true ↔ c≤j ∧ (wd S i).testBit j = true)->b≤h.next->Gr h b s (bl S (64 * i + c)) ->
  ∃ s' h', Gr h' b s' (bl S (64 * i + 64)) ∧ h.next≤h'.next ∧ (∀ i, i < b->h'.get i = h.get i) ∧ ∀ (α:Type) (m:Nat) (kx:Sl->Int->Int->Int->Int->Int->M α), n < m ->
   qf.u6.l (k + 1) kx m s (i:Int) (w:Int) (wi S 0) (wi S 1) (wi S 2) (wi S 3) (i:Int) h = kx s' (wi S 0) (wi S 1) (wi S 2) (wi S 3) (i:Int) h':=by
 intro n
 induction n using Nat.strongRecOn with
 | ind n ih=>
  intro c w s h hc hc2 hw hb hbn g
  have bit:∀ j, j < 64->(wd S i).testBit j = S.testBit (64 * i + j):=fun j hj=>by rw [zai, dT hj, Bool.true_and]
  by_cases h0:w = 0
  ·subst h0
   refine ⟨s, h, ?_, Nat.le_refl _, fun _ _=>rfl, fun α m kx hm=>?_⟩
   ·have:=bl_same S (n:=64 * i + c) (64 - c) fun j h1 h2=>by
     have h3:=(hb (j - 64 * i))
     rw [Nat.zero_testBit, bit _ (by omega), show 64 * i + (j - 64 * i) = j by omega] at h3
     cases e:S.testBit j with
     | false=>rfl
     | true=>exact absurd (h3.2 ⟨by omega, e⟩) (by decide)
    rw [show 64 * i + c + (64 - c) = 64 * i + 64 by omega] at this
    rw [this]; exact g
   ·obtain ⟨m, rfl⟩:∃ q, m = q + 1:=⟨m - 1, by omega⟩
    rw [qf.u6.l, qf.u5.f]
    rfl
  obtain ⟨b1, b2, b3⟩:=zla h0 hw
  have hlt:=ctz_lt h0 hw
  have ht:=fun (α:Type) (h:H) (ret:Int->M α)=>tz_run (h:=h) k hw ret
  generalize Lib.ctz 64 w = z at b1 b2 b3 hlt ht
  obtain ⟨z1, z2⟩:=(hb z).1 b1
  rw [bit z hlt] at z2
  have hsame:bl S (64 * i + c + (z - c)) = bl S (64 * i + c):=bl_same S (z - c) fun j h1 h2=>by
   cases e:S.testBit j with
   | false=>rfl
   | true=>
    have:=b2 (j - 64 * i) ((hb _).2 ⟨by omega, by rw [bit _ (by omega), show 64 * i + (j - 64 * i) = j by omega]; exact e⟩)
    omega
  have hnew:bl S (64 * i + (z + 1)) = bl S (64 * i + c) ++ [((64 * i + z:Nat):Int)]:=by
   rw [← Nat.add_assoc, zgh, if_pos z2, ← hsame, show 64 * i + c + (z - c) = 64 * i + z by omega]
  obtain ⟨s1, h1, e1, g1, n1, k1, _⟩:=g.app1 ((64 * i + z:Nat):Int) hbn (Nat.le_trans (zfa _ _) (by omega))
  rw [← hnew] at g1
  obtain ⟨s2, h2, g2, n2, k2, e2⟩:=ih (64 - (z + 1)) (by omega) (z + 1) (w &&& (w - 1)) s1 h1 (by omega) (by omega) (Nat.lt_of_le_of_lt Nat.and_le_left hw) (fun j=>by
   rw [b3, hb]
   constructor
   ·rintro ⟨⟨q1, q2⟩, q3⟩
    have:=b2 j ((hb j).2 ⟨q1, q2⟩)
    exact ⟨by omega, q2⟩
   ·rintro ⟨q1, q2⟩
    exact ⟨⟨by omega, q2⟩, by omega⟩) (Nat.le_trans hbn n1) g1
  refine ⟨s2, h2, g2, Nat.le_trans n1 n2, fun q hq=>(k2 q hq).trans (k1 q (by omega) fun a ha hba=>by omega), fun α m kx hm=>?_⟩
  obtain ⟨m, rfl⟩:∃ q, m = q + 1:=⟨m - 1, by omega⟩
  have hz:(!(decide ((w:Int) = 0))) = true:=by rw [dF (by omega)]; rfl
  rw [qf.u6.l, qf.u5.f, hz, cond_true, ht, mul64 hi hlt]
  refine (e1 α _).trans ?_
  rw [less_one h0 hw]
  exact e2 α m kx (by omega)
theorem list_loop (k:Nat) (hk:64 < k) {S b:Nat}:∀ (n i:Nat) (s:Sl) (h:H), i + n = 4->b≤h.next->Gr h b s (bl S (64 * i)) ->
  ∃ s' h', Gr h' b s' (bl S 256) ∧ h.next≤h'.next ∧ (∀ i, i < b->h'.get i = h.get i) ∧ ∀ (α:Type) (m:Nat) (kx:Sl->M α), n < m ->
   qf.u13.l (k + 1) kx m s (wi S 0) (wi S 1) (wi S 2) (wi S 3) (i:Int) h = kx s' h':=by
 intro n
 induction n with
 | zero=>
  intro i s h hi hb g
  refine ⟨s, h, by rw [show 64 * i = 256 by omega] at g; exact g, Nat.le_refl _, fun _ _=>rfl, fun α m kx hm=>?_⟩
  obtain ⟨m, rfl⟩:∃ q, m = q + 1:=⟨m - 1, by omega⟩
  rw [qf.u13.l]
  unfold qf.u12.f
  rw [qf.u3.f, dF (by omega), cond_false]
 | succ n ih=>
  intro i s h hi hb g
  have hi4:i < 4:=by omega
  obtain ⟨s1, h1, g1, n1, k1, e1⟩:=list_word k (S:=S) (b:=b) hi4 64 0 (wd S i) s h rfl (by omega) (zcp _ _) (fun j=>by simp) hb g
  obtain ⟨s2, h2, g2, n2, k2, e2⟩:=ih (i + 1) s1 h1 (by omega) (Nat.le_trans hb n1) (by rw [show 64 * (i + 1) = 64 * i + 64 by omega]; exact g1)
  refine ⟨s2, h2, g2, Nat.le_trans n1 n2, fun q hq=>(k2 q hq).trans (k1 q hq), fun α m kx hm=>?_⟩
  obtain ⟨m, rfl⟩:∃ q, m = q + 1:=⟨m - 1, by omega⟩
  rw [qf.u13.l]
  unfold qf.u12.f
  rw [qf.u3.f, dT (by omega), cond_true]
  unfold qf.u11.f qf.u9.f qf.u8.f qf.u4.f
  refine (zej (q:=decide ((i:Int) < (4:Int))) (dT (by omega)) hi4 _).trans ?_
  refine (e1 α (k + 1) _ (by omega)).trans ?_
  show qf.u13.l (k + 1) kx m s1 (wi S 0) (wi S 1) (wi S 2) (wi S 3) (w64 ((i:Int) + 1)) h1 = _
  rw [nxt (by omega)]
  exact e2 α m kx (by omega)
theorem zcs (k:Nat) (hk:70 < k) (S:Nat):∃ s' h', Gr h' h.next s' (bl S 256) ∧ Ext h h' ∧ ∀ (α:Type) (ret:Sl->M α),
  qf.f (k + 1) (wi S 0) (wi S 1) (wi S 2) (wi S 3) ret h = ret s' h':=by
 obtain ⟨k, rfl⟩:∃ m, k = m + 1:=⟨k - 1, by omega⟩
 let h1:=h.push (c4 (wi S 0) (wi S 1) (wi S 2) (wi S 3))
 obtain ⟨c, h2, hc, x2, e2⟩:=Len_run (h:=h1) k (by omega) S
 have x1:Ext h h1:=(Ext.refl h).push _
 let h3:=h2.push (.cells (List.replicate c [V.int .i64 0]).flatten true)
 have x3:Ext h h3:=(x1.trans x2).push _
 have hn1:h1.next = h.next + 1:=rfl
 have hn3:h3.next = h2.next + 1:=rfl
 have n2:h1.next≤h2.next:=x2.1
 have g:Gr h3 h.next ⟨some ⟨h2.next, 0⟩, 0, c, none⟩ (bl S (64 * 0)):=.inr ⟨h2.next, [], (List.replicate c [V.int .i64 0]).flatten, rfl, by omega, by omega, je _ _, rfl, .inl ⟨rfl, by simp [bl_zero]⟩⟩
 have gq:h3.get h.next = some (c4 (wi S 0) (wi S 1) (wi S 2) (wi S 3)):=by
  rw [show h3.get h.next = h2.get h.next from yb _ _ (by omega), x2.2 _ (by omega)]; exact zav _ _ _ _
 obtain ⟨s', h', g', n', k', e'⟩:=list_loop k (by omega) (S:=S) (b:=h.next) 4 0 _ h3 rfl (by omega) g
 refine ⟨s', h', g', ⟨Nat.le_trans x3.1 n', fun q hq=>(k' q hq).trans (x3.2 q hq)⟩, fun α ret=>?_⟩
 rw [qf.f]
 unfold qf.u18.f qf.u1.f
 rw [new4]
 refine (ld4 (zav _ _ _ _) _).trans ?_
 rw [e2]
 have hmk:∀ (K:Sl->M α), mkSl 0 (c:Int) 8 [V.int .i64 0] K h2 = K ⟨some ⟨h2.next, 0⟩, 0, c, none⟩ h3:=fun K=>by
  unfold mkSl
  rw [zd (dT (by omega)), zd (dT (by omega)), zd (dT (by omega)), zd (dT (by omega)), zd (show [V.int IntKind.i64 0].all oneV = true from rfl)]
  rfl
 rw [hmk]
 refine (ld4 gq _).trans ?_
 exact e' α (k + 1) _ (by omega)
def ofL (l:List Int):Nat:=l.foldl wth 0
theorem ofL_lt (l:List Int):ofL l < FS:=by
 unfold ofL
 have:∀ (l:List Int) (S:Nat), S < FS->l.foldl wth S < FS:=by
  intro l
  induction l with
  | nil=>intro S hS; exact hS
  | cons a l ih=>intro S hS; exact ih _ (zkk hS a)
 exact this l 0 (by decide)
theorem of_loop (k:Nat) {s:Sl} {l:List Int} {p q:Nat}:∀ (n i:Nat) (S:Nat) (h:H), i + n = l.length->l.length < 1000000->Rd h s 1 (l.flatMap cI)->q ≠ p->q < h.next ->
  (∀ a, s.ad = some a->a.id ≠ q)->h.get q = some (c4 (wi S 0) (wi S 1) (wi S 2) (wi S 3))->S < FS ->
  ∃ h', h'.get q = some (c4 (wi ((l.drop i).foldl wth S) 0) (wi ((l.drop i).foldl wth S) 1) (wi ((l.drop i).foldl wth S) 2) (wi ((l.drop i).foldl wth S) 3)) ∧ h.next≤h'.next ∧ (∀ j, j < h.next->j ≠ q->h'.get j = h.get j) ∧
   ∀ (α:Type) (m:Nat) (kx:Ad->Ad->M α), n < m->qm.u4.l (k + 1) kx m ⟨p, 0⟩ ⟨q, 0⟩ s (l.length:Int) (i:Int) h = kx ⟨p, 0⟩ ⟨q, 0⟩ h':=by
 intro n
 induction n with
 | zero=>
  intro i S h hi hl r hp hqn hs hq hS
  refine ⟨h, by rw [List.drop_of_length_le (by omega)]; exact hq, Nat.le_refl _, fun _ _ _=>rfl, fun α m kx hm=>?_⟩
  obtain ⟨m, rfl⟩:∃ q, m = q + 1:=⟨m - 1, by omega⟩
  rw [qm.u4.l, qm.u3.f, dF (by omega), cond_false]
 | succ n ih=>
  intro i S h hi hl r hp hqn hs hq hS
  obtain ⟨v, hv, hd, hlt⟩:∃ v, l[i]? = some v ∧ l.drop i = v :: l.drop (i + 1) ∧ i < l.length:=by
   rcases idec (l:=l) (j:=i) (by omega) with ⟨m, h1, h2, h3⟩ | ⟨_, h2⟩
   ·exact ⟨m, h1, h2, h3⟩
   ·omega
  obtain ⟨h1, x1, e1⟩:=zhx (h:=h) k S v
  let U:=wth S v
  let h2:=h1.put q (some (c4 (wi U 0) (wi U 1) (wi U 2) (wi U 3)))
  have hq1:h1.get q = some (c4 (wi S 0) (wi S 1) (wi S 2) (wi S 3)):=by rw [x1.2 q hqn]; exact hq
  have r2:Rd h2 s 1 (l.flatMap cI):=by
   refine r.keep ?_ ?_
   ·exact x1.1
   ·intro a ha
    rw [show h2.get a.id = h1.get a.id from zo _ _ (hs a ha), x1.2 _ ((r.row a ha).2)]
  obtain ⟨h', g', n', k', e'⟩:=ih (i + 1) U h2 (by omega) hl r2 hp (Nat.lt_of_lt_of_le hqn x1.1) hs (zh _ _ _) (zkk hS v)
  refine ⟨h', by rw [hd]; exact g', Nat.le_trans x1.1 n', fun j hj hne=>(k' j (Nat.lt_of_lt_of_le hj x1.1) hne).trans ((zo _ _ hne).trans (x1.2 j hj)), fun α m kx hm=>?_⟩
  obtain ⟨m, rfl⟩:∃ q, m = q + 1:=⟨m - 1, by omega⟩
  rw [qm.u4.l, qm.u3.f, dT (by omega), cond_true, jy r rfl hv]
  refine (ld4 hq _).trans ?_
  rw [e1]
  refine (st4 ⟨_, _, _, _, hq1⟩ _).trans ?_
  rw [nxt (by omega)]
  exact e' α m kx (by omega)
theorem Of_run (k:Nat) {s:Sl} {l:List Int} (r:Rd h s 1 (l.flatMap cI)) (hl:l.length < 1000000) (hk:l.length + 2 < k):∃ h', Ext h h' ∧ ∀ (α:Type) (ret:Int->Int->Int->Int->M α),
  qm.f (k + 1) s ret h = ret (wi (ofL l) 0) (wi (ofL l) 1) (wi (ofL l) 2) (wi (ofL l) 3) h':=by
 obtain ⟨k, rfl⟩:∃ m, k = m + 1:=⟨k - 1, by omega⟩
 let h2:=(h.push (c4 0 0 0 0)).push (c4 0 0 0 0)
 have g0:h2.get h.next = some (c4 0 0 0 0):=by simp only [h2, zw, zm]; (repeat rw [if_neg (by omega)]); simp
 have g1:h2.get (h.next + 1) = some (c4 0 0 0 0):=by simp only [h2, zw, zm]; simp
 have x2:Ext h h2:=((Ext.refl h).push _).push _
 have hn2:h2.next = h.next + 2:=rfl
 obtain ⟨h3, q3, n3, k3, e3⟩:=of_loop k (l:=l) (p:=h.next) (q:=h.next + 1) l.length 0 0 h2 (by omega) hl (r.ext x2) (by omega) (by omega) (fun a ha=>by have:=(r.row a ha).2; omega) g1 (by decide)
 rw [List.drop_zero] at q3
 refine ⟨h3.put h.next (some (c4 (wi (ofL l) 0) (wi (ofL l) 1) (wi (ofL l) 2) (wi (ofL l) 3))), ?_, fun α ret=>?_⟩
 ·have x3:Ext h h3:=⟨by omega, fun i hi=>(k3 i (by omega) (by omega)).trans (x2.2 i hi)⟩
  exact x3.put _ (Nat.le_refl _)
 ·rw [qm.f]
  unfold qm.u9.f qm.u1.f
  rw [new4, new4]
  have hlen:(s.len:Int) = (l.length:Int):=by rw [ilen r]
  show qm.u4.l (k + 1) _ (k + 1) ⟨h.next, 0⟩ ⟨h.next + 1, 0⟩ s (s.len:Int) 0 h2 = _
  rw [hlen]
  refine (e3 α (k + 1) _ (by omega)).trans ?_
  unfold qm.u7.f
  refine (cp4 q3 ⟨0, 0, 0, 0, by rw [k3 _ (by omega) (by omega)]; exact g0⟩ _).trans ?_
  exact ld4 (zh _ _ _) _
end Go.Ab.S9
namespace Go.Ab.S9
variable {α:Type} {h:H}
abbrev Q (h:H) (q S:Nat):Prop:=h.get q = some (c4 (wi S 0) (wi S 1) (wi S 2) (wi S 3))
theorem zjg (v:Int):Rd (h.push (.cells [.int .i64 v] true)) ⟨some ⟨h.next, 0⟩, 1, 1, none⟩ 1 ([v].flatMap cI):=by
 refine ⟨rfl, fun a ha=>?_, fun ha=>by cases ha⟩
 cases ha
 exact ⟨(zao (je h _) (by simp [cI])).trans rfl, Nat.lt_succ_self _⟩
theorem wth_one (v:Int):ofL [v] = wth 0 v:=rfl
def topF (pr:List Int):List Int->Int->Nat->Int × Nat
 | [], hi, S=>(hi, S)
 | v :: l, hi, S=>if hi < pr.getD v.toNat 0 then topF pr l (pr.getD v.toNat 0) (wth 0 v) else if pr.getD v.toNat 0 = hi then topF pr l hi (wth S v) else topF pr l hi S
theorem top_loop (k:Nat) (hk:5 < k) {sl o p m:Sl} {L pr:List Int} {g q x:Nat} (hL:∀ v ∈ L, ∃ j:Nat, v = (j:Int) ∧ j < pr.length):∀ (n i:Nat) (hi:Int) (S:Nat) (h:H), i + n = L.length->L.length < 1000000 ->
  Rd h sl 1 (L.flatMap cI)->Rd h p 1 (pr.flatMap cI)->h.get g = some (gC o p m)->Q h q S->S < FS->q < h.next->g < h.next->g ≠ q->(∀ a, sl.ad = some a->a.id ≠ q)->(∀ a, p.ad = some a->a.id ≠ q) ->
  ∃ h', Q h' q (topF pr (L.drop i) hi S).2 ∧ (topF pr (L.drop i) hi S).2 < FS ∧ h.next≤h'.next ∧ (∀ j, j < h.next->j ≠ q->h'.get j = h.get j) ∧
   ∀ (α:Type) (m:Nat) (kx:Ad->Ad->M α), n < m->qg.u4.l (k + 1) kx m ⟨g, 0⟩ ⟨x, 0⟩ hi ⟨q, 0⟩ sl (L.length:Int) (i:Int) h = kx ⟨x, 0⟩ ⟨q, 0⟩ h':=by
 intro n
 induction n with
 | zero=>
  intro i hi S h hi' hl r rp hg hq hS hqn hgn hne hs hp
  rw [List.drop_of_length_le (by omega)]
  refine ⟨h, hq, hS, Nat.le_refl _, fun _ _ _=>rfl, fun α m kx hm=>?_⟩
  obtain ⟨m, rfl⟩:∃ q, m = q + 1:=⟨m - 1, by omega⟩
  rw [qg.u4.l, qg.u3.f, dF (by omega), cond_false]
 | succ n ih=>
  intro i hi S h hi' hl r rp hg hq hS hqn hgn hne hs hp
  obtain ⟨v, hv, hd, hlt⟩:∃ v, L[i]? = some v ∧ L.drop i = v :: L.drop (i + 1) ∧ i < L.length:=by
   rcases idec (l:=L) (j:=i) (by omega) with ⟨m, h1, h2, h3⟩ | ⟨_, h2⟩
   ·exact ⟨m, h1, h2, h3⟩
   ·omega
  obtain ⟨j, rfl, hj⟩:=hL v (List.mem_of_getElem? hv)
  have hpj:pr[j]? = some (pr.getD j 0):=by rw [List.getD_eq_getElem?_getD, List.getElem?_eq_getElem hj]; rfl
  rw [hd]
  -- how all go on from a heap that differs at q alone
  have go:∀ (h2:H) (hi2:Int) (S2:Nat), h.next≤h2.next->(∀ j, j < h.next->j ≠ q->h2.get j = h.get j)->Q h2 q S2->S2 < FS ->
    ∃ h', Q h' q (topF pr (L.drop (i + 1)) hi2 S2).2 ∧ (topF pr (L.drop (i + 1)) hi2 S2).2 < FS ∧ h.next≤h'.next ∧ (∀ j, j < h.next->j ≠ q->h'.get j = h.get j) ∧
     ∀ (α:Type) (m:Nat) (kx:Ad->Ad->M α), n < m->qg.u4.l (k + 1) kx m ⟨g, 0⟩ ⟨x, 0⟩ hi2 ⟨q, 0⟩ sl (L.length:Int) (w64 ((i:Int) + 1)) h2 = kx ⟨x, 0⟩ ⟨q, 0⟩ h':=by
   intro h2 hi2 S2 hn2 hk2 hq2 hS2
   obtain ⟨h', e1, e2, e3, e4, e5⟩:=ih (i + 1) hi2 S2 h2 (by omega) hl (r.keep hn2 fun a ha=>hk2 _ (r.row a ha).2 (hs a ha)) (rp.keep hn2 fun a ha=>hk2 _ (rp.row a ha).2 (hp a ha)) (by rw [hk2 g hgn hne]; exact hg) hq2 hS2 (by omega) (by omega) hne hs hp
   exact ⟨h', e1, e2, Nat.le_trans hn2 e3, fun j hj hjq=>(e4 j (by omega) hjq).trans (hk2 j hj hjq), fun α m kx hm=>by rw [nxt (by omega)]; exact e5 α m kx hm⟩
  have start:∀ (α:Type) (m:Nat) (kx:Ad->Ad->M α), qg.u4.l (k + 1) kx (m + 1) ⟨g, 0⟩ ⟨x, 0⟩ hi ⟨q, 0⟩ sl (L.length:Int) (i:Int) h =
    (cond (decide (hi < pr.getD j 0)) (
     new [.int .i64 (j:Int)] fun r14=>
     qm.f (k + 1) (⟨some r14, 1, 1, none⟩:Sl) fun r15 r16 r17 r18=>
     st1 ((⟨q, 0⟩:Ad).add 0) (.int .u64 r15) <|
     st1 ((⟨q, 0⟩:Ad).add 1) (.int .u64 r16) <|
     st1 ((⟨q, 0⟩:Ad).add 2) (.int .u64 r17) <|
     st1 ((⟨q, 0⟩:Ad).add 3) (.int .u64 r18) <|
     qg.u4.l (k + 1) kx m ⟨g, 0⟩ ⟨x, 0⟩ (pr.getD j 0) ⟨q, 0⟩ sl (L.length:Int) (w64 ((i:Int) + 1))) (
     cond (decide (pr.getD j 0 = hi)) (
      ldI .u64 ((⟨q, 0⟩:Ad).add 0) fun x19=>
      ldI .u64 ((⟨q, 0⟩:Ad).add 1) fun x20=>
      ldI .u64 ((⟨q, 0⟩:Ad).add 2) fun x21=>
      ldI .u64 ((⟨q, 0⟩:Ad).add 3) fun x22=>
      qy.f (k + 1) x19 x20 x21 x22 (j:Int) fun r23 r24 r25 r26=>
      st1 ((⟨q, 0⟩:Ad).add 0) (.int .u64 r23) <|
      st1 ((⟨q, 0⟩:Ad).add 1) (.int .u64 r24) <|
      st1 ((⟨q, 0⟩:Ad).add 2) (.int .u64 r25) <|
      st1 ((⟨q, 0⟩:Ad).add 3) (.int .u64 r26) <|
      qg.u4.l (k + 1) kx m ⟨g, 0⟩ ⟨x, 0⟩ hi ⟨q, 0⟩ sl (L.length:Int) (w64 ((i:Int) + 1))) (
      qg.u4.l (k + 1) kx m ⟨g, 0⟩ ⟨x, 0⟩ hi ⟨q, 0⟩ sl (L.length:Int) (w64 ((i:Int) + 1))))) h:=fun α m kx=>by
   rw [qg.u4.l, qg.u3.f, dT (by omega), cond_true, jy r rfl hv, g_p hg, jy rp rfl hpj]
  unfold topF
  rw [Int.toNat_natCast]
  by_cases c1:hi < pr.getD j 0
  ·rw [if_pos c1]
   have x1:Ext h (h.push (.cells [.int .i64 (j:Int)] true)):=(Ext.refl h).push _
   obtain ⟨h2, x2, e2⟩:=Of_run (h:=h.push (.cells [.int .i64 (j:Int)] true)) k (zjg (j:Int)) (by show 1 < 1000000; decide) (by show 1 + 2 < k; omega)
   rw [wth_one] at e2
   have x:=x1.trans x2
   have hq2:Q h2 q S:=by show h2.get q = _; rw [x.2 q hqn]; exact hq
   obtain ⟨h', e3, e4, e5, e6, e7⟩:=go (h2.put q (some (c4 (wi (wth 0 (j:Int)) 0) (wi (wth 0 (j:Int)) 1) (wi (wth 0 (j:Int)) 2) (wi (wth 0 (j:Int)) 3)))) (pr.getD j 0) (wth 0 (j:Int)) x.1 (fun i hi hq=>(zo _ _ hq).trans (x.2 i hi)) (zh _ _ _) (zkk (by decide) _)
   refine ⟨h', e3, e4, e5, e6, fun α m kx hm=>?_⟩
   obtain ⟨m, rfl⟩:∃ q, m = q + 1:=⟨m - 1, by omega⟩
   rw [start, dT c1, cond_true, jl rfl, e2]
   refine (st4 ⟨_, _, _, _, hq2⟩ _).trans ?_
   exact e7 α m kx (by omega)
  ·rw [if_neg c1]
   by_cases c2:pr.getD j 0 = hi
   ·rw [if_pos c2]
    obtain ⟨h2, x, e2⟩:=zhx (h:=h) k S (j:Int)
    have hq2:Q h2 q S:=by show h2.get q = _; rw [x.2 q hqn]; exact hq
    obtain ⟨h', e3, e4, e5, e6, e7⟩:=go (h2.put q (some (c4 (wi (wth S (j:Int)) 0) (wi (wth S (j:Int)) 1) (wi (wth S (j:Int)) 2) (wi (wth S (j:Int)) 3)))) hi (wth S (j:Int)) x.1 (fun i hi hq=>(zo _ _ hq).trans (x.2 i hi)) (zh _ _ _) (zkk hS _)
    refine ⟨h', e3, e4, e5, e6, fun α m kx hm=>?_⟩
    obtain ⟨m, rfl⟩:∃ q, m = q + 1:=⟨m - 1, by omega⟩
    rw [start, dF c1, cond_false, dT c2, cond_true]
    refine (ld4 hq _).trans ?_
    rw [e2]
    refine (st4 ⟨_, _, _, _, hq2⟩ _).trans ?_
    exact e7 α m kx (by omega)
   ·rw [if_neg c2]
    obtain ⟨h', e3, e4, e5, e6, e7⟩:=go h hi S (Nat.le_refl _) (fun _ _ _=>rfl) hq hS
    refine ⟨h', e3, e4, e5, e6, fun α m kx hm=>?_⟩
    obtain ⟨m, rfl⟩:∃ q, m = q + 1:=⟨m - 1, by omega⟩
    rw [start, dF c1, cond_false, dF c2, cond_false]
    exact e7 α m kx (by omega)
theorem top_run (k:Nat) (hk:300 < k) {o p m:Sl} {pr:List Int} {U:Nat} (rp:Rd h p 1 (pr.flatMap cI)) (hU:U < 2 ^ pr.length) :
  ∃ h', (topF pr (bl U 256) (-1) 0).2 < FS ∧ Ext h h' ∧ ∀ (α:Type) (ret:Int->Int->Int->Int->M α),
   qg.f (k + 1) o p m (wi U 0) (wi U 1) (wi U 2) (wi U 3) ret h = ret (wi (topF pr (bl U 256) (-1) 0).2 0) (wi (topF pr (bl U 256) (-1) 0).2 1) (wi (topF pr (bl U 256) (-1) 0).2 2) (wi (topF pr (bl U 256) (-1) 0).2 3) h':=by
 obtain ⟨k, rfl⟩:∃ m, k = m + 1:=⟨k - 1, by omega⟩
 let h4:=(((h.push (.cells [.slice o, .slice p, .slice m] true)).push (c4 (wi U 0) (wi U 1) (wi U 2) (wi U 3))).push (c4 0 0 0 0)).push (c4 0 0 0 0)
 have n4:h4.next = h.next + 4:=rfl
 have g0:h4.get h.next = some (gC o p m):=by simp only [h4, zw, zm]; (repeat rw [if_neg (by omega)]); simp
 have g1:h4.get (h.next + 1) = some (c4 (wi U 0) (wi U 1) (wi U 2) (wi U 3)):=by simp only [h4, zw, zm]; (repeat rw [if_neg (by omega)]); simp
 have g2:h4.get (h.next + 2) = some (c4 0 0 0 0):=by simp only [h4, zw, zm]; (repeat rw [if_neg (by omega)]); simp
 have g3:h4.get (h.next + 3) = some (c4 0 0 0 0):=by simp only [h4, zw, zm]; simp
 have x4:Ext h h4:=((((Ext.refl h).push _).push _).push _).push _
 obtain ⟨s5, h5, r5, x5, e5⟩:=zcs (h:=h4) k (by omega) U
 have x:=x4.trans x5
 have hb5:=r5.rd
 obtain ⟨h6, q6, l6, n6, k6, e6⟩:=top_loop k (by omega) (sl:=s5) (o:=o) (p:=p) (m:=m) (L:=bl U 256) (pr:=pr) (g:=h.next) (q:=h.next + 3) (x:=h.next + 2) (fun v hv=>by
   obtain ⟨j, rfl, h1, h2⟩:=zkl.1 hv
   exact ⟨j, rfl, by
    rcases Nat.lt_or_ge j pr.length with hlt | hge
    ·exact hlt
    ·rw [zcn hU hge] at h2; cases h2⟩) (bl U 256).length 0 (-1) 0 h5 (by omega) (Nat.lt_of_le_of_lt (zfa _ _) (by omega)) r5.rd (rp.ext x) (by rw [x5.2 _ (by omega)]; exact g0) (by show h5.get _ = _; rw [x5.2 _ (by omega)]; exact g3) (by decide) (by have:=x5.1; omega) (by have:=x5.1; omega) (by omega)
  (fun a ha=>by have:=r5.old a ha; omega)
  (fun a ha=>by have:=(rp.row a ha).2; omega)
 rw [List.drop_zero] at q6 l6
 refine ⟨h6.put (h.next + 2) (some (c4 (wi (topF pr (bl U 256) (-1) 0).2 0) (wi (topF pr (bl U 256) (-1) 0).2 1) (wi (topF pr (bl U 256) (-1) 0).2 2) (wi (topF pr (bl U 256) (-1) 0).2 3))), l6, ?_, fun α ret=>?_⟩
 ·have x6:Ext h h6:=⟨by have:=x.1; omega, fun i hi=>(k6 i (by have:=x.1; omega) (by omega)).trans (x.2 i hi)⟩
  exact x6.put _ (by omega)
 ·rw [qg.f]
  unfold qg.u9.f qg.u1.f
  rw [jl rfl, new4, new4, new4]
  show qg.u8.f (k + 1) ⟨h.next, 0⟩ ⟨h.next + 1, 0⟩ ⟨h.next + 2, 0⟩ (-1) ⟨h.next + 3, 0⟩ _ h4 = _
  unfold qg.u8.f qg.u6.f qg.u2.f
  refine (ld4 g1 _).trans ?_
  rw [e5]
  have hlen:(s5.len:Int) = ((bl U 256).length:Int):=by rw [r5.len]
  show qg.u4.l (k + 1) _ (k + 1) ⟨h.next, 0⟩ ⟨h.next + 2, 0⟩ (-1) ⟨h.next + 3, 0⟩ s5 (s5.len:Int) 0 h5 = _
  rw [hlen]
  refine (e6 α (k + 1) _ (by have:=zfa U 256; omega)).trans ?_
  unfold qg.u7.f
  refine (cp4 q6 ⟨0, 0, 0, 0, by rw [k6 _ (by have:=x5.1; omega) (by omega), x5.2 _ (by omega)]; exact g2⟩ _).trans ?_
  exact ld4 (zh _ _ _) _
end Go.Ab.S9
namespace Go.Ab.S9
variable {α:Type} {h:H}
def ints (l:List Nat):List Int:=l.map fun (x:Nat)=>(x:Int)
theorem yp (l:List Nat):(ints l).length = l.length:=List.length_map ..
theorem zcw {l:List Nat} {t m:Nat} (hm:l[t]? = some m):(ints l)[t]? = some (m:Int):=by unfold ints; rw [List.getElem?_map, hm]; rfl
theorem zlg (l:List Nat) (v:Nat):ints (l ++ [v]) = ints l ++ [(v:Int)]:=by unfold ints; rw [List.map_append]; rfl
theorem zak (I m:Nat):hasN I (m:Int) = I.testBit m:=by unfold hasN; rw [dT (by omega)]; rfl
theorem sl_st {s:Sl} {l:List Sl} (o:Own h s 1 (l.flatMap cSl)) {x:Int} {i:Nat} (v:Sl) (hx:x = (i:Int)) (hi:i < l.length) :
  ∃ h', (∀ (α:Type) (K:M α), idxSl s x 1 (fun a=>st1 (a.add 0) (.slice v) K) h = K h') ∧ Own h' s 1 ((l.set i v).flatMap cSl) ∧ h'.next = h.next ∧ ∀ i, i ≠ s.id->h'.get i = h.get i:=by
 obtain ⟨h', e, o', k⟩:=own_st o (n:=i * 1 + 0) (v:=.slice v) rfl (by rw [zbi (c:=cSl) (size:=1) (fun _=>rfl)]; omega)
 refine ⟨h', fun α K=>?_, ?_, k⟩
 ·rw [zei o.rd hx (by rw [slen (c:=cSl) (size:=1) (fun _=>rfl) (by decide) o.rd]; exact hi), zgy]
  exact e α K
 ·have:∀ (l:List Sl) (i:Nat), (l.flatMap cSl).set (i * 1 + 0) (.slice v) = (l.set i v).flatMap cSl:=by
   intro l
   induction l with
   | nil=>intro i; rfl
   | cons x l ih=>
    intro i
    cases i with
    | zero=>rfl
    | succ i=>
     have:=ih i
     simp only [Nat.mul_one, Nat.add_zero] at this ⊢
     rw [List.flatMap_cons, List.set_cons_succ, List.flatMap_cons, ← this]
     rfl
  rw [← this]; exact o'
theorem Own.idlt {s:Sl} {size:Nat} {cs:List V} (o:Own h s size cs):s.id < h.next:=by
 obtain ⟨id, more, h1, h2, h3⟩:=o.blk
 unfold Sl.id; rw [h1]; exact h3
structure P1 (h₀ h:H) (b n:Nat) (fs ls ms:Sl) (R:List (List Nat)) (L mo:List Int):Prop where
 ext:Ext h₀ h
 bn:b≤h.next
 f1:h₀.next≤fs.id
 f2:fs.id < b
 l1:h₀.next≤ls.id
 l2:ls.id < b
 m1:h₀.next≤ms.id
 m2:ms.id < b
 ne1:fs.id ≠ ls.id
 ne2:fs.id ≠ ms.id
 ne3:ls.id ≠ ms.id
 n1:R.length = n
 n2:L.length = n
 n3:mo.length = n
 fo:∃ sls:List Sl, sls.length = n ∧ Own h fs 1 (sls.flatMap cSl) ∧ (∀ (i:Nat) (s:Sl) (l:List Nat), sls[i]? = some s->R[i]? = some l->Gr h b s (ints l)) ∧
  ∀ (i j:Nat) (s s':Sl) (a a':Ad), i ≠ j->sls[i]? = some s->sls[j]? = some s'->s.ad = some a->s'.ad = some a'->a.id ≠ a'.id
 lo:Own h ls 1 (L.flatMap cI)
 mo:Own h ms 1 (mo.flatMap cI)
section
variable {h₀:H} {b n:Nat} {fs ls ms:Sl} {R:List (List Nat)} {L mo:List Int}
theorem P1.b0 (P:P1 h₀ h b n fs ls ms R L mo):h₀.next < b:=Nat.lt_of_le_of_lt P.f1 P.f2
theorem P1.push (P:P1 h₀ h b n fs ls ms R L mo) {h':H} (x:Ext h h'):P1 h₀ h' b n fs ls ms R L mo:=
 { P with
  ext:=P.ext.trans x
  bn:=Nat.le_trans P.bn x.1
  fo:=by
   obtain ⟨sls, a1, a2, a3, a4⟩:=P.fo
   exact ⟨sls, a1, a2.ext x, fun i s l h1 h2=>(a3 i s l h1 h2).ext x, a4⟩
  lo:=P.lo.ext x
  mo:=P.mo.ext x }
theorem P1.fo_keep (P:P1 h₀ h b n fs ls ms R L mo) {h':H} {q:Nat} (hq:q < b) (hf:q ≠ fs.id) (hn:h'.next = h.next) (hg:∀ i, i ≠ q->h'.get i = h.get i) :
  ∃ sls:List Sl, sls.length = n ∧ Own h' fs 1 (sls.flatMap cSl) ∧ (∀ (i:Nat) (s:Sl) (l:List Nat), sls[i]? = some s->R[i]? = some l->Gr h' b s (ints l)) ∧
   ∀ (i j:Nat) (s s':Sl) (a a':Ad), i ≠ j->sls[i]? = some s->sls[j]? = some s'->s.ad = some a->s'.ad = some a'->a.id ≠ a'.id:=by
 obtain ⟨sls, a1, a2, a3, a4⟩:=P.fo
 refine ⟨sls, a1, a2.keep (by omega) (hg _ (Ne.symm hf)), fun i s l h1 h2=>(a3 i s l h1 h2).keep (by omega) fun a ha=>hg _ ?_, a4⟩
 have:=(a3 i s l h1 h2).old a ha
 omega
theorem P1.stm (P:P1 h₀ h b n fs ls ms R L mo) {i:Nat} (v:Int) {x:Int} (hx:x = (i:Int)) (hi:i < n) :
  ∃ h', (∀ (α:Type) (K:M α), idxSl ms x 1 (fun a=>st1 (a.add 0) (.int .i64 v) K) h = K h') ∧ P1 h₀ h' b n fs ls ms R L (mo.set i v):=by
 obtain ⟨h', e, o, n', g⟩:=zdx P.mo v hx (by rw [P.n3]; exact hi)
 exact ⟨h', e, { P with
  ext:=⟨by have:=P.ext.1; omega, fun j hj=>(g j (by have:=P.m1; omega)).trans (P.ext.2 j hj)⟩
  bn:=by have:=P.bn; omega
  n3:=by rw [List.length_set]; exact P.n3
  fo:=P.fo_keep P.m2 (Ne.symm P.ne2) n' g
  lo:=P.lo.keep (by omega) (g _ P.ne3)
  mo:=o }⟩
theorem P1.stl (P:P1 h₀ h b n fs ls ms R L mo) {i:Nat} (v:Int) {x:Int} (hx:x = (i:Int)) (hi:i < n) :
  ∃ h', (∀ (α:Type) (K:M α), idxSl ls x 1 (fun a=>st1 (a.add 0) (.int .i64 v) K) h = K h') ∧ P1 h₀ h' b n fs ls ms R (L.set i v) mo:=by
 obtain ⟨h', e, o, n', g⟩:=zdx P.lo v hx (by rw [P.n2]; exact hi)
 exact ⟨h', e, { P with
  ext:=⟨by have:=P.ext.1; omega, fun j hj=>(g j (by have:=P.l1; omega)).trans (P.ext.2 j hj)⟩
  bn:=by have:=P.bn; omega
  n2:=by rw [List.length_set]; exact P.n2
  fo:=P.fo_keep P.l2 (Ne.symm P.ne1) n' g
  lo:=o
  mo:=P.mo.keep (by omega) (g _ (Ne.symm P.ne3)) }⟩
theorem P1.ldl (P:P1 h₀ h b n fs ls ms R L mo) {i:Nat} {x:Int} (hx:x = (i:Int)) (hi:i < n) (K:Int->M α):idxSl ls x 1 (fun a=>ldI .i64 (a.add 0) K) h = K (L.getD i 0) h:=by
 refine jy P.lo.rd hx ?_ K
 rw [List.getD_eq_getElem?_getD, List.getElem?_eq_getElem (by rw [P.n2]; exact hi)]; rfl
theorem P1.app (P:P1 h₀ h b n fs ls ms R L mo) {m i:Nat} {x:Int} (hx:x = (m:Int)) (hm:m < n) (hB:(R.getD m []).length≤1000000) :
  ∃ h', (∀ (α:Type) (K:M α), (idxSl fs x 1 fun a23=>ldS (a23.add 0) fun x24=>new [.int .i64 (i:Int)] fun r25=>yr x24 1 8 (⟨some r25, 1, 1, none⟩:Sl) fun x26=>
    idxSl fs x 1 fun a27=>st1 (a27.add 0) (.slice x26) K) h = K h') ∧ P1 h₀ h' b n fs ls ms (R.set m (R.getD m [] ++ [i])) L mo:=by
 obtain ⟨sls, a1, a2, a3, a4⟩:=P.fo
 have hs:sls[m]? = some (sls[m]'(by omega)):=List.getElem?_eq_getElem (by omega)
 generalize sls[m]'(by omega) = s at hs
 have hr:R[m]? = some (R.getD m []):=by rw [List.getD_eq_getElem?_getD, List.getElem?_eq_getElem (by rw [P.n1]; exact hm)]; rfl
 have g:=a3 m s _ hs hr
 obtain ⟨s1, h1, e1, g1, n1, k1, i1⟩:=g.app1 (i:Int) P.bn (by rw [yp]; exact hB)
 rw [← zlg] at g1
 have b1:∀ a, s.ad = some a->b≤a.id:=g.old
 have keep1:∀ j, j < b->h1.get j = h.get j:=fun j hj=>k1 j (Nat.lt_of_lt_of_le hj P.bn) fun a ha hb=>by omega
 have o1:Own h1 fs 1 (sls.flatMap cSl):=a2.keep n1 (keep1 _ P.f2)
 obtain ⟨h2, e2, o2, n2, k2⟩:=sl_st o1 s1 hx (by rw [a1]; exact hm)
 have hid:fs.id < b:=P.f2
 refine ⟨h2, fun α K=>?_, { P with
  ext:=⟨by have:=P.ext.1; omega, fun j hj=>(k2 j (by have:=P.f1; omega)).trans ((keep1 j (by have:=P.b0; omega)).trans (P.ext.2 j hj))⟩
  bn:=by have:=P.bn; omega
  n1:=by rw [List.length_set]; exact P.n1
  lo:=P.lo.keep (by omega) ((k2 _ (Ne.symm P.ne1)).trans (keep1 _ P.l2))
  mo:=P.mo.keep (by omega) ((k2 _ (Ne.symm P.ne2)).trans (keep1 _ P.m2))
  fo:=⟨sls.set m s1, by rw [List.length_set]; exact a1, o2, fun j s' l hj hl=>?_, fun j j' s' s'' a a' hne hj hj' ha ha'=>?_⟩ }⟩
 ·rw [zei a2.rd hx (by rw [zgn (c:=cSl) (fun _=>rfl) a2.rd]; omega), zgy]
  have hcell:=zce (c:=cSl) (size:=1) (fun _=>rfl) sls m s 0 hs (by decide)
  rw [Rd.ldS a2.rd (n:=m * 1 + 0) (by rw [hcell]; rfl)]
  refine (e1 α _).trans ?_
  exact e2 α K
 ·by_cases e:j = m
  ·subst e
   rw [List.getElem?_set_self (by omega)] at hj
   rw [List.getElem?_set_self (by rw [P.n1]; exact hm)] at hl
   cases hj; cases hl
   exact g1.keep (by omega) fun a ha=>k2 _ (by have:=g1.old a ha; omega)
  ·rw [List.getElem?_set_ne (Ne.symm e)] at hj hl
   have gj:=a3 j s' l hj hl
   refine gj.keep (by omega) fun a ha=>?_
   have hba:=gj.old a ha
   rw [k2 _ (by omega), k1 _ (gj.rd.row a ha).2 fun a' ha' _=>a4 j m s' s a a' e hj hs ha ha']
 ·-- no two rows share a block
  have new:∀ (j:Nat) (s':Sl) (a a':Ad), j ≠ m->sls[j]? = some s'->s'.ad = some a->s1.ad = some a'->a.id ≠ a'.id:=fun j s' a a' hjm hj ha ha'=>by
   rcases i1 a' ha' with ⟨a'', h3, h4⟩ | h3
   ·rw [← h4]; exact a4 j m s' s a a'' hjm hj hs ha h3
   ·have hl:∃ l, R[j]? = some l:=⟨_, List.getElem?_eq_getElem (by rw [P.n1, ← a1]; exact yy hj)⟩
    obtain ⟨l, hl⟩:=hl
    have:=((a3 j s' l hj hl).rd.row a ha).2
    omega
  by_cases e:j = m
  ·subst e
   rw [List.getElem?_set_self (by omega)] at hj
   rw [List.getElem?_set_ne hne] at hj'
   cases hj
   exact (new j' s'' a' a (Ne.symm hne) hj' ha' ha).symm
  ·rw [List.getElem?_set_ne (Ne.symm e)] at hj
   by_cases e':j' = m
   ·subst e'
    rw [List.getElem?_set_self (by omega)] at hj'
    cases hj'
    exact new j s' a a' e hj ha ha'
   ·rw [List.getElem?_set_ne (Ne.symm e')] at hj'
    exact a4 j j' s' s'' a a' hne hj hj' ha ha'
end
end Go.Ab.S9
namespace Go.Ab.S9
variable {α:Type} {h:H}
def in1F (I i:Nat):List Nat->List (List Nat)->List Int->List (List Nat) × List Int
 | [], R, L=>(R, L)
 | m :: l, R, L=>if I.testBit m = true then in1F I i l (R.set m (R.getD m [] ++ [i])) (L.set i (L.getD i 0 + 1)) else in1F I i l R L
def outF (I:Nat) (sv:Nat->List Nat):List Nat->List (List Nat)->List Int->List (List Nat) × List Int
 | [], R, L=>(R, L)
 | i :: is, R, L=>if I.testBit i = true then outF I sv is (in1F I i (sv i) R L).1 (in1F I i (sv i) R L).2 else outF I sv is R L
theorem zaj {β:Type} (l:List β) (i j:Nat) (v d:β):(l.set i v).getD j d = if i = j ∧ i < l.length then v else l.getD j d:=by
 rw [List.getD_eq_getElem?_getD, List.getD_eq_getElem?_getD]
 by_cases e:i = j
 ·subst e
  by_cases hi:i < l.length
  ·rw [if_pos ⟨rfl, hi⟩, List.getElem?_set_self hi]; rfl
  ·rw [if_neg (fun h=>hi h.2), List.getElem?_eq_none (by rw [List.length_set]; omega), List.getElem?_eq_none (by omega)]
 ·rw [if_neg (fun h=>e h.1), List.getElem?_set_ne e]
section
variable {h₀:H} {b n:Nat} {fs ls ms:Sl}
theorem in_loop (k:Nat) {q I i gq:Nat} {t1 x4:Ad} {sl:Sl} {l:List Nat} {mo:List Int} {pp nn ii:Int} (hq:Q h₀ q I) (hqn:q < h₀.next) (hI:I < FS) (r:Rd h₀ sl 1 ((ints l).flatMap cI))
  (hl:∀ m ∈ l, m < n) (hin:i < n) (hll:l.length≤100000):∀ (c t B:Nat) (R:List (List Nat)) (L:List Int) (h:H), t + c = l.length->P1 h₀ h b n fs ls ms R L mo ->
   (∀ m, (R.getD m []).length≤B)->B + c≤1000000->(∃ v:Nat, L.getD i 0 = (v:Int) ∧ v≤t) ->
   ∃ h', P1 h₀ h' b n fs ls ms (in1F I i (l.drop t) R L).1 (in1F I i (l.drop t) R L).2 mo ∧ (∀ m, ((in1F I i (l.drop t) R L).1.getD m []).length≤B + c) ∧ (∀ j, j ≠ i->(in1F I i (l.drop t) R L).2.getD j 0 = L.getD j 0) ∧
    ∀ (α:Type) (mm:Nat) (kx:Int->Ad->Ad->Ad->Ad->Sl->Sl->Sl->Int->Int->M α), c < mm ->
     qa.u7.l (k + 1) kx mm pp ⟨gq, 0⟩ ⟨q, 0⟩ t1 x4 fs ls ms (i:Int) nn ii sl (l.length:Int) (t:Int) h = kx pp ⟨gq, 0⟩ ⟨q, 0⟩ t1 x4 fs ls ms nn ii h':=by
 intro c
 induction c with
 | zero=>
  intro t B R L h ht P hB hBc hv
  rw [List.drop_of_length_le (by omega)]
  refine ⟨h, P, hB, fun _ _=>rfl, fun α mm kx hm=>?_⟩
  obtain ⟨mm, rfl⟩:∃ q, mm = q + 1:=⟨mm - 1, by omega⟩
  rw [qa.u7.l, qa.u6.f, dF (by omega), cond_false]
 | succ c ih=>
  intro t B R L h ht P hB hBc hv
  obtain ⟨m, hm, hd, hlt⟩:∃ v, l[t]? = some v ∧ l.drop t = v :: l.drop (t + 1) ∧ t < l.length:=by
   rcases idec (l:=l) (j:=t) (by omega) with ⟨m, h1, h2, h3⟩ | ⟨_, h2⟩
   ·exact ⟨m, h1, h2, h3⟩
   ·omega
  have hmn:m < n:=hl m (List.mem_of_getElem? hm)
  obtain ⟨v, ev, hvt⟩:=hv
  obtain ⟨h1, x1, e1⟩:=zcj (h:=h) k hI (m:Int)
  have P1':=P.push x1
  have hq1:Q h q I:=by show h.get q = _; rw [P.ext.2 q hqn]; exact hq
  rw [hd]
  unfold in1F
  have start:∀ (α:Type) (mm:Nat) (kx:Int->Ad->Ad->Ad->Ad->Sl->Sl->Sl->Int->Int->M α),
    qa.u7.l (k + 1) kx (mm + 1) pp ⟨gq, 0⟩ ⟨q, 0⟩ t1 x4 fs ls ms (i:Int) nn ii sl (l.length:Int) (t:Int) h =
    (cond (I.testBit m) (
     idxSl fs (m:Int) 1 fun a23=>
     ldS (a23.add 0) fun x24=>
     new [.int .i64 (i:Int)] fun r25=>
     yr x24 1 8 (⟨some r25, 1, 1, none⟩:Sl) fun x26=>
     idxSl fs (m:Int) 1 fun a27=>
     st1 (a27.add 0) (.slice x26) <|
     idxSl ls (i:Int) 1 fun a28=>
     ldI .i64 (a28.add 0) fun x29=>
     idxSl ls (i:Int) 1 fun a30=>
     st1 (a30.add 0) (.int .i64 (w64 (x29 + 1))) <|
     qa.u7.l (k + 1) kx mm pp ⟨gq, 0⟩ ⟨q, 0⟩ t1 x4 fs ls ms (i:Int) nn ii sl (l.length:Int) (w64 ((t:Int) + 1))) (
     qa.u7.l (k + 1) kx mm pp ⟨gq, 0⟩ ⟨q, 0⟩ t1 x4 fs ls ms (i:Int) nn ii sl (l.length:Int) (w64 ((t:Int) + 1)))) h1:=fun α mm kx=>by
   rw [qa.u7.l, qa.u6.f, dT (by omega), cond_true, jy (r.ext P.ext) rfl (zcw hm)]
   refine (ld4 hq1 _).trans ?_
   rw [e1, zak]
  have tn:w64 ((t:Int) + 1) = ((t + 1:Nat):Int):=nxt (by omega)
  cases hb:I.testBit m with
  | false=>
   rw [if_neg (by decide)]
   obtain ⟨h', a1, a2, a4, a3⟩:=ih (t + 1) B R L h1 (by omega) P1' hB (by omega) ⟨v, ev, by omega⟩
   refine ⟨h', a1, fun m=>Nat.le_trans (a2 m) (by omega), a4, fun α mm kx hmm=>?_⟩
   obtain ⟨mm, rfl⟩:∃ q, mm = q + 1:=⟨mm - 1, by omega⟩
   rw [start, hb, cond_false, tn]
   exact a3 α mm kx (by omega)
  | true=>
   rw [if_pos rfl]
   obtain ⟨h2, e2, P2⟩:=P1'.app (i:=i) (x:=(m:Int)) rfl hmn (Nat.le_trans (hB m) (by omega))
   obtain ⟨h3, e3, P3⟩:=P2.stl (L.getD i 0 + 1) (x:=(i:Int)) rfl hin
   have hn2:=P.n2
   obtain ⟨h', a1, a2, a4, a3⟩:=ih (t + 1) (B + 1) _ _ h3 (by omega) P3 (fun m'=>by
    rw [zaj]
    split
    ·rw [List.length_append]; exact Nat.succ_le_succ (hB m)
    ·exact Nat.le_trans (hB m') (by omega)) (by omega) ⟨v + 1, by rw [zaj, if_pos ⟨rfl, by omega⟩, ev]; rfl, by omega⟩
   refine ⟨h', a1, fun m=>Nat.le_trans (a2 m) (by omega), fun j hj=>by rw [a4 j hj, zaj, if_neg (fun q=>hj q.1.symm)], fun α mm kx hmm=>?_⟩
   obtain ⟨mm, rfl⟩:∃ q, mm = q + 1:=⟨mm - 1, by omega⟩
   rw [start, hb, cond_true]
   refine (e2 α _).trans ?_
   rw [P2.ldl rfl hin, ev, yt (by omega) (by omega), ← ev]
   refine (e3 α _).trans ?_
   rw [tn]
   exact a3 α mm kx (by omega)
theorem out_loop (k:Nat) {q I gq:Nat} {t1 x4:Ad} {o p m:Sl} {g:Gm} {sv:Nat->List Nat} {rows:List Sl} {pp:Int} (hq:Q h₀ q I) (hqn:q < h₀.next) (hI:I < FS) (hgq:h₀.get gq = some (gC o p m)) (hgn:gq < h₀.next)
  (r:MvR h₀ m g.mv rows) (hmn:g.mv.length = n) (hsv:∀ i, i < n->g.mv[i]? = some (ints (sv i))) (hl:∀ i, i < n->∀ m ∈ sv i, m < n) (hll:∀ i, i < n->(sv i).length≤1000) (hn:n≤256) (hk:2000 < k) :
  ∀ (c i:Nat) (R:List (List Nat)) (L mo:List Int) (h:H), i + c = n->P1 h₀ h b n fs ls ms R L mo ->
   (∀ m, (R.getD m []).length≤1000 * i)->(∀ j, i≤j->L.getD j 0 = 0) ->
   ∃ h' mo', P1 h₀ h' b n fs ls ms (outF I sv (List.range' i c) R L).1 (outF I sv (List.range' i c) R L).2 mo' ∧ (∀ m, ((outF I sv (List.range' i c) R L).1.getD m []).length≤1000 * (i + c)) ∧
    ∀ (α:Type) (mm:Nat) (kx:Int->Ad->Ad->Ad->Ad->Sl->Sl->Sl->M α), c < mm ->
     qa.u14.l (k + 1) kx mm pp ⟨gq, 0⟩ ⟨q, 0⟩ t1 x4 fs ls ms (n:Int) (i:Int) h = kx pp ⟨gq, 0⟩ ⟨q, 0⟩ t1 x4 fs ls ms h':=by
 intro c
 induction c with
 | zero=>
  intro i R L mo h hi P hB hL
  refine ⟨h, mo, P, hB, fun α mm kx hm=>?_⟩
  obtain ⟨mm, rfl⟩:∃ q, mm = q + 1:=⟨mm - 1, by omega⟩
  rw [qa.u14.l]
  unfold qa.u13.f
  rw [qa.u4.f, dF (by omega), cond_false]
 | succ c ih=>
  intro i R L mo h hi P hB hL
  have hin:i < n:=by omega
  obtain ⟨h1, e1, Pa⟩:=P.stm (-1) (x:=(i:Int)) rfl hin
  obtain ⟨h2, x2, e2⟩:=zcj (h:=h1) k hI (i:Int)
  have Pb:=Pa.push x2
  have hq1:Q h1 q I:=by show h1.get q = _; rw [Pa.ext.2 q hqn]; exact hq
  have start:∀ (α:Type) (mm:Nat) (kx:Int->Ad->Ad->Ad->Ad->Sl->Sl->Sl->M α),
    qa.u14.l (k + 1) kx (mm + 1) pp ⟨gq, 0⟩ ⟨q, 0⟩ t1 x4 fs ls ms (n:Int) (i:Int) h =
    (cond (!(I.testBit i)) (qa.u14.l (k + 1) kx mm pp ⟨gq, 0⟩ ⟨q, 0⟩ t1 x4 fs ls ms (n:Int) (w64 ((i:Int) + 1)))
     (ldS (((⟨gq, 0⟩:Ad).add 2).add 0) fun x18=>idxSl x18 (i:Int) 1 fun a19=>ldS (a19.add 0) fun x20=>
      qa.u7.l (k + 1) (fun y0 y1 y2 y3 y4 y5 y6 y7 y8 y9=>qa.u14.l (k + 1) kx mm y0 y1 y2 y3 y4 y5 y6 y7 y8 (w64 (y9 + 1))) (k + 1) pp ⟨gq, 0⟩ ⟨q, 0⟩ t1 x4 fs ls ms (i:Int) (n:Int) (i:Int) x20 (x20.len:Int) 0)) h2:=fun α mm kx=>by
   rw [qa.u14.l]
   unfold qa.u13.f qa.u12.f qa.u10.f qa.u9.f
   rw [qa.u4.f, dT (by omega), cond_true, qa.u5.f]
   refine (e1 α _).trans ?_
   refine (ld4 hq1 _).trans ?_
   rw [e2, zak]
   rfl
  have tn:w64 ((i:Int) + 1) = ((i + 1:Nat):Int):=nxt (by omega)
  rw [List.range'_succ]
  unfold outF
  cases hb:I.testBit i with
  | false=>
   rw [if_neg (by decide)]
   obtain ⟨h', mo', a1, a9, a3⟩:=ih (i + 1) R L _ h2 (by omega) Pb (fun m=>Nat.le_trans (hB m) (by omega)) (fun j hj=>hL j (by omega))
   refine ⟨h', mo', a1, fun m=>Nat.le_trans (a9 m) (by omega), fun α mm kx hmm=>?_⟩
   obtain ⟨mm, rfl⟩:∃ q, mm = q + 1:=⟨mm - 1, by omega⟩
   rw [start, hb]
   show qa.u14.l (k + 1) kx mm pp ⟨gq, 0⟩ ⟨q, 0⟩ t1 x4 fs ls ms (n:Int) (w64 ((i:Int) + 1)) h2 = _
   rw [tn]
   exact a3 α mm kx (by omega)
  | true=>
   rw [if_pos rfl]
   have r2:=r.ext Pb.ext
   obtain ⟨sl, rs, rs2, er⟩:=zio r (hsv i hin)
   obtain ⟨sl', rs', rs2', er'⟩:=zio r2 (hsv i hin)
   have hsl:sl' = sl:=Option.some.inj (rs2'.symm.trans rs2)
   subst hsl
   have hlen:(sl'.len:Int) = ((sv i).length:Int):=by rw [ilen rs, yp]
   obtain ⟨h3, b1, b2, b4, b3⟩:=in_loop k (pp:=pp) (gq:=gq) (t1:=t1) (x4:=x4) (nn:=(n:Int)) (ii:=(i:Int)) hq hqn hI rs (hl i hin) hin (Nat.le_trans (hll i hin) (by omega)) (sv i).length 0 (1000 * i) R L h2 (by omega) Pb hB (by have:=hll i hin; omega) ⟨0, hL i (Nat.le_refl _), Nat.le_refl _⟩
   rw [List.drop_zero] at b1 b2 b4
   obtain ⟨h', mo', a1, a9, a3⟩:=ih (i + 1) _ _ _ h3 (by omega) b1 (fun m=>Nat.le_trans (b2 m) (by have:=hll i hin; omega)) (fun j hj=>by rw [b4 j (by omega)]; exact hL j (by omega))
   refine ⟨h', mo', a1, fun m=>Nat.le_trans (a9 m) (by omega), fun α mm kx hmm=>?_⟩
   obtain ⟨mm, rfl⟩:∃ q, mm = q + 1:=⟨mm - 1, by omega⟩
   rw [start, hb]
   show (ldS (((⟨gq, 0⟩:Ad).add 2).add 0) _) h2 = _
   rw [g_m (by rw [Pb.ext.2 gq hgn]; exact hgq), er' _ _ _ rfl, hlen]
   refine (b3 α (k + 1) _ (by have:=hll i hin; omega)).trans ?_
   rw [tn]
   exact a3 α mm kx (by omega)
end
end Go.Ab.S9
