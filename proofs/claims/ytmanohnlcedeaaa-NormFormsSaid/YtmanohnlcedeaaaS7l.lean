import Derived.Test.YtmanohnlcedeaaaS7i
set_option linter.unusedVariables false
set_option linter.unusedSimpArgs false
namespace Go.Ab.S7
variable {α:Type}
section
variable {h₀ h:H} {w:Nat} {f to odd dep:Sl} {l:List Nd} {ins:Sl} {sc:List (Int × Int)} {nots:Int} {T:List Int} {O:List Bool} {D:List Int}
abbrev ndC (n:Nd):Blk:=.cells [.int .i64 n.kind, .int .i64 n.a, .int .i64 n.b, .str n.name, .int .i64 n.pos] true
theorem zfd (W:WS h₀ h w f to odd dep l ins sc nots T O D) (k:Nat) {x:Int} {i:Nat} {n:Nd} (hx:x = (i:Int)) (hi:l[i]? = some n) (ret:M α) :
  qb.f (k + 1) ⟨w, 0⟩ x ret h = qb.u21.f k (fun z0 z1 z2=>qb.f k z0 z1 z2) ⟨w, 0⟩ x ⟨h.next, 0⟩ n.kind ret (h.push (ndC n)):=by
 rw [qb.f, qb.u22.f, qb.u1.f, w_f W, zcv (W.f.ext W.ext) hx hi, zeb, n5_0]
theorem zrj (k:Nat) (rec:Ad->Int->M α->M α) (a:Ad) (x:Int) (q:Ad) (kd:Int) (ret:M α) (hk:kd = 1 ∨ kd = 2 ∨ kd = 3):qb.u21.f k rec a x q kd ret = ret:=by
 rcases hk with rfl | rfl | rfl <;>
  simp only [qb.u21.f, qb.u20.f, qb.u2.f, qb.u19.f, qb.u18.f, qb.u4.f, qb.u17.f, qb.u16.f, qb.u6.f, qb.u15.f, qb.u14.f, qb.u8.f, qb.u13.f, qb.u12.f, qb.u10.f, qb.u11.f, ↓cF, Int.reduceEq, decide_false]
theorem node_4 (k:Nat) (rec:Ad->Int->M α->M α) (a:Ad) (x:Int) (q:Ad) (ret:M α):qb.u21.f k rec a x q 4 ret = qb.u3.f k a x q 4 true ret:=by
 simp only [qb.u21.f, qb.u20.f, qb.u2.f, qb.u19.f, ↓cT, decide_true]
theorem node_5 (k:Nat) (rec:Ad->Int->M α->M α) (a:Ad) (x:Int) (q:Ad) (ret:M α):qb.u21.f k rec a x q 5 ret = qb.u5.f k rec a x q 5 true ret:=by
 simp only [qb.u21.f, qb.u20.f, qb.u2.f, qb.u19.f, qb.u18.f, qb.u4.f, qb.u17.f, ↓cT, ↓cF, decide_true, Int.reduceEq, decide_false]
theorem node_89 (k:Nat) (rec:Ad->Int->M α->M α) (a:Ad) (x:Int) (q:Ad) (kd:Int) (ret:M α) (hk:kd = 8 ∨ kd = 9):qb.u21.f k rec a x q kd ret = qb.u7.f k rec a x q kd true ret:=by
 rcases hk with rfl | rfl <;> simp only [qb.u21.f, qb.u20.f, qb.u2.f, qb.u19.f, qb.u18.f, qb.u4.f, qb.u17.f, qb.u16.f, qb.u6.f, qb.u15.f, ↓cT, ↓cF, decide_true, Int.reduceEq, decide_false]
theorem node_67 (k:Nat) (rec:Ad->Int->M α->M α) (a:Ad) (x:Int) (q:Ad) (kd:Int) (ret:M α) (hk:kd = 6 ∨ kd = 7):qb.u21.f k rec a x q kd ret = qb.u9.f k rec a x q kd true ret:=by
 rcases hk with rfl | rfl <;> simp only [qb.u21.f, qb.u20.f, qb.u2.f, qb.u19.f, qb.u18.f, qb.u4.f, qb.u17.f, qb.u16.f, qb.u6.f, qb.u15.f, qb.u14.f, qb.u8.f, qb.u13.f, ↓cT, ↓cF, decide_true, Int.reduceEq, decide_false]
theorem node_fix (k:Nat) (rec:Ad->Int->M α->M α) (a:Ad) (x:Int) (q:Ad) (kd:Int) (ret:M α) (hk:kd = 10 ∨ kd = 11):qb.u21.f k rec a x q kd ret = qb.u11.f k rec a x q true ret:=by
 rcases hk with rfl | rfl <;> simp only [qb.u21.f, qb.u20.f, qb.u2.f, qb.u19.f, qb.u18.f, qb.u4.f, qb.u17.f, qb.u16.f, qb.u6.f, qb.u15.f, qb.u14.f, qb.u8.f, qb.u13.f, qb.u12.f, qb.u10.f, ↓cT, ↓cF, decide_true, Int.reduceEq, decide_false]
theorem zcc {n:Nd} {q:Nat} (hq:h.get q = some (ndC n)) (K:Int->M α):ldI .i64 (((⟨q, 0⟩:Ad).add 1).add 0) K h = K n.a h:=jn (by simp only [jg]; rw [jf (a:=⟨q, 0 + 1 + 0⟩) hq]; rfl)
theorem zmv {n:Nd} {q:Nat} (hq:h.get q = some (ndC n)) (K:Int->M α):ldI .i64 (((⟨q, 0⟩:Ad).add 2).add 0) K h = K n.b h:=jn (by simp only [jg]; rw [jf (a:=⟨q, 0 + 2 + 0⟩) hq]; rfl)
theorem zhy {n:Nd} {q:Nat} (hq:h.get q = some (ndC n)) (K:List UInt8->M α):ldStr (((⟨q, 0⟩:Ad).add 3).add 0) K h = K n.name h:=zad (by simp only [jg]; rw [jf (a:=⟨q, 0 + 3 + 0⟩) hq]; rfl)
def zca (w:Nat) (to odd dep ins:Sl) (h h':H):Prop:=∀ i, i < h.next->i ≠ w->i ≠ to.id->i ≠ odd.id->i ≠ dep.id->(∀ a, ins.ad = some a->i ≠ a.id)->h'.get i = h.get i
def depI (t:Tr):List Int:=(depA t).map fun (n:Nat)=>(n:Int)
def zfc (h₀:H) (w:Nat) (f to odd dep:Sl) (l:List Nd) (t:Tr):Prop:=
 ∀ (base:Nat) (A:Anc) (k:Nat) (h:H) (ins:Sl) (PT QT:List Int) (PO QO:List Bool) (PD QD:List Int),
  (∀ i n, (t.flat base)[i]? = some n->l[base + i]? = some n)->(∀ p ∈ A, l[p.1]? = some p.2)->A.length + t.size≤100->t.size + 200≤k->PT.length = base->PO.length = base->PD.length = base ->
  WS h₀ h w f to odd dep l ins (jy A) (cntN A) (PT ++ (List.replicate t.size (-1) ++ QT)) (PO ++ (List.replicate t.size false ++ QO)) (PD ++ (List.replicate t.size 0 ++ QD)) ->
  ∃ h' ins', (∀ (α:Type) (ret:M α), qb.f k ⟨w, 0⟩ ((base + t.size - 1:Nat):Int) ret h = ret h') ∧
   WS h₀ h' w f to odd dep l ins' (jy A) (cntN A) (PT ++ (toA t base A ++ QT)) (PO ++ (oddA t base A ++ QO)) (PD ++ (depI t ++ QD)) ∧ zca w to odd dep ins h h' ∧ h.next≤h'.next ∧ (∀ a, ins'.ad = some a->h.next≤a.id ∨ ins'.ad = ins.ad)
theorem zgq {β:Type} (P:List β) (S:List β) (x y:β) (Q:List β) {n:Nat} (hn:n = P.length + S.length):(P ++ (S ++ (x :: Q))).set n y = P ++ (S ++ (y :: Q)):=by
 subst hn
 rw [List.set_append_right _ _ (by omega), List.set_append_right _ _ (by omega), show P.length + S.length - P.length - S.length = 0 by omega]
 rfl
theorem zgj {β:Type} (P:List β) (S Q:List β) {n i:Nat} (hn:n = P.length + i) (hi:i < S.length):(P ++ (S ++ Q))[n]? = S[i]?:=by
 subst hn
 rw [List.getElem?_append_right (by omega), show P.length + i - P.length = i by omega, List.getElem?_append_left hi]
theorem zdg (t:Tr):(depI t)[t.size - 1]? = some (depT t:Int):=by rw [depI, List.getElem?_map, depA_last]; rfl
theorem jp (t:Tr):(depI t).length = t.size:=by rw [depI, List.length_map, yx]
theorem WS.lts (W:WS h₀ h w f to odd dep l ins sc nots T O D):w < h.next ∧ to.id < h.next ∧ odd.id < h.next ∧ dep.id < h.next ∧ ∀ a, ins.ad = some a->a.id < h.next:=by
 have own:∀ {s:Sl} {cs:List V}, Own h s 1 cs->s.id < h.next:=by
  intro s cs o
  obtain ⟨id, more, h1, h2, h3⟩:=o.blk
  unfold Sl.id; rw [h1]; exact h3
 exact ⟨W.wlt, own W.to, own W.odd, own W.dep, fun a ha=>(W.ap.rd.row a ha).2⟩
theorem zca.of {h':H} (x:Ext h h'):zca w to odd dep ins h h':=fun i hi _ _ _ _ _=>x.2 i hi
theorem zca.trans {h' h'':H} {ins':Sl} (q:zca w to odd dep ins h h') (hn:h.next≤h'.next) (hi:∀ a, ins'.ad = some a->h.next≤a.id ∨ ins'.ad = ins.ad) (q':zca w to odd dep ins' h' h''):zca w to odd dep ins h h'':=by
 intro i h1 h2 h3 h4 h5 h6
 rw [q' i (by omega) h2 h3 h4 h5 (fun a ha=>?_), q i h1 h2 h3 h4 h5 h6]
 rcases hi a ha with h | h
 ·omega
 ·exact h6 a (by rw [← h]; exact ha)
theorem tmod2 {a m:Nat} (h1:m≤a) (h2:a≤1000):(!(decide (Int.tmod (w64 ((a:Int) - (m:Int))) 2 = 0))) = decide ((a - m) % 2 ≠ 0):=by
 rw [zw (by omega) (by omega), show (a:Int) - (m:Int) = ((a - m:Nat):Int) by omega, Int.tmod_eq_emod_of_nonneg (by omega)]
 by_cases h:(a - m) % 2 = 0
 ·rw [dT (by omega:(((a - m:Nat):Int) % 2 = 0))]; simp [h]
 ·rw [dF (by omega:¬ (((a - m:Nat):Int) % 2 = 0))]; simp [h]
theorem leaf_run (d:WD h₀ w to odd dep) (kd:Int) (s:List UInt8) (p:Int) (hok:(Tr.leaf kd s p).ok = true):zfc h₀ w f to odd dep l (.leaf kd s p):=by
 intro base A k h ins PT QT PO QO PD QD hfl hA hsz hk hPT hPO hPD W
 obtain ⟨k, rfl⟩:∃ q, k = q + 2:=⟨k - 2, by omega⟩
 simp only [Tr.size] at *
 simp only [Tr.ok, Bool.and_eq_true, decide_eq_true_eq] at hok
 have hi:l[base]? = some ⟨kd, 0, 0, s, p⟩:=hfl 0 _ rfl
 have hx:((base + 1 - 1:Nat):Int) = (base:Int):=by omega
 rw [hx]
 have x1:Ext h (h.push (ndC ⟨kd, 0, 0, s, p⟩)):=(Ext.refl h).push _
 have W1:=W.push x1
 have hq:(h.push (ndC ⟨kd, 0, 0, s, p⟩)).get h.next = some (ndC ⟨kd, 0, 0, s, p⟩):=by rw [zk, if_pos rfl]
 have k0:kd = 4 ∨ kd = 1 ∨ kd = 2 ∨ kd = 3:=by
  have:=hok.1
  unfold arF at this
  split at this
  ·omega
  ·split at this
   ·cases this
   ·split at this <;> cases this
 rcases k0 with rfl | k0
 rotate_left
 ·have hne:kd ≠ 4:=by omega
  refine ⟨_, ins, fun α ret=>?_, ?_, fun i hi _ _ _ _ _=>x1.2 i hi, x1.1, fun a _=>.inr rfl⟩
  ·rw [zfd W (k + 1) rfl hi, zrj _ _ _ _ _ _ _ k0]
  ·have e1:toA (.leaf kd s p) base A = List.replicate 1 (-1):=by simp [toA, zbg, hne]
   have e2:oddA (.leaf kd s p) base A = List.replicate 1 false:=by simp [oddA, zas, hne]
   rw [e1, e2]
   exact W1
 have start:∀ (α:Type) (ret:M α), qb.f (k + 2) ⟨w, 0⟩ (base:Int) ret h = _:=fun α ret=>by
  rw [zfd W (k + 1) rfl hi, node_4, qb.u3.f]
 generalize h.push (ndC ⟨4, 0, 0, s, p⟩) = h1 at start W1 hq x1
 have fr:=fun (α:Type) (ret:Int->Int->Bool->M α)=>find_run (α:=α) W1 k s hA (by omega) (by omega) ret
 cases hf:zbc s A with
 | none=>
  rw [hf] at fr
  dsimp only at fr
  have x2:Ext h1 ((h1.push (.cells [.int .i64 0, .int .i64 0] true)).push (.cells [.int .i64 0, .int .i64 0] true)):=((Ext.refl h1).push _).push _
  refine ⟨_, ins, fun α ret=>?_, ?_, zca.of (x1.trans x2), (x1.trans x2).1, fun a _=>.inr rfl⟩
  ·rw [start, zhy hq, fr, jk rfl]
   simp only [jg, Nat.zero_add]
   rw [yc rfl (by simp), yc rfl (by simp), cond_false]
   rfl
  ·have e1:toA (.leaf 4 s p) base A = List.replicate 1 (-1):=by simp [toA, zbg, hf]
   have e2:oddA (.leaf 4 s p) base A = List.replicate 1 false:=by simp [oddA, zas, hf]
   rw [e1, e2]
   exact W1.push x2
 | some im=>
  obtain ⟨i, m⟩:=im
  rw [hf] at fr
  dsimp only at fr
  have hm:=zfu hf
  have hc:=zkj A
  have x2:Ext h1 ((h1.push (.cells [.int .i64 i, .int .i64 m] true)).push (.cells [.int .i64 i, .int .i64 m] true)):=((Ext.refl h1).push _).push _
  have start2:∀ (α:Type) (ret:M α), qb.f (k + 2) ⟨w, 0⟩ (base:Int) ret h = _:=fun α ret=>by
   rw [start, zhy hq, fr, jk rfl]
  have hs1:(h1.push (.cells [.int .i64 i, .int .i64 m] true)).next = h1.next + 1:=zj _
  generalize h1.push (.cells [.int .i64 i, .int .i64 m] true) = h2 at start2 x2 hs1
  have W3:=W1.push x2
  have hq3:(h2.push (.cells [.int .i64 i, .int .i64 m] true)).get h2.next = some (.cells [.int .i64 i, .int .i64 m] true):=by rw [zk, if_pos rfl]
  have e3:∀ (α:Type) (K:M α), (st1 ((⟨h2.next, 0⟩:Ad).add 0) (.int .i64 i) <| st1 ((⟨h2.next, 0⟩:Ad).add 1) (.int .i64 m) K) (h2.push (.cells [.int .i64 0, .int .i64 0] true)) = K (h2.push (.cells [.int .i64 i, .int .i64 m] true)):=fun α K=>by
   simp only [jg, Nat.zero_add]
   rw [yc rfl (by simp), yc rfl (by simp)]
   rfl
  have hlt:=W1.lts
  have hne:∀ j, j < h1.next->h2.next ≠ j:=fun j hj=>by omega
  generalize h2.push (.cells [.int .i64 i, .int .i64 m] true) = h3 at x2 W3 hq3 e3
  obtain ⟨h4, e4, o4, n4, g4⟩:=znw W3.to (x:=(base:Int)) (i:=base) (i:Int) rfl (by simp; omega)
  have W4:=W3.setto d o4 n4 g4
  have hq4:h4.get h2.next = some (.cells [.int .i64 i, .int .i64 m] true):=by rw [g4 _ (hne _ hlt.2.1)]; exact hq3
  obtain ⟨h5, e5, o5, n5, g5⟩:=bool_st W4.odd (x:=(base:Int)) (i:=base) (decide ((cntN A - m) % 2 ≠ 0)) rfl (by simp; omega)
  have W5:=W4.setodd d o5 n5 g5
  refine ⟨h5, ins, fun α ret=>?_, ?_, fun j hj h1' h2' h3' h4' h5'=>?_, ?_, fun a _=>.inr rfl⟩
  ·have c0:∀ (K:Int->M α), ldI .i64 (((⟨h2.next, 0⟩:Ad).add 0).add 0) K h3 = K i h3:=fun K=>jn (by simp only [jg]; rw [jf (a:=⟨h2.next, 0 + 0 + 0⟩) hq3]; rfl)
   have c1:∀ (K:Int->M α), ldI .i64 (((⟨h2.next, 0⟩:Ad).add 1).add 0) K h3 = K m h3:=fun K=>jn (by simp only [jg]; rw [jf (a:=⟨h2.next, 0 + 1 + 0⟩) hq3]; rfl)
   have c4:∀ (K:Int->M α), ldI .i64 (((⟨h2.next, 0⟩:Ad).add 1).add 0) K h4 = K m h4:=fun K=>jn (by simp only [jg]; rw [jf (a:=⟨h2.next, 0 + 1 + 0⟩) hq4]; rfl)
   rw [start2, e3, cond_true, w_to W3, w_odd W3, c0, zob W3, c1, e4, c4, jc (by simp), tmod2 hm (by omega), e5]
  ·have et:toA (.leaf 4 s p) base A = [(i:Int)]:=by simp [toA, zbg, hf]
   have eo:oddA (.leaf 4 s p) base A = [decide ((cntN A - m) % 2 ≠ 0)]:=by simp [oddA, zas, hf]
   have s1:(PT ++ (List.replicate 1 (-1) ++ QT)).set base (i:Int) = PT ++ ([(i:Int)] ++ QT):=zgq PT [] (-1) (i:Int) QT (by simp [hPT])
   have s2:(PO ++ (List.replicate 1 false ++ QO)).set base (decide ((cntN A - m) % 2 ≠ 0)) = PO ++ ([decide ((cntN A - m) % 2 ≠ 0)] ++ QO):=zgq PO [] false _ QO (by simp [hPO])
   rw [s1, s2] at W5
   rw [et, eo]
   exact W5
  ·rw [g5 j h3', g4 j h2', x2.2 j (by have:=x1.1; omega), x1.2 j hj]
  ·have:=x1.1; have:=x2.1; omega
theorem zdh {β:Type} (n:Nat) (x:β) (Q:List β):List.replicate (n + 1) x ++ Q = List.replicate n x ++ (x :: Q):=by
 rw [List.replicate_succ', List.append_assoc]; rfl
theorem zrc {β:Type} (n m:Nat) (x:β) (Q:List β):List.replicate (n + m) x ++ Q = List.replicate n x ++ (List.replicate m x ++ Q):=by
 rw [← List.replicate_append_replicate, List.append_assoc]
theorem zhq {β:Type} (n m:Nat) (x:β) (Q:List β):List.replicate (n + m + 1) x ++ Q = List.replicate n x ++ (List.replicate m x ++ (x :: Q)):=by
 rw [zdh, zrc]
theorem zby {β:Type} (P S:List β) (x:β) (Q:List β):P ++ (S ++ (x :: Q)) = P ++ ((S ++ [x]) ++ Q):=by simp
theorem znz (d:WD h₀ w to odd dep) {P S Q:List Int} (W:WS h₀ h w f to odd dep l ins sc nots T O (P ++ (S ++ ((0:Int) :: Q)))) (v:Int) {n:Nat} (hn:n = P.length + S.length) :
  ∃ h', (∀ (α:Type) (K:M α), idxSl dep (n:Int) 1 (fun a=>st1 (a.add 0) (.int .i64 v) K) h = K h') ∧ WS h₀ h' w f to odd dep l ins sc nots T O (P ++ ((S ++ [v]) ++ Q)) ∧ zca w to odd dep ins h h' ∧ h.next≤h'.next:=by
 obtain ⟨h', e, o, n', g⟩:=znw W.dep (x:=(n:Int)) (i:=n) v rfl (by rw [hn]; simp)
 rw [zgq P S 0 v Q hn, zby] at o
 exact ⟨h', e, W.setdep d o n' g, fun i _ _ _ _ h5 _=>g i h5, by omega⟩
theorem WS.append (W:WS h₀ h w f to odd dep l ins sc nots T O D) (d:WD h₀ w to odd dep) (x y:Int) (hl:ins.len≤1000) :
  ∃ h' ins', (∀ (α:Type) (K:M α), (ldS (((⟨w, 0⟩:Ad).add 1).add 0) fun x6=>new [.int .i64 x, .int .i64 y] fun r=>ldS (((⟨w, 0⟩:Ad).add 1).add 0) fun y9=>need (decide (x6 = y9)) <| zq x6 2 16 ⟨some r, 1, 1, none⟩ fun x10=>st1 (((⟨w, 0⟩:Ad).add 1).add 0) (.slice x10) K) h = K h') ∧
   WS h₀ h' w f to odd dep l ins' (sc ++ [(x, y)]) nots T O D ∧ zca w to odd dep ins h h' ∧ h.next≤h'.next ∧ ∀ a, ins'.ad = some a->h.next≤a.id:=by
 have x1:Ext h (h.push (.cells [.int .i64 x, .int .i64 y] true)):=(Ext.refl h).push _
 have W1:=W.push x1
 have rp:Rd (h.push (.cells [.int .i64 x, .int .i64 y] true)) ⟨some ⟨h.next, 0⟩, 1, 1, none⟩ 2 (cSc (x, y)):=Rd.pushed h rfl
 have hn1:(h.push (.cells [.int .i64 x, .int .i64 y] true)).next = h.next + 1:=zj _
 have e1:∀ (α:Type) (K:Ad->M α), new [.int .i64 x, .int .i64 y] K h = K ⟨h.next, 0⟩ (h.push (.cells [.int .i64 x, .int .i64 y] true)):=fun α K=>jk rfl
 generalize h.push (.cells [.int .i64 x, .int .i64 y] true) = h1 at x1 W1 rp hn1 e1
 obtain ⟨h2, e2, ap2, g2, k2⟩:=zea (bytes:=16) W1.ap rp (by show 0 < 1; decide) (by decide) (by dsimp only; omega)
 have hlt:=W1.lts
 have keep:∀ i, i < h1.next->(∀ a, ins.ad = some a->i ≠ a.id)->h2.get i = h1.get i:=fun i hi ha=>k2.2 i hi fun _ a h=>ha a h
 have gw:h2.get w = h1.get w:=keep w hlt.1 fun a ha=>Ne.symm (W1.nw a ha).1
 have x02:=k2.ext W1.ext W1.low
 dsimp only at e2 ap2
 refine ⟨h2.put w (some (.cells [.slice f, .slice ⟨some ⟨h1.next, 0⟩, ins.len + 1, ins.len + 1, some 2⟩, .int .i64 nots, .slice to, .slice odd, .slice dep] true)), ⟨some ⟨h1.next, 0⟩, ins.len + 1, ins.len + 1, some 2⟩, fun α K=>?_, ?_, ?_, ?_, ?_⟩
 ·rw [w_in W, e1, w_in W1, jc (by simp), e2, w_sin W1 _ gw]
 ·have hn2:h1.next≤h2.next:=by rw [k2.1]; omega
  have hg:∀ i, i ≠ w->(h2.put w (some (.cells [.slice f, .slice ⟨some ⟨h1.next, 0⟩, ins.len + 1, ins.len + 1, some 2⟩, .int .i64 nots, .slice to, .slice odd, .slice dep] true))).get i = h2.get i:=fun i hi=>by rw [zi, if_neg hi]
  have own:∀ {s:Sl} {cs:List V}, Own h1 s 1 cs->s.id ≠ w->(∀ a, ins.ad = some a->s.id ≠ a.id)->s.id < h1.next->Own (h2.put w (some (.cells [.slice f, .slice ⟨some ⟨h1.next, 0⟩, ins.len + 1, ins.len + 1, some 2⟩, .int .i64 nots, .slice to, .slice odd, .slice dep] true))) s 1 cs:=
   fun o h1 h2 h3=>o.keep hn2 (by rw [hg _ h1]; exact keep _ h3 h2)
  have hsc:cScs (sc ++ [(x, y)]) = cScs sc ++ cSc (x, y):=by simp [List.flatMap_append]
  refine ⟨x02.put _ d.w0, by rw [jt], Nat.lt_of_lt_of_le hlt.1 hn2, W.f, ?_, (fun a ha=>by cases ha; exact W1.ext.1), (fun e=>by cases e), (fun a ha=>by cases ha; exact ⟨by show h1.next ≠ w; omega, by show h1.next ≠ to.id; omega, by show h1.next ≠ odd.id; omega, by show h1.next ≠ dep.id; omega⟩),
   own W1.to d.tw (fun a ha=>Ne.symm (W1.nw a ha).2.1) hlt.2.1, own W1.odd d.ow (fun a ha=>Ne.symm (W1.nw a ha).2.2.1) hlt.2.2.1, own W1.dep d.dw (fun a ha=>Ne.symm (W1.nw a ha).2.2.2) hlt.2.2.2.1⟩
  rw [hsc]
  exact ap2.keep (Nat.le_refl _) fun a ha=>by cases ha; exact hg _ (by show h1.next ≠ w; omega)
 ·intro i hi a1 a2 a3 a4 a5
  rw [zi, if_neg a1, keep i (by omega) a5, x1.2 i hi]
 ·show h.next≤h2.next
  rw [k2.1]; omega
 ·intro a ha
  cases ha
  show h.next≤h1.next
  omega
theorem WS.pop {p₁ p₂:Int} (W:WS h₀ h w f to odd dep l ins (sc ++ [(p₁, p₂)]) nots T O D) (d:WD h₀ w to odd dep) (hl:ins.len≤1001) :
  ∃ h' ins', (∀ (α:Type) (K:M α), (ldS (((⟨w, 0⟩:Ad).add 1).add 0) fun x12=>ldS (((⟨w, 0⟩:Ad).add 1).add 0) fun x13=>cutSl x12 2 none (some (w64 ((x13.len:Int) - 1))) none fun x14=>st1 (((⟨w, 0⟩:Ad).add 1).add 0) (.slice x14) K) h = K h') ∧
   WS h₀ h' w f to odd dep l ins' sc nots T O D ∧ zca w to odd dep ins h h' ∧ h'.next = h.next ∧ ins'.ad = ins.ad:=by
 have hil:ins.len = sc.length + 1:=by rw [slen (c:=cSc) (fun _=>rfl) (by decide) W.ap.rd]; simp
 refine ⟨h.put w (some (.cells [.slice f, .slice ⟨ins.ad, ins.len - 1, ins.cap, ins.loose⟩, .int .i64 nots, .slice to, .slice odd, .slice dep] true)), ⟨ins.ad, ins.len - 1, ins.cap, ins.loose⟩, fun α K=>?_, ?_, fun i hi a1 a2 a3 a4 a5=>?_, rfl, rfl⟩
 ·rw [w_in W, w_in W, zw (by omega) (by omega), zgz W.ap.fine (m:=ins.len - 1) (by omega) (by have:=W.ap.fine.1; omega), w_sin W _ rfl]
 ·have hg:∀ i, i ≠ w->(h.put w (some (.cells [.slice f, .slice ⟨ins.ad, ins.len - 1, ins.cap, ins.loose⟩, .int .i64 nots, .slice to, .slice odd, .slice dep] true))).get i = h.get i:=fun i hi=>by rw [zi, if_neg hi]
  have hloose:ins.loose = some 2 ∧ ins.len≤ins.cap ∧ ∃ a, ins.ad = some a ∧ h.own a.id = true:=by
   rcases W.ap.mode with ⟨h1, h2⟩ | h1
   ·have:=W.lo h1; omega
   ·exact h1
  have ap:App h ⟨ins.ad, ins.len - 1, ins.cap, ins.loose⟩ 2 (cScs sc):=by
   have q:=W.ap.rd.to (ins.len - 1) ins.cap ins.loose (Nat.sub_le _ _)
   have hsc:(cScs (sc ++ [(p₁, p₂)])).take ((ins.len - 1) * 2) = cScs sc:=by
    rw [zck (c:=cSc) (size:=2) (fun _=>rfl), hil]
    simp
   rw [hsc] at q
   obtain ⟨h1, h2, a, h3, h4⟩:=hloose
   exact ⟨q, fun ha=>by rw [h3] at ha; (cases ha), .inr ⟨h1, by show ins.len - 1≤ins.cap; omega, a, h3, h4⟩⟩
  refine ⟨W.ext.put _ d.w0, by rw [jt], W.wlt, W.f, ap.keep (Nat.le_refl _) fun a ha=>hg _ (W.nw a ha).1, W.low, (fun e=>by have:=hloose.1; rw [show ins.loose = none from e] at this; cases this), W.nw,
   W.to.keep (Nat.le_refl _) (hg _ d.tw), W.odd.keep (Nat.le_refl _) (hg _ d.ow), W.dep.keep (Nat.le_refl _) (hg _ d.dw)⟩
 ·rw [zi, if_neg a1]
theorem zcb {a:Tr} {base:Nat} {rest:List Nd} (hfl:∀ i n, (a.flat base ++ rest)[i]? = some n->l[base + i]? = some n):(∀ i n, (a.flat base)[i]? = some n->l[base + i]? = some n) ∧ ∀ i n, rest[i]? = some n->l[base + a.size + i]? = some n:=by
 refine ⟨fun i n h=>hfl i n ?_, fun i n h=>?_⟩
 ·rw [List.getElem?_append_left (yu h)]; exact h
 ·rw [Nat.add_assoc]
  refine hfl (a.size + i) n ?_
  rw [List.getElem?_append_right (by rw [zd]; omega), zd, show a.size + i - a.size = i by omega]
  exact h
theorem un_run (d:WD h₀ w to odd dep) (kd:Int) (s:List UInt8) (p:Int) (a:Tr) (ih:zfc h₀ w f to odd dep l a) (hok:(Tr.un kd s p a).ok = true):zfc h₀ w f to odd dep l (.un kd s p a):=by
 intro base A k h ins PT QT PO QO PD QD hfl hA hsz hk hPT hPO hPD W
 obtain ⟨k, rfl⟩:∃ q, k = q + 1:=⟨k - 1, by omega⟩
 have hpa:=Tr.pos a
 simp only [Tr.size] at *
 simp only [Tr.ok, Bool.and_eq_true, decide_eq_true_eq] at hok
 have hsub:=zcb (l:=l) (a:=a) (base:=base) (rest:=[(Tr.un kd s p a).node base]) hfl
 have hi:l[base + a.size]? = some ((Tr.un kd s p a).node base):=hsub.2 0 _ rfl
 have hx:((base + (a.size + 1) - 1:Nat):Int) = ((base + a.size:Nat):Int):=by omega
 rw [hx]
 have hkind:((Tr.un kd s p a).node base).kind = kd:=rfl
 have hna:((Tr.un kd s p a).node base).a = ((base + a.size - 1:Nat):Int):=rfl
 have start:∀ (α:Type) (ret:M α), qb.f (k + 1) ⟨w, 0⟩ ((base + a.size:Nat):Int) ret h = _:=fun α ret=>by
  rw [zfd W k rfl hi, hkind]
 have x1:Ext h (h.push (ndC ((Tr.un kd s p a).node base))):=(Ext.refl h).push _
 have W1:=W.push x1
 have hq:(h.push (ndC ((Tr.un kd s p a).node base))).get h.next = some (ndC ((Tr.un kd s p a).node base)):=by rw [zk, if_pos rfl]
 have hn1:h.next < (h.push (ndC ((Tr.un kd s p a).node base))).next:=by rw [zj]; omega
 have hlt:=W.lts
 -- the node's copy is none of the walker's
 have quiet:∀ {h1 h2:H} {ins1:Sl}, zca w to odd dep ins1 h1 h2->h.next < h1.next->(∀ b, ins1.ad = some b->h.next ≠ b.id)->h2.get h.next = h1.get h.next:=fun q h1 h2=>q h.next h1 (by omega) (by omega) (by omega) (by omega) h2
 have hins:∀ b, ins.ad = some b->h.next ≠ b.id:=fun b hb=>by have:=hlt.2.2.2.2 b hb; omega
 generalize h.push (ndC ((Tr.un kd s p a).node base)) = h1 at start x1 W1 hq hn1
 rw [zdh, zdh, zdh] at W1
 have hA':∀ q ∈ ((base + a.size, (Tr.un kd s p a).node base) :: A), l[q.1]? = some q.2:=fun q hq=>by
  rcases List.mem_cons.1 hq with e | e
  ·rw [e]; exact hi
  ·exact hA q e
 have k0:kd = 5 ∨ (kd = 8 ∨ kd = 9) ∨ (kd = 10 ∨ kd = 11):=by
  have:=hok.1.1
  unfold arF at this
  split at this
  ·cases this
  ·split at this
   ·omega
   ·split at this <;> cases this
 have et:toA (.un kd s p a) base A = toA a base ((base + a.size, (Tr.un kd s p a).node base) :: A) ++ [-1]:=rfl
 have eo:oddA (.un kd s p a) base A = oddA a base ((base + a.size, (Tr.un kd s p a).node base) :: A) ++ [false]:=rfl
 have ed:depI (.un kd s p a) = depI a ++ [(depT (.un kd s p a):Int)]:=by simp [depI, depA]
 have gd:∀ (P Q:List Int), P.length = base->(P ++ (depI a ++ Q))[base + a.size - 1]? = some (depT a:Int):=fun P Q hP=>by
  rw [zgj P (depI a) Q (i:=a.size - 1) (by omega) (by rw [jp]; omega)]
  exact zdg a
 rcases k0 with rfl | k0 | k0
 ·-- a negation
  have hc:cntN ((base + a.size, (Tr.un 5 s p a).node base) :: A) = cntN A + 1:=rfl
  have hs:jy ((base + a.size, (Tr.un 5 s p a).node base) :: A) = jy A:=by simp [jy, Tr.node, fixK]
  have hcl:=zkj A
  have W2:=W1.setblk d (nots':=((cntN A + 1:Nat):Int)) rfl
  have en:w64 ((cntN A:Int) + 1) = ((cntN A + 1:Nat):Int):=by rw [zw (by omega) (by omega)]; omega
  have e2:=fun (α:Type) (K:M α)=>w_snots W1 ((cntN A + 1:Nat):Int) K
  have q12:zca w to odd dep ins h1 _:=fun i hi a1 a2 a3 a4 a5=>zi (h:=h1) w (some (.cells [.slice f, .slice ins, .int .i64 ((cntN A + 1:Nat):Int), .slice to, .slice odd, .slice dep] true)) i |>.trans (if_neg a1)
  have hn2:(h1.put w (some (.cells [.slice f, .slice ins, .int .i64 ((cntN A + 1:Nat):Int), .slice to, .slice odd, .slice dep] true))).next = h1.next:=rfl
  generalize h1.put w (some (.cells [.slice f, .slice ins, .int .i64 ((cntN A + 1:Nat):Int), .slice to, .slice odd, .slice dep] true)) = h2 at W2 e2 q12 hn2
  have hq2:h2.get h.next = some (ndC ((Tr.un 5 s p a).node base)):=(quiet q12 hn1 hins).trans hq
  rw [← hs, ← hc] at W2
  obtain ⟨h3, ins3, e3, W3, q3, n3, i3⟩:=ih base _ k h2 ins PT ((-1) :: QT) PO (false :: QO) PD (0 :: QD) hsub.1 hA' (by simp; omega) (by omega) hPT hPO hPD W2
  have hq3:h3.get h.next = some (ndC ((Tr.un 5 s p a).node base)):=(quiet q3 (by omega) hins).trans hq2
  rw [hs, hc] at W3
  have W4:=W3.setblk d (nots':=(cntN A:Int)) rfl
  have en2:w64 (((cntN A + 1:Nat):Int) - 1) = (cntN A:Int):=by rw [zw (by omega) (by omega)]; omega
  have e4:=fun (α:Type) (K:M α)=>w_snots W3 (cntN A:Int) K
  have q34:zca w to odd dep ins3 h3 _:=fun i hi a1 a2 a3 a4 a5=>zi (h:=h3) w (some (.cells [.slice f, .slice ins3, .int .i64 (cntN A:Int), .slice to, .slice odd, .slice dep] true)) i |>.trans (if_neg a1)
  have hn4:(h3.put w (some (.cells [.slice f, .slice ins3, .int .i64 (cntN A:Int), .slice to, .slice odd, .slice dep] true))).next = h3.next:=rfl
  generalize h3.put w (some (.cells [.slice f, .slice ins3, .int .i64 (cntN A:Int), .slice to, .slice odd, .slice dep] true)) = h4 at W4 e4 q34 hn4
  have hins3:∀ b, ins3.ad = some b->h.next ≠ b.id:=fun b hb=>by
   rcases i3 b hb with h | h
   ·omega
   ·exact hins b (by rw [← h]; exact hb)
  have hq4:h4.get h.next = some (ndC ((Tr.un 5 s p a).node base)):=(quiet q34 (by omega) hins3).trans hq3
  obtain ⟨h5, e5, W5, q5, n5⟩:=znz d W4 (depT a:Int) (n:=base + a.size) (by rw [hPD, jp])
  refine ⟨h5, ins3, fun α ret=>?_, ?_, ?_, ?_, fun b hb=>?_⟩
  ·rw [start, node_5, qb.u5.f, zob W1, en, e2, zcc hq2, hna, e3, zob W3, en2, e4, zgu W4, zgu W4, zcc hq4, hna, yk W4.dep.rd rfl (gd PD (0 :: QD) hPD), e5]
  ·rw [et, eo, ed]
   have ee:depT (.un 5 s p a) = depT a:=by simp [depT, fixK]
   rw [ee, ← zby PT, ← zby PO]
   exact W5
  ·exact (zca.of x1).trans x1.1 (fun b hb=>.inr rfl) (q12.trans (by omega) (fun b hb=>.inr rfl) (q3.trans n3 i3 (q34.trans (by omega) (fun b hb=>.inr rfl) q5)))
  ·have:=x1.1; omega
  ·rcases i3 b hb with h | h
   ·left; have:=x1.1; omega
   ·exact .inr h
 ·-- a step
  have hc:cntN ((base + a.size, (Tr.un kd s p a).node base) :: A) = cntN A:=by
   have:kd ≠ 5:=by omega
   simp [cntN, Tr.node, this]
  have hs:jy ((base + a.size, (Tr.un kd s p a).node base) :: A) = jy A:=by
   have h1:kd ≠ 10:=by omega
   have h2:kd ≠ 11:=by omega
   simp [jy, Tr.node, fixK, h1, h2]
  have W2:=W1
  rw [← hs, ← hc] at W2
  obtain ⟨h3, ins3, e3, W3, q3, n3, i3⟩:=ih base _ k h1 ins PT ((-1) :: QT) PO (false :: QO) PD (0 :: QD) hsub.1 hA' (by simp; omega) (by omega) hPT hPO hPD W2
  have hq3:h3.get h.next = some (ndC ((Tr.un kd s p a).node base)):=(quiet q3 (by omega) hins).trans hq
  rw [hs, hc] at W3
  obtain ⟨h5, e5, W5, q5, n5⟩:=znz d W3 (depT a:Int) (n:=base + a.size) (by rw [hPD, jp])
  refine ⟨h5, ins3, fun α ret=>?_, ?_, ?_, ?_, fun b hb=>?_⟩
  ·rw [start, node_89 _ _ _ _ _ _ _ k0, qb.u7.f, zcc hq, hna, e3, zgu W3, zgu W3, zcc hq3, hna, yk W3.dep.rd rfl (gd PD (0 :: QD) hPD), e5]
  ·rw [et, eo, ed]
   have ee:depT (.un kd s p a) = depT a:=by
    have h1:kd ≠ 10:=by omega
    have h2:kd ≠ 11:=by omega
    simp [depT, fixK, h1, h2]
   rw [ee, ← zby PT, ← zby PO]
   exact W5
  ·exact (zca.of x1).trans x1.1 (fun b hb=>.inr rfl) (q3.trans n3 i3 q5)
  ·have:=x1.1; omega
  ·rcases i3 b hb with h | h
   ·left; have:=x1.1; omega
   ·exact .inr h
 ·-- a fixpoint
  have hfx:fixK kd = true:=by rcases k0 with rfl | rfl <;> rfl
  have hc:cntN ((base + a.size, (Tr.un kd s p a).node base) :: A) = cntN A:=by
   have:kd ≠ 5:=by omega
   simp [cntN, Tr.node, this]
  have hs:jy ((base + a.size, (Tr.un kd s p a).node base) :: A) = jy A ++ [(((base + a.size:Nat):Int), (cntN A:Int))]:=by
   simp [jy, Tr.node, hfx]
  have hil:ins.len = (jy A).length:=slen (c:=cSc) (fun _=>rfl) (by decide) W.ap.rd
  have hsl:=zgo A
  obtain ⟨h2, ins2, e2, W2, q2, n2, i2⟩:=W1.append d ((base + a.size:Nat):Int) (cntN A:Int) (by omega)
  have hq2:h2.get h.next = some (ndC ((Tr.un kd s p a).node base)):=(quiet q2 (by omega) hins).trans hq
  rw [← hs, ← hc] at W2
  obtain ⟨h3, ins3, e3, W3, q3, n3, i3⟩:=ih base _ k h2 ins2 PT ((-1) :: QT) PO (false :: QO) PD (0 :: QD) hsub.1 hA' (by simp; omega) (by omega) hPT hPO hPD W2
  have hins2:∀ b, ins2.ad = some b->h.next ≠ b.id:=fun b hb=>by have:=i2 b hb; omega
  have hq3:h3.get h.next = some (ndC ((Tr.un kd s p a).node base)):=(quiet q3 (by omega) hins2).trans hq2
  rw [hs, hc] at W3
  have hil3:ins3.len = (jy A).length + 1:=by rw [slen (c:=cSc) (fun _=>rfl) (by decide) W3.ap.rd]; simp
  obtain ⟨h4, ins4, e4, W4, q4, n4, i4⟩:=W3.pop d (by omega)
  have i43:∀ b, ins3.ad = some b->h1.next≤b.id:=fun b hb=>by
   rcases i3 b hb with h | h
   ·omega
   ·exact i2 b (by rw [← h]; exact hb)
  have hq4:h4.get h.next = some (ndC ((Tr.un kd s p a).node base)):=(quiet q4 (by omega) (fun b hb=>by have:=i43 b hb; omega)).trans hq3
  obtain ⟨h5, e5, W5, q5, n5⟩:=znz d W4 ((depT a + 1:Nat):Int) (n:=base + a.size) (by rw [hPD, jp])
  have hdl:=zjt a
  have en:w64 ((depT a:Int) + 1) = ((depT a + 1:Nat):Int):=by rw [zw (by omega) (by omega)]; omega
  refine ⟨h5, ins4, fun α ret=>?_, ?_, ?_, ?_, fun b hb=>?_⟩
  ·have e0:∀ (K:M α), qb.u11.f k (fun z0 z1 z2=>qb.f k z0 z1 z2) ⟨w, 0⟩ ((base + a.size:Nat):Int) ⟨h.next, 0⟩ true K h1 = qb.f k ⟨w, 0⟩ ((base + a.size - 1:Nat):Int) (ldS (((⟨w, 0⟩:Ad).add 1).add 0) fun x12=>ldS (((⟨w, 0⟩:Ad).add 1).add 0) fun x13=>cutSl x12 2 none (some (w64 ((x13.len:Int) - 1))) none fun x14=>st1 (((⟨w, 0⟩:Ad).add 1).add 0) (.slice x14) <|
     ldS (((⟨w, 0⟩:Ad).add 5).add 0) fun x15=>ldS (((⟨w, 0⟩:Ad).add 5).add 0) fun x16=>ldI .i64 (((⟨h.next, 0⟩:Ad).add 1).add 0) fun x17=>idxSl x16 x17 1 fun a18=>ldI .i64 (a18.add 0) fun x19=>idxSl x15 ((base + a.size:Nat):Int) 1 fun a20=>st1 (a20.add 0) (.int .i64 (w64 (x19 + 1))) K) h2:=fun K=>by
    rw [qb.u11.f, cond_true]
    have:=e2 α (ldI .i64 (((⟨h.next, 0⟩:Ad).add 1).add 0) fun x11=>qb.f k ⟨w, 0⟩ x11 (ldS (((⟨w, 0⟩:Ad).add 1).add 0) fun x12=>ldS (((⟨w, 0⟩:Ad).add 1).add 0) fun x13=>cutSl x12 2 none (some (w64 ((x13.len:Int) - 1))) none fun x14=>st1 (((⟨w, 0⟩:Ad).add 1).add 0) (.slice x14) <|
     ldS (((⟨w, 0⟩:Ad).add 5).add 0) fun x15=>ldS (((⟨w, 0⟩:Ad).add 5).add 0) fun x16=>ldI .i64 (((⟨h.next, 0⟩:Ad).add 1).add 0) fun x17=>idxSl x16 x17 1 fun a18=>ldI .i64 (a18.add 0) fun x19=>idxSl x15 ((base + a.size:Nat):Int) 1 fun a20=>st1 (a20.add 0) (.int .i64 (w64 (x19 + 1))) K))
    rw [zcc hq2, hna] at this
    rw [← this, w_in W1, w_in W1, zob W1]
   rw [start, node_fix _ _ _ _ _ _ _ k0, e0, e3, e4, zgu W4, zgu W4, zcc hq4, hna, yk W4.dep.rd rfl (gd PD (0 :: QD) hPD), en, e5]
  ·rw [et, eo, ed]
   have ee:depT (.un kd s p a) = depT a + 1:=by simp [depT, hfx]
   rw [ee, ← zby PT, ← zby PO]
   exact W5
  ·exact (zca.of x1).trans x1.1 (fun b hb=>.inr rfl) (q2.trans n2 (fun b hb=>.inl (i2 b hb)) (q3.trans n3 i3 (q4.trans (by omega) (fun b hb=>.inr i4) q5)))
  ·have:=x1.1; omega
  ·left
   rw [i4] at hb
   have:=i43 b hb
   have:=x1.1
   omega
theorem bin_run (d:WD h₀ w to odd dep) (kd:Int) (s:List UInt8) (p:Int) (a b:Tr) (iha:zfc h₀ w f to odd dep l a) (ihb:zfc h₀ w f to odd dep l b) (hok:(Tr.bin kd s p a b).ok = true):zfc h₀ w f to odd dep l (.bin kd s p a b):=by
 intro base A k h ins PT QT PO QO PD QD hfl hA hsz hk hPT hPO hPD W
 obtain ⟨k, rfl⟩:∃ q, k = q + 1:=⟨k - 1, by omega⟩
 have hpa:=Tr.pos a
 have hpb:=Tr.pos b
 simp only [Tr.size] at *
 simp only [Tr.ok, Bool.and_eq_true, decide_eq_true_eq] at hok
 have hsub:=zcb (l:=l) (a:=a) (base:=base) (rest:=b.flat (base + a.size) ++ [(Tr.bin kd s p a b).node base]) hfl
 have hsub2:=zcb (l:=l) (a:=b) (base:=base + a.size) (rest:=[(Tr.bin kd s p a b).node base]) hsub.2
 have hi:l[base + a.size + b.size]? = some ((Tr.bin kd s p a b).node base):=hsub2.2 0 _ rfl
 have hx:((base + (a.size + b.size + 1) - 1:Nat):Int) = ((base + a.size + b.size:Nat):Int):=by omega
 rw [hx]
 have hkind:((Tr.bin kd s p a b).node base).kind = kd:=rfl
 have hna:((Tr.bin kd s p a b).node base).a = ((base + a.size - 1:Nat):Int):=rfl
 have hnb:((Tr.bin kd s p a b).node base).b = ((base + a.size + b.size - 1:Nat):Int):=rfl
 have start:∀ (α:Type) (ret:M α), qb.f (k + 1) ⟨w, 0⟩ ((base + a.size + b.size:Nat):Int) ret h = _:=fun α ret=>by
  rw [zfd W k rfl hi, hkind]
 have x1:Ext h (h.push (ndC ((Tr.bin kd s p a b).node base))):=(Ext.refl h).push _
 have W1:=W.push x1
 have hq:(h.push (ndC ((Tr.bin kd s p a b).node base))).get h.next = some (ndC ((Tr.bin kd s p a b).node base)):=by rw [zk, if_pos rfl]
 have hn1:h.next < (h.push (ndC ((Tr.bin kd s p a b).node base))).next:=by rw [zj]; omega
 have hlt:=W.lts
 have quiet:∀ {h1 h2:H} {ins1:Sl}, zca w to odd dep ins1 h1 h2->h.next < h1.next->(∀ b, ins1.ad = some b->h.next ≠ b.id)->h2.get h.next = h1.get h.next:=fun q h1 h2=>q h.next h1 (by omega) (by omega) (by omega) (by omega) h2
 have hins:∀ b, ins.ad = some b->h.next ≠ b.id:=fun b hb=>by have:=hlt.2.2.2.2 b hb; omega
 generalize h.push (ndC ((Tr.bin kd s p a b).node base)) = h1 at start x1 W1 hq hn1
 rw [zhq, zhq, zhq] at W1
 have hA':∀ q ∈ ((base + a.size + b.size, (Tr.bin kd s p a b).node base) :: A), l[q.1]? = some q.2:=fun q hq=>by
  rcases List.mem_cons.1 hq with e | e
  ·rw [e]; exact hi
  ·exact hA q e
 have k0:kd = 6 ∨ kd = 7:=by
  have:=hok.1.1.1
  unfold arF at this
  split at this
  ·cases this
  ·split at this
   ·cases this
   ·split at this
    ·omega
    ·cases this
 have hc:cntN ((base + a.size + b.size, (Tr.bin kd s p a b).node base) :: A) = cntN A:=by
  have:kd ≠ 5:=by omega
  simp [cntN, Tr.node, this]
 have hs:jy ((base + a.size + b.size, (Tr.bin kd s p a b).node base) :: A) = jy A:=by
  have h1:kd ≠ 10:=by omega
  have h2:kd ≠ 11:=by omega
  simp [jy, Tr.node, fixK, h1, h2]
 have W2:=W1
 rw [← hs, ← hc] at W2
 obtain ⟨h3, ins3, e3, W3, q3, n3, i3⟩:=iha base _ k h1 ins PT (List.replicate b.size (-1) ++ ((-1) :: QT)) PO (List.replicate b.size false ++ (false :: QO)) PD (List.replicate b.size 0 ++ (0 :: QD)) hsub.1 hA' (by simp; omega) (by omega) hPT hPO hPD W2
 have hq3:h3.get h.next = some (ndC ((Tr.bin kd s p a b).node base)):=(quiet q3 (by omega) hins).trans hq
 rw [← List.append_assoc PT, ← List.append_assoc PO, ← List.append_assoc PD] at W3
 obtain ⟨h4, ins4, e4, W4, q4, n4, i4⟩:=ihb (base + a.size) _ k h3 ins3 _ _ _ _ _ _ hsub2.1 hA' (by simp; omega) (by omega) (by rw [List.length_append, ye, hPT]) (by rw [List.length_append, ya, hPO]) (by rw [List.length_append, jp, hPD]) W3
 have hins3:∀ b, ins3.ad = some b->h.next ≠ b.id:=fun b hb=>by
  rcases i3 b hb with h | h
  ·omega
  ·exact hins b (by rw [← h]; exact hb)
 have hq4:h4.get h.next = some (ndC ((Tr.bin kd s p a b).node base)):=(quiet q4 (by omega) hins3).trans hq3
 rw [hs, hc] at W4
 obtain ⟨h5, e5, W5, q5, n5⟩:=znz d W4 ((max (depT a) (depT b):Nat):Int) (n:=base + a.size + b.size) (by rw [List.length_append, hPD, jp, jp])
 have g1:(PD ++ depI a ++ (depI b ++ (0 :: QD)))[base + a.size - 1]? = some (depT a:Int):=by
  rw [List.append_assoc, zgj PD (depI a) _ (i:=a.size - 1) (by omega) (by rw [jp]; omega)]
  exact zdg a
 have g2:(PD ++ depI a ++ (depI b ++ (0 :: QD)))[base + a.size + b.size - 1]? = some (depT b:Int):=by
  rw [zgj (PD ++ depI a) (depI b) _ (i:=b.size - 1) (by rw [List.length_append, hPD, jp]; omega) (by rw [jp]; omega)]
  exact zdg b
 have emax:(if (depT b:Int) > (depT a:Int) then (depT b:Int) else (depT a:Int)) = ((max (depT a) (depT b):Nat):Int):=by
  split <;> omega
 refine ⟨h5, ins4, fun α ret=>?_, ?_, ?_, ?_, fun c hb=>?_⟩
 ·rw [start, node_67 _ _ _ _ _ _ _ k0, qb.u9.f, zcc hq, hna, e3, zmv hq3, hnb, e4, zgu W4, zgu W4, zcc hq4, hna, yk W4.dep.rd rfl g1, zgu W4, zmv hq4, hnb, yk W4.dep.rd rfl g2, emax, e5]
 ·have et:PT ++ (toA (.bin kd s p a b) base A ++ QT) = PT ++ toA a base ((base + a.size + b.size, (Tr.bin kd s p a b).node base) :: A) ++ (toA b (base + a.size) ((base + a.size + b.size, (Tr.bin kd s p a b).node base) :: A) ++ ((-1) :: QT)):=by simp [toA]
  have eo:PO ++ (oddA (.bin kd s p a b) base A ++ QO) = PO ++ oddA a base ((base + a.size + b.size, (Tr.bin kd s p a b).node base) :: A) ++ (oddA b (base + a.size) ((base + a.size + b.size, (Tr.bin kd s p a b).node base) :: A) ++ (false :: QO)):=by simp [oddA]
  have ed:PD ++ (depI (.bin kd s p a b) ++ QD) = PD ++ depI a ++ ((depI b ++ [((max (depT a) (depT b):Nat):Int)]) ++ QD):=by simp [depI, depA, depT]
  rw [et, eo, ed]
  exact W5
 ·exact (zca.of x1).trans x1.1 (fun b hb=>.inr rfl) (q3.trans n3 i3 (q4.trans n4 i4 q5))
 ·have:=x1.1; omega
 ·rcases i4 c hb with h | h
  ·left; have:=x1.1; omega
  ·rw [h] at hb
   rcases i3 c hb with h' | h'
   ·left; have:=x1.1; omega
   ·exact .inr (h.trans h')
theorem zhw (d:WD h₀ w to odd dep):∀ t:Tr, t.ok = true->zfc h₀ w f to odd dep l t
 | .leaf kd s p, h=>leaf_run d kd s p h
 | .un kd s p a, h=>un_run d kd s p a (zhw d a (by simp only [Tr.ok, Bool.and_eq_true] at h; exact h.2)) h
 | .bin kd s p a b, h=>bin_run d kd s p a b (zhw d a (by simp only [Tr.ok, Bool.and_eq_true] at h; exact h.1.2)) (zhw d b (by simp only [Tr.ok, Bool.and_eq_true] at h; exact h.2)) h
end
end Go.Ab.S7
namespace Go.Ab.S7
variable {α:Type} {h:H}
theorem zaw {n:Nd} {q:Nat} (hq:h.get q = some (ndC n)) (K:Int->M α):ldI .i64 (((⟨q, 0⟩:Ad).add 0).add 0) K h = K n.kind h:=jn (by simp only [jg]; rw [jf (a:=⟨q, 0 + 0 + 0⟩) hq]; rfl)
theorem zbq {n:Nd} {q:Nat} (hq:h.get q = some (ndC n)) (K:Int->Int->Int->List UInt8->Int->M α) :
  (ldI .i64 ((⟨q, 0⟩:Ad).add 0) fun y0=>ldI .i64 ((⟨q, 0⟩:Ad).add 1) fun y1=>ldI .i64 ((⟨q, 0⟩:Ad).add 2) fun y2=>ldStr ((⟨q, 0⟩:Ad).add 3) fun y3=>ldI .i64 ((⟨q, 0⟩:Ad).add 4) fun y4=>K y0 y1 y2 y3 y4) h = K n.kind n.a n.b n.name n.pos h:=by
 simp only [jg]
 rw [jn (by rw [jf (a:=⟨q, 0 + 0⟩) hq]; rfl), jn (by rw [jf (a:=⟨q, 0 + 1⟩) hq]; rfl), jn (by rw [jf (a:=⟨q, 0 + 2⟩) hq]; rfl), zad (by rw [jf (a:=⟨q, 0 + 3⟩) hq]; rfl), jn (by rw [jf (a:=⟨q, 0 + 4⟩) hq]; rfl)]
theorem zju (k:Nat) (n:Nd) (ret:Bool->M α):qbc.f (k + 1) n.kind n.a n.b n.name n.pos ret h = ret (fixK n.kind) (h.push (ndC n)):=by
 rw [qbc.f, qbc.u1.f, jk rfl, n5_0]
 unfold fixK
 by_cases h1:n.kind = 10
 ·rw [dT h1, cond_true]; rfl
 ·rw [dF h1, cond_false, n5_0]; rfl
theorem zrg {h₀:H} {w:Nat} {f to odd dep:Sl} {l:List Nd} {ins:Sl} {sc:List (Int × Int)} {nots:Int} {O:List Bool} {D:List Int} (d:WD h₀ w to odd dep) (k:Nat) {n:Nat} (hn:n≤1000):∀ (j i:Nat) (h:H), i≤n->n - i < j ->
  WS h₀ h w f to odd dep l ins sc nots (List.replicate i (-1) ++ List.replicate (n - i) 0) O D->∃ h', (∀ (α:Type) (kx:Sl->Ad->M α), qx.u4.l k kx j f ⟨w, 0⟩ (n:Int) (i:Int) h = kx f ⟨w, 0⟩ h') ∧
   WS h₀ h' w f to odd dep l ins sc nots (List.replicate n (-1)) O D ∧ h.next≤h'.next:=by
 intro j
 induction j with
 | zero=>intro i h hi hj; omega
 | succ j ih=>
  intro i h hi hj W
  by_cases hlt:i < n
  ·obtain ⟨h1, e1, o1, n1, g1⟩:=znw W.to (x:=(i:Int)) (i:=i) (-1) rfl (by simp; omega)
   have W1:=W.setto d o1 n1 g1
   have es:(List.replicate i (-1) ++ List.replicate (n - i) 0).set i (-1) = List.replicate (i + 1) (-1) ++ List.replicate (n - (i + 1)) (0:Int):=by
    rw [List.set_append_right _ _ (by simp), List.length_replicate, Nat.sub_self, show n - i = (n - (i + 1)) + 1 by omega, List.replicate_succ, List.set_cons_zero, List.replicate_succ', List.append_assoc]
    rfl
   rw [es] at W1
   obtain ⟨h2, e2, W2, n2⟩:=ih (i + 1) h1 (by omega) (by omega) W1
   refine ⟨h2, fun α kx=>?_, W2, by omega⟩
   rw [qx.u4.l, qx.u3.f, dT (by omega:(i:Int) < (n:Int)), cond_true, w_to W, e1, zw (by omega) (by omega)]
   exact e2 α kx
  ·have:i = n:=by omega
   subst this
   refine ⟨h, fun α kx=>?_, by simpa using W, Nat.le_refl _⟩
   rw [qx.u4.l, qx.u3.f, dF (by omega:¬ (i:Int) < (i:Int)), cond_false]
theorem zri (k:Nat) (hk:400≤k) {f:Sl} {t:Tr} (ht:t.ok = true) (hs:t.size≤60) (h:H) (r:NdR h f (t.flat 0)) :
  ∃ h' w to odd dep ins, (∀ (α:Type) (ret:Ad->M α), qx.f (k + 1) f ret h = ret ⟨w, 0⟩ h') ∧ WD h w to odd dep ∧ WS h h' w f to odd dep (t.flat 0) ins [] 0 (toA t 0 []) (oddA t 0 []) (depI t) ∧ to.loose = none ∧ to.cap = t.size:=by
 have hfl:f.len = t.size:=by rw [jv r, zd]
 have hpos:=Tr.pos t
 obtain ⟨h1, e1, o1, n1, x1⟩:=zkd (h:=h) (n:=t.size) (x:=(f.len:Int)) (y:=(f.len:Int)) (by rw [hfl]) (by rw [hfl]) (by omega)
 obtain ⟨h2, e2, o2, n2, x2⟩:=mkB_run (h:=h1) (n:=t.size) (x:=(f.len:Int)) (y:=(f.len:Int)) (by rw [hfl]) (by rw [hfl]) (by omega)
 obtain ⟨h3, e3, o3, n3, x3⟩:=zkd (h:=h2) (n:=t.size) (x:=(f.len:Int)) (y:=(f.len:Int)) (by rw [hfl]) (by rw [hfl]) (by omega)
 have d:WD h h3.next ⟨some ⟨h.next, 0⟩, t.size, t.size, none⟩ ⟨some ⟨h1.next, 0⟩, t.size, t.size, none⟩ ⟨some ⟨h2.next, 0⟩, t.size, t.size, none⟩:=by
  constructor <;> (try simp only [Sl.id, Option.getD_some]) <;> omega
 have x123:=(x1.trans x2).trans x3
 generalize hB:Blk.cells [.slice f, .slice Sl.nil, .int .i64 0, .slice ⟨some ⟨h.next, 0⟩, t.size, t.size, none⟩, .slice ⟨some ⟨h1.next, 0⟩, t.size, t.size, none⟩, .slice ⟨some ⟨h2.next, 0⟩, t.size, t.size, none⟩] true = B
 have x4:Ext h3 (h3.push B):=(Ext.refl h3).push _
 have W:WS h (h3.push B) h3.next f ⟨some ⟨h.next, 0⟩, t.size, t.size, none⟩ ⟨some ⟨h1.next, 0⟩, t.size, t.size, none⟩ ⟨some ⟨h2.next, 0⟩, t.size, t.size, none⟩ (t.flat 0) Sl.nil [] 0 (List.replicate 0 (-1) ++ List.replicate (t.size - 0) 0) (List.replicate t.size false) (List.replicate t.size 0):=by
  refine ⟨x123.trans x4, by rw [zk, if_pos rfl, ← hB], by rw [zj]; omega, r, App.nilSl _ _, zah.nil _, fun _=>rfl, fun a ha=>(by cases ha), ?_, ?_, ?_⟩
  ·exact (o1.ext (x2.trans x3)).ext x4
  ·exact (o2.ext x3).ext x4
  ·exact o3.ext x4
 obtain ⟨h5, e5, W5, n5⟩:=zrg d k (by omega) k 0 _ (Nat.zero_le _) (by omega) W
 have W6:WS h h5 h3.next f ⟨some ⟨h.next, 0⟩, t.size, t.size, none⟩ ⟨some ⟨h1.next, 0⟩, t.size, t.size, none⟩ ⟨some ⟨h2.next, 0⟩, t.size, t.size, none⟩ (t.flat 0) Sl.nil (jy []) ((cntN []:Nat):Int) ([] ++ (List.replicate t.size (-1) ++ [])) ([] ++ (List.replicate t.size false ++ [])) ([] ++ (List.replicate t.size 0 ++ [])):=by
  simpa [jy, cntN] using W5
 obtain ⟨h6, ins, e6, W7, _, _, _⟩:=zhw d t ht 0 [] k h5 Sl.nil [] [] [] [] [] [] (fun i n hi=>by rw [Nat.zero_add]; exact hi) (fun p hp=>by cases hp) (by simp; omega) (by omega) rfl rfl rfl W6
 refine ⟨h6, _, _, _, _, ins, fun α ret=>?_, d, by simpa [jy, cntN] using W7, rfl, rfl⟩
 rw [qx.f, qx.u9.f, qx.u1.f, e1, e2, e3, jk rfl, hB, qx.u8.f, qx.u6.f, qx.u2.f, w_to W, qx.u5.f, qx.u4.f]
 refine (e5 α _).trans ?_
 rw [qx.u7.f, hfl, zw (by omega) (by omega), show ((t.size:Int) - 1) = ((0 + t.size - 1:Nat):Int) by omega]
 exact e6 α _
end Go.Ab.S7
namespace Go.Ab.S7
variable {α:Type} {h:H}
def chk:List Nd->List Int->List Bool->List Int->Nat->List (List UInt8)->Int × Int
 | n :: l, t :: T, o :: O, d :: D, i, seen=>
  if n.kind = 4 ∧ t < 0 then ((i:Int), 11) else if n.kind = 4 ∧ o = true then ((i:Int), 12) else if fixK n.kind = true ∧ n.name ∈ seen then ((i:Int), 9) else if fixK n.kind = true ∧ 4 < d then ((i:Int), 13)
  else chk l T O D (i + 1) (if fixK n.kind = true then seen ++ [n.name] else seen)
 | _, _, _, _, _, _=>(0, 0)
def chkT (t:Tr):Int × Int:=chk (t.flat 0) (toA t 0 []) (oddA t 0 []) (depI t) 0 []
def zdk (l:List (List UInt8)):List (V × V):=l.map fun s=>(.str s, .bool true)
theorem zno (s:List UInt8):∀ l:List (List UInt8), zje (.str s) (zdk l) = some (if s ∈ l then some (V.bool true) else none)
 | []=>rfl
 | x :: l=>by
  have ih:=zno s l
  unfold zdk at ih ⊢
  simp only [List.map_cons, zje, keq]
  by_cases h:s = x
  ·subst h; simp
  ·rw [dF h]
   dsimp only
   rw [ih]
   simp [h]
theorem zql (s:List UInt8):∀ l:List (List UInt8), s ∉ l->putK (.str s) (.bool true) (zdk l) = some (zdk (l ++ [s]))
 | [], _=>rfl
 | x :: l, h=>by
  have ih:=zql s l (fun e=>h (List.mem_cons_of_mem _ e))
  unfold zdk at ih ⊢
  simp only [List.map_cons, putK, keq]
  rw [dF (fun e=>h (by rw [e]; exact List.mem_cons_self))]
  dsimp only
  rw [ih]
  rfl
section
variable {h₀:H} {w:Nat} {f to odd dep:Sl} {l:List Nd} {ins:Sl} {sc:List (Int × Int)} {nots:Int} {T:List Int} {O:List Bool} {D:List Int} {n:Nd} {q m i:Nat} {le:Int}
theorem u5_run (W:WS h₀ h w f to odd dep l ins sc nots T O D) (hq:h.get q = some (ndC n)) {ti:Int} (hTi:T[i]? = some ti) (k:Nat) (kn:Ad->Option Nat->Int->Ad->Sl->Int->Int->Bool->M α) :
  qa.u5.f k ⟨w, 0⟩ (some m) (i:Int) ⟨q, 0⟩ f le (i:Int) kn h = kn ⟨w, 0⟩ (some m) (i:Int) ⟨q, 0⟩ f le (i:Int) (decide (n.kind = 4 ∧ ti < 0)) h:=by
 rw [qa.u5.f, zaw hq]
 by_cases c:n.kind = 4
 ·rw [dT c, cond_true, w_to W, yk W.to.rd rfl hTi]
  simp [c]
 ·rw [dF c, cond_false]
  simp [c]
theorem u7_run (W:WS h₀ h w f to odd dep l ins sc nots T O D) (hq:h.get q = some (ndC n)) {oi:Bool} (hOi:O[i]? = some oi) (k:Nat) (b:Bool) (kn:Ad->Option Nat->Int->Ad->Sl->Int->Int->Bool->M α) :
  qa.u7.f k ⟨w, 0⟩ (some m) (i:Int) ⟨q, 0⟩ f le (i:Int) b kn h = kn ⟨w, 0⟩ (some m) (i:Int) ⟨q, 0⟩ f le (i:Int) (decide (n.kind = 4 ∧ oi = true)) h:=by
 rw [qa.u7.f, zaw hq]
 by_cases c:n.kind = 4
 ·rw [dT c, cond_true, w_odd W, bool_rd W.odd.rd rfl hOi]
  simp [c]
 ·rw [dF c, cond_false]
  simp [c]
theorem u9_run (W:WS h₀ h w f to odd dep l ins sc nots T O D) (hq:h.get q = some (ndC n)) (hql:q < h.next) {seen:List (List UInt8)} (hm:h.get m = some (.map (zdk seen))) (hml:m < h.next) (k:Nat) (b:Bool) (kn:Ad->Option Nat->Int->Ad->Sl->Int->Int->Bool->M α) :
  qa.u9.f (k + 1) ⟨w, 0⟩ (some m) (i:Int) ⟨q, 0⟩ f le (i:Int) b kn h = kn ⟨w, 0⟩ (some m) (i:Int) ⟨q, 0⟩ f le (i:Int) (decide (fixK n.kind = true ∧ n.name ∈ seen)) (h.push (ndC n)):=by
 have hq':(h.push (ndC n)).get q = some (ndC n):=by rw [zk, if_neg (by omega)]; exact hq
 rw [qa.u9.f, zbq hq, zju]
 cases c:fixK n.kind with
 | false=>rw [cond_false]; simp [c]
 | true=>
  rw [cond_true, zhy hq']
  unfold lookM zkv
  have hm':(h.push (ndC n)).get m = some (.map (zdk seen)):=by rw [zk, if_neg (by omega)]; exact hm
  simp only [hm', zno]
  by_cases hs:n.name ∈ seen
  ·simp only [hs, if_true, c, and_self, decide_true]
   rfl
  ·simp only [hs, if_false, c, and_false, decide_false]
theorem u10_run (W:WS h₀ h w f to odd dep l ins sc nots T O D) (hq:h.get q = some (ndC n)) {di:Int} (hDi:D[i]? = some di) (k:Nat) (kn:Ad->Option Nat->Ad->Sl->Int->Int->M α) (kr:Int->Int->M α) :
  qa.u10.f (k + 1) ⟨w, 0⟩ (some m) (i:Int) ⟨q, 0⟩ f le (i:Int) false kn kr h = if fixK n.kind = true ∧ 4 < di then kr (i:Int) 13 (h.push (ndC n)) else kn ⟨w, 0⟩ (some m) ⟨q, 0⟩ f le (i:Int) (h.push (ndC n)):=by
 have W':=W.push ((Ext.refl h).push (ndC n))
 rw [qa.u10.f, cond_false, zbq hq, zju]
 cases c:fixK n.kind with
 | false=>rw [cond_false, if_neg (fun h=>by cases h.1)]
 | true=>
  rw [cond_true, zgu W', yk W'.dep.rd rfl hDi]
  by_cases hd:4 < di
  ·rw [dT hd, cond_true, if_pos ⟨rfl, hd⟩]
  ·rw [dF hd, cond_false, if_neg (fun h=>hd h.2)]
theorem u17_run (hq:h.get q = some (ndC n)) (hql:q < h.next) {seen:List (List UInt8)} (hm:h.get m = some (.map (zdk seen))) (hml:m < h.next) (hs:¬ (fixK n.kind = true ∧ n.name ∈ seen)) (k:Nat) :
  ∃ h', (∀ (α:Type) (kn:Ad->Option Nat->Sl->Int->Int->M α), qa.u17.f (k + 1) ⟨w, 0⟩ (some m) ⟨q, 0⟩ f le (i:Int) kn h = kn ⟨w, 0⟩ (some m) f le (i:Int) h') ∧ h'.next = h.next + 1 ∧ (∀ i, i < h.next->i ≠ m->h'.get i = h.get i) ∧ h'.get m = some (.map (zdk (if fixK n.kind = true then seen ++ [n.name] else seen))):=by
 have hq':(h.push (ndC n)).get q = some (ndC n):=by rw [zk, if_neg (by omega)]; exact hq
 have hm':(h.push (ndC n)).get m = some (.map (zdk seen)):=by rw [zk, if_neg (by omega)]; exact hm
 cases c:fixK n.kind with
 | false=>
  refine ⟨h.push (ndC n), fun α kn=>?_, zj _, fun i hi _=>by rw [zk, if_neg (by omega)], hm'⟩
  rw [qa.u17.f, zbq hq, zju, c, cond_false]
 | true=>
  refine ⟨(h.push (ndC n)).put m (some (.map (zdk (seen ++ [n.name])))), fun α kn=>?_, zj (ndC n), fun i hi hne=>by rw [zi, if_neg hne, zk, if_neg (by omega)], by rw [zi, if_pos rfl]; rfl⟩
  rw [qa.u17.f, zbq hq, zju, c, cond_true, zhy hq']
  unfold setMap
  simp only [hm', zql n.name seen (fun e=>hs ⟨c, e⟩)]
end
theorem zrp {h₀ h₁:H} {w:Nat} {f to odd dep:Sl} {l:List Nd} {ins:Sl} {sc:List (Int × Int)} {nots:Int} {T:List Int} {O:List Bool} {D:List Int} (W₁:WS h₀ h₁ w f to odd dep l ins sc nots T O D)
  (hT:T.length = l.length) (hO:O.length = l.length) (hD:D.length = l.length) (hl:l.length≤1000) (k:Nat) (m:Nat) (hm:h₁.next≤m):∀ (j i:Nat) (h:H) (seen:List (List UInt8)), i≤l.length->l.length - i < j->Ext h₁ h->h.get m = some (.map (zdk seen))->m < h.next ->
   ∃ h', Ext h₁ h' ∧ ∀ (α:Type) (kr:Int->Int->M α), qa.u24.l (k + 1) kr (kr 0 0) j ⟨w, 0⟩ (some m) f (l.length:Int) (i:Int) h = kr (chk (l.drop i) (T.drop i) (O.drop i) (D.drop i) i seen).1 (chk (l.drop i) (T.drop i) (O.drop i) (D.drop i) i seen).2 h':=by
 intro j
 induction j with
 | zero=>intro i h seen hi hj; omega
 | succ j ih=>
  intro i h seen hi hj x hmap hml
  by_cases hlt:i < l.length
  rotate_left
  ·refine ⟨h, x, fun α kr=>?_⟩
   rw [qa.u24.l, qa.u23.f, qa.u3.f, dF (by omega:¬ (i:Int) < (l.length:Int)), cond_false, List.drop_of_length_le (by omega)]
   rfl
  have hi:l[i]? = some l[i]:=List.getElem?_eq_getElem hlt
  have hTi:T[i]? = some T[i]:=List.getElem?_eq_getElem (by omega)
  have hOi:O[i]? = some O[i]:=List.getElem?_eq_getElem (by omega)
  have hDi:D[i]? = some D[i]:=List.getElem?_eq_getElem (by omega)
  rw [List.drop_eq_getElem_cons hlt, List.drop_eq_getElem_cons (by omega:i < T.length), List.drop_eq_getElem_cons (by omega:i < O.length), List.drop_eq_getElem_cons (by omega:i < D.length), chk]
  generalize l[i] = n at hi ⊢
  generalize T[i] = ti at hTi ⊢
  generalize O[i] = oi at hOi ⊢
  generalize D[i] = di at hDi ⊢
  have W:=W₁.push x
  have x1:Ext h (h.push (ndC n)):=(Ext.refl h).push _
  have hq:(h.push (ndC n)).get h.next = some (ndC n):=by rw [zk, if_pos rfl]
  have hql:h.next < (h.push (ndC n)).next:=by rw [zj]; omega
  have W1:=W.push x1
  have start:∀ (α:Type) (kr:Int->Int->M α), qa.u24.l (k + 1) kr (kr 0 0) (j + 1) ⟨w, 0⟩ (some m) f (l.length:Int) (i:Int) h = _:=fun α kr=>by
   rw [qa.u24.l, qa.u23.f, qa.u3.f, dT (by omega:(i:Int) < (l.length:Int)), cond_true, qa.u22.f, qa.u20.f, qa.u19.f, qa.u4.f, zcv (W.f.ext W.ext) rfl hi, zeb, qa.u18.f, qa.u16.f, qa.u15.f, u5_run W1 hq hTi]
  have hm1:(h.push (ndC n)).get m = some (.map (zdk seen)):=by rw [x1.2 m hml]; exact hmap
  generalize h.push (ndC n) = h1 at start x1 hq hql W1 hm1
  have hml1:m < h1.next:=Nat.lt_of_lt_of_le hml x1.1
  by_cases c1:n.kind = 4 ∧ ti < 0
  ·rw [if_pos c1]
   refine ⟨h1, x.trans x1, fun α kr=>?_⟩
   rw [start, dT c1, qa.u14.f, cond_true, qa.u6.f]
  rw [if_neg c1]
  have start2:∀ (α:Type) (kr:Int->Int->M α), qa.u24.l (k + 1) kr (kr 0 0) (j + 1) ⟨w, 0⟩ (some m) f (l.length:Int) (i:Int) h = _:=fun α kr=>by
   rw [start, dF c1, qa.u14.f, cond_false, qa.u13.f, u7_run W1 hq hOi]
  clear start
  by_cases c2:n.kind = 4 ∧ oi = true
  ·rw [if_pos c2]
   refine ⟨h1, x.trans x1, fun α kr=>?_⟩
   rw [start2, dT c2, qa.u12.f, cond_true, qa.u8.f]
  rw [if_neg c2]
  have x2:Ext h1 (h1.push (ndC n)):=(Ext.refl h1).push _
  have start3:∀ (α:Type) (kr:Int->Int->M α), qa.u24.l (k + 1) kr (kr 0 0) (j + 1) ⟨w, 0⟩ (some m) f (l.length:Int) (i:Int) h = _:=fun α kr=>by
   rw [start2, dF c2, qa.u12.f, cond_false, qa.u11.f, u9_run W1 hq hql hm1 hml1]
  clear start2
  have hq2:(h1.push (ndC n)).get h.next = some (ndC n):=by rw [x2.2 _ hql]; exact hq
  have hm2:(h1.push (ndC n)).get m = some (.map (zdk seen)):=by rw [x2.2 m hml1]; exact hm1
  have hql2:h.next < (h1.push (ndC n)).next:=Nat.lt_of_lt_of_le hql x2.1
  have hml2:=Nat.lt_of_lt_of_le hml1 x2.1
  have W2:=W1.push x2
  generalize h1.push (ndC n) = h2 at start3 x2 hq2 hm2 hql2 hml2 W2
  by_cases c3:fixK n.kind = true ∧ n.name ∈ seen
  ·rw [if_pos c3]
   refine ⟨h2, (x.trans x1).trans x2, fun α kr=>?_⟩
   rw [start3, dT c3, qa.u10.f, cond_true]
  rw [if_neg c3]
  have x3:Ext h2 (h2.push (ndC n)):=(Ext.refl h2).push _
  have start4:∀ (α:Type) (kr:Int->Int->M α), qa.u24.l (k + 1) kr (kr 0 0) (j + 1) ⟨w, 0⟩ (some m) f (l.length:Int) (i:Int) h = _:=fun α kr=>by
   rw [start3, dF c3, u10_run W2 hq2 hDi]
  clear start3
  have hq3:(h2.push (ndC n)).get h.next = some (ndC n):=by rw [x3.2 _ hql2]; exact hq2
  have hm3:(h2.push (ndC n)).get m = some (.map (zdk seen)):=by rw [x3.2 m hml2]; exact hm2
  have hql3:=Nat.lt_of_lt_of_le hql2 x3.1
  have hml3:=Nat.lt_of_lt_of_le hml2 x3.1
  generalize h2.push (ndC n) = h3 at start4 x3 hq3 hm3 hql3 hml3
  by_cases c4:fixK n.kind = true ∧ 4 < di
  ·rw [if_pos c4]
   refine ⟨h3, ((x.trans x1).trans x2).trans x3, fun α kr=>?_⟩
   rw [start4, if_pos c4]
  rw [if_neg c4]
  obtain ⟨h4, e4, n4, g4, hm4⟩:=u17_run (w:=w) (f:=f) (i:=i) (le:=(l.length:Int)) hq3 hql3 hm3 hml3 c3 k
  have x03:=((x.trans x1).trans x2).trans x3
  have x04:Ext h₁ h4:=⟨by have:=x03.1; omega, fun i hi=>by rw [g4 i (by have:=x03.1; omega) (by omega)]; exact x03.2 i hi⟩
  obtain ⟨h', x', e'⟩:=ih (i + 1) h4 _ (by omega) (by omega) x04 hm4 (by omega)
  refine ⟨h', x', fun α kr=>?_⟩
  rw [start4, if_neg c4, e4, qa.u21.f, zw (by omega) (by omega)]
  exact e' α kr
theorem znd (k:Nat) (hk:500≤k) {f:Sl} {t:Tr} (ht:t.ok = true) (hs:t.size≤60) (h:H) (r:NdR h f (t.flat 0)) :
  ∃ h', (∀ (α:Type) (ret:Int->Int->M α), qa.f (k + 1) f ret h = ret (chkT t).1 (chkT t).2 h') ∧ Ext h h':=by
 obtain ⟨k, rfl⟩:∃ q, k = q + 1:=⟨k - 1, by omega⟩
 have hR:zcs (t.flat 0) = true:=(zik _).2 ⟨t, ht, rfl, hs⟩
 obtain ⟨h1, e1, x1⟩:=zna k (by omega) h r
 rw [hR] at e1
 obtain ⟨h2, w, to, odd, dep, ins, e2, d, W2, _, _⟩:=zri k (by omega) ht hs h1 (r.ext x1)
 have x3:Ext h2 (h2.push (.map [])):=(Ext.refl h2).push _
 have hfl:f.len = (t.flat 0).length:=jv r
 obtain ⟨h', x', e'⟩:=zrp W2 (by rw [ye, zd]) (by rw [ya, zd]) (by rw [jp, zd]) (by rw [zd]; omega) k h2.next (Nat.le_refl _) (k + 1) 0 (h2.push (.map [])) [] (Nat.zero_le _) (by rw [zd]; omega) x3 (by rw [zk, if_pos rfl]; rfl) (by rw [zj]; omega)
 simp only [List.drop_zero] at e'
 refine ⟨h', fun α ret=>?_, x1.trans (W2.ext.trans x')⟩
 rw [qa.f, qa.u29.f, qa.u1.f, e1, Bool.not_true, cond_false, e2]
 rw [show ∀ K:Nat->M α, zol K h2 = K h2.next (h2.push (.map [])) from fun _=>rfl, qa.u28.f, qa.u26.f, qa.u2.f, qa.u25.f, qa.u24.f, qa.u27.f, hfl]
 exact e' α ret
theorem check_bad (k:Nat) (hk:500≤k) {f:Sl} {l:List Nd} (hR:zcs l = false) (h:H) (r:NdR h f l) :
  ∃ h', (∀ (α:Type) (ret:Int->Int->M α), qa.f (k + 1) f ret h = ret 0 1 h') ∧ Ext h h':=by
 obtain ⟨k, rfl⟩:∃ q, k = q + 1:=⟨k - 1, by omega⟩
 obtain ⟨h1, e1, x1⟩:=zna k (by omega) h r
 rw [hR] at e1
 refine ⟨h1, fun α ret=>?_, x1⟩
 rw [qa.f, qa.u29.f, qa.u1.f, e1, Bool.not_false, cond_true]
end Go.Ab.S7
