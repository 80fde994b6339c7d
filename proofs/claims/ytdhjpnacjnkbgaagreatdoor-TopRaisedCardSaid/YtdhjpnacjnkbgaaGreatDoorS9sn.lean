import Derived.Test.YtdhjpnacjnkbgaaGreatDoorS9si
import Derived.Test.YtdhjpnacjnkbgaaGreatDoorS9pa
set_option linter.unusedVariables false
set_option linter.unusedSimpArgs false
set_option linter.unusedSectionVars false
namespace Go.Ab.S9
variable {α:Type} {h:H}
structure P2 (h₀ h:H) (q b n:Nat) (fs ls ms:Sl) (R:List (List Nat)) (sls:List Sl) (L mo:List Int) (S:Nat) (op:Sl) (O:List Nat):Prop where
 ext:Ext h₀ h
 fr:MvR h fs (R.map ints) sls
 fid:∀ a, fs.ad = some a->a.id < q ∧ a.id ≠ ls.id ∧ a.id ≠ ms.id
 rid:∀ (i:Nat) (s:Sl) (a:Ad), sls[i]? = some s->s.ad = some a->a.id < q ∧ a.id ≠ ls.id ∧ a.id ≠ ms.id
 l1:h₀.next≤ls.id
 l2:ls.id < q
 m1:h₀.next≤ms.id
 m2:ms.id < q
 ne:ls.id ≠ ms.id
 q1:h₀.next≤q
 qb:q < b
 bn:b≤h.next
 n1:R.length = n
 n2:L.length = n
 n3:mo.length = n
 lo:Own h ls 1 (L.flatMap cI)
 mo:Own h ms 1 (mo.flatMap cI)
 sq:Q h q S
 op:Gr h b op (ints O)
section
variable {h₀:H} {q b n:Nat} {fs ls ms op:Sl} {R:List (List Nat)} {sls:List Sl} {L mo:List Int} {S:Nat} {O:List Nat}
theorem MvR.keep {h':H} {m:Sl} {mv:List (List Int)} {rows:List Sl} (r:MvR h m mv rows) (hn:h.next≤h'.next) (h1:∀ a, m.ad = some a->h'.get a.id = h.get a.id)
  (h2:∀ (i:Nat) (s:Sl) (a:Ad), rows[i]? = some s->s.ad = some a->h'.get a.id = h.get a.id):MvR h' m mv rows:=
 ⟨r.top.keep hn h1, r.len, fun i s l e1 e2=>(r.row i s l e1 e2).keep hn (h2 i s · e1)⟩
theorem P2.push (P:P2 h₀ h q b n fs ls ms R sls L mo S op O) {h':H} (x:Ext h h'):P2 h₀ h' q b n fs ls ms R sls L mo S op O:=
 { P with
  ext:=P.ext.trans x
  fr:=P.fr.ext x
  bn:=Nat.le_trans P.bn x.1
  lo:=P.lo.ext x
  mo:=P.mo.ext x
  sq:=by show h'.get q = _; rw [x.2 q (Nat.lt_of_lt_of_le P.qb P.bn)]; exact P.sq
  op:=P.op.ext x }
theorem P2.stm (P:P2 h₀ h q b n fs ls ms R sls L mo S op O) {i:Nat} (v:Int) {x:Int} (hx:x = (i:Int)) (hi:i < n) :
  ∃ h', (∀ (α:Type) (K:M α), idxSl ms x 1 (fun a=>st1 (a.add 0) (.int .i64 v) K) h = K h') ∧ P2 h₀ h' q b n fs ls ms R sls L (mo.set i v) S op O:=by
 obtain ⟨h', e, o, n', g⟩:=zdx P.mo v hx (by rw [P.n3]; exact hi)
 have m2:=P.m2
 have qb:=P.qb
 exact ⟨h', e, { P with
  ext:=⟨by have:=P.ext.1; omega, fun j hj=>(g j (by have:=P.m1; omega)).trans (P.ext.2 j hj)⟩
  fr:=P.fr.keep (by omega) (fun a ha=>g _ (P.fid a ha).2.2) fun i s a hs ha=>g _ (P.rid i s a hs ha).2.2
  bn:=by have:=P.bn; omega
  n3:=by rw [List.length_set]; exact P.n3
  lo:=P.lo.keep (by omega) (g _ P.ne)
  mo:=o
  sq:=by show h'.get q = _; rw [g q (by omega)]; exact P.sq
  op:=P.op.keep (by omega) fun a ha=>g _ (by have:=P.op.old a ha; omega) }⟩
theorem P2.stl (P:P2 h₀ h q b n fs ls ms R sls L mo S op O) {i:Nat} (v:Int) {x:Int} (hx:x = (i:Int)) (hi:i < n) :
  ∃ h', (∀ (α:Type) (K:M α), idxSl ls x 1 (fun a=>st1 (a.add 0) (.int .i64 v) K) h = K h') ∧ P2 h₀ h' q b n fs ls ms R sls (L.set i v) mo S op O:=by
 obtain ⟨h', e, o, n', g⟩:=zdx P.lo v hx (by rw [P.n2]; exact hi)
 have l2:=P.l2
 have qb:=P.qb
 exact ⟨h', e, { P with
  ext:=⟨by have:=P.ext.1; omega, fun j hj=>(g j (by have:=P.l1; omega)).trans (P.ext.2 j hj)⟩
  fr:=P.fr.keep (by omega) (fun a ha=>g _ (P.fid a ha).2.1) fun i s a hs ha=>g _ (P.rid i s a hs ha).2.1
  bn:=by have:=P.bn; omega
  n2:=by rw [List.length_set]; exact P.n2
  lo:=o
  mo:=P.mo.keep (by omega) (g _ (Ne.symm P.ne))
  sq:=by show h'.get q = _; rw [g q (by omega)]; exact P.sq
  op:=P.op.keep (by omega) fun a ha=>g _ (by have:=P.op.old a ha; omega) }⟩
theorem P2.sts (P:P2 h₀ h q b n fs ls ms R sls L mo S op O) (U:Nat):P2 h₀ (h.put q (some (c4 (wi U 0) (wi U 1) (wi U 2) (wi U 3)))) q b n fs ls ms R sls L mo U op O:=by
 have l2:=P.l2
 have m2:=P.m2
 have qb:=P.qb
 exact { P with
  ext:=P.ext.put _ P.q1
  fr:=P.fr.keep (Nat.le_refl _) (fun a ha=>zo _ _ (by have:=(P.fid a ha).1; omega)) fun i s a hs ha=>zo _ _ (by have:=(P.rid i s a hs ha).1; omega)
  lo:=P.lo.keep (Nat.le_refl _) (zo _ _ (by omega))
  mo:=P.mo.keep (Nat.le_refl _) (zo _ _ (by omega))
  sq:=zh _ _ _
  op:=P.op.keep (Nat.le_refl _) fun a ha=>zo _ _ (by have:=P.op.old a ha; omega) }
theorem P2.app (P:P2 h₀ h q b n fs ls ms R sls L mo S op O) (v:Nat) (hl:O.length≤1000000) :
  ∃ op' h', (∀ (α:Type) (K:Sl->M α), (new [.int .i64 (v:Int)] fun a=>yr op 1 8 ⟨some a, 1, 1, none⟩ K) h = K op' h') ∧ P2 h₀ h' q b n fs ls ms R sls L mo S op' (O ++ [v]):=by
 obtain ⟨s', h', e, g, n', k, _⟩:=P.op.app1 (v:Int) P.bn (by rw [yp]; exact hl)
 rw [← zlg] at g
 have l2:=P.l2
 have m2:=P.m2
 have qb:=P.qb
 have bn:=P.bn
 have kk:∀ j, j < b->h'.get j = h.get j:=fun j hj=>k j (by omega) fun a ha hb=>by omega
 exact ⟨s', h', e, { P with
  ext:=⟨by have:=P.ext.1; omega, fun j hj=>(kk j (by have:=P.q1; omega)).trans (P.ext.2 j hj)⟩
  fr:=P.fr.keep n' (fun a ha=>kk _ (by have:=(P.fid a ha).1; omega)) fun i s a hs ha=>kk _ (by have:=(P.rid i s a hs ha).1; omega)
  bn:=Nat.le_trans bn n'
  lo:=P.lo.keep n' (kk _ (by omega))
  mo:=P.mo.keep n' (kk _ (by omega))
  sq:=by show h'.get q = _; rw [kk q qb]; exact P.sq
  op:=g }⟩
theorem P2.ldl (P:P2 h₀ h q b n fs ls ms R sls L mo S op O) {i:Nat} {x:Int} (hx:x = (i:Int)) (hi:i < n) (K:Int->M α):idxSl ls x 1 (fun a=>ldI .i64 (a.add 0) K) h = K (L.getD i 0) h:=by
 refine jy P.lo.rd hx ?_ K
 rw [List.getD_eq_getElem?_getD, List.getElem?_eq_getElem (by rw [P.n2]; exact hi)]; rfl
end
def pn (b:Bool):Int:=if b then 1 else 0
theorem zeu (a b:Bool):decide (pn a = pn b) = (a == b):=by cases a <;> cases b <;> rfl
section
variable {G:PG} {sv:Nat->List Nat} {I:Nat->Bool} {T:Nat->Prop} {p:Bool} {n:Nat}
theorem AInv.lt {Ls:List Nat} {S:Nat} (v:AInv G sv (fun j=>I j = true) T p Ls S) (hI:∀ j, I j = true->j < n) (hn:n≤256):S < FS:=zgj fun j hj=>by
 cases e:S.testBit j with
 | false=>rfl
 | true=>have:=hI j (v.inI j ((v.set j).1 e)); omega
theorem AInv.few {Ls:List Nat} {S:Nat} (v:AInv G sv (fun j=>I j = true) T p Ls S) (hI:∀ j, I j = true->j < n):Ls.length≤n:=pig n Ls v.nd fun x hx=>hI x (v.inI x hx)
def lf (L:List Int):Nat->Int:=fun i=>L.getD i 0
theorem lf_set {L:List Int} {i:Nat} (v:Int) (hi:i < L.length):lf (L.set i v) = fun j=>if j = i then v else lf L j:=funext fun j=>by
 unfold lf
 rw [zaj]
 by_cases e:j = i
 ·subst e; rw [if_pos ⟨rfl, hi⟩, if_pos rfl]
 ·rw [if_neg (fun q=>e q.1.symm), if_neg e]
theorem cnt_le (D l:List Nat):cnt I D l≤l.length:=List.countP_le_length
theorem w_in (k:Nat) (hk:5 < k) {h₀:H} {q b:Nat} {fs ls ms rs:Sl} {R:List (List Nat)} {sls:List Sl} {gq:Nat} {x2:Ad} {o pr mm':Sl} {ow:List Int} {D F:List Nat} {m fi:Nat} {pp:Int}
  (hpp:pp = pn p) (hgq:h₀.get gq = some (gC o pr mm')) (hgn:gq < h₀.next) (ro:Rd h₀ o 1 (ow.flatMap cI)) (how:∀ i, i < n->ow[i]? = some (pn (G.own i)))
  (hI:∀ j, I j = true->j < n) (hn:n≤256) (hsl:sls[fi]? = some rs) (hR:R[fi]? = some F) (hFI:∀ v ∈ F, I v = true) (hFl:F.length≤1000000) (hsv:∀ i, i < n->(sv i).length≤1000)
  (hmI:I m = true) (hmD:m ∉ D) (hF:∀ i, I i = true->F.count i = (sv i).count m) :
  ∀ (c t:Nat) (L mo:List Int) (S:Nat) (op:Sl) (O:List Nat) (h:H), t + c = F.length->P2 h₀ h q b n fs ls ms R sls L mo S op O->AInv G sv (fun j=>I j = true) T p (D ++ O) S->m ∈ O ->
   Acc G sv I p (D ++ O) D F t (lf L) ->
   ∃ h' L' mo' S' op' X, P2 h₀ h' q b n fs ls ms R sls L' mo' S' op' (O ++ X) ∧ AInv G sv (fun j=>I j = true) T p (D ++ (O ++ X)) S' ∧ Acc G sv I p (D ++ (O ++ X)) D F F.length (lf L') ∧
    ∀ (α:Type) (mm:Nat) (kx:Int->Ad->Ad->Sl->Sl->Sl->Ad->Sl->M α), c < mm ->
     qa.u29.l (k + 1) kx mm pp ⟨gq, 0⟩ x2 fs ls ms ⟨q, 0⟩ op (m:Int) rs (F.length:Int) (t:Int) h = kx pp ⟨gq, 0⟩ x2 fs ls ms ⟨q, 0⟩ op' h':=by
 intro c
 induction c with
 | zero=>
  intro t L mo S op O h ht P v hmO a
  rw [show t = F.length by omega] at a
  refine ⟨h, L, mo, S, op, [], by rw [List.append_nil]; exact P, by rw [List.append_nil]; exact v, by rw [List.append_nil]; exact a, fun α mm kx hm=>?_⟩
  obtain ⟨mm, rfl⟩:∃ q, mm = q + 1:=⟨mm - 1, by omega⟩
  rw [qa.u29.l]
  unfold qa.u28.f
  rw [qa.u21.f, dF (by omega), cond_false]
 | succ c ih=>
  intro t L mo S op O h ht P v hmO a
  obtain ⟨i, hi, hd, hlt⟩:∃ v, F[t]? = some v ∧ F.drop t = v :: F.drop (t + 1) ∧ t < F.length:=by
   rcases idec (l:=F) (j:=t) (by omega) with ⟨m, h1, h2, h3⟩ | ⟨_, h2⟩
   ·exact ⟨m, h1, h2, h3⟩
   ·omega
  have hIi:=hFI i (List.mem_of_getElem? hi)
  have hin:=hI i hIi
  have tn:w64 ((t:Int) + 1) = ((t + 1:Nat):Int):=by rw [yt (by omega) (by omega)]; rfl
  have hS:=v.lt hI hn
  have hcnt:=(a i hIi).1
  have c1:=cnt_le (I:=I) D (sv i)
  have c2:=hsv i hin
  have c3:(F.take t).count i≤F.length:=Nat.le_trans List.count_le_length (by rw [List.length_take]; omega)
  have hlf:lf L i = L.getD i 0:=rfl
  obtain ⟨h1, e1, Pa⟩:=P.stl (L.getD i 0 - 1) (x:=(i:Int)) rfl hin
  obtain ⟨h2, x2', e2⟩:=zcj (h:=h1) k hS (i:Int)
  have Pb:=Pa.push x2'
  have hL2:i < L.length:=by rw [P.n2]; exact hin
  have hnew:(L.set i (L.getD i 0 - 1)).getD i 0 = L.getD i 0 - 1:=by rw [zaj, if_pos ⟨rfl, hL2⟩]
  have hrow:=P.fr.row fi rs (ints F) hsl (by rw [List.getElem?_map, hR]; rfl)
  have hgb:h2.get gq = some (gC o pr mm'):=by rw [Pb.ext.2 gq hgn]; exact hgq
  have rob:=ro.ext Pb.ext
  -- it is left as it is
  have skip:(i ∈ D ++ O ∨ (G.own i = (!p) ∧ 0 < lf L i - 1))->∃ h' L' mo' S' op' X, P2 h₀ h' q b n fs ls ms R sls L' mo' S' op' (O ++ X) ∧ AInv G sv (fun j=>I j = true) T p (D ++ (O ++ X)) S' ∧ Acc G sv I p (D ++ (O ++ X)) D F F.length (lf L') ∧
    ∀ (α:Type) (mm:Nat) (kx:Int->Ad->Ad->Sl->Sl->Sl->Ad->Sl->M α), c < mm ->
     qa.u29.l (k + 1) kx mm pp ⟨gq, 0⟩ x2 fs ls ms ⟨q, 0⟩ op (m:Int) rs (F.length:Int) (w64 ((t:Int) + 1)) h2 = kx pp ⟨gq, 0⟩ x2 fs ls ms ⟨q, 0⟩ op' h':=fun hs=>by
   have a2:=a.skip hi hs
   rw [show (fun j=>if j = i then lf L i - 1 else lf L j) = lf (L.set i (L.getD i 0 - 1)) from (lf_set _ hL2).symm] at a2
   rw [tn]
   exact ih (t + 1) _ _ _ _ _ h2 (by omega) Pb v hmO a2
  -- it is taken
  have take:i ∉ D ++ O->¬ (G.own i = (!p) ∧ 0 < lf L i - 1)->∃ h' L' mo' S' op' X, P2 h₀ h' q b n fs ls ms R sls L' mo' S' op' (O ++ X) ∧ AInv G sv (fun j=>I j = true) T p (D ++ (O ++ X)) S' ∧ Acc G sv I p (D ++ (O ++ X)) D F F.length (lf L') ∧
    ∀ (α:Type) (mm:Nat) (kx:Int->Ad->Ad->Sl->Sl->Sl->Ad->Sl->M α), c < mm ->
     qa.u23.f (k + 1) pp ⟨gq, 0⟩ x2 fs ls ms ⟨q, 0⟩ op (m:Int) (i:Int) rs (F.length:Int) (t:Int) (fun y0 y1 y2 y3 y4 y5 y6 y7 y8 y9 y10 y11=>
      qa.u29.l (k + 1) kx mm y0 y1 y2 y3 y4 y5 y6 y7 y8 y9 y10 (w64 (y11 + 1))) h2 = kx pp ⟨gq, 0⟩ x2 fs ls ms ⟨q, 0⟩ op' h':=fun hnL hs=>by
   have a2:=a.add hi
   rw [show (fun j=>if j = i then lf L i - 1 else lf L j) = lf (L.set i (L.getD i 0 - 1)) from (lf_set _ hL2).symm] at a2
   have v2:=v.add a hi hIi hmI hmD (List.mem_append_right _ hmO) (fun d hd=>List.mem_append_left _ hd) hF hnL hs
   rw [List.append_assoc] at v2 a2
   have hU:wth S (i:Int) = S ||| 2 ^ i:=by unfold wth; rw [if_pos ⟨by omega, by omega⟩]; rfl
   have hfew:=v.few hI
   rw [List.length_append] at hfew
   -- with or without a move noted
   have tail:∀ (mo2:List Int) (h3:H), P2 h₀ h3 q b n fs ls ms R sls (L.set i (L.getD i 0 - 1)) mo2 S op O->∃ h' L' mo' S' op' X, P2 h₀ h' q b n fs ls ms R sls L' mo' S' op' (O ++ X) ∧ AInv G sv (fun j=>I j = true) T p (D ++ (O ++ X)) S' ∧ Acc G sv I p (D ++ (O ++ X)) D F F.length (lf L') ∧
     ∀ (α:Type) (mm:Nat) (kx:Int->Ad->Ad->Sl->Sl->Sl->Ad->Sl->M α), c < mm ->
      (ldI .u64 ((⟨q, 0⟩:Ad).add 0) fun x19=>
      ldI .u64 ((⟨q, 0⟩:Ad).add 1) fun x20=>
      ldI .u64 ((⟨q, 0⟩:Ad).add 2) fun x21=>
      ldI .u64 ((⟨q, 0⟩:Ad).add 3) fun x22=>
      qy.f (k + 1) x19 x20 x21 x22 (i:Int) fun r23 r24 r25 r26=>
      st1 ((⟨q, 0⟩:Ad).add 0) (.int .u64 r23) <|
      st1 ((⟨q, 0⟩:Ad).add 1) (.int .u64 r24) <|
      st1 ((⟨q, 0⟩:Ad).add 2) (.int .u64 r25) <|
      st1 ((⟨q, 0⟩:Ad).add 3) (.int .u64 r26) <|
      new [.int .i64 (i:Int)] fun r27=>
      yr op 1 8 (⟨some r27, 1, 1, none⟩:Sl) fun x28=>
      qa.u29.l (k + 1) kx mm pp ⟨gq, 0⟩ x2 fs ls ms ⟨q, 0⟩ x28 (m:Int) rs (F.length:Int) (w64 ((t:Int) + 1))) h3 = kx pp ⟨gq, 0⟩ x2 fs ls ms ⟨q, 0⟩ op' h':=fun mo2 h3 Pc=>by
    obtain ⟨h4, x4, e4⟩:=zhx (h:=h3) k S (i:Int)
    rw [hU] at e4
    have Pd:=(Pc.push x4).sts (S ||| 2 ^ i)
    obtain ⟨op2, h5, e5, Pe⟩:=Pd.app i (by omega)
    obtain ⟨h', L', mo', S', op', X, b1, b2, b3, b4⟩:=ih (t + 1) _ _ _ _ _ h5 (by omega) Pe v2 (List.mem_append_left _ hmO) a2
    rw [List.append_assoc] at b1 b2 b3
    refine ⟨h', L', mo', S', op', [i] ++ X, b1, b2, b3, fun α mm kx hmm=>?_⟩
    refine (ld4 Pc.sq _).trans ?_
    rw [e4]
    refine (st4 ⟨_, _, _, _, (Pc.push x4).sq⟩ _).trans ?_
    refine (e5 α _).trans ?_
    rw [tn]
    exact b4 α mm kx hmm
   by_cases ho:G.own i = p
   ·obtain ⟨h3, e3, Pc⟩:=Pb.stm (m:Int) (x:=(i:Int)) rfl hin
    obtain ⟨h', L', mo', S', op', X, b1, b2, b3, b4⟩:=tail _ h3 Pc
    refine ⟨h', L', mo', S', op', X, b1, b2, b3, fun α mm kx hmm=>?_⟩
    rw [qa.u23.f, g_o hgb, jy rob rfl (how i hin), hpp, zeu, ho, beq_self_eq_true, cond_true, ← hpp]
    refine (e3 α _).trans ?_
    exact b4 α mm kx hmm
   ·obtain ⟨h', L', mo', S', op', X, b1, b2, b3, b4⟩:=tail _ h2 Pb
    refine ⟨h', L', mo', S', op', X, b1, b2, b3, fun α mm kx hmm=>?_⟩
    have hbq:(G.own i == p) = false:=by simpa using ho
    rw [qa.u23.f, g_o hgb, jy rob rfl (how i hin), hpp, zeu, hbq, cond_false, ← hpp]
    exact b4 α mm kx hmm
  have start:∀ (α:Type) (mm:Nat) (kx:Int->Ad->Ad->Sl->Sl->Sl->Ad->Sl->M α),
    qa.u29.l (k + 1) kx (mm + 1) pp ⟨gq, 0⟩ x2 fs ls ms ⟨q, 0⟩ op (m:Int) rs (F.length:Int) (t:Int) h =
     cond (S.testBit i) (qa.u29.l (k + 1) kx mm pp ⟨gq, 0⟩ x2 fs ls ms ⟨q, 0⟩ op (m:Int) rs (F.length:Int) (w64 ((t:Int) + 1)) h2)
      (cond (!(G.own i == p)) (cond (decide (0 < lf L i - 1)) (qa.u29.l (k + 1) kx mm pp ⟨gq, 0⟩ x2 fs ls ms ⟨q, 0⟩ op (m:Int) rs (F.length:Int) (w64 ((t:Int) + 1)) h2)
       (qa.u23.f (k + 1) pp ⟨gq, 0⟩ x2 fs ls ms ⟨q, 0⟩ op (m:Int) (i:Int) rs (F.length:Int) (t:Int) (fun y0 y1 y2 y3 y4 y5 y6 y7 y8 y9 y10 y11=>
        qa.u29.l (k + 1) kx mm y0 y1 y2 y3 y4 y5 y6 y7 y8 y9 y10 (w64 (y11 + 1))) h2))
       (qa.u23.f (k + 1) pp ⟨gq, 0⟩ x2 fs ls ms ⟨q, 0⟩ op (m:Int) (i:Int) rs (F.length:Int) (t:Int) (fun y0 y1 y2 y3 y4 y5 y6 y7 y8 y9 y10 y11=>
        qa.u29.l (k + 1) kx mm y0 y1 y2 y3 y4 y5 y6 y7 y8 y9 y10 (w64 (y11 + 1))) h2)):=fun α mm kx=>by
   rw [qa.u29.l]
   unfold qa.u28.f qa.u27.f qa.u25.f qa.u24.f
   rw [qa.u21.f, dT (by omega), cond_true, qa.u22.f, jy hrow rfl (zcw hi), P.ldl rfl hin, yt (by omega) (by omega)]
   refine (e1 α _).trans ?_
   refine (ld4 Pa.sq _).trans ?_
   rw [e2, zak]
   cases S.testBit i with
   | true=>rfl
   | false=>
    rw [cond_false, cond_false, g_o hgb, jy rob rfl (how i hin), hpp, zeu]
    cases (G.own i == p) with
    | true=>rfl
    | false=>
     rw [Bool.not_false, cond_true, cond_true, Pb.ldl rfl hin, hnew, ← hlf]
     cases decide (0 < lf L i - 1) <;> rfl
  by_cases hset:S.testBit i = true
  ·obtain ⟨h', L', mo', S', op', X, b1, b2, b3, b4⟩:=skip (.inl ((v.set i).1 hset))
   refine ⟨h', L', mo', S', op', X, b1, b2, b3, fun α mm kx hmm=>?_⟩
   obtain ⟨mm, rfl⟩:∃ q, mm = q + 1:=⟨mm - 1, by omega⟩
   rw [start, hset, cond_true]
   exact b4 α mm kx (by omega)
  ·have hsf:S.testBit i = false:=by simpa using hset
   have hnL:i ∉ D ++ O:=fun hq=>hset ((v.set i).2 hq)
   by_cases hout:G.own i = (!p) ∧ 0 < lf L i - 1
   ·obtain ⟨h', L', mo', S', op', X, b1, b2, b3, b4⟩:=skip (.inr hout)
    refine ⟨h', L', mo', S', op', X, b1, b2, b3, fun α mm kx hmm=>?_⟩
    obtain ⟨mm, rfl⟩:∃ q, mm = q + 1:=⟨mm - 1, by omega⟩
    have hne:(G.own i == p) = false:=by rw [hout.1]; cases p <;> rfl
    rw [start, hsf, cond_false, hne, dT hout.2]
    exact b4 α mm kx (by omega)
   ·obtain ⟨h', L', mo', S', op', X, b1, b2, b3, b4⟩:=take hnL hout
    refine ⟨h', L', mo', S', op', X, b1, b2, b3, fun α mm kx hmm=>?_⟩
    obtain ⟨mm, rfl⟩:∃ q, mm = q + 1:=⟨mm - 1, by omega⟩
    rw [start, hsf, cond_false]
    by_cases ho:G.own i = p
    ·have hbq:(G.own i == p) = true:=by rw [ho]; simp
     rw [hbq]
     exact b4 α mm kx (by omega)
    ·have hbq:(G.own i == p) = false:=by simpa using ho
     have ho2:G.own i = (!p):=by revert ho; cases G.own i <;> cases p <;> simp
     rw [hbq, dF (fun hq=>hout ⟨ho2, hq⟩)]
     exact b4 α mm kx (by omega)
end
end Go.Ab.S9
namespace Go.Ab.S9
variable {α:Type} {h:H}
theorem zgx (I i:Nat):∀ (l:List Nat) (R:List (List Nat)) (L:List Int), (∀ m ∈ l, m < R.length)->i < L.length ->
  (in1F I i l R L).1.length = R.length ∧ (in1F I i l R L).2.length = L.length ∧
  (∀ m j, ((in1F I i l R L).1.getD m []).count j = (R.getD m []).count j + if j = i ∧ I.testBit m = true then l.count m else 0) ∧
  (∀ m v, v ∈ (in1F I i l R L).1.getD m []->v ∈ R.getD m [] ∨ v = i) ∧
  (∀ j, (in1F I i l R L).2.getD j 0 = L.getD j 0 + if j = i then ((l.countP fun m=>I.testBit m:Nat):Int) else 0)
 | [], R, L, _, _=>⟨rfl, rfl, fun m j=>by simp [in1F], fun m v hv=>.inl hv, fun j=>by simp [in1F]⟩
 | m :: l, R, L, hl, hi=>by
  unfold in1F
  have hm:m < R.length:=hl m List.mem_cons_self
  by_cases hb:I.testBit m = true
  ·rw [if_pos hb]
   obtain ⟨a1, a2, a3, a4, a5⟩:=zgx I i l (R.set m (R.getD m [] ++ [i])) (L.set i (L.getD i 0 + 1)) (fun x hx=>by rw [List.length_set]; exact hl x (List.mem_cons_of_mem _ hx)) (by rw [List.length_set]; exact hi)
   rw [List.length_set] at a1 a2
   refine ⟨a1, a2, fun m' j=>?_, fun m' v hv=>?_, fun j=>?_⟩
   ·rw [a3, zaj]
    by_cases e:m = m'
    ·subst e
     rw [if_pos ⟨rfl, hm⟩, List.count_append, List.count_cons_self]
     by_cases ej:j = i
     ·subst ej; rw [if_pos ⟨rfl, hb⟩, if_pos ⟨rfl, hb⟩]; simp; omega
     ·rw [if_neg (fun q=>ej q.1), if_neg (fun q=>ej q.1)]
      have:[i].count j = 0:=List.count_eq_zero.2 (by simpa using ej)
      omega
    ·rw [if_neg (fun q=>e q.1), List.count_cons_of_ne e]
   ·rcases a4 m' v hv with h1 | h1
    ·rw [zaj] at h1
     split at h1
     ·rename_i e
      rcases List.mem_append.1 h1 with h2 | h2
      ·rw [← e.1]; exact .inl h2
      ·exact .inr (List.mem_singleton.1 h2)
     ·exact .inl h1
    ·exact .inr h1
   ·rw [a5, zaj]
    by_cases e:j = i
    ·subst e
     rw [if_pos ⟨rfl, hi⟩, if_pos rfl, if_pos rfl, List.countP_cons_of_pos (p:=fun m=>I.testBit m) hb]; push_cast; omega
    ·rw [if_neg (fun q=>e q.1.symm), if_neg e, if_neg e]
  ·rw [if_neg hb]
   obtain ⟨a1, a2, a3, a4, a5⟩:=zgx I i l R L (fun x hx=>hl x (List.mem_cons_of_mem _ hx)) hi
   refine ⟨a1, a2, fun m' j=>?_, a4, fun j=>?_⟩
   ·rw [a3]
    by_cases e:j = i ∧ I.testBit m' = true
    ·rw [if_pos e, if_pos e, List.count_cons_of_ne (show m ≠ m' from fun q=>hb (by rw [q]; exact e.2))]
    ·rw [if_neg e, if_neg e]
   ·rw [a5, List.countP_cons_of_neg hb]
theorem zhb (I:Nat) (sv:Nat->List Nat):∀ (is:List Nat) (R:List (List Nat)) (L:List Int), is.Nodup->(∀ i ∈ is, i < L.length)->(∀ i ∈ is, ∀ m ∈ sv i, m < R.length) ->
  (∀ m j, ((outF I sv is R L).1.getD m []).count j = (R.getD m []).count j + if j ∈ is ∧ I.testBit j = true ∧ I.testBit m = true then (sv j).count m else 0) ∧
  (∀ m v, v ∈ (outF I sv is R L).1.getD m []->v ∈ R.getD m [] ∨ I.testBit v = true) ∧
  (∀ j, (outF I sv is R L).2.getD j 0 = L.getD j 0 + if j ∈ is ∧ I.testBit j = true then (((sv j).countP fun m=>I.testBit m:Nat):Int) else 0)
 | [], R, L, _, _, _=>⟨fun m j=>by simp [outF], fun m v hv=>.inl hv, fun j=>by simp [outF]⟩
 | i :: is, R, L, hd, hL, hR=>by
  obtain ⟨hn, hd'⟩:=List.nodup_cons.1 hd
  unfold outF
  by_cases hb:I.testBit i = true
  ·rw [if_pos hb]
   obtain ⟨b1, b2, b3, b4, b5⟩:=zgx I i (sv i) R L (hR i List.mem_cons_self) (hL i List.mem_cons_self)
   obtain ⟨a3, a4, a5⟩:=zhb I sv is _ _ hd' (fun j hj=>by rw [b2]; exact hL j (List.mem_cons_of_mem _ hj)) (fun j hj=>by rw [b1]; exact hR j (List.mem_cons_of_mem _ hj))
   refine ⟨fun m j=>?_, fun m v hv=>?_, fun j=>?_⟩
   ·rw [a3, b3]
    by_cases e:j = i
    ·subst e
     rw [if_neg (fun q:j ∈ is ∧ _=>hn q.1)]
     by_cases hm:I.testBit m = true
     ·rw [if_pos ⟨rfl, hm⟩, if_pos ⟨List.mem_cons_self, hb, hm⟩]; omega
     ·rw [if_neg (fun q=>hm q.2), if_neg (fun q=>hm q.2.2)]
    ·rw [if_neg (fun q=>e q.1)]
     by_cases hm:j ∈ is ∧ I.testBit j = true ∧ I.testBit m = true
     ·rw [if_pos hm, if_pos ⟨List.mem_cons_of_mem _ hm.1, hm.2⟩]; omega
     ·rw [if_neg hm, if_neg (fun q=>hm ⟨(List.mem_cons.1 q.1).resolve_left e, q.2⟩)]
   ·rcases a4 m v hv with h1 | h1
    ·rcases b4 m v h1 with h2 | h2
     ·exact .inl h2
     ·subst h2; exact .inr hb
    ·exact .inr h1
   ·rw [a5, b5]
    by_cases e:j = i
    ·subst e
     rw [if_neg (fun q:j ∈ is ∧ _=>hn q.1), if_pos rfl, if_pos ⟨List.mem_cons_self, hb⟩]; omega
    ·rw [if_neg e]
     by_cases hm:j ∈ is ∧ I.testBit j = true
     ·rw [if_pos hm, if_pos ⟨List.mem_cons_of_mem _ hm.1, hm.2⟩]; omega
     ·rw [if_neg hm, if_neg (fun q=>hm ⟨(List.mem_cons.1 q.1).resolve_left e, q.2⟩)]; omega
  ·rw [if_neg hb]
   obtain ⟨a3, a4, a5⟩:=zhb I sv is R L hd' (fun j hj=>hL j (List.mem_cons_of_mem _ hj)) (fun j hj=>hR j (List.mem_cons_of_mem _ hj))
   refine ⟨fun m j=>?_, a4, fun j=>?_⟩
   ·rw [a3]
    by_cases hm:j ∈ is ∧ I.testBit j = true ∧ I.testBit m = true
    ·rw [if_pos hm, if_pos ⟨List.mem_cons_of_mem _ hm.1, hm.2⟩]
    ·rw [if_neg hm, if_neg (show ¬ (j ∈ i :: is ∧ I.testBit j = true ∧ I.testBit m = true) from fun q=>hm ⟨(List.mem_cons.1 q.1).resolve_left (fun e=>hb (by rw [← e]; exact q.2.1)), q.2⟩)]
   ·rw [a5]
    by_cases hm:j ∈ is ∧ I.testBit j = true
    ·rw [if_pos hm, if_pos ⟨List.mem_cons_of_mem _ hm.1, hm.2⟩]
    ·rw [if_neg hm, if_neg (show ¬ (j ∈ i :: is ∧ I.testBit j = true) from fun q=>hm ⟨(List.mem_cons.1 q.1).resolve_left (fun e=>hb (by rw [← e]; exact q.2)), q.2⟩)]
section
variable {G:PG} {sv:Nat->List Nat} {I:Nat->Bool} {T:Nat->Prop} {p:Bool} {n:Nat}
theorem w_out (k:Nat) (hk:1000001 < k) {h₀:H} {q b:Nat} {fs ls ms:Sl} {R:List (List Nat)} {sls:List Sl} {gq:Nat} {x2:Ad} {o pr mm':Sl} {ow:List Int} {pp:Int}
  (hpp:pp = pn p) (hgq:h₀.get gq = some (gC o pr mm')) (hgn:gq < h₀.next) (ro:Rd h₀ o 1 (ow.flatMap cI)) (how:∀ i, i < n->ow[i]? = some (pn (G.own i)))
  (hI:∀ j, I j = true->j < n) (hn:n≤256) (hFI:∀ m, ∀ v ∈ R.getD m [], I v = true) (hFl:∀ m, (R.getD m []).length≤1000000) (hsv:∀ i, i < n->(sv i).length≤1000)
  (hF:∀ m i, I m = true->I i = true->(R.getD m []).count i = (sv i).count m) (hE:∀ i j, I i = true->(G.E i j ↔ j ∈ sv i)) :
  ∀ (c:Nat) (L mo:List Int) (S:Nat) (op:Sl) (D O:List Nat) (h:H), n≤D.length + c->P2 h₀ h q b n fs ls ms R sls L mo S op O->AInv G sv (fun j=>I j = true) T p (D ++ O) S ->
   Acc G sv I p (D ++ O) D [] 0 (lf L) ->
   ∃ h' L' mo' S' op', P2 h₀ h' q b n fs ls ms R sls L' mo' S' op' [] ∧ S' < FS ∧ Attr G (fun j=>I j = true) p T (fun j=>S'.testBit j = true) ∧
    ∀ (α:Type) (mm:Nat) (kx:Ad->Sl->Ad->M α), c < mm ->
     qa.u36.l (k + 1) kx mm pp ⟨gq, 0⟩ x2 fs ls ms ⟨q, 0⟩ op h = kx x2 ms ⟨q, 0⟩ h':=by
 intro c
 induction c with
 | zero=>
  intro L mo S op D O h hc P v a
  have hfew:=v.few hI
  rw [List.length_append] at hfew
  have hO:O = []:=List.eq_nil_of_length_eq_zero (by omega)
  subst hO
  rw [List.append_nil] at v a
  refine ⟨h, L, mo, S, op, P, v.lt hI hn, v.attr a hE, fun α mm kx hm=>?_⟩
  obtain ⟨mm, rfl⟩:∃ q, mm = q + 1:=⟨mm - 1, by omega⟩
  have hl:op.len = 0:=P.op.len
  rw [qa.u36.l]
  unfold qa.u35.f
  rw [qa.u19.f, dF (by omega), cond_false]
 | succ c ih=>
  intro L mo S op D O h hc P v a
  cases O with
  | nil=>
   rw [List.append_nil] at v a
   refine ⟨h, L, mo, S, op, P, v.lt hI hn, v.attr a hE, fun α mm kx hm=>?_⟩
   obtain ⟨mm, rfl⟩:∃ q, mm = q + 1:=⟨mm - 1, by omega⟩
   have hl:op.len = 0:=P.op.len
   rw [qa.u36.l]
   unfold qa.u35.f
   rw [qa.u19.f, dF (by omega), cond_false]
  | cons m O=>
   have hmI:I m = true:=v.inI m (List.mem_append_right _ List.mem_cons_self)
   have hmn:=hI m hmI
   have hmD:m ∉ D:=fun hq=>by
    have:=(List.nodup_append.1 v.nd).2.2 m hq m List.mem_cons_self
    exact this rfl
   have hRm:R[m]? = some (R.getD m []):=by rw [List.getD_eq_getElem?_getD, List.getElem?_eq_getElem (by rw [P.n1]; exact hmn)]; rfl
   obtain ⟨rs, rrs, hsl, ers⟩:=zio P.fr (i:=m) (l:=ints (R.getD m [])) (by rw [List.getElem?_map, hRm]; rfl)
   obtain ⟨h1, L1, mo1, S1, op1, X, P1, v1, a1, e1⟩:=w_in (T:=T) k (by omega) (x2:=x2) (fi:=m) hpp hgq hgn ro how hI hn hsl hRm (hFI m) (hFl m) hsv hmI hmD (hF m · hmI) (R.getD m []).length 0 L mo S op (m :: O) h (by omega) P v List.mem_cons_self (a.start _)
   obtain ⟨s', e2, g2, i2⟩:=(show Gr h1 b op1 ((m:Int) :: ints (O ++ X)) from P1.op).tail
   have P2':P2 h₀ h1 q b n fs ls ms R sls L1 mo1 S1 s' (O ++ X):={ P1 with op:=g2 }
   have hlist:D ++ (m :: O ++ X) = (D ++ [m]) ++ (O ++ X):=by simp
   rw [hlist] at v1 a1
   obtain ⟨h', L', mo', S', op', b1, b2, b3, b4⟩:=ih L1 mo1 S1 s' (D ++ [m]) (O ++ X) h1 (by rw [List.length_append, List.length_singleton]; omega) P2' v1 (a1.fin hmI hmD (hF m · hmI))
   refine ⟨h', L', mo', S', op', b1, b2, b3, fun α mm kx hmm=>?_⟩
   obtain ⟨mm, rfl⟩:∃ q, mm = q + 1:=⟨mm - 1, by omega⟩
   have hl:op.len = O.length + 1:=by rw [P.op.len, yp]; rfl
   have hrl:(rs.len:Int) = ((R.getD m []).length:Int):=by rw [ilen rrs, yp]
   rw [qa.u36.l]
   unfold qa.u35.f qa.u34.f qa.u32.f qa.u31.f
   rw [qa.u19.f, dT (by omega), cond_true, qa.u20.f, jy P.op.rd (x:=0) (i:=0) rfl (zcw (l:=m :: O) (t:=0) rfl), ers _ _ _ rfl, hrl]
   refine (e1 α (k + 1) _ (by have:=hFl m; omega)).trans ?_
   show cutSl op1 1 (some 1) none none _ h1 = _
   rw [e2]
   exact b4 α mm kx (by omega)
end
end Go.Ab.S9
namespace Go.Ab.S9
variable {α:Type} {h:H}
structure RG (g:Gm) (n:Nat) (sv:Nat->List Nat) (G:PG):Prop where
 n1:1≤n
 n200:n≤200
 lo:g.ow.length = n
 lp:g.pr.length = n
 lm:g.mv.length = n
 ow:∀ i, i < n->g.ow[i]? = some (pn (G.own i))
 pr:∀ i, i < n->g.pr[i]? = some ((G.pr i:Nat):Int)
 mv:∀ i, i < n->g.mv[i]? = some (ints (sv i))
 ml:∀ i, i < n->∀ m ∈ sv i, m < n
 nd:∀ i, i < n->(sv i).Nodup
 ne:∀ i, i < n->sv i ≠ []
 E:∀ i j, i < n->(G.E i j ↔ j ∈ sv i)
theorem zfl {n:Nat}:∀ (l:List Int) (last:Int), zap n last l = true->-1≤last->∃ s:List Nat, l = ints s ∧ (∀ m ∈ s, last < (m:Int) ∧ m < n) ∧ s.Nodup
 | [], last, _, _=>⟨[], rfl, fun m hm=>(by cases hm), List.nodup_nil⟩
 | x :: l, last, hb, hl=>by
  unfold zap at hb
  rw [Bool.and_eq_true, Bool.and_eq_true, decide_eq_true_eq, decide_eq_true_eq] at hb
  obtain ⟨⟨h1, h2⟩, h3⟩:=hb
  obtain ⟨s, rfl, b1, b2⟩:=zfl l x h3 (by omega)
  obtain ⟨y, rfl⟩:=Int.eq_ofNat_of_zero_le (show 0≤x by omega)
  refine ⟨y :: s, rfl, fun m hm=>?_, List.nodup_cons.2 ⟨fun hy=>by have:=(b1 y hy).1; omega, b2⟩⟩
  rcases List.mem_cons.1 hm with e | hm
  ·subst e; omega
  ·have:=b1 m hm; omega
theorem zcf {n:Int}:∀ (i:Nat) (os ps:List Int) (ls:List (List Int)), (zbq n i os ps ls).2 = 0->os.length = ls.length->ps.length = ls.length ->
  ∀ (j:Nat) (o p:Int) (l:List Int), os[j]? = some o->ps[j]? = some p->ls[j]? = some l->rowE n o p l = 0
 | i, o :: os, p :: ps, l :: ls, h, h1, h2, j, o', p', l', e1, e2, e3=>by
  rw [zbq] at h
  by_cases c:rowE n o p l = 0
  ·rw [if_pos c] at h
   cases j with
   | zero=>cases e1; cases e2; cases e3; exact c
   | succ j=>exact zcf (i + 1) os ps ls h (Nat.succ.inj h1) (Nat.succ.inj h2) j o' p' l' e1 e2 e3
  ·rw [if_neg c] at h; exact absurd h c
 | _, [], _, _, _, _, _, j, _, _, _, e1, _, _=>by simp at e1
 | _, _ :: _, [], _, _, _, _, j, _, _, _, _, e2, _=>by simp at e2
 | _, _ :: _, _ :: _, [], _, _, _, j, _, _, _, _, _, e3=>by simp at e3
theorem rowE_ok {n:Nat} {o p:Int} {l:List Int} (e:rowE n o p l = 0):(o = 0 ∨ o = 1) ∧ 0≤p ∧ p≤7 ∧ l ≠ [] ∧ zap n (-1) l = true:=by
 unfold rowE at e
 by_cases c1:o < 0 ∨ 1 < o
 ·rw [if_pos c1] at e; cases e
 rw [if_neg c1] at e
 by_cases c2:p < 0 ∨ 7 < p
 ·rw [if_pos c2] at e; cases e
 rw [if_neg c2] at e
 by_cases c3:l.length = 0
 ·rw [if_pos c3] at e; cases e
 rw [if_neg c3] at e
 cases hm:zap n (-1) l with
 | false=>rw [hm] at e; cases e
 | true=>exact ⟨by omega, by omega, by omega, fun q=>c3 (by rw [q]; rfl), rfl⟩
def svOf (g:Gm) (i:Nat):List Nat:=(g.mv.getD i []).map Int.toNat
def pgOf (g:Gm):PG:={ own:=fun i=>decide (g.ow.getD i 0 = 1), pr:=fun i=>(g.pr.getD i 0).toNat, E:=fun i j=>j ∈ svOf g i }
theorem zlz {g:Gm} (hr:(yo g).2 = 0):RG g g.mv.length (svOf g) (pgOf g):=by
 unfold yo at hr
 by_cases c1:g.ow.length ≠ g.mv.length ∨ g.pr.length ≠ g.mv.length
 ·rw [if_pos c1] at hr; cases hr
 rw [if_neg c1] at hr
 by_cases c2:g.mv.length < 1 ∨ 200 < g.mv.length
 ·rw [if_pos c2] at hr; cases hr
 rw [if_neg c2] at hr
 have lo:g.ow.length = g.mv.length:=by omega
 have lp:g.pr.length = g.mv.length:=by omega
 have all:∀ i, i < g.mv.length->∃ o p s, g.ow[i]? = some o ∧ g.pr[i]? = some p ∧ g.mv[i]? = some (ints s) ∧ (o = 0 ∨ o = 1) ∧ 0≤p ∧ s ≠ [] ∧ (∀ m ∈ s, m < g.mv.length) ∧ s.Nodup:=fun i hi=>by
  have e1:g.ow[i]? = some (g.ow[i]'(by omega)):=List.getElem?_eq_getElem _
  have e2:g.pr[i]? = some (g.pr[i]'(by omega)):=List.getElem?_eq_getElem _
  have e3:g.mv[i]? = some (g.mv[i]'hi):=List.getElem?_eq_getElem _
  obtain ⟨a1, a2, a3, a4, a5⟩:=rowE_ok (zcf 0 _ _ _ hr lo lp i _ _ _ e1 e2 e3)
  obtain ⟨s, es, b1, b2⟩:=zfl _ _ a5 (by omega)
  exact ⟨_, _, s, e1, e2, by rw [e3, es], a1, a2, fun q=>a4 (by rw [es, q]; rfl), fun m hm=>(b1 m hm).2, b2⟩
 have svE:∀ i s, g.mv[i]? = some (ints s)->svOf g i = s:=fun i s e=>by
  unfold svOf
  rw [List.getD_eq_getElem?_getD, e]
  show (ints s).map Int.toNat = s
  unfold ints
  rw [List.map_map]
  have:(Int.toNat ∘ fun (x:Nat)=>(x:Int)) = id:=funext fun x=>Int.toNat_natCast x
  rw [this, List.map_id]
 refine ⟨by omega, by omega, lo, lp, rfl, fun i hi=>?_, fun i hi=>?_, fun i hi=>?_, fun i hi=>?_, fun i hi=>?_, fun i hi=>?_, fun i j hi=>Iff.rfl⟩
 all_goals obtain ⟨o, p, s, e1, e2, e3, a1, a2, a3, a4, a5⟩:=all i hi
 ·rw [e1]
  show some o = some (pn (decide (g.ow.getD i 0 = 1)))
  rw [List.getD_eq_getElem?_getD, e1]
  show some o = some (pn (decide (o = 1)))
  rcases a1 with rfl | rfl <;> rfl
 ·rw [e2]
  show some p = some (((g.pr.getD i 0).toNat:Nat):Int)
  rw [List.getD_eq_getElem?_getD, e2]
  show some p = some ((p.toNat:Nat):Int)
  rw [Int.toNat_of_nonneg a2]
 ·rw [svE i s e3]; exact e3
 ·rw [svE i s e3]; exact a4
 ·rw [svE i s e3]; exact a5
 ·rw [svE i s e3]; exact a3
def bn (S:Nat):List Nat:=(List.range 256).filter fun j=>S.testBit j
theorem bl_bn (S:Nat):bl S 256 = ints (bn S):=rfl
theorem zhn {S j:Nat} (hS:S < FS):j ∈ bn S ↔ S.testBit j = true:=by
 unfold bn
 rw [List.mem_filter, List.mem_range]
 refine ⟨fun h=>h.2, fun h=>⟨?_, h⟩⟩
 rcases Nat.lt_or_ge j 256 with hq | hq
 ·exact hq
 ·rw [zcn hS hq] at h; cases h
theorem and_full {U n:Nat} (hU:∀ j, U.testBit j = true->j < n):U &&& (2 ^ n - 1) = U:=zaf fun j=>by
 rw [Nat.testBit_and, Nat.testBit_two_pow_sub_one]
 cases e:U.testBit j with
 | false=>rfl
 | true=>rw [dT (hU j e)]; rfl
theorem zfi (k:Nat) (hk:2000000 < k) {o p m:Sl} {g:Gm} {n:Nat} {sv:Nat->List Nat} {G:PG} (r:GmR h o p m g) (rg:RG g n sv G) (hr:yo g = (0, 0)) (pl:Bool) {U T:Nat} (hU:U < FS) (hUn:∀ j, U.testBit j = true->j < n) (hT:T < FS)
  (tot:Tot G fun j=>U.testBit j = true) :
  ∃ (A:Nat) (ms:Sl) (mo:List Int) (h':H), Ext h h' ∧ Rd h' ms 1 (mo.flatMap cI) ∧ mo.length = n ∧ (∀ a, ms.ad = some a->h.next≤a.id) ∧ A < FS ∧ Attr G (fun j=>U.testBit j = true) pl (fun j=>T.testBit j = true) (fun j=>A.testBit j = true) ∧
   ∀ (α:Type) (ret:Int->Int->Int->Int->Sl->M α), qa.f (k + 1) o p m (wi U 0) (wi U 1) (wi U 2) (wi U 3) (pn pl) (wi T 0) (wi T 1) (wi T 2) (wi T 3) ret h = ret (wi A 0) (wi A 1) (wi A 2) (wi A 3) ms h':=by
 obtain ⟨k, rfl⟩:∃ m, k = m + 1:=⟨k - 1, by omega⟩
 have n200:=rg.n200
 have hlen:∀ i, i < n->(sv i).length≤200:=fun i hi=>Nat.le_trans (pig n (sv i) (rg.nd i hi) (rg.ml i hi)) n200
 obtain ⟨rows, rm⟩:=r.m
 -- the locals
 let h4:=(((h.push (gC o p m)).push (c4 (wi U 0) (wi U 1) (wi U 2) (wi U 3))).push (c4 (wi T 0) (wi T 1) (wi T 2) (wi T 3))).push (c4 0 0 0 0)
 have n4:h4.next = h.next + 4:=rfl
 have g0:h4.get h.next = some (gC o p m):=by simp only [h4, zw, zm]; (repeat rw [if_neg (by omega)]); simp
 have g1:h4.get (h.next + 1) = some (c4 (wi U 0) (wi U 1) (wi U 2) (wi U 3)):=by simp only [h4, zw, zm]; (repeat rw [if_neg (by omega)]); simp
 have g2:h4.get (h.next + 2) = some (c4 (wi T 0) (wi T 1) (wi T 2) (wi T 3)):=by simp only [h4, zw, zm]; (repeat rw [if_neg (by omega)]); simp
 have g3:h4.get (h.next + 3) = some (c4 0 0 0 0):=by simp only [h4, zw, zm]; simp
 have x4:Ext h h4:=((((Ext.refl h).push _).push _).push _).push _
 -- is it right?
 let h5:=h4.push (gC o p m)
 have x5:Ext h4 h5:=(Ext.refl h4).push _
 -- all positions
 obtain ⟨h6, x6, e6⟩:=zlt (h:=h5) k (by omega) (n:=n) (by omega)
 obtain ⟨h7, x7, e7⟩:=zju (h:=h6) k (by omega) U (2 ^ n - 1)
 rw [and_full hUn] at e7
 have x47:=(x5.trans x6).trans x7
 have g1':h7.get (h.next + 1) = some (c4 (wi U 0) (wi U 1) (wi U 2) (wi U 3)):=by rw [x47.2 _ (by omega)]; exact g1
 let h8:=h7.put (h.next + 1) (some (c4 (wi U 0) (wi U 1) (wi U 2) (wi U 3)))
 have k8:∀ i, h8.get i = h7.get i:=fun i=>by
  by_cases e:i = h.next + 1
  ·subst e; rw [show h8.get (h.next + 1) = _ from zh _ _ _, g1']
  ·exact zo _ _ e
 have x48:Ext h4 h8:=⟨x47.1, fun i hi=>(k8 i).trans (x47.2 i hi)⟩
 have n8:h8.next = h7.next:=rfl
 have n47:h4.next≤h7.next:=x47.1
 -- three rows
 obtain ⟨h9, e9, o9, n9, x9⟩:=mk_run (h:=h8) (n:=n) (bytes:=24) (zero:=[.slice Sl.nil]) (x:=(n:Int)) (y:=(n:Int)) rfl rfl (by omega) (by omega) rfl
 obtain ⟨h10, e10, o10, n10, x10⟩:=mkI_run (h:=h9) (n:=n) (x:=(n:Int)) (y:=(n:Int)) rfl rfl (by omega)
 obtain ⟨h11, e11, o11, n11, x11⟩:=mkI_run (h:=h10) (n:=n) (x:=(n:Int)) (y:=(n:Int)) rfl rfl (by omega)
 have x8b:=(x9.trans x10).trans x11
 have hrep:∀ (l:List Sl), (List.replicate n [V.slice Sl.nil]).flatten = (List.replicate n Sl.nil).flatMap cSl:=fun _=>zcc cSl Sl.nil n
 have r0:∀ (i:Nat) (s:Sl) (l:List Nat), (List.replicate n Sl.nil)[i]? = some s->(List.replicate n ([]:List Nat))[i]? = some l->Gr h11 h11.next s (ints l):=fun i s l e1 e2=>by
  rw [List.getElem?_replicate] at e1 e2
  split at e1
  ·rename_i hi
   rw [if_pos hi] at e2
   cases e1; cases e2
   exact Gr.nil _ _
  ·cases e1
 have r1:∀ (i j:Nat) (s s':Sl) (a a':Ad), i ≠ j->(List.replicate n Sl.nil)[i]? = some s->(List.replicate n Sl.nil)[j]? = some s'->s.ad = some a->s'.ad = some a'->a.id ≠ a'.id:=fun i j s s' a a' hne e1 e2 ha _=>by
  rw [List.getElem?_replicate] at e1
  split at e1
  ·cases e1; cases ha
  ·cases e1
 have P0:P1 h8 h11 h11.next n ⟨some ⟨h8.next, 0⟩, n, n, none⟩ ⟨some ⟨h9.next, 0⟩, n, n, none⟩ ⟨some ⟨h10.next, 0⟩, n, n, none⟩ (List.replicate n []) (List.replicate n 0) (List.replicate n 0):=
  {
   ext:=x8b
   bn:=Nat.le_refl _
   f1:=Nat.le_refl _
   f2:=by show h8.next < h11.next; omega
   l1:=by show h8.next≤h9.next; omega
   l2:=by show h9.next < h11.next; omega
   m1:=by show h8.next≤h10.next; omega
   m2:=by show h10.next < h11.next; omega
   ne1:=by show h8.next ≠ h9.next; omega
   ne2:=by show h8.next ≠ h10.next; omega
   ne3:=by show h9.next ≠ h10.next; omega
   n1:=List.length_replicate
   n2:=List.length_replicate
   n3:=List.length_replicate
   fo:=⟨List.replicate n Sl.nil, List.length_replicate, by rw [← zcc]; exact (o9.ext x10).ext x11, r0, r1⟩
   lo:=o10.ext x11
   mo:=o11 }
 have hz:∀ {β:Type} (d:β) (j:Nat), (List.replicate n d).getD j d = d:=fun d j=>by
  rw [List.getD_eq_getElem?_getD, List.getElem?_replicate]
  split <;> rfl
 have rm8:=(rm.ext x4).ext x48
 have gh8:h8.get h.next = some (gC o p m):=by rw [x48.2 _ (by omega)]; exact g0
 obtain ⟨h12, mo12, P12, lB, e12⟩:=out_loop (fs:=⟨some ⟨h8.next, 0⟩, n, n, none⟩) (ls:=⟨some ⟨h9.next, 0⟩, n, n, none⟩) (ms:=⟨some ⟨h10.next, 0⟩, n, n, none⟩) k (q:=h.next + 1) (I:=U) (gq:=h.next) (t1:=⟨h.next + 2, 0⟩) (x4:=⟨h.next + 3, 0⟩) (pp:=pn pl)
  (show Q h8 (h.next + 1) U from zh _ _ _) (by omega) hU gh8 (by omega) rm8 rg.lm rg.mv rg.ml (fun i hi=>Nat.le_trans (hlen i hi) (by omega)) (by omega) (by omega)
  n 0 _ _ _ h11 (by omega) P0 (fun m=>by rw [hz]; exact Nat.zero_le _) (fun j _=>hz _ _)
 obtain ⟨l3, l4, l5⟩:=zhb U sv (List.range' 0 n) (List.replicate n []) (List.replicate n 0) (List.nodup_range' (step:=1)) (fun i hi=>by rw [List.length_replicate]; have:=List.mem_range'.1 hi; omega)
  (fun i hi m hm=>by rw [List.length_replicate]; exact rg.ml i (by have:=List.mem_range'.1 hi; omega) m hm)
 generalize outF U sv (List.range' 0 n) (List.replicate n []) (List.replicate n 0) = RL at P12 l3 l4 l5 lB
 obtain ⟨R, L⟩:=RL
 dsimp only at P12 l3 l4 l5 lB
 -- the set, and its list
 obtain ⟨h13, x13, e13⟩:=zju (h:=h12) k (by omega) T U
 let S0:=T &&& U
 let h14:=h13.push (c4 0 0 0 0)
 let h15:=h14.put h13.next (some (c4 (wi S0 0) (wi S0 1) (wi S0 2) (wi S0 3)))
 have x14:Ext h12 h14:=x13.push _
 have x15:Ext h12 h15:=x14.put _ x13.1
 have n15:h15.next = h13.next + 1:=rfl
 obtain ⟨s5, h16, g16, x16, e16⟩:=zcs (h:=h15) k (by omega) S0
 have x1216:=x15.trans x16
 rw [bl_bn] at g16
 have hS0:S0 < FS:=and_ltF hT U
 have b13:=x13.1
 have b12:=P12.bn
 obtain ⟨sls, f1, f2, f3, f4⟩:=P12.fo
 have hid:(⟨some ⟨h8.next, 0⟩, n, n, none⟩:Sl).id = h8.next:=rfl
 have hid2:(⟨some ⟨h9.next, 0⟩, n, n, none⟩:Sl).id = h9.next:=rfl
 have hid3:(⟨some ⟨h10.next, 0⟩, n, n, none⟩:Sl).id = h10.next:=rfl
 have hRl:∀ (i:Nat) (s:Sl), sls[i]? = some s->∃ l, R[i]? = some l:=fun i s hs=>⟨_, List.getElem?_eq_getElem (by rw [P12.n1, ← f1]; exact yy hs)⟩
 have Pa:P2 h8 h16 h13.next h15.next n ⟨some ⟨h8.next, 0⟩, n, n, none⟩ ⟨some ⟨h9.next, 0⟩, n, n, none⟩ ⟨some ⟨h10.next, 0⟩, n, n, none⟩ R sls L mo12 S0 s5 (bn S0):=
  {
   ext:=P12.ext.trans x1216
   fr:=⟨f2.rd.ext x1216, by rw [List.length_map, P12.n1, f1], fun i s l e1 e2=>by
    obtain ⟨l', hl'⟩:=hRl i s e1
    rw [List.getElem?_map, hl'] at e2
    cases e2
    exact (f3 i s l' e1 hl').rd.ext x1216⟩
   fid:=fun a ha=>by
    cases ha
    rw [hid2, hid3]
    exact ⟨by show h8.next < h13.next; omega, by show h8.next ≠ h9.next; omega, by show h8.next ≠ h10.next; omega⟩
   rid:=fun i s a hs ha=>by
    obtain ⟨l', hl'⟩:=hRl i s hs
    have q1:=(f3 i s l' hs hl').old a ha
    have q2:=((f3 i s l' hs hl').rd.row a ha).2
    rw [hid2, hid3]
    exact ⟨by omega, by omega, by omega⟩
   l1:=P12.l1
   l2:=by rw [hid2]; omega
   m1:=P12.m1
   m2:=by rw [hid3]; omega
   ne:=P12.ne3
   q1:=by have:=P12.ext.1; omega
   qb:=by omega
   bn:=x16.1
   n1:=P12.n1
   n2:=P12.n2
   n3:=P12.n3
   lo:=P12.lo.ext x1216
   mo:=P12.mo.ext x1216
   sq:=by show h16.get h13.next = _; rw [x16.2 _ (by omega)]; exact zh _ _ _
   op:=g16 }
 have hin:∀ i, i < n->i ∈ List.range' 0 n:=fun i hi=>List.mem_range'.2 ⟨i, hi, by omega⟩
 have V0:AInv G sv (fun j=>U.testBit j = true) (fun j=>T.testBit j = true) pl ([] ++ bn S0) S0:=by
  rw [List.nil_append]
  refine ⟨fun j=>(zhn hS0).symm, List.nodup_range.filter _, fun j hj=>?_, fun i h1 h2=>(zhn hS0).2 (by rw [Nat.testBit_and, h1, h2]; rfl), fun _=>0, fun j hj=>List.length_pos_of_mem hj, fun i hi hT=>?_⟩
  ·have:=(zhn hS0).1 hj
   rw [Nat.testBit_and, Bool.and_eq_true] at this
   exact this.2
  ·have:=(zhn hS0).1 hi
   rw [Nat.testBit_and, Bool.and_eq_true] at this
   exact absurd this.1 hT
 have A0:Acc G sv (fun j=>U.testBit j) pl ([] ++ bn S0) [] [] 0 (lf L):=fun i hi=>by
  have hc:lf L i = (cnt (fun j=>U.testBit j) [] (sv i):Int):=by
   unfold lf
   rw [l5, hz, if_pos ⟨hin i (hUn i hi), hi⟩, Int.zero_add]
   unfold cnt
   simp
  refine ⟨by rw [hc]; simp, fun _=>⟨fun _=>⟨fun m _ _ hm=>(by cases hm), fun hm=>(by simp at hm)⟩, fun _=>?_⟩⟩
  obtain ⟨j, hij, hj⟩:=tot i hi
  rw [hc]
  have:0 < cnt (fun j=>U.testBit j) [] (sv i):=by
   unfold cnt
   rw [List.countP_pos_iff]
   exact ⟨j, (rg.E i j (hUn i hi)).1 hij, by dsimp only at hj ⊢; rw [hj]; rfl⟩
  omega
 obtain ⟨h17, L', mo', S', op', P17, hS', at', e17⟩:=w_out (T:=fun j=>T.testBit j = true) (p:=pl) (gq:=h.next) (x2:=⟨h.next + 3, 0⟩) (o:=o) (pr:=p) (mm':=m) (ow:=g.ow) (pp:=pn pl) k (by omega) rfl gh8 (by omega) ((r.o.ext x4).ext x48) rg.ow hUn (by omega)
  (fun m v hv=>by
   rcases l4 m v hv with h1 | h1
   ·rw [hz] at h1; cases h1
   ·exact h1) (fun m=>Nat.le_trans (lB m) (by omega)) (fun i hi=>Nat.le_trans (hlen i hi) (by omega))
  (fun m i hm hi=>by
   rw [l3, hz, if_pos ⟨hin i (hUn i hi), hi, hm⟩]
   simp) (fun i j hi=>rg.E i j (hUn i hi)) n L mo12 S0 s5 [] (bn S0) h16 (by simp) Pa V0 A0
 have y8:Ext h h8:=x4.trans x48
 have b17:=P17.ext.1
 refine ⟨S', ⟨some ⟨h10.next, 0⟩, n, n, none⟩, mo', h17.put (h.next + 3) (some (c4 (wi S' 0) (wi S' 1) (wi S' 2) (wi S' 3))), (y8.trans P17.ext).put _ (by omega), P17.mo.rd.keep (Nat.le_refl _) (fun a ha=>by cases ha; exact zo _ _ (by show h10.next ≠ h.next + 3; omega)), P17.n3, fun a ha=>by cases ha; show h.next≤h10.next; omega, hS', at', fun α ret=>?_⟩
 have hpl:∀ (A B C:M α), (cond (!(decide (pn pl = 0))) (cond (!(decide (pn pl = 1))) A B) B) = B:=fun A B C=>by cases pl <;> rfl
 rw [qa.f]
 unfold qa.u44.f qa.u1.f
 rw [jl rfl, new4, new4, new4]
 show (ldS ((⟨h.next, 0⟩:Ad).add 0) _) h4 = _
 rw [g_o' g0, g_p' g0, g_m' g0, zfb (h:=h4) k (r.ext x4) (by omega) (fun l hl=>by
  obtain ⟨i, hi⟩:=List.getElem?_of_mem hl
  have hin:i < n:=by rw [← rg.lm]; exact yy hi
  rw [rg.mv i hin] at hi
  cases hi
  rw [yp]
  have:=hlen i hin
  omega), hr]
 dsimp only
 rw [dT rfl, Bool.not_true, cond_false, hpl _ _ fail]
 unfold qa.u43.f qa.u2.f
 have gh5:h5.get h.next = some (gC o p m):=by rw [x5.2 _ (by omega)]; exact g0
 have gu5:h5.get (h.next + 1) = some (c4 (wi U 0) (wi U 1) (wi U 2) (wi U 3)):=by rw [x5.2 _ (by omega)]; exact g1
 have gu6:h6.get (h.next + 1) = some (c4 (wi U 0) (wi U 1) (wi U 2) (wi U 3)):=by rw [x6.2 _ (by have:=x5.1; omega)]; exact gu5
 have hol:(o.len:Int) = (n:Int):=by rw [ilen r.o, rg.lo]
 show (ldS (((⟨h.next, 0⟩:Ad).add 0).add 0) _) h5 = _
 rw [g_o gh5, hol]
 refine (ld4 gu5 _).trans ?_
 rw [e6]
 refine (ld4 gu6 _).trans ?_
 rw [zd (dT rfl), zd (dT rfl), zd (dT rfl), zd (dT rfl), e7]
 refine (st4 ⟨_, _, _, _, g1'⟩ _).trans ?_
 show mkSl _ _ _ _ _ h8 = _
 rw [e9, e10, e11]
 unfold qa.u42.f qa.u16.f qa.u3.f qa.u15.f qa.u14.f
 refine (e12 α (k + 1) _ (by omega)).trans ?_
 unfold qa.u41.f qa.u17.f
 have gt12:h12.get (h.next + 2) = some (c4 (wi T 0) (wi T 1) (wi T 2) (wi T 3)):=by rw [P12.ext.2 _ (by omega), x48.2 _ (by omega)]; exact g2
 have gi12:h12.get (h.next + 1) = some (c4 (wi U 0) (wi U 1) (wi U 2) (wi U 3)):=by rw [P12.ext.2 _ (by omega)]; exact zh _ _ _
 refine (ld4 gt12 _).trans ?_
 refine (ld4 gi12 _).trans ?_
 rw [e13, new4]
 refine (st4 ⟨_, _, _, _, zav _ _ _ _⟩ _).trans ?_
 unfold qa.u40.f qa.u38.f qa.u18.f
 show (ldI .u64 ((⟨h13.next, 0⟩:Ad).add 0) _) h15 = _
 refine (ld4 (show h15.get h13.next = _ from zh _ _ _) _).trans ?_
 rw [e16]
 unfold qa.u37.f qa.u36.f
 refine (e17 α (k + 1) _ (by omega)).trans ?_
 unfold qa.u39.f
 refine (cp4 P17.sq ⟨0, 0, 0, 0, by rw [P17.ext.2 _ (by omega), x48.2 _ (by omega)]; exact g3⟩ _).trans ?_
 exact ld4 (zh _ _ _) _
end Go.Ab.S9
namespace Go.Ab.S9
variable {α:Type} {h:H}
abbrev fP (d gq pq kq mq nq:Nat):V:=.func 47 [] [.ptr (some ⟨d, 0⟩), .ptr (some ⟨gq, 0⟩), .ptr (some ⟨pq, 0⟩), .ptr (some ⟨kq, 0⟩), .ptr (some ⟨mq, 0⟩), .ptr (some ⟨nq, 0⟩)]
abbrev fK (mq:Nat):V:=.func 46 [] [.ptr (some ⟨mq, 0⟩)]
structure PM (h₀ h:H) (d gq pq kq mq nq:Nat) (m0 m1 o p m:Sl) (n:Nat):Prop where
 base:Ext h₀ h
 d1:h₀.next≤d
 a1:h₀.next≤m0.id
 b1:h₀.next≤m1.id
 da:d ≠ m0.id
 db:d ≠ m1.id
 ab:m0.id ≠ m1.id
 far:∀ i ∈ [gq, pq, kq, mq, nq], (i ≠ d ∧ i ≠ m0.id ∧ i ≠ m1.id) ∧ i < h.next
 dl:d < h.next
 dv:∃ v, h.get d = some (.cells [.int .i64 v] true)
 gv:h.get gq = some (gC o p m)
 pv:h.get pq = some (.cells [fP d gq pq kq mq nq] true)
 kv:h.get kq = some (.cells [fK mq] true)
 mv:h.get mq = some (.cells [.slice m0, .slice m1] true)
 nv:h.get nq = some (.cells [.int .i64 (n:Int)] true)
 o0:∃ A:List Int, A.length = n ∧ Own h m0 1 (A.flatMap cI)
 o1:∃ A:List Int, A.length = n ∧ Own h m1 1 (A.flatMap cI)
structure Kp (d:Nat) (m0 m1:Sl) (h h':H):Prop where
 n:h.next≤h'.next
 g:∀ i, i < h.next->i ≠ d->i ≠ m0.id->i ≠ m1.id->h'.get i = h.get i
theorem Kp.trans {d:Nat} {m0 m1:Sl} {a b c:H} (x:Kp d m0 m1 a b) (y:Kp d m0 m1 b c):Kp d m0 m1 a c:=
 ⟨Nat.le_trans x.n y.n, fun i hi h1 h2 h3=>(y.g i (Nat.lt_of_lt_of_le hi x.n) h1 h2 h3).trans (x.g i hi h1 h2 h3)⟩
theorem Kp.of {d:Nat} {m0 m1:Sl} {a b:H} (x:Ext a b):Kp d m0 m1 a b:=⟨x.1, fun i hi _ _ _=>x.2 i hi⟩
theorem Kp.refl (d:Nat) (m0 m1:Sl) (h:H):Kp d m0 m1 h h:=.of (Ext.refl h)
section
variable {h₀:H} {d gq pq kq mq nq:Nat} {m0 m1 o p m:Sl} {n:Nat}
theorem PM.push (P:PM h₀ h d gq pq kq mq nq m0 m1 o p m n) {h':H} (x:Ext h h'):PM h₀ h' d gq pq kq mq nq m0 m1 o p m n:=by
 have f:=P.far
 have lt:∀ i ∈ [gq, pq, kq, mq, nq], h'.get i = h.get i:=fun i hi=>x.2 i (f i hi).2
 exact { P with
  base:=P.base.trans x
  far:=fun i hi=>⟨(f i hi).1, Nat.lt_of_lt_of_le (f i hi).2 x.1⟩
  dl:=Nat.lt_of_lt_of_le P.dl x.1
  dv:=by rw [x.2 d P.dl]; exact P.dv
  gv:=by rw [lt gq (by simp)]; exact P.gv
  pv:=by rw [lt pq (by simp)]; exact P.pv
  kv:=by rw [lt kq (by simp)]; exact P.kv
  mv:=by rw [lt mq (by simp)]; exact P.mv
  nv:=by rw [lt nq (by simp)]; exact P.nv
  o0:=by obtain ⟨A, h1, h2⟩:=P.o0; exact ⟨A, h1, h2.ext x⟩
  o1:=by obtain ⟨A, h1, h2⟩:=P.o1; exact ⟨A, h1, h2.ext x⟩ }
theorem PM.one (P:PM h₀ h d gq pq kq mq nq m0 m1 o p m n) {h':H} {q:Nat} (hq:q = d ∨ q = m0.id ∨ q = m1.id) (hn:h'.next = h.next) (hg:∀ i, i ≠ q->h'.get i = h.get i)
  (dv:∃ v, h'.get d = some (.cells [.int .i64 v] true)) (o0:∃ A:List Int, A.length = n ∧ Own h' m0 1 (A.flatMap cI)) (o1:∃ A:List Int, A.length = n ∧ Own h' m1 1 (A.flatMap cI)) :
  PM h₀ h' d gq pq kq mq nq m0 m1 o p m n ∧ Kp d m0 m1 h h':=by
 have f:=P.far
 have lt:∀ i ∈ [gq, pq, kq, mq, nq], h'.get i = h.get i:=fun i hi=>hg i (by have:=(f i hi).1; rcases hq with e | e | e <;> rw [e] <;> omega)
 have d1:=P.d1; have a1:=P.a1; have b1:=P.b1
 exact ⟨{ P with
  base:=⟨by have:=P.base.1; omega, fun i hi=>(hg i (by rcases hq with e | e | e <;> rw [e] <;> omega)).trans (P.base.2 i hi)⟩
  far:=fun i hi=>⟨(f i hi).1, by rw [hn]; exact (f i hi).2⟩
  dl:=by rw [hn]; exact P.dl
  dv:=dv
  gv:=by rw [lt gq (by simp)]; exact P.gv
  pv:=by rw [lt pq (by simp)]; exact P.pv
  kv:=by rw [lt kq (by simp)]; exact P.kv
  mv:=by rw [lt mq (by simp)]; exact P.mv
  nv:=by rw [lt nq (by simp)]; exact P.nv
  o0:=o0
  o1:=o1 }, ⟨by omega, fun i hi h1 h2 h3=>hg i (by rcases hq with e | e | e <;> rw [e] <;> assumption)⟩⟩
theorem PM.std (P:PM h₀ h d gq pq kq mq nq m0 m1 o p m n) (v:Int):PM h₀ (h.put d (some (.cells [.int .i64 v] true))) d gq pq kq mq nq m0 m1 o p m n ∧ Kp d m0 m1 h (h.put d (some (.cells [.int .i64 v] true))):=by
 refine P.one (.inl rfl) rfl (fun i hi=>zo _ _ hi) ⟨v, zh _ _ _⟩ ?_ ?_
 ·obtain ⟨A, h1, h2⟩:=P.o0; exact ⟨A, h1, h2.keep (Nat.le_refl _) (zo _ _ (Ne.symm P.da))⟩
 ·obtain ⟨A, h1, h2⟩:=P.o1; exact ⟨A, h1, h2.keep (Nat.le_refl _) (zo _ _ (Ne.symm P.db))⟩
def mvOf (m0 m1:Sl) (b:Bool):Sl:=if b then m1 else m0
theorem PM.ldm (P:PM h₀ h d gq pq kq mq nq m0 m1 o p m n) (b:Bool) {x:Int} (hx:x = pn b) (K:Sl->M α) :
  ldS ((((⟨mq, 0⟩:Ad).add (x.toNat * 1))).add 0) K h = K (mvOf m0 m1 b) h:=by
 subst hx
 refine yl ?_
 cases b <;> (rw [show (((⟨mq, 0⟩:Ad).add ((pn _).toNat * 1))).add 0 = ⟨mq, _⟩ from rfl, zt P.mv]; rfl)
theorem PM.stm (P:PM h₀ h d gq pq kq mq nq m0 m1 o p m n) (b:Bool) {i:Nat} (v:Int) {x:Int} (hx:x = (i:Int)) (hi:i < n) :
  ∃ h', (∀ (α:Type) (K:M α), idxSl (mvOf m0 m1 b) x 1 (fun a=>st1 (a.add 0) (.int .i64 v) K) h = K h') ∧ PM h₀ h' d gq pq kq mq nq m0 m1 o p m n ∧ Kp d m0 m1 h h':=by
 obtain ⟨A, h1, h2⟩:=P.o0
 obtain ⟨B, h3, h4⟩:=P.o1
 cases b with
 | false=>
  obtain ⟨h', e, ow, n', g⟩:=zdx h2 v hx (by omega)
  exact ⟨h', e, P.one (.inr (.inl rfl)) n' g (by obtain ⟨v, hv⟩:=P.dv; exact ⟨v, by rw [g d P.da]; exact hv⟩) ⟨_, by rw [List.length_set]; exact h1, ow⟩ ⟨B, h3, h4.keep (by omega) (g _ (Ne.symm P.ab))⟩⟩
 | true=>
  obtain ⟨h', e, ow, n', g⟩:=zdx h4 v hx (by omega)
  exact ⟨h', e, P.one (.inr (.inr rfl)) n' g (by obtain ⟨v, hv⟩:=P.dv; exact ⟨v, by rw [g d P.db]; exact hv⟩) ⟨A, h1, h2.keep (by omega) (g _ P.ab)⟩ ⟨_, by rw [List.length_set]; exact h3, ow⟩⟩
theorem zas (b:Bool):0≤pn b ∧ pn b < 2:=by cases b <;> decide
theorem pn_not (b:Bool):w64 (1 - pn b) = pn (!b):=by cases b <;> rfl
theorem Kp.rd {h':H} (k:Kp d m0 m1 h h') {s:Sl} {size:Nat} {cs:List V} (r:Rd h s size cs) (hs:∀ a, s.ad = some a->a.id ≠ d ∧ a.id ≠ m0.id ∧ a.id ≠ m1.id):Rd h' s size cs:=
 r.keep k.n fun a ha=>k.g _ (r.row a ha).2 (hs a ha).1 (hs a ha).2.1 (hs a ha).2.2
theorem keep_loop (k:Nat) (b:Bool) {l:Sl} {mo:List Int} (hlen:mo.length = n) (hn:n≤200) (hl:∀ a, l.ad = some a->a.id ≠ d ∧ a.id ≠ m0.id ∧ a.id ≠ m1.id) :
  ∀ (c i:Nat) (h:H), i + c = n->PM h₀ h d gq pq kq mq nq m0 m1 o p m n->Rd h l 1 (mo.flatMap cI) ->
   ∃ h', PM h₀ h' d gq pq kq mq nq m0 m1 o p m n ∧ Kp d m0 m1 h h' ∧ ∀ (α:Type) (j:Nat) (kx:M α), c < j->qs.u3.l k kx j (pn b) ⟨mq, 0⟩ l (n:Int) (i:Int) h = kx h':=by
 intro c
 induction c with
 | zero=>
  intro i h hi P r
  refine ⟨h, P, Kp.refl _ _ _ _, fun α j kx hj=>?_⟩
  obtain ⟨j, rfl⟩:∃ q, j = q + 1:=⟨j - 1, by omega⟩
  rw [qs.u3.l, qs.u2.f, dF (by omega), cond_false]
 | succ c ih=>
  intro i h hi P r
  have hin:i < n:=by omega
  have hv:mo[i]? = some (mo[i]'(by omega)):=List.getElem?_eq_getElem _
  generalize mo[i]'(by omega) = v at hv
  by_cases h0:0≤v
  ·obtain ⟨h1, e1, P1, k1⟩:=P.stm b v (x:=(i:Int)) rfl hin
   obtain ⟨h', P', k', e'⟩:=ih (i + 1) h1 (by omega) P1 (k1.rd r hl)
   refine ⟨h', P', k1.trans k', fun α j kx hj=>?_⟩
   obtain ⟨j, rfl⟩:∃ q, j = q + 1:=⟨j - 1, by omega⟩
   rw [qs.u3.l, qs.u2.f, dT (by omega), cond_true, jy r rfl hv, dT h0, cond_true, zd (dT (zas b).1), zd (dT (zas b).2), P.ldm b rfl]
   refine (e1 α _).trans ?_
   rw [nxt (by omega)]
   exact e' α j kx (by omega)
  ·obtain ⟨h', P', k', e'⟩:=ih (i + 1) h (by omega) P r
   refine ⟨h', P', k', fun α j kx hj=>?_⟩
   obtain ⟨j, rfl⟩:∃ q, j = q + 1:=⟨j - 1, by omega⟩
   rw [qs.u3.l, qs.u2.f, dT (by omega), cond_true, jy r rfl hv, dF h0, cond_false, nxt (by omega)]
   exact e' α j kx (by omega)
theorem zko (k:Nat) (hk:300 < k) (b:Bool) {l:Sl} {mo:List Int} (hlen:mo.length = n) (hn:n≤200) (hl:∀ a, l.ad = some a->a.id ≠ d ∧ a.id ≠ m0.id ∧ a.id ≠ m1.id)
  (P:PM h₀ h d gq pq kq mq nq m0 m1 o p m n) (r:Rd h l 1 (mo.flatMap cI)) :
  ∃ h', PM h₀ h' d gq pq kq mq nq m0 m1 o p m n ∧ Kp d m0 m1 h h' ∧ ∀ (α:Type) (K:M α),
   (ld ((⟨kq, 0⟩:Ad).add 0) fun x15=>zbc x15 fun f16 ls17 ls18=>cond (Nat.beq f16 46) (jq ls17 <| zf ls18 fun v19 ls20=>jq ls20 <| asP v19 fun x21=>asSome x21 fun p22=>
    qs.f (k + 1) (pn b) l p22 K) fail) h = K h':=by
 obtain ⟨h', P', k', e'⟩:=keep_loop k b hlen hn hl n 0 h (by omega) P r
 refine ⟨h', P', k', fun α K=>?_⟩
 rw [zea (v:=fK mq) (by rw [show (⟨kq, 0⟩:Ad).add 0 = ⟨kq, 0⟩ from rfl, zt P.kv]; rfl)]
 show qs.f (k + 1) (pn b) l ⟨mq, 0⟩ K h = _
 rw [qs.f]
 unfold qs.u5.f qs.u1.f qs.u4.f qs.u3.f
 have:(l.len:Int) = (n:Int):=by rw [ilen r, hlen]
 rw [this]
 exact e' α k _ (by omega)
theorem zet (P:PM h₀ h d gq pq kq mq nq m0 m1 o p m n) (X:M α) (K:Ad->Ad->Ad->Ad->Ad->Ad->M α) :
  (zdg (fP d gq pq kq mq nq) X (ld ((⟨pq, 0⟩:Ad).add 0) fun x107=>zfo (V.cells (fP d gq pq kq mq nq)) [x107] <| zbc (fP d gq pq kq mq nq) fun f108 ls109 ls110=>
   cond (Nat.beq f108 47) (
    jq ls109 <|
    zf ls110 fun v111 ls112=>
    zf ls112 fun v113 ls114=>
    zf ls114 fun v115 ls116=>
    zf ls116 fun v117 ls118=>
    zf ls118 fun v119 ls120=>
    zf ls120 fun v121 ls122=>
    jq ls122 <|
    asP v111 fun x123=>
    asSome x123 fun p124=>
    asP v113 fun x125=>
    asSome x125 fun p126=>
    asP v115 fun x127=>
    asSome x127 fun p128=>
    asP v117 fun x129=>
    asSome x129 fun p130=>
    asP v119 fun x131=>
    asSome x131 fun p132=>
    asP v121 fun x133=>
    asSome x133 fun p134=>K p124 p126 p128 p130 p132 p134) fail)) h = K ⟨d, 0⟩ ⟨gq, 0⟩ ⟨pq, 0⟩ ⟨kq, 0⟩ ⟨mq, 0⟩ ⟨nq, 0⟩ h:=by
 show (ld ((⟨pq, 0⟩:Ad).add 0) _) h = _
 rw [zea (v:=fP d gq pq kq mq nq) (by rw [show (⟨pq, 0⟩:Ad).add 0 = ⟨pq, 0⟩ from rfl, zt P.pv]; rfl)]
 have hs:zar 3 (fP d gq pq kq mq nq) (fP d gq pq kq mq nq) = true:=by simp [zar, zcg]
 show need (zar 3 (fP d gq pq kq mq nq) (fP d gq pq kq mq nq)) _ h = _
 rw [zd hs]
 rfl
end
abbrev c8 (S T:Nat):Blk:=.cells [.int .u64 (wi S 0), .int .u64 (wi S 1), .int .u64 (wi S 2), .int .u64 (wi S 3), .int .u64 (wi T 0), .int .u64 (wi T 1), .int .u64 (wi T 2), .int .u64 (wi T 3)] true
theorem wi_zero (i:Nat):wi 0 i = 0:=by unfold wi; rw [wd_zero]; rfl
theorem new8 (K:Ad->M α):new [.int .u64 0, .int .u64 0, .int .u64 0, .int .u64 0, .int .u64 0, .int .u64 0, .int .u64 0, .int .u64 0] K h = K ⟨h.next, 0⟩ (h.push (c8 0 0)):=by
 rw [jl rfl]; simp only [c8, wi_zero]
def pk (b:Bool) (S T:Nat):Nat:=if b then T else S
theorem ld8 {q S T:Nat} (hq:h.get q = some (c8 S T)) (K:Int->Int->Int->Int->Int->Int->Int->Int->M α) :
  (ldI .u64 ((⟨q, 0⟩:Ad).add 0) fun x0=>ldI .u64 ((⟨q, 0⟩:Ad).add 1) fun x1=>ldI .u64 ((⟨q, 0⟩:Ad).add 2) fun x2=>ldI .u64 ((⟨q, 0⟩:Ad).add 3) fun x3=>
   ldI .u64 ((⟨q, 0⟩:Ad).add 4) fun x4=>ldI .u64 ((⟨q, 0⟩:Ad).add 5) fun x5=>ldI .u64 ((⟨q, 0⟩:Ad).add 6) fun x6=>ldI .u64 ((⟨q, 0⟩:Ad).add 7) fun x7=>K x0 x1 x2 x3 x4 x5 x6 x7) h =
   K (wi S 0) (wi S 1) (wi S 2) (wi S 3) (wi T 0) (wi T 1) (wi T 2) (wi T 3) h:=by
 simp only [ya, Nat.zero_add]
 rw [jh (a:=⟨q, 0⟩) (by rw [zt (a:=⟨q, 0⟩) hq]; rfl), jh (a:=⟨q, 1⟩) (by rw [zt (a:=⟨q, 1⟩) hq]; rfl), jh (a:=⟨q, 2⟩) (by rw [zt (a:=⟨q, 2⟩) hq]; rfl), jh (a:=⟨q, 3⟩) (by rw [zt (a:=⟨q, 3⟩) hq]; rfl),
  jh (a:=⟨q, 4⟩) (by rw [zt (a:=⟨q, 4⟩) hq]; rfl), jh (a:=⟨q, 5⟩) (by rw [zt (a:=⟨q, 5⟩) hq]; rfl), jh (a:=⟨q, 6⟩) (by rw [zt (a:=⟨q, 6⟩) hq]; rfl), jh (a:=⟨q, 7⟩) (by rw [zt (a:=⟨q, 7⟩) hq]; rfl)]
theorem st8 {q:Nat} {S T S' T':Nat} (hq:h.get q = some (c8 S' T')) (K:M α) :
  (st1 ((⟨q, 0⟩:Ad).add 0) (.int .u64 (wi S 0)) <| st1 ((⟨q, 0⟩:Ad).add 1) (.int .u64 (wi S 1)) <| st1 ((⟨q, 0⟩:Ad).add 2) (.int .u64 (wi S 2)) <| st1 ((⟨q, 0⟩:Ad).add 3) (.int .u64 (wi S 3)) <|
   st1 ((⟨q, 0⟩:Ad).add 4) (.int .u64 (wi T 0)) <| st1 ((⟨q, 0⟩:Ad).add 5) (.int .u64 (wi T 1)) <| st1 ((⟨q, 0⟩:Ad).add 6) (.int .u64 (wi T 2)) <| st1 ((⟨q, 0⟩:Ad).add 7) (.int .u64 (wi T 3)) K) h = K (h.put q (some (c8 S T))):=by
 simp only [ya, Nat.zero_add]
 rw [zz (a:=⟨q, 0⟩) hq rfl (by simp), zz (a:=⟨q, 1⟩) (by rw [zh]) rfl (by simp), jg, zz (a:=⟨q, 2⟩) (by rw [zh]) rfl (by simp), jg, zz (a:=⟨q, 3⟩) (by rw [zh]) rfl (by simp), jg,
  zz (a:=⟨q, 4⟩) (by rw [zh]) rfl (by simp), jg, zz (a:=⟨q, 5⟩) (by rw [zh]) rfl (by simp), jg, zz (a:=⟨q, 6⟩) (by rw [zh]) rfl (by simp), jg, zz (a:=⟨q, 7⟩) (by rw [zh]) rfl (by simp), jg]
 rfl
theorem ld8h {q S T:Nat} (hq:h.get q = some (c8 S T)) (b:Bool) {x:Int} (hx:x = pn b) (K:Int->Int->Int->Int->M α) :
  (ldI .u64 ((((⟨q, 0⟩:Ad).add (x.toNat * 4))).add 0) fun x0=>ldI .u64 ((((⟨q, 0⟩:Ad).add (x.toNat * 4))).add 1) fun x1=>ldI .u64 ((((⟨q, 0⟩:Ad).add (x.toNat * 4))).add 2) fun x2=>ldI .u64 ((((⟨q, 0⟩:Ad).add (x.toNat * 4))).add 3) fun x3=>K x0 x1 x2 x3) h =
   K (wi (pk b S T) 0) (wi (pk b S T) 1) (wi (pk b S T) 2) (wi (pk b S T) 3) h:=by
 subst hx
 cases b with
 | false=>
  show (ldI .u64 ⟨q, 0⟩ fun x0=>ldI .u64 ⟨q, 1⟩ fun x1=>ldI .u64 ⟨q, 2⟩ fun x2=>ldI .u64 ⟨q, 3⟩ fun x3=>K x0 x1 x2 x3) h = _
  rw [jh (a:=⟨q, 0⟩) (by rw [zt (a:=⟨q, 0⟩) hq]; rfl), jh (a:=⟨q, 1⟩) (by rw [zt (a:=⟨q, 1⟩) hq]; rfl), jh (a:=⟨q, 2⟩) (by rw [zt (a:=⟨q, 2⟩) hq]; rfl), jh (a:=⟨q, 3⟩) (by rw [zt (a:=⟨q, 3⟩) hq]; rfl)]
  rfl
 | true=>
  show (ldI .u64 ⟨q, 4⟩ fun x0=>ldI .u64 ⟨q, 5⟩ fun x1=>ldI .u64 ⟨q, 6⟩ fun x2=>ldI .u64 ⟨q, 7⟩ fun x3=>K x0 x1 x2 x3) h = _
  rw [jh (a:=⟨q, 4⟩) (by rw [zt (a:=⟨q, 4⟩) hq]; rfl), jh (a:=⟨q, 5⟩) (by rw [zt (a:=⟨q, 5⟩) hq]; rfl), jh (a:=⟨q, 6⟩) (by rw [zt (a:=⟨q, 6⟩) hq]; rfl), jh (a:=⟨q, 7⟩) (by rw [zt (a:=⟨q, 7⟩) hq]; rfl)]
  rfl
theorem st8h {q S T U:Nat} (hq:h.get q = some (c8 S T)) (b:Bool) {x:Int} (hx:x = pn b) (K:M α) :
  (st1 ((((⟨q, 0⟩:Ad).add (x.toNat * 4))).add 0) (.int .u64 (wi U 0)) <| st1 ((((⟨q, 0⟩:Ad).add (x.toNat * 4))).add 1) (.int .u64 (wi U 1)) <| st1 ((((⟨q, 0⟩:Ad).add (x.toNat * 4))).add 2) (.int .u64 (wi U 2)) <| st1 ((((⟨q, 0⟩:Ad).add (x.toNat * 4))).add 3) (.int .u64 (wi U 3)) K) h =
   K (h.put q (some (c8 (pk b U S) (pk b T U)))):=by
 subst hx
 cases b with
 | false=>
  show (st1 ⟨q, 0⟩ (.int .u64 (wi U 0)) <| st1 ⟨q, 1⟩ (.int .u64 (wi U 1)) <| st1 ⟨q, 2⟩ (.int .u64 (wi U 2)) <| st1 ⟨q, 3⟩ (.int .u64 (wi U 3)) K) h = _
  rw [zz (a:=⟨q, 0⟩) hq rfl (by simp), zz (a:=⟨q, 1⟩) (by rw [zh]) rfl (by simp), jg, zz (a:=⟨q, 2⟩) (by rw [zh]) rfl (by simp), jg, zz (a:=⟨q, 3⟩) (by rw [zh]) rfl (by simp), jg]
  rfl
 | true=>
  show (st1 ⟨q, 4⟩ (.int .u64 (wi U 0)) <| st1 ⟨q, 5⟩ (.int .u64 (wi U 1)) <| st1 ⟨q, 6⟩ (.int .u64 (wi U 2)) <| st1 ⟨q, 7⟩ (.int .u64 (wi U 3)) K) h = _
  rw [zz (a:=⟨q, 4⟩) hq rfl (by simp), zz (a:=⟨q, 5⟩) (by rw [zh]) rfl (by simp), jg, zz (a:=⟨q, 6⟩) (by rw [zh]) rfl (by simp), jg, zz (a:=⟨q, 7⟩) (by rw [zh]) rfl (by simp), jg]
  rfl
end Go.Ab.S9
namespace Go.Ab.S9
variable {α:Type} {h:H}
section
variable {h₀:H} {d gq pq kq mq nq:Nat} {m0 m1 o p m:Sl} {n:Nat}
theorem most_loop (k:Nat) (hk:1000 < k) {g:Gm} {sv:Nat->List Nat} {G:PG} (r:GmR h₀ o p m g) (rg:RG g n sv G) (b:Bool) {sl:Sl} {l:List Nat} {iq U:Nat} {res:Ad} (hU:U < FS) (hl:∀ i ∈ l, i < n)
  (hsl:∀ a, sl.ad = some a->a.id ≠ d ∧ a.id ≠ m0.id ∧ a.id ≠ m1.id) (hiq:iq ≠ d ∧ iq ≠ m0.id ∧ iq ≠ m1.id) (hll:l.length≤1000) :
  ∀ (c t:Nat) (h:H), t + c = l.length->PM h₀ h d gq pq kq mq nq m0 m1 o p m n->Rd h sl 1 ((ints l).flatMap cI)->Q h iq U->iq < h.next ->
   ∃ h', PM h₀ h' d gq pq kq mq nq m0 m1 o p m n ∧ Kp d m0 m1 h h' ∧ ∀ (α:Type) (j:Nat) (kx:Ad->Ad->Int->M α), c < j ->
    qd.u7.l (k + 1) kx j ⟨gq, 0⟩ ⟨mq, 0⟩ ⟨iq, 0⟩ res (pn b) sl (l.length:Int) (t:Int) h = kx ⟨iq, 0⟩ res (pn b) h':=by
 intro c
 induction c with
 | zero=>
  intro t h ht P rs hq hqn
  refine ⟨h, P, Kp.refl _ _ _ _, fun α j kx hj=>?_⟩
  obtain ⟨j, rfl⟩:∃ q, j = q + 1:=⟨j - 1, by omega⟩
  rw [qd.u7.l, qd.u6.f, dF (by omega), cond_false]
 | succ c ih=>
  intro t h ht P rs hq hqn
  obtain ⟨i, hi, _, hlt⟩:∃ v, l[t]? = some v ∧ l.drop t = v :: l.drop (t + 1) ∧ t < l.length:=by
   rcases idec (l:=l) (j:=t) (by omega) with ⟨m, h1, h2, h3⟩ | ⟨_, h2⟩
   ·exact ⟨m, h1, h2, h3⟩
   ·omega
  have hin:=hl i (List.mem_of_getElem? hi)
  have r1:=r.ext P.base
  have n200:=rg.n200
  by_cases ho:G.own i = b
  ·obtain ⟨rows, rm⟩:=r1.m
   obtain ⟨s, rsl, _, es⟩:=zio rm (rg.mv i hin)
   have hlen:=Nat.le_trans (pig n (sv i) (rg.nd i hin) (rg.ml i hin)) n200
   obtain ⟨h1, x1, e1⟩:=Of_run k rsl (by rw [yp]; omega) (by rw [yp]; omega)
   obtain ⟨h2, x2, e2⟩:=zju (h:=h1) k (by omega) (ofL (ints (sv i))) U
   obtain ⟨v, h3, _, x3, e3⟩:=zil (h:=h2) k (by omega) (and_ltF (ofL_lt (ints (sv i))) U)
   have P1:=P.push x1
   have P2:=P1.push x2
   have P3:=P2.push x3
   have q1:Q h1 iq U:=by show h1.get iq = _; rw [x1.2 iq hqn]; exact hq
   have x13:=(x1.trans x2).trans x3
   obtain ⟨h4, e4, P4, k4⟩:=P3.stm b v (x:=(i:Int)) rfl hin
   have k14:Kp d m0 m1 h h4:=(Kp.of x13).trans k4
   obtain ⟨h', P', k', e'⟩:=ih (t + 1) h4 (by omega) P4 (k14.rd rs hsl) (by show h4.get iq = _; rw [k14.g iq hqn hiq.1 hiq.2.1 hiq.2.2]; exact hq) (Nat.lt_of_lt_of_le hqn k14.n)
   refine ⟨h', P', k14.trans k', fun α j kx hj=>?_⟩
   obtain ⟨j, rfl⟩:∃ q, j = q + 1:=⟨j - 1, by omega⟩
   rw [qd.u7.l, qd.u6.f, dT (by omega), cond_true, jy rs rfl (zcw hi), g_o P.gv, jy r1.o rfl (rg.ow i hin), zeu, ho, beq_self_eq_true, cond_true,
    zd (dT (zas b).1), zd (dT (zas b).2), P.ldm b rfl, g_m P.gv, es _ _ _ rfl]
   refine (ld4 hq _).trans ?_
   rw [e1, P1.ldm b rfl, zd (dT rfl)]
   refine (ld4 q1 _).trans ?_
   rw [zd (dT rfl), zd (dT rfl), zd (dT rfl), zd (dT rfl), e2, P2.ldm b rfl, zd (dT rfl), e3, P3.ldm b rfl, zd (dT rfl)]
   refine (e4 α _).trans ?_
   rw [nxt (by omega)]
   exact e' α j kx (by omega)
  ·obtain ⟨h', P', k', e'⟩:=ih (t + 1) h (by omega) P rs hq hqn
   refine ⟨h', P', k', fun α j kx hj=>?_⟩
   obtain ⟨j, rfl⟩:∃ q, j = q + 1:=⟨j - 1, by omega⟩
   have hbq:(G.own i == b) = false:=by simpa using ho
   rw [qd.u7.l, qd.u6.f, dT (by omega), cond_true, jy rs rfl (zcw hi), g_o P.gv, jy r1.o rfl (rg.ow i hin), zeu, hbq, cond_false, nxt (by omega)]
   exact e' α j kx (by omega)
theorem gone_loop (k:Nat) (b:Bool) {iq lq cq U S C:Nat} {dep:Int} {pa res:Ad} (hn:n≤200) (hU:U < FS) (hS:S < FS) (hC:C < FS)
  (hiq:iq ≠ d ∧ iq ≠ m0.id ∧ iq ≠ m1.id) (hlq:lq ≠ d ∧ lq ≠ m0.id ∧ lq ≠ m1.id) (hcq:cq ≠ d ∧ cq ≠ m0.id ∧ cq ≠ m1.id) :
  ∀ (c i:Nat) (h:H), i + c = n->PM h₀ h d gq pq kq mq nq m0 m1 o p m n->Q h iq U->Q h lq S->Q h cq C->iq < h.next->lq < h.next->cq < h.next ->
   ∃ h', PM h₀ h' d gq pq kq mq nq m0 m1 o p m n ∧ Kp d m0 m1 h h' ∧ ∀ (α:Type) (j:Nat) (kx:Int->Ad->Ad->Ad->Int->Ad->M α), c < j ->
    qd.u19.l (k + 1) kx j dep pa ⟨mq, 0⟩ ⟨iq, 0⟩ res (pn b) ⟨lq, 0⟩ ⟨cq, 0⟩ (n:Int) (i:Int) h = kx dep pa ⟨iq, 0⟩ res (pn b) ⟨cq, 0⟩ h':=by
 intro c
 induction c with
 | zero=>
  intro i h hi P q1 q2 q3 l1 l2 l3
  refine ⟨h, P, Kp.refl _ _ _ _, fun α j kx hj=>?_⟩
  obtain ⟨j, rfl⟩:∃ q, j = q + 1:=⟨j - 1, by omega⟩
  rw [qd.u19.l, qd.u18.f, dF (by omega), cond_false]
 | succ c ih=>
  intro i h hi P q1 q2 q3 l1 l2 l3
  have hin:i < n:=by omega
  have go:∀ (h1:H), PM h₀ h1 d gq pq kq mq nq m0 m1 o p m n->Kp d m0 m1 h h1 ->
    ∃ h', PM h₀ h' d gq pq kq mq nq m0 m1 o p m n ∧ Kp d m0 m1 h h' ∧ ∀ (α:Type) (j:Nat) (kx:Int->Ad->Ad->Ad->Int->Ad->M α), c < j ->
     qd.u19.l (k + 1) kx j dep pa ⟨mq, 0⟩ ⟨iq, 0⟩ res (pn b) ⟨lq, 0⟩ ⟨cq, 0⟩ (n:Int) (w64 ((i:Int) + 1)) h1 = kx dep pa ⟨iq, 0⟩ res (pn b) ⟨cq, 0⟩ h':=fun h1 P1 k1=>by
   obtain ⟨h', P', k', e'⟩:=ih (i + 1) h1 (by omega) P1 (by show h1.get iq = _; rw [k1.g iq l1 hiq.1 hiq.2.1 hiq.2.2]; exact q1) (by show h1.get lq = _; rw [k1.g lq l2 hlq.1 hlq.2.1 hlq.2.2]; exact q2)
    (by show h1.get cq = _; rw [k1.g cq l3 hcq.1 hcq.2.1 hcq.2.2]; exact q3) (Nat.lt_of_lt_of_le l1 k1.n) (Nat.lt_of_lt_of_le l2 k1.n) (Nat.lt_of_lt_of_le l3 k1.n)
   exact ⟨h', P', k1.trans k', fun α j kx hj=>by rw [nxt (by omega)]; exact e' α j kx hj⟩
  obtain ⟨h1, x1, e1⟩:=zcj (h:=h) k hC (i:Int)
  have P1:=P.push x1
  have q1':Q h1 iq U:=by show h1.get iq = _; rw [x1.2 iq l1]; exact q1
  have q2':Q h1 lq S:=by show h1.get lq = _; rw [x1.2 lq l2]; exact q2
  have start:∀ (α:Type) (j:Nat) (kx:Int->Ad->Ad->Ad->Int->Ad->M α), qd.u19.l (k + 1) kx (j + 1) dep pa ⟨mq, 0⟩ ⟨iq, 0⟩ res (pn b) ⟨lq, 0⟩ ⟨cq, 0⟩ (n:Int) (i:Int) h =
    cond (C.testBit i) (
     (need (decide (0≤pn b)) <|
     need (decide (pn b < (2:Int))) <|
     ldS ((((⟨mq, 0⟩:Ad).add ((pn b).toNat * 1))).add 0) fun x17=>
     idxSl x17 (i:Int) 1 fun a18=>
     st1 (a18.add 0) (.int .i64 (-1)) <|
     qd.u19.l (k + 1) kx j dep pa ⟨mq, 0⟩ ⟨iq, 0⟩ res (pn b) ⟨lq, 0⟩ ⟨cq, 0⟩ (n:Int) (w64 ((i:Int) + 1))) h1) (
     (ldI .u64 ((⟨iq, 0⟩:Ad).add 0) fun x19=>
     ldI .u64 ((⟨iq, 0⟩:Ad).add 1) fun x20=>
     ldI .u64 ((⟨iq, 0⟩:Ad).add 2) fun x21=>
     ldI .u64 ((⟨iq, 0⟩:Ad).add 3) fun x22=>
     qw.f (k + 1) x19 x20 x21 x22 (i:Int) fun r23=>
     cond (r23) (
      ldI .u64 ((⟨lq, 0⟩:Ad).add 0) fun x24=>
      ldI .u64 ((⟨lq, 0⟩:Ad).add 1) fun x25=>
      ldI .u64 ((⟨lq, 0⟩:Ad).add 2) fun x26=>
      ldI .u64 ((⟨lq, 0⟩:Ad).add 3) fun x27=>
      qw.f (k + 1) x24 x25 x26 x27 (i:Int) fun r28=>
      cond (!r28) (
       need (decide (0≤pn b)) <|
       need (decide (pn b < (2:Int))) <|
       ldS ((((⟨mq, 0⟩:Ad).add ((pn b).toNat * 1))).add 0) fun x29=>
       idxSl x29 (i:Int) 1 fun a30=>
       st1 (a30.add 0) (.int .i64 (-1)) <|
       qd.u19.l (k + 1) kx j dep pa ⟨mq, 0⟩ ⟨iq, 0⟩ res (pn b) ⟨lq, 0⟩ ⟨cq, 0⟩ (n:Int) (w64 ((i:Int) + 1))) (
       qd.u19.l (k + 1) kx j dep pa ⟨mq, 0⟩ ⟨iq, 0⟩ res (pn b) ⟨lq, 0⟩ ⟨cq, 0⟩ (n:Int) (w64 ((i:Int) + 1)))) (
      qd.u19.l (k + 1) kx j dep pa ⟨mq, 0⟩ ⟨iq, 0⟩ res (pn b) ⟨lq, 0⟩ ⟨cq, 0⟩ (n:Int) (w64 ((i:Int) + 1)))) h1):=fun α j kx=>by
   rw [qd.u19.l, qd.u18.f, dT (by omega), cond_true]
   refine (ld4 q3 _).trans ?_
   rw [e1, zak]
   cases C.testBit i <;> rfl
  -- a move is struck out
  have strike:∀ (h2:H), PM h₀ h2 d gq pq kq mq nq m0 m1 o p m n->Kp d m0 m1 h h2->∃ h', PM h₀ h' d gq pq kq mq nq m0 m1 o p m n ∧ Kp d m0 m1 h h' ∧ ∀ (α:Type) (j:Nat) (kx:Int->Ad->Ad->Ad->Int->Ad->M α), c < j ->
     (need (decide (0≤pn b)) <|
     need (decide (pn b < (2:Int))) <|
     ldS ((((⟨mq, 0⟩:Ad).add ((pn b).toNat * 1))).add 0) fun x17=>
     idxSl x17 (i:Int) 1 fun a18=>
     st1 (a18.add 0) (.int .i64 (-1)) <|
     qd.u19.l (k + 1) kx j dep pa ⟨mq, 0⟩ ⟨iq, 0⟩ res (pn b) ⟨lq, 0⟩ ⟨cq, 0⟩ (n:Int) (w64 ((i:Int) + 1))) h2 = kx dep pa ⟨iq, 0⟩ res (pn b) ⟨cq, 0⟩ h':=fun h2 P2 k2=>by
   obtain ⟨h3, e3, P3, k3⟩:=P2.stm b (-1) (x:=(i:Int)) rfl hin
   obtain ⟨h', P', k', e'⟩:=go h3 P3 (k2.trans k3)
   refine ⟨h', P', k', fun α j kx hj=>?_⟩
   rw [zd (dT (zas b).1), zd (dT (zas b).2), P2.ldm b rfl]
   refine (e3 α _).trans ?_
   exact e' α j kx hj
  cases hc:C.testBit i with
  | true=>
   obtain ⟨h', P', k', e'⟩:=strike h1 P1 (Kp.of x1)
   refine ⟨h', P', k', fun α j kx hj=>?_⟩
   obtain ⟨j, rfl⟩:∃ q, j = q + 1:=⟨j - 1, by omega⟩
   rw [start, hc, cond_true]
   exact e' α j kx (by omega)
  | false=>
   obtain ⟨h2, x2, e2⟩:=zcj (h:=h1) k hU (i:Int)
   have q2'':Q h2 lq S:=by show h2.get lq = _; rw [x2.2 lq (Nat.lt_of_lt_of_le l2 x1.1)]; exact q2'
   cases hu:U.testBit i with
   | false=>
    obtain ⟨h', P', k', e'⟩:=go h2 (P1.push x2) (Kp.of (x1.trans x2))
    refine ⟨h', P', k', fun α j kx hj=>?_⟩
    obtain ⟨j, rfl⟩:∃ q, j = q + 1:=⟨j - 1, by omega⟩
    rw [start, hc, cond_false]
    refine (ld4 q1' _).trans ?_
    rw [e2, zak, hu, cond_false]
    exact e' α j kx (by omega)
   | true=>
    obtain ⟨h3, x3, e3⟩:=zcj (h:=h2) k hS (i:Int)
    cases hs:S.testBit i with
    | true=>
     obtain ⟨h', P', k', e'⟩:=go h3 ((P1.push x2).push x3) (Kp.of ((x1.trans x2).trans x3))
     refine ⟨h', P', k', fun α j kx hj=>?_⟩
     obtain ⟨j, rfl⟩:∃ q, j = q + 1:=⟨j - 1, by omega⟩
     rw [start, hc, cond_false]
     refine (ld4 q1' _).trans ?_
     rw [e2, zak, hu, cond_true]
     refine (ld4 q2'' _).trans ?_
     rw [e3, zak, hs]
     exact e' α j kx (by omega)
    | false=>
     obtain ⟨h', P', k', e'⟩:=strike h3 ((P1.push x2).push x3) (Kp.of ((x1.trans x2).trans x3))
     refine ⟨h', P', k', fun α j kx hj=>?_⟩
     obtain ⟨j, rfl⟩:∃ q, j = q + 1:=⟨j - 1, by omega⟩
     rw [start, hc, cond_false]
     refine (ld4 q1' _).trans ?_
     rw [e2, zak, hu, cond_true]
     refine (ld4 q2'' _).trans ?_
     rw [e3, zak, hs]
     exact e' α j kx (by omega)
end
def TInv (pr:List Int) (seen:List Int) (hi:Int) (S:Nat):Prop:=
 (∀ v ∈ seen, pr.getD v.toNat 0≤hi) ∧ (∀ j:Nat, S.testBit j = true ↔ (j:Int) ∈ seen ∧ pr.getD j 0 = hi) ∧ (seen ≠ []->∃ v ∈ seen, pr.getD v.toNat 0 = hi) ∧ (seen = []->hi = -1)
theorem zjz {S a j:Nat} (ha:a < 256):(wth S (a:Int)).testBit j = true ↔ S.testBit j = true ∨ j = a:=by
 unfold wth
 rw [if_pos ⟨by omega, by omega⟩, Int.toNat_natCast, Nat.testBit_or, Nat.testBit_two_pow, Bool.or_eq_true, decide_eq_true_eq]
 exact or_congr Iff.rfl eq_comm
theorem zeg (pr:List Int):∀ (l seen:List Int) (hi:Int) (S:Nat), (∀ v ∈ l, ∃ a:Nat, v = (a:Int) ∧ a < 256 ∧ 0≤pr.getD a 0)->TInv pr seen hi S->TInv pr (seen ++ l) (topF pr l hi S).1 (topF pr l hi S).2
 | [], seen, hi, S, _, t=>by rw [List.append_nil]; exact t
 | v :: l, seen, hi, S, hl, ⟨t1, t2, t3, t4⟩=>by
  obtain ⟨a, rfl, ha, h0⟩:=hl v List.mem_cons_self
  have hl':∀ v ∈ l, ∃ a:Nat, v = (a:Int) ∧ a < 256 ∧ 0≤pr.getD a 0:=fun v hv=>hl v (List.mem_cons_of_mem _ hv)
  rw [show seen ++ (a:Int) :: l = (seen ++ [(a:Int)]) ++ l by simp]
  unfold topF
  rw [Int.toNat_natCast]
  by_cases c1:hi < pr.getD a 0
  ·rw [if_pos c1]
   refine zeg pr l _ _ _ hl' ⟨fun v hv=>?_, fun j=>?_, fun _=>⟨(a:Int), by simp, by rw [Int.toNat_natCast]⟩, fun h=>by simp at h⟩
   ·rcases List.mem_append.1 hv with hv | hv
    ·have:=t1 v hv; omega
    ·rw [List.mem_singleton] at hv; subst hv; rw [Int.toNat_natCast]; exact Int.le_refl _
   ·rw [zjz ha, Nat.zero_testBit]
    constructor
    ·rintro (h | rfl)
     ·cases h
     ·exact ⟨by simp, rfl⟩
    ·rintro ⟨h1, h2⟩
     rcases List.mem_append.1 h1 with h1 | h1
     ·have:=t1 _ h1; rw [Int.toNat_natCast] at this; omega
     ·rw [List.mem_singleton] at h1; right; omega
  ·rw [if_neg c1]
   by_cases c2:pr.getD a 0 = hi
   ·rw [if_pos c2]
    refine zeg pr l _ _ _ hl' ⟨fun v hv=>?_, fun j=>?_, fun _=>⟨(a:Int), by simp, by rw [Int.toNat_natCast]; exact c2⟩, fun h=>by simp at h⟩
    ·rcases List.mem_append.1 hv with hv | hv
     ·exact t1 v hv
     ·rw [List.mem_singleton] at hv; subst hv; rw [Int.toNat_natCast]; omega
    ·rw [zjz ha, t2, List.mem_append, List.mem_singleton]
     constructor
     ·rintro (⟨h1, h2⟩ | rfl)
      ·exact ⟨.inl h1, h2⟩
      ·exact ⟨.inr rfl, c2⟩
     ·rintro ⟨h1 | h1, h2⟩
      ·exact .inl ⟨h1, h2⟩
      ·right; omega
   ·rw [if_neg c2]
    refine zeg pr l _ _ _ hl' ⟨fun v hv=>?_, fun j=>?_, fun hne=>?_, fun h=>by simp at h⟩
    ·rcases List.mem_append.1 hv with hv | hv
     ·exact t1 v hv
     ·rw [List.mem_singleton] at hv; subst hv; rw [Int.toNat_natCast]; omega
    ·rw [t2, List.mem_append, List.mem_singleton]
     constructor
     ·rintro ⟨h1, h2⟩; exact ⟨.inl h1, h2⟩
     ·rintro ⟨h1 | h1, h2⟩
      ·exact ⟨h1, h2⟩
      ·exfalso
       have:j = a:=by omega
       subst this; exact c2 h2
    ·by_cases hs:seen = []
     ·have:=t4 hs; omega
     ·obtain ⟨v, h1, h2⟩:=t3 hs
      exact ⟨v, List.mem_append_left _ h1, h2⟩
end Go.Ab.S9
