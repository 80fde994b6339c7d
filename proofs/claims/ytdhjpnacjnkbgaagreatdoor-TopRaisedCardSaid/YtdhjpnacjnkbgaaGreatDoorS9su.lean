import Derived.Test.YtdhjpnacjnkbgaaGreatDoorS9sn
set_option linter.unusedVariables false
set_option linter.unusedSimpArgs false
set_option linter.unusedSectionVars false
namespace Go.Ab.S9
variable {α:Type} {h:H}
theorem bn_len (S:Nat):(bn S).length≤256:=by rw [← yp, ← bl_bn]; exact zfa _ _
theorem zjp {U b:Nat} (hU:U < FS) (hb:U.testBit b = true):b < 256:=by
 rcases Nat.lt_or_ge b 256 with hq | hq
 ·exact hq
 ·rw [zcn hU hq] at hb; cases hb
theorem top_law {g:Gm} {n:Nat} {sv:Nat->List Nat} {G:PG} (rg:RG g n sv G) {U:Nat} (hU:U < FS) (hUn:∀ j, U.testBit j = true->j < n) (h0:U ≠ 0) :
  ∃ q:Nat, (∀ i, (topF g.pr (bl U 256) (-1) 0).2.testBit i = true->U.testBit i = true ∧ G.pr i = q) ∧ (∀ i, U.testBit i = true->G.pr i≤q) ∧ ∃ b, (topF g.pr (bl U 256) (-1) 0).2.testBit b = true:=by
 have hp:∀ i, i < n->g.pr.getD i 0 = ((G.pr i:Nat):Int):=fun i hi=>by rw [List.getD_eq_getElem?_getD, rg.pr i hi]; rfl
 have mem:∀ i:Nat, (i:Int) ∈ bl U 256 ↔ U.testBit i = true:=fun i=>by
  rw [zkl]
  constructor
  ·rintro ⟨j, e, _, hj⟩
   have:i = j:=by omega
   rw [this]; exact hj
  ·intro hi
   exact ⟨i, rfl, zjp hU hi, hi⟩
 have hne:bl U 256 ≠ []:=fun e=>h0 (zaf fun j=>by
  rw [Nat.zero_testBit]
  cases hj:U.testBit j with
  | false=>rfl
  | true=>have:=(mem j).2 hj; rw [e] at this; cases this)
 obtain ⟨t1, t2, t3, _⟩:=zeg g.pr (bl U 256) [] (-1) 0 (fun v hv=>by
  obtain ⟨j, rfl, h1, h2⟩:=zkl.1 hv
  exact ⟨j, rfl, h1, by rw [hp j (hUn j h2)]; omega⟩) ⟨fun v hv=>(by cases hv), fun j=>(by rw [Nat.zero_testBit]; simp), fun h=>absurd rfl h, fun _=>rfl⟩
 rw [List.nil_append] at t1 t2 t3
 obtain ⟨v, hv, ev⟩:=t3 hne
 obtain ⟨b, rfl, _, hb⟩:=zkl.1 hv
 rw [Int.toNat_natCast, hp b (hUn b hb)] at ev
 refine ⟨G.pr b, fun i hi=>?_, fun i hi=>?_, b, (t2 b).2 ⟨(mem b).2 hb, by rw [hp b (hUn b hb)]; exact ev⟩⟩
 ·obtain ⟨h1, h2⟩:=(t2 i).1 hi
  have hi:=(mem i).1 h1
  rw [hp i (hUn i hi), ← ev] at h2
  exact ⟨hi, by omega⟩
 ·have:=t1 _ ((mem i).2 hi)
  rw [Int.toNat_natCast, hp i (hUn i hi), ← ev] at this
  omega
theorem bn_less {U V b:Nat} (hb:b < 256) (hU:U.testBit b = true) (hV:V.testBit b = false) (hs:∀ j, V.testBit j = true->U.testBit j = true):(bn V).length < (bn U).length:=by
 unfold bn
 rw [← List.countP_eq_length_filter, ← List.countP_eq_length_filter]
 have hm:b ∈ List.range 256:=List.mem_range.2 hb
 generalize List.range 256 = l at hm
 have mono:∀ l:List Nat, l.countP (fun j=>V.testBit j)≤l.countP (fun j=>U.testBit j):=fun l=>List.countP_mono_left fun x _ hx=>hs x hx
 induction l with
 | nil=>cases hm
 | cons x l ih=>
  rw [List.countP_cons, List.countP_cons]
  rcases List.mem_cons.1 hm with e | hm
  ·subst e
   have:=mono l
   rw [hU, hV, if_neg (by decide), if_pos rfl]; omega
  ·have:=ih hm
   by_cases hx:V.testBit x = true
   ·rw [if_pos hx, if_pos (hs x hx)]; omega
   ·rw [if_neg hx]
    split <;> omega
theorem pk_self (b:Bool) (S T:Nat):pk b (pk b S T) (pk b T S) = S:=by cases b <;> rfl
theorem pk_other (b:Bool) (S T:Nat):pk (!b) (pk b S T) (pk b T S) = T:=by cases b <;> rfl
theorem pk_or (b:Bool) (S T:Nat) (i:Nat):((pk b S T).testBit i = true ∨ (pk b T S).testBit i = true) ↔ (S.testBit i = true ∨ T.testBit i = true):=by cases b <;> simp [pk, or_comm]
theorem tmod_pn (q:Nat):Int.tmod ((q:Nat):Int) 2 = pn (q % 2 == 1):=by
 rw [Int.tmod_eq_emod_of_nonneg (by omega)]
 rcases Nat.mod_two_eq_zero_or_one q with e | e
 ·rw [e]; show (q:Int) % 2 = 0; omega
 ·rw [e]; show (q:Int) % 2 = 1; omega
theorem solved1 {G:PG} {U T A W0 W1:Nat} {p:Bool} {q:Nat} (tot:Tot G fun j=>U.testBit j = true) (hp:(q % 2 == 1) = p) (hT:∀ i, T.testBit i = true->G.pr i = q) (hmax:∀ i, U.testBit i = true->G.pr i≤q)
  (a:Attr G (fun j=>U.testBit j = true) p (fun j=>T.testBit j = true) (fun j=>A.testBit j = true)) (w:∀ b, Win G (fun j=>(dif U A).testBit j = true) (fun j=>(pk b W0 W1).testBit j = true) b)
  (hpart:∀ i, (dif U A).testBit i = true ↔ W0.testBit i = true ∨ W1.testBit i = true) (hl:pk (!p) W0 W1 = 0) :
  ∀ b, Win G (fun j=>U.testBit j = true) (fun j=>(pk b (pk p U 0) (pk p 0 U)).testBit j = true) b:=by
 intro b
 have hd:∀ i, (dif U A).testBit i = true ↔ U.testBit i = true ∧ ¬ A.testBit i = true:=fun i=>by rw [zau, Bool.and_eq_true, Bool.not_eq_true']; simp
 by_cases e:b = p
 ·subst e
  rw [pk_self]
  refine zielonka1 tot hp hT hmax a ?_
  refine (w b).congr hd fun i=>?_
  rw [← hd i, hpart i]
  cases b
  ·simp only [pk, Bool.not_false, if_true] at hl; subst hl; simp [pk]
  ·simp only [pk, Bool.not_true] at hl
   have:W0 = 0:=hl
   subst this; simp [pk]
 ·have hb:b = !p:=by cases b <;> cases p <;> simp at e ⊢
  subst hb
  rw [pk_other]
  exact (zis G _ _).congr (fun i=>Iff.rfl) fun i=>by rw [Nat.zero_testBit]; simp
theorem solved2 {G:PG} {U T A W0 W1 B V0 V1:Nat} {p:Bool} (a:Attr G (fun j=>U.testBit j = true) p (fun j=>T.testBit j = true) (fun j=>A.testBit j = true))
  (w:∀ b, Win G (fun j=>(dif U A).testBit j = true) (fun j=>(pk b W0 W1).testBit j = true) b)
  (c:Attr G (fun j=>U.testBit j = true) (!p) (fun j=>(pk (!p) W0 W1).testBit j = true) (fun j=>B.testBit j = true)) (v:∀ b, Win G (fun j=>(dif U B).testBit j = true) (fun j=>(pk b V0 V1).testBit j = true) b)
  (hpart:∀ i, (dif U B).testBit i = true ↔ V0.testBit i = true ∨ V1.testBit i = true) :
  (∀ b, Win G (fun j=>U.testBit j = true) (fun j=>(pk b (pk (!p) (pk (!p) V0 V1 ||| B) V0) (pk (!p) V1 (pk (!p) V0 V1 ||| B))).testBit j = true) b) ∧
  ∀ i, U.testBit i = true ↔ (pk (!p) (pk (!p) V0 V1 ||| B) V0).testBit i = true ∨ (pk (!p) V1 (pk (!p) V0 V1 ||| B)).testBit i = true:=by
 have hd:∀ (X i:Nat), (dif U X).testBit i = true ↔ U.testBit i = true ∧ ¬ X.testBit i = true:=fun X i=>by rw [zau, Bool.and_eq_true, Bool.not_eq_true']; simp
 have s2:Win G (fun j=>U.testBit j = true) (fun j=>(pk p V0 V1).testBit j = true) p:=zielonka2 c ((v p).congr (hd B) fun _=>Iff.rfl)
 have s3:Win G (fun j=>U.testBit j = true) (fun j=>(pk (!p) V0 V1).testBit j = true ∨ B.testBit j = true) (!p):=zielonka3 a ((w (!p)).congr (hd A) fun _=>Iff.rfl) c ((v (!p)).congr (hd B) fun _=>Iff.rfl)
 have hor:∀ X i:Nat, (X ||| B).testBit i = true ↔ X.testBit i = true ∨ B.testBit i = true:=fun X i=>by rw [Nat.testBit_or, Bool.or_eq_true]
 refine ⟨fun b=>?_, fun i=>?_⟩
 ·by_cases e:b = p
  ·subst e
   have:pk b (pk (!b) (pk (!b) V0 V1 ||| B) V0) (pk (!b) V1 (pk (!b) V0 V1 ||| B)) = pk b V0 V1:=by cases b <;> rfl
   rw [this]; exact s2
  ·have hb:b = !p:=by cases b <;> cases p <;> simp at e ⊢
   subst hb
   have:pk (!p) (pk (!p) (pk (!p) V0 V1 ||| B) V0) (pk (!p) V1 (pk (!p) V0 V1 ||| B)) = pk (!p) V0 V1 ||| B:=by cases p <;> rfl
   rw [this]
   exact s3.congr (fun _=>Iff.rfl) fun i=>(hor _ i).symm
 ·have h1:=hd B i
  have h2:=hpart i
  have h3:B.testBit i = true->U.testBit i = true:=c.sub i
  have h4:=hor (pk (!p) V0 V1) i
  have key:U.testBit i = true ↔ (V0.testBit i = true ∨ V1.testBit i = true) ∨ B.testBit i = true:=by
   rw [← h2, h1]
   constructor
   ·intro hu
    by_cases hb:B.testBit i = true
    ·exact .inr hb
    ·exact .inl ⟨hu, hb⟩
   ·rintro (hu | hb)
    ·exact hu.1
    ·exact h3 hb
  rw [key]
  cases p
  ·show _ ↔ V0.testBit i = true ∨ (V1 ||| B).testBit i = true
   rw [hor V1 i]
   constructor
   ·rintro ((h | h) | h)
    ·exact .inl h
    ·exact .inr (.inl h)
    ·exact .inr (.inr h)
   ·rintro (h | h | h)
    ·exact .inl (.inl h)
    ·exact .inl (.inr h)
    ·exact .inr h
  ·show _ ↔ (V0 ||| B).testBit i = true ∨ V1.testBit i = true
   rw [hor V0 i]
   constructor
   ·rintro ((h | h) | h)
    ·exact .inl (.inl h)
    ·exact .inr h
    ·exact .inl (.inr h)
   ·rintro ((h | h) | h)
    ·exact .inl (.inl h)
    ·exact .inr h
    ·exact .inl (.inr h)
end Go.Ab.S9
namespace Go.Ab.S9
variable {α:Type} {h:H}
section
variable {h₀ hz:H} {d gq pq kq mq nq:Nat} {m0 m1 o p m:Sl} {n:Nat}
theorem PM.new (P:PM h₀ hz d gq pq kq mq nq m0 m1 o p m n) {q:Nat} (hq:hz.next≤q):(q ≠ d ∧ q ≠ m0.id ∧ q ≠ m1.id) ∧ ∀ i ∈ [gq, pq, kq, mq, nq], i ≠ q:=by
 have h1:=P.dl
 obtain ⟨A, _, o0⟩:=P.o0
 obtain ⟨B, _, o1⟩:=P.o1
 have h2:=Own.idlt o0
 have h3:=Own.idlt o1
 exact ⟨⟨by omega, by omega, by omega⟩, fun i hi=>by have:=(P.far i hi).2; omega⟩
theorem PM.oth (P0:PM h₀ hz d gq pq kq mq nq m0 m1 o p m n) (P:PM h₀ h d gq pq kq mq nq m0 m1 o p m n) {q:Nat} (hq:hz.next≤q) (v:Option Blk):PM h₀ (h.put q v) d gq pq kq mq nq m0 m1 o p m n:=by
 obtain ⟨⟨e1, e2, e3⟩, e4⟩:=P0.new hq
 have b0:=P0.base.1
 have lt:∀ i ∈ [gq, pq, kq, mq, nq], (h.put q v).get i = h.get i:=fun i hi=>zo _ _ (e4 i hi)
 exact { P with
  base:=P.base.put _ (by omega)
  far:=P.far
  dl:=P.dl
  dv:=by rw [zo _ _ (Ne.symm e1)]; exact P.dv
  gv:=by rw [lt gq (by simp)]; exact P.gv
  pv:=by rw [lt pq (by simp)]; exact P.pv
  kv:=by rw [lt kq (by simp)]; exact P.kv
  mv:=by rw [lt mq (by simp)]; exact P.mv
  nv:=by rw [lt nq (by simp)]; exact P.nv
  o0:=by obtain ⟨A, h1, h2⟩:=P.o0; exact ⟨A, h1, h2.keep (Nat.le_refl _) (zo _ _ (Ne.symm e2))⟩
  o1:=by obtain ⟨A, h1, h2⟩:=P.o1; exact ⟨A, h1, h2.keep (Nat.le_refl _) (zo _ _ (Ne.symm e3))⟩ }
structure Kb (c d:Nat) (m0 m1:Sl) (h h':H):Prop where
 n:h.next≤h'.next
 g:∀ i, i < c->i ≠ d->i ≠ m0.id->i ≠ m1.id->h'.get i = h.get i
theorem Kb.trans {c:Nat} {a b e:H} (x:Kb c d m0 m1 a b) (y:Kb c d m0 m1 b e):Kb c d m0 m1 a e:=⟨Nat.le_trans x.n y.n, fun i hi h1 h2 h3=>(y.g i hi h1 h2 h3).trans (x.g i hi h1 h2 h3)⟩
theorem Kp.kb {c:Nat} {a b:H} (x:Kp d m0 m1 a b) (hc:c≤a.next):Kb c d m0 m1 a b:=⟨x.n, fun i hi=>x.g i (Nat.lt_of_lt_of_le hi hc)⟩
theorem Kb.put (c:Nat) (a:H) {q:Nat} (hq:c≤q) (v:Option Blk):Kb c d m0 m1 a (a.put q v):=⟨Nat.le_refl _, fun i hi _ _ _=>zo _ _ (by omega)⟩
theorem Kb.refl (c:Nat) (a:H):Kb c d m0 m1 a a:=⟨Nat.le_refl _, fun _ _ _ _ _=>rfl⟩
theorem st8z {q S T:Nat} (hq:h.get q = some (c8 S T)) (K:M α) :
  (st1 ((⟨q, 0⟩:Ad).add 0) (.int .u64 0) <| st1 ((⟨q, 0⟩:Ad).add 1) (.int .u64 0) <| st1 ((⟨q, 0⟩:Ad).add 2) (.int .u64 0) <| st1 ((⟨q, 0⟩:Ad).add 3) (.int .u64 0) <|
   st1 ((⟨q, 0⟩:Ad).add 4) (.int .u64 0) <| st1 ((⟨q, 0⟩:Ad).add 5) (.int .u64 0) <| st1 ((⟨q, 0⟩:Ad).add 6) (.int .u64 0) <| st1 ((⟨q, 0⟩:Ad).add 7) (.int .u64 0) K) h = K (h.put q (some (c8 0 0))):=by
 have:=st8 (S:=0) (T:=0) hq K
 simp only [wi_zero] at this
 exact this
theorem won_tail (k:Nat) (hk:1000 < k) {g:Gm} {sv:Nat->List Nat} {G:PG} (r:GmR h₀ o p m g) (rg:RG g n sv G) (P0:PM h₀ hz d gq pq kq mq nq m0 m1 o p m n) (b:Bool) {iq xq tq U T:Nat} {dep:Int} {pa nn lost:Ad} {l:Sl} {mo:List Int}
  (hU:U < FS) (hT:T < FS) (hTn:∀ i, T.testBit i = true->i < n) (hi:hz.next≤iq) (hx:hz.next≤xq) (ht:hz.next≤tq) (hlen:mo.length = n) (hl:∀ a, l.ad = some a->hz.next≤a.id)
  (P:PM h₀ h d gq pq kq mq nq m0 m1 o p m n) (hn:hz.next≤h.next) (rl:Rd h l 1 (mo.flatMap cI)) (qi:Q h iq U) (qt:Q h tq T) (qx:h.get xq = some (c8 0 0)) (li:iq < h.next) (lx:xq < h.next) (lt:tq < h.next) :
  ∃ h', PM h₀ h' d gq pq kq mq nq m0 m1 o p m n ∧ Kb hz.next d m0 m1 h h' ∧ h'.get xq = some (c8 (pk b U 0) (pk b 0 U)) ∧ ∀ (α:Type) (kr:Ad->M α),
   qd.u12.f (k + 1) dep ⟨gq, 0⟩ pa ⟨kq, 0⟩ ⟨mq, 0⟩ nn ⟨iq, 0⟩ ⟨xq, 0⟩ ⟨tq, 0⟩ (pn b) l lost true kr h = kr ⟨xq, 0⟩ h':=by
 have n200:=rg.n200
 have fi:=(P0.new hi).1
 have ft:=(P0.new ht).1
 have fx:=(P0.new hx).1
 obtain ⟨h1, P1, k1, e1⟩:=zko k (by omega) b hlen n200 (fun a ha=>(P0.new (hl a ha)).1) P rl
 have qt1:Q h1 tq T:=by show h1.get tq = _; rw [k1.g tq lt ft.1 ft.2.1 ft.2.2]; exact qt
 obtain ⟨s2, h2, g2, x2, e2⟩:=zcs (h:=h1) k (by omega) T
 have P2:=P1.push x2
 have k2:=k1.trans (Kp.of x2)
 have qi2:Q h2 iq U:=by show h2.get iq = _; rw [k2.g iq li fi.1 fi.2.1 fi.2.2]; exact qi
 rw [bl_bn] at g2
 obtain ⟨h3, P3, k3, e3⟩:=most_loop (U:=U) k hk r rg b (res:=⟨xq, 0⟩) hU (fun i hi=>hTn i ((zhn hT).1 hi)) (fun a ha=>(P0.new (by have:=g2.old a ha; have:=k1.n; omega)).1) fi
  (by rw [← yp, ← bl_bn]; exact Nat.le_trans (zfa _ _) (by omega)) (bn T).length 0 h2 (by omega) P2 g2.rd qi2 (Nat.lt_of_lt_of_le li k2.n)
 have k13:=k2.trans k3
 have qi3:Q h3 iq U:=by show h3.get iq = _; rw [k13.g iq li fi.1 fi.2.1 fi.2.2]; exact qi
 have qx3:h3.get xq = some (c8 0 0):=by rw [k13.g xq lx fx.1 fx.2.1 fx.2.2]; exact qx
 let h4:=h3.push (c8 0 0)
 have x4:Ext h3 h4:=(Ext.refl h3).push _
 have P4:=P3.push x4
 let h5:=h4.put h3.next (some (c8 (pk b U 0) (pk b 0 U)))
 have hb3:hz.next≤h3.next:=Nat.le_trans hn k13.n
 have P5:PM h₀ h5 d gq pq kq mq nq m0 m1 o p m n:=P0.oth P4 hb3 _
 let h6:=h5.put xq (some (c8 (pk b U 0) (pk b 0 U)))
 have P6:PM h₀ h6 d gq pq kq mq nq m0 m1 o p m n:=P0.oth P5 hx _
 refine ⟨h6, P6, ?_, zh _ _ _, fun α kr=>?_⟩
 ·exact (((k13.trans (Kp.of x4)).kb hn).trans (Kb.put _ _ hb3 _)).trans (Kb.put _ _ hx _)
 ·unfold qd.u12.f qd.u4.f
  refine (e1 α _).trans ?_
  unfold qd.u11.f qd.u9.f qd.u5.f
  refine (ld4 qt1 _).trans ?_
  rw [e2]
  have hln:(s2.len:Int) = ((bn T).length:Int):=by rw [g2.len, yp]
  rw [hln]
  unfold qd.u8.f qd.u7.f
  refine (e3 α (k + 1) _ (by have:=bn_len T; omega)).trans ?_
  unfold qd.u10.f
  refine (new8 _).trans ?_
  have qi4:Q h4 iq U:=by show h4.get iq = _; rw [x4.2 iq (Nat.lt_of_lt_of_le li k13.n)]; exact qi3
  refine (ld4 qi4 _).trans ?_
  rw [zd (dT (zas b).1), zd (dT (zas b).2)]
  refine (st8h (je h3 _) b rfl _).trans ?_
  refine (ld8 (zh _ _ _) _).trans ?_
  have qx5:h5.get xq = some (c8 0 0):=by
   have:xq < h3.next:=Nat.lt_of_lt_of_le lx k13.n
   rw [show h5.get xq = h4.get xq from zo _ _ (by omega), x4.2 xq this]; exact qx3
  exact st8 qx5 _
def PartAt (h₀:H) (d gq pq kq mq nq:Nat) (m0 m1 o p m:Sl) (n:Nat) (G:PG) (k s:Nat):Prop:=
 ∀ (U:Nat) (h:H) (dep:Int), (bn U).length < s->U < FS->(∀ j, U.testBit j = true->j < n)->(Tot G fun j=>U.testBit j = true)->PM h₀ h d gq pq kq mq nq m0 m1 o p m n ->
  ∃ (W0 W1:Nat) (h':H), PM h₀ h' d gq pq kq mq nq m0 m1 o p m n ∧ Kp d m0 m1 h h' ∧ W0 < FS ∧ W1 < FS ∧ (∀ b, Win G (fun j=>U.testBit j = true) (fun j=>(pk b W0 W1).testBit j = true) b) ∧
   (∀ i, U.testBit i = true ↔ W0.testBit i = true ∨ W1.testBit i = true) ∧
   ∀ (α:Type) (ret:Int->Int->Int->Int->Int->Int->Int->Int->M α), qd.f k (wi U 0) (wi U 1) (wi U 2) (wi U 3) dep ⟨d, 0⟩ ⟨gq, 0⟩ ⟨pq, 0⟩ ⟨kq, 0⟩ ⟨mq, 0⟩ ⟨nq, 0⟩ ret h =
    ret (wi W0 0) (wi W0 1) (wi W0 2) (wi W0 3) (wi W1 0) (wi W1 1) (wi W1 2) (wi W1 3) h'
theorem zhk {b:Bool} {S T:Nat} (hS:S < FS) (hT:T < FS):pk b S T < FS:=by cases b <;> assumption
theorem lost_tail (k:Nat) (hk:3000000 < k) {g:Gm} {sv:Nat->List Nat} {G:PG} (r:GmR h₀ o p m g) (rg:RG g n sv G) (hr:yo g = (0, 0)) (P0:PM h₀ hz d gq pq kq mq nq m0 m1 o p m n) (b:Bool) {s:Nat} (ih:PartAt h₀ d gq pq kq mq nq m0 m1 o p m n G (k + 1) s)
  {iq xq lq U S x0:Nat} {dep:Int} (hs:(bn U).length < s + 1) (hU:U < FS) (hUn:∀ j, U.testBit j = true->j < n) (tot:Tot G fun j=>U.testBit j = true) (hS:S < FS) (hS0:S.testBit x0 = true) (hSU:∀ j, S.testBit j = true->U.testBit j = true)
  (hi:hz.next≤iq) (hx:hz.next≤xq) (ht:hz.next≤lq)
  (P:PM h₀ h d gq pq kq mq nq m0 m1 o p m n) (hn:hz.next≤h.next) (qi:Q h iq U) (qt:Q h lq S) (qx:h.get xq = some (c8 0 0)) (li:iq < h.next) (lx:xq < h.next) (lt:lq < h.next) :
  ∃ (B V0 V1:Nat) (h':H), PM h₀ h' d gq pq kq mq nq m0 m1 o p m n ∧ Kb hz.next d m0 m1 h h' ∧ h'.get xq = some (c8 (pk (!b) (pk (!b) V0 V1 ||| B) V0) (pk (!b) V1 (pk (!b) V0 V1 ||| B))) ∧
   B < FS ∧ V0 < FS ∧ V1 < FS ∧ Attr G (fun j=>U.testBit j = true) (!b) (fun j=>S.testBit j = true) (fun j=>B.testBit j = true) ∧
   (∀ c, Win G (fun j=>(dif U B).testBit j = true) (fun j=>(pk c V0 V1).testBit j = true) c) ∧ (∀ i, (dif U B).testBit i = true ↔ V0.testBit i = true ∨ V1.testBit i = true) ∧
   ∀ (α:Type) (kr:Ad->M α), qd.u24.f (k + 1) (fun z0 z1 z2 z3 z4 z5 z6 z7 z8 z9 z10 z11=>qd.f (k + 1) z0 z1 z2 z3 z4 z5 z6 z7 z8 z9 z10 z11) dep ⟨gq, 0⟩ ⟨pq, 0⟩ ⟨kq, 0⟩ ⟨mq, 0⟩ ⟨nq, 0⟩ ⟨iq, 0⟩ ⟨xq, 0⟩ (pn b) ⟨lq, 0⟩ kr h = kr ⟨xq, 0⟩ h':=by
 have n200:=rg.n200
 have fi:=(P0.new hi).1
 have ft:=(P0.new ht).1
 have fx:=(P0.new hx).1
 obtain ⟨B, ms, mo, h1, x1, rms, hmo, hms, hB, at1, e1⟩:=zfi k (by omega) (r.ext P.base) rg hr (!b) hU hUn hS tot
 have hd:∀ (X i:Nat), (dif U X).testBit i = true ↔ U.testBit i = true ∧ ¬ X.testBit i = true:=fun X i=>by rw [zau, Bool.and_eq_true, Bool.not_eq_true']; simp
 have P1:=P.push x1
 let h2:=h1.push (c4 0 0 0 0)
 have x2:Ext h1 h2:=(Ext.refl h1).push _
 have P2:=P1.push x2
 have b1:hz.next≤h1.next:=Nat.le_trans hn x1.1
 let h3:=h2.put h1.next (some (c4 (wi B 0) (wi B 1) (wi B 2) (wi B 3)))
 have P3:PM h₀ h3 d gq pq kq mq nq m0 m1 o p m n:=P0.oth P2 b1 _
 have x13:Ext h1 h3:=x2.put _ (Nat.le_refl _)
 have x3:Ext h h3:=x1.trans x13
 have n3:h3.next = h1.next + 1:=rfl
 have fb:=(P0.new b1).1
 obtain ⟨h4, P4, k4, e4⟩:=zko k (by omega) (!b) hmo n200 (fun a ha=>(P0.new (by have:=hms a ha; omega)).1) P3 (rms.ext x13)
 have k04:Kp d m0 m1 h h4:=(Kp.of x3).trans k4
 have at4:∀ {q Z:Nat}, q < h.next->(q ≠ d ∧ q ≠ m0.id ∧ q ≠ m1.id)->Q h q Z->Q h4 q Z:=fun hq hf hz=>by show h4.get _ = _; rw [k04.g _ hq hf.1 hf.2.1 hf.2.2]; exact hz
 have qb4:Q h4 h1.next B:=by show h4.get h1.next = _; rw [k4.g h1.next (by omega) fb.1 fb.2.1 fb.2.2]; exact zh _ _ _
 obtain ⟨h5, P5, k5, e5⟩:=gone_loop (U:=U) (S:=S) (C:=B) (dep:=dep) (pa:=⟨pq, 0⟩) (res:=⟨xq, 0⟩) k b n200 hU hS hB fi ft fb n 0 h4 (by omega) P4 (at4 li fi qi) (at4 lt ft qt) qb4 (Nat.lt_of_lt_of_le li k04.n) (Nat.lt_of_lt_of_le lt k04.n) (by have:=k4.n; omega)
 have k05:=k04.trans k5
 have qi5:Q h5 iq U:=by show h5.get iq = _; rw [k05.g iq li fi.1 fi.2.1 fi.2.2]; exact qi
 have qb5:Q h5 h1.next B:=by show h5.get h1.next = _; rw [k5.g h1.next (by have:=k4.n; omega) fb.1 fb.2.1 fb.2.2]; exact qb4
 let h6:=h5.push (c8 0 0)
 have x6:Ext h5 h6:=(Ext.refl h5).push _
 obtain ⟨h7, x7, e7⟩:=zey (h:=h6) k (by omega) U B
 have P7:=(P5.push x6).push x7
 have b5:hz.next≤h5.next:=Nat.le_trans hn k05.n
 have hxb:B.testBit x0 = true:=at1.top x0 hS0 (hSU x0 hS0)
 have hless:(bn (dif U B)).length < s:=by
  have:=bn_less (zjp hU (hSU x0 hS0)) (hSU x0 hS0) (V:=dif U B) (by rw [zau, hxb]; simp) (fun j hj=>((hd B j).1 hj).1)
  omega
 obtain ⟨V0, V1, h8, P8, k8, hV0, hV1, w8, p8, e8⟩:=ih (dif U B) h7 (w64 (dep + 1)) hless (dif_lt hU B) (fun j hj=>hUn j ((hd B j).1 hj).1) (by
  have:=at1.tot tot
  rintro i hi
  obtain ⟨j, h1, h2⟩:=this i ((hd B i).1 hi)
  exact ⟨j, h1, (hd B j).2 h2⟩) P7
 have f5:=(P0.new b5).1
 have k08:Kp d m0 m1 h5 h8:=(Kp.of (x6.trans x7)).trans k8
 have q8:h8.get h5.next = some (c8 0 0):=by
  rw [((Kp.of x7).trans k8).g h5.next (Nat.lt_succ_self _) f5.1 f5.2.1 f5.2.2]; exact je _ _
 let h9:=h8.put h5.next (some (c8 V0 V1))
 have P9:PM h₀ h9 d gq pq kq mq nq m0 m1 o p m n:=P0.oth P8 b5 _
 have qb8:Q h8 h1.next B:=by show h8.get h1.next = _; rw [k08.g h1.next (by have:=k5.n; have:=k4.n; omega) fb.1 fb.2.1 fb.2.2]; exact qb5
 have qb9:Q h9 h1.next B:=by show h9.get h1.next = _; rw [show h9.get h1.next = h8.get h1.next from zo _ _ (by have:=k5.n; have:=k4.n; omega)]; exact qb8
 obtain ⟨h10, x10, e10⟩:=Or_run (h:=h9) k (by omega) (pk (!b) V0 V1) B
 have P10:=P9.push x10
 have l5:h5.next < h8.next:=Nat.lt_of_lt_of_le (Nat.lt_succ_self _) (Nat.le_trans x7.1 k8.n)
 have q10:h10.get h5.next = some (c8 V0 V1):=by rw [x10.2 _ (show h5.next < h9.next from l5)]; exact zh _ _ _
 let h11:=h10.put h5.next (some (c8 (pk (!b) (pk (!b) V0 V1 ||| B) V0) (pk (!b) V1 (pk (!b) V0 V1 ||| B))))
 have P11:PM h₀ h11 d gq pq kq mq nq m0 m1 o p m n:=P0.oth P10 b5 _
 let h12:=h11.put xq (some (c8 (pk (!b) (pk (!b) V0 V1 ||| B) V0) (pk (!b) V1 (pk (!b) V0 V1 ||| B))))
 have P12:PM h₀ h12 d gq pq kq mq nq m0 m1 o p m n:=P0.oth P11 hx _
 have lx5:xq < h5.next:=Nat.lt_of_lt_of_le lx k05.n
 have qx11:h11.get xq = some (c8 0 0):=by
  rw [show h11.get xq = h10.get xq from zo _ _ (by omega), x10.2 xq (show xq < h9.next by show xq < h8.next; omega), show h9.get xq = h8.get xq from zo _ _ (by omega), (k05.trans k08).g xq lx fx.1 fx.2.1 fx.2.2]; exact qx
 refine ⟨B, V0, V1, h12, P12, ?_, zh _ _ _, hB, hV0, hV1, at1, w8, p8, fun α kr=>?_⟩
 ·exact ((((((k05.trans k08).kb hn).trans (Kb.put _ _ b5 _)).trans ((Kp.of x10).kb (show hz.next≤h9.next by show hz.next≤h8.next; omega))).trans (Kb.put _ _ b5 _)).trans (Kb.put _ _ hx _))
 ·unfold qd.u24.f qd.u16.f
  rw [g_o' P.gv, g_p' P.gv, g_m' P.gv]
  refine (ld4 qi _).trans ?_
  refine (ld4 qt _).trans ?_
  rw [pn_not, e1, new4]
  refine (st4 ⟨_, _, _, _, zav _ _ _ _⟩ _).trans ?_
  refine (e4 α _).trans ?_
  unfold qd.u23.f qd.u21.f qd.u17.f
  show (ldI .i64 ((⟨nq, 0⟩:Ad).add 0) _) h4 = _
  rw [jh (n:=(n:Int)) (by rw [show (⟨nq, 0⟩:Ad).add 0 = ⟨nq, 0⟩ from rfl, zt P4.nv]; rfl)]
  unfold qd.u20.f qd.u19.f
  refine (e5 α (k + 1) _ (by omega)).trans ?_
  unfold qd.u22.f
  show (ld ((⟨pq, 0⟩:Ad).add 0) _) h5 = _
  rw [zea (v:=fP d gq pq kq mq nq) (by rw [show (⟨pq, 0⟩:Ad).add 0 = ⟨pq, 0⟩ from rfl, zt P5.pv]; rfl)]
  refine (ld4 qi5 _).trans ?_
  refine (ld4 qb5 _).trans ?_
  refine (new8 _).trans ?_
  rw [e7]
  refine (zet P7 _ _).trans ?_
  refine (e8 α _).trans ?_
  refine (st8 q8 _).trans ?_
  rw [pn_not, zd (dT (zas _).1), zd (dT (zas _).2)]
  refine (ld8h (zh _ _ _) (!b) rfl _).trans ?_
  refine (ld4 qb9 _).trans ?_
  rw [e10, zd (dT (zas _).1), zd (dT (zas _).2)]
  refine (st8h q10 (!b) rfl _).trans ?_
  refine (ld8 (zh _ _ _) _).trans ?_
  exact st8 qx11 _
end
end Go.Ab.S9
namespace Go.Ab.S9
variable {α:Type} {h:H}
section
variable {h₀:H} {d gq pq kq mq nq:Nat} {m0 m1 o p m:Sl} {n:Nat}
theorem Kb.kp {a b:H} (x:Kb a.next d m0 m1 a b):Kp d m0 m1 a b:=⟨x.n, x.g⟩
theorem part_run {g:Gm} {sv:Nat->List Nat} {G:PG} (r:GmR h₀ o p m g) (rg:RG g n sv G) (hr:yo g = (0, 0)):∀ (s k:Nat), 3000000 + s < k->PartAt h₀ d gq pq kq mq nq m0 m1 o p m n G (k + 1) s:=by
 intro s
 induction s with
 | zero=>intro k hk U h dep hs; exact absurd hs (Nat.not_lt_zero _)
 | succ s IH=>
  intro k hk U h dep hs hU hUn tot P
  obtain ⟨k, rfl⟩:∃ q, k = q + 1:=⟨k - 1, by omega⟩
  have ih:=IH k (by omega)
  have n200:=rg.n200
  -- the locals, the depth
  let h1:=h.push (c4 (wi U 0) (wi U 1) (wi U 2) (wi U 3))
  let h2:=h1.push (c8 0 0)
  have x2:Ext h h2:=((Ext.refl h).push _).push _
  have n2:h2.next = h.next + 2:=rfl
  have P2:=P.push x2
  obtain ⟨v, hv⟩:=P2.dv
  obtain ⟨P3, k3⟩:=P2.std (if dep > v then dep else v)
  let h3:=h2.put d (some (.cells [.int .i64 (if dep > v then dep else v)] true))
  have n3:h3.next = h.next + 2:=rfl
  have f0:=(P.new (Nat.le_refl h.next)).1
  have f1:=(P.new (Nat.le_succ h.next)).1
  have qi2:Q h2 h.next U:=by show h2.get h.next = _; rw [show h2.get h.next = h1.get h.next from yb _ _ (by show h.next ≠ h.next + 1; omega)]; exact zav _ _ _ _
  have qi3:Q h3 h.next U:=by show h3.get h.next = _; rw [show h3.get h.next = h2.get h.next from zo _ _ f0.1]; exact qi2
  have qx3:h3.get (h.next + 1) = some (c8 0 0):=by rw [show h3.get (h.next + 1) = h2.get (h.next + 1) from zo _ _ f1.1]; exact je h1 _
  have k03:Kp d m0 m1 h h3:=(Kp.of x2).trans k3
  by_cases h0:U = 0
  ·-- nothing is there
   subst h0
   let h4:=h3.put (h.next + 1) (some (c8 0 0))
   refine ⟨0, 0, h4, P.oth P3 (Nat.le_succ _) _, ((k03.kb (Nat.le_refl _)).trans (Kb.put _ _ (Nat.le_succ _) _)).kp, by decide, by decide, fun b=>?_, fun i=>by rw [Nat.zero_testBit]; simp, fun α ret=>?_⟩
   ·have:pk b 0 0 = 0:=by cases b <;> rfl
    rw [this]
    exact (zis G _ b).congr (fun i=>Iff.rfl) fun i=>by rw [Nat.zero_testBit]; simp
   ·rw [qd.f]
    unfold qd.u27.f qd.u1.f
    rw [new4]
    refine (new8 _).trans ?_
    show (ldI .i64 ((⟨d, 0⟩:Ad).add 0) _) h2 = _
    rw [jh (n:=v) (by rw [show (⟨d, 0⟩:Ad).add 0 = ⟨d, 0⟩ from rfl, zt hv]; rfl), show (⟨d, 0⟩:Ad).add 0 = ⟨d, 0⟩ from rfl, zz (a:=⟨d, 0⟩) hv rfl (by simp)]
    show (ldI .u64 ((⟨h.next, 0⟩:Ad).add 0) _) h3 = _
    refine (ld4 qi3 _).trans ?_
    rw [zek hU, dT rfl, cond_true]
    refine (st8z qx3 _).trans ?_
    exact ld8 (zh _ _ _) _
  -- the highest
  have hd:∀ (X i:Nat), (dif U X).testBit i = true ↔ U.testBit i = true ∧ ¬ X.testBit i = true:=fun X i=>by rw [zau, Bool.and_eq_true, Bool.not_eq_true']; simp
  have r3:=r.ext P3.base
  obtain ⟨q, t1, t2, x0, t3⟩:=top_law rg hU hUn h0
  obtain ⟨h4, hT, x4, e4⟩:=top_run (h:=h3) k (by omega) (o:=o) (m:=m) r3.p (zgj (a:=U) (n:=g.pr.length) fun j hj=>by
   cases e:U.testBit j with
   | false=>rfl
   | true=>have:=hUn j e; rw [rg.lp] at hj; omega)
  generalize (topF g.pr (bl U 256) (-1) 0).2 = T at t1 t3 hT e4
  have hTn:∀ i, T.testBit i = true->i < n:=fun i hi=>hUn i (t1 i hi).1
  let h5:=h4.push (c4 0 0 0 0)
  have x5:Ext h4 h5:=(Ext.refl h4).push _
  let h6:=h5.put h4.next (some (c4 (wi T 0) (wi T 1) (wi T 2) (wi T 3)))
  have x46:Ext h4 h6:=x5.put _ (Nat.le_refl _)
  have x36:Ext h3 h6:=x4.trans x46
  have n6:h6.next = h4.next + 1:=rfl
  have b4:h3.next≤h4.next:=x4.1
  have P6:=P3.push x36
  have qt6:Q h6 h4.next T:=zh _ _ _
  obtain ⟨z, h7, hlow, x7, e7⟩:=zil (h:=h6) k (by omega) hT
  obtain ⟨b0, rfl, hb0, _⟩:∃ b:Nat, z = (b:Int) ∧ T.testBit b = true ∧ True:=by
   rcases hlow with ⟨e, _⟩ | ⟨b, e1, e2, _⟩
   ·rw [e, Nat.zero_testBit] at t3; cases t3
   ·exact ⟨b, e1, e2, trivial⟩
  have hb0n:=hTn b0 hb0
  have P7:=P6.push x7
  have r7:=r.ext P7.base
  have hq:G.pr b0 = q:=(t1 b0 hb0).2
  generalize hpl:(q % 2 == 1) = pl
  obtain ⟨A, ms, mo, h8, x8, rms, hmo, hms, hA, at1, e8⟩:=zfi (h:=h7) k (by omega) r7 rg hr pl hU hUn hT tot
  let h9:=h8.push (c4 0 0 0 0)
  have x9:Ext h8 h9:=(Ext.refl h8).push _
  let h10:=h9.put h8.next (some (c4 (wi A 0) (wi A 1) (wi A 2) (wi A 3)))
  have x810:Ext h8 h10:=x9.put _ (Nat.le_refl _)
  have x610:Ext h6 h10:=(x7.trans x8).trans x810
  have n10:h10.next = h8.next + 1:=rfl
  have P10:=P6.push x610
  have b6:h6.next≤h8.next:=Nat.le_trans x7.1 x8.1
  have qi6:Q h6 h.next U:=by show h6.get h.next = _; rw [x36.2 _ (by omega)]; exact qi3
  have qi7:Q h7 h.next U:=by show h7.get h.next = _; rw [x7.2 _ (by omega)]; exact qi6
  have qt7:Q h7 h4.next T:=by show h7.get h4.next = _; rw [x7.2 _ (by omega)]; exact qt6
  have qi10:Q h10 h.next U:=by show h10.get h.next = _; rw [x610.2 _ (by omega)]; exact qi6
  have qa10:Q h10 h8.next A:=zh _ _ _
  let h11:=h10.push (c8 0 0)
  have x11:Ext h10 h11:=(Ext.refl h10).push _
  obtain ⟨h12, x12, e12⟩:=zey (h:=h11) k (by omega) U A
  have x1012:=x11.trans x12
  have P12:=P10.push x1012
  have hxa:A.testBit x0 = true:=at1.top x0 t3 (t1 x0 t3).1
  have hless:(bn (dif U A)).length < s:=by
   have:=bn_less (zjp hU (t1 x0 t3).1) (t1 x0 t3).1 (V:=dif U A) (by rw [zau, hxa]; simp) (fun j hj=>((hd A j).1 hj).1)
   omega
  obtain ⟨W0, W1, h13, P13, k13, hW0, hW1, w13, p13, e13⟩:=ih (dif U A) h12 (w64 (dep + 1)) hless (dif_lt hU A) (fun j hj=>hUn j ((hd A j).1 hj).1) (by
   have:=at1.tot tot
   rintro i hi
   obtain ⟨j, h1, h2⟩:=this i ((hd A i).1 hi)
   exact ⟨j, h1, (hd A j).2 h2⟩) P12
  have b10:h.next≤h10.next:=by omega
  have f10:=(P.new b10).1
  have q13:h13.get h10.next = some (c8 0 0):=by
   rw [((Kp.of x12).trans k13).g h10.next (Nat.lt_succ_self _) f10.1 f10.2.1 f10.2.2]; exact je _ _
  let h14:=h13.put h10.next (some (c8 W0 W1))
  have P14:PM h₀ h14 d gq pq kq mq nq m0 m1 o p m n:=P.oth P13 b10 _
  have b13:h10.next < h13.next:=Nat.lt_of_lt_of_le (Nat.lt_succ_self _) (Nat.le_trans x12.1 k13.n)
  generalize hS:pk (!pl) W0 W1 = S
  have hSF:S < FS:=by rw [← hS]; exact zhk hW0 hW1
  let h15:=h14.push (c4 0 0 0 0)
  have x15:Ext h14 h15:=(Ext.refl h14).push _
  let h16:=h15.put h14.next (some (c4 (wi S 0) (wi S 1) (wi S 2) (wi S 3)))
  have x16:Ext h14 h16:=x15.put _ (Nat.le_refl _)
  have P16:=P14.push x16
  have qs16:Q h16 h14.next S:=zh _ _ _
  have n14:h14.next = h13.next:=rfl
  have n16:h16.next = h13.next + 1:=rfl
  have kA:Kb (h4.next + 1) d m0 m1 h6 h16:=(((((Kp.of (x610.trans x1012)).trans k13).kb (by omega)).trans (Kb.put _ _ (show h4.next + 1≤h10.next by omega) _)).trans ((Kp.of x16).kb (show h4.next + 1≤h14.next by omega)))
  have kB:Kb h.next d m0 m1 h h16:=((k03.trans (Kp.of x36)).kb (Nat.le_refl _)).trans ⟨kA.n, fun i hi=>kA.g i (by omega)⟩
  have qi16:Q h16 h.next U:=by show h16.get h.next = _; rw [kA.g h.next (by omega) f0.1 f0.2.1 f0.2.2]; exact qi6
  have ft:=(P.new (show h.next≤h4.next by omega)).1
  have qt16:Q h16 h4.next T:=by show h16.get h4.next = _; rw [kA.g h4.next (Nat.lt_succ_self _) ft.1 ft.2.1 ft.2.2]; exact qt6
  have qx16:h16.get (h.next + 1) = some (c8 0 0):=by rw [kA.g (h.next + 1) (by omega) f1.1 f1.2.1 f1.2.2, x36.2 _ (by omega)]; exact qx3
  have hms':∀ a, ms.ad = some a->h.next≤a.id:=fun a ha=>by have:=hms a ha; have:=x7.1; omega
  have rms16:Rd h16 ms 1 (mo.flatMap cI):=by
   have r12:=rms.ext (x810.trans x1012)
   have r13:=k13.rd r12 fun a ha=>(P.new (hms' a ha)).1
   have lt8:∀ a, ms.ad = some a->a.id < h8.next:=fun a ha=>(rms.row a ha).2
   exact (r13.keep (h':=h14) (Nat.le_refl _) fun a ha=>zo _ _ (by have:=lt8 a ha; omega)).ext x16
  -- the way there
  have there:∀ (α:Type) (kr:Ad->M α),
    qd.u27.f (k + 1) (fun z0 z1 z2 z3 z4 z5 z6 z7 z8 z9 z10 z11=>qd.f (k + 1) z0 z1 z2 z3 z4 z5 z6 z7 z8 z9 z10 z11) (wi U 0) (wi U 1) (wi U 2) (wi U 3) dep ⟨d, 0⟩ ⟨gq, 0⟩ ⟨pq, 0⟩ ⟨kq, 0⟩ ⟨mq, 0⟩ ⟨nq, 0⟩ kr h =
     cond (decide (S = 0)) (qd.u12.f (k + 1) dep ⟨gq, 0⟩ ⟨pq, 0⟩ ⟨kq, 0⟩ ⟨mq, 0⟩ ⟨nq, 0⟩ ⟨h.next, 0⟩ ⟨h.next + 1, 0⟩ ⟨h4.next, 0⟩ (pn pl) ms ⟨h14.next, 0⟩ (decide (S = 0)) kr h16)
      (qd.u24.f (k + 1) (fun z0 z1 z2 z3 z4 z5 z6 z7 z8 z9 z10 z11=>qd.f (k + 1) z0 z1 z2 z3 z4 z5 z6 z7 z8 z9 z10 z11) dep ⟨gq, 0⟩ ⟨pq, 0⟩ ⟨kq, 0⟩ ⟨mq, 0⟩ ⟨nq, 0⟩ ⟨h.next, 0⟩ ⟨h.next + 1, 0⟩ (pn pl) ⟨h14.next, 0⟩ kr h16):=fun α kr=>by
   unfold qd.u27.f qd.u1.f
   rw [new4]
   refine (new8 _).trans ?_
   show (ldI .i64 ((⟨d, 0⟩:Ad).add 0) _) h2 = _
   rw [jh (n:=v) (by rw [show (⟨d, 0⟩:Ad).add 0 = ⟨d, 0⟩ from rfl, zt hv]; rfl), show (⟨d, 0⟩:Ad).add 0 = ⟨d, 0⟩ from rfl, zz (a:=⟨d, 0⟩) hv rfl (by simp)]
   show (ldI .u64 ((⟨h.next, 0⟩:Ad).add 0) _) h3 = _
   refine (ld4 qi3 _).trans ?_
   rw [zek hU, dF h0, cond_false, g_o' P3.gv, g_p' P3.gv, g_m' P3.gv]
   refine (ld4 qi3 _).trans ?_
   rw [e4, new4]
   refine (st4 ⟨_, _, _, _, zav _ _ _ _⟩ _).trans ?_
   show (ldS (((⟨gq, 0⟩:Ad).add 1).add 0) _) h6 = _
   rw [g_p P6.gv]
   refine (ld4 qt6 _).trans ?_
   rw [e7, g_p P7.gv, zd (dT rfl), jy r7.p rfl (rg.pr b0 hb0n), g_o' P7.gv, g_p' P7.gv, g_m' P7.gv]
   refine (ld4 qi7 _).trans ?_
   refine (ld4 qt7 _).trans ?_
   rw [tmod_pn, hq, hpl, e8, new4]
   refine (st4 ⟨_, _, _, _, zav _ _ _ _⟩ _).trans ?_
   show (ld ((⟨pq, 0⟩:Ad).add 0) _) h10 = _
   rw [zea (v:=fP d gq pq kq mq nq) (by rw [show (⟨pq, 0⟩:Ad).add 0 = ⟨pq, 0⟩ from rfl, zt P10.pv]; rfl)]
   refine (ld4 qi10 _).trans ?_
   refine (ld4 qa10 _).trans ?_
   refine (new8 _).trans ?_
   rw [e12]
   refine (zet P12 _ _).trans ?_
   refine (e13 α _).trans ?_
   refine (st8 q13 _).trans ?_
   unfold qd.u26.f qd.u2.f
   show (need (decide (0≤w64 (1 - pn pl))) _) h14 = _
   rw [pn_not, zd (dT (zas _).1), zd (dT (zas _).2)]
   refine (ld8h (zh _ _ _) (!pl) rfl _).trans ?_
   rw [hS, new4]
   refine (st4 ⟨_, _, _, _, zav _ _ _ _⟩ _).trans ?_
   unfold qd.u25.f qd.u15.f qd.u3.f
   show (ldI .u64 ((⟨h14.next, 0⟩:Ad).add 0) _) h16 = _
   refine (ld4 qs16 _).trans ?_
   rw [zek hSF]
   cases hdS:decide (S = 0) <;> rfl
  by_cases hS0:S = 0
  ·obtain ⟨h17, P17, k17, q17, e17⟩:=won_tail (k:=k) (by omega) r rg P pl (dep:=dep) (pa:=⟨pq, 0⟩) (nn:=⟨nq, 0⟩) (lost:=⟨h14.next, 0⟩) hU hT hTn (Nat.le_refl _) (Nat.le_succ _) (show h.next≤h4.next by omega) hmo hms' P16 kB.n rms16 qi16 qt16 qx16
    (by omega) (by omega) (by omega)
   refine ⟨pk pl U 0, pk pl 0 U, h17, P17, (kB.trans k17).kp, zhk hU (by decide), zhk (by decide) hU, solved1 tot hpl (fun i hi=>(t1 i hi).2) t2 at1 w13 p13 (by rw [hS]; exact hS0), fun i=>?_, fun α ret=>?_⟩
   ·rw [pk_or]; simp
   ·rw [qd.f]
    refine (there α _).trans ?_
    rw [dT hS0, cond_true]
    refine (e17 α _).trans ?_
    exact ld8 q17 _
  ·have hne:∃ x, S.testBit x = true:=by
    rcases Classical.em (∃ x, S.testBit x = true) with hq | hq
    ·exact hq
    ·exact absurd (zaf fun j=>by
      rw [Nat.zero_testBit]
      cases e:S.testBit j with
      | false=>rfl
      | true=>exact absurd ⟨j, e⟩ hq) hS0
   obtain ⟨x1, hx1⟩:=hne
   have hSU:∀ j, S.testBit j = true->U.testBit j = true:=fun j hj=>by
    have h5:W0.testBit j = true ∨ W1.testBit j = true:=by
     rw [← hS] at hj
     cases pl
     ·exact .inr hj
     ·exact .inl hj
    exact ((hd A j).1 ((p13 j).2 h5)).1
   obtain ⟨B, V0, V1, h17, P17, k17, q17, hB, hV0, hV1, at2, w17, p17, e17⟩:=lost_tail (k:=k) (by omega) r rg hr P pl ih (dep:=dep) (lq:=h14.next) (iq:=h.next) (xq:=h.next + 1) hs hU hUn tot hSF hx1 hSU (Nat.le_refl _) (Nat.le_succ _) (show h.next≤h14.next by omega) P16 kB.n qi16 qs16 qx16
    (by omega) (by omega) (by omega)
   rw [← hS] at at2
   obtain ⟨w, pp⟩:=solved2 at1 w13 at2 w17 p17
   have hX:(pk (!pl) V0 V1 ||| B) < FS:=or_ltF (zhk hV0 hV1) hB
   refine ⟨_, _, h17, P17, (kB.trans k17).kp, zhk hX hV0, zhk hV1 hX, w, pp, fun α ret=>?_⟩
   rw [qd.f]
   refine (there α _).trans ?_
   rw [dF hS0, cond_false]
   refine (e17 α _).trans ?_
   exact ld8 q17 _
end
end Go.Ab.S9
namespace Go.Ab.S9
variable {α:Type} {h:H}
theorem cI_map (A:List Int):A.flatMap cI = A.map fun v=>V.int .i64 v:=by
 induction A with
 | nil=>rfl
 | cons a A ih=>rw [List.flatMap_cons, List.map_cons, ih]; rfl
theorem zjb {A B:List Int} {j:Nat} (hj:j + B.length≤A.length):∃ C:List Int, C.length = A.length ∧ over (A.flatMap cI) j (B.flatMap cI) = C.flatMap cI:=by
 refine ⟨A.take j ++ (B ++ A.drop (j + B.length)), by simp; omega, ?_⟩
 unfold over
 simp only [cI_map, List.map_append, List.map_take, List.map_drop, List.length_map]
theorem mulN:∀ n:Nat, n < 201->∀ (α:Type) (h:H) (k:Nat) (ret:Int->Int->M α), qab.f (k + 2) 1 (n:Int) ret h = ret 0 (n:Int) h:=by
 intro n hn α h k ret
 have key:∀ n:Nat, n < 201->((IntKind.wrap .u64 ((IntKind.wrap .u64 ((IntKind.wrap .u64 ((Int.fdiv 1 (2 ^ (min (32:Int).toNat 64))) * (Int.fdiv (n:Int) (2 ^ (min (32:Int).toNat 64))))) + (Int.fdiv (IntKind.wrap .u64 ((IntKind.wrap .u64 ((Int.fdiv 1 (2 ^ (min (32:Int).toNat 64))) * (bits .and .u64 (n:Int) 4294967295))) + (Int.fdiv (IntKind.wrap .u64 ((bits .and .u64 1 4294967295) * (bits .and .u64 (n:Int) 4294967295))) (2 ^ (min (32:Int).toNat 64))))) (2 ^ (min (32:Int).toNat 64))))) + (Int.fdiv (IntKind.wrap .u64 ((bits .and .u64 (IntKind.wrap .u64 ((IntKind.wrap .u64 ((Int.fdiv 1 (2 ^ (min (32:Int).toNat 64))) * (bits .and .u64 (n:Int) 4294967295))) + (Int.fdiv (IntKind.wrap .u64 ((bits .and .u64 1 4294967295) * (bits .and .u64 (n:Int) 4294967295))) (2 ^ (min (32:Int).toNat 64))))) 4294967295) + (IntKind.wrap .u64 ((bits .and .u64 1 4294967295) * (Int.fdiv (n:Int) (2 ^ (min (32:Int).toNat 64))))))) (2 ^ (min (32:Int).toNat 64)))))) = (0:Int) ∧ IntKind.wrap .u64 (1 * (n:Int)) = (n:Int):=by
  decide +kernel
 obtain ⟨k1, k2⟩:=key n hn
 rw [qab.f, qab.u1.f, qad.f, qad.u1.f, k1, k2]
structure RowN (h:H) (q n:Nat):Prop where
 ex:∃ A:List Int, A.length = n ∧ h.get q = some (.cells (A.flatMap cI) true)
theorem cp_run {q n j c:Nat} (r:RowN h q n) (hj:j + c≤n) (hc:c≤j):∃ h', RowN h' q n ∧ h'.next = h.next ∧ (∀ i, i ≠ q->h'.get i = h.get i) ∧
  ∀ (α:Type) (x y:Sl) (K:Int->M α), x.ad = some ⟨q, j⟩->y.ad = some ⟨q, 0⟩->min y.len x.len = c->zds x y 1 K h = K ((c:Nat):Int) h':=by
 obtain ⟨A, hA, hg⟩:=r.ex
 obtain ⟨C, hC, eC⟩:=zjb (A:=A) (B:=A.take c) (j:=j) (by rw [List.length_take]; omega)
 refine ⟨h.put q (some (.cells (C.flatMap cI) true)), ⟨C, by omega, zh _ _ _⟩, rfl, fun i hi=>zo _ _ hi, fun α x y K hx hy hm=>?_⟩
 unfold zds rdSl
 dsimp only
 rw [hy, hm]
 dsimp only
 have hrow:h.row ⟨q, 0⟩ (c * 1) = some ((A.take c).flatMap cI):=by
  rw [zao (a:=⟨q, 0⟩) hg (by show 0 + c * 1≤_; rw [zba]; omega)]
  simp only [cI_map, List.drop_zero, List.map_take, Nat.mul_one]
 rw [zaz hrow, hx]
 dsimp only
 unfold zdc H.setRow
 dsimp only
 rw [hg]
 dsimp only
 rw [Nat.ble_eq_true_of_le (by rw [zba, zba, List.length_take]; omega), cond_true, eC]
 dsimp only
 have:(min (y.len:Int) (x.len:Int)) = ((c:Nat):Int):=by omega
 rw [this]
theorem rep_loop (k:Nat) {q n:Nat} (hn:n≤200):∀ (c j:Nat) (h:H), n - j≤c->1≤j->j≤n->RowN h q n ->
  ∃ h', RowN h' q n ∧ h'.next = h.next ∧ (∀ i, i ≠ q->h'.get i = h.get i) ∧ ∀ (α:Type) (m:Nat) (kx:Sl->M α), c < m ->
   qr.u3.l k kx m ⟨some ⟨q, 0⟩, n, n, none⟩ (j:Int) h = kx ⟨some ⟨q, 0⟩, n, n, none⟩ h':=by
 intro c
 induction c with
 | zero=>
  intro j h hc h1 hj r
  refine ⟨h, r, rfl, fun _ _=>rfl, fun α m kx hm=>?_⟩
  obtain ⟨m, rfl⟩:∃ q, m = q + 1:=⟨m - 1, by omega⟩
  rw [qr.u3.l, qr.u2.f, dF (by show ¬ (j:Int) < (n:Int); omega), cond_false]
 | succ c ih=>
  intro j h hc h1 hj r
  by_cases hlt:j < n
  ·obtain ⟨h2, r2, n2, k2, e2⟩:=cp_run r (j:=j) (c:=min j (n - j)) (by omega) (by omega)
   obtain ⟨h', r', n', k', e'⟩:=ih (j + min j (n - j)) h2 (by omega) (by omega) (by omega) r2
   refine ⟨h', r', n'.trans n2, fun i hi=>(k' i hi).trans (k2 i hi), fun α m kx hm=>?_⟩
   obtain ⟨m, rfl⟩:∃ q, m = q + 1:=⟨m - 1, by omega⟩
   rw [qr.u3.l, qr.u2.f, dT (by show (j:Int) < (n:Int); omega), cond_true,
    zmf (s:=⟨some ⟨q, 0⟩, n, n, none⟩) ⟨Nat.le_refl _, .inl rfl⟩ (n:=j) rfl (by show j≤n; omega), cut_to (s:=⟨some ⟨q, 0⟩, n, n, none⟩) ⟨Nat.le_refl _, .inl rfl⟩ (m:=j) rfl (by show j≤n; omega)]
   refine (e2 α _ _ _ ?_ rfl rfl).trans ?_
   ·show (Sl.from ⟨some ⟨q, 0⟩, n, n, none⟩ j n 1) = _
    unfold Sl.from
    dsimp only
    rw [zab (by omega:n ≠ j), cond_false]
    simp [Ad.add]
   ·rw [show w64 ((j:Int) + ((min j (n - j):Nat):Int)) = ((j + min j (n - j):Nat):Int) by rw [yt (by omega) (by omega)]; rfl]
    exact e' α m kx (by omega)
  ·refine ⟨h, r, rfl, fun _ _=>rfl, fun α m kx hm=>?_⟩
   obtain ⟨m, rfl⟩:∃ q, m = q + 1:=⟨m - 1, by omega⟩
   rw [qr.u3.l, qr.u2.f, dF (by show ¬ (j:Int) < (n:Int); omega), cond_false]
theorem rep_run (k:Nat) (hk:300 < k) {s:Sl} {v:Int} (r:Rd h s 1 ([v].flatMap cI)) {n:Nat} (h1:1≤n) (hn:n≤200) :
  ∃ h', RowN h' h.next n ∧ Ext h h' ∧ h'.next = h.next + 1 ∧ ∀ (α:Type) (ret:Sl->M α), qr.f (k + 1) s (n:Int) ret h = ret ⟨some ⟨h.next, 0⟩, n, n, none⟩ h':=by
 obtain ⟨k, rfl⟩:∃ m, k = m + 2:=⟨k - 2, by omega⟩
 let h2:=h.push (.cells (List.replicate n [V.int .i64 0]).flatten true)
 have x2:Ext h h2:=(Ext.refl h).push _
 have hmk:∀ (α:Type) (K:Sl->M α), mkSl (n:Int) (n:Int) 8 [V.int .i64 0] K h = K ⟨some ⟨h.next, 0⟩, n, n, none⟩ h2:=fun α K=>by
  unfold mkSl
  rw [zd (dT (by omega)), zd (dT (by omega)), zd (dT (by omega)), zd (dT (by omega)), zd (show [V.int IntKind.i64 0].all oneV = true from rfl)]
  rfl
 have hg:h2.get h.next = some (.cells ((List.replicate n (0:Int)).flatMap cI) true):=by rw [← zcc]; exact je _ _
 obtain ⟨C, hC, eC⟩:=zjb (A:=List.replicate n (0:Int)) (B:=[v]) (j:=0) (by simp; omega)
 let h3:=h2.put h.next (some (.cells (C.flatMap cI) true))
 have r3:RowN h3 h.next n:=⟨C, by rw [hC, List.length_replicate], zh _ _ _⟩
 obtain ⟨h', r', n', k', e'⟩:=rep_loop (k + 2) hn n 1 h3 (by omega) (Nat.le_refl _) h1 r3
 refine ⟨h', r', ⟨by rw [n']; exact x2.1, fun i hi=>(k' i (by omega)).trans ((zo _ _ (by omega)).trans (x2.2 i hi))⟩, n', fun α ret=>?_⟩
 have hs:s.len = 1:=ilen r
 rw [qr.f]
 unfold qr.u7.f qr.u1.f
 rw [dF (by omega:¬ (n:Int) < 0), cond_false, hs, show IntKind.wrap .u64 ((1:Nat):Int) = 1 from rfl, zby n (by omega), mulN n (by omega), dF (by decide), cond_false, dF (by omega:¬ 9223372036854775807 < (n:Int)), cond_false, yt (by omega) (by omega), hmk]
 unfold zds
 dsimp only
 have hmin:min s.len n = s.len:=by omega
 rw [hmin]
 rw [show ({ s with len:=s.len }:Sl) = s from rfl, (r.ext x2).rd]
 unfold zdc H.setRow
 dsimp only
 rw [hg]
 dsimp only
 rw [Nat.ble_eq_true_of_le (by rw [zba, zba, List.length_replicate]; exact h1), cond_true, eC]
 dsimp only
 rw [show (min (s.len:Int) (n:Int)) = ((1:Nat):Int) by omega]
 exact e' α (k + 2) _ (by omega)
end Go.Ab.S9
namespace Go.Ab.S9
variable {α:Type} {h:H}
abbrev s4 (a b c d:Sl):Blk:=.cells [.slice a, .slice b, .slice c, .slice d] true
theorem st4s {q:Nat} {a b c d x y z w:Sl} (hq:h.get q = some (s4 x y z w)) (K:M α) :
  (st1 ((⟨q, 0⟩:Ad).add 0) (.slice a) <| st1 ((⟨q, 0⟩:Ad).add 1) (.slice b) <| st1 ((⟨q, 0⟩:Ad).add 2) (.slice c) <| st1 ((⟨q, 0⟩:Ad).add 3) (.slice d) K) h = K (h.put q (some (s4 a b c d))):=by
 simp only [ya, Nat.zero_add]
 rw [zz (a:=⟨q, 0⟩) hq rfl (by simp), zz (a:=⟨q, 1⟩) (by rw [zh]) rfl (by simp), jg, zz (a:=⟨q, 2⟩) (by rw [zh]) rfl (by simp), jg, zz (a:=⟨q, 3⟩) (by rw [zh]) rfl (by simp), jg]
 rfl
theorem ld4s {q:Nat} {a b c d:Sl} (hq:h.get q = some (s4 a b c d)) (K:Sl->Sl->Sl->Sl->M α) :
  (ldS ((⟨q, 0⟩:Ad).add 0) fun x=>ldS ((⟨q, 0⟩:Ad).add 1) fun y=>ldS ((⟨q, 0⟩:Ad).add 2) fun z=>ldS ((⟨q, 0⟩:Ad).add 3) fun w=>K x y z w) h = K a b c d h:=by
 simp only [ya, Nat.zero_add]
 rw [yl (a:=⟨q, 0⟩) (by rw [zt (a:=⟨q, 0⟩) hq]; rfl), yl (a:=⟨q, 1⟩) (by rw [zt (a:=⟨q, 1⟩) hq]; rfl), yl (a:=⟨q, 2⟩) (by rw [zt (a:=⟨q, 2⟩) hq]; rfl), yl (a:=⟨q, 3⟩) (by rw [zt (a:=⟨q, 3⟩) hq]; rfl)]
section
variable {h₀ hz:H} {d gq pq kq mq nq:Nat} {m0 m1 o p m:Sl} {n:Nat}
theorem zlr (k:Nat) {g:Gm} {sv:Nat->List Nat} {G:PG} (r:GmR h₀ o p m g) (rg:RG g n sv G) (P0:PM h₀ hz d gq pq kq mq nq m0 m1 o p m n) (b:Bool) {sq cq W0 W1:Nat} {x1 x3:Ad} {a0 a1:Sl} (hs:hz.next≤sq) (hc:hz.next≤cq) (hW0:W0 < FS) (hW1:W1 < FS) :
  ∀ (c i:Nat) (h:H), i + c = n->PM h₀ h d gq pq kq mq nq m0 m1 o p m n->h.get sq = some (c8 W0 W1)->h.get cq = some (s4 a0 a1 m0 m1)->sq < h.next->cq < h.next ->
   ∃ h', PM h₀ h' d gq pq kq mq nq m0 m1 o p m n ∧ Kp d m0 m1 h h' ∧ ∀ (α:Type) (mm:Nat) (kx:Ad->Ad->Ad->Ad->Ad->Ad->Int->M α), c < mm ->
    qc.u13.l (k + 1) kx mm ⟨gq, 0⟩ x1 ⟨nq, 0⟩ x3 ⟨sq, 0⟩ ⟨cq, 0⟩ (pn b) (pn b) (n:Int) (i:Int) h = kx ⟨gq, 0⟩ x1 ⟨nq, 0⟩ x3 ⟨sq, 0⟩ ⟨cq, 0⟩ (pn b) h':=by
 have fs:=(P0.new hs).1
 have fc:=(P0.new hc).1
 have n200:=rg.n200
 intro c
 induction c with
 | zero=>
  intro i h hi P q1 q2 l1 l2
  refine ⟨h, P, Kp.refl _ _ _ _, fun α mm kx hm=>?_⟩
  obtain ⟨mm, rfl⟩:∃ q, mm = q + 1:=⟨mm - 1, by omega⟩
  rw [qc.u13.l, qc.u12.f, dF (by omega), cond_false]
 | succ c ih=>
  intro i h hi P q1 q2 l1 l2
  have hin:i < n:=by omega
  obtain ⟨h1, e1x, e1⟩:=zcj (h:=h) k (zhk (b:=b) hW0 hW1) (i:Int)
  have P1:=P.push e1x
  have q2':h1.get cq = some (s4 a0 a1 m0 m1):=by rw [e1x.2 _ l2]; exact q2
  have hmv:∀ (α:Type) (K:Sl->M α), ldS (((((⟨cq, 0⟩:Ad).add 2).add ((pn b).toNat * 1))).add 0) K h1 = K (mvOf m0 m1 b) h1:=fun α K=>yl (by
   cases b <;> (rw [show ((((⟨cq, 0⟩:Ad).add 2).add ((pn _).toNat * 1))).add 0 = ⟨cq, _⟩ from rfl, zt q2']; rfl))
  have go:∀ (h2:H), PM h₀ h2 d gq pq kq mq nq m0 m1 o p m n->Kp d m0 m1 h h2->∃ h', PM h₀ h' d gq pq kq mq nq m0 m1 o p m n ∧ Kp d m0 m1 h h' ∧ ∀ (α:Type) (mm:Nat) (kx:Ad->Ad->Ad->Ad->Ad->Ad->Int->M α), c < mm ->
    qc.u13.l (k + 1) kx mm ⟨gq, 0⟩ x1 ⟨nq, 0⟩ x3 ⟨sq, 0⟩ ⟨cq, 0⟩ (pn b) (pn b) (n:Int) (w64 ((i:Int) + 1)) h2 = kx ⟨gq, 0⟩ x1 ⟨nq, 0⟩ x3 ⟨sq, 0⟩ ⟨cq, 0⟩ (pn b) h':=fun h2 P2 k2=>by
   obtain ⟨h', P', k', e'⟩:=ih (i + 1) h2 (by omega) P2 (by rw [k2.g sq l1 fs.1 fs.2.1 fs.2.2]; exact q1) (by rw [k2.g cq l2 fc.1 fc.2.1 fc.2.2]; exact q2) (Nat.lt_of_lt_of_le l1 k2.n) (Nat.lt_of_lt_of_le l2 k2.n)
   exact ⟨h', P', k2.trans k', fun α mm kx hm=>by rw [nxt (by omega)]; exact e' α mm kx hm⟩
  obtain ⟨h2, e2, P2, k2⟩:=P1.stm b (-1) (x:=(i:Int)) rfl hin
  have r1:=r.ext P1.base
  have start:∀ (α:Type) (mm:Nat) (kx:Ad->Ad->Ad->Ad->Ad->Ad->Int->M α),
    qc.u13.l (k + 1) kx (mm + 1) ⟨gq, 0⟩ x1 ⟨nq, 0⟩ x3 ⟨sq, 0⟩ ⟨cq, 0⟩ (pn b) (pn b) (n:Int) (i:Int) h =
     if (pk b W0 W1).testBit i = true ∧ G.own i = b then qc.u13.l (k + 1) kx mm ⟨gq, 0⟩ x1 ⟨nq, 0⟩ x3 ⟨sq, 0⟩ ⟨cq, 0⟩ (pn b) (pn b) (n:Int) (w64 ((i:Int) + 1)) h1
     else qc.u13.l (k + 1) kx mm ⟨gq, 0⟩ x1 ⟨nq, 0⟩ x3 ⟨sq, 0⟩ ⟨cq, 0⟩ (pn b) (pn b) (n:Int) (w64 ((i:Int) + 1)) h2:=fun α mm kx=>by
   rw [qc.u13.l, qc.u12.f, dT (by omega), cond_true, zd (dT (zas b).1), zd (dT (zas b).2)]
   refine (ld8h q1 b rfl _).trans ?_
   rw [e1, zak]
   cases hb:(pk b W0 W1).testBit i with
   | false=>
    rw [if_neg (fun q=>by cases q.1), Bool.not_false, cond_true, zd (dT (zas b).1), zd (dT (zas b).2), hmv]
    exact e2 α _
   | true=>
    rw [Bool.not_true, cond_false, g_o P1.gv, jy r1.o rfl (rg.ow i hin), zeu]
    by_cases ho:G.own i = b
    ·rw [if_pos ⟨rfl, ho⟩, ho, beq_self_eq_true, Bool.not_true, cond_false]
    ·have hbq:(G.own i == b) = false:=by simpa using ho
     rw [if_neg (fun q=>ho q.2), hbq, Bool.not_false, cond_true, zd (dT (zas b).1), zd (dT (zas b).2), hmv]
     exact e2 α _
  by_cases hc:(pk b W0 W1).testBit i = true ∧ G.own i = b
  ·obtain ⟨h', P', k', e'⟩:=go h1 P1 (Kp.of e1x)
   refine ⟨h', P', k', fun α mm kx hm=>?_⟩
   obtain ⟨mm, rfl⟩:∃ q, mm = q + 1:=⟨mm - 1, by omega⟩
   rw [start, if_pos hc]
   exact e' α mm kx (by omega)
  ·obtain ⟨h', P', k', e'⟩:=go h2 P2 ((Kp.of e1x).trans k2)
   refine ⟨h', P', k', fun α mm kx hm=>?_⟩
   obtain ⟨mm, rfl⟩:∃ q, mm = q + 1:=⟨mm - 1, by omega⟩
   rw [start, if_neg hc]
   exact e' α mm kx (by omega)
end
end Go.Ab.S9
namespace Go.Ab.S9
variable {α:Type} {h:H}
theorem RowN.own {q n:Nat} (r:RowN h q n) (hq:q < h.next):∃ A:List Int, A.length = n ∧ Own h ⟨some ⟨q, 0⟩, n, n, none⟩ 1 (A.flatMap cI):=by
 obtain ⟨A, hA, hg⟩:=r.ex
 exact ⟨A, hA, ⟨by rw [zba, hA, Nat.mul_one], q, [], rfl, by rw [List.append_nil]; exact hg, hq⟩⟩
theorem RowN.ext {h':H} {q n:Nat} (r:RowN h q n) (x:Ext h h') (hq:q < h.next):RowN h' q n:=by
 obtain ⟨A, hA, hg⟩:=r.ex
 exact ⟨A, hA, by rw [x.2 q hq]; exact hg⟩
theorem zie (k:Nat) (hk:4000000 < k) {o p m:Sl} {g:Gm} {n:Nat} {sv:Nat->List Nat} {G:PG} (r:GmR h o p m g) (rg:RG g n sv G) (hr:yo g = (0, 0)) :
  ∃ (W0 W1:Nat) (r0 r1 r2 r3:Sl) (dp:Int) (h':H), Ext h h' ∧ W0 < FS ∧ Rd h' r0 1 ((bl W0 256).flatMap cI) ∧ (∀ b, Win G (fun j=>j < n) (fun j=>(pk b W0 W1).testBit j = true) b) ∧ (∀ i, i < n ↔ W0.testBit i = true ∨ W1.testBit i = true) ∧
   ∀ (α:Type) (ret:Sl->Sl->Sl->Sl->Int->M α), qc.f (k + 1) o p m ret h = ret r0 r1 r2 r3 dp h':=by
 obtain ⟨k, rfl⟩:∃ q, k = q + 1:=⟨k - 1, by omega⟩
 have n200:=rg.n200
 have n1:=rg.n1
 have hlen:∀ i, i < n->(sv i).length≤200:=fun i hi=>Nat.le_trans (pig n (sv i) (rg.nd i hi) (rg.ml i hi)) n200
 -- the locals
 let ha:=((((h.push (gC o p m)).push (s4 Sl.nil Sl.nil Sl.nil Sl.nil)).push (gC o p m)).push (.cells [.int .i64 0] true)).push (.cells [.int .i64 0] true)
 have na:ha.next = h.next + 5:=rfl
 let hb:=(ha.put (h.next + 3) (some (.cells [.int .i64 (n:Int)] true))).put (h.next + 4) (some (.cells [.int .i64 0] true))
 let hc:=hb.push (.cells [.slice Sl.nil, .slice Sl.nil] true)
 have nc:hc.next = h.next + 6:=rfl
 have xa:Ext h ha:=(((((Ext.refl h).push _).push _).push _).push _).push _
 have xb:Ext h hb:=(xa.put _ (by omega)).put _ (by omega)
 have xc:Ext h hc:=xb.push _
 have a0:ha.get h.next = some (gC o p m):=by simp only [ha, zw, zm]; (repeat rw [if_neg (by omega)]); simp
 have a1:ha.get (h.next + 1) = some (s4 Sl.nil Sl.nil Sl.nil Sl.nil):=by simp only [ha, zw, zm]; (repeat rw [if_neg (by omega)]); simp
 have a3:ha.get (h.next + 3) = some (.cells [.int .i64 0] true):=by simp only [ha, zw, zm]; (repeat rw [if_neg (by omega)]); simp
 have a4:ha.get (h.next + 4) = some (.cells [.int .i64 0] true):=by simp only [ha, zw, zm]; simp
 have b0:hb.get h.next = some (gC o p m):=by simp only [hb]; rw [zo _ _ (by omega), zo _ _ (by omega)]; exact a0
 have b1:hb.get (h.next + 1) = some (s4 Sl.nil Sl.nil Sl.nil Sl.nil):=by simp only [hb]; rw [zo _ _ (by omega), zo _ _ (by omega)]; exact a1
 have b3:hb.get (h.next + 3) = some (.cells [.int .i64 (n:Int)] true):=by simp only [hb]; rw [zo _ _ (by omega)]; exact zh _ _ _
 have b4:hb.get (h.next + 4) = some (.cells [.int .i64 0] true):=zh _ _ _
 have lb:hb.next = h.next + 5:=rfl
 have xbc:Ext hb hc:=(Ext.refl hb).push _
 have c0:hc.get h.next = some (gC o p m):=by rw [xbc.2 _ (by omega)]; exact b0
 have c1:hc.get (h.next + 1) = some (s4 Sl.nil Sl.nil Sl.nil Sl.nil):=by rw [xbc.2 _ (by omega)]; exact b1
 have c3:hc.get (h.next + 3) = some (.cells [.int .i64 (n:Int)] true):=by rw [xbc.2 _ (by omega)]; exact b3
 have c4':hc.get (h.next + 4) = some (.cells [.int .i64 0] true):=by rw [xbc.2 _ (by omega)]; exact b4
 have c5:hc.get (h.next + 5) = some (.cells [.slice Sl.nil, .slice Sl.nil] true):=je hb _
 -- the players' moves
 let hd:=hc.push (.cells [.int .i64 (-1)] true)
 have xcd:Ext hc hd:=(Ext.refl hc).push _
 obtain ⟨he, re, xe, ne, ee⟩:=rep_run (h:=hd) k (by omega) (zjg (h:=hc) (-1)) n1 n200
 have nd:hd.next = h.next + 7:=rfl
 have xce:Ext hc he:=xcd.trans xe
 let hf:=he.put (h.next + 5) (some (.cells [.slice ⟨some ⟨hd.next, 0⟩, n, n, none⟩, .slice Sl.nil] true))
 have nf:hf.next = h.next + 8:=ne
 let hg:=hf.push (.cells [.int .i64 (-1)] true)
 obtain ⟨hi, ri, xi, ni, ei⟩:=rep_run (h:=hg) k (by omega) (zjg (h:=hf) (-1)) n1 n200
 have ng:hg.next = h.next + 9:=by show hf.next + 1 = _; omega
 have xfg:Ext hf hg:=(Ext.refl hf).push _
 have xfi:Ext hf hi:=xfg.trans xi
 let hj:=hi.put (h.next + 5) (some (.cells [.slice ⟨some ⟨hd.next, 0⟩, n, n, none⟩, .slice ⟨some ⟨hg.next, 0⟩, n, n, none⟩] true))
 have nj:hj.next = h.next + 10:=by show hi.next = _; omega
 have jget:∀ i, i < h.next + 6->i ≠ h.next + 5->hj.get i = hc.get i:=fun i hi' hne=>by
  rw [show hj.get i = hi.get i from zo _ _ hne, xfi.2 i (by omega), show hf.get i = he.get i from zo _ _ hne, xce.2 i (by omega)]
 have e5:he.get (h.next + 5) = some (.cells [.slice Sl.nil, .slice Sl.nil] true):=by rw [xce.2 _ (by omega)]; exact c5
 have i5:hi.get (h.next + 5) = some (.cells [.slice ⟨some ⟨hd.next, 0⟩, n, n, none⟩, .slice Sl.nil] true):=by rw [xfi.2 _ (by omega)]; exact zh _ _ _
 have rj0:RowN hj hd.next n:=by
  obtain ⟨A, hA, hg'⟩:=re.ex
  exact ⟨A, hA, by rw [show hj.get hd.next = hi.get hd.next from zo _ _ (by omega), xfi.2 _ (by omega), show hf.get hd.next = he.get hd.next from zo _ _ (by omega)]; exact hg'⟩
 have rj1:RowN hj hg.next n:=by
  obtain ⟨A, hA, hg'⟩:=ri.ex
  exact ⟨A, hA, by rw [show hj.get hg.next = hi.get hg.next from zo _ _ (by omega)]; exact hg'⟩
 have xj:Ext h hj:=⟨by omega, fun i hi'=>(jget i (by omega) (by omega)).trans (xc.2 i hi')⟩
 -- keep, part
 let hl:=(hj.push (.cells [.nilFunc] true)).put hj.next (some (.cells [fK (h.next + 5)] true))
 let hm:=(hl.push (.cells [.nilFunc] true)).put hl.next (some (.cells [fP (h.next + 4) h.next hl.next hj.next (h.next + 5) (h.next + 3)] true))
 have nl:hl.next = h.next + 11:=by show hj.next + 1 = _; omega
 have nm:hm.next = h.next + 12:=by show hl.next + 1 = _; omega
 have xjl:Ext hj hl:=((Ext.refl hj).push _).put _ (Nat.le_refl _)
 have xlm:Ext hl hm:=((Ext.refl hl).push _).put _ (Nat.le_refl _)
 have xjm:=xjl.trans xlm
 have mget:∀ i, i < h.next + 6->i ≠ h.next + 5->hm.get i = hc.get i:=fun i hi' hne=>by rw [xjm.2 i (by omega)]; exact jget i hi' hne
 have P:PM h hm (h.next + 4) h.next hl.next hj.next (h.next + 5) (h.next + 3) ⟨some ⟨hd.next, 0⟩, n, n, none⟩ ⟨some ⟨hg.next, 0⟩, n, n, none⟩ o p m n:=
  {
   base:=xj.trans xjm
   d1:=by omega
   a1:=by show h.next≤hd.next; omega
   b1:=by show h.next≤hg.next; omega
   da:=by show h.next + 4 ≠ hd.next; omega
   db:=by show h.next + 4 ≠ hg.next; omega
   ab:=by show hd.next ≠ hg.next; omega
   far:=fun i hi'=>by
    show (i ≠ h.next + 4 ∧ i ≠ hd.next ∧ i ≠ hg.next) ∧ i < hm.next
    simp only [List.mem_cons, List.mem_nil_iff, or_false] at hi'
    omega
   dl:=by omega
   dv:=⟨0, by rw [mget _ (by omega) (by omega)]; exact c4'⟩
   gv:=by rw [mget _ (by omega) (by omega)]; exact c0
   pv:=zh _ _ _
   kv:=by rw [xlm.2 _ (by omega)]; exact zh _ _ _
   mv:=by rw [xjm.2 _ (by omega)]; exact zh _ _ _
   nv:=by rw [mget _ (by omega) (by omega)]; exact c3
   o0:=(rj0.ext xjm (by omega)).own (by omega)
   o1:=(rj1.ext xjm (by omega)).own (by omega) }
 -- part of all
 let hn:=hm.push (c8 0 0)
 have xn:Ext hm hn:=(Ext.refl hm).push _
 obtain ⟨hp, xp, ep⟩:=zlt (h:=hn) k (by omega) (n:=n) (by omega)
 have Pp:=(P.push xn).push xp
 have hfull:∀ j, (2 ^ n - 1).testBit j = true ↔ j < n:=fun j=>by rw [Nat.testBit_two_pow_sub_one, decide_eq_true_eq]
 obtain ⟨W0, W1, hq, Pq, kq, hW0, hW1, win, prt, eq'⟩:=part_run (d:=h.next + 4) (gq:=h.next) (pq:=hl.next) (kq:=hj.next) (mq:=h.next + 5) (nq:=h.next + 3) (m0:=⟨some ⟨hd.next, 0⟩, n, n, none⟩) (m1:=⟨some ⟨hg.next, 0⟩, n, n, none⟩)
  r rg hr 257 k (by omega) (2 ^ n - 1) hp 1 (by have:=bn_len (2 ^ n - 1); omega) (full_lt (by omega)) (fun j hj=>(hfull j).1 hj) (by
   rintro i hi
   have hin:=(hfull i).1 hi
   obtain ⟨j, hj⟩:=List.exists_mem_of_ne_nil _ (rg.ne i hin)
   exact ⟨j, (rg.E i j hin).2 hj, (hfull j).2 (rg.ml i hin j hj)⟩) Pp
 have fs:=(P.new (Nat.le_refl hm.next)).1
 have q8:hq.get hm.next = some (c8 0 0):=by
  rw [((Kp.of xp).trans kq).g hm.next (Nat.lt_succ_self _) fs.1 fs.2.1 fs.2.2]; exact je _ _
 let hs:=hq.put hm.next (some (c8 W0 W1))
 have Ps:=P.oth Pq (Nat.le_refl _) (some (c8 W0 W1))
 have lq:hm.next < hq.next:=Nat.lt_of_lt_of_le (Nat.lt_succ_self _) (Nat.le_trans xp.1 kq.n)
 -- the claim
 let ht:=(hs.push (s4 Sl.nil Sl.nil Sl.nil Sl.nil)).put hs.next (some (s4 Sl.nil Sl.nil ⟨some ⟨hd.next, 0⟩, n, n, none⟩ ⟨some ⟨hg.next, 0⟩, n, n, none⟩))
 have xt:Ext hs ht:=((Ext.refl hs).push _).put _ (Nat.le_refl _)
 have Pt:=Ps.push xt
 have ns:hs.next = hq.next:=rfl
 have ntt:ht.next = hq.next + 1:=rfl
 have t8:ht.get hm.next = some (c8 W0 W1):=by rw [xt.2 _ (by omega)]; exact zh _ _ _
 have fcq:=(P.new (show hm.next≤hs.next by omega)).1
 -- the first player's part
 obtain ⟨r0, h1, g1, x1, e1⟩:=zcs (h:=ht) k (by omega) W0
 let h2:=h1.put hs.next (some (s4 r0 Sl.nil ⟨some ⟨hd.next, 0⟩, n, n, none⟩ ⟨some ⟨hg.next, 0⟩, n, n, none⟩))
 have P2:=P.oth (Pt.push x1) (show hm.next≤hs.next by omega) (some (s4 r0 Sl.nil ⟨some ⟨hd.next, 0⟩, n, n, none⟩ ⟨some ⟨hg.next, 0⟩, n, n, none⟩))
 have b1':ht.next≤h1.next:=x1.1
 have q28:h2.get hm.next = some (c8 W0 W1):=by rw [show h2.get hm.next = h1.get hm.next from zo _ _ (by omega), x1.2 _ (by omega)]; exact t8
 obtain ⟨h3, P3, k3, e3⟩:=zlr k r rg P false (sq:=hm.next) (cq:=hs.next) (x1:=⟨h.next + 1, 0⟩) (x3:=⟨h.next + 4, 0⟩) (a0:=r0) (a1:=Sl.nil) (Nat.le_refl _) (by omega) hW0 hW1 n 0 h2 (by omega) P2 q28 (zh _ _ _) (show hm.next < h1.next by omega) (show hs.next < h1.next by omega)
 have n3:h1.next≤h3.next:=k3.n
 have q38:h3.get hm.next = some (c8 W0 W1):=by rw [k3.g hm.next (show hm.next < h1.next by omega) fs.1 fs.2.1 fs.2.2]; exact q28
 have q3c:h3.get hs.next = some (s4 r0 Sl.nil ⟨some ⟨hd.next, 0⟩, n, n, none⟩ ⟨some ⟨hg.next, 0⟩, n, n, none⟩):=by rw [k3.g hs.next (show hs.next < h1.next by omega) fcq.1 fcq.2.1 fcq.2.2]; exact zh _ _ _
 -- the second one's
 obtain ⟨r1, h4, g4, x4, e4⟩:=zcs (h:=h3) k (by omega) W1
 let h5:=h4.put hs.next (some (s4 r0 r1 ⟨some ⟨hd.next, 0⟩, n, n, none⟩ ⟨some ⟨hg.next, 0⟩, n, n, none⟩))
 have P5:=P.oth (P3.push x4) (show hm.next≤hs.next by omega) (some (s4 r0 r1 ⟨some ⟨hd.next, 0⟩, n, n, none⟩ ⟨some ⟨hg.next, 0⟩, n, n, none⟩))
 have b4':h3.next≤h4.next:=x4.1
 have q4c:h4.get hs.next = some (s4 r0 Sl.nil ⟨some ⟨hd.next, 0⟩, n, n, none⟩ ⟨some ⟨hg.next, 0⟩, n, n, none⟩):=by rw [x4.2 _ (by omega)]; exact q3c
 have q58:h5.get hm.next = some (c8 W0 W1):=by rw [show h5.get hm.next = h4.get hm.next from zo _ _ (by omega), x4.2 _ (by omega)]; exact q38
 obtain ⟨h6, P6, k6, e6⟩:=zlr k r rg P true (sq:=hm.next) (cq:=hs.next) (x1:=⟨h.next + 1, 0⟩) (x3:=⟨h.next + 4, 0⟩) (a0:=r0) (a1:=r1) (Nat.le_refl _) (by omega) hW0 hW1 n 0 h5 (by omega) P5 q58 (zh _ _ _) (show hm.next < h4.next by omega) (show hs.next < h4.next by omega)
 have n6:h4.next≤h6.next:=k6.n
 have q6c:h6.get hs.next = some (s4 r0 r1 ⟨some ⟨hd.next, 0⟩, n, n, none⟩ ⟨some ⟨hg.next, 0⟩, n, n, none⟩):=by rw [k6.g hs.next (show hs.next < h4.next by omega) fcq.1 fcq.2.1 fcq.2.2]; exact zh _ _ _
 obtain ⟨dp, hdp⟩:=P6.dv
 have f1:h.next + 1 ≠ h.next + 4 ∧ h.next + 1 ≠ hd.next ∧ h.next + 1 ≠ hg.next:=by omega
 have q61:h6.get (h.next + 1) = some (s4 Sl.nil Sl.nil Sl.nil Sl.nil):=by
  rw [k6.g _ (show h.next + 1 < h4.next by omega) f1.1 f1.2.1 f1.2.2, show h5.get (h.next + 1) = h4.get (h.next + 1) from zo _ _ (by omega), x4.2 _ (by omega), k3.g _ (show h.next + 1 < h1.next by omega) f1.1 f1.2.1 f1.2.2,
   show h2.get (h.next + 1) = h1.get (h.next + 1) from zo _ _ (by omega), x1.2 _ (by omega), xt.2 _ (by omega), show hs.get (h.next + 1) = hq.get (h.next + 1) from zo _ _ (by omega),
   ((Kp.of (xn.trans xp)).trans kq).g _ (show h.next + 1 < hm.next by omega) f1.1 f1.2.1 f1.2.2, mget _ (by omega) (by omega)]
  exact c1
 let h7:=h6.put (h.next + 1) (some (s4 r0 r1 ⟨some ⟨hd.next, 0⟩, n, n, none⟩ ⟨some ⟨hg.next, 0⟩, n, n, none⟩))
 have rd7:Rd h7 r0 1 ((bl W0 256).flatMap cI):=by
  have old:=fun a ha=>g1.old a ha
  have fr:=fun a ha=>(P.new (show hm.next≤(a:Ad).id by have:=old a ha; omega)).1
  have ra:=g1.rd
  have rb:Rd h2 r0 1 _:=ra.keep (Nat.le_refl _) fun a ha=>zo _ _ (by have:=old a ha; omega)
  have rc:=k3.rd rb fr
  have rdd:=rc.ext x4
  have ree:Rd h5 r0 1 _:=rdd.keep (Nat.le_refl _) fun a ha=>zo _ _ (by have:=old a ha; omega)
  have rff:=k6.rd ree fr
  exact rff.keep (Nat.le_refl _) fun a ha=>zo _ _ (by have:=old a ha; omega)
 refine ⟨W0, W1, r0, r1, ⟨some ⟨hd.next, 0⟩, n, n, none⟩, ⟨some ⟨hg.next, 0⟩, n, n, none⟩, dp, h7, P6.base.put _ (by omega), hW0, rd7, fun b=>(win b).congr hfull fun _=>Iff.rfl, fun i=>(hfull i).symm.trans (prt i), fun α ret=>?_⟩
 rw [qc.f]
 unfold qc.u28.f qc.u1.f
 rw [jl rfl, jl rfl]
 show (ldS ((⟨h.next, 0⟩:Ad).add 0) _) ((h.push (gC o p m)).push (s4 Sl.nil Sl.nil Sl.nil Sl.nil)) = _
 have g0:((h.push (gC o p m)).push (s4 Sl.nil Sl.nil Sl.nil Sl.nil)).get h.next = some (gC o p m):=by rw [yb _ _ (by rw [zm]; omega)]; exact je _ _
 rw [g_o' g0, g_p' g0, g_m' g0, zfb (h:=(h.push (gC o p m)).push (s4 Sl.nil Sl.nil Sl.nil Sl.nil)) k (r.ext (((Ext.refl h).push _).push _)) (by omega) (fun l hl=>by
  obtain ⟨i, hi⟩:=List.getElem?_of_mem hl
  have hin:i < n:=by rw [← rg.lm]; exact yy hi
  rw [rg.mv i hin] at hi
  cases hi
  rw [yp]
  have:=hlen i hin
  omega), hr]
 dsimp only
 have g1':(((h.push (gC o p m)).push (s4 Sl.nil Sl.nil Sl.nil Sl.nil)).push (gC o p m)).get h.next = some (gC o p m):=by rw [yb _ _ (by rw [zm, zm]; omega)]; exact g0
 rw [dT rfl, Bool.not_true, cond_false, g_o g1', jl rfl, jl rfl]
 have hol:(o.len:Int) = (n:Int):=by rw [ilen r.o, rg.lo]
 rw [hol]
 show (st1 ((⟨h.next + 3, 0⟩:Ad).add 0) _ _) ha = _
 rw [show (⟨h.next + 3, 0⟩:Ad).add 0 = ⟨h.next + 3, 0⟩ from rfl, zz (a:=⟨h.next + 3, 0⟩) a3 rfl (by simp)]
 show (st1 (⟨h.next + 4, 0⟩:Ad) _ _) (ha.put (h.next + 3) (some (.cells [.int .i64 (n:Int)] true))) = _
 rw [zz (a:=⟨h.next + 4, 0⟩) ((zo _ _ (show h.next + 4 ≠ h.next + 3 by omega)).trans a4) rfl (by simp)]
 show (new _ _) hb = _
 rw [jl rfl]
 unfold qc.u27.f qc.u6.f qc.u2.f qc.u5.f qc.u4.f
 show qc.u4.l (k + 1) _ (k + 1) ⟨h.next, 0⟩ ⟨h.next + 1, 0⟩ ⟨h.next + 3, 0⟩ ⟨h.next + 4, 0⟩ ⟨h.next + 5, 0⟩ 0 hc = _
 obtain ⟨j, rfl⟩:∃ j, k = j + 2:=⟨k - 2, by omega⟩
 have ldn:∀ {hh:H} (_:hh.get (h.next + 3) = some (.cells [.int .i64 (n:Int)] true)) (K:Int->M α), ldI .i64 ((⟨h.next + 3, 0⟩:Ad).add 0) K hh = K (n:Int) hh:=fun hh K=>jh (by rw [show (⟨h.next + 3, 0⟩:Ad).add 0 = ⟨h.next + 3, 0⟩ from rfl, zt hh]; rfl)
 rw [qc.u4.l, qc.u3.f, dT (by decide), cond_true, jl rfl]
 show (ldI .i64 ((⟨h.next + 3, 0⟩:Ad).add 0) _) hd = _
 rw [ldn (by rw [xcd.2 _ (by omega)]; exact c3)]
 refine (ee α _).trans ?_
 refine (zd (by decide)).trans ((zd (by decide)).trans ?_)
 show (st1 (⟨h.next + 5, 0⟩:Ad) _ _) he = _
 rw [zz (a:=⟨h.next + 5, 0⟩) e5 rfl (by simp)]
 show qc.u4.l (j + 3) _ (j + 2) ⟨h.next, 0⟩ ⟨h.next + 1, 0⟩ ⟨h.next + 3, 0⟩ ⟨h.next + 4, 0⟩ ⟨h.next + 5, 0⟩ 1 hf = _
 rw [qc.u4.l, qc.u3.f, dT (by decide), cond_true, jl rfl]
 show (ldI .i64 ((⟨h.next + 3, 0⟩:Ad).add 0) _) hg = _
 rw [ldn (by rw [xfg.2 _ (by omega), show hf.get (h.next + 3) = he.get (h.next + 3) from zo _ _ (by omega), xce.2 _ (by omega)]; exact c3)]
 refine (ei α _).trans ?_
 refine (zd (by decide)).trans ((zd (by decide)).trans ?_)
 show (st1 (⟨h.next + 5, 1⟩:Ad) _ _) hi = _
 rw [zz (a:=⟨h.next + 5, 1⟩) i5 rfl (by simp)]
 show qc.u4.l (j + 3) _ (j + 1) ⟨h.next, 0⟩ ⟨h.next + 1, 0⟩ ⟨h.next + 3, 0⟩ ⟨h.next + 4, 0⟩ ⟨h.next + 5, 0⟩ 2 hj = _
 rw [qc.u4.l, qc.u3.f, dF (by decide), cond_false]
 unfold qc.u26.f qc.u7.f
 refine (jl rfl).trans ?_
 show (st1 (⟨hj.next, 0⟩:Ad) _ _) (hj.push (.cells [.nilFunc] true)) = _
 rw [zz (a:=⟨hj.next, 0⟩) (je hj _) rfl (by simp)]
 show (new [.nilFunc] _) hl = _
 rw [jl rfl]
 show (st1 (⟨hl.next, 0⟩:Ad) _ _) (hl.push (.cells [.nilFunc] true)) = _
 rw [zz (a:=⟨hl.next, 0⟩) (je hl _) rfl (by simp)]
 show (ld ((⟨hl.next, 0⟩:Ad).add 0) _) hm = _
 rw [zea (v:=fP (h.next + 4) h.next hl.next hj.next (h.next + 5) (h.next + 3)) (by rw [show (⟨hl.next, 0⟩:Ad).add 0 = ⟨hl.next, 0⟩ from rfl, zt P.pv]; rfl), ldn P.nv]
 refine (new8 _).trans ?_
 rw [ep]
 refine (zet Pp _ _).trans ?_
 refine (eq' α _).trans ?_
 refine (st8 q8 _).trans ?_
 unfold qc.u25.f qc.u8.f
 show (ldS ((⟨h.next + 5, 0⟩:Ad).add 0) _) hs = _
 rw [yl (by rw [show (⟨h.next + 5, 0⟩:Ad).add 0 = ⟨h.next + 5, 0⟩ from rfl, zt Ps.mv]; rfl), yl (by rw [show (⟨h.next + 5, 0⟩:Ad).add 1 = ⟨h.next + 5, 1⟩ from rfl, zt Ps.mv]; rfl), jl rfl]
 refine (st4s (je hs _) _).trans ?_
 unfold qc.u24.f qc.u22.f qc.u9.f qc.u21.f qc.u20.f
 show qc.u20.l (j + 3) _ (j + 3) ⟨h.next, 0⟩ ⟨h.next + 1, 0⟩ ⟨h.next + 3, 0⟩ ⟨h.next + 4, 0⟩ ⟨hm.next, 0⟩ ⟨hs.next, 0⟩ 0 ht = _
 rw [qc.u20.l]
 unfold qc.u19.f qc.u18.f qc.u16.f qc.u15.f
 rw [qc.u10.f, dT (by decide), cond_true, qc.u11.f]
 refine (zd (by decide)).trans ((zd (by decide)).trans ?_)
 refine (ld8h t8 false rfl _).trans ?_
 refine (e1 α _).trans ?_
 refine (zd (by decide)).trans ((zd (by decide)).trans ?_)
 show (st1 (⟨hs.next, 0⟩:Ad) _ _) h1 = _
 rw [zz (a:=⟨hs.next, 0⟩) ((x1.2 hs.next (show hs.next < ht.next by omega)).trans (zh _ _ _)) rfl (by simp)]
 show (ldI .i64 ((⟨h.next + 3, 0⟩:Ad).add 0) _) h2 = _
 rw [ldn P2.nv]
 unfold qc.u14.f qc.u13.f
 refine (e3 α (j + 3) _ (by omega)).trans ?_
 show qc.u20.l (j + 3) _ (j + 2) ⟨h.next, 0⟩ ⟨h.next + 1, 0⟩ ⟨h.next + 3, 0⟩ ⟨h.next + 4, 0⟩ ⟨hm.next, 0⟩ ⟨hs.next, 0⟩ 1 h3 = _
 rw [qc.u20.l]
 unfold qc.u19.f qc.u18.f qc.u16.f qc.u15.f
 rw [qc.u10.f, dT (by decide), cond_true, qc.u11.f]
 refine (zd (by decide)).trans ((zd (by decide)).trans ?_)
 refine (ld8h q38 true rfl _).trans ?_
 refine (e4 α _).trans ?_
 refine (zd (by decide)).trans ((zd (by decide)).trans ?_)
 show (st1 (⟨hs.next, 1⟩:Ad) _ _) h4 = _
 rw [zz (a:=⟨hs.next, 1⟩) q4c rfl (by simp)]
 show (ldI .i64 ((⟨h.next + 3, 0⟩:Ad).add 0) _) h5 = _
 rw [ldn P5.nv]
 unfold qc.u14.f qc.u13.f
 refine (e6 α (j + 3) _ (by omega)).trans ?_
 show qc.u20.l (j + 3) _ (j + 1) ⟨h.next, 0⟩ ⟨h.next + 1, 0⟩ ⟨h.next + 3, 0⟩ ⟨h.next + 4, 0⟩ ⟨hm.next, 0⟩ ⟨hs.next, 0⟩ 2 h6 = _
 rw [qc.u20.l]
 unfold qc.u19.f
 rw [qc.u10.f, dF (by decide), cond_false]
 unfold qc.u23.f
 refine (ld4s q6c _).trans ?_
 have ldd:∀ {hh:H} (_:hh.get (h.next + 4) = some (.cells [.int .i64 dp] true)) (K:Int->M α), ldI .i64 ((⟨h.next + 4, 0⟩:Ad).add 0) K hh = K dp hh:=fun hh K=>jh (by rw [show (⟨h.next + 4, 0⟩:Ad).add 0 = ⟨h.next + 4, 0⟩ from rfl, zt hh]; rfl)
 rw [ldd hdp]
 refine (st4s q61 _).trans ?_
 rw [ldd (by rw [zo _ _ (by omega)]; exact hdp), zd (dT rfl)]
 exact ld4s (zh _ _ _) _
end Go.Ab.S9
