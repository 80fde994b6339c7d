import Derived.Test.YtjohdighlhoofaaDoorS8pc
import Derived.Test.YtjohdighlhoofaaDoorS8ref
import Derived.KernelRfl
set_option linter.unusedVariables false
set_option linter.unusedSimpArgs false
namespace Go.Ab.S8
variable {α:Type} {h:H}
def FE (e:Int) (a:Int):Option (Int × Int)->Prop
 | none=>e = 0
 | some (m, e')=>a = m ∧ e = e' ∧ e' ≠ 0
structure RR (h:H) (q:Nat) (sl:Sl) (ts:List Tok) (s:St) (I:Nat) (a e:Int):Prop where
 lt:q < h.next
 blk:h.get q = some (.cells [.slice sl, .int .i64 (I:Int), .int .i64 a, .int .i64 e] true)
 l:ts.drop I = s.l
 f:FE e a s.f
 toks:TkR h sl ts
 tok:∀ x, sl.ad = some x->x.id ≠ q
 ends:Ends s.l
 big:ts.length≤300000
section
variable {q:Nat} {sl:Sl} {ts:List Tok} {s:St} {I:Nat} {a e:Int}
theorem RR.ext {h':H} (P:RR h q sl ts s I a e) (x:ExQ q h h') (hb:h'.get q = h.get q):RR h' q sl ts s I a e:=
 ⟨Nat.lt_of_lt_of_le P.lt x.1, by rw [hb]; exact P.blk, P.l, P.f, P.toks.keep x.1 fun y hy=>x.2 _ (P.toks.row y hy).2 (P.tok y hy), P.tok, P.ends, P.big⟩
theorem RR.push (P:RR h q sl ts s I a e) (b:Blk):RR (h.push b) q sl ts s I a e:=P.ext (.of ((Ext.refl h).push b)) (((Ext.refl h).push b).2 q P.lt)
theorem r_l (P:RR h q sl ts s I a e) (K:Sl->M α):ldS (((⟨q, 0⟩:Ad).add 0).add 0) K h = K sl h:=zbs (by simp only [zy]; rw [jr (a:=⟨q, 0 + 0 + 0⟩) P.blk]; rfl)
theorem r_i (P:RR h q sl ts s I a e) (K:Int->M α):ldI .i64 (((⟨q, 0⟩:Ad).add 1).add 0) K h = K (I:Int) h:=jd (by simp only [zy]; rw [jr (a:=⟨q, 0 + 1 + 0⟩) P.blk]; rfl)
theorem r_e (P:RR h q sl ts s I a e) (K:Int->M α):ldI .i64 (((⟨q, 0⟩:Ad).add 3).add 0) K h = K e h:=jd (by simp only [zy]; rw [jr (a:=⟨q, 0 + 3 + 0⟩) P.blk]; rfl)
theorem RR.e0 (P:RR h q sl ts s I a e):decide (e = 0) = s.f.isNone:=by
 have:=P.f
 cases hf:s.f with
 | none=>rw [hf] at this; exact dT this
 | some x=>obtain ⟨m, e'⟩:=x; rw [hf] at this; obtain ⟨_, h1, h2⟩:=this; rw [h1]; exact dF h2
theorem RR.hd (P:RR h q sl ts s I a e):ts[I]? = some s.hd:=by
 have h1:=P.ends.hd
 rw [← P.l, List.getElem?_drop, Nat.add_zero] at h1
 exact h1
theorem RR.ilt (P:RR h q sl ts s I a e):I < ts.length:=zdj P.hd
theorem zdp (P:RR h q sl ts s I a e) (K:Int->M α):idxSl sl (I:Int) 4 (fun x=>ldI .i64 ((x.add 0).add 0) K) h = K s.hd.kind h:=tk_kind P.toks rfl P.hd K
theorem RR.adv (P:RR h q sl ts s I a e) (hk:s.hd.kind ≠ 0) :
  RR (h.put q (some (.cells [.slice sl, .int .i64 ((I + 1:Nat):Int), .int .i64 a, .int .i64 e] true))) q sl ts ⟨s.l.tail, s.f⟩ (I + 1) a e ∧ ∀ (α:Type) (K:M α), st1 (((⟨q, 0⟩:Ad).add 1).add 0) (.int .i64 (w64 ((I:Int) + 1))) K h = K (h.put q (some (.cells [.slice sl, .int .i64 ((I + 1:Nat):Int), .int .i64 a, .int .i64 e] true))):=by
 have hb:=P.big
 have hi:=P.ilt
 obtain ⟨h1, h2⟩:=P.ends.tailS hk
 refine ⟨⟨P.lt, by rw [jy], ?_, P.f, P.toks.keep (Nat.le_refl _) fun y hy=>by rw [zt, if_neg (P.tok y hy)], P.tok, h1, P.big⟩, fun α K=>?_⟩
 ·show ts.drop (I + 1) = s.l.tail
  rw [← P.l, List.tail_drop]
 ·rw [jn (by omega) (by omega)]
  simp only [zy]
  rw [yu (a:=⟨q, 0 + 1 + 0⟩) P.blk rfl (by simp)]
  rfl
def zho (q:Nat) (h:H) (sl:Sl) (ts:List Tok) (s':St) (C:H->Prop):Prop:=∃ h' I' a' e', RR h' q sl ts s' I' a' e' ∧ ExQ q h h' ∧ C h'
theorem zdc (P:RR h q sl ts s I a e) (k:Nat) (c:Int) (hc:c ≠ 0):zho q h sl ts (zap c s) fun h'=>∀ (α:Type) (ret:M α), qaa.f (k + 1) ⟨q, 0⟩ c ret h = ret h':=by
 have he:=P.e0
 cases hf:s.f with
 | some fe=>
  rw [zcc hf]
  rw [hf] at he
  refine ⟨h, I, a, e, P, ExQ.refl q h, fun α ret=>?_⟩
  rw [qaa.f, qaa.u1.f, r_e P, he]
  rfl
 | none=>
  rw [zdl hf]
  rw [hf] at he
  have pp:∀ (h:H) (i:Nat) (a b:Option Blk), (h.put i a).put i b = h.put i b:=zew
  refine ⟨h.put q (some (.cells [.slice sl, .int .i64 (I:Int), .int .i64 s.hd.pos, .int .i64 c] true)), I, s.hd.pos, c, ⟨P.lt, by rw [jy], P.l, ⟨rfl, rfl, hc⟩, P.toks.keep (Nat.le_refl _) fun y hy=>by rw [zt, if_neg (P.tok y hy)], P.tok, P.ends, P.big⟩, ExQ.put q h _, fun α ret=>?_⟩
  rw [qaa.f, qaa.u1.f, r_e P, he]
  simp only [Option.isNone_none, cond_true]
  rw [r_l P, r_i P, tk_pos P.toks rfl P.hd]
  simp only [zy]
  rw [yu (a:=⟨q, 0 + 2 + 0⟩) P.blk rfl (by simp), yu (a:=⟨q, 0 + 3 + 0⟩) (by rw [jy]) rfl (by simp), pp]
  rfl
theorem zfj (P:RR h q sl ts s I a e) (k:Nat):zho q h sl ts (zap (if s.hd.kind = 0 then 6 else 7) s) fun h'=>∀ (α:Type) (ret:M α), qaf.f (k + 2) ⟨q, 0⟩ ret h = ret h':=by
 by_cases c:s.hd.kind = 0
 ·rw [if_pos c]
  obtain ⟨h', I', a', e', P', x', f'⟩:=zdc P k 6 (by decide)
  refine ⟨h', I', a', e', P', x', fun α ret=>?_⟩
  rw [qaf.f, qaf.u1.f, r_l P, r_i P, zdp P, dT c, cond_true, f']
 ·rw [if_neg c]
  obtain ⟨h', I', a', e', P', x', f'⟩:=zdc P k 7 (by decide)
  refine ⟨h', I', a', e', P', x', fun α ret=>?_⟩
  rw [qaf.f, qaf.u1.f, r_l P, r_i P, zdp P, dF c, cond_false, f']
theorem rd4 (P:RR h q sl ts s I a e) (K:Int->Int->List UInt8->Int->M α):(ldI .i64 ((sl.at (I * 4)).add 0) fun x0=>ldI .i64 ((sl.at (I * 4)).add 1) fun x1=>ldStr ((sl.at (I * 4)).add 2) fun x2=>ldI .i64 ((sl.at (I * 4)).add 3) fun x3=>K x0 x1 x2 x3) h = K s.hd.kind s.hd.pos s.hd.text s.hd.num h:=
 (zik P.toks (x:=(I:Int)) rfl P.hd (fun a7=>ldI .i64 (a7.add 0) fun x0=>ldI .i64 (a7.add 1) fun x1=>ldStr (a7.add 2) fun x2=>ldI .i64 (a7.add 3) fun x3=>K x0 x1 x2 x3)).symm.trans (tk_all P.toks (x:=(I:Int)) rfl P.hd K)
theorem rcopy (P:RR h q sl ts s I a e) (K:Ad->M α) :
  (ldS (((⟨q, 0⟩:Ad).add 0).add 0) fun x5=>ldI .i64 (((⟨q, 0⟩:Ad).add 1).add 0) fun x6=>idxSl x5 x6 4 fun a7=>ldI .i64 (a7.add 0) fun x8=>ldI .i64 (a7.add 1) fun x9=>ldStr (a7.add 2) fun x10=>ldI .i64 (a7.add 3) fun x11=>
   new [.int .i64 0, .int .i64 0, .str [], .int .i64 0] fun t12=>ldS (((⟨q, 0⟩:Ad).add 0).add 0) fun y13=>need (decide (x5 = y13)) <| ldI .i64 (((⟨q, 0⟩:Ad).add 1).add 0) fun y14=>need (decide (x6 = y14)) <|
   ldI .i64 (a7.add 0) fun y15=>ldI .i64 (a7.add 1) fun y16=>ldStr (a7.add 2) fun y17=>ldI .i64 (a7.add 3) fun y18=>need (decide (x8 = y15)) <| need (decide (x9 = y16)) <| need (decide (x10 = y17)) <| need (decide (x11 = y18)) <|
   st1 (t12.add 0) (.int .i64 x8) <| st1 (t12.add 1) (.int .i64 x9) <| st1 (t12.add 2) (.str x10) <| st1 (t12.add 3) (.int .i64 x11) <| K t12) h = K ⟨h.next, 0⟩ (h.push (tkC s.hd)):=by
 have P1:=P.push (.cells [.int .i64 0, .int .i64 0, .str [], .int .i64 0] true)
 rw [r_l P, r_i P, zik P.toks rfl P.hd, rd4 P, zp rfl, r_l P1, zq (dT rfl), r_i P1, zq (dT rfl), rd4 P1, zq (dT rfl), zq (dT rfl), zq (dT rfl), zq (dT rfl)]
 simp only [zy, Nat.zero_add]
 rw [zk rfl (by simp), zk rfl (by simp), zk rfl (by simp), zk rfl (by simp)]
 rfl
theorem zcf (P:RR h q sl ts s I a e) (k:Nat) (kind:Int) (hk0:kind ≠ 0) (text:List UInt8):zho q h sl ts (jj kind text s).2 fun h'=>∀ (α:Type) (ret:Int->M α), qv.f (k + 3) ⟨q, 0⟩ kind text ret h = ret (jj kind text s).1 h':=by
 have P1:=P.push (tkC s.hd)
 have x1:ExQ q h (h.push (tkC s.hd)):=ExQ.of ((Ext.refl h).push _)
 have ht:(h.push (tkC s.hd)).get h.next = some (tkC s.hd):=jv _
 have hlt:=P.lt
 have he:=P.e0
 have start:∀ (α:Type) (ret:Int->M α), qv.f (k + 3) ⟨q, 0⟩ kind text ret h = _:=fun α ret=>by
  rewrite [qv.f, qv.u1.f, rcopy P, r_e P1, he]
  exact rfl
 generalize h.push (tkC s.hd) = h1 at P1 x1 ht start
 have hkind:∀ (α:Type) (K:Int->M α), ldI .i64 (((⟨h.next, 0⟩:Ad).add 0).add 0) K h1 = K s.hd.kind h1:=fun α K=>jd (by simp only [zy]; rw [jr (a:=⟨h.next, 0 + 0 + 0⟩) ht]; rfl)
 cases hf:s.f with
 | some fe=>
  rw [zak hf]
  refine ⟨h1, I, a, e, P1, x1, fun α ret=>?_⟩
  rw [start, hf]
  rfl
 | none=>
  have hlater:s.hd.kind = kind->(text = [] ∨ s.hd.text = text)->zho q h sl ts (jj kind text s).2 fun h'=>∀ (α:Type) (ret:Int->M α), (ldI .i64 (((⟨q, 0⟩:Ad).add 1).add 0) fun x22=>st1 (((⟨q, 0⟩:Ad).add 1).add 0) (.int .i64 (w64 (x22 + 1))) <| ldI .i64 (((⟨h.next, 0⟩:Ad).add 3).add 0) fun x23=>ret x23) h1 = ret (jj kind text s).1 h':=by
   intro c1 c2
   rw [zbx hf ⟨c1, c2⟩, if_neg hk0]
   obtain ⟨P2, e2⟩:=P1.adv (by omega)
   rw [hf] at P2
   refine ⟨_, _, a, e, P2, x1.trans (ExQ.put q _ _), fun α ret=>?_⟩
   rw [r_i P1, e2]
   exact jd (by simp only [zy]; rw [jr (a:=⟨h.next, 0 + 3 + 0⟩) (by rw [zt, if_neg (by show h.next ≠ q; omega)]; exact ht)]; rfl)
  by_cases c1:s.hd.kind = kind
  ·by_cases c2:text = []
   ·obtain ⟨h', I', a', e', P', x', f'⟩:=hlater c1 (.inl c2)
    refine ⟨h', I', a', e', P', x', fun α ret=>?_⟩
    rw [start, hf]
    simp only [Option.isNone_none, Bool.not_true, cond_false]
    rw [hkind, dT c1, Bool.not_true, cond_false, dT c2, Bool.not_true, cond_false]
    exact f' α ret
   ·by_cases c3:s.hd.text = text
    ·obtain ⟨h', I', a', e', P', x', f'⟩:=hlater c1 (.inr c3)
     refine ⟨h', I', a', e', P', x', fun α ret=>?_⟩
     rw [start, hf]
     simp only [Option.isNone_none, Bool.not_true, cond_false]
     rw [hkind, dT c1, Bool.not_true, cond_false, dF c2, Bool.not_false, cond_true, zje ht, dT c3, Bool.not_true, cond_false]
     exact f' α ret
    ·rw [zcg hf (fun hh=>hh.2.elim c2 c3)]
     obtain ⟨h', I', a', e', P', x', f'⟩:=zfj P1 k
     refine ⟨h', I', a', e', P', x1.trans x', fun α ret=>?_⟩
     rw [start, hf]
     simp only [Option.isNone_none, Bool.not_true, cond_false]
     rw [hkind, dT c1, Bool.not_true, cond_false, dF c2, Bool.not_false, cond_true, zje ht, dF c3, Bool.not_false, cond_true, f']
  ·rw [zcg hf (fun hh=>c1 hh.1)]
   obtain ⟨h', I', a', e', P', x', f'⟩:=zfj P1 k
   refine ⟨h', I', a', e', P', x1.trans x', fun α ret=>?_⟩
   rw [start, hf]
   simp only [Option.isNone_none, Bool.not_true, cond_false]
   rw [hkind, dF c1, Bool.not_false, cond_true, f']
theorem zch (P:RR h q sl ts s I a e) (k:Nat) (x y c:Int) (hc:c ≠ 0):zho q h sl ts (numP x y c s).2 fun h'=>∀ (α:Type) (ret:Int->M α), qab.f (k + 4) ⟨q, 0⟩ x y c ret h = ret (numP x y c s).1 h':=by
 have P1:=P.push (tkC s.hd)
 have x1:ExQ q h (h.push (tkC s.hd)):=ExQ.of ((Ext.refl h).push _)
 have ht:(h.push (tkC s.hd)).get h.next = some (tkC s.hd):=jv _
 have start:∀ (α:Type) (ret:Int->M α), qab.f (k + 4) ⟨q, 0⟩ x y c ret h = _:=fun α ret=>by
  rewrite [qab.f, qab.u1.f, rcopy P, jd (n:=s.hd.kind) (by simp only [zy]; rw [jr (a:=⟨h.next, 0 + 0 + 0⟩) ht]; rfl)]
  exact rfl
 have hnum:∀ (α:Type) (K:Int->M α), ldI .i64 (((⟨h.next, 0⟩:Ad).add 3).add 0) K (h.push (tkC s.hd)) = K s.hd.num (h.push (tkC s.hd)):=fun α K=>jd (by simp only [zy]; rw [jr (a:=⟨h.next, 0 + 3 + 0⟩) ht]; rfl)
 generalize h.push (tkC s.hd) = h1 at P1 x1 ht start hnum
 unfold numP
 by_cases c4:s.hd.kind = 4
 ·by_cases ca:s.hd.num < x
  ·rw [if_pos ⟨c4, Or.inl ca⟩]
   obtain ⟨h3, I3, a3, e3, P3, x3, f3⟩:=zdc P1 (k + 2) c hc
   obtain ⟨h5, I5, a5, e5, P5, x5, f5⟩:=zcf P3 k 4 (by decide) []
   refine ⟨h5, I5, a5, e5, P5, (x1.trans x3).trans x5, fun α ret=>?_⟩
   rw [start, dT c4, cond_true, hnum, dT ca, cond_true, f3, f5]
  ·by_cases cb:y < s.hd.num
   ·rw [if_pos ⟨c4, Or.inr cb⟩]
    obtain ⟨h3, I3, a3, e3, P3, x3, f3⟩:=zdc P1 (k + 2) c hc
    obtain ⟨h5, I5, a5, e5, P5, x5, f5⟩:=zcf P3 k 4 (by decide) []
    refine ⟨h5, I5, a5, e5, P5, (x1.trans x3).trans x5, fun α ret=>?_⟩
    rw [start, dT c4, cond_true, hnum, dF ca, cond_false, hnum, dT cb, cond_true, f3, f5]
   ·rw [if_neg (fun hh=>hh.2.elim ca cb)]
    obtain ⟨h5, I5, a5, e5, P5, x5, f5⟩:=zcf P1 k 4 (by decide) []
    refine ⟨h5, I5, a5, e5, P5, x1.trans x5, fun α ret=>?_⟩
    rw [start, dT c4, cond_true, hnum, dF ca, cond_false, hnum, dF cb, cond_false, f5]
 ·rw [if_neg (fun hh=>c4 hh.1)]
  obtain ⟨h5, I5, a5, e5, P5, x5, f5⟩:=zcf P1 k 4 (by decide) []
  refine ⟨h5, I5, a5, e5, P5, x1.trans x5, fun α ret=>?_⟩
  rw [start, dF c4, cond_false, f5]
theorem znt (k:Nat) (f:Option (Int × Int)):∀ (j:Nat) (l:List Tok) (h:H) (I:Nat), l.length < j->RR h q sl ts ⟨l, f⟩ I a e->zho q h sl ts (zj ⟨l, f⟩) fun h'=>∀ (α:Type) (kx:M α), qt.u2.l k kx j ⟨q, 0⟩ h = kx h':=by
 intro j
 induction j with
 | zero=>intro l h I hj; omega
 | succ j ih=>
  intro l h I hj P
  obtain ⟨t, r, hl⟩:=P.ends.ne
  have hl:l = t :: r:=hl
  subst hl
  have start:∀ (α:Type) (kx:M α), qt.u2.l k kx (j + 1) ⟨q, 0⟩ h = _:=fun α kx=>by
   rewrite [qt.u2.l, qt.u1.f, r_l P, r_i P, zdp P]
   exact rfl
  by_cases c:t.kind = 1
  ·obtain ⟨P2, e2⟩:=P.adv (by show t.kind ≠ 0; omega)
   obtain ⟨h3, I3, a3, e3, P3, x3, f3⟩:=ih r _ (I + 1) (by simp at hj; omega) P2
   have hb:zj ⟨t :: r, f⟩ = zj ⟨r, f⟩:=by unfold zj; rw [zaw, if_pos c]
   rw [hb]
   refine ⟨h3, I3, a3, e3, P3, (ExQ.put q _ _).trans x3, fun α kx=>?_⟩
   rw [start, show decide ((⟨t :: r, f⟩:St).hd.kind = 1) = true from dT c, cond_true, r_i P, e2]
   exact f3 α kx
  ·have hb:zj ⟨t :: r, f⟩ = ⟨t :: r, f⟩:=by unfold zj; rw [zaw, if_neg c]
   rw [hb]
   refine ⟨h, I, a, e, P, ExQ.refl q h, fun α kx=>?_⟩
   rw [start, show decide ((⟨t :: r, f⟩:St).hd.kind = 1) = false from dF c, cond_false]
theorem zgx (P:RR h q sl ts s I a e) (k:Nat) (hk:s.l.length < k):zho q h sl ts (zj s) fun h'=>∀ (α:Type) (ret:M α), qt.f (k + 1) ⟨q, 0⟩ ret h = ret h':=by
 obtain ⟨h', I', a', e', P', x', f'⟩:=znt k s.f k s.l h I hk P
 refine ⟨h', I', a', e', P', x', fun α ret=>?_⟩
 rw [qt.f]
 exact f' α ret
theorem zmf (P:RR h q sl ts s I a e) (k:Nat):zho q h sl ts (endP s) fun h'=>∀ (α:Type) (ret:M α), qx.f (k + 4) ⟨q, 0⟩ ret h = ret h':=by
 unfold endP
 by_cases c:s.hd.kind = 0
 ·rw [if_pos c]
  refine ⟨h, I, a, e, P, ExQ.refl q h, fun α ret=>?_⟩
  rw [qx.f, qx.u1.f, r_l P, r_i P, zdp P, dT c, Bool.not_true, cond_false]
 ·rw [if_neg c]
  obtain ⟨h3, I3, a3, e3, P3, x3, f3⟩:=zcf P k 1 (by decide) []
  refine ⟨h3, I3, a3, e3, P3, x3, fun α ret=>?_⟩
  rw [qx.f, qx.u1.f, r_l P, r_i P, zdp P, dF c, Bool.not_false, cond_true, f3]
end
end Go.Ab.S8
namespace Go.Ab.S8
variable {α:Type} {h:H}
section
variable {q:Nat} {sl:Sl} {ts:List Tok} {s:St} {I:Nat} {a e:Int}
theorem RR.app (P:RR h q sl ts s I a e) {v:Sl} {h':H} (hn:h.next≤h'.next) (hk:∀ i, i < h.next->(∀ x, v.ad = some x->i ≠ x.id)->h'.get i = h.get i) (hv:∀ x, v.ad = some x->x.id ≠ q ∧ ∀ y, sl.ad = some y->x.id ≠ y.id):RR h' q sl ts s I a e:=
 ⟨Nat.lt_of_lt_of_le P.lt hn, by rw [hk q P.lt fun x hx=>Ne.symm (hv x hx).1]; exact P.blk, P.l, P.f, P.toks.keep hn fun y hy=>hk _ (P.toks.row y hy).2 fun x hx=>Ne.symm ((hv x hx).2 y hy), P.tok, P.ends, P.big⟩
theorem rmvs_loop (k:Nat) (n:Int) (hn:0≤n ∧ n≤1000000) {h₀:H} (hq0:q < h₀.next) (hsl:∀ x, sl.ad = some x->x.id < h₀.next) {x0 x3:Ad} {i:Int}:∀ (fp j:Nat) (acc:List Int) (last:Int) (s:St) (h:H) (I:Nat) (a e:Int) (v:Sl), s.mu < fp->fp≤j->acc.length + fp≤1000000->-1≤last ∧ last≤n ->
   RR h q sl ts s I a e->ExQ q h₀ h->LR h h₀.next q v acc ->
  ∃ h' I' a' e' v', RR h' q sl ts (mvsP n fp acc last s).2 I' a' e' ∧ ExQ q h₀ h' ∧ LR h' h₀.next q v' (mvsP n fp acc last s).1 ∧ ∀ (α:Type) (kx:Ad->Ad->Int->Ad->Int->Sl->M α), qf.u6.l (k + 4) kx j x0 ⟨q, 0⟩ n x3 i v last h = kx x0 ⟨q, 0⟩ n x3 i v' h':=by
 intro fp
 induction fp with
 | zero=>intro j acc last s h I a e v hmu; omega
 | succ fp ih=>
  intro j acc last s h I a e v hmu hj hacc hlast P Q L
  obtain ⟨j, rfl⟩:∃ i, j = i + 1:=⟨j - 1, by omega⟩
  have he:=P.e0
  by_cases c:s.f.isNone ∧ s.hd.kind = 4
  ·have hf:s.f = none:=by cases hs:s.f with | none=>rfl | some e=>rw [hs] at c; exact absurd c.1 (by simp)
   obtain ⟨h2, I2, a2, e2, P2, x2, f2⟩:=zch P k (last + 1) (n - 1) 16 (by decide)
   have L2:=L.ext x2
   have Q2:=Q.trans x2
   have hlen:=L.len
   obtain ⟨v3, h3, e3, L3, hn3, k3, n3⟩:=lr_add L2 (by have:=Q2.1; omega) (by have:=P2.lt; omega) (numP (last + 1) (n - 1) 16 s).1 (by omega)
   have hvs:∀ x, v.ad = some x->h₀.next≤x.id ∧ x.id < h.next:=fun x hx=>⟨(L.top x hx).1, (L.app.rd.row x hx).2⟩
   have P3:=P2.app hn3 k3 fun x hx=>⟨(L.top x hx).2, fun y hy=>by have:=hsl y hy; have:=(hvs x hx).1; omega⟩
   have Q3:ExQ q h₀ h3:=⟨Nat.le_trans Q2.1 hn3, fun i hi hiq=>by rw [k3 i (by have:=Q2.1; omega) (fun x hx=>by have:=(hvs x hx).1; omega), Q2.2 i hi hiq]⟩
   have hval:=zio (a:=last + 1) (b:=n - 1) (e:=16) hf c.2
   have hnext:=num_mu P.ends hf c.2 (last + 1) (n - 1) 16
   obtain ⟨h', I', a', e', v', P', Q', L', f'⟩:=ih j (acc ++ [(numP (last + 1) (n - 1) 16 s).1]) (numP (last + 1) (n - 1) 16 s).1 _ h3 I2 a2 e2 v3 (by omega) (by omega) (by simp; omega) (by omega) P3 Q3 L3
   rw [mvsP, if_pos c]
   refine ⟨h', I', a', e', v', P', Q', L', fun α kx=>?_⟩
   rw [qf.u6.l, qf.u5.f, r_e P, he, c.1, cond_true, r_l P, r_i P, zdp P, dT c.2, cond_true, jn (by omega) (by omega), jn (by omega) (by omega), f2]
   refine (e3 α _).trans ?_
   exact f' α kx
  ·rw [mvsP, if_neg c]
   refine ⟨h, I, a, e, v, P, Q, L, fun α kx=>?_⟩
   by_cases c1:s.f.isNone = true
   ·rw [qf.u6.l, qf.u5.f, r_e P, he, c1, cond_true, r_l P, r_i P, zdp P, dF (fun h4=>c ⟨c1, h4⟩), cond_false]
   ·rw [qf.u6.l, qf.u5.f, r_e P, he, show s.f.isNone = false by (cases hs:s.f.isNone with | true=>exact absurd hs c1 | false=>rfl), cond_false]
end
theorem zgw {A X C S:List Nat} {n:Nat} (h:(A ++ (X ++ C)).Nodup) (hl:∀ i ∈ A ++ (X ++ C), i < n) (hs:S.Nodup ∧ ∀ i ∈ S, i < n ∧ i ∉ A ++ (X ++ C)):(A ++ ([n] ++ (C ++ S))).Nodup:=by
 obtain ⟨h1, h2, h3⟩:=List.nodup_append.1 h
 obtain ⟨h4, h5, h6⟩:=List.nodup_append.1 h2
 have hA:∀ i ∈ A, i < n:=fun i hi=>hl i (List.mem_append_left _ hi)
 have hC:∀ i ∈ C, i < n:=fun i hi=>hl i (List.mem_append_right _ (List.mem_append_right _ hi))
 show (A ++ (n :: (C ++ S))).Nodup
 refine List.nodup_append.2 ⟨h1, List.nodup_cons.2 ⟨fun hh=>?_, List.nodup_append.2 ⟨h5, hs.1, fun i hi j hj e=>?_⟩⟩, fun i hi j hj e=>?_⟩
 ·rcases List.mem_append.1 hh with h | h
  ·have:=hC n h; omega
  ·have:=(hs.2 n h).1; omega
 ·subst e; exact (hs.2 i hj).2 (List.mem_append_right _ (List.mem_append_right _ hi))
 ·subst e
  rcases List.mem_cons.1 hj with h | h
  ·have:=hA i hi; omega
  ·rcases List.mem_append.1 h with h | h
   ·exact h3 i hi i (List.mem_append_right _ h) rfl
   ·exact (hs.2 i h).2 (List.mem_append_left _ hi)
section
variable {b q3:Nat} {o p m:Sl} {rows:List Sl} {g:Gm}
theorem zhi {i:Nat} (h:i ∈ adI o):i ∈ idsG o p m rows:=by simp only [idsG, List.mem_append]; exact .inl h
theorem zjy {i:Nat} (h:i ∈ adI p):i ∈ idsG o p m rows:=by simp only [idsG, List.mem_append]; exact .inr (.inl h)
theorem ids_m {i:Nat} (h:i ∈ adI m):i ∈ idsG o p m rows:=by simp only [idsG, List.mem_append]; exact .inr (.inr (.inl h))
theorem zkn {i:Nat} (h:i ∈ rows.flatMap adI):i ∈ idsG o p m rows:=by simp only [idsG, List.mem_append]; exact .inr (.inr (.inr h))
structure Apart (o p m:Sl) (rows:List Sl):Prop where
 op:∀ i ∈ adI p, i ∉ adI o
 om:∀ i ∈ adI m, i ∉ adI o
 orr:∀ i ∈ rows.flatMap adI, i ∉ adI o
 pm:∀ i ∈ adI m, i ∉ adI p
 pr:∀ i ∈ rows.flatMap adI, i ∉ adI p
 mr:∀ i ∈ rows.flatMap adI, i ∉ adI m
theorem BO.apart (B:BO h b q3 o p m rows g):Apart o p m rows:=by
 have nd:=B.nd
 unfold idsG at nd
 obtain ⟨nd1, nd2, nd3⟩:=List.nodup_append.1 nd
 obtain ⟨nd4, nd5, nd6⟩:=List.nodup_append.1 nd2
 obtain ⟨nd7, nd8, nd9⟩:=List.nodup_append.1 nd5
 exact ⟨fun i hi hh=>nd3 i hh i (List.mem_append_left _ hi) rfl, fun i hi hh=>nd3 i hh i (List.mem_append_right _ (List.mem_append_left _ hi)) rfl, fun i hi hh=>nd3 i hh i (List.mem_append_right _ (List.mem_append_right _ hi)) rfl,
  fun i hi hh=>nd6 i hh i (List.mem_append_left _ hi) rfl, fun i hi hh=>nd6 i hh i (List.mem_append_right _ hi) rfl, fun i hi hh=>nd9 i hh i hi rfl⟩
theorem BO.ne3 (B:BO h b q3 o p m rows g) {i:Nat} (hi:i ∈ idsG o p m rows):i ≠ q3:=by have:=B.old i hi; have:=B.lt; omega
theorem r_ids {r:Sl} {x:Ad} (hr:r ∈ rows) (hx:r.ad = some x):x.id ∈ rows.flatMap adI:=List.mem_flatMap.2 ⟨r, hr, jg.2 ⟨x, hx, rfl⟩⟩
theorem BO.add_o (B:BO h b q3 o p m rows g) (hl:g.ow.length≤1000000) (v:Int) :
  ∃ h' o', (∀ (α:Type) (K:M α), (new [.int .i64 v] fun r=>ldS (((⟨q3, 0⟩:Ad).add 0).add 0) fun y=>need (decide (o = y)) <| js o 1 8 ⟨some r, 1, 1, none⟩ fun x=>st1 (((⟨q3, 0⟩:Ad).add 0).add 0) (.slice x) K) h = K h') ∧ BO h' b q3 o' p m rows ⟨g.ow ++ [v], g.pr, g.mv⟩ ∧ h.next≤h'.next ∧ (∀ i, i < h.next->i ≠ q3->i ∉ idsG o p m rows->h'.get i = h.get i) ∧ (∀ i ∈ adI o', h.next≤i):=by
 have hq:=B.blk
 have hlb:=B.lt
 have hnx:=B.nx
 have hlt:=B.lti
 have ap:=B.apart
 have x1:Ext h (h.push (.cells [.int .i64 v] true)):=(Ext.refl h).push _
 obtain ⟨h2, e2, A2, n2, k2⟩:=zhy (B.ao.ext x1) (zfl (jv _) (by rw [zh]; omega)) (by omega)
 rw [zh] at n2 A2 e2 k2
 have kk:∀ i, i < h.next->i ∉ adI o->h2.get i = h.get i:=fun i hi hn=>by rw [k2 i (by omega) hn, x1.2 i hi]
 have hq2:h2.get q3 = some (gC o p m):=by rw [kk q3 (by omega) (fun hh=>B.ne3 (zhi hh) rfl)]; exact hq
 have g3:∀ i, i ≠ q3->(h2.put q3 (some (gC ⟨some ⟨h.next + 1, 0⟩, o.len + 1, o.len + 1, some 1⟩ p m))).get i = h2.get i:=fun i hi=>by rw [zt, if_neg hi]
 refine ⟨h2.put q3 (some (gC ⟨some ⟨h.next + 1, 0⟩, o.len + 1, o.len + 1, some 1⟩ p m)), ⟨some ⟨h.next + 1, 0⟩, o.len + 1, o.len + 1, some 1⟩, fun α K=>?_, ⟨hlb, by rw [jk]; omega, by rw [jy], A2.keep (by rw [jk]; omega) fun x hx=>(by cases hx; exact g3 _ (by show h.next + 1 ≠ q3; omega)),
  B.ap.keep (by rw [jk]; omega) fun x hx=>?_, B.am.keep (by rw [jk]; omega) fun x hx=>?_, B.len, fun i r l h1 h2=>(B.row i r l h1 h2).keep (by rw [jk]; omega) fun x hx=>?_, fun i hi=>?_, ?_, fun s' hs' hn=>?_⟩, by rw [jk]; omega, fun i hi hq hn=>by rw [g3 i hq, kk i hi (fun hh=>hn (zhi hh))], fun i hi=>?_⟩
 ·rw [zp rfl, g_o (by rw [x1.2 _ (by omega)]; exact hq), zq (dT rfl)]
  refine (e2 α _).trans ?_
  simp only [zy]
  rw [yu (a:=⟨q3, 0 + 0 + 0⟩) hq2 rfl (by simp)]
  rfl
 ·have hm:=mem_p (o:=o) (m:=m) (rows:=rows) hx
  rw [g3 _ (B.ne3 hm), kk _ (hlt _ hm) (ap.op _ (jg.2 ⟨x, hx, rfl⟩))]
 ·have hm:=mem_m (o:=o) (p:=p) (rows:=rows) hx
  rw [g3 _ (B.ne3 hm), kk _ (hlt _ hm) (ap.om _ (jg.2 ⟨x, hx, rfl⟩))]
 ·have hm:=zkt (o:=o) (p:=p) (m:=m) (List.mem_of_getElem? h1) hx
  rw [g3 _ (B.ne3 hm), kk _ (hlt _ hm) (ap.orr _ (r_ids (List.mem_of_getElem? h1) hx))]
 ·unfold idsG at hi
  rw [zas] at hi
  rcases List.mem_append.1 hi with h | h
  ·simp at h; omega
  ·exact B.old i (by unfold idsG; exact List.mem_append_right _ h)
 ·have:=zgw (A:=[]) (X:=adI o) (C:=adI p ++ (adI m ++ rows.flatMap adI)) (S:=[]) (n:=h.next + 1) B.nd (fun i hi=>by have:=hlt i hi; omega) ⟨List.nodup_nil, fun i hi=>(by cases hi)⟩
  rw [List.append_nil] at this
  exact this
 ·rcases hs' with rfl | h' | h' | h'
  ·cases hn
  ·exact B.ls s' (.inr (.inl h')) hn
  ·exact B.ls s' (.inr (.inr (.inl h'))) hn
  ·exact B.ls s' (.inr (.inr (.inr h'))) hn
 ·rw [zas] at hi; simp at hi; omega
theorem BO.add_p (B:BO h b q3 o p m rows g) (hl:g.pr.length≤1000000) (v:Int) :
  ∃ h' p', (∀ (α:Type) (K:M α), (new [.int .i64 v] fun r=>ldS (((⟨q3, 0⟩:Ad).add 1).add 0) fun y=>need (decide (p = y)) <| js p 1 8 ⟨some r, 1, 1, none⟩ fun x=>st1 (((⟨q3, 0⟩:Ad).add 1).add 0) (.slice x) K) h = K h') ∧ BO h' b q3 o p' m rows ⟨g.ow, g.pr ++ [v], g.mv⟩ ∧ h.next≤h'.next ∧ (∀ i, i < h.next->i ≠ q3->i ∉ idsG o p m rows->h'.get i = h.get i) ∧ (∀ i ∈ adI p', h.next≤i):=by
 have hq:=B.blk
 have hlb:=B.lt
 have hnx:=B.nx
 have hlt:=B.lti
 have ap:=B.apart
 have x1:Ext h (h.push (.cells [.int .i64 v] true)):=(Ext.refl h).push _
 obtain ⟨h2, e2, A2, n2, k2⟩:=zhy (B.ap.ext x1) (zfl (jv _) (by rw [zh]; omega)) (by omega)
 rw [zh] at n2 A2 e2 k2
 have kk:∀ i, i < h.next->i ∉ adI p->h2.get i = h.get i:=fun i hi hn=>by rw [k2 i (by omega) hn, x1.2 i hi]
 have hq2:h2.get q3 = some (gC o p m):=by rw [kk q3 (by omega) (fun hh=>B.ne3 (zjy hh) rfl)]; exact hq
 have g3:∀ i, i ≠ q3->(h2.put q3 (some (gC o ⟨some ⟨h.next + 1, 0⟩, p.len + 1, p.len + 1, some 1⟩ m))).get i = h2.get i:=fun i hi=>by rw [zt, if_neg hi]
 refine ⟨h2.put q3 (some (gC o ⟨some ⟨h.next + 1, 0⟩, p.len + 1, p.len + 1, some 1⟩ m)), ⟨some ⟨h.next + 1, 0⟩, p.len + 1, p.len + 1, some 1⟩, fun α K=>?_, ⟨hlb, by rw [jk]; omega, by rw [jy], B.ao.keep (by rw [jk]; omega) fun x hx=>?_, A2.keep (by rw [jk]; omega) fun x hx=>(by cases hx; exact g3 _ (by show h.next + 1 ≠ q3; omega)),
  B.am.keep (by rw [jk]; omega) fun x hx=>?_, B.len, fun i r l h1 h2=>(B.row i r l h1 h2).keep (by rw [jk]; omega) fun x hx=>?_, fun i hi=>?_, ?_, fun s' hs' hn=>?_⟩, by rw [jk]; omega, fun i hi hq hn=>by rw [g3 i hq, kk i hi (fun hh=>hn (zjy hh))], fun i hi=>?_⟩
 ·rw [zp rfl, g_p (by rw [x1.2 _ (by omega)]; exact hq), zq (dT rfl)]
  refine (e2 α _).trans ?_
  simp only [zy]
  rw [yu (a:=⟨q3, 0 + 1 + 0⟩) hq2 rfl (by simp)]
  rfl
 ·have hm:=mem_o (p:=p) (m:=m) (rows:=rows) hx
  rw [g3 _ (B.ne3 hm), kk _ (hlt _ hm) (fun hh=>ap.op _ hh (jg.2 ⟨x, hx, rfl⟩))]
 ·have hm:=mem_m (o:=o) (p:=p) (rows:=rows) hx
  rw [g3 _ (B.ne3 hm), kk _ (hlt _ hm) (ap.pm _ (jg.2 ⟨x, hx, rfl⟩))]
 ·have hm:=zkt (o:=o) (p:=p) (m:=m) (List.mem_of_getElem? h1) hx
  rw [g3 _ (B.ne3 hm), kk _ (hlt _ hm) (ap.pr _ (r_ids (List.mem_of_getElem? h1) hx))]
 ·unfold idsG at hi
  rw [zas] at hi
  rcases List.mem_append.1 hi with h | h
  ·exact B.old i (zhi h)
  rcases List.mem_append.1 h with h | h
  ·simp at h; omega
  ·exact B.old i (by unfold idsG; exact List.mem_append_right _ (List.mem_append_right _ h))
 ·have:=zgw (A:=adI o) (X:=adI p) (C:=adI m ++ rows.flatMap adI) (S:=[]) (n:=h.next + 1) B.nd (fun i hi=>by have:=hlt i hi; omega) ⟨List.nodup_nil, fun i hi=>(by cases hi)⟩
  rw [List.append_nil] at this
  exact this
 ·rcases hs' with h' | rfl | h' | h'
  ·exact B.ls s' (.inl h') hn
  ·cases hn
  ·exact B.ls s' (.inr (.inr (.inl h'))) hn
  ·exact B.ls s' (.inr (.inr (.inr h'))) hn
 ·rw [zas] at hi; simp at hi; omega
theorem BO.add_m (B:BO h b q3 o p m rows g) (hl:g.mv.length≤1000000) {s:Sl} {l:List Int} (hls:s.loose = none->s.ad = none) (A:App h s 1 (l.flatMap cI)) (hs:∀ i ∈ adI s, b≤i ∧ i ∉ idsG o p m rows) :
  ∃ h' m', (∀ (α:Type) (K:M α), (ldS (((⟨q3, 0⟩:Ad).add 2).add 0) fun x10=>new [.slice s] fun r=>js x10 1 24 ⟨some r, 1, 1, none⟩ fun x=>st1 (((⟨q3, 0⟩:Ad).add 2).add 0) (.slice x) K) h = K h') ∧ BO h' b q3 o p m' (rows ++ [s]) ⟨g.ow, g.pr, g.mv ++ [l]⟩ ∧ h.next≤h'.next ∧ (∀ i, i < h.next->i ≠ q3->i ∉ idsG o p m rows->h'.get i = h.get i) ∧ (∀ i ∈ adI m', h.next≤i):=by
 have hq:=B.blk
 have hlb:=B.lt
 have hnx:=B.nx
 have hlt:=B.lti
 have ap:=B.apart
 have x1:Ext h (h.push (.cells [.slice s] true)):=(Ext.refl h).push _
 obtain ⟨h2, e2, A2, n2, k2⟩:=app_slc (B.am.ext x1) (zfl (jv _) (by rw [zh]; omega)) (by rw [B.len]; omega)
 rw [zh] at n2 A2 e2 k2
 have kk:∀ i, i < h.next->i ∉ adI m->h2.get i = h.get i:=fun i hi hn=>by rw [k2 i (by omega) hn, x1.2 i hi]
 have hq2:h2.get q3 = some (gC o p m):=by rw [kk q3 (by omega) (fun hh=>B.ne3 (ids_m hh) rfl)]; exact hq
 have g3:∀ i, i ≠ q3->(h2.put q3 (some (gC o p ⟨some ⟨h.next + 1, 0⟩, m.len + 1, m.len + 1, some 1⟩))).get i = h2.get i:=fun i hi=>by rw [zt, if_neg hi]
 have hsm:∀ x, s.ad = some x->x.id < h.next ∧ x.id ≠ q3 ∧ x.id ∉ adI m:=fun x hx=>by
  have h1:=hs _ (jg.2 ⟨x, hx, rfl⟩)
  exact ⟨(A.rd.row x hx).2, by omega, fun hh=>h1.2 (ids_m hh)⟩
 refine ⟨h2.put q3 (some (gC o p ⟨some ⟨h.next + 1, 0⟩, m.len + 1, m.len + 1, some 1⟩)), ⟨some ⟨h.next + 1, 0⟩, m.len + 1, m.len + 1, some 1⟩, fun α K=>?_, ⟨hlb, by rw [jk]; omega, by rw [jy], B.ao.keep (by rw [jk]; omega) fun x hx=>?_, B.ap.keep (by rw [jk]; omega) fun x hx=>?_, A2.keep (by rw [jk]; omega) fun x hx=>(by cases hx; exact g3 _ (by show h.next + 1 ≠ q3; omega)),
  by simp [B.len], fun i r l' h1 h2=>?_, fun i hi=>?_, ?_, fun s' hs' hn=>?_⟩, by rw [jk]; omega, fun i hi hq hn=>by rw [g3 i hq, kk i hi (fun hh=>hn (ids_m hh))], fun i hi=>?_⟩
 ·rw [g_m hq, zp rfl]
  refine (e2 α _).trans ?_
  simp only [zy]
  rw [yu (a:=⟨q3, 0 + 2 + 0⟩) hq2 rfl (by simp)]
  rfl
 ·have hm:=mem_o (p:=p) (m:=m) (rows:=rows) hx
  rw [g3 _ (B.ne3 hm), kk _ (hlt _ hm) (fun hh=>ap.om _ hh (jg.2 ⟨x, hx, rfl⟩))]
 ·have hm:=mem_p (o:=o) (m:=m) (rows:=rows) hx
  rw [g3 _ (B.ne3 hm), kk _ (hlt _ hm) (fun hh=>ap.pm _ hh (jg.2 ⟨x, hx, rfl⟩))]
 ·by_cases hi:i < rows.length
  ·rw [List.getElem?_append_left hi] at h1
   dsimp only at h2
   rw [List.getElem?_append_left (by rw [← B.len]; exact hi)] at h2
   exact (B.row i r l' h1 h2).keep (by rw [jk]; omega) fun x hx=>by
    have hm:=zkt (o:=o) (p:=p) (m:=m) (List.mem_of_getElem? h1) hx
    rw [g3 _ (B.ne3 hm), kk _ (hlt _ hm) (ap.mr _ (r_ids (List.mem_of_getElem? h1) hx))]
  ·have hi':i = rows.length:=by have:=zdj h1; simp at this; omega
   subst hi'
   rw [List.getElem?_append_right (Nat.le_refl _), Nat.sub_self] at h1
   dsimp only at h2
   rw [B.len, List.getElem?_append_right (Nat.le_refl _), Nat.sub_self] at h2
   cases h1; cases h2
   exact A.keep (by rw [jk]; omega) fun x hx=>by
    obtain ⟨k1, k2', k3⟩:=hsm x hx
    rw [g3 _ k2', kk _ k1 k3]
 ·unfold idsG at hi
  rw [zas, List.flatMap_append] at hi
  rcases List.mem_append.1 hi with h | h
  ·exact B.old i (zhi h)
  rcases List.mem_append.1 h with h | h
  ·exact B.old i (zjy h)
  rcases List.mem_append.1 h with h | h
  ·simp at h; omega
  rcases List.mem_append.1 h with h | h
  ·exact B.old i (zkn h)
  ·simp only [List.flatMap_cons, List.flatMap_nil, List.append_nil] at h
   exact (hs i h).1
 ·have e1:idsG o p m rows = (adI o ++ adI p) ++ (adI m ++ rows.flatMap adI):=by simp [idsG]
  have:=zgw (A:=adI o ++ adI p) (X:=adI m) (C:=rows.flatMap adI) (S:=adI s) (n:=h.next + 1) (by rw [← e1]; exact B.nd) (fun i hi=>by rw [← e1] at hi; have:=hlt i hi; omega)
   ⟨by unfold adI; cases s.ad <;> simp, fun i hi=>by
    obtain ⟨x, hx, rfl⟩:=jg.1 hi
    exact ⟨by have:=(hsm x hx).1; omega, by rw [← e1]; exact (hs _ hi).2⟩⟩
  have e2:idsG o p ⟨some ⟨h.next + 1, 0⟩, m.len + 1, m.len + 1, some 1⟩ (rows ++ [s]) = (adI o ++ adI p) ++ ([h.next + 1] ++ (rows.flatMap adI ++ adI s)):=by simp [idsG, zas]
  rw [e2]; exact this
 ·rcases hs' with h' | h' | rfl | h'
  ·exact B.ls s' (.inl h') hn
  ·exact B.ls s' (.inr (.inl h')) hn
  ·cases hn
  ·rcases List.mem_append.1 h' with h' | h'
   ·exact B.ls s' (.inr (.inr (.inr h'))) hn
   ·obtain rfl:=List.mem_singleton.1 h'; exact hls hn
 ·rw [zas] at hi; simp at hi; omega
end
end Go.Ab.S8
namespace Go.Ab.S8
variable {α:Type} {h:H}
section
variable {q q3 b:Nat} {sl:Sl} {ts:List Tok} {s:St} {I:Nat} {a e:Int} {o p m:Sl} {rows:List Sl} {g:Gm}
theorem RR.away (P:RR h q sl ts s I a e) (B:BO h b q3 o p m rows g) (hq:q < b) (hqq:q ≠ q3) (hsl:∀ x, sl.ad = some x->x.id < b ∧ x.id ≠ q3) {h':H} (hn:h.next≤h'.next) (hk:∀ i, i < h.next->i ≠ q3->i ∉ idsG o p m rows->h'.get i = h.get i):RR h' q sl ts s I a e:=
 ⟨Nat.lt_of_lt_of_le P.lt hn, by rw [hk q P.lt hqq (fun hh=>by have:=B.old q hh; omega)]; exact P.blk, P.l, P.f, P.toks.keep hn fun y hy=>hk _ (P.toks.row y hy).2 (hsl y hy).2 (fun hh=>by have:=B.old _ hh; have:=(hsl y hy).1; omega), P.tok, P.ends, P.big⟩
theorem BO.past (B:BO h b q3 o p m rows g) (hq:q < b) (hqq:q ≠ q3) {h':H} (x:ExQ q h h'):BO h' b q3 o p m rows g:=
 B.keep x.1 (x.2 q3 (by have:=B.lt; have:=B.nx; omega) (Ne.symm hqq)) fun i hi=>x.2 i (B.lti i hi) (by have:=B.old i hi; omega)
theorem znw (k:Nat) (n:Int) (hn:0≤n ∧ n≤200) (hq:q < b) (hqq:q ≠ q3) (hsl:∀ x, sl.ad = some x->x.id < b ∧ x.id ≠ q3) (hk:ts.length + 20≤k) {x0:Ad}:∀ (c j i:Nat) (g:Gm) (s:St) (h:H) (I:Nat) (a e:Int) (o p m:Sl) (rows:List Sl), (i:Int) + c = n->c < j->(g.ow.length = i ∧ g.pr.length = i ∧ g.mv.length = i) ->
   RR h q sl ts s I a e->BO h b q3 o p m rows g ->
  ∃ h' I' a' e' o' p' m' rows', RR h' q sl ts (yq n c i g s).2 I' a' e' ∧ BO h' b q3 o' p' m' rows' (yq n c i g s).1 ∧ h.next≤h'.next ∧ (∀ j, j < b->j ≠ q->j ≠ q3->h'.get j = h.get j) ∧
   ∀ (α:Type) (kx:Ad->Ad->Ad->M α), qf.u17.l (k + 5) kx j x0 ⟨q, 0⟩ n ⟨q3, 0⟩ (i:Int) h = kx x0 ⟨q, 0⟩ ⟨q3, 0⟩ h':=by
 intro c
 induction c with
 | zero=>
  intro j i g s h I a e o p m rows hi hj hg P B
  obtain ⟨j, rfl⟩:∃ x, j = x + 1:=⟨j - 1, by omega⟩
  refine ⟨h, I, a, e, o, p, m, rows, P, B, Nat.le_refl _, fun _ _ _ _=>rfl, fun α kx=>?_⟩
  rw [qf.u17.l]
  unfold qf.u16.f qf.u3.f
  rw [dF (by omega:¬ (i:Int) < n), cond_false]
 | succ c ih=>
  intro j i g s h I a e o p m rows hi hj hg P B
  obtain ⟨j, rfl⟩:∃ x, j = x + 1:=⟨j - 1, by omega⟩
  have he:=P.e0
  have hdl:∀ {s':St} {I':Nat} {a' e':Int} {h':H}, RR h' q sl ts s' I' a' e'->s'.l.length≤ts.length:=fun P'=>by rw [← P'.l]; simp
  rw [yq]
  cases hf:s.f with
  | some fe=>
   rw [if_neg (by simp)]
   refine ⟨h, I, a, e, o, p, m, rows, P, B, Nat.le_refl _, fun _ _ _ _=>rfl, fun α kx=>?_⟩
   rw [qf.u17.l]
   unfold qf.u16.f qf.u3.f
   rw [dT (by omega:(i:Int) < n), cond_true, r_e P, he, hf]
   rfl
  | none=>
   rw [if_pos (show (none:Option (Int × Int)).isNone = true from rfl)]
   have hb3:=B.lt
   have hbn:=B.nx
   obtain ⟨h1, I1, a1, e1, P1, x1, f1⟩:=zgx P (k + 4) (by have:=hdl P; omega)
   obtain ⟨h2, I2, a2, e2, P2, x2, f2⟩:=zch P1 (k + 1) i i 8 (by decide)
   obtain ⟨h3, I3, a3, e3, P3, x3, f3⟩:=zch P2 (k + 1) 0 1 14 (by decide)
   have B2:=B.past hq hqq (x1.trans x2)
   have B3:=B2.past hq hqq x3
   obtain ⟨h4, o4, f4, B4, n4, k4, i4⟩:=B3.add_o (by omega) (numP 0 1 14 (numP i i 8 (zj s)).2).1
   have P4:=P3.away B3 hq hqq hsl n4 k4
   obtain ⟨h5, I5, a5, e5, P5, x5, f5⟩:=zch P4 (k + 1) 0 7 15 (by decide)
   have B5:=B4.past hq hqq x5
   obtain ⟨h6, p6, f6, B6, n6, k6, i6⟩:=B5.add_p (by show g.pr.length≤_; omega) (numP 0 7 15 (numP 0 1 14 (numP i i 8 (zj s)).2).2).1
   have P6:=P5.away B5 hq hqq hsl n6 k6
   obtain ⟨h7, I7, a7, e7, P7, x7, f7⟩:=zcf P6 (k + 2) 5 (by decide) [58]
   have B7:=B6.past hq hqq x7
   have hl7:=hdl P7
   have hbig:=P.big
   have hbn7:=B7.nx
   have hmu:∀ s':St, s'.mu≤s'.l.length + 1:=fun s'=>by unfold St.mu; split <;> omega
   have hmu7:=hmu (jj 5 [58] (numP 0 7 15 (numP 0 1 14 (numP i i 8 (zj s)).2).2).2).2
   obtain ⟨h8, I8, a8, e8, v8, P8, x8, L8, f8⟩:=rmvs_loop (k + 1) n (by omega) (x0:=x0) (x3:=⟨q3, 0⟩) (i:=(i:Int)) P7.lt (fun x hx=>by have:=(hsl x hx).1; omega) ((jj 5 [58] (numP 0 7 15 (numP 0 1 14 (numP i i 8 (zj s)).2).2).2).2.l.length + 2) (k + 5) [] (-1) _ h7 I7 a7 e7 Sl.nil (by omega) (by omega) (by simp; omega) (by omega) P7 (ExQ.refl q h7) ⟨App.nilSl h7 1, fun x hx=>(by cases hx), fun _=>rfl⟩
   have B8:=B7.past hq hqq x8
   have hlen8:=L8.len
   have he8:=P8.e0
   -- nothing but line ends?
   have hstuck:∃ h9 I9 a9 e9, RR h9 q sl ts (zaf n (jj 5 [58] (numP 0 7 15 (numP 0 1 14 (numP i i 8 (zj s)).2).2).2).2).2 I9 a9 e9 ∧ ExQ q h8 h9 ∧ ∀ (α:Type) (kn:Ad->Ad->Int->Ad->Int->M α), qf.u10.f (k + 5) x0 ⟨q, 0⟩ n ⟨q3, 0⟩ (i:Int) v8 kn h8 =
     qx.f (k + 5) ⟨q, 0⟩ (ldS (((⟨q3, 0⟩:Ad).add 2).add 0) fun x19=>new [.slice v8] fun r20=>js x19 1 24 ⟨some r20, 1, 1, none⟩ fun x21=>st1 (((⟨q3, 0⟩:Ad).add 2).add 0) (.slice x21) <| kn x0 ⟨q, 0⟩ n ⟨q3, 0⟩ (i:Int)) h9:=by
    unfold zaf
    generalize mvsP n ((jj 5 [58] (numP 0 7 15 (numP 0 1 14 (numP i i 8 (zj s)).2).2).2).2.l.length + 2) [] (-1) (jj 5 [58] (numP 0 7 15 (numP 0 1 14 (numP i i 8 (zj s)).2).2).2).2 = r at P8 L8 f8 hlen8 he8
    obtain ⟨l, s8⟩:=r
    dsimp only at P8 L8 hlen8 he8
    unfold zeh
    dsimp only
    have go:∀ (α:Type) (kn:Ad->Ad->Int->Ad->Int->M α), qf.u10.f (k + 5) x0 ⟨q, 0⟩ n ⟨q3, 0⟩ (i:Int) v8 kn h8 = qf.u9.f (k + 5) x0 ⟨q, 0⟩ n ⟨q3, 0⟩ (i:Int) v8 (decide (s8.hd.kind = 1 ∨ s8.hd.kind = 0)) kn h8:=fun α kn=>by
     unfold qf.u10.f qf.u8.f
     dsimp only
     rw [r_l P8, r_i P8, zdp P8]
     by_cases c1:s8.hd.kind = 1
     ·rw [dT c1, cond_true, dT (Or.inl c1)]
     ·rw [dF c1, cond_false, r_l P8, r_i P8, zdp P8]
      by_cases c0:s8.hd.kind = 0
      ·rw [dT c0, dT (Or.inr c0)]
      ·rw [dF c0, dF (fun hh=>hh.elim c1 c0)]
    by_cases c:l = [] ∧ (s8.hd.kind = 1 ∨ s8.hd.kind = 0)
    ·rw [if_pos c]
     cases hf8:s8.f with
     | some fe=>
      rw [zcc hf8]
      rw [hf8] at he8
      refine ⟨h8, I8, a8, e8, P8, ExQ.refl q h8, fun α kn=>?_⟩
      rw [go, qf.u9.f, r_e P8, he8]
      rfl
     | none=>
      obtain ⟨h9, I9, a9, e9, P9, x9, f9⟩:=zdc P8 (k + 4) 17 (by decide)
      rw [hf8] at he8
      refine ⟨h9, I9, a9, e9, P9, x9, fun α kn=>?_⟩
      rw [go, qf.u9.f, r_e P8, he8]
      simp only [Option.isNone_none, cond_true]
      rw [hlen8, c.1, dT (by rfl:(([]:List Int).length:Int) = 0), cond_true, dT c.2, cond_true, f9]
    ·rw [if_neg c]
     refine ⟨h8, I8, a8, e8, P8, ExQ.refl q h8, fun α kn=>?_⟩
     rw [go, qf.u9.f, r_e P8, he8]
     cases hf8:s8.f with
     | some fe=>rfl
     | none=>
      simp only [Option.isNone_none, cond_true]
      by_cases c2:l = []
      ·rw [hlen8, c2, dT (by rfl:(([]:List Int).length:Int) = 0), cond_true, dF (fun h1=>c ⟨c2, h1⟩), cond_false]
      ·rw [hlen8, dF (fun h1=>c2 (List.eq_nil_of_length_eq_zero (by omega))), cond_false]
   obtain ⟨h9, I9, a9, e9, P9, x9, f9⟩:=hstuck
   obtain ⟨h10, I10, a10, e10, P10, x10, f10⟩:=zmf P9 (k + 1)
   have x810:=x9.trans x10
   have B10:=B8.past hq hqq x810
   have L10:=L8.ext x810
   have hlt7:=B7.lti
   obtain ⟨h11, m11, f11, B11, n11, k11, i11⟩:=B10.add_m (by show g.mv.length≤_; omega) L10.ls L10.app fun x hx=>by
    obtain ⟨y, hy, rfl⟩:=jg.1 hx
    have:=(L8.top y hy).1
    exact ⟨by omega, fun hh=>by have:=hlt7 _ hh; omega⟩
   have P11:=P10.away B10 hq hqq hsl n11 k11
   have hg11:(⟨g.ow ++ [(numP 0 1 14 (numP i i 8 (zj s)).2).1], g.pr ++ [(numP 0 7 15 (numP 0 1 14 (numP i i 8 (zj s)).2).2).1], g.mv ++ [(mvsP n ((jj 5 [58] (numP 0 7 15 (numP 0 1 14 (numP i i 8 (zj s)).2).2).2).2.l.length + 2) [] (-1) (jj 5 [58] (numP 0 7 15 (numP 0 1 14 (numP i i 8 (zj s)).2).2).2).2).1]⟩:Gm) = g.add (rowP n i s).1:=rfl
   have hs11:endP (zaf n (jj 5 [58] (numP 0 7 15 (numP 0 1 14 (numP i i 8 (zj s)).2).2).2).2).2 = (rowP n i s).2:=rfl
   have B11':BO h11 b q3 o4 p6 m11 (rows ++ [v8]) (g.add (rowP n i s).1):=B11
   rw [hs11] at P11
   obtain ⟨h', I', a', e', o', p', m', rows', P', B', n', k', f'⟩:=ih j (i + 1) (g.add (rowP n i s).1) (rowP n i s).2 h11 I10 a10 e10 o4 p6 m11 (rows ++ [v8]) (by omega) (by omega) (by simp [Gm.add]; omega) P11 B11'
   have c1:=x1.1; have c2:=x2.1; have c3:=x3.1; have c5:=x5.1; have c7:=x7.1; have c8:=x8.1; have c9:=x810.1
   refine ⟨h', I', a', e', o', p', m', rows', P', B', by omega, fun j hj hjq hj3=>?_, fun α kx=>?_⟩
   ·rw [k' j hj hjq hj3, k11 j (by omega) hj3 (fun hh=>by have:=B10.old j hh; omega), x810.2 j (by omega) hjq, x8.2 j (by omega) hjq, x7.2 j (by omega) hjq, k6 j (by omega) hj3 (fun hh=>by have:=B5.old j hh; omega), x5.2 j (by omega) hjq,
     k4 j (by omega) hj3 (fun hh=>by have:=B3.old j hh; omega), x3.2 j (by omega) hjq, x2.2 j (by omega) hjq, x1.2 j (by omega) hjq]
   ·rw [qf.u17.l]
    unfold qf.u16.f qf.u3.f
    rw [dT (by omega:(i:Int) < n), cond_true, r_e P, he, hf]
    simp only [Option.isNone_none, cond_true]
    unfold qf.u15.f qf.u13.f qf.u12.f qf.u4.f
    dsimp only
    rw [f1, f2, g_o B2.blk, f3, g_o B3.blk, zq (dT rfl)]
    refine (f4 α _).trans ?_
    rw [g_p B4.blk, f5, g_p B5.blk, zq (dT rfl)]
    refine (f6 α _).trans ?_
    rw [f7]
    unfold qf.u11.f qf.u7.f qf.u6.f
    refine (f8 α _).trans ?_
    refine (f9 α _).trans ?_
    rw [f10]
    refine (f11 α _).trans ?_
    unfold qf.u14.f
    dsimp only
    rw [jn (by omega) (by omega)]
    exact f' α kx
theorem want0_run (P:RR h q sl ts s I a e) (hf:s.f = none) (k:Nat):∃ h' I' a' e', h'.get q = some (.cells [.slice sl, .int .i64 (I':Int), .int .i64 a', .int .i64 e'] true) ∧ FE e' a' (jj 0 [] s).2.f ∧ ExQ q h h' ∧ ∀ (α:Type) (ret:Int->M α), ∃ v, qv.f (k + 3) ⟨q, 0⟩ 0 [] ret h = ret v h':=by
 have P1:=P.push (tkC s.hd)
 have x1:ExQ q h (h.push (tkC s.hd)):=ExQ.of ((Ext.refl h).push _)
 have ht:(h.push (tkC s.hd)).get h.next = some (tkC s.hd):=jv _
 have hlt:=P.lt
 have he:=P.e0
 have start:∀ (α:Type) (ret:Int->M α), qv.f (k + 3) ⟨q, 0⟩ 0 [] ret h = _:=fun α ret=>by
  rewrite [qv.f, qv.u1.f, rcopy P, r_e P1, he]
  exact rfl
 generalize h.push (tkC s.hd) = h1 at P1 x1 ht start
 have hkind:∀ (α:Type) (K:Int->M α), ldI .i64 (((⟨h.next, 0⟩:Ad).add 0).add 0) K h1 = K s.hd.kind h1:=fun α K=>jd (by simp only [zy]; rw [jr (a:=⟨h.next, 0 + 0 + 0⟩) ht]; rfl)
 by_cases c:s.hd.kind = 0
 ·have hb:=P.big
  have hi:=P.ilt
  have hfe:=P1.f
  rw [hf] at hfe
  rw [zbx hf ⟨c, .inl rfl⟩, if_pos rfl]
  refine ⟨h1.put q (some (.cells [.slice sl, .int .i64 ((I + 1:Nat):Int), .int .i64 a, .int .i64 e] true)), I + 1, a, e, by rw [jy]; rfl, by show FE e a s.f; rw [hf]; exact hfe, x1.trans (ExQ.put q _ _), fun α ret=>⟨s.hd.num, ?_⟩⟩
  rw [start, hf]
  simp only [Option.isNone_none, Bool.not_true, cond_false]
  rw [hkind, dT c, Bool.not_true, cond_false]
  simp only [decide_true, Bool.not_true, cond_false]
  rw [r_i P1, jn (by omega) (by omega)]
  simp only [zy]
  rw [yu (a:=⟨q, 0 + 1 + 0⟩) P1.blk rfl (by simp)]
  exact jd (by rw [jr (a:=⟨h.next, 0 + 3 + 0⟩) (by rw [zt, if_neg (by show h.next ≠ q; omega)]; exact ht)]; rfl)
 ·rw [zcg hf (fun hh=>c hh.1)]
  obtain ⟨h', I', a', e', P', x', f'⟩:=zfj P1 k
  refine ⟨h', I', a', e', P'.blk, P'.f, x1.trans x', fun α ret=>⟨0, ?_⟩⟩
  rw [start, hf]
  simp only [Option.isNone_none, Bool.not_true, cond_false]
  rw [hkind, dF c, Bool.not_false, cond_true, f']
end
theorem scan_err {text:List UInt8} {m:Nat} {e:Int} (h:zcp text = .error (m, e)):e ≠ 0 ∧ m≤text.length:=by
 rcases zek text with ⟨hl, hs⟩ | ⟨_, us, sc, hs⟩ | ⟨_, _, _, _, sc, hb, hs⟩
 ·rw [hs] at h; cases h; exact ⟨by decide, by omega⟩
 ·rw [hs] at h; cases h
 ·rw [hs] at h; cases h
  have:=bad_err hb
  exact ⟨this.2.2, by omega⟩
theorem zix (k:Nat) (hk:300030≤k) (text:List UInt8) (h:H) :
  match zcs text with
  | .ok g=>∃ o p m h', (∀ (α:Type) (ret:Sl->Sl->Sl->Int->Int->M α), qf.f (k + 6) text ret h = ret o p m 0 0 h') ∧ Ext h h' ∧ GmO h' h.next o p m g
  | .error e=>∃ h', (∀ (α:Type) (ret:Sl->Sl->Sl->Int->Int->M α), qf.f (k + 6) text ret h = ret Sl.nil Sl.nil Sl.nil e.1 e.2 h') ∧ Ext h h':=by
 have x1:Ext h (h.push (gC Sl.nil Sl.nil Sl.nil)):=(Ext.refl h).push _
 have b0:(h.push (gC Sl.nil Sl.nil Sl.nil)).get h.next = some (gC Sl.nil Sl.nil Sl.nil):=jv _
 have n1:(h.push (gC Sl.nil Sl.nil Sl.nil)).next = h.next + 1:=rfl
 have A:=ref_run (k + 4) text (by omega) (h.push (gC Sl.nil Sl.nil Sl.nil))
 unfold zcs
 cases hs:zcp text with
 | error me=>
  obtain ⟨m, e⟩:=me
  rw [hs] at A
  obtain ⟨h2, e2, x2⟩:=A
  have hx2:=x2.1
  have he:=(scan_err hs).1
  have b2:h2.get h.next = some (gC Sl.nil Sl.nil Sl.nil):=by rw [x2.2 _ (by omega)]; exact b0
  refine ⟨h2.put h.next (some (gC Sl.nil Sl.nil Sl.nil)), fun α ret=>?_, ⟨by rw [jk]; omega, fun j hj=>by rw [zt, if_neg (by omega), x2.2 _ (by omega), x1.2 j hj]⟩⟩
  have hq:(h2.put h.next (some (gC Sl.nil Sl.nil Sl.nil))).get h.next = some (gC Sl.nil Sl.nil Sl.nil):=by rw [jy]
  rw [qf.f]
  unfold qf.u24.f qf.u1.f
  rw [zp rfl, e2, dF he, Bool.not_false, cond_true]
  refine (show _ = _ from g_st (q:=h.next) b2 Sl.nil Sl.nil Sl.nil _).trans ?_
  show (ldS ((⟨h.next, 0⟩:Ad).add 0) fun o501=>ldS ((⟨h.next, 0⟩:Ad).add 1) fun o502=>ldS ((⟨h.next, 0⟩:Ad).add 2) fun o503=>ret o501 o502 o503 _ _) _ = _
  rw [g_o' hq, g_p' hq, g_m' hq]
 | ok ts=>
  rw [hs] at A
  obtain ⟨sl, h2, e2, x2, R2, O2⟩:=A
  obtain ⟨hE, hlen, hl⟩:=zgy hs
  have hx2:=x2.1
  have x3:Ext h2 (h2.push (.cells [.slice sl, .int .i64 0, .int .i64 0, .int .i64 0] true)):=(Ext.refl h2).push _
  have P0:RR (h2.push (.cells [.slice sl, .int .i64 0, .int .i64 0, .int .i64 0] true)) h2.next sl ts ⟨ts, none⟩ 0 0 0:=by
   have r:=Row.toRd R2
   exact ⟨Nat.lt_succ_self _, jv _, rfl, rfl, r.ext x3, fun a ha=>by have:=(r.row a ha).2; omega, hE, by omega⟩
  have hle0:(⟨ts, none⟩:St).l.length = ts.length:=rfl
  obtain ⟨h3, I3, a3, f3, P3, Q3, e3⟩:=zgx P0 (k + 4) (by show ts.length < _; omega)
  obtain ⟨h4, I4, a4, f4, P4, Q4, e4⟩:=zcf P3 (k + 2) 2 (by decide) [103, 97, 109, 101]
  obtain ⟨h5, I5, a5, f5, P5, Q5, e5⟩:=zch P4 (k + 1) 1 200 10 (by decide)
  obtain ⟨h6, I6, a6, f6, P6, Q6, e6⟩:=zmf P5 (k + 1)
  have Q:=((Q3.trans Q4).trans Q5).trans Q6
  have hx6:=Q.1
  have x6:∀ j, j < h2.next->h6.get j = h2.get j:=fun j hj=>by rw [Q.2 j (by rw [zh]; omega) (by omega), x3.2 j hj]
  have x7:Ext h6 (h6.push (gC Sl.nil Sl.nil Sl.nil)):=(Ext.refl h6).push _
  have P7:=P6.push (gC Sl.nil Sl.nil Sl.nil)
  rw [zh] at hx6
  have B7:BO (h6.push (gC Sl.nil Sl.nil Sl.nil)) (h6.next + 1) h6.next Sl.nil Sl.nil Sl.nil [] ⟨[], [], []⟩:=
   ⟨Nat.lt_succ_self _, Nat.le_refl _, jv _, App.nilSl _ 1, App.nilSl _ 1, App.nilSl _ 1, rfl, fun i r l hi=>(by simp at hi), fun i hi=>(by simp [idsG, adI, Sl.nil] at hi), by simp [idsG, adI, Sl.nil], fun s hs _=>(by rcases hs with rfl | rfl | rfl | hs <;> first | rfl | cases hs)⟩
  have hsl7:∀ a, sl.ad = some a->a.id < h6.next + 1 ∧ a.id ≠ h6.next:=fun a ha=>by have:=(P6.toks.row a ha).2; omega
  have hn:=headP_n ⟨ts, none⟩ rfl
  obtain ⟨h8, I8, a8, f8, o8, pp8, m8, rows8, P8, B8, n8, k8, e8⟩:=znw k (jm ⟨ts, none⟩).1 (by omega) (q:=h2.next) (q3:=h6.next) (b:=h6.next + 1) (by omega) (by omega) hsl7 (by omega) (x0:=⟨h.next, 0⟩) (jm ⟨ts, none⟩).1.toNat (k + 5) 0 ⟨[], [], []⟩ (jm ⟨ts, none⟩).2 _ I6 a6 f6 Sl.nil Sl.nil Sl.nil [] (by omega) (by omega) ⟨rfl, rfl, rfl⟩ P7 B7
  have hrows0:(yq (jm ⟨ts, none⟩).1 (jm ⟨ts, none⟩).1.toNat ((0:Nat):Int) ⟨[], [], []⟩ (jm ⟨ts, none⟩).2) = yq (jm ⟨ts, none⟩).1 (jm ⟨ts, none⟩).1.toNat 0 ⟨[], [], []⟩ (jm ⟨ts, none⟩).2:=rfl
  rw [hrows0] at P8 B8
  have he8:=P8.e0
  rw [zh] at n8
  -- the last look
  have hlast:∃ h10 I10 a10 e10, h10.get h2.next = some (.cells [.slice sl, .int .i64 (I10:Int), .int .i64 a10, .int .i64 e10] true) ∧ FE e10 a10 (jj 0 [] (zj (yq (jm ⟨ts, none⟩).1 (jm ⟨ts, none⟩).1.toNat 0 ⟨[], [], []⟩ (jm ⟨ts, none⟩).2).2)).2.f ∧ ExQ h2.next h8 h10 ∧
    ∀ (α:Type) (kn:Ad->Ad->Ad->M α), qf.u20.f (k + 5) ⟨h.next, 0⟩ ⟨h2.next, 0⟩ ⟨h6.next, 0⟩ kn h8 = kn ⟨h.next, 0⟩ ⟨h2.next, 0⟩ ⟨h6.next, 0⟩ h10:=by
   generalize (yq (jm ⟨ts, none⟩).1 (jm ⟨ts, none⟩).1.toNat 0 ⟨[], [], []⟩ (jm ⟨ts, none⟩).2).2 = s8 at P8 he8
   cases hf8:s8.f with
   | some fe=>
    rw [zak (fe:=fe) (by show s8.f = _; exact hf8)]
    rw [hf8] at he8
    refine ⟨h8, I8, a8, f8, P8.blk, P8.f, ExQ.refl _ _, fun α kn=>?_⟩
    rw [qf.u20.f, r_e P8, he8]
    rfl
   | none=>
    rw [hf8] at he8
    have hl8:s8.l.length≤ts.length:=by rw [← P8.l]; simp
    obtain ⟨h9, I9, a9, f9, P9, Q9, e9⟩:=zgx P8 (k + 4) (by omega)
    obtain ⟨h10, I10, a10, f10, b10, F10, Q10, e10⟩:=want0_run P9 hf8 (k + 2)
    refine ⟨h10, I10, a10, f10, b10, F10, Q9.trans Q10, fun α kn=>?_⟩
    rw [qf.u20.f, r_e P8, he8]
    simp only [Option.isNone_none, cond_true]
    rw [e9]
    obtain ⟨v, hv⟩:=e10 α fun r6=>kn ⟨h.next, 0⟩ ⟨h2.next, 0⟩ ⟨h6.next, 0⟩
    exact hv
  obtain ⟨h10, I10, a10, f10, bq, F10, Qe, e10⟩:=hlast
  have hxe:=Qe.1
  have B10:=B8.past (by omega) (by omega) Qe
  have b10:h10.get h.next = some (gC Sl.nil Sl.nil Sl.nil):=by
   rw [Qe.2 _ (by omega) (by omega), k8 _ (by omega) (by omega) (by omega), x7.2 _ (by omega), x6 _ (by omega), x2.2 _ (by omega)]; exact b0
  have hold:∀ j, j < h.next->h10.get j = h.get j:=fun j hj=>by
   rw [Qe.2 _ (by omega) (by omega), k8 _ (by omega) (by omega) (by omega), x7.2 _ (by omega), x6 _ (by omega), x2.2 _ (by omega), x1.2 j hj]
  have hn10:h.next < h10.next:=by omega
  have start:∀ (α:Type) (ret:Sl->Sl->Sl->Int->Int->M α), qf.f (k + 6) text ret h = qf.u21.f (k + 5) ⟨h.next, 0⟩ ⟨h2.next, 0⟩ ⟨h6.next, 0⟩ (fun y0 y1 y2=>ldS (y0.add 0) fun o501=>ldS (y0.add 1) fun o502=>ldS (y0.add 2) fun o503=>ret o501 o502 o503 y1 y2) h10:=fun α ret=>by
   rw [qf.f]
   unfold qf.u24.f qf.u1.f
   rw [zp rfl, e2, dT rfl, Bool.not_true, cond_false, zp rfl, e3, e4, e5, e6, zfq]
   unfold qf.u23.f qf.u19.f qf.u2.f qf.u18.f qf.u17.f
   refine (e8 α _).trans ?_
   unfold qf.u22.f
   exact e10 α _
  have hg:∀ (α:Type) (K:Int->M α) (g:H), g.get h2.next = some (.cells [.slice sl, .int .i64 (I10:Int), .int .i64 a10, .int .i64 f10] true)->ldI .i64 (((⟨h2.next, 0⟩:Ad).add 2).add 0) K g = K a10 g:=fun α K g hg=>jd (by simp only [zy]; rw [jr (a:=⟨h2.next, 0 + 2 + 0⟩) hg]; rfl)
  have hg3:∀ (α:Type) (K:Int->M α) (g:H), g.get h2.next = some (.cells [.slice sl, .int .i64 (I10:Int), .int .i64 a10, .int .i64 f10] true)->ldI .i64 (((⟨h2.next, 0⟩:Ad).add 3).add 0) K g = K f10 g:=fun α K g hg=>jd (by simp only [zy]; rw [jr (a:=⟨h2.next, 0 + 3 + 0⟩) hg]; rfl)
  show match zgj _ with | .ok g=>_ | .error e=>_
  unfold zgj
  cases hf:(jj 0 [] (zj (yq (jm ⟨ts, none⟩).1 (jm ⟨ts, none⟩).1.toNat 0 ⟨[], [], []⟩ (jm ⟨ts, none⟩).2).2)).2.f with
  | some fe=>
   dsimp only
   rw [hf] at F10
   obtain ⟨m, e⟩:=fe
   obtain ⟨h1, h2', h3'⟩:=F10
   have bq':(h10.put h.next (some (gC Sl.nil Sl.nil Sl.nil))).get h2.next = some (.cells [.slice sl, .int .i64 (I10:Int), .int .i64 a10, .int .i64 f10] true):=by rw [zt, if_neg (by omega)]; exact bq
   refine ⟨h10.put h.next (some (gC Sl.nil Sl.nil Sl.nil)), fun α ret=>?_, ⟨by rw [jk]; omega, fun j hj=>by rw [zt, if_neg (by omega)]; exact hold j hj⟩⟩
   have hq:(h10.put h.next (some (gC Sl.nil Sl.nil Sl.nil))).get h.next = some (gC Sl.nil Sl.nil Sl.nil):=by rw [jy]
   rw [start, qf.u21.f, hg3 α _ _ bq, dF (by omega:¬ f10 = 0), Bool.not_false, cond_true, hg α _ _ bq, hg3 α _ _ bq, g_st (q:=h.next) b10, hg α _ _ bq', zq (dT rfl), hg3 α _ _ bq', zq (dT rfl)]
   dsimp only
   rw [g_o' hq, g_p' hq, g_m' hq, h1, h2']
  | none=>
   dsimp only
   rw [hf] at F10
   have F10:f10 = 0:=F10
   have hq:(h10.put h.next (some (gC o8 pp8 m8))).get h.next = some (gC o8 pp8 m8):=by rw [jy]
   have B11:BO (h10.put h.next (some (gC o8 pp8 m8))) (h6.next + 1) h6.next o8 pp8 m8 rows8 (yq (jm ⟨ts, none⟩).1 (jm ⟨ts, none⟩).1.toNat 0 ⟨[], [], []⟩ (jm ⟨ts, none⟩).2).1:=B10.keep (Nat.le_refl _) (by rw [zt, if_neg (by omega)]) fun i hi=>by rw [zt, if_neg (by have:=B10.old i hi; omega)]
   refine ⟨o8, pp8, m8, h10.put h.next (some (gC o8 pp8 m8)), fun α ret=>?_, ⟨by rw [jk]; omega, fun j hj=>by rw [zt, if_neg (by omega)]; exact hold j hj⟩, h6.next, h6.next + 1, rows8, by omega, B11⟩
   rw [start, qf.u21.f, hg3 α _ _ bq, dT F10, Bool.not_true, cond_false, g_o' B10.blk, g_p' B10.blk, g_m' B10.blk, g_st (q:=h.next) b10]
   rw [g_o' hq, g_p' hq, g_m' hq]
end Go.Ab.S8
namespace Go.Ab.S8
variable {α:Type} {h:H}
def zgv:Gm:=⟨[0, 1, 1], [1, 4, 7], [[1, 2], [0], [0, 2]]⟩
theorem shown1:zcs ([32, 10] ++ lit2 ++ [35, 32, 116, 104, 101, 32, 101, 110, 100]) = .ok zgv:=by kernel_rfl
theorem shown2:zcs [103, 97, 109, 101, 32, 49, 10, 48, 32, 48, 32, 48, 32, 58, 32, 53] = .error (15, 16):=by kernel_rfl
theorem shown3:(zen zgv).2 = 0:=by kernel_rfl
theorem shown4:printS zgv = lit2:=by kernel_rfl
theorem shown_GB:GB 10 zgv:=⟨⟨by decide, by decide⟩, ⟨by decide, by decide⟩, ⟨by decide, by decide⟩, fun l hl=>by simp [zgv] at hl; rcases hl with rfl | rfl | rfl <;> simp⟩
theorem shown_run (k:Nat) (hk:300100≤k):∃ h', Ext h h' ∧ ∀ (α:Type) (ret:Bool->M α), qal.f (k + 7) ret h = ret true h':=by
 have A:=zda k (by omega) ([32, 10] ++ lit2 ++ [35, 32, 116, 104, 101, 32, 101, 110, 100]) h
 rw [shown1] at A
 obtain ⟨o, p, m, h1, e1, x1, q3, b', rows, hb', B⟩:=A
 have x2:Ext h1 (h1.push (gC o p m)):=(Ext.refl h1).push _
 have b1:(h1.push (gC o p m)).get h1.next = some (gC o p m):=jv _
 have A2:=zda k (by omega) [103, 97, 109, 101, 32, 49, 10, 48, 32, 48, 32, 48, 32, 58, 32, 53] (h1.push (gC o p m))
 rw [shown2] at A2
 obtain ⟨i, h3, e3, x3, hi, hlt, hg⟩:=A2
 have x4:Ext h3 (h3.push (gC Sl.nil Sl.nil Sl.nil)):=(Ext.refl h3).push _
 have x5:Ext (h3.push (gC Sl.nil Sl.nil Sl.nil)) ((h3.push (gC Sl.nil Sl.nil Sl.nil)).push (.cells [.ptr (some ⟨i, 0⟩)] true)):=(Ext.refl _).push _
 have x15:=((x2.trans x3).trans x4).trans x5
 have hn:=x15.1
 have b5:((h3.push (gC Sl.nil Sl.nil Sl.nil)).push (.cells [.ptr (some ⟨i, 0⟩)] true)).get h1.next = some (gC o p m):=by
  rw [((x3.trans x4).trans x5).2 _ (by rw [zh]; omega)]; exact b1
 have G:GmR ((h3.push (gC Sl.nil Sl.nil Sl.nil)).push (.cells [.ptr (some ⟨i, 0⟩)] true)) o p m zgv:=B.gm.ext x15
 have ef:=fun (α:Type) (ret:Int->Int->M α)=>zgm (k + 4) ret (h3.push (gC Sl.nil Sl.nil Sl.nil)) i 15 16 (by rw [zh]; omega) (by rw [x4.2 _ hlt]; exact hg)
 generalize (h3.push (gC Sl.nil Sl.nil Sl.nil)).push (.cells [.ptr (some ⟨i, 0⟩)] true) = h5 at x15 b5 G ef
 obtain ⟨h6, x6, e6⟩:=print_run k G (shown_GB.mono (by omega)) (by omega)
 rw [if_pos shown3, shown4] at e6
 have lo:o.len = 3:=ilen G.o
 refine ⟨h6, x1.trans (x15.trans x6), fun α ret=>?_⟩
 rw [qal.f, qal.u1.f, cat_run (by decide), cat_run (by decide), e1, zfq, e3, zfq, ef]
 simp only [zkc, cond_true]
 rw [g_o b5, lo, dT (by rfl:((3:Nat):Int) = 3), cond_true, g_p b5, zbi G.p (x:=2) (i:=2) (v:=7) rfl rfl, dT rfl, cond_true, g_o' b5, g_p' b5, g_m' b5, e6]
 simp only [decide_true, cond_true]
end Go.Ab.S8
namespace Go.Ab.S8
variable {α:Type} {h:H}
structure GN (g:Gm):Prop where
 o:g.ow.length≤17592186044416
 p:g.pr.length≤17592186044416
 m:g.mv.length≤5864062014805
 l:∀ l ∈ g.mv, l.length≤17592186044416
theorem sum_ge:∀ (ls:List (List Int)) (l:List Int), l ∈ ls->l.length≤(ls.map List.length).sum
 | x :: ls, l, h=>by
  simp only [List.map_cons, List.sum_cons]
  rcases List.mem_cons.1 h with rfl | h
  ·omega
  ·have:=sum_ge ls l h; omega
theorem GN.gb {g:Gm} (b:GN g):GB (g.ow.length + g.pr.length + g.mv.length + (g.mv.map List.length).sum + 1) g:=
 ⟨⟨by omega, b.o⟩, ⟨by omega, b.p⟩, ⟨by omega, b.m⟩, fun l hl=>⟨by have:=sum_ge g.mv l hl; omega, b.l l hl⟩⟩
end Go.Ab.S8
namespace Go.Ab.S8
variable {α:Type} {h:H}
theorem app_set {s:Sl} {cs:List V} (A:App h s 1 cs) (hls:s.loose = none->s.ad = none) {x:Int} {i:Nat} (hx:x = (i:Int)) (hi:i < cs.length) {v:V} (hv:oneV v = true) :
  ∃ h', (∀ (α:Type) (K:M α), idxSl s x 1 (fun a=>st1 (a.add 0) v K) h = K h') ∧ h'.next = h.next ∧ (∀ j, j ∉ adI s->h'.get j = h.get j) ∧ App h' s 1 (cs.set i v):=by
 have hlen:=A.rd.len
 cases had:s.ad with
 | none=>have:=A.rd.nil had; omega
 | some a=>
  obtain ⟨hrow, hlt⟩:=A.rd.row a had
  have hlo:s.loose ≠ none:=fun hn=>by rw [hls hn] at had; cases had
  have hmode:s.loose = some 1 ∧ s.len≤s.cap ∧ h.own a.id = true:=by
   rcases A.mode with ⟨h1, _⟩ | ⟨h1, h2, a', ha', ho⟩
   ·exact absurd h1 hlo
   ·rw [had] at ha'; cases ha'; exact ⟨h1, h2, ho⟩
  obtain ⟨bs, ow, hg, hle, hcs⟩:=zhx hrow
  have how:ow = true:=by
   have:=hmode.2.2
   unfold H.own at this
   rw [hg] at this
   exact this
  subst how
  have hat:s.at (i * 1) = ⟨a.id, a.off + i⟩:=by unfold Sl.at; rw [had]; simp
  have hget:(h.put a.id (some (.cells (bs.set (a.off + i) v) true))).get a.id = some (.cells (bs.set (a.off + i) v) true):=by rw [jy]
  have hcs':cs.set i v = ((bs.set (a.off + i) v).drop a.off).take cs.length:=by
   rw [List.drop_set, if_neg (by omega), List.take_set, Nat.add_sub_cancel_left, ← hcs]
  refine ⟨h.put a.id (some (.cells (bs.set (a.off + i) v) true)), fun α K=>?_, rfl, fun j hj=>?_, ⟨⟨by rw [List.length_set]; exact hlen, fun b hb=>?_, A.rd.nil⟩, A.none', .inr ⟨hmode.1, hmode.2.1, a, had, ?_⟩⟩⟩
  ·rw [zeu A.rd hx (by omega), hat]
   simp only [zy, Nat.add_zero]
   rw [yu (a:=⟨a.id, a.off + i⟩) hg hv (by show a.off + i < bs.length; omega)]
  ·rw [zt, if_neg (fun e=>hj (jg.2 ⟨a, had, e.symm⟩))]
  ·rw [had] at hb
   cases hb
   refine ⟨?_, hlt⟩
   rw [List.length_set, yz hget (by rw [List.length_set]; exact hle), ← hcs']
  ·unfold H.own
   rw [hget]
theorem zlz {s:Sl} {l:List Int} (A:App h s 1 (l.flatMap cI)) (hls:s.loose = none->s.ad = none) {x:Int} {i:Nat} (hx:x = (i:Int)) (hi:i < l.length) (v:Int) :
  ∃ h', (∀ (α:Type) (K:M α), idxSl s x 1 (fun a=>st1 (a.add 0) (.int .i64 v) K) h = K h') ∧ h'.next = h.next ∧ (∀ j, j ∉ adI s->h'.get j = h.get j) ∧ App h' s 1 ((l.set i v).flatMap cI):=by
 have hl:(l.flatMap cI).length = l.length:=by rw [zdz (c:=cI) (size:=1) (fun _=>rfl), Nat.mul_one]
 obtain ⟨h', e, n, k, A'⟩:=app_set A hls hx (i:=i) (by omega) (v:=.int .i64 v) rfl
 refine ⟨h', e, n, k, ?_⟩
 have:=zjl (c:=cI) (size:=1) (fun _=>rfl) l i l[i] v 0 (.int .i64 v) (List.getElem?_eq_getElem hi) rfl (by decide)
 rw [Nat.mul_one, Nat.add_zero] at this
 rw [← this]; exact A'
theorem sl_set {m:Sl} {rows:List Sl} (A:App h m 1 (rows.flatMap cSl)) (hls:m.loose = none->m.ad = none) {x:Int} {i:Nat} (hx:x = (i:Int)) (hi:i < rows.length) (v:Sl) :
  ∃ h', (∀ (α:Type) (K:M α), idxSl m x 1 (fun a=>st1 (a.add 0) (.slice v) K) h = K h') ∧ h'.next = h.next ∧ (∀ j, j ∉ adI m->h'.get j = h.get j) ∧ App h' m 1 ((rows.set i v).flatMap cSl):=by
 have hl:(rows.flatMap cSl).length = rows.length:=by rw [zdz (c:=cSl) (size:=1) (fun _=>rfl), Nat.mul_one]
 obtain ⟨h', e, n, k, A'⟩:=app_set A hls hx (i:=i) (by omega) (v:=.slice v) rfl
 refine ⟨h', e, n, k, ?_⟩
 have:=zjl (c:=cSl) (size:=1) (fun _=>rfl) rows i rows[i] v 0 (.slice v) (List.getElem?_eq_getElem hi) rfl (by decide)
 rw [Nat.mul_one, Nat.add_zero] at this
 rw [← this]; exact A'
theorem rows_ne:∀ {rows:List Sl}, (rows.flatMap adI).Nodup->∀ {i j:Nat} {r r':Sl}, i ≠ j->rows[i]? = some r->rows[j]? = some r'->∀ x ∈ adI r, x ∉ adI r'
 | [], _, i, j, r, r', _, hi, _=>by simp at hi
 | s :: rows, hnd, i, j, r, r', hne, hi, hj=>by
  rw [List.flatMap_cons] at hnd
  obtain ⟨h1, h2, h3⟩:=List.nodup_append.1 hnd
  intro x hx hx'
  cases i with
  | zero=>
   cases j with
   | zero=>exact hne rfl
   | succ j=>
    simp only [List.getElem?_cons_zero, Option.some.injEq] at hi
    simp only [List.getElem?_cons_succ] at hj
    subst hi
    exact h3 x hx x (List.mem_flatMap.2 ⟨r', List.mem_of_getElem? hj, hx'⟩) rfl
  | succ i=>
   simp only [List.getElem?_cons_succ] at hi
   cases j with
   | zero=>
    simp only [List.getElem?_cons_zero, Option.some.injEq] at hj
    subst hj
    exact h3 x hx' x (List.mem_flatMap.2 ⟨r, List.mem_of_getElem? hi, hx⟩) rfl
   | succ j=>
    simp only [List.getElem?_cons_succ] at hj
    exact rows_ne h2 (fun e=>hne (by rw [e])) hi hj x hx hx'
theorem over_loop (k:Nat) {qa:Nat} {o p m:Sl} {rows:List Sl} {i n:Nat} {r:Sl} (hqa:qa ∉ adI r) (hmr:∀ x ∈ adI r, x ∉ adI m) (hls:r.loose = none->r.ad = none) (hi:rows[i]? = some r) (hn:n≤1000000) {x0:Bool} {x2 x3:Ad} {x4 x5 x6 x7 x8 x9:Int} {x10:Bool} :
  ∀ (f j:Nat) (h:H) (l:List Int), h.get qa = some (gC o p m)->App h m 1 (rows.flatMap cSl)->App h r 1 (l.flatMap cI)->l.length = n->j≤n->n - j < f ->
   ∃ (h':H) (l':List Int), h'.next = h.next ∧ (∀ y, y ∉ adI r->h'.get y = h.get y) ∧ App h' r 1 (l'.flatMap cI) ∧ l'.length = n ∧ ∀ (α:Type) (kx:Bool->Ad->Ad->Ad->Int->Int->Int->Int->Int->Int->Bool->Int->M α), qg.u7.l k kx f x0 ⟨qa, 0⟩ x2 x3 x4 x5 x6 x7 x8 x9 x10 (i:Int) (j:Int) h = kx x0 ⟨qa, 0⟩ x2 x3 x4 x5 x6 x7 x8 x9 x10 i h':=by
 intro f
 induction f with
 | zero=>intro j h l _ _ _ _ _ hf; omega
 | succ f ih=>
  intro j h l hq Am Ar hl hj hf
  have hlr:=ilen Ar.rd
  have hir:i < rows.length:=zdj hi
  have hld:∀ (α:Type) (K:Sl->M α), idxSl m (i:Int) 1 (fun a=>ldS (a.add 0) K) h = K r h:=fun α K=>by
   rw [zeu Am.rd rfl (by rw [zex (c:=cSl) (fun _=>rfl) Am.rd]; exact hir), zdn]
   refine Am.rd.ldS (n:=i * 1 + 0) ?_ K
   rw [zcz (c:=cSl) (size:=1) (fun _=>rfl) rows i r 0 hi (by decide)]
   rfl
  by_cases hlt:j < n
  ·obtain ⟨h2, e2, n2, k2, A2⟩:=zlz Ar hls (x:=(j:Int)) rfl (by omega) 300
   obtain ⟨h', l', n', k', A', hl', e'⟩:=ih (j + 1) h2 (l.set j 300) (by rw [k2 _ hqa]; exact hq) (Am.keep (by omega) fun a ha=>k2 _ fun hh=>hmr _ hh (jg.2 ⟨a, ha, rfl⟩)) A2 (by rw [List.length_set]; exact hl) hlt (by omega)
   refine ⟨h', l', by omega, fun y hy=>by rw [k' y hy, k2 y hy], A', hl', fun α kx=>?_⟩
   rw [qg.u7.l, qg.u6.f, g_m hq, hld, hlr, dT (by omega:(j:Int) < (l.length:Int)), cond_true, g_m hq, hld]
   refine (e2 α _).trans ?_
   rw [jn (by omega) (by omega)]
   exact e' α kx
  ·refine ⟨h, l, rfl, fun _ _=>rfl, Ar, hl, fun α kx=>?_⟩
   rw [qg.u7.l, qg.u6.f, g_m hq, hld, hlr, dF (by omega:¬ (j:Int) < (l.length:Int)), cond_false]
theorem bnd2 (n:Nat) (h:n≤100000):(n + 2 + (n + 2) / 4 + 512) * 8≤281474976710656:=by omega
structure OW (h:H) (o p m:Sl) (rows:List Sl) (mv:List (List Int)) (n i:Nat):Prop where
 o:∃ l:List Int, App h o 1 (l.flatMap cI) ∧ l.length = n
 p:∃ l:List Int, App h p 1 (l.flatMap cI) ∧ l.length = n
 m:∃ rows':List Sl, App h m 1 (rows'.flatMap cSl) ∧ rows'.length = n ∧ ∀ j, i≤j->rows'[j]? = rows[j]?
 r:∀ (j:Nat) (r:Sl) (l:List Int), i≤j->rows[j]? = some r->mv[j]? = some l->App h r 1 (l.flatMap cI)
theorem znq (k:Nat) {b q3 qa:Nat} {h₁:H} {o p m:Sl} {rows:List Sl} {g:Gm} (B:BO h₁ b q3 o p m rows g) (hqa:qa ∉ idsG o p m rows) (hqan:qa < h₁.next) (ho:g.ow.length = g.mv.length) (hp:g.pr.length = g.mv.length) (hn:g.mv.length≤200) (hl:∀ l ∈ g.mv, l.length≤100000) (hk:100010≤k)
  {x0:Bool} {x2 x3:Ad} {x4 x5 x6 x7 x8 x9:Int} {x10:Bool} :
  ∀ (f i:Nat) (h:H), i≤g.mv.length->g.mv.length - i < f->h₁.next≤h.next->(∀ y, y < h₁.next->y ∉ idsG o p m rows->h.get y = h₁.get y)->h.get qa = some (gC o p m)->OW h o p m rows g.mv g.mv.length i ->
   ∃ h', h₁.next≤h'.next ∧ (∀ y, y < h₁.next->y ∉ idsG o p m rows->h'.get y = h₁.get y) ∧ ∀ (α:Type) (kx:Bool->Ad->Ad->Int->Int->Int->Int->Int->Int->Bool->M α), qg.u17.l k kx f x0 ⟨qa, 0⟩ x2 x3 x4 x5 x6 x7 x8 x9 x10 (i:Int) h = kx x0 x2 x3 x4 x5 x6 x7 x8 x9 x10 h':=by
 have ap:=B.apart
 have hlo:=ilen B.ao.rd
 have hrn:(rows.flatMap adI).Nodup:=by
  have nd:=B.nd
  unfold idsG at nd
  exact (List.nodup_append.1 (List.nodup_append.1 (List.nodup_append.1 nd).2.1).2.1).2.1
 intro f
 induction f with
 | zero=>intro i h _ hf; omega
 | succ f ih=>
  intro i h hi hf hnx hold hq W
  by_cases hlt:i < g.mv.length
  ·obtain ⟨lo, Ao, hlo'⟩:=W.o
   obtain ⟨lp, Ap, hlp'⟩:=W.p
   obtain ⟨rows', Am, hrl, hrows⟩:=W.m
   have hir:i < rows.length:=by rw [B.len]; exact hlt
   have hr:rows[i]? = some rows[i]:=List.getElem?_eq_getElem hir
   have hmv:g.mv[i]? = some g.mv[i]:=List.getElem?_eq_getElem hlt
   have hr':rows'[i]? = some rows[i]:=by rw [hrows i (Nat.le_refl _)]; exact hr
   have Ar:=W.r i rows[i] g.mv[i] (Nat.le_refl _) hr hmv
   have hmem:rows[i] ∈ rows:=List.getElem_mem hir
   have hrI:∀ x ∈ adI rows[i], x ∈ rows.flatMap adI:=fun x hx=>List.mem_flatMap.2 ⟨_, hmem, hx⟩
   have hlsr:=B.ls rows[i] (.inr (.inr (.inr hmem)))
   have hlsm:=B.ls m (.inr (.inr (.inl rfl)))
   have hmv':=hl g.mv[i] (List.getElem_mem hlt)
   -- owner and priority
   obtain ⟨h2, e2, n2, k2, A2⟩:=zlz Ao (B.ls o (.inl rfl)) (x:=(i:Int)) rfl (by omega) 7
   have Ap2:App h2 p 1 (lp.flatMap cI):=Ap.keep (by omega) fun a ha=>k2 _ (ap.op _ (jg.2 ⟨a, ha, rfl⟩))
   obtain ⟨h3, e3, n3, k3, A3⟩:=zlz Ap2 (B.ls p (.inr (.inl rfl))) (x:=(i:Int)) rfl (by omega) 9
   have kk3:∀ y, y ∉ adI o->y ∉ adI p->h3.get y = h.get y:=fun y h1 h2'=>by rw [k3 y h2', k2 y h1]
   have hq2:h2.get qa = some (gC o p m):=by rw [k2 _ (fun hh=>hqa (zhi hh))]; exact hq
   have hq3:h3.get qa = some (gC o p m):=by rw [kk3 _ (fun hh=>hqa (zhi hh)) (fun hh=>hqa (zjy hh))]; exact hq
   have Am3:App h3 m 1 (rows'.flatMap cSl):=Am.keep (by omega) fun a ha=>kk3 _ (ap.om _ (jg.2 ⟨a, ha, rfl⟩)) (ap.pm _ (jg.2 ⟨a, ha, rfl⟩))
   have Ar3:App h3 rows[i] 1 ((g.mv[i]).flatMap cI):=Ar.keep (by omega) fun a ha=>kk3 _ (ap.orr _ (hrI _ (jg.2 ⟨a, ha, rfl⟩))) (ap.pr _ (hrI _ (jg.2 ⟨a, ha, rfl⟩)))
   -- its moves
   obtain ⟨h4, l4, n4, k4, A4, hl4, e4⟩:=over_loop k (qa:=qa) (o:=o) (p:=p) (x0:=x0) (x2:=x2) (x3:=x3) (x4:=x4) (x5:=x5) (x6:=x6) (x7:=x7) (x8:=x8) (x9:=x9) (x10:=x10) (fun hh=>hqa (zkn (hrI _ hh))) (fun x hx=>ap.mr _ (hrI x hx)) hlsr hr' (n:=g.mv[i].length) (by omega) k 0 h3 g.mv[i] hq3 Am3 Ar3 rfl (Nat.zero_le _) (by omega)
   have hq4:h4.get qa = some (gC o p m):=by rw [k4 _ (fun hh=>hqa (zkn (hrI _ hh)))]; exact hq3
   have Am4:App h4 m 1 (rows'.flatMap cSl):=Am3.keep (by omega) fun a ha=>k4 _ fun hh=>ap.mr _ (hrI _ hh) (jg.2 ⟨a, ha, rfl⟩)
   -- two more
   have hlr4:=ilen A4.rd
   have x5:Ext h4 (h4.push (.cells [.int .i64 300, .int .i64 301] true)):=(Ext.refl h4).push _
   have two:Rd (h4.push (.cells [.int .i64 300, .int .i64 301] true)) ⟨some ⟨h4.next, 0⟩, 2, 2, none⟩ 1 [.int .i64 300, .int .i64 301]:=
    ⟨rfl, fun a ha=>by cases ha; exact ⟨(yz (jv _) (Nat.le_refl _)).trans rfl, Nat.lt_succ_self _⟩, fun e=>(by cases e)⟩
   obtain ⟨h6, e6, A6, _, kp⟩:=zia (bytes:=8) (A4.ext x5) two (show 0 < 2 by decide) (by decide) (bnd2 _ (by rw [hlr4, hl4]; exact hmv'))
   have kn:h6.next = h4.next + 2:=by rw [kp.1, zh]
   have kk6:∀ y, y < h4.next->y ∉ adI rows[i]->h6.get y = h4.get y:=fun y hy hn=>by
    rw [kp.2 y (by rw [zh]; omega) (fun _ a ha he=>hn (jg.2 ⟨a, ha, he.symm⟩)), x5.2 y hy]
   have hq5:(h4.push (.cells [.int .i64 300, .int .i64 301] true)).get qa = some (gC o p m):=by rw [x5.2 _ (by omega)]; exact hq4
   have hq6:h6.get qa = some (gC o p m):=by rw [kk6 _ (by omega) (fun hh=>hqa (zkn (hrI _ hh)))]; exact hq4
   have Am6:App h6 m 1 (rows'.flatMap cSl):=Am4.keep (by omega) fun a ha=>kk6 _ (Am4.rd.row a ha).2 fun hh=>ap.mr _ (hrI _ hh) (jg.2 ⟨a, ha, rfl⟩)
   obtain ⟨h7, e7, n7, k7, A7⟩:=sl_set Am6 hlsm (x:=(i:Int)) rfl (by omega) ⟨some ⟨(h4.push (.cells [.int .i64 300, .int .i64 301] true)).next, 0⟩, rows[i].len + 2, rows[i].len + 2, some 1⟩
   have kall:∀ y, y < h.next->y ∉ adI o->y ∉ adI p->y ∉ adI rows[i]->y ∉ adI m->h7.get y = h.get y:=fun y hy h1 h2' h3' h4'=>by
    rw [k7 y h4', kk6 y (by omega) h3', k4 y h3', kk3 y h1 h2']
   have hn7:h.next≤h7.next:=by omega
   have W7:OW h7 o p m rows g.mv g.mv.length (i + 1):=by
    refine ⟨⟨lo.set i 7, ?_, by rw [List.length_set]; exact hlo'⟩, ⟨lp.set i 9, ?_, by rw [List.length_set]; exact hlp'⟩, ⟨_, A7, by rw [List.length_set]; exact hrl, fun j hj=>?_⟩, fun j r l hj h1 h2'=>?_⟩
    ·have a1:App h3 o 1 ((lo.set i 7).flatMap cI):=A2.keep (by omega) fun a ha=>k3 _ fun hh=>ap.op _ hh (jg.2 ⟨a, ha, rfl⟩)
     refine a1.keep (by omega) fun a ha=>?_
     have hm:=jg.2 ⟨a, ha, rfl⟩
     rw [k7 _ (fun hh=>ap.om _ hh hm), kk6 _ (by have:=(a1.rd.row a ha).2; omega) (fun hh=>ap.orr _ (hrI _ hh) hm), k4 _ (fun hh=>ap.orr _ (hrI _ hh) hm)]
    ·refine A3.keep (by omega) fun a ha=>?_
     have hm:=jg.2 ⟨a, ha, rfl⟩
     rw [k7 _ (fun hh=>ap.pm _ hh hm), kk6 _ (by have:=(A3.rd.row a ha).2; omega) (fun hh=>ap.pr _ (hrI _ hh) hm), k4 _ (fun hh=>ap.pr _ (hrI _ hh) hm)]
    ·rw [List.getElem?_set_ne (by omega)]; exact hrows j (by omega)
    ·have Aj:=W.r j r l (by omega) h1 h2'
     have hrj:r ∈ rows:=List.mem_of_getElem? h1
     refine Aj.keep hn7 fun a ha=>?_
     have hm:=jg.2 ⟨a, ha, rfl⟩
     have hm':a.id ∈ rows.flatMap adI:=List.mem_flatMap.2 ⟨r, hrj, hm⟩
     exact kall _ (Aj.rd.row a ha).2 (ap.orr _ hm') (ap.pr _ hm') (rows_ne hrn (by omega) h1 hr _ hm) (ap.mr _ hm')
   have hold7:∀ y, y < h₁.next->y ∉ idsG o p m rows->h7.get y = h₁.get y:=fun y hy hn=>by
    rw [kall y (by omega) (fun hh=>hn (zhi hh)) (fun hh=>hn (zjy hh)) (fun hh=>hn (zkn (hrI _ hh))) (fun hh=>hn (ids_m hh))]
    exact hold y hy hn
   obtain ⟨h', n', k', e'⟩:=ih (i + 1) h7 hlt (by omega) (by omega) hold7 (by rw [kall qa (by omega) (fun hh=>hqa (zhi hh)) (fun hh=>hqa (zjy hh)) (fun hh=>hqa (zkn (hrI _ hh))) (fun hh=>hqa (ids_m hh))]; exact hq) W7
   refine ⟨h', n', k', fun α kx=>?_⟩
   have hidx:∀ (g':H) (A:App g' m 1 (rows'.flatMap cSl)) (K:Ad->M α), idxSl m (i:Int) 1 K g' = K (m.at i) g':=fun g' A K=>by
    rw [zeu A.rd rfl (by rw [zex (c:=cSl) (fun _=>rfl) A.rd]; omega), Nat.mul_one]
   have hld:∀ (g':H) (A:App g' m 1 (rows'.flatMap cSl)) (K:Sl->M α), ldS ((m.at i).add 0) K g' = K rows[i] g':=fun g' A K=>by
    rw [zdn]
    refine A.rd.ldS (n:=i + 0) ?_ K
    have:=zcz (c:=cSl) (size:=1) (fun _=>rfl) rows' i rows[i] 0 hr' (by decide)
    rw [Nat.mul_one] at this
    rw [this]
    rfl
   rw [qg.u17.l]
   unfold qg.u16.f qg.u3.f
   rw [g_o hq, ilen Ao.rd, hlo', dT (by omega:(i:Int) < (g.mv.length:Int)), cond_true]
   unfold qg.u15.f qg.u13.f qg.u12.f qg.u4.f
   dsimp only
   rw [g_o hq]
   refine (e2 α _).trans ?_
   rw [g_p hq2]
   refine (e3 α _).trans ?_
   unfold qg.u11.f qg.u9.f qg.u5.f qg.u8.f qg.u7.f
   refine (e4 α _).trans ?_
   unfold qg.u10.f
   dsimp only
   rw [g_m hq4, g_m hq4, hidx _ Am4, hld _ Am4, zp rfl, g_m hq5, zq (dT rfl), g_m hq5, zq (dT rfl), hld _ (Am4.ext x5), zq (dT rfl)]
   refine (e6 α _).trans ?_
   rw [g_m hq6, zq (dT rfl)]
   refine (e7 α _).trans ?_
   unfold qg.u14.f
   dsimp only
   rw [jn (by omega) (by omega)]
   exact e' α kx
  ·obtain ⟨lo, Ao, hlo'⟩:=W.o
   refine ⟨h, hnx, hold, fun α kx=>?_⟩
   rw [qg.u17.l]
   unfold qg.u16.f qg.u3.f
   rw [g_o hq, ilen Ao.rd, hlo', dF (by omega:¬ (i:Int) < (g.mv.length:Int)), cond_false]
end Go.Ab.S8
