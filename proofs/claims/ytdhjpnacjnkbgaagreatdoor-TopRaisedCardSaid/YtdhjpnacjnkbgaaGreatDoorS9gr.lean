import Derived.Test.YtdhjpnacjnkbgaaGreatDoorAb20
import Derived.Test.YtdhjpnacjnkbgaaGreatDoorS9a
set_option linter.unusedVariables false
set_option linter.unusedSimpArgs false
set_option linter.unusedSectionVars false
namespace Go.Ab.S9
theorem dT {p:Prop} [Decidable p] (h:p):decide p = true:=decide_eq_true h
theorem dF {p:Prop} [Decidable p] (h:¬ p):decide p = false:=decide_eq_false h
end Go.Ab.S9
namespace Go.Ab.S9
variable {α:Type} {h:H}
abbrev c4 (a b c d:Int):Blk:=.cells [.int .u64 a, .int .u64 b, .int .u64 c, .int .u64 d] true
theorem new4 (a b c d:Int) (K:Ad->M α):new [.int .u64 a, .int .u64 b, .int .u64 c, .int .u64 d] K h = K ⟨h.next, 0⟩ (h.push (c4 a b c d)):=jl rfl
theorem ld4 {q:Nat} {a b c d:Int} (hq:h.get q = some (c4 a b c d)) (K:Int->Int->Int->Int->M α) :
  (ldI .u64 ((⟨q, 0⟩:Ad).add 0) fun x=>ldI .u64 ((⟨q, 0⟩:Ad).add 1) fun y=>ldI .u64 ((⟨q, 0⟩:Ad).add 2) fun z=>ldI .u64 ((⟨q, 0⟩:Ad).add 3) fun w=>K x y z w) h = K a b c d h:=by
 simp only [ya, Nat.zero_add]
 rw [jh (a:=⟨q, 0⟩) (n:=a) (by rw [zt (a:=⟨q, 0⟩) hq]; rfl), jh (a:=⟨q, 1⟩) (n:=b) (by rw [zt (a:=⟨q, 1⟩) hq]; rfl),
  jh (a:=⟨q, 2⟩) (n:=c) (by rw [zt (a:=⟨q, 2⟩) hq]; rfl), jh (a:=⟨q, 3⟩) (n:=d) (by rw [zt (a:=⟨q, 3⟩) hq]; rfl)]
theorem st4 {q:Nat} {a b c d:Int} (hq:∃ x y z w, h.get q = some (c4 x y z w)) (K:M α) :
  (st1 ((⟨q, 0⟩:Ad).add 0) (.int .u64 a) <| st1 ((⟨q, 0⟩:Ad).add 1) (.int .u64 b) <| st1 ((⟨q, 0⟩:Ad).add 2) (.int .u64 c) <| st1 ((⟨q, 0⟩:Ad).add 3) (.int .u64 d) K) h = K (h.put q (some (c4 a b c d))):=by
 obtain ⟨x, y, z, w, hq⟩:=hq
 simp only [ya, Nat.zero_add]
 rw [zz (a:=⟨q, 0⟩) hq rfl (by simp), zz (a:=⟨q, 1⟩) (by rw [zh]) rfl (by simp), jg, zz (a:=⟨q, 2⟩) (by rw [zh]) rfl (by simp), jg, zz (a:=⟨q, 3⟩) (by rw [zh]) rfl (by simp), jg]
 rfl
theorem cp4 {p q:Nat} {a b c d:Int} (hp:h.get p = some (c4 a b c d)) (hq:∃ x y z w, h.get q = some (c4 x y z w)) (K:M α) :
  (ldI .u64 ((⟨p, 0⟩:Ad).add 0) fun x4=>ldI .u64 ((⟨p, 0⟩:Ad).add 1) fun x5=>ldI .u64 ((⟨p, 0⟩:Ad).add 2) fun x6=>ldI .u64 ((⟨p, 0⟩:Ad).add 3) fun x7=>
   st1 ((⟨q, 0⟩:Ad).add 0) (.int .u64 x4) <| st1 ((⟨q, 0⟩:Ad).add 1) (.int .u64 x5) <| st1 ((⟨q, 0⟩:Ad).add 2) (.int .u64 x6) <| st1 ((⟨q, 0⟩:Ad).add 3) (.int .u64 x7) K) h = K (h.put q (some (c4 a b c d))):=by
 rw [ld4 hp]
 exact st4 hq K
theorem zav (a b c d:Int):(h.push (c4 a b c d)).get h.next = some (c4 a b c d):=je h _
theorem zdj {k j:Nat} {kx:Ad->Ad->M α} {cs ds:List V} {p q i:Nat} {r:Ad} {a b:Int} (hp:h.get p = some (.cells cs true)) (hq:h.get q = some (.cells ds true)) (ha:cs[i]? = some (.int .u64 a)) (hb:ds[i]? = some (.int .u64 b)) (hi:i < 4) :
  qj.u4.l k kx (j + 1) ⟨p, 0⟩ ⟨q, 0⟩ r (i:Int) h = qj.u4.l k kx j ⟨p, 0⟩ ⟨q, 0⟩ r ((i + 1:Nat):Int) (h.put p (some (.cells (cs.set i (.int .u64 (bits .and .u64 a b))) true))):=by
 have e1:w64 ((i:Int) + 1) = ((i + 1:Nat):Int):=by rw [yt (by omega) (by omega)]; rfl
 have hlt:i < cs.length:=yy ha
 rw [qj.u4.l, qj.u3.f, dT (by omega:(i:Int) < 4), cond_true, dT (by omega:0≤(i:Int)), zd rfl, zd rfl]
 simp only [ya, Int.toNat_natCast, Nat.mul_one, Nat.add_zero, Nat.zero_add]
 rw [jh (a:=⟨p, i⟩) (n:=a) (by rw [zt (a:=⟨p, i⟩) hp]; exact ha), zd rfl, zd rfl, jh (a:=⟨q, i⟩) (n:=b) (by rw [zt (a:=⟨q, i⟩) hq]; exact hb), zd rfl, zd rfl,
  zz (a:=⟨p, i⟩) hp rfl hlt, e1]
theorem And_run0 (k:Nat) (hk:4 < k) (a0 a1 a2 a3 b0 b1 b2 b3:Int) :
  ∃ h', Ext h h' ∧ ∀ (α:Type) (ret:Int->Int->Int->Int->M α), qj.f (k + 1) a0 a1 a2 a3 b0 b1 b2 b3 ret h = ret (bits .and .u64 a0 b0) (bits .and .u64 a1 b1) (bits .and .u64 a2 b2) (bits .and .u64 a3 b3) h':=by
 obtain ⟨k, rfl⟩:∃ m, k = m + 5:=⟨k - 5, by omega⟩
 let h3:=((h.push (c4 a0 a1 a2 a3)).push (c4 b0 b1 b2 b3)).push (c4 0 0 0 0)
 have g0:h3.get h.next = some (c4 a0 a1 a2 a3):=by simp only [h3, zw, zm]; (repeat rw [if_neg (by omega)]); simp
 have g1:h3.get (h.next + 1) = some (c4 b0 b1 b2 b3):=by simp only [h3, zw, zm]; (repeat rw [if_neg (by omega)]); simp
 have g2:h3.get (h.next + 2) = some (c4 0 0 0 0):=by simp only [h3, zw, zm]; simp
 have x3:Ext h h3:=(((Ext.refl h).push _).push _).push _
 refine ⟨(h3.put h.next (some (c4 (bits .and .u64 a0 b0) (bits .and .u64 a1 b1) (bits .and .u64 a2 b2) (bits .and .u64 a3 b3)))).put (h.next + 2) (some (c4 (bits .and .u64 a0 b0) (bits .and .u64 a1 b1) (bits .and .u64 a2 b2) (bits .and .u64 a3 b3))), (x3.put _ (Nat.le_refl _)).put _ (by omega), fun α ret=>?_⟩
 rw [qj.f]
 unfold qj.u9.f qj.u1.f
 rw [new4, new4, new4]
 show qj.u4.l (k + 5) _ (k + 5) ⟨h.next, 0⟩ ⟨h.next + 1, 0⟩ ⟨h.next + 2, 0⟩ ((0:Nat):Int) h3 = _
 have q:∀ v, (h3.put h.next v).get (h.next + 1) = some (c4 b0 b1 b2 b3):=fun v=>by rw [zo _ _ (by omega)]; exact g1
 rw [zdj g0 g1 rfl rfl (by decide), zdj (zh _ _ _) (q _) rfl rfl (by decide), jg, zdj (zh _ _ _) (q _) rfl rfl (by decide), jg, zdj (zh _ _ _) (q _) rfl rfl (by decide), jg]
 rw [qj.u4.l, qj.u3.f, dF (by decide:¬ ((0 + 1 + 1 + 1 + 1:Nat):Int) < 4), cond_false]
 unfold qj.u7.f
 refine (cp4 (zh _ _ _) ⟨0, 0, 0, 0, by rw [zo _ _ (by omega)]; exact g2⟩ _).trans ?_
 exact ld4 (zh _ _ _) _
theorem zeq {k j:Nat} {kx:Ad->Ad->M α} {cs ds:List V} {p q i:Nat} {r:Ad} {a b:Int} (hp:h.get p = some (.cells cs true)) (hq:h.get q = some (.cells ds true)) (ha:cs[i]? = some (.int .u64 a)) (hb:ds[i]? = some (.int .u64 b)) (hi:i < 4) :
  ql.u4.l k kx (j + 1) ⟨p, 0⟩ ⟨q, 0⟩ r (i:Int) h = ql.u4.l k kx j ⟨p, 0⟩ ⟨q, 0⟩ r ((i + 1:Nat):Int) (h.put p (some (.cells (cs.set i (.int .u64 (bits .or .u64 a b))) true))):=by
 have e1:w64 ((i:Int) + 1) = ((i + 1:Nat):Int):=by rw [yt (by omega) (by omega)]; rfl
 have hlt:i < cs.length:=yy ha
 rw [ql.u4.l, ql.u3.f, dT (by omega:(i:Int) < 4), cond_true, dT (by omega:0≤(i:Int)), zd rfl, zd rfl]
 simp only [ya, Int.toNat_natCast, Nat.mul_one, Nat.add_zero, Nat.zero_add]
 rw [jh (a:=⟨p, i⟩) (n:=a) (by rw [zt (a:=⟨p, i⟩) hp]; exact ha), zd rfl, zd rfl, jh (a:=⟨q, i⟩) (n:=b) (by rw [zt (a:=⟨q, i⟩) hq]; exact hb), zd rfl, zd rfl,
  zz (a:=⟨p, i⟩) hp rfl hlt, e1]
theorem Or_run0 (k:Nat) (hk:4 < k) (a0 a1 a2 a3 b0 b1 b2 b3:Int) :
  ∃ h', Ext h h' ∧ ∀ (α:Type) (ret:Int->Int->Int->Int->M α), ql.f (k + 1) a0 a1 a2 a3 b0 b1 b2 b3 ret h = ret (bits .or .u64 a0 b0) (bits .or .u64 a1 b1) (bits .or .u64 a2 b2) (bits .or .u64 a3 b3) h':=by
 obtain ⟨k, rfl⟩:∃ m, k = m + 5:=⟨k - 5, by omega⟩
 let h3:=((h.push (c4 a0 a1 a2 a3)).push (c4 b0 b1 b2 b3)).push (c4 0 0 0 0)
 have g0:h3.get h.next = some (c4 a0 a1 a2 a3):=by simp only [h3, zw, zm]; (repeat rw [if_neg (by omega)]); simp
 have g1:h3.get (h.next + 1) = some (c4 b0 b1 b2 b3):=by simp only [h3, zw, zm]; (repeat rw [if_neg (by omega)]); simp
 have g2:h3.get (h.next + 2) = some (c4 0 0 0 0):=by simp only [h3, zw, zm]; simp
 have x3:Ext h h3:=(((Ext.refl h).push _).push _).push _
 refine ⟨(h3.put h.next (some (c4 (bits .or .u64 a0 b0) (bits .or .u64 a1 b1) (bits .or .u64 a2 b2) (bits .or .u64 a3 b3)))).put (h.next + 2) (some (c4 (bits .or .u64 a0 b0) (bits .or .u64 a1 b1) (bits .or .u64 a2 b2) (bits .or .u64 a3 b3))), (x3.put _ (Nat.le_refl _)).put _ (by omega), fun α ret=>?_⟩
 rw [ql.f]
 unfold ql.u9.f ql.u1.f
 rw [new4, new4, new4]
 show ql.u4.l (k + 5) _ (k + 5) ⟨h.next, 0⟩ ⟨h.next + 1, 0⟩ ⟨h.next + 2, 0⟩ ((0:Nat):Int) h3 = _
 have q:∀ v, (h3.put h.next v).get (h.next + 1) = some (c4 b0 b1 b2 b3):=fun v=>by rw [zo _ _ (by omega)]; exact g1
 rw [zeq g0 g1 rfl rfl (by decide), zeq (zh _ _ _) (q _) rfl rfl (by decide), jg, zeq (zh _ _ _) (q _) rfl rfl (by decide), jg, zeq (zh _ _ _) (q _) rfl rfl (by decide), jg]
 rw [ql.u4.l, ql.u3.f, dF (by decide:¬ ((0 + 1 + 1 + 1 + 1:Nat):Int) < 4), cond_false]
 unfold ql.u7.f
 refine (cp4 (zh _ _ _) ⟨0, 0, 0, 0, by rw [zo _ _ (by omega)]; exact g2⟩ _).trans ?_
 exact ld4 (zh _ _ _) _
theorem zbu {k j:Nat} {kx:Ad->Ad->M α} {cs ds:List V} {p q i:Nat} {r:Ad} {a b:Int} (hp:h.get p = some (.cells cs true)) (hq:h.get q = some (.cells ds true)) (ha:cs[i]? = some (.int .u64 a)) (hb:ds[i]? = some (.int .u64 b)) (hi:i < 4) :
  qk.u4.l k kx (j + 1) ⟨p, 0⟩ ⟨q, 0⟩ r (i:Int) h = qk.u4.l k kx j ⟨p, 0⟩ ⟨q, 0⟩ r ((i + 1:Nat):Int) (h.put p (some (.cells (cs.set i (.int .u64 (bits .andNot .u64 a b))) true))):=by
 have e1:w64 ((i:Int) + 1) = ((i + 1:Nat):Int):=by rw [yt (by omega) (by omega)]; rfl
 have hlt:i < cs.length:=yy ha
 rw [qk.u4.l, qk.u3.f, dT (by omega:(i:Int) < 4), cond_true, dT (by omega:0≤(i:Int)), zd rfl, zd rfl]
 simp only [ya, Int.toNat_natCast, Nat.mul_one, Nat.add_zero, Nat.zero_add]
 rw [jh (a:=⟨p, i⟩) (n:=a) (by rw [zt (a:=⟨p, i⟩) hp]; exact ha), zd rfl, zd rfl, jh (a:=⟨q, i⟩) (n:=b) (by rw [zt (a:=⟨q, i⟩) hq]; exact hb), zd rfl, zd rfl,
  zz (a:=⟨p, i⟩) hp rfl hlt, e1]
theorem zmi (k:Nat) (hk:4 < k) (a0 a1 a2 a3 b0 b1 b2 b3:Int) :
  ∃ h', Ext h h' ∧ ∀ (α:Type) (ret:Int->Int->Int->Int->M α), qk.f (k + 1) a0 a1 a2 a3 b0 b1 b2 b3 ret h = ret (bits .andNot .u64 a0 b0) (bits .andNot .u64 a1 b1) (bits .andNot .u64 a2 b2) (bits .andNot .u64 a3 b3) h':=by
 obtain ⟨k, rfl⟩:∃ m, k = m + 5:=⟨k - 5, by omega⟩
 let h3:=((h.push (c4 a0 a1 a2 a3)).push (c4 b0 b1 b2 b3)).push (c4 0 0 0 0)
 have g0:h3.get h.next = some (c4 a0 a1 a2 a3):=by simp only [h3, zw, zm]; (repeat rw [if_neg (by omega)]); simp
 have g1:h3.get (h.next + 1) = some (c4 b0 b1 b2 b3):=by simp only [h3, zw, zm]; (repeat rw [if_neg (by omega)]); simp
 have g2:h3.get (h.next + 2) = some (c4 0 0 0 0):=by simp only [h3, zw, zm]; simp
 have x3:Ext h h3:=(((Ext.refl h).push _).push _).push _
 refine ⟨(h3.put h.next (some (c4 (bits .andNot .u64 a0 b0) (bits .andNot .u64 a1 b1) (bits .andNot .u64 a2 b2) (bits .andNot .u64 a3 b3)))).put (h.next + 2) (some (c4 (bits .andNot .u64 a0 b0) (bits .andNot .u64 a1 b1) (bits .andNot .u64 a2 b2) (bits .andNot .u64 a3 b3))), (x3.put _ (Nat.le_refl _)).put _ (by omega), fun α ret=>?_⟩
 rw [qk.f]
 unfold qk.u9.f qk.u1.f
 rw [new4, new4, new4]
 show qk.u4.l (k + 5) _ (k + 5) ⟨h.next, 0⟩ ⟨h.next + 1, 0⟩ ⟨h.next + 2, 0⟩ ((0:Nat):Int) h3 = _
 have q:∀ v, (h3.put h.next v).get (h.next + 1) = some (c4 b0 b1 b2 b3):=fun v=>by rw [zo _ _ (by omega)]; exact g1
 rw [zbu g0 g1 rfl rfl (by decide), zbu (zh _ _ _) (q _) rfl rfl (by decide), jg, zbu (zh _ _ _) (q _) rfl rfl (by decide), jg, zbu (zh _ _ _) (q _) rfl rfl (by decide), jg]
 rw [qk.u4.l, qk.u3.f, dF (by decide:¬ ((0 + 1 + 1 + 1 + 1:Nat):Int) < 4), cond_false]
 unfold qk.u7.f
 refine (cp4 (zh _ _ _) ⟨0, 0, 0, 0, by rw [zo _ _ (by omega)]; exact g2⟩ _).trans ?_
 exact ld4 (zh _ _ _) _
end Go.Ab.S9
namespace Go.Ab.S9
variable {α:Type} {h:H}
theorem zaf {a b:Nat} (h:∀ j, a.testBit j = b.testBit j):a = b:=Nat.eq_of_testBit_eq h
theorem zcn {a n j:Nat} (h:a < 2 ^ n) (hj:n≤j):a.testBit j = false:=Nat.testBit_lt_two_pow (Nat.lt_of_lt_of_le h (Nat.pow_le_pow_right (by decide) hj))
theorem zgj {a n:Nat} (h:∀ j, n≤j->a.testBit j = false):a < 2 ^ n:=Nat.lt_pow_two_of_testBit a h
theorem zby (n:Nat) (hn:n < 18446744073709551616):IntKind.wrap .u64 (n:Int) = (n:Int):=by
 unfold IntKind.wrap
 simp only [IntKind.bits, IntKind.signed, Bool.false_and, Bool.false_eq_true, if_false]
 rw [Int.emod_eq_of_lt (by omega) (by omega)]
theorem zag (n:Nat):BitVec.ofInt 64 (n:Int) = BitVec.ofNat 64 n:=BitVec.ofInt_natCast 64 n
theorem zhl {a b:Nat} (ha:a < 18446744073709551616) (hb:b < 18446744073709551616):bits .and .u64 (a:Int) (b:Int) = ((a &&& b:Nat):Int):=by
 have e:(BitVec.ofInt 64 (a:Int) &&& BitVec.ofInt 64 (b:Int)).toNat = a &&& b:=by
  rw [zag, zag, BitVec.toNat_and, BitVec.toNat_ofNat, BitVec.toNat_ofNat, Nat.mod_eq_of_lt ha, Nat.mod_eq_of_lt hb]
 show IntKind.wrap .u64 (((BitVec.ofInt 64 (a:Int) &&& BitVec.ofInt 64 (b:Int)).toNat:Nat):Int) = _
 rw [e]
 exact zby _ (Nat.lt_of_le_of_lt Nat.and_le_left ha)
theorem bits_or {a b:Nat} (ha:a < 18446744073709551616) (hb:b < 18446744073709551616):bits .or .u64 (a:Int) (b:Int) = ((a ||| b:Nat):Int):=by
 have e:(BitVec.ofInt 64 (a:Int) ||| BitVec.ofInt 64 (b:Int)).toNat = a ||| b:=by
  rw [zag, zag, BitVec.toNat_or, BitVec.toNat_ofNat, BitVec.toNat_ofNat, Nat.mod_eq_of_lt ha, Nat.mod_eq_of_lt hb]
 show IntKind.wrap .u64 (((BitVec.ofInt 64 (a:Int) ||| BitVec.ofInt 64 (b:Int)).toNat:Nat):Int) = _
 rw [e]
 exact zby _ (Nat.or_lt_two_pow (n:=64) ha hb)
def dif (a b:Nat):Nat:=a ^^^ (a &&& b)
theorem zau (a b j:Nat):(dif a b).testBit j = (a.testBit j && !b.testBit j):=by
 unfold dif
 rw [Nat.testBit_xor, Nat.testBit_and]
 cases a.testBit j <;> cases b.testBit j <;> rfl
theorem zkr {a b:Nat} (ha:a < 18446744073709551616) (hb:b < 18446744073709551616):bits .andNot .u64 (a:Int) (b:Int) = ((dif a b:Nat):Int):=by
 have e:(BitVec.ofInt 64 (a:Int) &&& ~~~BitVec.ofInt 64 (b:Int)).toNat = dif a b:=by
  apply zaf
  intro j
  rw [zag, zag, BitVec.toNat_and, Nat.testBit_and, BitVec.toNat_ofNat, Nat.mod_eq_of_lt ha, zau]
  by_cases hj:j < 64
  ·have:(~~~BitVec.ofNat 64 b).toNat.testBit j = !b.testBit j:=by
    rw [BitVec.testBit_toNat, BitVec.getLsbD_not, BitVec.getLsbD_ofNat]
    simp [hj]
   rw [this]
  ·rw [zcn (n:=64) ha (by omega)]; rfl
 show IntKind.wrap .u64 (((BitVec.ofInt 64 (a:Int) &&& ~~~BitVec.ofInt 64 (b:Int)).toNat:Nat):Int) = _
 rw [e]
 refine zby _ (zgj (n:=64) fun j hj=>?_)
 rw [zau, zcn (n:=64) ha hj]; rfl
def wd (S i:Nat):Nat:=S / 2 ^ (64 * i) % 2 ^ 64
theorem zcp (S i:Nat):wd S i < 18446744073709551616:=Nat.mod_lt _ (by decide)
theorem zai (S i b:Nat):(wd S i).testBit b = (decide (b < 64) && S.testBit (64 * i + b)):=by
 unfold wd
 rw [Nat.testBit_mod_two_pow, Nat.testBit_div_two_pow, Nat.add_comm b]
theorem wd_and (S U i:Nat):wd S i &&& wd U i = wd (S &&& U) i:=zaf fun j=>by
 simp only [Nat.testBit_and, zai]
 cases decide (j < 64) <;> simp
theorem wd_or (S U i:Nat):wd S i ||| wd U i = wd (S ||| U) i:=zaf fun j=>by
 simp only [Nat.testBit_or, zai]
 cases decide (j < 64) <;> simp
theorem wd_dif (S U i:Nat):dif (wd S i) (wd U i) = wd (dif S U) i:=zaf fun j=>by
 simp only [zau, zai]
 cases decide (j < 64) <;> simp
theorem wd_zero (i:Nat):wd 0 i = 0:=by unfold wd; simp
abbrev FS:Nat:=2 ^ 256
theorem wd_all {S:Nat} (hS:S < FS) (h0:wd S 0 = 0) (h1:wd S 1 = 0) (h2:wd S 2 = 0) (h3:wd S 3 = 0):S = 0:=by
 apply zaf
 intro j
 rw [Nat.zero_testBit]
 by_cases hj:j < 256
 ·have key:∀ i, wd S i = 0->j / 64 = i->S.testBit j = false:=by
   intro i hi hji
   have:=zai S i (j % 64)
   rw [hi, Nat.zero_testBit, dT (Nat.mod_lt _ (by decide)), Bool.true_and, show 64 * i + j % 64 = j by omega] at this
   exact this.symm
  rcases (by omega:j / 64 = 0 ∨ j / 64 = 1 ∨ j / 64 = 2 ∨ j / 64 = 3) with e | e | e | e
  ·exact key 0 h0 e
  ·exact key 1 h1 e
  ·exact key 2 h2 e
  ·exact key 3 h3 e
 ·exact zcn (n:=256) hS (by omega)
abbrev wi (S i:Nat):Int:=((wd S i:Nat):Int)
theorem zju (k:Nat) (hk:4 < k) (S U:Nat):∃ h', Ext h h' ∧ ∀ (α:Type) (ret:Int->Int->Int->Int->M α),
  qj.f (k + 1) (wi S 0) (wi S 1) (wi S 2) (wi S 3) (wi U 0) (wi U 1) (wi U 2) (wi U 3) ret h = ret (wi (S &&& U) 0) (wi (S &&& U) 1) (wi (S &&& U) 2) (wi (S &&& U) 3) h':=by
 obtain ⟨h', x, e⟩:=And_run0 (h:=h) k hk (wi S 0) (wi S 1) (wi S 2) (wi S 3) (wi U 0) (wi U 1) (wi U 2) (wi U 3)
 refine ⟨h', x, fun α ret=>(e α ret).trans ?_⟩
 simp only [zhl (zcp _ _) (zcp _ _), wd_and]
theorem Or_run (k:Nat) (hk:4 < k) (S U:Nat):∃ h', Ext h h' ∧ ∀ (α:Type) (ret:Int->Int->Int->Int->M α),
  ql.f (k + 1) (wi S 0) (wi S 1) (wi S 2) (wi S 3) (wi U 0) (wi U 1) (wi U 2) (wi U 3) ret h = ret (wi (S ||| U) 0) (wi (S ||| U) 1) (wi (S ||| U) 2) (wi (S ||| U) 3) h':=by
 obtain ⟨h', x, e⟩:=Or_run0 (h:=h) k hk (wi S 0) (wi S 1) (wi S 2) (wi S 3) (wi U 0) (wi U 1) (wi U 2) (wi U 3)
 refine ⟨h', x, fun α ret=>(e α ret).trans ?_⟩
 simp only [bits_or (zcp _ _) (zcp _ _), wd_or]
theorem zey (k:Nat) (hk:4 < k) (S U:Nat):∃ h', Ext h h' ∧ ∀ (α:Type) (ret:Int->Int->Int->Int->M α),
  qk.f (k + 1) (wi S 0) (wi S 1) (wi S 2) (wi S 3) (wi U 0) (wi U 1) (wi U 2) (wi U 3) ret h = ret (wi (dif S U) 0) (wi (dif S U) 1) (wi (dif S U) 2) (wi (dif S U) 3) h':=by
 obtain ⟨h', x, e⟩:=zmi (h:=h) k hk (wi S 0) (wi S 1) (wi S 2) (wi S 3) (wi U 0) (wi U 1) (wi U 2) (wi U 3)
 refine ⟨h', x, fun α ret=>(e α ret).trans ?_⟩
 simp only [zkr (zcp _ _) (zcp _ _), wd_dif]
theorem zek {S:Nat} (hS:S < FS):(decide (wi S 0 = 0) && (decide (wi S 1 = 0) && (decide (wi S 2 = 0) && (decide (wi S 3 = 0) && true)))) = decide (S = 0):=by
 by_cases e:S = 0
 ·subst e; simp [wd_zero]
 ·rw [dF e]
  by_cases h0:wd S 0 = 0
  ·by_cases h1:wd S 1 = 0
   ·by_cases h2:wd S 2 = 0
    ·by_cases h3:wd S 3 = 0
     ·exact absurd (wd_all hS h0 h1 h2 h3) e
     ·rw [dF (show ¬ ((wd S 3:Nat):Int) = 0 by omega)]; simp
    ·rw [dF (show ¬ ((wd S 2:Nat):Int) = 0 by omega)]; simp
   ·rw [dF (show ¬ ((wd S 1:Nat):Int) = 0 by omega)]; simp
  ·rw [dF (show ¬ ((wd S 0:Nat):Int) = 0 by omega)]; rfl
theorem dif_lt {S:Nat} (hS:S < FS) (U:Nat):dif S U < FS:=zgj fun j hj=>by rw [zau, zcn hS hj]; rfl
theorem and_ltF {S:Nat} (hS:S < FS) (U:Nat):S &&& U < FS:=Nat.lt_of_le_of_lt Nat.and_le_left hS
theorem or_ltF {S U:Nat} (hS:S < FS) (hU:U < FS):S ||| U < FS:=Nat.or_lt_two_pow hS hU
theorem In_run (k:Nat) (hk:5 < k) {S U:Nat} (hS:S < FS):∃ h', Ext h h' ∧ ∀ (α:Type) (ret:Bool->M α),
  qaa.f (k + 1) (wi S 0) (wi S 1) (wi S 2) (wi S 3) (wi U 0) (wi U 1) (wi U 2) (wi U 3) ret h = ret (decide (dif S U = 0)) h':=by
 obtain ⟨k, rfl⟩:∃ m, k = m + 1:=⟨k - 1, by omega⟩
 obtain ⟨h', x, e⟩:=zey (h:=(h.push (c4 (wi S 0) (wi S 1) (wi S 2) (wi S 3))).push (c4 (wi U 0) (wi U 1) (wi U 2) (wi U 3))) k (by omega) S U
 refine ⟨h', (((Ext.refl h).push _).push _).trans x, fun α ret=>?_⟩
 rw [qaa.f]
 unfold qaa.u1.f
 rw [new4, new4]
 have g0:((h.push (c4 (wi S 0) (wi S 1) (wi S 2) (wi S 3))).push (c4 (wi U 0) (wi U 1) (wi U 2) (wi U 3))).get h.next = some (c4 (wi S 0) (wi S 1) (wi S 2) (wi S 3)):=by
  rw [yb _ _ (by rw [zm]; omega)]; exact zav _ _ _ _
 refine (ld4 g0 _).trans ?_
 refine (ld4 (zav _ _ _ _) _).trans ?_
 rw [e, zek (dif_lt hS U)]
end Go.Ab.S9
namespace Go.Ab.S9
variable {α:Type} {h:H}
theorem and63 (n:Nat) (hn:n < 9223372036854775808):bits .and .i64 (n:Int) 63 = ((n % 64:Nat):Int):=by
 have e:(BitVec.ofInt 64 (n:Int) &&& BitVec.ofInt 64 (63:Int)).toNat = n % 64:=by
  rw [zag, show (63:Int) = ((63:Nat):Int) from rfl, zag, BitVec.toNat_and, BitVec.toNat_ofNat, BitVec.toNat_ofNat, Nat.mod_eq_of_lt (by omega), show 63 % 2 ^ 64 = 2 ^ 6 - 1 from rfl, Nat.and_two_pow_sub_one_eq_mod]
 show IntKind.wrap .i64 (((BitVec.ofInt 64 (n:Int) &&& BitVec.ofInt 64 (63:Int)).toNat:Nat):Int) = _
 rw [e]
 exact yt (by omega) (by omega)
theorem shr6 (n:Nat):Int.fdiv (n:Int) (2 ^ (min (6:Int).toNat 64)) = ((n / 64:Nat):Int):=by
 rw [show (2:Int) ^ (min (6:Int).toNat 64) = ((64:Nat):Int) from rfl, Int.fdiv_eq_ediv_of_nonneg _ (by omega)]
 rfl
theorem shl1 (m:Nat) (hm:m < 64):IntKind.wrap .u64 (1 * 2 ^ (min (IntKind.wrap .u64 ((m:Nat):Int)).toNat 64)) = ((2 ^ m:Nat):Int):=by
 rw [zby m (by omega), Int.toNat_natCast, Nat.min_eq_left (by omega), Int.one_mul]
 have h2:(2:Int) ^ m = ((2 ^ m:Nat):Int):=by exact_mod_cast rfl
 rw [h2]
 exact zby _ (Nat.pow_lt_pow_right (by decide) hm)
theorem shrM (a m:Nat) (hm:m < 64):Int.fdiv (a:Int) (2 ^ (min (IntKind.wrap .u64 ((m:Nat):Int)).toNat 64)) = ((a / 2 ^ m:Nat):Int):=by
 rw [zby m (by omega), Int.toNat_natCast, Nat.min_eq_left (by omega)]
 have h2:(2:Int) ^ m = ((2 ^ m:Nat):Int):=by exact_mod_cast rfl
 rw [h2, Int.fdiv_eq_ediv_of_nonneg _ (Int.natCast_nonneg _)]
 rfl
theorem zgb (S n i:Nat):wd (S ||| 2 ^ n) i = if n / 64 = i then wd S i ||| 2 ^ (n % 64) else wd S i:=by
 apply zaf
 intro j
 have hp:∀ a b:Nat, (2 ^ a).testBit b = decide (a = b):=fun a b=>Nat.testBit_two_pow
 by_cases hj:j < 64
 ·rw [zai, dT hj, Bool.true_and, Nat.testBit_or, hp]
  by_cases e:n / 64 = i
  ·rw [if_pos e, Nat.testBit_or, zai, dT hj, Bool.true_and, hp]
   congr 1
   by_cases e2:n = 64 * i + j
   ·rw [dT e2, dT (by omega)]
   ·rw [dF e2, dF (by omega)]
  ·rw [if_neg e, zai, dT hj, Bool.true_and, dF (by omega), Bool.or_false]
 ·rw [zai, dF hj, Bool.false_and]
  split
  ·rw [Nat.testBit_or, zai, dF hj, Bool.false_and, hp, dF (by omega)]; rfl
  ·rw [zai, dF hj]; rfl
def wth (S:Nat) (n:Int):Nat:=if 0≤n ∧ n < 256 then S ||| 2 ^ n.toNat else S
theorem zkk {S:Nat} (hS:S < FS) (n:Int):wth S n < FS:=by
 unfold wth
 split
 ·rename_i hh; exact Nat.or_lt_two_pow hS (Nat.pow_lt_pow_right (by decide) (by omega))
 ·exact hS
theorem zhx (k:Nat) (S:Nat) (n:Int):∃ h', Ext h h' ∧ ∀ (α:Type) (ret:Int->Int->Int->Int->M α),
  qy.f (k + 1) (wi S 0) (wi S 1) (wi S 2) (wi S 3) n ret h = ret (wi (wth S n) 0) (wi (wth S n) 1) (wi (wth S n) 2) (wi (wth S n) 3) h':=by
 let h2:=(h.push (c4 (wi S 0) (wi S 1) (wi S 2) (wi S 3))).push (c4 0 0 0 0)
 have g0:h2.get h.next = some (c4 (wi S 0) (wi S 1) (wi S 2) (wi S 3)):=by simp only [h2, zw, zm]; (repeat rw [if_neg (by omega)]); simp
 have g1:h2.get (h.next + 1) = some (c4 0 0 0 0):=by simp only [h2, zw, zm]; simp
 have x2:Ext h h2:=((Ext.refl h).push _).push _
 by_cases hn:0≤n ∧ n < 256
 ·obtain ⟨m, rfl⟩:=Int.eq_ofNat_of_zero_le hn.1
  have hm:m < 256:=by omega
  have hu:wth S (m:Int) = S ||| 2 ^ m:=by unfold wth; rw [if_pos hn]; rfl
  refine ⟨(h2.put h.next (some (c4 (wi (S ||| 2 ^ m) 0) (wi (S ||| 2 ^ m) 1) (wi (S ||| 2 ^ m) 2) (wi (S ||| 2 ^ m) 3)))).put (h.next + 1) (some (c4 (wi (S ||| 2 ^ m) 0) (wi (S ||| 2 ^ m) 1) (wi (S ||| 2 ^ m) 2) (wi (S ||| 2 ^ m) 3))), (x2.put _ (Nat.le_refl _)).put _ (by omega), fun α ret=>?_⟩
  rw [hu, qy.f]
  unfold qy.u1.f
  rw [new4, new4, dT (by omega:(0:Int)≤(m:Int)), cond_true, dT (by omega:(m:Int) < 256), cond_true]
  rw [shr6, and63 m (by omega), shl1 (m % 64) (Nat.mod_lt _ (by decide)), zd (dT (by omega)), zd (dT (by omega))]
  simp only [zm, ya, Int.toNat_natCast, Nat.mul_one, Nat.add_zero, Nat.zero_add]
  show ldI .u64 ⟨h.next, m / 64⟩ _ h2 = _
  have hq:∃ o:Int, [V.int .u64 (wi S 0), .int .u64 (wi S 1), .int .u64 (wi S 2), .int .u64 (wi S 3)][m / 64]? = some (.int .u64 (wi S (m / 64))):=by
   rcases (by omega:m / 64 = 0 ∨ m / 64 = 1 ∨ m / 64 = 2 ∨ m / 64 = 3) with e | e | e | e <;> rw [e] <;> exact ⟨0, rfl⟩
  obtain ⟨_, hq⟩:=hq
  rw [jh (a:=⟨h.next, m / 64⟩) (n:=wi S (m / 64)) (by rw [zt (a:=⟨h.next, m / 64⟩) g0]; exact hq)]
  rw [zby (m % 64) (by omega), zd (dT (by omega)), zd (dT (by omega)), zd (dT (by omega)), bits_or (zcp _ _) (Nat.pow_lt_pow_right (by decide) (Nat.mod_lt _ (by decide)):2 ^ (m % 64) < 2 ^ 64)]
  rw [zz (a:=⟨h.next, m / 64⟩) g0 rfl (by simp; omega)]
  have hset:[V.int .u64 (wi S 0), .int .u64 (wi S 1), .int .u64 (wi S 2), .int .u64 (wi S 3)].set (m / 64) (.int .u64 ((wd S (m / 64) ||| 2 ^ (m % 64):Nat):Int)) =
    [V.int .u64 (wi (S ||| 2 ^ m) 0), .int .u64 (wi (S ||| 2 ^ m) 1), .int .u64 (wi (S ||| 2 ^ m) 2), .int .u64 (wi (S ||| 2 ^ m) 3)]:=by
   unfold wi
   rw [zgb S m 0, zgb S m 1, zgb S m 2, zgb S m 3]
   rcases (by omega:m / 64 = 0 ∨ m / 64 = 1 ∨ m / 64 = 2 ∨ m / 64 = 3) with e | e | e | e <;> rw [e] <;> rfl
  rw [hset]
  have:=cp4 (h:=h2.put h.next (some (c4 (wi (S ||| 2 ^ m) 0) (wi (S ||| 2 ^ m) 1) (wi (S ||| 2 ^ m) 2) (wi (S ||| 2 ^ m) 3)))) (p:=h.next) (q:=h.next + 1) (zh _ _ _) ⟨0, 0, 0, 0, by rw [zo _ _ (by omega)]; exact g1⟩
   (ldI .u64 ((⟨h.next + 1, 0⟩:Ad).add 0) fun o501=>ldI .u64 ((⟨h.next + 1, 0⟩:Ad).add 1) fun o502=>ldI .u64 ((⟨h.next + 1, 0⟩:Ad).add 2) fun o503=>ldI .u64 ((⟨h.next + 1, 0⟩:Ad).add 3) fun o504=>ret o501 o502 o503 o504)
  simp only [ya, Nat.zero_add] at this
  refine this.trans ?_
  have:=ld4 (h:=(h2.put h.next (some (c4 (wi (S ||| 2 ^ m) 0) (wi (S ||| 2 ^ m) 1) (wi (S ||| 2 ^ m) 2) (wi (S ||| 2 ^ m) 3)))).put (h.next + 1) (some (c4 (wi (S ||| 2 ^ m) 0) (wi (S ||| 2 ^ m) 1) (wi (S ||| 2 ^ m) 2) (wi (S ||| 2 ^ m) 3)))) (zh _ _ _) ret
  simp only [ya, Nat.zero_add] at this
  exact this
 ·have hu:wth S n = S:=by unfold wth; rw [if_neg hn]
  refine ⟨h2.put (h.next + 1) (some (c4 (wi S 0) (wi S 1) (wi S 2) (wi S 3))), x2.put _ (by omega), fun α ret=>?_⟩
  have fin:=(cp4 (h:=h2) g0 ⟨0, 0, 0, 0, g1⟩ (ldI .u64 ((⟨h.next + 1, 0⟩:Ad).add 0) fun o501=>ldI .u64 ((⟨h.next + 1, 0⟩:Ad).add 1) fun o502=>ldI .u64 ((⟨h.next + 1, 0⟩:Ad).add 2) fun o503=>ldI .u64 ((⟨h.next + 1, 0⟩:Ad).add 3) fun o504=>ret o501 o502 o503 o504)).trans (ld4 (zh _ _ _) ret)
  simp only [ya, Nat.zero_add] at fin
  rw [hu, qy.f]
  unfold qy.u1.f
  rw [new4, new4]
  by_cases h0:0≤n
  ·rw [dT h0, cond_true, dF (show ¬ n < 256 from fun e=>hn ⟨h0, e⟩), cond_false]
   simp only [zm, ya, Nat.zero_add]
   exact fin
  ·rw [dF h0, cond_false]
   simp only [zm, ya, Nat.zero_add]
   exact fin
theorem and1 (a:Nat) (ha:a < 18446744073709551616):decide (bits .and .u64 (a:Int) 1 = 1) = a.testBit 0:=by
 rw [show (1:Int) = ((1:Nat):Int) from rfl, zhl ha (by decide), Nat.and_one_is_mod, Nat.testBit_zero]
 by_cases e:a % 2 = 1
 ·rw [dT e, dT (by rw [e])]
 ·rw [dF e, dF (by omega)]
def hasN (S:Nat) (n:Int):Bool:=decide (0≤n) && S.testBit n.toNat
theorem zcj (k:Nat) {S:Nat} (hS:S < FS) (n:Int):∃ h', Ext h h' ∧ ∀ (α:Type) (ret:Bool->M α),
  qw.f (k + 1) (wi S 0) (wi S 1) (wi S 2) (wi S 3) n ret h = ret (hasN S n) h':=by
 refine ⟨h.push (c4 (wi S 0) (wi S 1) (wi S 2) (wi S 3)), (Ext.refl h).push _, fun α ret=>?_⟩
 rw [qw.f]
 unfold qw.u1.f
 rw [new4]
 by_cases h0:0≤n
 ·obtain ⟨m, rfl⟩:=Int.eq_ofNat_of_zero_le h0
  rw [dT h0, cond_true]
  have hh:hasN S (m:Int) = S.testBit m:=by unfold hasN; rw [dT h0]; rfl
  rw [hh]
  by_cases hm:m < 256
  ·rw [dT (by omega), cond_true, shr6, and63 m (by omega), zd (dT (by omega)), zd (dT (by omega))]
   simp only [ya, Int.toNat_natCast, Nat.mul_one, Nat.add_zero, Nat.zero_add]
   have hq:∃ o:Int, [V.int .u64 (wi S 0), .int .u64 (wi S 1), .int .u64 (wi S 2), .int .u64 (wi S 3)][m / 64]? = some (.int .u64 (wi S (m / 64))):=by
    rcases (by omega:m / 64 = 0 ∨ m / 64 = 1 ∨ m / 64 = 2 ∨ m / 64 = 3) with e | e | e | e <;> rw [e] <;> exact ⟨0, rfl⟩
   obtain ⟨_, hq⟩:=hq
   rw [jh (a:=⟨h.next, m / 64⟩) (n:=wi S (m / 64)) (by rw [zt (a:=⟨h.next, m / 64⟩) (zav _ _ _ _)]; exact hq)]
   rw [shrM _ (m % 64) (Nat.mod_lt _ (by decide)), zby (m % 64) (by omega), zd (dT (by omega)), and1 _ (Nat.lt_of_le_of_lt (Nat.div_le_self _ _) (zcp _ _)), Nat.testBit_div_two_pow, Nat.zero_add, zai, dT (Nat.mod_lt _ (by decide)), Bool.true_and,
    show 64 * (m / 64) + m % 64 = m by omega]
  ·rw [dF (by omega), cond_false, zcn hS (by omega)]
 ·rw [dF h0, cond_false]
  unfold hasN
  rw [dF h0]; rfl
end Go.Ab.S9
namespace Go.Ab.S9
variable {α:Type} {h:H}
def Gr (h:H) (b:Nat) (s:Sl) (l:List Int):Prop:=
 (l = [] ∧ s.len = 0 ∧ s.cap = 0 ∧ s.loose = none ∧ ∀ a, s.ad = some a->(h.row a 0 = some [] ∧ a.id < h.next) ∧ b≤a.id) ∨
 ∃ (id:Nat) (pre rest:List V), s.ad = some ⟨id, pre.length⟩ ∧ b≤id ∧ id < h.next ∧ h.get id = some (.cells (pre ++ (l.flatMap cI ++ rest)) true) ∧ s.len = l.length ∧
  ((s.loose = none ∧ s.cap = l.length + rest.length) ∨ (s.loose = some 1 ∧ rest = [] ∧ s.len≤s.cap))
theorem zba (l:List Int):(l.flatMap cI).length = l.length:=by rw [zbi (c:=cI) (size:=1) (fun _=>rfl), Nat.mul_one]
theorem Gr.len {b:Nat} {s:Sl} {l:List Int} (g:Gr h b s l):s.len = l.length:=by
 rcases g with ⟨rfl, h1, _⟩ | ⟨_, _, _, _, _, _, _, h1, _⟩
 ·exact h1
 ·exact h1
theorem Gr.rd {b:Nat} {s:Sl} {l:List Int} (g:Gr h b s l):Rd h s 1 (l.flatMap cI):=by
 refine ⟨by rw [zba, g.len, Nat.mul_one], fun a ha=>?_, fun ha=>?_⟩
 ·rcases g with ⟨rfl, h1, h2, h3, h4⟩ | ⟨id, pre, rest, h1, h2, h3, h4, h5, h6⟩
  ·exact (h4 a ha).1
  ·rw [h1] at ha
   cases ha
   refine ⟨?_, h3⟩
   rw [zao h4 (by simp only [List.length_append]; omega)]
   simp
 ·rcases g with ⟨rfl, h1, h2, h3, h4⟩ | ⟨id, pre, rest, h1, h2, h3, h4, h5, h6⟩
  ·exact h1
  ·rw [h1] at ha; cases ha
theorem Gr.keep {h':H} {b:Nat} {s:Sl} {l:List Int} (g:Gr h b s l) (hn:h.next≤h'.next) (hg:∀ a, s.ad = some a->h'.get a.id = h.get a.id):Gr h' b s l:=by
 rcases g with ⟨rfl, h1, h2, h3, h4⟩ | ⟨id, pre, rest, h1, h2, h3, h4, h5, h6⟩
 ·refine .inl ⟨rfl, h1, h2, h3, fun a ha=>⟨⟨?_, Nat.lt_of_lt_of_le (h4 a ha).1.2 hn⟩, (h4 a ha).2⟩⟩
  have:=(h4 a ha).1.1
  unfold H.row at this ⊢
  rw [hg a ha]; exact this
 ·exact .inr ⟨id, pre, rest, h1, h2, Nat.lt_of_lt_of_le h3 hn, by rw [hg _ h1]; exact h4, h5, h6⟩
theorem Gr.ext {h':H} {b:Nat} {s:Sl} {l:List Int} (g:Gr h b s l) (x:Ext h h'):Gr h' b s l:=
 g.keep x.1 fun a ha=>x.2 _ ((g.rd).row a ha).2
theorem Gr.nil (h:H) (b:Nat):Gr h b Sl.nil []:=.inl ⟨rfl, rfl, rfl, rfl, fun a ha=>(by cases ha)⟩
theorem Gr.old {b:Nat} {s:Sl} {l:List Int} (g:Gr h b s l):∀ a, s.ad = some a->b≤a.id:=by
 intro a ha
 rcases g with ⟨h0, h1, h2, h3, h4⟩ | ⟨id, pre, rest, h1, h2, h3, h4, h5, h6⟩
 ·exact (h4 a ha).2
 ·rw [h1] at ha; cases ha; exact h2
theorem over_mid (pre l m rest:List V):over (pre ++ (l ++ rest)) (pre.length + l.length) m = pre ++ (l ++ (m ++ rest.drop m.length)):=by
 unfold over
 rw [← List.append_assoc pre l, List.take_left' (by simp), List.drop_append, List.length_append, List.drop_of_length_le (by simp)]
 simp only [List.nil_append, List.append_assoc]
 congr 3
 rw [show pre.length + l.length + m.length - (pre.length + l.length) = m.length by omega]
theorem Gr.app1 {b:Nat} {s:Sl} {l:List Int} (g:Gr h b s l) (v:Int) (hb:b≤h.next) (hl:l.length≤1000000) :
  ∃ s' h', (∀ (α:Type) (K:Sl->M α), (new [.int .i64 v] fun a=>yr s 1 8 ⟨some a, 1, 1, none⟩ K) h = K s' h') ∧ Gr h' b s' (l ++ [v]) ∧ h.next≤h'.next ∧ (∀ i, i < h.next->(∀ a, s.ad = some a->b≤a.id->i ≠ a.id)->h'.get i = h.get i) ∧ ∀ a, s'.ad = some a->(∃ a', s.ad = some a' ∧ a'.id = a.id) ∨ h.next≤a.id:=by
 let h1:=h.push (.cells [.int .i64 v] true)
 have g1:Gr h1 b s l:=g.ext ((Ext.refl h).push _)
 have n1:h1.next = h.next + 1:=rfl
 have hrow:∀ (α:Type) (K:List V->M α), rdSl ⟨some ⟨h.next, 0⟩, 1, 1, none⟩ 1 K h1 = K [.int .i64 v] h1:=fun α K=>by
  unfold rdSl
  dsimp only
  rw [zaz (cs:=[.int .i64 v])]
  rw [zao (je h _) (by simp)]
  rfl
 have start:∀ (α:Type) (K:Sl->M α), (new [.int .i64 v] fun a=>yr s 1 8 ⟨some a, 1, 1, none⟩ K) h = zbo s 1 8 1 [.int .i64 v] K h1:=fun α K=>by
  rw [jl rfl]
  unfold yr
  exact hrow α _
 have hlen:=g1.len
 have hbb:(Nat.blt 0 8 && Nat.ble ((s.len + 1 + (s.len + 1) / 4 + 512) * 8) 281474976710656) = true:=by
  rw [Bool.and_eq_true]; exact ⟨rfl, Nat.ble_eq_true_of_le (by omega)⟩
 have grow:s.loose = none->s.cap = s.len->∃ s' h', (∀ (α:Type) (K:Sl->M α), (new [.int .i64 v] fun a=>yr s 1 8 ⟨some a, 1, 1, none⟩ K) h = K s' h') ∧ Gr h' b s' (l ++ [v]) ∧ h.next≤h'.next ∧ (∀ i, i < h.next->(∀ a, s.ad = some a->b≤a.id->i ≠ a.id)->h'.get i = h.get i) ∧ ∀ a, s'.ad = some a->(∃ a', s.ad = some a' ∧ a'.id = a.id) ∨ h.next≤a.id:=by
  intro e1 e2
  refine ⟨⟨some ⟨h1.next, 0⟩, s.len + 1, s.len + 1, some 1⟩, h1.push (.cells (l.flatMap cI ++ [.int .i64 v]) true), fun α K=>?_, .inr ⟨h1.next, [], [], rfl, by omega, Nat.lt_succ_self _, by rw [je, List.flatMap_append]; simp [cI], by simp [hlen], .inr ⟨rfl, rfl, Nat.le_refl _⟩⟩, by rw [zm, n1]; omega, fun i hi _=>?_, fun a ha=>by cases ha; right; show h.next≤h1.next; omega⟩
  ·rw [start]
   unfold zbo
   rw [zd (show Nat.beq [V.int IntKind.i64 v].length (1 * 1) = true from rfl), e1]
   dsimp only
   rw [show Nat.ble (s.len + 1) s.cap = false by cases hq:Nat.ble (s.len + 1) s.cap with | false=>rfl | true=>have:=Nat.le_of_ble_eq_true hq; omega]
   simp only [cond_false]
   rw [zd hbb, g1.rd.rd]
  ·rw [yb _ _ (by rw [n1]; omega)]; exact yb _ _ (by omega)
 rcases g1 with ⟨rfl, e1, e2, e3, e4⟩ | ⟨id, pre, rest, e1, e2, e3, e4, e5, ⟨e6, e7⟩ | ⟨e6, e7, e8⟩⟩
 ·exact grow e3 (by omega)
 ·-- there is room, or not
  have hid:id < h.next:=by
   rcases Nat.lt_or_ge id h.next with hq | hq
   ·exact hq
   ·exfalso
    have:id = h.next:=by omega
    subst this
    rcases g with ⟨f0, f1, f2, f3, f4⟩ | ⟨id', _, _, f1, _, f3, _⟩
    ·have:=(f4 _ e1).1.2; exact absurd this (Nat.lt_irrefl _)
    ·have h9:=congrArg Ad.id (Option.some.inj (f1.symm.trans e1))
     dsimp only at h9
     omega
  by_cases hc:s.len + 1≤s.cap
  ·have hr:0 < rest.length:=by omega
   obtain ⟨r, rest, rfl⟩:∃ r rs, rest = r :: rs:=by cases rest with | nil=>simp at hr | cons r rs=>exact ⟨r, rs, rfl⟩
   have hov:over (pre ++ (l.flatMap cI ++ r :: rest)) (pre.length + (l.flatMap cI).length) [.int .i64 v] = pre ++ ((l ++ [v]).flatMap cI ++ rest):=by
    rw [over_mid, List.flatMap_append]; simp [cI]
   refine ⟨⟨s.ad, s.len + 1, s.cap, none⟩, h1.put id (some (.cells (pre ++ ((l ++ [v]).flatMap cI ++ rest)) true)), fun α K=>?_,
    .inr ⟨id, pre, rest, e1, e2, e3, zh _ _ _, by simp [hlen], .inl ⟨rfl, by simp; simp at e7; omega⟩⟩, by rw [zcr, n1]; omega, fun i hi hne=>?_, fun a ha=>.inl ⟨a, ha, rfl⟩⟩
   ·rw [start]
    unfold zbo
    rw [zd (show Nat.beq [V.int IntKind.i64 v].length (1 * 1) = true from rfl), e6]
    dsimp only
    rw [Nat.ble_eq_true_of_le hc, cond_true, e1]
    dsimp only
    unfold zdc H.setRow
    have hq:(Ad.add ⟨id, pre.length⟩ (s.len * 1)).id = id:=rfl
    rw [hq, e4]
    dsimp only
    have hoff:(Ad.add ⟨id, pre.length⟩ (s.len * 1)).off = pre.length + (l.flatMap cI).length:=by rw [zba, ← hlen, Nat.mul_one]; rfl
    rw [hoff, Nat.ble_eq_true_of_le (show pre.length + (l.flatMap cI).length + [V.int IntKind.i64 v].length≤(pre ++ (l.flatMap cI ++ r :: rest)).length by simp only [List.length_append, List.length_cons, List.length_nil]; omega), cond_true, hov]
   ·rw [zo _ _ (hne _ e1 e2)]; exact yb _ _ (by omega)
  ·exact grow e6 (by omega)
 ·subst e7
  have hid:id < h.next:=by
   rcases Nat.lt_or_ge id h.next with hq | hq
   ·exact hq
   ·exfalso
    have:id = h.next:=by omega
    subst this
    rcases g with ⟨f0, f1, f2, f3, f4⟩ | ⟨id', _, _, f1, _, f3, _⟩
    ·have:=(f4 _ e1).1.2; exact absurd this (Nat.lt_irrefl _)
    ·have h9:=congrArg Ad.id (Option.some.inj (f1.symm.trans e1))
     dsimp only at h9
     omega
  refine ⟨⟨some ⟨h1.next, 0⟩, s.len + 1, s.len + 1, some 1⟩, (h1.put id none).push (.cells (l.flatMap cI ++ [.int .i64 v]) true), fun α K=>?_, .inr ⟨h1.next, [], [], rfl, by omega, by rw [zm]; exact Nat.lt_succ_self _, by
    have:=je (h1.put id none) (.cells (l.flatMap cI ++ [.int .i64 v]) true)
    rw [show (h1.put id none).next = h1.next from rfl] at this
    rw [this, List.flatMap_append]; simp [cI], by simp [hlen], .inr ⟨rfl, rfl, Nat.le_refl _⟩⟩, by rw [zm, zcr, n1]; omega, fun i hi hne=>?_, fun a ha=>by cases ha; right; show h.next≤h1.next; omega⟩
  ·rw [start]
   unfold zbo
   rw [zd (show Nat.beq [V.int IntKind.i64 v].length (1 * 1) = true from rfl), e6]
   dsimp only
   rw [show Nat.beq 1 0 = false from rfl, cond_false, zd (show Nat.beq 1 1 = true from rfl), zd hbb, e1]
   dsimp only
   have hr:h1.row ⟨id, pre.length⟩ (s.len * 1) = some (l.flatMap cI):=by
    rw [zao e4 (by simp only [List.length_append, zba, List.length_nil, hlen]; omega), Nat.mul_one, hlen, ← zba l, List.drop_left, List.append_nil, List.take_length]
   rw [zaz hr]
   have ho:h1.own id = true:=by unfold H.own; rw [e4]
   simp only [ho, cond_true]
  ·have hi1:i ≠ (h1.put id none).next:=by rw [zcr, n1]; omega
   rw [yb _ _ hi1, zo _ _ (hne _ e1 e2)]; exact yb _ _ (by omega)
theorem Gr.tail {b:Nat} {s:Sl} {l:List Int} {v:Int} (g:Gr h b s (v :: l)) :
  ∃ s', (∀ (α:Type) (K:Sl->M α), cutSl s 1 (some 1) none none K h = K s' h) ∧ Gr h b s' l ∧ (∀ a, s'.ad = some a->∃ a', s.ad = some a' ∧ a.id = a'.id):=by
 rcases g with ⟨e, _⟩ | ⟨id, pre, rest, e1, e2, e3, e4, e5, e6⟩
 ·cases e
 have hl:1≤s.len:=by rw [e5]; simp
 have fine:s.fine 1:=by
  rcases e6 with ⟨e6, e7⟩ | ⟨e6, e7, e8⟩
  ·exact ⟨by rw [e5, e7]; omega, .inl e6⟩
  ·exact ⟨e8, .inr e6⟩
 refine ⟨_, fun α K=>zmf fine (n:=1) rfl hl K, ?_, fun a ha=>?_⟩
 ·rcases e6 with ⟨e6, e7⟩ | ⟨e6, e7, e8⟩
  ·by_cases hc:s.cap = 1
   ·-- nothing is left of it
    have hl0:l = [] ∧ rest = []:=by
     rw [hc] at e7
     simp at e7
     exact ⟨List.eq_nil_of_length_eq_zero (by omega), List.eq_nil_of_length_eq_zero (by omega)⟩
    obtain ⟨rfl, rfl⟩:=hl0
    refine .inl ⟨rfl, by show s.len - 1 = 0; rw [e5]; rfl, by show s.cap - 1 = 0; omega, e6, fun a ha=>?_⟩
    have ha:s.from 1 s.cap 1 = some a:=ha
    unfold Sl.from at ha
    rw [e6, hc] at ha
    dsimp only at ha
    rw [show Nat.beq 1 1 = true from rfl, cond_true, e1] at ha
    cases ha
    exact ⟨⟨(zao e4 (by simp)).trans (by simp), e3⟩, e2⟩
   ·refine .inr ⟨id, pre ++ [.int .i64 v], rest, ?_, e2, e3, by rw [e4]; simp [cI], by show s.len - 1 = _; rw [e5]; rfl, .inl ⟨e6, by show s.cap - 1 = _; rw [e7]; simp only [List.length_cons]; omega⟩⟩
    show s.from 1 s.cap 1 = _
    unfold Sl.from
    rw [e6]
    dsimp only
    rw [zab hc, cond_false, e1]
    simp [Ad.add]
  ·subst e7
   refine .inr ⟨id, pre ++ [.int .i64 v], [], ?_, e2, e3, by rw [e4]; simp [cI], by show s.len - 1 = _; rw [e5]; rfl, .inr ⟨e6, rfl, by show s.len - 1≤s.cap - 1; omega⟩⟩
   show s.from 1 s.cap 1 = _
   unfold Sl.from
   rw [e6]
   dsimp only
   rw [e1]
   simp [Ad.add]
 ·have ha:s.from 1 s.cap 1 = some a:=ha
  unfold Sl.from at ha
  rw [e1] at ha ⊢
  refine ⟨_, rfl, ?_⟩
  cases hL:s.loose with
  | none=>
   rw [hL] at ha
   dsimp only at ha
   cases hb:Nat.beq s.cap 1 with
   | true=>rw [hb, cond_true] at ha; cases ha; rfl
   | false=>rw [hb, cond_false] at ha; cases ha; rfl
  | some e=>
   rw [hL] at ha
   dsimp only at ha
   cases ha; rfl
end Go.Ab.S9
namespace Go.Ab.S9
variable {α:Type} {h:H}
theorem zls {x:Nat} (h0:x ≠ 0) (hx:x < 18446744073709551616):∃ m, x = 2 ^ (Lib.ctz 64 x + 1) * m + 2 ^ Lib.ctz 64 x ∧ Lib.ctz 64 x < 64:=by
 obtain ⟨m, h1, h2⟩:=Lib.ctzFrom_spec 64 x (by omega) hx
 have e:Lib.ctz 64 x = Lib.ctzFrom 64 x:=by simp [Lib.ctz, h0]
 rw [e]
 refine ⟨m, ?_, h2⟩
 rw [Nat.pow_succ]
 conv=>lhs; rw [h1]
 rw [Nat.mul_add, Nat.mul_one, Nat.mul_assoc]
theorem zla {x:Nat} (h0:x ≠ 0) (hx:x < 18446744073709551616):x.testBit (Lib.ctz 64 x) = true ∧ (∀ b, x.testBit b = true->Lib.ctz 64 x≤b) ∧ ∀ b, (x &&& (x - 1)).testBit b = true ↔ x.testBit b = true ∧ b ≠ Lib.ctz 64 x:=by
 obtain ⟨m, e, h2⟩:=zls h0 hx
 generalize Lib.ctz 64 x = c at e h2 ⊢
 have p1:2 ^ c < 2 ^ (c + 1):=Nat.pow_lt_pow_right (by decide) (by omega)
 have p0:0 < 2 ^ c:=Nat.pow_pos (by decide)
 have b1:∀ b, x.testBit b = if b < c + 1 then decide (c = b) else m.testBit (b - (c + 1)):=fun b=>by
  rw [e, Nat.testBit_two_pow_mul_add m p1, Nat.testBit_two_pow]
 have b2:∀ b, (x - 1).testBit b = if b < c + 1 then decide (b < c) else m.testBit (b - (c + 1)):=fun b=>by
  rw [show x - 1 = 2 ^ (c + 1) * m + (2 ^ c - 1) by omega, Nat.testBit_two_pow_mul_add m (by omega), Nat.testBit_two_pow_sub_one]
 refine ⟨by rw [b1, if_pos (by omega)]; simp, fun b hb=>?_, fun b=>?_⟩
 ·rw [b1] at hb
  by_cases hbc:b < c + 1
  ·rw [if_pos hbc, decide_eq_true_eq] at hb; omega
  ·omega
 ·rw [Nat.testBit_and, b1, b2, Bool.and_eq_true]
  by_cases hbc:b < c + 1
  ·rw [if_pos hbc, if_pos hbc, decide_eq_true_eq, decide_eq_true_eq]; omega
  ·rw [if_neg hbc, if_neg hbc]
   constructor
   ·rintro ⟨h, _⟩; exact ⟨h, by omega⟩
   ·rintro ⟨h, _⟩; exact ⟨h, h⟩
theorem ctz_lt {x:Nat} (h0:x ≠ 0) (hx:x < 18446744073709551616):Lib.ctz 64 x < 64:=by obtain ⟨m, _, h⟩:=zls h0 hx; exact h
theorem tz_run (k:Nat) {x:Nat} (hx:x < 18446744073709551616) (ret:Int->M α):qaf.f (k + 1) (x:Int) ret h = ret ((Lib.ctz 64 x:Nat):Int) h:=by
 rw [qaf.f, zd (by rw [Bool.and_eq_true, decide_eq_true_eq, decide_eq_true_eq]; omega), Int.toNat_natCast]
theorem less_one {x:Nat} (h0:x ≠ 0) (hx:x < 18446744073709551616):bits .and .u64 (x:Int) (IntKind.wrap .u64 ((x:Int) - 1)) = ((x &&& (x - 1):Nat):Int):=by
 have:IntKind.wrap .u64 ((x:Int) - 1) = ((x - 1:Nat):Int):=by rw [show (x:Int) - 1 = ((x - 1:Nat):Int) by omega]; exact zby _ (by omega)
 rw [this]; exact zhl hx (by omega)
theorem zej {S i:Nat} {q:Bool} (hq:q = true) (hi:i < 4) (K:Int->M α) :
  (need (decide (0≤(i:Int))) <| need q <| atL [.int .u64 (wi S 0), .int .u64 (wi S 1), .int .u64 (wi S 2), .int .u64 (wi S 3)] ((i:Int).toNat * 1) fun w=>asI .u64 w K) h = K (wi S i) h:=by
 rw [zd (dT (by omega)), zd hq, Int.toNat_natCast, Nat.mul_one]
 rcases (by omega:i = 0 ∨ i = 1 ∨ i = 2 ∨ i = 3) with e | e | e | e <;> subst e <;> rfl
theorem nxt {i:Nat} (hi:i < 1000000):w64 ((i:Int) + 1) = ((i + 1:Nat):Int):=by rw [yt (by omega) (by omega)]; rfl
theorem mul64 {i c:Nat} (hi:i < 4) (hc:c < 64):w64 (w64 (64 * (i:Int)) + (c:Int)) = ((64 * i + c:Nat):Int):=by
 rw [yt (n:=64 * (i:Int)) (by omega) (by omega), yt (by omega) (by omega)]; push_cast; rfl
def Low (S:Nat) (r:Int):Prop:=(S = 0 ∧ r = -1) ∨ ∃ b:Nat, r = (b:Int) ∧ S.testBit b = true ∧ ∀ j, S.testBit j = true->b≤j
theorem zmj (k:Nat) {S:Nat} (hS:S < FS):∀ (n i:Nat), i + n = 4->(∀ b, b < 64 * i->S.testBit b = false) ->
  ∃ r, Low S r ∧ ∀ (α:Type) (j:Nat) (h:H) (kr:Int->M α) (kx:M α), n < j->kx h = kr (-1) h ->
   qp.u4.l (k + 1) kr kx j (wi S 0) (wi S 1) (wi S 2) (wi S 3) (i:Int) h = kr r h:=by
 intro n
 induction n with
 | zero=>
  intro i hi hb
  refine ⟨-1, .inl ⟨zaf fun b=>?_, rfl⟩, fun α j h kr kx hj hx=>?_⟩
  ·rw [Nat.zero_testBit]
   by_cases hq:b < 64 * i
   ·exact hb b hq
   ·exact zcn hS (by omega)
  ·obtain ⟨j, rfl⟩:∃ m, j = m + 1:=⟨j - 1, by omega⟩
   rw [qp.u4.l, qp.u3.f, dF (by omega), cond_false]
   exact hx
 | succ n ih=>
  intro i hi hb
  have hi4:i < 4:=by omega
  by_cases hz:wd S i = 0
  ·obtain ⟨r, hr, e⟩:=ih (i + 1) (by omega) (fun b hlt=>by
    by_cases hq:b < 64 * i
    ·exact hb b hq
    ·have:=zai S i (b - 64 * i)
     rw [hz, Nat.zero_testBit, dT (by omega), Bool.true_and, show 64 * i + (b - 64 * i) = b by omega] at this
     exact this.symm)
   refine ⟨r, hr, fun α j h kr kx hj hx=>?_⟩
   obtain ⟨j, rfl⟩:∃ m, j = m + 1:=⟨j - 1, by omega⟩
   rw [qp.u4.l, qp.u3.f, dT (by omega), cond_true]
   refine (zej rfl hi4 _).trans ?_
   have hz2:(!decide (wi S i = 0)) = false:=by unfold wi; rw [hz]; rfl
   rw [hz2, cond_false, nxt (by omega)]
   exact e α j h kr kx (by omega) hx
  ·obtain ⟨b1, b2, b3⟩:=zla hz (zcp S i)
   have hlt:=ctz_lt hz (zcp S i)
   refine ⟨((64 * i + Lib.ctz 64 (wd S i):Nat):Int), .inr ⟨_, rfl, ?_, fun j hj=>?_⟩, fun α j h kr kx hj hx=>?_⟩
   ·rw [zai, dT hlt, Bool.true_and] at b1; exact b1
   ·by_cases hq:j < 64 * i
    ·rw [hb j hq] at hj; cases hj
    ·by_cases hq2:j < 64 * i + 64
     ·have:=b2 (j - 64 * i) (by rw [zai, dT (by omega), Bool.true_and, show 64 * i + (j - 64 * i) = j by omega]; exact hj)
      omega
     ·omega
   ·obtain ⟨j, rfl⟩:∃ m, j = m + 1:=⟨j - 1, by omega⟩
    rw [qp.u4.l, qp.u3.f, dT (by omega), cond_true]
    refine (zej rfl hi4 _).trans ?_
    have hz2:(!decide (wi S i = 0)) = true:=by rw [dF (show ¬ wi S i = 0 by unfold wi; omega)]; rfl
    rw [hz2, cond_true, tz_run k (zcp S i), mul64 hi4 hlt]
theorem zil (k:Nat) (hk:5 < k) {S:Nat} (hS:S < FS):∃ r h', Low S r ∧ Ext h h' ∧ ∀ (α:Type) (ret:Int->M α),
  qp.f (k + 1) (wi S 0) (wi S 1) (wi S 2) (wi S 3) ret h = ret r h':=by
 obtain ⟨k, rfl⟩:∃ m, k = m + 1:=⟨k - 1, by omega⟩
 obtain ⟨r, hr, e⟩:=zmj k hS 4 0 rfl (fun b hb=>by omega)
 refine ⟨r, h.push (c4 (wi S 0) (wi S 1) (wi S 2) (wi S 3)), hr, (Ext.refl h).push _, fun α ret=>?_⟩
 rw [qp.f]
 unfold qp.u9.f qp.u1.f
 rw [new4]
 refine (ld4 (zav _ _ _ _) _).trans ?_
 exact e α (k + 1) _ _ _ (by omega) rfl
theorem full_word (n i:Nat):wd (2 ^ n - 1) i = 2 ^ (min (n - 64 * i) 64) - 1:=zaf fun b=>by
 rw [zai, Nat.testBit_two_pow_sub_one, Nat.testBit_two_pow_sub_one]
 by_cases hb:b < 64
 ·rw [dT hb, Bool.true_and]
  by_cases hq:64 * i + b < n
  ·rw [dT hq, dT (by omega)]
  ·rw [dF hq, dF (by omega)]
 ·rw [dF hb, Bool.false_and, dF (by omega)]
theorem ones (c:Nat) (hc:c≤64):IntKind.wrap .u64 ((IntKind.wrap .u64 (1 * 2 ^ (min (IntKind.wrap .u64 (c:Int)).toNat 64))) - 1) = ((2 ^ c - 1:Nat):Int):=by
 rw [zby c (by omega), Int.toNat_natCast, Nat.min_eq_left hc, Int.one_mul]
 have h2:(2:Int) ^ c = ((2 ^ c:Nat):Int):=by exact_mod_cast rfl
 have hp:0 < 2 ^ c:=Nat.pow_pos (by decide)
 rw [h2]
 by_cases e:c = 64
 ·subst e; rfl
 ·have hlt:2 ^ c < 2 ^ 64:=Nat.pow_lt_pow_right (by decide) (by omega)
  rw [zby _ hlt, show ((2 ^ c:Nat):Int) - 1 = ((2 ^ c - 1:Nat):Int) by omega]
  exact zby _ (by omega)
theorem many (n i:Nat) (hn:n < 1000000) (hi:i < 4):(if 64 < (if 0 > w64 ((n:Int) - (w64 (64 * (i:Int)))) then (0:Int) else w64 ((n:Int) - (w64 (64 * (i:Int))))) then (64:Int) else if 0 > w64 ((n:Int) - (w64 (64 * (i:Int)))) then (0:Int) else w64 ((n:Int) - (w64 (64 * (i:Int))))) = ((min (n - 64 * i) 64:Nat):Int):=by
 rw [yt (n:=64 * (i:Int)) (by omega) (by omega), yt (by omega) (by omega)]
 by_cases h0:(0:Int) > (n:Int) - 64 * (i:Int)
 ·rw [if_pos h0, if_neg (by decide)]; omega
 ·rw [if_neg h0]
  by_cases h1:(64:Int) < (n:Int) - 64 * (i:Int)
  ·rw [if_pos h1]; omega
  ·rw [if_neg h1]; omega
theorem zdk {k j:Nat} {kx:Ad->Ad->M α} {cs:List V} {q i n:Nat} {r:Ad} (hq:h.get q = some (.cells cs true)) (hc:cs.length = 4) (hi:i < 4) (hn:n≤256) :
  qn.u4.l k kx (j + 1) (n:Int) r ⟨q, 0⟩ (i:Int) h = qn.u4.l k kx j (n:Int) r ⟨q, 0⟩ ((i + 1:Nat):Int) (h.put q (some (.cells (cs.set i (.int .u64 (wi (2 ^ n - 1) i))) true))):=by
 rw [qn.u4.l, qn.u3.f, dT (by omega:(i:Int) < 4), cond_true, dF (by omega), cond_false, many n i (by omega) hi, ones _ (Nat.min_le_right _ _), zby _ (by omega), zd (dT (by omega)), zd (dT (by omega)), zd rfl]
 simp only [ya, Int.toNat_natCast, Nat.mul_one, Nat.add_zero, Nat.zero_add]
 rw [zz (a:=⟨q, i⟩) hq rfl (by rw [hc]; exact hi), nxt (by omega)]
 unfold wi
 rw [full_word]
theorem full_lt {n:Nat} (hn:n≤256):2 ^ n - 1 < FS:=by
 have:2 ^ n≤2 ^ 256:=Nat.pow_le_pow_right (by decide) hn
 have:=Nat.pow_pos (n:=n) (show 0 < 2 by decide)
 show _ < 2 ^ 256
 omega
theorem zlt (k:Nat) (hk:5 < k) {n:Nat} (hn:n≤256):∃ h', Ext h h' ∧ ∀ (α:Type) (ret:Int->Int->Int->Int->M α),
  qn.f (k + 1) (n:Int) ret h = ret (wi (2 ^ n - 1) 0) (wi (2 ^ n - 1) 1) (wi (2 ^ n - 1) 2) (wi (2 ^ n - 1) 3) h':=by
 obtain ⟨k, rfl⟩:∃ m, k = m + 5:=⟨k - 5, by omega⟩
 let h2:=(h.push (c4 0 0 0 0)).push (c4 0 0 0 0)
 have g0:h2.get h.next = some (c4 0 0 0 0):=by simp only [h2, zw, zm]; (repeat rw [if_neg (by omega)]); simp
 have g1:h2.get (h.next + 1) = some (c4 0 0 0 0):=by simp only [h2, zw, zm]; simp
 have x2:Ext h h2:=((Ext.refl h).push _).push _
 have hif:(if 0 > (n:Int) then (0:Int) else (n:Int)) = (n:Int):=if_neg (by omega)
 refine ⟨(h2.put (h.next + 1) (some (c4 (wi (2 ^ n - 1) 0) (wi (2 ^ n - 1) 1) (wi (2 ^ n - 1) 2) (wi (2 ^ n - 1) 3)))).put h.next (some (c4 (wi (2 ^ n - 1) 0) (wi (2 ^ n - 1) 1) (wi (2 ^ n - 1) 2) (wi (2 ^ n - 1) 3))), (x2.put _ (by omega)).put _ (Nat.le_refl _), fun α ret=>?_⟩
 rw [qn.f]
 unfold qn.u9.f qn.u1.f
 rw [new4, new4, hif]
 show qn.u4.l (k + 5) _ (k + 5) (n:Int) ⟨h.next, 0⟩ ⟨h.next + 1, 0⟩ ((0:Nat):Int) h2 = _
 rw [zdk g1 rfl (by decide) hn, zdk (zh _ _ _) rfl (by decide) hn, jg, zdk (zh _ _ _) rfl (by decide) hn, jg, zdk (zh _ _ _) rfl (by decide) hn, jg]
 rw [qn.u4.l, qn.u3.f, dF (by decide:¬ ((0 + 1 + 1 + 1 + 1:Nat):Int) < 4), cond_false]
 unfold qn.u7.f
 refine (cp4 (zh _ _ _) ⟨0, 0, 0, 0, by rw [zo _ _ (by omega)]; exact g0⟩ _).trans ?_
 exact ld4 (zh _ _ _) _
end Go.Ab.S9
namespace Go.Ab.S9
variable {α:Type} {h:H}
structure Gm where
 ow:List Int
 pr:List Int
 mv:List (List Int)
 deriving DecidableEq
def cSl (s:Sl):List V:=[.slice s]
structure MvR (h:H) (m:Sl) (mv:List (List Int)) (rows:List Sl):Prop where
 top:Rd h m 1 (rows.flatMap cSl)
 len:rows.length = mv.length
 row:∀ (i:Nat) (r:Sl) (l:List Int), rows[i]? = some r->mv[i]? = some l->Rd h r 1 (l.flatMap cI)
structure GmR (h:H) (o p m:Sl) (g:Gm):Prop where
 o:Rd h o 1 (g.ow.flatMap cI)
 p:Rd h p 1 (g.pr.flatMap cI)
 m:∃ rows, MvR h m g.mv rows
theorem MvR.ext {h':H} {m:Sl} {mv:List (List Int)} {rows:List Sl} (r:MvR h m mv rows) (x:Ext h h'):MvR h' m mv rows:=
 ⟨r.top.ext x, r.len, fun i s l h1 h2=>(r.row i s l h1 h2).ext x⟩
theorem GmR.ext {h':H} {o p m:Sl} {g:Gm} (r:GmR h o p m g) (x:Ext h h'):GmR h' o p m g:=
 ⟨r.o.ext x, r.p.ext x, r.m.imp fun _ r=>r.ext x⟩
theorem ilen {s:Sl} {l:List Int} (r:Rd h s 1 (l.flatMap cI)):s.len = l.length:=zgn (c:=cI) (fun _=>rfl) r
theorem mlen {m:Sl} {mv:List (List Int)} {rows:List Sl} (r:MvR h m mv rows):m.len = mv.length:=by
 rw [← r.len]; exact zgn (c:=cSl) (fun _=>rfl) r.top
theorem zio {m:Sl} {mv:List (List Int)} {rows:List Sl} (r:MvR h m mv rows) {i:Nat} {l:List Int} (hi:mv[i]? = some l) :
  ∃ s, Rd h s 1 (l.flatMap cI) ∧ rows[i]? = some s ∧ ∀ (α:Type) (x:Int) (K:Sl->M α), x = (i:Int)->idxSl m x 1 (fun a=>ldS (a.add 0) K) h = K s h:=by
 have hlt:i < rows.length:=by rw [r.len]; exact yy hi
 have hs:rows[i]? = some rows[i]:=List.getElem?_eq_getElem hlt
 refine ⟨rows[i], r.row i _ l hs hi, hs, fun α x K hx=>?_⟩
 rw [zei r.top hx (by rw [zgn (c:=cSl) (fun _=>rfl) r.top]; exact hlt), zgy]
 refine r.top.ldS (n:=i * 1 + 0) ?_ K
 rw [zce (c:=cSl) (size:=1) (fun _=>rfl) rows i _ 0 hs (by decide)]
 rfl
def zap (n:Int):Int->List Int->Bool
 | _, []=>true
 | last, m :: l=>(decide (last < m) && decide (m < n)) && zap n m l
def rowE (n o p:Int) (l:List Int):Int:=if o < 0 ∨ 1 < o then 14 else if p < 0 ∨ 7 < p then 15 else if l.length = 0 then 17 else if zap n (-1) l then 0 else 16
def zbq (n:Int):Nat->List Int->List Int->List (List Int)->Int × Int
 | i, o :: os, p :: ps, l :: ls=>if rowE n o p l = 0 then zbq n (i + 1) os ps ls else ((i:Int), rowE n o p l)
 | _, _, _, _=>(0, 0)
def yo (g:Gm):Int × Int:=if g.ow.length ≠ g.mv.length ∨ g.pr.length ≠ g.mv.length then (0, 1) else if g.mv.length < 1 ∨ 200 < g.mv.length then (0, 10) else zbq g.mv.length 0 g.ow g.pr g.mv
theorem zhh (n:Int):∀ (i:Nat) (os ps:List Int) (ls:List (List Int)), (zbq n i os ps ls).2 = 0->zbq n i os ps ls = (0, 0)
 | i, o :: os, p :: ps, l :: ls, h=>by
  rw [zbq] at h ⊢
  by_cases c:rowE n o p l = 0
  ·rw [if_pos c] at h ⊢; exact zhh n _ _ _ _ h
  ·rw [if_neg c] at h; exact absurd h c
 | _, [], _, _, _=>by cases ‹List Int› <;> cases ‹List (List Int)› <;> rfl
 | _, _ :: _, [], _, _=>by cases ‹List (List Int)› <;> rfl
 | _, _ :: _, _ :: _, [], _=>rfl
def zca (l:List Int) (j:Nat):Int:=if j = 0 then -1 else l.getD (j - 1) 0
theorem zfn {l:List Int} {j:Nat} {m:Int} (hm:l[j]? = some m):zca l (j + 1) = m:=by
 unfold zca
 simp [hm]
theorem idec {β:Type} {l:List β} {j:Nat} (hj:j≤l.length):(∃ m, l[j]? = some m ∧ l.drop j = m :: l.drop (j + 1) ∧ j < l.length) ∨ (l.drop j = [] ∧ j = l.length):=by
 rcases Nat.lt_or_ge j l.length with h | h
 ·exact .inl ⟨l[j], List.getElem?_eq_getElem h, List.drop_eq_getElem_cons h, h⟩
 ·exact .inr ⟨List.drop_of_length_le h, by omega⟩
theorem zdy {n last m:Int} {l:List Int} (h:¬ (last < m ∧ m < n)):zap n last (m :: l) = false:=by
 unfold zap
 rcases Decidable.em (last < m) with h1 | h1
 ·rw [dT h1, dF (fun h2=>h ⟨h1, h2⟩)]; rfl
 ·rw [dF h1]; rfl
theorem zmy {n last m:Int} {l:List Int} (h1:last < m) (h2:m < n):zap n last (m :: l) = zap n m l:=by
 rw [zap, dT h1, dT h2]; rfl
theorem mv_loop (k:Nat) (kr:Int->Int->M α) (kx4:Ad->Int->Sl->Int->Int->M α) {g5:Ad} {n i c ii:Int} {sl m:Sl} {l:List Int} (r:Rd h sl 1 (l.flatMap cI)) (hl:l.length≤4611686018427387904) :
  ∀ (f j:Nat), j≤l.length->l.length - j < f->(∀ m', zca l j < m'->0≤m') ->
   qe.u6.l k kr kx4 f g5 n i sl m c ii sl (sl.len:Int) (j:Int) h = if zap n (zca l j) (l.drop j) then kx4 g5 n m c ii h else kr i 16 h:=by
 have hlen:=ilen r
 intro f
 induction f with
 | zero=>intro j _ hf; omega
 | succ f ih=>
  intro j hj hf hp
  rw [qe.u6.l, qe.u5.f, hlen]
  rcases idec hj with ⟨v, hv, hd, hlt⟩ | ⟨hd, he⟩
  ·rw [dT (by omega:(j:Int) < (l.length:Int)), cond_true, jy r rfl hv, hd]
   by_cases h0:v < 0
   ·rw [dT h0, cond_true, zdy (fun hh=>by have:=hp v hh.1; omega)]; rfl
   rw [dF h0, cond_false]
   by_cases h1:n≤v
   ·rw [dT h1, cond_true, zdy (fun hh=>by omega)]; rfl
   rw [dF h1, cond_false]
   have hnext:zca l j < v->qe.u6.l k kr kx4 f g5 n i sl m c ii sl (l.length:Int) (w64 ((j:Int) + 1)) h = if zap n (zca l j) (v :: l.drop (j + 1)) then kx4 g5 n m c ii h else kr i 16 h:=fun hlast=>by
    have:=ih (j + 1) hlt (by omega) (by rw [zfn hv]; intro m' hm; omega)
    rw [hlen, zfn hv] at this
    rw [yt (by omega) (by omega), zmy hlast (by omega)]
    exact this
   by_cases hj0:j = 0
   ·rw [dF (by omega:¬ (0:Int) < (j:Int)), cond_false]
    exact hnext (by unfold zca; rw [if_pos hj0]; omega)
   ·have hprev:l[j - 1]? = some (l.getD (j - 1) 0):=by
     rw [List.getElem?_eq_getElem (by omega), List.getD, List.getElem?_eq_getElem (by omega)]; rfl
    rw [dT (by omega:(0:Int) < (j:Int)), cond_true, jy r (x:=w64 ((j:Int) - 1)) (i:=j - 1) (by rw [yt (by omega) (by omega)]; omega) hprev]
    have hlast:zca l j = l.getD (j - 1) 0:=if_neg hj0
    by_cases h2:v≤l.getD (j - 1) 0
    ·rw [dT h2, cond_true, zdy (fun hh=>by rw [hlast] at hh; omega)]; rfl
    ·rw [dF h2, cond_false]
     exact hnext (by rw [hlast]; omega)
  ·rw [dF (by omega:¬ (j:Int) < (l.length:Int)), cond_false, hd]
   rfl
theorem drop3 {β γ δ:Type} {a:List β} {b:List γ} {c:List δ} {i:Nat} (h1:a.length = c.length) (h2:b.length = c.length) (hi:i < c.length) :
  ∃ x y z, a[i]? = some x ∧ b[i]? = some y ∧ c[i]? = some z ∧ a.drop i = x :: a.drop (i + 1) ∧ b.drop i = y :: b.drop (i + 1) ∧ c.drop i = z :: c.drop (i + 1):=
 ⟨a[i], b[i], c[i], List.getElem?_eq_getElem _, List.getElem?_eq_getElem _, List.getElem?_eq_getElem _, List.drop_eq_getElem_cons _, List.drop_eq_getElem_cons _, List.drop_eq_getElem_cons _⟩
abbrev gC (o p m:Sl):Blk:=.cells [.slice o, .slice p, .slice m] true
section
variable {o p m:Sl} {q:Nat}
theorem g_o (hq:h.get q = some (gC o p m)) (K:Sl->M α):ldS (((⟨q, 0⟩:Ad).add 0).add 0) K h = K o h:=yl (by simp only [ya]; rw [zt (a:=⟨q, 0 + 0 + 0⟩) hq]; rfl)
theorem g_p (hq:h.get q = some (gC o p m)) (K:Sl->M α):ldS (((⟨q, 0⟩:Ad).add 1).add 0) K h = K p h:=yl (by simp only [ya]; rw [zt (a:=⟨q, 0 + 1 + 0⟩) hq]; rfl)
theorem g_m (hq:h.get q = some (gC o p m)) (K:Sl->M α):ldS (((⟨q, 0⟩:Ad).add 2).add 0) K h = K m h:=yl (by simp only [ya]; rw [zt (a:=⟨q, 0 + 2 + 0⟩) hq]; rfl)
theorem g_o' (hq:h.get q = some (gC o p m)) (K:Sl->M α):ldS ((⟨q, 0⟩:Ad).add 0) K h = K o h:=yl (by simp only [ya]; rw [zt (a:=⟨q, 0 + 0⟩) hq]; rfl)
theorem g_p' (hq:h.get q = some (gC o p m)) (K:Sl->M α):ldS ((⟨q, 0⟩:Ad).add 1) K h = K p h:=yl (by simp only [ya]; rw [zt (a:=⟨q, 0 + 1⟩) hq]; rfl)
theorem g_m' (hq:h.get q = some (gC o p m)) (K:Sl->M α):ldS ((⟨q, 0⟩:Ad).add 2) K h = K m h:=yl (by simp only [ya]; rw [zt (a:=⟨q, 0 + 2⟩) hq]; rfl)
end
theorem zjy (cs:List V):(h.push (.cells cs true)).get h.next = some (.cells cs true):=by rw [zw, if_pos rfl]
theorem rows_loop (k:Nat) (kr:Int->Int->M α) (kx1:M α) {q:Nat} {o p m:Sl} {g:Gm} {rows:List Sl} (hq:h.get q = some (gC o p m)) (ro:Rd h o 1 (g.ow.flatMap cI)) (rp:Rd h p 1 (g.pr.flatMap cI)) (rm:MvR h m g.mv rows)
  (h1:g.ow.length = g.mv.length) (h2:g.pr.length = g.mv.length) (hn:g.mv.length≤200) (hk:∀ l ∈ g.mv, l.length < k ∧ l.length≤4611686018427387904) :
  ∀ (f i:Nat), i≤g.mv.length->g.mv.length - i < f ->
   qe.u13.l k kr kx1 f ⟨q, 0⟩ (g.mv.length:Int) m (g.mv.length:Int) (i:Int) h =
    if (zbq g.mv.length i (g.ow.drop i) (g.pr.drop i) (g.mv.drop i)).2 = 0 then kx1 h else kr (zbq g.mv.length i (g.ow.drop i) (g.pr.drop i) (g.mv.drop i)).1 (zbq g.mv.length i (g.ow.drop i) (g.pr.drop i) (g.mv.drop i)).2 h:=by
 intro f
 induction f with
 | zero=>intro i _ hf; omega
 | succ f ih=>
  intro i hi hf
  rw [qe.u13.l, qe.u12.f, qe.u3.f]
  by_cases hlt:i < g.mv.length
  ·obtain ⟨x, y, l, hx, hy, hl, dx, dy, dl⟩:=drop3 h1 h2 hlt
   obtain ⟨s, rs, _, es⟩:=zio rm hl
   have hb:=hk l (List.mem_of_getElem? hl)
   have hslen:=ilen rs
   rw [dT (by omega:(i:Int) < (g.mv.length:Int)), cond_true, dx, dy, dl, zbq]
   unfold qe.u11.f qe.u9.f qe.u8.f qe.u4.f
   rw [es α _ _ rfl, g_o hq, jy ro rfl hx]
   by_cases c1:x < 0
   ·rw [dT c1, cond_true, show rowE (g.mv.length:Int) x y l = 14 from if_pos (.inl c1)]; rfl
   rw [dF c1, cond_false, g_o hq, jy ro rfl hx]
   by_cases c2:1 < x
   ·rw [dT c2, cond_true, show rowE (g.mv.length:Int) x y l = 14 from if_pos (.inr c2)]; rfl
   have e1:rowE (g.mv.length:Int) x y l = if y < 0 ∨ 7 < y then 15 else if l.length = 0 then 17 else if zap (g.mv.length:Int) (-1) l then 0 else 16:=if_neg (by omega)
   rw [dF c2, cond_false, g_p hq, jy rp rfl hy]
   by_cases c3:y < 0
   ·rw [dT c3, cond_true, e1, if_pos (Or.inl c3)]; rfl
   rw [dF c3, cond_false, g_p hq, jy rp rfl hy]
   by_cases c4:7 < y
   ·rw [dT c4, cond_true, e1, if_pos (Or.inr c4)]; rfl
   rw [if_neg (by omega)] at e1
   rw [dF c4, cond_false, hslen]
   by_cases c5:l.length = 0
   ·rw [dT (by omega:(l.length:Int) = 0), cond_true, e1, if_pos c5]; rfl
   rw [if_neg c5] at e1
   rw [dF (by omega:¬ (l.length:Int) = 0), cond_false, ← hslen]
   have hloop:=mv_loop k kr (fun y0 y1 y2 y3 y4=>qe.u10.f k y0 y1 y2 y3 y4 fun y0 y1 y2 y3 y4=>qe.u13.l k kr kx1 f y0 y1 y2 y3 y4) (g5:=⟨q, 0⟩) (n:=(g.mv.length:Int)) (i:=(i:Int)) (c:=(g.mv.length:Int)) (ii:=(i:Int)) (m:=m) rs hb.2 k 0 (Nat.zero_le _) (by omega) (by unfold zca; simp; omega)
   rw [show zca l 0 = -1 from rfl, List.drop_zero] at hloop
   refine hloop.trans ?_
   rw [e1]
   cases hm:zap (g.mv.length:Int) (-1) l with
   | false=>rfl
   | true=>
    rw [if_pos rfl, if_pos rfl, if_pos rfl, qe.u10.f, yt (by omega) (by omega)]
    exact ih (i + 1) hlt (by omega)
  ·have:i = g.mv.length:=by omega
   subst this
   rw [dF (by omega:¬ (g.mv.length:Int) < (g.mv.length:Int)), cond_false, List.drop_length, List.drop_of_length_le (Nat.le_of_eq h1), List.drop_of_length_le (Nat.le_of_eq h2)]
   rfl
theorem zfb (k:Nat) {o p m:Sl} {g:Gm} (r:GmR h o p m g) (h200:201 < k) (hk:∀ l ∈ g.mv, l.length < k ∧ l.length≤4611686018427387904) (ret:Int->Int->M α) :
  qe.f (k + 1) o p m ret h = ret (yo g).1 (yo g).2 (h.push (gC o p m)):=by
 obtain ⟨rows, rm⟩:=r.m
 have x:=(Ext.refl h).push (gC o p m)
 have hq:(h.push (gC o p m)).get h.next = some (gC o p m):=zjy _
 have l1:=ilen r.o
 have l2:=ilen r.p
 have l3:=mlen rm
 rw [qe.f, qe.u18.f, qe.u1.f, jl rfl, g_m hq, g_o hq, l1, l3]
 unfold yo
 by_cases c1:g.ow.length = g.mv.length
 ·rw [dT (by omega:(g.ow.length:Int) = (g.mv.length:Int)), Bool.not_true, cond_false, g_p hq, l2]
  by_cases c2:g.pr.length = g.mv.length
  ·rw [dT (by omega:(g.pr.length:Int) = (g.mv.length:Int)), Bool.not_true, cond_false, if_neg (by omega)]
   by_cases c3:g.mv.length < 1
   ·rw [dT (by omega:(g.mv.length:Int) < 1), cond_true, if_pos (Or.inl c3)]
   rw [dF (by omega:¬ (g.mv.length:Int) < 1), cond_false]
   by_cases c4:200 < g.mv.length
   ·rw [dT (by omega:200 < (g.mv.length:Int)), cond_true, if_pos (Or.inr c4)]
   rw [dF (by omega:¬ 200 < (g.mv.length:Int)), cond_false, if_neg (by omega)]
   unfold qe.u17.f qe.u15.f qe.u2.f
   rw [g_m hq, l3]
   refine (rows_loop k ret (qe.u16.f k ret) hq (r.o.ext x) (r.p.ext x) (rm.ext x) c1 c2 (by omega) hk k 0 (Nat.zero_le _) (by omega)).trans ?_
   simp only [List.drop_zero]
   cases hr:zbq (g.mv.length:Int) 0 g.ow g.pr g.mv with
   | mk a e=>
    by_cases he:e = 0
    ·subst he
     have:=zhh (g.mv.length:Int) 0 g.ow g.pr g.mv (by rw [hr])
     rw [hr] at this
     obtain rfl:a = 0:=(Prod.mk.inj this).1
     rfl
    ·rw [if_neg he]
  ·rw [dF (by omega:¬ (g.pr.length:Int) = (g.mv.length:Int)), Bool.not_false, cond_true, if_pos (by omega)]
 ·rw [dF (by omega:¬ (g.ow.length:Int) = (g.mv.length:Int)), Bool.not_false, cond_true, if_pos (by omega)]
end Go.Ab.S9
