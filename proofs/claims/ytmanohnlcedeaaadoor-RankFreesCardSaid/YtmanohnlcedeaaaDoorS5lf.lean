import Derived.Test.YtmanohnlcedeaaaDoorS5ri
import Derived.Test.YtmanohnlcedeaaaDoorS5q2
import Derived.Test.YtmanohnlcedeaaaDoorS5nl
namespace Go.Ab.S5
set_option linter.unusedVariables false
set_option linter.unusedSimpArgs false
section
variable {h : H}
theorem copy_own {x : Sl} {l : List Nd} (r : NdR h x l) (hr : Room l.length) :
  ∃ d h', (∀ (α : Type) (K : Sl->M α), new [] (fun a => yc ⟨some a, 0, 0, none⟩ 5 48 x K) h = K d h') ∧ Ext h h' ∧ NdR h' d l ∧ (l ≠ []->Own h' d 5 (cN l)) ∧ zaf h d := by
 have hlen := yl r
 have x1 : Ext h (h.push (.cells [] true)) := (Ext.refl h).push _
 have hg : (h.push (.cells [] true)).get h.next = some (.cells [] true) := by rw [zn, if_pos rfl]
 have ap : App (h.push (.cells [] true)) ⟨some ⟨h.next, 0⟩, 0, 0, none⟩ 5 [] := ⟨Rd.pushed h (by simp), fun ha => (by cases ha), .inl ⟨rfl, rfl⟩⟩
 by_cases h0 : x.len = 0
 ·have hl : l = [] := List.eq_nil_of_length_eq_zero (by rw [← hlen]; exact h0)
  subst hl
  refine ⟨⟨some ⟨h.next, 0⟩, 0, 0, none⟩, h.push (.cells [] true), fun α K => ?_, x1, ap.rd, fun h => absurd rfl h, fun a ha => by cases ha; exact Nat.le_refl _⟩
  rw [jq rfl]
  exact zkp ap (r.ext x1) h0 K (fun _ a ha => by cases ha; exact ⟨hg, rfl, rfl⟩)
 ·obtain ⟨h', e, ap', g, kp⟩ := zhn (bytes := 48) ap (r.ext x1) (by omega) (by decide) (by rw [hlen]; exact room_n hr)
  rw [List.nil_append] at ap' g
  refine ⟨_, h', fun α K => ?_, kp.ext x1 (fun a ha => by cases ha; exact Nat.le_refl _), ap'.rd, fun _ => ⟨ap'.rd.len, _, [], rfl, by rw [List.append_nil]; exact g, by rw [kp.1]; exact Nat.lt_succ_self _⟩, fun a ha => by cases ha; show h.next≤h.next + 1; omega⟩
  rw [jq rfl]
  exact e α K
end
theorem zqm (k : Nat) {s : Sl} {l : List Nd} (hl : l.length≤4611686018427387800) (hs : s.len = l.length) : ∀ (j i : Nat) (h : H), i≤l.length->l.length - i < j->Own h s 5 (cN ((l.take i).map plN ++ l.drop i)) ->
  ∃ h', (∀ (α : Type) (kx : Sl->M α), qs.u4.l k kx j s (i : Int) h = kx s h') ∧ Own h' s 5 (cN (l.map plN)) ∧ h'.next = h.next ∧ ∀ i, i ≠ s.id->h'.get i = h.get i := by
 intro j
 induction j with
 | zero => intro i h hi hj; omega
 | succ j ih =>
  intro i h hi hj o
  by_cases hlt : i < l.length
  ·have hn : l[i]? = some l[i] := List.getElem?_eq_getElem hlt
   generalize l[i] = n at hn
   have hg := zno hn
   by_cases h12 : n.kind = 12
   ·obtain ⟨h1, e1, o1, n1, g1⟩ := nd_stk o hg 3
    have : ({ n with kind := 3 } : Nd) = plN n := by unfold plN plK; rw [if_pos h12]
    rw [this, zfy hn] at o1
    obtain ⟨h2, e2, o2, n2, g2⟩ := ih (i + 1) h1 (by omega) (by omega) o1
    refine ⟨h2, fun α kx => ?_, o2, by omega, fun i hi => by rw [g2 i hi, g1 i hi]⟩
    rw [qs.u4.l, qs.u3.f, hs, dT (by omega : (i : Int) < (l.length : Int)), cond_true, zag o.rd rfl hg, dT h12, cond_true]
    refine (e1 α _).trans ?_
    rw [zw (by omega) (by omega)]
    exact e2 α kx
   ·have : plN n = n := by unfold plN plK; rw [if_neg h12]
    have o1 := o
    have e0 := zfy hn
    rw [this, show ((l.take i).map plN ++ l.drop i).set i n = (l.take i).map plN ++ l.drop i by
     have hlt' := yt hg
     rw [List.getElem?_eq_getElem hlt'] at hg
     rw [← Option.some.inj hg]; exact List.set_getElem_self hlt'] at e0
    rw [e0] at o1
    obtain ⟨h2, e2, o2, n2, g2⟩ := ih (i + 1) h (by omega) (by omega) o1
    refine ⟨h2, fun α kx => ?_, o2, n2, g2⟩
    rw [qs.u4.l, qs.u3.f, hs, dT (by omega : (i : Int) < (l.length : Int)), cond_true, zag o.rd rfl hg, dF h12, cond_false, zw (by omega) (by omega)]
    exact e2 α kx
  ·refine ⟨h, fun α kx => ?_, ?_, rfl, fun _ _ => rfl⟩
   ·rw [qs.u4.l, qs.u3.f, hs, dF (by omega : ¬ (i : Int) < (l.length : Int)), cond_false]
   ·rw [List.take_of_length_le (by omega), List.drop_of_length_le (by omega), List.append_nil] at o
    exact o
theorem pl_NL {l : List Nd} (hnl : NL l) : NL (l.map plN) := fun i n hi => by
 rw [List.getElem?_map] at hi
 cases hx : l[i]? with
 | none => rw [hx] at hi; cases hi
 | some m => rw [hx] at hi; cases hi; exact hnl i m hx
theorem zgz (k : Nat) {f : Sl} {l : List Nd} (hr : Room l.length) (hk : 10 + l.length≤k) (h : H) (r : NdR h f l) :
  ∃ d h', (∀ (α : Type) (ret : Sl->M α), qs.f (k + 1) f ret h = ret d h') ∧ Ext h h' ∧ NdR h' d (l.map plN) := by
 obtain ⟨d, h1, e1, x1, r1, o1, w1⟩ := copy_own r hr
 have hd := yl r1
 have st : ∀ (α : Type) (ret : Sl->M α), qs.f (k + 1) f ret h = qs.u4.l k (fun y0 => qs.u7.f k y0 ret) k d ((0 : Nat) : Int) h1 := by
  intro α ret
  rw [qs.f, qs.u9.f, qs.u1.f, e1, qs.u8.f, qs.u6.f, qs.u2.f, qs.u5.f, qs.u4.f]
  rfl
 by_cases h0 : l = []
 ·subst h0
  obtain ⟨k, rfl⟩ : ∃ q, k = q + 1 := ⟨k - 1, by omega⟩
  refine ⟨d, h1, fun α ret => ?_, x1, r1⟩
  rw [st, qs.u4.l, qs.u3.f, hd]
  rfl
 ·obtain ⟨h2, e2, o2, n2, g2⟩ := zqm k (by unfold Room at hr; omega) hd k 0 h1 (Nat.zero_le _) (by omega) (o1 h0)
  have hid : h.next≤d.id := by
   obtain ⟨id, more, q1, q2, q3⟩ := (o1 h0).blk
   unfold Sl.id
   rw [q1]
   exact w1 _ q1
  refine ⟨d, h2, fun α ret => ?_, ⟨by have := x1.1; omega, fun i hi => ?_⟩, o2.rd⟩
  ·rw [st, e2, qs.u7.f]
  ·rw [g2 i (by omega)]; exact x1.2 i hi
theorem zrn (k : Nat) {f : Sl} {l : List Nd} {u : Tr} (w : Wide l u) (hnl : NL l) (hk : 700≤k) (h : H) (r : NdR h f l) :
  ∃ h', (∀ (α : Type) (ret : Bool->M α), qat.f (k + 1) f ret h = ret true h') ∧ Ext h h' := by
 obtain ⟨k, rfl⟩ : ∃ q, k = q + 1 := ⟨k - 1, by omega⟩
 have hl : l.length≤60 := by rw [w.flat, ze]; exact w.size
 obtain ⟨d, h1, e1, x1, r1⟩ := zgz k (by unfold Room; omega) (by omega) h r
 have hn := pl_NL hnl
 rw [w.flat, ← zbl] at r1 hn
 obtain ⟨h2, e2, x2⟩ := zlm k (by omega) (t := u.pl) w.ok (by rw [yw]; exact w.size) hn h1 r1
 refine ⟨h2, fun α ret => ?_, x1.trans x2⟩
 rw [qat.f, qat.u1.f, e1, e2, w.chk, dT rfl]
theorem rwide_not (k : Nat) {f : Sl} {l : List Nd} (w : zdy l) (hnl : NL l) (hr : Room l.length) (hk : 700 + l.length≤k) (h : H) (r : NdR h f l) :
  ∃ h', (∀ (α : Type) (ret : Bool->M α), qat.f (k + 1) f ret h = ret false h') ∧ Ext h h' := by
 obtain ⟨k, rfl⟩ : ∃ q, k = q + 1 := ⟨k - 1, by omega⟩
 obtain ⟨d, h1, e1, x1, r1⟩ := zgz k hr (by omega) h r
 have hn := pl_NL hnl
 rcases w with w | ⟨u, u1, u2, u3, u4⟩
 ·obtain ⟨h2, e2, x2⟩ := zsk k (by omega) w hn h1 r1
  refine ⟨h2, fun α ret => ?_, x1.trans x2⟩
  rw [qat.f, qat.u1.f, e1, e2, dF (by decide)]
 ·rw [u3, ← zbl] at r1 hn
  obtain ⟨h2, e2, x2⟩ := zlm k (by omega) (t := u.pl) u1 (by rw [yw]; exact u2) hn h1 r1
  refine ⟨h2, fun α ret => ?_, x1.trans x2⟩
  rw [qat.f, qat.u1.f, e1, e2, dF u4]
theorem zre (k : Nat) {h : H} {s : Sl} {l : List Nd} (r : NdR h s l) (hl : l.length≤4611686018427387800) : ∀ (j i : Nat), i≤l.length->l.length - i < j ->
  ∀ (α : Type) (kr : Bool->M α) (kx : Sl->M α), qaa.u4.l k kr kx j s (i : Int) h = if (l.drop i).any (fun n => decide (n.kind = 5)) = true then kr false h else kx s h := by
 intro j
 have hs := yl r
 induction j with
 | zero => intro i hi hj; omega
 | succ j ih =>
  intro i hi hj α kr kx
  by_cases hlt : i < l.length
  ·have hn : l[i]? = some l[i] := List.getElem?_eq_getElem hlt
   rw [List.drop_eq_getElem_cons hlt, List.any_cons]
   generalize l[i] = n at hn
   rw [qaa.u4.l, qaa.u3.f, hs, dT (by omega : (i : Int) < (l.length : Int)), cond_true, zag r rfl hn]
   by_cases h5 : n.kind = 5
   ·rw [dT h5, cond_true]; rfl
   ·rw [dF h5, cond_false, Bool.false_or, zw (by omega) (by omega)]
    exact ih (i + 1) (by omega) (by omega) α kr kx
  ·rw [qaa.u4.l, qaa.u3.f, hs, dF (by omega : ¬ (i : Int) < (l.length : Int)), cond_false, List.drop_of_length_le (by omega)]
   rfl
theorem zot (k : Nat) {s : Sl} {l : List Nd} (h : H) (r : NdR h s l) (hr : Room l.length) (hk : l.length + 5≤k) (α : Type) (ret : Bool->M α) :
  qaa.f (k + 1) s ret h = if l.any (fun n => decide (n.kind = 5)) = true then ret false h else qat.f k s ret h := by
 rw [qaa.f, qaa.u9.f, qaa.u1.f, qaa.u8.f, qaa.u6.f, qaa.u2.f, qaa.u5.f, qaa.u4.f]
 exact (zre k r (by unfold Room at hr; omega) k 0 (Nat.zero_le _) (by omega) α _ _)
theorem zph (k : Nat) (hk : 900≤k) {f : Sl} {l : List Nd} {u : Tr} (w : Wide l u) (hnl : NL l) (h : H) (r : NdR h f l) :
  ∃ h', (∀ (α : Type) (ret : Bool->M α), qaa.f (k + 1) f ret h = ret (pos5 u) h') ∧ Ext h h' := by
 obtain ⟨k, rfl⟩ : ∃ q, k = q + 1 := ⟨k - 1, by omega⟩
 have hl : l.length≤60 := by rw [w.flat, ze]; exact w.size
 have hf := zdd u 0 w.ok
 rw [← w.flat] at hf
 cases hp : pos5 u with
 | true =>
  obtain ⟨h1, e1, x1⟩ := zrn k w hnl (by omega) h r
  refine ⟨h1, fun α ret => ?_, x1⟩
  rw [zot (k + 1) h r (by unfold Room; omega) (by omega), hf, hp, if_neg (by decide), e1]
 | false =>
  refine ⟨h, fun α ret => ?_, Ext.refl h⟩
  rw [zot (k + 1) h r (by unfold Room; omega) (by omega), hf, hp, if_pos (by decide)]
theorem ris_not (k : Nat) {f : Sl} {l : List Nd} (w : zdy l) (hnl : NL l) (hr : Room l.length) (hk : 900 + l.length≤k) (h : H) (r : NdR h f l) :
  ∃ h', (∀ (α : Type) (ret : Bool->M α), qaa.f (k + 1) f ret h = ret false h') ∧ Ext h h' := by
 obtain ⟨k, rfl⟩ : ∃ q, k = q + 1 := ⟨k - 1, by omega⟩
 obtain ⟨h1, e1, x1⟩ := rwide_not k w hnl hr (by omega) h r
 by_cases hf : l.any (fun n => decide (n.kind = 5)) = true
 ·refine ⟨h, fun α ret => ?_, Ext.refl h⟩
  rw [zot (k + 1) h r hr (by omega), if_pos hf]
 ·refine ⟨h1, fun α ret => ?_, x1⟩
  rw [zot (k + 1) h r hr (by omega), if_neg hf, e1]
theorem zse (k : Nat) (hk : 700≤k) {f : Sl} {l : List Nd} {u : Tr} (w : Wide l u) (hnl : NL l) (h : H) (r : NdR h f l) :
  ∃ s h', (∀ (α : Type) (ret : Sl->M α), qbi.f (k + 1) f ret h = ret s h') ∧ Ext h h' ∧ Rd h' s 1 (cIs (toA u.pl 0 [])) := by
 obtain ⟨k, rfl⟩ : ∃ q, k = q + 1 := ⟨k - 1, by omega⟩
 have hl : l.length≤60 := by rw [w.flat, ze]; exact w.size
 obtain ⟨d, h1, e1, x1, r1⟩ := zgz k (by unfold Room; omega) (by omega) h r
 have hn := pl_NL hnl
 rw [w.flat, ← zbl] at r1 hn
 obtain ⟨h2, s, e2, x2, a2, _⟩ := znx k (by omega) w.ok (by rw [yw]; exact w.size) hn h1 r1
 refine ⟨s, h2, fun α ret => ?_, x1.trans x2, a2.rd⟩
 rw [qbi.f, qbi.u1.f, e1, e2]
theorem znr (k : Int) (n : Nat) (hn : n = 0 ∨ n = 1) : ((n : Int) < arF (plK k)) ↔ ((n : Int) < arF k) := by
 unfold plK
 by_cases h : k = 12
 ·subst h; rw [if_pos rfl]; rcases hn with rfl | rfl <;> decide
 ·rw [if_neg h]
theorem upL_pl : ∀ (l : List Nd) (i : Nat) (out : List Int), upL (l.map plN) i out = upL l i out
 | [], i, out => rfl
 | n :: l, i, out => by
  rw [List.map_cons, upL, upL, upL_pl l]
  have h0 := znr n.kind 0 (.inl rfl)
  have h1 := znr n.kind 1 (.inr rfl)
  have e : upS out i (plN n) = upS out i n := by
   unfold upS
   have e0 : (0 < arF (plN n).kind) = (0 < arF n.kind) := propext h0
   have e1 : (1 < arF (plN n).kind) = (1 < arF n.kind) := propext h1
   simp only [e0, e1]
   rfl
  rw [e]
theorem below_pl {l : List Nd} (h : Below (l.map plN)) : Below l := fun i n hi => by
 have := h i (plN n) (by rw [List.getElem?_map, hi]; rfl)
 exact ⟨fun q => this.1 ((znr n.kind 0 (.inl rfl)).2 q), fun q => this.2 ((znr n.kind 1 (.inr rfl)).2 q)⟩
theorem upw_run (k : Nat) (hk : 200≤k) {f : Sl} {l : List Nd} {u : Tr} (w : Wide l u) (h : H) (r : NdR h f l) :
  ∃ h' s, (∀ (α : Type) (ret : Sl->M α), qk.f (k + 1) f ret h = ret s h') ∧ Mine h h' s (cIs (upA u.pl 0 (-1))) := by
 obtain ⟨k, rfl⟩ : ∃ q, k = q + 1 := ⟨k - 1, by omega⟩
 have hs := w.size
 have hll := w.len
 have hfl : f.len = u.size := by rw [yl r, hll]
 have hb : Below l := below_pl (by rw [w.flat, ← zbl]; exact zgy w.ok)
 obtain ⟨h1, e1, o1, n1, x1⟩ := zev (h := h) (n := u.size) (x := (f.len : Int)) (y := (f.len : Int)) (by rw [hfl]) (by rw [hfl]) (by omega)
 have m1 : Mine h h1 ⟨some ⟨h.next, 0⟩, u.size, u.size, none⟩ (cIs (List.replicate 0 (-1) ++ List.replicate (l.length - 0) 0)) := ⟨x1, by rw [hll]; exact o1, Nat.le_refl _⟩
 obtain ⟨h2, e2, m2⟩ := zqd r (by omega) (k + 1) (k + 1) 0 h1 (Nat.zero_le _) (by omega) m1
 obtain ⟨h3, e3, m3⟩ := zqo r hb (by omega) k (k + 1) 0 h2 _ (Nat.zero_le _) (by omega) (by simp) m2
 rw [List.drop_zero, hll, ← upL_pl, w.flat, ← zbl, ← yw, zpg u.pl w.ok] at m3
 refine ⟨h3, _, fun α ret => ?_, m3⟩
 rw [qk.f, qk.u15.f, qk.u1.f, e1, qk.u14.f, qk.u6.f, qk.u2.f, qk.u5.f, qk.u4.f]
 refine (e2 α _).trans ?_
 rw [qk.u13.f, qk.u11.f, qk.u7.f, qk.u10.f, qk.u9.f]
 refine (e3 α _).trans ?_
 rw [qk.u12.f, yw]
end Go.Ab.S5
namespace Go.Ab.S5
set_option linter.unusedVariables false
set_option linter.unusedSimpArgs false
section
variable {u : Tr} {l : List Nd} {h₀ h : H} {up f to out w : Sl}
theorem Wide.upg (wd : Wide l u) {i : Nat} (hi : i < u.size) : (upA u.pl 0 (-1))[i]? = some (upF u.pl i) := by
 have : i < (upA u.pl 0 (-1)).length := by rw [jd, yw]; exact hi
 rw [List.getElem?_eq_getElem this, upF, List.getD_eq_getElem?_getD, List.getElem?_eq_getElem this]; rfl
theorem zrc (wd : Wide l u) (ru : Rd h up 1 (cIs (upA u.pl 0 (-1)))) {b : Nat} (hb : b < u.size) (k : Nat) : ∀ (j i : Nat), i < u.size->u.size - i < j->∀ (α : Type) (kr : Bool->M α) (kx : M α),
  qaf.u3.l k kr kx j up (i : Int) (b : Int) h = if loF u.pl b≤i ∧ i≤b then kr true h else kx h := by
 have y := wd.lay
 intro j
 induction j with
 | zero => intro i hi hj; omega
 | succ j ih =>
  intro i hi hj α kr kx
  rw [qaf.u3.l, qaf.u2.f, dT (by omega : (0 : Int)≤(i : Int)), cond_true]
  by_cases e : i = b
  ·subst e
   rw [dT rfl, cond_true, if_pos ⟨y.ll i hi, Nat.le_refl _⟩]
  rw [dF (by omega : ¬ (i : Int) = (b : Int)), cond_false, jt ru rfl (wd.upg hi)]
  rcases y.u1 i hi with h1 | ⟨p, h1, h2, h3, h4⟩
  ·rw [if_neg (fun c => by
    obtain ⟨p, g1, _⟩ := y.u2 i b (by omega) hb c.1
    omega), h1]
   obtain ⟨j, rfl⟩ : ∃ q, j = q + 1 := ⟨j - 1, by omega⟩
   rw [qaf.u3.l, qaf.u2.f, dF (by omega), cond_false]
  ·rw [h1, ih p h3 (by omega)]
   by_cases c : loF u.pl b≤i ∧ i≤b
   ·obtain ⟨p', g1, g2⟩ := y.u2 i b (by omega) hb c.1
    rw [if_pos c, if_pos ⟨by omega, by omega⟩]
   ·rw [if_neg c, if_neg (fun d => c ⟨by have := y.nest b p hb d.1 d.2; omega, by omega⟩)]
theorem zmt (wd : Wide l u) (ru : Rd h up 1 (cIs (upA u.pl 0 (-1)))) {b i : Nat} {x z : Int} (hx : x = (i : Int)) (hz : z = (b : Int)) (hb : b < u.size) (hi : i < u.size) (k : Nat) (hk : 100≤k) (α : Type) (ret : Bool->M α) :
  qaf.f (k + 1) up x z ret h = ret (decide (loF u.pl b≤i ∧ i≤b)) h := by
 subst hx hz
 rw [qaf.f, qaf.u7.f, qaf.u1.f, qaf.u6.f, qaf.u4.f, qaf.u3.f]
 have := wd.size
 rw [zrc wd ru hb k k i hi (by omega)]
 by_cases c : loF u.pl b≤i ∧ i≤b
 ·rw [if_pos c, decide_eq_true c]
 ·rw [if_neg c, decide_eq_false c, qaf.u5.f]
theorem orU_lt {g : Nat->Nat} : ∀ n, (∀ v, v < n->g v < 18446744073709551616)->orU g n < 18446744073709551616
 | 0, _ => by simp [orU]
 | n + 1, h => Nat.or_lt_two_pow (n := 64) (orU_lt n fun v hv => h v (by omega)) (h n (by omega))
theorem rfB_lt (wd : Wide l u) (lo n : Nat) {v : Nat} (hv : v < u.size) : rfB (toF u.pl) lo n v < 18446744073709551616 := by
 have := wd.size
 unfold rfB
 split
 ·rename_i c
  obtain ⟨j, h1, h2, h3, _⟩ := wd.lay.tb v hv c.1
  rw [h1, Int.toNat_natCast]
  exact zll (by omega)
 ·decide
theorem zps (wd : Wide l u) (r : NdR h f l) (ru : Rd h up 1 (cIs (upA u.pl 0 (-1)))) (rt : Rd h to 1 (cIs (toA u.pl 0 []))) {n : Nat} (hn : n < u.size) (s : Sl) (k : Nat) (hk : 200≤k) : ∀ (j v : Nat), v≤u.size->u.size - v < j ->
  ∀ (α : Type) (kx : Sl->Sl->Sl->Sl->Int->Int->M α), qg.u7.l (k + 1) kx j f up to s (n : Int) ((orU (rfB (toF u.pl) (loF u.pl n) n) v : Nat) : Int) (v : Int) h = kx f up to s (n : Int) ((frW u n : Nat) : Int) h := by
 have y := wd.lay
 have hs := wd.size
 have hfl : f.len = u.size := by rw [yl r, wd.len]
 intro j
 induction j with
 | zero => intro v hv hj; omega
 | succ j ih =>
  intro v hv hj α kx
  rw [qg.u7.l, qg.u6.f, hfl]
  by_cases hlt : v < u.size
  rotate_left
  ·have : v = u.size := by omega
   subst this
   rw [dF (by omega : ¬ (u.size : Int) < (u.size : Int)), cond_false, frF_ref y hn]
  rw [dT (by omega : (v : Int) < (u.size : Int)), cond_true, jt rt rfl (wd.to hlt)]
  have nxt : ∀ x : Int, x = ((orU (rfB (toF u.pl) (loF u.pl n) n) (v + 1) : Nat) : Int)->qg.u7.l (k + 1) kx j f up to s (n : Int) x (w64 ((v : Int) + 1)) h = kx f up to s (n : Int) ((frW u n : Nat) : Int) h := by
   rintro x rfl
   rw [zw (by omega) (by omega)]
   exact ih (v + 1) (by omega) (by omega) α kx
  have zero : rfB (toF u.pl) (loF u.pl n) n v = 0->((orU (rfB (toF u.pl) (loF u.pl n) n) v : Nat) : Int) = ((orU (rfB (toF u.pl) (loF u.pl n) n) (v + 1) : Nat) : Int) := fun e => by
   rw [orU, e, Nat.or_zero]
  by_cases h0 : 0≤toF u.pl v
  rotate_left
  ·rw [dF h0, cond_false]
   exact nxt _ (zero (by unfold rfB; rw [if_neg (fun c => h0 c.1)]))
  obtain ⟨t, ht, ht1, ht2, _⟩ := y.tb v hlt h0
  rw [dT h0, cond_true, zmt wd ru rfl rfl hn hlt k (by omega)]
  by_cases c1 : loF u.pl n≤v ∧ v≤n
  rotate_left
  ·rw [decide_eq_false c1, cond_false]
   exact nxt _ (zero (by unfold rfB; rw [if_neg (fun c => c1 c.2.1)]))
  rw [decide_eq_true c1, cond_true, jt rt rfl (wd.to hlt), zmt wd ru ht rfl hn ht2 k (by omega)]
  by_cases c2 : loF u.pl n≤t ∧ t≤n
  ·rw [decide_eq_true c2, Bool.not_true, cond_false]
   exact nxt _ (zero (by unfold rfB; rw [if_neg (fun c => c.2.2 ⟨by omega, by omega⟩)]))
  ·have hw : IntKind.wrap .u64 (toF u.pl v) = (t : Int) := by rw [ht, IntKind.wrap_u64]; omega
   rw [decide_eq_false c2, Bool.not_false, cond_true, jt rt rfl (wd.to hlt), zoo (by rw [hw, decide_eq_true_eq]; omega), sh_int hw (by omega), or_int (orU_lt v fun q hq => rfB_lt wd _ _ (by omega)) (zll (by omega))]
   refine nxt _ ?_
   rw [orU]
   congr 2
   unfold rfB
   rw [if_pos ⟨h0, c1, fun c => c2 ⟨by omega, by omega⟩⟩, ht, Int.toNat_natCast]
theorem tab_snoc {β : Type} (n : Nat) (g : Nat->β) : tab (n + 1) g = tab n g ++ [g n] := by simp [tab, List.range_succ]
theorem cUs_snoc (l : List Int) (x : Int) : cUs (l ++ [x]) = cUs l ++ cU x := by simp [List.flatMap_append]
theorem zlj {s : Sl} {l : List Int} (r : Rd h s 1 (cUs l)) : s.len = l.length := slen (size := 1) (fun _ => rfl) (by decide) r
theorem zri (wd : Wide l u) (r : NdR h₀ f l) (ru : Rd h₀ up 1 (cIs (upA u.pl 0 (-1)))) (rt : Rd h₀ to 1 (cIs (toA u.pl 0 []))) (k : Nat) (hk : 200≤k) : ∀ (j n : Nat) (h : H) (s : Sl), n≤u.size->u.size - n < j->Ext h₀ h->App h s 1 (cUs (tab n fun v => ((frW u v : Nat) : Int)))->zaf h₀ s ->
  ∃ h' s', (∀ (α : Type) (kx : Sl->M α), qg.u17.l (k + 1) kx j f up to s (n : Int) h = kx s' h') ∧ Ext h₀ h' ∧ App h' s' 1 (cUs (tab u.size fun v => ((frW u v : Nat) : Int))) ∧ zaf h₀ s' := by
 have y := wd.lay
 have hs := wd.size
 have hfl : f.len = u.size := by rw [yl r, wd.len]
 intro j
 induction j with
 | zero => intro n h s hv hj; omega
 | succ j ih =>
  intro n h s hv hj x ap ow
  by_cases hlt : n < u.size
  rotate_left
  ·have : n = u.size := by omega
   subst this
   refine ⟨h, s, fun α kx => ?_, x, ap, ow⟩
   rw [qg.u17.l, qg.u16.f, qg.u3.f, hfl, dF (by omega : ¬ (u.size : Int) < (u.size : Int)), cond_false]
  have hsl := zlj ap.rd
  rw [zav] at hsl
  obtain ⟨h2, e2, ap2, g2, n2, k2⟩ := zhy (bytes := 8) (more := cU ((frW u n : Nat) : Int)) ap rfl rfl (n := 1) (by decide) (by decide) (room1 _ (by omega))
  have x2 : Ext h₀ h2 := by
   refine ⟨by rw [n2]; have := x.1; omega, fun q hq => ?_⟩
   rw [k2 q (Nat.lt_of_lt_of_le hq x.1) (fun _ a ha => by have := ow a ha; omega)]
   exact x.2 q hq
  obtain ⟨h', s', e', x', ap', ow'⟩ := ih (n + 1) h2 _ (by omega) (by omega) x2 (by rw [tab_snoc, cUs_snoc]; exact ap2) (fun a ha => by cases ha; show h₀.next≤h.next + 1; have := x.1; omega)
  refine ⟨h', s', fun α kx => ?_, x', ap', ow'⟩
  have inn := zps wd (r.ext x) (ru.ext x) (rt.ext x) hlt s k hk (k + 1) 0 (Nat.zero_le _) (by omega) α
  rw [qg.u17.l, qg.u16.f, qg.u3.f, hfl, dT (by omega : (n : Int) < (u.size : Int)), cond_true, qg.u15.f, qg.u13.f, qg.u12.f, qg.u4.f, qg.u11.f, qg.u9.f, qg.u5.f, qg.u8.f, qg.u7.f]
  refine (inn _).trans ?_
  rw [qg.u10.f]
  refine (e2 α _).trans ?_
  rw [qg.u14.f, zw (by omega) (by omega)]
  exact e' α kx
theorem zra (k : Nat) (hk : 1000≤k) (wd : Wide l u) (hp : pos5 u = true) (hnl : NL l) (h : H) (r : NdR h f l) :
  ∃ s h', (∀ (α : Type) (ret : Sl->M α), qg.f (k + 1) f ret h = ret s h') ∧ Ext h h' ∧ App h' s 1 (cUs (tab u.size fun v => ((frW u v : Nat) : Int))) ∧ zaf h s := by
 obtain ⟨k, rfl⟩ : ∃ q, k = q + 1 := ⟨k - 1, by omega⟩
 have hs := wd.size
 obtain ⟨h1, e1, x1⟩ := zph k (by omega) wd hnl h r
 rw [hp] at e1
 obtain ⟨h2, up, e2, m2⟩ := upw_run k (by omega) wd h1 (r.ext x1)
 have x2 := x1.trans m2.ext
 obtain ⟨to, h3, e3, x3, rt⟩ := zse k (by omega) wd hnl h2 (r.ext x2)
 have x13 := x2.trans x3
 obtain ⟨h', s', e', x', ap', ow'⟩ := zri wd (r.ext x13) (m2.own.rd.ext x3) rt k (by omega) (k + 1) 0 h3 Sl.nil (Nat.zero_le _) (by omega) (Ext.refl h3) (App.nilSl _ _) (zaf.nil _)
 refine ⟨s', h', fun α ret => ?_, x13.trans x', ap', fun a ha => Nat.le_trans x13.1 (ow' a ha)⟩
 rw [qg.f, qg.u22.f, qg.u1.f, e1, Bool.not_true, cond_false, e2, e3, qg.u21.f, qg.u19.f, qg.u2.f, qg.u18.f, qg.u17.f]
 refine (e' α _).trans ?_
 rw [qg.u20.f]
theorem rfree_not (k : Nat) (hn : zdy l ∨ ∃ u, Wide l u ∧ pos5 u = false) (hnl : NL l) (hr : Room l.length) (hk : 1000 + l.length≤k) (h : H) (r : NdR h f l) :
  ∃ h', (∀ (α : Type) (ret : Sl->M α), qg.f (k + 1) f ret h = ret Sl.nil h') ∧ Ext h h' := by
 obtain ⟨k, rfl⟩ : ∃ q, k = q + 1 := ⟨k - 1, by omega⟩
 obtain ⟨h1, e1, x1⟩ : ∃ h', (∀ (α : Type) (ret : Bool->M α), qaa.f (k + 1) f ret h = ret false h') ∧ Ext h h' := by
  rcases hn with w | ⟨u, w, hp⟩
  ·exact ris_not k w hnl hr (by omega) h r
  ·obtain ⟨h1, e1, x1⟩ := zph k (by omega) w hnl h r
   rw [hp] at e1
   exact ⟨h1, e1, x1⟩
 refine ⟨h1, fun α ret => ?_, x1⟩
 rw [qg.f, qg.u22.f, qg.u1.f, e1]
 rfl
end
end Go.Ab.S5
namespace Go.Ab.S5
set_option linter.unusedVariables false
set_option linter.unusedSimpArgs false
def ty1 : Tr := .un 11 [88] 0 (.un 10 [89] 6 (.bin 7 [] 21 (.bin 6 [] 17 (.un 8 [97] 12 (.leaf 4 [88] 15)) (.leaf 3 [112] 19)) (.un 8 [97] 23 (.leaf 4 [89] 26))))
theorem py1 : parseF [110, 117, 32, 88, 46, 32, 109, 117, 32, 89, 46, 32, 60, 97, 62, 88, 32, 38, 32, 112, 32, 124, 32, 60, 97, 62, 89] = .ok (ty1.flat 0) := by kernel_rfl
theorem wy1 : Wide (ty1.flat 0) ty1 := ⟨by decide, by decide, rfl, by decide⟩
theorem fy1 : frW ty1 7 = 256 := by kernel_rfl
theorem ry1 : rkT ty1 7 = 1 := by kernel_rfl
theorem ry2 : rkT ty1 8 = 2 := by kernel_rfl
theorem zrs (k : Nat) (hk : 4000000≤k) (h : H) : ∃ h', (∀ (α : Type) (ret : Bool->M α), qbl.f (k + 1) ret h = ret true h') ∧ Ext h h' := by
 obtain ⟨k, rfl⟩ : ∃ q, k = q + 1 := ⟨k - 1, by omega⟩
 have a1 := parse_run k (by omega) [110, 117, 32, 88, 46, 32, 109, 117, 32, 89, 46, 32, 60, 97, 62, 88, 32, 38, 32, 112, 32, 124, 32, 60, 97, 62, 89] h
 rw [py1] at a1
 obtain ⟨h1, s1, e1, x1, p1, _⟩ := a1
 obtain ⟨w, h2, e2, m2⟩ := zip k (by omega) wy1 (by decide) h1 p1.rd
 obtain ⟨r, h3, e3, m3⟩ := zrj k (by omega) wy1 (by decide) p1.fine h2 (p1.rd.ext m2.ext)
 refine ⟨h3, fun α ret => ?_, (x1.trans m2.ext).trans m3.ext⟩
 have rw' := m2.own.rd.ext m3.ext
 have hw : w.len = 9 := by rw [zlj rw', zav]; rfl
 have hr : r.len = 9 := by rw [zca m3.own.rd, zav]; rfl
 rw [qbl.f, qbl.u1.f, e1, e2, e3, zie, cond_true, hw, dT (by decide : ((9 : Nat) : Int) = 9), cond_true, zil rw' (x := 7) (i := 7) rfl (zbc (by decide) _), fy1, dT (by decide : ((256 : Nat) : Int) = 256), cond_true, hr, dT (by decide : ((9 : Nat) : Int) = 9), cond_true,
  jt m3.own.rd (x := 7) (i := 7) rfl (zbc (by decide) _), ry1, dT (by decide : ((1 : Nat) : Int) = 1), cond_true, jt m3.own.rd (x := 8) (i := 8) rfl (zbc (by decide) _), ry2, dT (by decide : ((2 : Nat) : Int) = 2)]
theorem pos_or (l : List Nd) : (∃ u, Wide l u ∧ pos5 u = true) ∨ (zdy l ∨ ∃ u, Wide l u ∧ pos5 u = false) := by
 rcases wide_or l with ⟨u, w⟩ | w
 ·cases hp : pos5 u with
  | true => exact .inl ⟨u, w, hp⟩
  | false => exact .inr (.inr ⟨u, w, hp⟩)
 ·exact .inr (.inl w)
end Go.Ab.S5
namespace Go.Ab.S5
set_option linter.unusedVariables false
set_option linter.unusedSimpArgs false
section
variable {u : Tr} {l : List Nd} {h₀ h : H} {f w s : Sl}
abbrev notU (x : Nat) : Int := bits .xor .u64 (IntKind.max .u64) (x : Int)
theorem zqf (wd : Wide l u) (rw' : Rd h₀ w 1 (cUs (tab u.size fun v => ((frW u v : Nat) : Int)))) (t : Int) (k : Nat) : ∀ (j i : Nat) (h : H), i≤u.size->u.size - i < j ->
  Mine h₀ h s (cUs (tab u.size fun v => if v < i then notU (frW u v) else ((frW u v : Nat) : Int))) ->
  ∃ h', (∀ (α : Type) (kr : Bool->M α) (kx : Sl->Bool->Sl->Int->M α), qi.u6.l k kr kx j f true w t s (i : Int) h = kx f true w t h') ∧ Ext h₀ h' := by
 have hs := wd.size
 intro j
 induction j with
 | zero => intro i h hi hj; omega
 | succ j ih =>
  intro i h hi hj m
  have hsl : s.len = u.size := by rw [zlj m.own.rd, zav]
  by_cases hlt : i < u.size
  rotate_left
  ·refine ⟨h, fun α kr kx => ?_, m.ext⟩
   rw [qi.u6.l, qi.u5.f, hsl, dF (by omega : ¬ (i : Int) < (u.size : Int)), cond_false]
  obtain ⟨h1, e1, m1, _⟩ := m.stU (x := (i : Int)) (i := i) (notU (frW u i)) rfl (by rw [zav]; exact hlt)
  rw [zjv, zad (g' := fun v => if v < i + 1 then notU (frW u v) else ((frW u v : Nat) : Int)) (fun v hv => by
   by_cases e : v = i
   ·subst e; rw [if_pos rfl, if_pos (show v < v + 1 by omega)]
   ·by_cases h2 : v < i
    ·rw [if_neg e, if_pos h2, if_pos (show v < i + 1 by omega)]
    ·rw [if_neg e, if_neg h2, if_neg (show ¬ v < i + 1 by omega)])] at m1
  obtain ⟨h2, e2, x2⟩ := ih (i + 1) h1 (by omega) (by omega) m1
  refine ⟨h2, fun α kr kx => ?_, x2⟩
  have hg : (tab u.size fun v => if v < i then notU (frW u v) else ((frW u v : Nat) : Int))[i]? = some ((frW u i : Nat) : Int) := by rw [zbc hlt, if_neg (by omega)]
  rw [qi.u6.l, qi.u5.f, hsl, dT (by omega : (i : Int) < (u.size : Int)), cond_true, zil m.own.rd rfl hg, zil (rw'.ext m.ext) rfl (zbc hlt _), dT rfl, Bool.not_true, cond_false, zil m.own.rd rfl hg]
  refine (e1 α _).trans ?_
  rw [zw (by omega) (by omega)]
  exact e2 α kr kx
end
theorem RankFrees_law {f : Sl} {l : List Nd} {h : H} (r : NdR h f l) (hnl : NL l) (hr : Room l.length) (hf : f.fine 5) : ∃ k h', ∀ (α : Type) (ret : Bool->M α), qi.f (k + 1) f ret h = ret true h' := by
 obtain ⟨k, hk1, hk2⟩ : ∃ k, 4000000≤k ∧ l.length + 2000≤k := ⟨4002000 + l.length, by omega, by omega⟩
 refine ⟨k + 1, ?_⟩
 obtain ⟨h1, e1, x1⟩ := zrs k hk1 h
 have round : ∃ w h2, (∀ (α : Type) (ret : Sl->M α), qg.f (k + 1) f ret h1 = ret w h2) ∧ Ext h1 h2 ∧
   ∀ (h3 : H) (t : Int), Ext h2 h3->0≤t->t≤5->∃ h4, Ext h3 h4 ∧ ∀ (α : Type) (kn : Sl->Bool->Sl->Int->M α) (kr : Bool->M α), qi.u11.f (k + 1) f true w t kn kr h3 = kn f true w (t + 1) h4 := by
  rcases pos_or l with ⟨u, wd, hp⟩ | hn
  ·obtain ⟨w, h2, e2, x2, a2, _⟩ := zra k (by omega) wd hp hnl h1 (r.ext x1)
   refine ⟨w, h2, e2, x2, fun h3 t x3 t0 t5 => ?_⟩
   have hs := wd.size
   obtain ⟨s, h4, e4, m4⟩ := zip k (by omega) wd hp h3 (r.ext ((x1.trans x2).trans x3))
   obtain ⟨h5, e5, x5⟩ := zqf (h₀ := h3) (f := f) (s := s) (w := w) wd (a2.rd.ext x3) t (k + 1) (k + 1) 0 h4 (Nat.zero_le _) (by omega) (by
    rw [zad (g' := fun v => ((frW u v : Nat) : Int)) (fun v hv => if_neg (by omega))]; exact m4)
   refine ⟨h5, x5, fun α kn kr => ?_⟩
   have l1 : s.len = u.size := by rw [zlj m4.own.rd, zav]
   have l2 : w.len = u.size := by rw [zlj a2.rd, zav]
   rw [qi.u11.f, qi.u9.f, qi.u8.f, qi.u4.f, e4, Bool.not_true, cond_false, l1, l2, dT rfl, Bool.not_true, cond_false, qi.u7.f, qi.u6.f]
   refine (e5 α _ _).trans ?_
   rw [qi.u10.f, zw (by omega) (by omega)]
  ·obtain ⟨h2, e2, x2⟩ := rfree_not k hn hnl hr (by omega) h1 (r.ext x1)
   refine ⟨Sl.nil, h2, e2, x2, fun h3 t x3 t0 t5 => ?_⟩
   obtain ⟨h4, e4, x4⟩ := free_not k hn hr (by omega) h3 (r.ext ((x1.trans x2).trans x3))
   refine ⟨h4, x4, fun α kn kr => ?_⟩
   rw [qi.u11.f, qi.u9.f, qi.u8.f, qi.u4.f, e4, Bool.not_true, cond_false, dT rfl, Bool.not_true, cond_false, qi.u7.f, qi.u6.f, qi.u6.l, qi.u5.f, dF (by show ¬ ((0 : Int) < ((0 : Nat) : Int)); omega), cond_false, qi.u10.f, zw (by omega) (by omega)]
 obtain ⟨w, h2, e2, x2, rd⟩ := round
 obtain ⟨h3, x3, e3⟩ := rd h2 0 (Ext.refl h2) (by decide) (by decide)
 obtain ⟨h4, x4, e4⟩ := rd h3 1 x3 (by decide) (by decide)
 refine ⟨h4, fun α ret => ?_⟩
 obtain ⟨k2, rfl⟩ : ∃ q, k = q + 2 := ⟨k - 2, by omega⟩
 rw [qi.f, qi.u18.f, qi.u1.f, e1, e2, qi.u17.f, qi.u15.f, qi.u2.f, qi.u14.f, qi.u13.f]
 rw [qi.u13.l, qi.u12.f, qi.u3.f, dT (by decide), cond_true, e3]
 rw [qi.u13.l, qi.u12.f, qi.u3.f, dT (by decide), cond_true]
 refine (e4 α _ _).trans ?_
 rw [qi.u13.l, qi.u12.f, qi.u3.f, dF (by decide), cond_false, qi.u16.f]
end Go.Ab.S5
