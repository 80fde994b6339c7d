import Derived.Test.YtmanohnlcedeaaaDoorS5u
import Derived.Test.YtmanohnlcedeaaaDoorS5nl
import Derived.Laws.BitsAllLaws
import Derived.Test.YtmanohnlcedeaaaDoorS5n
namespace Go.Ab.S5
set_option linter.unusedVariables false
set_option linter.unusedSimpArgs false
theorem fit_sub {r t : Tr} {b : Nat} {A : Anc} {q : Int} (h : At r t b A q) (hr : r.ok = true) (hf : fit r [] = true) : fit t (envA A) = true := by
 induction h with
 | root => exact hf
 | @un k s p a b A q h ih =>
  simp only [fit] at ih
  have e : envA ((b + a.size, (Tr.un k s p a).node b) :: A) = if fixK k = true then (s, false) :: envA A else if k = 5 then zjx (envA A) else envA A := rfl
  rw [e]
  by_cases hk : fixK k = true
  ·rw [if_pos hk] at ih ⊢; exact ih
  ·rw [if_neg hk] at ih ⊢
   by_cases h5 : k = 5
   ·rw [if_pos h5] at ih ⊢; exact ih
   ·rw [if_neg h5] at ih ⊢; exact ih
 | left h ih =>
  have ho := zfb h hr
  simp only [Tr.ok, Bool.and_eq_true, decide_eq_true_eq] at ho
  simp only [fit, Bool.and_eq_true] at ih
  simp only [envA, Tr.node]
  rcases ziw ho.1.1.1 with e | e <;> subst e <;> exact ih.1
 | right h ih =>
  have ho := zfb h hr
  simp only [Tr.ok, Bool.and_eq_true, decide_eq_true_eq] at ho
  simp only [fit, Bool.and_eq_true] at ih
  simp only [envA, Tr.node]
  rcases ziw ho.1.1.1 with e | e <;> subst e <;> exact ih.2
theorem zqg {r : Tr} (hr : r.ok = true) (hf : fit r [] = true) : ∀ i, i < r.size->(ndF r i).kind = 4->0≤toF r i := by
 intro i hi h4
 obtain ⟨t, b, A, q, h, hb, _⟩ := At.all r i hi
 obtain ⟨e1, e2, e3, e4, _⟩ := zcn h hb
 have ho := zfb h hr
 rw [e1] at h4
 rw [e4]
 cases t with
 | leaf k s p =>
  simp only [Tr.node] at h4
  have := fit_sub h hr hf
  simp only [fit] at this
  have := (zpc (k := k) (s := s) (A := A)).2 this
  simp only [zjk]
  have := this.1
  omega
 | un k s p a =>
  simp only [Tr.node] at h4
  simp only [Tr.ok, Bool.and_eq_true, decide_eq_true_eq] at ho
  rw [h4] at ho; exact absurd ho.1.1 (by decide)
 | bin k s p a c =>
  simp only [Tr.node] at h4
  simp only [Tr.ok, Bool.and_eq_true, decide_eq_true_eq] at ho
  rw [h4] at ho; exact absurd ho.1.1.1 (by decide)
def tab {β : Type} (N : Nat) (g : Nat->β) : List β := (List.range N).map g
section
variable {β : Type} {N : Nat} {g g' : Nat->β}
theorem zaq (N : Nat) (g : Nat->β) : (tab N g).length = N := by simp [tab]
theorem yt {v : Nat} (h : v < N) (g : Nat->β) : (tab N g)[v]? = some (g v) := by simp [tab, h]
theorem zag (h : ∀ v, v < N->g v = g' v) : tab N g = tab N g' := List.map_congr_left fun v hv => h v (List.mem_range.1 hv)
theorem zmv (N : Nat) (g : Nat->β) (i : Nat) (x : β) : (tab N g).set i x = tab N (fun v => if v = i then x else g v) := by
 refine List.ext_getElem? fun v => ?_
 rw [List.getElem?_set]
 by_cases hv : v < N
 ·rw [yt hv, yt hv]
  by_cases h : i = v
  ·subst h; rw [if_pos rfl, zaq, if_pos hv, if_pos rfl]
  ·rw [if_neg h, if_neg (Ne.symm h)]
 ·have e1 : ∀ g : Nat->β, (tab N g)[v]? = none := fun g => List.getElem?_eq_none (by rw [zaq]; omega)
  rw [e1, e1]
  by_cases h : i = v
  ·subst h; rw [if_pos rfl, zaq, if_neg hv]
  ·rw [if_neg h]
theorem tab_rep (N : Nat) (x : β) : List.replicate N x = tab N (fun _ => x) := by
 refine List.ext_getElem? fun v => ?_
 by_cases hv : v < N
 ·rw [yt hv, List.getElem?_replicate, if_pos hv]
 ·rw [List.getElem?_eq_none (by simp; omega), List.getElem?_eq_none (by rw [zaq]; omega)]
end
abbrev cUs (l : List Int) : List V := l.flatMap cU
theorem Mine.stU {h₀ h : H} {out : Sl} {T : List Int} (m : Mine h₀ h out (cUs T)) {x : Int} {i : Nat} (v : Int) (hx : x = (i : Int)) (hi : i < T.length) :
  ∃ h', (∀ (α : Type) (K : M α), idxSl out x 1 (fun a => st1 (a.add 0) (.int .u64 v) K) h = K h') ∧ Mine h₀ h' out (cUs (T.set i v)) ∧ h'.next = h.next := by
 obtain ⟨h', e, o, n, g⟩ := u64_st m.own v hx hi
 exact ⟨h', e, ⟨⟨by rw [n]; exact m.ext.1, fun i hi => by rw [g i (by have := m.low; omega)]; exact m.ext.2 i hi⟩, o, m.low⟩, n⟩
theorem sh_nat {i : Nat} (hi : i < 64) : IntKind.wrap .u64 (1 * 2 ^ (min i 64)) = ((2 ^ i : Nat) : Int) := by
 rw [Nat.min_eq_left (by omega), Int.one_mul, show ((2 : Int) ^ i) = ((2 ^ i : Nat) : Int) by simp, IntKind.wrap_u64]
 have : 2 ^ i < 18446744073709551616 := Nat.pow_lt_pow_right (a := 2) (m := i) (n := 64) (by decide) hi
 generalize 2 ^ i = z at this ⊢
 omega
theorem sh_int {i : Nat} {x : Int} (hx : x = (i : Int)) (hi : i < 64) : IntKind.wrap .u64 (1 * 2 ^ (min x.toNat 64)) = ((2 ^ i : Nat) : Int) := by
 rw [hx, Int.toNat_natCast]; exact sh_nat hi
theorem pow_lt64 {i : Nat} (hi : i < 64) : 2 ^ i < 18446744073709551616 := Nat.pow_lt_pow_right (a := 2) (m := i) (n := 64) (by decide) hi
theorem clr_int {m i : Nat} (hm : m < 18446744073709551616) (hi : i < 64) : bits .andNot .u64 (m : Int) ((2 ^ i : Nat) : Int) = ((clr m i : Nat) : Int) := u64_andNot_nat m _ hm (pow_lt64 hi)
theorem or_int {a b : Nat} (ha : a < 18446744073709551616) (hb : b < 18446744073709551616) : bits .or .u64 (a : Int) (b : Int) = ((a ||| b : Nat) : Int) := u64_or_nat a b ha hb
theorem and_int {a b : Nat} (ha : a < 18446744073709551616) (hb : b < 18446744073709551616) : bits .and .u64 (a : Int) (b : Int) = ((a &&& b : Nat) : Int) := u64_and_nat a b ha hb
theorem zhc {α : Type} {h : H} {b : Bool} (hb : b = true) (K : M α) : need b K h = K h := by rw [hb]; rfl
theorem zpy (k : Nat) {s : Sl} {l : List Nd} (hl : l.length≤4611686018427387800) (hs : s.len = l.length) : ∀ (j i : Nat) (h : H), i≤l.length->l.length - i < j->Own h s 5 (cN ((l.take i).map plN ++ l.drop i)) ->
  ∃ h', (∀ (α : Type) (kx : Sl->M α), qo.u4.l k kx j s (l.length : Int) (i : Int) h = kx s h') ∧ Own h' s 5 (cN (l.map plN)) ∧ h'.next = h.next ∧ ∀ i, i ≠ s.id->h'.get i = h.get i := by
 intro j
 induction j with
 | zero => intro i h hi hj; omega
 | succ j ih =>
  intro i h hi hj o
  by_cases hlt : i < l.length
  ·have hn : l[i]? = some l[i] := List.getElem?_eq_getElem hlt
   generalize l[i] = n at hn
   have hg := plN_get hn
   by_cases h12 : n.kind = 12
   ·obtain ⟨h1, e1, o1, n1, g1⟩ := nd_stk o hg 3
    have : ({ n with kind := 3 } : Nd) = plN n := by unfold plN plK; rw [if_pos h12]
    rw [this, zjb hn] at o1
    obtain ⟨h2, e2, o2, n2, g2⟩ := ih (i + 1) h1 (by omega) (by omega) o1
    refine ⟨h2, fun α kx => ?_, o2, by omega, fun i hi => by rw [g2 i hi, g1 i hi]⟩
    rw [qo.u4.l, qo.u3.f, dT (by omega : (i : Int) < (l.length : Int)), cond_true, zfp o.rd rfl hg, dT h12, cond_true]
    refine (e1 α _).trans ?_
    rw [je (by omega) (by omega)]
    exact e2 α kx
   ·have : plN n = n := by unfold plN plK; rw [if_neg h12]
    have o1 := o
    have e0 := zjb hn
    rw [this, show ((l.take i).map plN ++ l.drop i).set i n = (l.take i).map plN ++ l.drop i by
     have hlt' := zbd hg
     rw [List.getElem?_eq_getElem hlt'] at hg
     rw [← Option.some.inj hg]; exact List.set_getElem_self hlt'] at e0
    rw [e0] at o1
    obtain ⟨h2, e2, o2, n2, g2⟩ := ih (i + 1) h (by omega) (by omega) o1
    refine ⟨h2, fun α kx => ?_, o2, n2, g2⟩
    rw [qo.u4.l, qo.u3.f, dT (by omega : (i : Int) < (l.length : Int)), cond_true, zfp o.rd rfl hg, dF h12, cond_false, je (by omega) (by omega)]
    exact e2 α kx
  ·refine ⟨h, fun α kx => ?_, ?_, rfl, fun _ _ => rfl⟩
   ·rw [qo.u4.l, qo.u3.f, dF (by omega : ¬ (i : Int) < (l.length : Int)), cond_false]
   ·rw [List.take_of_length_le (by omega), List.drop_of_length_le (by omega), List.append_nil] at o
    exact o
theorem bound_run (k : Nat) (hk : 700≤k) {f : Sl} {l : List Nd} {u : Tr} (w : Wide l u) (h : H) (r : NdR h f l) :
  ∃ s h', (∀ (α : Type) (ret : Sl->M α), qo.f (k + 1) f ret h = ret s h') ∧ Ext h h' ∧ Rd h' s 1 (cIs (toA u.pl 0 [])) := by
 obtain ⟨k, rfl⟩ : ∃ q, k = q + 1 := ⟨k - 1, by omega⟩
 have hl : l.length≤60 := by rw [w.flat, zt]; exact w.size
 have hpos : l ≠ [] := by intro h0; have := u.pos; have hh := zt u 0; rw [← w.flat, h0] at hh; simp at hh; omega
 obtain ⟨d, h1, e1, x1, r1, o1, w1⟩ := zlv k h r (by unfold Room; omega)
 have hd := zbo r1
 obtain ⟨h2, e2, o2, n2, g2⟩ := zpy (k + 1) (by omega) hd (k + 1) 0 h1 (Nat.zero_le _) (by omega) (o1 hpos)
 have hid : h.next≤d.id := by
  obtain ⟨id, more, q1, q2, q3⟩ := (o1 hpos).blk
  unfold Sl.id
  rw [q1]
  exact w1 _ q1
 have x2 : Ext h h2 := ⟨by have := x1.1; omega, fun i hi => by rw [g2 i (by omega)]; exact x1.2 i hi⟩
 have r2 := o2.rd
 rw [w.flat, ← zdo] at r2
 obtain ⟨h3, s, e3, x3, o3, _⟩ := znz k (by omega) w.ok (by rw [yv]; exact w.size) h2 r2
 refine ⟨s, h3, fun α ret => ?_, x2.trans x3, o3.rd⟩
 rw [qo.f, qo.u9.f, qo.u1.f, e1, qo.u8.f, qo.u6.f, qo.u2.f, hd, qo.u5.f, qo.u4.f]
 refine (e2 α _).trans ?_
 rw [qo.u7.f, e3]
end Go.Ab.S5
namespace Go.Ab.S5
set_option linter.unusedVariables false
set_option linter.unusedSimpArgs false
section
variable {α : Type} {h : H}
theorem free_4 (k : Nat) (x0 x1 x4 : Sl) (x2 x5 x6 : Int) (q : Ad) (kn : Sl->Sl->Sl->Int->Int->M α) : qb.u16.f k x0 x1 x2 q x4 x5 x6 4 kn = qb.u6.f k x0 x1 x2 q x4 x5 x6 4 true kn := by
 simp only [qb.u5.f, ↓cT, decide_true]
theorem free_67 (k : Nat) (x0 x1 x4 : Sl) (x2 x5 x6 : Int) (q : Ad) (kd : Int) (hk : kd = 6 ∨ kd = 7) (kn : Sl->Sl->Sl->Int->Int->M α) : qb.u16.f k x0 x1 x2 q x4 x5 x6 kd kn = qb.u8.f k x0 x1 x2 q x4 x5 x6 kd true kn := by
 rcases hk with rfl | rfl <;> simp only [qb.u5.f, qb.u7.f, ↓cT, ↓cF, decide_true, Int.reduceEq, decide_false]
theorem free_89 (k : Nat) (x0 x1 x4 : Sl) (x2 x5 x6 : Int) (q : Ad) (kd : Int) (hk : kd = 8 ∨ kd = 9) (kn : Sl->Sl->Sl->Int->Int->M α) : qb.u16.f k x0 x1 x2 q x4 x5 x6 kd kn =
  ldI .i64 ((q.add 1).add 0) fun x11 => idxSl x1 x11 1 fun a12 => ldI .u64 (a12.add 0) fun x13 => idxSl x1 x2 1 fun a14 => st1 (a14.add 0) (.int .u64 x13) <| kn x0 x1 x4 x5 x6 := by
 rcases hk with rfl | rfl <;> simp only [qb.u5.f, qb.u7.f, qb.u9.f, qb.u10.f, ↓cT, ↓cF, decide_true, Int.reduceEq, decide_false]
theorem free_fix (k : Nat) (x0 x1 x4 : Sl) (x2 x5 x6 : Int) (q : Ad) (kd : Int) (hk : kd = 10 ∨ kd = 11) (kn : Sl->Sl->Sl->Int->Int->M α) : qb.u16.f k x0 x1 x2 q x4 x5 x6 kd kn =
  ldI .i64 ((q.add 1).add 0) fun x11 => idxSl x1 x11 1 fun a12 => ldI .u64 (a12.add 0) fun x13 => need (decide (0≤x2)) <| idxSl x1 x2 1 fun a14 => st1 (a14.add 0) (.int .u64 (bits .andNot .u64 x13 (IntKind.wrap .u64 (1 * 2 ^ (min x2.toNat 64))))) <| kn x0 x1 x4 x5 x6 := by
 rcases hk with rfl | rfl <;> simp only [qb.u5.f, qb.u7.f, qb.u9.f, qb.u10.f, ↓cT, ↓cF, decide_true, Int.reduceEq, decide_false]
theorem zpq (k : Nat) (x0 x1 x4 : Sl) (x2 x5 x6 : Int) (q : Ad) (kd : Int) (hk : kd = 1 ∨ kd = 2 ∨ kd = 3 ∨ kd = 12) (kn : Sl->Sl->Sl->Int->Int->M α) : qb.u16.f k x0 x1 x2 q x4 x5 x6 kd kn = kn x0 x1 x4 x5 x6 := by
 rcases hk with rfl | rfl | rfl | rfl <;> simp only [qb.u5.f, qb.u7.f, qb.u9.f, qb.u10.f, ↓cT, ↓cF, decide_true, Int.reduceEq, decide_false]
end
theorem zlk {u : Tr} (hok : u.pl.ok = true) (hp : pos5 u = true) {i : Nat} {n : Nd} (hi : (u.flat 0)[i]? = some n) :
  n.kind = 4 ∨ (n.kind = 6 ∨ n.kind = 7) ∨ (n.kind = 8 ∨ n.kind = 9) ∨ (n.kind = 10 ∨ n.kind = 11) ∨ (n.kind = 1 ∨ n.kind = 2 ∨ n.kind = 3 ∨ n.kind = 12) := by
 have h5 := zdw u 0 hok
 rw [hp] at h5
 have hn : n.kind ≠ 5 := fun e => by
  have := List.any_eq_false.1 h5 n (List.mem_of_getElem? hi)
  simp [e] at this
 have hlt := zbd hi
 rw [zt] at hlt
 have y := zor u.pl hok
 have ha := y.ar i (by rw [yv]; exact hlt)
 have e : ndF u.pl i = plN n := zct (by rw [zdo, List.getElem?_map, hi]; rfl)
 rw [e] at ha
 have := arF_kinds (k := n.kind) (by rcases ha with h | h | h <;> (have : arF (plK n.kind) = _ := h; omega))
 unfold kindsW at this
 omega
abbrev frW (u : Tr) : Nat->Nat := frF (toF u.pl) (loF u.pl)
section
variable {u : Tr} {l : List Nd}
theorem Wide.fits (w : Wide l u) : fit u.pl [] = true := ((chk_fit w.ok).1 w.chk).1
theorem Wide.lay (w : Wide l u) : Lay u.size (ndF u.pl) (upF u.pl) (toF u.pl) (loF u.pl) := by
 have := zor u.pl w.ok; rwa [yv] at this
theorem Wide.len (w : Wide l u) : l.length = u.size := by rw [w.flat, zt]
theorem Wide.nd (w : Wide l u) {i : Nat} {n : Nd} (hi : l[i]? = some n) : ndF u.pl i = plN n := zct (by rw [zdo, ← w.flat, List.getElem?_map, hi]; rfl)
theorem Wide.lt (w : Wide l u) {i : Nat} {n : Nd} (hi : l[i]? = some n) : i < u.size := by have := zbd hi; rwa [w.len] at this
theorem Wide.to (w : Wide l u) {i : Nat} (hi : i < u.size) : (toA u.pl 0 [])[i]? = some (toF u.pl i) := by
 have : i < (toA u.pl 0 []).length := by rw [zab, yv]; exact hi
 rw [List.getElem?_eq_getElem this, toF, List.getD_eq_getElem?_getD, List.getElem?_eq_getElem this]; rfl
theorem free_loop {h₀ : H} {f to ws : Sl} (w : Wide l u) (hp : pos5 u = true) (r : NdR h₀ f l) (rt : Rd h₀ to 1 (cIs (toA u.pl 0 []))) (k : Nat) : ∀ (j i : Nat) (h : H), i≤u.size->u.size - i < j ->
  Mine h₀ h ws (cUs (tab u.size fun v => if v < i then ((frW u v : Nat) : Int) else 0)) ->
  ∃ h', (∀ (α : Type) (kx : Sl->M α), qb.u22.l k kx j to ws f (u.size : Int) (i : Int) h = kx ws h') ∧ Mine h₀ h' ws (cUs (tab u.size fun v => ((frW u v : Nat) : Int))) := by
 have y := w.lay
 have hs := w.size
 intro j
 induction j with
 | zero => intro i h hi hj; omega
 | succ j ih =>
  intro i h hi hj m
  by_cases hlt : i < u.size
  rotate_left
  ·have : i = u.size := by omega
   subst this
   refine ⟨h, fun α kx => ?_, ?_⟩
   ·rw [qb.u22.l, qb.u21.f, qb.u3.f, dF (by omega : ¬ (u.size : Int) < (u.size : Int)), cond_false]
   ·rw [zag (g' := fun v => ((frW u v : Nat) : Int)) (fun v hv => if_pos hv)] at m
    exact m
  have hlen := w.len
  have hn : l[i]? = some l[i] := List.getElem?_eq_getElem (by omega)
  generalize l[i] = n at hn
  have e := w.nd hn
  have hk := zlk w.ok hp (by rw [← w.flat]; exact hn)
  have hkd : (ndF u.pl i).kind = plK n.kind := by rw [e]; rfl
  have hna : (ndF u.pl i).a = n.a := by rw [e]; rfl
  have hnb : (ndF u.pl i).b = n.b := by rw [e]; rfl
  -- the node's own copy
  have m1 : Mine h₀ (h.push (ndC n)) ws _ := m.push ((Ext.refl h).push _)
  have hq : (h.push (ndC n)).get h.next = some (ndC n) := by rw [zh, if_pos rfl]
  have st : ∀ (α : Type) (kx : Sl->M α), qb.u22.l k kx (j + 1) to ws f (u.size : Int) (i : Int) h = qb.u16.f k to ws (i : Int) ⟨h.next, 0⟩ f (u.size : Int) (i : Int) n.kind (fun y0 y1 y2 y3 y4 => qb.u22.l k kx j y0 y1 y2 y3 (w64 (y4 + 1))) (h.push (ndC n)) := by
   intro α kx
   rw [qb.u22.l, qb.u21.f, qb.u3.f, dT (by omega : (i : Int) < (u.size : Int)), cond_true, qb.u20.f, qb.u18.f, qb.u17.f, qb.u4.f, zhw (r.ext m.ext) rfl hn, zgx, n5_0]
   rfl
  have key : ∃ h1, (∀ (α : Type) (kn : Sl->Sl->Sl->Int->Int->M α), qb.u16.f k to ws (i : Int) ⟨h.next, 0⟩ f (u.size : Int) (i : Int) n.kind kn (h.push (ndC n)) = kn to ws f (u.size : Int) (i : Int) h1) ∧
    Mine h₀ h1 ws (cUs (tab u.size fun v => if v < i + 1 then ((frW u v : Nat) : Int) else 0)) := by
   have put : ∀ x : Nat, frW u i = x->∃ h1, (∀ (α : Type) (K : M α), idxSl ws (i : Int) 1 (fun a => st1 (a.add 0) (.int .u64 (x : Int)) K) (h.push (ndC n)) = K h1) ∧ Mine h₀ h1 ws (cUs (tab u.size fun v => if v < i + 1 then ((frW u v : Nat) : Int) else 0)) := by
    intro x hx
    obtain ⟨h1, e1, m2, _⟩ := m1.stU (x := (i : Int)) (i := i) (x : Int) rfl (by rw [zaq]; exact hlt)
    refine ⟨h1, e1, ?_⟩
    rw [zmv] at m2
    rw [zag (g' := fun v => if v = i then ((x : Nat) : Int) else if v < i then ((frW u v : Nat) : Int) else 0) (fun v hv => ?_)]
    ·exact m2
    ·by_cases hvi : v = i
     ·subst hvi; rw [if_pos (by omega), if_pos rfl, hx]
     ·rw [if_neg hvi]
      by_cases hv2 : v < i
      ·rw [if_pos hv2, if_pos (by omega)]
      ·rw [if_neg hv2, if_neg (by omega)]
   have get : ∀ (x : Int) (a : Nat) (hx : x = (a : Int)) (ha : a < i) (α : Type) (K : Int->M α), idxSl ws x 1 (fun b => ldI .u64 (b.add 0) K) (h.push (ndC n)) = K ((frW u a : Nat) : Int) (h.push (ndC n)) := by
    intro x a hx ha α K
    refine zhr m1.own.rd hx ?_ K
    rw [yt (by omega), if_pos ha]
   rcases hk with hk | hk | hk | hk | hk
   ·have h0 := zqg w.ok w.fits i (by rw [yv]; exact hlt) (by rw [hkd, hk]; rfl)
    obtain ⟨b, hb, hb1, hb2, _⟩ := y.tb i hlt h0
    obtain ⟨h1, e1, m2⟩ := put (2 ^ b) (by
     show frF (toF u.pl) (loF u.pl) i = _
     rw [frF_var y hlt (by rw [hkd, hk]; rfl) h0, hb, Int.toNat_natCast])
    refine ⟨h1, fun α kn => ?_, m2⟩
    rw [hk, free_4, qb.u6.f, zaa (rt.ext (m.ext.push _)) rfl (w.to hlt), zhc (by rw [decide_eq_true_eq]; exact h0), sh_int hb (by omega)]
    exact e1 α _
   ·obtain ⟨a, b, ha, hb, ha1, hb1, he⟩ := frF_bin y hlt (by rw [hkd]; rcases hk with hk | hk <;> rw [hk] <;> rfl)
    rw [hna] at ha; rw [hnb] at hb
    obtain ⟨h1, e1, m2⟩ := put (frW u a ||| frW u b) he
    refine ⟨h1, fun α kn => ?_, m2⟩
    rw [free_67 _ _ _ _ _ _ _ _ _ hk, qb.u8.f, zfe hq, get _ a ha ha1, own_b hq, get _ b hb hb1, or_int (zbt y hs (by omega)) (zbt y hs (by omega))]
    exact e1 α _
   ·obtain ⟨a, ha, ha1, he⟩ := frF_un y hlt (by rw [hkd]; rcases hk with hk | hk <;> rw [hk] <;> rfl) (by rw [hkd]; rcases hk with hk | hk <;> rw [hk] <;> rfl)
    rw [hna] at ha
    obtain ⟨h1, e1, m2⟩ := put (frW u a) he
    refine ⟨h1, fun α kn => ?_, m2⟩
    rw [free_89 _ _ _ _ _ _ _ _ _ hk, zfe hq, get _ a ha ha1]
    exact e1 α _
   ·obtain ⟨a, ha, ha1, he⟩ := frF_fix y hs hlt (by rw [hkd]; rcases hk with hk | hk <;> rw [hk] <;> rfl)
    rw [hna] at ha
    obtain ⟨h1, e1, m2⟩ := put (clr (frW u a) i) (he (by rw [hkd]; rcases hk with hk | hk <;> rw [hk] <;> rfl))
    refine ⟨h1, fun α kn => ?_, m2⟩
    rw [free_fix _ _ _ _ _ _ _ _ _ hk, zfe hq, get _ a ha ha1, zhc (by rw [decide_eq_true_eq]; omega), sh_int rfl (by omega), clr_int (zbt y hs (by omega)) (by omega)]
    exact e1 α _
   ·have he : frW u i = 0 := zod y hlt (by rw [hkd]; rcases hk with hk | hk | hk | hk <;> rw [hk] <;> rfl) (by rw [hkd]; rcases hk with hk | hk | hk | hk <;> rw [hk] <;> decide)
    refine ⟨h.push (ndC n), fun α kn => by rw [zpq _ _ _ _ _ _ _ _ _ hk], ?_⟩
    rw [zag (g' := fun v => if v < i then ((frW u v : Nat) : Int) else 0) (fun v hv => ?_)]
    ·exact m1
    ·by_cases hvi : v = i
     ·subst hvi; rw [if_pos (by omega), if_neg (by omega), he]; rfl
     ·by_cases hv2 : v < i
      ·rw [if_pos hv2, if_pos (by omega)]
      ·rw [if_neg hv2, if_neg (by omega)]
  obtain ⟨h1, e1, m2⟩ := key
  obtain ⟨h2, e2, m3⟩ := ih (i + 1) h1 (by omega) (by omega) m2
  refine ⟨h2, fun α kx => ?_, m3⟩
  rw [st, e1, je (by omega) (by omega)]
  exact e2 α kx
theorem zho (k : Nat) (hk : 1000≤k) {f : Sl} (w : Wide l u) (hp : pos5 u = true) (h : H) (r : NdR h f l) :
  ∃ s h', (∀ (α : Type) (ret : Sl->M α), qb.f (k + 1) f ret h = ret s h') ∧ Mine h h' s (cUs (tab u.size fun v => ((frW u v : Nat) : Int))) := by
 obtain ⟨k, rfl⟩ : ∃ q, k = q + 1 := ⟨k - 1, by omega⟩
 have hs := w.size
 have hfl : f.len = u.size := by rw [zbo r, w.len]
 obtain ⟨h1, e1, x1⟩ := ziu k (by omega) w h r
 rw [hp] at e1
 obtain ⟨to, h2, e2, x2, rt⟩ := bound_run k (by omega) w h1 (r.ext x1)
 obtain ⟨h3, e3, o3, n3, x3⟩ := mkU_run (h := h2) (n := u.size) (x := (f.len : Int)) (y := (f.len : Int)) (by rw [hfl]) (by rw [hfl]) (by omega)
 rw [tab_rep] at o3
 obtain ⟨h4, e4, m4⟩ := free_loop (h₀ := h2) w hp ((r.ext x1).ext x2) rt (k + 1) (k + 1) 0 h3 (by omega) (by omega) ⟨x3, o3, Nat.le_refl _⟩
 refine ⟨_, h4, fun α ret => ?_, (x1.trans x2).trans m4.ext, m4.own, Nat.le_trans (x1.trans x2).1 m4.low⟩
 rw [qb.f, qb.u27.f, qb.u1.f, e1]
 rw [show (!true) = false from rfl, cond_false, e2, e3, qb.u26.f, qb.u24.f, qb.u2.f, qb.u23.f, qb.u22.f, hfl]
 refine (e4 α _).trans ?_
 rw [qb.u25.f]
theorem znr (k : Nat) {f : Sl} (hn : zft l ∨ ∃ u, Wide l u ∧ pos5 u = false) (hr : Room l.length) (hk : 1000 + l.length≤k) (h : H) (r : NdR h f l) :
  ∃ h', (∀ (α : Type) (ret : Sl->M α), qb.f (k + 1) f ret h = ret Sl.nil h') ∧ Ext h h' := by
 obtain ⟨k, rfl⟩ : ∃ q, k = q + 1 := ⟨k - 1, by omega⟩
 obtain ⟨h1, e1, x1⟩ : ∃ h', (∀ (α : Type) (ret : Bool->M α), qab.f (k + 1) f ret h = ret false h') ∧ Ext h h' := by
  rcases hn with w | ⟨u, w, hp⟩
  ·exact is_not k w hr (by omega) h r
  ·obtain ⟨h1, e1, x1⟩ := ziu k (by omega) w h r
   rw [hp] at e1
   exact ⟨h1, e1, x1⟩
 refine ⟨h1, fun α ret => ?_, x1⟩
 rw [qb.f, qb.u27.f, qb.u1.f, e1]
 rfl
end
end Go.Ab.S5
namespace Go.Ab.S5
set_option linter.unusedVariables false
set_option linter.unusedSimpArgs false
theorem zny {x : Nat} (h0 : x ≠ 0) (hx : x < 18446744073709551616) : ∃ m, x = 2 ^ (Lib.ctz 64 x + 1) * m + 2 ^ Lib.ctz 64 x ∧ Lib.ctz 64 x < 64 := by
 obtain ⟨m, h1, h2⟩ := Lib.ctzFrom_spec 64 x (by omega) hx
 have e : Lib.ctz 64 x = Lib.ctzFrom 64 x := by simp [Lib.ctz, h0]
 rw [e]
 refine ⟨m, ?_, h2⟩
 rw [Nat.pow_succ]
 conv => lhs; rw [h1]
 rw [Nat.mul_add, Nat.mul_one, Nat.mul_assoc]
theorem low_bits {x : Nat} (h0 : x ≠ 0) (hx : x < 18446744073709551616) : x.testBit (Lib.ctz 64 x) = true ∧ (∀ b, x.testBit b = true->Lib.ctz 64 x≤b) ∧ ∀ b, (x &&& (x - 1)).testBit b = true ↔ x.testBit b = true ∧ b ≠ Lib.ctz 64 x := by
 obtain ⟨m, e, h2⟩ := zny h0 hx
 generalize Lib.ctz 64 x = c at e h2 ⊢
 have p1 : 2 ^ c < 2 ^ (c + 1) := Nat.pow_lt_pow_right (by decide) (by omega)
 have p0 : 0 < 2 ^ c := Nat.pow_pos (by decide)
 have b1 : ∀ b, x.testBit b = if b < c + 1 then decide (c = b) else m.testBit (b - (c + 1)) := fun b => by
  rw [e, Nat.testBit_two_pow_mul_add m p1, Nat.testBit_two_pow]
 have b2 : ∀ b, (x - 1).testBit b = if b < c + 1 then decide (b < c) else m.testBit (b - (c + 1)) := fun b => by
  rw [show x - 1 = 2 ^ (c + 1) * m + (2 ^ c - 1) by omega, Nat.testBit_two_pow_mul_add m (by omega), Nat.testBit_two_pow_sub_one]
 refine ⟨by rw [b1, if_pos (by omega)]; simp, fun b hb => ?_, fun b => ?_⟩
 ·rw [b1] at hb
  by_cases hbc : b < c + 1
  ·rw [if_pos hbc, decide_eq_true_eq] at hb; omega
  ·omega
 ·rw [Nat.testBit_and, b1, b2, Bool.and_eq_true]
  by_cases hbc : b < c + 1
  ·rw [if_pos hbc, if_pos hbc, decide_eq_true_eq, decide_eq_true_eq]; omega
  ·rw [if_neg hbc, if_neg hbc]
   constructor
   ·rintro ⟨h, _⟩; exact ⟨h, by omega⟩
   ·rintro ⟨h, _⟩; exact ⟨h, h⟩
theorem ctz_lt {x : Nat} (h0 : x ≠ 0) (hx : x < 18446744073709551616) : Lib.ctz 64 x < 64 := by obtain ⟨m, _, h⟩ := zny h0 hx; exact h
theorem tz_run {α : Type} {h : H} (k : Nat) {x : Nat} (hx : x < 18446744073709551616) (ret : Int->M α) : qba.f (k + 1) (x : Int) ret h = ret ((Lib.ctz 64 x : Nat) : Int) h := by
 rw [qba.f, zhc (by rw [Bool.and_eq_true, decide_eq_true_eq, decide_eq_true_eq]; omega), Int.toNat_natCast]
theorem less_one {x : Nat} (h0 : x ≠ 0) (hx : x < 18446744073709551616) : bits .and .u64 (x : Int) (IntKind.wrap .u64 ((x : Int) - 1)) = ((x &&& (x - 1) : Nat) : Int) := by
 have : IntKind.wrap .u64 ((x : Int) - 1) = ((x - 1 : Nat) : Int) := by rw [IntKind.wrap_u64]; omega
 rw [this]; exact and_int hx (by omega)
structure Two (h₀ h : H) (a b : Sl) (A B : List Int) : Prop where
 ext : Ext h₀ h
 oa : Own h a 1 (cIs A)
 ob : Own h b 1 (cIs B)
 la : h₀.next≤a.id
 lb : h₀.next≤b.id
 ne : a.id ≠ b.id
section
variable {h₀ h : H} {a b : Sl} {A B : List Int}
theorem Two.push (m : Two h₀ h a b A B) {h' : H} (x : Ext h h') : Two h₀ h' a b A B := ⟨m.ext.trans x, m.oa.ext x, m.ob.ext x, m.la, m.lb, m.ne⟩
theorem Two.sta (m : Two h₀ h a b A B) {x : Int} {i : Nat} (v : Int) (hx : x = (i : Int)) (hi : i < A.length) :
  ∃ h', (∀ (α : Type) (K : M α), idxSl a x 1 (fun p => st1 (p.add 0) (.int .i64 v) K) h = K h') ∧ Two h₀ h' a b (A.set i v) B := by
 obtain ⟨h', e, o, n, g⟩ := zjl m.oa v hx hi
 exact ⟨h', e, ⟨by rw [n]; exact m.ext.1, fun i hi => by rw [g i (by have := m.la; omega)]; exact m.ext.2 i hi⟩, o, m.ob.keep (by omega) (g _ (Ne.symm m.ne)), m.la, m.lb, m.ne⟩
theorem Two.stb (m : Two h₀ h a b A B) {x : Int} {i : Nat} (v : Int) (hx : x = (i : Int)) (hi : i < B.length) :
  ∃ h', (∀ (α : Type) (K : M α), idxSl b x 1 (fun p => st1 (p.add 0) (.int .i64 v) K) h = K h') ∧ Two h₀ h' a b A (B.set i v) := by
 obtain ⟨h', e, o, n, g⟩ := zjl m.ob v hx hi
 exact ⟨h', e, ⟨by rw [n]; exact m.ext.1, fun i hi => by rw [g i (by have := m.lb; omega)]; exact m.ext.2 i hi⟩, m.oa.keep (by omega) (g _ m.ne), o, m.la, m.lb, m.ne⟩
theorem bits_loop {w f : Sl} {i N : Nat} {A : List Int} {x : Nat} (hN : N≤60) (hA : A[i]? = some (x : Int)) (z : Int) (k : Nat) : ∀ (j c rest : Nat) (g : Nat->Nat) (h : H), rest < 18446744073709551616 ->
  (∀ q, rest.testBit q = true->c≤q ∧ q < N)->c≤N->N - c < j->Two h₀ h a b A (tab N fun v => ((g v : Nat) : Int)) ->
  ∃ h', (∀ (α : Type) (kx : Sl->Sl->Sl->Sl->Int->Int->M α), qf.u8.l (k + 1) kx j w a b (i : Int) (rest : Int) f z (i : Int) h = kx w a b f z (i : Int) h') ∧
   Two h₀ h' a b A (tab N fun v => ((if rest.testBit v = true then max (g v) x else g v : Nat) : Int)) := by
 intro j
 induction j with
 | zero => intro c rest g h _ _ _ hj; omega
 | succ j ih =>
  intro c rest g h hr hq hc hj m
  by_cases h0 : rest = 0
  ·subst h0
   refine ⟨h, fun α kx => ?_, ?_⟩
   ·rw [qf.u8.l, qf.u7.f]
    rfl
   ·rw [zag (g' := fun v => ((g v : Nat) : Int)) (fun v hv => by rw [Nat.zero_testBit]; rfl)]
    exact m
  obtain ⟨b1, b2, b3⟩ := low_bits h0 hr
  have hlt := ctz_lt h0 hr
  have hz : (!(decide ((rest : Int) = 0))) = true := by rw [decide_eq_false (by omega)]; rfl
  have ht := fun (α : Type) (h : H) (ret : Int->M α) => tz_run (h := h) k hr ret
  generalize Lib.ctz 64 rest = y at b1 b2 b3 hlt ht
  obtain ⟨y1, y2⟩ := hq y b1
  obtain ⟨h1, e1, m1⟩ := m.stb (x := (y : Int)) (i := y) (if (x : Int) > ((g y : Nat) : Int) then (x : Int) else ((g y : Nat) : Int)) rfl (by rw [zaq]; exact y2)
  rw [zmv, zag (g' := fun v => (((if v = y then max (g v) x else g v) : Nat) : Int)) (fun v hv => by
   by_cases e : v = y
   ·subst e
    rw [if_pos rfl, if_pos rfl]
    by_cases hx : (x : Int) > ((g v : Nat) : Int)
    ·rw [if_pos hx, Nat.max_eq_right (by omega)]
    ·rw [if_neg hx, Nat.max_eq_left (by omega)]
   ·rw [if_neg e, if_neg e])] at m1
  have hr' : rest &&& (rest - 1) < 18446744073709551616 := Nat.lt_of_le_of_lt Nat.and_le_left hr
  obtain ⟨h2, e2, m2⟩ := ih (y + 1) (rest &&& (rest - 1)) (fun v => if v = y then max (g v) x else g v) h1 hr' (fun q hb => by
   have := (b3 q).1 hb
   have h3 := b2 q this.1
   exact ⟨by omega, (hq q this.1).2⟩) (by omega) (by omega) m1
  refine ⟨h2, fun α kx => ?_, ?_⟩
  ·rw [qf.u8.l, qf.u7.f, hz, cond_true, ht, zaa m.ob.rd rfl (yt y2 _), zaa m.oa.rd rfl hA]
   refine (e1 α _).trans ?_
   rw [less_one h0 hr]
   exact e2 α kx
  ·rw [zag (g' := fun v => (((if rest.testBit v = true then max (g v) x else g v) : Nat) : Int)) (fun v hv => ?_)] at m2
   ·exact m2
   ·have := b3 v
    by_cases e : v = y
    ·subst e
     rw [if_neg (by rw [this]; exact fun h => h.2 rfl), if_pos rfl, if_pos b1]
    ·by_cases hv2 : rest.testBit v = true
     ·rw [if_pos (this.2 ⟨hv2, e⟩), if_neg e, if_pos hv2]
     ·rw [if_neg (fun h => hv2 (this.1 h).1), if_neg e, if_neg hv2]
end
end Go.Ab.S5
namespace Go.Ab.S5
set_option linter.unusedVariables false
set_option linter.unusedSimpArgs false
abbrev fxF (u : Tr) : Nat->Bool := fun v => fixK (ndF u.pl v).kind
abbrev rkT (u : Tr) : Nat->Nat := rkF (ndF u.pl) (frW u)
abbrev lwT (u : Tr) (m b : Nat) : Nat := lowF (fxF u) (frW u) (rkT u) m b
theorem zos (u : Tr) (m b : Nat) : lwT u (m + 1) b = max (lwT u m b) (if fxF u m = true ∧ (frW u m).testBit b = true then rkT u m else 0) := rfl
theorem lwT_le (u : Tr) (m b : Nat) : lwT u m b≤m := zms m fun v hv => by
 have := rkF_le (ndF u.pl) (frW u) v
 by_cases hc : fxF u v = true ∧ (frW u v).testBit b = true
 ·rw [if_pos hc]; show rkF (ndF u.pl) (frW u) v≤m; omega
 ·rw [if_neg hc]; omega
theorem zno {k : Int} : fixK k = true ↔ k = 10 ∨ k = 11 := by unfold fixK; simp
section
variable {u : Tr} {l : List Nd} {h₀ : H} {w a b f : Sl}
theorem odd_sum {m o : Nat} (h1 : m≤1000) (h2 : o≤1) : w64 ((m : Int) + Int.tmod (w64 ((m : Int) + (o : Int))) 2) = ((adj m o : Nat) : Int) := by
 rw [je (n := (m : Int) + (o : Int)) (by omega) (by omega), show (m : Int) + (o : Int) = ((m + o : Nat) : Int) by omega, show Int.tmod ((m + o : Nat) : Int) 2 = (((m + o) % 2 : Nat) : Int) from rfl, je (by omega) (by omega)]
 unfold adj; omega
theorem zpn (wd : Wide l u) (r : NdR h₀ f l) (rw' : Rd h₀ w 1 (cUs (tab u.size fun v => ((frW u v : Nat) : Int)))) (k : Nat) (hk : 100≤k) : ∀ (j i : Nat) (h : H), i≤u.size->u.size - i < j ->
  Two h₀ h a b (tab u.size fun v => ((if v < i then rkT u v else 0 : Nat) : Int)) (tab u.size fun v => ((lwT u i v : Nat) : Int)) ->
  ∃ h' A, (∀ (α : Type) (kx : Sl->M α), qf.u17.l (k + 1) kx j w a b f (u.size : Int) (i : Int) h = kx a h') ∧ Two h₀ h' a b (tab u.size fun v => ((rkT u v : Nat) : Int)) A := by
 have y := wd.lay
 have hs := wd.size
 intro j
 induction j with
 | zero => intro i h hi hj; omega
 | succ j ih =>
  intro i h hi hj m
  by_cases hlt : i < u.size
  rotate_left
  ·have : i = u.size := by omega
   subst this
   refine ⟨h, tab u.size fun v => ((lwT u u.size v : Nat) : Int), fun α kx => ?_, ?_⟩
   ·rw [qf.u17.l, qf.u16.f, qf.u3.f, dF (by omega : ¬ (u.size : Int) < (u.size : Int)), cond_false]
   ·rw [zag (g' := fun v => ((rkT u v : Nat) : Int)) (fun v hv => by rw [if_pos hv])] at m
    exact m
  have hlen := wd.len
  have hn : l[i]? = some l[i] := List.getElem?_eq_getElem (by omega)
  generalize l[i] = n at hn
  have e := wd.nd hn
  have hfx : fxF u i = fixK n.kind := by show fixK (ndF u.pl i).kind = _; rw [e]; exact znd n.kind
  have h10 : (ndF u.pl i).kind = 10 ↔ n.kind = 10 := by rw [e]; show plK n.kind = 10 ↔ _; unfold plK; split <;> omega
  have m1 : Two h₀ (h.push (ndC n)) a b _ _ := m.push ((Ext.refl h).push _)
  have st : ∀ (α : Type) (kx : Sl->M α), qf.u17.l (k + 1) kx (j + 1) w a b f (u.size : Int) (i : Int) h =
    cond (!(decide (n.kind = 10))) (cond (!(decide (n.kind = 11))) (qf.u14.f (k + 1) w a b f (u.size : Int) (i : Int) (fun y0 y1 y2 y3 y4 y5 => qf.u17.l (k + 1) kx j y0 y1 y2 y3 y4 y5))
     (qf.u11.f (k + 1) w a b (i : Int) ⟨h.next, 0⟩ f (u.size : Int) (i : Int) (fun y0 y1 y2 y3 y4 y5 => qf.u14.f (k + 1) y0 y1 y2 y3 y4 y5 (fun y0 y1 y2 y3 y4 y5 => qf.u17.l (k + 1) kx j y0 y1 y2 y3 y4 y5))))
     (qf.u11.f (k + 1) w a b (i : Int) ⟨h.next, 0⟩ f (u.size : Int) (i : Int) (fun y0 y1 y2 y3 y4 y5 => qf.u14.f (k + 1) y0 y1 y2 y3 y4 y5 (fun y0 y1 y2 y3 y4 y5 => qf.u17.l (k + 1) kx j y0 y1 y2 y3 y4 y5))) (h.push (ndC n)) := by
   intro α kx
   rw [qf.u17.l, qf.u16.f, qf.u3.f, dT (by omega : (i : Int) < (u.size : Int)), cond_true, qf.u15.f, qf.u13.f, qf.u12.f, qf.u4.f, zhw (r.ext m.ext) rfl hn, zgx, n5_0]
   cases hh : decide (n.kind = 10)
   ·rw [Bool.not_false, cond_true, cond_true, n5_0]
   ·rfl
  have key : ∃ h1, (∀ (α : Type) (kx : Sl->M α), qf.u17.l (k + 1) kx (j + 1) w a b f (u.size : Int) (i : Int) h = qf.u17.l (k + 1) kx j w a b f (u.size : Int) ((i + 1 : Nat) : Int) h1) ∧
    Two h₀ h1 a b (tab u.size fun v => ((if v < i + 1 then rkT u v else 0 : Nat) : Int)) (tab u.size fun v => ((lwT u (i + 1) v : Nat) : Int)) := by
   cases hf : fixK n.kind with
   | false =>
    have hne : n.kind ≠ 10 ∧ n.kind ≠ 11 := by
     constructor <;> (intro e; rw [e] at hf; exact absurd hf (by decide))
    have hr0 : rkT u i = 0 := by rw [rkT, zhg, if_neg (by rw [show fixK (ndF u.pl i).kind = fxF u i from rfl, hfx, hf]; decide)]
    refine ⟨h.push (ndC n), fun α kx => ?_, ?_⟩
    ·rw [st, decide_eq_false hne.1, decide_eq_false hne.2, Bool.not_false, cond_true, cond_true, qf.u14.f, je (by omega) (by omega)]
     rfl
    ·rw [zag (g := fun v => ((if v < i + 1 then rkT u v else 0 : Nat) : Int)) (g' := fun v => ((if v < i then rkT u v else 0 : Nat) : Int)) (fun v hv => by
      by_cases e : v = i
      ·subst e; rw [if_pos (show v < v + 1 by omega), if_neg (show ¬ v < v by omega), hr0]
      ·by_cases h2 : v < i
       ·rw [if_pos (show v < i + 1 by omega), if_pos h2]
       ·rw [if_neg (show ¬ v < i + 1 by omega), if_neg h2]),
      zag (g := fun v => ((lwT u (i + 1) v : Nat) : Int)) (g' := fun v => ((lwT u i v : Nat) : Int)) (fun v hv => by
       rw [zos, if_neg (by rw [hfx, hf]; exact fun h => absurd h.1 (by decide)), Nat.max_eq_left (Nat.zero_le _)])]
     exact m1
   | true =>
    have hk2 := zno.1 hf
    have hq : (h.push (ndC n)).get h.next = some (ndC n) := by rw [zh, if_pos rfl]
    have hrk : rkT u i = adj (lwT u i i) (if n.kind = 10 then 1 else 0) := by
     rw [rkT, zhg, if_pos (by rw [show fixK (ndF u.pl i).kind = fxF u i from rfl, hfx, hf])]
     by_cases h : n.kind = 10
     ·rw [if_pos (h10.2 h), if_pos h]
     ·rw [if_neg (fun q => h (h10.1 q)), if_neg h]
    obtain ⟨h1, e1, m2⟩ := m1.sta (x := (i : Int)) (i := i) ((adj (lwT u i i) (if n.kind = 10 then 1 else 0) : Nat) : Int) rfl (by rw [zaq]; exact hlt)
    rw [zmv, ← hrk, zag (g' := fun v => ((if v < i + 1 then rkT u v else 0 : Nat) : Int)) (fun v hv => by
      by_cases e : v = i
      ·subst e; rw [if_pos rfl, if_pos (show v < v + 1 by omega)]
      ·by_cases h2 : v < i
       ·rw [if_neg e, if_pos h2, if_pos (show v < i + 1 by omega)]
       ·rw [if_neg e, if_neg h2, if_neg (show ¬ v < i + 1 by omega)])] at m2
    obtain ⟨h2, e2, m3⟩ := bits_loop (i := i) (x := rkT u i) (w := w) (f := f) hs (by rw [yt hlt, if_pos (by omega)]) (u.size : Int) k (k + 1) 0 (frW u i) (fun v => lwT u i v) h1 (zbt y hs hlt) (fun q hq => ⟨Nat.zero_le _, (zgz y hlt hq).2.1⟩) (Nat.zero_le _) (by omega) m2
    have hu11 : ∀ (α : Type) (kn : Sl->Sl->Sl->Sl->Int->Int->M α), qf.u11.f (k + 1) w a b (i : Int) ⟨h.next, 0⟩ f (u.size : Int) (i : Int) kn (h.push (ndC n)) = kn w a b f (u.size : Int) (i : Int) h2 := by
     intro α kn
     have hod : qf.u11.f (k + 1) w a b (i : Int) ⟨h.next, 0⟩ f (u.size : Int) (i : Int) kn (h.push (ndC n)) = qf.u10.f (k + 1) w a b (i : Int) (((if n.kind = 10 then 1 else 0) : Nat) : Int) f (u.size : Int) (i : Int) kn (h.push (ndC n)) := by
      rw [qf.u11.f, qf.u5.f, zea hq]
      by_cases hh : n.kind = 10
      ·rw [dT hh, cond_true, if_pos hh]; rfl
      ·rw [dF hh, cond_false, if_neg hh]; rfl
     rw [hod, qf.u10.f, qf.u6.f, zaa m1.ob.rd rfl (yt hlt _), zaa m1.ob.rd rfl (yt hlt _), odd_sum (by have := lwT_le u i i; omega) (by split <;> omega)]
     refine (e1 α _).trans ?_
     rw [zhr (rw'.ext m2.ext) rfl (yt hlt _)]
     exact e2 α kn
    refine ⟨h2, fun α kx => ?_, ?_⟩
    ·have e14 : ∀ (h : H), qf.u14.f (k + 1) w a b f (u.size : Int) (i : Int) (fun y0 y1 y2 y3 y4 y5 => qf.u17.l (k + 1) kx j y0 y1 y2 y3 y4 y5) h = qf.u17.l (k + 1) kx j w a b f (u.size : Int) ((i + 1 : Nat) : Int) h := fun h => by
      rw [qf.u14.f, je (by omega) (by omega)]; rfl
     rw [st]
     rcases hk2 with hk2 | hk2
     ·rw [decide_eq_true hk2, Bool.not_true, cond_false, hu11, e14]
     ·rw [decide_eq_false (by omega), decide_eq_true hk2, Bool.not_false, cond_true, Bool.not_true, cond_false, hu11, e14]
    ·rw [zag (g := fun v => ((lwT u (i + 1) v : Nat) : Int)) (g' := fun v => ((if (frW u i).testBit v = true then max (lwT u i v) (rkT u i) else lwT u i v : Nat) : Int)) (fun v hv => by
       rw [zos, hfx, hf]
       by_cases hb : (frW u i).testBit v = true
       ·rw [if_pos ⟨rfl, hb⟩, if_pos hb]
       ·rw [if_neg (fun h => hb h.2), if_neg hb, Nat.max_eq_left (Nat.zero_le _)])]
     exact m3
  obtain ⟨h1, e1, m1⟩ := key
  obtain ⟨h2, A, e2, m2⟩ := ih (i + 1) h1 (by omega) (by omega) m1
  exact ⟨h2, A, fun α kx => (e1 α kx).trans (e2 α kx), m2⟩
theorem zkl (k : Nat) (hk : 1100≤k) (wd : Wide l u) (hp : pos5 u = true) (hf : f.fine 5) (h : H) (r : NdR h f l) :
  ∃ s h', (∀ (α : Type) (ret : Sl->M α), qf.f (k + 1) f ret h = ret s h') ∧ Mine h h' s (cIs (tab u.size fun v => ((rkT u v : Nat) : Int))) := by
 obtain ⟨k, rfl⟩ : ∃ q, k = q + 1 := ⟨k - 1, by omega⟩
 have hs := wd.size
 have hfl : f.len = u.size := by rw [zbo r, wd.len]
 obtain ⟨w, h1, e1, m1⟩ := zho k (by omega) wd hp h r
 have hwl : w.len = u.size := by have := m1.own.len; rw [zar (size := 1) (fun _ => rfl), zaq] at this; omega
 obtain ⟨h2, e2, o2, n2, x2⟩ := zfs (h := h1) (n := u.size) (x := (w.len : Int)) (y := (w.len : Int)) (by rw [hwl]) (by rw [hwl]) (by omega)
 obtain ⟨h3, e3, o3, n3, x3⟩ := zfs (h := h2) (n := u.size) (x := (w.len : Int)) (y := (w.len : Int)) (by rw [hwl]) (by rw [hwl]) (by omega)
 rw [tab_rep] at o2 o3
 have t0 : Two h1 h3 ⟨some ⟨h1.next, 0⟩, u.size, u.size, none⟩ ⟨some ⟨h2.next, 0⟩, u.size, u.size, none⟩ (tab u.size fun v => ((if v < 0 then rkT u v else 0 : Nat) : Int)) (tab u.size fun v => ((lwT u 0 v : Nat) : Int)) :=
  ⟨x2.trans x3, o2.ext x3, o3, Nat.le_refl _, x2.1, by show h1.next ≠ h2.next; omega⟩
 have hr := (r.ext m1.ext).to u.size f.cap f.loose (by omega)
 rw [zca Nd.len, List.take_of_length_le (by rw [wd.len]; omega)] at hr
 obtain ⟨h4, A, e4, m4⟩ := zpn (w := w) (f := ⟨f.ad, u.size, f.cap, f.loose⟩) wd hr m1.own.rd k (by omega) (k + 1) 0 h3 (Nat.zero_le _) (by omega) t0
 refine ⟨_, h4, fun α ret => ?_, m1.ext.trans m4.ext, m4.oa, Nat.le_trans m1.ext.1 m4.la⟩
 rw [qf.f, qf.u22.f, qf.u1.f, e1, e2, e3, qf.u21.f, qf.u19.f, qf.u2.f, zhf hf (y := (w.len : Int)) (m := u.size) (by rw [hwl]) (by have := hf.1; omega), qf.u18.f, qf.u17.f]
 refine (e4 α _).trans ?_
 rw [qf.u20.f]
theorem ranks_not (k : Nat) (hn : zft l ∨ ∃ u, Wide l u ∧ pos5 u = false) (hr : Room l.length) (hk : 1100 + l.length≤k) (hf : f.fine 5) (h : H) (r : NdR h f l) :
  ∃ s h', (∀ (α : Type) (ret : Sl->M α), qf.f (k + 1) f ret h = ret s h') ∧ Ext h h' ∧ s.len = 0 := by
 obtain ⟨k, rfl⟩ : ∃ q, k = q + 1 := ⟨k - 1, by omega⟩
 obtain ⟨h1, e1, x1⟩ := znr k hn hr (by omega) h r
 obtain ⟨h2, e2, o2, n2, x2⟩ := zfs (h := h1) (n := 0) (x := (Sl.nil.len : Int)) (y := (Sl.nil.len : Int)) rfl rfl (by omega)
 obtain ⟨h3, e3, o3, n3, x3⟩ := zfs (h := h2) (n := 0) (x := (Sl.nil.len : Int)) (y := (Sl.nil.len : Int)) rfl rfl (by omega)
 refine ⟨⟨some ⟨h1.next, 0⟩, 0, 0, none⟩, h3, fun α ret => ?_, (x1.trans x2).trans x3, rfl⟩
 rw [qf.f, qf.u22.f, qf.u1.f, e1, e2, e3, qf.u21.f, qf.u19.f, qf.u2.f, zhf hf (y := (Sl.nil.len : Int)) (m := 0) rfl (Nat.zero_le _), qf.u18.f, qf.u17.f]
 rw [qf.u17.l, qf.u16.f, qf.u3.f, dF (by show ¬ ((0 : Int) < ((0 : Nat) : Int)); omega), cond_false, qf.u20.f]
end
end Go.Ab.S5
namespace Go.Ab.S5
set_option linter.unusedVariables false
set_option linter.unusedSimpArgs false
section
variable {u : Tr} {l : List Nd} {h₀ h : H} {up f to out w : Sl}
theorem us_len {s : Sl} {l : List Int} (r : Rd h s 1 (cUs l)) : s.len = l.length := slen (size := 1) (fun _ => rfl) (by decide) r
end
end Go.Ab.S5
namespace Go.Ab.S5
set_option linter.unusedVariables false
set_option linter.unusedSimpArgs false
section
variable {u : Tr} {l : List Nd} {h₀ h : H} {up f out w : Sl}
theorem shr_nat {m n : Nat} {x : Int} (hx : x = (n : Int)) (hn : n < 64) : Int.fdiv (m : Int) (2 ^ (min x.toNat 64)) = ((m >>> n : Nat) : Int) := by
 rw [hx, Int.toNat_natCast, Nat.min_eq_left (by omega), show ((2 : Int) ^ n) = ((2 ^ n : Nat) : Int) by simp, Int.fdiv_eq_ediv_of_nonneg _ (Int.natCast_nonneg _), Nat.shiftRight_eq_div_pow]
 rfl
theorem shr_bit {m n : Nat} (hm : m < 18446744073709551616) {x : Int} (hx : x = (n : Int)) (hn : n < 64) : bits .and .u64 (Int.fdiv (m : Int) (2 ^ (min x.toNat 64))) 1 = (((if m.testBit n = true then 1 else 0) : Nat) : Int) := by
 have hle : m >>> n < 18446744073709551616 := by rw [Nat.shiftRight_eq_div_pow]; exact Nat.lt_of_le_of_lt (Nat.div_le_self ..) hm
 rw [shr_nat hx hn, show (1 : Int) = ((1 : Nat) : Int) from rfl, and_int hle (by decide), Nat.and_one_is_mod, Nat.shiftRight_eq_div_pow, Nat.testBit_eq_decide_div_mod_eq]
 by_cases h : m / 2 ^ n % 2 = 1
 ·rw [h, decide_eq_true rfl, if_pos rfl]
 ·rw [decide_eq_false h, if_neg (by decide)]
  congr 1; omega
end
end Go.Ab.S5
namespace Go.Ab.S5
set_option linter.unusedVariables false
set_option linter.unusedSimpArgs false
def ty1 : Tr := .un 11 [88] 0 (.un 10 [89] 6 (.bin 7 [] 21 (.bin 6 [] 17 (.un 8 [97] 12 (.leaf 4 [88] 15)) (.leaf 3 [112] 19)) (.un 8 [97] 23 (.leaf 4 [89] 26))))
theorem py1 : parseF [110, 117, 32, 88, 46, 32, 109, 117, 32, 89, 46, 32, 60, 97, 62, 88, 32, 38, 32, 112, 32, 124, 32, 60, 97, 62, 89] = .ok (ty1.flat 0) := by kernel_rfl
theorem wy1 : Wide (ty1.flat 0) ty1 := ⟨by decide, by decide, rfl, by decide⟩
theorem fy1 : frW ty1 7 = 256 := by kernel_rfl
theorem ry1 : rkT ty1 7 = 1 := by kernel_rfl
theorem ry2 : rkT ty1 8 = 2 := by kernel_rfl
theorem zql (k : Nat) (hk : 4000000≤k) (h : H) : ∃ h', (∀ (α : Type) (ret : Bool->M α), qaq.f (k + 1) ret h = ret true h') ∧ Ext h h' := by
 obtain ⟨k, rfl⟩ : ∃ q, k = q + 1 := ⟨k - 1, by omega⟩
 have a1 := parse_run k (by omega) [110, 117, 32, 88, 46, 32, 109, 117, 32, 89, 46, 32, 60, 97, 62, 88, 32, 38, 32, 112, 32, 124, 32, 60, 97, 62, 89] h
 rw [py1] at a1
 obtain ⟨h1, s1, e1, x1, p1, _⟩ := a1
 obtain ⟨w, h2, e2, m2⟩ := zho k (by omega) wy1 (by decide) h1 p1.rd
 obtain ⟨r, h3, e3, m3⟩ := zkl k (by omega) wy1 (by decide) p1.fine h2 (p1.rd.ext m2.ext)
 refine ⟨h3, fun α ret => ?_, (x1.trans m2.ext).trans m3.ext⟩
 have rw' := m2.own.rd.ext m3.ext
 have hw : w.len = 9 := by rw [us_len rw', zaq]; rfl
 have hr : r.len = 9 := by rw [zcg m3.own.rd, zaq]; rfl
 rw [qaq.f, qaq.u1.f, e1, e2, e3, zha, cond_true, hw, dT (by decide : ((9 : Nat) : Int) = 9), cond_true, zhr rw' (x := 7) (i := 7) rfl (yt (by decide) _), fy1, dT (by decide : ((256 : Nat) : Int) = 256), cond_true, hr, dT (by decide : ((9 : Nat) : Int) = 9), cond_true,
  zaa m3.own.rd (x := 7) (i := 7) rfl (yt (by decide) _), ry1, dT (by decide : ((1 : Nat) : Int) = 1), cond_true, zaa m3.own.rd (x := 8) (i := 8) rfl (yt (by decide) _), ry2, dT (by decide : ((2 : Nat) : Int) = 2)]
theorem pos_or (l : List Nd) : (∃ u, Wide l u ∧ pos5 u = true) ∨ (zft l ∨ ∃ u, Wide l u ∧ pos5 u = false) := by
 rcases wide_or l with ⟨u, w⟩ | w
 ·cases hp : pos5 u with
  | true => exact .inl ⟨u, w, hp⟩
  | false => exact .inr (.inr ⟨u, w, hp⟩)
 ·exact .inr (.inl w)
end Go.Ab.S5
namespace Go.Ab.S5
set_option linter.unusedVariables false
set_option linter.unusedSimpArgs false
section
variable {α : Type} {h : H}
theorem znq (k : Nat) (n : Nd) (ret : Bool->M α) : qao.f (k + 1) n.kind n.a n.b n.name n.pos ret h = ret (fixK n.kind) (h.push (ndC n)) := by
 rw [qao.f, qao.u1.f, jr rfl]
 have hq : (h.push (ndC n)).get h.next = some (ndC n) := by rw [zh, if_pos rfl]
 show ldI .i64 (((⟨h.next, 0⟩ : Ad).add 0).add 0) _ (h.push (ndC n)) = _
 rw [zea hq]
 by_cases e : n.kind = 10
 ·rw [dT e, cond_true, fixK, decide_eq_true e]; rfl
 ·rw [dF e, cond_false, zea hq, fixK, decide_eq_false e]; rfl
end
section
variable {u : Tr} {l : List Nd} {h₀ : H} {f w to : Sl}
end
end Go.Ab.S5
namespace Go.Ab.S5
set_option linter.unusedVariables false
set_option linter.unusedSimpArgs false
section
variable {u : Tr} {l : List Nd}
theorem fix_ar1 {k : Int} (h : fixK k = true) : arF k = 1 := by rcases zno.1 h with rfl | rfl <;> decide
theorem rk_dep (wd : Wide l u) : ∀ n, ∀ t b A q, At u.pl t b A q->b + t.size = n + 1->rkT u n≤depT t := by
 have y := wd.lay
 intro n
 induction n using Nat.strongRecOn with
 | ind n ih =>
  intro t b A q h hb
  obtain ⟨e1, e2, e3, e4, e5⟩ := zcn h hb
  rw [yv] at e5
  have ho := zfb h wd.ok
  rw [rkT, zhg]
  by_cases hf : fixK (ndF u.pl n).kind = true
  rotate_left
  ·rw [if_neg hf]; exact Nat.zero_le _
  rw [if_pos hf]
  rw [e1] at hf
  cases t with
  | leaf k s p =>
   simp only [Tr.ok, Bool.and_eq_true, decide_eq_true_eq] at ho
   simp only [Tr.node] at hf
   have := fix_ar1 hf; omega
  | bin k s p a c =>
   simp only [Tr.ok, Bool.and_eq_true, decide_eq_true_eq] at ho
   simp only [Tr.node] at hf
   have := fix_ar1 hf; omega
  | un k s p a =>
   have hk : fixK k = true := hf
   have hlow : lowF (fun k => fixK (ndF u.pl k).kind) (frW u) (rkF (ndF u.pl) (frW u)) n n≤depT a := zms n fun v hv => by
    by_cases hc : fixK (ndF u.pl v).kind = true ∧ (frW u v).testBit n = true
    rotate_left
    ·rw [if_neg hc]; exact Nat.zero_le _
    rw [if_pos hc]
    have hin := zgz y (by omega) hc.2
    simp only [Tr.size] at hb
    rw [e3] at hin
    obtain ⟨t', b', A', q', g1, g2, g3, g4⟩ := h.un.inside v hin.2.2.2.1 (by omega)
    exact Nat.le_trans (ih v hv t' b' A' q' g1 g2) g4
   have : depT (.un k s p a) = depT a + 1 := by simp only [depT, if_pos hk]
   rw [this]
   unfold adj
   split <;> omega
theorem rk_four (wd : Wide l u) {n : Nat} (hn : n < u.size) : rkT u n≤4 := by
 obtain ⟨t, b, A, q, h, hb, hd⟩ := At.all u.pl n (by rw [yv]; exact hn)
 have := rk_dep wd n t b A q h hb
 have := ((chk_fit wd.ok).1 wd.chk).2.2
 omega
theorem rk_zero {n : Nat} (hf : fxF u n = false) : rkT u n = 0 := by rw [rkT, zhg, if_neg (by rw [show fixK (ndF u.pl n).kind = fxF u n from rfl, hf]; decide)]
theorem rk_fix {n : Nat} (hf : fxF u n = true) : rkT u n = adj (lwT u n n) (if (ndF u.pl n).kind = 10 then 1 else 0) := by rw [rkT, zhg, if_pos hf]
theorem rk_parity {n : Nat} (hf : fxF u n = true) : rkT u n % 2 = (if (ndF u.pl n).kind = 10 then 1 else 0) := by
 rw [rk_fix hf]
 unfold adj
 split <;> omega
theorem rk_order (wd : Wide l u) {n b : Nat} (hn : n < u.size) (hb : (frW u n).testBit b = true) : rkT u n≤rkT u b := by
 have y := wd.lay
 obtain ⟨h1, h2, h3, h4, h5⟩ := zgz y hn hb
 cases hf : fxF u n with
 | false => rw [rk_zero hf]; exact Nat.zero_le _
 | true =>
  rw [rk_fix (n := b) h3]
  have : (if fxF u n = true ∧ (frW u n).testBit b = true then rkT u n else 0)≤lwT u b b := le_mxU (g := fun k => if fxF u k = true ∧ (frW u k).testBit b = true then rkT u k else 0) b n h1
  rw [if_pos ⟨hf, hb⟩] at this
  unfold adj
  omega
theorem zog (wd : Wide l u) {n : Nat} (hn : n < u.size) : (frW u n).testBit n = false := by
 cases hb : (frW u n).testBit n with
 | false => rfl
 | true => have := (zgz wd.lay hn hb).1; omega
theorem frW_last (wd : Wide l u) {n : Nat} (hn : n + 1 = u.size) : frW u n = 0 := zdi fun b => by
 constructor
 ·intro hb
  obtain ⟨h1, h2, _⟩ := zgz wd.lay (by omega) hb
  omega
 ·intro h; rw [Nat.zero_testBit] at h; cases h
theorem clr_self {m n : Nat} (hm : m < 18446744073709551616) (hn : n < 64) (hb : m.testBit n = false) : clr m n = m := zdi fun b => by
 rw [clr_bit hm hn]
 constructor
 ·exact fun h => h.1
 ·intro h
  refine ⟨h, ?_⟩
  rintro rfl
  rw [hb] at h; cases h
end
section
variable {u : Tr} {l : List Nd} {h₀ : H} {f w s : Sl}
theorem ord4 (wd : Wide l u) {h : H} (r : NdR h f l) (rw' : Rd h w 1 (cUs (tab u.size fun v => ((frW u v : Nat) : Int)))) (rs : Rd h s 1 (cIs (tab u.size fun v => ((rkT u v : Nat) : Int)))) {n : Nat} {nd : Nd} (hnd : l[n]? = some nd) (k : Nat) (α : Type) (kn : Sl->Sl->Sl->Int->Bool->M α) (kr : Bool->M α) :
  qd.u4.f (k + 1) f w s (n : Int) kn kr h = kn f w s (n : Int) (fixK nd.kind) (h.push (ndC nd)) := by
 have hs := wd.size
 have hn := wd.lt hnd
 have x : Ext h (h.push (ndC nd)) := (Ext.refl h).push _
 have hsl : s.len = u.size := by rw [zcg rs, zaq]
 have hw : IntKind.wrap .u64 (n : Int) = (n : Int) := by rw [IntKind.wrap_u64]; omega
 have R1 : ∀ K : Int->M α, idxSl w (n : Int) 1 (fun a => ldI .u64 (a.add 0) K) (h.push (ndC nd)) = K ((frW u n : Nat) : Int) (h.push (ndC nd)) := fun K => zhr (rw'.ext x) rfl (yt hn _) K
 have R2 : ∀ K : Int->M α, idxSl s (n : Int) 1 (fun a => ldI .i64 (a.add 0) K) (h.push (ndC nd)) = K ((rkT u n : Nat) : Int) (h.push (ndC nd)) := fun K => zaa (rs.ext x) rfl (yt hn _) K
 have N : ∀ K : M α, need (decide (0≤IntKind.wrap .u64 (n : Int))) K (h.push (ndC nd)) = K (h.push (ndC nd)) := fun K => zhc (by rw [hw, decide_eq_true_eq]; omega) K
 have B : decide (bits .and .u64 (Int.fdiv ((frW u n : Nat) : Int) (2 ^ (min (IntKind.wrap .u64 (n : Int)).toNat 64))) 1 = 1) = false := by
  rw [shr_bit (zbt wd.lay hs hn) hw (by omega), zog wd hn]; rfl
 have P0 : decide (((rkT u n : Nat) : Int) < 0) = false := decide_eq_false (by omega)
 have P4 : decide (4 < ((rkT u n : Nat) : Int)) = false := decide_eq_false (by have := rk_four wd hn; omega)
 have hl1 : w64 ((u.size : Int) - 1) = (u.size : Int) - 1 := je (by omega) (by omega)
 have e := wd.nd hnd
 have hfx : fxF u n = fixK nd.kind := by show fixK (ndF u.pl n).kind = _; rw [e]; exact znd nd.kind
 -- the end
 have fin : ∀ b : Bool, cond (decide ((n : Int) = w64 ((s.len : Int) - 1))) (idxSl w (n : Int) 1 fun a => ldI .u64 (a.add 0) fun x => cond (!(decide (x = 0))) (kr false) (kn f w s (n : Int) b)) (kn f w s (n : Int) b) (h.push (ndC nd)) = kn f w s (n : Int) b (h.push (ndC nd)) := by
  intro b
  rw [hsl, hl1]
  by_cases c : (n : Int) = (u.size : Int) - 1
  ·rw [dT c, cond_true, R1, frW_last wd (by omega), dT (show ((0 : Nat) : Int) = 0 from rfl), Bool.not_true, cond_false]
  ·rw [dF c, cond_false]
 have mid : ∀ b : Bool, (idxSl s (n : Int) 1 fun a => ldI .i64 (a.add 0) fun x => cond (decide (x < 0)) (kr false) (idxSl s (n : Int) 1 fun a => ldI .i64 (a.add 0) fun x => cond (decide (4 < x)) (kr false) (cond (decide ((n : Int) = w64 ((s.len : Int) - 1))) (idxSl w (n : Int) 1 fun a => ldI .u64 (a.add 0) fun x => cond (!(decide (x = 0))) (kr false) (kn f w s (n : Int) b)) (kn f w s (n : Int) b)))) (h.push (ndC nd)) = kn f w s (n : Int) b (h.push (ndC nd)) := by
  intro b
  rw [R2, P0, cond_false, R2, P4, cond_false, fin]
 have all : ∀ b : Bool, b = fxF u n->cond (!b) (idxSl s (n : Int) 1 fun a => ldI .i64 (a.add 0) fun x => cond (!(decide (x = 0))) (kr false) (idxSl s (n : Int) 1 fun a => ldI .i64 (a.add 0) fun x => cond (decide (x < 0)) (kr false) (idxSl s (n : Int) 1 fun a => ldI .i64 (a.add 0) fun x => cond (decide (4 < x)) (kr false) (cond (decide ((n : Int) = w64 ((s.len : Int) - 1))) (idxSl w (n : Int) 1 fun a => ldI .u64 (a.add 0) fun x => cond (!(decide (x = 0))) (kr false) (kn f w s (n : Int) b)) (kn f w s (n : Int) b)))))
   (idxSl s (n : Int) 1 fun a => ldI .i64 (a.add 0) fun x => cond (decide (x < 0)) (kr false) (idxSl s (n : Int) 1 fun a => ldI .i64 (a.add 0) fun x => cond (decide (4 < x)) (kr false) (cond (decide ((n : Int) = w64 ((s.len : Int) - 1))) (idxSl w (n : Int) 1 fun a => ldI .u64 (a.add 0) fun x => cond (!(decide (x = 0))) (kr false) (kn f w s (n : Int) b)) (kn f w s (n : Int) b)))) (h.push (ndC nd)) = kn f w s (n : Int) b (h.push (ndC nd)) := by
  intro b hb
  cases b with
  | true => rw [Bool.not_true, cond_false]; exact mid true
  | false => rw [Bool.not_false, cond_true, R2, rk_zero hb.symm, dT (show ((0 : Nat) : Int) = 0 from rfl), Bool.not_true, cond_false]; exact mid false
 rw [qd.u4.f, zhw r rfl hnd, znq, R1, N]
 by_cases hz : Int.fdiv ((frW u n : Nat) : Int) (2 ^ (min (IntKind.wrap .u64 (n : Int)).toNat 64)) = 0
 ·rw [dT hz, Bool.not_true, cond_false]
  exact all _ hfx.symm
 ·rw [dF hz, Bool.not_false, cond_true, R1, N, B, cond_false]
  exact all _ hfx.symm
theorem ord8 (wd : Wide l u) {n : Nat} (hn : n < u.size) (r : NdR h₀ f l) (rw' : Rd h₀ w 1 (cUs (tab u.size fun v => ((frW u v : Nat) : Int)))) (rs : Rd h₀ s 1 (cIs (tab u.size fun v => ((rkT u v : Nat) : Int)))) (k : Nat) : ∀ (j b : Nat) (h : H), b≤64->64 - b < j->Ext h₀ h ->
  ∃ h', (∀ (α : Type) (kr : Bool->M α) (kx : Sl->Sl->Sl->Int->M α), qd.u8.l (k + 1) kr kx j f w s (n : Int) (b : Int) h = kx f w s (n : Int) h') ∧ Ext h₀ h' := by
 have hs := wd.size
 have hlen := wd.len
 have hfl : f.len = u.size := by rw [zbo r, wd.len]
 intro j
 induction j with
 | zero => intro b h hb hj; omega
 | succ j ih =>
  intro b h hb hj x
  by_cases hlt : b < 64
  rotate_left
  ·refine ⟨h, fun α kr kx => ?_, x⟩
   rw [qd.u8.l, qd.u7.f, dF (by omega : ¬ (b : Int) < 64), cond_false]
  have hw : IntKind.wrap .u64 (b : Int) = (b : Int) := by rw [IntKind.wrap_u64]; omega
  have st : ∀ (α : Type) (kr : Bool->M α) (kx : Sl->Sl->Sl->Int->M α), qd.u8.l (k + 1) kr kx (j + 1) f w s (n : Int) (b : Int) h = _ := fun α kr kx => by
   rewrite [qd.u8.l, qd.u7.f, dT (by omega : (b : Int) < 64), cond_true, zhr (rw'.ext x) rfl (yt hn _), zhc (by rw [hw, decide_eq_true_eq]; omega), shr_bit (zbt wd.lay hs hn) hw hlt]
   rfl
  by_cases hb : (frW u n).testBit b = true
  ·obtain ⟨c1, c2, c3, _⟩ := zgz wd.lay hn hb
   have hrk := rk_order wd hn hb
   have hnd : l[b]? = some l[b] := List.getElem?_eq_getElem (by omega)
   generalize l[b] = nd at hnd
   have e := wd.nd hnd
   have hfx : fixK nd.kind = true := by rw [← c3, e]; exact (znd nd.kind).symm
   have x1 : Ext h₀ (h.push (ndC nd)) := x.push _
   obtain ⟨h2, e2, x2⟩ := ih (b + 1) (h.push (ndC nd)) (by omega) (by omega) x1
   refine ⟨h2, fun α kr kx => ?_, x2⟩
   rw [st, if_pos hb, dF (by decide : ¬ ((1 : Nat) : Int) = 0), cond_false, dF (by omega : ¬ (b : Int)≤(n : Int)), cond_false, hfl, dF (by omega : ¬ (u.size : Int)≤(b : Int)), cond_false, zhw (r.ext x) rfl hnd, znq, hfx, Bool.not_true, cond_false, zaa (rs.ext x1) rfl (yt c2 _), zaa (rs.ext x1) rfl (yt hn _), dF (by omega : ¬ ((rkT u b : Nat) : Int) < ((rkT u n : Nat) : Int)), cond_false, je (by omega) (by omega)]
   exact e2 α kr kx
  ·obtain ⟨h2, e2, x2⟩ := ih (b + 1) h (by omega) (by omega) x
   refine ⟨h2, fun α kr kx => ?_, x2⟩
   rw [st, if_neg hb, dT (by decide : ((0 : Nat) : Int) = 0), cond_true, je (by omega) (by omega)]
   exact e2 α kr kx
end
end Go.Ab.S5
namespace Go.Ab.S5
set_option linter.unusedVariables false
set_option linter.unusedSimpArgs false
section
variable {u : Tr} {l : List Nd} {h : H} {f w s : Sl}
theorem ord11 (wd : Wide l u) (hp : pos5 u = true) (r : NdR h f l) (rw' : Rd h w 1 (cUs (tab u.size fun v => ((frW u v : Nat) : Int)))) {n : Nat} {nd : Nd} (hnd : l[n]? = some nd) (k : Nat) (α : Type) (kn : Sl->Sl->Sl->Int->M α) (kr : Bool->M α) :
  qd.u11.f (k + 1) f w s (n : Int) kn kr h = kn f w s (n : Int) h := by
 have y := wd.lay
 have hs := wd.size
 have hn := wd.lt hnd
 have e := wd.nd hnd
 have hk := zlk wd.ok hp (by rw [← wd.flat]; exact hnd)
 have hkd : (ndF u.pl n).kind = plK nd.kind := by rw [e]; rfl
 have hna : (ndF u.pl n).a = nd.a := by rw [e]; rfl
 have hnb : (ndF u.pl n).b = nd.b := by rw [e]; rfl
 have hw : IntKind.wrap .u64 (n : Int) = (n : Int) := by rw [IntKind.wrap_u64]; omega
 have R : ∀ (x : Int) (a : Nat), x = (a : Int)->a < u.size->∀ K : Int->M α, idxSl w x 1 (fun a => ldI .u64 (a.add 0) K) h = K ((frW u a : Nat) : Int) h := fun x a hx ha K => zhr rw' hx (yt ha _) K
 have N : ∀ K : M α, need (decide (0≤IntKind.wrap .u64 (n : Int))) K h = K h := fun K => zhc (by rw [hw, decide_eq_true_eq]; omega) K
 have A : ∀ m : Nat, m < 18446744073709551616->bits .andNot .u64 (m : Int) (IntKind.wrap .u64 (1 * 2 ^ (min (IntKind.wrap .u64 (n : Int)).toNat 64))) = ((clr m n : Nat) : Int) := fun m hm => by
  rw [sh_int hw (by omega), clr_int hm (by omega)]
 have A0 : bits .andNot .u64 0 (IntKind.wrap .u64 (1 * 2 ^ (min (IntKind.wrap .u64 (n : Int)).toNat 64))) = ((clr 0 n : Nat) : Int) := A 0 (by decide)
 have self : clr (frW u n) n = frW u n := clr_self (zbt y hs hn) (by omega) (zog wd hn)
 rw [qd.u11.f, zfp r rfl hnd]
 rcases hk with hk | hk | hk | hk | hk
 ·rw [hk]
  simp only [↓cT, ↓cF, decide_true, Int.reduceEq, decide_false]
  rw [R _ n rfl hn, R _ n rfl hn, N, A _ (zbt y hs hn), self, dT rfl, Bool.not_true, cond_false]
 ·obtain ⟨a, b, ha, hb, ha1, hb1, he⟩ := frF_bin y hn (by rw [hkd]; rcases hk with hk | hk <;> rw [hk] <;> rfl)
  rw [hna] at ha; rw [hnb] at hb
  have he : frW u n = frW u a ||| frW u b := he
  rcases hk with hk | hk <;> rw [hk] <;> simp only [↓cT, ↓cF, decide_true, Int.reduceEq, decide_false] <;>
   rw [nd_a r rfl hnd, R _ a ha (by omega), nd_b r rfl hnd, R _ b hb (by omega), R _ n rfl hn, N, or_int (zbt y hs (by omega)) (zbt y hs (by omega)), ← he, A _ (zbt y hs hn), self, dT rfl, Bool.not_true, cond_false]
 ·obtain ⟨a, ha, ha1, he⟩ := frF_un y hn (by rw [hkd]; rcases hk with hk | hk <;> rw [hk] <;> rfl) (by rw [hkd]; rcases hk with hk | hk <;> rw [hk] <;> rfl)
  rw [hna] at ha
  have he : frW u n = frW u a := he
  rcases hk with hk | hk <;> rw [hk] <;> simp only [↓cT, ↓cF, decide_true, Int.reduceEq, decide_false] <;>
   rw [nd_a r rfl hnd, R _ a ha (by omega), R _ n rfl hn, N, ← he, A _ (zbt y hs hn), self, dT rfl, Bool.not_true, cond_false]
 ·obtain ⟨a, ha, ha1, he⟩ := frF_fix y hs hn (by rw [hkd]; rcases hk with hk | hk <;> rw [hk] <;> rfl)
  rw [hna] at ha
  have he : frW u n = clr (frW u a) n := he (by rw [hkd]; rcases hk with hk | hk <;> rw [hk] <;> rfl)
  rcases hk with hk | hk <;> rw [hk] <;> simp only [↓cT, ↓cF, decide_true, Int.reduceEq, decide_false] <;>
   rw [nd_a r rfl hnd, R _ a ha (by omega), R _ n rfl hn, N, A _ (zbt y hs (by omega)), ← he, dT rfl, Bool.not_true, cond_false]
 ·have he : frW u n = 0 := zod y hn (by rw [hkd]; rcases hk with hk | hk | hk | hk <;> rw [hk] <;> rfl) (by rw [hkd]; rcases hk with hk | hk | hk | hk <;> rw [hk] <;> decide)
  have hc : clr 0 n = 0 := by unfold clr; exact Nat.zero_and _
  rcases hk with hk | hk | hk | hk <;> rw [hk] <;> simp only [↓cT, ↓cF, decide_true, Int.reduceEq, decide_false] <;>
   rw [R _ n rfl hn, N, A0, hc, he, dT rfl, Bool.not_true, cond_false]
theorem ord_loop {h₀ : H} (wd : Wide l u) (hp : pos5 u = true) (r : NdR h₀ f l) (rw' : Rd h₀ w 1 (cUs (tab u.size fun v => ((frW u v : Nat) : Int)))) (rs : Rd h₀ s 1 (cIs (tab u.size fun v => ((rkT u v : Nat) : Int)))) (k : Nat) (hk : 100≤k) : ∀ (j n : Nat) (h : H), n≤u.size->u.size - n < j->Ext h₀ h ->
  ∃ h', ∀ (α : Type) (kr : Bool->M α) (kx : M α), qd.u19.l (k + 1) kr kx j f w s (n : Int) h = kx h' := by
 have hs := wd.size
 have hlen := wd.len
 have hsl : s.len = u.size := by rw [zcg rs, zaq]
 intro j
 induction j with
 | zero => intro n h hn hj; omega
 | succ j ih =>
  intro n h hn hj x
  by_cases hlt : n < u.size
  rotate_left
  ·refine ⟨h, fun α kr kx => ?_⟩
   rw [qd.u19.l, qd.u18.f, qd.u3.f, hsl, dF (by omega : ¬ (n : Int) < (u.size : Int)), cond_false]
  have hnd : l[n]? = some l[n] := List.getElem?_eq_getElem (by omega)
  generalize l[n] = nd at hnd
  have e := wd.nd hnd
  have hfx : fxF u n = fixK nd.kind := by show fixK (ndF u.pl n).kind = _; rw [e]; exact znd nd.kind
  have h10 : (ndF u.pl n).kind = 10 ↔ nd.kind = 10 := by rw [e]; show plK nd.kind = 10 ↔ _; unfold plK; split <;> omega
  have x1 : Ext h₀ (h.push (ndC nd)) := x.push _
  obtain ⟨h2, e2, x2⟩ := ord8 (f := f) (w := w) (s := s) wd hlt r rw' rs k (k + 1) 0 (h.push (ndC nd)) (by omega) (by omega) x1
  obtain ⟨h3, e3⟩ := ih (n + 1) h2 (by omega) (by omega) x2
  refine ⟨h3, fun α kr kx => ?_⟩
  rw [qd.u19.l, qd.u18.f, qd.u3.f, hsl, dT (by omega : (n : Int) < (u.size : Int)), cond_true, qd.u17.f, qd.u15.f, qd.u14.f, ord4 wd (r.ext x) (rw'.ext x) (rs.ext x) hnd]
  have rest : qd.u12.f (k + 1) f w s (n : Int) (fun y0 y1 y2 y3 => qd.u16.f (k + 1) y0 y1 y2 y3 (fun y0 y1 y2 y3 => qd.u19.l (k + 1) kr kx j y0 y1 y2 y3)) kr (h.push (ndC nd)) = kx h3 := by
   rw [qd.u12.f, qd.u10.f, qd.u6.f, qd.u9.f, qd.u8.f]
   refine (e2 α _ _).trans ?_
   rw [ord11 wd hp (r.ext x2) (rw'.ext x2) hnd, qd.u16.f, je (by omega) (by omega)]
   exact e3 α kr kx
  rw [qd.u13.f, qd.u5.f]
  cases hf : fixK nd.kind with
  | false => rw [cond_false]; exact rest
  | true =>
   have hpar := rk_parity (n := n) (by rw [hfx, hf])
   rw [cond_true, zaa (rs.ext x1) rfl (yt hlt _), zfp (r.ext x1) rfl hnd, show Int.tmod ((rkT u n : Nat) : Int) 2 = ((rkT u n % 2 : Nat) : Int) from rfl, hpar]
   have : decide ((((if (ndF u.pl n).kind = 10 then 1 else 0) : Nat) : Int) = 1) = decide (nd.kind = 10) := by
    by_cases q : nd.kind = 10
    ·rw [if_pos (h10.2 q), decide_eq_true q]; rfl
    ·rw [if_neg (fun z => q (h10.1 z)), decide_eq_false q]; rfl
   rw [this, dT rfl, Bool.not_true, cond_false]
   exact rest
end
theorem RankOrder_law {f : Sl} {l : List Nd} {h : H} (r : NdR h f l) (hnl : NL l) (hr : Room l.length) (hf : f.fine 5) : ∃ k h', ∀ (α : Type) (ret : Bool->M α), qd.f (k + 1) f ret h = ret true h' := by
 obtain ⟨k, hk1, hk2⟩ : ∃ k, 4000000≤k ∧ l.length + 2000≤k := ⟨4002000 + l.length, by omega, by omega⟩
 refine ⟨k + 1, ?_⟩
 obtain ⟨h1, e1, x1⟩ := zql k hk1 h
 rcases pos_or l with ⟨u, wd, hp⟩ | hn
 ·have hs := wd.size
  have hpos := u.pos
  obtain ⟨w, h2, e2, m2⟩ := zho k (by omega) wd hp h1 (r.ext x1)
  have x2 := x1.trans m2.ext
  obtain ⟨s, h3, e3, m3⟩ := zkl k (by omega) wd hp hf h2 (r.ext x2)
  have x3 := x2.trans m3.ext
  obtain ⟨h4, e4, x4⟩ := ziu k (by omega) wd h3 (r.ext x3)
  rw [hp] at e4
  have rw' := m2.own.rd.ext (m3.ext.trans x4)
  have rs := m3.own.rd.ext x4
  have hw : w.len = u.size := by rw [us_len rw', zaq]
  have hsl : s.len = u.size := by rw [zcg rs, zaq]
  obtain ⟨h5, e5⟩ := ord_loop wd hp (r.ext (x3.trans x4)) rw' rs k (by omega) (k + 1) 0 h4 (Nat.zero_le _) (by omega) (Ext.refl h4)
  refine ⟨h5, fun α ret => ?_⟩
  rw [qd.f, qd.u24.f, qd.u1.f, e1, e2, e3, Bool.not_true, cond_false, e4, hw, hsl, dT (by omega : (0 : Int) < (u.size : Int)), dT rfl, Bool.not_true, cond_false, dT rfl, Bool.not_true, cond_false, qd.u23.f, qd.u21.f, qd.u2.f, qd.u20.f, qd.u19.f]
  refine (e5 α _ _).trans ?_
  rw [qd.u22.f]
 ·obtain ⟨h2, e2, x2⟩ := znr k hn hr (by omega) h1 (r.ext x1)
  obtain ⟨s, h3, e3, x3, hsl⟩ := ranks_not k hn hr (by omega) hf h2 (r.ext (x1.trans x2))
  obtain ⟨h4, e4, x4⟩ : ∃ h', (∀ (α : Type) (ret : Bool->M α), qab.f (k + 1) f ret h3 = ret false h') ∧ Ext h3 h' := by
   rcases hn with w | ⟨u, w, hp⟩
   ·exact is_not k w hr (by omega) h3 (r.ext ((x1.trans x2).trans x3))
   ·obtain ⟨h1, e1, x1⟩ := ziu k (by omega) w h3 (r.ext ((x1.trans x2).trans x3))
    rw [hp] at e1
    exact ⟨h1, e1, x1⟩
  refine ⟨h4, fun α ret => ?_⟩
  rw [qd.f, qd.u24.f, qd.u1.f, e1, e2, e3, Bool.not_true, cond_false, e4, dF (by decide : ¬ (0 : Int) < (Sl.nil.len : Int)), dT rfl, Bool.not_true, cond_false, hsl, dT (show (Sl.nil.len : Int) = ((0 : Nat) : Int) from rfl), Bool.not_true, cond_false, qd.u23.f, qd.u21.f, qd.u2.f, qd.u20.f, qd.u19.f, qd.u19.l, qd.u18.f, qd.u3.f, hsl, dF (by decide : ¬ ((0 : Int) < ((0 : Nat) : Int))), cond_false, qd.u22.f]
end Go.Ab.S5
