import Derived.Test.YtmanohnlcedeaaaDoorS5mk
namespace Go.Ab.S5
set_option linter.unusedVariables false
set_option linter.unusedSimpArgs false
variable {α : Type}
theorem dual_run {h : H} (k : Nat) (x : Int) (ret : Int->M α) : qat.f (k + 1) x ret h = ret (zdg x) h := by
 rw [qat.f, qat.u1.f]
 unfold zdg
 by_cases h1 : x = 1
 ·rw [dT h1, cond_true, if_pos h1]
 rw [dF h1, cond_false, if_neg h1]
 by_cases h2 : x = 2
 ·rw [dT h2, cond_true, if_pos h2]
 rw [dF h2, cond_false, if_neg h2]
 by_cases h3 : x = 3
 ·rw [dT h3, cond_true, if_pos h3]
 rw [dF h3, cond_false, if_neg h3]
 by_cases h4 : x = 12
 ·rw [dT h4, cond_true, if_pos h4]
 rw [dF h4, cond_false, if_neg h4]
 by_cases h5 : x = 6
 ·rw [dT h5, cond_true, if_pos h5]
 rw [dF h5, cond_false, if_neg h5]
 by_cases h6 : x = 7
 ·rw [dT h6, cond_true, if_pos h6]
 rw [dF h6, cond_false, if_neg h6]
 by_cases h7 : x = 8
 ·rw [dT h7, cond_true, if_pos h7]
 rw [dF h7, cond_false, if_neg h7]
 by_cases h8 : x = 9
 ·rw [dT h8, cond_true, if_pos h8]
 rw [dF h8, cond_false, if_neg h8]
 by_cases h9 : x = 10
 ·rw [dT h9, cond_true, if_pos h9]
 rw [dF h9, cond_false, if_neg h9]
 by_cases h10 : x = 11
 ·rw [dT h10, cond_true, if_pos h10]
 rw [dF h10, cond_false, if_neg h10]
structure MS (h₀ h : H) (m : Nat) (f : Sl) (l : List Nd) (o : Sl) (O : List Nd) : Prop where
 ext : Ext h₀ h
 blk : h.get m = some (.cells [.slice f, .slice o] true)
 mlt : m < h.next
 m0 : h₀.next≤m
 f : NdR h₀ f l
 ap : App h o 5 (cN O)
 low : zaw h₀ o
 nm : ∀ a, o.ad = some a->a.id ≠ m
def Qt (h : H) (m : Nat) (o : Sl) (h' : H) : Prop := h.next≤h'.next ∧ ∀ i, i < h.next->i ≠ m->(∀ a, o.ad = some a->i ≠ a.id)->h'.get i = h.get i
section
variable {h₀ h h1 h2 : H} {m q : Nat} {f o o1 : Sl} {l O : List Nd} {n : Nd}
theorem Qt.of (x : Ext h h1) : Qt h m o h1 := ⟨x.1, fun i hi _ _ => x.2 i hi⟩
theorem Qt.trans (a : Qt h m o h1) (hn : ∀ a, o1.ad = some a->h.next≤a.id ∨ o1.ad = o.ad) (b : Qt h1 m o1 h2) : Qt h m o h2 :=
 ⟨Nat.le_trans a.1 b.1, fun i hi hm ho => by
  rw [b.2 i (Nat.lt_of_lt_of_le hi a.1) hm (fun c hc => ?_), a.2 i hi hm ho]
  rcases hn c hc with h | h
  ·omega
  ·exact ho c (by rw [← h]; exact hc)⟩
theorem MS.olt (W : MS h₀ h m f l o O) : ∀ a, o.ad = some a->a.id < h.next := fun a ha => (W.ap.rd.row a ha).2
theorem MS.push (W : MS h₀ h m f l o O) (x : Ext h h1) : MS h₀ h1 m f l o O :=
 ⟨W.ext.trans x, by rw [x.2 _ W.mlt]; exact W.blk, Nat.lt_of_lt_of_le W.mlt x.1, W.m0, W.f, W.ap.ext x, W.low, W.nm⟩
theorem MS.putq (W : MS h₀ h m f l o O) (b : Option Blk) (h0 : h₀.next≤q) (hm : q ≠ m) (ho : ∀ a, o.ad = some a->q ≠ a.id) : MS h₀ (h.put q b) m f l o O :=
 ⟨W.ext.put b h0, by rw [zg, if_neg (Ne.symm hm)]; exact W.blk, W.mlt, W.m0, W.f, W.ap.keep (Nat.le_refl _) (fun a ha => by rw [zg, if_neg (Ne.symm (ho a ha))]), W.low, W.nm⟩
theorem znt (hq : h.get q = some (ndC n)) {j : Nat} {v : V} (n' : Nd) (hj : j < 5) (hv : oneV v = true) (hs : n'.cells = n.cells.set j v) (K : M α) : st1 (((⟨q, 0⟩ : Ad).add j).add 0) v K h = K (h.put q (some (ndC n'))) := by
 simp only [zz, Nat.zero_add, Nat.add_zero]
 rw [yk (a := ⟨q, j⟩) hq hv hj]
 show K (h.put q (some (.cells (n.cells.set j v) true))) = _
 rw [← hs]
 rfl
theorem ms_f (W : MS h₀ h m f l o O) (K : Sl->M α) : ldS (((⟨m, 0⟩ : Ad).add 0).add 0) K h = K f h := zau (by simp only [zz]; rw [zw (a := ⟨m, 0 + 0 + 0⟩) W.blk]; rfl)
theorem ms_o (W : MS h₀ h m f l o O) (K : Sl->M α) : ldS (((⟨m, 0⟩ : Ad).add 1).add 0) K h = K o h := zau (by simp only [zz]; rw [zw (a := ⟨m, 0 + 1 + 0⟩) W.blk]; rfl)
theorem zoa (W : MS h₀ h m f l o O) (hq : h.get q = some (ndC n)) (hql : q < h.next) (h0 : h₀.next≤q) (hm : q ≠ m) (ho : ∀ a, o.ad = some a->q ≠ a.id) (hO : O.length≤1000) (k : Nat) (neg : Bool) :
  ∃ h' o', (∀ (α : Type) (ret : Int->M α), qw.u4.f (k + 1) ⟨m, 0⟩ neg ⟨q, 0⟩ ret h = ret (O.length : Int) h') ∧ MS h₀ h' m f l o' (O ++ [{ n with kind := negK neg n.kind }]) ∧ (∀ a, o'.ad = some a->h.next≤a.id) ∧
   h.next≤h'.next ∧ ∀ i, i < h.next->i ≠ m->i ≠ q->(∀ a, o.ad = some a->i ≠ a.id)->h'.get i = h.get i := by
 -- the kind
 obtain ⟨h1, e1, M1, q1, n1, g1⟩ : ∃ h1, (∀ (α : Type) (kn : Ad->Ad->M α), qw.u2.f (k + 1) ⟨m, 0⟩ neg ⟨q, 0⟩ kn h = kn ⟨m, 0⟩ ⟨q, 0⟩ h1) ∧ MS h₀ h1 m f l o O ∧ h1.get q = some (ndC { n with kind := negK neg n.kind }) ∧ h1.next = h.next ∧ ∀ i, i ≠ q->h1.get i = h.get i := by
  cases neg with
  | false => exact ⟨h, fun α kn => by rw [qw.u2.f, cond_false], W, hq, rfl, fun _ _ => rfl⟩
  | true =>
   refine ⟨h.put q (some (ndC { n with kind := zdg n.kind })), fun α kn => ?_, W.putq _ h0 hm ho, jl _ _ _, rfl, fun i hi => by rw [zg, if_neg hi]⟩
   have hk : ∀ K : Int->M α, ldI .i64 (((⟨q, 0⟩ : Ad).add 0).add 0) K h = K n.kind h := fun K => zca hq K
   rw [qw.u2.f, cond_true, hk, dual_run, znt hq { n with kind := zdg n.kind } (by decide) rfl rfl]
 generalize hn' : ({ n with kind := negK neg n.kind } : Nd) = n' at q1
 have hol := zbm M1.ap.rd
 have x2 : Ext h1 (h1.push (ndC n')) := (Ext.refl h1).push _
 have M2 := M1.push x2
 have rx : Rd (h1.push (ndC n')) ⟨some ⟨h1.next, 0⟩, 1, 1, none⟩ 5 n'.cells := Rd.pushed h1 rfl
 obtain ⟨h3, e3, ap3, g3, kp3⟩ := zjr (bytes := 48) M2.ap rx (by show 0 < 1; decide) (by decide) (by rw [hol]; show (O.length + 1 + (O.length + 1) / 4 + 512) * 48≤_; omega)
 have hm3 : h3.get m = some (.cells [.slice f, .slice o] true) := by
  rw [kp3.2 m M2.mlt (fun _ a ha => Ne.symm (M2.nm a ha))]; exact M2.blk
 have hn3 : h3.next = h1.next + 2 := by rw [kp3.1]; rfl
 have hc : cN O ++ n'.cells = cN (O ++ [n']) := by simp [List.flatMap_append]
 rw [hc] at ap3
 have hmlt := M1.mlt
 have hm0 := W.m0
 refine ⟨h3.put m (some (.cells [.slice f, .slice ⟨some ⟨h1.next + 1, 0⟩, o.len + 1, o.len + 1, some 5⟩] true)), ⟨some ⟨h1.next + 1, 0⟩, o.len + 1, o.len + 1, some 5⟩, fun α ret => ?_, ?_, ?_, ?_, ?_⟩
 ·rw [qw.u4.f, e1, qw.u3.f, ms_o M1, zgc q1, jp rfl]
  show (ldS _ _) (h1.push (ndC n')) = _
  rw [ms_o M2, zr (dT rfl), e3]
  simp only [zz, Nat.zero_add, Nat.add_zero]
  rw [yk (a := ⟨m, 1⟩) hm3 rfl (by simp), zau (n := ⟨some ⟨h1.next + 1, 0⟩, o.len + 1, o.len + 1, some 5⟩) (by rw [zw (a := ⟨m, 1⟩) (jl _ _ _)]; rfl)]
  show ret (w64 (((o.len + 1 : Nat) : Int) - 1)) _ = _
  rw [hol, je (by omega) (by omega), show (((O.length + 1 : Nat) : Int) - 1) = (O.length : Int) by omega]
  rfl
 ·have x3 : Ext h₀ h3 := kp3.ext M2.ext (fun a ha => M2.low a ha)
  refine ⟨x3.put _ W.m0, jl _ _ _, by show m < h3.next; omega, W.m0, W.f, ?_, fun a ha => ?_, fun a ha => ?_⟩
  ·refine ap3.keep (Nat.le_refl _) fun a ha => ?_
   cases ha
   rw [zg, if_neg (by show h1.next + 1 ≠ m; omega)]
  ·cases ha; show h₀.next≤h1.next + 1; omega
  ·cases ha; show h1.next + 1 ≠ m; omega
 ·intro a ha
  cases ha
  show h.next≤h1.next + 1
  omega
 ·show h.next≤h3.next
  omega
 ·intro i hi him hiq hio
  rw [zg, if_neg him, kp3.2 i (by show i < h1.next + 1; omega) (fun _ a ha => hio a ha), x2.2 i (by omega), g1 i hiq]
def NR (h₀ : H) (m : Nat) (f : Sl) (l : List Nd) (t : Tr) : Prop :=
 ∀ (base : Nat) (neg : Bool) (k : Nat) (h : H) (o : Sl) (O : List Nd), (∀ i n, (t.flat base)[i]? = some n->l[base + i]? = some n)->t.size + 5≤k->MS h₀ h m f l o O->O.length + t.size≤1000 ->
  ∃ h' o', (∀ (α : Type) (ret : Int->M α), qw.f k ⟨m, 0⟩ ((base + t.size - 1 : Nat) : Int) neg ret h = ret ((O.length + (nfT t neg).size - 1 : Nat) : Int) h') ∧
   MS h₀ h' m f l o' (O ++ (nfT t neg).flat O.length) ∧ Qt h m o h' ∧ (∀ a, o'.ad = some a->h.next≤a.id)
theorem zhb (W : MS h₀ h m f l o O) {i : Nat} (hi : l[i]? = some n) (k : Nat) (neg : Bool) (ret : Int->M α) :
  qw.f (k + 1) ⟨m, 0⟩ (i : Int) neg ret h =
   (if n.kind = 5 then qw.f k ⟨m, 0⟩ n.a (!neg) ret
   else if n.kind = 6 ∨ n.kind = 7 then qw.f k ⟨m, 0⟩ n.a neg fun r => ldI .i64 (((⟨h.next, 0⟩ : Ad).add 2).add 0) fun y => need (decide (n.b = y)) <| qw.f k ⟨m, 0⟩ n.b neg fun r' => st1 (((⟨h.next, 0⟩ : Ad).add 1).add 0) (.int .i64 r) <| st1 (((⟨h.next, 0⟩ : Ad).add 2).add 0) (.int .i64 r') <| qw.u4.f k ⟨m, 0⟩ neg ⟨h.next, 0⟩ ret
   else if n.kind = 8 ∨ n.kind = 9 ∨ n.kind = 10 ∨ n.kind = 11 then qw.f k ⟨m, 0⟩ n.a neg fun r => st1 (((⟨h.next, 0⟩ : Ad).add 1).add 0) (.int .i64 r) <| qw.u4.f k ⟨m, 0⟩ neg ⟨h.next, 0⟩ ret
   else qw.u4.f k ⟨m, 0⟩ neg ⟨h.next, 0⟩ ret) (h.push (ndC n)) := by
 have hq : (h.push (ndC n)).get h.next = some (ndC n) := by rw [zj, if_pos rfl]
 rw [qw.f, qw.u5.f, qw.u1.f, ms_f W, zik (W.f.ext W.ext) rfl hi, zfu, zca hq]
 by_cases h5 : n.kind = 5
 ·rw [dT h5, cond_true, zcd hq, if_pos h5]
 rw [dF h5, cond_false, zca hq, if_neg h5]
 by_cases h6 : n.kind = 6
 ·rw [dT h6, cond_true, cond_true, zcd hq, zna hq, if_pos (.inl h6)]
 rw [dF h6, cond_false]
 by_cases h7 : n.kind = 7
 ·rw [dT h7, cond_true, zcd hq, zna hq, if_pos (.inr h7)]
 rw [dF h7, cond_false, if_neg (by omega)]
 by_cases h8 : n.kind = 8
 ·rw [dT h8, cond_true, cond_true, zcd hq, if_pos (.inl h8)]
 rw [dF h8, cond_false]
 by_cases h9 : n.kind = 9
 ·rw [dT h9, cond_true, cond_true, zcd hq, if_pos (.inr (.inl h9))]
 rw [dF h9, cond_false]
 by_cases h10 : n.kind = 10
 ·rw [dT h10, cond_true, cond_true, zcd hq, if_pos (.inr (.inr (.inl h10)))]
 rw [dF h10, cond_false]
 by_cases h11 : n.kind = 11
 ·rw [dT h11, cond_true, zcd hq, if_pos (.inr (.inr (.inr h11)))]
 rw [dF h11, cond_false, if_neg (by omega)]
theorem mroot (t : Tr) (base : Nat) : (t.flat base)[t.size - 1]? = some (t.node base) := by
 cases t with
 | leaf k s p => rfl
 | un k s p a =>
  simp only [Tr.flat, Tr.size]
  rw [List.getElem?_append_right (by rw [zh]; omega), zh]
  simp
 | bin k s p a b =>
  simp only [Tr.flat, Tr.size]
  rw [List.getElem?_append_right (by rw [zh]; omega), zh, List.getElem?_append_right (by rw [zh]; omega), zh, show a.size + b.size + 1 - 1 - a.size - b.size = 0 by omega]
  rfl
theorem zko {t : Tr} {base : Nat} (hfl : ∀ i n, (t.flat base)[i]? = some n->l[base + i]? = some n) : l[base + t.size - 1]? = some (t.node base) := by
 have := hfl _ _ (mroot t base)
 have hp := Tr.pos t
 rw [show base + t.size - 1 = base + (t.size - 1) by omega]
 exact this
theorem zfq (hf : NdR h₀ f l) : ∀ t : Tr, t.pl.ok = true->NR h₀ m f l t
 | .leaf kd s p, hok => by
  intro base neg k h o O hfl hk W hO
  obtain ⟨k, rfl⟩ : ∃ q, k = q + 2 := ⟨k - 2, by omega⟩
  simp only [Tr.pl, Tr.ok, Bool.and_eq_true, decide_eq_true_eq] at hok
  have hkk := ye (k := kd) (by omega)
  have hn := zko hfl
  have x1 : Ext h (h.push (ndC ((Tr.leaf kd s p).node base))) := (Ext.refl h).push _
  have hq : (h.push (ndC ((Tr.leaf kd s p).node base))).get h.next = some (ndC ((Tr.leaf kd s p).node base)) := by rw [zj, if_pos rfl]
  have hml := W.mlt
  have h0l := W.ext.1
  obtain ⟨h', o', e, W', q1, q2, q3⟩ := zoa (W.push x1) hq (by rw [zi]; omega) (by omega) (by omega) (fun a ha => by have := W.olt a ha; omega) (by simp only [Tr.size] at hO; omega) k neg
  refine ⟨h', o', fun α ret => ?_, W', ?_, fun a ha => by have := q1 a ha; rw [zi] at this; omega⟩
  ·rw [zhb W hn]
   have hk' : ((Tr.leaf kd s p).node base).kind = kd := rfl
   rw [hk', if_neg (by rintro rfl; exact absurd hok.1 (by decide)), if_neg (by rintro (rfl | rfl) <;> exact absurd hok.1 (by decide)), if_neg (by rintro (rfl | rfl | rfl | rfl) <;> exact absurd hok.1 (by decide)), e]
   simp [nfT, Tr.size]
  ·refine ⟨by rw [zi] at q2; omega, fun i hi hm ho => ?_⟩
   rw [q3 i (by rw [zi]; omega) hm (by omega) ho, x1.2 i hi]
 | .un kd s p a, hok => by
  intro base neg k h o O hfl hk W hO
  obtain ⟨k, rfl⟩ : ∃ q, k = q + 2 := ⟨k - 2, by omega⟩
  simp only [Tr.pl, Tr.ok, Bool.and_eq_true, decide_eq_true_eq] at hok
  have hkk := ye (k := kd) (by omega)
  simp only [Tr.size] at hO hk
  have hn := zko hfl
  have hsub := zej (l := l) (a := a) (base := base) (rest := [(Tr.un kd s p a).node base]) hfl
  have x1 : Ext h (h.push (ndC ((Tr.un kd s p a).node base))) := (Ext.refl h).push _
  have hq : (h.push (ndC ((Tr.un kd s p a).node base))).get h.next = some (ndC ((Tr.un kd s p a).node base)) := by rw [zj, if_pos rfl]
  have hml := W.mlt
  have h0l := W.ext.1
  by_cases h5 : kd = 5
  ·obtain ⟨h', o', e, W', q1, q2⟩ := zfq hf a hok.2 base (!neg) (k + 1) _ o O hsub.1 (by omega) (W.push x1) (by omega)
   refine ⟨h', o', fun α ret => ?_, ?_, (Qt.of x1).trans (fun _ _ => .inr rfl) q1, fun a ha => by have := q2 a ha; rw [zi] at this; omega⟩
   ·rw [zhb W hn, show ((Tr.un kd s p a).node base).kind = 5 from h5, if_pos rfl]
    simp only [nfT, if_pos h5]
    exact e α ret
   ·simp only [nfT, if_pos h5]; exact W'
  ·obtain ⟨h2, o2, e2, M2, q2, w2⟩ := zfq hf a hok.2 base neg (k + 1) _ o O hsub.1 (by omega) (W.push x1) (by omega)
   have hq2 : h2.get h.next = some (ndC ((Tr.un kd s p a).node base)) := by
    rw [q2.2 h.next (by rw [zi]; omega) (by omega) (fun a ha => by have := W.olt a ha; omega)]; exact hq
   have hn2 := q2.1
   rw [zi] at hn2
   have ho2 : ∀ a, o2.ad = some a->h.next ≠ a.id := fun a ha => by have := w2 a ha; rw [zi] at this; omega
   have M3 := M2.putq (q := h.next) (some (ndC { (Tr.un kd s p a).node base with a := ((O.length + (nfT a neg).size - 1 : Nat) : Int) })) (by omega) (by omega) ho2
   have hla := zhd a neg
   obtain ⟨h', o', e, W', q1, q2', q3⟩ := zoa M3 (jl _ _ _) (by show h.next < h2.next; omega) (by omega) (by omega) ho2 (by rw [List.length_append, zh]; omega) k neg
   refine ⟨h', o', fun α ret => ?_, ?_, ⟨by have : h2.next≤h'.next := q2'; omega, fun i hi hm ho => ?_⟩, fun a ha => by have : h2.next≤a.id := q1 a ha; omega⟩
   ·have hk' : ((Tr.un kd s p a).node base).kind = kd := rfl
    have hr : kd = 8 ∨ kd = 9 ∨ kd = 10 ∨ kd = 11 := by
     rcases hkk with rfl | rfl | rfl | rfl | rfl | rfl | rfl | rfl | rfl | rfl | rfl | rfl <;> first | (exact absurd hok.1.1 (by decide)) | omega
    rw [zhb W hn, hk', if_neg h5, if_neg (by omega), if_pos hr]
    refine (e2 α _).trans ?_
    rw [znt hq2 { (Tr.un kd s p a).node base with a := ((O.length + (nfT a neg).size - 1 : Nat) : Int) } (by decide) rfl rfl, e, List.length_append, zh]
    simp only [nfT, if_neg h5, Tr.size]
    congr 2
   ·simp only [nfT, if_neg h5, Tr.flat]
    rw [List.append_assoc] at W'
    exact W'
   ·rw [q3 i (by show i < h2.next; omega) hm (by omega) (fun a ha => by have := w2 a ha; rw [zi] at this; omega), zg, if_neg (by omega), q2.2 i (by rw [zi]; omega) hm ho, x1.2 i hi]
 | .bin kd s p a c, hok => by
  intro base neg k h o O hfl hk W hO
  obtain ⟨k, rfl⟩ : ∃ q, k = q + 2 := ⟨k - 2, by omega⟩
  simp only [Tr.pl, Tr.ok, Bool.and_eq_true, decide_eq_true_eq] at hok
  have hkk := ye (k := kd) (by omega)
  simp only [Tr.size] at hO hk
  have hn := zko hfl
  have hs1 := zej (l := l) (a := a) (base := base) (rest := c.flat (base + a.size) ++ [(Tr.bin kd s p a c).node base]) hfl
  have hs2 := zej (l := l) (a := c) (base := base + a.size) (rest := [(Tr.bin kd s p a c).node base]) hs1.2
  have x1 : Ext h (h.push (ndC ((Tr.bin kd s p a c).node base))) := (Ext.refl h).push _
  have hq : (h.push (ndC ((Tr.bin kd s p a c).node base))).get h.next = some (ndC ((Tr.bin kd s p a c).node base)) := by rw [zj, if_pos rfl]
  have hml := W.mlt
  have h0l := W.ext.1
  obtain ⟨h2, o2, e2, M2, q2, w2⟩ := zfq hf a hok.1.2 base neg (k + 1) _ o O hs1.1 (by omega) (W.push x1) (by omega)
  have hq2 : h2.get h.next = some (ndC ((Tr.bin kd s p a c).node base)) := by
   rw [q2.2 h.next (by rw [zi]; omega) (by omega) (fun a ha => by have := W.olt a ha; omega)]; exact hq
  have hn2 := q2.1
  rw [zi] at hn2
  have hla := zhd a neg
  have hlc := zhd c neg
  have hpa := Tr.pos (nfT a neg)
  have hpc := Tr.pos (nfT c neg)
  obtain ⟨h3, o3, e3, M3, q3, w3⟩ := zfq hf c hok.2 (base + a.size) neg (k + 1) h2 o2 _ hs2.1 (by omega) M2 (by rw [List.length_append, zh]; omega)
  have hq3 : h3.get h.next = some (ndC ((Tr.bin kd s p a c).node base)) := by
   rw [q3.2 h.next (by omega) (by omega) (fun a ha => by have := w2 a ha; rw [zi] at this; omega)]; exact hq2
  have hn3 := q3.1
  have ho3 : ∀ a, o3.ad = some a->h.next ≠ a.id := fun a ha => by have := w3 a ha; omega
  generalize hr1 : ((O.length + (nfT a neg).size - 1 : Nat) : Int) = r1 at e2
  generalize hr2 : (((O ++ (nfT a neg).flat O.length).length + (nfT c neg).size - 1 : Nat) : Int) = r2 at e3
  have M4 := (M3.putq (q := h.next) (some (ndC { (Tr.bin kd s p a c).node base with a := r1 })) (by omega) (by omega) ho3).putq (q := h.next) (some (ndC { (Tr.bin kd s p a c).node base with a := r1, b := r2 })) (by omega) (by omega) ho3
  obtain ⟨h', o', e, W', p1, p2, p3⟩ := zoa M4 (jl _ _ _) (by show h.next < h3.next; omega) (by omega) (by omega) ho3 (by rw [List.length_append, List.length_append, zh, zh]; omega) k neg
  rw [List.length_append, zh] at hr2
  refine ⟨h', o', fun α ret => ?_, ?_, ⟨by have : h3.next≤h'.next := p2; omega, fun i hi hm ho => ?_⟩, fun a ha => by have : h3.next≤a.id := p1 a ha; omega⟩
  ·have hk' : ((Tr.bin kd s p a c).node base).kind = kd := rfl
   have hr : kd = 6 ∨ kd = 7 := by
    rcases hkk with rfl | rfl | rfl | rfl | rfl | rfl | rfl | rfl | rfl | rfl | rfl | rfl <;> first | (exact absurd hok.1.1.1 (by decide)) | omega
   rw [zhb W hn, hk', if_neg (by omega), if_pos hr]
   refine (e2 α _).trans ?_
   rw [zna hq2, zr (dT rfl)]
   refine (e3 α _).trans ?_
   rw [znt hq3 { (Tr.bin kd s p a c).node base with a := r1 } (by decide) rfl rfl, znt (jl _ _ _) { (Tr.bin kd s p a c).node base with a := r1, b := r2 } (by decide) rfl rfl, e, List.length_append, List.length_append, zh, zh]
   simp only [nfT, Tr.size]
   congr 2
   omega
  ·simp only [nfT, Tr.flat]
   rw [List.append_assoc, List.append_assoc, List.length_append, zh] at W'
   have e : (Tr.bin (negK neg kd) s p (nfT a neg) (nfT c neg)).node O.length = { (Tr.bin kd s p a c).node base with a := r1, b := r2, kind := negK neg kd } := by
    simp only [Tr.node, Nd.mk.injEq, true_and]
    exact ⟨hr1, hr2, trivial⟩
   rw [e]
   exact W'
  ·rw [p3 i (by show i < h3.next; omega) hm (by omega) (fun a ha => by have := w3 a ha; omega), zg, if_neg (by omega), zg, if_neg (by omega), q3.2 i (by omega) hm (fun a ha => by have := w2 a ha; rw [zi] at this; omega), q2.2 i (by rw [zi]; omega) hm ho, x1.2 i hi]
end
end Go.Ab.S5
namespace Go.Ab.S5
set_option linter.unusedVariables false
set_option linter.unusedSimpArgs false
structure St where
 l : List Tok
 made : Nat
 f : List Nd
 deriving DecidableEq
abbrev Er := Int × Int
def St.hd (s : St) : Tok := s.l.headD ⟨0, 0, [], 0⟩
def St.adv (s : St) : St := { s with l := s.l.tail }
def isS (sign : List UInt8) (s : St) : Bool := decide (s.hd.kind = 5) && decide (s.hd.text = sign)
def zce (s : St) : Er := (s.hd.pos, if s.hd.kind = 0 then 6 else 7)
def zao (s : St) : Except Er (Tok × St) := if s.made = 60 then .error (s.hd.pos, 10) else .ok (s.hd, { s.adv with made := s.made + 1 })
def zdp (sign : List UInt8) (s : St) : Except Er St := if isS sign s = true then .ok s.adv else .error (zce s)
def layE (n : Nd) (s : St) : Int × St := ((s.f.length : Int), { s with f := s.f ++ [n] })
def zey (shut : List UInt8) (s : St) : Except Er (List UInt8 × St) :=
 if isS [45] s = true ∨ (s.hd.kind = 2 ∧ zfj s.hd.text = false) then (match zdp shut s.adv with | .error e => .error e | .ok s' => .ok (s.hd.text, s')) else .error (zce s)
inductive Rl where
 | un
 | row (o : Bool)
 | loop (o : Bool)
def signO (o : Bool) : List UInt8 := if o then [124] else [38]
def zef (o : Bool) : Int := if o then 7 else 6
def oneO (o : Bool) : Rl := if o then .row false else .un
def yo {β γ : Type} (x : Except Er β) (f : β->Except Er γ) : Except Er γ := match x with | .error e => .error e | .ok b => f b
def pz : Nat->Rl->Int->St->Except Er (Int × St)
 | 0, _, _, _ => .error (0, 0)
 | j + 1, .row o, _, s => yo (pz j (oneO o) 0 s) fun x => pz j (.loop o) x.1 x.2
 | j + 1, .loop o, a, s =>
  if isS (signO o) s = true then
   yo (zao s) fun x => yo (pz j (oneO o) 0 x.2) fun y => pz j (.loop o) (layE ⟨zef o, a, y.1, [], x.1.pos⟩ y.2).1 (layE ⟨zef o, a, y.1, [], x.1.pos⟩ y.2).2
  else .ok (a, s)
 | j + 1, .un, _, s =>
  if isS [126] s = true then yo (zao s) fun x => yo (pz j .un 0 x.2) fun y => .ok (layE ⟨5, y.1, 0, [], x.1.pos⟩ y.2)
  else if isS [60] s = true then yo (zao s) fun x => yo (zey [62] x.2) fun z => yo (pz j .un 0 z.2) fun y => .ok (layE ⟨8, y.1, 0, z.1, x.1.pos⟩ y.2)
  else if isS [91] s = true then yo (zao s) fun x => yo (zey [93] x.2) fun z => yo (pz j .un 0 z.2) fun y => .ok (layE ⟨9, y.1, 0, z.1, x.1.pos⟩ y.2)
  else if isS [40] s = true then yo (pz j (.row true) 0 s.adv) fun y => yo (zdp [41] y.2) fun z => .ok (y.1, z)
  else if s.hd.kind = 3 then yo (zao s) fun x => .ok (layE ⟨4, 0, 0, x.1.text, x.1.pos⟩ x.2)
  else if s.hd.kind = 2 then yo (zao s) fun x =>
   if x.1.text = [116, 116] then .ok (layE ⟨1, 0, 0, [], x.1.pos⟩ x.2)
   else if x.1.text = [102, 102] then .ok (layE ⟨2, 0, 0, [], x.1.pos⟩ x.2)
   else if x.1.text = [109, 117] ∨ x.1.text = [110, 117] then
    (if x.2.hd.kind = 3 then yo (zdp [46] x.2.adv) fun z => yo (pz j (.row true) 0 z) fun y => .ok (layE ⟨if x.1.text = [109, 117] then 10 else 11, y.1, 0, x.2.hd.text, x.1.pos⟩ y.2) else .error (zce x.2))
   else .ok (layE ⟨3, 0, 0, x.1.text, x.1.pos⟩ x.2)
  else .error (zce s)
def parseE (l : List Tok) : Except Er (List Nd) :=
 yo (pz (3 * l.length + 10) (.row true) 0 ⟨l, 0, []⟩) fun y => if y.2.hd.kind = 0 then .ok y.2.f else .error (zce y.2)
def Ends : List Tok->Prop
 | [] => False
 | [t] => t.kind = 0
 | t :: u :: l => t.kind ≠ 0 ∧ Ends (u :: l)
theorem Ends.ne {l : List Tok} (h : Ends l) : ∃ t r, l = t :: r := by
 match l, h with
 | [t], _ => exact ⟨t, [], rfl⟩
 | t :: u :: r, _ => exact ⟨t, u :: r, rfl⟩
theorem Ends.tail {l : List Tok} {t : Tok} (h : Ends (t :: l)) (hk : t.kind ≠ 0) : Ends l := by
 match l, h with
 | [], h => exact absurd h hk
 | u :: r, h => exact h.2
theorem jn {sign : List UInt8} {s : St} (h : isS sign s = true) : s.hd.kind = 5 := by
 simp only [isS, Bool.and_eq_true, decide_eq_true_eq] at h; exact h.1
theorem zby {s : St} (h : Ends s.l) (hk : s.hd.kind ≠ 0) : Ends s.adv.l := by
 obtain ⟨t, r, hl⟩ := h.ne
 unfold St.hd at hk
 unfold St.adv
 rw [hl] at h hk ⊢
 exact h.tail hk
def Bal (s s' : St) : Prop := s'.made + s.f.length = s.made + s'.f.length ∧ s.made≤s'.made ∧ (s.made≤60->s'.made≤60) ∧ (Ends s.l->Ends s'.l) ∧ s'.l.length≤s.l.length
theorem Bal.refl (s : St) : Bal s s := ⟨rfl, Nat.le_refl _, id, id, Nat.le_refl _⟩
theorem Bal.trans {a b c : St} (x : Bal a b) (y : Bal b c) : Bal a c := ⟨by have := x.1; have := y.1; omega, Nat.le_trans x.2.1 y.2.1, fun h => y.2.2.1 (x.2.2.1 h), fun h => y.2.2.2.1 (x.2.2.2.1 h), Nat.le_trans y.2.2.2.2 x.2.2.2.2⟩
theorem Bal.adv (s : St) (hk : s.hd.kind ≠ 0) : Bal s s.adv := ⟨rfl, Nat.le_refl _, id, fun he => zby he hk, by unfold St.adv; rw [List.length_tail]; exact Nat.sub_le _ _⟩
theorem zci {s : St} {t : Tok} {s' : St} (h : zao s = .ok (t, s')) : s.made ≠ 60 ∧ t = s.hd ∧ s' = { s.adv with made := s.made + 1 } := by
 unfold zao at h
 split at h
 ·cases h
 ·cases h; exact ⟨by assumption, rfl, rfl⟩
theorem zab {β γ : Type} {x : Except Er β} {f : β->Except Er γ} {c : γ} (h : yo x f = .ok c) : ∃ b, x = .ok b ∧ f b = .ok c := by
 cases x with
 | error e => cases h
 | ok b => exact ⟨b, rfl, h⟩
theorem zfh {sign : List UInt8} {s s' : St} (h : zdp sign s = .ok s') : isS sign s = true ∧ s' = s.adv := by
 unfold zdp at h
 split at h
 ·cases h; exact ⟨by assumption, rfl⟩
 ·cases h
theorem zlq {shut : List UInt8} {s : St} {z : List UInt8 × St} (h : zey shut s = .ok z) : (isS [45] s = true ∨ (s.hd.kind = 2 ∧ zfj s.hd.text = false)) ∧ z.1 = s.hd.text ∧ isS shut s.adv = true ∧ z.2 = s.adv.adv := by
 unfold zey at h
 split at h
 ·rename_i hc
  cases hn : zdp shut s.adv with
  | error e => rw [hn] at h; cases h
  | ok s' =>
   rw [hn] at h
   cases h
   obtain ⟨h1, rfl⟩ := zfh hn
   exact ⟨hc, rfl, h1, rfl⟩
 ·cases h
theorem zia : ∀ (j : Nat) (r : Rl) (a : Int) (s : St) (n : Int) (s' : St), pz j r a s = .ok (n, s')->Bal s s' := by
 intro j
 induction j with
 | zero => intro r a s n s' h; cases h
 | succ j ih =>
  intro r a s n s' h
  -- a token makes a node, which is laid behind what comes between
  have lay : ∀ {s1 s2 : St} {nd : Nd} {t : Tok}, zao s = .ok (t, s1)->s.hd.kind ≠ 0->Bal s1 s2->Bal s (layE nd s2).2 := by
   intro s1 s2 nd t hm hk hb
   obtain ⟨h60, _, rfl⟩ := zci hm
   obtain ⟨b1, b2, b3, b4, b5⟩ := hb
   refine ⟨?_, ?_, ?_, fun he => b4 (zby he hk), by simp only [layE, St.adv, List.length_tail] at *; omega⟩
   ·simp only [layE, St.adv, List.length_append, List.length_cons, List.length_nil] at *; omega
   ·simp only [layE, St.adv] at *; omega
   ·intro h; exact b3 (by show s.made + 1≤60; omega)
  have refl := Bal.refl
  have trans : ∀ {a b c : St}, Bal a b->Bal b c->Bal a c := Bal.trans
  have adv := Bal.adv
  cases r with
  | row o =>
   rw [pz] at h
   obtain ⟨⟨m, s1⟩, h1, h2⟩ := zab h
   exact trans (ih _ _ _ _ _ h1) (ih _ _ _ _ _ h2)
  | loop o =>
   rw [pz] at h
   split at h
   ·rename_i hs
    obtain ⟨⟨t, s1⟩, h1, h⟩ := zab h
    obtain ⟨⟨b, s2⟩, h2, h⟩ := zab h
    exact trans (lay h1 (by rw [jn hs]; decide) (ih _ _ _ _ _ h2)) (ih _ _ _ _ _ h)
   ·cases h; exact refl s
  | un =>
   rw [pz] at h
   have steps : ∀ (k : Int) (shut : List UInt8), s.hd.kind = 5->yo (zao s) (fun x => yo (zey shut x.2) fun z => yo (pz j .un 0 z.2) fun y => .ok (layE ⟨k, y.1, 0, z.1, x.1.pos⟩ y.2)) = .ok (n, s')->Bal s s' := by
    intro k shut hs h
    obtain ⟨⟨t, s1⟩, h1, h⟩ := zab h
    obtain ⟨⟨x, s2⟩, h2, h⟩ := zab h
    obtain ⟨⟨b, s3⟩, h3, h⟩ := zab h
    obtain ⟨c1, c2, c3, c4⟩ := zlq h2
    have k1 : s1.hd.kind ≠ 0 := by
     rcases c1 with c1 | c1
     ·rw [jn c1]; decide
     ·rw [c1.1]; decide
    have k2 : s1.adv.hd.kind ≠ 0 := by rw [jn c3]; decide
    have b2 : Bal s1 s2 := by
     have : s2 = s1.adv.adv := c4
     rw [this]
     exact trans (adv s1 k1) (adv _ k2)
    have := lay (nd := ⟨k, b, 0, x, t.pos⟩) h1 (by rw [hs]; decide) (trans b2 (ih _ _ _ _ _ h3))
    cases h; exact this
   by_cases c1 : isS [126] s = true
   ·rw [if_pos c1] at h
    obtain ⟨⟨t, s1⟩, h1, h⟩ := zab h
    obtain ⟨⟨b, s2⟩, h2, h⟩ := zab h
    have := lay (nd := ⟨5, b, 0, [], t.pos⟩) h1 (by rw [jn c1]; decide) (ih _ _ _ _ _ h2)
    cases h; exact this
   rw [if_neg c1] at h
   by_cases c2 : isS [60] s = true
   ·rw [if_pos c2] at h; exact steps 8 [62] (jn c2) h
   rw [if_neg c2] at h
   by_cases c3 : isS [91] s = true
   ·rw [if_pos c3] at h; exact steps 9 [93] (jn c3) h
   rw [if_neg c3] at h
   by_cases c4 : isS [40] s = true
   ·rw [if_pos c4] at h
    obtain ⟨⟨b, s1⟩, h1, h⟩ := zab h
    obtain ⟨s2, h2, h⟩ := zab h
    obtain ⟨d1, d2⟩ := zfh h2
    cases h
    rw [d2]
    exact trans (adv s (by rw [jn c4]; decide)) (trans (ih _ _ _ _ _ h1) (adv _ (by rw [jn d1]; decide)))
   rw [if_neg c4] at h
   by_cases c5 : s.hd.kind = 3
   ·rw [if_pos c5] at h
    obtain ⟨⟨t, s1⟩, h1, h⟩ := zab h
    have := lay (nd := ⟨4, 0, 0, t.text, t.pos⟩) h1 (by rw [c5]; decide) (refl s1)
    cases h; exact this
   rw [if_neg c5] at h
   by_cases c6 : s.hd.kind = 2
   ·rw [if_pos c6] at h
    obtain ⟨⟨t, s1⟩, h1, h⟩ := zab h
    have hk : s.hd.kind ≠ 0 := by rw [c6]; decide
    dsimp only at h
    by_cases d1 : t.text = [116, 116]
    ·rw [if_pos d1] at h
     have := lay (nd := ⟨1, 0, 0, [], t.pos⟩) h1 hk (refl s1)
     cases h; exact this
    rw [if_neg d1] at h
    by_cases d2 : t.text = [102, 102]
    ·rw [if_pos d2] at h
     have := lay (nd := ⟨2, 0, 0, [], t.pos⟩) h1 hk (refl s1)
     cases h; exact this
    rw [if_neg d2] at h
    by_cases d3 : t.text = [109, 117] ∨ t.text = [110, 117]
    ·rw [if_pos d3] at h
     by_cases h3 : s1.hd.kind = 3
     ·rw [if_pos h3] at h
      obtain ⟨s2, h2, h⟩ := zab h
      obtain ⟨⟨b, s3⟩, h4, h⟩ := zab h
      obtain ⟨e1, e2⟩ := zfh h2
      have b2 : Bal s1 s2 := by
       rw [e2]
       exact trans (adv s1 (by rw [h3]; decide)) (adv _ (by rw [jn e1]; decide))
      have := lay (nd := ⟨if t.text = [109, 117] then 10 else 11, b, 0, s1.hd.text, t.pos⟩) h1 hk (trans b2 (ih _ _ _ _ _ h4))
      cases h; exact this
     ·rw [if_neg h3] at h; cases h
    ·rw [if_neg d3] at h
     have := lay (nd := ⟨3, 0, 0, t.text, t.pos⟩) h1 hk (refl s1)
     cases h; exact this
   ·rw [if_neg c6] at h; cases h
def cost : Rl->Nat->Nat
 | .un, n => 3 * n + 1
 | .row o, n => if o then 3 * n + 3 else 3 * n + 2
 | .loop _, n => 3 * n + 1
theorem yq {β γ : Type} {x : Except Er β} {f : β->Except Er γ} {e : Er} (h : yo x f = .error e) : x = .error e ∨ ∃ b, x = .ok b ∧ f b = .error e := by
 cases x with
 | error e' =>
  left
  have h : (Except.error e' : Except Er γ) = .error e := h
  cases h; rfl
 | ok b => exact .inr ⟨b, rfl, h⟩
theorem zdi {s : St} {e : Er} (h : zao s = .error e) : e.2 ≠ 0 := by
 unfold zao at h
 split at h
 ·cases h; show (10 : Int) ≠ 0; decide
 ·cases h
theorem zgg (s : St) : (zce s).2 ≠ 0 := by unfold zce; dsimp only; split <;> decide
theorem zic {sign : List UInt8} {s : St} {e : Er} (h : zdp sign s = .error e) : e.2 ≠ 0 := by
 unfold zdp at h
 split at h
 ·cases h
 ·cases h; exact zgg s
theorem stepE_err {sign : List UInt8} {s : St} {e : Er} (h : zey sign s = .error e) : e.2 ≠ 0 := by
 unfold zey at h
 split at h
 ·cases hn : zdp sign s.adv with
  | error e' => rw [hn] at h; cases h; exact zic hn
  | ok s' => rw [hn] at h; cases h
 ·cases h; exact zgg s
theorem znk {s : St} (he : Ends s.l) : s.adv.l.length + 1 = s.l.length := by
 obtain ⟨t, r, hl⟩ := he.ne
 unfold St.adv; rw [hl]; rfl
theorem pz_fuel : ∀ (j : Nat) (r : Rl) (a : Int) (s : St) (e : Er), Ends s.l->cost r s.l.length≤j->pz j r a s = .error e->e.2 ≠ 0 := by
 intro j
 induction j with
 | zero => intro r a s e he hc h; cases r <;> simp only [cost] at hc <;> (try split at hc) <;> omega
 | succ j ih =>
  intro r a s e he hc h
  have hlen := znk he
  cases r with
  | row o =>
   rw [pz] at h
   rcases yq h with h | ⟨x, hx, h⟩
   ·refine ih _ _ _ _ he ?_ h
    cases o <;> simp [cost, oneO] at hc ⊢ <;> omega
   ·have hb := zia _ _ _ _ _ _ hx
    refine ih _ _ _ _ (hb.2.2.2.1 he) ?_ h
    have := hb.2.2.2.2
    cases o <;> simp [cost] at hc ⊢ <;> omega
  | loop o =>
   rw [pz] at h
   simp only [cost] at hc
   by_cases hs : isS (signO o) s = true
   ·rw [if_pos hs] at h
    have he1 := zby he (by rw [jn hs]; decide)
    rcases yq h with h | ⟨x, hx, h⟩
    ·exact zdi h
    obtain ⟨t, s1⟩ := x
    obtain ⟨_, _, hs1⟩ := zci hx
    have hl1 : s1.l = s.adv.l := by rw [hs1]
    dsimp only at h
    rcases yq h with h | ⟨y, hy, h⟩
    ·refine ih _ _ _ _ (by rw [hl1]; exact he1) ?_ h
     rw [hl1]
     cases o <;> simp [cost, oneO] <;> omega
    ·have hb := zia _ _ _ _ _ _ hy
     refine ih _ _ _ _ (by simp only [layE]; exact hb.2.2.2.1 (by rw [hl1]; exact he1)) ?_ h
     have := hb.2.2.2.2
     rw [hl1] at this
     simp only [cost, layE]
     omega
   ·rw [if_neg hs] at h; cases h
  | un =>
   rw [pz] at h
   simp only [cost] at hc
   have steps : ∀ (k : Int) (shut : List UInt8), s.hd.kind = 5->yo (zao s) (fun x => yo (zey shut x.2) fun z => yo (pz j .un 0 z.2) fun y => .ok (layE ⟨k, y.1, 0, z.1, x.1.pos⟩ y.2)) = .error e->e.2 ≠ 0 := by
    intro k shut hs h
    have he1 := zby he (by rw [hs]; decide)
    rcases yq h with h | ⟨x, hx, h⟩
    ·exact zdi h
    obtain ⟨t, s1⟩ := x
    obtain ⟨_, _, hs1⟩ := zci hx
    have hl1 : s1.l = s.adv.l := by rw [hs1]
    rcases yq h with h | ⟨z, hz, h⟩
    ·exact stepE_err h
    obtain ⟨w1, w2, w3, w4⟩ := zlq hz
    have k1 : s1.hd.kind ≠ 0 := by
     rcases w1 with w1 | w1
     ·rw [jn w1]; decide
     ·rw [w1.1]; decide
    have hB : Bal s1 z.2 := by rw [w4]; exact (Bal.adv s1 k1).trans (Bal.adv _ (by rw [jn w3]; decide))
    have := hB.2.2.2.2
    rw [hl1] at this
    rcases yq h with h | ⟨y, hy, h⟩
    ·exact ih _ _ _ _ (hB.2.2.2.1 (by rw [hl1]; exact he1)) (by simp only [cost]; omega) h
    ·cases h
   by_cases c1 : isS [126] s = true
   ·rw [if_pos c1] at h
    have he1 := zby he (by rw [jn c1]; decide)
    rcases yq h with h | ⟨x, hx, h⟩
    ·exact zdi h
    obtain ⟨t, s1⟩ := x
    obtain ⟨_, _, hs1⟩ := zci hx
    have hl1 : s1.l = s.adv.l := by rw [hs1]
    rcases yq h with h | ⟨y, hy, h⟩
    ·exact ih _ _ _ _ (by rw [hl1]; exact he1) (by rw [hl1]; simp only [cost]; omega) h
    ·cases h
   rw [if_neg c1] at h
   by_cases c2 : isS [60] s = true
   ·rw [if_pos c2] at h; exact steps 8 [62] (jn c2) h
   rw [if_neg c2] at h
   by_cases c3 : isS [91] s = true
   ·rw [if_pos c3] at h; exact steps 9 [93] (jn c3) h
   rw [if_neg c3] at h
   by_cases c4 : isS [40] s = true
   ·rw [if_pos c4] at h
    have he1 := zby he (by rw [jn c4]; decide)
    rcases yq h with h | ⟨y, hy, h⟩
    ·exact ih _ _ _ _ he1 (by simp [cost]; omega) h
    rcases yq h with h | ⟨z, hz, h⟩
    ·exact zic h
    ·cases h
   rw [if_neg c4] at h
   by_cases c5 : s.hd.kind = 3
   ·rw [if_pos c5] at h
    rcases yq h with h | ⟨x, hx, h⟩
    ·exact zdi h
    ·cases h
   rw [if_neg c5] at h
   by_cases c6 : s.hd.kind = 2
   ·rw [if_pos c6] at h
    have he1 := zby he (by rw [c6]; decide)
    rcases yq h with h | ⟨x, hx, h⟩
    ·exact zdi h
    obtain ⟨t, s1⟩ := x
    obtain ⟨_, _, hs1⟩ := zci hx
    have hl1 : s1.l = s.adv.l := by rw [hs1]
    dsimp only at h
    by_cases d1 : t.text = [116, 116]
    ·rw [if_pos d1] at h; cases h
    rw [if_neg d1] at h
    by_cases d2 : t.text = [102, 102]
    ·rw [if_pos d2] at h; cases h
    rw [if_neg d2] at h
    by_cases d3 : t.text = [109, 117] ∨ t.text = [110, 117]
    ·rw [if_pos d3] at h
     by_cases h3 : s1.hd.kind = 3
     ·rw [if_pos h3] at h
      rcases yq h with h | ⟨z, hz, h⟩
      ·exact zic h
      obtain ⟨w1, w2⟩ := zfh hz
      have hB : Bal s1 z := by rw [w2]; exact (Bal.adv s1 (by rw [h3]; decide)).trans (Bal.adv _ (by rw [jn w1]; decide))
      have := hB.2.2.2.2
      rw [hl1] at this
      have he3 := hB.2.2.2.1 (by rw [hl1]; exact he1)
      have l2 := znk (s := s1) (by rw [hl1]; exact he1)
      have l3 : z.l.length < s.adv.l.length := by
       rw [w2]
       have := znk (s := s1.adv) (zby (by rw [hl1]; exact he1) (by rw [h3]; decide))
       rw [hl1] at l2
       omega
      rcases yq h with h | ⟨y, hy, h⟩
      ·exact ih _ _ _ _ he3 (by simp [cost]; omega) h
      ·cases h
     ·rw [if_neg h3] at h; cases h; exact zgg _
    ·rw [if_neg d3] at h; cases h
   ·rw [if_neg c6] at h; cases h; exact zgg _
end Go.Ab.S5
namespace Go.Ab.S5
set_option linter.unusedVariables false
set_option linter.unusedSimpArgs false
variable {α : Type} {h : H}
theorem zfw (h : H) (i : Nat) (a b : Option Blk) : (h.put i a).put i b = h.put i b := by
 unfold H.put
 simp only [H.mk.injEq, true_and]
 funext j
 cases Nat.beq j i <;> rfl
abbrev tkC (t : Tok) : Blk := .cells [.int .i64 t.kind, .int .i64 t.pos, .str t.text, .int .i64 t.num] true
theorem st4_run {q : Nat} {v0 v1 v2 v3 : V} (hq : h.get q = some (.cells [v0, v1, v2, v3] true)) (t : Tok) (K : M α) :
  (st1 ((⟨q, 0⟩ : Ad).add 0) (.int .i64 t.kind) <| st1 ((⟨q, 0⟩ : Ad).add 1) (.int .i64 t.pos) <| st1 ((⟨q, 0⟩ : Ad).add 2) (.str t.text) <| st1 ((⟨q, 0⟩ : Ad).add 3) (.int .i64 t.num) K) h = K (h.put q (some (tkC t))) := by
 simp only [zz, Nat.zero_add]
 rw [yk (a := ⟨q, 0⟩) hq rfl (by simp), yk (a := ⟨q, 1⟩) (by rw [jl]) rfl (by simp), zfw, yk (a := ⟨q, 2⟩) (by rw [jl]) rfl (by simp), zfw, yk (a := ⟨q, 3⟩) (by rw [jl]) rfl (by simp), zfw]
 rfl
theorem zhf {t : Tok} {q : Nat} (hq : h.get q = some (tkC t)) (K : Int->Int->List UInt8->Int->M α) :
  (ldI .i64 ((⟨q, 0⟩ : Ad).add 0) fun y0 => ldI .i64 ((⟨q, 0⟩ : Ad).add 1) fun y1 => ldStr ((⟨q, 0⟩ : Ad).add 2) fun y2 => ldI .i64 ((⟨q, 0⟩ : Ad).add 3) fun y3 => K y0 y1 y2 y3) h = K t.kind t.pos t.text t.num h := by
 simp only [zz]
 rw [jb (by rw [zw (a := ⟨q, 0 + 0⟩) hq]; rfl), jb (by rw [zw (a := ⟨q, 0 + 1⟩) hq]; rfl), yp (by rw [zw (a := ⟨q, 0 + 2⟩) hq]; rfl), jb (by rw [zw (a := ⟨q, 0 + 3⟩) hq]; rfl)]
theorem zbl {t : Tok} {q : Nat} (hq : h.get q = some (tkC t)) (K : Int->M α) : ldI .i64 (((⟨q, 0⟩ : Ad).add 1).add 0) K h = K t.pos h := jb (by simp only [zz]; rw [zw (a := ⟨q, 0 + 1 + 0⟩) hq]; rfl)
theorem zdn {t : Tok} {q : Nat} (hq : h.get q = some (tkC t)) (K : List UInt8->M α) : ldStr (((⟨q, 0⟩ : Ad).add 2).add 0) K h = K t.text h := yp (by simp only [zz]; rw [zw (a := ⟨q, 0 + 2 + 0⟩) hq]; rfl)
theorem zjs {z0 z1 z3 : Int} {z2 : List UInt8} (t : Tok) (K : Ad->M α) :
  new [.int .i64 z0, .int .i64 z1, .str z2, .int .i64 z3] (fun n => st1 (n.add 0) (.int .i64 t.kind) <| st1 (n.add 1) (.int .i64 t.pos) <| st1 (n.add 2) (.str t.text) <| st1 (n.add 3) (.int .i64 t.num) <| K n) h =
   K ⟨h.next, 0⟩ (h.push (tkC t)) := by
 rw [jp rfl]
 simp only [zz, Nat.zero_add]
 rw [jt rfl (by simp), jt rfl (by simp), jt rfl (by simp), jt rfl (by simp)]
 rfl
theorem Tok.len (t : Tok) : t.cells.length = 4 := rfl
abbrev TkR (h : H) (s : Sl) (l : List Tok) : Prop := Rd h s 4 (jo l)
section
variable {s : Sl} {l : List Tok}
theorem zga (r : TkR h s l) : s.len = l.length := slen (c := Tok.cells) Tok.len (by decide) r
theorem zen (r : TkR h s l) {i : Nat} {n : Tok} (hi : l[i]? = some n) {j : Nat} {v : V} (hv : n.cells[j]? = some v) (hj : j < 4) : (jo l)[i * 4 + j]? = some v :=
 (zbu Tok.len l i n j hi hj).trans hv
theorem zoj (r : TkR h s l) {x : Int} {i : Nat} {n : Tok} (hx : x = (i : Int)) (hi : l[i]? = some n) (K : Ad->M α) : idxSl s x 4 K h = K (s.at (i * 4)) h :=
 zbv r hx (by rw [zga r]; exact zbj hi) K
theorem zbt (r : TkR h s l) {x : Int} {i : Nat} {n : Tok} (hx : x = (i : Int)) (hi : l[i]? = some n) (K : Int->M α) : idxSl s x 4 (fun a => ldI .i64 ((a.add 0).add 0) K) h = K n.kind h := by
 rw [zoj r hx hi, yr, yr]; exact r.ldI (zen r hi (j := 0) rfl (by decide)) K
theorem tk_pos (r : TkR h s l) {x : Int} {i : Nat} {n : Tok} (hx : x = (i : Int)) (hi : l[i]? = some n) (K : Int->M α) : idxSl s x 4 (fun a => ldI .i64 ((a.add 1).add 0) K) h = K n.pos h := by
 rw [zoj r hx hi, yr, yr]; exact r.ldI (zen r hi (j := 1) rfl (by decide)) K
theorem zno (r : TkR h s l) {x : Int} {i : Nat} {n : Tok} (hx : x = (i : Int)) (hi : l[i]? = some n) (K : List UInt8->M α) : idxSl s x 4 (fun a => ldStr ((a.add 2).add 0) K) h = K n.text h := by
 rw [zoj r hx hi, yr, yr]; exact r.ldStr (zen r hi (j := 2) rfl (by decide)) K
theorem tk_all (r : TkR h s l) {x : Int} {i : Nat} {n : Tok} (hx : x = (i : Int)) (hi : l[i]? = some n) (K : Int->Int->List UInt8->Int->M α) :
  idxSl s x 4 (fun a => ldI .i64 (a.add 0) fun x0 => ldI .i64 (a.add 1) fun x1 => ldStr (a.add 2) fun x2 => ldI .i64 (a.add 3) fun x3 => K x0 x1 x2 x3) h = K n.kind n.pos n.text n.num h := by
 rw [zoj r hx hi]
 simp only [yr]
 rw [r.ldI (zen r hi (j := 0) rfl (by decide)), r.ldI (zen r hi (j := 1) rfl (by decide)), r.ldStr (zen r hi (j := 2) rfl (by decide)), r.ldI (zen r hi (j := 3) rfl (by decide))]
end
theorem from_id {s : Sl} {n m size : Nat} {b : Ad} (hb : s.from n m size = some b) : ∃ a, s.ad = some a ∧ a.id = b.id := by
 unfold Sl.from at hb
 cases hls : s.ad with
 | none =>
  rw [hls] at hb
  cases hlo : s.loose with
  | none => rw [hlo] at hb; dsimp only at hb; cases hq : Nat.beq m n <;> simp [hq] at hb
  | some e => rw [hlo] at hb; cases hb
 | some a =>
  rw [hls] at hb
  refine ⟨a, rfl, ?_⟩
  cases hlo : s.loose with
  | none =>
   rw [hlo] at hb
   dsimp only at hb
   cases hq : Nat.beq m n with
   | true => rw [hq, cond_true] at hb; cases hb; rfl
   | false => rw [hq, cond_false] at hb; cases hb; rfl
  | some e => rw [hlo] at hb; cases hb; rfl
structure PS (h₀ h : H) (p tb : Nat) (ls fs : Sl) (s : St) : Prop where
 ext : Ext h₀ h
 p0 : h₀.next≤p
 plt : p < h.next
 blk : h.get p = some (.cells [.slice ls, .int .i64 (s.made : Int), .slice fs] true)
 toks : TkR h ls s.l
 fine : ls.fine 4
 nodes : App h fs 5 (cN s.f)
 low : zaw h₀ fs
 tok : ∀ a, ls.ad = some a->a.id = tb
 tp : tb ≠ p
 tl : tb < h.next
 fp : ∀ a, fs.ad = some a->a.id ≠ p ∧ a.id ≠ tb
 ends : Ends s.l
 bal : s.f.length≤s.made
 m60 : s.made≤60
structure QP (p : Nat) (fs fs' : Sl) (h h' : H) : Prop where
 nx : h.next≤h'.next
 keep : ∀ i, i < h.next->i ≠ p->(∀ a, fs.ad = some a->i ≠ a.id)->h'.get i = h.get i
 nf : ∀ a, fs'.ad = some a->h.next≤a.id ∨ fs'.ad = fs.ad
theorem QP.refl (p : Nat) (fs : Sl) (h : H) : QP p fs fs h h := ⟨Nat.le_refl _, fun _ _ _ _ => rfl, fun _ _ => .inr rfl⟩
theorem QP.of {p : Nat} {fs : Sl} {h h' : H} (x : Ext h h') : QP p fs fs h h' := ⟨x.1, fun i hi _ _ => x.2 i hi, fun _ _ => .inr rfl⟩
theorem QP.trans {p : Nat} {a b c : Sl} {h h' h'' : H} (x : QP p a b h h') (y : QP p b c h' h'') : QP p a c h h'' := by
 refine ⟨Nat.le_trans x.nx y.nx, fun i hi hp ha => ?_, fun q hq => ?_⟩
 ·rw [y.keep i (Nat.lt_of_lt_of_le hi x.nx) hp (fun q hq => ?_), x.keep i hi hp ha]
  rcases x.nf q hq with h | h
  ·omega
  ·exact ha q (by rw [← h]; exact hq)
 ·rcases y.nf q hq with h | h
  ·exact .inl (Nat.le_trans x.nx h)
  ·rw [h] at hq
   rcases x.nf q hq with h' | h'
   ·exact .inl h'
   ·exact .inr (h.trans h')
section
variable {h₀ : H} {p tb : Nat} {ls fs : Sl} {s : St}
theorem PS.push (P : PS h₀ h p tb ls fs s) {h' : H} (x : Ext h h') : PS h₀ h' p tb ls fs s :=
 ⟨P.ext.trans x, P.p0, Nat.lt_of_lt_of_le P.plt x.1, by rw [x.2 p P.plt]; exact P.blk, P.toks.ext x, P.fine, P.nodes.ext x, P.low, P.tok, P.tp, Nat.lt_of_lt_of_le P.tl x.1, P.fp, P.ends, P.bal, P.m60⟩
theorem PS.setblk (P : PS h₀ h p tb ls fs s) {ls' : Sl} {s' : St} (hf : s'.f = s.f) (ht : TkR h ls' s'.l) (hfine : ls'.fine 4) (had : ∀ b, ls'.ad = some b->∃ a, ls.ad = some a ∧ a.id = b.id) (he : Ends s'.l) (hb : s'.f.length≤s'.made) (hm : s'.made≤60) :
  PS h₀ (h.put p (some (.cells [.slice ls', .int .i64 (s'.made : Int), .slice fs] true))) p tb ls' fs s' := by
 have hg : ∀ i, i ≠ p->(h.put p (some (.cells [.slice ls', .int .i64 (s'.made : Int), .slice fs] true))).get i = h.get i := fun i hi => by rw [zg, if_neg hi]
 have htb : ∀ b, ls'.ad = some b->b.id = tb := fun b hb => by
  obtain ⟨a, ha, e⟩ := had b hb
  rw [← e]; exact P.tok a ha
 refine ⟨P.ext.put _ P.p0, P.p0, P.plt, by rw [jl], ht.keep (Nat.le_refl _) fun b hb => hg _ (by rw [htb b hb]; exact P.tp), hfine, ?_, P.low, htb, P.tp, P.tl, P.fp, he, hb, hm⟩
 rw [hf]; exact P.nodes.keep (Nat.le_refl _) fun a ha => hg _ (P.fp a ha).1
theorem qp_put (b : Option Blk) : QP p fs fs h (h.put p b) := ⟨Nat.le_refl _, fun i _ hi _ => by rw [zg, if_neg hi], fun _ _ => .inr rfl⟩
theorem p_l (P : PS h₀ h p tb ls fs s) (K : Sl->M α) : ldS (((⟨p, 0⟩ : Ad).add 0).add 0) K h = K ls h := zau (by simp only [zz]; rw [zw P.blk]; rfl)
theorem p_made (P : PS h₀ h p tb ls fs s) (K : Int->M α) : ldI .i64 (((⟨p, 0⟩ : Ad).add 1).add 0) K h = K s.made h := jb (by simp only [zz]; rw [zw P.blk]; rfl)
theorem p_f (P : PS h₀ h p tb ls fs s) (K : Sl->M α) : ldS (((⟨p, 0⟩ : Ad).add 2).add 0) K h = K fs h := zau (by simp only [zz]; rw [zw P.blk]; rfl)
theorem PS.hd (P : PS h₀ h p tb ls fs s) : s.l[0]? = some s.hd := by
 obtain ⟨t, r, hl⟩ := P.ends.ne
 unfold St.hd
 rw [hl]; rfl
theorem zan (P : PS h₀ h p tb ls fs s) (k : Nat) (sign : List UInt8) (ret : Bool->M α) : qaj.f (k + 1) ⟨p, 0⟩ sign ret h = ret (isS sign s) h := by
 rw [qaj.f, qaj.u1.f, p_l P, zbt P.toks (x := 0) (i := 0) rfl P.hd]
 unfold isS
 by_cases h5 : s.hd.kind = 5
 ·rw [dT h5, cond_true, p_l P, zno P.toks (x := 0) (i := 0) rfl P.hd, Bool.true_and]
 ·rw [dF h5, cond_false, Bool.false_and]
theorem zcz (P : PS h₀ h p tb ls fs s) (k : Nat) (pan : V->M α) (ret : M α) : qai.f (k + 1) ⟨p, 0⟩ pan ret h = pan (.iface 56 (.agg [.int .i64 (zce s).1, .int .i64 (zce s).2])) h := by
 rw [qai.f, qai.u1.f, p_l P, zbt P.toks (x := 0) (i := 0) rfl P.hd]
 unfold zce
 by_cases h5 : s.hd.kind = 0
 ·rw [dT h5, cond_true, p_l P, tk_pos P.toks (x := 0) (i := 0) rfl P.hd, if_pos h5]
 ·rw [dF h5, cond_false, p_l P, tk_pos P.toks (x := 0) (i := 0) rfl P.hd, if_neg h5]
theorem PS.other (P : PS h₀ h p tb ls fs s) {i : Nat} (b : Blk) (hi : h₀.next≤i) (hp : i ≠ p) (hl : tb ≠ i) (hf : ∀ a, fs.ad = some a->a.id ≠ i) : PS h₀ (h.put i (some b)) p tb ls fs s := by
 have hg : ∀ j, j ≠ i->(h.put i (some b)).get j = h.get j := fun j hj => by rw [zg, if_neg hj]
 exact ⟨P.ext.put _ hi, P.p0, P.plt, by rw [hg _ (Ne.symm hp)]; exact P.blk, P.toks.keep (Nat.le_refl _) (fun a ha => hg _ (by rw [P.tok a ha]; exact hl)), P.fine, P.nodes.keep (Nat.le_refl _) (fun a ha => hg _ (hf a ha)), P.low, P.tok, P.tp, P.tl, P.fp, P.ends, P.bal, P.m60⟩
theorem zfk (P : PS h₀ h p tb ls fs s) (k : Nat) (hk : s.hd.kind ≠ 0) :
  ∃ h' ls', (∀ (α : Type) (ret : Int->Int->List UInt8->Int->M α), qae.f (k + 1) ⟨p, 0⟩ ret h = ret s.hd.kind s.hd.pos s.hd.text s.hd.num h') ∧ PS h₀ h' p tb ls' fs s.adv ∧ QP p fs fs h h' := by
 have he := zby P.ends hk
 obtain ⟨t, r, hl⟩ := P.ends.ne
 have hhd : s.hd = t := by unfold St.hd; rw [hl]; rfl
 have hadv : s.adv = { s with l := r } := by unfold St.adv; rw [hl]; rfl
 have hlen : ls.len = r.length + 1 := by rw [zga P.toks, hl]; rfl
 -- the two copies
 have x2 : Ext h ((h.push (.cells [.int .i64 0, .int .i64 0, .str [], .int .i64 0] true)).push (tkC t)) := ((Ext.refl h).push _).push _
 have hn2 : ((h.push (.cells [.int .i64 0, .int .i64 0, .str [], .int .i64 0] true)).push (tkC t)).next = h.next + 2 := rfl
 have P1 := P.push ((Ext.refl h).push (.cells [.int .i64 0, .int .i64 0, .str [], .int .i64 0] true))
 have P2 := P.push x2
 have hz : ((h.push (.cells [.int .i64 0, .int .i64 0, .str [], .int .i64 0] true)).push (tkC t)).get h.next = some (.cells [.int .i64 0, .int .i64 0, .str [], .int .i64 0] true) := by
  rw [zj, if_neg (by rw [zi]; omega), zj, if_pos rfl]
 have ht : ((h.push (.cells [.int .i64 0, .int .i64 0, .str [], .int .i64 0] true)).push (tkC t)).get (h.next + 1) = some (tkC t) := by rw [zj, if_pos (by rw [zi])]
 have start : ∀ (α : Type) (ret : Int->Int->List UInt8->Int->M α), qae.f (k + 1) ⟨p, 0⟩ ret h = _ := fun α ret => by
  rw [qae.f, qae.u1.f, jp rfl, p_l P1, tk_all P1.toks (x := 0) (i := 0) (n := t) rfl (by rw [hl]; rfl), zjs]
 rw [show (h.push (.cells [.int .i64 0, .int .i64 0, .str [], .int .i64 0] true)).next = h.next + 1 from rfl] at start
 generalize (h.push (.cells [.int .i64 0, .int .i64 0, .str [], .int .i64 0] true)).push (tkC t) = h2 at start x2 hn2 P2 hz ht
 have rf := P2.toks.from 1 (ls.cap - 1) ls.cap ls.loose (by omega) P2.fine.1
 have hdr : (jo s.l).drop (1 * 4) = jo r := by
  rw [hl]
  exact zfv (c := Tok.cells) (size := 4) Tok.len (t :: r) 1
 rw [hdr] at rf
 have P3 := P2.setblk (ls' := ⟨ls.from 1 ls.cap 4, ls.len - 1, ls.cap - 1, ls.loose⟩) (s' := { s with l := r }) rfl rf ⟨by show ls.len - 1≤ls.cap - 1; have := P.fine.1; omega, P.fine.2⟩ (fun b hb => from_id hb) (by rw [hadv] at he; exact he) P.bal P.m60
 have q3 : QP p fs fs h2 (h2.put p (some (.cells [.slice ⟨ls.from 1 ls.cap 4, ls.len - 1, ls.cap - 1, ls.loose⟩, .int .i64 (s.made : Int), .slice fs] true))) := qp_put _
 have hg3 : ∀ i, i ≠ p->(h2.put p (some (.cells [.slice ⟨ls.from 1 ls.cap 4, ls.len - 1, ls.cap - 1, ls.loose⟩, .int .i64 (s.made : Int), .slice fs] true))).get i = h2.get i := fun i hi => by rw [zg, if_neg hi]
 have e3 : ∀ (α : Type) (K : M α), st1 (((⟨p, 0⟩ : Ad).add 0).add 0) (.slice ⟨ls.from 1 ls.cap 4, ls.len - 1, ls.cap - 1, ls.loose⟩) K h2 = K (h2.put p (some (.cells [.slice ⟨ls.from 1 ls.cap 4, ls.len - 1, ls.cap - 1, ls.loose⟩, .int .i64 (s.made : Int), .slice fs] true))) := fun α K => by
  simp only [zz]
  rw [yk (a := ⟨p, 0 + 0 + 0⟩) P2.blk rfl (by simp)]
  rfl
 have hn3 : (h2.put p (some (.cells [.slice ⟨ls.from 1 ls.cap 4, ls.len - 1, ls.cap - 1, ls.loose⟩, .int .i64 (s.made : Int), .slice fs] true))).next = h2.next := rfl
 generalize h2.put p (some (.cells [.slice ⟨ls.from 1 ls.cap 4, ls.len - 1, ls.cap - 1, ls.loose⟩, .int .i64 (s.made : Int), .slice fs] true)) = h3 at P3 q3 e3 hg3 hn3
 have hpl := P.plt
 have hz3 : h3.get h.next = some (.cells [.int .i64 0, .int .i64 0, .str [], .int .i64 0] true) := by rw [hg3 _ (by omega)]; exact hz
 have ht3 : h3.get (h.next + 1) = some (tkC t) := by rw [hg3 _ (by omega)]; exact ht
 have hfs : ∀ a, fs.ad = some a->a.id < h.next := fun a ha => (P.nodes.rd.row a ha).2
 have hls : ∀ a, ls.ad = some a->a.id < h.next := fun a ha => (P.toks.row a ha).2
 -- the answer's own copy
 have P4 := P3.other (tkC t) (i := h.next) P.ext.1 (by omega) (by have := P.tl; omega) (fun a ha => by have := hfs a ha; omega)
 refine ⟨h3.put h.next (some (tkC t)), _, fun α ret => ?_, by rw [hadv]; exact P4, ⟨by show h.next≤h3.next; omega, fun i hi hp _ => by rw [zg, if_neg (by omega), hg3 i hp, x2.2 i hi], fun _ _ => .inr rfl⟩⟩
 ·rw [start, p_l P2, zhj P2.fine (x := 1) (n := 1) rfl (by omega), e3, zhf ht3, st4_run hz3]
  have hq4 : (h3.put h.next (some (tkC t))).get h.next = some (tkC t) := by rw [jl]
  rw [zhf hq4, hhd]
theorem PS.lts (P : PS h₀ h p tb ls fs s) : (∀ a, ls.ad = some a->a.id < h.next) ∧ ∀ a, fs.ad = some a->a.id < h.next := ⟨fun a ha => (P.toks.row a ha).2, fun a ha => (P.nodes.rd.row a ha).2⟩
abbrev zgn (e : Er) : V := .iface 56 (.agg [.int .i64 e.1, .int .i64 e.2])
theorem zmv (P : PS h₀ h p tb ls fs s) (k : Nat) (hk : s.hd.kind ≠ 0) :
  match zao s with
  | .error e => ∃ h', Ext h₀ h' ∧ ∀ (α : Type) (pan : V->M α) (ret : Int->Int->List UInt8->Int->M α), qac.f (k + 2) ⟨p, 0⟩ pan ret h = pan (zgn e) h'
  | .ok x => ∃ h' ls', (∀ (α : Type) (pan : V->M α) (ret : Int->Int->List UInt8->Int->M α), qac.f (k + 2) ⟨p, 0⟩ pan ret h = ret x.1.kind x.1.pos x.1.text x.1.num h') ∧ PS h₀ h' p tb ls' fs x.2 ∧ QP p fs fs h h' := by
 have x1 : Ext h (h.push (.cells [.int .i64 0, .int .i64 0, .str [], .int .i64 0] true)) := (Ext.refl h).push _
 have P1 := P.push x1
 have hz : (h.push (.cells [.int .i64 0, .int .i64 0, .str [], .int .i64 0] true)).get h.next = some (.cells [.int .i64 0, .int .i64 0, .str [], .int .i64 0] true) := by rw [zj, if_pos rfl]
 have hn1 : (h.push (.cells [.int .i64 0, .int .i64 0, .str [], .int .i64 0] true)).next = h.next + 1 := rfl
 have start : ∀ (α : Type) (pan : V->M α) (ret : Int->Int->List UInt8->Int->M α), qac.f (k + 2) ⟨p, 0⟩ pan ret h = _ := fun α pan ret => by
  rw [qac.f, qac.u1.f, jp rfl, p_made P1]
 generalize h.push (.cells [.int .i64 0, .int .i64 0, .str [], .int .i64 0] true) = h1 at start x1 P1 hz hn1
 have hpl := P.plt
 have hlts := P.lts
 unfold zao
 by_cases h60 : s.made = 60
 ·rw [if_pos h60]
  refine ⟨h1, P1.ext, fun α pan ret => ?_⟩
  rw [start, dT (by rw [h60]; rfl), cond_true, p_l P1, tk_pos P1.toks (x := 0) (i := 0) rfl P1.hd]
 rw [if_neg h60]
 have hm := P.m60
 have hb := P.bal
 -- one more is made
 have P2 := P1.setblk (ls' := ls) (s' := { s with made := s.made + 1 }) rfl P1.toks P1.fine (fun b hb => ⟨b, hb, rfl⟩) P1.ends (by show s.f.length≤s.made + 1; omega) (by show s.made + 1≤60; omega)
 have q2 : QP p fs fs h1 (h1.put p (some (.cells [.slice ls, .int .i64 ((s.made + 1 : Nat) : Int), .slice fs] true))) := qp_put _
 have e2 : ∀ (α : Type) (K : M α), st1 (((⟨p, 0⟩ : Ad).add 1).add 0) (.int .i64 ((s.made + 1 : Nat) : Int)) K h1 = K (h1.put p (some (.cells [.slice ls, .int .i64 ((s.made + 1 : Nat) : Int), .slice fs] true))) := fun α K => by
  simp only [zz]
  rw [yk (a := ⟨p, 0 + 1 + 0⟩) P1.blk rfl (by simp)]
  rfl
 have hz2 : (h1.put p (some (.cells [.slice ls, .int .i64 ((s.made + 1 : Nat) : Int), .slice fs] true))).get h.next = some (.cells [.int .i64 0, .int .i64 0, .str [], .int .i64 0] true) := by rw [zg, if_neg (by omega)]; exact hz
 have hn2 : (h1.put p (some (.cells [.slice ls, .int .i64 ((s.made + 1 : Nat) : Int), .slice fs] true))).next = h1.next := rfl
 generalize h1.put p (some (.cells [.slice ls, .int .i64 ((s.made + 1 : Nat) : Int), .slice fs] true)) = h2 at P2 q2 e2 hz2 hn2
 obtain ⟨h3, ls3, e3, P3, q3⟩ := zfk P2 k hk
 have hf3 : ∀ a, fs.ad = some a->a.id ≠ h.next := fun a ha => by have := hlts.2 a ha; omega
 have hz3 : h3.get h.next = some (.cells [.int .i64 0, .int .i64 0, .str [], .int .i64 0] true) := by
  rw [q3.keep h.next (by omega) (by omega) (fun a ha => Ne.symm (hf3 a ha))]; exact hz2
 have P4 := P3.other (tkC s.hd) (i := h.next) P.ext.1 (by omega) (by have := P.tl; omega) hf3
 refine ⟨h3.put h.next (some (tkC s.hd)), ls3, fun α pan ret => ?_, P4, ⟨by show h.next≤h3.next; have := q3.nx; omega, fun i hi hp ha => by rw [zg, if_neg (by omega), q3.keep i (by omega) hp ha, q2.keep i (by omega) hp ha, x1.2 i hi], fun _ _ => .inr rfl⟩⟩
 rw [start, dF (by omega : ¬ (s.made : Int) = 60), cond_false, p_made P1, je (by omega) (by omega)]
 refine (e2 α _).trans ?_
 rw [e3]
 show (st1 ((⟨h.next, 0⟩ : Ad).add 0) (.int .i64 s.hd.kind) <| st1 ((⟨h.next, 0⟩ : Ad).add 1) (.int .i64 s.hd.pos) <| st1 ((⟨h.next, 0⟩ : Ad).add 2) (.str s.hd.text) <| st1 ((⟨h.next, 0⟩ : Ad).add 3) (.int .i64 s.hd.num) _) h3 = _
 rw [st4_run hz3, zhf (t := s.hd) (by rw [jl])]
end
end Go.Ab.S5
namespace Go.Ab.S5
set_option linter.unusedVariables false
set_option linter.unusedSimpArgs false
variable {α : Type} {h h₀ : H} {p tb : Nat} {ls fs : Sl} {s : St}
theorem zht (P : PS h₀ h p tb ls fs s) (k : Nat) (sign : List UInt8) :
  match zdp sign s with
  | .error e => ∀ (α : Type) (pan : V->M α) (ret : M α), qab.f (k + 2) ⟨p, 0⟩ sign pan ret h = pan (zgn e) h
  | .ok s' => ∃ h' ls', (∀ (α : Type) (pan : V->M α) (ret : M α), qab.f (k + 2) ⟨p, 0⟩ sign pan ret h = ret h') ∧ PS h₀ h' p tb ls' fs s' ∧ QP p fs fs h h' := by
 unfold zdp
 by_cases hs : isS sign s = true
 ·rw [if_pos hs]
  obtain ⟨h', ls', e', P', q'⟩ := zfk P k (by rw [jn hs]; decide)
  refine ⟨h', ls', fun α pan ret => ?_, P', q'⟩
  rw [qab.f, qab.u1.f, zan P, hs, Bool.not_true, cond_false, e']
 ·rw [if_neg hs]
  intro α pan ret
  rw [qab.f, qab.u1.f, zan P, Bool.eq_false_iff.2 hs, Bool.not_false, cond_true, zcz P]
theorem step_run (P : PS h₀ h p tb ls fs s) (k : Nat) (shut : List UInt8) :
  match zey shut s with
  | .error e => ∃ h', Ext h₀ h' ∧ ∀ (α : Type) (pan : V->M α) (ret : List UInt8->M α), qah.f (k + 3) ⟨p, 0⟩ shut pan ret h = pan (zgn e) h'
  | .ok z => ∃ h' ls', (∀ (α : Type) (pan : V->M α) (ret : List UInt8->M α), qah.f (k + 3) ⟨p, 0⟩ shut pan ret h = ret z.1 h') ∧ PS h₀ h' p tb ls' fs z.2 ∧ QP p fs fs h h' := by
 unfold zey
 by_cases hc : isS [45] s = true ∨ (s.hd.kind = 2 ∧ zfj s.hd.text = false)
 ·rw [if_pos hc]
  have hk : s.hd.kind ≠ 0 := by
   rcases hc with hc | hc
   ·rw [jn hc]; decide
   ·rw [hc.1]; decide
  obtain ⟨h1, ls1, e1, P1, q1⟩ := zfk P (k + 1) hk
  have start : ∀ (α : Type) (pan : V->M α) (ret : List UInt8->M α), qah.f (k + 3) ⟨p, 0⟩ shut pan ret h = qab.f (k + 2) ⟨p, 0⟩ shut pan (ret s.hd.text) h1 := fun α pan ret => by
   rw [qah.f, qah.u1.f, zan P]
   by_cases h45 : isS [45] s = true
   ·rw [h45, Bool.not_true, cond_false, e1]
   ·have h2 := hc.resolve_left h45
    rw [Bool.eq_false_iff.2 h45, Bool.not_false, cond_true, p_l P, zbt P.toks (x := 0) (i := 0) rfl P.hd, dT h2.1, Bool.not_true, cond_false, p_l P, zno P.toks (x := 0) (i := 0) rfl P.hd, zka, h2.2, cond_false, e1]
  have hn := zht P1 k shut
  cases hne : zdp shut s.adv with
  | error e =>
   rw [hne] at hn
   exact ⟨h1, P1.ext, fun α pan ret => (start α pan ret).trans (hn α pan _)⟩
  | ok s' =>
   rw [hne] at hn
   obtain ⟨h2, ls2, e2, P2, q2⟩ := hn
   exact ⟨h2, ls2, fun α pan ret => (start α pan ret).trans (e2 α pan _), P2, q1.trans q2⟩
 ·rw [if_neg hc]
  refine ⟨h, P.ext, fun α pan ret => ?_⟩
  have h45 : ¬ isS [45] s = true := fun e => hc (.inl e)
  rw [qah.f, qah.u1.f, zan P, Bool.eq_false_iff.2 h45, Bool.not_false, cond_true, p_l P, zbt P.toks (x := 0) (i := 0) rfl P.hd]
  by_cases h2 : s.hd.kind = 2
  ·have hw : zfj s.hd.text = true := by
    cases hq : zfj s.hd.text with
    | true => rfl
    | false => exact absurd (.inr ⟨h2, hq⟩) hc
   rw [dT h2, Bool.not_true, cond_false, p_l P, zno P.toks (x := 0) (i := 0) rfl P.hd, zka, hw, cond_true, zcz P]
  ·rw [dF h2, Bool.not_false, cond_true, zcz P]
theorem lay_run (P : PS h₀ h p tb ls fs s) (k : Nat) (n : Nd) (hlt : s.f.length < s.made) :
  ∃ h' fs', (∀ (α : Type) (ret : Int->M α), qz.f (k + 1) ⟨p, 0⟩ n.kind n.a n.b n.name n.pos ret h = ret (layE n s).1 h') ∧ PS h₀ h' p tb ls fs' (layE n s).2 ∧ QP p fs fs' h h' := by
 have hm := P.m60
 have hfl : fs.len = s.f.length := slen Nd.len (by decide) P.nodes.rd
 have x1 : Ext h (h.push (ndC n)) := (Ext.refl h).push _
 have hq : (h.push (ndC n)).get h.next = some (ndC n) := by rw [zj, if_pos rfl]
 have P1 := P.push x1
 have e1 : ∀ (α : Type) (K : Ad->M α), new [.int .i64 n.kind, .int .i64 n.a, .int .i64 n.b, .str n.name, .int .i64 n.pos] K h = K ⟨h.next, 0⟩ (h.push (ndC n)) := fun α K => jp rfl
 have hn1 : (h.push (ndC n)).next = h.next + 1 := rfl
 generalize h.push (ndC n) = h1 at x1 hq P1 e1 hn1
 have x2 : Ext h1 (h1.push (ndC n)) := (Ext.refl h1).push _
 have P2 := P1.push x2
 have e2 : ∀ (α : Type) (K : Ad->M α), new [.int .i64 n.kind, .int .i64 n.a, .int .i64 n.b, .str n.name, .int .i64 n.pos] K h1 = K ⟨h1.next, 0⟩ (h1.push (ndC n)) := fun α K => jp rfl
 have rp : Rd (h1.push (ndC n)) ⟨some ⟨h1.next, 0⟩, 1, 1, none⟩ 5 n.cells := Rd.pushed h1 rfl
 have hn2 : (h1.push (ndC n)).next = h1.next + 1 := rfl
 generalize h1.push (ndC n) = h2 at x2 P2 e2 rp hn2
 obtain ⟨h3, e3, ap3, g3, k3⟩ := zjr (bytes := 48) P2.nodes rp (by show 0 < 1; decide) (by decide) (by show (fs.len + 1 + (fs.len + 1) / 4 + 512) * 48≤_; omega)
 dsimp only at e3 ap3
 have hlts := P2.lts
 have keep : ∀ i, i < h2.next->(∀ a, fs.ad = some a->i ≠ a.id)->h3.get i = h2.get i := fun i hi ha => k3.2 i hi fun _ a h => ha a h
 have gp : h3.get p = h2.get p := keep p P2.plt fun a ha => Ne.symm (P2.fp a ha).1
 have hn3 := k3.1
 refine ⟨h3.put p (some (.cells [.slice ls, .int .i64 (s.made : Int), .slice ⟨some ⟨h2.next, 0⟩, fs.len + 1, fs.len + 1, some 5⟩] true)), ⟨some ⟨h2.next, 0⟩, fs.len + 1, fs.len + 1, some 5⟩, fun α ret => ?_, ?_, ?_⟩
 ·have e4 : ∀ K : M α, st1 (((⟨p, 0⟩ : Ad).add 2).add 0) (.slice ⟨some ⟨h2.next, 0⟩, fs.len + 1, fs.len + 1, some 5⟩) K h3 = K (h3.put p (some (.cells [.slice ls, .int .i64 (s.made : Int), .slice ⟨some ⟨h2.next, 0⟩, fs.len + 1, fs.len + 1, some 5⟩] true))) := fun K => by
   simp only [zz]
   rw [yk (a := ⟨p, 0 + 2 + 0⟩) (gp.trans P2.blk) rfl (by simp)]
   rfl
  rw [qz.f, qz.u1.f, e1, p_f P1, zgc hq, e2, p_f P2, zr (by simp), e3, e4, zau (n := ⟨some ⟨h2.next, 0⟩, fs.len + 1, fs.len + 1, some 5⟩) (by simp only [zz]; rw [zw (a := ⟨p, 0 + 2 + 0⟩) (jl _ _ _)]; rfl)]
  rw [je (by dsimp only; omega) (by dsimp only; omega)]
  unfold layE
  dsimp only
  rw [show ((fs.len + 1 : Nat) : Int) - 1 = (s.f.length : Int) by omega]
 ·have hg : ∀ i, i ≠ p->(h3.put p (some (.cells [.slice ls, .int .i64 (s.made : Int), .slice ⟨some ⟨h2.next, 0⟩, fs.len + 1, fs.len + 1, some 5⟩] true))).get i = h3.get i := fun i hi => by rw [zg, if_neg hi]
  have hc : cN (s.f ++ [n]) = cN s.f ++ n.cells := by simp [List.flatMap_append]
  have hpl := P2.plt
  have htl := P2.tl
  refine ⟨(k3.ext P2.ext P2.low).put _ P.p0, P.p0, by show p < h3.next; omega, by rw [jl]; rfl, P2.toks.keep (by show h2.next≤h3.next; omega) (fun a ha => ?_), P.fine, ?_, (fun a ha => by cases ha; exact P2.ext.1), P.tok, P.tp, by show tb < h3.next; omega, (fun a ha => by cases ha; exact ⟨by show h2.next ≠ p; omega, by show h2.next ≠ tb; omega⟩), P.ends, ?_, P.m60⟩
  ·rw [hg _ (by rw [P.tok a ha]; exact P.tp)]
   exact keep _ (hlts.1 a ha) fun b hb => by rw [P.tok a ha]; exact Ne.symm (P2.fp b hb).2
  ·show App _ _ 5 (cN (s.f ++ [n]))
   rw [hc]
   exact ap3.keep (Nat.le_refl _) fun a ha => by cases ha; exact hg _ (by show h2.next ≠ p; omega)
  ·show (s.f ++ [n]).length≤s.made
   rw [List.length_append]; exact hlt
 ·refine ⟨by show h.next≤h3.next; omega, fun i hi hp ha => ?_, fun a ha => by cases ha; left; show h.next≤h2.next; omega⟩
  rw [zg, if_neg hp, keep i (by omega) ha, x2.2 i (by omega), x1.2 i hi]
def fnO (p : Nat) (o : Bool) : V := if o then .func 55 [.ptr (some ⟨p, 0⟩)] [] else .func 72 [.ptr (some ⟨p, 0⟩)] []
noncomputable def rowF (k : Nat) (o : Bool) (p : Nat) {α : Type} (pan : V->M α) (ret : Int->M α) : M α := if o then qaa.f k ⟨p, 0⟩ pan ret else qaf.f k ⟨p, 0⟩ pan ret
noncomputable def cps (k jj : Nat) (p : Nat) (r : Rl) (a : Int) {α : Type} (pan : V->M α) (ret : Int->M α) : M α :=
 match r with
 | .un => qf.f k ⟨p, 0⟩ pan ret
 | .row o => rowF k o p pan ret
 | .loop o => qv.u3.l k (fun z0 z1 z2 => qaf.f k z0 z1 z2) (fun z0 z1 z2 => qf.f k z0 z1 z2) ret pan jj ⟨p, 0⟩ (signO o) (zef o) (fnO p o) a
def jk (h₀ h : H) (p tb : Nat) (fs : Sl) (x : Except Er (Int × St)) (C : ∀ α : Type, (V->M α)->(Int->M α)->M α) : Prop :=
 match x with
 | .error e => e.2 ≠ 0->∃ h', Ext h₀ h' ∧ ∀ (α : Type) (pan : V->M α) (ret : Int->M α), C α pan ret h = pan (zgn e) h'
 | .ok y => ∃ h' ls' fs', (∀ (α : Type) (pan : V->M α) (ret : Int->M α), C α pan ret h = ret y.1 h') ∧ PS h₀ h' p tb ls' fs' y.2 ∧ QP p fs fs' h h'
theorem QP.tok {fs' : Sl} {h' : H} (q : QP p fs fs' h h') {i : Nat} {b : Blk} (hi : i < h.next) (hp : i ≠ p) (hf : ∀ a, fs.ad = some a->i ≠ a.id) (hb : h.get i = some b) : h'.get i = some b := by rw [q.keep i hi hp hf]; exact hb
theorem zpz (P : PS h₀ h p tb ls fs s) (t : Tok) : PS h₀ (h.push (tkC t)) p tb ls fs s ∧ QP p fs fs h (h.push (tkC t)) ∧ (h.push (tkC t)).get h.next = some (tkC t) ∧ h.next < (h.push (tkC t)).next ∧ h.next ≠ p ∧ ∀ a, fs.ad = some a->h.next ≠ a.id :=
 ⟨P.push ((Ext.refl h).push _), QP.of ((Ext.refl h).push _), by rw [zj, if_pos rfl], by rw [zi]; omega, by have := P.plt; omega, fun a ha => by have := P.lts.2 a ha; omega⟩
theorem pz_loop (o : Bool) (k j : Nat) (ih : ∀ (r : Rl) (a : Int) (s : St) (h : H) (ls fs : Sl) (k jj : Nat), 2 * j + 20≤k->j≤jj->PS h₀ h p tb ls fs s->jk h₀ h p tb fs (pz j r a s) (fun α => cps k jj p r a)) (a : Int) (s : St) (h : H) (ls fs : Sl) (jj : Nat) (hk : 2 * j + 20≤k) (hj : j≤jj) (P : PS h₀ h p tb ls fs s) :
  jk h₀ h p tb fs (pz (j + 1) (.loop o) a s) (fun α => cps k (jj + 1) p (.loop o) a) := by
 obtain ⟨k, rfl⟩ : ∃ q, k = q + 2 := ⟨k - 2, by omega⟩
 have start : ∀ (α : Type) (pan : V->M α) (ret : Int->M α), cps (k + 2) (jj + 1) p (.loop o) a pan ret h = cond (isS (signO o) s) (qac.f (k + 2) ⟨p, 0⟩ (fun e33 => pan e33) fun r8 r9 r10 r11 =>
   new [.int .i64 0, .int .i64 0, .str [], .int .i64 0] fun t12 => st1 (t12.add 0) (.int .i64 r8) <| st1 (t12.add 1) (.int .i64 r9) <| st1 (t12.add 2) (.str r10) <| st1 (t12.add 3) (.int .i64 r11) <|
   ldI .i64 ((t12.add 1).add 0) fun x13 => cps (k + 2) (k + 2) p (oneO o) 0 pan fun r21 => ldI .i64 ((t12.add 1).add 0) fun y22 => need (decide (x13 = y22)) <| qz.f (k + 2) ⟨p, 0⟩ (zef o) a r21 [] x13 fun r23 => cps (k + 2) jj p (.loop o) r23 pan ret) (ret a) h := fun α pan ret => by
  show qv.u3.l _ _ _ _ _ _ _ _ _ _ _ h = _
  rw [qv.u3.l, qv.u2.f, zan P]
  cases o <;> rfl
 rw [pz]
 by_cases hs : isS (signO o) s = true
 rotate_left
 ·rw [if_neg hs]
  refine ⟨h, ls, fs, fun α pan ret => ?_, P, QP.refl _ _ _⟩
  refine (start α pan ret).trans ?_
  rw [Bool.eq_false_iff.2 hs, cond_false]
 rw [if_pos hs]
 have hm := zmv P k (by rw [jn hs]; decide)
 cases hme : zao s with
 | error e =>
  rw [hme] at hm
  obtain ⟨h', x', e'⟩ := hm
  exact fun _ => ⟨h', x', fun α pan ret => (start α pan ret).trans (by rw [hs, cond_true, e'])⟩
 | ok x =>
  rw [hme] at hm
  obtain ⟨h1, ls1, e1, P1, q1⟩ := hm
  obtain ⟨t, s1⟩ := x
  dsimp only at e1 P1
  obtain ⟨P2, q2, g2, l2, n2, f2⟩ := zpz P1 t
  have start2 : ∀ (α : Type) (pan : V->M α) (ret : Int->M α), cps (k + 2) (jj + 1) p (.loop o) a pan ret h = cps (k + 2) (k + 2) p (oneO o) 0 pan (fun r21 => ldI .i64 (((⟨h1.next, 0⟩ : Ad).add 1).add 0) fun y22 => need (decide (t.pos = y22)) <| qz.f (k + 2) ⟨p, 0⟩ (zef o) a r21 [] t.pos fun r23 => cps (k + 2) jj p (.loop o) r23 pan ret) (h1.push (tkC t)) := fun α pan ret => by
   rw [start, hs, cond_true, e1, zjs, zbl g2]
  have hi := ih (oneO o) 0 s1 _ ls1 fs (k + 2) (k + 2) hk (by omega) P2
  show jk h₀ h p tb fs (yo (pz j (oneO o) 0 s1) fun y => _) _
  cases hz : pz j (oneO o) 0 s1 with
  | error e =>
   rw [hz] at hi
   exact fun he => by
    obtain ⟨h', x', e'⟩ := hi he
    exact ⟨h', x', fun α pan ret => (start2 α pan ret).trans (e' α pan _)⟩
  | ok y =>
   rw [hz] at hi
   obtain ⟨n, s2⟩ := y
   obtain ⟨h3, ls3, fs3, e3, P3, q3⟩ := hi
   dsimp only at e3 P3
   have hb := zia _ _ _ _ _ _ hz
   have hmk := zci hme
   have hlt : s2.f.length < s2.made := by
    have h1 := hb.1
    rw [hmk.2.2] at h1
    simp only [St.adv] at h1
    have := P.bal
    omega
   have g3 : h3.get h1.next = some (tkC t) := q3.tok l2 n2 f2 g2
   obtain ⟨h4, fs4, e4, P4, q4⟩ := lay_run P3 (k + 1) ⟨zef o, a, n, [], t.pos⟩ hlt
   dsimp only at e4
   have hi2 := ih (.loop o) (layE ⟨zef o, a, n, [], t.pos⟩ s2).1 (layE ⟨zef o, a, n, [], t.pos⟩ s2).2 h4 ls3 fs4 (k + 2) jj hk hj P4
   have q04 := q1.trans (q2.trans (q3.trans q4))
   have start3 : ∀ (α : Type) (pan : V->M α) (ret : Int->M α), cps (k + 2) (jj + 1) p (.loop o) a pan ret h = cps (k + 2) jj p (.loop o) (layE ⟨zef o, a, n, [], t.pos⟩ s2).1 pan ret h4 := fun α pan ret => by
    rw [start2, e3, zbl g3, zr (by simp), e4]
   show jk h₀ h p tb fs (pz j (.loop o) (layE ⟨zef o, a, n, [], t.pos⟩ s2).1 (layE ⟨zef o, a, n, [], t.pos⟩ s2).2) _
   cases hz2 : pz j (.loop o) (layE ⟨zef o, a, n, [], t.pos⟩ s2).1 (layE ⟨zef o, a, n, [], t.pos⟩ s2).2 with
   | error e =>
    rw [hz2] at hi2
    exact fun he => by
     obtain ⟨h', x', e'⟩ := hi2 he
     exact ⟨h', x', fun α pan ret => (start3 α pan ret).trans (e' α pan ret)⟩
   | ok y =>
    rw [hz2] at hi2
    obtain ⟨h', ls', fs', e', P', q'⟩ := hi2
    exact ⟨h', ls', fs', fun α pan ret => (start3 α pan ret).trans (e' α pan ret), P', q04.trans q'⟩
theorem pz_row (o : Bool) (k j : Nat) (ih : ∀ (r : Rl) (a : Int) (s : St) (h : H) (ls fs : Sl) (k jj : Nat), 2 * j + 20≤k->j≤jj->PS h₀ h p tb ls fs s->jk h₀ h p tb fs (pz j r a s) (fun α => cps k jj p r a)) (a : Int) (s : St) (h : H) (ls fs : Sl) (jj : Nat) (hk : 2 * (j + 1) + 20≤k) (P : PS h₀ h p tb ls fs s) :
  jk h₀ h p tb fs (pz (j + 1) (.row o) a s) (fun α => cps k jj p (.row o) a) := by
 obtain ⟨k, rfl⟩ : ∃ q, k = q + 2 := ⟨k - 2, by omega⟩
 have start : ∀ (α : Type) (pan : V->M α) (ret : Int->M α), cps (k + 2) jj p (.row o) a pan ret h = cps k k p (oneO o) 0 pan (fun n => cps k k p (.loop o) n pan ret) h := fun α pan ret => by
  cases o <;> rfl
 rw [pz]
 have hi := ih (oneO o) 0 s h ls fs k k (by omega) (by omega) P
 cases hz : pz j (oneO o) 0 s with
 | error e =>
  rw [hz] at hi
  exact fun he => by
   obtain ⟨h', x', e'⟩ := hi he
   exact ⟨h', x', fun α pan ret => (start α pan ret).trans (e' α pan _)⟩
 | ok y =>
  rw [hz] at hi
  obtain ⟨h1, ls1, fs1, e1, P1, q1⟩ := hi
  have hi2 := ih (.loop o) y.1 y.2 h1 ls1 fs1 k k (by omega) (by omega) P1
  show jk h₀ h p tb fs (pz j (.loop o) y.1 y.2) _
  cases hz2 : pz j (.loop o) y.1 y.2 with
  | error e =>
   rw [hz2] at hi2
   exact fun he => by
    obtain ⟨h', x', e'⟩ := hi2 he
    exact ⟨h', x', fun α pan ret => (start α pan ret).trans ((e1 α pan _).trans (e' α pan ret))⟩
  | ok y2 =>
   rw [hz2] at hi2
   obtain ⟨h', ls', fs', e', P', q'⟩ := hi2
   exact ⟨h', ls', fs', fun α pan ret => (start α pan ret).trans ((e1 α pan _).trans (e' α pan ret)), P', q1.trans q'⟩
end Go.Ab.S5
