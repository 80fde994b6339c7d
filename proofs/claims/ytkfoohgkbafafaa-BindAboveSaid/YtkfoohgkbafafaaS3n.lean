import Derived.Test.YtkfoohgkbafafaaS3m
namespace Go.Ab.S3
set_option linter.unusedVariables false
set_option linter.unusedSimpArgs false
variable {α : Type} {h : H}
/-! #### deep -/
def dpV (out : List Int) (n : Nd) : Int :=
  let v := if 0 < arF n.kind then (out[n.a.toNat]?).getD 0 else 0
  let v2 := if 1 < arF n.kind ∧ v < (out[n.b.toNat]?).getD 0 then (out[n.b.toNat]?).getD 0 else v
  if fixK n.kind = true then v2 + 1 else v2
def dpL : List Nd → Nat → List Int → List Int
  | [], _, out => out
  | n :: l, i, out => dpL l (i + 1) (out.set i (dpV out n))
theorem fix_ar {k : Int} (h : fixK k = true) : arF k = 1 := by
  simp only [fixK, Bool.or_eq_true, decide_eq_true_eq] at h
  rcases h with rfl | rfl <;> rfl
theorem dpL_flat : ∀ (t : Tr) (base : Nat) (rest : List Nd) (P Q : List Int), t.ok = true → P.length = base →
    dpL (t.flat base ++ rest) base (P ++ (List.replicate t.size 0 ++ Q)) = dpL rest (base + t.size) (P ++ (depI t ++ Q))
  | .leaf k s p, base, rest, P, Q, ht, hP => by
    simp only [Tr.ok, Bool.and_eq_true, decide_eq_true_eq] at ht
    have hf : fixK k = false := by
      cases hq : fixK k with
      | false => rfl
      | true => have := fix_ar hq; omega
    have hv : dpV (P ++ (List.replicate 1 0 ++ Q)) ((Tr.leaf k s p).node base) = 0 := by
      have e1 : arF ((Tr.leaf k s p).node base).kind = 0 := ht.1
      have e2 : fixK ((Tr.leaf k s p).node base).kind = false := hf
      simp [dpV, e1, e2]
    simp only [Tr.flat, List.cons_append, List.nil_append, dpL]
    rw [show (Tr.leaf k s p).size = 1 from rfl, hv]
    have := set_mid P [] (0 : Int) 0 Q (n := base) (by simp [hP])
    rw [show P ++ (List.replicate 1 (0 : Int) ++ Q) = P ++ ([] ++ ((0 : Int) :: Q)) from rfl, this]
    rfl
  | .un k s p a, base, rest, P, Q, ht, hP => by
    simp only [Tr.ok, Bool.and_eq_true, decide_eq_true_eq] at ht
    have hp := Tr.pos a
    simp only [Tr.flat, List.append_assoc, Tr.size]
    rw [rep_split, dpL_flat a base _ P _ ht.2 hP]
    simp only [List.cons_append, List.nil_append, dpL]
    have hg : (P ++ (depI a ++ ((0 : Int) :: Q)))[base + a.size - 1]? = some (depT a : Int) := by
      rw [get_mid P (depI a) _ (i := a.size - 1) (by omega) (by rw [depI_length]; omega)]; exact depI_last a
    have hv : dpV (P ++ (depI a ++ ((0 : Int) :: Q))) ((Tr.un k s p a).node base) = (depT (.un k s p a) : Int) := by
      have e1 : arF ((Tr.un k s p a).node base).kind = 1 := ht.1.1
      have e2 : ((Tr.un k s p a).node base).a.toNat = base + a.size - 1 := by show ((base + a.size - 1 : Nat) : Int).toNat = _; rw [Int.toNat_natCast]
      have e3 : ((Tr.un k s p a).node base).kind = k := rfl
      simp only [dpV, e3, ht.1.1, e2, hg, depT]
      cases hq : fixK k <;> simp
    rw [hv, set_mid P (depI a) 0 _ Q (n := base + a.size) (by rw [hP, depI_length]), mid_snoc]
    have : depI (.un k s p a) = depI a ++ [(depT (.un k s p a) : Int)] := by simp [depI, depA]
    rw [this]
    rfl
  | .bin k s p a b, base, rest, P, Q, ht, hP => by
    simp only [Tr.ok, Bool.and_eq_true, decide_eq_true_eq] at ht
    have hp := Tr.pos a
    have hp' := Tr.pos b
    simp only [Tr.flat, List.append_assoc, Tr.size]
    rw [rep_bin, dpL_flat a base _ P _ ht.1.2 hP, ← List.append_assoc P, dpL_flat b (base + a.size) _ (P ++ depI a) _ ht.2 (by rw [List.length_append, depI_length, hP])]
    simp only [List.cons_append, List.nil_append, dpL]
    have hg1 : (P ++ depI a ++ (depI b ++ ((0 : Int) :: Q)))[base + a.size - 1]? = some (depT a : Int) := by
      rw [List.append_assoc, get_mid P (depI a) _ (i := a.size - 1) (by omega) (by rw [depI_length]; omega)]; exact depI_last a
    have hg2 : (P ++ depI a ++ (depI b ++ ((0 : Int) :: Q)))[base + a.size + b.size - 1]? = some (depT b : Int) := by
      rw [get_mid (P ++ depI a) (depI b) _ (i := b.size - 1) (by rw [List.length_append, depI_length]; omega) (by rw [depI_length]; omega)]; exact depI_last b
    have hf : fixK k = false := by
      cases hq : fixK k with
      | false => rfl
      | true => have := fix_ar hq; omega
    have hv : dpV (P ++ depI a ++ (depI b ++ ((0 : Int) :: Q))) ((Tr.bin k s p a b).node base) = (depT (.bin k s p a b) : Int) := by
      have e1 : arF ((Tr.bin k s p a b).node base).kind = 2 := ht.1.1.1
      have e2 : ((Tr.bin k s p a b).node base).a.toNat = base + a.size - 1 := by show ((base + a.size - 1 : Nat) : Int).toNat = _; rw [Int.toNat_natCast]
      have e4 : ((Tr.bin k s p a b).node base).b.toNat = base + a.size + b.size - 1 := by show ((base + a.size + b.size - 1 : Nat) : Int).toNat = _; rw [Int.toNat_natCast]
      have e3 : fixK ((Tr.bin k s p a b).node base).kind = false := hf
      simp only [dpV, e1, e2, e4, hg1, hg2, e3, depT]
      simp
      split <;> omega
    rw [hv, set_mid (P ++ depI a) (depI b) 0 _ Q (n := base + a.size + b.size) (by rw [List.length_append, hP, depI_length, depI_length]), mid_snoc]
    have : depI (.bin k s p a b) = depI a ++ (depI b ++ [(depT (.bin k s p a b) : Int)]) := by simp [depI, depA]
    rw [this]
    simp only [List.append_assoc]
    rw [show base + a.size + b.size + 1 = base + (a.size + b.size + 1) by omega]
theorem dpL_tree (t : Tr) (ht : t.ok = true) : dpL (t.flat 0) 0 (List.replicate t.size 0) = depI t := by
  have := dpL_flat t 0 [] [] [] ht rfl
  simpa [dpL] using this
section
variable {h₀ : H} {f out : Sl} {l : List Nd}
/-- the end of a round: a fixpoint is one more -/
theorem deep_fix (r : NdR h₀ f l) {T : List Int} (m : Mine h₀ h out (cIs T)) {i : Nat} {n : Nd} (hn : l[i]? = some n) {v : Int} (hv : T[i]? = some v) (h0 : 0 ≤ v) (h1 : v ≤ 1000) (k : Nat) :
    ∃ h', (∀ (α : Type) (K : M α), (idxSl f (i : Int) 5 fun a => ldI .i64 (a.add 0) fun x0 => ldI .i64 (a.add 1) fun x1 => ldI .i64 (a.add 2) fun x2 => ldStr (a.add 3) fun x3 => ldI .i64 (a.add 4) fun x4 => r5Fixpoint.f (k + 1) x0 x1 x2 x3 x4 fun r =>
      cond r (idxSl out (i : Int) 1 fun b => ldI .i64 (b.add 0) fun y => idxSl out (i : Int) 1 fun c => st1 (c.add 0) (.int .i64 (w64 (y + 1))) K) K) h = K h') ∧ Mine h₀ h' out (cIs (T.set i (if fixK n.kind = true then v + 1 else v))) := by
  have x1 : Ext h (h.push (ndC n)) := (Ext.refl h).push _
  have m1 := m.push x1
  cases c : fixK n.kind with
  | false =>
    refine ⟨h.push (ndC n), fun α K => ?_, ?_⟩
    · rw [nd_rd (r.ext m.ext) rfl hn, rfix_run, c, cond_false]
    · have : T.set i v = T := by
        have := List.getElem?_eq_some_iff.1 hv
        obtain ⟨hlt, rfl⟩ := this
        exact List.set_getElem_self hlt
      simp only [Bool.false_eq_true, if_false]
      rw [this]; exact m1
  | true =>
    obtain ⟨h2, e2, m2, _⟩ := m1.st (x := (i : Int)) (i := i) (v + 1) rfl (get_lt hv)
    refine ⟨h2, fun α K => ?_, by simpa using m2⟩
    rw [nd_rd (r.ext m.ext) rfl hn, rfix_run, c, cond_true, int_rd m1.own.rd rfl hv, w64_eq (by omega) (by omega), e2]
theorem set_set (T : List Int) (i : Nat) (x y : Int) : (T.set i x).set i y = T.set i y := by simp
theorem deep_loop (r : NdR h₀ f l) (hb : Below l) (hl : l.length ≤ 500) (k : Nat) : ∀ (j i : Nat) (h : H) (S : List Int), i ≤ l.length → l.length - i < j → S.length = i → (∀ (q : Nat) (v : Int), S[q]? = some v → 0 ≤ v ∧ v ≤ q + 1) → Mine h₀ h out (cIs (S ++ List.replicate (l.length - i) 0)) →
    ∃ h', (∀ (α : Type) (kx : Sl → M α), r5deep.u11.l (k + 1) kx j f out (i : Int) h = kx out h') ∧ Mine h₀ h' out (cIs (dpL (l.drop i) i (S ++ List.replicate (l.length - i) 0))) := by
  intro j
  induction j with
  | zero => intro i h S hi hj; omega
  | succ j ih =>
    intro i h S hi hj hS hb0 m
    have hfl := nd_slen r
    by_cases hlt : i < l.length
    rotate_left
    · refine ⟨h, fun α kx => ?_, by rw [List.drop_of_length_le (by omega)]; exact m⟩
      rw [r5deep.u11.l, r5deep.u10.f, r5deep.u3.f, hfl, dF (by omega : ¬ (i : Int) < (l.length : Int)), cond_false]
    have hn : l[i]? = some l[i] := List.getElem?_eq_getElem hlt
    rw [List.drop_eq_getElem_cons hlt, dpL]
    generalize l[i] = n at hn ⊢
    have rr := fun (h : H) (x : Ext h₀ h) => r.ext x
    have hTl : (S ++ List.replicate (l.length - i) (0 : Int)).length = l.length := by simp; omega
    have hTi : (S ++ List.replicate (l.length - i) (0 : Int))[i]? = some 0 := by
      rw [List.getElem?_append_right (by omega), hS, Nat.sub_self, List.getElem?_replicate, if_pos (by omega)]
    have hTq : ∀ q, q < i → (S ++ List.replicate (l.length - i) (0 : Int))[q]? = S[q]? := fun q hq => List.getElem?_append_left (by omega)
    have hset : ∀ v, (S ++ List.replicate (l.length - i) (0 : Int)).set i v = (S ++ [v]) ++ List.replicate (l.length - (i + 1)) 0 := fun v => by
      rw [List.set_append_right _ _ (by omega), hS, Nat.sub_self, show l.length - i = (l.length - (i + 1)) + 1 by omega, List.replicate_succ, List.set_cons_zero, List.append_assoc]
      rfl
    obtain ⟨b1, b2⟩ := hb i n hn
    generalize hTT : S ++ List.replicate (l.length - i) (0 : Int) = T at *
    have start : ∀ (α : Type) (kx : Sl → M α), r5deep.u11.l (k + 1) kx (j + 1) f out (i : Int) h = _ := fun α kx => by
      rw [r5deep.u11.l, r5deep.u10.f, r5deep.u3.f, hfl, dT (by clear b1 b2; omega : (i : Int) < (l.length : Int)), cond_true, r5deep.u9.f, r5deep.u7.f, r5deep.u6.f, r5deep.u4.f, nd_kind (rr h m.ext) rfl hn, rbelow_run]
    have key : ∃ h1, (∀ (α : Type) (kx : Sl → M α), r5deep.u11.l (k + 1) kx (j + 1) f out (i : Int) h = r5deep.u11.l (k + 1) kx j f out (w64 ((i : Int) + 1)) h1) ∧ Mine h₀ h1 out (cIs (T.set i (dpV T n))) ∧ 0 ≤ dpV T n ∧ dpV T n ≤ i + 1 := by
      have arity0 : arF n.kind ≤ 0 → ∃ h1, (∀ (α : Type) (kx : Sl → M α), r5deep.u11.l (k + 1) kx (j + 1) f out (i : Int) h = r5deep.u11.l (k + 1) kx j f out (w64 ((i : Int) + 1)) h1) ∧ Mine h₀ h1 out (cIs (T.set i (dpV T n))) ∧ 0 ≤ dpV T n ∧ dpV T n ≤ i + 1 := by
        clear b1 b2
        intro e
        obtain ⟨h1, e1, m1⟩ := deep_fix r m hn hTi (Int.le_refl _) (by omega) k
        have hf : fixK n.kind = false := by
          cases hq : fixK n.kind with
          | false => rfl
          | true => have := fix_ar hq; omega
        have hv : dpV T n = 0 := by
          have n1 : ¬ 0 < arF n.kind := by omega
          have n2 : ¬ 1 < arF n.kind := by omega
          simp [dpV, n1, n2, hf]
        refine ⟨h1, fun α kx => ?_, ?_, ?_, ?_⟩
        · rw [start, dF (by omega : ¬ 0 < arF n.kind), cond_false, r5deep.u5.f, dF (by omega : ¬ 1 < arF n.kind), cond_false, e1]
          rfl
        · rw [hf] at m1; rw [hv]; exact m1
        · omega
        · omega
      rcases ar_cases n.kind with e | e | e | e
      · exact arity0 (by omega)
      · exact arity0 (by omega)
      · obtain ⟨a, ha, hai⟩ := b1 (by omega)
        clear b1 b2 arity0
        obtain ⟨va, hva⟩ : ∃ v, T[a]? = some v := ⟨_, List.getElem?_eq_getElem (by omega)⟩
        have hvb := hb0 a va (by rw [← hTq a hai]; exact hva)
        obtain ⟨h1, e1, m1, _⟩ := m.st (x := (i : Int)) (i := i) va rfl (by omega)
        obtain ⟨h2, e2, m2⟩ := deep_fix r m1 hn (v := va) (by rw [List.getElem?_set_self (by omega)]) hvb.1 (by omega) k
        have hv : dpV T n = if fixK n.kind = true then va + 1 else va := by
          simp only [dpV, e, ha, Int.toNat_natCast, hva, Option.getD_some]
          simp
        refine ⟨h2, fun α kx => ?_, by rw [hv, ← set_set T i va]; exact m2, ?_, ?_⟩
        · rw [start, e, dT (by omega : (0 : Int) < 1), cond_true, nd_a (rr h m.ext) rfl hn, int_rd m.own.rd ha hva, e1, r5deep.u5.f, dF (by omega : ¬ (1 : Int) < 1), cond_false, e2]
          rfl
        · rw [hv]; split <;> omega
        · rw [hv]; split <;> omega
      · obtain ⟨a, ha, hai⟩ := b1 (by omega)
        obtain ⟨b, hb', hbi⟩ := b2 (by omega)
        clear b1 b2 arity0
        obtain ⟨va, hva⟩ : ∃ v, T[a]? = some v := ⟨_, List.getElem?_eq_getElem (by omega)⟩
        obtain ⟨vb, hvb⟩ : ∃ v, T[b]? = some v := ⟨_, List.getElem?_eq_getElem (by omega)⟩
        have hva' := hb0 a va (by rw [← hTq a hai]; exact hva)
        have hvb' := hb0 b vb (by rw [← hTq b hbi]; exact hvb)
        have hf : fixK n.kind = false := by
          cases hq : fixK n.kind with
          | false => rfl
          | true => have := fix_ar hq; omega
        obtain ⟨h1, e1, m1, _⟩ := m.st (x := (i : Int)) (i := i) va rfl (by omega)
        have hb1 : (T.set i va)[b]? = some vb := by rw [List.getElem?_set_ne (by omega)]; exact hvb
        have hi1 : (T.set i va)[i]? = some va := List.getElem?_set_self (by omega)
        have hv : dpV T n = if va < vb then vb else va := by
          simp only [dpV, e, ha, hb', Int.toNat_natCast, hva, hvb, hf, Option.getD_some]
          simp
        by_cases c : va < vb
        · obtain ⟨h2, e2, m2, _⟩ := m1.st (x := (i : Int)) (i := i) vb rfl (by rw [List.length_set]; omega)
          obtain ⟨h3, e3, m3⟩ := deep_fix r m2 hn (v := vb) (by rw [List.getElem?_set_self (by rw [List.length_set]; omega)]) hvb'.1 (by omega) k
          rw [hf] at m3
          refine ⟨h3, fun α kx => ?_, by rw [hv, if_pos c]; simpa using m3, ?_, ?_⟩
          · rw [start, e, dT (by omega : (0 : Int) < 2), cond_true, nd_a (rr h m.ext) rfl hn, int_rd m.own.rd ha hva, e1, r5deep.u5.f, dT (by omega : (1 : Int) < 2), cond_true, nd_b (rr h1 m1.ext) rfl hn, int_rd m1.own.rd hb' hb1, int_rd m1.own.rd rfl hi1, dT c, cond_true,
              nd_b (rr h1 m1.ext) rfl hn, int_rd m1.own.rd hb' hb1, e2, e3]
            rfl
          · rw [hv]; split <;> omega
          · rw [hv]; split <;> omega
        · obtain ⟨h3, e3, m3⟩ := deep_fix r m1 hn hi1 hva'.1 (by omega) k
          rw [hf] at m3
          refine ⟨h3, fun α kx => ?_, by rw [hv, if_neg c]; simpa using m3, ?_, ?_⟩
          · rw [start, e, dT (by omega : (0 : Int) < 2), cond_true, nd_a (rr h m.ext) rfl hn, int_rd m.own.rd ha hva, e1, r5deep.u5.f, dT (by omega : (1 : Int) < 2), cond_true, nd_b (rr h1 m1.ext) rfl hn, int_rd m1.own.rd hb' hb1, int_rd m1.own.rd rfl hi1, dF c, cond_false, e3]
            rfl
          · rw [hv]; split <;> omega
          · rw [hv]; split <;> omega
    obtain ⟨h1, e1, m1, v0, v1⟩ := key
    clear b1 b2
    rw [hset] at m1 ⊢
    obtain ⟨h2, e2, m2⟩ := ih (i + 1) h1 (S ++ [dpV T n]) (by omega) (by omega) (by simp [hS]) (fun q v hq => by
      by_cases hqi : q < i
      · rw [List.getElem?_append_left (by omega)] at hq; exact hb0 q v hq
      · have hl' := get_lt hq
        simp only [List.length_append, List.length_cons, List.length_nil] at hl'
        have : q = i := by omega
        subst this
        rw [List.getElem?_append_right (by omega), hS, Nat.sub_self] at hq
        simp only [List.getElem?_cons_zero, Option.some.injEq] at hq
        omega) m1
    refine ⟨h2, fun α kx => ?_, m2⟩
    rw [e1, w64_eq (by omega) (by omega)]
    exact e2 α kx
theorem deep_run (k : Nat) (hk : 200 ≤ k) {t : Tr} (ht : t.ok = true) (hs : t.size ≤ 60) (h : H) (r : NdR h f (t.flat 0)) :
    ∃ h' s, (∀ (α : Type) (ret : Sl → M α), r5deep.f (k + 1) f ret h = ret s h') ∧ Mine h h' s (cIs (depI t)) := by
  obtain ⟨k, rfl⟩ : ∃ q, k = q + 1 := ⟨k - 1, by omega⟩
  have hfl : f.len = t.size := by rw [nd_slen r, flat_length]
  obtain ⟨h1, e1, o1, n1, x1⟩ := mkI_run (h := h) (n := t.size) (x := (f.len : Int)) (y := (f.len : Int)) (by rw [hfl]) (by rw [hfl]) (by omega)
  have m1 : Mine h h1 ⟨some ⟨h.next, 0⟩, t.size, t.size, none⟩ (cIs ([] ++ List.replicate ((t.flat 0).length - 0) 0)) := ⟨x1, by rw [flat_length]; exact o1, Nat.le_refl _⟩
  obtain ⟨h2, e2, m2⟩ := deep_loop r (tree_below ht) (by rw [flat_length]; omega) k (k + 1) 0 h1 [] (Nat.zero_le _) (by rw [flat_length]; omega) rfl (fun q v hq => by simp at hq) m1
  rw [List.drop_zero, flat_length] at m2
  rw [Nat.sub_zero, List.nil_append, dpL_tree t ht] at m2
  refine ⟨h2, _, fun α ret => ?_, m2⟩
  rw [r5deep.f, r5deep.u16.f, r5deep.u1.f, e1, r5deep.u15.f, r5deep.u13.f, r5deep.u2.f, r5deep.u12.f, r5deep.u11.f]
  exact e2 α _
end
end Go.Ab.S3
