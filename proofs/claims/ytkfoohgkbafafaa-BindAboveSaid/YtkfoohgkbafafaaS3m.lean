import Derived.Test.YtkfoohgkbafafaaS3l
namespace Go.Ab.S3
set_option linter.unusedVariables false
set_option linter.unusedSimpArgs false
variable {α : Type} {h : H}
/-! ### the document's: from each node the way up -/
theorem rfix_run (k : Nat) (n : Nd) (ret : Bool → M α) : r5Fixpoint.f (k + 1) n.kind n.a n.b n.name n.pos ret h = ret (fixK n.kind) (h.push (ndC n)) := by
  rw [r5Fixpoint.f, r5Fixpoint.u1.f, new_run rfl, n5_0]
  unfold fixK
  by_cases h1 : n.kind = 10
  · rw [dT h1, cond_true]; rfl
  · rw [dF h1, cond_false, n5_0]; rfl
/-- what stands below stands ahead -/
def Below (l : List Nd) : Prop := ∀ i n, l[i]? = some n → (0 < arF n.kind → ∃ j : Nat, n.a = (j : Int) ∧ j < i) ∧ (1 < arF n.kind → ∃ j : Nat, n.b = (j : Int) ∧ j < i)
theorem flat_below : ∀ (t : Tr) (base : Nat), t.ok = true → ∀ i n, (t.flat base)[i]? = some n → (0 < arF n.kind → ∃ j : Nat, n.a = (j : Int) ∧ j < base + i) ∧ (1 < arF n.kind → ∃ j : Nat, n.b = (j : Int) ∧ j < base + i)
  | .leaf k s p, base, ht, i, n, h => by
    simp only [Tr.flat] at h
    have hi := get_lt h
    simp only [List.length_cons, List.length_nil] at hi
    have : i = 0 := by omega
    subst this
    simp only [List.getElem?_cons_zero, Option.some.injEq] at h
    subst h
    simp only [Tr.ok, Bool.and_eq_true, decide_eq_true_eq] at ht
    have : arF (Tr.node (.leaf k s p) base).kind = 0 := ht.1
    rw [this]
    exact ⟨fun h => by omega, fun h => by omega⟩
  | .un k s p a, base, ht, i, n, h => by
    simp only [Tr.ok, Bool.and_eq_true, decide_eq_true_eq] at ht
    simp only [Tr.flat] at h
    have hp := Tr.pos a
    by_cases hi : i < a.size
    · rw [List.getElem?_append_left (by rw [flat_length]; exact hi)] at h
      exact flat_below a base ht.2 i n h
    · have hl := get_lt h
      simp only [List.length_append, flat_length, List.length_cons, List.length_nil] at hl
      have : i = a.size := by omega
      subst this
      rw [List.getElem?_append_right (by rw [flat_length]; omega), flat_length, Nat.sub_self] at h
      simp only [List.getElem?_cons_zero, Option.some.injEq] at h
      subst h
      have : arF (Tr.node (.un k s p a) base).kind = 1 := ht.1.1
      rw [this]
      exact ⟨fun _ => ⟨base + a.size - 1, rfl, by omega⟩, fun h => by omega⟩
  | .bin k s p a b, base, ht, i, n, h => by
    simp only [Tr.ok, Bool.and_eq_true, decide_eq_true_eq] at ht
    simp only [Tr.flat] at h
    have hp := Tr.pos a
    have hp' := Tr.pos b
    by_cases hi : i < a.size
    · rw [List.getElem?_append_left (by rw [flat_length]; exact hi)] at h
      exact flat_below a base ht.1.2 i n h
    · rw [List.getElem?_append_right (by rw [flat_length]; omega), flat_length] at h
      by_cases hi2 : i - a.size < b.size
      · rw [List.getElem?_append_left (by rw [flat_length]; exact hi2)] at h
        have e0 : base + a.size + (i - a.size) = base + i := by omega
        have := flat_below b (base + a.size) ht.2 (i - a.size) n h
        rwa [e0] at this
      · have hl := get_lt h
        simp only [List.length_append, flat_length, List.length_cons, List.length_nil] at hl
        have : i = a.size + b.size := by omega
        subst this
        rw [List.getElem?_append_right (by rw [flat_length]; omega), flat_length, show a.size + b.size - a.size - b.size = 0 by omega] at h
        simp only [List.getElem?_cons_zero, Option.some.injEq] at h
        subst h
        have : arF (Tr.node (.bin k s p a b) base).kind = 2 := ht.1.1.1
        rw [this]
        exact ⟨fun _ => ⟨base + a.size - 1, rfl, by omega⟩, fun _ => ⟨base + a.size + b.size - 1, rfl, by omega⟩⟩
theorem tree_below {t : Tr} (ht : t.ok = true) : Below (t.flat 0) := fun i n h => by
  have := flat_below t 0 ht i n h
  rwa [Nat.zero_add] at this
/-! #### Up -/
def upS (out : List Int) (i : Nat) (n : Nd) : List Int :=
  let o := if 0 < arF n.kind then out.set n.a.toNat (i : Int) else out
  if 1 < arF n.kind then o.set n.b.toNat (i : Int) else o
def upL : List Nd → Nat → List Int → List Int
  | [], _, out => out
  | n :: l, i, out => upL l (i + 1) (upS out i n)
def upA : Tr → Nat → Int → List Int
  | .leaf _ _ _, _, p => [p]
  | .un _ _ _ a, base, p => upA a base ((base + a.size : Nat) : Int) ++ [p]
  | .bin _ _ _ a b, base, p => upA a base ((base + a.size + b.size : Nat) : Int) ++ (upA b (base + a.size) ((base + a.size + b.size : Nat) : Int) ++ [p])
theorem upA_length : ∀ (t : Tr) (base : Nat) (p : Int), (upA t base p).length = t.size
  | .leaf _ _ _, _, _ => rfl
  | .un _ _ _ a, base, p => by simp [upA, Tr.size, upA_length a]
  | .bin _ _ _ a b, base, p => by simp [upA, Tr.size, upA_length a, upA_length b]; omega
/-- the root's own: by its parent -/
theorem upA_set : ∀ (t : Tr) (base : Nat) (p q : Int), (upA t base p).set (t.size - 1) q = upA t base q
  | .leaf _ _ _, _, _, _ => rfl
  | .un _ _ _ a, base, p, q => by
    simp only [upA, Tr.size]
    rw [List.set_append_right _ _ (by rw [upA_length]; omega), upA_length, show a.size + 1 - 1 - a.size = 0 by omega]
    rfl
  | .bin _ _ _ a b, base, p, q => by
    simp only [upA, Tr.size]
    rw [List.set_append_right _ _ (by rw [upA_length]; omega), List.set_append_right _ _ (by rw [upA_length, upA_length]; omega), upA_length, upA_length, show a.size + b.size + 1 - 1 - a.size - b.size = 0 by omega]
    rfl
theorem set_part {β : Type} (P S Q : List β) (y : β) {n i : Nat} (hn : n = P.length + i) (hi : i < S.length) : (P ++ (S ++ Q)).set n y = P ++ (S.set i y ++ Q) := by
  subst hn
  rw [List.set_append_right _ _ (by omega), show P.length + i - P.length = i by omega, List.set_append_left _ _ hi]
theorem upL_flat : ∀ (t : Tr) (base : Nat) (rest : List Nd) (P Q : List Int), t.ok = true → P.length = base →
    upL (t.flat base ++ rest) base (P ++ (List.replicate t.size (-1) ++ Q)) = upL rest (base + t.size) (P ++ (upA t base (-1) ++ Q))
  | .leaf k s p, base, rest, P, Q, ht, hP => by
    simp only [Tr.ok, Bool.and_eq_true, decide_eq_true_eq] at ht
    simp only [Tr.flat, List.cons_append, List.nil_append, upL, upS]
    rw [if_neg (by show ¬ 1 < arF k; rw [ht.1]; omega), if_neg (by show ¬ 0 < arF k; rw [ht.1]; omega)]
    rfl
  | .un k s p a, base, rest, P, Q, ht, hP => by
    simp only [Tr.ok, Bool.and_eq_true, decide_eq_true_eq] at ht
    have hp := Tr.pos a
    simp only [Tr.flat, List.append_assoc, Tr.size]
    rw [rep_split, upL_flat a base _ P _ ht.2 hP]
    simp only [List.cons_append, List.nil_append, upL, upS]
    rw [if_neg (by show ¬ 1 < arF k; rw [ht.1.1]; omega), if_pos (by show 0 < arF k; rw [ht.1.1]; omega)]
    show upL rest (base + a.size + 1) ((P ++ (upA a base (-1) ++ ((-1) :: Q))).set ((base + a.size - 1 : Nat) : Int).toNat ((base + a.size : Nat) : Int)) = _
    rw [Int.toNat_natCast, set_part P (upA a base (-1)) _ _ (i := a.size - 1) (by omega) (by rw [upA_length]; omega), upA_set]
    simp only [upA, List.append_assoc, List.cons_append, List.nil_append]
    rfl
  | .bin k s p a b, base, rest, P, Q, ht, hP => by
    simp only [Tr.ok, Bool.and_eq_true, decide_eq_true_eq] at ht
    have hp := Tr.pos a
    have hp' := Tr.pos b
    simp only [Tr.flat, List.append_assoc, Tr.size]
    rw [rep_bin, upL_flat a base _ P _ ht.1.2 hP, ← List.append_assoc P, upL_flat b (base + a.size) _ (P ++ upA a base (-1)) _ ht.2 (by rw [List.length_append, upA_length, hP])]
    simp only [List.cons_append, List.nil_append, upL, upS]
    rw [if_pos (by show 1 < arF k; rw [ht.1.1.1]; omega), if_pos (by show 0 < arF k; rw [ht.1.1.1]; omega)]
    show upL rest (base + a.size + b.size + 1) (((P ++ upA a base (-1) ++ (upA b (base + a.size) (-1) ++ ((-1) :: Q))).set ((base + a.size - 1 : Nat) : Int).toNat ((base + a.size + b.size : Nat) : Int)).set ((base + a.size + b.size - 1 : Nat) : Int).toNat ((base + a.size + b.size : Nat) : Int)) = _
    rw [Int.toNat_natCast, Int.toNat_natCast, List.append_assoc, set_part P (upA a base (-1)) _ _ (i := a.size - 1) (by omega) (by rw [upA_length]; omega), upA_set, ← List.append_assoc,
      set_part (P ++ upA a base _) (upA b (base + a.size) (-1)) _ _ (i := b.size - 1) (by rw [List.length_append, upA_length]; omega) (by rw [upA_length]; omega), upA_set]
    simp only [upA, List.append_assoc, List.cons_append, List.nil_append]
    rw [show base + a.size + b.size + 1 = base + (a.size + b.size + 1) by omega]
theorem upL_tree (t : Tr) (ht : t.ok = true) : upL (t.flat 0) 0 (List.replicate t.size (-1)) = upA t 0 (-1) := by
  have := upL_flat t 0 [] [] [] ht rfl
  simpa [upL] using this
theorem upS_length (out : List Int) (i : Nat) (n : Nd) : (upS out i n).length = out.length := by
  unfold upS
  simp only
  split <;> split <;> simp
section
variable {h₀ : H} {f out : Sl} {l : List Nd}
/-- a list of one's own, of memory behind a heap -/
structure Mine (h₀ h : H) (s : Sl) (cs : List V) : Prop where
  ext : Ext h₀ h
  own : Own h s 1 cs
  low : h₀.next ≤ s.id
theorem Mine.push {cs : List V} (m : Mine h₀ h out cs) {h' : H} (x : Ext h h') : Mine h₀ h' out cs := ⟨m.ext.trans x, m.own.ext x, m.low⟩
theorem Mine.st {T : List Int} (m : Mine h₀ h out (cIs T)) {x : Int} {i : Nat} (v : Int) (hx : x = (i : Int)) (hi : i < T.length) :
    ∃ h', (∀ (α : Type) (K : M α), idxSl out x 1 (fun a => st1 (a.add 0) (.int .i64 v) K) h = K h') ∧ Mine h₀ h' out (cIs (T.set i v)) ∧ h'.next = h.next := by
  obtain ⟨h', e, o, n, g⟩ := int_st m.own v hx hi
  exact ⟨h', e, ⟨⟨by rw [n]; exact m.ext.1, fun i hi => by rw [g i (by have := m.low; omega)]; exact m.ext.2 i hi⟩, o, m.low⟩, n⟩
theorem up1_loop (r : NdR h₀ f l) (hl : l.length ≤ 1000) (k : Nat) : ∀ (j i : Nat) (h : H), i ≤ l.length → l.length - i < j → Mine h₀ h out (cIs (List.replicate i (-1) ++ List.replicate (l.length - i) 0)) →
    ∃ h', (∀ (α : Type) (kx : Sl → Sl → M α), r5Up.u4.l k kx j f out (i : Int) h = kx f out h') ∧ Mine h₀ h' out (cIs (List.replicate l.length (-1))) := by
  intro j
  induction j with
  | zero => intro i h hi hj; omega
  | succ j ih =>
    intro i h hi hj m
    have hfl := nd_slen r
    by_cases hlt : i < l.length
    · obtain ⟨h1, e1, m1, n1⟩ := m.st (x := (i : Int)) (i := i) (-1) rfl (by simp; omega)
      have es : (List.replicate i (-1) ++ List.replicate (l.length - i) 0).set i (-1) = List.replicate (i + 1) (-1) ++ List.replicate (l.length - (i + 1)) (0 : Int) := by
        rw [List.set_append_right _ _ (by simp), List.length_replicate, Nat.sub_self, show l.length - i = (l.length - (i + 1)) + 1 by omega, List.replicate_succ, List.set_cons_zero, List.replicate_succ', List.append_assoc]
        rfl
      rw [es] at m1
      obtain ⟨h2, e2, m2⟩ := ih (i + 1) h1 (by omega) (by omega) m1
      refine ⟨h2, fun α kx => ?_, m2⟩
      rw [r5Up.u4.l, r5Up.u3.f, hfl, dT (by omega : (i : Int) < (l.length : Int)), cond_true, e1, w64_eq (by omega) (by omega)]
      exact e2 α kx
    · have : i = l.length := by omega
      subst this
      refine ⟨h, fun α kx => ?_, by simpa using m⟩
      rw [r5Up.u4.l, r5Up.u3.f, hfl, dF (by omega : ¬ (l.length : Int) < (l.length : Int)), cond_false]
theorem up2_loop (r : NdR h₀ f l) (hb : Below l) (hl : l.length ≤ 1000) (k : Nat) : ∀ (j i : Nat) (h : H) (T : List Int), i ≤ l.length → l.length - i < j → T.length = l.length → Mine h₀ h out (cIs T) →
    ∃ h', (∀ (α : Type) (kx : Sl → M α), r5Up.u9.l (k + 1) kx j f out (i : Int) h = kx out h') ∧ Mine h₀ h' out (cIs (upL (l.drop i) i T)) := by
  intro j
  induction j with
  | zero => intro i h T hi hj; omega
  | succ j ih =>
    intro i h T hi hj hT m
    have hfl := nd_slen r
    by_cases hlt : i < l.length
    rotate_left
    · refine ⟨h, fun α kx => ?_, by rw [List.drop_of_length_le (by omega)]; exact m⟩
      rw [r5Up.u9.l, r5Up.u8.f, hfl, dF (by omega : ¬ (i : Int) < (l.length : Int)), cond_false]
    have hn : l[i]? = some l[i] := List.getElem?_eq_getElem hlt
    rw [List.drop_eq_getElem_cons hlt, upL]
    generalize l[i] = n at hn ⊢
    have rr := fun (h : H) (x : Ext h₀ h) => r.ext x
    obtain ⟨b1, b2⟩ := hb i n hn
    have key : ∃ h1, (∀ (α : Type) (kx : Sl → M α), r5Up.u9.l (k + 1) kx (j + 1) f out (i : Int) h = r5Up.u9.l (k + 1) kx j f out (w64 ((i : Int) + 1)) h1) ∧ Mine h₀ h1 out (cIs (upS T i n)) := by
      rcases ar_cases n.kind with e | e | e | e
      · refine ⟨h, fun α kx => ?_, ?_⟩
        · rw [r5Up.u9.l, r5Up.u8.f, hfl, dT (by omega : (i : Int) < (l.length : Int)), cond_true, nd_kind (rr h m.ext) rfl hn, rbelow_run, e]
          rfl
        · unfold upS; rw [e]; exact m
      · refine ⟨h, fun α kx => ?_, ?_⟩
        · rw [r5Up.u9.l, r5Up.u8.f, hfl, dT (by omega : (i : Int) < (l.length : Int)), cond_true, nd_kind (rr h m.ext) rfl hn, rbelow_run, e]
          rfl
        · unfold upS; rw [e]; exact m
      · obtain ⟨a, ha, hai⟩ := b1 (by omega)
        obtain ⟨h1, e1, m1, _⟩ := m.st (x := n.a) (i := a) (i : Int) ha (by omega)
        refine ⟨h1, fun α kx => ?_, ?_⟩
        · rw [r5Up.u9.l, r5Up.u8.f, hfl, dT (by omega : (i : Int) < (l.length : Int)), cond_true, nd_kind (rr h m.ext) rfl hn, rbelow_run, e, dT (by omega : (0 : Int) < 1), cond_true, nd_a (rr h m.ext) rfl hn, e1]
          rfl
        · unfold upS; rw [e, ha]; exact m1
      · obtain ⟨a, ha, hai⟩ := b1 (by omega)
        obtain ⟨b, hb, hbi⟩ := b2 (by omega)
        obtain ⟨h1, e1, m1, _⟩ := m.st (x := n.a) (i := a) (i : Int) ha (by omega)
        obtain ⟨h2, e2, m2, _⟩ := m1.st (x := n.b) (i := b) (i : Int) hb (by rw [List.length_set]; omega)
        refine ⟨h2, fun α kx => ?_, ?_⟩
        · rw [r5Up.u9.l, r5Up.u8.f, hfl, dT (by omega : (i : Int) < (l.length : Int)), cond_true, nd_kind (rr h m.ext) rfl hn, rbelow_run, e, dT (by omega : (0 : Int) < 2), cond_true, nd_a (rr h m.ext) rfl hn, e1, dT (by omega : (1 : Int) < 2), cond_true, nd_b (rr h1 m1.ext) rfl hn, e2]
        · unfold upS; rw [e, ha, hb]; exact m2
    obtain ⟨h1, e1, m1⟩ := key
    clear b1 b2
    obtain ⟨h2, e2, m2⟩ := ih (i + 1) h1 _ (by omega) (by omega) (by rw [upS_length]; exact hT) m1
    refine ⟨h2, fun α kx => ?_, m2⟩
    rw [e1, w64_eq (by omega) (by omega)]
    exact e2 α kx
theorem up_run (k : Nat) (hk : 200 ≤ k) {t : Tr} (ht : t.ok = true) (hs : t.size ≤ 60) (h : H) (r : NdR h f (t.flat 0)) :
    ∃ h' s, (∀ (α : Type) (ret : Sl → M α), r5Up.f (k + 1) f ret h = ret s h') ∧ Mine h h' s (cIs (upA t 0 (-1))) := by
  obtain ⟨k, rfl⟩ : ∃ q, k = q + 1 := ⟨k - 1, by omega⟩
  have hfl : f.len = t.size := by rw [nd_slen r, flat_length]
  obtain ⟨h1, e1, o1, n1, x1⟩ := mkI_run (h := h) (n := t.size) (x := (f.len : Int)) (y := (f.len : Int)) (by rw [hfl]) (by rw [hfl]) (by omega)
  have m1 : Mine h h1 ⟨some ⟨h.next, 0⟩, t.size, t.size, none⟩ (cIs (List.replicate 0 (-1) ++ List.replicate ((t.flat 0).length - 0) 0)) := ⟨x1, by rw [flat_length]; exact o1, Nat.le_refl _⟩
  obtain ⟨h2, e2, m2⟩ := up1_loop r (by rw [flat_length]; omega) (k + 1) (k + 1) 0 h1 (Nat.zero_le _) (by rw [flat_length]; omega) m1
  obtain ⟨h3, e3, m3⟩ := up2_loop r (tree_below ht) (by rw [flat_length]; omega) k (k + 1) 0 h2 _ (Nat.zero_le _) (by rw [flat_length]; omega) (by simp) m2
  rw [List.drop_zero, flat_length, upL_tree t ht] at m3
  refine ⟨h3, _, fun α ret => ?_, m3⟩
  rw [r5Up.f, r5Up.u15.f, r5Up.u1.f, e1, r5Up.u14.f, r5Up.u6.f, r5Up.u2.f, r5Up.u5.f, r5Up.u4.f]
  refine (e2 α _).trans ?_
  rw [r5Up.u13.f, r5Up.u11.f, r5Up.u7.f, r5Up.u10.f, r5Up.u9.f]
  exact e3 α _
end
end Go.Ab.S3
