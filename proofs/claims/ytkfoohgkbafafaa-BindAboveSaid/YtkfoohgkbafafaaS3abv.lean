import Derived.Test.YtkfoohgkbafafaaS3nam2
namespace Go.Ab.S3
set_option linter.unusedVariables false
set_option linter.unusedSimpArgs false
/-! ### who stands above whom -/
def ancs : Tr → Nat → Anc → List Anc
  | .leaf _ _ _, _, A => [A]
  | .un k s p a, base, A => ancs a base ((base + a.size, (Tr.un k s p a).node base) :: A) ++ [A]
  | .bin k s p a b, base, A => ancs a base ((base + a.size + b.size, (Tr.bin k s p a b).node base) :: A) ++ (ancs b (base + a.size) ((base + a.size + b.size, (Tr.bin k s p a b).node base) :: A) ++ [A])
def firsts : Tr → Nat → List Nat
  | .leaf _ _ _, base => [base]
  | .un _ _ _ a, base => firsts a base ++ [base]
  | .bin _ _ _ a b, base => firsts a base ++ (firsts b (base + a.size) ++ [base])
theorem ancs_length : ∀ (t : Tr) (base : Nat) (A : Anc), (ancs t base A).length = t.size
  | .leaf _ _ _, _, _ => rfl
  | .un _ _ _ a, base, A => by simp [ancs, Tr.size, ancs_length a]
  | .bin _ _ _ a b, base, A => by simp [ancs, Tr.size, ancs_length a, ancs_length b]; omega
theorem firsts_length : ∀ (t : Tr) (base : Nat), (firsts t base).length = t.size
  | .leaf _ _ _, _ => rfl
  | .un _ _ _ a, base => by simp [firsts, Tr.size, firsts_length a]
  | .bin _ _ _ a b, base => by simp [firsts, Tr.size, firsts_length a, firsts_length b]; omega
/-- a list of three parts -/
theorem part3 {β : Type} {x y : List β} {z v : β} {n m i : Nat} (hx : x.length = n) (hy : y.length = m) (h : (x ++ (y ++ [z]))[i]? = some v) :
    (i < n ∧ x[i]? = some v) ∨ (n ≤ i ∧ i < n + m ∧ y[i - n]? = some v) ∨ (i = n + m ∧ v = z) := by
  by_cases h1 : i < n
  · left; rw [List.getElem?_append_left (by omega)] at h; exact ⟨h1, h⟩
  · rw [List.getElem?_append_right (by omega), hx] at h
    by_cases h2 : i - n < m
    · right; left; rw [List.getElem?_append_left (by omega)] at h; exact ⟨by omega, by omega, h⟩
    · right; right
      rw [List.getElem?_append_right (by omega), hy] at h
      have := get_lt h
      simp only [List.length_cons, List.length_nil] at this
      have e : i - n - m = 0 := by omega
      rw [e] at h
      simp only [List.getElem?_cons_zero, Option.some.injEq] at h
      exact ⟨by omega, h.symm⟩
theorem part2 {β : Type} {x : List β} {z v : β} {n i : Nat} (hx : x.length = n) (h : (x ++ [z])[i]? = some v) : (i < n ∧ x[i]? = some v) ∨ (i = n ∧ v = z) := by
  by_cases h1 : i < n
  · left; rw [List.getElem?_append_left (by omega)] at h; exact ⟨h1, h⟩
  · right
    rw [List.getElem?_append_right (by omega), hx] at h
    have := get_lt h
    simp only [List.length_cons, List.length_nil] at this
    have e : i - n = 0 := by omega
    rw [e] at h
    simp only [List.getElem?_cons_zero, Option.some.injEq] at h
    exact ⟨by omega, h.symm⟩
theorem app3a {β : Type} {x y : List β} {z v : β} {i : Nat} (h : x[i]? = some v) : (x ++ (y ++ [z]))[i]? = some v := by rw [List.getElem?_append_left (get_lt h)]; exact h
theorem app3b {β : Type} {x y : List β} {z v : β} {n i : Nat} (hx : x.length = n) (h : y[i]? = some v) : (x ++ (y ++ [z]))[n + i]? = some v := by
  rw [List.getElem?_append_right (by omega), hx, show n + i - n = i by omega, List.getElem?_append_left (get_lt h)]; exact h
theorem app3c {β : Type} {x y : List β} {z : β} {n m : Nat} (hx : x.length = n) (hy : y.length = m) : (x ++ (y ++ [z]))[n + m]? = some z := by
  rw [List.getElem?_append_right (by omega), hx, List.getElem?_append_right (by omega), hy, show n + m - n - m = 0 by omega]; rfl
theorem app2a {β : Type} {x : List β} {z v : β} {i : Nat} (h : x[i]? = some v) : (x ++ [z])[i]? = some v := by rw [List.getElem?_append_left (get_lt h)]; exact h
theorem app2b {β : Type} {x : List β} {z : β} {n : Nat} (hx : x.length = n) : (x ++ [z])[n]? = some z := by
  rw [List.getElem?_append_right (by omega), hx, Nat.sub_self]; rfl
/-- who binds is found among those above -/
theorem toA_ancs : ∀ (t : Tr) (base : Nat) (A : Anc) (i : Nat) (n : Nd) (B : Anc), (t.flat base)[i]? = some n → n.kind = 4 → t.ok = true → (ancs t base A)[i]? = some B → (toA t base A)[i]? = some (toLeaf n.kind n.name B)
  | .leaf k s p, base, A, i, n, B, hi, hk, ht, hB => by
    have h1 := get_lt hi
    rw [flat_length] at h1
    have : i = 0 := by simp only [Tr.size] at h1; omega
    subst this
    simp only [Tr.flat, ancs, List.getElem?_cons_zero, Option.some.injEq] at hi hB
    subst hi hB
    rfl
  | .un k s p a, base, A, i, n, B, hi, hk, ht, hB => by
    simp only [Tr.ok, Bool.and_eq_true, decide_eq_true_eq] at ht
    simp only [Tr.flat, ancs, toA] at hi hB ⊢
    rcases part2 (flat_length a base) hi with ⟨h1, h2⟩ | ⟨h1, h2⟩
    · rw [List.getElem?_append_left (by rw [ancs_length]; exact h1)] at hB
      exact app2a (toA_ancs a base _ i n B h2 hk ht.2 hB)
    · subst h2
      have : k = 4 := hk
      subst this
      exact absurd ht.1.1 (by decide)
  | .bin k s p a b, base, A, i, n, B, hi, hk, ht, hB => by
    simp only [Tr.ok, Bool.and_eq_true, decide_eq_true_eq] at ht
    simp only [Tr.flat, ancs, toA] at hi hB ⊢
    rcases part3 (flat_length a base) (flat_length b _) hi with ⟨h1, h2⟩ | ⟨h0, h1, h2⟩ | ⟨h1, h2⟩
    · rw [List.getElem?_append_left (by rw [ancs_length]; exact h1)] at hB
      exact app3a (toA_ancs a base _ i n B h2 hk ht.1.2 hB)
    · rw [List.getElem?_append_right (by rw [ancs_length]; exact h0), ancs_length, List.getElem?_append_left (by rw [ancs_length]; omega)] at hB
      have := app3b (z := (-1 : Int)) (toA_length a base ((base + a.size + b.size, (Tr.bin k s p a b).node base) :: A)) (toA_ancs b (base + a.size) _ (i - a.size) n B h2 hk ht.2 hB)
      rwa [show a.size + (i - a.size) = i by omega] at this
    · subst h2
      have : k = 4 := hk
      subst this
      exact absurd ht.1.1.1 (by decide)
/-- those above are above -/
theorem ancs_down : ∀ (t : Tr) (base : Nat) (A : Anc) (i : Nat) (B : Anc) (q : Nat × Nd), (ancs t base A)[i]? = some B → q ∈ B → q ∈ A ∨ ∃ m v, q.1 = base + m ∧ i < m ∧ (t.flat base)[m]? = some q.2 ∧ (firsts t base)[m]? = some v ∧ v ≤ base + i
  | .leaf k s p, base, A, i, B, q, hB, hq => by
    have h1 := get_lt hB
    have : i = 0 := by simp only [ancs, List.length_cons, List.length_nil] at h1; omega
    subst this
    simp only [ancs, List.getElem?_cons_zero, Option.some.injEq] at hB
    subst hB
    exact .inl hq
  | .un k s p a, base, A, i, B, q, hB, hq => by
    simp only [Tr.flat, ancs, firsts] at hB ⊢
    rcases part2 (ancs_length a base _) hB with ⟨h1, h2⟩ | ⟨h1, h2⟩
    · rcases ancs_down a base _ i B q h2 hq with h | ⟨m, v, e1, e2, e3, e4, e5⟩
      · rcases List.mem_cons.1 h with rfl | h
        · exact .inr ⟨a.size, base, rfl, h1, app2b (flat_length a base), app2b (firsts_length a base), by omega⟩
        · exact .inl h
      · exact .inr ⟨m, v, e1, e2, app2a e3, app2a e4, e5⟩
    · subst h2; exact .inl hq
  | .bin k s p a b, base, A, i, B, q, hB, hq => by
    simp only [Tr.flat, ancs, firsts] at hB ⊢
    rcases part3 (ancs_length a base _) (ancs_length b _ _) hB with ⟨h1, h2⟩ | ⟨h0, h1, h2⟩ | ⟨h1, h2⟩
    · rcases ancs_down a base _ i B q h2 hq with h | ⟨m, v, e1, e2, e3, e4, e5⟩
      · rcases List.mem_cons.1 h with rfl | h
        · exact .inr ⟨a.size + b.size, base, by simp only; omega, by omega, app3c (flat_length a base) (flat_length b _), app3c (firsts_length a base) (firsts_length b _), by omega⟩
        · exact .inl h
      · exact .inr ⟨m, v, e1, e2, app3a e3, app3a e4, e5⟩
    · rcases ancs_down b (base + a.size) _ (i - a.size) B q h2 hq with h | ⟨m, v, e1, e2, e3, e4, e5⟩
      · rcases List.mem_cons.1 h with rfl | h
        · exact .inr ⟨a.size + b.size, base, by simp only; omega, by omega, app3c (flat_length a base) (flat_length b _), app3c (firsts_length a base) (firsts_length b _), by omega⟩
        · exact .inl h
      · exact .inr ⟨a.size + m, v, by omega, by omega, app3b (flat_length a base) e3, app3b (firsts_length a base) e4, by omega⟩
    · subst h2; exact .inl hq
theorem firsts_ge : ∀ (t : Tr) (base : Nat) (m v : Nat), (firsts t base)[m]? = some v → base ≤ v ∧ v ≤ base + m
  | .leaf k s p, base, m, v, h => by
    have h1 := get_lt h
    have : m = 0 := by simp only [firsts, List.length_cons, List.length_nil] at h1; omega
    subst this
    simp only [firsts, List.getElem?_cons_zero, Option.some.injEq] at h
    subst h
    omega
  | .un k s p a, base, m, v, h => by
    simp only [firsts] at h
    rcases part2 (firsts_length a base) h with ⟨h1, h2⟩ | ⟨h1, rfl⟩
    · exact firsts_ge a base m v h2
    · omega
  | .bin k s p a b, base, m, v, h => by
    simp only [firsts] at h
    rcases part3 (firsts_length a base) (firsts_length b _) h with ⟨h1, h2⟩ | ⟨h0, h1, h2⟩ | ⟨h1, rfl⟩
    · exact firsts_ge a base m v h2
    · have := firsts_ge b (base + a.size) _ v h2; omega
    · omega
theorem ancs_up : ∀ (t : Tr) (base : Nat) (A : Anc) (i : Nat) (B : Anc), (ancs t base A)[i]? = some B → (∀ q ∈ A, q ∈ B) ∧ ∀ (m v : Nat) (n : Nd), i < m → (t.flat base)[m]? = some n → (firsts t base)[m]? = some v → v ≤ base + i → (base + m, n) ∈ B
  | .leaf k s p, base, A, i, B, hB => by
    have h1 := get_lt hB
    have : i = 0 := by simp only [ancs, List.length_cons, List.length_nil] at h1; omega
    subst this
    simp only [ancs, List.getElem?_cons_zero, Option.some.injEq] at hB
    subst hB
    refine ⟨fun q hq => hq, fun m v n hm hn _ _ => ?_⟩
    have := get_lt hn
    simp only [Tr.flat, List.length_cons, List.length_nil] at this
    omega
  | .un k s p a, base, A, i, B, hB => by
    simp only [Tr.flat, ancs, firsts] at hB ⊢
    rcases part2 (ancs_length a base _) hB with ⟨h1, h2⟩ | ⟨h1, h2⟩
    · obtain ⟨u1, u2⟩ := ancs_up a base _ i B h2
      refine ⟨fun q hq => u1 q (List.mem_cons_of_mem _ hq), fun m v n hm hn hv hle => ?_⟩
      rcases part2 (flat_length a base) hn with ⟨g1, g2⟩ | ⟨rfl, rfl⟩
      · rw [List.getElem?_append_left (by rw [firsts_length]; exact g1)] at hv
        exact u2 m v n hm g2 hv hle
      · exact u1 _ List.mem_cons_self
    · subst h2
      refine ⟨fun q hq => hq, fun m v n hm hn _ _ => ?_⟩
      have := get_lt hn
      simp only [List.length_append, flat_length, List.length_cons, List.length_nil] at this
      omega
  | .bin k s p a b, base, A, i, B, hB => by
    simp only [Tr.flat, ancs, firsts] at hB ⊢
    rcases part3 (ancs_length a base _) (ancs_length b _ _) hB with ⟨h1, h2⟩ | ⟨h0, h1, h2⟩ | ⟨h1, h2⟩
    · obtain ⟨u1, u2⟩ := ancs_up a base _ i B h2
      refine ⟨fun q hq => u1 q (List.mem_cons_of_mem _ hq), fun m v n hm hn hv hle => ?_⟩
      rcases part3 (flat_length a base) (flat_length b _) hn with ⟨g1, g2⟩ | ⟨g0, g1, g2⟩ | ⟨rfl, rfl⟩
      · rw [List.getElem?_append_left (by rw [firsts_length]; exact g1)] at hv
        exact u2 m v n hm g2 hv hle
      · rw [List.getElem?_append_right (by rw [firsts_length]; exact g0), firsts_length, List.getElem?_append_left (by rw [firsts_length]; omega)] at hv
        have := firsts_ge b _ _ _ hv
        omega
      · rw [← Nat.add_assoc]; exact u1 _ List.mem_cons_self
    · obtain ⟨u1, u2⟩ := ancs_up b (base + a.size) _ (i - a.size) B h2
      refine ⟨fun q hq => u1 q (List.mem_cons_of_mem _ hq), fun m v n hm hn hv hle => ?_⟩
      rcases part3 (flat_length a base) (flat_length b _) hn with ⟨g1, g2⟩ | ⟨g0, g1, g2⟩ | ⟨rfl, rfl⟩
      · omega
      · rw [List.getElem?_append_right (by rw [firsts_length]; exact g0), firsts_length, List.getElem?_append_left (by rw [firsts_length]; omega)] at hv
        have := u2 (m - a.size) v n (by omega) g2 hv (by omega)
        rwa [show base + a.size + (m - a.size) = base + m by omega] at this
      · rw [← Nat.add_assoc]; exact u1 _ List.mem_cons_self
    · subst h2
      refine ⟨fun q hq => hq, fun m v n hm hn _ _ => ?_⟩
      have := get_lt hn
      simp only [List.length_append, flat_length, List.length_cons, List.length_nil] at this
      omega
/-- the innermost first -/
theorem ancs_sorted : ∀ (t : Tr) (base : Nat) (A : Anc) (i : Nat) (B : Anc), (ancs t base A)[i]? = some B → A.Pairwise (fun x y => x.1 < y.1) → (∀ q ∈ A, base + t.size ≤ q.1) → B.Pairwise (fun x y => x.1 < y.1)
  | .leaf k s p, base, A, i, B, hB, hp, _ => by
    have h1 := get_lt hB
    have : i = 0 := by simp only [ancs, List.length_cons, List.length_nil] at h1; omega
    subst this
    simp only [ancs, List.getElem?_cons_zero, Option.some.injEq] at hB
    subst hB
    exact hp
  | .un k s p a, base, A, i, B, hB, hp, hA => by
    simp only [ancs] at hB
    rcases part2 (ancs_length a base _) hB with ⟨h1, h2⟩ | ⟨h1, h2⟩
    · refine ancs_sorted a base _ i B h2 (List.pairwise_cons.2 ⟨fun q hq => ?_, hp⟩) (fun q hq => ?_)
      · have := hA q hq; simp only [Tr.size] at this ⊢; omega
      · rcases List.mem_cons.1 hq with rfl | hq
        · exact Nat.le_refl _
        · have := hA q hq; simp only [Tr.size] at this ⊢; omega
    · subst h2; exact hp
  | .bin k s p a b, base, A, i, B, hB, hp, hA => by
    simp only [ancs] at hB
    have hp' : ((base + a.size + b.size, (Tr.bin k s p a b).node base) :: A).Pairwise (fun x y => x.1 < y.1) := List.pairwise_cons.2 ⟨fun q hq => by have := hA q hq; simp only [Tr.size] at this ⊢; omega, hp⟩
    have hle : ∀ q ∈ (base + a.size + b.size, (Tr.bin k s p a b).node base) :: A, base + a.size + b.size ≤ q.1 := by
      intro q hq
      rcases List.mem_cons.1 hq with rfl | hq
      · exact Nat.le_refl _
      · have := hA q hq; simp only [Tr.size] at this ⊢; omega
    rcases part3 (ancs_length a base _) (ancs_length b _ _) hB with ⟨h1, h2⟩ | ⟨h0, h1, h2⟩ | ⟨h1, h2⟩
    · exact ancs_sorted a base _ i B h2 hp' (fun q hq => by have := hle q hq; omega)
    · exact ancs_sorted b (base + a.size) _ _ B h2 hp' (fun q hq => hle q hq)
    · subst h2; exact hp
/-- who is found first -/
theorem findS_first {s : List UInt8} : ∀ {B : Anc}, B.Pairwise (fun x y => x.1 < y.1) → match findS s B with
    | some (b, _) => (∃ n, (b, n) ∈ B ∧ fixK n.kind = true ∧ n.name = s) ∧ ∀ q ∈ B, fixK q.2.kind = true → q.2.name = s → b ≤ q.1
    | none => ∀ q ∈ B, fixK q.2.kind = true → q.2.name ≠ s
  | [], _ => fun q hq => by cases hq
  | (i, n) :: B, hp => by
    rw [List.pairwise_cons] at hp
    rw [findS]
    by_cases hc : fixK n.kind = true ∧ n.name = s
    · rw [if_pos hc]
      refine ⟨⟨n, List.mem_cons_self, hc⟩, fun q hq _ _ => ?_⟩
      rcases List.mem_cons.1 hq with rfl | hq
      · exact Nat.le_refl _
      · exact Nat.le_of_lt (hp.1 q hq)
    · rw [if_neg hc]
      have ih := findS_first (s := s) hp.2
      cases hf : findS s B with
      | none =>
        rw [hf] at ih
        intro q hq h1 h2
        rcases List.mem_cons.1 hq with rfl | hq
        · exact hc ⟨h1, h2⟩
        · exact ih q hq h1 h2
      | some z =>
        obtain ⟨b, m⟩ := z
        rw [hf] at ih
        obtain ⟨⟨n', e1, e2⟩, e3⟩ := ih
        refine ⟨⟨n', List.mem_cons_of_mem _ e1, e2⟩, fun q hq h1 h2 => ?_⟩
        rcases List.mem_cons.1 hq with rfl | hq
        · exact absurd ⟨h1, h2⟩ hc
        · exact e3 q hq h1 h2
theorem firsts_last : ∀ (t : Tr) (base : Nat), (firsts t base)[t.size - 1]? = some base
  | .leaf k s p, base => rfl
  | .un k s p a, base => by simp only [firsts, Tr.size, Nat.add_sub_cancel]; exact app2b (firsts_length a base)
  | .bin k s p a b, base => by simp only [firsts, Tr.size, Nat.add_sub_cancel]; exact app3c (firsts_length a base) (firsts_length b _)
/-- the way down to the first -/
theorem firsts_step : ∀ (t : Tr) (base : Nat) (m v : Nat) (n : Nd), t.ok = true → (t.flat base)[m]? = some n → (firsts t base)[m]? = some v → (arF n.kind = 0 ∧ v = base + m) ∨ (1 ≤ arF n.kind ∧ ∃ m', m' < m ∧ n.a = ((base + m' : Nat) : Int) ∧ (firsts t base)[m']? = some v)
  | .leaf k s p, base, m, v, n, ht, hn, hv => by
    have h1 := get_lt hn
    have : m = 0 := by simp only [Tr.flat, List.length_cons, List.length_nil] at h1; omega
    subst this
    simp only [Tr.ok, Bool.and_eq_true, decide_eq_true_eq] at ht
    simp only [Tr.flat, firsts, List.getElem?_cons_zero, Option.some.injEq] at hn hv
    subst hn hv
    exact .inl ⟨ht.1, rfl⟩
  | .un k s p a, base, m, v, n, ht, hn, hv => by
    simp only [Tr.ok, Bool.and_eq_true, decide_eq_true_eq] at ht
    simp only [Tr.flat, firsts] at hn hv ⊢
    have hl := firsts_last a base
    have hpos := a.pos
    rcases part2 (flat_length a base) hn with ⟨h1, h2⟩ | ⟨rfl, rfl⟩
    · rw [List.getElem?_append_left (by rw [firsts_length]; exact h1)] at hv
      rcases firsts_step a base m v n ht.2 h2 hv with h | ⟨e1, m', e2, e3, e4⟩
      · exact .inl h
      · exact .inr ⟨e1, m', e2, e3, app2a e4⟩
    · rw [app2b (firsts_length a base)] at hv
      cases hv
      exact .inr ⟨by show 1 ≤ arF k; omega, a.size - 1, by omega, by show ((base + a.size - 1 : Nat) : Int) = _; congr 1; omega, app2a hl⟩
  | .bin k s p a b, base, m, v, n, ht, hn, hv => by
    simp only [Tr.ok, Bool.and_eq_true, decide_eq_true_eq] at ht
    simp only [Tr.flat, firsts] at hn hv ⊢
    have hl := firsts_last a base
    have hpos := a.pos
    rcases part3 (flat_length a base) (flat_length b _) hn with ⟨h1, h2⟩ | ⟨h0, h1, h2⟩ | ⟨rfl, rfl⟩
    · rw [List.getElem?_append_left (by rw [firsts_length]; exact h1)] at hv
      rcases firsts_step a base m v n ht.1.2 h2 hv with h | ⟨e1, m', e2, e3, e4⟩
      · exact .inl h
      · exact .inr ⟨e1, m', e2, e3, app3a e4⟩
    · rw [List.getElem?_append_right (by rw [firsts_length]; exact h0), firsts_length, List.getElem?_append_left (by rw [firsts_length]; omega)] at hv
      rcases firsts_step b (base + a.size) _ v n ht.2 h2 hv with h | ⟨e1, m', e2, e3, e4⟩
      · exact .inl ⟨h.1, by omega⟩
      · exact .inr ⟨e1, a.size + m', by omega, by rw [e3]; congr 1; omega, app3b (firsts_length a base) e4⟩
    · rw [app3c (firsts_length a base) (firsts_length b _)] at hv
      cases hv
      exact .inr ⟨by show 1 ≤ arF k; omega, a.size - 1, by omega, by show ((base + a.size - 1 : Nat) : Int) = _; congr 1; omega, app3a hl⟩
end Go.Ab.S3
