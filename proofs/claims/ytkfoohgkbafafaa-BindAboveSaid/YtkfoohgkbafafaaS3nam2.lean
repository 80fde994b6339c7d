import Derived.Test.YtkfoohgkbafafaaS3nam
namespace Go.Ab.S3
set_option linter.unusedVariables false
set_option linter.unusedSimpArgs false
/-- the same name, and all is told as before -/
theorem told_ren {w : Nat} {t : Tr} (hn : ∀ n ∈ t.flat 0, n.name ≠ new0) (hw : ∀ n, (t.flat 0)[w]? = some n → n.kind ≠ 4) :
    (renT w t 0 []).flat 0 = renL w (t.flat 0) (toA t 0 []) 0 ∧ toA (renT w t 0 []) 0 [] = toA t 0 [] ∧ oddA (renT w t 0 []) 0 [] = oddA t 0 [] := by
  have := ren_told w t 0 [] hn (fun q hq => by cases hq) List.nodup_nil (fun q hq => by cases hq) (fun i n hi he => hw n (by rw [Nat.zero_add] at he; rw [← he]; exact hi))
  exact ⟨renT_flat w t 0 [], this⟩
theorem renT_dep (w : Nat) : ∀ (t : Tr) (base : Nat) (A : Anc), depT (renT w t base A) = depT t ∧ depA (renT w t base A) = depA t
  | .leaf _ _ _, _, _ => ⟨rfl, rfl⟩
  | .un k s p a, base, A => by
    have ih := renT_dep w a base ((base + a.size, (Tr.un k s p a).node base) :: A)
    simp only [renT, depT, depA, ih.1, ih.2, and_self]
  | .bin k s p a b, base, A => by
    have iha := renT_dep w a base ((base + a.size + b.size, (Tr.bin k s p a b).node base) :: A)
    have ihb := renT_dep w b (base + a.size) ((base + a.size + b.size, (Tr.bin k s p a b).node base) :: A)
    simp only [renT, depT, depA, iha.1, iha.2, ihb.1, ihb.2, and_self]
theorem renT_depI (w : Nat) (t : Tr) : depI (renT w t 0 []) = depI t := by unfold depI; rw [(renT_dep w t 0 []).2]
/-- the names that are fixpoints' stay names -/
theorem named_new {k : Int} (h : k = 4 ∨ fixK k = true) : namedF k new0 = true := by
  rcases h with rfl | h
  · decide
  · unfold fixK at h
    rw [Bool.or_eq_true] at h
    rcases h with h | h <;> (have := of_decide_eq_true h; subst this; decide)
theorem toLeaf_four {k : Int} {s : List UInt8} {A : Anc} {w : Nat} (h : toLeaf k s A = (w : Int)) : k = 4 := by
  unfold toLeaf at h
  by_cases hk : k = 4
  · exact hk
  · rw [if_neg hk] at h; omega
theorem renT_ok (w : Nat) : ∀ (t : Tr) (base : Nat) (A : Anc), (∀ i n, (t.flat base)[i]? = some n → base + i = w → fixK n.kind = true) → t.ok = true → (renT w t base A).ok = true
  | .leaf k s p, base, A, h5, ht => by
    simp only [Tr.ok, Bool.and_eq_true, decide_eq_true_eq, renT] at ht ⊢
    refine ⟨ht.1, ?_⟩
    by_cases hc : base = w ∨ toLeaf k s A = (w : Int)
    · rw [if_pos hc]
      rcases hc with hc | hc
      · exact named_new (.inr (h5 0 _ rfl hc))
      · exact named_new (.inl (toLeaf_four hc))
    · rw [if_neg hc]; exact ht.2
  | .un k s p a, base, A, h5, ht => by
    simp only [Tr.ok, Bool.and_eq_true, decide_eq_true_eq, renT] at ht ⊢
    refine ⟨⟨ht.1.1, ?_⟩, renT_ok w a base _ (fun i n hi he => h5 i n (by simp only [Tr.flat]; rw [List.getElem?_append_left (get_lt hi)]; exact hi) he) ht.2⟩
    by_cases hc : base + a.size = w
    · rw [if_pos hc]
      exact named_new (.inr (h5 a.size ((Tr.un k s p a).node base) (by simp only [Tr.flat]; rw [List.getElem?_append_right (by rw [flat_length]; omega), flat_length, Nat.sub_self]; rfl) hc))
    · rw [if_neg hc]; exact ht.1.2
  | .bin k s p a b, base, A, h5, ht => by
    simp only [Tr.ok, Bool.and_eq_true, decide_eq_true_eq, renT] at ht ⊢
    refine ⟨⟨⟨ht.1.1.1, ?_⟩, renT_ok w a base _ (fun i n hi he => h5 i n (by simp only [Tr.flat]; rw [List.getElem?_append_left (get_lt hi)]; exact hi) he) ht.1.2⟩, renT_ok w b (base + a.size) _ (fun i n hi he => h5 (a.size + i) n (by
      simp only [Tr.flat]
      rw [List.getElem?_append_right (by rw [flat_length]; omega), flat_length, show a.size + i - a.size = i by omega, List.getElem?_append_left (get_lt hi)]; exact hi) (by omega)) ht.2⟩
    by_cases hc : base + a.size + b.size = w
    · rw [if_pos hc]
      exact named_new (.inr (h5 (a.size + b.size) ((Tr.bin k s p a b).node base) (by
        simp only [Tr.flat]
        rw [List.getElem?_append_right (by rw [flat_length]; omega), flat_length, List.getElem?_append_right (by rw [flat_length]; omega), flat_length, show a.size + b.size - a.size - b.size = 0 by omega]; rfl) (by omega)))
    · rw [if_neg hc]; exact ht.1.1.2
theorem chk_ge : ∀ (l : List Nd) (T : List Int) (O : List Bool) (D : List Int) (i : Nat) (seen : List (List UInt8)), (chk l T O D i seen).2 ≠ 0 → (i : Int) ≤ (chk l T O D i seen).1
  | n :: l, t :: T, o :: O, d :: D, i, seen, h => by
    rw [chk] at h ⊢
    by_cases c1 : n.kind = 4 ∧ t < 0
    · rw [if_pos c1]; exact Int.le_refl _
    rw [if_neg c1] at h ⊢
    by_cases c2 : n.kind = 4 ∧ o = true
    · rw [if_pos c2]; exact Int.le_refl _
    rw [if_neg c2] at h ⊢
    by_cases c3 : fixK n.kind = true ∧ n.name ∈ seen
    · rw [if_pos c3]; exact Int.le_refl _
    rw [if_neg c3] at h ⊢
    by_cases c4 : fixK n.kind = true ∧ 4 < d
    · rw [if_pos c4]; exact Int.le_refl _
    rw [if_neg c4] at h ⊢
    have := chk_ge l T O D (i + 1) _ h
    omega
  | [], _, _, _, _, _, h => by exact absurd (by rw [chk]; all_goals intros; simp_all) h
  | _ :: _, [], _, _, _, _, h => by exact absurd (by rw [chk]; all_goals intros; simp_all) h
  | _ :: _, _ :: _, [], _, _, _, h => by exact absurd (by rw [chk]; all_goals intros; simp_all) h
  | _ :: _, _ :: _, _ :: _, [], _, _, h => by exact absurd (by rw [chk]; all_goals intros; simp_all) h
theorem chk_ren {w : Nat} : ∀ (l : List Nd) (T : List Int) (O : List Bool) (D : List Int) (i : Nat) (seen seen' : List (List UInt8)), T.length = l.length → (∀ n ∈ l, n.name ≠ new0) → (∀ s ∈ seen, s ≠ new0) → (∀ s ∈ seen', s ∈ seen ∨ s = new0 ∧ w < i) →
    (∀ (j : Nat) (n : Nd) (t : Int), l[j]? = some n → T[j]? = some t → fixK n.kind = true → t ≠ (w : Int)) →
    ((chk l T O D i seen).2 ≠ 9 → chk (renL w l T i) T O D i seen' = chk l T O D i seen) ∧ ((chk l T O D i seen).2 = 9 → (chk (renL w l T i) T O D i seen').2 = 9 → (chk l T O D i seen).1 ≤ (chk (renL w l T i) T O D i seen').1)
  | n :: l, t :: T, o :: O, d :: D, i, seen, seen', hl, hn, hs, hs', hT => by
    have hge := chk_ge (renL w (n :: l) (t :: T) i) (t :: T) (o :: O) (d :: D) i seen'
    rw [renL] at hge ⊢
    rw [chk] at hge ⊢
    rw [chk]
    have hkd : (renN w i t n).kind = n.kind := rfl
    rw [hkd] at hge ⊢
    by_cases c1 : n.kind = 4 ∧ t < 0
    · rw [if_pos c1, if_pos c1]; exact ⟨fun _ => rfl, fun h => by cases h⟩
    rw [if_neg c1] at hge ⊢
    rw [if_neg c1]
    by_cases c2 : n.kind = 4 ∧ o = true
    · rw [if_pos c2, if_pos c2]; exact ⟨fun _ => rfl, fun h => by cases h⟩
    rw [if_neg c2] at hge ⊢
    rw [if_neg c2]
    by_cases c3 : fixK n.kind = true ∧ n.name ∈ seen
    · rw [if_pos c3]
      exact ⟨fun h => absurd rfl h, fun _ h => hge (by rw [h]; decide)⟩
    rw [if_neg c3]
    have c3' : ¬ (fixK n.kind = true ∧ (renN w i t n).name ∈ seen') := by
      rintro ⟨h1, h2⟩
      have ht := hT 0 n t rfl rfl h1
      have hnm : (renN w i t n).name = if i = w then new0 else n.name := by unfold renN; simp [ht]
      rw [hnm] at h2
      by_cases hi : i = w
      · rw [if_pos hi] at h2
        rcases hs' _ h2 with h | ⟨_, h⟩
        · exact hs _ h rfl
        · omega
      · rw [if_neg hi] at h2
        rcases hs' _ h2 with h | ⟨h, _⟩
        · exact c3 ⟨h1, h⟩
        · exact hn n List.mem_cons_self h
    rw [if_neg c3'] at hge ⊢
    by_cases c4 : fixK n.kind = true ∧ 4 < d
    · rw [if_pos c4, if_pos c4]; exact ⟨fun _ => rfl, fun h => by cases h⟩
    rw [if_neg c4, if_neg c4]
    refine chk_ren l T O D (i + 1) _ _ (by simpa using hl) (fun m hm => hn m (List.mem_cons_of_mem _ hm)) ?_ ?_ (fun j m u h1 h2 => hT (j + 1) m u h1 h2)
    · intro s h
      by_cases hf : fixK n.kind = true
      · rw [if_pos hf] at h
        rcases List.mem_append.1 h with h | h
        · exact hs s h
        · simp only [List.mem_cons, List.not_mem_nil, or_false] at h
          subst h; exact hn n List.mem_cons_self
      · rw [if_neg hf] at h; exact hs s h
    · intro s h
      by_cases hf : fixK n.kind = true
      · rw [if_pos hf] at h ⊢
        rcases List.mem_append.1 h with h | h
        · rcases hs' s h with h | ⟨h, h'⟩
          · exact .inl (List.mem_append.2 (.inl h))
          · exact .inr ⟨h, by omega⟩
        · simp only [List.mem_cons, List.not_mem_nil, or_false] at h
          have ht := hT 0 n t rfl rfl hf
          have hnm : (renN w i t n).name = if i = w then new0 else n.name := by unfold renN; simp [ht]
          rw [hnm] at h
          by_cases hi : i = w
          · rw [if_pos hi] at h; exact .inr ⟨h, by omega⟩
          · rw [if_neg hi] at h; exact .inl (List.mem_append.2 (.inr (by rw [h]; simp)))
      · rw [if_neg hf] at h ⊢
        rcases hs' s h with h | ⟨h, h'⟩
        · exact .inl h
        · exact .inr ⟨h, by omega⟩
  | [], _ :: _, _, _, _, _, _, hl, _, _, _, _ => by simp at hl
  | [], [], O, D, i, seen, seen', _, _, _, _, _ => by
    have : ∀ s, chk [] [] O D i s = (0, 0) := fun s => by rw [chk]; all_goals intros; simp_all
    simp [renL, this]
  | _ :: _, [], _, _, _, _, _, hl, _, _, _, _ => by simp at hl
  | n :: l, t :: T, [], D, i, seen, seen', _, _, _, _, _ => by
    have : ∀ l' s, chk l' (t :: T) [] D i s = (0, 0) := fun l' s => by rw [chk]; all_goals intros; simp_all
    rw [this, this]; simp
  | n :: l, t :: T, o :: O, [], i, seen, seen', _, _, _, _, _ => by
    have : ∀ l' s, chk l' (t :: T) (o :: O) [] i s = (0, 0) := fun l' s => by rw [chk]; all_goals intros; simp_all
    rw [this, this]; simp
theorem toA_other : ∀ (t : Tr) (base : Nat) (A : Anc) (j : Nat) (n : Nd), (t.flat base)[j]? = some n → n.kind ≠ 4 → (toA t base A)[j]? = some (-1)
  | .leaf k s p, base, A, j, n, h, hk => by
    have h1 := get_lt h
    rw [flat_length] at h1
    have : j = 0 := by simp only [Tr.size] at h1; omega
    subst this
    simp only [Tr.flat, List.getElem?_cons_zero, Option.some.injEq] at h
    subst h
    have hk' : k ≠ 4 := hk
    simp [toA, toLeaf, hk']
  | .un k s p a, base, A, j, n, h, hk => by
    have h1 := get_lt h
    rw [flat_length] at h1
    simp only [Tr.size] at h1
    simp only [Tr.flat, toA] at h ⊢
    by_cases hj : j < a.size
    · rw [List.getElem?_append_left (by rw [flat_length]; exact hj)] at h
      rw [List.getElem?_append_left (by rw [toA_length]; exact hj)]
      exact toA_other a base _ j n h hk
    · rw [List.getElem?_append_right (by rw [toA_length]; omega), toA_length, show j - a.size = 0 by omega]; rfl
  | .bin k s p a b, base, A, j, n, h, hk => by
    have h1 := get_lt h
    rw [flat_length] at h1
    simp only [Tr.size] at h1
    simp only [Tr.flat, toA] at h ⊢
    by_cases hj : j < a.size
    · rw [List.getElem?_append_left (by rw [flat_length]; exact hj)] at h
      rw [List.getElem?_append_left (by rw [toA_length]; exact hj)]
      exact toA_other a base _ j n h hk
    · rw [List.getElem?_append_right (by rw [flat_length]; omega), flat_length] at h
      rw [List.getElem?_append_right (by rw [toA_length]; omega), toA_length]
      by_cases hj2 : j - a.size < b.size
      · rw [List.getElem?_append_left (by rw [flat_length]; exact hj2)] at h
        rw [List.getElem?_append_left (by rw [toA_length]; exact hj2)]
        exact toA_other b _ _ _ n h hk
      · rw [List.getElem?_append_right (by rw [toA_length]; omega), toA_length, show j - a.size - b.size = 0 by omega]; rfl
end Go.Ab.S3
