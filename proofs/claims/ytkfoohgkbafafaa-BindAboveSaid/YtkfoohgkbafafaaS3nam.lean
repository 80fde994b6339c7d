import Derived.Test.YtkfoohgkbafafaaS3dbl
namespace Go.Ab.S3
set_option linter.unusedVariables false
set_option linter.unusedSimpArgs false
/-! ### a fixpoint, and what it binds, named anew -/
def renN (w : Nat) (i : Nat) (t : Int) (n : Nd) : Nd := { n with name := if i = w ∨ t = (w : Int) then new0 else n.name }
def renL (w : Nat) : List Nd → List Int → Nat → List Nd
  | n :: l, t :: T, i => renN w i t n :: renL w l T (i + 1)
  | l, _, _ => l
theorem renL_app (w : Nat) {l2 : List Nd} {T2 : List Int} : ∀ (l : List Nd) (T : List Int) (i : Nat), T.length = l.length → renL w (l ++ l2) (T ++ T2) i = renL w l T i ++ renL w l2 T2 (i + l.length)
  | [], [], i, _ => by simp [renL]
  | n :: l, t :: T, i, h => by
    simp only [List.cons_append, renL]
    rw [renL_app w l T (i + 1) (by simpa using h), List.length_cons, show i + 1 + l.length = i + (l.length + 1) by omega]
theorem renL_len (w : Nat) : ∀ (l : List Nd) (T : List Int) (i : Nat), (renL w l T i).length = l.length
  | n :: l, t :: T, i => by simp [renL, renL_len w l T (i + 1)]
  | [], _, _ => by simp [renL]
  | n :: l, [], _ => by simp [renL]
theorem renL_get (w : Nat) : ∀ (l : List Nd) (T : List Int) (i j : Nat) (n : Nd) (t : Int), l[j]? = some n → T[j]? = some t → (renL w l T i)[j]? = some (renN w (i + j) t n)
  | n :: l, t :: T, i, 0, _, _, h1, h2 => by
    simp only [List.getElem?_cons_zero, Option.some.injEq] at h1 h2
    subst h1 h2
    rfl
  | n :: l, t :: T, i, j + 1, m, u, h1, h2 => by
    simp only [List.getElem?_cons_succ] at h1 h2
    simp only [renL, List.getElem?_cons_succ]
    rw [renL_get w l T (i + 1) j m u h1 h2, show i + 1 + j = i + (j + 1) by omega]
  | [], _, _, _, _, _, h1, _ => by simp at h1
  | _ :: _, [], _, _, _, _, _, h2 => by simp at h2
def renA (w : Nat) (A : Anc) : Anc := A.map fun q => (q.1, renN w q.1 (-1) q.2)
def renT (w : Nat) : Tr → Nat → Anc → Tr
  | .leaf k s p, base, A => .leaf k (if base = w ∨ toLeaf k s A = (w : Int) then new0 else s) p
  | .un k s p a, base, A => .un k (if base + a.size = w then new0 else s) p (renT w a base ((base + a.size, (Tr.un k s p a).node base) :: A))
  | .bin k s p a b, base, A => .bin k (if base + a.size + b.size = w then new0 else s) p (renT w a base ((base + a.size + b.size, (Tr.bin k s p a b).node base) :: A)) (renT w b (base + a.size) ((base + a.size + b.size, (Tr.bin k s p a b).node base) :: A))
theorem renT_size (w : Nat) : ∀ (t : Tr) (base : Nat) (A : Anc), (renT w t base A).size = t.size
  | .leaf _ _ _, _, _ => rfl
  | .un _ _ _ a, base, A => by simp [renT, Tr.size, renT_size w a]
  | .bin _ _ _ a b, base, A => by simp [renT, Tr.size, renT_size w a, renT_size w b]
theorem renN_neg {w i : Nat} {n : Nd} : renN w i (-1) n = { n with name := if i = w then new0 else n.name } := by
  unfold renN
  have : ¬ ((-1 : Int) = (w : Int)) := by omega
  simp [this]
theorem renT_flat (w : Nat) : ∀ (t : Tr) (base : Nat) (A : Anc), (renT w t base A).flat base = renL w (t.flat base) (toA t base A) base
  | .leaf k s p, base, A => by simp [renT, Tr.flat, Tr.node, toA, renL, renN]
  | .un k s p a, base, A => by
    simp only [renT, Tr.flat, toA]
    rw [renL_app w _ _ _ (by rw [toA_length, flat_length]), flat_length, renT_flat w a]
    simp only [renL, Tr.node, renT_size, renN_neg]
  | .bin k s p a b, base, A => by
    simp only [renT, Tr.flat, toA]
    rw [renL_app w _ _ _ (by rw [toA_length, flat_length]), flat_length, renL_app w _ _ _ (by rw [toA_length, flat_length]), flat_length, renT_size, renT_flat w a, renT_flat w b]
    simp only [renL, Tr.node, renT_size, renN_neg]
theorem cntN_ren (w : Nat) : ∀ A : Anc, cntN (renA w A) = cntN A
  | [] => rfl
  | (i, n) :: A => by simp only [renA, List.map_cons, cntN]; have := cntN_ren w A; unfold renA at this; rw [this]; rfl
theorem findS_mem {s : List UInt8} : ∀ {A : Anc} {i m : Nat}, findS s A = some (i, m) → ∃ q ∈ A, q.1 = i
  | [], i, m, h => by cases h
  | (j, n) :: A, i, m, h => by
    rw [findS] at h
    by_cases hc : fixK n.kind = true ∧ n.name = s
    · rw [if_pos hc] at h; cases h; exact ⟨_, List.mem_cons_self, rfl⟩
    · rw [if_neg hc] at h
      obtain ⟨q, h1, h2⟩ := findS_mem h
      exact ⟨q, List.mem_cons_of_mem _ h1, h2⟩
/-- nobody else is bound anew -/
theorem findS_ren1 {w : Nat} {s : List UInt8} (hs : s ≠ new0) : ∀ {A : Anc}, (∀ m, findS s A ≠ some (w, m)) → findS s (renA w A) = findS s A
  | [], _ => rfl
  | (i, n) :: A, h => by
    have e : renA w ((i, n) :: A) = (i, renN w i (-1) n) :: renA w A := rfl
    rw [e, findS, findS]
    by_cases hc : fixK n.kind = true ∧ n.name = s
    · have hi : i ≠ w := fun hi => h (cntN A) (by rw [findS, if_pos hc, hi])
      rw [if_pos hc, if_pos ⟨hc.1, by rw [renN_neg, if_neg hi]; exact hc.2⟩, cntN_ren]
    · rw [if_neg hc, if_neg, findS_ren1 hs fun m hm => h m (by rw [findS, if_neg hc]; exact hm)]
      rw [renN_neg]
      intro h2
      by_cases hi : i = w
      · rw [if_pos hi] at h2; exact hs h2.2.symm
      · rw [if_neg hi] at h2; exact hc h2
/-- who was bound by it still is -/
theorem findS_ren2 {w m : Nat} {s : List UInt8} : ∀ {A : Anc}, (∀ q ∈ A, q.2.name ≠ new0) → (A.map Prod.fst).Nodup → findS s A = some (w, m) → findS new0 (renA w A) = some (w, m)
  | [], _, _, h => by cases h
  | (i, n) :: A, hn, hd, h => by
    have e : renA w ((i, n) :: A) = (i, renN w i (-1) n) :: renA w A := rfl
    rw [e, findS]
    rw [findS] at h
    by_cases hc : fixK n.kind = true ∧ n.name = s
    · rw [if_pos hc] at h
      cases h
      rw [if_pos ⟨hc.1, by rw [renN_neg, if_pos rfl]⟩, cntN_ren]
    · rw [if_neg hc] at h
      rw [List.map_cons, List.nodup_cons] at hd
      have hi : i ≠ w := by
        intro hi
        obtain ⟨q, h1, h2⟩ := findS_mem h
        exact hd.1 (List.mem_map.2 ⟨q, h1, by rw [h2, hi]⟩)
      rw [if_neg, findS_ren2 (fun q hq => hn q (List.mem_cons_of_mem _ hq)) hd.2 h]
      rw [renN_neg, if_neg hi]
      exact fun h2 => hn _ List.mem_cons_self h2.2
theorem leaf_ren {w : Nat} {k : Int} {s : List UInt8} {A : Anc} {base : Nat} (hb : base = w → k ≠ 4) (hs : s ≠ new0) (hn : ∀ q ∈ A, q.2.name ≠ new0) (hd : (A.map Prod.fst).Nodup) :
    toLeaf k (if base = w ∨ toLeaf k s A = (w : Int) then new0 else s) (renA w A) = toLeaf k s A ∧ oddLeaf k (if base = w ∨ toLeaf k s A = (w : Int) then new0 else s) (renA w A) = oddLeaf k s A := by
  by_cases hk : k = 4
  · subst hk
    have hb' : base ≠ w := fun h => hb h rfl
    simp only [hb', false_or]
    unfold toLeaf oddLeaf
    simp only [if_true]
    cases hf : findS s A with
    | none =>
      rw [if_neg (by simp only; omega), findS_ren1 hs (fun m hm => by rw [hf] at hm; cases hm), hf]
      exact ⟨rfl, rfl⟩
    | some q =>
      obtain ⟨i, m⟩ := q
      by_cases hi : i = w
      · subst hi
        rw [if_pos rfl, findS_ren2 hn hd hf, cntN_ren]
        exact ⟨rfl, rfl⟩
      · rw [if_neg (by simp only; omega), findS_ren1 hs (fun m' hm => by rw [hf] at hm; cases hm; exact hi rfl), hf, cntN_ren]
        exact ⟨rfl, rfl⟩
  · unfold toLeaf oddLeaf
    simp [hk]
theorem ren_told (w : Nat) : ∀ (t : Tr) (base : Nat) (A : Anc), (∀ n ∈ t.flat base, n.name ≠ new0) → (∀ q ∈ A, q.2.name ≠ new0) → (A.map Prod.fst).Nodup → (∀ q ∈ A, base + t.size ≤ q.1) →
    (∀ i n, (t.flat base)[i]? = some n → base + i = w → n.kind ≠ 4) →
    toA (renT w t base A) base (renA w A) = toA t base A ∧ oddA (renT w t base A) base (renA w A) = oddA t base A
  | .leaf k s p, base, A, h1, h2, h3, h4, h5 => by
    have := leaf_ren (w := w) (k := k) (s := s) (A := A) (base := base) (fun hb => h5 0 _ rfl hb) (h1 ⟨k, 0, 0, s, p⟩ (by simp [Tr.flat, Tr.node])) h2 h3
    simp only [renT, toA, oddA, this.1, this.2, and_self]
  | .un k s p a, base, A, h1, h2, h3, h4, h5 => by
    have hA : renA w ((base + a.size, (Tr.un k s p a).node base) :: A) = (base + a.size, (Tr.un k (if base + a.size = w then new0 else s) p (renT w a base ((base + a.size, (Tr.un k s p a).node base) :: A))).node base) :: renA w A := by
      show (_, _) :: _ = _
      rw [renN_neg]
      simp only [Tr.node, renT_size]
      rfl
    have hh : ∀ q ∈ (base + a.size, (Tr.un k s p a).node base) :: A, q.2.name ≠ new0 := by
      intro q hq
      rcases List.mem_cons.1 hq with rfl | hq
      · exact h1 _ (by simp [Tr.flat])
      · exact h2 q hq
    have hnd : (((base + a.size, (Tr.un k s p a).node base) :: A).map Prod.fst).Nodup := by
      rw [List.map_cons, List.nodup_cons]
      refine ⟨fun hm => ?_, h3⟩
      obtain ⟨q, q1, q2⟩ := List.mem_map.1 hm
      have := h4 q q1
      simp only [Tr.size] at this
      omega
    have hle : ∀ q ∈ (base + a.size, (Tr.un k s p a).node base) :: A, base + a.size ≤ q.1 := by
      intro q hq
      rcases List.mem_cons.1 hq with rfl | hq
      · exact Nat.le_refl _
      · have := h4 q hq; simp only [Tr.size] at this; omega
    have ih := ren_told w a base _ (fun n hn => h1 n (by simp [Tr.flat, hn])) hh hnd hle (fun i n hi he => h5 i n (by simp only [Tr.flat]; rw [List.getElem?_append_left (get_lt hi)]; exact hi) he)
    rw [hA] at ih
    simp only [renT, toA, oddA, renT_size]
    rw [ih.1, ih.2]
    exact ⟨rfl, rfl⟩
  | .bin k s p a b, base, A, h1, h2, h3, h4, h5 => by
    have hA : renA w ((base + a.size + b.size, (Tr.bin k s p a b).node base) :: A) = (base + a.size + b.size, (Tr.bin k (if base + a.size + b.size = w then new0 else s) p (renT w a base ((base + a.size + b.size, (Tr.bin k s p a b).node base) :: A)) (renT w b (base + a.size) ((base + a.size + b.size, (Tr.bin k s p a b).node base) :: A))).node base) :: renA w A := by
      show (_, _) :: _ = _
      rw [renN_neg]
      simp only [Tr.node, renT_size]
      rfl
    have hh : ∀ q ∈ (base + a.size + b.size, (Tr.bin k s p a b).node base) :: A, q.2.name ≠ new0 := by
      intro q hq
      rcases List.mem_cons.1 hq with rfl | hq
      · exact h1 _ (by simp [Tr.flat])
      · exact h2 q hq
    have hnd : (((base + a.size + b.size, (Tr.bin k s p a b).node base) :: A).map Prod.fst).Nodup := by
      rw [List.map_cons, List.nodup_cons]
      refine ⟨fun hm => ?_, h3⟩
      obtain ⟨q, q1, q2⟩ := List.mem_map.1 hm
      have := h4 q q1
      simp only [Tr.size] at this
      omega
    have hle : ∀ q ∈ (base + a.size + b.size, (Tr.bin k s p a b).node base) :: A, base + a.size + b.size ≤ q.1 := by
      intro q hq
      rcases List.mem_cons.1 hq with rfl | hq
      · exact Nat.le_refl _
      · have := h4 q hq; simp only [Tr.size] at this; omega
    have iha := ren_told w a base _ (fun n hn => h1 n (by simp [Tr.flat, hn])) hh hnd (fun q hq => by have := hle q hq; omega) (fun i n hi he => h5 i n (by simp only [Tr.flat]; rw [List.getElem?_append_left (get_lt hi)]; exact hi) he)
    have ihb := ren_told w b (base + a.size) _ (fun n hn => h1 n (by simp [Tr.flat, hn])) hh hnd hle (fun i n hi he => h5 (a.size + i) n (by
      simp only [Tr.flat]
      rw [List.getElem?_append_right (by rw [flat_length]; omega), flat_length, show a.size + i - a.size = i by omega, List.getElem?_append_left (get_lt hi)]; exact hi) (by omega))
    rw [hA] at iha ihb
    simp only [renT, toA, oddA, renT_size]
    rw [iha.1, iha.2, ihb.1, ihb.2]
    exact ⟨rfl, rfl⟩
end Go.Ab.S3
