import Derived.Test.YtkfoohgkbafafaaS3h
namespace Go.Ab.S3
set_option linter.unusedVariables false
set_option linter.unusedSimpArgs false
/-! ### right formulas are trees -/
inductive Tr where
  | leaf (k : Int) (s : List UInt8) (p : Int)
  | un (k : Int) (s : List UInt8) (p : Int) (a : Tr)
  | bin (k : Int) (s : List UInt8) (p : Int) (a b : Tr)
  deriving DecidableEq, Inhabited
def Tr.size : Tr → Nat
  | .leaf _ _ _ => 1
  | .un _ _ _ a => a.size + 1
  | .bin _ _ _ a b => a.size + b.size + 1
theorem Tr.pos : ∀ t : Tr, 1 ≤ t.size
  | .leaf _ _ _ => Nat.le_refl _
  | .un _ _ _ a => Nat.succ_le_succ (Nat.zero_le _)
  | .bin _ _ _ a b => Nat.succ_le_succ (Nat.zero_le _)
/-- the root's own node, its last one -/
def Tr.node : Tr → Nat → Nd
  | .leaf k s p, _ => ⟨k, 0, 0, s, p⟩
  | .un k s p a, base => ⟨k, ((base + a.size - 1 : Nat) : Int), 0, s, p⟩
  | .bin k s p a b, base => ⟨k, ((base + a.size - 1 : Nat) : Int), ((base + a.size + b.size - 1 : Nat) : Int), s, p⟩
/-- the nodes, from a number on -/
def Tr.flat : Tr → Nat → List Nd
  | .leaf k s p, base => [(Tr.leaf k s p).node base]
  | .un k s p a, base => a.flat base ++ [(Tr.un k s p a).node base]
  | .bin k s p a b, base => a.flat base ++ (b.flat (base + a.size) ++ [(Tr.bin k s p a b).node base])
def Tr.ok : Tr → Bool
  | .leaf k s _ => decide (arF k = 0) && namedF k s
  | .un k s _ a => decide (arF k = 1) && namedF k s && a.ok
  | .bin k s _ a b => decide (arF k = 2) && namedF k s && a.ok && b.ok
theorem flat_length : ∀ (t : Tr) (base : Nat), (t.flat base).length = t.size
  | .leaf _ _ _, _ => rfl
  | .un _ _ _ a, base => by simp [Tr.flat, Tr.size, flat_length a]
  | .bin _ _ _ a b, base => by simp [Tr.flat, Tr.size, flat_length a, flat_length b]; omega
/-- trees in a row -/
def flats : List Tr → Nat → List Nd
  | [], _ => []
  | t :: ts, base => t.flat base ++ flats ts (base + t.size)
def sizes (ts : List Tr) : Nat := (ts.map Tr.size).sum
def roots : List Tr → Nat → List Int
  | [], _ => []
  | t :: ts, base => ((base + t.size - 1 : Nat) : Int) :: roots ts (base + t.size)
theorem sizes_cons (t : Tr) (ts : List Tr) : sizes (t :: ts) = t.size + sizes ts := by simp [sizes]
theorem sizes_append (ts us : List Tr) : sizes (ts ++ us) = sizes ts + sizes us := by simp [sizes]
theorem flats_append : ∀ (ts us : List Tr) (base : Nat), flats (ts ++ us) base = flats ts base ++ flats us (base + sizes ts)
  | [], us, base => by simp [flats, sizes]
  | t :: ts, us, base => by
    rw [List.cons_append, flats, flats, flats_append ts us, sizes_cons, List.append_assoc, Nat.add_assoc]
theorem roots_append : ∀ (ts us : List Tr) (base : Nat), roots (ts ++ us) base = roots ts base ++ roots us (base + sizes ts)
  | [], us, base => by simp [roots, sizes]
  | t :: ts, us, base => by
    rw [List.cons_append, roots, roots, roots_append ts us, sizes_cons, List.cons_append, Nat.add_assoc]
theorem roots_length : ∀ (ts : List Tr) (base : Nat), (roots ts base).length = ts.length
  | [], _ => rfl
  | t :: ts, base => by simp [roots, roots_length ts]
theorem flats_length : ∀ (ts : List Tr) (base : Nat), (flats ts base).length = sizes ts
  | [], _ => rfl
  | t :: ts, base => by simp [flats, flats_length ts, flat_length, sizes_cons]
theorem snoc_of {β : Type} : ∀ (l : List β), 1 ≤ l.length → ∃ (m : List β) (x : β), l = m ++ [x]
  | [], h => by simp at h
  | [x], _ => ⟨[], x, rfl⟩
  | x :: y :: l, _ => by
    obtain ⟨m, z, h⟩ := snoc_of (y :: l) (by simp)
    exact ⟨x :: m, z, by rw [h]; rfl⟩
/-- read from the front: what lies on the stack are trees -/
theorem right_trees : ∀ (l : List Nd) (ts : List Tr) (st : List Int), (∀ t ∈ ts, t.ok = true) → rightL l (sizes ts) (roots ts 0) = some st →
    ∃ us : List Tr, (∀ t ∈ us, t.ok = true) ∧ flats us 0 = flats ts 0 ++ l ∧ st = roots us 0
  | [], ts, st, hok, h => by
    simp only [rightL, Option.some.injEq] at h
    exact ⟨ts, hok, by simp, h.symm⟩
  | n :: l, ts, st, hok, h => by
    rw [rightL] at h
    cases hs : stepP (roots ts 0) (sizes ts : Nat) n with
    | none => rw [hs] at h; cases h
    | some st' =>
      rw [hs] at h
      dsimp only at h
      have hex : ∃ vs : List Tr, (∀ t ∈ vs, t.ok = true) ∧ st' = roots vs 0 ∧ sizes vs = sizes ts + 1 ∧ flats vs 0 = flats ts 0 ++ [n] := by
        rcases ar_cases n.kind with e | e | e | e
        · rw [stepP_m e] at hs; cases hs
        · rw [stepP_0 e] at hs
          split at hs
          case isFalse => cases hs
          case isTrue hc =>
          obtain ⟨c1, c2, c3⟩ := hc
          simp only [Option.some.injEq] at hs
          subst hs
          refine ⟨ts ++ [.leaf n.kind n.name n.pos], fun t ht => ?_, ?_, ?_, ?_⟩
          · rcases List.mem_append.1 ht with ht | ht
            · exact hok t ht
            · rw [List.mem_singleton.1 ht]; simp [Tr.ok, e, c1]
          · simp [roots_append, roots, Tr.size]
          · simp [sizes_append, sizes, Tr.size]
          · rw [flats_append]
            congr 1
            cases n
            simp_all [flats, Tr.flat, Tr.node]
        · rw [stepP_1 e] at hs
          split at hs
          case isFalse => cases hs
          case isTrue hc =>
          obtain ⟨c1, c2, c3, c4⟩ := hc
          simp only [Option.some.injEq] at hs
          subst hs
          rw [roots_length] at c2
          obtain ⟨vs, a, rfl⟩ := snoc_of ts c2
          have ha := Tr.pos a
          rw [roots_append, roots, roots, Nat.zero_add] at c4 ⊢
          have hl : (roots vs 0 ++ [((sizes vs + a.size - 1 : Nat) : Int)]).length - 1 = (roots vs 0).length := by simp
          rw [hl, List.getElem?_append_right (Nat.le_refl _), Nat.sub_self] at c4
          simp only [List.getElem?_cons_zero, Option.some.injEq] at c4
          refine ⟨vs ++ [.un n.kind n.name n.pos a], fun t ht => ?_, ?_, ?_, ?_⟩
          · rcases List.mem_append.1 ht with ht | ht
            · exact hok t (List.mem_append_left _ ht)
            · rw [List.mem_singleton.1 ht]
              have := hok a (List.mem_append_right _ (List.mem_singleton.2 rfl))
              simp [Tr.ok, e, c1, this]
          · rw [hl, List.take_left, roots_append, Nat.zero_add, roots, roots, sizes_append]
            simp [sizes, Tr.size]
          · simp [sizes_append, sizes, Tr.size]; omega
          · rw [flats_append, flats_append, List.append_assoc]
            congr 1
            simp only [flats, Tr.flat, List.append_nil, Nat.zero_add]
            congr 1
            cases n
            simp_all [Tr.node]
        · rw [stepP_2 e] at hs
          split at hs
          case isFalse => cases hs
          case isTrue hc =>
          obtain ⟨c1, c2, c3, c4⟩ := hc
          simp only [Option.some.injEq] at hs
          subst hs
          rw [roots_length] at c2
          obtain ⟨ws, b, rfl⟩ := snoc_of ts (by omega)
          obtain ⟨vs, a, rfl⟩ := snoc_of ws (by simp at c2; omega)
          have ha := Tr.pos a
          have hb := Tr.pos b
          have er : roots (vs ++ [a] ++ [b]) 0 = roots vs 0 ++ [((sizes vs + a.size - 1 : Nat) : Int), ((sizes vs + a.size + b.size - 1 : Nat) : Int)] := by
            rw [List.append_assoc, roots_append]
            simp [roots]
          rw [er] at c3 c4 ⊢
          have h1 : (roots vs 0 ++ [((sizes vs + a.size - 1 : Nat) : Int), ((sizes vs + a.size + b.size - 1 : Nat) : Int)]).length - 1 = (roots vs 0).length + 1 := by simp
          have h2 : (roots vs 0 ++ [((sizes vs + a.size - 1 : Nat) : Int), ((sizes vs + a.size + b.size - 1 : Nat) : Int)]).length - 2 = (roots vs 0).length := by simp
          rw [h1, List.getElem?_append_right (by omega), show (roots vs 0).length + 1 - (roots vs 0).length = 1 by omega] at c3
          rw [h2, List.getElem?_append_right (Nat.le_refl _), Nat.sub_self] at c4
          simp only [List.getElem?_cons_zero, List.getElem?_cons_succ, Option.some.injEq] at c3 c4
          refine ⟨vs ++ [.bin n.kind n.name n.pos a b], fun t ht => ?_, ?_, ?_, ?_⟩
          · rcases List.mem_append.1 ht with ht | ht
            · exact hok t (List.mem_append_left _ (List.mem_append_left _ ht))
            · rw [List.mem_singleton.1 ht]
              have g1 := hok a (List.mem_append_left _ (List.mem_append_right _ (List.mem_singleton.2 rfl)))
              have g2 := hok b (List.mem_append_right _ (List.mem_singleton.2 rfl))
              simp [Tr.ok, e, c1, g1, g2]
          · rw [h2, List.take_left, roots_append, Nat.zero_add, roots, roots, sizes_append, sizes_append]
            simp [sizes, Tr.size]
            omega
          · simp [sizes_append, sizes, Tr.size]; omega
          · rw [List.append_assoc, flats_append, flats_append, List.append_assoc]
            congr 1
            simp only [List.cons_append, List.nil_append, flats, Tr.flat, List.append_nil, Nat.zero_add, List.append_assoc]
            congr 2
            cases n
            simp_all [Tr.node]
      obtain ⟨vs, v1, v2, v3, v4⟩ := hex
      subst v2
      rw [← v3] at h
      obtain ⟨us, u1, u2, u3⟩ := right_trees l vs st v1 h
      exact ⟨us, u1, by rw [u2, v4, List.append_assoc]; rfl, u3⟩
/-- .. and a tree's nodes put its root there -/
theorem right_flat : ∀ (t : Tr) (base : Nat) (rest : List Nd) (st : List Int), t.ok = true → rightL (t.flat base ++ rest) base st = rightL rest (base + t.size) (st ++ [((base + t.size - 1 : Nat) : Int)])
  | .leaf k s p, base, rest, st, h => by
    simp only [Tr.ok, Bool.and_eq_true, decide_eq_true_eq] at h
    have e : arF (Tr.node (.leaf k s p) base).kind = 0 := h.1
    simp only [Tr.flat, List.cons_append, List.nil_append, rightL]
    rw [stepP_0 e, if_pos ⟨h.2, rfl, rfl⟩]
    simp [Tr.size]
  | .un k s p a, base, rest, st, h => by
    simp only [Tr.ok, Bool.and_eq_true, decide_eq_true_eq] at h
    have e : arF (Tr.node (.un k s p a) base).kind = 1 := h.1.1
    simp only [Tr.flat, List.append_assoc, List.cons_append, List.nil_append]
    rw [right_flat a base _ st h.2, rightL, stepP_1 e, if_pos ⟨h.1.2, by simp, rfl, by simp [Tr.node]⟩]
    have := Tr.pos a
    simp [Tr.size]
    rw [show base + a.size + 1 = base + (a.size + 1) by omega]
  | .bin k s p a b, base, rest, st, h => by
    simp only [Tr.ok, Bool.and_eq_true, decide_eq_true_eq] at h
    have e : arF (Tr.node (.bin k s p a b) base).kind = 2 := h.1.1.1
    simp only [Tr.flat, List.append_assoc, List.cons_append, List.nil_append]
    rw [right_flat a base _ st h.1.2, right_flat b (base + a.size) _ _ h.2, rightL, stepP_2 e, if_pos ⟨h.1.1.2, by simp, by simp [Tr.node], by simp [Tr.node]⟩]
    have := Tr.pos a
    have := Tr.pos b
    simp [Tr.size]
    rw [show base + a.size + b.size + 1 = base + (a.size + b.size + 1) by omega, Int.add_assoc]
theorem right_iff (l : List Nd) : rightF l = true ↔ ∃ t : Tr, t.ok = true ∧ l = t.flat 0 ∧ t.size ≤ 60 := by
  unfold rightF
  constructor
  · intro h
    simp only [Bool.and_eq_true, decide_eq_true_eq] at h
    obtain ⟨⟨h1, h2⟩, h3⟩ := h
    cases hr : rightL l 0 [] with
    | none => rw [hr] at h3; cases h3
    | some st =>
      rw [hr] at h3
      obtain ⟨us, u1, u2, u3⟩ := right_trees l [] st (fun t ht => by cases ht) hr
      have h3' : st.length = 1 := of_decide_eq_true h3
      rw [u3, roots_length] at h3'
      match us, h3' with
      | [t], _ =>
        simp only [flats, List.append_nil, List.nil_append] at u2
        exact ⟨t, u1 t List.mem_cons_self, u2.symm, by rw [← flat_length t 0, u2]; exact h2⟩
  · rintro ⟨t, ht, rfl, hs⟩
    have h1 := right_flat t 0 [] [] ht
    rw [List.append_nil] at h1
    rw [h1, flat_length]
    have := Tr.pos t
    simp [rightL]
    omega
end Go.Ab.S3
