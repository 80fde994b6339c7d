import Derived.Test.YtmanohnlcedeaaaS4l
namespace Go.Ab.S4
set_option linter.unusedVariables false
set_option linter.unusedSimpArgs false
abbrev Env := List (List UInt8 × Bool)
def look (s : List UInt8) : Env → Option Bool
  | [] => none
  | (x, b) :: E => if x = s then some b else look s E
def flipE (E : Env) : Env := E.map fun x => (x.1, !x.2)
def fit : Tr → Env → Bool
  | .leaf k s _, E => if k = 4 then decide (look s E = some false) else true
  | .un k s _ a, E => if fixK k = true then fit a ((s, false) :: E) else if k = 5 then fit a (flipE E) else fit a E
  | .bin _ _ _ a b, E => fit a E && fit b E
def fxs : Tr → List (List UInt8)
  | .leaf _ _ _ => []
  | .un k s _ a => fxs a ++ (if fixK k = true then [s] else [])
  | .bin _ _ _ a b => fxs a ++ fxs b
def envA : Anc → Env
  | [] => []
  | (_, n) :: A => if fixK n.kind = true then (n.name, false) :: envA A else if n.kind = 5 then flipE (envA A) else envA A
theorem look_flip (s : List UInt8) : ∀ E : Env, look s (flipE E) = (look s E).map (!·)
  | [] => rfl
  | (x, b) :: E => by
    have := look_flip s E
    unfold flipE at this ⊢
    simp only [List.map_cons, look, this]
    split <;> rfl
theorem fix_five {k : Int} (h : fixK k = true) : k ≠ 5 := by
  rintro rfl
  exact absurd h (by decide)
def parB (c m : Nat) : Bool := Nat.beq ((c - m) % 2) 1
theorem parB_odd (c m : Nat) : parB c m = true ↔ (c - m) % 2 ≠ 0 := by
  unfold parB
  rw [Nat.beq_eq]
  omega
theorem look_env (s : List UInt8) : ∀ A : Anc, look s (envA A) = (findS s A).map fun q => parB (cntN A) q.2
  | [] => rfl
  | (i, n) :: A => by
    have ih := look_env s A
    have hc5 : n.kind = 5 → cntN ((i, n) :: A) = cntN A + 1 := fun h => by simp [cntN, h]
    have hc0 : n.kind ≠ 5 → cntN ((i, n) :: A) = cntN A := fun h => by simp [cntN, h]
    by_cases hf : fixK n.kind = true
    · rw [hc0 (fix_five hf)]
      simp only [envA, findS, if_pos hf, look]
      by_cases hs : n.name = s
      · rw [if_pos hs, if_pos ⟨hf, hs⟩]
        simp only [Option.map_some, parB, Nat.sub_self, Nat.zero_mod]
        rfl
      · rw [if_neg hs, if_neg (fun h => hs h.2), ih]
    · have hF : findS s ((i, n) :: A) = findS s A := by
        simp only [findS]
        rw [if_neg (fun h => hf h.1)]
      have hE : envA ((i, n) :: A) = if n.kind = 5 then flipE (envA A) else envA A := by
        simp only [envA]
        rw [if_neg hf]
      rw [hF, hE]
      by_cases h5 : n.kind = 5
      · rw [if_pos h5, look_flip, ih, hc5 h5]
        cases hq : findS s A with
        | none => rfl
        | some q =>
          have := findS_le (i := q.1) (m := q.2) hq
          simp only [Option.map_some]
          congr 1
          rw [Bool.eq_iff_iff, Bool.not_eq_true', ← Bool.not_eq_true, parB_odd, parB_odd]
          omega
      · rw [if_neg h5, ih, hc0 h5]
theorem leaf_fit {k : Int} {s : List UInt8} {A : Anc} : (¬ (k = 4 ∧ toLeaf k s A < 0) ∧ ¬ (k = 4 ∧ oddLeaf k s A = true)) ↔ (if k = 4 then decide (look s (envA A) = some false) else true) = true := by
  by_cases h4 : k = 4
  · rw [if_pos h4, look_env]
    unfold toLeaf oddLeaf
    rw [if_pos h4, if_pos h4]
    cases hq : findS s A with
    | none => simp [h4]
    | some q =>
      simp only [h4, true_and, Option.map_some, Option.some.injEq, decide_eq_true_eq, ← parB_odd, Bool.not_eq_true]
      constructor
      · rintro ⟨h1, h2⟩
        exact h2
      · intro h
        exact ⟨by omega, h⟩
  · simp [h4]
theorem ar_two' {kd : Int} (h : arF kd = 2) : kd = 6 ∨ kd = 7 := by
  unfold arF at h
  split at h
  · omega
  split at h
  · omega
  split at h
  · assumption
  · omega
theorem depT_up (k : Int) (s : List UInt8) (p : Int) (a : Tr) : depT a ≤ depT (.un k s p a) := by
  simp only [depT]; split <;> omega
theorem chk_tree {l2 : List Nd} {T2 : List Int} {O2 : List Bool} {D2 : List Int} : ∀ (t : Tr) (base : Nat) (A : Anc) (i : Nat) (seen : List (List UInt8)), t.ok = true → seen.Nodup →
    ((chk (t.flat base ++ l2) (toA t base A ++ T2) (oddA t base A ++ O2) (depI t ++ D2) i seen).2 = 0 ↔ (fit t (envA A) = true ∧ (seen ++ fxs t).Nodup ∧ depT t ≤ 4) ∧ (chk l2 T2 O2 D2 (i + t.size) (seen ++ fxs t)).2 = 0)
  | .leaf k s p, base, A, i, seen, hok, hs => by
    have e1 : depI (.leaf k s p) = [0] := rfl
    simp only [Tr.ok, Bool.and_eq_true, decide_eq_true_eq] at hok
    have hf : fixK k = false := by
      cases hf : fixK k with
      | false => rfl
      | true =>
        exfalso
        unfold fixK at hf
        simp only [Bool.or_eq_true, decide_eq_true_eq] at hf
        rcases hf with rfl | rfl <;> exact absurd hok.1 (by decide)
    rw [e1]
    simp only [Tr.flat, toA, oddA, List.cons_append, List.nil_append, chk, fit, fxs, List.append_nil, depT, Tr.size, Tr.node, hf, Bool.false_eq_true, false_and, if_false]
    have lf := leaf_fit (k := k) (s := s) (A := A)
    by_cases h1 : k = 4 ∧ toLeaf k s A < 0
    · rw [if_pos h1]
      constructor
      · intro h; simp at h
      · intro h; exact absurd h1 (lf.2 h.1.1).1
    rw [if_neg h1]
    by_cases h2 : k = 4 ∧ oddLeaf k s A = true
    · rw [if_pos h2]
      constructor
      · intro h; simp at h
      · intro h; exact absurd h2 (lf.2 h.1.1).2
    rw [if_neg h2]
    have := lf.1 ⟨h1, h2⟩
    constructor
    · intro h; exact ⟨⟨this, hs, by omega⟩, h⟩
    · intro h; exact h.2
  | .un k s p a, base, A, i, seen, hok, hs => by
    have e1 : depI (.un k s p a) = depI a ++ [(depT (.un k s p a) : Int)] := by simp [depI, depA]
    simp only [Tr.ok, Bool.and_eq_true, decide_eq_true_eq] at hok
    rw [e1]
    simp only [Tr.flat, toA, oddA, List.append_assoc, List.cons_append, List.nil_append]
    rw [chk_tree a base _ i seen hok.2 hs]
    have henv : fit a (envA ((base + a.size, (Tr.un k s p a).node base) :: A)) = fit (.un k s p a) (envA A) := by
      have e : envA ((base + a.size, (Tr.un k s p a).node base) :: A) = (if fixK k = true then (s, false) :: envA A else if k = 5 then flipE (envA A) else envA A) := rfl
      rw [e]
      simp only [fit]
      by_cases hf : fixK k = true
      · rw [if_pos hf, if_pos hf]
      · rw [if_neg hf, if_neg hf]
        by_cases h5 : k = 5
        · rw [if_pos h5, if_pos h5]
        · rw [if_neg h5, if_neg h5]
    rw [henv]
    have hk4 : k ≠ 4 := by rintro rfl; exact absurd hok.1.1 (by decide)
    have hdep := depT_up k s p a
    simp only [chk, Tr.node, hk4, false_and, if_false, fxs, Tr.size]
    by_cases hf : fixK k = true
    · simp only [hf, if_true, true_and]
      by_cases hmem : s ∈ seen ++ fxs a
      · rw [if_pos hmem]
        constructor
        · intro h; have := h.2; simp at this
        · intro h
          exfalso
          have := h.1.2.1
          rw [← List.append_assoc, List.nodup_append] at this
          exact this.2.2 s hmem s (by simp) rfl
      · rw [if_neg hmem]
        by_cases hd : (4 : Int) < (depT (.un k s p a) : Int)
        · rw [if_pos hd]
          constructor
          · intro h; have := h.2; simp at this
          · intro h; have := h.1.2.2; omega
        · rw [if_neg hd]
          have hnd : (seen ++ (fxs a ++ [s])).Nodup ↔ (seen ++ fxs a).Nodup := by
            rw [← List.append_assoc, List.nodup_append]
            constructor
            · intro h; exact h.1
            · intro h
              refine ⟨h, by simp, fun x hx y hy => ?_⟩
              rw [List.mem_singleton.1 hy]
              rintro rfl
              exact hmem hx
          rw [hnd, List.append_assoc, Nat.add_assoc]
          constructor
          · rintro ⟨⟨h1, h2, h3⟩, h4⟩
            exact ⟨⟨h1, h2, by omega⟩, h4⟩
          · rintro ⟨⟨h1, h2, h3⟩, h4⟩
            exact ⟨⟨h1, h2, by omega⟩, h4⟩
    · simp only [hf, if_false, false_and, Bool.false_eq_true]
      have hd : depT (.un k s p a) = depT a := by simp only [depT, hf, if_false, Bool.false_eq_true]
      rw [hd, List.append_nil, Nat.add_assoc]
  | .bin k s p a b, base, A, i, seen, hok, hs => by
    have e1 : depI (.bin k s p a b) = depI a ++ (depI b ++ [(depT (.bin k s p a b) : Int)]) := by simp [depI, depA]
    simp only [Tr.ok, Bool.and_eq_true, decide_eq_true_eq] at hok
    rw [e1]
    simp only [Tr.flat, toA, oddA, List.append_assoc, List.cons_append, List.nil_append]
    rw [chk_tree a base _ i seen hok.1.2 hs]
    have hk := ar_two' hok.1.1.1
    have hfx : fixK k = false := by rcases hk with rfl | rfl <;> decide
    have hk5 : k ≠ 5 := by rcases hk with rfl | rfl <;> decide
    have hk4 : k ≠ 4 := by rcases hk with rfl | rfl <;> decide
    have henv : envA ((base + a.size + b.size, (Tr.bin k s p a b).node base) :: A) = envA A := by
      simp only [envA, Tr.node, hfx, Bool.false_eq_true, if_false, hk5]
    rw [henv]
    constructor
    · rintro ⟨⟨h1, h2, h3⟩, h4⟩
      rw [chk_tree b (base + a.size) _ (i + a.size) (seen ++ fxs a) hok.2 h2] at h4
      obtain ⟨⟨h5, h6, h7⟩, h8⟩ := h4
      rw [henv] at h5
      simp only [chk, Tr.node, hk4, false_and, if_false, hfx, Bool.false_eq_true] at h8
      refine ⟨⟨?_, ?_, ?_⟩, ?_⟩
      · simp only [fit, h1, h5, Bool.and_self]
      · simp only [fxs, ← List.append_assoc]; exact h6
      · simp only [depT]; omega
      · simp only [fxs, ← List.append_assoc, Tr.size]
        rw [show i + (a.size + b.size + 1) = i + a.size + b.size + 1 by omega]
        exact h8
    · rintro ⟨⟨h1, h2, h3⟩, h4⟩
      simp only [fit, Bool.and_eq_true] at h1
      simp only [fxs, ← List.append_assoc] at h2 h4
      simp only [depT] at h3
      have h2a : (seen ++ fxs a).Nodup := (List.nodup_append.1 h2).1
      refine ⟨⟨h1.1, h2a, by omega⟩, ?_⟩
      rw [chk_tree b (base + a.size) _ (i + a.size) (seen ++ fxs a) hok.2 h2a, henv]
      refine ⟨⟨h1.2, h2, by omega⟩, ?_⟩
      simp only [chk, Tr.node, hk4, false_and, if_false, hfx, Bool.false_eq_true]
      simp only [Tr.size] at h4
      rw [show i + (a.size + b.size + 1) = i + a.size + b.size + 1 by omega] at h4
      exact h4
theorem chk_fit {t : Tr} (ht : t.ok = true) : (chkT t).2 = 0 ↔ fit t [] = true ∧ (fxs t).Nodup ∧ depT t ≤ 4 := by
  have := chk_tree (l2 := []) (T2 := []) (O2 := []) (D2 := []) t 0 [] 0 [] ht (by simp)
  simp only [List.append_nil, List.nil_append, envA] at this
  unfold chkT
  rw [this]
  simp [chk]
def plK (k : Int) : Int := if k = 12 then 3 else k
def plN (n : Nd) : Nd := { n with kind := plK n.kind }
def Tr.pl : Tr → Tr
  | .leaf k s p => .leaf (plK k) s p
  | .un k s p a => .un (plK k) s p a.pl
  | .bin k s p a b => .bin (plK k) s p a.pl b.pl
def dualK (k : Int) : Int := if k = 1 then 2 else if k = 2 then 1 else if k = 3 then 12 else if k = 12 then 3 else if k = 6 then 7 else if k = 7 then 6 else if k = 8 then 9 else if k = 9 then 8 else if k = 10 then 11 else if k = 11 then 10 else k
def negK (neg : Bool) (k : Int) : Int := if neg = true then dualK k else k
def nfT : Tr → Bool → Tr
  | .leaf k s p, g => .leaf (negK g k) s p
  | .un k s p a, g => if k = 5 then nfT a (!g) else .un (negK g k) s p (nfT a g)
  | .bin k s p a b, g => .bin (negK g k) s p (nfT a g) (nfT b g)
theorem pl_size : ∀ t : Tr, t.pl.size = t.size
  | .leaf _ _ _ => rfl
  | .un _ _ _ a => by simp [Tr.pl, Tr.size, pl_size a]
  | .bin _ _ _ a b => by simp [Tr.pl, Tr.size, pl_size a, pl_size b]
theorem pl_flat : ∀ (t : Tr) (base : Nat), t.pl.flat base = (t.flat base).map plN
  | .leaf _ _ _, base => rfl
  | .un k s p a, base => by simp [Tr.pl, Tr.flat, pl_flat a, Tr.node, pl_size, plN]
  | .bin k s p a b, base => by simp [Tr.pl, Tr.flat, pl_flat a, pl_flat b, Tr.node, pl_size, plN]
theorem wide_tree : ∀ (t : Tr) (base : Nat) (l : List Nd), l.map plN = t.flat base → ∃ u : Tr, u.pl = t ∧ l = u.flat base
  | .leaf k s p, base, l, h => by
    match l, h with
    | [], h => simp [Tr.flat] at h
    | [n], h =>
      simp only [Tr.flat, List.map_cons, List.map_nil, List.cons.injEq, and_true] at h
      obtain ⟨k', a', b', s', p'⟩ := n
      simp only [plN, Tr.node, Nd.mk.injEq] at h
      obtain ⟨h1, h2, h3, h4, h5⟩ := h
      refine ⟨.leaf k' s' p', by simp [Tr.pl, h1, h4, h5], ?_⟩
      simp [Tr.flat, Tr.node, h2, h3]
    | _ :: _ :: _, h => simp [Tr.flat] at h
  | .un k s p a, base, l, h => by
    simp only [Tr.flat] at h
    obtain ⟨l1, l2, rfl, h1, h2⟩ := List.map_eq_append_iff.1 h
    obtain ⟨u, rfl, rfl⟩ := wide_tree a base l1 h1
    match l2, h2 with
    | [], h => simp at h
    | [n], h =>
      simp only [List.map_cons, List.map_nil, List.cons.injEq, and_true] at h
      obtain ⟨k', a', b', s', p'⟩ := n
      simp only [plN, Tr.node, Nd.mk.injEq, pl_size] at h
      obtain ⟨h1, h2, h3, h4, h5⟩ := h
      refine ⟨.un k' s' p' u, by simp [Tr.pl, h1, h4, h5], ?_⟩
      simp [Tr.flat, Tr.node, h2, h3]
    | _ :: _ :: _, h => simp at h
  | .bin k s p a b, base, l, h => by
    simp only [Tr.flat] at h
    obtain ⟨l1, l2, rfl, h1, h2⟩ := List.map_eq_append_iff.1 h
    obtain ⟨l3, l4, rfl, h3, h4⟩ := List.map_eq_append_iff.1 h2
    obtain ⟨u, rfl, rfl⟩ := wide_tree a base l1 h1
    obtain ⟨v, rfl, h5⟩ := wide_tree b (base + u.pl.size) l3 h3
    match l4, h4 with
    | [], h => simp at h
    | [n], h =>
      simp only [List.map_cons, List.map_nil, List.cons.injEq, and_true] at h
      obtain ⟨k', a', b', s', p'⟩ := n
      simp only [plN, Tr.node, Nd.mk.injEq, pl_size] at h
      obtain ⟨q1, q2, q3, q4, q5⟩ := h
      refine ⟨.bin k' s' p' u v, by simp [Tr.pl, q1, q4, q5], ?_⟩
      rw [h5, pl_size]
      simp [Tr.flat, Tr.node, q2, q3]
    | _ :: _ :: _, h => simp at h
def pos5 : Tr → Bool
  | .leaf k _ _ => decide (k ≠ 5)
  | .un k _ _ a => decide (k ≠ 5) && pos5 a
  | .bin k _ _ a b => decide (k ≠ 5) && pos5 a && pos5 b
theorem nf_le : ∀ (t : Tr) (g : Bool), (nfT t g).size ≤ t.size
  | .leaf _ _ _, _ => Nat.le_refl _
  | .un k _ _ a, g => by
    simp only [nfT]
    by_cases h : k = 5
    · rw [if_pos h]; have := nf_le a (!g); simp only [Tr.size]; omega
    · rw [if_neg h]; have := nf_le a g; simp only [Tr.size]; omega
  | .bin _ _ _ a b, g => by have := nf_le a g; have := nf_le b g; simp only [nfT, Tr.size]; omega
theorem negK_five {g : Bool} {k : Int} (h : k ≠ 5) : negK g k ≠ 5 := by
  unfold negK dualK
  cases g
  · rw [if_neg (by decide)]; exact h
  · rw [if_pos rfl]
    repeat' split
    all_goals first | decide | exact h
def kindsW (k : Int) : Prop := k = 1 ∨ k = 2 ∨ k = 3 ∨ k = 4 ∨ k = 5 ∨ k = 6 ∨ k = 7 ∨ k = 8 ∨ k = 9 ∨ k = 10 ∨ k = 11 ∨ k = 12
theorem arF_kinds {k : Int} (h : 0 ≤ arF (plK k)) : kindsW k := by
  unfold kindsW
  by_cases h12 : k = 12
  · omega
  unfold plK at h
  rw [if_neg h12] at h
  unfold arF at h
  split at h
  · omega
  split at h
  · omega
  split at h
  · omega
  · omega
theorem dual_ar {k : Int} (h : kindsW k) : arF (plK (dualK k)) = arF (plK k) := by
  rcases h with rfl | rfl | rfl | rfl | rfl | rfl | rfl | rfl | rfl | rfl | rfl | rfl <;> decide
theorem dual_named {k : Int} (h : kindsW k) (s : List UInt8) : namedF (plK (dualK k)) s = namedF (plK k) s := by
  rcases h with rfl | rfl | rfl | rfl | rfl | rfl | rfl | rfl | rfl | rfl | rfl | rfl <;> rfl
theorem dual_fix {k : Int} (h : kindsW k) : fixK (dualK k) = fixK k := by
  rcases h with rfl | rfl | rfl | rfl | rfl | rfl | rfl | rfl | rfl | rfl | rfl | rfl <;> decide
theorem dual_four {k : Int} (h : kindsW k) : dualK k = 4 ↔ k = 4 := by
  rcases h with rfl | rfl | rfl | rfl | rfl | rfl | rfl | rfl | rfl | rfl | rfl | rfl <;> decide
theorem pl_fix (k : Int) : fixK (plK k) = fixK k := by
  unfold plK
  split
  · rename_i h; subst h; decide
  · rfl
theorem pl_five (k : Int) : plK k = 5 ↔ k = 5 := by unfold plK; split <;> omega
theorem pl_four (k : Int) : plK k = 4 ↔ k = 4 := by unfold plK; split <;> omega
theorem neg_ar {g : Bool} {k : Int} (h : kindsW k) : arF (plK (negK g k)) = arF (plK k) := by
  unfold negK; split
  · exact dual_ar h
  · rfl
theorem neg_named {g : Bool} {k : Int} (h : kindsW k) (s : List UInt8) : namedF (plK (negK g k)) s = namedF (plK k) s := by
  unfold negK; split
  · exact dual_named h s
  · rfl
theorem neg_fix {g : Bool} {k : Int} (h : kindsW k) : fixK (negK g k) = fixK k := by
  unfold negK; split
  · exact dual_fix h
  · rfl
theorem neg_four {g : Bool} {k : Int} (h : kindsW k) : negK g k = 4 ↔ k = 4 := by
  unfold negK; split
  · exact dual_four h
  · exact Iff.rfl
theorem nf_ok : ∀ (t : Tr) (g : Bool), t.pl.ok = true → (nfT t g).pl.ok = true
  | .leaf k s p, g, h => by
    simp only [Tr.pl, Tr.ok, Bool.and_eq_true, decide_eq_true_eq] at h
    have hk := arF_kinds (k := k) (by omega)
    simp only [nfT, Tr.pl, Tr.ok, neg_ar hk, neg_named hk, h.1, h.2, decide_true, Bool.and_self]
  | .un k s p a, g, h => by
    simp only [Tr.pl, Tr.ok, Bool.and_eq_true, decide_eq_true_eq] at h
    have hk := arF_kinds (k := k) (by omega)
    simp only [nfT]
    by_cases h5 : k = 5
    · rw [if_pos h5]; exact nf_ok a _ h.2
    · rw [if_neg h5]
      simp only [Tr.pl, Tr.ok, neg_ar hk, neg_named hk, h.1.1, h.1.2, nf_ok a g h.2, decide_true, Bool.and_self]
  | .bin k s p a b, g, h => by
    simp only [Tr.pl, Tr.ok, Bool.and_eq_true, decide_eq_true_eq] at h
    have hk := arF_kinds (k := k) (by omega)
    simp only [nfT, Tr.pl, Tr.ok, neg_ar hk, neg_named hk, h.1.1.1, h.1.1.2, nf_ok a g h.1.2, nf_ok b g h.2, decide_true, Bool.and_self]
def evens (E : Env) : Env := E.map fun x => (x.1, false)
theorem look_evens (s : List UInt8) : ∀ E : Env, look s E ≠ none → look s (evens E) = some false
  | [], h => absurd rfl h
  | (x, b) :: E, h => by
    simp only [evens, List.map_cons, look] at h ⊢
    by_cases hx : x = s
    · rw [if_pos hx]
    · rw [if_neg hx] at h ⊢
      exact look_evens s E h
theorem evens_flip (E : Env) : evens (flipE E) = evens E := by
  unfold evens flipE
  rw [List.map_map]
  rfl
theorem fit_nf : ∀ (t : Tr) (g : Bool) (E : Env), t.pl.ok = true → fit t.pl E = true → fit (nfT t g).pl (evens E) = true
  | .leaf k s p, g, E, h, hf => by
    simp only [Tr.pl, Tr.ok, Bool.and_eq_true, decide_eq_true_eq] at h
    have hk := arF_kinds (k := k) (by omega)
    simp only [nfT, Tr.pl, fit, pl_four, neg_four hk] at hf ⊢
    by_cases h4 : k = 4
    · rw [if_pos h4] at hf ⊢
      rw [look_evens s E (by rw [of_decide_eq_true hf]; simp)]
      simp
    · rw [if_neg h4]
  | .un k s p a, g, E, h, hf => by
    simp only [Tr.pl, Tr.ok, Bool.and_eq_true, decide_eq_true_eq] at h
    have hk := arF_kinds (k := k) (by omega)
    simp only [Tr.pl, fit, pl_fix, pl_five] at hf
    simp only [nfT]
    by_cases h5 : k = 5
    · rw [if_pos h5]
      have hx : ¬ fixK k = true := by rw [h5]; decide
      rw [if_neg hx, if_pos h5] at hf
      rw [← evens_flip]
      exact fit_nf a _ _ h.2 hf
    · rw [if_neg h5]
      simp only [Tr.pl, fit, pl_fix, pl_five, neg_fix hk]
      rw [if_neg h5] at hf
      rw [if_neg (negK_five h5)]
      by_cases hx : fixK k = true
      · rw [if_pos hx] at hf ⊢
        exact fit_nf a g ((s, false) :: E) h.2 hf
      · rw [if_neg hx] at hf ⊢
        exact fit_nf a g E h.2 hf
  | .bin k s p a b, g, E, h, hf => by
    simp only [Tr.pl, Tr.ok, Bool.and_eq_true, decide_eq_true_eq] at h
    simp only [Tr.pl, fit, Bool.and_eq_true] at hf
    simp only [nfT, Tr.pl, fit, fit_nf a g E h.1.2 hf.1, fit_nf b g E h.2 hf.2, Bool.and_self]
theorem fxs_pl : ∀ t : Tr, fxs t.pl = fxs t
  | .leaf _ _ _ => rfl
  | .un k s p a => by simp only [Tr.pl, fxs, fxs_pl a, pl_fix]
  | .bin _ _ _ a b => by simp only [Tr.pl, fxs, fxs_pl a, fxs_pl b]
theorem dep_pl : ∀ t : Tr, depT t.pl = depT t
  | .leaf _ _ _ => rfl
  | .un k s p a => by simp only [Tr.pl, depT, dep_pl a, pl_fix]
  | .bin _ _ _ a b => by simp only [Tr.pl, depT, dep_pl a, dep_pl b]
theorem fxs_nf : ∀ (t : Tr) (g : Bool), t.pl.ok = true → fxs (nfT t g) = fxs t
  | .leaf _ _ _, _, _ => rfl
  | .un k s p a, g, h => by
    simp only [Tr.pl, Tr.ok, Bool.and_eq_true, decide_eq_true_eq] at h
    have hk := arF_kinds (k := k) (by omega)
    simp only [nfT]
    by_cases h5 : k = 5
    · rw [if_pos h5, fxs_nf a _ h.2]
      simp only [fxs]
      rw [if_neg (by rw [h5]; decide), List.append_nil]
    · rw [if_neg h5]
      simp only [fxs, neg_fix hk, fxs_nf a g h.2]
  | .bin k s p a b, g, h => by
    simp only [Tr.pl, Tr.ok, Bool.and_eq_true, decide_eq_true_eq] at h
    simp only [nfT, fxs, fxs_nf a g h.1.2, fxs_nf b g h.2]
theorem dep_nf : ∀ (t : Tr) (g : Bool), t.pl.ok = true → depT (nfT t g) = depT t
  | .leaf _ _ _, _, _ => rfl
  | .un k s p a, g, h => by
    simp only [Tr.pl, Tr.ok, Bool.and_eq_true, decide_eq_true_eq] at h
    have hk := arF_kinds (k := k) (by omega)
    simp only [nfT]
    by_cases h5 : k = 5
    · rw [if_pos h5, dep_nf a _ h.2]
      simp only [depT]
      rw [if_neg (by rw [h5]; decide)]
    · rw [if_neg h5]
      simp only [depT, neg_fix hk, dep_nf a g h.2]
  | .bin k s p a b, g, h => by
    simp only [Tr.pl, Tr.ok, Bool.and_eq_true, decide_eq_true_eq] at h
    simp only [nfT, depT, dep_nf a g h.1.2, dep_nf b g h.2]
theorem chk_nf {t : Tr} (g : Bool) (ht : t.pl.ok = true) (hc : (chkT t.pl).2 = 0) : (chkT (nfT t g).pl).2 = 0 := by
  obtain ⟨h1, h2, h3⟩ := (chk_fit ht).1 hc
  refine (chk_fit (nf_ok t g ht)).2 ⟨fit_nf t g [] ht h1, ?_, ?_⟩
  · rw [fxs_pl, fxs_nf t g ht, ← fxs_pl]; exact h2
  · rw [dep_pl, dep_nf t g ht, ← dep_pl]; exact h3
end Go.Ab.S4
namespace Go.Ab.S4
set_option linter.unusedVariables false
set_option linter.unusedSimpArgs false
variable {α : Type} {h : H}
def Below (l : List Nd) : Prop := ∀ i n, l[i]? = some n → (0 < arF n.kind → ∃ j : Nat, n.a = (j : Int) ∧ j < i) ∧ (1 < arF n.kind → ∃ j : Nat, n.b = (j : Int) ∧ j < i)
section
variable {h₀ : H} {f out : Sl} {l : List Nd}
structure Mine (h₀ h : H) (s : Sl) (cs : List V) : Prop where
  ext : Ext h₀ h
  own : Own h s 1 cs
  low : h₀.next ≤ s.id
theorem Mine.push {cs : List V} (m : Mine h₀ h out cs) {h' : H} (x : Ext h h') : Mine h₀ h' out cs := ⟨m.ext.trans x, m.own.ext x, m.low⟩
end
end Go.Ab.S4
namespace Go.Ab.S4
set_option linter.unusedVariables false
set_option linter.unusedSimpArgs false
variable {α : Type} {h : H}
section
variable {h₀ : H} {f out : Sl} {l : List Nd}
theorem set_set (T : List Int) (i : Nat) (x y : Int) : (T.set i x).set i y = T.set i y := by simp
end
end Go.Ab.S4
namespace Go.Ab.S4
set_option linter.unusedVariables false
set_option linter.unusedSimpArgs false
variable {α : Type} {h : H}
def psF (at_ : Bool) (n : Nd) : Nd := if at_ = true then n else { n with pos := 0 }
theorem nd_eq (a b : Nd) : (decide (a.kind = b.kind) && (decide (a.a = b.a) && (decide (a.b = b.b) && (decide (a.name = b.name) && (decide (a.pos = b.pos) && true))))) = decide (a = b) := by
  rw [Bool.eq_iff_iff]
  simp only [Bool.and_eq_true, decide_eq_true_eq, and_true]
  cases a; cases b
  simp [Nd.mk.injEq]
theorem same_loop {h₀ : H} {f g : Sl} {l m : List Nd} (r : NdR h₀ f l) (q : NdR h₀ g m) (hlen : l.length = m.length) (hl : l.length ≤ 4611686018427387900) (at_ : Bool) (k : Nat) : ∀ (j i : Nat) (h : H), i ≤ l.length → l.length - i < j → Ext h₀ h →
    ∃ h', Ext h₀ h' ∧ ∀ (α : Type) (kr : Bool → M α) (kx : M α), r4Same.u4.l k kr kx j f g at_ (i : Int) h = if (l.drop i).map (psF at_) = (m.drop i).map (psF at_) then kx h' else kr false h' := by
  intro j
  induction j with
  | zero => intro i h hi hj; omega
  | succ j ih =>
    intro i h hi hj x
    have hfl := nd_slen r
    by_cases hlt : i < l.length
    rotate_left
    · refine ⟨h, x, fun α kr kx => ?_⟩
      rw [r4Same.u4.l, r4Same.u3.f, hfl, dF (by omega : ¬ (i : Int) < (l.length : Int)), cond_false, List.drop_of_length_le (by omega), List.drop_of_length_le (by omega), if_pos rfl]
    have hn : l[i]? = some l[i] := List.getElem?_eq_getElem hlt
    have hm : m[i]? = some m[i] := List.getElem?_eq_getElem (by omega)
    rw [List.drop_eq_getElem_cons hlt, List.drop_eq_getElem_cons (by omega : i < m.length)]
    generalize l[i] = a at hn ⊢
    generalize m[i] = b at hm ⊢
    have x1 : Ext h ((h.push (ndC (psF at_ a))).push (ndC (psF at_ b))) := ((Ext.refl h).push _).push _
    have hqa : ((h.push (ndC (psF at_ a))).push (ndC (psF at_ b))).get h.next = some (ndC (psF at_ a)) := by
      rw [push_get, if_neg (by rw [push_next]; omega), push_get, if_pos rfl]
    have hqb : ((h.push (ndC (psF at_ a))).push (ndC (psF at_ b))).get (h.next + 1) = some (ndC (psF at_ b)) := by
      rw [push_get, if_pos (by rw [push_next])]
    have start : ∀ (α : Type) (kr : Bool → M α) (kx : M α), r4Same.u4.l k kr kx (j + 1) f g at_ (i : Int) h = cond (!(decide (psF at_ a = psF at_ b))) (kr false) (r4Same.u4.l k kr kx j f g at_ (w64 ((i : Int) + 1))) ((h.push (ndC (psF at_ a))).push (ndC (psF at_ b))) := fun α kr kx => by
      rw [r4Same.u4.l, r4Same.u3.f, hfl, dT (by omega : (i : Int) < (l.length : Int)), cond_true, nd_rd (r.ext x) rfl hn, nd_copy, nd_rd (q.ext (x.push _)) rfl hm, nd_copy]
      rw [show (h.push (Blk.cells [.int .i64 a.kind, .int .i64 a.a, .int .i64 a.b, .str a.name, .int .i64 a.pos] true)).next = h.next + 1 from rfl]
      cases at_ with
      | true =>
        rw [Bool.not_true, cond_false, own_all (h := (h.push (ndC a)).push (ndC b)) (n := a) hqa, own_all (h := (h.push (ndC a)).push (ndC b)) (n := b) hqb, nd_eq]
        rfl
      | false =>
        rw [Bool.not_false, cond_true]
        have s1 : ∀ K : M α, st1 (((⟨h.next, 0⟩ : Ad).add 4).add 0) (.int .i64 0) K ((h.push (ndC a)).push (ndC b)) = K ((h.push (ndC (psF false a))).push (ndC b)) := fun K => by
          simp only [add_mk]
          exact st1_new2 rfl (by simp)
        have s2 : ∀ K : M α, st1 (((⟨h.next + 1, 0⟩ : Ad).add 4).add 0) (.int .i64 0) K ((h.push (ndC (psF false a))).push (ndC b)) = K ((h.push (ndC (psF false a))).push (ndC (psF false b))) := fun K => by
          simp only [add_mk]
          exact st1_new (h := h.push (ndC (psF false a))) rfl (by simp)
        rw [s1, s2, own_all (n := psF false a) hqa, own_all (n := psF false b) hqb, nd_eq]
    generalize (h.push (ndC (psF at_ a))).push (ndC (psF at_ b)) = h1 at start x1
    simp only [List.map_cons]
    by_cases he : psF at_ a = psF at_ b
    · obtain ⟨h', x', e'⟩ := ih (i + 1) h1 (by omega) (by omega) (x.trans x1)
      refine ⟨h', x', fun α kr kx => ?_⟩
      rw [start, dT he, Bool.not_true, cond_false, w64_eq (by omega) (by omega), he]
      simp only [List.cons.injEq, true_and]
      exact e' α kr kx
    · refine ⟨h1, x.trans x1, fun α kr kx => ?_⟩
      rw [start, dF he, Bool.not_false, cond_true, if_neg (fun e => he (List.cons.inj e).1)]
theorem same_run (k : Nat) {f g : Sl} {l m : List Nd} (h : H) (r : NdR h f l) (q : NdR h g m) (hk : l.length + 2 ≤ k) (hl : l.length ≤ 4611686018427387900) (at_ : Bool) :
    ∃ h', (∀ (α : Type) (ret : Bool → M α), r4Same.f (k + 1) f g at_ ret h = ret (decide (l.map (psF at_) = m.map (psF at_))) h') ∧ Ext h h' := by
  have hfl := nd_slen r
  have hgl := nd_slen q
  by_cases hlen : l.length = m.length
  · obtain ⟨h', x', e'⟩ := same_loop r q hlen hl at_ k k 0 h (Nat.zero_le _) (by omega) (Ext.refl h)
    simp only [List.drop_zero] at e'
    refine ⟨h', fun α ret => ?_, x'⟩
    rw [r4Same.f, r4Same.u9.f, r4Same.u1.f, hfl, hgl, dT (by omega : (l.length : Int) = (m.length : Int)), Bool.not_true, cond_false, r4Same.u8.f, r4Same.u6.f, r4Same.u2.f, r4Same.u5.f, r4Same.u4.f]
    refine (e' α _ _).trans ?_
    by_cases he : l.map (psF at_) = m.map (psF at_)
    · rw [if_pos he, dT he, r4Same.u7.f]
    · rw [if_neg he, dF he]
  · refine ⟨h, fun α ret => ?_, Ext.refl h⟩
    rw [r4Same.f, r4Same.u9.f, r4Same.u1.f, hfl, hgl, dF (by omega : ¬ (l.length : Int) = (m.length : Int)), Bool.not_false, cond_true, dF (fun e => hlen (by have := congrArg List.length e; simpa using this))]
def n7 : Nd := ⟨-7, 0, 0, [], 0⟩
structure Lent (h : H) (o : Sl) (l : List Nd) : Prop where
  all : Rd h ⟨o.ad, l.length + 1, l.length + 1, o.loose⟩ 5 (cN (l ++ [n7]))
  len : o.len = l.length
  cap : o.cap = l.length + 1
  lo : o.loose = some 5
theorem Lent.ext {o : Sl} {l : List Nd} (L : Lent h o l) {h' : H} (x : Ext h h') : Lent h' o l := ⟨L.all.ext x, L.len, L.cap, L.lo⟩
theorem Lent.rd {o : Sl} {l : List Nd} (L : Lent h o l) : NdR h o l := by
  have := L.all.to l.length o.cap o.loose (Nat.le_succ _)
  rw [flat_take Nd.len, List.take_left] at this
  cases o
  have h2 := L.len
  dsimp only at h2 this ⊢
  rw [h2]
  exact this
def Room (n : Nat) : Prop := n * 48 ≤ 140737488351232
end Go.Ab.S4
namespace Go.Ab.S4
set_option linter.unusedVariables false
set_option linter.unusedSimpArgs false
variable {α : Type} {h : H}
theorem room_n {n : Nat} (h : Room n) : (0 + n + (0 + n) / 4 + 512) * 48 ≤ 281474976710656 := by unfold Room at h; omega
theorem Room.le {n : Nat} (h : Room n) : n ≤ 4611686018427387900 := by unfold Room at h; omega
theorem clone_run (k : Nat) {x : Sl} {l : List Nd} (h : H) (r : NdR h x l) (hr : Room l.length) :
    ∃ d h', (∀ (α : Type) (ret : Sl → M α), slices_Clone_Node_Node.f (k + 1) x ret h = ret d h') ∧ Ext h h' ∧ NdR h' d l ∧ (l ≠ [] → Own h' d 5 (cN l)) ∧ Owned h d := by
  have hlen := nd_slen r
  cases ha : x.ad with
  | none =>
    have hl : l = [] := List.eq_nil_of_length_eq_zero (by rw [← hlen]; exact r.nil ha)
    subst hl
    refine ⟨Sl.nil, h, fun α ret => ?_, Ext.refl h, Rd.nilSl h 5, fun h => absurd rfl h, Owned.nil h⟩
    rw [slices_Clone_Node_Node.f, slices_Clone_Node_Node.u1.f, ha]
    rfl
  | some a =>
    have x1 : Ext h (h.push (.cells [] true)) := (Ext.refl h).push _
    have hg : (h.push (.cells [] true)).get h.next = some (.cells [] true) := by rw [push_get, if_pos rfl]
    have ap : App (h.push (.cells [] true)) ⟨some ⟨h.next, 0⟩, 0, 0, none⟩ 5 [] := ⟨Rd.pushed h (by simp), fun ha => (by cases ha), .inl ⟨rfl, rfl⟩⟩
    have st : ∀ (α : Type) (ret : Sl → M α), slices_Clone_Node_Node.f (k + 1) x ret h = appRow ⟨some ⟨h.next, 0⟩, 0, 0, none⟩ 5 48 x ret (h.push (.cells [] true)) := by
      intro α ret
      rw [slices_Clone_Node_Node.f, slices_Clone_Node_Node.u1.f, ha]
      rw [show (some a).isNone = false from rfl, cond_false, new_run rfl]
    by_cases h0 : x.len = 0
    · have hl : l = [] := List.eq_nil_of_length_eq_zero (by rw [← hlen]; exact h0)
      subst hl
      refine ⟨⟨some ⟨h.next, 0⟩, 0, 0, none⟩, h.push (.cells [] true), fun α ret => ?_, x1, ap.rd, fun h => absurd rfl h, fun a ha => by cases ha; exact Nat.le_refl _⟩
      rw [st]
      exact app_row0 ap (r.ext x1) h0 ret (fun _ a ha => by cases ha; exact ⟨hg, rfl, rfl⟩)
    · obtain ⟨h', e, ap', g, kp⟩ := app_row (bytes := 48) ap (r.ext x1) (by omega) (by decide) (by rw [hlen]; exact room_n hr)
      rw [List.nil_append] at ap' g
      refine ⟨_, h', fun α ret => (st α ret).trans (e α ret), kp.ext x1 (fun a ha => by cases ha; exact Nat.le_refl _), ap'.rd, fun _ => ⟨ap'.rd.len, _, [], rfl, by rw [List.append_nil]; exact g, by rw [kp.1]; exact Nat.lt_succ_self _⟩, fun a ha => by cases ha; show h.next ≤ h.next + 1; omega⟩
theorem nd_stk {s : Sl} {l : List Nd} (o : Own h s 5 (cN l)) {i : Nat} {n : Nd} (hi : l[i]? = some n) (v : Int) :
    ∃ h', (∀ (α : Type) (K : M α), idxSl s (i : Int) 5 (fun a => st1 ((a.add 0).add 0) (.int .i64 v) K) h = K h') ∧ Own h' s 5 (cN (l.set i { n with kind := v })) ∧ h'.next = h.next ∧ ∀ i, i ≠ s.id → h'.get i = h.get i := by
  have hlt := get_lt hi
  obtain ⟨h', e, o', k⟩ := own_st o (n := i * 5 + 0) (v := .int .i64 v) rfl (by rw [flat_len Nd.len]; omega)
  refine ⟨h', fun α K => ?_, ?_, k⟩
  · rw [nd_idx o.rd rfl hi, at_add, at_add]
    exact e α K
  · rw [flat_set Nd.len l i n { n with kind := v } 0 _ hi rfl (by decide)] at o'
    exact o'
theorem plN_set {l : List Nd} {i : Nat} {n : Nd} (hi : l[i]? = some n) : ((l.take i).map plN ++ l.drop i).set i (plN n) = (l.take (i + 1)).map plN ++ l.drop (i + 1) := by
  have hlt := get_lt hi
  have hg : l[i] = n := by rw [List.getElem?_eq_getElem hlt] at hi; exact Option.some.inj hi
  rw [List.set_append_right _ _ (by simp; omega), List.drop_eq_getElem_cons hlt, List.length_map, List.length_take, Nat.min_eq_left (by omega), Nat.sub_self, List.set_cons_zero, List.take_succ_eq_append_getElem hlt, List.map_append, hg]
  simp
theorem plN_get {l : List Nd} {i : Nat} {n : Nd} (hi : l[i]? = some n) : ((l.take i).map plN ++ l.drop i)[i]? = some n := by
  have hlt := get_lt hi
  rw [List.getElem?_append_right (by simp; omega), List.length_map, List.length_take, Nat.min_eq_left (by omega), Nat.sub_self, List.getElem?_drop, Nat.add_zero]
  exact hi
theorem wide_loop (k : Nat) {s : Sl} {l : List Nd} (hl : l.length ≤ 4611686018427387800) (hs : s.len = l.length) : ∀ (j i : Nat) (h : H), i ≤ l.length → l.length - i < j → Own h s 5 (cN ((l.take i).map plN ++ l.drop i)) →
    ∃ h', (∀ (α : Type) (kx : Sl → M α), norm_wide.u4.l k kx j s (l.length : Int) (i : Int) h = kx s h') ∧ Own h' s 5 (cN (l.map plN)) ∧ h'.next = h.next ∧ ∀ i, i ≠ s.id → h'.get i = h.get i := by
  intro j
  induction j with
  | zero => intro i h hi hj; omega
  | succ j ih =>
    intro i h hi hj o
    by_cases hlt : i < l.length
    · have hn : l[i]? = some l[i] := List.getElem?_eq_getElem hlt
      generalize l[i] = n at hn
      have hg := plN_get hn
      by_cases h12 : n.kind = 12
      · obtain ⟨h1, e1, o1, n1, g1⟩ := nd_stk o hg 3
        have : ({ n with kind := 3 } : Nd) = plN n := by unfold plN plK; rw [if_pos h12]
        rw [this, plN_set hn] at o1
        obtain ⟨h2, e2, o2, n2, g2⟩ := ih (i + 1) h1 (by omega) (by omega) o1
        refine ⟨h2, fun α kx => ?_, o2, by omega, fun i hi => by rw [g2 i hi, g1 i hi]⟩
        rw [norm_wide.u4.l, norm_wide.u3.f, dT (by omega : (i : Int) < (l.length : Int)), cond_true, nd_kind o.rd rfl hg, dT h12, cond_true]
        refine (e1 α _).trans ?_
        rw [w64_eq (by omega) (by omega)]
        exact e2 α kx
      · have : plN n = n := by unfold plN plK; rw [if_neg h12]
        have o1 := o
        have e0 := plN_set hn
        rw [this, show ((l.take i).map plN ++ l.drop i).set i n = (l.take i).map plN ++ l.drop i by
          have hlt' := get_lt hg
          rw [List.getElem?_eq_getElem hlt'] at hg
          rw [← Option.some.inj hg]; exact List.set_getElem_self hlt'] at e0
        rw [e0] at o1
        obtain ⟨h2, e2, o2, n2, g2⟩ := ih (i + 1) h (by omega) (by omega) o1
        refine ⟨h2, fun α kx => ?_, o2, n2, g2⟩
        rw [norm_wide.u4.l, norm_wide.u3.f, dT (by omega : (i : Int) < (l.length : Int)), cond_true, nd_kind o.rd rfl hg, dF h12, cond_false, w64_eq (by omega) (by omega)]
        exact e2 α kx
    · refine ⟨h, fun α kx => ?_, ?_, rfl, fun _ _ => rfl⟩
      · rw [norm_wide.u4.l, norm_wide.u3.f, dF (by omega : ¬ (i : Int) < (l.length : Int)), cond_false]
      · rw [List.take_of_length_le (by omega), List.drop_of_length_le (by omega), List.append_nil] at o
        exact o
structure Wide (l : List Nd) (u : Tr) : Prop where
  ok : u.pl.ok = true
  size : u.size ≤ 60
  flat : l = u.flat 0
  chk : (chkT u.pl).2 = 0
def NotWide (l : List Nd) : Prop := rightF (l.map plN) = false ∨ ∃ u : Tr, u.pl.ok = true ∧ u.size ≤ 60 ∧ l = u.flat 0 ∧ (chkT u.pl).2 ≠ 0
theorem wide_or (l : List Nd) : (∃ u, Wide l u) ∨ NotWide l := by
  cases hR : rightF (l.map plN) with
  | false => exact .inr (.inl hR)
  | true =>
    obtain ⟨t, h1, h2, h3⟩ := (right_iff _).1 hR
    obtain ⟨u, rfl, hu⟩ := wide_tree t 0 l h2
    rw [pl_size] at h3
    by_cases hc : (chkT u.pl).2 = 0
    · exact .inl ⟨u, h1, h3, hu, hc⟩
    · exact .inr (.inr ⟨u, h1, h3, hu, hc⟩)
theorem wide_any (k : Nat) {f : Sl} {l : List Nd} (hr : Room l.length) (hk : 600 + l.length ≤ k) (h : H) (r : NdR h f l) :
    ∃ d h', (∀ (α : Type) (ret : Bool → M α), norm_wide.f (k + 1) f ret h = bind_Check.f k d (fun _ e => ret (decide (e = 0))) h') ∧ Ext h h' ∧ NdR h' d (l.map plN) := by
  obtain ⟨k, rfl⟩ : ∃ q, k = q + 1 := ⟨k - 1, by omega⟩
  obtain ⟨d, h1, e1, x1, r1, o1, w1⟩ := clone_run k h r hr
  have hd := nd_slen r1
  have st : ∀ (α : Type) (ret : Bool → M α), norm_wide.f (k + 1 + 1) f ret h = norm_wide.u4.l (k + 1) (fun y0 => norm_wide.u7.f (k + 1) y0 ret) (k + 1) d (l.length : Int) ((0 : Nat) : Int) h1 := by
    intro α ret
    rw [norm_wide.f, norm_wide.u9.f, norm_wide.u1.f, e1, norm_wide.u8.f, norm_wide.u6.f, norm_wide.u2.f, hd, norm_wide.u5.f, norm_wide.u4.f]
    rfl
  by_cases h0 : l = []
  · subst h0
    refine ⟨d, h1, fun α ret => ?_, x1, r1⟩
    rw [st, norm_wide.u4.l, norm_wide.u3.f]
    rfl
  · obtain ⟨h2, e2, o2, n2, g2⟩ := wide_loop (k + 1) (by unfold Room at hr; omega) hd (k + 1) 0 h1 (Nat.zero_le _) (by omega) (o1 h0)
    have hid : h.next ≤ d.id := by
      obtain ⟨id, more, q1, q2, q3⟩ := (o1 h0).blk
      unfold Sl.id
      rw [q1]
      exact w1 _ q1
    refine ⟨d, h2, fun α ret => ?_, ⟨by have := x1.1; omega, fun i hi => ?_⟩, o2.rd⟩
    · rw [st, e2, norm_wide.u7.f]
    · rw [g2 i (by omega)]; exact x1.2 i hi
theorem wide_good (k : Nat) {f : Sl} {l : List Nd} {u : Tr} (w : Wide l u) (hk : 700 ≤ k) (h : H) (r : NdR h f l) :
    ∃ h', (∀ (α : Type) (ret : Bool → M α), norm_wide.f (k + 1) f ret h = ret true h') ∧ Ext h h' := by
  obtain ⟨k, rfl⟩ : ∃ q, k = q + 1 := ⟨k - 1, by omega⟩
  have hl : l.length ≤ 60 := by rw [w.flat, flat_length]; exact w.size
  obtain ⟨d, h1, e1, x1, r1⟩ := wide_any (k + 1) (by unfold Room; omega) (by omega) h r
  rw [w.flat, ← pl_flat] at r1
  obtain ⟨h2, e2, x2⟩ := check_run k (by omega) (t := u.pl) w.ok (by rw [pl_size]; exact w.size) h1 r1
  refine ⟨h2, fun α ret => ?_, x1.trans x2⟩
  rw [e1, e2, w.chk, dT rfl]
theorem wide_not (k : Nat) {f : Sl} {l : List Nd} (w : NotWide l) (hr : Room l.length) (hk : 700 + l.length ≤ k) (h : H) (r : NdR h f l) :
    ∃ h', (∀ (α : Type) (ret : Bool → M α), norm_wide.f (k + 1) f ret h = ret false h') ∧ Ext h h' := by
  obtain ⟨k, rfl⟩ : ∃ q, k = q + 1 := ⟨k - 1, by omega⟩
  obtain ⟨d, h1, e1, x1, r1⟩ := wide_any (k + 1) hr (by omega) h r
  rcases w with w | ⟨u, u1, u2, u3, u4⟩
  · obtain ⟨h2, e2, x2⟩ := check_bad k (by omega) w h1 r1
    refine ⟨h2, fun α ret => ?_, x1.trans x2⟩
    rw [e1, e2, dF (by decide)]
  · rw [u3, ← pl_flat] at r1
    obtain ⟨h2, e2, x2⟩ := check_run k (by omega) (t := u.pl) u1 (by rw [pl_size]; exact u2) h1 r1
    refine ⟨h2, fun α ret => ?_, x1.trans x2⟩
    rw [e1, e2, dF u4]
end Go.Ab.S4
namespace Go.Ab.S4
set_option linter.unusedVariables false
set_option linter.unusedSimpArgs false
variable {α : Type}
theorem dual_run {h : H} (k : Nat) (x : Int) (ret : Int → M α) : norm_dual.f (k + 1) x ret h = ret (dualK x) h := by
  rw [norm_dual.f, norm_dual.u1.f]
  unfold dualK
  by_cases h1 : x = 1
  · rw [dT h1, cond_true, if_pos h1]
  rw [dF h1, cond_false, if_neg h1]
  by_cases h2 : x = 2
  · rw [dT h2, cond_true, if_pos h2]
  rw [dF h2, cond_false, if_neg h2]
  by_cases h3 : x = 3
  · rw [dT h3, cond_true, if_pos h3]
  rw [dF h3, cond_false, if_neg h3]
  by_cases h4 : x = 12
  · rw [dT h4, cond_true, if_pos h4]
  rw [dF h4, cond_false, if_neg h4]
  by_cases h5 : x = 6
  · rw [dT h5, cond_true, if_pos h5]
  rw [dF h5, cond_false, if_neg h5]
  by_cases h6 : x = 7
  · rw [dT h6, cond_true, if_pos h6]
  rw [dF h6, cond_false, if_neg h6]
  by_cases h7 : x = 8
  · rw [dT h7, cond_true, if_pos h7]
  rw [dF h7, cond_false, if_neg h7]
  by_cases h8 : x = 9
  · rw [dT h8, cond_true, if_pos h8]
  rw [dF h8, cond_false, if_neg h8]
  by_cases h9 : x = 10
  · rw [dT h9, cond_true, if_pos h9]
  rw [dF h9, cond_false, if_neg h9]
  by_cases h10 : x = 11
  · rw [dT h10, cond_true, if_pos h10]
  rw [dF h10, cond_false, if_neg h10]
structure MS (h₀ h : H) (m : Nat) (f : Sl) (l : List Nd) (o : Sl) (O : List Nd) : Prop where
  ext : Ext h₀ h
  blk : h.get m = some (.cells [.slice f, .slice o] true)
  mlt : m < h.next
  m0 : h₀.next ≤ m
  f : NdR h₀ f l
  ap : App h o 5 (cN O)
  low : Owned h₀ o
  nm : ∀ a, o.ad = some a → a.id ≠ m
def Qt (h : H) (m : Nat) (o : Sl) (h' : H) : Prop := h.next ≤ h'.next ∧ ∀ i, i < h.next → i ≠ m → (∀ a, o.ad = some a → i ≠ a.id) → h'.get i = h.get i
section
variable {h₀ h h1 h2 : H} {m q : Nat} {f o o1 : Sl} {l O : List Nd} {n : Nd}
theorem Qt.of (x : Ext h h1) : Qt h m o h1 := ⟨x.1, fun i hi _ _ => x.2 i hi⟩
theorem Qt.trans (a : Qt h m o h1) (hn : ∀ a, o1.ad = some a → h.next ≤ a.id ∨ o1.ad = o.ad) (b : Qt h1 m o1 h2) : Qt h m o h2 :=
  ⟨Nat.le_trans a.1 b.1, fun i hi hm ho => by
    rw [b.2 i (Nat.lt_of_lt_of_le hi a.1) hm (fun c hc => ?_), a.2 i hi hm ho]
    rcases hn c hc with h | h
    · omega
    · exact ho c (by rw [← h]; exact hc)⟩
theorem MS.olt (W : MS h₀ h m f l o O) : ∀ a, o.ad = some a → a.id < h.next := fun a ha => (W.ap.rd.row a ha).2
theorem MS.push (W : MS h₀ h m f l o O) (x : Ext h h1) : MS h₀ h1 m f l o O :=
  ⟨W.ext.trans x, by rw [x.2 _ W.mlt]; exact W.blk, Nat.lt_of_lt_of_le W.mlt x.1, W.m0, W.f, W.ap.ext x, W.low, W.nm⟩
theorem MS.putq (W : MS h₀ h m f l o O) (b : Option Blk) (h0 : h₀.next ≤ q) (hm : q ≠ m) (ho : ∀ a, o.ad = some a → q ≠ a.id) : MS h₀ (h.put q b) m f l o O :=
  ⟨W.ext.put b h0, by rw [put_get_if, if_neg (Ne.symm hm)]; exact W.blk, W.mlt, W.m0, W.f, W.ap.keep (Nat.le_refl _) (fun a ha => by rw [put_get_if, if_neg (Ne.symm (ho a ha))]), W.low, W.nm⟩
theorem set_at (hq : h.get q = some (ndC n)) {j : Nat} {v : V} (n' : Nd) (hj : j < 5) (hv : oneV v = true) (hs : n'.cells = n.cells.set j v) (K : M α) : st1 (((⟨q, 0⟩ : Ad).add j).add 0) v K h = K (h.put q (some (ndC n'))) := by
  simp only [add_mk, Nat.zero_add, Nat.add_zero]
  rw [st1_run (a := ⟨q, j⟩) hq hv hj]
  show K (h.put q (some (.cells (n.cells.set j v) true))) = _
  rw [← hs]
  rfl
theorem ms_f (W : MS h₀ h m f l o O) (K : Sl → M α) : ldS (((⟨m, 0⟩ : Ad).add 0).add 0) K h = K f h := ldS_run (by simp only [add_mk]; rw [cell_of (a := ⟨m, 0 + 0 + 0⟩) W.blk]; rfl)
theorem ms_o (W : MS h₀ h m f l o O) (K : Sl → M α) : ldS (((⟨m, 0⟩ : Ad).add 1).add 0) K h = K o h := ldS_run (by simp only [add_mk]; rw [cell_of (a := ⟨m, 0 + 1 + 0⟩) W.blk]; rfl)
theorem fin_run (W : MS h₀ h m f l o O) (hq : h.get q = some (ndC n)) (hql : q < h.next) (h0 : h₀.next ≤ q) (hm : q ≠ m) (ho : ∀ a, o.ad = some a → q ≠ a.id) (hO : O.length ≤ 1000) (k : Nat) (neg : Bool) :
    ∃ h' o', (∀ (α : Type) (ret : Int → M α), norm_maker_node.u4.f (k + 1) ⟨m, 0⟩ neg ⟨q, 0⟩ ret h = ret (O.length : Int) h') ∧ MS h₀ h' m f l o' (O ++ [{ n with kind := negK neg n.kind }]) ∧ (∀ a, o'.ad = some a → h.next ≤ a.id) ∧
      h.next ≤ h'.next ∧ ∀ i, i < h.next → i ≠ m → i ≠ q → (∀ a, o.ad = some a → i ≠ a.id) → h'.get i = h.get i := by
  -- the kind
  obtain ⟨h1, e1, M1, q1, n1, g1⟩ : ∃ h1, (∀ (α : Type) (kn : Ad → Ad → M α), norm_maker_node.u2.f (k + 1) ⟨m, 0⟩ neg ⟨q, 0⟩ kn h = kn ⟨m, 0⟩ ⟨q, 0⟩ h1) ∧ MS h₀ h1 m f l o O ∧ h1.get q = some (ndC { n with kind := negK neg n.kind }) ∧ h1.next = h.next ∧ ∀ i, i ≠ q → h1.get i = h.get i := by
    cases neg with
    | false => exact ⟨h, fun α kn => by rw [norm_maker_node.u2.f, cond_false], W, hq, rfl, fun _ _ => rfl⟩
    | true =>
      refine ⟨h.put q (some (ndC { n with kind := dualK n.kind })), fun α kn => ?_, W.putq _ h0 hm ho, put_get _ _ _, rfl, fun i hi => by rw [put_get_if, if_neg hi]⟩
      have hk : ∀ K : Int → M α, ldI .i64 (((⟨q, 0⟩ : Ad).add 0).add 0) K h = K n.kind h := fun K => own_kind hq K
      rw [norm_maker_node.u2.f, cond_true, hk, dual_run, set_at hq { n with kind := dualK n.kind } (by decide) rfl rfl]
  generalize hn' : ({ n with kind := negK neg n.kind } : Nd) = n' at q1
  have hol := nd_slen M1.ap.rd
  have x2 : Ext h1 (h1.push (ndC n')) := (Ext.refl h1).push _
  have M2 := M1.push x2
  have rx : Rd (h1.push (ndC n')) ⟨some ⟨h1.next, 0⟩, 1, 1, none⟩ 5 n'.cells := Rd.pushed h1 rfl
  obtain ⟨h3, e3, ap3, g3, kp3⟩ := app_row (bytes := 48) M2.ap rx (by show 0 < 1; decide) (by decide) (by rw [hol]; show (O.length + 1 + (O.length + 1) / 4 + 512) * 48 ≤ _; omega)
  have hm3 : h3.get m = some (.cells [.slice f, .slice o] true) := by
    rw [kp3.2 m M2.mlt (fun _ a ha => Ne.symm (M2.nm a ha))]; exact M2.blk
  have hn3 : h3.next = h1.next + 2 := by rw [kp3.1]; rfl
  have hc : cN O ++ n'.cells = cN (O ++ [n']) := by simp [List.flatMap_append]
  rw [hc] at ap3
  have hmlt := M1.mlt
  have hm0 := W.m0
  refine ⟨h3.put m (some (.cells [.slice f, .slice ⟨some ⟨h1.next + 1, 0⟩, o.len + 1, o.len + 1, some 5⟩] true)), ⟨some ⟨h1.next + 1, 0⟩, o.len + 1, o.len + 1, some 5⟩, fun α ret => ?_, ?_, ?_, ?_, ?_⟩
  · rw [norm_maker_node.u4.f, e1, norm_maker_node.u3.f, ms_o M1, own_all q1, new_run rfl]
    show (ldS _ _) (h1.push (ndC n')) = _
    rw [ms_o M2, need_run (dT rfl), e3]
    simp only [add_mk, Nat.zero_add, Nat.add_zero]
    rw [st1_run (a := ⟨m, 1⟩) hm3 rfl (by simp), ldS_run (n := ⟨some ⟨h1.next + 1, 0⟩, o.len + 1, o.len + 1, some 5⟩) (by rw [cell_of (a := ⟨m, 1⟩) (put_get _ _ _)]; rfl)]
    show ret (w64 (((o.len + 1 : Nat) : Int) - 1)) _ = _
    rw [hol, w64_eq (by omega) (by omega), show (((O.length + 1 : Nat) : Int) - 1) = (O.length : Int) by omega]
    rfl
  · have x3 : Ext h₀ h3 := kp3.ext M2.ext (fun a ha => M2.low a ha)
    refine ⟨x3.put _ W.m0, put_get _ _ _, by show m < h3.next; omega, W.m0, W.f, ?_, fun a ha => ?_, fun a ha => ?_⟩
    · refine ap3.keep (Nat.le_refl _) fun a ha => ?_
      cases ha
      rw [put_get_if, if_neg (by show h1.next + 1 ≠ m; omega)]
    · cases ha; show h₀.next ≤ h1.next + 1; omega
    · cases ha; show h1.next + 1 ≠ m; omega
  · intro a ha
    cases ha
    show h.next ≤ h1.next + 1
    omega
  · show h.next ≤ h3.next
    omega
  · intro i hi him hiq hio
    rw [put_get_if, if_neg him, kp3.2 i (by show i < h1.next + 1; omega) (fun _ a ha => hio a ha), x2.2 i (by omega), g1 i hiq]
def NR (h₀ : H) (m : Nat) (f : Sl) (l : List Nd) (t : Tr) : Prop :=
  ∀ (base : Nat) (neg : Bool) (k : Nat) (h : H) (o : Sl) (O : List Nd), (∀ i n, (t.flat base)[i]? = some n → l[base + i]? = some n) → t.size + 5 ≤ k → MS h₀ h m f l o O → O.length + t.size ≤ 1000 →
    ∃ h' o', (∀ (α : Type) (ret : Int → M α), norm_maker_node.f k ⟨m, 0⟩ ((base + t.size - 1 : Nat) : Int) neg ret h = ret ((O.length + (nfT t neg).size - 1 : Nat) : Int) h') ∧
      MS h₀ h' m f l o' (O ++ (nfT t neg).flat O.length) ∧ Qt h m o h' ∧ (∀ a, o'.ad = some a → h.next ≤ a.id)
theorem mk_start (W : MS h₀ h m f l o O) {i : Nat} (hi : l[i]? = some n) (k : Nat) (neg : Bool) (ret : Int → M α) :
    norm_maker_node.f (k + 1) ⟨m, 0⟩ (i : Int) neg ret h =
      (if n.kind = 5 then norm_maker_node.f k ⟨m, 0⟩ n.a (!neg) ret
      else if n.kind = 6 ∨ n.kind = 7 then norm_maker_node.f k ⟨m, 0⟩ n.a neg fun r => ldI .i64 (((⟨h.next, 0⟩ : Ad).add 2).add 0) fun y => need (decide (n.b = y)) <| norm_maker_node.f k ⟨m, 0⟩ n.b neg fun r' => st1 (((⟨h.next, 0⟩ : Ad).add 1).add 0) (.int .i64 r) <| st1 (((⟨h.next, 0⟩ : Ad).add 2).add 0) (.int .i64 r') <| norm_maker_node.u4.f k ⟨m, 0⟩ neg ⟨h.next, 0⟩ ret
      else if n.kind = 8 ∨ n.kind = 9 ∨ n.kind = 10 ∨ n.kind = 11 then norm_maker_node.f k ⟨m, 0⟩ n.a neg fun r => st1 (((⟨h.next, 0⟩ : Ad).add 1).add 0) (.int .i64 r) <| norm_maker_node.u4.f k ⟨m, 0⟩ neg ⟨h.next, 0⟩ ret
      else norm_maker_node.u4.f k ⟨m, 0⟩ neg ⟨h.next, 0⟩ ret) (h.push (ndC n)) := by
  have hq : (h.push (ndC n)).get h.next = some (ndC n) := by rw [push_get, if_pos rfl]
  rw [norm_maker_node.f, norm_maker_node.u5.f, norm_maker_node.u1.f, ms_f W, nd_rd (W.f.ext W.ext) rfl hi, nd_copy, own_kind hq]
  by_cases h5 : n.kind = 5
  · rw [dT h5, cond_true, own_a hq, if_pos h5]
  rw [dF h5, cond_false, own_kind hq, if_neg h5]
  by_cases h6 : n.kind = 6
  · rw [dT h6, cond_true, cond_true, own_a hq, own_b hq, if_pos (.inl h6)]
  rw [dF h6, cond_false]
  by_cases h7 : n.kind = 7
  · rw [dT h7, cond_true, own_a hq, own_b hq, if_pos (.inr h7)]
  rw [dF h7, cond_false, if_neg (by omega)]
  by_cases h8 : n.kind = 8
  · rw [dT h8, cond_true, cond_true, own_a hq, if_pos (.inl h8)]
  rw [dF h8, cond_false]
  by_cases h9 : n.kind = 9
  · rw [dT h9, cond_true, cond_true, own_a hq, if_pos (.inr (.inl h9))]
  rw [dF h9, cond_false]
  by_cases h10 : n.kind = 10
  · rw [dT h10, cond_true, cond_true, own_a hq, if_pos (.inr (.inr (.inl h10)))]
  rw [dF h10, cond_false]
  by_cases h11 : n.kind = 11
  · rw [dT h11, cond_true, own_a hq, if_pos (.inr (.inr (.inr h11)))]
  rw [dF h11, cond_false, if_neg (by omega)]
theorem mroot (t : Tr) (base : Nat) : (t.flat base)[t.size - 1]? = some (t.node base) := by
  cases t with
  | leaf k s p => rfl
  | un k s p a =>
    simp only [Tr.flat, Tr.size]
    rw [List.getElem?_append_right (by rw [flat_length]; omega), flat_length]
    simp
  | bin k s p a b =>
    simp only [Tr.flat, Tr.size]
    rw [List.getElem?_append_right (by rw [flat_length]; omega), flat_length, List.getElem?_append_right (by rw [flat_length]; omega), flat_length, show a.size + b.size + 1 - 1 - a.size - b.size = 0 by omega]
    rfl
theorem mroot_at {t : Tr} {base : Nat} (hfl : ∀ i n, (t.flat base)[i]? = some n → l[base + i]? = some n) : l[base + t.size - 1]? = some (t.node base) := by
  have := hfl _ _ (mroot t base)
  have hp := Tr.pos t
  rw [show base + t.size - 1 = base + (t.size - 1) by omega]
  exact this
theorem make_run (hf : NdR h₀ f l) : ∀ t : Tr, t.pl.ok = true → NR h₀ m f l t
  | .leaf kd s p, hok => by
    intro base neg k h o O hfl hk W hO
    obtain ⟨k, rfl⟩ : ∃ q, k = q + 2 := ⟨k - 2, by omega⟩
    simp only [Tr.pl, Tr.ok, Bool.and_eq_true, decide_eq_true_eq] at hok
    have hkk := arF_kinds (k := kd) (by omega)
    have hn := mroot_at hfl
    have x1 : Ext h (h.push (ndC ((Tr.leaf kd s p).node base))) := (Ext.refl h).push _
    have hq : (h.push (ndC ((Tr.leaf kd s p).node base))).get h.next = some (ndC ((Tr.leaf kd s p).node base)) := by rw [push_get, if_pos rfl]
    have hml := W.mlt
    have h0l := W.ext.1
    obtain ⟨h', o', e, W', q1, q2, q3⟩ := fin_run (W.push x1) hq (by rw [push_next]; omega) (by omega) (by omega) (fun a ha => by have := W.olt a ha; omega) (by simp only [Tr.size] at hO; omega) k neg
    refine ⟨h', o', fun α ret => ?_, W', ?_, fun a ha => by have := q1 a ha; rw [push_next] at this; omega⟩
    · rw [mk_start W hn]
      have hk' : ((Tr.leaf kd s p).node base).kind = kd := rfl
      rw [hk', if_neg (by rintro rfl; exact absurd hok.1 (by decide)), if_neg (by rintro (rfl | rfl) <;> exact absurd hok.1 (by decide)), if_neg (by rintro (rfl | rfl | rfl | rfl) <;> exact absurd hok.1 (by decide)), e]
      simp [nfT, Tr.size]
    · refine ⟨by rw [push_next] at q2; omega, fun i hi hm ho => ?_⟩
      rw [q3 i (by rw [push_next]; omega) hm (by omega) ho, x1.2 i hi]
  | .un kd s p a, hok => by
    intro base neg k h o O hfl hk W hO
    obtain ⟨k, rfl⟩ : ∃ q, k = q + 2 := ⟨k - 2, by omega⟩
    simp only [Tr.pl, Tr.ok, Bool.and_eq_true, decide_eq_true_eq] at hok
    have hkk := arF_kinds (k := kd) (by omega)
    simp only [Tr.size] at hO hk
    have hn := mroot_at hfl
    have hsub := flat_sub (l := l) (a := a) (base := base) (rest := [(Tr.un kd s p a).node base]) hfl
    have x1 : Ext h (h.push (ndC ((Tr.un kd s p a).node base))) := (Ext.refl h).push _
    have hq : (h.push (ndC ((Tr.un kd s p a).node base))).get h.next = some (ndC ((Tr.un kd s p a).node base)) := by rw [push_get, if_pos rfl]
    have hml := W.mlt
    have h0l := W.ext.1
    by_cases h5 : kd = 5
    · obtain ⟨h', o', e, W', q1, q2⟩ := make_run hf a hok.2 base (!neg) (k + 1) _ o O hsub.1 (by omega) (W.push x1) (by omega)
      refine ⟨h', o', fun α ret => ?_, ?_, (Qt.of x1).trans (fun _ _ => .inr rfl) q1, fun a ha => by have := q2 a ha; rw [push_next] at this; omega⟩
      · rw [mk_start W hn, show ((Tr.un kd s p a).node base).kind = 5 from h5, if_pos rfl]
        simp only [nfT, if_pos h5]
        exact e α ret
      · simp only [nfT, if_pos h5]; exact W'
    · obtain ⟨h2, o2, e2, M2, q2, w2⟩ := make_run hf a hok.2 base neg (k + 1) _ o O hsub.1 (by omega) (W.push x1) (by omega)
      have hq2 : h2.get h.next = some (ndC ((Tr.un kd s p a).node base)) := by
        rw [q2.2 h.next (by rw [push_next]; omega) (by omega) (fun a ha => by have := W.olt a ha; omega)]; exact hq
      have hn2 := q2.1
      rw [push_next] at hn2
      have ho2 : ∀ a, o2.ad = some a → h.next ≠ a.id := fun a ha => by have := w2 a ha; rw [push_next] at this; omega
      have M3 := M2.putq (q := h.next) (some (ndC { (Tr.un kd s p a).node base with a := ((O.length + (nfT a neg).size - 1 : Nat) : Int) })) (by omega) (by omega) ho2
      have hla := nf_le a neg
      obtain ⟨h', o', e, W', q1, q2', q3⟩ := fin_run M3 (put_get _ _ _) (by show h.next < h2.next; omega) (by omega) (by omega) ho2 (by rw [List.length_append, flat_length]; omega) k neg
      refine ⟨h', o', fun α ret => ?_, ?_, ⟨by have : h2.next ≤ h'.next := q2'; omega, fun i hi hm ho => ?_⟩, fun a ha => by have : h2.next ≤ a.id := q1 a ha; omega⟩
      · have hk' : ((Tr.un kd s p a).node base).kind = kd := rfl
        have hr : kd = 8 ∨ kd = 9 ∨ kd = 10 ∨ kd = 11 := by
          rcases hkk with rfl | rfl | rfl | rfl | rfl | rfl | rfl | rfl | rfl | rfl | rfl | rfl <;> first | (exact absurd hok.1.1 (by decide)) | omega
        rw [mk_start W hn, hk', if_neg h5, if_neg (by omega), if_pos hr]
        refine (e2 α _).trans ?_
        rw [set_at hq2 { (Tr.un kd s p a).node base with a := ((O.length + (nfT a neg).size - 1 : Nat) : Int) } (by decide) rfl rfl, e, List.length_append, flat_length]
        simp only [nfT, if_neg h5, Tr.size]
        congr 2
      · simp only [nfT, if_neg h5, Tr.flat]
        rw [List.append_assoc] at W'
        exact W'
      · rw [q3 i (by show i < h2.next; omega) hm (by omega) (fun a ha => by have := w2 a ha; rw [push_next] at this; omega), put_get_if, if_neg (by omega), q2.2 i (by rw [push_next]; omega) hm ho, x1.2 i hi]
  | .bin kd s p a c, hok => by
    intro base neg k h o O hfl hk W hO
    obtain ⟨k, rfl⟩ : ∃ q, k = q + 2 := ⟨k - 2, by omega⟩
    simp only [Tr.pl, Tr.ok, Bool.and_eq_true, decide_eq_true_eq] at hok
    have hkk := arF_kinds (k := kd) (by omega)
    simp only [Tr.size] at hO hk
    have hn := mroot_at hfl
    have hs1 := flat_sub (l := l) (a := a) (base := base) (rest := c.flat (base + a.size) ++ [(Tr.bin kd s p a c).node base]) hfl
    have hs2 := flat_sub (l := l) (a := c) (base := base + a.size) (rest := [(Tr.bin kd s p a c).node base]) hs1.2
    have x1 : Ext h (h.push (ndC ((Tr.bin kd s p a c).node base))) := (Ext.refl h).push _
    have hq : (h.push (ndC ((Tr.bin kd s p a c).node base))).get h.next = some (ndC ((Tr.bin kd s p a c).node base)) := by rw [push_get, if_pos rfl]
    have hml := W.mlt
    have h0l := W.ext.1
    obtain ⟨h2, o2, e2, M2, q2, w2⟩ := make_run hf a hok.1.2 base neg (k + 1) _ o O hs1.1 (by omega) (W.push x1) (by omega)
    have hq2 : h2.get h.next = some (ndC ((Tr.bin kd s p a c).node base)) := by
      rw [q2.2 h.next (by rw [push_next]; omega) (by omega) (fun a ha => by have := W.olt a ha; omega)]; exact hq
    have hn2 := q2.1
    rw [push_next] at hn2
    have hla := nf_le a neg
    have hlc := nf_le c neg
    have hpa := Tr.pos (nfT a neg)
    have hpc := Tr.pos (nfT c neg)
    obtain ⟨h3, o3, e3, M3, q3, w3⟩ := make_run hf c hok.2 (base + a.size) neg (k + 1) h2 o2 _ hs2.1 (by omega) M2 (by rw [List.length_append, flat_length]; omega)
    have hq3 : h3.get h.next = some (ndC ((Tr.bin kd s p a c).node base)) := by
      rw [q3.2 h.next (by omega) (by omega) (fun a ha => by have := w2 a ha; rw [push_next] at this; omega)]; exact hq2
    have hn3 := q3.1
    have ho3 : ∀ a, o3.ad = some a → h.next ≠ a.id := fun a ha => by have := w3 a ha; omega
    generalize hr1 : ((O.length + (nfT a neg).size - 1 : Nat) : Int) = r1 at e2
    generalize hr2 : (((O ++ (nfT a neg).flat O.length).length + (nfT c neg).size - 1 : Nat) : Int) = r2 at e3
    have M4 := (M3.putq (q := h.next) (some (ndC { (Tr.bin kd s p a c).node base with a := r1 })) (by omega) (by omega) ho3).putq (q := h.next) (some (ndC { (Tr.bin kd s p a c).node base with a := r1, b := r2 })) (by omega) (by omega) ho3
    obtain ⟨h', o', e, W', p1, p2, p3⟩ := fin_run M4 (put_get _ _ _) (by show h.next < h3.next; omega) (by omega) (by omega) ho3 (by rw [List.length_append, List.length_append, flat_length, flat_length]; omega) k neg
    rw [List.length_append, flat_length] at hr2
    refine ⟨h', o', fun α ret => ?_, ?_, ⟨by have : h3.next ≤ h'.next := p2; omega, fun i hi hm ho => ?_⟩, fun a ha => by have : h3.next ≤ a.id := p1 a ha; omega⟩
    · have hk' : ((Tr.bin kd s p a c).node base).kind = kd := rfl
      have hr : kd = 6 ∨ kd = 7 := by
        rcases hkk with rfl | rfl | rfl | rfl | rfl | rfl | rfl | rfl | rfl | rfl | rfl | rfl <;> first | (exact absurd hok.1.1.1 (by decide)) | omega
      rw [mk_start W hn, hk', if_neg (by omega), if_pos hr]
      refine (e2 α _).trans ?_
      rw [own_b hq2, need_run (dT rfl)]
      refine (e3 α _).trans ?_
      rw [set_at hq3 { (Tr.bin kd s p a c).node base with a := r1 } (by decide) rfl rfl, set_at (put_get _ _ _) { (Tr.bin kd s p a c).node base with a := r1, b := r2 } (by decide) rfl rfl, e, List.length_append, List.length_append, flat_length, flat_length]
      simp only [nfT, Tr.size]
      congr 2
      omega
    · simp only [nfT, Tr.flat]
      rw [List.append_assoc, List.append_assoc, List.length_append, flat_length] at W'
      have e : (Tr.bin (negK neg kd) s p (nfT a neg) (nfT c neg)).node O.length = { (Tr.bin kd s p a c).node base with a := r1, b := r2, kind := negK neg kd } := by
        simp only [Tr.node, Nd.mk.injEq, true_and]
        exact ⟨hr1, hr2, trivial⟩
      rw [e]
      exact W'
    · rw [p3 i (by show i < h3.next; omega) hm (by omega) (fun a ha => by have := w3 a ha; omega), put_get_if, if_neg (by omega), put_get_if, if_neg (by omega), q3.2 i (by omega) hm (fun a ha => by have := w2 a ha; rw [push_next] at this; omega), q2.2 i (by rw [push_next]; omega) hm ho, x1.2 i hi]
end
end Go.Ab.S4
