import Derived.Test.YtkfoohgkbafafaaS3n
namespace Go.Ab.S3
set_option linter.unusedVariables false
set_option linter.unusedSimpArgs false
variable {α : Type} {h : H}
/-! #### the way up -/
def Chain (l : List Nd) (U : List Int) : Int → Anc → Prop
  | m, [] => m = -1
  | m, (i, n) :: A => m = (i : Int) ∧ l[i]? = some n ∧ ∃ m', U[i]? = some m' ∧ Chain l U m' A
def findR (name : List UInt8) : Anc → Nat → Option (Nat × Nat)
  | [], _ => none
  | (i, n) :: A, c => if fixK n.kind = true ∧ n.name = name then some (i, c) else findR name A (if n.kind = 5 then c + 1 else c)
theorem findR_S (name : List UInt8) : ∀ (A : Anc) (c : Nat), findR name A c = (findS name A).map fun p => (p.1, c + (cntN A - p.2))
  | [], c => rfl
  | (i, n) :: A, c => by
    simp only [findR, findS]
    by_cases h : fixK n.kind = true ∧ n.name = name
    · rw [if_pos h, if_pos h]
      have h5 : n.kind ≠ 5 := by
        intro e; rw [e] at h; exact absurd h.1 (by decide)
      simp [cntN, h5]
    · rw [if_neg h, if_neg h, findR_S name A]
      cases hf : findS name A with
      | none => rfl
      | some p =>
        obtain ⟨j, m⟩ := p
        have := findS_le hf
        simp only [Option.map_some, cntN]
        split <;> simp <;> omega
/-- each node's way up, and who binds there -/
theorem chain_tree {l : List Nd} {U : List Int} : ∀ (t : Tr) (base : Nat) (A : Anc) (p : Int), t.ok = true → (∀ i n, (t.flat base)[i]? = some n → l[base + i]? = some n) → (∀ (i : Nat) (v : Int), (upA t base p)[i]? = some v → U[base + i]? = some v) → Chain l U p A →
    ∀ i n, (t.flat base)[i]? = some n → ∃ (B : Anc) (m : Int), U[base + i]? = some m ∧ Chain l U m B ∧ (toA t base A)[i]? = some (toLeaf n.kind n.name B) ∧ (oddA t base A)[i]? = some (oddLeaf n.kind n.name B) ∧ B.length ≤ A.length + t.size
  | .leaf k s q, base, A, p, ht, hl, hU, hc, i, n, hi => by
    have h1 := get_lt hi
    rw [flat_length] at h1
    have : i = 0 := by simp only [Tr.size] at h1; omega
    subst this
    simp only [Tr.flat, List.getElem?_cons_zero, Option.some.injEq] at hi
    subst hi
    exact ⟨A, p, hU 0 p rfl, hc, rfl, rfl, by omega⟩
  | .un k s q a, base, A, p, ht, hl, hU, hc, i, n, hi => by
    simp only [Tr.ok, Bool.and_eq_true, decide_eq_true_eq] at ht
    have hsub := flat_sub (l := l) (a := a) (base := base) (rest := [(Tr.un k s q a).node base]) hl
    have hself : l[base + a.size]? = some ((Tr.un k s q a).node base) := hsub.2 0 _ rfl
    have hUs : U[base + a.size]? = some p := hU a.size p (by simp only [upA]; rw [List.getElem?_append_right (by rw [upA_length]; omega), upA_length, Nat.sub_self]; rfl)
    have hUa : ∀ (i : Nat) (v : Int), (upA a base ((base + a.size : Nat) : Int))[i]? = some v → U[base + i]? = some v := fun i v h => hU i v (by simp only [upA]; rw [List.getElem?_append_left (get_lt h)]; exact h)
    have hc' : Chain l U ((base + a.size : Nat) : Int) ((base + a.size, (Tr.un k s q a).node base) :: A) := ⟨rfl, hself, p, hUs, hc⟩
    simp only [Tr.flat] at hi
    by_cases hlt : i < a.size
    · rw [List.getElem?_append_left (by rw [flat_length]; exact hlt)] at hi
      obtain ⟨B, m, b1, b2, b3, b4, b5⟩ := chain_tree a base _ _ ht.2 hsub.1 hUa hc' i n hi
      refine ⟨B, m, b1, b2, ?_, ?_, by simp only [List.length_cons, Tr.size] at b5 ⊢; omega⟩
      · simp only [toA]; rw [List.getElem?_append_left (by rw [toA_length]; exact hlt)]; exact b3
      · simp only [oddA]; rw [List.getElem?_append_left (by rw [oddA_length]; exact hlt)]; exact b4
    · have h1 := get_lt hi
      simp only [List.length_append, flat_length, List.length_cons, List.length_nil] at h1
      have : i = a.size := by omega
      subst this
      rw [List.getElem?_append_right (by rw [flat_length]; omega), flat_length, Nat.sub_self] at hi
      simp only [List.getElem?_cons_zero, Option.some.injEq] at hi
      subst hi
      have h4 : k ≠ 4 := by
        intro e; rw [e] at ht; exact absurd ht.1.1 (by decide)
      refine ⟨A, p, hUs, hc, ?_, ?_, by omega⟩
      · simp only [toA]
        rw [List.getElem?_append_right (by rw [toA_length]; omega), toA_length, Nat.sub_self]
        simp [toLeaf, Tr.node, h4]
      · simp only [oddA]
        rw [List.getElem?_append_right (by rw [oddA_length]; omega), oddA_length, Nat.sub_self]
        simp [oddLeaf, Tr.node, h4]
  | .bin k s q a b, base, A, p, ht, hl, hU, hc, i, n, hi => by
    simp only [Tr.ok, Bool.and_eq_true, decide_eq_true_eq] at ht
    have hsub := flat_sub (l := l) (a := a) (base := base) (rest := b.flat (base + a.size) ++ [(Tr.bin k s q a b).node base]) hl
    have hsub2 := flat_sub (l := l) (a := b) (base := base + a.size) (rest := [(Tr.bin k s q a b).node base]) hsub.2
    have hself : l[base + a.size + b.size]? = some ((Tr.bin k s q a b).node base) := hsub2.2 0 _ rfl
    have hUs : U[base + a.size + b.size]? = some p := by
      have := hU (a.size + b.size) p (by
        simp only [upA]
        rw [List.getElem?_append_right (by rw [upA_length]; omega), upA_length, List.getElem?_append_right (by rw [upA_length]; omega), upA_length, show a.size + b.size - a.size - b.size = 0 by omega]; rfl)
      rwa [← Nat.add_assoc] at this
    have hUa : ∀ (i : Nat) (v : Int), (upA a base ((base + a.size + b.size : Nat) : Int))[i]? = some v → U[base + i]? = some v := fun i v h => hU i v (by simp only [upA]; rw [List.getElem?_append_left (get_lt h)]; exact h)
    have hUb : ∀ (i : Nat) (v : Int), (upA b (base + a.size) ((base + a.size + b.size : Nat) : Int))[i]? = some v → U[base + a.size + i]? = some v := fun i v h => by
      have := hU (a.size + i) v (by
        simp only [upA]
        rw [List.getElem?_append_right (by rw [upA_length]; omega), upA_length, show a.size + i - a.size = i by omega, List.getElem?_append_left (get_lt h)]; exact h)
      rwa [← Nat.add_assoc] at this
    have hc' : Chain l U ((base + a.size + b.size : Nat) : Int) ((base + a.size + b.size, (Tr.bin k s q a b).node base) :: A) := ⟨rfl, hself, p, hUs, hc⟩
    simp only [Tr.flat] at hi
    by_cases hlt : i < a.size
    · rw [List.getElem?_append_left (by rw [flat_length]; exact hlt)] at hi
      obtain ⟨B, m, b1, b2, b3, b4, b5⟩ := chain_tree a base _ _ ht.1.2 hsub.1 hUa hc' i n hi
      have := Tr.pos b
      refine ⟨B, m, b1, b2, ?_, ?_, by simp only [List.length_cons, Tr.size] at b5 ⊢; omega⟩
      · simp only [toA]; rw [List.getElem?_append_left (by rw [toA_length]; exact hlt)]; exact b3
      · simp only [oddA]; rw [List.getElem?_append_left (by rw [oddA_length]; exact hlt)]; exact b4
    · rw [List.getElem?_append_right (by rw [flat_length]; omega), flat_length] at hi
      have e0 : base + a.size + (i - a.size) = base + i := by omega
      by_cases hlt2 : i - a.size < b.size
      · rw [List.getElem?_append_left (by rw [flat_length]; exact hlt2)] at hi
        obtain ⟨B, m, b1, b2, b3, b4, b5⟩ := chain_tree b (base + a.size) _ _ ht.2 hsub2.1 hUb hc' (i - a.size) n hi
        have := Tr.pos a
        rw [e0] at b1
        refine ⟨B, m, b1, b2, ?_, ?_, by simp only [List.length_cons, Tr.size] at b5 ⊢; omega⟩
        · simp only [toA]; rw [List.getElem?_append_right (by rw [toA_length]; omega), toA_length, List.getElem?_append_left (by rw [toA_length]; exact hlt2)]; exact b3
        · simp only [oddA]; rw [List.getElem?_append_right (by rw [oddA_length]; omega), oddA_length, List.getElem?_append_left (by rw [oddA_length]; exact hlt2)]; exact b4
      · have h1 := get_lt hi
        simp only [List.length_append, flat_length, List.length_cons, List.length_nil] at h1
        have : i = a.size + b.size := by omega
        subst this
        rw [List.getElem?_append_right (by rw [flat_length]; omega), flat_length, show a.size + b.size - a.size - b.size = 0 by omega] at hi
        simp only [List.getElem?_cons_zero, Option.some.injEq] at hi
        subst hi
        have h4 : k ≠ 4 := by
          intro e; rw [e] at ht; exact absurd ht.1.1.1 (by decide)
        refine ⟨A, p, by rw [← Nat.add_assoc]; exact hUs, hc, ?_, ?_, by omega⟩
        · simp only [toA]
          rw [List.getElem?_append_right (by rw [toA_length]; omega), toA_length, List.getElem?_append_right (by rw [toA_length]; omega), toA_length, show a.size + b.size - a.size - b.size = 0 by omega]
          simp [toLeaf, Tr.node, h4]
        · simp only [oddA]
          rw [List.getElem?_append_right (by rw [oddA_length]; omega), oddA_length, List.getElem?_append_right (by rw [oddA_length]; omega), oddA_length, show a.size + b.size - a.size - b.size = 0 by omega]
          simp [oddLeaf, Tr.node, h4]
section
variable {h₀ : H} {f up : Sl} {l : List Nd} {U : List Int}
theorem binder_loop (r : NdR h₀ f l) (ru : Rd h₀ up 1 (cIs U)) {a : Nat} {n0 : Nd} (hn0 : l[a]? = some n0) (k : Nat) : ∀ (A : Anc) (m : Int) (c j : Nat) (h : H), Chain l U m A → A.length < j → c + A.length ≤ 1000 → Ext h₀ h →
    ∃ h', Ext h₀ h' ∧ ∀ (α : Type) (kr : Int → Int → M α) (kx : M α), r5binder.u4.l (k + 1) kr kx j f up (a : Int) (c : Int) m h = (match findR n0.name A c with | some (i, d) => kr i d h' | none => kx h') := by
  intro A
  induction A with
  | nil =>
    intro m c j h hc hj hb x
    obtain ⟨j, rfl⟩ : ∃ q, j = q + 1 := ⟨j - 1, by simp at hj; omega⟩
    have hm : m = -1 := hc
    subst hm
    refine ⟨h, x, fun α kr kx => ?_⟩
    rw [r5binder.u4.l, r5binder.u3.f, dF (by omega : ¬ (0 : Int) ≤ -1), cond_false]
    rfl
  | cons p A ih =>
    intro m c j h hc hj hb x
    obtain ⟨i, n⟩ := p
    obtain ⟨rfl, hi, m', hm', hc'⟩ := hc
    simp only [List.length_cons] at hj hb
    obtain ⟨j, rfl⟩ : ∃ q, j = q + 1 := ⟨j - 1, by omega⟩
    have x1 : Ext h (h.push (ndC n)) := (Ext.refl h).push _
    have start : ∀ (α : Type) (kr : Int → Int → M α) (kx : M α), r5binder.u4.l (k + 1) kr kx (j + 1) f up (a : Int) (c : Int) (i : Int) h = _ := fun α kr kx => by
      rw [r5binder.u4.l, r5binder.u3.f, dT (by omega : (0 : Int) ≤ (i : Int)), cond_true, nd_rd (r.ext x) rfl hi, rfix_run]
    generalize h.push (ndC n) = h1 at start x1
    have x01 := x.trans x1
    have rr := r.ext x01
    have ruu := ru.ext x01
    simp only [findR]
    -- on
    have on : ∀ (d : Nat), d = (if n.kind = 5 then c + 1 else c) → ∃ h', Ext h₀ h' ∧ ∀ (α : Type) (kr : Int → Int → M α) (kx : M α), r5binder.u4.l (k + 1) kr kx j f up (a : Int) (d : Int) m' h1 = (match findR n0.name A (if n.kind = 5 then c + 1 else c) with | some (i, d) => kr i d h' | none => kx h') := by
      intro d hd
      rw [← hd]
      exact ih m' d j h1 hc' (by omega) (by rw [hd]; split <;> omega) x01
    by_cases hfx : fixK n.kind = true
    · by_cases hname : n.name = n0.name
      · rw [if_pos ⟨hfx, hname⟩]
        refine ⟨h1, x01, fun α kr kx => ?_⟩
        rw [start, hfx, cond_true, nd_name rr rfl hi, nd_name rr rfl hn0, dT hname, cond_true]
      · rw [if_neg (fun h => hname h.2)]
        have h5 : n.kind ≠ 5 := by
          intro e; rw [e] at hfx; exact absurd hfx (by decide)
        obtain ⟨h', x', e'⟩ := on c (by rw [if_neg h5])
        refine ⟨h', x', fun α kr kx => ?_⟩
        rw [start, hfx, cond_true, nd_name rr rfl hi, nd_name rr rfl hn0, dF hname, cond_false, nd_kind rr rfl hi, dF h5, cond_false, int_rd ruu rfl hm']
        exact e' α kr kx
    · rw [if_neg (fun h => hfx h.1)]
      rw [Bool.not_eq_true] at hfx
      by_cases h5 : n.kind = 5
      · obtain ⟨h', x', e'⟩ := on (c + 1) (by rw [if_pos h5])
        refine ⟨h', x', fun α kr kx => ?_⟩
        rw [start, hfx, cond_false, nd_kind rr rfl hi, dT h5, cond_true, int_rd ruu rfl hm', w64_eq (by omega) (by omega)]
        exact e' α kr kx
      · obtain ⟨h', x', e'⟩ := on c (by rw [if_neg h5])
        refine ⟨h', x', fun α kr kx => ?_⟩
        rw [start, hfx, cond_false, nd_kind rr rfl hi, dF h5, cond_false, int_rd ruu rfl hm']
        exact e' α kr kx
theorem binder_run (r : NdR h₀ f l) (ru : Rd h₀ up 1 (cIs U)) {a : Nat} {n0 : Nd} (hn0 : l[a]? = some n0) {A : Anc} {m : Int} (hm : U[a]? = some m) (hc : Chain l U m A) (hl : A.length ≤ 200) (k : Nat) (hk : 300 ≤ k) (h : H) (x : Ext h₀ h) :
    ∃ h', Ext h₀ h' ∧ ∀ (α : Type) (ret : Int → Int → M α), r5binder.f (k + 1) f up (a : Int) ret h = (match findR n0.name A 0 with | some (i, d) => ret i d h' | none => ret (-1) 0 h') := by
  obtain ⟨k, rfl⟩ : ∃ q, k = q + 1 := ⟨k - 1, by omega⟩
  obtain ⟨h', x', e'⟩ := binder_loop r ru hn0 k A m 0 (k + 1) h hc (by omega) (by omega) x
  refine ⟨h', x', fun α ret => ?_⟩
  rw [r5binder.f, r5binder.u9.f, r5binder.u1.f, r5binder.u8.f, r5binder.u6.f, r5binder.u2.f, int_rd (ru.ext x) rfl hm, r5binder.u5.f, r5binder.u4.f, r5binder.u7.f]
  exact e' α _ _
end
end Go.Ab.S3
