import Derived.Test.YtkfoohgkbafafaaS3l
import Derived.Test.YtkfoohgkbafafaaS3q
namespace Go.Ab.S3
set_option linter.unusedVariables false
set_option linter.unusedSimpArgs false
theorem cntN_app : ∀ (A B : Anc), cntN (A ++ B) = cntN A + cntN B
  | [], B => by simp [cntN]
  | (i, n) :: A, B => by simp only [List.cons_append, cntN, cntN_app A B]; omega
theorem findS_none {s : List UInt8} : ∀ {B : Anc}, (∀ p ∈ B, ¬(fixK p.2.kind = true ∧ p.2.name = s)) → findS s B = none
  | [], _ => rfl
  | (i, n) :: B, h => by
    rw [findS, if_neg (h _ List.mem_cons_self)]
    exact findS_none fun p hp => h p (List.mem_cons_of_mem _ hp)
theorem findS_app {s : List UInt8} {B : Anc} (hB : ∀ p ∈ B, ¬(fixK p.2.kind = true ∧ p.2.name = s)) : ∀ A : Anc, findS s (A ++ B) = (findS s A).map fun q => (q.1, q.2 + cntN B)
  | [] => by rw [List.nil_append, findS_none hB]; rfl
  | (i, n) :: A => by
    rw [List.cons_append, findS, findS]
    by_cases hc : fixK n.kind = true ∧ n.name = s
    · rw [if_pos hc, if_pos hc, cntN_app]; rfl
    · rw [if_neg hc, if_neg hc, findS_app hB A]
theorem toLeaf_app {k : Int} {s : List UInt8} {A B : Anc} (hB : k = 4 → ∀ p ∈ B, ¬(fixK p.2.kind = true ∧ p.2.name = s)) : toLeaf k s (A ++ B) = toLeaf k s A := by
  unfold toLeaf
  by_cases hk : k = 4
  · rw [if_pos hk, if_pos hk, findS_app (hB hk)]
    cases findS s A <;> rfl
  · rw [if_neg hk, if_neg hk]
theorem oddLeaf_app {k : Int} {s : List UInt8} {A B : Anc} (hB : k = 4 → ∀ p ∈ B, ¬(fixK p.2.kind = true ∧ p.2.name = s)) : oddLeaf k s (A ++ B) = oddLeaf k s A := by
  unfold oddLeaf
  by_cases hk : k = 4
  · rw [if_pos hk, if_pos hk, findS_app (hB hk), cntN_app]
    cases findS s A with
    | none => rfl
    | some q => simp only [Option.map_some]; congr 2; omega
  · rw [if_neg hk, if_neg hk]
theorem toA_app {B : Anc} : ∀ (t : Tr) (base : Nat) (A : Anc), (∀ n ∈ t.flat base, n.kind = 4 → ∀ p ∈ B, ¬(fixK p.2.kind = true ∧ p.2.name = n.name)) → toA t base (A ++ B) = toA t base A
  | .leaf k s p, base, A, h => by rw [toA, toA, toLeaf_app (h ⟨k, 0, 0, s, p⟩ (by simp [Tr.flat, Tr.node]))]
  | .un k s p a, base, A, h => by
    rw [toA, toA, ← List.cons_append, toA_app a base _ (fun n hn => h n (by simp [Tr.flat, hn]))]
  | .bin k s p a b, base, A, h => by
    rw [toA, toA, ← List.cons_append, toA_app a base _ (fun n hn => h n (by simp [Tr.flat, hn])), toA_app b (base + a.size) _ (fun n hn => h n (by simp [Tr.flat, hn]))]
theorem oddA_app {B : Anc} : ∀ (t : Tr) (base : Nat) (A : Anc), (∀ n ∈ t.flat base, n.kind = 4 → ∀ p ∈ B, ¬(fixK p.2.kind = true ∧ p.2.name = n.name)) → oddA t base (A ++ B) = oddA t base A
  | .leaf k s p, base, A, h => by rw [oddA, oddA, oddLeaf_app (h ⟨k, 0, 0, s, p⟩ (by simp [Tr.flat, Tr.node]))]
  | .un k s p a, base, A, h => by
    rw [oddA, oddA, ← List.cons_append, oddA_app a base _ (fun n hn => h n (by simp [Tr.flat, hn]))]
  | .bin k s p a b, base, A, h => by
    rw [oddA, oddA, ← List.cons_append, oddA_app a base _ (fun n hn => h n (by simp [Tr.flat, hn])), oddA_app b (base + a.size) _ (fun n hn => h n (by simp [Tr.flat, hn]))]
theorem chk_zero : ∀ (l : List Nd) (T : List Int) (O : List Bool) (D : List Int) (i : Nat) (seen : List (List UInt8)), (chk l T O D i seen).2 = 0 → chk l T O D i seen = (0, 0)
  | n :: l, t :: T, o :: O, d :: D, i, seen, h => by
    rw [chk] at h ⊢
    by_cases c1 : n.kind = 4 ∧ t < 0
    · rw [if_pos c1] at h; cases h
    rw [if_neg c1] at h ⊢
    by_cases c2 : n.kind = 4 ∧ o = true
    · rw [if_pos c2] at h; cases h
    rw [if_neg c2] at h ⊢
    by_cases c3 : fixK n.kind = true ∧ n.name ∈ seen
    · rw [if_pos c3] at h; cases h
    rw [if_neg c3] at h ⊢
    by_cases c4 : fixK n.kind = true ∧ 4 < d
    · rw [if_pos c4] at h; cases h
    rw [if_neg c4] at h ⊢
    exact chk_zero l T O D _ _ h
  | [], _, _, _, _, _, _ => by rw [chk]; all_goals intros; simp_all
  | _ :: _, [], _, _, _, _, _ => by rw [chk]; all_goals intros; simp_all
  | _ :: _, _ :: _, [], _, _, _, _ => by rw [chk]; all_goals intros; simp_all
  | _ :: _, _ :: _, _ :: _, [], _, _, _ => by rw [chk]; all_goals intros; simp_all
theorem chk_app {l2 : List Nd} {T2 : List Int} {O2 : List Bool} {D2 : List Int} : ∀ (l : List Nd) (T : List Int) (O : List Bool) (D : List Int) (i : Nat) (seen : List (List UInt8)), T.length = l.length → O.length = l.length → D.length = l.length →
    chk (l ++ l2) (T ++ T2) (O ++ O2) (D ++ D2) i seen = if (chk l T O D i seen).2 = 0 then chk l2 T2 O2 D2 (i + l.length) (seen ++ fixNames l) else chk l T O D i seen
  | [], [], [], [], i, seen, _, _, _ => by simp [chk, fixNames]
  | n :: l, t :: T, o :: O, d :: D, i, seen, h1, h2, h3 => by
    simp only [List.cons_append]
    rw [chk, chk]
    by_cases c1 : n.kind = 4 ∧ t < 0
    · rw [if_pos c1, if_pos c1, if_neg (by simp)]
    rw [if_neg c1, if_neg c1]
    by_cases c2 : n.kind = 4 ∧ o = true
    · rw [if_pos c2, if_pos c2, if_neg (by simp)]
    rw [if_neg c2, if_neg c2]
    by_cases c3 : fixK n.kind = true ∧ n.name ∈ seen
    · rw [if_pos c3, if_pos c3, if_neg (by simp)]
    rw [if_neg c3, if_neg c3]
    by_cases c4 : fixK n.kind = true ∧ 4 < d
    · rw [if_pos c4, if_pos c4, if_neg (by simp)]
    rw [if_neg c4, if_neg c4, chk_app l T O D _ _ (by simpa using h1) (by simpa using h2) (by simpa using h3), fixNames_cons]
    congr 1
    by_cases hf : fixK n.kind = true
    · rw [if_pos hf, if_pos hf, List.length_cons, List.append_assoc]; congr 1; omega
    · rw [if_neg hf, if_neg hf, List.length_cons]; congr 1; omega
/-- two negations ahead -/
def nots (t : Tr) : Tr := .un 5 [] 0 (.un 5 [] 0 t)
def new0 : List UInt8 := [78, 101, 119, 95, 48]
/-- a fixpoint ahead -/
def nuT (t : Tr) : Tr := .un 11 new0 0 t
theorem toA_app0 {B : Anc} {t : Tr} {base : Nat} (h : ∀ n ∈ t.flat base, n.kind = 4 → ∀ p ∈ B, ¬(fixK p.2.kind = true ∧ p.2.name = n.name)) : toA t base B = toA t base [] := toA_app t base [] h
theorem oddA_app0 {B : Anc} {t : Tr} {base : Nat} (h : ∀ n ∈ t.flat base, n.kind = 4 → ∀ p ∈ B, ¬(fixK p.2.kind = true ∧ p.2.name = n.name)) : oddA t base B = oddA t base [] := oddA_app t base [] h
theorem chk_more (t : Tr) (l2 : List Nd) (T2 : List Int) (O2 : List Bool) (D2 : List Int) : chk (t.flat 0 ++ l2) (toA t 0 [] ++ T2) (oddA t 0 [] ++ O2) (depI t ++ D2) 0 [] = if (chkT t).2 = 0 then chk l2 T2 O2 D2 t.size (fixNames (t.flat 0)) else chkT t := by
  rw [chk_app _ _ _ _ _ _ (by rw [toA_length, flat_length]) (by rw [oddA_length, flat_length]) (by rw [depI_length, flat_length]), Nat.zero_add, flat_length, List.nil_append]
  rfl
theorem chk_nots (t : Tr) : chkT (nots t) = chkT t := by
  have hB : ∀ (q : Nat × Nd) (r : Nat × Nd), q.2.kind = 5 → r.2.kind = 5 → ∀ n ∈ t.flat 0, n.kind = 4 → ∀ p ∈ [q, r], ¬(fixK p.2.kind = true ∧ p.2.name = n.name) := by
    intro q r hq hr n _ _ p hp
    simp only [List.mem_cons, List.not_mem_nil, or_false] at hp
    rcases hp with rfl | rfl
    · rw [hq]; exact fun h => absurd h.1 (by decide)
    · rw [hr]; exact fun h => absurd h.1 (by decide)
  unfold chkT nots
  simp only [Tr.flat, toA, oddA, depI, depA, List.map_append]
  rw [toA_app0 (hB _ _ rfl rfl), oddA_app0 (hB _ _ rfl rfl), List.append_assoc, List.append_assoc, List.append_assoc, List.append_assoc]
  refine (chk_more t _ _ _ _).trans ?_
  by_cases h0 : (chkT t).2 = 0
  · rw [if_pos h0]
    refine Eq.trans ?_ (chk_zero _ _ _ _ _ _ h0).symm
    simp [chk, Tr.node, fixK]
  · rw [if_neg h0]; rfl
theorem chk_nu {t : Tr} (hn : ∀ n ∈ t.flat 0, n.name ≠ new0) : chkT (nuT t) = if (chkT t).2 = 0 then (if 4 < depT t + 1 then ((t.size : Int), 13) else (0, 0)) else chkT t := by
  have hB : ∀ q : Nat × Nd, q.2.name = new0 → ∀ n ∈ t.flat 0, n.kind = 4 → ∀ p ∈ [q], ¬(fixK p.2.kind = true ∧ p.2.name = n.name) := by
    intro q hq n hm _ p hp
    simp only [List.mem_cons, List.not_mem_nil, or_false] at hp
    subst hp
    rw [hq]
    exact fun h => hn n hm h.2.symm
  have hs : new0 ∉ fixNames (t.flat 0) := by
    intro h
    obtain ⟨n, h1, h2⟩ := List.mem_map.1 h
    exact hn n (List.mem_filter.1 h1).1 h2
  refine Eq.trans ?_ ((chk_more t [(nuT t).node 0] [-1] [false] [((depT t + 1 : Nat) : Int)]).trans ?_)
  · unfold chkT nuT
    simp only [Tr.flat, toA, oddA, depI, depA, List.map_append]
    rw [toA_app0 (hB _ rfl), oddA_app0 (hB _ rfl)]
    simp [depT, fixK]
  · by_cases h0 : (chkT t).2 = 0
    · rw [if_pos h0, if_pos h0]
      simp [chk, Tr.node, fixK, hs, nuT]
      split <;> split <;> first | rfl | omega
    · rw [if_neg h0, if_neg h0]
end Go.Ab.S3
