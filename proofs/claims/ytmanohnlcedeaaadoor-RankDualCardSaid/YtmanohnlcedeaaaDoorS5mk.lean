import Derived.Test.YtmanohnlcedeaaaDoorS5l
import Derived.Lib.TrailingZeros
namespace Go.Ab.S5
set_option linter.unusedVariables false
set_option linter.unusedSimpArgs false
abbrev Env := List (List UInt8 × Bool)
def look (s : List UInt8) : Env->Option Bool
 | [] => none
 | (x, b) :: E => if x = s then some b else look s E
def zgy (E : Env) : Env := E.map fun x => (x.1, !x.2)
def fit : Tr->Env->Bool
 | .leaf k s _, E => if k = 4 then decide (look s E = some false) else true
 | .un k s _ a, E => if fixK k = true then fit a ((s, false) :: E) else if k = 5 then fit a (zgy E) else fit a E
 | .bin _ _ _ a b, E => fit a E && fit b E
def fxs : Tr->List (List UInt8)
 | .leaf _ _ _ => []
 | .un k s _ a => fxs a ++ (if fixK k = true then [s] else [])
 | .bin _ _ _ a b => fxs a ++ fxs b
def envA : Anc->Env
 | [] => []
 | (_, n) :: A => if fixK n.kind = true then (n.name, false) :: envA A else if n.kind = 5 then zgy (envA A) else envA A
theorem zmn (s : List UInt8) : ∀ E : Env, look s (zgy E) = (look s E).map (!·)
 | [] => rfl
 | (x, b) :: E => by
  have := zmn s E
  unfold zgy at this ⊢
  simp only [List.map_cons, look, this]
  split <;> rfl
theorem fix_five {k : Int} (h : fixK k = true) : k ≠ 5 := by
 rintro rfl
 exact absurd h (by decide)
def parB (c m : Nat) : Bool := Nat.beq ((c - m) % 2) 1
theorem zjy (c m : Nat) : parB c m = true ↔ (c - m) % 2 ≠ 0 := by
 unfold parB
 rw [Nat.beq_eq]
 omega
theorem zqf (s : List UInt8) : ∀ A : Anc, look s (envA A) = (zac s A).map fun q => parB (cntN A) q.2
 | [] => rfl
 | (i, n) :: A => by
  have ih := zqf s A
  have hc5 : n.kind = 5->cntN ((i, n) :: A) = cntN A + 1 := fun h => by simp [cntN, h]
  have hc0 : n.kind ≠ 5->cntN ((i, n) :: A) = cntN A := fun h => by simp [cntN, h]
  by_cases hf : fixK n.kind = true
  ·rw [hc0 (fix_five hf)]
   simp only [envA, zac, if_pos hf, look]
   by_cases hs : n.name = s
   ·rw [if_pos hs, if_pos ⟨hf, hs⟩]
    simp only [Option.map_some, parB, Nat.sub_self, Nat.zero_mod]
    rfl
   ·rw [if_neg hs, if_neg (fun h => hs h.2), ih]
  ·have hF : zac s ((i, n) :: A) = zac s A := by
    simp only [zac]
    rw [if_neg (fun h => hf h.1)]
   have hE : envA ((i, n) :: A) = if n.kind = 5 then zgy (envA A) else envA A := by
    simp only [envA]
    rw [if_neg hf]
   rw [hF, hE]
   by_cases h5 : n.kind = 5
   ·rw [if_pos h5, zmn, ih, hc5 h5]
    cases hq : zac s A with
    | none => rfl
    | some q =>
     have := zkb (i := q.1) (m := q.2) hq
     simp only [Option.map_some]
     congr 1
     rw [Bool.eq_iff_iff, Bool.not_eq_true', ← Bool.not_eq_true, zjy, zjy]
     omega
   ·rw [if_neg h5, ih, hc0 h5]
theorem zoy {k : Int} {s : List UInt8} {A : Anc} : (¬ (k = 4 ∧ zcg k s A < 0) ∧ ¬ (k = 4 ∧ zev k s A = true)) ↔ (if k = 4 then decide (look s (envA A) = some false) else true) = true := by
 by_cases h4 : k = 4
 ·rw [if_pos h4, zqf]
  unfold zcg zev
  rw [if_pos h4, if_pos h4]
  cases hq : zac s A with
  | none => simp [h4]
  | some q =>
   simp only [h4, true_and, Option.map_some, Option.some.injEq, decide_eq_true_eq, ← zjy, Bool.not_eq_true]
   constructor
   ·rintro ⟨h1, h2⟩
    exact h2
   ·intro h
    exact ⟨by omega, h⟩
 ·simp [h4]
theorem zjq {kd : Int} (h : arF kd = 2) : kd = 6 ∨ kd = 7 := by
 unfold arF at h
 split at h
 ·omega
 split at h
 ·omega
 split at h
 ·assumption
 ·omega
theorem depT_up (k : Int) (s : List UInt8) (p : Int) (a : Tr) : depT a≤depT (.un k s p a) := by
 simp only [depT]; split <;> omega
theorem zfc {l2 : List Nd} {T2 : List Int} {O2 : List Bool} {D2 : List Int} : ∀ (t : Tr) (base : Nat) (A : Anc) (i : Nat) (seen : List (List UInt8)), t.ok = true->seen.Nodup ->
  ((chk (t.flat base ++ l2) (toA t base A ++ T2) (oddA t base A ++ O2) (depI t ++ D2) i seen).2 = 0 ↔ (fit t (envA A) = true ∧ (seen ++ fxs t).Nodup ∧ depT t≤4) ∧ (chk l2 T2 O2 D2 (i + t.size) (seen ++ fxs t)).2 = 0)
 | .leaf k s p, base, A, i, seen, hok, hs => by
  have e1 : depI (.leaf k s p) = [0] := rfl
  simp only [Tr.ok, Bool.and_eq_true, decide_eq_true_eq] at hok
  have hf : fixK k = false := by
   cases hf : fixK k with
   | false => rfl
   | true =>
    exfalso
    unfold fixK at hf
    simp only [Bool.or_eq_true, decide_eq_true_eq] at hf
    rcases hf with rfl | rfl <;> exact absurd hok.1 (by decide)
  rw [e1]
  simp only [Tr.flat, toA, oddA, List.cons_append, List.nil_append, chk, fit, fxs, List.append_nil, depT, Tr.size, Tr.node, hf, Bool.false_eq_true, false_and, if_false]
  have lf := zoy (k := k) (s := s) (A := A)
  by_cases h1 : k = 4 ∧ zcg k s A < 0
  ·rw [if_pos h1]
   constructor
   ·intro h; simp at h
   ·intro h; exact absurd h1 (lf.2 h.1.1).1
  rw [if_neg h1]
  by_cases h2 : k = 4 ∧ zev k s A = true
  ·rw [if_pos h2]
   constructor
   ·intro h; simp at h
   ·intro h; exact absurd h2 (lf.2 h.1.1).2
  rw [if_neg h2]
  have := lf.1 ⟨h1, h2⟩
  constructor
  ·intro h; exact ⟨⟨this, hs, by omega⟩, h⟩
  ·intro h; exact h.2
 | .un k s p a, base, A, i, seen, hok, hs => by
  have e1 : depI (.un k s p a) = depI a ++ [(depT (.un k s p a) : Int)] := by simp [depI, depA]
  simp only [Tr.ok, Bool.and_eq_true, decide_eq_true_eq] at hok
  rw [e1]
  simp only [Tr.flat, toA, oddA, List.append_assoc, List.cons_append, List.nil_append]
  rw [zfc a base _ i seen hok.2 hs]
  have henv : fit a (envA ((base + a.size, (Tr.un k s p a).node base) :: A)) = fit (.un k s p a) (envA A) := by
   have e : envA ((base + a.size, (Tr.un k s p a).node base) :: A) = (if fixK k = true then (s, false) :: envA A else if k = 5 then zgy (envA A) else envA A) := rfl
   rw [e]
   simp only [fit]
   by_cases hf : fixK k = true
   ·rw [if_pos hf, if_pos hf]
   ·rw [if_neg hf, if_neg hf]
    by_cases h5 : k = 5
    ·rw [if_pos h5, if_pos h5]
    ·rw [if_neg h5, if_neg h5]
  rw [henv]
  have hk4 : k ≠ 4 := by rintro rfl; exact absurd hok.1.1 (by decide)
  have hdep := depT_up k s p a
  simp only [chk, Tr.node, hk4, false_and, if_false, fxs, Tr.size]
  by_cases hf : fixK k = true
  ·simp only [hf, if_true, true_and]
   by_cases hmem : s ∈ seen ++ fxs a
   ·rw [if_pos hmem]
    constructor
    ·intro h; have := h.2; simp at this
    ·intro h
     exfalso
     have := h.1.2.1
     rw [← List.append_assoc, List.nodup_append] at this
     exact this.2.2 s hmem s (by simp) rfl
   ·rw [if_neg hmem]
    by_cases hd : (4 : Int) < (depT (.un k s p a) : Int)
    ·rw [if_pos hd]
     constructor
     ·intro h; have := h.2; simp at this
     ·intro h; have := h.1.2.2; omega
    ·rw [if_neg hd]
     have hnd : (seen ++ (fxs a ++ [s])).Nodup ↔ (seen ++ fxs a).Nodup := by
      rw [← List.append_assoc, List.nodup_append]
      constructor
      ·intro h; exact h.1
      ·intro h
       refine ⟨h, by simp, fun x hx y hy => ?_⟩
       rw [List.mem_singleton.1 hy]
       rintro rfl
       exact hmem hx
     rw [hnd, List.append_assoc, Nat.add_assoc]
     constructor
     ·rintro ⟨⟨h1, h2, h3⟩, h4⟩
      exact ⟨⟨h1, h2, by omega⟩, h4⟩
     ·rintro ⟨⟨h1, h2, h3⟩, h4⟩
      exact ⟨⟨h1, h2, by omega⟩, h4⟩
  ·simp only [hf, if_false, false_and, Bool.false_eq_true]
   have hd : depT (.un k s p a) = depT a := by simp only [depT, hf, if_false, Bool.false_eq_true]
   rw [hd, List.append_nil, Nat.add_assoc]
 | .bin k s p a b, base, A, i, seen, hok, hs => by
  have e1 : depI (.bin k s p a b) = depI a ++ (depI b ++ [(depT (.bin k s p a b) : Int)]) := by simp [depI, depA]
  simp only [Tr.ok, Bool.and_eq_true, decide_eq_true_eq] at hok
  rw [e1]
  simp only [Tr.flat, toA, oddA, List.append_assoc, List.cons_append, List.nil_append]
  rw [zfc a base _ i seen hok.1.2 hs]
  have hk := zjq hok.1.1.1
  have hfx : fixK k = false := by rcases hk with rfl | rfl <;> decide
  have hk5 : k ≠ 5 := by rcases hk with rfl | rfl <;> decide
  have hk4 : k ≠ 4 := by rcases hk with rfl | rfl <;> decide
  have henv : envA ((base + a.size + b.size, (Tr.bin k s p a b).node base) :: A) = envA A := by
   simp only [envA, Tr.node, hfx, Bool.false_eq_true, if_false, hk5]
  rw [henv]
  constructor
  ·rintro ⟨⟨h1, h2, h3⟩, h4⟩
   rw [zfc b (base + a.size) _ (i + a.size) (seen ++ fxs a) hok.2 h2] at h4
   obtain ⟨⟨h5, h6, h7⟩, h8⟩ := h4
   rw [henv] at h5
   simp only [chk, Tr.node, hk4, false_and, if_false, hfx, Bool.false_eq_true] at h8
   refine ⟨⟨?_, ?_, ?_⟩, ?_⟩
   ·simp only [fit, h1, h5, Bool.and_self]
   ·simp only [fxs, ← List.append_assoc]; exact h6
   ·simp only [depT]; omega
   ·simp only [fxs, ← List.append_assoc, Tr.size]
    rw [show i + (a.size + b.size + 1) = i + a.size + b.size + 1 by omega]
    exact h8
  ·rintro ⟨⟨h1, h2, h3⟩, h4⟩
   simp only [fit, Bool.and_eq_true] at h1
   simp only [fxs, ← List.append_assoc] at h2 h4
   simp only [depT] at h3
   have h2a : (seen ++ fxs a).Nodup := (List.nodup_append.1 h2).1
   refine ⟨⟨h1.1, h2a, by omega⟩, ?_⟩
   rw [zfc b (base + a.size) _ (i + a.size) (seen ++ fxs a) hok.2 h2a, henv]
   refine ⟨⟨h1.2, h2, by omega⟩, ?_⟩
   simp only [chk, Tr.node, hk4, false_and, if_false, hfx, Bool.false_eq_true]
   simp only [Tr.size] at h4
   rw [show i + (a.size + b.size + 1) = i + a.size + b.size + 1 by omega] at h4
   exact h4
theorem znn {t : Tr} (ht : t.ok = true) : (chkT t).2 = 0 ↔ fit t [] = true ∧ (fxs t).Nodup ∧ depT t≤4 := by
 have := zfc (l2 := []) (T2 := []) (O2 := []) (D2 := []) t 0 [] 0 [] ht (by simp)
 simp only [List.append_nil, List.nil_append, envA] at this
 unfold chkT
 rw [this]
 simp [chk]
def plK (k : Int) : Int := if k = 12 then 3 else k
def plN (n : Nd) : Nd := { n with kind := plK n.kind }
def Tr.pl : Tr->Tr
 | .leaf k s p => .leaf (plK k) s p
 | .un k s p a => .un (plK k) s p a.pl
 | .bin k s p a b => .bin (plK k) s p a.pl b.pl
def zdg (k : Int) : Int := if k = 1 then 2 else if k = 2 then 1 else if k = 3 then 12 else if k = 12 then 3 else if k = 6 then 7 else if k = 7 then 6 else if k = 8 then 9 else if k = 9 then 8 else if k = 10 then 11 else if k = 11 then 10 else k
def negK (neg : Bool) (k : Int) : Int := if neg = true then zdg k else k
def nfT : Tr->Bool->Tr
 | .leaf k s p, g => .leaf (negK g k) s p
 | .un k s p a, g => if k = 5 then nfT a (!g) else .un (negK g k) s p (nfT a g)
 | .bin k s p a b, g => .bin (negK g k) s p (nfT a g) (nfT b g)
theorem yj : ∀ t : Tr, t.pl.size = t.size
 | .leaf _ _ _ => rfl
 | .un _ _ _ a => by simp [Tr.pl, Tr.size, yj a]
 | .bin _ _ _ a b => by simp [Tr.pl, Tr.size, yj a, yj b]
theorem zcm : ∀ (t : Tr) (base : Nat), t.pl.flat base = (t.flat base).map plN
 | .leaf _ _ _, base => rfl
 | .un k s p a, base => by simp [Tr.pl, Tr.flat, zcm a, Tr.node, yj, plN]
 | .bin k s p a b, base => by simp [Tr.pl, Tr.flat, zcm a, zcm b, Tr.node, yj, plN]
theorem zgd : ∀ (t : Tr) (base : Nat) (l : List Nd), l.map plN = t.flat base->∃ u : Tr, u.pl = t ∧ l = u.flat base
 | .leaf k s p, base, l, h => by
  match l, h with
  | [], h => simp [Tr.flat] at h
  | [n], h =>
   simp only [Tr.flat, List.map_cons, List.map_nil, List.cons.injEq, and_true] at h
   obtain ⟨k', a', b', s', p'⟩ := n
   simp only [plN, Tr.node, Nd.mk.injEq] at h
   obtain ⟨h1, h2, h3, h4, h5⟩ := h
   refine ⟨.leaf k' s' p', by simp [Tr.pl, h1, h4, h5], ?_⟩
   simp [Tr.flat, Tr.node, h2, h3]
  | _ :: _ :: _, h => simp [Tr.flat] at h
 | .un k s p a, base, l, h => by
  simp only [Tr.flat] at h
  obtain ⟨l1, l2, rfl, h1, h2⟩ := List.map_eq_append_iff.1 h
  obtain ⟨u, rfl, rfl⟩ := zgd a base l1 h1
  match l2, h2 with
  | [], h => simp at h
  | [n], h =>
   simp only [List.map_cons, List.map_nil, List.cons.injEq, and_true] at h
   obtain ⟨k', a', b', s', p'⟩ := n
   simp only [plN, Tr.node, Nd.mk.injEq, yj] at h
   obtain ⟨h1, h2, h3, h4, h5⟩ := h
   refine ⟨.un k' s' p' u, by simp [Tr.pl, h1, h4, h5], ?_⟩
   simp [Tr.flat, Tr.node, h2, h3]
  | _ :: _ :: _, h => simp at h
 | .bin k s p a b, base, l, h => by
  simp only [Tr.flat] at h
  obtain ⟨l1, l2, rfl, h1, h2⟩ := List.map_eq_append_iff.1 h
  obtain ⟨l3, l4, rfl, h3, h4⟩ := List.map_eq_append_iff.1 h2
  obtain ⟨u, rfl, rfl⟩ := zgd a base l1 h1
  obtain ⟨v, rfl, h5⟩ := zgd b (base + u.pl.size) l3 h3
  match l4, h4 with
  | [], h => simp at h
  | [n], h =>
   simp only [List.map_cons, List.map_nil, List.cons.injEq, and_true] at h
   obtain ⟨k', a', b', s', p'⟩ := n
   simp only [plN, Tr.node, Nd.mk.injEq, yj] at h
   obtain ⟨q1, q2, q3, q4, q5⟩ := h
   refine ⟨.bin k' s' p' u v, by simp [Tr.pl, q1, q4, q5], ?_⟩
   rw [h5, yj]
   simp [Tr.flat, Tr.node, q2, q3]
  | _ :: _ :: _, h => simp at h
def pos5 : Tr->Bool
 | .leaf k _ _ => decide (k ≠ 5)
 | .un k _ _ a => decide (k ≠ 5) && pos5 a
 | .bin k _ _ a b => decide (k ≠ 5) && pos5 a && pos5 b
theorem zgz : ∀ (t : Tr) (g g' : Bool), (nfT t g).size = (nfT t g').size
 | .leaf _ _ _, _, _ => rfl
 | .un k _ _ a, g, g' => by
  simp only [nfT]
  by_cases h : k = 5
  ·rw [if_pos h, if_pos h]; exact zgz a _ _
  ·rw [if_neg h, if_neg h]; simp only [Tr.size, zgz a g g']
 | .bin _ _ _ a b, g, g' => by simp only [nfT, Tr.size, zgz a g g', zgz b g g']
theorem zhd : ∀ (t : Tr) (g : Bool), (nfT t g).size≤t.size
 | .leaf _ _ _, _ => Nat.le_refl _
 | .un k _ _ a, g => by
  simp only [nfT]
  by_cases h : k = 5
  ·rw [if_pos h]; have := zhd a (!g); simp only [Tr.size]; omega
  ·rw [if_neg h]; have := zhd a g; simp only [Tr.size]; omega
 | .bin _ _ _ a b, g => by have := zhd a g; have := zhd b g; simp only [nfT, Tr.size]; omega
theorem yv : ∀ (t : Tr) (g : Bool), pos5 t = true->(nfT t g).size = t.size
 | .leaf _ _ _, _, _ => rfl
 | .un k _ _ a, g, h => by
  simp only [pos5, Bool.and_eq_true, decide_eq_true_eq] at h
  simp only [nfT, if_neg h.1, Tr.size, yv a g h.2]
 | .bin _ _ _ a b, g, h => by
  simp only [pos5, Bool.and_eq_true, decide_eq_true_eq] at h
  simp only [nfT, Tr.size, yv a g h.1.2, yv b g h.2]
theorem zed {g : Bool} {k : Int} (h : k ≠ 5) : negK g k ≠ 5 := by
 unfold negK zdg
 cases g
 ·rw [if_neg (by decide)]; exact h
 ·rw [if_pos rfl]
  repeat' split
  all_goals first | decide | exact h
def zbp (k : Int) : Prop := k = 1 ∨ k = 2 ∨ k = 3 ∨ k = 4 ∨ k = 5 ∨ k = 6 ∨ k = 7 ∨ k = 8 ∨ k = 9 ∨ k = 10 ∨ k = 11 ∨ k = 12
theorem ye {k : Int} (h : 0≤arF (plK k)) : zbp k := by
 unfold zbp
 by_cases h12 : k = 12
 ·omega
 unfold plK at h
 rw [if_neg h12] at h
 unfold arF at h
 split at h
 ·omega
 split at h
 ·omega
 split at h
 ·omega
 ·omega
theorem dual_ar {k : Int} (h : zbp k) : arF (plK (zdg k)) = arF (plK k) := by
 rcases h with rfl | rfl | rfl | rfl | rfl | rfl | rfl | rfl | rfl | rfl | rfl | rfl <;> decide
theorem zqt {k : Int} (h : zbp k) (s : List UInt8) : zat (plK (zdg k)) s = zat (plK k) s := by
 rcases h with rfl | rfl | rfl | rfl | rfl | rfl | rfl | rfl | rfl | rfl | rfl | rfl <;> rfl
theorem dual_dual {k : Int} (h : zbp k) : zdg (zdg k) = k := by
 rcases h with rfl | rfl | rfl | rfl | rfl | rfl | rfl | rfl | rfl | rfl | rfl | rfl <;> decide
theorem zla {k : Int} (h : zbp k) : fixK (zdg k) = fixK k := by
 rcases h with rfl | rfl | rfl | rfl | rfl | rfl | rfl | rfl | rfl | rfl | rfl | rfl <;> decide
theorem dual_four {k : Int} (h : zbp k) : zdg k = 4 ↔ k = 4 := by
 rcases h with rfl | rfl | rfl | rfl | rfl | rfl | rfl | rfl | rfl | rfl | rfl | rfl <;> decide
theorem zdj (k : Int) : fixK (plK k) = fixK k := by
 unfold plK
 split
 ·rename_i h; subst h; decide
 ·rfl
theorem pl_five (k : Int) : plK k = 5 ↔ k = 5 := by unfold plK; split <;> omega
theorem zoh (k : Int) : plK k = 4 ↔ k = 4 := by unfold plK; split <;> omega
theorem neg_ar {g : Bool} {k : Int} (h : zbp k) : arF (plK (negK g k)) = arF (plK k) := by
 unfold negK; split
 ·exact dual_ar h
 ·rfl
theorem zie {g : Bool} {k : Int} (h : zbp k) (s : List UInt8) : zat (plK (negK g k)) s = zat (plK k) s := by
 unfold negK; split
 ·exact zqt h s
 ·rfl
theorem zhh {g : Bool} {k : Int} (h : zbp k) : fixK (negK g k) = fixK k := by
 unfold negK; split
 ·exact zla h
 ·rfl
theorem zpo {g : Bool} {k : Int} (h : zbp k) : negK g k = 4 ↔ k = 4 := by
 unfold negK; split
 ·exact dual_four h
 ·exact Iff.rfl
theorem znm {g g' : Bool} {k : Int} (h : zbp k) : negK g' (negK g k) = negK (g != g') k := by
 cases g <;> cases g' <;> simp [negK, dual_dual h]
theorem zkp : ∀ (t : Tr) (g : Bool), t.pl.ok = true->(nfT t g).pl.ok = true
 | .leaf k s p, g, h => by
  simp only [Tr.pl, Tr.ok, Bool.and_eq_true, decide_eq_true_eq] at h
  have hk := ye (k := k) (by omega)
  simp only [nfT, Tr.pl, Tr.ok, neg_ar hk, zie hk, h.1, h.2, decide_true, Bool.and_self]
 | .un k s p a, g, h => by
  simp only [Tr.pl, Tr.ok, Bool.and_eq_true, decide_eq_true_eq] at h
  have hk := ye (k := k) (by omega)
  simp only [nfT]
  by_cases h5 : k = 5
  ·rw [if_pos h5]; exact zkp a _ h.2
  ·rw [if_neg h5]
   simp only [Tr.pl, Tr.ok, neg_ar hk, zie hk, h.1.1, h.1.2, zkp a g h.2, decide_true, Bool.and_self]
 | .bin k s p a b, g, h => by
  simp only [Tr.pl, Tr.ok, Bool.and_eq_true, decide_eq_true_eq] at h
  have hk := ye (k := k) (by omega)
  simp only [nfT, Tr.pl, Tr.ok, neg_ar hk, zie hk, h.1.1.1, h.1.1.2, zkp a g h.1.2, zkp b g h.2, decide_true, Bool.and_self]
theorem zet : ∀ (t : Tr) (g : Bool), t.pl.ok = true->pos5 (nfT t g) = true
 | .leaf k s p, g, h => by
  simp only [Tr.pl, Tr.ok, Bool.and_eq_true, decide_eq_true_eq] at h
  have h5 : k ≠ 5 := by rintro rfl; exact absurd h.1 (by decide)
  simp only [nfT, pos5, decide_eq_true_eq]
  exact zed h5
 | .un k s p a, g, h => by
  simp only [Tr.pl, Tr.ok, Bool.and_eq_true, decide_eq_true_eq] at h
  simp only [nfT]
  by_cases h5 : k = 5
  ·rw [if_pos h5]; exact zet a _ h.2
  ·rw [if_neg h5]
   simp only [pos5, zet a g h.2, Bool.and_true, decide_eq_true_eq]
   exact zed h5
 | .bin k s p a b, g, h => by
  simp only [Tr.pl, Tr.ok, Bool.and_eq_true, decide_eq_true_eq] at h
  have h5 : k ≠ 5 := by rintro rfl; exact absurd h.1.1.1 (by decide)
  simp only [nfT, pos5, zet a g h.1.2, zet b g h.2, Bool.and_true, decide_eq_true_eq]
  exact zed h5
theorem nf_nf : ∀ (t : Tr) (g g' : Bool), t.pl.ok = true->nfT (nfT t g) g' = nfT t (g != g')
 | .leaf k s p, g, g', h => by
  simp only [Tr.pl, Tr.ok, Bool.and_eq_true, decide_eq_true_eq] at h
  have hk := ye (k := k) (by omega)
  simp only [nfT, znm hk]
 | .un k s p a, g, g', h => by
  simp only [Tr.pl, Tr.ok, Bool.and_eq_true, decide_eq_true_eq] at h
  have hk := ye (k := k) (by omega)
  simp only [nfT]
  by_cases h5 : k = 5
  ·rw [if_pos h5, if_pos h5, nf_nf a _ _ h.2]
   congr 1
   cases g <;> cases g' <;> rfl
  ·rw [if_neg h5, if_neg h5]
   simp only [nfT]
   rw [if_neg (zed h5), znm hk, nf_nf a _ _ h.2]
 | .bin k s p a b, g, g', h => by
  simp only [Tr.pl, Tr.ok, Bool.and_eq_true, decide_eq_true_eq] at h
  have hk := ye (k := k) (by omega)
  simp only [nfT, znm hk, nf_nf a _ _ h.1.2, nf_nf b _ _ h.2]
def zmo (E : Env) : Env := E.map fun x => (x.1, false)
theorem zkz (s : List UInt8) : ∀ E : Env, look s E ≠ none->look s (zmo E) = some false
 | [], h => absurd rfl h
 | (x, b) :: E, h => by
  simp only [zmo, List.map_cons, look] at h ⊢
  by_cases hx : x = s
  ·rw [if_pos hx]
  ·rw [if_neg hx] at h ⊢
   exact zkz s E h
theorem zqj (E : Env) : zmo (zgy E) = zmo E := by
 unfold zmo zgy
 rw [List.map_map]
 rfl
theorem zig : ∀ (t : Tr) (g : Bool) (E : Env), t.pl.ok = true->fit t.pl E = true->fit (nfT t g).pl (zmo E) = true
 | .leaf k s p, g, E, h, hf => by
  simp only [Tr.pl, Tr.ok, Bool.and_eq_true, decide_eq_true_eq] at h
  have hk := ye (k := k) (by omega)
  simp only [nfT, Tr.pl, fit, zoh, zpo hk] at hf ⊢
  by_cases h4 : k = 4
  ·rw [if_pos h4] at hf ⊢
   rw [zkz s E (by rw [of_decide_eq_true hf]; simp)]
   simp
  ·rw [if_neg h4]
 | .un k s p a, g, E, h, hf => by
  simp only [Tr.pl, Tr.ok, Bool.and_eq_true, decide_eq_true_eq] at h
  have hk := ye (k := k) (by omega)
  simp only [Tr.pl, fit, zdj, pl_five] at hf
  simp only [nfT]
  by_cases h5 : k = 5
  ·rw [if_pos h5]
   have hx : ¬ fixK k = true := by rw [h5]; decide
   rw [if_neg hx, if_pos h5] at hf
   rw [← zqj]
   exact zig a _ _ h.2 hf
  ·rw [if_neg h5]
   simp only [Tr.pl, fit, zdj, pl_five, zhh hk]
   rw [if_neg h5] at hf
   rw [if_neg (zed h5)]
   by_cases hx : fixK k = true
   ·rw [if_pos hx] at hf ⊢
    exact zig a g ((s, false) :: E) h.2 hf
   ·rw [if_neg hx] at hf ⊢
    exact zig a g E h.2 hf
 | .bin k s p a b, g, E, h, hf => by
  simp only [Tr.pl, Tr.ok, Bool.and_eq_true, decide_eq_true_eq] at h
  simp only [Tr.pl, fit, Bool.and_eq_true] at hf
  simp only [nfT, Tr.pl, fit, zig a g E h.1.2 hf.1, zig b g E h.2 hf.2, Bool.and_self]
theorem zle : ∀ t : Tr, fxs t.pl = fxs t
 | .leaf _ _ _ => rfl
 | .un k s p a => by simp only [Tr.pl, fxs, zle a, zdj]
 | .bin _ _ _ a b => by simp only [Tr.pl, fxs, zle a, zle b]
theorem zku : ∀ t : Tr, depT t.pl = depT t
 | .leaf _ _ _ => rfl
 | .un k s p a => by simp only [Tr.pl, depT, zku a, zdj]
 | .bin _ _ _ a b => by simp only [Tr.pl, depT, zku a, zku b]
theorem zlh : ∀ (t : Tr) (g : Bool), t.pl.ok = true->fxs (nfT t g) = fxs t
 | .leaf _ _ _, _, _ => rfl
 | .un k s p a, g, h => by
  simp only [Tr.pl, Tr.ok, Bool.and_eq_true, decide_eq_true_eq] at h
  have hk := ye (k := k) (by omega)
  simp only [nfT]
  by_cases h5 : k = 5
  ·rw [if_pos h5, zlh a _ h.2]
   simp only [fxs]
   rw [if_neg (by rw [h5]; decide), List.append_nil]
  ·rw [if_neg h5]
   simp only [fxs, zhh hk, zlh a g h.2]
 | .bin k s p a b, g, h => by
  simp only [Tr.pl, Tr.ok, Bool.and_eq_true, decide_eq_true_eq] at h
  simp only [nfT, fxs, zlh a g h.1.2, zlh b g h.2]
theorem zkl : ∀ (t : Tr) (g : Bool), t.pl.ok = true->depT (nfT t g) = depT t
 | .leaf _ _ _, _, _ => rfl
 | .un k s p a, g, h => by
  simp only [Tr.pl, Tr.ok, Bool.and_eq_true, decide_eq_true_eq] at h
  have hk := ye (k := k) (by omega)
  simp only [nfT]
  by_cases h5 : k = 5
  ·rw [if_pos h5, zkl a _ h.2]
   simp only [depT]
   rw [if_neg (by rw [h5]; decide)]
  ·rw [if_neg h5]
   simp only [depT, zhh hk, zkl a g h.2]
 | .bin k s p a b, g, h => by
  simp only [Tr.pl, Tr.ok, Bool.and_eq_true, decide_eq_true_eq] at h
  simp only [nfT, depT, zkl a g h.1.2, zkl b g h.2]
theorem chk_nf {t : Tr} (g : Bool) (ht : t.pl.ok = true) (hc : (chkT t.pl).2 = 0) : (chkT (nfT t g).pl).2 = 0 := by
 obtain ⟨h1, h2, h3⟩ := (znn ht).1 hc
 refine (znn (zkp t g ht)).2 ⟨zig t g [] ht h1, ?_, ?_⟩
 ·rw [zle, zlh t g ht, ← zle]; exact h2
 ·rw [zku, zkl t g ht, ← zku]; exact h3
end Go.Ab.S5
namespace Go.Ab.S5
set_option linter.unusedVariables false
set_option linter.unusedSimpArgs false
variable {α : Type} {h : H}
def Below (l : List Nd) : Prop := ∀ i n, l[i]? = some n->(0 < arF n.kind->∃ j : Nat, n.a = (j : Int) ∧ j < i) ∧ (1 < arF n.kind->∃ j : Nat, n.b = (j : Int) ∧ j < i)
def upA : Tr->Nat->Int->List Int
 | .leaf _ _ _, _, p => [p]
 | .un _ _ _ a, base, p => upA a base ((base + a.size : Nat) : Int) ++ [p]
 | .bin _ _ _ a b, base, p => upA a base ((base + a.size + b.size : Nat) : Int) ++ (upA b (base + a.size) ((base + a.size + b.size : Nat) : Int) ++ [p])
theorem zbq : ∀ (t : Tr) (base : Nat) (p : Int), (upA t base p).length = t.size
 | .leaf _ _ _, _, _ => rfl
 | .un _ _ _ a, base, p => by simp [upA, Tr.size, zbq a]
 | .bin _ _ _ a b, base, p => by simp [upA, Tr.size, zbq a, zbq b]; omega
section
variable {h₀ : H} {f out : Sl} {l : List Nd}
structure Mine (h₀ h : H) (s : Sl) (cs : List V) : Prop where
 ext : Ext h₀ h
 own : Own h s 1 cs
 low : h₀.next≤s.id
theorem Mine.push {cs : List V} (m : Mine h₀ h out cs) {h' : H} (x : Ext h h') : Mine h₀ h' out cs := ⟨m.ext.trans x, m.own.ext x, m.low⟩
end
end Go.Ab.S5
namespace Go.Ab.S5
set_option linter.unusedVariables false
set_option linter.unusedSimpArgs false
variable {α : Type} {h : H}
section
variable {h₀ : H} {f out : Sl} {l : List Nd}
theorem set_set (T : List Int) (i : Nat) (x y : Int) : (T.set i x).set i y = T.set i y := by simp
end
end Go.Ab.S5
namespace Go.Ab.S5
set_option linter.unusedVariables false
set_option linter.unusedSimpArgs false
variable {α : Type} {h : H}
def n7 : Nd := ⟨-7, 0, 0, [], 0⟩
structure Lent (h : H) (o : Sl) (l : List Nd) : Prop where
 all : Rd h ⟨o.ad, l.length + 1, l.length + 1, o.loose⟩ 5 (cN (l ++ [n7]))
 len : o.len = l.length
 cap : o.cap = l.length + 1
 lo : o.loose = some 5
theorem Lent.ext {o : Sl} {l : List Nd} (L : Lent h o l) {h' : H} (x : Ext h h') : Lent h' o l := ⟨L.all.ext x, L.len, L.cap, L.lo⟩
theorem Lent.rd {o : Sl} {l : List Nd} (L : Lent h o l) : NdR h o l := by
 have := L.all.to l.length o.cap o.loose (Nat.le_succ _)
 rw [zch Nd.len, List.take_left] at this
 cases o
 have h2 := L.len
 dsimp only at h2 this ⊢
 rw [h2]
 exact this
def Room (n : Nat) : Prop := n * 48≤140737488351232
end Go.Ab.S5
namespace Go.Ab.S5
set_option linter.unusedVariables false
set_option linter.unusedSimpArgs false
variable {α : Type} {h : H}
theorem room_n {n : Nat} (h : Room n) : (0 + n + (0 + n) / 4 + 512) * 48≤281474976710656 := by unfold Room at h; omega
theorem Room.le {n : Nat} (h : Room n) : n≤4611686018427387900 := by unfold Room at h; omega
theorem zmh (k : Nat) {x : Sl} {l : List Nd} (h : H) (r : NdR h x l) (hr : Room l.length) :
  ∃ d h', (∀ (α : Type) (ret : Sl->M α), qam.f (k + 1) x ret h = ret d h') ∧ Ext h h' ∧ NdR h' d l ∧ (l ≠ []->Own h' d 5 (cN l)) ∧ zaw h d := by
 have hlen := zbm r
 cases ha : x.ad with
 | none =>
  have hl : l = [] := List.eq_nil_of_length_eq_zero (by rw [← hlen]; exact r.nil ha)
  subst hl
  refine ⟨Sl.nil, h, fun α ret => ?_, Ext.refl h, Rd.nilSl h 5, fun h => absurd rfl h, zaw.nil h⟩
  rw [qam.f, qam.u1.f, ha]
  rfl
 | some a =>
  have x1 : Ext h (h.push (.cells [] true)) := (Ext.refl h).push _
  have hg : (h.push (.cells [] true)).get h.next = some (.cells [] true) := by rw [zj, if_pos rfl]
  have ap : App (h.push (.cells [] true)) ⟨some ⟨h.next, 0⟩, 0, 0, none⟩ 5 [] := ⟨Rd.pushed h (by simp), fun ha => (by cases ha), .inl ⟨rfl, rfl⟩⟩
  have st : ∀ (α : Type) (ret : Sl->M α), qam.f (k + 1) x ret h = zai ⟨some ⟨h.next, 0⟩, 0, 0, none⟩ 5 48 x ret (h.push (.cells [] true)) := by
   intro α ret
   rw [qam.f, qam.u1.f, ha]
   rw [show (some a).isNone = false from rfl, cond_false, jp rfl]
  by_cases h0 : x.len = 0
  ·have hl : l = [] := List.eq_nil_of_length_eq_zero (by rw [← hlen]; exact h0)
   subst hl
   refine ⟨⟨some ⟨h.next, 0⟩, 0, 0, none⟩, h.push (.cells [] true), fun α ret => ?_, x1, ap.rd, fun h => absurd rfl h, fun a ha => by cases ha; exact Nat.le_refl _⟩
   rw [st]
   exact app_row0 ap (r.ext x1) h0 ret (fun _ a ha => by cases ha; exact ⟨hg, rfl, rfl⟩)
  ·obtain ⟨h', e, ap', g, kp⟩ := zjr (bytes := 48) ap (r.ext x1) (by omega) (by decide) (by rw [hlen]; exact room_n hr)
   rw [List.nil_append] at ap' g
   refine ⟨_, h', fun α ret => (st α ret).trans (e α ret), kp.ext x1 (fun a ha => by cases ha; exact Nat.le_refl _), ap'.rd, fun _ => ⟨ap'.rd.len, _, [], rfl, by rw [List.append_nil]; exact g, by rw [kp.1]; exact Nat.lt_succ_self _⟩, fun a ha => by cases ha; show h.next≤h.next + 1; omega⟩
theorem nd_stk {s : Sl} {l : List Nd} (o : Own h s 5 (cN l)) {i : Nat} {n : Nd} (hi : l[i]? = some n) (v : Int) :
  ∃ h', (∀ (α : Type) (K : M α), idxSl s (i : Int) 5 (fun a => st1 ((a.add 0).add 0) (.int .i64 v) K) h = K h') ∧ Own h' s 5 (cN (l.set i { n with kind := v })) ∧ h'.next = h.next ∧ ∀ i, i ≠ s.id->h'.get i = h.get i := by
 have hlt := zbj hi
 obtain ⟨h', e, o', k⟩ := zfn o (n := i * 5 + 0) (v := .int .i64 v) rfl (by rw [zav Nd.len]; omega)
 refine ⟨h', fun α K => ?_, ?_, k⟩
 ·rw [zok o.rd rfl hi, yr, yr]
  exact e α K
 ·rw [zeh Nd.len l i n { n with kind := v } 0 _ hi rfl (by decide)] at o'
  exact o'
theorem zji {l : List Nd} {i : Nat} {n : Nd} (hi : l[i]? = some n) : ((l.take i).map plN ++ l.drop i).set i (plN n) = (l.take (i + 1)).map plN ++ l.drop (i + 1) := by
 have hlt := zbj hi
 have hg : l[i] = n := by rw [List.getElem?_eq_getElem hlt] at hi; exact Option.some.inj hi
 rw [List.set_append_right _ _ (by simp; omega), List.drop_eq_getElem_cons hlt, List.length_map, List.length_take, Nat.min_eq_left (by omega), Nat.sub_self, List.set_cons_zero, List.take_succ_eq_append_getElem hlt, List.map_append, hg]
 simp
theorem plN_get {l : List Nd} {i : Nat} {n : Nd} (hi : l[i]? = some n) : ((l.take i).map plN ++ l.drop i)[i]? = some n := by
 have hlt := zbj hi
 rw [List.getElem?_append_right (by simp; omega), List.length_map, List.length_take, Nat.min_eq_left (by omega), Nat.sub_self, List.getElem?_drop, Nat.add_zero]
 exact hi
theorem wide_loop (k : Nat) {s : Sl} {l : List Nd} (hl : l.length≤4611686018427387800) (hs : s.len = l.length) : ∀ (j i : Nat) (h : H), i≤l.length->l.length - i < j->Own h s 5 (cN ((l.take i).map plN ++ l.drop i)) ->
  ∃ h', (∀ (α : Type) (kx : Sl->M α), ql.u4.l k kx j s (l.length : Int) (i : Int) h = kx s h') ∧ Own h' s 5 (cN (l.map plN)) ∧ h'.next = h.next ∧ ∀ i, i ≠ s.id->h'.get i = h.get i := by
 intro j
 induction j with
 | zero => intro i h hi hj; omega
 | succ j ih =>
  intro i h hi hj o
  by_cases hlt : i < l.length
  ·have hn : l[i]? = some l[i] := List.getElem?_eq_getElem hlt
   generalize l[i] = n at hn
   have hg := plN_get hn
   by_cases h12 : n.kind = 12
   ·obtain ⟨h1, e1, o1, n1, g1⟩ := nd_stk o hg 3
    have : ({ n with kind := 3 } : Nd) = plN n := by unfold plN plK; rw [if_pos h12]
    rw [this, zji hn] at o1
    obtain ⟨h2, e2, o2, n2, g2⟩ := ih (i + 1) h1 (by omega) (by omega) o1
    refine ⟨h2, fun α kx => ?_, o2, by omega, fun i hi => by rw [g2 i hi, g1 i hi]⟩
    rw [ql.u4.l, ql.u3.f, dT (by omega : (i : Int) < (l.length : Int)), cond_true, zjf o.rd rfl hg, dT h12, cond_true]
    refine (e1 α _).trans ?_
    rw [je (by omega) (by omega)]
    exact e2 α kx
   ·have : plN n = n := by unfold plN plK; rw [if_neg h12]
    have o1 := o
    have e0 := zji hn
    rw [this, show ((l.take i).map plN ++ l.drop i).set i n = (l.take i).map plN ++ l.drop i by
     have hlt' := zbj hg
     rw [List.getElem?_eq_getElem hlt'] at hg
     rw [← Option.some.inj hg]; exact List.set_getElem_self hlt'] at e0
    rw [e0] at o1
    obtain ⟨h2, e2, o2, n2, g2⟩ := ih (i + 1) h (by omega) (by omega) o1
    refine ⟨h2, fun α kx => ?_, o2, n2, g2⟩
    rw [ql.u4.l, ql.u3.f, dT (by omega : (i : Int) < (l.length : Int)), cond_true, zjf o.rd rfl hg, dF h12, cond_false, je (by omega) (by omega)]
    exact e2 α kx
  ·refine ⟨h, fun α kx => ?_, ?_, rfl, fun _ _ => rfl⟩
   ·rw [ql.u4.l, ql.u3.f, dF (by omega : ¬ (i : Int) < (l.length : Int)), cond_false]
   ·rw [List.take_of_length_le (by omega), List.drop_of_length_le (by omega), List.append_nil] at o
    exact o
structure Wide (l : List Nd) (u : Tr) : Prop where
 ok : u.pl.ok = true
 size : u.size≤60
 flat : l = u.flat 0
 chk : (chkT u.pl).2 = 0
def zdq (l : List Nd) : Prop := zes (l.map plN) = false ∨ ∃ u : Tr, u.pl.ok = true ∧ u.size≤60 ∧ l = u.flat 0 ∧ (chkT u.pl).2 ≠ 0
theorem wide_or (l : List Nd) : (∃ u, Wide l u) ∨ zdq l := by
 cases hR : zes (l.map plN) with
 | false => exact .inr (.inl hR)
 | true =>
  obtain ⟨t, h1, h2, h3⟩ := (zhv _).1 hR
  obtain ⟨u, rfl, hu⟩ := zgd t 0 l h2
  rw [yj] at h3
  by_cases hc : (chkT u.pl).2 = 0
  ·exact .inl ⟨u, h1, h3, hu, hc⟩
  ·exact .inr (.inr ⟨u, h1, h3, hu, hc⟩)
theorem zph (k : Nat) {f : Sl} {l : List Nd} (hr : Room l.length) (hk : 600 + l.length≤k) (h : H) (r : NdR h f l) :
  ∃ d h', (∀ (α : Type) (ret : Bool->M α), ql.f (k + 1) f ret h = qa.f k d (fun _ e => ret (decide (e = 0))) h') ∧ Ext h h' ∧ NdR h' d (l.map plN) := by
 obtain ⟨k, rfl⟩ : ∃ q, k = q + 1 := ⟨k - 1, by omega⟩
 obtain ⟨d, h1, e1, x1, r1, o1, w1⟩ := zmh k h r hr
 have hd := zbm r1
 have st : ∀ (α : Type) (ret : Bool->M α), ql.f (k + 1 + 1) f ret h = ql.u4.l (k + 1) (fun y0 => ql.u7.f (k + 1) y0 ret) (k + 1) d (l.length : Int) ((0 : Nat) : Int) h1 := by
  intro α ret
  rw [ql.f, ql.u9.f, ql.u1.f, e1, ql.u8.f, ql.u6.f, ql.u2.f, hd, ql.u5.f, ql.u4.f]
  rfl
 by_cases h0 : l = []
 ·subst h0
  refine ⟨d, h1, fun α ret => ?_, x1, r1⟩
  rw [st, ql.u4.l, ql.u3.f]
  rfl
 ·obtain ⟨h2, e2, o2, n2, g2⟩ := wide_loop (k + 1) (by unfold Room at hr; omega) hd (k + 1) 0 h1 (Nat.zero_le _) (by omega) (o1 h0)
  have hid : h.next≤d.id := by
   obtain ⟨id, more, q1, q2, q3⟩ := (o1 h0).blk
   unfold Sl.id
   rw [q1]
   exact w1 _ q1
  refine ⟨d, h2, fun α ret => ?_, ⟨by have := x1.1; omega, fun i hi => ?_⟩, o2.rd⟩
  ·rw [st, e2, ql.u7.f]
  ·rw [g2 i (by omega)]; exact x1.2 i hi
theorem zmu (k : Nat) {f : Sl} {l : List Nd} {u : Tr} (w : Wide l u) (hk : 700≤k) (h : H) (r : NdR h f l) :
  ∃ h', (∀ (α : Type) (ret : Bool->M α), ql.f (k + 1) f ret h = ret true h') ∧ Ext h h' := by
 obtain ⟨k, rfl⟩ : ∃ q, k = q + 1 := ⟨k - 1, by omega⟩
 have hl : l.length≤60 := by rw [w.flat, zh]; exact w.size
 obtain ⟨d, h1, e1, x1, r1⟩ := zph (k + 1) (by unfold Room; omega) (by omega) h r
 rw [w.flat, ← zcm] at r1
 obtain ⟨h2, e2, x2⟩ := zmj k (by omega) (t := u.pl) w.ok (by rw [yj]; exact w.size) h1 r1
 refine ⟨h2, fun α ret => ?_, x1.trans x2⟩
 rw [e1, e2, w.chk, dT rfl]
theorem zpg (k : Nat) {f : Sl} {l : List Nd} (w : zdq l) (hr : Room l.length) (hk : 700 + l.length≤k) (h : H) (r : NdR h f l) :
  ∃ h', (∀ (α : Type) (ret : Bool->M α), ql.f (k + 1) f ret h = ret false h') ∧ Ext h h' := by
 obtain ⟨k, rfl⟩ : ∃ q, k = q + 1 := ⟨k - 1, by omega⟩
 obtain ⟨d, h1, e1, x1, r1⟩ := zph (k + 1) hr (by omega) h r
 rcases w with w | ⟨u, u1, u2, u3, u4⟩
 ·obtain ⟨h2, e2, x2⟩ := check_bad k (by omega) w h1 r1
  refine ⟨h2, fun α ret => ?_, x1.trans x2⟩
  rw [e1, e2, dF (by decide)]
 ·rw [u3, ← zcm] at r1
  obtain ⟨h2, e2, x2⟩ := zmj k (by omega) (t := u.pl) u1 (by rw [yj]; exact u2) h1 r1
  refine ⟨h2, fun α ret => ?_, x1.trans x2⟩
  rw [e1, e2, dF u4]
end Go.Ab.S5
namespace Go.Ab.S5
set_option linter.unusedVariables false
set_option linter.unusedSimpArgs false
def loA : Tr->Nat->List Nat
 | .leaf _ _ _, b => [b]
 | .un _ _ _ a, b => loA a b ++ [b]
 | .bin _ _ _ a c, b => loA a b ++ (loA c (b + a.size) ++ [b])
theorem zax : ∀ (t : Tr) (b : Nat), (loA t b).length = t.size
 | .leaf _ _ _, _ => rfl
 | .un _ _ _ a, b => by simp [loA, Tr.size, zax a]
 | .bin _ _ _ a c, b => by simp [loA, Tr.size, zax a, zax c]; omega
inductive At (r : Tr) : Tr->Nat->Anc->Int->Prop where
 | root : At r r 0 [] (-1)
 | un {k s p a b A q} : At r (.un k s p a) b A q->At r a b ((b + a.size, (Tr.un k s p a).node b) :: A) ((b + a.size : Nat) : Int)
 | left {k s p a c b A q} : At r (.bin k s p a c) b A q->At r a b ((b + a.size + c.size, (Tr.bin k s p a c).node b) :: A) ((b + a.size + c.size : Nat) : Int)
 | right {k s p a c b A q} : At r (.bin k s p a c) b A q->At r c (b + a.size) ((b + a.size + c.size, (Tr.bin k s p a c).node b) :: A) ((b + a.size + c.size : Nat) : Int)
def zkm : Tr->Anc->Int
 | .leaf k s p, A => zcg k s A
 | _, _ => -1
def Seg {β : Type} (l : List β) (b : Nat) (m : List β) : Prop := ∀ i x, m[i]? = some x->l[b + i]? = some x
theorem Seg.fst {β : Type} {l m n : List β} {b : Nat} (s : Seg l b (m ++ n)) : Seg l b m := fun i x h => s i x (by
 rw [List.getElem?_append_left]; exact h
 exact (List.getElem?_eq_some_iff.1 h).1)
theorem Seg.snd {β : Type} {l m n : List β} {b c : Nat} (s : Seg l b (m ++ n)) (hc : c = b + m.length) : Seg l c n := fun i x h => by
 have := s (m.length + i) x (by rw [List.getElem?_append_right (by omega), Nat.add_sub_cancel_left]; exact h)
 rw [hc, Nat.add_assoc]; exact this
theorem Seg.hd {β : Type} {l : List β} {b : Nat} {x : β} (s : Seg l b [x]) : l[b]? = some x := s 0 x rfl
section
variable {r t : Tr} {b : Nat} {A : Anc} {q : Int}
theorem At.seg (h : At r t b A q) : Seg (r.flat 0) b (t.flat b) ∧ Seg (upA r 0 (-1)) b (upA t b q) ∧ Seg (toA r 0 []) b (toA t b A) ∧ Seg (loA r 0) b (loA t b) ∧ b + t.size≤r.size := by
 induction h with
 | root => exact ⟨fun i x h => by rw [Nat.zero_add]; exact h, fun i x h => by rw [Nat.zero_add]; exact h, fun i x h => by rw [Nat.zero_add]; exact h, fun i x h => by rw [Nat.zero_add]; exact h, by omega⟩
 | un _ ih =>
  obtain ⟨h1, h2, h3, h4, h5⟩ := ih
  simp only [Tr.flat, upA, toA, loA, Tr.size] at h1 h2 h3 h4 h5
  exact ⟨h1.fst, h2.fst, h3.fst, h4.fst, by omega⟩
 | left _ ih =>
  obtain ⟨h1, h2, h3, h4, h5⟩ := ih
  simp only [Tr.flat, upA, toA, loA, Tr.size] at h1 h2 h3 h4 h5
  exact ⟨h1.fst, h2.fst, h3.fst, h4.fst, by omega⟩
 | right _ ih =>
  obtain ⟨h1, h2, h3, h4, h5⟩ := ih
  simp only [Tr.flat, upA, toA, loA, Tr.size] at h1 h2 h3 h4 h5
  exact ⟨(h1.snd (by rw [zh])).fst, (h2.snd (by rw [zbq])).fst, (h3.snd (by rw [zae])).fst, (h4.snd (by rw [zax])).fst, by omega⟩
theorem At.last (h : At r t b A q) : (r.flat 0)[b + t.size - 1]? = some (t.node b) ∧ (upA r 0 (-1))[b + t.size - 1]? = some q ∧ (loA r 0)[b + t.size - 1]? = some b ∧
  (toA r 0 [])[b + t.size - 1]? = some (zkm t A) := by
 obtain ⟨h1, h2, h3, h4, h5⟩ := h.seg
 cases t with
 | leaf k s p =>
  simp only [Tr.flat, upA, toA, loA, Tr.size] at h1 h2 h3 h4 h5 ⊢
  exact ⟨h1.hd, h2.hd, h4.hd, h3.hd⟩
 | un k s p a =>
  simp only [Tr.flat, upA, toA, loA, Tr.size] at h1 h2 h3 h4 h5 ⊢
  rw [show b + (a.size + 1) - 1 = b + a.size by omega]
  exact ⟨(h1.snd (by rw [zh])).hd, (h2.snd (by rw [zbq])).hd, (h4.snd (by rw [zax])).hd, (h3.snd (by rw [zae])).hd⟩
 | bin k s p a c =>
  simp only [Tr.flat, upA, toA, loA, Tr.size] at h1 h2 h3 h4 h5 ⊢
  rw [show b + (a.size + c.size + 1) - 1 = b + a.size + c.size by omega]
  exact ⟨((h1.snd (by rw [zh])).snd (by rw [zh])).hd, ((h2.snd (by rw [zbq])).snd (by rw [zbq])).hd, ((h4.snd (by rw [zax])).snd (by rw [zax])).hd, ((h3.snd (by rw [zae])).snd (by rw [zae])).hd⟩
theorem At.lastAt (h : At r t b A q) {i : Nat} (hi : b + t.size = i + 1) : (r.flat 0)[i]? = some (t.node b) ∧ (loA r 0)[i]? = some b := by
 have := h.last
 rw [show b + t.size - 1 = i by omega] at this
 exact ⟨this.1, this.2.2.1⟩
theorem At.anc (h : At r t b A q) : ∀ i x, (i, x) ∈ A->b + t.size≤i ∧ (r.flat 0)[i]? = some x ∧ ∃ m, (loA r 0)[i]? = some m ∧ m≤b := by
 induction h with
 | root => intro i x h; cases h
 | @un k s p a b A q h ih =>
  intro i x hm
  have hl := h.lastAt (i := b + a.size) (by simp only [Tr.size]; omega)
  simp only [Tr.size] at ih ⊢
  rcases List.mem_cons.1 hm with e | hm
  ·cases e
   exact ⟨Nat.le_refl _, hl.1, _, hl.2, Nat.le_refl _⟩
  ·obtain ⟨h1, h2, m, h3, h4⟩ := ih i x hm
   exact ⟨by omega, h2, m, h3, h4⟩
 | @left k s p a c b A q h ih =>
  intro i x hm
  have hl := h.lastAt (i := b + a.size + c.size) (by simp only [Tr.size]; omega)
  simp only [Tr.size] at ih ⊢
  rcases List.mem_cons.1 hm with e | hm
  ·cases e
   exact ⟨by omega, hl.1, _, hl.2, Nat.le_refl _⟩
  ·obtain ⟨h1, h2, m, h3, h4⟩ := ih i x hm
   exact ⟨by omega, h2, m, h3, h4⟩
 | @right k s p a c b A q h ih =>
  intro i x hm
  have hl := h.lastAt (i := b + a.size + c.size) (by simp only [Tr.size]; omega)
  simp only [Tr.size] at ih ⊢
  rcases List.mem_cons.1 hm with e | hm
  ·cases e
   exact ⟨by omega, hl.1, _, hl.2, by omega⟩
  ·obtain ⟨h1, h2, m, h3, h4⟩ := ih i x hm
   exact ⟨by omega, h2, m, h3, by omega⟩
theorem At.inside : ∀ {t : Tr} {b : Nat} {A : Anc} {q : Int}, At r t b A q->∀ v, b≤v->v < b + t.size->∃ t' b' A' q', At r t' b' A' q' ∧ b' + t'.size = v + 1 ∧ b≤b' ∧ depT t'≤depT t
 | .leaf k s p, b, A, q, h, v, h1, h2 => ⟨_, _, _, _, h, by simp only [Tr.size] at h2 ⊢; omega, Nat.le_refl _, Nat.le_refl _⟩
 | .un k s p a, b, A, q, h, v, h1, h2 => by
  simp only [Tr.size] at h2
  by_cases hv : v < b + a.size
  ·obtain ⟨t', b', A', q', g1, g2, g3, g4⟩ := h.un.inside v h1 hv
   exact ⟨t', b', A', q', g1, g2, g3, by have := depT_up k s p a; omega⟩
  ·exact ⟨_, _, _, _, h, by simp only [Tr.size]; omega, Nat.le_refl _, Nat.le_refl _⟩
 | .bin k s p a c, b, A, q, h, v, h1, h2 => by
  simp only [Tr.size] at h2
  by_cases hv : v < b + a.size
  ·obtain ⟨t', b', A', q', g1, g2, g3, g4⟩ := h.left.inside v h1 hv
   exact ⟨t', b', A', q', g1, g2, g3, by simp only [depT]; omega⟩
  ·by_cases hv2 : v < b + a.size + c.size
   ·obtain ⟨t', b', A', q', g1, g2, g3, g4⟩ := h.right.inside v (by omega) hv2
    exact ⟨t', b', A', q', g1, g2, by omega, by simp only [depT]; omega⟩
   ·exact ⟨_, _, _, _, h, by simp only [Tr.size]; omega, Nat.le_refl _, Nat.le_refl _⟩
theorem At.all (r : Tr) (v : Nat) (hv : v < r.size) : ∃ t' b' A' q', At r t' b' A' q' ∧ b' + t'.size = v + 1 ∧ depT t'≤depT r := by
 obtain ⟨t', b', A', q', h1, h2, _, h3⟩ := (At.root (r := r)).inside v (Nat.zero_le _) (by omega)
 exact ⟨t', b', A', q', h1, h2, h3⟩
theorem At.up (h : At r t b A q) : (q = -1 ∧ b + t.size = r.size) ∨ ∃ p : Nat, q = (p : Int) ∧ b + t.size≤p ∧ p < r.size ∧ (∃ m, (loA r 0)[p]? = some m ∧ m≤b) ∧ ∀ n m, b + t.size≤n->n < p->(loA r 0)[n]? = some m->b + t.size≤m := by
 cases h with
 | root => left; exact ⟨rfl, by omega⟩
 | @un k s p a b A q h =>
  right
  have hl := h.lastAt (i := b + t.size) (by simp only [Tr.size]; omega); have hs := h.seg.2.2.2.2
  simp only [Tr.size] at hs
  exact ⟨_, rfl, Nat.le_refl _, by omega, ⟨_, hl.2, Nat.le_refl _⟩, fun n m h1 h2 => absurd h2 (by omega)⟩
 | @left k s p a c b A q h =>
  right
  have hl := h.lastAt (i := b + t.size + c.size) (by simp only [Tr.size]; omega); have hs := h.seg.2.2.2.2
  simp only [Tr.size] at hs
  refine ⟨_, rfl, by omega, by omega, ⟨_, hl.2, Nat.le_refl _⟩, fun n m h1 h2 h3 => ?_⟩
  obtain ⟨t', b', A', q', g1, g2, g3, _⟩ := h.right.inside n h1 h2
  have := (g1.lastAt (i := n) (by omega)).2
  rw [h3] at this
  cases this
  exact g3
 | @right k s p a c b' A q h =>
  right
  have hl := h.lastAt (i := b' + a.size + t.size) (by simp only [Tr.size]; omega); have hs := h.seg.2.2.2.2
  simp only [Tr.size] at hs
  exact ⟨_, rfl, by omega, by omega, ⟨_, hl.2, by omega⟩, fun n m h1 h2 => absurd h2 (by omega)⟩
end
theorem zmy {s : List UInt8} : ∀ {A : Anc} {i m : Nat}, zac s A = some (i, m)->∃ x, (i, x) ∈ A ∧ fixK x.kind = true ∧ x.name = s
 | [], i, m, h => by cases h
 | (j, n) :: A, i, m, h => by
  simp only [zac] at h
  split at h
  ·rename_i hc; cases h; exact ⟨n, List.mem_cons_self .., hc⟩
  ·obtain ⟨x, h1, h2⟩ := zmy h; exact ⟨x, List.mem_cons_of_mem _ h1, h2⟩
structure Lay (N : Nat) (nd : Nat->Nd) (U T : Nat->Int) (L : Nat->Nat) : Prop where
 tb : ∀ i, i < N->0≤T i->∃ j : Nat, T i = (j : Int) ∧ i < j ∧ j < N ∧ fixK (nd j).kind = true ∧ L j≤i
 tn : ∀ i, i < N->(nd i).kind ≠ 4->T i = -1
 ll : ∀ i, i < N->L i≤i
 ar : ∀ i, i < N->arF (nd i).kind = 0 ∨ arF (nd i).kind = 1 ∨ arF (nd i).kind = 2
 a0 : ∀ i, i < N->arF (nd i).kind = 0->L i = i
 a1 : ∀ i, i < N->arF (nd i).kind = 1->∃ j : Nat, i = j + 1 ∧ (nd i).a = (j : Int) ∧ L i = L j
 a2 : ∀ i, i < N->arF (nd i).kind = 2->∃ j c : Nat, i = j + 1 ∧ (nd i).b = (j : Int) ∧ L j = c + 1 ∧ (nd i).a = (c : Int) ∧ L i = L c
 nest : ∀ n v, n < N->L n≤v->v≤n->L n≤L v
 u1 : ∀ i, i < N->U i = -1 ∨ ∃ p : Nat, U i = (p : Int) ∧ i < p ∧ p < N ∧ L p≤i
 u2 : ∀ i n, i < n->n < N->L n≤i->∃ p : Nat, U i = (p : Int) ∧ p≤n
abbrev ndF (t : Tr) (i : Nat) : Nd := (t.flat 0).getD i default
abbrev upF (t : Tr) (i : Nat) : Int := (upA t 0 (-1)).getD i (-1)
abbrev toF (t : Tr) (i : Nat) : Int := (toA t 0 []).getD i (-1)
abbrev loF (t : Tr) (i : Nat) : Nat := (loA t 0).getD i 0
theorem zcc {β : Type} {l : List β} {i : Nat} {x d : β} (h : l[i]? = some x) : l.getD i d = x := by rw [List.getD_eq_getElem?_getD, h]; rfl
theorem zdd {r t : Tr} {b i : Nat} {A : Anc} {q : Int} (h : At r t b A q) (hi : b + t.size = i + 1) : ndF r i = t.node b ∧ upF r i = q ∧ loF r i = b ∧ toF r i = (zkm t A) ∧ i < r.size := by
 have := h.last
 rw [show b + t.size - 1 = i by omega] at this
 exact ⟨zcc this.1, zcc this.2.1, zcc this.2.2.1, zcc this.2.2.2, by have := h.seg.2.2.2.2; omega⟩
theorem zgw {r t : Tr} {b : Nat} {A : Anc} {q : Int} (h : At r t b A q) (hr : r.ok = true) : t.ok = true := by
 induction h with
 | root => exact hr
 | un _ ih => simp only [Tr.ok, Bool.and_eq_true] at ih; exact ih.2
 | left _ ih => simp only [Tr.ok, Bool.and_eq_true] at ih; exact ih.1.2
 | right _ ih => simp only [Tr.ok, Bool.and_eq_true] at ih; exact ih.2
theorem lo_some {r : Tr} {i : Nat} (hi : i < r.size) : (loA r 0)[i]? = some (loF r i) := by
 have : i < (loA r 0).length := by rw [zax]; exact hi
 rw [List.getElem?_eq_getElem this, loF, List.getD_eq_getElem?_getD, List.getElem?_eq_getElem this]; rfl
theorem zox (r : Tr) (hr : r.ok = true) : Lay r.size (ndF r) (upF r) (toF r) (loF r) := by
 constructor
 ·intro i hi h0
  obtain ⟨t, b, A, q, h, hb, _⟩ := At.all r i hi
  obtain ⟨e1, e2, e3, e4, _⟩ := zdd h hb
  cases t with
  | un k s p a => rw [e4] at h0; exact absurd h0 (by simp [zkm])
  | bin k s p a c => rw [e4] at h0; exact absurd h0 (by simp [zkm])
  | leaf k s p =>
   rw [e4] at h0 ⊢
   simp only [zkm, zcg] at h0 ⊢
   by_cases hk : k = 4
   ·rw [if_pos hk] at h0 ⊢
    cases hf : zac s A with
    | none => rw [hf] at h0; exact absurd h0 (by decide)
    | some jm =>
     obtain ⟨j, m⟩ := jm
     obtain ⟨x, hx, hfx, _⟩ := zmy hf
     obtain ⟨g1, g2, mm, g3, g4⟩ := h.anc j x hx
     simp only [Tr.size] at g1 hb
     have hj : j < r.size := by have := (List.getElem?_eq_some_iff.1 g2).1; rwa [zh] at this
     refine ⟨j, rfl, by omega, hj, ?_, ?_⟩
     ·rw [show ndF r j = x from zcc g2]; exact hfx
     ·rw [show loF r j = mm from zcc g3]; omega
   ·rw [if_neg hk] at h0; exact absurd h0 (by decide)
 ·intro i hi hk
  obtain ⟨t, b, A, q, h, hb, _⟩ := At.all r i hi
  obtain ⟨e1, e2, e3, e4, _⟩ := zdd h hb
  rw [e4]
  cases t with
  | un => rfl
  | bin => rfl
  | leaf k s p =>
   rw [e1] at hk
   simp only [Tr.node] at hk
   simp only [zkm, zcg, if_neg hk]
 ·intro i hi
  obtain ⟨t, b, A, q, h, hb, _⟩ := At.all r i hi
  obtain ⟨e1, e2, e3, e4, _⟩ := zdd h hb
  have := t.pos
  rw [e3]; omega
 ·intro i hi
  obtain ⟨t, b, A, q, h, hb, _⟩ := At.all r i hi
  obtain ⟨e1, e2, e3, e4, _⟩ := zdd h hb
  have ho := zgw h hr
  rw [e1]
  cases t <;> simp only [Tr.ok, Bool.and_eq_true, decide_eq_true_eq] at ho <;> simp only [Tr.node]
  ·exact .inl ho.1
  ·exact .inr (.inl ho.1.1)
  ·exact .inr (.inr ho.1.1.1)
 ·intro i hi h0
  obtain ⟨t, b, A, q, h, hb, _⟩ := At.all r i hi
  obtain ⟨e1, e2, e3, e4, _⟩ := zdd h hb
  have ho := zgw h hr
  rw [e1] at h0
  rw [e3]
  cases t <;> simp only [Tr.ok, Bool.and_eq_true, decide_eq_true_eq] at ho <;> simp only [Tr.node] at h0 <;> simp only [Tr.size] at hb
  ·omega
  ·have := ho.1.1; omega
  ·have := ho.1.1.1; omega
 ·intro i hi h0
  obtain ⟨t, b, A, q, h, hb, _⟩ := At.all r i hi
  obtain ⟨e1, e2, e3, e4, _⟩ := zdd h hb
  have ho := zgw h hr
  rw [e1] at h0
  cases t <;> simp only [Tr.ok, Bool.and_eq_true, decide_eq_true_eq] at ho <;> simp only [Tr.node] at h0 <;> simp only [Tr.size] at hb
  ·have := ho.1; omega
  ·rename_i k s p a hd
   have := a.pos
   obtain ⟨g1, g2, g3, g4, _⟩ := zdd (i := i - 1) h.un (by omega)
   refine ⟨i - 1, by omega, ?_, by rw [e3, g3]⟩
   rw [e1]; simp only [Tr.node]; congr 1; omega
  ·have := ho.1.1.1; omega
 ·intro i hi h0
  obtain ⟨t, b, A, q, h, hb, _⟩ := At.all r i hi
  obtain ⟨e1, e2, e3, e4, _⟩ := zdd h hb
  have ho := zgw h hr
  rw [e1] at h0
  cases t <;> simp only [Tr.ok, Bool.and_eq_true, decide_eq_true_eq] at ho <;> simp only [Tr.node] at h0 <;> simp only [Tr.size] at hb
  ·have := ho.1; omega
  ·have := ho.1.1; omega
  ·rename_i k s p a c hd
   have := a.pos; have := c.pos
   obtain ⟨g1, g2, g3, g4, _⟩ := zdd (i := i - 1) h.right (by omega)
   obtain ⟨f1, f2, f3, f4, _⟩ := zdd (i := b + a.size - 1) h.left (by omega)
   refine ⟨i - 1, b + a.size - 1, by omega, ?_, by rw [g3]; omega, ?_, by rw [e3, f3]⟩
   ·rw [e1]; simp only [Tr.node]; congr 1; omega
   ·rw [e1]; simp only [Tr.node]
 ·intro n v hn h1 h2
  obtain ⟨t, b, A, q, h, hb, _⟩ := At.all r n hn
  obtain ⟨e1, e2, e3, e4, _⟩ := zdd h hb
  rw [e3] at h1 ⊢
  obtain ⟨t', b', A', q', g, gb, g3, _⟩ := h.inside v h1 (by omega)
  rw [(zdd g gb).2.2.1]
  exact g3
 ·intro i hi
  obtain ⟨t, b, A, q, h, hb, _⟩ := At.all r i hi
  obtain ⟨e1, e2, e3, e4, _⟩ := zdd h hb
  have := t.pos
  rw [e2]
  rcases h.up with ⟨h1, _⟩ | ⟨p, h1, h2, h3, ⟨m, h4, h5⟩, _⟩
  ·exact .inl h1
  ·refine .inr ⟨p, h1, by omega, h3, ?_⟩
   rw [show loF r p = m from zcc h4]; omega
 ·intro i n h1 h2 h3
  obtain ⟨t, b, A, q, h, hb, _⟩ := At.all r i (by omega)
  obtain ⟨e1, e2, e3, e4, _⟩ := zdd h hb
  rw [e2]
  rcases h.up with ⟨g1, g2⟩ | ⟨p, g1, g2, g3, _, g4⟩
  ·omega
  ·refine ⟨p, g1, ?_⟩
   by_cases hp : p≤n
   ·exact hp
   ·have := g4 n _ (by omega) (by omega) (lo_some h2)
    omega
end Go.Ab.S5
namespace Go.Ab.S5
set_option linter.unusedVariables false
set_option linter.unusedSimpArgs false
def orU (g : Nat->Nat) : Nat->Nat
 | 0 => 0
 | n + 1 => orU g n ||| g n
theorem orU_bit (g : Nat->Nat) (j : Nat) : ∀ n, (orU g n).testBit j = true ↔ ∃ v, v < n ∧ (g v).testBit j = true
 | 0 => by simp [orU]
 | n + 1 => by
  rw [orU, Nat.testBit_or, Bool.or_eq_true, orU_bit g j n]
  constructor
  ·rintro (⟨v, h1, h2⟩ | h)
   ·exact ⟨v, by omega, h2⟩
   ·exact ⟨n, by omega, h⟩
  ·rintro ⟨v, h1, h2⟩
   by_cases hv : v < n
   ·exact .inl ⟨v, hv, h2⟩
   ·have : v = n := by omega
    subst this; exact .inr h2
theorem zfm {a b : Nat} (h : ∀ j, a.testBit j = true ↔ b.testBit j = true) : a = b :=
 Nat.eq_of_testBit_eq fun j => by
  have := h j
  cases ha : a.testBit j <;> cases hb : b.testBit j <;> simp_all
theorem zop (n j : Nat) : (2 ^ n).testBit j = true ↔ n = j := by rw [Nat.testBit_two_pow]; simp
def frB (T : Nat->Int) (lo b v : Nat) : Nat := if lo≤v ∧ (b : Int) < T v then 2 ^ (T v).toNat else 0
def frF (T : Nat->Int) (L : Nat->Nat) (i : Nat) : Nat := orU (frB T (L i) i) (i + 1)
theorem zbw (T : Nat->Int) (L : Nat->Nat) (i j : Nat) : (frF T L i).testBit j = true ↔ ∃ v, v≤i ∧ L i≤v ∧ T v = (j : Int) ∧ i < j := by
 rw [frF, orU_bit]
 constructor
 ·rintro ⟨v, h1, h2⟩
  unfold frB at h2
  by_cases hc : L i≤v ∧ (i : Int) < T v
  ·rw [if_pos hc, zop] at h2
   exact ⟨v, by omega, hc.1, by omega, by omega⟩
  ·rw [if_neg hc] at h2; simp at h2
 ·rintro ⟨v, h1, h2, h3, h4⟩
  refine ⟨v, by omega, ?_⟩
  unfold frB
  rw [if_pos ⟨h2, by omega⟩, zop]
  omega
def clr (m i : Nat) : Nat := m &&& (18446744073709551615 - 2 ^ i)
theorem clr_bit {m i : Nat} (hm : m < 18446744073709551616) (hi : i < 64) (j : Nat) : (clr m i).testBit j = true ↔ m.testBit j = true ∧ i ≠ j := by
 unfold clr
 have h2 : 2 ^ i < 2 ^ 64 := Nat.pow_lt_pow_right (by decide) hi
 rw [Nat.testBit_and, show 18446744073709551615 - 2 ^ i = 2 ^ 64 - (2 ^ i + 1) by omega, Nat.testBit_two_pow_sub_succ h2]
 rw [Bool.and_eq_true, Bool.and_eq_true, decide_eq_true_eq, Nat.testBit_two_pow]
 constructor
 ·rintro ⟨h3, h4, h5⟩
  refine ⟨h3, ?_⟩
  simpa using h5
 ·rintro ⟨h3, h4⟩
  refine ⟨h3, ?_, by simpa using h4⟩
  by_cases hj : j < 64
  ·exact hj
  ·exfalso
   have := Nat.testBit_lt_two_pow (x := m) (i := j) (Nat.lt_of_lt_of_le hm (Nat.pow_le_pow_right (n := 2) (by decide) (by omega : 64≤j)))
   rw [this] at h3; cases h3
section
variable {N : Nat} {nd : Nat->Nd} {U T : Nat->Int} {L : Nat->Nat}
theorem zki (y : Lay N nd U T L) (hN : N≤60) {i : Nat} (hi : i < N) : frF T L i < 18446744073709551616 := by
 refine Nat.lt_pow_two_of_testBit (n := 64) _ fun j hj => ?_
 cases hb : (frF T L i).testBit j with
 | false => rfl
 | true =>
  obtain ⟨v, h1, h2, h3, h4⟩ := (zbw T L i j).1 hb
  obtain ⟨j', h5, h6, h7, _⟩ := y.tb v (by omega) (by omega)
  omega
theorem frF_in (y : Lay N nd U T L) {i j : Nat} (hi : i < N) (hb : (frF T L i).testBit j = true) : i < j ∧ j < N ∧ fixK (nd j).kind = true ∧ L j≤i ∧ L j≤L i := by
 obtain ⟨v, h1, h2, h3, h4⟩ := (zbw T L i j).1 hb
 obtain ⟨j', h5, h6, h7, h8, h9⟩ := y.tb v (by omega) (by omega)
 have : j' = j := by omega
 subst this
 exact ⟨h4, h7, h8, by omega, y.nest j' i h7 (by omega) (by omega)⟩
theorem frF_var (y : Lay N nd U T L) {i : Nat} (hi : i < N) (hk : (nd i).kind = 4) (h0 : 0≤T i) : frF T L i = 2 ^ (T i).toNat := by
 obtain ⟨j, e, h1, h2, _⟩ := y.tb i hi h0
 have hl := y.a0 i hi (by rw [hk]; decide)
 refine zfm fun b => ?_
 rw [zbw, zop]
 constructor
 ·rintro ⟨v, g1, g2, g3, g4⟩
  have : v = i := by omega
  subst this; omega
 ·intro h
  exact ⟨i, Nat.le_refl _, by omega, by omega, by omega⟩
theorem frF_leaf (y : Lay N nd U T L) {i : Nat} (hi : i < N) (h0 : arF (nd i).kind = 0) (hk : (nd i).kind ≠ 4) : frF T L i = 0 := by
 have hl := y.a0 i hi h0
 refine zfm fun b => ?_
 rw [zbw, Nat.zero_testBit]
 constructor
 ·rintro ⟨v, g1, g2, g3, g4⟩
  have : v = i := by omega
  subst this
  have := y.tn v hi hk
  omega
 ·intro h; cases h
theorem znw {k : Int} (h : arF k = 1 ∨ arF k = 2) : k ≠ 4 := by rintro rfl; rcases h with h | h <;> exact absurd h (by decide)
theorem frF_un (y : Lay N nd U T L) {i : Nat} (hi : i < N) (h1 : arF (nd i).kind = 1) (hf : fixK (nd i).kind = false) : ∃ a : Nat, (nd i).a = (a : Int) ∧ a < i ∧ frF T L i = frF T L a := by
 obtain ⟨j, rfl, e, hl⟩ := y.a1 i hi h1
 refine ⟨j, e, by omega, zfm fun b => ?_⟩
 rw [zbw, zbw]
 constructor
 ·rintro ⟨v, g1, g2, g3, g4⟩
  by_cases hv : v = j + 1
  ·subst hv
   have := y.tn _ hi (znw (.inl h1)); omega
  ·exact ⟨v, by omega, by omega, g3, by omega⟩
 ·rintro ⟨v, g1, g2, g3, g4⟩
  refine ⟨v, by omega, by omega, g3, ?_⟩
  obtain ⟨j', h5, h6, h7, h8, h9⟩ := y.tb v (by omega) (by omega)
  by_cases hb : b = j + 1
  ·subst hb
   have : j' = j + 1 := by omega
   subst this
   rw [hf] at h8; cases h8
  ·omega
theorem frF_fix (y : Lay N nd U T L) (hN : N≤60) {i : Nat} (hi : i < N) (h1 : arF (nd i).kind = 1) : ∃ a : Nat, (nd i).a = (a : Int) ∧ a < i ∧ (fixK (nd i).kind = true->frF T L i = clr (frF T L a) i) := by
 obtain ⟨j, rfl, e, hl⟩ := y.a1 i hi h1
 refine ⟨j, e, by omega, fun hf => zfm fun b => ?_⟩
 rw [clr_bit (zki y hN (by omega)) (by omega), zbw, zbw]
 constructor
 ·rintro ⟨v, g1, g2, g3, g4⟩
  by_cases hv : v = j + 1
  ·subst hv
   have := y.tn _ hi (znw (.inl h1)); omega
  ·exact ⟨⟨v, by omega, by omega, g3, by omega⟩, by omega⟩
 ·rintro ⟨⟨v, g1, g2, g3, g4⟩, g5⟩
  exact ⟨v, by omega, by omega, g3, by omega⟩
theorem zpu {k : Int} (h : arF k = 2) : fixK k = false := by
 rcases zjq h with rfl | rfl <;> decide
theorem frF_bin (y : Lay N nd U T L) {i : Nat} (hi : i < N) (h2 : arF (nd i).kind = 2) : ∃ a b : Nat, (nd i).a = (a : Int) ∧ (nd i).b = (b : Int) ∧ a < i ∧ b < i ∧ frF T L i = frF T L a ||| frF T L b := by
 obtain ⟨j, c, rfl, e1, e2, e3, hl⟩ := y.a2 i hi h2
 have hlj := y.ll j (by omega)
 refine ⟨c, j, e3, e1, by omega, by omega, zfm fun b => ?_⟩
 rw [zbw, Nat.testBit_or, Bool.or_eq_true, zbw, zbw]
 constructor
 ·rintro ⟨v, g1, g2, g3, g4⟩
  by_cases hv : v = j + 1
  ·subst hv
   have := y.tn _ hi (znw (.inr h2)); omega
  ·by_cases hc : v≤c
   ·exact .inl ⟨v, hc, by omega, g3, by omega⟩
   ·exact .inr ⟨v, by omega, by omega, g3, by omega⟩
 ·have hn : ∀ v, v≤j->T v = ((j + 1 : Nat) : Int)->False := fun v hv hT => by
   obtain ⟨j', h5, h6, h7, h8, h9⟩ := y.tb v (by omega) (by omega)
   have : j' = j + 1 := by omega
   subst this
   rw [zpu h2] at h8; cases h8
  have hlc := y.ll c (by omega)
  rintro (⟨v, g1, g2, g3, g4⟩ | ⟨v, g1, g2, g3, g4⟩)
  ·refine ⟨v, by omega, by omega, g3, ?_⟩
   obtain ⟨j', h5, h6, h7, h8, h9⟩ := y.tb v (by omega) (by omega)
   have hb : b ≠ j + 1 := fun e => hn v (by omega) (by rw [g3, e])
   by_cases hbj : b≤j
   ·have hnest := y.nest j j' (by omega) (by omega) (by omega)
    omega
   ·omega
  ·refine ⟨v, by omega, by omega, g3, ?_⟩
   have hb : b ≠ j + 1 := fun e => hn v (by omega) (by rw [g3, e])
   omega
end
def mxU (g : Nat->Nat) : Nat->Nat
 | 0 => 0
 | n + 1 => max (mxU g n) (g n)
theorem zmb {g g' : Nat->Nat} : ∀ n, (∀ v, v < n->g v = g' v)->mxU g n = mxU g' n
 | 0, _ => rfl
 | n + 1, h => by rw [mxU, mxU, zmb n (fun v hv => h v (by omega)), h n (by omega)]
theorem mxU_le {g : Nat->Nat} {m : Nat} : ∀ n, (∀ v, v < n->g v≤m)->mxU g n≤m
 | 0, _ => Nat.zero_le _
 | n + 1, h => by
  have := mxU_le n (fun v hv => h v (by omega)); have := h n (by omega)
  rw [mxU]; omega
def lowF (fx : Nat->Bool) (W R : Nat->Nat) (m b : Nat) : Nat := mxU (fun k => if fx k = true ∧ (W k).testBit b = true then R k else 0) m
def adj (m o : Nat) : Nat := m + (m + o) % 2
def rkV (nd : Nat->Nd) (W : Nat->Nat) (R : List Nat) (n : Nat) : Nat :=
 if fixK (nd n).kind = true then adj (lowF (fun k => fixK (nd k).kind) W (fun k => R.getD k 0) n n) (if (nd n).kind = 10 then 1 else 0) else 0
def rkL (nd : Nat->Nd) (W : Nat->Nat) : Nat->List Nat
 | 0 => []
 | n + 1 => rkL nd W n ++ [rkV nd W (rkL nd W n) n]
theorem zel (nd : Nat->Nd) (W : Nat->Nat) : ∀ n, (rkL nd W n).length = n
 | 0 => rfl
 | n + 1 => by simp [rkL, zel nd W n]
def rkF (nd : Nat->Nd) (W : Nat->Nat) (n : Nat) : Nat := rkV nd W (rkL nd W n) n
theorem rkL_get (nd : Nat->Nd) (W : Nat->Nat) : ∀ n k, k < n->(rkL nd W n)[k]? = some (rkF nd W k)
 | n + 1, k, h => by
  rw [rkL]
  by_cases hk : k < n
  ·rw [List.getElem?_append_left (by rw [zel]; exact hk)]; exact rkL_get nd W n k hk
  ·have : k = n := by omega
   subst this
   rw [List.getElem?_append_right (by rw [zel]; omega), zel, Nat.sub_self]; rfl
theorem zlb (nd : Nat->Nd) (W : Nat->Nat) (n : Nat) : rkF nd W n = if fixK (nd n).kind = true then adj (lowF (fun k => fixK (nd k).kind) W (rkF nd W) n n) (if (nd n).kind = 10 then 1 else 0) else 0 := by
 rw [rkF, rkV]
 have : lowF (fun k => fixK (nd k).kind) W (fun k => (rkL nd W n).getD k 0) n n = lowF (fun k => fixK (nd k).kind) W (rkF nd W) n n := by
  unfold lowF
  refine zmb n fun v hv => ?_
  dsimp only
  rw [List.getD_eq_getElem?_getD, rkL_get nd W n v hv]; rfl
 rw [this]
theorem rkF_le (nd : Nat->Nd) (W : Nat->Nat) : ∀ n, rkF nd W n≤n + 1 := by
 intro n
 induction n using Nat.strongRecOn with
 | ind n ih =>
  rw [zlb]
  split
  ·have : lowF (fun k => fixK (nd k).kind) W (rkF nd W) n n≤n := mxU_le n fun v hv => by
    have := ih v hv
    dsimp only
    split <;> omega
   unfold adj; split <;> omega
  ·omega
end Go.Ab.S5
