import Derived.Test.YtmanohnlcedeaaaS7l
set_option linter.unusedVariables false
set_option linter.unusedSimpArgs false
namespace Go.Ab.S7
abbrev Env:=List (List UInt8 × Bool)
def look (s:List UInt8):Env->Option Bool
 | []=>none
 | (x, b) :: E=>if x = s then some b else look s E
def zjr (E:Env):Env:=E.map fun x=>(x.1, !x.2)
def fit:Tr->Env->Bool
 | .leaf k s _, E=>if k = 4 then decide (look s E = some false) else true
 | .un k s _ a, E=>if fixK k = true then fit a ((s, false) :: E) else if k = 5 then fit a (zjr E) else fit a E
 | .bin _ _ _ a b, E=>fit a E && fit b E
def fxs:Tr->List (List UInt8)
 | .leaf _ _ _=>[]
 | .un k s _ a=>fxs a ++ (if fixK k = true then [s] else [])
 | .bin _ _ _ a b=>fxs a ++ fxs b
def envA:Anc->Env
 | []=>[]
 | (_, n) :: A=>if fixK n.kind = true then (n.name, false) :: envA A else if n.kind = 5 then zjr (envA A) else envA A
theorem zmw (s:List UInt8):∀ E:Env, look s (zjr E) = (look s E).map (!·)
 | []=>rfl
 | (x, b) :: E=>by
  have:=zmw s E
  unfold zjr at this ⊢
  simp only [List.map_cons, look, this]
  split <;> rfl
theorem fix_five {k:Int} (h:fixK k = true):k ≠ 5:=by
 rintro rfl
 exact absurd h (by decide)
def parB (c m:Nat):Bool:=Nat.beq ((c - m) % 2) 1
theorem zlh (c m:Nat):parB c m = true ↔ (c - m) % 2 ≠ 0:=by
 unfold parB
 rw [Nat.beq_eq]
 omega
theorem zqc (s:List UInt8):∀ A:Anc, look s (envA A) = (zbc s A).map fun q=>parB (cntN A) q.2
 | []=>rfl
 | (i, n) :: A=>by
  have ih:=zqc s A
  have hc5:n.kind = 5->cntN ((i, n) :: A) = cntN A + 1:=fun h=>by simp [cntN, h]
  have hc0:n.kind ≠ 5->cntN ((i, n) :: A) = cntN A:=fun h=>by simp [cntN, h]
  by_cases hf:fixK n.kind = true
  ·rw [hc0 (fix_five hf)]
   simp only [envA, zbc, if_pos hf, look]
   by_cases hs:n.name = s
   ·rw [if_pos hs, if_pos ⟨hf, hs⟩]
    simp only [Option.map_some, parB, Nat.sub_self, Nat.zero_mod]
    rfl
   ·rw [if_neg hs, if_neg (fun h=>hs h.2), ih]
  ·have hF:zbc s ((i, n) :: A) = zbc s A:=by
    simp only [zbc]
    rw [if_neg (fun h=>hf h.1)]
   have hE:envA ((i, n) :: A) = if n.kind = 5 then zjr (envA A) else envA A:=by
    simp only [envA]
    rw [if_neg hf]
   rw [hF, hE]
   by_cases h5:n.kind = 5
   ·rw [if_pos h5, zmw, ih, hc5 h5]
    cases hq:zbc s A with
    | none=>rfl
    | some q=>
     have:=zfu (i:=q.1) (m:=q.2) hq
     simp only [Option.map_some]
     congr 1
     rw [Bool.eq_iff_iff, Bool.not_eq_true', ← Bool.not_eq_true, zlh, zlh]
     omega
   ·rw [if_neg h5, ih, hc0 h5]
theorem leaf_fit {k:Int} {s:List UInt8} {A:Anc}:(¬ (k = 4 ∧ zbg k s A < 0) ∧ ¬ (k = 4 ∧ zas k s A = true)) ↔ (if k = 4 then decide (look s (envA A) = some false) else true) = true:=by
 by_cases h4:k = 4
 ·rw [if_pos h4, zqc]
  unfold zbg zas
  rw [if_pos h4, if_pos h4]
  cases hq:zbc s A with
  | none=>simp [h4]
  | some q=>
   simp only [h4, true_and, Option.map_some, Option.some.injEq, decide_eq_true_eq, ← zlh, Bool.not_eq_true]
   constructor
   ·rintro ⟨h1, h2⟩
    exact h2
   ·intro h
    exact ⟨by omega, h⟩
 ·simp [h4]
theorem ar_two' {kd:Int} (h:arF kd = 2):kd = 6 ∨ kd = 7:=by
 unfold arF at h
 split at h
 ·omega
 split at h
 ·omega
 split at h
 ·assumption
 ·omega
theorem depT_up (k:Int) (s:List UInt8) (p:Int) (a:Tr):depT a≤depT (.un k s p a):=by
 simp only [depT]; split <;> omega
theorem zgb {l2:List Nd} {T2:List Int} {O2:List Bool} {D2:List Int}:∀ (t:Tr) (base:Nat) (A:Anc) (i:Nat) (seen:List (List UInt8)), t.ok = true->seen.Nodup ->
  ((chk (t.flat base ++ l2) (toA t base A ++ T2) (oddA t base A ++ O2) (depI t ++ D2) i seen).2 = 0 ↔ (fit t (envA A) = true ∧ (seen ++ fxs t).Nodup ∧ depT t≤4) ∧ (chk l2 T2 O2 D2 (i + t.size) (seen ++ fxs t)).2 = 0)
 | .leaf k s p, base, A, i, seen, hok, hs=>by
  have e1:depI (.leaf k s p) = [0]:=rfl
  simp only [Tr.ok, Bool.and_eq_true, decide_eq_true_eq] at hok
  have hf:fixK k = false:=by
   cases hf:fixK k with
   | false=>rfl
   | true=>
    exfalso
    unfold fixK at hf
    simp only [Bool.or_eq_true, decide_eq_true_eq] at hf
    rcases hf with rfl | rfl <;> exact absurd hok.1 (by decide)
  rw [e1]
  simp only [Tr.flat, toA, oddA, List.cons_append, List.nil_append, chk, fit, fxs, List.append_nil, depT, Tr.size, Tr.node, hf, Bool.false_eq_true, false_and, if_false]
  have lf:=leaf_fit (k:=k) (s:=s) (A:=A)
  by_cases h1:k = 4 ∧ zbg k s A < 0
  ·rw [if_pos h1]
   constructor
   ·intro h; simp at h
   ·intro h; exact absurd h1 (lf.2 h.1.1).1
  rw [if_neg h1]
  by_cases h2:k = 4 ∧ zas k s A = true
  ·rw [if_pos h2]
   constructor
   ·intro h; simp at h
   ·intro h; exact absurd h2 (lf.2 h.1.1).2
  rw [if_neg h2]
  have:=lf.1 ⟨h1, h2⟩
  constructor
  ·intro h; exact ⟨⟨this, hs, by omega⟩, h⟩
  ·intro h; exact h.2
 | .un k s p a, base, A, i, seen, hok, hs=>by
  have e1:depI (.un k s p a) = depI a ++ [(depT (.un k s p a):Int)]:=by simp [depI, depA]
  simp only [Tr.ok, Bool.and_eq_true, decide_eq_true_eq] at hok
  rw [e1]
  simp only [Tr.flat, toA, oddA, List.append_assoc, List.cons_append, List.nil_append]
  rw [zgb a base _ i seen hok.2 hs]
  have henv:fit a (envA ((base + a.size, (Tr.un k s p a).node base) :: A)) = fit (.un k s p a) (envA A):=by
   have e:envA ((base + a.size, (Tr.un k s p a).node base) :: A) = (if fixK k = true then (s, false) :: envA A else if k = 5 then zjr (envA A) else envA A):=rfl
   rw [e]
   simp only [fit]
   by_cases hf:fixK k = true
   ·rw [if_pos hf, if_pos hf]
   ·rw [if_neg hf, if_neg hf]
    by_cases h5:k = 5
    ·rw [if_pos h5, if_pos h5]
    ·rw [if_neg h5, if_neg h5]
  rw [henv]
  have hk4:k ≠ 4:=by rintro rfl; exact absurd hok.1.1 (by decide)
  have hdep:=depT_up k s p a
  simp only [chk, Tr.node, hk4, false_and, if_false, fxs, Tr.size]
  by_cases hf:fixK k = true
  ·simp only [hf, if_true, true_and]
   by_cases hmem:s ∈ seen ++ fxs a
   ·rw [if_pos hmem]
    constructor
    ·intro h; have:=h.2; simp at this
    ·intro h
     exfalso
     have:=h.1.2.1
     rw [← List.append_assoc, List.nodup_append] at this
     exact this.2.2 s hmem s (by simp) rfl
   ·rw [if_neg hmem]
    by_cases hd:(4:Int) < (depT (.un k s p a):Int)
    ·rw [if_pos hd]
     constructor
     ·intro h; have:=h.2; simp at this
     ·intro h; have:=h.1.2.2; omega
    ·rw [if_neg hd]
     have hnd:(seen ++ (fxs a ++ [s])).Nodup ↔ (seen ++ fxs a).Nodup:=by
      rw [← List.append_assoc, List.nodup_append]
      constructor
      ·intro h; exact h.1
      ·intro h
       refine ⟨h, by simp, fun x hx y hy=>?_⟩
       rw [List.mem_singleton.1 hy]
       rintro rfl
       exact hmem hx
     rw [hnd, List.append_assoc, Nat.add_assoc]
     constructor
     ·rintro ⟨⟨h1, h2, h3⟩, h4⟩
      exact ⟨⟨h1, h2, by omega⟩, h4⟩
     ·rintro ⟨⟨h1, h2, h3⟩, h4⟩
      exact ⟨⟨h1, h2, by omega⟩, h4⟩
  ·simp only [hf, if_false, false_and, Bool.false_eq_true]
   have hd:depT (.un k s p a) = depT a:=by simp only [depT, hf, if_false, Bool.false_eq_true]
   rw [hd, List.append_nil, Nat.add_assoc]
 | .bin k s p a b, base, A, i, seen, hok, hs=>by
  have e1:depI (.bin k s p a b) = depI a ++ (depI b ++ [(depT (.bin k s p a b):Int)]):=by simp [depI, depA]
  simp only [Tr.ok, Bool.and_eq_true, decide_eq_true_eq] at hok
  rw [e1]
  simp only [Tr.flat, toA, oddA, List.append_assoc, List.cons_append, List.nil_append]
  rw [zgb a base _ i seen hok.1.2 hs]
  have hk:=ar_two' hok.1.1.1
  have hfx:fixK k = false:=by rcases hk with rfl | rfl <;> decide
  have hk5:k ≠ 5:=by rcases hk with rfl | rfl <;> decide
  have hk4:k ≠ 4:=by rcases hk with rfl | rfl <;> decide
  have henv:envA ((base + a.size + b.size, (Tr.bin k s p a b).node base) :: A) = envA A:=by
   simp only [envA, Tr.node, hfx, Bool.false_eq_true, if_false, hk5]
  rw [henv]
  constructor
  ·rintro ⟨⟨h1, h2, h3⟩, h4⟩
   rw [zgb b (base + a.size) _ (i + a.size) (seen ++ fxs a) hok.2 h2] at h4
   obtain ⟨⟨h5, h6, h7⟩, h8⟩:=h4
   rw [henv] at h5
   simp only [chk, Tr.node, hk4, false_and, if_false, hfx, Bool.false_eq_true] at h8
   refine ⟨⟨?_, ?_, ?_⟩, ?_⟩
   ·simp only [fit, h1, h5, Bool.and_self]
   ·simp only [fxs, ← List.append_assoc]; exact h6
   ·simp only [depT]; omega
   ·simp only [fxs, ← List.append_assoc, Tr.size]
    rw [show i + (a.size + b.size + 1) = i + a.size + b.size + 1 by omega]
    exact h8
  ·rintro ⟨⟨h1, h2, h3⟩, h4⟩
   simp only [fit, Bool.and_eq_true] at h1
   simp only [fxs, ← List.append_assoc] at h2 h4
   simp only [depT] at h3
   have h2a:(seen ++ fxs a).Nodup:=(List.nodup_append.1 h2).1
   refine ⟨⟨h1.1, h2a, by omega⟩, ?_⟩
   rw [zgb b (base + a.size) _ (i + a.size) (seen ++ fxs a) hok.2 h2a, henv]
   refine ⟨⟨h1.2, h2, by omega⟩, ?_⟩
   simp only [chk, Tr.node, hk4, false_and, if_false, hfx, Bool.false_eq_true]
   simp only [Tr.size] at h4
   rw [show i + (a.size + b.size + 1) = i + a.size + b.size + 1 by omega] at h4
   exact h4
theorem chk_fit {t:Tr} (ht:t.ok = true):(chkT t).2 = 0 ↔ fit t [] = true ∧ (fxs t).Nodup ∧ depT t≤4:=by
 have:=zgb (l2:=[]) (T2:=[]) (O2:=[]) (D2:=[]) t 0 [] 0 [] ht (by simp)
 simp only [List.append_nil, List.nil_append, envA] at this
 unfold chkT
 rw [this]
 simp [chk]
def plK (k:Int):Int:=if k = 12 then 3 else k
def plN (n:Nd):Nd:={ n with kind:=plK n.kind }
def Tr.pl:Tr->Tr
 | .leaf k s p=>.leaf (plK k) s p
 | .un k s p a=>.un (plK k) s p a.pl
 | .bin k s p a b=>.bin (plK k) s p a.pl b.pl
def zdy (k:Int):Int:=if k = 1 then 2 else if k = 2 then 1 else if k = 3 then 12 else if k = 12 then 3 else if k = 6 then 7 else if k = 7 then 6 else if k = 8 then 9 else if k = 9 then 8 else if k = 10 then 11 else if k = 11 then 10 else k
def negK (neg:Bool) (k:Int):Int:=if neg = true then zdy k else k
def nfT:Tr->Bool->Tr
 | .leaf k s p, g=>.leaf (negK g k) s p
 | .un k s p a, g=>if k = 5 then nfT a (!g) else .un (negK g k) s p (nfT a g)
 | .bin k s p a b, g=>.bin (negK g k) s p (nfT a g) (nfT b g)
theorem zbn:∀ t:Tr, t.pl.size = t.size
 | .leaf _ _ _=>rfl
 | .un _ _ _ a=>by simp [Tr.pl, Tr.size, zbn a]
 | .bin _ _ _ a b=>by simp [Tr.pl, Tr.size, zbn a, zbn b]
theorem zey:∀ (t:Tr) (base:Nat), t.pl.flat base = (t.flat base).map plN
 | .leaf _ _ _, base=>rfl
 | .un k s p a, base=>by simp [Tr.pl, Tr.flat, zey a, Tr.node, zbn, plN]
 | .bin k s p a b, base=>by simp [Tr.pl, Tr.flat, zey a, zey b, Tr.node, zbn, plN]
theorem zgf:∀ (t:Tr) (base:Nat) (l:List Nd), l.map plN = t.flat base->∃ u:Tr, u.pl = t ∧ l = u.flat base
 | .leaf k s p, base, l, h=>by
  match l, h with
  | [], h=>simp [Tr.flat] at h
  | [n], h=>
   simp only [Tr.flat, List.map_cons, List.map_nil, List.cons.injEq, and_true] at h
   obtain ⟨k', a', b', s', p'⟩:=n
   simp only [plN, Tr.node, Nd.mk.injEq] at h
   obtain ⟨h1, h2, h3, h4, h5⟩:=h
   refine ⟨.leaf k' s' p', by simp [Tr.pl, h1, h4, h5], ?_⟩
   simp [Tr.flat, Tr.node, h2, h3]
  | _ :: _ :: _, h=>simp [Tr.flat] at h
 | .un k s p a, base, l, h=>by
  simp only [Tr.flat] at h
  obtain ⟨l1, l2, rfl, h1, h2⟩:=List.map_eq_append_iff.1 h
  obtain ⟨u, rfl, rfl⟩:=zgf a base l1 h1
  match l2, h2 with
  | [], h=>simp at h
  | [n], h=>
   simp only [List.map_cons, List.map_nil, List.cons.injEq, and_true] at h
   obtain ⟨k', a', b', s', p'⟩:=n
   simp only [plN, Tr.node, Nd.mk.injEq, zbn] at h
   obtain ⟨h1, h2, h3, h4, h5⟩:=h
   refine ⟨.un k' s' p' u, by simp [Tr.pl, h1, h4, h5], ?_⟩
   simp [Tr.flat, Tr.node, h2, h3]
  | _ :: _ :: _, h=>simp at h
 | .bin k s p a b, base, l, h=>by
  simp only [Tr.flat] at h
  obtain ⟨l1, l2, rfl, h1, h2⟩:=List.map_eq_append_iff.1 h
  obtain ⟨l3, l4, rfl, h3, h4⟩:=List.map_eq_append_iff.1 h2
  obtain ⟨u, rfl, rfl⟩:=zgf a base l1 h1
  obtain ⟨v, rfl, h5⟩:=zgf b (base + u.pl.size) l3 h3
  match l4, h4 with
  | [], h=>simp at h
  | [n], h=>
   simp only [List.map_cons, List.map_nil, List.cons.injEq, and_true] at h
   obtain ⟨k', a', b', s', p'⟩:=n
   simp only [plN, Tr.node, Nd.mk.injEq, zbn] at h
   obtain ⟨q1, q2, q3, q4, q5⟩:=h
   refine ⟨.bin k' s' p' u v, by simp [Tr.pl, q1, q4, q5], ?_⟩
   rw [h5, zbn]
   simp [Tr.flat, Tr.node, q2, q3]
  | _ :: _ :: _, h=>simp at h
def pos5:Tr->Bool
 | .leaf k _ _=>decide (k ≠ 5)
 | .un k _ _ a=>decide (k ≠ 5) && pos5 a
 | .bin k _ _ a b=>decide (k ≠ 5) && pos5 a && pos5 b
theorem zfi:∀ (t:Tr) (g:Bool), (nfT t g).size≤t.size
 | .leaf _ _ _, _=>Nat.le_refl _
 | .un k _ _ a, g=>by
  simp only [nfT]
  by_cases h:k = 5
  ·rw [if_pos h]; have:=zfi a (!g); simp only [Tr.size]; omega
  ·rw [if_neg h]; have:=zfi a g; simp only [Tr.size]; omega
 | .bin _ _ _ a b, g=>by have:=zfi a g; have:=zfi b g; simp only [nfT, Tr.size]; omega
theorem negK_five {g:Bool} {k:Int} (h:k ≠ 5):negK g k ≠ 5:=by
 unfold negK zdy
 cases g
 ·rw [if_neg (by decide)]; exact h
 ·rw [if_pos rfl]
  repeat' split
  all_goals first | decide | exact h
def zcf (k:Int):Prop:=k = 1 ∨ k = 2 ∨ k = 3 ∨ k = 4 ∨ k = 5 ∨ k = 6 ∨ k = 7 ∨ k = 8 ∨ k = 9 ∨ k = 10 ∨ k = 11 ∨ k = 12
theorem zae {k:Int} (h:0≤arF (plK k)):zcf k:=by
 unfold zcf
 by_cases h12:k = 12
 ·omega
 unfold plK at h
 rw [if_neg h12] at h
 unfold arF at h
 split at h
 ·omega
 split at h
 ·omega
 split at h
 ·omega
 ·omega
theorem dual_ar {k:Int} (h:zcf k):arF (plK (zdy k)) = arF (plK k):=by
 rcases h with rfl | rfl | rfl | rfl | rfl | rfl | rfl | rfl | rfl | rfl | rfl | rfl <;> decide
theorem zrh {k:Int} (h:zcf k) (s:List UInt8):yz (plK (zdy k)) s = yz (plK k) s:=by
 rcases h with rfl | rfl | rfl | rfl | rfl | rfl | rfl | rfl | rfl | rfl | rfl | rfl <;> rfl
theorem dual_fix {k:Int} (h:zcf k):fixK (zdy k) = fixK k:=by
 rcases h with rfl | rfl | rfl | rfl | rfl | rfl | rfl | rfl | rfl | rfl | rfl | rfl <;> decide
theorem dual_four {k:Int} (h:zcf k):zdy k = 4 ↔ k = 4:=by
 rcases h with rfl | rfl | rfl | rfl | rfl | rfl | rfl | rfl | rfl | rfl | rfl | rfl <;> decide
theorem znv (k:Int):fixK (plK k) = fixK k:=by
 unfold plK
 split
 ·rename_i h; subst h; decide
 ·rfl
theorem pl_five (k:Int):plK k = 5 ↔ k = 5:=by unfold plK; split <;> omega
theorem pl_four (k:Int):plK k = 4 ↔ k = 4:=by unfold plK; split <;> omega
theorem neg_ar {g:Bool} {k:Int} (h:zcf k):arF (plK (negK g k)) = arF (plK k):=by
 unfold negK; split
 ·exact dual_ar h
 ·rfl
theorem zio {g:Bool} {k:Int} (h:zcf k) (s:List UInt8):yz (plK (negK g k)) s = yz (plK k) s:=by
 unfold negK; split
 ·exact zrh h s
 ·rfl
theorem zny {g:Bool} {k:Int} (h:zcf k):fixK (negK g k) = fixK k:=by
 unfold negK; split
 ·exact dual_fix h
 ·rfl
theorem neg_four {g:Bool} {k:Int} (h:zcf k):negK g k = 4 ↔ k = 4:=by
 unfold negK; split
 ·exact dual_four h
 ·exact Iff.rfl
theorem znl:∀ (t:Tr) (g:Bool), t.pl.ok = true->(nfT t g).pl.ok = true
 | .leaf k s p, g, h=>by
  simp only [Tr.pl, Tr.ok, Bool.and_eq_true, decide_eq_true_eq] at h
  have hk:=zae (k:=k) (by omega)
  simp only [nfT, Tr.pl, Tr.ok, neg_ar hk, zio hk, h.1, h.2, decide_true, Bool.and_self]
 | .un k s p a, g, h=>by
  simp only [Tr.pl, Tr.ok, Bool.and_eq_true, decide_eq_true_eq] at h
  have hk:=zae (k:=k) (by omega)
  simp only [nfT]
  by_cases h5:k = 5
  ·rw [if_pos h5]; exact znl a _ h.2
  ·rw [if_neg h5]
   simp only [Tr.pl, Tr.ok, neg_ar hk, zio hk, h.1.1, h.1.2, znl a g h.2, decide_true, Bool.and_self]
 | .bin k s p a b, g, h=>by
  simp only [Tr.pl, Tr.ok, Bool.and_eq_true, decide_eq_true_eq] at h
  have hk:=zae (k:=k) (by omega)
  simp only [nfT, Tr.pl, Tr.ok, neg_ar hk, zio hk, h.1.1.1, h.1.1.2, znl a g h.1.2, znl b g h.2, decide_true, Bool.and_self]
def znn (E:Env):Env:=E.map fun x=>(x.1, false)
theorem zlq (s:List UInt8):∀ E:Env, look s E ≠ none->look s (znn E) = some false
 | [], h=>absurd rfl h
 | (x, b) :: E, h=>by
  simp only [znn, List.map_cons, look] at h ⊢
  by_cases hx:x = s
  ·rw [if_pos hx]
  ·rw [if_neg hx] at h ⊢
   exact zlq s E h
theorem zqw (E:Env):znn (zjr E) = znn E:=by
 unfold znn zjr
 rw [List.map_map]
 rfl
theorem zib:∀ (t:Tr) (g:Bool) (E:Env), t.pl.ok = true->fit t.pl E = true->fit (nfT t g).pl (znn E) = true
 | .leaf k s p, g, E, h, hf=>by
  simp only [Tr.pl, Tr.ok, Bool.and_eq_true, decide_eq_true_eq] at h
  have hk:=zae (k:=k) (by omega)
  simp only [nfT, Tr.pl, fit, pl_four, neg_four hk] at hf ⊢
  by_cases h4:k = 4
  ·rw [if_pos h4] at hf ⊢
   rw [zlq s E (by rw [of_decide_eq_true hf]; simp)]
   simp
  ·rw [if_neg h4]
 | .un k s p a, g, E, h, hf=>by
  simp only [Tr.pl, Tr.ok, Bool.and_eq_true, decide_eq_true_eq] at h
  have hk:=zae (k:=k) (by omega)
  simp only [Tr.pl, fit, znv, pl_five] at hf
  simp only [nfT]
  by_cases h5:k = 5
  ·rw [if_pos h5]
   have hx:¬ fixK k = true:=by rw [h5]; decide
   rw [if_neg hx, if_pos h5] at hf
   rw [← zqw]
   exact zib a _ _ h.2 hf
  ·rw [if_neg h5]
   simp only [Tr.pl, fit, znv, pl_five, zny hk]
   rw [if_neg h5] at hf
   rw [if_neg (negK_five h5)]
   by_cases hx:fixK k = true
   ·rw [if_pos hx] at hf ⊢
    exact zib a g ((s, false) :: E) h.2 hf
   ·rw [if_neg hx] at hf ⊢
    exact zib a g E h.2 hf
 | .bin k s p a b, g, E, h, hf=>by
  simp only [Tr.pl, Tr.ok, Bool.and_eq_true, decide_eq_true_eq] at h
  simp only [Tr.pl, fit, Bool.and_eq_true] at hf
  simp only [nfT, Tr.pl, fit, zib a g E h.1.2 hf.1, zib b g E h.2 hf.2, Bool.and_self]
theorem zky:∀ t:Tr, fxs t.pl = fxs t
 | .leaf _ _ _=>rfl
 | .un k s p a=>by simp only [Tr.pl, fxs, zky a, znv]
 | .bin _ _ _ a b=>by simp only [Tr.pl, fxs, zky a, zky b]
theorem zly:∀ t:Tr, depT t.pl = depT t
 | .leaf _ _ _=>rfl
 | .un k s p a=>by simp only [Tr.pl, depT, zly a, znv]
 | .bin _ _ _ a b=>by simp only [Tr.pl, depT, zly a, zly b]
theorem zks:∀ (t:Tr) (g:Bool), t.pl.ok = true->fxs (nfT t g) = fxs t
 | .leaf _ _ _, _, _=>rfl
 | .un k s p a, g, h=>by
  simp only [Tr.pl, Tr.ok, Bool.and_eq_true, decide_eq_true_eq] at h
  have hk:=zae (k:=k) (by omega)
  simp only [nfT]
  by_cases h5:k = 5
  ·rw [if_pos h5, zks a _ h.2]
   simp only [fxs]
   rw [if_neg (by rw [h5]; decide), List.append_nil]
  ·rw [if_neg h5]
   simp only [fxs, zny hk, zks a g h.2]
 | .bin k s p a b, g, h=>by
  simp only [Tr.pl, Tr.ok, Bool.and_eq_true, decide_eq_true_eq] at h
  simp only [nfT, fxs, zks a g h.1.2, zks b g h.2]
theorem zmf:∀ (t:Tr) (g:Bool), t.pl.ok = true->depT (nfT t g) = depT t
 | .leaf _ _ _, _, _=>rfl
 | .un k s p a, g, h=>by
  simp only [Tr.pl, Tr.ok, Bool.and_eq_true, decide_eq_true_eq] at h
  have hk:=zae (k:=k) (by omega)
  simp only [nfT]
  by_cases h5:k = 5
  ·rw [if_pos h5, zmf a _ h.2]
   simp only [depT]
   rw [if_neg (by rw [h5]; decide)]
  ·rw [if_neg h5]
   simp only [depT, zny hk, zmf a g h.2]
 | .bin k s p a b, g, h=>by
  simp only [Tr.pl, Tr.ok, Bool.and_eq_true, decide_eq_true_eq] at h
  simp only [nfT, depT, zmf a g h.1.2, zmf b g h.2]
theorem chk_nf {t:Tr} (g:Bool) (ht:t.pl.ok = true) (hc:(chkT t.pl).2 = 0):(chkT (nfT t g).pl).2 = 0:=by
 obtain ⟨h1, h2, h3⟩:=(chk_fit ht).1 hc
 refine (chk_fit (znl t g ht)).2 ⟨zib t g [] ht h1, ?_, ?_⟩
 ·rw [zky, zks t g ht, ← zky]; exact h2
 ·rw [zly, zmf t g ht, ← zly]; exact h3
end Go.Ab.S7
namespace Go.Ab.S7
variable {α:Type} {h:H}
theorem zer (k:Nat) (n:Nd) (ret:Bool->M α):qau.f (k + 1) n.kind n.a n.b n.name n.pos ret h = ret (fixK n.kind) (h.push (ndC n)):=by
 rw [qau.f, qau.u1.f, jk rfl, n5_0]
 unfold fixK
 by_cases h1:n.kind = 10
 ·rw [dT h1, cond_true]; rfl
 ·rw [dF h1, cond_false, n5_0]; rfl
def Below (l:List Nd):Prop:=∀ i n, l[i]? = some n->(0 < arF n.kind->∃ j:Nat, n.a = (j:Int) ∧ j < i) ∧ (1 < arF n.kind->∃ j:Nat, n.b = (j:Int) ∧ j < i)
theorem zez:∀ (t:Tr) (base:Nat), t.ok = true->∀ i n, (t.flat base)[i]? = some n->(0 < arF n.kind->∃ j:Nat, n.a = (j:Int) ∧ j < base + i) ∧ (1 < arF n.kind->∃ j:Nat, n.b = (j:Int) ∧ j < base + i)
 | .leaf k s p, base, ht, i, n, h=>by
  simp only [Tr.flat] at h
  have hi:=yu h
  simp only [List.length_cons, List.length_nil] at hi
  have:i = 0:=by omega
  subst this
  simp only [List.getElem?_cons_zero, Option.some.injEq] at h
  subst h
  simp only [Tr.ok, Bool.and_eq_true, decide_eq_true_eq] at ht
  have:arF (Tr.node (.leaf k s p) base).kind = 0:=ht.1
  rw [this]
  exact ⟨fun h=>by omega, fun h=>by omega⟩
 | .un k s p a, base, ht, i, n, h=>by
  simp only [Tr.ok, Bool.and_eq_true, decide_eq_true_eq] at ht
  simp only [Tr.flat] at h
  have hp:=Tr.pos a
  by_cases hi:i < a.size
  ·rw [List.getElem?_append_left (by rw [zd]; exact hi)] at h
   exact zez a base ht.2 i n h
  ·have hl:=yu h
   simp only [List.length_append, zd, List.length_cons, List.length_nil] at hl
   have:i = a.size:=by omega
   subst this
   rw [List.getElem?_append_right (by rw [zd]; omega), zd, Nat.sub_self] at h
   simp only [List.getElem?_cons_zero, Option.some.injEq] at h
   subst h
   have:arF (Tr.node (.un k s p a) base).kind = 1:=ht.1.1
   rw [this]
   exact ⟨fun _=>⟨base + a.size - 1, rfl, by omega⟩, fun h=>by omega⟩
 | .bin k s p a b, base, ht, i, n, h=>by
  simp only [Tr.ok, Bool.and_eq_true, decide_eq_true_eq] at ht
  simp only [Tr.flat] at h
  have hp:=Tr.pos a
  have hp':=Tr.pos b
  by_cases hi:i < a.size
  ·rw [List.getElem?_append_left (by rw [zd]; exact hi)] at h
   exact zez a base ht.1.2 i n h
  ·rw [List.getElem?_append_right (by rw [zd]; omega), zd] at h
   by_cases hi2:i - a.size < b.size
   ·rw [List.getElem?_append_left (by rw [zd]; exact hi2)] at h
    have e0:base + a.size + (i - a.size) = base + i:=by omega
    have:=zez b (base + a.size) ht.2 (i - a.size) n h
    rwa [e0] at this
   ·have hl:=yu h
    simp only [List.length_append, zd, List.length_cons, List.length_nil] at hl
    have:i = a.size + b.size:=by omega
    subst this
    rw [List.getElem?_append_right (by rw [zd]; omega), zd, show a.size + b.size - a.size - b.size = 0 by omega] at h
    simp only [List.getElem?_cons_zero, Option.some.injEq] at h
    subst h
    have:arF (Tr.node (.bin k s p a b) base).kind = 2:=ht.1.1.1
    rw [this]
    exact ⟨fun _=>⟨base + a.size - 1, rfl, by omega⟩, fun _=>⟨base + a.size + b.size - 1, rfl, by omega⟩⟩
theorem zlc {t:Tr} (ht:t.ok = true):Below (t.flat 0):=fun i n h=>by
 have:=zez t 0 ht i n h
 rwa [Nat.zero_add] at this
def upS (out:List Int) (i:Nat) (n:Nd):List Int:=
 let o:=if 0 < arF n.kind then out.set n.a.toNat (i:Int) else out
 if 1 < arF n.kind then o.set n.b.toNat (i:Int) else o
def upL:List Nd->Nat->List Int->List Int
 | [], _, out=>out
 | n :: l, i, out=>upL l (i + 1) (upS out i n)
def upA:Tr->Nat->Int->List Int
 | .leaf _ _ _, _, p=>[p]
 | .un _ _ _ a, base, p=>upA a base ((base + a.size:Nat):Int) ++ [p]
 | .bin _ _ _ a b, base, p=>upA a base ((base + a.size + b.size:Nat):Int) ++ (upA b (base + a.size) ((base + a.size + b.size:Nat):Int) ++ [p])
theorem jo:∀ (t:Tr) (base:Nat) (p:Int), (upA t base p).length = t.size
 | .leaf _ _ _, _, _=>rfl
 | .un _ _ _ a, base, p=>by simp [upA, Tr.size, jo a]
 | .bin _ _ _ a b, base, p=>by simp [upA, Tr.size, jo a, jo b]; omega
theorem znu:∀ (t:Tr) (base:Nat) (p q:Int), (upA t base p).set (t.size - 1) q = upA t base q
 | .leaf _ _ _, _, _, _=>rfl
 | .un _ _ _ a, base, p, q=>by
  simp only [upA, Tr.size]
  rw [List.set_append_right _ _ (by rw [jo]; omega), jo, show a.size + 1 - 1 - a.size = 0 by omega]
  rfl
 | .bin _ _ _ a b, base, p, q=>by
  simp only [upA, Tr.size]
  rw [List.set_append_right _ _ (by rw [jo]; omega), List.set_append_right _ _ (by rw [jo, jo]; omega), jo, jo, show a.size + b.size + 1 - 1 - a.size - b.size = 0 by omega]
  rfl
theorem zlk {β:Type} (P S Q:List β) (y:β) {n i:Nat} (hn:n = P.length + i) (hi:i < S.length):(P ++ (S ++ Q)).set n y = P ++ (S.set i y ++ Q):=by
 subst hn
 rw [List.set_append_right _ _ (by omega), show P.length + i - P.length = i by omega, List.set_append_left _ _ hi]
theorem zhp:∀ (t:Tr) (base:Nat) (rest:List Nd) (P Q:List Int), t.ok = true->P.length = base ->
  upL (t.flat base ++ rest) base (P ++ (List.replicate t.size (-1) ++ Q)) = upL rest (base + t.size) (P ++ (upA t base (-1) ++ Q))
 | .leaf k s p, base, rest, P, Q, ht, hP=>by
  simp only [Tr.ok, Bool.and_eq_true, decide_eq_true_eq] at ht
  simp only [Tr.flat, List.cons_append, List.nil_append, upL, upS]
  rw [if_neg (by show ¬ 1 < arF k; rw [ht.1]; omega), if_neg (by show ¬ 0 < arF k; rw [ht.1]; omega)]
  rfl
 | .un k s p a, base, rest, P, Q, ht, hP=>by
  simp only [Tr.ok, Bool.and_eq_true, decide_eq_true_eq] at ht
  have hp:=Tr.pos a
  simp only [Tr.flat, List.append_assoc, Tr.size]
  rw [zdh, zhp a base _ P _ ht.2 hP]
  simp only [List.cons_append, List.nil_append, upL, upS]
  rw [if_neg (by show ¬ 1 < arF k; rw [ht.1.1]; omega), if_pos (by show 0 < arF k; rw [ht.1.1]; omega)]
  show upL rest (base + a.size + 1) ((P ++ (upA a base (-1) ++ ((-1) :: Q))).set ((base + a.size - 1:Nat):Int).toNat ((base + a.size:Nat):Int)) = _
  rw [Int.toNat_natCast, zlk P (upA a base (-1)) _ _ (i:=a.size - 1) (by omega) (by rw [jo]; omega), znu]
  simp only [upA, List.append_assoc, List.cons_append, List.nil_append]
  rfl
 | .bin k s p a b, base, rest, P, Q, ht, hP=>by
  simp only [Tr.ok, Bool.and_eq_true, decide_eq_true_eq] at ht
  have hp:=Tr.pos a
  have hp':=Tr.pos b
  simp only [Tr.flat, List.append_assoc, Tr.size]
  rw [zhq, zhp a base _ P _ ht.1.2 hP, ← List.append_assoc P, zhp b (base + a.size) _ (P ++ upA a base (-1)) _ ht.2 (by rw [List.length_append, jo, hP])]
  simp only [List.cons_append, List.nil_append, upL, upS]
  rw [if_pos (by show 1 < arF k; rw [ht.1.1.1]; omega), if_pos (by show 0 < arF k; rw [ht.1.1.1]; omega)]
  show upL rest (base + a.size + b.size + 1) (((P ++ upA a base (-1) ++ (upA b (base + a.size) (-1) ++ ((-1) :: Q))).set ((base + a.size - 1:Nat):Int).toNat ((base + a.size + b.size:Nat):Int)).set ((base + a.size + b.size - 1:Nat):Int).toNat ((base + a.size + b.size:Nat):Int)) = _
  rw [Int.toNat_natCast, Int.toNat_natCast, List.append_assoc, zlk P (upA a base (-1)) _ _ (i:=a.size - 1) (by omega) (by rw [jo]; omega), znu, ← List.append_assoc,
   zlk (P ++ upA a base _) (upA b (base + a.size) (-1)) _ _ (i:=b.size - 1) (by rw [List.length_append, jo]; omega) (by rw [jo]; omega), znu]
  simp only [upA, List.append_assoc, List.cons_append, List.nil_append]
  rw [show base + a.size + b.size + 1 = base + (a.size + b.size + 1) by omega]
theorem upL_tree (t:Tr) (ht:t.ok = true):upL (t.flat 0) 0 (List.replicate t.size (-1)) = upA t 0 (-1):=by
 have:=zhp t 0 [] [] [] ht rfl
 simpa [upL] using this
theorem zrt (out:List Int) (i:Nat) (n:Nd):(upS out i n).length = out.length:=by
 unfold upS
 simp only
 split <;> split <;> simp
section
variable {h₀:H} {f out:Sl} {l:List Nd}
structure Mine (h₀ h:H) (s:Sl) (cs:List V):Prop where
 ext:Ext h₀ h
 own:Own h s 1 cs
 low:h₀.next≤s.id
theorem Mine.push {cs:List V} (m:Mine h₀ h out cs) {h':H} (x:Ext h h'):Mine h₀ h' out cs:=⟨m.ext.trans x, m.own.ext x, m.low⟩
theorem Mine.st {T:List Int} (m:Mine h₀ h out (cIs T)) {x:Int} {i:Nat} (v:Int) (hx:x = (i:Int)) (hi:i < T.length) :
  ∃ h', (∀ (α:Type) (K:M α), idxSl out x 1 (fun a=>st1 (a.add 0) (.int .i64 v) K) h = K h') ∧ Mine h₀ h' out (cIs (T.set i v)) ∧ h'.next = h.next:=by
 obtain ⟨h', e, o, n, g⟩:=znw m.own v hx hi
 exact ⟨h', e, ⟨⟨by rw [n]; exact m.ext.1, fun i hi=>by rw [g i (by have:=m.low; omega)]; exact m.ext.2 i hi⟩, o, m.low⟩, n⟩
theorem up1_loop (r:NdR h₀ f l) (hl:l.length≤1000) (k:Nat):∀ (j i:Nat) (h:H), i≤l.length->l.length - i < j->Mine h₀ h out (cIs (List.replicate i (-1) ++ List.replicate (l.length - i) 0)) ->
  ∃ h', (∀ (α:Type) (kx:Sl->Sl->M α), qh.u4.l k kx j f out (i:Int) h = kx f out h') ∧ Mine h₀ h' out (cIs (List.replicate l.length (-1))):=by
 intro j
 induction j with
 | zero=>intro i h hi hj; omega
 | succ j ih=>
  intro i h hi hj m
  have hfl:=jv r
  by_cases hlt:i < l.length
  ·obtain ⟨h1, e1, m1, n1⟩:=m.st (x:=(i:Int)) (i:=i) (-1) rfl (by simp; omega)
   have es:(List.replicate i (-1) ++ List.replicate (l.length - i) 0).set i (-1) = List.replicate (i + 1) (-1) ++ List.replicate (l.length - (i + 1)) (0:Int):=by
    rw [List.set_append_right _ _ (by simp), List.length_replicate, Nat.sub_self, show l.length - i = (l.length - (i + 1)) + 1 by omega, List.replicate_succ, List.set_cons_zero, List.replicate_succ', List.append_assoc]
    rfl
   rw [es] at m1
   obtain ⟨h2, e2, m2⟩:=ih (i + 1) h1 (by omega) (by omega) m1
   refine ⟨h2, fun α kx=>?_, m2⟩
   rw [qh.u4.l, qh.u3.f, hfl, dT (by omega:(i:Int) < (l.length:Int)), cond_true, e1, zw (by omega) (by omega)]
   exact e2 α kx
  ·have:i = l.length:=by omega
   subst this
   refine ⟨h, fun α kx=>?_, by simpa using m⟩
   rw [qh.u4.l, qh.u3.f, hfl, dF (by omega:¬ (l.length:Int) < (l.length:Int)), cond_false]
theorem up2_loop (r:NdR h₀ f l) (hb:Below l) (hl:l.length≤1000) (k:Nat):∀ (j i:Nat) (h:H) (T:List Int), i≤l.length->l.length - i < j->T.length = l.length->Mine h₀ h out (cIs T) ->
  ∃ h', (∀ (α:Type) (kx:Sl->M α), qh.u9.l (k + 1) kx j f out (i:Int) h = kx out h') ∧ Mine h₀ h' out (cIs (upL (l.drop i) i T)):=by
 intro j
 induction j with
 | zero=>intro i h T hi hj; omega
 | succ j ih=>
  intro i h T hi hj hT m
  have hfl:=jv r
  by_cases hlt:i < l.length
  rotate_left
  ·refine ⟨h, fun α kx=>?_, by rw [List.drop_of_length_le (by omega)]; exact m⟩
   rw [qh.u9.l, qh.u8.f, hfl, dF (by omega:¬ (i:Int) < (l.length:Int)), cond_false]
  have hn:l[i]? = some l[i]:=List.getElem?_eq_getElem hlt
  rw [List.drop_eq_getElem_cons hlt, upL]
  generalize l[i] = n at hn ⊢
  have rr:=fun (h:H) (x:Ext h₀ h)=>r.ext x
  obtain ⟨b1, b2⟩:=hb i n hn
  have key:∃ h1, (∀ (α:Type) (kx:Sl->M α), qh.u9.l (k + 1) kx (j + 1) f out (i:Int) h = qh.u9.l (k + 1) kx j f out (w64 ((i:Int) + 1)) h1) ∧ Mine h₀ h1 out (cIs (upS T i n)):=by
   rcases zga n.kind with e | e | e | e
   ·refine ⟨h, fun α kx=>?_, ?_⟩
    ·rw [qh.u9.l, qh.u8.f, hfl, dT (by omega:(i:Int) < (l.length:Int)), cond_true, zam (rr h m.ext) rfl hn, zcg, e]
     rfl
    ·unfold upS; rw [e]; exact m
   ·refine ⟨h, fun α kx=>?_, ?_⟩
    ·rw [qh.u9.l, qh.u8.f, hfl, dT (by omega:(i:Int) < (l.length:Int)), cond_true, zam (rr h m.ext) rfl hn, zcg, e]
     rfl
    ·unfold upS; rw [e]; exact m
   ·obtain ⟨a, ha, hai⟩:=b1 (by omega)
    obtain ⟨h1, e1, m1, _⟩:=m.st (x:=n.a) (i:=a) (i:Int) ha (by omega)
    refine ⟨h1, fun α kx=>?_, ?_⟩
    ·rw [qh.u9.l, qh.u8.f, hfl, dT (by omega:(i:Int) < (l.length:Int)), cond_true, zam (rr h m.ext) rfl hn, zcg, e, dT (by omega:(0:Int) < 1), cond_true, nd_a (rr h m.ext) rfl hn, e1]
     rfl
    ·unfold upS; rw [e, ha]; exact m1
   ·obtain ⟨a, ha, hai⟩:=b1 (by omega)
    obtain ⟨b, hb, hbi⟩:=b2 (by omega)
    obtain ⟨h1, e1, m1, _⟩:=m.st (x:=n.a) (i:=a) (i:Int) ha (by omega)
    obtain ⟨h2, e2, m2, _⟩:=m1.st (x:=n.b) (i:=b) (i:Int) hb (by rw [List.length_set]; omega)
    refine ⟨h2, fun α kx=>?_, ?_⟩
    ·rw [qh.u9.l, qh.u8.f, hfl, dT (by omega:(i:Int) < (l.length:Int)), cond_true, zam (rr h m.ext) rfl hn, zcg, e, dT (by omega:(0:Int) < 2), cond_true, nd_a (rr h m.ext) rfl hn, e1, dT (by omega:(1:Int) < 2), cond_true, nd_b (rr h1 m1.ext) rfl hn, e2]
    ·unfold upS; rw [e, ha, hb]; exact m2
  obtain ⟨h1, e1, m1⟩:=key
  clear b1 b2
  obtain ⟨h2, e2, m2⟩:=ih (i + 1) h1 _ (by omega) (by omega) (by rw [zrt]; exact hT) m1
  refine ⟨h2, fun α kx=>?_, m2⟩
  rw [e1, zw (by omega) (by omega)]
  exact e2 α kx
theorem up_run (k:Nat) (hk:200≤k) {t:Tr} (ht:t.ok = true) (hs:t.size≤60) (h:H) (r:NdR h f (t.flat 0)) :
  ∃ h' s, (∀ (α:Type) (ret:Sl->M α), qh.f (k + 1) f ret h = ret s h') ∧ Mine h h' s (cIs (upA t 0 (-1))):=by
 obtain ⟨k, rfl⟩:∃ q, k = q + 1:=⟨k - 1, by omega⟩
 have hfl:f.len = t.size:=by rw [jv r, zd]
 obtain ⟨h1, e1, o1, n1, x1⟩:=zkd (h:=h) (n:=t.size) (x:=(f.len:Int)) (y:=(f.len:Int)) (by rw [hfl]) (by rw [hfl]) (by omega)
 have m1:Mine h h1 ⟨some ⟨h.next, 0⟩, t.size, t.size, none⟩ (cIs (List.replicate 0 (-1) ++ List.replicate ((t.flat 0).length - 0) 0)):=⟨x1, by rw [zd]; exact o1, Nat.le_refl _⟩
 obtain ⟨h2, e2, m2⟩:=up1_loop r (by rw [zd]; omega) (k + 1) (k + 1) 0 h1 (Nat.zero_le _) (by rw [zd]; omega) m1
 obtain ⟨h3, e3, m3⟩:=up2_loop r (zlc ht) (by rw [zd]; omega) k (k + 1) 0 h2 _ (Nat.zero_le _) (by rw [zd]; omega) (by simp) m2
 rw [List.drop_zero, zd, upL_tree t ht] at m3
 refine ⟨h3, _, fun α ret=>?_, m3⟩
 rw [qh.f, qh.u15.f, qh.u1.f, e1, qh.u14.f, qh.u6.f, qh.u2.f, qh.u5.f, qh.u4.f]
 refine (e2 α _).trans ?_
 rw [qh.u13.f, qh.u11.f, qh.u7.f, qh.u10.f, qh.u9.f]
 exact e3 α _
end
end Go.Ab.S7
namespace Go.Ab.S7
variable {α:Type} {h:H}
def dpV (out:List Int) (n:Nd):Int:=
 let v:=if 0 < arF n.kind then (out[n.a.toNat]?).getD 0 else 0
 let v2:=if 1 < arF n.kind ∧ v < (out[n.b.toNat]?).getD 0 then (out[n.b.toNat]?).getD 0 else v
 if fixK n.kind = true then v2 + 1 else v2
def dpL:List Nd->Nat->List Int->List Int
 | [], _, out=>out
 | n :: l, i, out=>dpL l (i + 1) (out.set i (dpV out n))
theorem zoy {k:Int} (h:fixK k = true):arF k = 1:=by
 simp only [fixK, Bool.or_eq_true, decide_eq_true_eq] at h
 rcases h with rfl | rfl <;> rfl
theorem zhm:∀ (t:Tr) (base:Nat) (rest:List Nd) (P Q:List Int), t.ok = true->P.length = base ->
  dpL (t.flat base ++ rest) base (P ++ (List.replicate t.size 0 ++ Q)) = dpL rest (base + t.size) (P ++ (depI t ++ Q))
 | .leaf k s p, base, rest, P, Q, ht, hP=>by
  simp only [Tr.ok, Bool.and_eq_true, decide_eq_true_eq] at ht
  have hf:fixK k = false:=by
   cases hq:fixK k with
   | false=>rfl
   | true=>have:=zoy hq; omega
  have hv:dpV (P ++ (List.replicate 1 0 ++ Q)) ((Tr.leaf k s p).node base) = 0:=by
   have e1:arF ((Tr.leaf k s p).node base).kind = 0:=ht.1
   have e2:fixK ((Tr.leaf k s p).node base).kind = false:=hf
   simp [dpV, e1, e2]
  simp only [Tr.flat, List.cons_append, List.nil_append, dpL]
  rw [show (Tr.leaf k s p).size = 1 from rfl, hv]
  have:=zgq P [] (0:Int) 0 Q (n:=base) (by simp [hP])
  rw [show P ++ (List.replicate 1 (0:Int) ++ Q) = P ++ ([] ++ ((0:Int) :: Q)) from rfl, this]
  rfl
 | .un k s p a, base, rest, P, Q, ht, hP=>by
  simp only [Tr.ok, Bool.and_eq_true, decide_eq_true_eq] at ht
  have hp:=Tr.pos a
  simp only [Tr.flat, List.append_assoc, Tr.size]
  rw [zdh, zhm a base _ P _ ht.2 hP]
  simp only [List.cons_append, List.nil_append, dpL]
  have hg:(P ++ (depI a ++ ((0:Int) :: Q)))[base + a.size - 1]? = some (depT a:Int):=by
   rw [zgj P (depI a) _ (i:=a.size - 1) (by omega) (by rw [jp]; omega)]; exact zdg a
  have hv:dpV (P ++ (depI a ++ ((0:Int) :: Q))) ((Tr.un k s p a).node base) = (depT (.un k s p a):Int):=by
   have e1:arF ((Tr.un k s p a).node base).kind = 1:=ht.1.1
   have e2:((Tr.un k s p a).node base).a.toNat = base + a.size - 1:=by show ((base + a.size - 1:Nat):Int).toNat = _; rw [Int.toNat_natCast]
   have e3:((Tr.un k s p a).node base).kind = k:=rfl
   simp only [dpV, e3, ht.1.1, e2, hg, depT]
   cases hq:fixK k <;> simp
  rw [hv, zgq P (depI a) 0 _ Q (n:=base + a.size) (by rw [hP, jp]), zby]
  have:depI (.un k s p a) = depI a ++ [(depT (.un k s p a):Int)]:=by simp [depI, depA]
  rw [this]
  rfl
 | .bin k s p a b, base, rest, P, Q, ht, hP=>by
  simp only [Tr.ok, Bool.and_eq_true, decide_eq_true_eq] at ht
  have hp:=Tr.pos a
  have hp':=Tr.pos b
  simp only [Tr.flat, List.append_assoc, Tr.size]
  rw [zhq, zhm a base _ P _ ht.1.2 hP, ← List.append_assoc P, zhm b (base + a.size) _ (P ++ depI a) _ ht.2 (by rw [List.length_append, jp, hP])]
  simp only [List.cons_append, List.nil_append, dpL]
  have hg1:(P ++ depI a ++ (depI b ++ ((0:Int) :: Q)))[base + a.size - 1]? = some (depT a:Int):=by
   rw [List.append_assoc, zgj P (depI a) _ (i:=a.size - 1) (by omega) (by rw [jp]; omega)]; exact zdg a
  have hg2:(P ++ depI a ++ (depI b ++ ((0:Int) :: Q)))[base + a.size + b.size - 1]? = some (depT b:Int):=by
   rw [zgj (P ++ depI a) (depI b) _ (i:=b.size - 1) (by rw [List.length_append, jp]; omega) (by rw [jp]; omega)]; exact zdg b
  have hf:fixK k = false:=by
   cases hq:fixK k with
   | false=>rfl
   | true=>have:=zoy hq; omega
  have hv:dpV (P ++ depI a ++ (depI b ++ ((0:Int) :: Q))) ((Tr.bin k s p a b).node base) = (depT (.bin k s p a b):Int):=by
   have e1:arF ((Tr.bin k s p a b).node base).kind = 2:=ht.1.1.1
   have e2:((Tr.bin k s p a b).node base).a.toNat = base + a.size - 1:=by show ((base + a.size - 1:Nat):Int).toNat = _; rw [Int.toNat_natCast]
   have e4:((Tr.bin k s p a b).node base).b.toNat = base + a.size + b.size - 1:=by show ((base + a.size + b.size - 1:Nat):Int).toNat = _; rw [Int.toNat_natCast]
   have e3:fixK ((Tr.bin k s p a b).node base).kind = false:=hf
   simp only [dpV, e1, e2, e4, hg1, hg2, e3, depT]
   simp
   split <;> omega
  rw [hv, zgq (P ++ depI a) (depI b) 0 _ Q (n:=base + a.size + b.size) (by rw [List.length_append, hP, jp, jp]), zby]
  have:depI (.bin k s p a b) = depI a ++ (depI b ++ [(depT (.bin k s p a b):Int)]):=by simp [depI, depA]
  rw [this]
  simp only [List.append_assoc]
  rw [show base + a.size + b.size + 1 = base + (a.size + b.size + 1) by omega]
theorem dpL_tree (t:Tr) (ht:t.ok = true):dpL (t.flat 0) 0 (List.replicate t.size 0) = depI t:=by
 have:=zhm t 0 [] [] [] ht rfl
 simpa [dpL] using this
section
variable {h₀:H} {f out:Sl} {l:List Nd}
theorem zhu (r:NdR h₀ f l) {T:List Int} (m:Mine h₀ h out (cIs T)) {i:Nat} {n:Nd} (hn:l[i]? = some n) {v:Int} (hv:T[i]? = some v) (h0:0≤v) (h1:v≤1000) (k:Nat) :
  ∃ h', (∀ (α:Type) (K:M α), (idxSl f (i:Int) 5 fun a=>ldI .i64 (a.add 0) fun x0=>ldI .i64 (a.add 1) fun x1=>ldI .i64 (a.add 2) fun x2=>ldStr (a.add 3) fun x3=>ldI .i64 (a.add 4) fun x4=>qau.f (k + 1) x0 x1 x2 x3 x4 fun r=>
   cond r (idxSl out (i:Int) 1 fun b=>ldI .i64 (b.add 0) fun y=>idxSl out (i:Int) 1 fun c=>st1 (c.add 0) (.int .i64 (w64 (y + 1))) K) K) h = K h') ∧ Mine h₀ h' out (cIs (T.set i (if fixK n.kind = true then v + 1 else v))):=by
 have x1:Ext h (h.push (ndC n)):=(Ext.refl h).push _
 have m1:=m.push x1
 cases c:fixK n.kind with
 | false=>
  refine ⟨h.push (ndC n), fun α K=>?_, ?_⟩
  ·rw [zcv (r.ext m.ext) rfl hn, zer, c, cond_false]
  ·have:T.set i v = T:=by
    have:=List.getElem?_eq_some_iff.1 hv
    obtain ⟨hlt, rfl⟩:=this
    exact List.set_getElem_self hlt
   simp only [Bool.false_eq_true, if_false]
   rw [this]; exact m1
 | true=>
  obtain ⟨h2, e2, m2, _⟩:=m1.st (x:=(i:Int)) (i:=i) (v + 1) rfl (yu hv)
  refine ⟨h2, fun α K=>?_, by simpa using m2⟩
  rw [zcv (r.ext m.ext) rfl hn, zer, c, cond_true, yk m1.own.rd rfl hv, zw (by omega) (by omega), e2]
theorem set_set (T:List Int) (i:Nat) (x y:Int):(T.set i x).set i y = T.set i y:=by simp
theorem deep_loop (r:NdR h₀ f l) (hb:Below l) (hl:l.length≤500) (k:Nat):∀ (j i:Nat) (h:H) (S:List Int), i≤l.length->l.length - i < j->S.length = i->(∀ (q:Nat) (v:Int), S[q]? = some v->0≤v ∧ v≤q + 1)->Mine h₀ h out (cIs (S ++ List.replicate (l.length - i) 0)) ->
  ∃ h', (∀ (α:Type) (kx:Sl->M α), qi.u11.l (k + 1) kx j f out (i:Int) h = kx out h') ∧ Mine h₀ h' out (cIs (dpL (l.drop i) i (S ++ List.replicate (l.length - i) 0))):=by
 intro j
 induction j with
 | zero=>intro i h S hi hj; omega
 | succ j ih=>
  intro i h S hi hj hS hb0 m
  have hfl:=jv r
  by_cases hlt:i < l.length
  rotate_left
  ·refine ⟨h, fun α kx=>?_, by rw [List.drop_of_length_le (by omega)]; exact m⟩
   rw [qi.u11.l, qi.u10.f, qi.u3.f, hfl, dF (by omega:¬ (i:Int) < (l.length:Int)), cond_false]
  have hn:l[i]? = some l[i]:=List.getElem?_eq_getElem hlt
  rw [List.drop_eq_getElem_cons hlt, dpL]
  generalize l[i] = n at hn ⊢
  have rr:=fun (h:H) (x:Ext h₀ h)=>r.ext x
  have hTl:(S ++ List.replicate (l.length - i) (0:Int)).length = l.length:=by simp; omega
  have hTi:(S ++ List.replicate (l.length - i) (0:Int))[i]? = some 0:=by
   rw [List.getElem?_append_right (by omega), hS, Nat.sub_self, List.getElem?_replicate, if_pos (by omega)]
  have hTq:∀ q, q < i->(S ++ List.replicate (l.length - i) (0:Int))[q]? = S[q]?:=fun q hq=>List.getElem?_append_left (by omega)
  have hset:∀ v, (S ++ List.replicate (l.length - i) (0:Int)).set i v = (S ++ [v]) ++ List.replicate (l.length - (i + 1)) 0:=fun v=>by
   rw [List.set_append_right _ _ (by omega), hS, Nat.sub_self, show l.length - i = (l.length - (i + 1)) + 1 by omega, List.replicate_succ, List.set_cons_zero, List.append_assoc]
   rfl
  obtain ⟨b1, b2⟩:=hb i n hn
  generalize hTT:S ++ List.replicate (l.length - i) (0:Int) = T at *
  have start:∀ (α:Type) (kx:Sl->M α), qi.u11.l (k + 1) kx (j + 1) f out (i:Int) h = _:=fun α kx=>by
   rw [qi.u11.l, qi.u10.f, qi.u3.f, hfl, dT (by clear b1 b2; omega:(i:Int) < (l.length:Int)), cond_true, qi.u9.f, qi.u7.f, qi.u6.f, qi.u4.f, zam (rr h m.ext) rfl hn, zcg]
  have key:∃ h1, (∀ (α:Type) (kx:Sl->M α), qi.u11.l (k + 1) kx (j + 1) f out (i:Int) h = qi.u11.l (k + 1) kx j f out (w64 ((i:Int) + 1)) h1) ∧ Mine h₀ h1 out (cIs (T.set i (dpV T n))) ∧ 0≤dpV T n ∧ dpV T n≤i + 1:=by
   have arity0:arF n.kind≤0->∃ h1, (∀ (α:Type) (kx:Sl->M α), qi.u11.l (k + 1) kx (j + 1) f out (i:Int) h = qi.u11.l (k + 1) kx j f out (w64 ((i:Int) + 1)) h1) ∧ Mine h₀ h1 out (cIs (T.set i (dpV T n))) ∧ 0≤dpV T n ∧ dpV T n≤i + 1:=by
    clear b1 b2
    intro e
    obtain ⟨h1, e1, m1⟩:=zhu r m hn hTi (Int.le_refl _) (by omega) k
    have hf:fixK n.kind = false:=by
     cases hq:fixK n.kind with
     | false=>rfl
     | true=>have:=zoy hq; omega
    have hv:dpV T n = 0:=by
     have n1:¬ 0 < arF n.kind:=by omega
     have n2:¬ 1 < arF n.kind:=by omega
     simp [dpV, n1, n2, hf]
    refine ⟨h1, fun α kx=>?_, ?_, ?_, ?_⟩
    ·rw [start, dF (by omega:¬ 0 < arF n.kind), cond_false, qi.u5.f, dF (by omega:¬ 1 < arF n.kind), cond_false, e1]
     rfl
    ·rw [hf] at m1; rw [hv]; exact m1
    ·omega
    ·omega
   rcases zga n.kind with e | e | e | e
   ·exact arity0 (by omega)
   ·exact arity0 (by omega)
   ·obtain ⟨a, ha, hai⟩:=b1 (by omega)
    clear b1 b2 arity0
    obtain ⟨va, hva⟩:∃ v, T[a]? = some v:=⟨_, List.getElem?_eq_getElem (by omega)⟩
    have hvb:=hb0 a va (by rw [← hTq a hai]; exact hva)
    obtain ⟨h1, e1, m1, _⟩:=m.st (x:=(i:Int)) (i:=i) va rfl (by omega)
    obtain ⟨h2, e2, m2⟩:=zhu r m1 hn (v:=va) (by rw [List.getElem?_set_self (by omega)]) hvb.1 (by omega) k
    have hv:dpV T n = if fixK n.kind = true then va + 1 else va:=by
     simp only [dpV, e, ha, Int.toNat_natCast, hva, Option.getD_some]
     simp
    refine ⟨h2, fun α kx=>?_, by rw [hv, ← set_set T i va]; exact m2, ?_, ?_⟩
    ·rw [start, e, dT (by omega:(0:Int) < 1), cond_true, nd_a (rr h m.ext) rfl hn, yk m.own.rd ha hva, e1, qi.u5.f, dF (by omega:¬ (1:Int) < 1), cond_false, e2]
     rfl
    ·rw [hv]; split <;> omega
    ·rw [hv]; split <;> omega
   ·obtain ⟨a, ha, hai⟩:=b1 (by omega)
    obtain ⟨b, hb', hbi⟩:=b2 (by omega)
    clear b1 b2 arity0
    obtain ⟨va, hva⟩:∃ v, T[a]? = some v:=⟨_, List.getElem?_eq_getElem (by omega)⟩
    obtain ⟨vb, hvb⟩:∃ v, T[b]? = some v:=⟨_, List.getElem?_eq_getElem (by omega)⟩
    have hva':=hb0 a va (by rw [← hTq a hai]; exact hva)
    have hvb':=hb0 b vb (by rw [← hTq b hbi]; exact hvb)
    have hf:fixK n.kind = false:=by
     cases hq:fixK n.kind with
     | false=>rfl
     | true=>have:=zoy hq; omega
    obtain ⟨h1, e1, m1, _⟩:=m.st (x:=(i:Int)) (i:=i) va rfl (by omega)
    have hb1:(T.set i va)[b]? = some vb:=by rw [List.getElem?_set_ne (by omega)]; exact hvb
    have hi1:(T.set i va)[i]? = some va:=List.getElem?_set_self (by omega)
    have hv:dpV T n = if va < vb then vb else va:=by
     simp only [dpV, e, ha, hb', Int.toNat_natCast, hva, hvb, hf, Option.getD_some]
     simp
    by_cases c:va < vb
    ·obtain ⟨h2, e2, m2, _⟩:=m1.st (x:=(i:Int)) (i:=i) vb rfl (by rw [List.length_set]; omega)
     obtain ⟨h3, e3, m3⟩:=zhu r m2 hn (v:=vb) (by rw [List.getElem?_set_self (by rw [List.length_set]; omega)]) hvb'.1 (by omega) k
     rw [hf] at m3
     refine ⟨h3, fun α kx=>?_, by rw [hv, if_pos c]; simpa using m3, ?_, ?_⟩
     ·rw [start, e, dT (by omega:(0:Int) < 2), cond_true, nd_a (rr h m.ext) rfl hn, yk m.own.rd ha hva, e1, qi.u5.f, dT (by omega:(1:Int) < 2), cond_true, nd_b (rr h1 m1.ext) rfl hn, yk m1.own.rd hb' hb1, yk m1.own.rd rfl hi1, dT c, cond_true,
       nd_b (rr h1 m1.ext) rfl hn, yk m1.own.rd hb' hb1, e2, e3]
      rfl
     ·rw [hv]; split <;> omega
     ·rw [hv]; split <;> omega
    ·obtain ⟨h3, e3, m3⟩:=zhu r m1 hn hi1 hva'.1 (by omega) k
     rw [hf] at m3
     refine ⟨h3, fun α kx=>?_, by rw [hv, if_neg c]; simpa using m3, ?_, ?_⟩
     ·rw [start, e, dT (by omega:(0:Int) < 2), cond_true, nd_a (rr h m.ext) rfl hn, yk m.own.rd ha hva, e1, qi.u5.f, dT (by omega:(1:Int) < 2), cond_true, nd_b (rr h1 m1.ext) rfl hn, yk m1.own.rd hb' hb1, yk m1.own.rd rfl hi1, dF c, cond_false, e3]
      rfl
     ·rw [hv]; split <;> omega
     ·rw [hv]; split <;> omega
  obtain ⟨h1, e1, m1, v0, v1⟩:=key
  clear b1 b2
  rw [hset] at m1 ⊢
  obtain ⟨h2, e2, m2⟩:=ih (i + 1) h1 (S ++ [dpV T n]) (by omega) (by omega) (by simp [hS]) (fun q v hq=>by
   by_cases hqi:q < i
   ·rw [List.getElem?_append_left (by omega)] at hq; exact hb0 q v hq
   ·have hl':=yu hq
    simp only [List.length_append, List.length_cons, List.length_nil] at hl'
    have:q = i:=by omega
    subst this
    rw [List.getElem?_append_right (by omega), hS, Nat.sub_self] at hq
    simp only [List.getElem?_cons_zero, Option.some.injEq] at hq
    omega) m1
  refine ⟨h2, fun α kx=>?_, m2⟩
  rw [e1, zw (by omega) (by omega)]
  exact e2 α kx
theorem deep_run (k:Nat) (hk:200≤k) {t:Tr} (ht:t.ok = true) (hs:t.size≤60) (h:H) (r:NdR h f (t.flat 0)) :
  ∃ h' s, (∀ (α:Type) (ret:Sl->M α), qi.f (k + 1) f ret h = ret s h') ∧ Mine h h' s (cIs (depI t)):=by
 obtain ⟨k, rfl⟩:∃ q, k = q + 1:=⟨k - 1, by omega⟩
 have hfl:f.len = t.size:=by rw [jv r, zd]
 obtain ⟨h1, e1, o1, n1, x1⟩:=zkd (h:=h) (n:=t.size) (x:=(f.len:Int)) (y:=(f.len:Int)) (by rw [hfl]) (by rw [hfl]) (by omega)
 have m1:Mine h h1 ⟨some ⟨h.next, 0⟩, t.size, t.size, none⟩ (cIs ([] ++ List.replicate ((t.flat 0).length - 0) 0)):=⟨x1, by rw [zd]; exact o1, Nat.le_refl _⟩
 obtain ⟨h2, e2, m2⟩:=deep_loop r (zlc ht) (by rw [zd]; omega) k (k + 1) 0 h1 [] (Nat.zero_le _) (by rw [zd]; omega) rfl (fun q v hq=>by simp at hq) m1
 rw [List.drop_zero, zd] at m2
 rw [Nat.sub_zero, List.nil_append, dpL_tree t ht] at m2
 refine ⟨h2, _, fun α ret=>?_, m2⟩
 rw [qi.f, qi.u16.f, qi.u1.f, e1, qi.u15.f, qi.u13.f, qi.u2.f, qi.u12.f, qi.u11.f]
 exact e2 α _
end
end Go.Ab.S7
namespace Go.Ab.S7
variable {α:Type} {h:H}
def zhx (l:List Nd) (U:List Int):Int->Anc->Prop
 | m, []=>m = -1
 | m, (i, n) :: A=>m = (i:Int) ∧ l[i]? = some n ∧ ∃ m', U[i]? = some m' ∧ zhx l U m' A
def zkt (name:List UInt8):Anc->Nat->Option (Nat × Nat)
 | [], _=>none
 | (i, n) :: A, c=>if fixK n.kind = true ∧ n.name = name then some (i, c) else zkt name A (if n.kind = 5 then c + 1 else c)
theorem findR_S (name:List UInt8):∀ (A:Anc) (c:Nat), zkt name A c = (zbc name A).map fun p=>(p.1, c + (cntN A - p.2))
 | [], c=>rfl
 | (i, n) :: A, c=>by
  simp only [zkt, zbc]
  by_cases h:fixK n.kind = true ∧ n.name = name
  ·rw [if_pos h, if_pos h]
   have h5:n.kind ≠ 5:=by
    intro e; rw [e] at h; exact absurd h.1 (by decide)
   simp [cntN, h5]
  ·rw [if_neg h, if_neg h, findR_S name A]
   cases hf:zbc name A with
   | none=>rfl
   | some p=>
    obtain ⟨j, m⟩:=p
    have:=zfu hf
    simp only [Option.map_some, cntN]
    split <;> simp <;> omega
theorem zfb {l:List Nd} {U:List Int}:∀ (t:Tr) (base:Nat) (A:Anc) (p:Int), t.ok = true->(∀ i n, (t.flat base)[i]? = some n->l[base + i]? = some n)->(∀ (i:Nat) (v:Int), (upA t base p)[i]? = some v->U[base + i]? = some v)->zhx l U p A ->
  ∀ i n, (t.flat base)[i]? = some n->∃ (B:Anc) (m:Int), U[base + i]? = some m ∧ zhx l U m B ∧ (toA t base A)[i]? = some (zbg n.kind n.name B) ∧ (oddA t base A)[i]? = some (zas n.kind n.name B) ∧ B.length≤A.length + t.size
 | .leaf k s q, base, A, p, ht, hl, hU, hc, i, n, hi=>by
  have h1:=yu hi
  rw [zd] at h1
  have:i = 0:=by simp only [Tr.size] at h1; omega
  subst this
  simp only [Tr.flat, List.getElem?_cons_zero, Option.some.injEq] at hi
  subst hi
  exact ⟨A, p, hU 0 p rfl, hc, rfl, rfl, by omega⟩
 | .un k s q a, base, A, p, ht, hl, hU, hc, i, n, hi=>by
  simp only [Tr.ok, Bool.and_eq_true, decide_eq_true_eq] at ht
  have hsub:=zcb (l:=l) (a:=a) (base:=base) (rest:=[(Tr.un k s q a).node base]) hl
  have hself:l[base + a.size]? = some ((Tr.un k s q a).node base):=hsub.2 0 _ rfl
  have hUs:U[base + a.size]? = some p:=hU a.size p (by simp only [upA]; rw [List.getElem?_append_right (by rw [jo]; omega), jo, Nat.sub_self]; rfl)
  have hUa:∀ (i:Nat) (v:Int), (upA a base ((base + a.size:Nat):Int))[i]? = some v->U[base + i]? = some v:=fun i v h=>hU i v (by simp only [upA]; rw [List.getElem?_append_left (yu h)]; exact h)
  have hc':zhx l U ((base + a.size:Nat):Int) ((base + a.size, (Tr.un k s q a).node base) :: A):=⟨rfl, hself, p, hUs, hc⟩
  simp only [Tr.flat] at hi
  by_cases hlt:i < a.size
  ·rw [List.getElem?_append_left (by rw [zd]; exact hlt)] at hi
   obtain ⟨B, m, b1, b2, b3, b4, b5⟩:=zfb a base _ _ ht.2 hsub.1 hUa hc' i n hi
   refine ⟨B, m, b1, b2, ?_, ?_, by simp only [List.length_cons, Tr.size] at b5 ⊢; omega⟩
   ·simp only [toA]; rw [List.getElem?_append_left (by rw [ye]; exact hlt)]; exact b3
   ·simp only [oddA]; rw [List.getElem?_append_left (by rw [ya]; exact hlt)]; exact b4
  ·have h1:=yu hi
   simp only [List.length_append, zd, List.length_cons, List.length_nil] at h1
   have:i = a.size:=by omega
   subst this
   rw [List.getElem?_append_right (by rw [zd]; omega), zd, Nat.sub_self] at hi
   simp only [List.getElem?_cons_zero, Option.some.injEq] at hi
   subst hi
   have h4:k ≠ 4:=by
    intro e; rw [e] at ht; exact absurd ht.1.1 (by decide)
   refine ⟨A, p, hUs, hc, ?_, ?_, by omega⟩
   ·simp only [toA]
    rw [List.getElem?_append_right (by rw [ye]; omega), ye, Nat.sub_self]
    simp [zbg, Tr.node, h4]
   ·simp only [oddA]
    rw [List.getElem?_append_right (by rw [ya]; omega), ya, Nat.sub_self]
    simp [zas, Tr.node, h4]
 | .bin k s q a b, base, A, p, ht, hl, hU, hc, i, n, hi=>by
  simp only [Tr.ok, Bool.and_eq_true, decide_eq_true_eq] at ht
  have hsub:=zcb (l:=l) (a:=a) (base:=base) (rest:=b.flat (base + a.size) ++ [(Tr.bin k s q a b).node base]) hl
  have hsub2:=zcb (l:=l) (a:=b) (base:=base + a.size) (rest:=[(Tr.bin k s q a b).node base]) hsub.2
  have hself:l[base + a.size + b.size]? = some ((Tr.bin k s q a b).node base):=hsub2.2 0 _ rfl
  have hUs:U[base + a.size + b.size]? = some p:=by
   have:=hU (a.size + b.size) p (by
    simp only [upA]
    rw [List.getElem?_append_right (by rw [jo]; omega), jo, List.getElem?_append_right (by rw [jo]; omega), jo, show a.size + b.size - a.size - b.size = 0 by omega]; rfl)
   rwa [← Nat.add_assoc] at this
  have hUa:∀ (i:Nat) (v:Int), (upA a base ((base + a.size + b.size:Nat):Int))[i]? = some v->U[base + i]? = some v:=fun i v h=>hU i v (by simp only [upA]; rw [List.getElem?_append_left (yu h)]; exact h)
  have hUb:∀ (i:Nat) (v:Int), (upA b (base + a.size) ((base + a.size + b.size:Nat):Int))[i]? = some v->U[base + a.size + i]? = some v:=fun i v h=>by
   have:=hU (a.size + i) v (by
    simp only [upA]
    rw [List.getElem?_append_right (by rw [jo]; omega), jo, show a.size + i - a.size = i by omega, List.getElem?_append_left (yu h)]; exact h)
   rwa [← Nat.add_assoc] at this
  have hc':zhx l U ((base + a.size + b.size:Nat):Int) ((base + a.size + b.size, (Tr.bin k s q a b).node base) :: A):=⟨rfl, hself, p, hUs, hc⟩
  simp only [Tr.flat] at hi
  by_cases hlt:i < a.size
  ·rw [List.getElem?_append_left (by rw [zd]; exact hlt)] at hi
   obtain ⟨B, m, b1, b2, b3, b4, b5⟩:=zfb a base _ _ ht.1.2 hsub.1 hUa hc' i n hi
   have:=Tr.pos b
   refine ⟨B, m, b1, b2, ?_, ?_, by simp only [List.length_cons, Tr.size] at b5 ⊢; omega⟩
   ·simp only [toA]; rw [List.getElem?_append_left (by rw [ye]; exact hlt)]; exact b3
   ·simp only [oddA]; rw [List.getElem?_append_left (by rw [ya]; exact hlt)]; exact b4
  ·rw [List.getElem?_append_right (by rw [zd]; omega), zd] at hi
   have e0:base + a.size + (i - a.size) = base + i:=by omega
   by_cases hlt2:i - a.size < b.size
   ·rw [List.getElem?_append_left (by rw [zd]; exact hlt2)] at hi
    obtain ⟨B, m, b1, b2, b3, b4, b5⟩:=zfb b (base + a.size) _ _ ht.2 hsub2.1 hUb hc' (i - a.size) n hi
    have:=Tr.pos a
    rw [e0] at b1
    refine ⟨B, m, b1, b2, ?_, ?_, by simp only [List.length_cons, Tr.size] at b5 ⊢; omega⟩
    ·simp only [toA]; rw [List.getElem?_append_right (by rw [ye]; omega), ye, List.getElem?_append_left (by rw [ye]; exact hlt2)]; exact b3
    ·simp only [oddA]; rw [List.getElem?_append_right (by rw [ya]; omega), ya, List.getElem?_append_left (by rw [ya]; exact hlt2)]; exact b4
   ·have h1:=yu hi
    simp only [List.length_append, zd, List.length_cons, List.length_nil] at h1
    have:i = a.size + b.size:=by omega
    subst this
    rw [List.getElem?_append_right (by rw [zd]; omega), zd, show a.size + b.size - a.size - b.size = 0 by omega] at hi
    simp only [List.getElem?_cons_zero, Option.some.injEq] at hi
    subst hi
    have h4:k ≠ 4:=by
     intro e; rw [e] at ht; exact absurd ht.1.1.1 (by decide)
    refine ⟨A, p, by rw [← Nat.add_assoc]; exact hUs, hc, ?_, ?_, by omega⟩
    ·simp only [toA]
     rw [List.getElem?_append_right (by rw [ye]; omega), ye, List.getElem?_append_right (by rw [ye]; omega), ye, show a.size + b.size - a.size - b.size = 0 by omega]
     simp [zbg, Tr.node, h4]
    ·simp only [oddA]
     rw [List.getElem?_append_right (by rw [ya]; omega), ya, List.getElem?_append_right (by rw [ya]; omega), ya, show a.size + b.size - a.size - b.size = 0 by omega]
     simp [zas, Tr.node, h4]
section
variable {h₀:H} {f up:Sl} {l:List Nd} {U:List Int}
theorem zqh (r:NdR h₀ f l) (ru:Rd h₀ up 1 (cIs U)) {a:Nat} {n0:Nd} (hn0:l[a]? = some n0) (k:Nat):∀ (A:Anc) (m:Int) (c j:Nat) (h:H), zhx l U m A->A.length < j->c + A.length≤1000->Ext h₀ h ->
  ∃ h', Ext h₀ h' ∧ ∀ (α:Type) (kr:Int->Int->M α) (kx:M α), qt.u4.l (k + 1) kr kx j f up (a:Int) (c:Int) m h = (match zkt n0.name A c with | some (i, d)=>kr i d h' | none=>kx h'):=by
 intro A
 induction A with
 | nil=>
  intro m c j h hc hj hb x
  obtain ⟨j, rfl⟩:∃ q, j = q + 1:=⟨j - 1, by simp at hj; omega⟩
  have hm:m = -1:=hc
  subst hm
  refine ⟨h, x, fun α kr kx=>?_⟩
  rw [qt.u4.l, qt.u3.f, dF (by omega:¬ (0:Int)≤-1), cond_false]
  rfl
 | cons p A ih=>
  intro m c j h hc hj hb x
  obtain ⟨i, n⟩:=p
  obtain ⟨rfl, hi, m', hm', hc'⟩:=hc
  simp only [List.length_cons] at hj hb
  obtain ⟨j, rfl⟩:∃ q, j = q + 1:=⟨j - 1, by omega⟩
  have x1:Ext h (h.push (ndC n)):=(Ext.refl h).push _
  have start:∀ (α:Type) (kr:Int->Int->M α) (kx:M α), qt.u4.l (k + 1) kr kx (j + 1) f up (a:Int) (c:Int) (i:Int) h = _:=fun α kr kx=>by
   rw [qt.u4.l, qt.u3.f, dT (by omega:(0:Int)≤(i:Int)), cond_true, zcv (r.ext x) rfl hi, zer]
  generalize h.push (ndC n) = h1 at start x1
  have x01:=x.trans x1
  have rr:=r.ext x01
  have ruu:=ru.ext x01
  simp only [zkt]
  -- on
  have on:∀ (d:Nat), d = (if n.kind = 5 then c + 1 else c)->∃ h', Ext h₀ h' ∧ ∀ (α:Type) (kr:Int->Int->M α) (kx:M α), qt.u4.l (k + 1) kr kx j f up (a:Int) (d:Int) m' h1 = (match zkt n0.name A (if n.kind = 5 then c + 1 else c) with | some (i, d)=>kr i d h' | none=>kx h'):=by
   intro d hd
   rw [← hd]
   exact ih m' d j h1 hc' (by omega) (by rw [hd]; split <;> omega) x01
  by_cases hfx:fixK n.kind = true
  ·by_cases hname:n.name = n0.name
   ·rw [if_pos ⟨hfx, hname⟩]
    refine ⟨h1, x01, fun α kr kx=>?_⟩
    rw [start, hfx, cond_true, zdd rr rfl hi, zdd rr rfl hn0, dT hname, cond_true]
   ·rw [if_neg (fun h=>hname h.2)]
    have h5:n.kind ≠ 5:=by
     intro e; rw [e] at hfx; exact absurd hfx (by decide)
    obtain ⟨h', x', e'⟩:=on c (by rw [if_neg h5])
    refine ⟨h', x', fun α kr kx=>?_⟩
    rw [start, hfx, cond_true, zdd rr rfl hi, zdd rr rfl hn0, dF hname, cond_false, zam rr rfl hi, dF h5, cond_false, yk ruu rfl hm']
    exact e' α kr kx
  ·rw [if_neg (fun h=>hfx h.1)]
   rw [Bool.not_eq_true] at hfx
   by_cases h5:n.kind = 5
   ·obtain ⟨h', x', e'⟩:=on (c + 1) (by rw [if_pos h5])
    refine ⟨h', x', fun α kr kx=>?_⟩
    rw [start, hfx, cond_false, zam rr rfl hi, dT h5, cond_true, yk ruu rfl hm', zw (by omega) (by omega)]
    exact e' α kr kx
   ·obtain ⟨h', x', e'⟩:=on c (by rw [if_neg h5])
    refine ⟨h', x', fun α kr kx=>?_⟩
    rw [start, hfx, cond_false, zam rr rfl hi, dF h5, cond_false, yk ruu rfl hm']
    exact e' α kr kx
theorem zrf (r:NdR h₀ f l) (ru:Rd h₀ up 1 (cIs U)) {a:Nat} {n0:Nd} (hn0:l[a]? = some n0) {A:Anc} {m:Int} (hm:U[a]? = some m) (hc:zhx l U m A) (hl:A.length≤200) (k:Nat) (hk:300≤k) (h:H) (x:Ext h₀ h) :
  ∃ h', Ext h₀ h' ∧ ∀ (α:Type) (ret:Int->Int->M α), qt.f (k + 1) f up (a:Int) ret h = (match zkt n0.name A 0 with | some (i, d)=>ret i d h' | none=>ret (-1) 0 h'):=by
 obtain ⟨k, rfl⟩:∃ q, k = q + 1:=⟨k - 1, by omega⟩
 obtain ⟨h', x', e'⟩:=zqh r ru hn0 k A m 0 (k + 1) h hc (by omega) (by omega) x
 refine ⟨h', x', fun α ret=>?_⟩
 rw [qt.f, qt.u9.f, qt.u1.f, qt.u8.f, qt.u6.f, qt.u2.f, yk (ru.ext x) rfl hm, qt.u5.f, qt.u4.f, qt.u7.f]
 exact e' α _ _
end
end Go.Ab.S7
namespace Go.Ab.S7
variable {α:Type} {h:H}
def yi (l:List Nd):List (List UInt8):=(l.filter fun n=>fixK n.kind).map Nd.name
theorem zmn (l:List Nd) (n:Nd):yi (l ++ [n]) = if fixK n.kind = true then yi l ++ [n.name] else yi l:=by
 unfold yi
 rw [List.filter_append, List.map_append]
 cases h:fixK n.kind <;> simp [h]
theorem zml (l:List Nd) (n:Nd):yi (n :: l) = if fixK n.kind = true then n.name :: yi l else yi l:=by
 unfold yi
 rw [List.filter_cons]
 cases h:fixK n.kind <;> simp
theorem zmo {l:List Nd} {i:Nat} {n:Nd} (hi:l[i]? = some n):yi (l.take (i + 1)) = if fixK n.kind = true then yi (l.take i) ++ [n.name] else yi (l.take i):=by
 rw [List.take_add_one, hi]
 exact zmn _ _
section
variable {h₁:H} {f up high:Sl} {l:List Nd} {U D:List Int}
theorem dup_loop (r:NdR h₁ f l) {i:Nat} {n:Nd} (hi:l[i]? = some n) (hl:l.length≤1000) (k:Nat):∀ (j c:Nat) (h:H), c≤i->i - c < j->Ext h₁ h ->
  ∃ h', Ext h₁ h' ∧ ∀ (α:Type) (kr:Int->Int->M α) (kx:Sl->Sl->Sl->Int->M α), qc.u8.l (k + 1) kr kx j f up high (i:Int) (c:Int) h = if n.name ∈ yi ((l.take i).drop c) then kr (i:Int) 9 h' else kx f up high (i:Int) h':=by
 have hil:=yu hi
 intro j
 induction j with
 | zero=>intro c h hc hj; omega
 | succ j ih=>
  intro c h hc hj x
  by_cases hlt:c < i
  rotate_left
  ·refine ⟨h, x, fun α kr kx=>?_⟩
   rw [qc.u8.l, qc.u7.f, dF (by omega:¬ (c:Int) < (i:Int)), cond_false, List.drop_of_length_le (by simp; omega), if_neg (by simp [yi])]
  have hc':l[c]? = some l[c]:=List.getElem?_eq_getElem (by omega)
  have hd:(l.take i).drop c = l[c] :: (l.take i).drop (c + 1):=by
   rw [List.drop_eq_getElem_cons (by simp; omega)]
   simp
  rw [hd]
  generalize l[c] = m at hc' ⊢
  have x1:Ext h (h.push (ndC m)):=(Ext.refl h).push _
  have start:∀ (α:Type) (kr:Int->Int->M α) (kx:Sl->Sl->Sl->Int->M α), qc.u8.l (k + 1) kr kx (j + 1) f up high (i:Int) (c:Int) h = _:=fun α kr kx=>by
   rw [qc.u8.l, qc.u7.f, dT (by omega:(c:Int) < (i:Int)), cond_true, zcv (r.ext x) rfl hc', zer]
  generalize h.push (ndC m) = h1 at start x1
  have rr:=r.ext (x.trans x1)
  obtain ⟨h', x', e'⟩:=ih (c + 1) h1 (by omega) (by omega) (x.trans x1)
  have hmem:n.name ∈ yi (m :: (l.take i).drop (c + 1)) ↔ (fixK m.kind = true ∧ m.name = n.name) ∨ n.name ∈ yi ((l.take i).drop (c + 1)):=by
   rw [zml]
   cases hf:fixK m.kind with
   | false=>simp
   | true=>
    simp only [if_true, List.mem_cons, true_and]
    exact ⟨fun h=>h.imp Eq.symm id, fun h=>h.imp Eq.symm id⟩
  by_cases hdup:fixK m.kind = true ∧ m.name = n.name
  ·refine ⟨h1, x.trans x1, fun α kr kx=>?_⟩
   rw [start, if_pos (hmem.2 (.inl hdup)), hdup.1, cond_true, zdd rr rfl hc', zdd rr rfl hi, dT hdup.2, cond_true]
  ·refine ⟨h', x', fun α kr kx=>?_⟩
   have hiff:(n.name ∈ yi (m :: (l.take i).drop (c + 1))) = (n.name ∈ yi ((l.take i).drop (c + 1))):=propext ⟨fun h=>(hmem.1 h).resolve_left hdup, fun h=>hmem.2 (.inr h)⟩
   rw [start]
   simp only [hiff]
   refine Eq.trans ?_ (e' α kr kx)
   cases hf:fixK m.kind with
   | false=>rw [cond_false, zw (by omega) (by omega)]; rfl
   | true=>rw [cond_true, zdd rr rfl hc', zdd rr rfl hi, dF (fun e=>hdup ⟨hf, e⟩), cond_false, zw (by omega) (by omega)]; rfl
theorem zpq {T:List Int} {O:List Bool} (r:NdR h₁ f l) (ru:Rd h₁ up 1 (cIs U)) (rh:Rd h₁ high 1 (cIs D)) (hT:T.length = l.length) (hO:O.length = l.length) (hD:D.length = l.length) (hl:l.length≤100)
  (hch:∀ (i:Nat) (n:Nd), l[i]? = some n->∃ (B:Anc) (m:Int), U[i]? = some m ∧ zhx l U m B ∧ T[i]? = some (zbg n.kind n.name B) ∧ O[i]? = some (zas n.kind n.name B) ∧ B.length≤200) (k:Nat) (hk:400≤k):∀ (j i:Nat) (h:H), i≤l.length->l.length - i < j->Ext h₁ h ->
   ∃ h', Ext h₁ h' ∧ ∀ (α:Type) (kr:Int->Int->M α), qc.u19.l (k + 1) kr (kr 0 0) j f up high (i:Int) h = kr (chk (l.drop i) (T.drop i) (O.drop i) (D.drop i) i (yi (l.take i))).1 (chk (l.drop i) (T.drop i) (O.drop i) (D.drop i) i (yi (l.take i))).2 h':=by
 intro j
 induction j with
 | zero=>intro i h hi hj; omega
 | succ j ih=>
  intro i h hi hj x
  have hfl:=jv r
  by_cases hlt:i < l.length
  rotate_left
  ·refine ⟨h, x, fun α kr=>?_⟩
   rw [qc.u19.l, qc.u18.f, qc.u3.f, hfl, dF (by omega:¬ (i:Int) < (l.length:Int)), cond_false, List.drop_of_length_le (by omega)]
   rfl
  have hn:l[i]? = some l[i]:=List.getElem?_eq_getElem hlt
  have hDi:D[i]? = some D[i]:=List.getElem?_eq_getElem (by omega)
  have hstep:=zmo hn
  obtain ⟨B, m, c1, c2, c3, c4, c5⟩:=hch i l[i] hn
  have hTi:T[i] = zbg l[i].kind l[i].name B:=by
   rw [List.getElem?_eq_getElem (by omega)] at c3; exact Option.some.inj c3
  have hOi:O[i] = zas l[i].kind l[i].name B:=by
   rw [List.getElem?_eq_getElem (by omega)] at c4; exact Option.some.inj c4
  rw [List.drop_eq_getElem_cons hlt, List.drop_eq_getElem_cons (by omega:i < T.length), List.drop_eq_getElem_cons (by omega:i < O.length), List.drop_eq_getElem_cons (by omega:i < D.length), chk, hTi, hOi, ← hstep]
  generalize l[i] = n at hn ⊢
  generalize D[i] = di at hDi ⊢
  have start:∀ (α:Type) (kr:Int->Int->M α), qc.u19.l (k + 1) kr (kr 0 0) (j + 1) f up high (i:Int) h = _:=fun α kr=>by
   rw [qc.u19.l, qc.u18.f, qc.u3.f, hfl, dT (by omega:(i:Int) < (l.length:Int)), cond_true, qc.u17.f, qc.u15.f, qc.u14.f, qc.u4.f, zam (r.ext x) rfl hn]
  -- the next round
  have next:∀ (h1:H), Ext h₁ h1->∃ h', Ext h₁ h' ∧ ∀ (α:Type) (kr:Int->Int->M α), qc.u16.f (k + 1) f up high (i:Int) (fun y0 y1 y2 y3=>qc.u19.l (k + 1) kr (kr 0 0) j y0 y1 y2 y3) h1 = kr (chk (l.drop (i + 1)) (T.drop (i + 1)) (O.drop (i + 1)) (D.drop (i + 1)) (i + 1) (yi (l.take (i + 1)))).1 (chk (l.drop (i + 1)) (T.drop (i + 1)) (O.drop (i + 1)) (D.drop (i + 1)) (i + 1) (yi (l.take (i + 1)))).2 h':=by
   intro h1 x1
   obtain ⟨h', x', e'⟩:=ih (i + 1) h1 (by omega) (by omega) x1
   refine ⟨h', x', fun α kr=>?_⟩
   rw [qc.u16.f, zw (by omega) (by omega)]
   exact e' α kr
  by_cases h4:n.kind = 4
  ·-- a variable
   have hnf:fixK n.kind = false:=by rw [h4]; rfl
   obtain ⟨h1, x1, e1⟩:=zrf r ru hn c1 c2 c5 k (by omega) h x
   have hR:=findR_S n.name B 0
   cases hf:zbc n.name B with
   | none=>
    rw [hf] at hR
    rw [hR] at e1
    have t0:zbg n.kind n.name B = -1:=by simp [zbg, h4, hf]
    rw [if_pos ⟨h4, by rw [t0]; decide⟩]
    refine ⟨h1, x1, fun α kr=>?_⟩
    rw [start, dT h4, cond_true, e1]
    rfl
   | some p=>
    obtain ⟨q, d⟩:=p
    have hd:=zfu hf
    have hcl:=zkj B
    rw [hf] at hR
    rw [hR] at e1
    simp only [Option.map_some] at e1
    have t0:zbg n.kind n.name B = (q:Int):=by simp [zbg, h4, hf]
    have o0:zas n.kind n.name B = decide ((cntN B - d) % 2 ≠ 0):=by simp [zas, h4, hf]
    rw [if_neg (by rw [t0]; omega)]
    have em:((0 + (cntN B - d):Nat):Int) = ((cntN B - d:Nat):Int):=by omega
    have et:Int.tmod ((0 + (cntN B - d):Nat):Int) 2 = (((cntN B - d) % 2:Nat):Int):=by
     rw [em, Int.tmod_eq_emod_of_nonneg (by omega)]; omega
    have start2:∀ (α:Type) (kr:Int->Int->M α), qc.u19.l (k + 1) kr (kr 0 0) (j + 1) f up high (i:Int) h = _:=fun α kr=>by
     rw [start, dT h4, cond_true, e1, dF (by omega:¬ (q:Int) < 0), cond_false, et]
    by_cases ho:(cntN B - d) % 2 ≠ 0
    ·rw [if_pos ⟨h4, by rw [o0]; exact dT ho⟩]
     refine ⟨h1, x1, fun α kr=>?_⟩
     rw [start2, dT (by omega:(((cntN B - d) % 2:Nat):Int) = 1), cond_true]
    ·rw [if_neg (fun h=>ho (by have:=h.2; rw [o0] at this; exact of_decide_eq_true this)), if_neg (by rw [hnf]; exact fun h=>by cases h.1), if_neg (by rw [hnf]; exact fun h=>by cases h.1)]
     have x2:Ext h1 (h1.push (ndC n)):=(Ext.refl h1).push _
     obtain ⟨h', x', e'⟩:=next _ (x1.trans x2)
     refine ⟨h', x', fun α kr=>?_⟩
     rw [start2, dF (by omega:¬ (((cntN B - d) % 2:Nat):Int) = 1), cond_false, qc.u13.f, qc.u5.f, zcv (r.ext x1) rfl hn, zer, hnf, Bool.not_false, cond_true]
     exact e' α kr
  ·rw [if_neg (fun h=>h4 h.1), if_neg (fun h=>h4 h.1)]
   have x2:Ext h (h.push (ndC n)):=(Ext.refl h).push _
   have start2:∀ (α:Type) (kr:Int->Int->M α), qc.u19.l (k + 1) kr (kr 0 0) (j + 1) f up high (i:Int) h = _:=fun α kr=>by
    rw [start, dF h4, cond_false, qc.u13.f, qc.u5.f, zcv (r.ext x) rfl hn, zer]
   generalize h.push (ndC n) = h1 at start2 x2
   have x01:=x.trans x2
   cases hf:fixK n.kind with
   | false=>
    rw [hf] at start2
    rw [if_neg (fun h=>by cases h.1), if_neg (fun h=>by cases h.1)]
    obtain ⟨h', x', e'⟩:=next h1 x01
    refine ⟨h', x', fun α kr=>?_⟩
    rw [start2, Bool.not_false, cond_true]
    exact e' α kr
   | true=>
    rw [hf] at start2
    obtain ⟨h2, x2', e2⟩:=dup_loop (up:=up) (high:=high) r hn (by omega) k (k + 1) 0 h1 (Nat.zero_le _) (by omega) x01
    rw [List.drop_zero] at e2
    have start3:∀ (α:Type) (kr:Int->Int->M α), qc.u19.l (k + 1) kr (kr 0 0) (j + 1) f up high (i:Int) h = _:=fun α kr=>by
     refine Eq.trans ?_ (e2 α kr fun y0 y1 y2 y3=>qc.u11.f (k + 1) y0 y1 y2 y3 (fun y0 y1 y2 y3=>qc.u16.f (k + 1) y0 y1 y2 y3 fun y0 y1 y2 y3=>qc.u19.l (k + 1) kr (kr 0 0) j y0 y1 y2 y3) kr)
     rw [start2, Bool.not_true, cond_false, qc.u12.f, qc.u10.f, qc.u6.f, qc.u9.f, qc.u8.f]
     rfl
    by_cases hs:n.name ∈ yi (l.take i)
    ·rw [if_pos ⟨rfl, hs⟩]
     refine ⟨h2, x2', fun α kr=>?_⟩
     rw [start3, if_pos hs]
    ·rw [if_neg (fun h=>hs h.2)]
     by_cases hd:4 < di
     ·rw [if_pos ⟨rfl, hd⟩]
      refine ⟨h2, x2', fun α kr=>?_⟩
      rw [start3, if_neg hs, qc.u11.f, yk (rh.ext x2') rfl hDi, dT hd, cond_true]
     ·rw [if_neg (fun h=>hd h.2)]
      obtain ⟨h', x', e'⟩:=next h2 x2'
      refine ⟨h', x', fun α kr=>?_⟩
      rw [start3, if_neg hs, qc.u11.f, yk (rh.ext x2') rfl hDi, dF hd, cond_false]
      exact e' α kr
theorem zpf {t:Tr} (ht:t.ok = true) (hs:t.size≤60):∀ (i:Nat) (n:Nd), (t.flat 0)[i]? = some n->∃ (B:Anc) (m:Int), (upA t 0 (-1))[i]? = some m ∧ zhx (t.flat 0) (upA t 0 (-1)) m B ∧ (toA t 0 [])[i]? = some (zbg n.kind n.name B) ∧ (oddA t 0 [])[i]? = some (zas n.kind n.name B) ∧ B.length≤200:=by
 intro i n hi
 obtain ⟨B, m, b1, b2, b3, b4, b5⟩:=zfb (l:=t.flat 0) (U:=upA t 0 (-1)) t 0 [] (-1) ht (fun i n h=>by rw [Nat.zero_add]; exact h) (fun i v h=>by rw [Nat.zero_add]; exact h) rfl i n hi
 rw [Nat.zero_add] at b1
 exact ⟨B, m, b1, b2, b3, b4, by simp at b5; omega⟩
theorem zko (k:Nat) (hk:500≤k) {t:Tr} (ht:t.ok = true) (hs:t.size≤60) (hnl:NL (t.flat 0)) (h:H) (r:NdR h f (t.flat 0)) :
  ∃ h', (∀ (α:Type) (ret:Int->Int->M α), qc.f (k + 1) f ret h = ret (chkT t).1 (chkT t).2 h') ∧ Ext h h':=by
 obtain ⟨k, rfl⟩:∃ q, k = q + 1:=⟨k - 1, by omega⟩
 have hR:zcs (t.flat 0) = true:=(zik _).2 ⟨t, ht, rfl, hs⟩
 obtain ⟨h1, e1, x1⟩:=zle k (by omega) hnl h r
 rw [hR] at e1
 obtain ⟨h2, up, e2, m2⟩:=up_run k (by omega) ht hs h1 (r.ext x1)
 obtain ⟨h3, high, e3, m3⟩:=deep_run k (by omega) ht hs h2 (r.ext (x1.trans m2.ext))
 have x13:=(x1.trans m2.ext).trans m3.ext
 obtain ⟨h', x', e'⟩:=zpq (r.ext x13) (m2.own.rd.ext m3.ext) m3.own.rd (by rw [ye, zd]) (by rw [ya, zd]) (by rw [jp, zd]) (by rw [zd]; omega) (zpf ht hs) k (by omega) (k + 1) 0 h3 (Nat.zero_le _) (by rw [zd]; omega) (Ext.refl h3)
 simp only [List.drop_zero, List.take_zero] at e'
 refine ⟨h', fun α ret=>?_, x13.trans x'⟩
 rw [qc.f, qc.u24.f, qc.u1.f, e1, Bool.not_true, cond_false, e2, e3, qc.u23.f, qc.u21.f, qc.u2.f, qc.u20.f, qc.u19.f, qc.u22.f]
 exact e' α ret
theorem zqx (k:Nat) (hk:500≤k) {l:List Nd} (hR:zcs l = false) (hnl:NL l) (h:H) (r:NdR h f l) :
  ∃ h', (∀ (α:Type) (ret:Int->Int->M α), qc.f (k + 1) f ret h = ret 0 1 h') ∧ Ext h h':=by
 obtain ⟨k, rfl⟩:∃ q, k = q + 1:=⟨k - 1, by omega⟩
 obtain ⟨h1, e1, x1⟩:=zle k (by omega) hnl h r
 rw [hR] at e1
 refine ⟨h1, fun α ret=>?_, x1⟩
 rw [qc.f, qc.u24.f, qc.u1.f, e1, Bool.not_false, cond_true]
end
end Go.Ab.S7
