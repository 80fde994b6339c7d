import Derived.Test.YtkfoohgkbafafaaS3o
namespace Go.Ab.S3
set_option linter.unusedVariables false
set_option linter.unusedSimpArgs false
variable {α : Type} {h : H}
/-! #### the document's Check and Binders -/
def fixNames (l : List Nd) : List (List UInt8) := (l.filter fun n => fixK n.kind).map Nd.name
theorem fixNames_snoc (l : List Nd) (n : Nd) : fixNames (l ++ [n]) = if fixK n.kind = true then fixNames l ++ [n.name] else fixNames l := by
  unfold fixNames
  rw [List.filter_append, List.map_append]
  cases h : fixK n.kind <;> simp [h]
theorem fixNames_cons (l : List Nd) (n : Nd) : fixNames (n :: l) = if fixK n.kind = true then n.name :: fixNames l else fixNames l := by
  unfold fixNames
  rw [List.filter_cons]
  cases h : fixK n.kind <;> simp
theorem fixNames_take {l : List Nd} {i : Nat} {n : Nd} (hi : l[i]? = some n) : fixNames (l.take (i + 1)) = if fixK n.kind = true then fixNames (l.take i) ++ [n.name] else fixNames (l.take i) := by
  rw [List.take_add_one, hi]
  exact fixNames_snoc _ _
section
variable {h₁ : H} {f up high : Sl} {l : List Nd} {U D : List Int}
theorem dup_loop (r : NdR h₁ f l) {i : Nat} {n : Nd} (hi : l[i]? = some n) (hl : l.length ≤ 1000) (k : Nat) : ∀ (j c : Nat) (h : H), c ≤ i → i - c < j → Ext h₁ h →
    ∃ h', Ext h₁ h' ∧ ∀ (α : Type) (kr : Int → Int → M α) (kx : Sl → Sl → Sl → Int → M α), r5Check.u8.l (k + 1) kr kx j f up high (i : Int) (c : Int) h = if n.name ∈ fixNames ((l.take i).drop c) then kr (i : Int) 9 h' else kx f up high (i : Int) h' := by
  have hil := get_lt hi
  intro j
  induction j with
  | zero => intro c h hc hj; omega
  | succ j ih =>
    intro c h hc hj x
    by_cases hlt : c < i
    rotate_left
    · refine ⟨h, x, fun α kr kx => ?_⟩
      rw [r5Check.u8.l, r5Check.u7.f, dF (by omega : ¬ (c : Int) < (i : Int)), cond_false, List.drop_of_length_le (by simp; omega), if_neg (by simp [fixNames])]
    have hc' : l[c]? = some l[c] := List.getElem?_eq_getElem (by omega)
    have hd : (l.take i).drop c = l[c] :: (l.take i).drop (c + 1) := by
      rw [List.drop_eq_getElem_cons (by simp; omega)]
      simp
    rw [hd]
    generalize l[c] = m at hc' ⊢
    have x1 : Ext h (h.push (ndC m)) := (Ext.refl h).push _
    have start : ∀ (α : Type) (kr : Int → Int → M α) (kx : Sl → Sl → Sl → Int → M α), r5Check.u8.l (k + 1) kr kx (j + 1) f up high (i : Int) (c : Int) h = _ := fun α kr kx => by
      rw [r5Check.u8.l, r5Check.u7.f, dT (by omega : (c : Int) < (i : Int)), cond_true, nd_rd (r.ext x) rfl hc', rfix_run]
    generalize h.push (ndC m) = h1 at start x1
    have rr := r.ext (x.trans x1)
    obtain ⟨h', x', e'⟩ := ih (c + 1) h1 (by omega) (by omega) (x.trans x1)
    have hmem : n.name ∈ fixNames (m :: (l.take i).drop (c + 1)) ↔ (fixK m.kind = true ∧ m.name = n.name) ∨ n.name ∈ fixNames ((l.take i).drop (c + 1)) := by
      rw [fixNames_cons]
      cases hf : fixK m.kind with
      | false => simp
      | true =>
        simp only [if_true, List.mem_cons, true_and]
        exact ⟨fun h => h.imp Eq.symm id, fun h => h.imp Eq.symm id⟩
    by_cases hdup : fixK m.kind = true ∧ m.name = n.name
    · refine ⟨h1, x.trans x1, fun α kr kx => ?_⟩
      rw [start, if_pos (hmem.2 (.inl hdup)), hdup.1, cond_true, nd_name rr rfl hc', nd_name rr rfl hi, dT hdup.2, cond_true]
    · refine ⟨h', x', fun α kr kx => ?_⟩
      have hiff : (n.name ∈ fixNames (m :: (l.take i).drop (c + 1))) = (n.name ∈ fixNames ((l.take i).drop (c + 1))) := propext ⟨fun h => (hmem.1 h).resolve_left hdup, fun h => hmem.2 (.inr h)⟩
      rw [start]
      simp only [hiff]
      refine Eq.trans ?_ (e' α kr kx)
      cases hf : fixK m.kind with
      | false => rw [cond_false, w64_eq (by omega) (by omega)]; rfl
      | true => rw [cond_true, nd_name rr rfl hc', nd_name rr rfl hi, dF (fun e => hdup ⟨hf, e⟩), cond_false, w64_eq (by omega) (by omega)]; rfl
theorem rcheck_loop {T : List Int} {O : List Bool} (r : NdR h₁ f l) (ru : Rd h₁ up 1 (cIs U)) (rh : Rd h₁ high 1 (cIs D)) (hT : T.length = l.length) (hO : O.length = l.length) (hD : D.length = l.length) (hl : l.length ≤ 100)
    (hch : ∀ (i : Nat) (n : Nd), l[i]? = some n → ∃ (B : Anc) (m : Int), U[i]? = some m ∧ Chain l U m B ∧ T[i]? = some (toLeaf n.kind n.name B) ∧ O[i]? = some (oddLeaf n.kind n.name B) ∧ B.length ≤ 200) (k : Nat) (hk : 400 ≤ k) : ∀ (j i : Nat) (h : H), i ≤ l.length → l.length - i < j → Ext h₁ h →
      ∃ h', Ext h₁ h' ∧ ∀ (α : Type) (kr : Int → Int → M α), r5Check.u19.l (k + 1) kr (kr 0 0) j f up high (i : Int) h = kr (chk (l.drop i) (T.drop i) (O.drop i) (D.drop i) i (fixNames (l.take i))).1 (chk (l.drop i) (T.drop i) (O.drop i) (D.drop i) i (fixNames (l.take i))).2 h' := by
  intro j
  induction j with
  | zero => intro i h hi hj; omega
  | succ j ih =>
    intro i h hi hj x
    have hfl := nd_slen r
    by_cases hlt : i < l.length
    rotate_left
    · refine ⟨h, x, fun α kr => ?_⟩
      rw [r5Check.u19.l, r5Check.u18.f, r5Check.u3.f, hfl, dF (by omega : ¬ (i : Int) < (l.length : Int)), cond_false, List.drop_of_length_le (by omega)]
      rfl
    have hn : l[i]? = some l[i] := List.getElem?_eq_getElem hlt
    have hDi : D[i]? = some D[i] := List.getElem?_eq_getElem (by omega)
    have hstep := fixNames_take hn
    obtain ⟨B, m, c1, c2, c3, c4, c5⟩ := hch i l[i] hn
    have hTi : T[i] = toLeaf l[i].kind l[i].name B := by
      rw [List.getElem?_eq_getElem (by omega)] at c3; exact Option.some.inj c3
    have hOi : O[i] = oddLeaf l[i].kind l[i].name B := by
      rw [List.getElem?_eq_getElem (by omega)] at c4; exact Option.some.inj c4
    rw [List.drop_eq_getElem_cons hlt, List.drop_eq_getElem_cons (by omega : i < T.length), List.drop_eq_getElem_cons (by omega : i < O.length), List.drop_eq_getElem_cons (by omega : i < D.length), chk, hTi, hOi, ← hstep]
    generalize l[i] = n at hn ⊢
    generalize D[i] = di at hDi ⊢
    have start : ∀ (α : Type) (kr : Int → Int → M α), r5Check.u19.l (k + 1) kr (kr 0 0) (j + 1) f up high (i : Int) h = _ := fun α kr => by
      rw [r5Check.u19.l, r5Check.u18.f, r5Check.u3.f, hfl, dT (by omega : (i : Int) < (l.length : Int)), cond_true, r5Check.u17.f, r5Check.u15.f, r5Check.u14.f, r5Check.u4.f, nd_kind (r.ext x) rfl hn]
    -- the next round
    have next : ∀ (h1 : H), Ext h₁ h1 → ∃ h', Ext h₁ h' ∧ ∀ (α : Type) (kr : Int → Int → M α), r5Check.u16.f (k + 1) f up high (i : Int) (fun y0 y1 y2 y3 => r5Check.u19.l (k + 1) kr (kr 0 0) j y0 y1 y2 y3) h1 = kr (chk (l.drop (i + 1)) (T.drop (i + 1)) (O.drop (i + 1)) (D.drop (i + 1)) (i + 1) (fixNames (l.take (i + 1)))).1 (chk (l.drop (i + 1)) (T.drop (i + 1)) (O.drop (i + 1)) (D.drop (i + 1)) (i + 1) (fixNames (l.take (i + 1)))).2 h' := by
      intro h1 x1
      obtain ⟨h', x', e'⟩ := ih (i + 1) h1 (by omega) (by omega) x1
      refine ⟨h', x', fun α kr => ?_⟩
      rw [r5Check.u16.f, w64_eq (by omega) (by omega)]
      exact e' α kr
    by_cases h4 : n.kind = 4
    · -- a variable
      have hnf : fixK n.kind = false := by rw [h4]; rfl
      obtain ⟨h1, x1, e1⟩ := binder_run r ru hn c1 c2 c5 k (by omega) h x
      have hR := findR_S n.name B 0
      cases hf : findS n.name B with
      | none =>
        rw [hf] at hR
        rw [hR] at e1
        have t0 : toLeaf n.kind n.name B = -1 := by simp [toLeaf, h4, hf]
        rw [if_pos ⟨h4, by rw [t0]; decide⟩]
        refine ⟨h1, x1, fun α kr => ?_⟩
        rw [start, dT h4, cond_true, e1]
        rfl
      | some p =>
        obtain ⟨q, d⟩ := p
        have hd := findS_le hf
        have hcl := cntN_le B
        rw [hf] at hR
        rw [hR] at e1
        simp only [Option.map_some] at e1
        have t0 : toLeaf n.kind n.name B = (q : Int) := by simp [toLeaf, h4, hf]
        have o0 : oddLeaf n.kind n.name B = decide ((cntN B - d) % 2 ≠ 0) := by simp [oddLeaf, h4, hf]
        rw [if_neg (by rw [t0]; omega)]
        have em : ((0 + (cntN B - d) : Nat) : Int) = ((cntN B - d : Nat) : Int) := by omega
        have et : Int.tmod ((0 + (cntN B - d) : Nat) : Int) 2 = (((cntN B - d) % 2 : Nat) : Int) := by
          rw [em, Int.tmod_eq_emod_of_nonneg (by omega)]; omega
        have start2 : ∀ (α : Type) (kr : Int → Int → M α), r5Check.u19.l (k + 1) kr (kr 0 0) (j + 1) f up high (i : Int) h = _ := fun α kr => by
          rw [start, dT h4, cond_true, e1, dF (by omega : ¬ (q : Int) < 0), cond_false, et]
        by_cases ho : (cntN B - d) % 2 ≠ 0
        · rw [if_pos ⟨h4, by rw [o0]; exact dT ho⟩]
          refine ⟨h1, x1, fun α kr => ?_⟩
          rw [start2, dT (by omega : (((cntN B - d) % 2 : Nat) : Int) = 1), cond_true]
        · rw [if_neg (fun h => ho (by have := h.2; rw [o0] at this; exact of_decide_eq_true this)), if_neg (by rw [hnf]; exact fun h => by cases h.1), if_neg (by rw [hnf]; exact fun h => by cases h.1)]
          have x2 : Ext h1 (h1.push (ndC n)) := (Ext.refl h1).push _
          obtain ⟨h', x', e'⟩ := next _ (x1.trans x2)
          refine ⟨h', x', fun α kr => ?_⟩
          rw [start2, dF (by omega : ¬ (((cntN B - d) % 2 : Nat) : Int) = 1), cond_false, r5Check.u13.f, r5Check.u5.f, nd_rd (r.ext x1) rfl hn, rfix_run, hnf, Bool.not_false, cond_true]
          exact e' α kr
    · rw [if_neg (fun h => h4 h.1), if_neg (fun h => h4 h.1)]
      have x2 : Ext h (h.push (ndC n)) := (Ext.refl h).push _
      have start2 : ∀ (α : Type) (kr : Int → Int → M α), r5Check.u19.l (k + 1) kr (kr 0 0) (j + 1) f up high (i : Int) h = _ := fun α kr => by
        rw [start, dF h4, cond_false, r5Check.u13.f, r5Check.u5.f, nd_rd (r.ext x) rfl hn, rfix_run]
      generalize h.push (ndC n) = h1 at start2 x2
      have x01 := x.trans x2
      cases hf : fixK n.kind with
      | false =>
        rw [hf] at start2
        rw [if_neg (fun h => by cases h.1), if_neg (fun h => by cases h.1)]
        obtain ⟨h', x', e'⟩ := next h1 x01
        refine ⟨h', x', fun α kr => ?_⟩
        rw [start2, Bool.not_false, cond_true]
        exact e' α kr
      | true =>
        rw [hf] at start2
        obtain ⟨h2, x2', e2⟩ := dup_loop (up := up) (high := high) r hn (by omega) k (k + 1) 0 h1 (Nat.zero_le _) (by omega) x01
        rw [List.drop_zero] at e2
        have start3 : ∀ (α : Type) (kr : Int → Int → M α), r5Check.u19.l (k + 1) kr (kr 0 0) (j + 1) f up high (i : Int) h = _ := fun α kr => by
          refine Eq.trans ?_ (e2 α kr fun y0 y1 y2 y3 => r5Check.u11.f (k + 1) y0 y1 y2 y3 (fun y0 y1 y2 y3 => r5Check.u16.f (k + 1) y0 y1 y2 y3 fun y0 y1 y2 y3 => r5Check.u19.l (k + 1) kr (kr 0 0) j y0 y1 y2 y3) kr)
          rw [start2, Bool.not_true, cond_false, r5Check.u12.f, r5Check.u10.f, r5Check.u6.f, r5Check.u9.f, r5Check.u8.f]
          rfl
        by_cases hs : n.name ∈ fixNames (l.take i)
        · rw [if_pos ⟨rfl, hs⟩]
          refine ⟨h2, x2', fun α kr => ?_⟩
          rw [start3, if_pos hs]
        · rw [if_neg (fun h => hs h.2)]
          by_cases hd : 4 < di
          · rw [if_pos ⟨rfl, hd⟩]
            refine ⟨h2, x2', fun α kr => ?_⟩
            rw [start3, if_neg hs, r5Check.u11.f, int_rd (rh.ext x2') rfl hDi, dT hd, cond_true]
          · rw [if_neg (fun h => hd h.2)]
            obtain ⟨h', x', e'⟩ := next h2 x2'
            refine ⟨h', x', fun α kr => ?_⟩
            rw [start3, if_neg hs, r5Check.u11.f, int_rd (rh.ext x2') rfl hDi, dF hd, cond_false]
            exact e' α kr
/-- the chains of a formula -/
theorem tree_chains {t : Tr} (ht : t.ok = true) (hs : t.size ≤ 60) : ∀ (i : Nat) (n : Nd), (t.flat 0)[i]? = some n → ∃ (B : Anc) (m : Int), (upA t 0 (-1))[i]? = some m ∧ Chain (t.flat 0) (upA t 0 (-1)) m B ∧ (toA t 0 [])[i]? = some (toLeaf n.kind n.name B) ∧ (oddA t 0 [])[i]? = some (oddLeaf n.kind n.name B) ∧ B.length ≤ 200 := by
  intro i n hi
  obtain ⟨B, m, b1, b2, b3, b4, b5⟩ := chain_tree (l := t.flat 0) (U := upA t 0 (-1)) t 0 [] (-1) ht (fun i n h => by rw [Nat.zero_add]; exact h) (fun i v h => by rw [Nat.zero_add]; exact h) rfl i n hi
  rw [Nat.zero_add] at b1
  exact ⟨B, m, b1, b2, b3, b4, by simp at b5; omega⟩
theorem rcheck_run (k : Nat) (hk : 500 ≤ k) {t : Tr} (ht : t.ok = true) (hs : t.size ≤ 60) (hnl : NL (t.flat 0)) (h : H) (r : NdR h f (t.flat 0)) :
    ∃ h', (∀ (α : Type) (ret : Int → Int → M α), r5Check.f (k + 1) f ret h = ret (chkT t).1 (chkT t).2 h') ∧ Ext h h' := by
  obtain ⟨k, rfl⟩ : ∃ q, k = q + 1 := ⟨k - 1, by omega⟩
  have hR : rightF (t.flat 0) = true := (right_iff _).2 ⟨t, ht, rfl, hs⟩
  obtain ⟨h1, e1, x1⟩ := rright_run k (by omega) hnl h r
  rw [hR] at e1
  obtain ⟨h2, up, e2, m2⟩ := up_run k (by omega) ht hs h1 (r.ext x1)
  obtain ⟨h3, high, e3, m3⟩ := deep_run k (by omega) ht hs h2 (r.ext (x1.trans m2.ext))
  have x13 := (x1.trans m2.ext).trans m3.ext
  obtain ⟨h', x', e'⟩ := rcheck_loop (r.ext x13) (m2.own.rd.ext m3.ext) m3.own.rd (by rw [toA_length, flat_length]) (by rw [oddA_length, flat_length]) (by rw [depI_length, flat_length]) (by rw [flat_length]; omega) (tree_chains ht hs) k (by omega) (k + 1) 0 h3 (Nat.zero_le _) (by rw [flat_length]; omega) (Ext.refl h3)
  simp only [List.drop_zero, List.take_zero] at e'
  refine ⟨h', fun α ret => ?_, x13.trans x'⟩
  rw [r5Check.f, r5Check.u24.f, r5Check.u1.f, e1, Bool.not_true, cond_false, e2, e3, r5Check.u23.f, r5Check.u21.f, r5Check.u2.f, r5Check.u20.f, r5Check.u19.f, r5Check.u22.f]
  exact e' α ret
theorem rcheck_bad (k : Nat) (hk : 500 ≤ k) {l : List Nd} (hR : rightF l = false) (hnl : NL l) (h : H) (r : NdR h f l) :
    ∃ h', (∀ (α : Type) (ret : Int → Int → M α), r5Check.f (k + 1) f ret h = ret 0 1 h') ∧ Ext h h' := by
  obtain ⟨k, rfl⟩ : ∃ q, k = q + 1 := ⟨k - 1, by omega⟩
  obtain ⟨h1, e1, x1⟩ := rright_run k (by omega) hnl h r
  rw [hR] at e1
  refine ⟨h1, fun α ret => ?_, x1⟩
  rw [r5Check.f, r5Check.u24.f, r5Check.u1.f, e1, Bool.not_false, cond_true]
theorem room1 (x : Nat) (h : x ≤ 100) : (x + 1 + (x + 1) / 4 + 512) * 8 ≤ 281474976710656 := by omega
end
end Go.Ab.S3
