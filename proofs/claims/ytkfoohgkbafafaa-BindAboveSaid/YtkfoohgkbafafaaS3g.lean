import Derived.Test.YtkfoohgkbafafaaS3f
namespace Go.Ab.S3
set_option linter.unusedVariables false
set_option linter.unusedSimpArgs false
variable {α : Type} {h : H}
abbrev cIs (l : List Int) : List V := l.flatMap cI
theorem Rd.pushed (h : H) {cs : List V} {o : Bool} {n c size : Nat} {lo : Option Nat} (hl : cs.length = n * size) : Rd (h.push (.cells cs o)) ⟨some ⟨h.next, 0⟩, n, c, lo⟩ size cs := by
  refine ⟨hl, fun a ha => ?_, fun ha => by cases ha⟩
  cases ha
  refine ⟨?_, by rw [push_next]; exact Nat.lt_succ_self _⟩
  rw [row_of (cs := cs) (o := o) (by show (h.push _).get h.next = _; rw [push_get, if_pos rfl]) (by show 0 + _ ≤ _; omega), List.drop_zero, List.take_length]
theorem ints_len {s : Sl} {l : List Int} (r : Rd h s 1 (cIs l)) : s.len = l.length := slen (size := 1) (fun _ => rfl) (by decide) r
/-! ### lists of numbers -/
theorem any_loop (k : Nat) {s : Sl} {l : List Int} (r : Rd h s 1 (cIs l)) (hl : l.length ≤ 4611686018427387900) : ∀ (j n : Nat), n ≤ l.length → l.length - n < j → ∀ (α : Type) (kr : Int → M α) (kx : M α),
    slII.u4.l (k + 1) kr kx j s (l.length : Int) (n : Int) h = (match (l.drop n).findIdx? (· ≠ 0) with | some i => kr ((n + i : Nat) : Int) h | none => kx h) := by
  intro j
  induction j with
  | zero => intro n hn hj; omega
  | succ j ih =>
    intro n hn hj α kr kx
    rw [slII.u4.l, slII.u3.f]
    by_cases hlt : n < l.length
    · rw [dT (by omega : (n : Int) < (l.length : Int)), cond_true, int_rd r rfl (List.getElem?_eq_getElem hlt), List.drop_eq_getElem_cons hlt, List.findIdx?_cons]
      simp only [syntax_Right_c1.f, syntax_Right_c1.u1.f]
      by_cases h0 : l[n] = 0
      · rw [dT h0]
        rw [Bool.not_true, cond_false, w64_eq (by omega) (by omega), show ((n : Int) + 1) = ((n + 1 : Nat) : Int) by omega, ih (n + 1) (by omega) (by omega), if_neg (by simp [h0])]
        cases hf : (l.drop (n + 1)).findIdx? (· ≠ 0) with
        | none => rfl
        | some i =>
          show kr _ h = kr _ h
          rw [show n + 1 + i = n + (i + 1) by omega]
      · rw [dF h0, if_pos (by simp [h0])]
        rfl
    · rw [dF (by omega : ¬ (n : Int) < (l.length : Int)), cond_false, List.drop_of_length_le (by omega)]
      rfl
theorem any_run (k : Nat) {s : Sl} {l : List Int} (r : Rd h s 1 (cIs l)) (hk : l.length + 2 ≤ k) (hl : l.length ≤ 4611686018427387900) (ret : Bool → M α) : slices_ContainsFunc_int_int_38.f (k + 1) s ret h = ret (l.any (fun x => decide (x ≠ 0))) h := by
  obtain ⟨k, rfl⟩ : ∃ q, k = q + 2 := ⟨k - 2, by omega⟩
  simp only [slices_ContainsFunc_int_int_38.f]
  unfold slices_ContainsFunc_int_int_38.u1.f
  simp only [slII.f]
  unfold slII.u9.f slII.u1.f slII.u8.f slII.u6.f slII.u2.f slII.u5.f slII.u4.f slII.u7.f
  dsimp only
  rw [ints_len r]
  refine (any_loop k r hl (k + 1) 0 (Nat.zero_le _) (by omega) α _ _).trans ?_
  rw [List.drop_zero]
  cases hf : l.findIdx? (· ≠ 0) with
  | none =>
    have : l.any (fun x => decide (x ≠ 0)) = false := by
      rw [List.findIdx?_eq_none_iff] at hf
      rw [Bool.eq_false_iff]
      intro ha
      obtain ⟨x, hx, hx0⟩ := List.any_eq_true.1 ha
      have := hf x hx
      rw [hx0] at this; cases this
    rw [this]; rfl
  | some i =>
    have : l.any (fun x => decide (x ≠ 0)) = true := by
      rw [List.findIdx?_eq_some_iff_getElem] at hf
      obtain ⟨hi, hp, _⟩ := hf
      exact List.any_eq_true.2 ⟨l[i], List.getElem_mem hi, hp⟩
    rw [this]
    dsimp only
    rw [dT (by omega : (0 : Int) ≤ _)]
theorem equal_loop (k : Nat) {s t : Sl} {l m : List Int} (r : Rd h s 1 (cIs l)) (q : Rd h t 1 (cIs m)) (he : l.length = m.length) (hl : l.length ≤ 4611686018427387900) : ∀ (j n : Nat), n ≤ l.length → l.length - n < j → ∀ (α : Type) (kr : Bool → M α) (kx : M α),
    slEq.u4.l k kr kx j s t (l.length : Int) (n : Int) h = if l.drop n = m.drop n then kx h else kr false h := by
  intro j
  induction j with
  | zero => intro n hn hj; omega
  | succ j ih =>
    intro n hn hj α kr kx
    rw [slEq.u4.l, slEq.u3.f]
    by_cases hlt : n < l.length
    · rw [dT (by omega : (n : Int) < (l.length : Int)), cond_true, int_rd r rfl (List.getElem?_eq_getElem hlt), int_rd q rfl (List.getElem?_eq_getElem (by omega)), List.drop_eq_getElem_cons hlt, List.drop_eq_getElem_cons (by omega : n < m.length)]
      by_cases h0 : l[n] = m[n]
      · rw [dT h0, Bool.not_true, cond_false, w64_eq (by omega) (by omega), show ((n : Int) + 1) = ((n + 1 : Nat) : Int) by omega, ih (n + 1) (by omega) (by omega)]
        simp only [h0, List.cons.injEq, true_and]
      · rw [dF h0]
        simp only [h0, List.cons.injEq, false_and, if_false]
        rfl
    · rw [dF (by omega : ¬ (n : Int) < (l.length : Int)), cond_false, List.drop_of_length_le (by omega), List.drop_of_length_le (by omega)]
      simp
theorem equal_run (k : Nat) {s t : Sl} {l m : List Int} (r : Rd h s 1 (cIs l)) (q : Rd h t 1 (cIs m)) (hk : l.length < k) (hl : l.length ≤ 4611686018427387900) (ret : Bool → M α) : slEq.f (k + 1) s t ret h = ret (decide (l = m)) h := by
  simp only [slEq.f]
  unfold slEq.u9.f slEq.u1.f slEq.u8.f slEq.u6.f slEq.u2.f slEq.u5.f slEq.u4.f slEq.u7.f
  dsimp only
  rw [ints_len r, ints_len q]
  by_cases he : l.length = m.length
  · rw [dT (by omega : (l.length : Int) = (m.length : Int)), Bool.not_true, cond_false]
    refine (equal_loop k r q he hl k 0 (Nat.zero_le _) (by omega) α _ _).trans ?_
    simp only [List.drop_zero]
    by_cases hm : l = m <;> simp [hm]
  · rw [dF (by omega : ¬ (l.length : Int) = (m.length : Int)), Bool.not_false, cond_true, dF (fun e => he (by rw [e]))]

/-! ### Right -/
def wantP (n : Nd) : List Int := [n.a, n.b]
def stepP (st : List Int) (i : Int) (n : Nd) : Option (List Int) :=
  if 0 ≤ arF n.kind ∧ namedF n.kind n.name = true then
    if st.length < (arF n.kind).toNat then none
    else if ((wantP n).drop (arF n.kind).toNat).any (fun x => decide (x ≠ 0)) then none
    else if st.drop (st.length - (arF n.kind).toNat) = (wantP n).take (arF n.kind).toNat then some (st.take (st.length - (arF n.kind).toNat) ++ [i]) else none
  else none
def rightL : List Nd → Nat → List Int → Option (List Int)
  | [], _, st => some st
  | n :: l, i, st => match stepP st i n with | none => none | some st' => rightL l (i + 1) st'
def rightF (l : List Nd) : Bool := decide (1 ≤ l.length ∧ l.length ≤ 60) && (match rightL l 0 [] with | some st => decide (st.length = 1) | none => false)
theorem ar_cases (x : Int) : arF x = -1 ∨ arF x = 0 ∨ arF x = 1 ∨ arF x = 2 := by
  unfold arF
  repeat' split
  all_goals simp
theorem stepP_len {st : List Int} {i : Int} {n : Nd} {st' : List Int} (h : stepP st i n = some st') : st'.length ≤ st.length + 1 := by
  unfold stepP at h
  split at h
  · split at h
    · cases h
    · split at h
      · cases h
      · split at h
        · cases h; simp <;> omega
        · cases h
  · cases h
theorem right_loop (k : Nat) (hk : 13 ≤ k) {f : Sl} {l : List Nd} (h₀ : H) (r₀ : NdR h₀ f l) (hl : l.length ≤ 60) (hk : 70 ≤ k) : ∀ (j n : Nat) (st : List Int) (sl : Sl) (h : H), n ≤ l.length → l.length - n < j → Ext h₀ h → App h sl 1 (cIs st) → Owned h₀ sl → (sl.loose = none → sl.len = 0) → st.length ≤ n →
    ∃ h', Ext h₀ h' ∧ (match rightL (l.drop n) n st with
      | none => ∀ (α : Type) (kr : Bool → M α) (kx : Sl → M α), syntax_Right.u4.l k kr kx j sl f (l.length : Int) (n : Int) h = kr false h'
      | some st' => ∃ sl' : Sl, sl'.len = st'.length ∧ ∀ (α : Type) (kr : Bool → M α) (kx : Sl → M α), syntax_Right.u4.l k kr kx j sl f (l.length : Int) (n : Int) h = kx sl' h') := by
  obtain ⟨k, rfl⟩ : ∃ q, k = q + 1 := ⟨k - 1, by omega⟩
  intro j
  induction j with
  | zero => intro n st sl h hn hj; omega
  | succ j ih =>
    intro n st sl h hn hj x ap ow hlo hst
    have hsl : sl.len = st.length := ints_len ap.rd
    by_cases hlt : n < l.length
    rotate_left
    · rw [List.drop_of_length_le (by omega)]
      refine ⟨h, x, sl, hsl, fun α kr kx => ?_⟩
      rw [syntax_Right.u4.l, syntax_Right.u3.f, dF (by omega : ¬ (n : Int) < (l.length : Int)), cond_false]
    have hi : l[n]? = some l[n] := List.getElem?_eq_getElem hlt
    rw [List.drop_eq_getElem_cons hlt, rightL]
    generalize l[n] = nd at hi
    -- up to the call of below
    have r := r₀.ext x
    have start : ∀ (α : Type) (kr : Bool → M α) (kx : Sl → M α), syntax_Right.u4.l (k + 1) kr kx (j + 1) sl f (l.length : Int) (n : Int) h = _ := fun α kr kx => by
      rw [syntax_Right.u4.l, syntax_Right.u3.f, dT (by omega : (n : Int) < (l.length : Int)), cond_true, nd_rd r rfl hi, nd_copy, n5_all, below_run k (by omega)]
    generalize hh1 : h.push (.cells [.int .i64 nd.kind, .int .i64 nd.a, .int .i64 nd.b, .str nd.name, .int .i64 nd.pos] true) = h1 at start
    have x1 : Ext h₀ (h1.push (.cells [.int .i64 nd.kind, .int .i64 nd.a, .int .i64 nd.b, .str nd.name, .int .i64 nd.pos] true)) := by
      rw [← hh1]; exact (x.push _).push _
    have ca : ∀ (α : Type) (K : Int → M α), ldI .i64 (((⟨h.next, 0⟩ : Ad).add 1).add 0) K (h1.push (.cells [.int .i64 nd.kind, .int .i64 nd.a, .int .i64 nd.b, .str nd.name, .int .i64 nd.pos] true)) = K nd.a (h1.push (.cells [.int .i64 nd.kind, .int .i64 nd.a, .int .i64 nd.b, .str nd.name, .int .i64 nd.pos] true)) := fun α K => by
      rw [← hh1]; exact ldI_run (by simp only [add_mk]; rw [cell_new2]; rfl)
    have cb : ∀ (α : Type) (K : Int → M α), ldI .i64 (((⟨h.next, 0⟩ : Ad).add 2).add 0) K (h1.push (.cells [.int .i64 nd.kind, .int .i64 nd.a, .int .i64 nd.b, .str nd.name, .int .i64 nd.pos] true)) = K nd.b (h1.push (.cells [.int .i64 nd.kind, .int .i64 nd.a, .int .i64 nd.b, .str nd.name, .int .i64 nd.pos] true)) := fun α K => by
      rw [← hh1]; exact ldI_run (by simp only [add_mk]; rw [cell_new2]; rfl)
    have x12 : Ext h (h1.push (.cells [.int .i64 nd.kind, .int .i64 nd.a, .int .i64 nd.b, .str nd.name, .int .i64 nd.pos] true)) := by
      rw [← hh1]; exact ((Ext.refl h).push _).push _
    generalize h1.push (.cells [.int .i64 nd.kind, .int .i64 nd.a, .int .i64 nd.b, .str nd.name, .int .i64 nd.pos] true) = h2 at start x1 ca cb x12
    clear hh1 h1
    unfold stepP
    by_cases hok : 0 ≤ arF nd.kind ∧ namedF nd.kind nd.name = true
    rotate_left
    · rw [if_neg hok]
      refine ⟨h2, x1, fun α kr kx => ?_⟩
      rw [start]
      have : (decide (0 ≤ arF nd.kind) && namedF nd.kind nd.name) = false := by
        rw [Bool.and_eq_false_iff]
        by_cases h0 : 0 ≤ arF nd.kind
        · right; rw [Bool.eq_false_iff]; exact fun e => hok ⟨h0, e⟩
        · left; exact dF h0
      rw [this, Bool.not_false, cond_true]
    rw [if_pos hok]
    have hbel : belF nd.kind = ((arF nd.kind).toNat : Int) := by unfold belF; rw [if_neg (by omega)]; omega
    have har2 : (arF nd.kind).toNat ≤ 2 := by rcases ar_cases nd.kind with h | h | h | h <;> omega
    rw [dT hok.1, hok.2, hbel] at start
    simp only [Bool.and_self, Bool.not_true, cond_false] at start
    generalize (arF nd.kind).toNat = a at start har2
    by_cases hlen : st.length < a
    · rw [if_pos hlen]
      refine ⟨h2, x1, fun α kr kx => ?_⟩
      rw [start, dT (by omega : (sl.len : Int) < (a : Int)), cond_true]
    rw [if_neg hlen]
    -- what is wanted
    have rw1 : Rd (h2.push (.cells [.int .i64 nd.a, .int .i64 nd.b] true)) ⟨some ⟨h2.next, 0⟩, 2, 2, none⟩ 1 (cIs (wantP nd)) := Rd.pushed h2 rfl
    have x3 : Ext h2 (h2.push (.cells [.int .i64 nd.a, .int .i64 nd.b] true)) := (Ext.refl h2).push _
    have start2 : ∀ (α : Type) (kr : Bool → M α) (kx : Sl → M α), syntax_Right.u4.l (k + 1) kr kx (j + 1) sl f (l.length : Int) (n : Int) h = _ := fun α kr kx => by
      rw [start, dF (by omega : ¬ (sl.len : Int) < (a : Int)), cond_false, ca, cb, new_run rfl]
    generalize h2.push (.cells [.int .i64 nd.a, .int .i64 nd.b] true) = h3 at start2 rw1 x3
    have x03 := x1.trans x3
    have ap3 := ap.ext (x12.trans x3)
    have rf := rw1.from a (2 - a) 2 none har2 (Nat.le_refl _)
    rw [Nat.mul_one] at rf
    have e1 : (cIs (wantP nd)).drop a = cIs ((wantP nd).drop a) := by have := flat_drop (size := 1) (c := cI) (fun _ => rfl) (wantP nd) a; rwa [Nat.mul_one] at this
    have e2 : (cIs (wantP nd)).take a = cIs ((wantP nd).take a) := by have := flat_take (size := 1) (c := cI) (fun _ => rfl) (wantP nd) a; rwa [Nat.mul_one] at this
    rw [e1] at rf
    have start3 : ∀ (α : Type) (kr : Bool → M α) (kx : Sl → M α), syntax_Right.u4.l (k + 1) kr kx (j + 1) sl f (l.length : Int) (n : Int) h = _ := fun α kr kx => by
      rw [start2, cut_from (s := ⟨some ⟨h2.next, 0⟩, 2, 2, none⟩) ⟨Nat.le_refl _, .inl rfl⟩ rfl har2]
    have start4 : ∀ (α : Type) (kr : Bool → M α) (kx : Sl → M α), syntax_Right.u4.l (k + 1) kr kx (j + 1) sl f (l.length : Int) (n : Int) h = _ := fun α kr kx => by
      rw [start3, any_run k rf (by simp [wantP]; omega) (by simp [wantP]; omega)]
    clear start start2 start3
    by_cases hany : ((wantP nd).drop a).any (fun x => decide (x ≠ 0)) = true
    · rw [if_pos hany]
      refine ⟨h3, x03, fun α kr kx => ?_⟩
      rw [start4, hany, cond_true]
    rw [if_neg hany]
    rw [Bool.not_eq_true] at hany
    rw [hany] at start4
    have rs := ap3.rd.from (sl.len - a) (sl.cap - (sl.len - a)) sl.cap sl.loose (Nat.sub_le _ _) ap3.fine.1
    rw [Nat.mul_one] at rs
    have e3 : (cIs st).drop (sl.len - a) = cIs (st.drop (st.length - a)) := by rw [hsl]; have := flat_drop (size := 1) (c := cI) (fun _ => rfl) st (st.length - a); rwa [Nat.mul_one] at this
    rw [e3] at rs
    have rt := rw1.to a 2 none har2
    rw [Nat.mul_one, e2] at rt
    have ew : w64 ((sl.len : Int) - (a : Int)) = ((sl.len - a : Nat) : Int) := by rw [w64_eq (by omega) (by omega)]; omega
    have start5 : ∀ (α : Type) (kr : Bool → M α) (kx : Sl → M α), syntax_Right.u4.l (k + 1) kr kx (j + 1) sl f (l.length : Int) (n : Int) h = _ := fun α kr kx => by
      rw [start4, cond_false, ew, cut_from ap3.fine rfl (Nat.sub_le _ _), cut_to (s := ⟨some ⟨h2.next, 0⟩, 2, 2, none⟩) ⟨Nat.le_refl _, .inl rfl⟩ rfl har2]
    have start6 : ∀ (α : Type) (kr : Bool → M α) (kx : Sl → M α), syntax_Right.u4.l (k + 1) kr kx (j + 1) sl f (l.length : Int) (n : Int) h = _ := fun α kr kx => by
      rw [start5, equal_run k rs rt (by simp; omega) (by simp; omega)]
    clear start4 start5
    by_cases heq : st.drop (st.length - a) = (wantP nd).take a
    rotate_left
    · rw [if_neg heq]
      refine ⟨h3, x03, fun α kr kx => ?_⟩
      rw [start6, dF heq, Bool.not_false, cond_true]
    rw [if_pos heq]
    rw [dT heq] at start6
    -- the stack, shorter
    have hfin : ∀ a : Ad, sl.ad = some a → sl.loose = some 1 → h3.own a.id = true := by
      intro b hb hlo1
      rcases ap3.mode with ⟨h1, _⟩ | ⟨_, _, c, h4, h5⟩
      · rw [h1] at hlo1; cases hlo1
      · rw [hb] at h4; cases h4; exact h5
    have apc : App h3 ⟨sl.ad, sl.len - a, sl.cap, sl.loose⟩ 1 (cIs (st.take (st.length - a))) := by
      have q := ap3.rd.to (sl.len - a) sl.cap sl.loose (Nat.sub_le _ _)
      rw [Nat.mul_one] at q
      have e4 : (cIs st).take (sl.len - a) = cIs (st.take (st.length - a)) := by rw [hsl]; have := flat_take (size := 1) (c := cI) (fun _ => rfl) st (st.length - a); rwa [Nat.mul_one] at this
      rw [e4] at q
      refine ⟨q, fun ha => ?_, ?_⟩
      · have hn := ap3.none' ha
        subst hn
        show (⟨none, 0 - a, 0, none⟩ : Sl) = ⟨none, 0, 0, none⟩
        rw [Nat.zero_sub]
      · rcases ap3.mode with ⟨h1, h2⟩ | ⟨h1, h2, b, h3, h4⟩
        · left
          have := hlo h1
          exact ⟨h1, by show sl.cap = sl.len - a; omega⟩
        · exact .inr ⟨h1, by show sl.len - a ≤ sl.cap; omega, b, h3, h4⟩
    obtain ⟨h4, e4, ap4, g4, n4, k4⟩ := app_made (bytes := 8) (more := cI (n : Int)) apc rfl rfl (n := 1) (by decide) (by decide) (by dsimp only; omega)
    have x4 : Ext h₀ h4 := by
      refine ⟨by rw [n4]; have := x03.1; omega, fun i hi => ?_⟩
      rw [k4 i (Nat.lt_of_lt_of_le hi x03.1) (fun _ b hb => by have := ow b hb; omega)]
      exact x03.2 i hi
    have ap4' : App h4 ⟨some ⟨h3.next + 1, 0⟩, sl.len - a + 1, sl.len - a + 1, some 1⟩ 1 (cIs (st.take (st.length - a) ++ [(n : Int)])) := by
      have : cIs (st.take (st.length - a) ++ [(n : Int)]) = cIs (st.take (st.length - a)) ++ cI (n : Int) := by simp [List.flatMap_append]
      rw [this]; exact ap4
    obtain ⟨h', x', rest⟩ := ih (n + 1) (st.take (st.length - a) ++ [(n : Int)]) _ h4 (by omega) (by omega) x4 ap4' (fun b hb => by cases hb; show h₀.next ≤ h3.next + 1; have := x03.1; omega) (fun e => by cases e) (by simp; omega)
    have start7 : ∀ (α : Type) (kr : Bool → M α) (kx : Sl → M α), syntax_Right.u4.l (k + 1) kr kx (j + 1) sl f (l.length : Int) (n : Int) h = syntax_Right.u4.l (k + 1) kr kx j ⟨some ⟨h3.next + 1, 0⟩, sl.len - a + 1, sl.len - a + 1, some 1⟩ f (l.length : Int) ((n + 1 : Nat) : Int) h4 := fun α kr kx => by
      rw [start6, Bool.not_true, cond_false, cut_to ap3.fine rfl (by have := ap3.fine.1; omega)]
      refine (e4 α _).trans ?_
      rw [w64_eq (by omega) (by omega)]
      rfl
    refine ⟨h', x', ?_⟩
    dsimp only
    cases hr : rightL (l.drop (n + 1)) (n + 1) (st.take (st.length - a) ++ [(n : Int)]) with
    | none =>
      rw [hr] at rest
      exact fun α kr kx => (start7 α kr kx).trans (rest α kr kx)
    | some st' =>
      rw [hr] at rest
      obtain ⟨sl', hl', e'⟩ := rest
      exact ⟨sl', hl', fun α kr kx => (start7 α kr kx).trans (e' α kr kx)⟩
theorem right_run (k : Nat) (hk : 70 ≤ k) {f : Sl} {l : List Nd} (h : H) (r : NdR h f l) : ∃ h', (∀ (α : Type) (ret : Bool → M α), syntax_Right.f (k + 1) f ret h = ret (rightF l) h') ∧ Ext h h' := by
  have hfl := nd_slen r
  unfold rightF
  by_cases hl : 1 ≤ l.length ∧ l.length ≤ 60
  rotate_left
  · refine ⟨h, fun α ret => ?_, Ext.refl h⟩
    simp only [syntax_Right.f]
    unfold syntax_Right.u9.f syntax_Right.u1.f
    rw [hfl, dF hl]
    by_cases h1 : (l.length : Int) < 1
    · rw [dT h1]; rfl
    · rw [dF h1, dT (by omega : (60 : Int) < (l.length : Int))]; rfl
  obtain ⟨h', x', rest⟩ := right_loop k (by omega) h r hl.2 hk k 0 [] Sl.nil h (Nat.zero_le _) (by omega) (Ext.refl h) (App.nilSl h 1) (Owned.nil h) (fun _ => rfl) (Nat.le_refl _)
  rw [List.drop_zero] at rest
  have start : ∀ (α : Type) (ret : Bool → M α), syntax_Right.f (k + 1) f ret h = syntax_Right.u4.l k ret (fun y0 => syntax_Right.u7.f k y0 ret) k Sl.nil f (l.length : Int) ((0 : Nat) : Int) h := fun α ret => by
    simp only [syntax_Right.f]
    unfold syntax_Right.u9.f syntax_Right.u1.f
    rw [hfl, dF (by omega : ¬ (l.length : Int) < 1), cond_false, dF (by omega : ¬ (60 : Int) < (l.length : Int)), cond_false]
    unfold syntax_Right.u8.f syntax_Right.u6.f syntax_Right.u2.f syntax_Right.u5.f syntax_Right.u4.f
    dsimp only
    rw [hfl]
    rfl
  refine ⟨h', fun α ret => (start α ret).trans ?_, x'⟩
  rw [dT hl, Bool.true_and]
  cases hr : rightL l 0 [] with
  | none => rw [hr] at rest; exact rest α ret _
  | some st' =>
    rw [hr] at rest
    obtain ⟨sl', hl', e'⟩ := rest
    refine (e' α ret _).trans ?_
    unfold syntax_Right.u7.f
    rw [hl']
    dsimp only
    congr 1
    by_cases h1 : st'.length = 1 <;> simp [h1]
    omega

/-! ### the document's Right -/
theorem drop_last1 {st : List Int} {x : Int} : st.drop (st.length - 1) = [x] ↔ st[st.length - 1]? = some x ∧ 1 ≤ st.length := by
  constructor
  · intro h
    have h1 := congrArg (fun l : List Int => l[0]?) h
    simp only [List.getElem?_drop, Nat.add_zero] at h1
    have h2 := congrArg List.length h
    simp only [List.length_drop, List.length_cons, List.length_nil] at h2
    exact ⟨h1, by omega⟩
  · rintro ⟨h1, h2⟩
    rw [List.drop_eq_getElem_cons (by omega : st.length - 1 < st.length), List.drop_of_length_le (by omega)]
    rw [List.getElem?_eq_getElem (by omega)] at h1
    rw [Option.some.inj h1]
theorem drop_last2 {st : List Int} {x y : Int} : st.drop (st.length - 2) = [x, y] ↔ st[st.length - 2]? = some x ∧ st[st.length - 1]? = some y ∧ 2 ≤ st.length := by
  constructor
  · intro h
    have h1 := congrArg (fun l : List Int => l[0]?) h
    have h3 := congrArg (fun l : List Int => l[1]?) h
    simp only [List.getElem?_drop, Nat.add_zero] at h1 h3
    have h2 := congrArg List.length h
    simp only [List.length_drop, List.length_cons, List.length_nil] at h2
    rw [show st.length - 2 + 1 = st.length - 1 by omega] at h3
    exact ⟨h1, h3, by omega⟩
  · rintro ⟨h1, h3, h2⟩
    rw [List.drop_eq_getElem_cons (by omega : st.length - 2 < st.length), List.drop_eq_getElem_cons (by omega : st.length - 2 + 1 < st.length), List.drop_of_length_le (by omega)]
    rw [List.getElem?_eq_getElem (by omega)] at h1 h3
    rw [Option.some.inj h1]
    have : st[st.length - 2 + 1]'(by omega) = st[st.length - 1]'(by omega) := by congr 1; omega
    rw [this, Option.some.inj h3]
theorem stepP_m {st : List Int} {i : Int} {n : Nd} (h : arF n.kind = -1) : stepP st i n = none := by unfold stepP; rw [if_neg (by rw [h]; omega)]
theorem stepP_0 {st : List Int} {i : Int} {n : Nd} (h : arF n.kind = 0) : stepP st i n = if namedF n.kind n.name = true ∧ n.b = 0 ∧ n.a = 0 then some (st ++ [i]) else none := by
  unfold stepP
  rw [h]
  by_cases h1 : namedF n.kind n.name = true <;> by_cases h2 : n.a = 0 <;> by_cases h3 : n.b = 0 <;> simp [h1, h2, h3, wantP]
theorem stepP_1 {st : List Int} {i : Int} {n : Nd} (h : arF n.kind = 1) : stepP st i n = if namedF n.kind n.name = true ∧ 1 ≤ st.length ∧ n.b = 0 ∧ st[st.length - 1]? = some n.a then some (st.take (st.length - 1) ++ [i]) else none := by
  unfold stepP
  rw [h]
  simp only [show (1 : Int).toNat = 1 from rfl, wantP, List.drop_succ_cons, List.drop_zero, List.take_succ_cons, List.take_zero, drop_last1, List.any_cons, List.any_nil, Bool.or_false, decide_eq_true_eq]
  by_cases h1 : namedF n.kind n.name = true <;> by_cases h2 : 1 ≤ st.length <;> by_cases h3 : n.b = 0 <;> by_cases h5 : st[st.length - 1]? = some n.a <;> simp only [h1, h2, h3, h5, and_true, true_and, and_false, false_and, if_true, if_false, ne_eq, not_true_eq_false, not_false_eq_true, Int.reduceLE, Bool.false_eq_true, ite_self] <;> (repeat' split) <;> first | rfl | omega
theorem stepP_2 {st : List Int} {i : Int} {n : Nd} (h : arF n.kind = 2) : stepP st i n = if namedF n.kind n.name = true ∧ 2 ≤ st.length ∧ st[st.length - 1]? = some n.b ∧ st[st.length - 2]? = some n.a then some (st.take (st.length - 2) ++ [i]) else none := by
  unfold stepP
  rw [h]
  simp only [show (2 : Int).toNat = 2 from rfl, wantP, List.drop_succ_cons, List.drop_zero, List.drop_nil, List.take_succ_cons, List.take_zero, List.take_nil, drop_last2, List.any_nil, Bool.false_eq_true, if_false]
  by_cases h1 : namedF n.kind n.name = true <;> by_cases h2 : 2 ≤ st.length <;> by_cases h3 : st[st.length - 1]? = some n.b <;> by_cases h5 : st[st.length - 2]? = some n.a <;> simp only [h1, h2, h3, h5, and_true, true_and, and_false, false_and, if_true, if_false, Int.reduceLE, Bool.false_eq_true, ite_self] <;> (repeat' split) <;> first | rfl | omega
end Go.Ab.S3
