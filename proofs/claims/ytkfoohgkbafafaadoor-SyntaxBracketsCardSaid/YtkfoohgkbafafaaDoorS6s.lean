import Derived.Test.YtkfoohgkbafafaaDoorS6f
namespace Go.Ab.S6
set_option linter.unusedVariables false
set_option linter.unusedSimpArgs false
variable {α : Type} {h : H}
abbrev cIs (l : List Int) : List V := l.flatMap cI
theorem Rd.pushed (h : H) {cs : List V} {o : Bool} {n c size : Nat} {lo : Option Nat} (hl : cs.length = n * size) : Rd (h.push (.cells cs o)) ⟨some ⟨h.next, 0⟩, n, c, lo⟩ size cs := by
  refine ⟨hl, fun a ha => ?_, fun ha => by cases ha⟩
  cases ha
  refine ⟨?_, by rw [push_next]; exact Nat.lt_succ_self _⟩
  rw [row_of (cs := cs) (o := o) (by show (h.push _).get h.next = _; rw [push_get, if_pos rfl]) (by show 0 + _ ≤ _; omega), List.drop_zero, List.take_length]
theorem ints_len {s : Sl} {l : List Int} (r : Rd h s 1 (cIs l)) : s.len = l.length := slen (size := 1) (fun _ => rfl) (by decide) r
theorem any_loop (k : Nat) {s : Sl} {l : List Int} (r : Rd h s 1 (cIs l)) (hl : l.length ≤ 4611686018427387900) : ∀ (j n : Nat), n ≤ l.length → l.length - n < j → ∀ (α : Type) (kr : Int → M α) (kx : M α),
    slices_IndexFunc_int_int_16.u4.l (k + 1) kr kx j s (l.length : Int) (n : Int) h = (match (l.drop n).findIdx? (· ≠ 0) with | some i => kr ((n + i : Nat) : Int) h | none => kx h) := by
  intro j
  induction j with
  | zero => intro n hn hj; omega
  | succ j ih =>
    intro n hn hj α kr kx
    rw [slices_IndexFunc_int_int_16.u4.l, slices_IndexFunc_int_int_16.u3.f]
    by_cases hlt : n < l.length
    · rw [dT (by omega : (n : Int) < (l.length : Int)), cond_true, int_rd r rfl (List.getElem?_eq_getElem hlt), List.drop_eq_getElem_cons hlt, List.findIdx?_cons]
      simp only [syntax_Right_c1.f, syntax_Right_c1.u1.f]
      by_cases h0 : l[n] = 0
      · rw [dT h0]
        rw [Bool.not_true, cond_false, w64_eq (by omega) (by omega), show ((n : Int) + 1) = ((n + 1 : Nat) : Int) by omega, ih (n + 1) (by omega) (by omega), if_neg (by simp [h0])]
        cases hf : (l.drop (n + 1)).findIdx? (· ≠ 0) with
        | none => rfl
        | some i =>
          show kr _ h = kr _ h
          rw [show n + 1 + i = n + (i + 1) by omega]
      · rw [dF h0, if_pos (by simp [h0])]
        rfl
    · rw [dF (by omega : ¬ (n : Int) < (l.length : Int)), cond_false, List.drop_of_length_le (by omega)]
      rfl
theorem any_run (k : Nat) {s : Sl} {l : List Int} (r : Rd h s 1 (cIs l)) (hk : l.length + 2 ≤ k) (hl : l.length ≤ 4611686018427387900) (ret : Bool → M α) : slices_ContainsFunc_int_int_16.f (k + 1) s ret h = ret (l.any (fun x => decide (x ≠ 0))) h := by
  obtain ⟨k, rfl⟩ : ∃ q, k = q + 2 := ⟨k - 2, by omega⟩
  simp only [slices_ContainsFunc_int_int_16.f]
  unfold slices_ContainsFunc_int_int_16.u1.f
  simp only [slices_IndexFunc_int_int_16.f]
  unfold slices_IndexFunc_int_int_16.u9.f slices_IndexFunc_int_int_16.u1.f slices_IndexFunc_int_int_16.u8.f slices_IndexFunc_int_int_16.u6.f slices_IndexFunc_int_int_16.u2.f slices_IndexFunc_int_int_16.u5.f slices_IndexFunc_int_int_16.u4.f slices_IndexFunc_int_int_16.u7.f
  dsimp only
  rw [ints_len r]
  refine (any_loop k r hl (k + 1) 0 (Nat.zero_le _) (by omega) α _ _).trans ?_
  rw [List.drop_zero]
  cases hf : l.findIdx? (· ≠ 0) with
  | none =>
    have : l.any (fun x => decide (x ≠ 0)) = false := by
      rw [List.findIdx?_eq_none_iff] at hf
      rw [Bool.eq_false_iff]
      intro ha
      obtain ⟨x, hx, hx0⟩ := List.any_eq_true.1 ha
      have := hf x hx
      rw [hx0] at this; cases this
    rw [this]; rfl
  | some i =>
    have : l.any (fun x => decide (x ≠ 0)) = true := by
      rw [List.findIdx?_eq_some_iff_getElem] at hf
      obtain ⟨hi, hp, _⟩ := hf
      exact List.any_eq_true.2 ⟨l[i], List.getElem_mem hi, hp⟩
    rw [this]
    dsimp only
    rw [dT (by omega : (0 : Int) ≤ _)]
theorem equal_loop (k : Nat) {s t : Sl} {l m : List Int} (r : Rd h s 1 (cIs l)) (q : Rd h t 1 (cIs m)) (he : l.length = m.length) (hl : l.length ≤ 4611686018427387900) : ∀ (j n : Nat), n ≤ l.length → l.length - n < j → ∀ (α : Type) (kr : Bool → M α) (kx : M α),
    slEq.u4.l k kr kx j s t (l.length : Int) (n : Int) h = if l.drop n = m.drop n then kx h else kr false h := by
  intro j
  induction j with
  | zero => intro n hn hj; omega
  | succ j ih =>
    intro n hn hj α kr kx
    rw [slEq.u4.l, slEq.u3.f]
    by_cases hlt : n < l.length
    · rw [dT (by omega : (n : Int) < (l.length : Int)), cond_true, int_rd r rfl (List.getElem?_eq_getElem hlt), int_rd q rfl (List.getElem?_eq_getElem (by omega)), List.drop_eq_getElem_cons hlt, List.drop_eq_getElem_cons (by omega : n < m.length)]
      by_cases h0 : l[n] = m[n]
      · rw [dT h0, Bool.not_true, cond_false, w64_eq (by omega) (by omega), show ((n : Int) + 1) = ((n + 1 : Nat) : Int) by omega, ih (n + 1) (by omega) (by omega)]
        simp only [h0, List.cons.injEq, true_and]
      · rw [dF h0]
        simp only [h0, List.cons.injEq, false_and, if_false]
        rfl
    · rw [dF (by omega : ¬ (n : Int) < (l.length : Int)), cond_false, List.drop_of_length_le (by omega), List.drop_of_length_le (by omega)]
      simp
theorem equal_run (k : Nat) {s t : Sl} {l m : List Int} (r : Rd h s 1 (cIs l)) (q : Rd h t 1 (cIs m)) (hk : l.length < k) (hl : l.length ≤ 4611686018427387900) (ret : Bool → M α) : slEq.f (k + 1) s t ret h = ret (decide (l = m)) h := by
  simp only [slEq.f]
  unfold slEq.u9.f slEq.u1.f slEq.u8.f slEq.u6.f slEq.u2.f slEq.u5.f slEq.u4.f slEq.u7.f
  dsimp only
  rw [ints_len r, ints_len q]
  by_cases he : l.length = m.length
  · rw [dT (by omega : (l.length : Int) = (m.length : Int)), Bool.not_true, cond_false]
    refine (equal_loop k r q he hl k 0 (Nat.zero_le _) (by omega) α _ _).trans ?_
    simp only [List.drop_zero]
    by_cases hm : l = m <;> simp [hm]
  · rw [dF (by omega : ¬ (l.length : Int) = (m.length : Int)), Bool.not_false, cond_true, dF (fun e => he (by rw [e]))]
def wantP (n : Nd) : List Int := [n.a, n.b]
def stepP (st : List Int) (i : Int) (n : Nd) : Option (List Int) :=
  if 0 ≤ arF n.kind ∧ namedF n.kind n.name = true then
    if st.length < (arF n.kind).toNat then none
    else if ((wantP n).drop (arF n.kind).toNat).any (fun x => decide (x ≠ 0)) then none
    else if st.drop (st.length - (arF n.kind).toNat) = (wantP n).take (arF n.kind).toNat then some (st.take (st.length - (arF n.kind).toNat) ++ [i]) else none
  else none
def rightL : List Nd → Nat → List Int → Option (List Int)
  | [], _, st => some st
  | n :: l, i, st => match stepP st i n with | none => none | some st' => rightL l (i + 1) st'
def rightF (l : List Nd) : Bool := decide (1 ≤ l.length ∧ l.length ≤ 60) && (match rightL l 0 [] with | some st => decide (st.length = 1) | none => false)
theorem ar_cases (x : Int) : arF x = -1 ∨ arF x = 0 ∨ arF x = 1 ∨ arF x = 2 := by
  unfold arF
  repeat' split
  all_goals simp
theorem right_loop (k : Nat) (hk : 13 ≤ k) {f : Sl} {l : List Nd} (h₀ : H) (r₀ : NdR h₀ f l) (hl : l.length ≤ 60) (hk : 70 ≤ k) : ∀ (j n : Nat) (st : List Int) (sl : Sl) (h : H), n ≤ l.length → l.length - n < j → Ext h₀ h → App h sl 1 (cIs st) → Owned h₀ sl → (sl.loose = none → sl.len = 0) → st.length ≤ n →
    ∃ h', Ext h₀ h' ∧ (match rightL (l.drop n) n st with
      | none => ∀ (α : Type) (kr : Bool → M α) (kx : Sl → M α), syntax_Right.u4.l k kr kx j sl f (l.length : Int) (n : Int) h = kr false h'
      | some st' => ∃ sl' : Sl, sl'.len = st'.length ∧ ∀ (α : Type) (kr : Bool → M α) (kx : Sl → M α), syntax_Right.u4.l k kr kx j sl f (l.length : Int) (n : Int) h = kx sl' h') := by
  obtain ⟨k, rfl⟩ : ∃ q, k = q + 1 := ⟨k - 1, by omega⟩
  intro j
  induction j with
  | zero => intro n st sl h hn hj; omega
  | succ j ih =>
    intro n st sl h hn hj x ap ow hlo hst
    have hsl : sl.len = st.length := ints_len ap.rd
    by_cases hlt : n < l.length
    rotate_left
    · rw [List.drop_of_length_le (by omega)]
      refine ⟨h, x, sl, hsl, fun α kr kx => ?_⟩
      rw [syntax_Right.u4.l, syntax_Right.u3.f, dF (by omega : ¬ (n : Int) < (l.length : Int)), cond_false]
    have hi : l[n]? = some l[n] := List.getElem?_eq_getElem hlt
    rw [List.drop_eq_getElem_cons hlt, rightL]
    generalize l[n] = nd at hi
    -- up to the call of below
    have r := r₀.ext x
    have start : ∀ (α : Type) (kr : Bool → M α) (kx : Sl → M α), syntax_Right.u4.l (k + 1) kr kx (j + 1) sl f (l.length : Int) (n : Int) h = _ := fun α kr kx => by
      rw [syntax_Right.u4.l, syntax_Right.u3.f, dT (by omega : (n : Int) < (l.length : Int)), cond_true, nd_rd r rfl hi, nd_copy, n5_all, below_run k (by omega)]
    generalize hh1 : h.push (.cells [.int .i64 nd.kind, .int .i64 nd.a, .int .i64 nd.b, .str nd.name, .int .i64 nd.pos] true) = h1 at start
    have x1 : Ext h₀ (h1.push (.cells [.int .i64 nd.kind, .int .i64 nd.a, .int .i64 nd.b, .str nd.name, .int .i64 nd.pos] true)) := by
      rw [← hh1]; exact (x.push _).push _
    have ca : ∀ (α : Type) (K : Int → M α), ldI .i64 (((⟨h.next, 0⟩ : Ad).add 1).add 0) K (h1.push (.cells [.int .i64 nd.kind, .int .i64 nd.a, .int .i64 nd.b, .str nd.name, .int .i64 nd.pos] true)) = K nd.a (h1.push (.cells [.int .i64 nd.kind, .int .i64 nd.a, .int .i64 nd.b, .str nd.name, .int .i64 nd.pos] true)) := fun α K => by
      rw [← hh1]; exact ldI_run (by simp only [add_mk]; rw [cell_new2]; rfl)
    have cb : ∀ (α : Type) (K : Int → M α), ldI .i64 (((⟨h.next, 0⟩ : Ad).add 2).add 0) K (h1.push (.cells [.int .i64 nd.kind, .int .i64 nd.a, .int .i64 nd.b, .str nd.name, .int .i64 nd.pos] true)) = K nd.b (h1.push (.cells [.int .i64 nd.kind, .int .i64 nd.a, .int .i64 nd.b, .str nd.name, .int .i64 nd.pos] true)) := fun α K => by
      rw [← hh1]; exact ldI_run (by simp only [add_mk]; rw [cell_new2]; rfl)
    have x12 : Ext h (h1.push (.cells [.int .i64 nd.kind, .int .i64 nd.a, .int .i64 nd.b, .str nd.name, .int .i64 nd.pos] true)) := by
      rw [← hh1]; exact ((Ext.refl h).push _).push _
    generalize h1.push (.cells [.int .i64 nd.kind, .int .i64 nd.a, .int .i64 nd.b, .str nd.name, .int .i64 nd.pos] true) = h2 at start x1 ca cb x12
    clear hh1 h1
    unfold stepP
    by_cases hok : 0 ≤ arF nd.kind ∧ namedF nd.kind nd.name = true
    rotate_left
    · rw [if_neg hok]
      refine ⟨h2, x1, fun α kr kx => ?_⟩
      rw [start]
      have : (decide (0 ≤ arF nd.kind) && namedF nd.kind nd.name) = false := by
        rw [Bool.and_eq_false_iff]
        by_cases h0 : 0 ≤ arF nd.kind
        · right; rw [Bool.eq_false_iff]; exact fun e => hok ⟨h0, e⟩
        · left; exact dF h0
      rw [this, Bool.not_false, cond_true]
    rw [if_pos hok]
    have hbel : belF nd.kind = ((arF nd.kind).toNat : Int) := by unfold belF; rw [if_neg (by omega)]; omega
    have har2 : (arF nd.kind).toNat ≤ 2 := by rcases ar_cases nd.kind with h | h | h | h <;> omega
    rw [dT hok.1, hok.2, hbel] at start
    simp only [Bool.and_self, Bool.not_true, cond_false] at start
    generalize (arF nd.kind).toNat = a at start har2
    by_cases hlen : st.length < a
    · rw [if_pos hlen]
      refine ⟨h2, x1, fun α kr kx => ?_⟩
      rw [start, dT (by omega : (sl.len : Int) < (a : Int)), cond_true]
    rw [if_neg hlen]
    -- what is wanted
    have rw1 : Rd (h2.push (.cells [.int .i64 nd.a, .int .i64 nd.b] true)) ⟨some ⟨h2.next, 0⟩, 2, 2, none⟩ 1 (cIs (wantP nd)) := Rd.pushed h2 rfl
    have x3 : Ext h2 (h2.push (.cells [.int .i64 nd.a, .int .i64 nd.b] true)) := (Ext.refl h2).push _
    have start2 : ∀ (α : Type) (kr : Bool → M α) (kx : Sl → M α), syntax_Right.u4.l (k + 1) kr kx (j + 1) sl f (l.length : Int) (n : Int) h = _ := fun α kr kx => by
      rw [start, dF (by omega : ¬ (sl.len : Int) < (a : Int)), cond_false, ca, cb, new_run rfl]
    generalize h2.push (.cells [.int .i64 nd.a, .int .i64 nd.b] true) = h3 at start2 rw1 x3
    have x03 := x1.trans x3
    have ap3 := ap.ext (x12.trans x3)
    have rf := rw1.from a (2 - a) 2 none har2 (Nat.le_refl _)
    rw [Nat.mul_one] at rf
    have e1 : (cIs (wantP nd)).drop a = cIs ((wantP nd).drop a) := by have := flat_drop (size := 1) (c := cI) (fun _ => rfl) (wantP nd) a; rwa [Nat.mul_one] at this
    have e2 : (cIs (wantP nd)).take a = cIs ((wantP nd).take a) := by have := flat_take (size := 1) (c := cI) (fun _ => rfl) (wantP nd) a; rwa [Nat.mul_one] at this
    rw [e1] at rf
    have start3 : ∀ (α : Type) (kr : Bool → M α) (kx : Sl → M α), syntax_Right.u4.l (k + 1) kr kx (j + 1) sl f (l.length : Int) (n : Int) h = _ := fun α kr kx => by
      rw [start2, cut_from (s := ⟨some ⟨h2.next, 0⟩, 2, 2, none⟩) ⟨Nat.le_refl _, .inl rfl⟩ rfl har2]
    have start4 : ∀ (α : Type) (kr : Bool → M α) (kx : Sl → M α), syntax_Right.u4.l (k + 1) kr kx (j + 1) sl f (l.length : Int) (n : Int) h = _ := fun α kr kx => by
      rw [start3, any_run k rf (by simp [wantP]; omega) (by simp [wantP]; omega)]
    clear start start2 start3
    by_cases hany : ((wantP nd).drop a).any (fun x => decide (x ≠ 0)) = true
    · rw [if_pos hany]
      refine ⟨h3, x03, fun α kr kx => ?_⟩
      rw [start4, hany, cond_true]
    rw [if_neg hany]
    rw [Bool.not_eq_true] at hany
    rw [hany] at start4
    have rs := ap3.rd.from (sl.len - a) (sl.cap - (sl.len - a)) sl.cap sl.loose (Nat.sub_le _ _) ap3.fine.1
    rw [Nat.mul_one] at rs
    have e3 : (cIs st).drop (sl.len - a) = cIs (st.drop (st.length - a)) := by rw [hsl]; have := flat_drop (size := 1) (c := cI) (fun _ => rfl) st (st.length - a); rwa [Nat.mul_one] at this
    rw [e3] at rs
    have rt := rw1.to a 2 none har2
    rw [Nat.mul_one, e2] at rt
    have ew : w64 ((sl.len : Int) - (a : Int)) = ((sl.len - a : Nat) : Int) := by rw [w64_eq (by omega) (by omega)]; omega
    have start5 : ∀ (α : Type) (kr : Bool → M α) (kx : Sl → M α), syntax_Right.u4.l (k + 1) kr kx (j + 1) sl f (l.length : Int) (n : Int) h = _ := fun α kr kx => by
      rw [start4, cond_false, ew, cut_from ap3.fine rfl (Nat.sub_le _ _), cut_to (s := ⟨some ⟨h2.next, 0⟩, 2, 2, none⟩) ⟨Nat.le_refl _, .inl rfl⟩ rfl har2]
    have start6 : ∀ (α : Type) (kr : Bool → M α) (kx : Sl → M α), syntax_Right.u4.l (k + 1) kr kx (j + 1) sl f (l.length : Int) (n : Int) h = _ := fun α kr kx => by
      rw [start5, equal_run k rs rt (by simp; omega) (by simp; omega)]
    clear start4 start5
    by_cases heq : st.drop (st.length - a) = (wantP nd).take a
    rotate_left
    · rw [if_neg heq]
      refine ⟨h3, x03, fun α kr kx => ?_⟩
      rw [start6, dF heq, Bool.not_false, cond_true]
    rw [if_pos heq]
    rw [dT heq] at start6
    -- the stack, shorter
    have hfin : ∀ a : Ad, sl.ad = some a → sl.loose = some 1 → h3.own a.id = true := by
      intro b hb hlo1
      rcases ap3.mode with ⟨h1, _⟩ | ⟨_, _, c, h4, h5⟩
      · rw [h1] at hlo1; cases hlo1
      · rw [hb] at h4; cases h4; exact h5
    have apc : App h3 ⟨sl.ad, sl.len - a, sl.cap, sl.loose⟩ 1 (cIs (st.take (st.length - a))) := by
      have q := ap3.rd.to (sl.len - a) sl.cap sl.loose (Nat.sub_le _ _)
      rw [Nat.mul_one] at q
      have e4 : (cIs st).take (sl.len - a) = cIs (st.take (st.length - a)) := by rw [hsl]; have := flat_take (size := 1) (c := cI) (fun _ => rfl) st (st.length - a); rwa [Nat.mul_one] at this
      rw [e4] at q
      refine ⟨q, fun ha => ?_, ?_⟩
      · have hn := ap3.none' ha
        subst hn
        show (⟨none, 0 - a, 0, none⟩ : Sl) = ⟨none, 0, 0, none⟩
        rw [Nat.zero_sub]
      · rcases ap3.mode with ⟨h1, h2⟩ | ⟨h1, h2, b, h3, h4⟩
        · left
          have := hlo h1
          exact ⟨h1, by show sl.cap = sl.len - a; omega⟩
        · exact .inr ⟨h1, by show sl.len - a ≤ sl.cap; omega, b, h3, h4⟩
    obtain ⟨h4, e4, ap4, g4, n4, k4⟩ := app_made (bytes := 8) (more := cI (n : Int)) apc rfl rfl (n := 1) (by decide) (by decide) (by dsimp only; omega)
    have x4 : Ext h₀ h4 := by
      refine ⟨by rw [n4]; have := x03.1; omega, fun i hi => ?_⟩
      rw [k4 i (Nat.lt_of_lt_of_le hi x03.1) (fun _ b hb => by have := ow b hb; omega)]
      exact x03.2 i hi
    have ap4' : App h4 ⟨some ⟨h3.next + 1, 0⟩, sl.len - a + 1, sl.len - a + 1, some 1⟩ 1 (cIs (st.take (st.length - a) ++ [(n : Int)])) := by
      have : cIs (st.take (st.length - a) ++ [(n : Int)]) = cIs (st.take (st.length - a)) ++ cI (n : Int) := by simp [List.flatMap_append]
      rw [this]; exact ap4
    obtain ⟨h', x', rest⟩ := ih (n + 1) (st.take (st.length - a) ++ [(n : Int)]) _ h4 (by omega) (by omega) x4 ap4' (fun b hb => by cases hb; show h₀.next ≤ h3.next + 1; have := x03.1; omega) (fun e => by cases e) (by simp; omega)
    have start7 : ∀ (α : Type) (kr : Bool → M α) (kx : Sl → M α), syntax_Right.u4.l (k + 1) kr kx (j + 1) sl f (l.length : Int) (n : Int) h = syntax_Right.u4.l (k + 1) kr kx j ⟨some ⟨h3.next + 1, 0⟩, sl.len - a + 1, sl.len - a + 1, some 1⟩ f (l.length : Int) ((n + 1 : Nat) : Int) h4 := fun α kr kx => by
      rw [start6, Bool.not_true, cond_false, cut_to ap3.fine rfl (by have := ap3.fine.1; omega)]
      refine (e4 α _).trans ?_
      rw [w64_eq (by omega) (by omega)]
      rfl
    refine ⟨h', x', ?_⟩
    dsimp only
    cases hr : rightL (l.drop (n + 1)) (n + 1) (st.take (st.length - a) ++ [(n : Int)]) with
    | none =>
      rw [hr] at rest
      exact fun α kr kx => (start7 α kr kx).trans (rest α kr kx)
    | some st' =>
      rw [hr] at rest
      obtain ⟨sl', hl', e'⟩ := rest
      exact ⟨sl', hl', fun α kr kx => (start7 α kr kx).trans (e' α kr kx)⟩
theorem right_run (k : Nat) (hk : 70 ≤ k) {f : Sl} {l : List Nd} (h : H) (r : NdR h f l) : ∃ h', (∀ (α : Type) (ret : Bool → M α), syntax_Right.f (k + 1) f ret h = ret (rightF l) h') ∧ Ext h h' := by
  have hfl := nd_slen r
  unfold rightF
  by_cases hl : 1 ≤ l.length ∧ l.length ≤ 60
  rotate_left
  · refine ⟨h, fun α ret => ?_, Ext.refl h⟩
    simp only [syntax_Right.f]
    unfold syntax_Right.u9.f syntax_Right.u1.f
    rw [hfl, dF hl]
    by_cases h1 : (l.length : Int) < 1
    · rw [dT h1]; rfl
    · rw [dF h1, dT (by omega : (60 : Int) < (l.length : Int))]; rfl
  obtain ⟨h', x', rest⟩ := right_loop k (by omega) h r hl.2 hk k 0 [] Sl.nil h (Nat.zero_le _) (by omega) (Ext.refl h) (App.nilSl h 1) (Owned.nil h) (fun _ => rfl) (Nat.le_refl _)
  rw [List.drop_zero] at rest
  have start : ∀ (α : Type) (ret : Bool → M α), syntax_Right.f (k + 1) f ret h = syntax_Right.u4.l k ret (fun y0 => syntax_Right.u7.f k y0 ret) k Sl.nil f (l.length : Int) ((0 : Nat) : Int) h := fun α ret => by
    simp only [syntax_Right.f]
    unfold syntax_Right.u9.f syntax_Right.u1.f
    rw [hfl, dF (by omega : ¬ (l.length : Int) < 1), cond_false, dF (by omega : ¬ (60 : Int) < (l.length : Int)), cond_false]
    unfold syntax_Right.u8.f syntax_Right.u6.f syntax_Right.u2.f syntax_Right.u5.f syntax_Right.u4.f
    dsimp only
    rw [hfl]
    rfl
  refine ⟨h', fun α ret => (start α ret).trans ?_, x'⟩
  rw [dT hl, Bool.true_and]
  cases hr : rightL l 0 [] with
  | none => rw [hr] at rest; exact rest α ret _
  | some st' =>
    rw [hr] at rest
    obtain ⟨sl', hl', e'⟩ := rest
    refine (e' α ret _).trans ?_
    unfold syntax_Right.u7.f
    rw [hl']
    dsimp only
    congr 1
    by_cases h1 : st'.length = 1 <;> simp [h1]
    omega
theorem drop_last1 {st : List Int} {x : Int} : st.drop (st.length - 1) = [x] ↔ st[st.length - 1]? = some x ∧ 1 ≤ st.length := by
  constructor
  · intro h
    have h1 := congrArg (fun l : List Int => l[0]?) h
    simp only [List.getElem?_drop, Nat.add_zero] at h1
    have h2 := congrArg List.length h
    simp only [List.length_drop, List.length_cons, List.length_nil] at h2
    exact ⟨h1, by omega⟩
  · rintro ⟨h1, h2⟩
    rw [List.drop_eq_getElem_cons (by omega : st.length - 1 < st.length), List.drop_of_length_le (by omega)]
    rw [List.getElem?_eq_getElem (by omega)] at h1
    rw [Option.some.inj h1]
theorem drop_last2 {st : List Int} {x y : Int} : st.drop (st.length - 2) = [x, y] ↔ st[st.length - 2]? = some x ∧ st[st.length - 1]? = some y ∧ 2 ≤ st.length := by
  constructor
  · intro h
    have h1 := congrArg (fun l : List Int => l[0]?) h
    have h3 := congrArg (fun l : List Int => l[1]?) h
    simp only [List.getElem?_drop, Nat.add_zero] at h1 h3
    have h2 := congrArg List.length h
    simp only [List.length_drop, List.length_cons, List.length_nil] at h2
    rw [show st.length - 2 + 1 = st.length - 1 by omega] at h3
    exact ⟨h1, h3, by omega⟩
  · rintro ⟨h1, h3, h2⟩
    rw [List.drop_eq_getElem_cons (by omega : st.length - 2 < st.length), List.drop_eq_getElem_cons (by omega : st.length - 2 + 1 < st.length), List.drop_of_length_le (by omega)]
    rw [List.getElem?_eq_getElem (by omega)] at h1 h3
    rw [Option.some.inj h1]
    have : st[st.length - 2 + 1]'(by omega) = st[st.length - 1]'(by omega) := by congr 1; omega
    rw [this, Option.some.inj h3]
theorem stepP_m {st : List Int} {i : Int} {n : Nd} (h : arF n.kind = -1) : stepP st i n = none := by unfold stepP; rw [if_neg (by rw [h]; omega)]
theorem stepP_0 {st : List Int} {i : Int} {n : Nd} (h : arF n.kind = 0) : stepP st i n = if namedF n.kind n.name = true ∧ n.b = 0 ∧ n.a = 0 then some (st ++ [i]) else none := by
  unfold stepP
  rw [h]
  by_cases h1 : namedF n.kind n.name = true <;> by_cases h2 : n.a = 0 <;> by_cases h3 : n.b = 0 <;> simp [h1, h2, h3, wantP]
theorem stepP_1 {st : List Int} {i : Int} {n : Nd} (h : arF n.kind = 1) : stepP st i n = if namedF n.kind n.name = true ∧ 1 ≤ st.length ∧ n.b = 0 ∧ st[st.length - 1]? = some n.a then some (st.take (st.length - 1) ++ [i]) else none := by
  unfold stepP
  rw [h]
  simp only [show (1 : Int).toNat = 1 from rfl, wantP, List.drop_succ_cons, List.drop_zero, List.take_succ_cons, List.take_zero, drop_last1, List.any_cons, List.any_nil, Bool.or_false, decide_eq_true_eq]
  by_cases h1 : namedF n.kind n.name = true <;> by_cases h2 : 1 ≤ st.length <;> by_cases h3 : n.b = 0 <;> by_cases h5 : st[st.length - 1]? = some n.a <;> simp only [h1, h2, h3, h5, and_true, true_and, and_false, false_and, if_true, if_false, ne_eq, not_true_eq_false, not_false_eq_true, Int.reduceLE, Bool.false_eq_true, ite_self] <;> (repeat' split) <;> first | rfl | omega
theorem stepP_2 {st : List Int} {i : Int} {n : Nd} (h : arF n.kind = 2) : stepP st i n = if namedF n.kind n.name = true ∧ 2 ≤ st.length ∧ st[st.length - 1]? = some n.b ∧ st[st.length - 2]? = some n.a then some (st.take (st.length - 2) ++ [i]) else none := by
  unfold stepP
  rw [h]
  simp only [show (2 : Int).toNat = 2 from rfl, wantP, List.drop_succ_cons, List.drop_zero, List.drop_nil, List.take_succ_cons, List.take_zero, List.take_nil, drop_last2, List.any_nil, Bool.false_eq_true, if_false]
  by_cases h1 : namedF n.kind n.name = true <;> by_cases h2 : 2 ≤ st.length <;> by_cases h3 : st[st.length - 1]? = some n.b <;> by_cases h5 : st[st.length - 2]? = some n.a <;> simp only [h1, h2, h3, h5, and_true, true_and, and_false, false_and, if_true, if_false, Int.reduceLE, Bool.false_eq_true, ite_self] <;> (repeat' split) <;> first | rfl | omega
end Go.Ab.S6
namespace Go.Ab.S6
set_option linter.unusedVariables false
set_option linter.unusedSimpArgs false
inductive Tr where
  | leaf (k : Int) (s : List UInt8) (p : Int)
  | un (k : Int) (s : List UInt8) (p : Int) (a : Tr)
  | bin (k : Int) (s : List UInt8) (p : Int) (a b : Tr)
  deriving DecidableEq, Inhabited
def Tr.size : Tr → Nat
  | .leaf _ _ _ => 1
  | .un _ _ _ a => a.size + 1
  | .bin _ _ _ a b => a.size + b.size + 1
theorem Tr.pos : ∀ t : Tr, 1 ≤ t.size
  | .leaf _ _ _ => Nat.le_refl _
  | .un _ _ _ a => Nat.succ_le_succ (Nat.zero_le _)
  | .bin _ _ _ a b => Nat.succ_le_succ (Nat.zero_le _)
def Tr.node : Tr → Nat → Nd
  | .leaf k s p, _ => ⟨k, 0, 0, s, p⟩
  | .un k s p a, base => ⟨k, ((base + a.size - 1 : Nat) : Int), 0, s, p⟩
  | .bin k s p a b, base => ⟨k, ((base + a.size - 1 : Nat) : Int), ((base + a.size + b.size - 1 : Nat) : Int), s, p⟩
def Tr.flat : Tr → Nat → List Nd
  | .leaf k s p, base => [(Tr.leaf k s p).node base]
  | .un k s p a, base => a.flat base ++ [(Tr.un k s p a).node base]
  | .bin k s p a b, base => a.flat base ++ (b.flat (base + a.size) ++ [(Tr.bin k s p a b).node base])
def Tr.ok : Tr → Bool
  | .leaf k s _ => decide (arF k = 0) && namedF k s
  | .un k s _ a => decide (arF k = 1) && namedF k s && a.ok
  | .bin k s _ a b => decide (arF k = 2) && namedF k s && a.ok && b.ok
theorem flat_length : ∀ (t : Tr) (base : Nat), (t.flat base).length = t.size
  | .leaf _ _ _, _ => rfl
  | .un _ _ _ a, base => by simp [Tr.flat, Tr.size, flat_length a]
  | .bin _ _ _ a b, base => by simp [Tr.flat, Tr.size, flat_length a, flat_length b]; omega
def flats : List Tr → Nat → List Nd
  | [], _ => []
  | t :: ts, base => t.flat base ++ flats ts (base + t.size)
def sizes (ts : List Tr) : Nat := (ts.map Tr.size).sum
def roots : List Tr → Nat → List Int
  | [], _ => []
  | t :: ts, base => ((base + t.size - 1 : Nat) : Int) :: roots ts (base + t.size)
theorem sizes_cons (t : Tr) (ts : List Tr) : sizes (t :: ts) = t.size + sizes ts := by simp [sizes]
theorem sizes_append (ts us : List Tr) : sizes (ts ++ us) = sizes ts + sizes us := by simp [sizes]
theorem flats_append : ∀ (ts us : List Tr) (base : Nat), flats (ts ++ us) base = flats ts base ++ flats us (base + sizes ts)
  | [], us, base => by simp [flats, sizes]
  | t :: ts, us, base => by
    rw [List.cons_append, flats, flats, flats_append ts us, sizes_cons, List.append_assoc, Nat.add_assoc]
theorem roots_append : ∀ (ts us : List Tr) (base : Nat), roots (ts ++ us) base = roots ts base ++ roots us (base + sizes ts)
  | [], us, base => by simp [roots, sizes]
  | t :: ts, us, base => by
    rw [List.cons_append, roots, roots, roots_append ts us, sizes_cons, List.cons_append, Nat.add_assoc]
theorem roots_length : ∀ (ts : List Tr) (base : Nat), (roots ts base).length = ts.length
  | [], _ => rfl
  | t :: ts, base => by simp [roots, roots_length ts]
theorem snoc_of {β : Type} : ∀ (l : List β), 1 ≤ l.length → ∃ (m : List β) (x : β), l = m ++ [x]
  | [], h => by simp at h
  | [x], _ => ⟨[], x, rfl⟩
  | x :: y :: l, _ => by
    obtain ⟨m, z, h⟩ := snoc_of (y :: l) (by simp)
    exact ⟨x :: m, z, by rw [h]; rfl⟩
theorem right_trees : ∀ (l : List Nd) (ts : List Tr) (st : List Int), (∀ t ∈ ts, t.ok = true) → rightL l (sizes ts) (roots ts 0) = some st →
    ∃ us : List Tr, (∀ t ∈ us, t.ok = true) ∧ flats us 0 = flats ts 0 ++ l ∧ st = roots us 0
  | [], ts, st, hok, h => by
    simp only [rightL, Option.some.injEq] at h
    exact ⟨ts, hok, by simp, h.symm⟩
  | n :: l, ts, st, hok, h => by
    rw [rightL] at h
    cases hs : stepP (roots ts 0) (sizes ts : Nat) n with
    | none => rw [hs] at h; cases h
    | some st' =>
      rw [hs] at h
      dsimp only at h
      have hex : ∃ vs : List Tr, (∀ t ∈ vs, t.ok = true) ∧ st' = roots vs 0 ∧ sizes vs = sizes ts + 1 ∧ flats vs 0 = flats ts 0 ++ [n] := by
        rcases ar_cases n.kind with e | e | e | e
        · rw [stepP_m e] at hs; cases hs
        · rw [stepP_0 e] at hs
          split at hs
          case isFalse => cases hs
          case isTrue hc =>
          obtain ⟨c1, c2, c3⟩ := hc
          simp only [Option.some.injEq] at hs
          subst hs
          refine ⟨ts ++ [.leaf n.kind n.name n.pos], fun t ht => ?_, ?_, ?_, ?_⟩
          · rcases List.mem_append.1 ht with ht | ht
            · exact hok t ht
            · rw [List.mem_singleton.1 ht]; simp [Tr.ok, e, c1]
          · simp [roots_append, roots, Tr.size]
          · simp [sizes_append, sizes, Tr.size]
          · rw [flats_append]
            congr 1
            cases n
            simp_all [flats, Tr.flat, Tr.node]
        · rw [stepP_1 e] at hs
          split at hs
          case isFalse => cases hs
          case isTrue hc =>
          obtain ⟨c1, c2, c3, c4⟩ := hc
          simp only [Option.some.injEq] at hs
          subst hs
          rw [roots_length] at c2
          obtain ⟨vs, a, rfl⟩ := snoc_of ts c2
          have ha := Tr.pos a
          rw [roots_append, roots, roots, Nat.zero_add] at c4 ⊢
          have hl : (roots vs 0 ++ [((sizes vs + a.size - 1 : Nat) : Int)]).length - 1 = (roots vs 0).length := by simp
          rw [hl, List.getElem?_append_right (Nat.le_refl _), Nat.sub_self] at c4
          simp only [List.getElem?_cons_zero, Option.some.injEq] at c4
          refine ⟨vs ++ [.un n.kind n.name n.pos a], fun t ht => ?_, ?_, ?_, ?_⟩
          · rcases List.mem_append.1 ht with ht | ht
            · exact hok t (List.mem_append_left _ ht)
            · rw [List.mem_singleton.1 ht]
              have := hok a (List.mem_append_right _ (List.mem_singleton.2 rfl))
              simp [Tr.ok, e, c1, this]
          · rw [hl, List.take_left, roots_append, Nat.zero_add, roots, roots, sizes_append]
            simp [sizes, Tr.size]
          · simp [sizes_append, sizes, Tr.size]; omega
          · rw [flats_append, flats_append, List.append_assoc]
            congr 1
            simp only [flats, Tr.flat, List.append_nil, Nat.zero_add]
            congr 1
            cases n
            simp_all [Tr.node]
        · rw [stepP_2 e] at hs
          split at hs
          case isFalse => cases hs
          case isTrue hc =>
          obtain ⟨c1, c2, c3, c4⟩ := hc
          simp only [Option.some.injEq] at hs
          subst hs
          rw [roots_length] at c2
          obtain ⟨ws, b, rfl⟩ := snoc_of ts (by omega)
          obtain ⟨vs, a, rfl⟩ := snoc_of ws (by simp at c2; omega)
          have ha := Tr.pos a
          have hb := Tr.pos b
          have er : roots (vs ++ [a] ++ [b]) 0 = roots vs 0 ++ [((sizes vs + a.size - 1 : Nat) : Int), ((sizes vs + a.size + b.size - 1 : Nat) : Int)] := by
            rw [List.append_assoc, roots_append]
            simp [roots]
          rw [er] at c3 c4 ⊢
          have h1 : (roots vs 0 ++ [((sizes vs + a.size - 1 : Nat) : Int), ((sizes vs + a.size + b.size - 1 : Nat) : Int)]).length - 1 = (roots vs 0).length + 1 := by simp
          have h2 : (roots vs 0 ++ [((sizes vs + a.size - 1 : Nat) : Int), ((sizes vs + a.size + b.size - 1 : Nat) : Int)]).length - 2 = (roots vs 0).length := by simp
          rw [h1, List.getElem?_append_right (by omega), show (roots vs 0).length + 1 - (roots vs 0).length = 1 by omega] at c3
          rw [h2, List.getElem?_append_right (Nat.le_refl _), Nat.sub_self] at c4
          simp only [List.getElem?_cons_zero, List.getElem?_cons_succ, Option.some.injEq] at c3 c4
          refine ⟨vs ++ [.bin n.kind n.name n.pos a b], fun t ht => ?_, ?_, ?_, ?_⟩
          · rcases List.mem_append.1 ht with ht | ht
            · exact hok t (List.mem_append_left _ (List.mem_append_left _ ht))
            · rw [List.mem_singleton.1 ht]
              have g1 := hok a (List.mem_append_left _ (List.mem_append_right _ (List.mem_singleton.2 rfl)))
              have g2 := hok b (List.mem_append_right _ (List.mem_singleton.2 rfl))
              simp [Tr.ok, e, c1, g1, g2]
          · rw [h2, List.take_left, roots_append, Nat.zero_add, roots, roots, sizes_append, sizes_append]
            simp [sizes, Tr.size]
            omega
          · simp [sizes_append, sizes, Tr.size]; omega
          · rw [List.append_assoc, flats_append, flats_append, List.append_assoc]
            congr 1
            simp only [List.cons_append, List.nil_append, flats, Tr.flat, List.append_nil, Nat.zero_add, List.append_assoc]
            congr 2
            cases n
            simp_all [Tr.node]
      obtain ⟨vs, v1, v2, v3, v4⟩ := hex
      subst v2
      rw [← v3] at h
      obtain ⟨us, u1, u2, u3⟩ := right_trees l vs st v1 h
      exact ⟨us, u1, by rw [u2, v4, List.append_assoc]; rfl, u3⟩
theorem right_flat : ∀ (t : Tr) (base : Nat) (rest : List Nd) (st : List Int), t.ok = true → rightL (t.flat base ++ rest) base st = rightL rest (base + t.size) (st ++ [((base + t.size - 1 : Nat) : Int)])
  | .leaf k s p, base, rest, st, h => by
    simp only [Tr.ok, Bool.and_eq_true, decide_eq_true_eq] at h
    have e : arF (Tr.node (.leaf k s p) base).kind = 0 := h.1
    simp only [Tr.flat, List.cons_append, List.nil_append, rightL]
    rw [stepP_0 e, if_pos ⟨h.2, rfl, rfl⟩]
    simp [Tr.size]
  | .un k s p a, base, rest, st, h => by
    simp only [Tr.ok, Bool.and_eq_true, decide_eq_true_eq] at h
    have e : arF (Tr.node (.un k s p a) base).kind = 1 := h.1.1
    simp only [Tr.flat, List.append_assoc, List.cons_append, List.nil_append]
    rw [right_flat a base _ st h.2, rightL, stepP_1 e, if_pos ⟨h.1.2, by simp, rfl, by simp [Tr.node]⟩]
    have := Tr.pos a
    simp [Tr.size]
    rw [show base + a.size + 1 = base + (a.size + 1) by omega]
  | .bin k s p a b, base, rest, st, h => by
    simp only [Tr.ok, Bool.and_eq_true, decide_eq_true_eq] at h
    have e : arF (Tr.node (.bin k s p a b) base).kind = 2 := h.1.1.1
    simp only [Tr.flat, List.append_assoc, List.cons_append, List.nil_append]
    rw [right_flat a base _ st h.1.2, right_flat b (base + a.size) _ _ h.2, rightL, stepP_2 e, if_pos ⟨h.1.1.2, by simp, by simp [Tr.node], by simp [Tr.node]⟩]
    have := Tr.pos a
    have := Tr.pos b
    simp [Tr.size]
    rw [show base + a.size + b.size + 1 = base + (a.size + b.size + 1) by omega, Int.add_assoc]
theorem right_iff (l : List Nd) : rightF l = true ↔ ∃ t : Tr, t.ok = true ∧ l = t.flat 0 ∧ t.size ≤ 60 := by
  unfold rightF
  constructor
  · intro h
    simp only [Bool.and_eq_true, decide_eq_true_eq] at h
    obtain ⟨⟨h1, h2⟩, h3⟩ := h
    cases hr : rightL l 0 [] with
    | none => rw [hr] at h3; cases h3
    | some st =>
      rw [hr] at h3
      obtain ⟨us, u1, u2, u3⟩ := right_trees l [] st (fun t ht => by cases ht) hr
      have h3' : st.length = 1 := of_decide_eq_true h3
      rw [u3, roots_length] at h3'
      match us, h3' with
      | [t], _ =>
        simp only [flats, List.append_nil, List.nil_append] at u2
        exact ⟨t, u1 t List.mem_cons_self, u2.symm, by rw [← flat_length t 0, u2]; exact h2⟩
  · rintro ⟨t, ht, rfl, hs⟩
    have h1 := right_flat t 0 [] [] ht
    rw [List.append_nil] at h1
    rw [h1, flat_length]
    have := Tr.pos t
    simp [rightL]
    omega
end Go.Ab.S6
namespace Go.Ab.S6
set_option linter.unusedVariables false
set_option linter.unusedSimpArgs false
variable {α : Type} {h : H}
def fixK (k : Int) : Bool := decide (k = 10) || decide (k = 11)
def cSc (x : Int × Int) : List V := [.int .i64 x.1, .int .i64 x.2]
abbrev cScs (l : List (Int × Int)) : List V := l.flatMap cSc
structure WD (h₀ : H) (w : Nat) (to odd dep : Sl) : Prop where
  w0 : h₀.next ≤ w
  t0 : h₀.next ≤ to.id
  o0 : h₀.next ≤ odd.id
  d0 : h₀.next ≤ dep.id
  tw : to.id ≠ w
  ow : odd.id ≠ w
  dw : dep.id ≠ w
  t_o : to.id ≠ odd.id
  t_d : to.id ≠ dep.id
  o_d : odd.id ≠ dep.id
structure WS (h₀ h : H) (w : Nat) (f to odd dep : Sl) (l : List Nd) (ins : Sl) (sc : List (Int × Int)) (nots : Int) (T : List Int) (O : List Bool) (D : List Int) : Prop where
  ext : Ext h₀ h
  blk : h.get w = some (.cells [.slice f, .slice ins, .int .i64 nots, .slice to, .slice odd, .slice dep] true)
  wlt : w < h.next
  f : NdR h₀ f l
  ap : App h ins 2 (cScs sc)
  low : Owned h₀ ins
  lo : ins.loose = none → ins.len = 0
  nw : ∀ a, ins.ad = some a → a.id ≠ w ∧ a.id ≠ to.id ∧ a.id ≠ odd.id ∧ a.id ≠ dep.id
  to : Own h to 1 (cIs T)
  odd : Own h odd 1 (O.flatMap cB)
  dep : Own h dep 1 (cIs D)
section ws
variable {h₀ h : H} {w : Nat} {f to odd dep : Sl} {l : List Nd} {ins : Sl} {sc : List (Int × Int)} {nots : Int} {T : List Int} {O : List Bool} {D : List Int}
theorem WS.push (W : WS h₀ h w f to odd dep l ins sc nots T O D) {h' : H} (x : Ext h h') : WS h₀ h' w f to odd dep l ins sc nots T O D :=
  ⟨W.ext.trans x, by rw [x.2 w W.wlt]; exact W.blk, Nat.lt_of_lt_of_le W.wlt x.1, W.f, W.ap.ext x, W.low, W.lo, W.nw, W.to.ext x, W.odd.ext x, W.dep.ext x⟩
theorem WS.setblk (W : WS h₀ h w f to odd dep l ins sc nots T O D) (d : WD h₀ w to odd dep) {nots' : Int} {ins' : Sl} (he : ins' = ins) :
    WS h₀ (h.put w (some (.cells [.slice f, .slice ins', .int .i64 nots', .slice to, .slice odd, .slice dep] true))) w f to odd dep l ins sc nots' T O D := by
  subst he
  have hg : ∀ i, i ≠ w → (h.put w (some (.cells [.slice f, .slice ins', .int .i64 nots', .slice to, .slice odd, .slice dep] true))).get i = h.get i := fun i hi => by rw [put_get_if, if_neg hi]
  refine ⟨W.ext.put _ d.w0, by rw [put_get], W.wlt, W.f, W.ap.keep (Nat.le_refl _) fun a ha => hg _ (W.nw a ha).1, W.low, W.lo, W.nw, W.to.keep (Nat.le_refl _) (hg _ d.tw), W.odd.keep (Nat.le_refl _) (hg _ d.ow), W.dep.keep (Nat.le_refl _) (hg _ d.dw)⟩
theorem w_in (W : WS h₀ h w f to odd dep l ins sc nots T O D) (K : Sl → M α) : ldS (((⟨w, 0⟩ : Ad).add 1).add 0) K h = K ins h := ldS_run (by simp only [add_mk]; rw [cell_of W.blk]; rfl)
theorem w_sin (W : WS h₀ h w f to odd dep l ins sc nots T O D) (s : Sl) {h' : H} (hg : h'.get w = h.get w) (K : M α) : st1 (((⟨w, 0⟩ : Ad).add 1).add 0) (.slice s) K h' = K (h'.put w (some (.cells [.slice f, .slice s, .int .i64 nots, .slice to, .slice odd, .slice dep] true))) := by
  simp only [add_mk]
  rw [st1_run (a := ⟨w, 0 + 1 + 0⟩) (hg.trans W.blk) rfl (by simp)]
  rfl
end ws
end Go.Ab.S6
namespace Go.Ab.S6
set_option linter.unusedVariables false
set_option linter.unusedSimpArgs false
variable {α : Type}
section
variable {h₀ h : H} {w : Nat} {f to odd dep : Sl} {l : List Nd} {ins : Sl} {sc : List (Int × Int)} {nots : Int} {T : List Int} {O : List Bool} {D : List Int}
abbrev ndC (n : Nd) : Blk := .cells [.int .i64 n.kind, .int .i64 n.a, .int .i64 n.b, .str n.name, .int .i64 n.pos] true
theorem own_a {n : Nd} {q : Nat} (hq : h.get q = some (ndC n)) (K : Int → M α) : ldI .i64 (((⟨q, 0⟩ : Ad).add 1).add 0) K h = K n.a h := ldI_run (by simp only [add_mk]; rw [cell_of (a := ⟨q, 0 + 1 + 0⟩) hq]; rfl)
theorem own_b {n : Nd} {q : Nat} (hq : h.get q = some (ndC n)) (K : Int → M α) : ldI .i64 (((⟨q, 0⟩ : Ad).add 2).add 0) K h = K n.b h := ldI_run (by simp only [add_mk]; rw [cell_of (a := ⟨q, 0 + 2 + 0⟩) hq]; rfl)
theorem own_name {n : Nd} {q : Nat} (hq : h.get q = some (ndC n)) (K : List UInt8 → M α) : ldStr (((⟨q, 0⟩ : Ad).add 3).add 0) K h = K n.name h := ldStr_run (by simp only [add_mk]; rw [cell_of (a := ⟨q, 0 + 3 + 0⟩) hq]; rfl)
def Quiet (w : Nat) (to odd dep ins : Sl) (h h' : H) : Prop := ∀ i, i < h.next → i ≠ w → i ≠ to.id → i ≠ odd.id → i ≠ dep.id → (∀ a, ins.ad = some a → i ≠ a.id) → h'.get i = h.get i
theorem WS.lts (W : WS h₀ h w f to odd dep l ins sc nots T O D) : w < h.next ∧ to.id < h.next ∧ odd.id < h.next ∧ dep.id < h.next ∧ ∀ a, ins.ad = some a → a.id < h.next := by
  have own : ∀ {s : Sl} {cs : List V}, Own h s 1 cs → s.id < h.next := by
    intro s cs o
    obtain ⟨id, more, h1, h2, h3⟩ := o.blk
    unfold Sl.id; rw [h1]; exact h3
  exact ⟨W.wlt, own W.to, own W.odd, own W.dep, fun a ha => (W.ap.rd.row a ha).2⟩
theorem Quiet.of {h' : H} (x : Ext h h') : Quiet w to odd dep ins h h' := fun i hi _ _ _ _ _ => x.2 i hi
theorem Quiet.trans {h' h'' : H} {ins' : Sl} (q : Quiet w to odd dep ins h h') (hn : h.next ≤ h'.next) (hi : ∀ a, ins'.ad = some a → h.next ≤ a.id ∨ ins'.ad = ins.ad) (q' : Quiet w to odd dep ins' h' h'') : Quiet w to odd dep ins h h'' := by
  intro i h1 h2 h3 h4 h5 h6
  rw [q' i (by omega) h2 h3 h4 h5 (fun a ha => ?_), q i h1 h2 h3 h4 h5 h6]
  rcases hi a ha with h | h
  · omega
  · exact h6 a (by rw [← h]; exact ha)
theorem WS.append (W : WS h₀ h w f to odd dep l ins sc nots T O D) (d : WD h₀ w to odd dep) (x y : Int) (hl : ins.len ≤ 1000) :
    ∃ h' ins', (∀ (α : Type) (K : M α), (ldS (((⟨w, 0⟩ : Ad).add 1).add 0) fun x6 => new [.int .i64 x, .int .i64 y] fun r => ldS (((⟨w, 0⟩ : Ad).add 1).add 0) fun y9 => need (decide (x6 = y9)) <| appRow x6 2 16 ⟨some r, 1, 1, none⟩ fun x10 => st1 (((⟨w, 0⟩ : Ad).add 1).add 0) (.slice x10) K) h = K h') ∧
      WS h₀ h' w f to odd dep l ins' (sc ++ [(x, y)]) nots T O D ∧ Quiet w to odd dep ins h h' ∧ h.next ≤ h'.next ∧ ∀ a, ins'.ad = some a → h.next ≤ a.id := by
  have x1 : Ext h (h.push (.cells [.int .i64 x, .int .i64 y] true)) := (Ext.refl h).push _
  have W1 := W.push x1
  have rp : Rd (h.push (.cells [.int .i64 x, .int .i64 y] true)) ⟨some ⟨h.next, 0⟩, 1, 1, none⟩ 2 (cSc (x, y)) := Rd.pushed h rfl
  have hn1 : (h.push (.cells [.int .i64 x, .int .i64 y] true)).next = h.next + 1 := push_next _
  have e1 : ∀ (α : Type) (K : Ad → M α), new [.int .i64 x, .int .i64 y] K h = K ⟨h.next, 0⟩ (h.push (.cells [.int .i64 x, .int .i64 y] true)) := fun α K => new_run rfl
  generalize h.push (.cells [.int .i64 x, .int .i64 y] true) = h1 at x1 W1 rp hn1 e1
  obtain ⟨h2, e2, ap2, g2, k2⟩ := app_row (bytes := 16) W1.ap rp (by show 0 < 1; decide) (by decide) (by dsimp only; omega)
  have hlt := W1.lts
  have keep : ∀ i, i < h1.next → (∀ a, ins.ad = some a → i ≠ a.id) → h2.get i = h1.get i := fun i hi ha => k2.2 i hi fun _ a h => ha a h
  have gw : h2.get w = h1.get w := keep w hlt.1 fun a ha => Ne.symm (W1.nw a ha).1
  have x02 := k2.ext W1.ext W1.low
  dsimp only at e2 ap2
  refine ⟨h2.put w (some (.cells [.slice f, .slice ⟨some ⟨h1.next, 0⟩, ins.len + 1, ins.len + 1, some 2⟩, .int .i64 nots, .slice to, .slice odd, .slice dep] true)), ⟨some ⟨h1.next, 0⟩, ins.len + 1, ins.len + 1, some 2⟩, fun α K => ?_, ?_, ?_, ?_, ?_⟩
  · rw [w_in W, e1, w_in W1, need_run (by simp), e2, w_sin W1 _ gw]
  · have hn2 : h1.next ≤ h2.next := by rw [k2.1]; omega
    have hg : ∀ i, i ≠ w → (h2.put w (some (.cells [.slice f, .slice ⟨some ⟨h1.next, 0⟩, ins.len + 1, ins.len + 1, some 2⟩, .int .i64 nots, .slice to, .slice odd, .slice dep] true))).get i = h2.get i := fun i hi => by rw [put_get_if, if_neg hi]
    have own : ∀ {s : Sl} {cs : List V}, Own h1 s 1 cs → s.id ≠ w → (∀ a, ins.ad = some a → s.id ≠ a.id) → s.id < h1.next → Own (h2.put w (some (.cells [.slice f, .slice ⟨some ⟨h1.next, 0⟩, ins.len + 1, ins.len + 1, some 2⟩, .int .i64 nots, .slice to, .slice odd, .slice dep] true))) s 1 cs :=
      fun o h1 h2 h3 => o.keep hn2 (by rw [hg _ h1]; exact keep _ h3 h2)
    have hsc : cScs (sc ++ [(x, y)]) = cScs sc ++ cSc (x, y) := by simp [List.flatMap_append]
    refine ⟨x02.put _ d.w0, by rw [put_get], Nat.lt_of_lt_of_le hlt.1 hn2, W.f, ?_, (fun a ha => by cases ha; exact W1.ext.1), (fun e => by cases e), (fun a ha => by cases ha; exact ⟨by show h1.next ≠ w; omega, by show h1.next ≠ to.id; omega, by show h1.next ≠ odd.id; omega, by show h1.next ≠ dep.id; omega⟩),
      own W1.to d.tw (fun a ha => Ne.symm (W1.nw a ha).2.1) hlt.2.1, own W1.odd d.ow (fun a ha => Ne.symm (W1.nw a ha).2.2.1) hlt.2.2.1, own W1.dep d.dw (fun a ha => Ne.symm (W1.nw a ha).2.2.2) hlt.2.2.2.1⟩
    rw [hsc]
    exact ap2.keep (Nat.le_refl _) fun a ha => by cases ha; exact hg _ (by show h1.next ≠ w; omega)
  · intro i hi a1 a2 a3 a4 a5
    rw [put_get_if, if_neg a1, keep i (by omega) a5, x1.2 i hi]
  · show h.next ≤ h2.next
    rw [k2.1]; omega
  · intro a ha
    cases ha
    show h.next ≤ h1.next
    omega
theorem flat_sub {a : Tr} {base : Nat} {rest : List Nd} (hfl : ∀ i n, (a.flat base ++ rest)[i]? = some n → l[base + i]? = some n) : (∀ i n, (a.flat base)[i]? = some n → l[base + i]? = some n) ∧ ∀ i n, rest[i]? = some n → l[base + a.size + i]? = some n := by
  refine ⟨fun i n h => hfl i n ?_, fun i n h => ?_⟩
  · rw [List.getElem?_append_left (get_lt h)]; exact h
  · rw [Nat.add_assoc]
    refine hfl (a.size + i) n ?_
    rw [List.getElem?_append_right (by rw [flat_length]; omega), flat_length, show a.size + i - a.size = i by omega]
    exact h
end
end Go.Ab.S6
namespace Go.Ab.S6
set_option linter.unusedVariables false
set_option linter.unusedSimpArgs false
variable {α : Type} {h : H}
theorem own_kind {n : Nd} {q : Nat} (hq : h.get q = some (ndC n)) (K : Int → M α) : ldI .i64 (((⟨q, 0⟩ : Ad).add 0).add 0) K h = K n.kind h := ldI_run (by simp only [add_mk]; rw [cell_of (a := ⟨q, 0 + 0 + 0⟩) hq]; rfl)
theorem own_all {n : Nd} {q : Nat} (hq : h.get q = some (ndC n)) (K : Int → Int → Int → List UInt8 → Int → M α) :
    (ldI .i64 ((⟨q, 0⟩ : Ad).add 0) fun y0 => ldI .i64 ((⟨q, 0⟩ : Ad).add 1) fun y1 => ldI .i64 ((⟨q, 0⟩ : Ad).add 2) fun y2 => ldStr ((⟨q, 0⟩ : Ad).add 3) fun y3 => ldI .i64 ((⟨q, 0⟩ : Ad).add 4) fun y4 => K y0 y1 y2 y3 y4) h = K n.kind n.a n.b n.name n.pos h := by
  simp only [add_mk]
  rw [ldI_run (by rw [cell_of (a := ⟨q, 0 + 0⟩) hq]; rfl), ldI_run (by rw [cell_of (a := ⟨q, 0 + 1⟩) hq]; rfl), ldI_run (by rw [cell_of (a := ⟨q, 0 + 2⟩) hq]; rfl), ldStr_run (by rw [cell_of (a := ⟨q, 0 + 3⟩) hq]; rfl), ldI_run (by rw [cell_of (a := ⟨q, 0 + 4⟩) hq]; rfl)]
end Go.Ab.S6
namespace Go.Ab.S6
set_option linter.unusedVariables false
set_option linter.unusedSimpArgs false
variable {α : Type} {h : H}
def chk : List Nd → List Int → List Bool → List Int → Nat → List (List UInt8) → Int × Int
  | n :: l, t :: T, o :: O, d :: D, i, seen =>
    if n.kind = 4 ∧ t < 0 then ((i : Int), 11) else if n.kind = 4 ∧ o = true then ((i : Int), 12) else if fixK n.kind = true ∧ n.name ∈ seen then ((i : Int), 9) else if fixK n.kind = true ∧ 4 < d then ((i : Int), 13)
    else chk l T O D (i + 1) (if fixK n.kind = true then seen ++ [n.name] else seen)
  | _, _, _, _, _, _ => (0, 0)
section
variable {h₀ : H} {w : Nat} {f to odd dep : Sl} {l : List Nd} {ins : Sl} {sc : List (Int × Int)} {nots : Int} {T : List Int} {O : List Bool} {D : List Int} {n : Nd} {q m i : Nat} {le : Int}
end
end Go.Ab.S6
namespace Go.Ab.S6
set_option linter.unusedVariables false
set_option linter.unusedSimpArgs false
variable {α : Type} {h : H}
def Below (l : List Nd) : Prop := ∀ i n, l[i]? = some n → (0 < arF n.kind → ∃ j : Nat, n.a = (j : Int) ∧ j < i) ∧ (1 < arF n.kind → ∃ j : Nat, n.b = (j : Int) ∧ j < i)
section
variable {h₀ : H} {f out : Sl} {l : List Nd}
structure Mine (h₀ h : H) (s : Sl) (cs : List V) : Prop where
  ext : Ext h₀ h
  own : Own h s 1 cs
  low : h₀.next ≤ s.id
theorem Mine.push {cs : List V} (m : Mine h₀ h out cs) {h' : H} (x : Ext h h') : Mine h₀ h' out cs := ⟨m.ext.trans x, m.own.ext x, m.low⟩
end
end Go.Ab.S6
namespace Go.Ab.S6
set_option linter.unusedVariables false
set_option linter.unusedSimpArgs false
variable {α : Type} {h : H}
section
variable {h₀ : H} {f out : Sl} {l : List Nd}
theorem set_set (T : List Int) (i : Nat) (x y : Int) : (T.set i x).set i y = T.set i y := by simp
end
end Go.Ab.S6
namespace Go.Ab.S6
set_option linter.unusedVariables false
set_option linter.unusedSimpArgs false
variable {α : Type} {h : H}
def psF (at_ : Bool) (n : Nd) : Nd := if at_ = true then n else { n with pos := 0 }
theorem nd_eq (a b : Nd) : (decide (a.kind = b.kind) && (decide (a.a = b.a) && (decide (a.b = b.b) && (decide (a.name = b.name) && (decide (a.pos = b.pos) && true))))) = decide (a = b) := by
  rw [Bool.eq_iff_iff]
  simp only [Bool.and_eq_true, decide_eq_true_eq, and_true]
  cases a; cases b
  simp [Nd.mk.injEq]
theorem same_loop {h₀ : H} {f g : Sl} {l m : List Nd} (r : NdR h₀ f l) (q : NdR h₀ g m) (hlen : l.length = m.length) (hl : l.length ≤ 4611686018427387900) (at_ : Bool) (k : Nat) : ∀ (j i : Nat) (h : H), i ≤ l.length → l.length - i < j → Ext h₀ h →
    ∃ h', Ext h₀ h' ∧ ∀ (α : Type) (kr : Bool → M α) (kx : M α), r4Same.u4.l k kr kx j f g at_ (i : Int) h = if (l.drop i).map (psF at_) = (m.drop i).map (psF at_) then kx h' else kr false h' := by
  intro j
  induction j with
  | zero => intro i h hi hj; omega
  | succ j ih =>
    intro i h hi hj x
    have hfl := nd_slen r
    by_cases hlt : i < l.length
    rotate_left
    · refine ⟨h, x, fun α kr kx => ?_⟩
      rw [r4Same.u4.l, r4Same.u3.f, hfl, dF (by omega : ¬ (i : Int) < (l.length : Int)), cond_false, List.drop_of_length_le (by omega), List.drop_of_length_le (by omega), if_pos rfl]
    have hn : l[i]? = some l[i] := List.getElem?_eq_getElem hlt
    have hm : m[i]? = some m[i] := List.getElem?_eq_getElem (by omega)
    rw [List.drop_eq_getElem_cons hlt, List.drop_eq_getElem_cons (by omega : i < m.length)]
    generalize l[i] = a at hn ⊢
    generalize m[i] = b at hm ⊢
    have x1 : Ext h ((h.push (ndC (psF at_ a))).push (ndC (psF at_ b))) := ((Ext.refl h).push _).push _
    have hqa : ((h.push (ndC (psF at_ a))).push (ndC (psF at_ b))).get h.next = some (ndC (psF at_ a)) := by
      rw [push_get, if_neg (by rw [push_next]; omega), push_get, if_pos rfl]
    have hqb : ((h.push (ndC (psF at_ a))).push (ndC (psF at_ b))).get (h.next + 1) = some (ndC (psF at_ b)) := by
      rw [push_get, if_pos (by rw [push_next])]
    have start : ∀ (α : Type) (kr : Bool → M α) (kx : M α), r4Same.u4.l k kr kx (j + 1) f g at_ (i : Int) h = cond (!(decide (psF at_ a = psF at_ b))) (kr false) (r4Same.u4.l k kr kx j f g at_ (w64 ((i : Int) + 1))) ((h.push (ndC (psF at_ a))).push (ndC (psF at_ b))) := fun α kr kx => by
      rw [r4Same.u4.l, r4Same.u3.f, hfl, dT (by omega : (i : Int) < (l.length : Int)), cond_true, nd_rd (r.ext x) rfl hn, nd_copy, nd_rd (q.ext (x.push _)) rfl hm, nd_copy]
      rw [show (h.push (Blk.cells [.int .i64 a.kind, .int .i64 a.a, .int .i64 a.b, .str a.name, .int .i64 a.pos] true)).next = h.next + 1 from rfl]
      cases at_ with
      | true =>
        rw [Bool.not_true, cond_false, own_all (h := (h.push (ndC a)).push (ndC b)) (n := a) hqa, own_all (h := (h.push (ndC a)).push (ndC b)) (n := b) hqb, nd_eq]
        rfl
      | false =>
        rw [Bool.not_false, cond_true]
        have s1 : ∀ K : M α, st1 (((⟨h.next, 0⟩ : Ad).add 4).add 0) (.int .i64 0) K ((h.push (ndC a)).push (ndC b)) = K ((h.push (ndC (psF false a))).push (ndC b)) := fun K => by
          simp only [add_mk]
          exact st1_new2 rfl (by simp)
        have s2 : ∀ K : M α, st1 (((⟨h.next + 1, 0⟩ : Ad).add 4).add 0) (.int .i64 0) K ((h.push (ndC (psF false a))).push (ndC b)) = K ((h.push (ndC (psF false a))).push (ndC (psF false b))) := fun K => by
          simp only [add_mk]
          exact st1_new (h := h.push (ndC (psF false a))) rfl (by simp)
        rw [s1, s2, own_all (n := psF false a) hqa, own_all (n := psF false b) hqb, nd_eq]
    generalize (h.push (ndC (psF at_ a))).push (ndC (psF at_ b)) = h1 at start x1
    simp only [List.map_cons]
    by_cases he : psF at_ a = psF at_ b
    · obtain ⟨h', x', e'⟩ := ih (i + 1) h1 (by omega) (by omega) (x.trans x1)
      refine ⟨h', x', fun α kr kx => ?_⟩
      rw [start, dT he, Bool.not_true, cond_false, w64_eq (by omega) (by omega), he]
      simp only [List.cons.injEq, true_and]
      exact e' α kr kx
    · refine ⟨h1, x.trans x1, fun α kr kx => ?_⟩
      rw [start, dF he, Bool.not_false, cond_true, if_neg (fun e => he (List.cons.inj e).1)]
theorem same_run (k : Nat) {f g : Sl} {l m : List Nd} (h : H) (r : NdR h f l) (q : NdR h g m) (hk : l.length + 2 ≤ k) (hl : l.length ≤ 4611686018427387900) (at_ : Bool) :
    ∃ h', (∀ (α : Type) (ret : Bool → M α), r4Same.f (k + 1) f g at_ ret h = ret (decide (l.map (psF at_) = m.map (psF at_))) h') ∧ Ext h h' := by
  have hfl := nd_slen r
  have hgl := nd_slen q
  by_cases hlen : l.length = m.length
  · obtain ⟨h', x', e'⟩ := same_loop r q hlen hl at_ k k 0 h (Nat.zero_le _) (by omega) (Ext.refl h)
    simp only [List.drop_zero] at e'
    refine ⟨h', fun α ret => ?_, x'⟩
    rw [r4Same.f, r4Same.u9.f, r4Same.u1.f, hfl, hgl, dT (by omega : (l.length : Int) = (m.length : Int)), Bool.not_true, cond_false, r4Same.u8.f, r4Same.u6.f, r4Same.u2.f, r4Same.u5.f, r4Same.u4.f]
    refine (e' α _ _).trans ?_
    by_cases he : l.map (psF at_) = m.map (psF at_)
    · rw [if_pos he, dT he, r4Same.u7.f]
    · rw [if_neg he, dF he]
  · refine ⟨h, fun α ret => ?_, Ext.refl h⟩
    rw [r4Same.f, r4Same.u9.f, r4Same.u1.f, hfl, hgl, dF (by omega : ¬ (l.length : Int) = (m.length : Int)), Bool.not_false, cond_true, dF (fun e => hlen (by have := congrArg List.length e; simpa using this))]
def n7 : Nd := ⟨-7, 0, 0, [], 0⟩
structure Lent (h : H) (o : Sl) (l : List Nd) : Prop where
  all : Rd h ⟨o.ad, l.length + 1, l.length + 1, o.loose⟩ 5 (cN (l ++ [n7]))
  len : o.len = l.length
  cap : o.cap = l.length + 1
  lo : o.loose = some 5
theorem Lent.ext {o : Sl} {l : List Nd} (L : Lent h o l) {h' : H} (x : Ext h h') : Lent h' o l := ⟨L.all.ext x, L.len, L.cap, L.lo⟩
theorem Lent.rd {o : Sl} {l : List Nd} (L : Lent h o l) : NdR h o l := by
  have := L.all.to l.length o.cap o.loose (Nat.le_succ _)
  rw [flat_take Nd.len, List.take_left] at this
  cases o
  have h2 := L.len
  dsimp only at h2 this ⊢
  rw [h2]
  exact this
def Room (n : Nat) : Prop := n * 48 ≤ 140737488351232
end Go.Ab.S6
namespace Go.Ab.S6
set_option linter.unusedVariables false
set_option linter.unusedSimpArgs false
structure St where
  l : List Tok
  made : Nat
  f : List Nd
  deriving DecidableEq
abbrev Er := Int × Int
def St.hd (s : St) : Tok := s.l.headD ⟨0, 0, [], 0⟩
def St.adv (s : St) : St := { s with l := s.l.tail }
def isS (sign : List UInt8) (s : St) : Bool := decide (s.hd.kind = 5) && decide (s.hd.text = sign)
def wrongE (s : St) : Er := (s.hd.pos, if s.hd.kind = 0 then 6 else 7)
def makesE (s : St) : Except Er (Tok × St) := if s.made = 60 then .error (s.hd.pos, 10) else .ok (s.hd, { s.adv with made := s.made + 1 })
def needE (sign : List UInt8) (s : St) : Except Er St := if isS sign s = true then .ok s.adv else .error (wrongE s)
def layE (n : Nd) (s : St) : Int × St := ((s.f.length : Int), { s with f := s.f ++ [n] })
def stepE (shut : List UInt8) (s : St) : Except Er (List UInt8 × St) :=
  if isS [45] s = true ∨ (s.hd.kind = 2 ∧ wordsF s.hd.text = false) then (match needE shut s.adv with | .error e => .error e | .ok s' => .ok (s.hd.text, s')) else .error (wrongE s)
inductive Rl where
  | un
  | row (o : Bool)
  | loop (o : Bool)
def signO (o : Bool) : List UInt8 := if o then [124] else [38]
def kindO (o : Bool) : Int := if o then 7 else 6
def oneO (o : Bool) : Rl := if o then .row false else .un
def bindE {β γ : Type} (x : Except Er β) (f : β → Except Er γ) : Except Er γ := match x with | .error e => .error e | .ok b => f b
def pz : Nat → Rl → Int → St → Except Er (Int × St)
  | 0, _, _, _ => .error (0, 0)
  | j + 1, .row o, _, s => bindE (pz j (oneO o) 0 s) fun x => pz j (.loop o) x.1 x.2
  | j + 1, .loop o, a, s =>
    if isS (signO o) s = true then
      bindE (makesE s) fun x => bindE (pz j (oneO o) 0 x.2) fun y => pz j (.loop o) (layE ⟨kindO o, a, y.1, [], x.1.pos⟩ y.2).1 (layE ⟨kindO o, a, y.1, [], x.1.pos⟩ y.2).2
    else .ok (a, s)
  | j + 1, .un, _, s =>
    if isS [126] s = true then bindE (makesE s) fun x => bindE (pz j .un 0 x.2) fun y => .ok (layE ⟨5, y.1, 0, [], x.1.pos⟩ y.2)
    else if isS [60] s = true then bindE (makesE s) fun x => bindE (stepE [62] x.2) fun z => bindE (pz j .un 0 z.2) fun y => .ok (layE ⟨8, y.1, 0, z.1, x.1.pos⟩ y.2)
    else if isS [91] s = true then bindE (makesE s) fun x => bindE (stepE [93] x.2) fun z => bindE (pz j .un 0 z.2) fun y => .ok (layE ⟨9, y.1, 0, z.1, x.1.pos⟩ y.2)
    else if isS [40] s = true then bindE (pz j (.row true) 0 s.adv) fun y => bindE (needE [41] y.2) fun z => .ok (y.1, z)
    else if s.hd.kind = 3 then bindE (makesE s) fun x => .ok (layE ⟨4, 0, 0, x.1.text, x.1.pos⟩ x.2)
    else if s.hd.kind = 2 then bindE (makesE s) fun x =>
      if x.1.text = [116, 116] then .ok (layE ⟨1, 0, 0, [], x.1.pos⟩ x.2)
      else if x.1.text = [102, 102] then .ok (layE ⟨2, 0, 0, [], x.1.pos⟩ x.2)
      else if x.1.text = [109, 117] ∨ x.1.text = [110, 117] then
        (if x.2.hd.kind = 3 then bindE (needE [46] x.2.adv) fun z => bindE (pz j (.row true) 0 z) fun y => .ok (layE ⟨if x.1.text = [109, 117] then 10 else 11, y.1, 0, x.2.hd.text, x.1.pos⟩ y.2) else .error (wrongE x.2))
      else .ok (layE ⟨3, 0, 0, x.1.text, x.1.pos⟩ x.2)
    else .error (wrongE s)
def parseE (l : List Tok) : Except Er (List Nd) :=
  bindE (pz (3 * l.length + 10) (.row true) 0 ⟨l, 0, []⟩) fun y => if y.2.hd.kind = 0 then .ok y.2.f else .error (wrongE y.2)
def Ends : List Tok → Prop
  | [] => False
  | [t] => t.kind = 0
  | t :: u :: l => t.kind ≠ 0 ∧ Ends (u :: l)
theorem Ends.ne {l : List Tok} (h : Ends l) : ∃ t r, l = t :: r := by
  match l, h with
  | [t], _ => exact ⟨t, [], rfl⟩
  | t :: u :: r, _ => exact ⟨t, u :: r, rfl⟩
theorem Ends.tail {l : List Tok} {t : Tok} (h : Ends (t :: l)) (hk : t.kind ≠ 0) : Ends l := by
  match l, h with
  | [], h => exact absurd h hk
  | u :: r, h => exact h.2
theorem isS_kind {sign : List UInt8} {s : St} (h : isS sign s = true) : s.hd.kind = 5 := by
  simp only [isS, Bool.and_eq_true, decide_eq_true_eq] at h; exact h.1
theorem adv_ends {s : St} (h : Ends s.l) (hk : s.hd.kind ≠ 0) : Ends s.adv.l := by
  obtain ⟨t, r, hl⟩ := h.ne
  unfold St.hd at hk
  unfold St.adv
  rw [hl] at h hk ⊢
  exact h.tail hk
def Bal (s s' : St) : Prop := s'.made + s.f.length = s.made + s'.f.length ∧ s.made ≤ s'.made ∧ (s.made ≤ 60 → s'.made ≤ 60) ∧ (Ends s.l → Ends s'.l) ∧ s'.l.length ≤ s.l.length
theorem Bal.refl (s : St) : Bal s s := ⟨rfl, Nat.le_refl _, id, id, Nat.le_refl _⟩
theorem Bal.trans {a b c : St} (x : Bal a b) (y : Bal b c) : Bal a c := ⟨by have := x.1; have := y.1; omega, Nat.le_trans x.2.1 y.2.1, fun h => y.2.2.1 (x.2.2.1 h), fun h => y.2.2.2.1 (x.2.2.2.1 h), Nat.le_trans y.2.2.2.2 x.2.2.2.2⟩
theorem Bal.adv (s : St) (hk : s.hd.kind ≠ 0) : Bal s s.adv := ⟨rfl, Nat.le_refl _, id, fun he => adv_ends he hk, by unfold St.adv; rw [List.length_tail]; exact Nat.sub_le _ _⟩
theorem makesE_ok {s : St} {t : Tok} {s' : St} (h : makesE s = .ok (t, s')) : s.made ≠ 60 ∧ t = s.hd ∧ s' = { s.adv with made := s.made + 1 } := by
  unfold makesE at h
  split at h
  · cases h
  · cases h; exact ⟨by assumption, rfl, rfl⟩
theorem bindE_ok {β γ : Type} {x : Except Er β} {f : β → Except Er γ} {c : γ} (h : bindE x f = .ok c) : ∃ b, x = .ok b ∧ f b = .ok c := by
  cases x with
  | error e => cases h
  | ok b => exact ⟨b, rfl, h⟩
theorem needE_ok {sign : List UInt8} {s s' : St} (h : needE sign s = .ok s') : isS sign s = true ∧ s' = s.adv := by
  unfold needE at h
  split at h
  · cases h; exact ⟨by assumption, rfl⟩
  · cases h
theorem stepE_ok {shut : List UInt8} {s : St} {z : List UInt8 × St} (h : stepE shut s = .ok z) : (isS [45] s = true ∨ (s.hd.kind = 2 ∧ wordsF s.hd.text = false)) ∧ z.1 = s.hd.text ∧ isS shut s.adv = true ∧ z.2 = s.adv.adv := by
  unfold stepE at h
  split at h
  · rename_i hc
    cases hn : needE shut s.adv with
    | error e => rw [hn] at h; cases h
    | ok s' =>
      rw [hn] at h
      cases h
      obtain ⟨h1, rfl⟩ := needE_ok hn
      exact ⟨hc, rfl, h1, rfl⟩
  · cases h
theorem pz_bal : ∀ (j : Nat) (r : Rl) (a : Int) (s : St) (n : Int) (s' : St), pz j r a s = .ok (n, s') → Bal s s' := by
  intro j
  induction j with
  | zero => intro r a s n s' h; cases h
  | succ j ih =>
    intro r a s n s' h
    -- a token makes a node, which is laid behind what comes between
    have lay : ∀ {s1 s2 : St} {nd : Nd} {t : Tok}, makesE s = .ok (t, s1) → s.hd.kind ≠ 0 → Bal s1 s2 → Bal s (layE nd s2).2 := by
      intro s1 s2 nd t hm hk hb
      obtain ⟨h60, _, rfl⟩ := makesE_ok hm
      obtain ⟨b1, b2, b3, b4, b5⟩ := hb
      refine ⟨?_, ?_, ?_, fun he => b4 (adv_ends he hk), by simp only [layE, St.adv, List.length_tail] at *; omega⟩
      · simp only [layE, St.adv, List.length_append, List.length_cons, List.length_nil] at *; omega
      · simp only [layE, St.adv] at *; omega
      · intro h; exact b3 (by show s.made + 1 ≤ 60; omega)
    have refl := Bal.refl
    have trans : ∀ {a b c : St}, Bal a b → Bal b c → Bal a c := Bal.trans
    have adv := Bal.adv
    cases r with
    | row o =>
      rw [pz] at h
      obtain ⟨⟨m, s1⟩, h1, h2⟩ := bindE_ok h
      exact trans (ih _ _ _ _ _ h1) (ih _ _ _ _ _ h2)
    | loop o =>
      rw [pz] at h
      split at h
      · rename_i hs
        obtain ⟨⟨t, s1⟩, h1, h⟩ := bindE_ok h
        obtain ⟨⟨b, s2⟩, h2, h⟩ := bindE_ok h
        exact trans (lay h1 (by rw [isS_kind hs]; decide) (ih _ _ _ _ _ h2)) (ih _ _ _ _ _ h)
      · cases h; exact refl s
    | un =>
      rw [pz] at h
      have steps : ∀ (k : Int) (shut : List UInt8), s.hd.kind = 5 → bindE (makesE s) (fun x => bindE (stepE shut x.2) fun z => bindE (pz j .un 0 z.2) fun y => .ok (layE ⟨k, y.1, 0, z.1, x.1.pos⟩ y.2)) = .ok (n, s') → Bal s s' := by
        intro k shut hs h
        obtain ⟨⟨t, s1⟩, h1, h⟩ := bindE_ok h
        obtain ⟨⟨x, s2⟩, h2, h⟩ := bindE_ok h
        obtain ⟨⟨b, s3⟩, h3, h⟩ := bindE_ok h
        obtain ⟨c1, c2, c3, c4⟩ := stepE_ok h2
        have k1 : s1.hd.kind ≠ 0 := by
          rcases c1 with c1 | c1
          · rw [isS_kind c1]; decide
          · rw [c1.1]; decide
        have k2 : s1.adv.hd.kind ≠ 0 := by rw [isS_kind c3]; decide
        have b2 : Bal s1 s2 := by
          have : s2 = s1.adv.adv := c4
          rw [this]
          exact trans (adv s1 k1) (adv _ k2)
        have := lay (nd := ⟨k, b, 0, x, t.pos⟩) h1 (by rw [hs]; decide) (trans b2 (ih _ _ _ _ _ h3))
        cases h; exact this
      by_cases c1 : isS [126] s = true
      · rw [if_pos c1] at h
        obtain ⟨⟨t, s1⟩, h1, h⟩ := bindE_ok h
        obtain ⟨⟨b, s2⟩, h2, h⟩ := bindE_ok h
        have := lay (nd := ⟨5, b, 0, [], t.pos⟩) h1 (by rw [isS_kind c1]; decide) (ih _ _ _ _ _ h2)
        cases h; exact this
      rw [if_neg c1] at h
      by_cases c2 : isS [60] s = true
      · rw [if_pos c2] at h; exact steps 8 [62] (isS_kind c2) h
      rw [if_neg c2] at h
      by_cases c3 : isS [91] s = true
      · rw [if_pos c3] at h; exact steps 9 [93] (isS_kind c3) h
      rw [if_neg c3] at h
      by_cases c4 : isS [40] s = true
      · rw [if_pos c4] at h
        obtain ⟨⟨b, s1⟩, h1, h⟩ := bindE_ok h
        obtain ⟨s2, h2, h⟩ := bindE_ok h
        obtain ⟨d1, d2⟩ := needE_ok h2
        cases h
        rw [d2]
        exact trans (adv s (by rw [isS_kind c4]; decide)) (trans (ih _ _ _ _ _ h1) (adv _ (by rw [isS_kind d1]; decide)))
      rw [if_neg c4] at h
      by_cases c5 : s.hd.kind = 3
      · rw [if_pos c5] at h
        obtain ⟨⟨t, s1⟩, h1, h⟩ := bindE_ok h
        have := lay (nd := ⟨4, 0, 0, t.text, t.pos⟩) h1 (by rw [c5]; decide) (refl s1)
        cases h; exact this
      rw [if_neg c5] at h
      by_cases c6 : s.hd.kind = 2
      · rw [if_pos c6] at h
        obtain ⟨⟨t, s1⟩, h1, h⟩ := bindE_ok h
        have hk : s.hd.kind ≠ 0 := by rw [c6]; decide
        dsimp only at h
        by_cases d1 : t.text = [116, 116]
        · rw [if_pos d1] at h
          have := lay (nd := ⟨1, 0, 0, [], t.pos⟩) h1 hk (refl s1)
          cases h; exact this
        rw [if_neg d1] at h
        by_cases d2 : t.text = [102, 102]
        · rw [if_pos d2] at h
          have := lay (nd := ⟨2, 0, 0, [], t.pos⟩) h1 hk (refl s1)
          cases h; exact this
        rw [if_neg d2] at h
        by_cases d3 : t.text = [109, 117] ∨ t.text = [110, 117]
        · rw [if_pos d3] at h
          by_cases h3 : s1.hd.kind = 3
          · rw [if_pos h3] at h
            obtain ⟨s2, h2, h⟩ := bindE_ok h
            obtain ⟨⟨b, s3⟩, h4, h⟩ := bindE_ok h
            obtain ⟨e1, e2⟩ := needE_ok h2
            have b2 : Bal s1 s2 := by
              rw [e2]
              exact trans (adv s1 (by rw [h3]; decide)) (adv _ (by rw [isS_kind e1]; decide))
            have := lay (nd := ⟨if t.text = [109, 117] then 10 else 11, b, 0, s1.hd.text, t.pos⟩) h1 hk (trans b2 (ih _ _ _ _ _ h4))
            cases h; exact this
          · rw [if_neg h3] at h; cases h
        · rw [if_neg d3] at h
          have := lay (nd := ⟨3, 0, 0, t.text, t.pos⟩) h1 hk (refl s1)
          cases h; exact this
      · rw [if_neg c6] at h; cases h
def cost : Rl → Nat → Nat
  | .un, n => 3 * n + 1
  | .row o, n => if o then 3 * n + 3 else 3 * n + 2
  | .loop _, n => 3 * n + 1
theorem bindE_err {β γ : Type} {x : Except Er β} {f : β → Except Er γ} {e : Er} (h : bindE x f = .error e) : x = .error e ∨ ∃ b, x = .ok b ∧ f b = .error e := by
  cases x with
  | error e' =>
    left
    have h : (Except.error e' : Except Er γ) = .error e := h
    cases h; rfl
  | ok b => exact .inr ⟨b, rfl, h⟩
theorem makesE_err {s : St} {e : Er} (h : makesE s = .error e) : e.2 ≠ 0 := by
  unfold makesE at h
  split at h
  · cases h; show (10 : Int) ≠ 0; decide
  · cases h
theorem wrongE_ne (s : St) : (wrongE s).2 ≠ 0 := by unfold wrongE; dsimp only; split <;> decide
theorem needE_err {sign : List UInt8} {s : St} {e : Er} (h : needE sign s = .error e) : e.2 ≠ 0 := by
  unfold needE at h
  split at h
  · cases h
  · cases h; exact wrongE_ne s
theorem stepE_err {sign : List UInt8} {s : St} {e : Er} (h : stepE sign s = .error e) : e.2 ≠ 0 := by
  unfold stepE at h
  split at h
  · cases hn : needE sign s.adv with
    | error e' => rw [hn] at h; cases h; exact needE_err hn
    | ok s' => rw [hn] at h; cases h
  · cases h; exact wrongE_ne s
theorem adv_len {s : St} (he : Ends s.l) : s.adv.l.length + 1 = s.l.length := by
  obtain ⟨t, r, hl⟩ := he.ne
  unfold St.adv; rw [hl]; rfl
theorem pz_fuel : ∀ (j : Nat) (r : Rl) (a : Int) (s : St) (e : Er), Ends s.l → cost r s.l.length ≤ j → pz j r a s = .error e → e.2 ≠ 0 := by
  intro j
  induction j with
  | zero => intro r a s e he hc h; cases r <;> simp only [cost] at hc <;> (try split at hc) <;> omega
  | succ j ih =>
    intro r a s e he hc h
    have hlen := adv_len he
    cases r with
    | row o =>
      rw [pz] at h
      rcases bindE_err h with h | ⟨x, hx, h⟩
      · refine ih _ _ _ _ he ?_ h
        cases o <;> simp [cost, oneO] at hc ⊢ <;> omega
      · have hb := pz_bal _ _ _ _ _ _ hx
        refine ih _ _ _ _ (hb.2.2.2.1 he) ?_ h
        have := hb.2.2.2.2
        cases o <;> simp [cost] at hc ⊢ <;> omega
    | loop o =>
      rw [pz] at h
      simp only [cost] at hc
      by_cases hs : isS (signO o) s = true
      · rw [if_pos hs] at h
        have he1 := adv_ends he (by rw [isS_kind hs]; decide)
        rcases bindE_err h with h | ⟨x, hx, h⟩
        · exact makesE_err h
        obtain ⟨t, s1⟩ := x
        obtain ⟨_, _, hs1⟩ := makesE_ok hx
        have hl1 : s1.l = s.adv.l := by rw [hs1]
        dsimp only at h
        rcases bindE_err h with h | ⟨y, hy, h⟩
        · refine ih _ _ _ _ (by rw [hl1]; exact he1) ?_ h
          rw [hl1]
          cases o <;> simp [cost, oneO] <;> omega
        · have hb := pz_bal _ _ _ _ _ _ hy
          refine ih _ _ _ _ (by simp only [layE]; exact hb.2.2.2.1 (by rw [hl1]; exact he1)) ?_ h
          have := hb.2.2.2.2
          rw [hl1] at this
          simp only [cost, layE]
          omega
      · rw [if_neg hs] at h; cases h
    | un =>
      rw [pz] at h
      simp only [cost] at hc
      have steps : ∀ (k : Int) (shut : List UInt8), s.hd.kind = 5 → bindE (makesE s) (fun x => bindE (stepE shut x.2) fun z => bindE (pz j .un 0 z.2) fun y => .ok (layE ⟨k, y.1, 0, z.1, x.1.pos⟩ y.2)) = .error e → e.2 ≠ 0 := by
        intro k shut hs h
        have he1 := adv_ends he (by rw [hs]; decide)
        rcases bindE_err h with h | ⟨x, hx, h⟩
        · exact makesE_err h
        obtain ⟨t, s1⟩ := x
        obtain ⟨_, _, hs1⟩ := makesE_ok hx
        have hl1 : s1.l = s.adv.l := by rw [hs1]
        rcases bindE_err h with h | ⟨z, hz, h⟩
        · exact stepE_err h
        obtain ⟨w1, w2, w3, w4⟩ := stepE_ok hz
        have k1 : s1.hd.kind ≠ 0 := by
          rcases w1 with w1 | w1
          · rw [isS_kind w1]; decide
          · rw [w1.1]; decide
        have hB : Bal s1 z.2 := by rw [w4]; exact (Bal.adv s1 k1).trans (Bal.adv _ (by rw [isS_kind w3]; decide))
        have := hB.2.2.2.2
        rw [hl1] at this
        rcases bindE_err h with h | ⟨y, hy, h⟩
        · exact ih _ _ _ _ (hB.2.2.2.1 (by rw [hl1]; exact he1)) (by simp only [cost]; omega) h
        · cases h
      by_cases c1 : isS [126] s = true
      · rw [if_pos c1] at h
        have he1 := adv_ends he (by rw [isS_kind c1]; decide)
        rcases bindE_err h with h | ⟨x, hx, h⟩
        · exact makesE_err h
        obtain ⟨t, s1⟩ := x
        obtain ⟨_, _, hs1⟩ := makesE_ok hx
        have hl1 : s1.l = s.adv.l := by rw [hs1]
        rcases bindE_err h with h | ⟨y, hy, h⟩
        · exact ih _ _ _ _ (by rw [hl1]; exact he1) (by rw [hl1]; simp only [cost]; omega) h
        · cases h
      rw [if_neg c1] at h
      by_cases c2 : isS [60] s = true
      · rw [if_pos c2] at h; exact steps 8 [62] (isS_kind c2) h
      rw [if_neg c2] at h
      by_cases c3 : isS [91] s = true
      · rw [if_pos c3] at h; exact steps 9 [93] (isS_kind c3) h
      rw [if_neg c3] at h
      by_cases c4 : isS [40] s = true
      · rw [if_pos c4] at h
        have he1 := adv_ends he (by rw [isS_kind c4]; decide)
        rcases bindE_err h with h | ⟨y, hy, h⟩
        · exact ih _ _ _ _ he1 (by simp [cost]; omega) h
        rcases bindE_err h with h | ⟨z, hz, h⟩
        · exact needE_err h
        · cases h
      rw [if_neg c4] at h
      by_cases c5 : s.hd.kind = 3
      · rw [if_pos c5] at h
        rcases bindE_err h with h | ⟨x, hx, h⟩
        · exact makesE_err h
        · cases h
      rw [if_neg c5] at h
      by_cases c6 : s.hd.kind = 2
      · rw [if_pos c6] at h
        have he1 := adv_ends he (by rw [c6]; decide)
        rcases bindE_err h with h | ⟨x, hx, h⟩
        · exact makesE_err h
        obtain ⟨t, s1⟩ := x
        obtain ⟨_, _, hs1⟩ := makesE_ok hx
        have hl1 : s1.l = s.adv.l := by rw [hs1]
        dsimp only at h
        by_cases d1 : t.text = [116, 116]
        · rw [if_pos d1] at h; cases h
        rw [if_neg d1] at h
        by_cases d2 : t.text = [102, 102]
        · rw [if_pos d2] at h; cases h
        rw [if_neg d2] at h
        by_cases d3 : t.text = [109, 117] ∨ t.text = [110, 117]
        · rw [if_pos d3] at h
          by_cases h3 : s1.hd.kind = 3
          · rw [if_pos h3] at h
            rcases bindE_err h with h | ⟨z, hz, h⟩
            · exact needE_err h
            obtain ⟨w1, w2⟩ := needE_ok hz
            have hB : Bal s1 z := by rw [w2]; exact (Bal.adv s1 (by rw [h3]; decide)).trans (Bal.adv _ (by rw [isS_kind w1]; decide))
            have := hB.2.2.2.2
            rw [hl1] at this
            have he3 := hB.2.2.2.1 (by rw [hl1]; exact he1)
            have l2 := adv_len (s := s1) (by rw [hl1]; exact he1)
            have l3 : z.l.length < s.adv.l.length := by
              rw [w2]
              have := adv_len (s := s1.adv) (adv_ends (by rw [hl1]; exact he1) (by rw [h3]; decide))
              rw [hl1] at l2
              omega
            rcases bindE_err h with h | ⟨y, hy, h⟩
            · exact ih _ _ _ _ he3 (by simp [cost]; omega) h
            · cases h
          · rw [if_neg h3] at h; cases h; exact wrongE_ne _
        · rw [if_neg d3] at h; cases h
      · rw [if_neg c6] at h; cases h; exact wrongE_ne _
end Go.Ab.S6
