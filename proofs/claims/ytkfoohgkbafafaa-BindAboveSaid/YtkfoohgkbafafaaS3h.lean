import Derived.Test.YtkfoohgkbafafaaS3g
namespace Go.Ab.S3
set_option linter.unusedVariables false
set_option linter.unusedSimpArgs false
variable {α : Type} {h : H}
/-- 'append([]T{}, x...)' -/
theorem app_copy {x : Sl} {size bytes : Nat} {cs : List V} (r : Rd h x size cs) (hs : 0 < size) (hb : 0 < bytes) (hr : (x.len + x.len / 4 + 512) * bytes ≤ 281474976710656) :
    ∃ sl h', (∀ (α : Type) (K : Sl → M α), new [] (fun a => appRow ⟨some a, 0, 0, none⟩ size bytes x K) h = K sl h') ∧ App h' sl size cs ∧ Ext h h' ∧ Owned h sl ∧ (sl.loose = none → sl.len = 0) ∧ sl.ad ≠ none := by
  have x1 : Ext h (h.push (.cells [] true)) := (Ext.refl h).push _
  have hg : (h.push (.cells [] true)).get h.next = some (.cells [] true) := by rw [push_get, if_pos rfl]
  have ap : App (h.push (.cells [] true)) ⟨some ⟨h.next, 0⟩, 0, 0, none⟩ size [] := by
    refine ⟨Rd.pushed h (by simp), fun ha => (by cases ha), .inl ⟨rfl, rfl⟩⟩
  by_cases h0 : x.len = 0
  · have hc : cs = [] := List.eq_nil_of_length_eq_zero (by rw [r.len, h0, Nat.zero_mul])
    subst hc
    refine ⟨⟨some ⟨h.next, 0⟩, 0, 0, none⟩, h.push (.cells [] true), fun α K => ?_, ap, x1, (fun a ha => by cases ha; exact Nat.le_refl _), fun _ => rfl, fun e => by cases e⟩
    rw [new_run rfl]
    exact app_row0 ap (r.ext x1) h0 K (fun _ a ha => by cases ha; exact ⟨hg, rfl, rfl⟩)
  · obtain ⟨h', e, ap', g, k⟩ := app_row (bytes := bytes) ap (r.ext x1) (by omega) hb (by simpa using hr)
    refine ⟨_, h', fun α K => ?_, by simpa using ap', ?_, (fun a ha => by cases ha; show h.next ≤ h.next + 1; omega), (fun e => by cases e), fun e => by cases e⟩
    · rw [new_run rfl, e α K, Nat.zero_add]
    · exact k.ext x1 (fun a ha => by cases ha; exact Nat.le_refl _)
theorem cIs_snoc (l : List Int) (x : Int) : cIs (l ++ [x]) = cIs l ++ cI x := by simp [List.flatMap_append]
theorem cIs_take (l : List Int) (n : Nat) : (cIs l).take (n * 1) = cIs (l.take n) := flat_take (size := 1) (fun _ => rfl) l n
theorem cIs_drop (l : List Int) (n : Nat) : (cIs l).drop (n * 1) = cIs (l.drop n) := flat_drop (size := 1) (fun _ => rfl) l n
/-- the document's stack goes on -/
theorem rstep {sl : Sl} {st : List Int} (ap : App h sl 1 (cIs st)) {a : Nat} (ha : a ≤ st.length) (hl : st.length ≤ 1000) (i : Int) {x y : Int} (hx : x = (st.length : Int)) (hy : y = (a : Int)) :
    ∃ sl' h', (∀ (α : Type) (K : Sl → M α), new [] (fun r => cutSl sl 1 none (some (w64 (x - y))) none fun c => appRow ⟨some r, 0, 0, none⟩ 1 8 c fun d => new [.int .i64 i] fun e => appRow d 1 8 ⟨some e, 1, 1, none⟩ K) h = K sl' h') ∧
      Ext h h' ∧ App h' sl' 1 (cIs (st.take (st.length - a) ++ [i])) ∧ Owned h sl' := by
  subst hx hy
  have hsl := ints_len ap.rd
  have rc : Rd h ⟨sl.ad, sl.len - a, sl.cap, sl.loose⟩ 1 (cIs (st.take (st.length - a))) := by
    have := ap.rd.to (sl.len - a) sl.cap sl.loose (Nat.sub_le _ _)
    rw [cIs_take, hsl] at this
    rwa [hsl]
  obtain ⟨d, h1, e1, ap1, x1, o1, l1, n1⟩ := app_copy (bytes := 8) rc (by decide) (by decide) (by dsimp only; omega)
  have hd := ints_len ap1.rd
  obtain ⟨h2, e2, ap2, g2, n2, k2⟩ := app_made (bytes := 8) (more := cI i) ap1 rfl rfl (n := 1) (by decide) (by decide) (by rw [hd]; simp only [List.length_take]; omega)
  refine ⟨_, h2, fun α K => ?_, ?_, by rw [cIs_snoc]; exact ap2, (fun a ha => by cases ha; show h.next ≤ h1.next + 1; have := x1.1; omega)⟩
  · have ew : w64 ((st.length : Int) - (a : Int)) = ((sl.len - a : Nat) : Int) := by rw [w64_eq (by omega) (by omega)]; omega
    have c1 : ∀ (h' : H) (K : Sl → M α), cutSl sl 1 none (some (w64 ((st.length : Int) - (a : Int)))) none K h' = K ⟨sl.ad, sl.len - a, sl.cap, sl.loose⟩ h' := fun h' K => by
      rw [ew, cut_to ap.fine rfl (by have := ap.fine.1; omega)]
    have e3 := (e1 α (fun d => new [.int .i64 i] fun e => appRow d 1 8 ⟨some e, 1, 1, none⟩ K)).trans (e2 α K)
    rw [new_run rfl] at e3 ⊢
    rw [c1]
    exact e3
  · refine ⟨by rw [n2]; have := x1.1; omega, fun i hi => ?_⟩
    rw [k2 i (Nat.lt_of_lt_of_le hi x1.1) (fun _ a ha => by have := o1 a ha; omega)]
    exact x1.2 i hi
/-- names that a machine can hold -/
def NL (l : List Nd) : Prop := ∀ (i : Nat) (n : Nd), l[i]? = some n → n.name.length ≤ 4611686018427387900
theorem rright_loop (k : Nat) (hk : 70 ≤ k) {f : Sl} {l : List Nd} (h₀ : H) (r₀ : NdR h₀ f l) (hl : l.length ≤ 60) (hnl : NL l) : ∀ (j n : Nat) (st : List Int) (sl : Sl) (h : H), n ≤ l.length → l.length - n < j → Ext h₀ h → App h sl 1 (cIs st) → st.length ≤ n →
    ∃ h', Ext h₀ h' ∧ (match rightL (l.drop n) n st with
      | none => ∀ (α : Type) (kr : Bool → M α) (kx : Sl → M α), r4Right.u11.l k kr kx j f sl (n : Int) h = kr false h'
      | some st' => ∃ sl' : Sl, sl'.len = st'.length ∧ ∀ (α : Type) (kr : Bool → M α) (kx : Sl → M α), r4Right.u11.l k kr kx j f sl (n : Int) h = kx sl' h') := by
  obtain ⟨k, rfl⟩ : ∃ q, k = q + 1 := ⟨k - 1, by omega⟩
  intro j
  induction j with
  | zero => intro n st sl h hn hj; omega
  | succ j ih =>
    intro n st sl h hn hj x ap hst
    have hfl := nd_slen r₀
    have hsl : sl.len = st.length := ints_len ap.rd
    by_cases hlt : n < l.length
    rotate_left
    · rw [List.drop_of_length_le (by omega)]
      refine ⟨h, x, sl, hsl, fun α kr kx => ?_⟩
      rw [r4Right.u11.l]
      unfold r4Right.u10.f r4Right.u3.f
      rw [hfl, dF (by omega : ¬ (n : Int) < (l.length : Int)), cond_false]
    have hi : l[n]? = some l[n] := List.getElem?_eq_getElem hlt
    rw [List.drop_eq_getElem_cons hlt, rightL]
    generalize l[n] = nd at hi
    have r := r₀.ext x
    have start : ∀ (α : Type) (kr : Bool → M α) (kx : Sl → M α), r4Right.u11.l (k + 1) kr kx (j + 1) f sl (n : Int) h = _ := fun α kr kx => by
      rw [r4Right.u11.l, r4Right.u10.f, r4Right.u3.f, hfl, dT (by omega : (n : Int) < (l.length : Int)), cond_true, r4Right.u9.f, r4Right.u7.f, r4Right.u6.f, r4Right.u4.f, nd_kind r rfl hi, rbelow_run, nd_rd r rfl hi, rnamed_run k (by omega) _ _ _ _ _ (hnl n nd hi)]
    have x1 : Ext h (h.push (.cells [.int .i64 nd.kind, .int .i64 nd.a, .int .i64 nd.b, .str nd.name, .int .i64 nd.pos] true)) := (Ext.refl h).push _
    generalize h.push (.cells [.int .i64 nd.kind, .int .i64 nd.a, .int .i64 nd.b, .str nd.name, .int .i64 nd.pos] true) = h1 at start x1
    have r1 := r.ext x1
    have ap1 := ap.ext x1
    have eb : ∀ (α : Type) (K : Int → M α), idxSl f (n : Int) 5 (fun a => ldI .i64 ((a.add 2).add 0) K) h1 = K nd.b h1 := fun α K => nd_b r1 rfl hi K
    have ea : ∀ (α : Type) (K : Int → M α), idxSl f (n : Int) 5 (fun a => ldI .i64 ((a.add 1).add 0) K) h1 = K nd.a h1 := fun α K => nd_a r1 rfl hi K
    -- wrong: nothing more is done
    have bad : (∀ (α : Type) (kr : Bool → M α) (kx : Sl → M α), r4Right.u11.l (k + 1) kr kx (j + 1) f sl (n : Int) h = kr false h1) → ∃ h', Ext h₀ h' ∧ ∀ (α : Type) (kr : Bool → M α) (kx : Sl → M α), r4Right.u11.l (k + 1) kr kx (j + 1) f sl (n : Int) h = kr false h' := fun e => ⟨h1, x.trans x1, e⟩
    -- right: on
    have good : ∀ (a : Nat) (y : Int), a ≤ st.length → y = (a : Int) → (∀ (α : Type) (kr : Bool → M α) (kx : Sl → M α), r4Right.u11.l (k + 1) kr kx (j + 1) f sl (n : Int) h =
        new [] (fun r => cutSl sl 1 none (some (w64 ((st.length : Int) - y))) none fun c => appRow ⟨some r, 0, 0, none⟩ 1 8 c fun d => new [.int .i64 (n : Int)] fun e => appRow d 1 8 ⟨some e, 1, 1, none⟩ fun z => r4Right.u11.l (k + 1) kr kx j f z (w64 ((n : Int) + 1))) h1) →
        ∃ h', Ext h₀ h' ∧ (match rightL (l.drop (n + 1)) (n + 1) (st.take (st.length - a) ++ [(n : Int)]) with
          | none => ∀ (α : Type) (kr : Bool → M α) (kx : Sl → M α), r4Right.u11.l (k + 1) kr kx (j + 1) f sl (n : Int) h = kr false h'
          | some st' => ∃ sl' : Sl, sl'.len = st'.length ∧ ∀ (α : Type) (kr : Bool → M α) (kx : Sl → M α), r4Right.u11.l (k + 1) kr kx (j + 1) f sl (n : Int) h = kx sl' h') := by
      intro a y ha hy e
      obtain ⟨sl4, h4, e4, x4, ap4, o4⟩ := rstep ap1 ha (by omega) (n : Int) rfl hy
      obtain ⟨h', x', rest⟩ := ih (n + 1) _ sl4 h4 (by omega) (by omega) ((x.trans x1).trans x4) ap4 (by simp; omega)
      have e5 : ∀ (α : Type) (kr : Bool → M α) (kx : Sl → M α), r4Right.u11.l (k + 1) kr kx (j + 1) f sl (n : Int) h = r4Right.u11.l (k + 1) kr kx j f sl4 ((n + 1 : Nat) : Int) h4 := fun α kr kx => by
        rw [e, e4, w64_eq (by omega) (by omega), show ((n : Int) + 1) = ((n + 1 : Nat) : Int) from rfl]
      refine ⟨h', x', ?_⟩
      cases hr : rightL (l.drop (n + 1)) (n + 1) (st.take (st.length - a) ++ [(n : Int)]) with
      | none => rw [hr] at rest; exact fun α kr kx => (e5 α kr kx).trans (rest α kr kx)
      | some st' =>
        rw [hr] at rest
        obtain ⟨sl', hl', e'⟩ := rest
        exact ⟨sl', hl', fun α kr kx => (e5 α kr kx).trans (e' α kr kx)⟩
    rcases ar_cases nd.kind with e | e | e | e
    · rw [stepP_m e]
      refine bad fun α kr kx => ?_
      rw [start, e]
      rfl
    · rw [stepP_0 e]
      by_cases hc : namedF nd.kind nd.name = true ∧ nd.b = 0 ∧ nd.a = 0
      · rw [if_pos hc]
        have := good 0 0 (Nat.zero_le _) rfl (fun α kr kx => by
          rw [start, e, hc.1]
          simp only [↓cT, ↓cF, Bool.not_true, eb, ea, hc.2.1, hc.2.2, Int.reduceLT, decide_true, decide_false, hsl, dF (by omega : ¬ ((st.length : Int) < 0))]
          unfold r4Right.u5.f r4Right.u8.f
          simp only [↓cF, Int.reduceEq, decide_false])
        rwa [Nat.sub_zero, List.take_length] at this
      · rw [if_neg hc]
        refine bad fun α kr kx => ?_
        rw [start, e]
        by_cases h1 : namedF nd.kind nd.name = true <;> by_cases h2 : nd.b = 0 <;> by_cases h3 : nd.a = 0 <;> first
          | (simp only [↓cT, ↓cF, h1, h2, h3, Bool.not_true, Bool.not_false, eb, ea, Int.reduceLT, decide_true, decide_false, hsl, dF (by omega : ¬ ((st.length : Int) < 0))]; done)
          | exact absurd ⟨h1, h2, h3⟩ hc
    · rw [stepP_1 e]
      by_cases hc : namedF nd.kind nd.name = true ∧ 1 ≤ st.length ∧ nd.b = 0 ∧ st[st.length - 1]? = some nd.a
      · rw [if_pos hc]
        have hx : w64 ((st.length : Int) - 1) = ((st.length - 1 : Nat) : Int) := by rw [w64_eq (by omega) (by omega)]; omega
        exact good 1 1 hc.2.1 rfl (fun α kr kx => by
          rw [start, e, hc.1]
          simp only [↓cT, ↓cF, Bool.not_true, eb, ea, hc.2.2.1, Int.reduceLT, decide_true, decide_false, hsl, dF (by omega : ¬ ((st.length : Int) < 1))]
          unfold r4Right.u5.f r4Right.u8.f
          simp only [↓cT, ↓cF, Int.reduceEq, decide_true, decide_false, Bool.not_true, hx, int_rd ap1.rd rfl hc.2.2.2, ea, hsl])
      · rw [if_neg hc]
        refine bad fun α kr kx => ?_
        rw [start, e]
        by_cases h1 : namedF nd.kind nd.name = true
        · by_cases h2 : 1 ≤ st.length
          · have hx : w64 ((st.length : Int) - 1) = ((st.length - 1 : Nat) : Int) := by rw [w64_eq (by omega) (by omega)]; omega
            obtain ⟨v, hv⟩ : ∃ v, st[st.length - 1]? = some v := ⟨_, List.getElem?_eq_getElem (by omega)⟩
            by_cases h3 : nd.b = 0
            · have h4 : ¬ v = nd.a := fun h => hc ⟨h1, h2, h3, by rw [hv, h]⟩
              simp only [↓cT, ↓cF, Bool.not_true, eb, ea, h1, h3, Int.reduceLT, decide_true, decide_false, hsl, dF (by omega : ¬ ((st.length : Int) < 1))]
              unfold r4Right.u5.f r4Right.u8.f
              simp only [↓cT, ↓cF, Int.reduceEq, decide_true, decide_false, Bool.not_true, Bool.not_false, hx, int_rd ap1.rd rfl hv, ea, hsl, h4]
            · simp only [↓cT, ↓cF, Bool.not_true, Bool.not_false, eb, ea, h1, h3, Int.reduceLT, decide_true, decide_false, hsl, dF (by omega : ¬ ((st.length : Int) < 1))]
          · simp only [↓cT, ↓cF, Bool.not_true, Bool.not_false, h1, Int.reduceLT, decide_true, decide_false, hsl, dT (by omega : ((st.length : Int) < 1))]
        · simp only [↓cT, ↓cF, h1, Bool.not_false, Int.reduceLT, decide_false]
    · rw [stepP_2 e]
      by_cases hc : namedF nd.kind nd.name = true ∧ 2 ≤ st.length ∧ st[st.length - 1]? = some nd.b ∧ st[st.length - 2]? = some nd.a
      · rw [if_pos hc]
        have hx : w64 ((st.length : Int) - 1) = ((st.length - 1 : Nat) : Int) := by rw [w64_eq (by omega) (by omega)]; omega
        have hy : w64 ((st.length : Int) - 2) = ((st.length - 2 : Nat) : Int) := by rw [w64_eq (by omega) (by omega)]; omega
        exact good 2 2 hc.2.1 rfl (fun α kr kx => by
          rw [start, e, hc.1]
          simp only [↓cT, ↓cF, Bool.not_true, Int.reduceLT, decide_true, decide_false, hsl, dF (by omega : ¬ ((st.length : Int) < 2))]
          unfold r4Right.u5.f r4Right.u8.f
          simp only [↓cT, ↓cF, Int.reduceEq, decide_true, decide_false, Bool.not_true, hx, hy, int_rd ap1.rd rfl hc.2.2.1, int_rd ap1.rd rfl hc.2.2.2, ea, eb, hsl])
      · rw [if_neg hc]
        refine bad fun α kr kx => ?_
        rw [start, e]
        by_cases h1 : namedF nd.kind nd.name = true
        · by_cases h2 : 2 ≤ st.length
          · have hx : w64 ((st.length : Int) - 1) = ((st.length - 1 : Nat) : Int) := by rw [w64_eq (by omega) (by omega)]; omega
            have hy : w64 ((st.length : Int) - 2) = ((st.length - 2 : Nat) : Int) := by rw [w64_eq (by omega) (by omega)]; omega
            obtain ⟨v, hv⟩ : ∃ v, st[st.length - 1]? = some v := ⟨_, List.getElem?_eq_getElem (by omega)⟩
            obtain ⟨u, hu⟩ : ∃ v, st[st.length - 2]? = some v := ⟨_, List.getElem?_eq_getElem (by omega)⟩
            simp only [↓cT, ↓cF, Bool.not_true, h1, Int.reduceLT, decide_true, decide_false, hsl, dF (by omega : ¬ ((st.length : Int) < 2))]
            unfold r4Right.u5.f r4Right.u8.f
            by_cases h3 : v = nd.b
            · have h4 : ¬ u = nd.a := fun h => hc ⟨h1, h2, by rw [hv, h3], by rw [hu, h]⟩
              simp only [↓cT, ↓cF, Int.reduceEq, decide_true, decide_false, Bool.not_true, Bool.not_false, hx, hy, int_rd ap1.rd rfl hv, int_rd ap1.rd rfl hu, ea, eb, hsl, h3, h4]
            · simp only [↓cT, ↓cF, Int.reduceEq, decide_true, decide_false, Bool.not_true, Bool.not_false, hx, hy, int_rd ap1.rd rfl hv, ea, eb, hsl, h3]
          · simp only [↓cT, ↓cF, Bool.not_true, Bool.not_false, h1, Int.reduceLT, decide_true, decide_false, hsl, dT (by omega : ((st.length : Int) < 2))]
        · simp only [↓cT, ↓cF, h1, Bool.not_false, Int.reduceLT, decide_false]
theorem rright_run (k : Nat) (hk : 70 ≤ k) {f : Sl} {l : List Nd} (hnl : NL l) (h : H) (r : NdR h f l) : ∃ h', (∀ (α : Type) (ret : Bool → M α), r4Right.f (k + 1) f ret h = ret (rightF l) h') ∧ Ext h h' := by
  have hfl := nd_slen r
  unfold rightF
  by_cases hl : 1 ≤ l.length ∧ l.length ≤ 60
  rotate_left
  · refine ⟨h, fun α ret => ?_, Ext.refl h⟩
    simp only [r4Right.f]
    unfold r4Right.u16.f r4Right.u1.f
    rw [hfl, dF hl]
    by_cases h1 : (l.length : Int) < 1
    · rw [dT h1]; rfl
    · rw [dF h1, dT (by omega : (60 : Int) < (l.length : Int))]; rfl
  obtain ⟨h', x', rest⟩ := rright_loop k hk h r hl.2 hnl k 0 [] Sl.nil h (Nat.zero_le _) (by omega) (Ext.refl h) (App.nilSl h 1) (Nat.le_refl _)
  rw [List.drop_zero] at rest
  have start : ∀ (α : Type) (ret : Bool → M α), r4Right.f (k + 1) f ret h = r4Right.u11.l k ret (fun y0 => r4Right.u14.f k y0 ret) k f Sl.nil ((0 : Nat) : Int) h := fun α ret => by
    simp only [r4Right.f]
    unfold r4Right.u16.f r4Right.u1.f
    rw [hfl, dF (by omega : ¬ (l.length : Int) < 1), cond_false, dF (by omega : ¬ (60 : Int) < (l.length : Int)), cond_false]
    unfold r4Right.u15.f r4Right.u13.f r4Right.u2.f r4Right.u12.f r4Right.u11.f
    rfl
  refine ⟨h', fun α ret => (start α ret).trans ?_, x'⟩
  rw [dT hl, Bool.true_and]
  cases hr : rightL l 0 [] with
  | none => rw [hr] at rest; exact rest α ret _
  | some st' =>
    rw [hr] at rest
    obtain ⟨sl', hl', e'⟩ := rest
    refine (e' α ret _).trans ?_
    unfold r4Right.u14.f
    rw [hl']
    dsimp only
    congr 1
    by_cases h1 : st'.length = 1 <;> simp [h1]
    omega
end Go.Ab.S3
