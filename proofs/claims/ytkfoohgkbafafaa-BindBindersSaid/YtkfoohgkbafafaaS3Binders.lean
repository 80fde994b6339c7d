import Derived.Test.YtkfoohgkbafafaaS3sh
import Derived.Test.YtkfoohgkbafafaaS3q2
namespace Go.Ab.S3
set_option linter.unusedVariables false
set_option linter.unusedSimpArgs false
variable {α : Type} {h : H}
/-- both tell the same -/
theorem binders_both {l : List Nd} (hnl : NL l) : ∃ T : List Int, T.length ≤ 60 ∧
    (∀ (k : Nat) (hk : 500 ≤ k) (f : Sl) (h : H) (r : NdR h f l), ∃ h' s, (∀ (α : Type) (ret : Sl → M α), bind_Binders.f (k + 1) f ret h = ret s h') ∧ Ext h h' ∧ App h' s 1 (cIs T) ∧ s.loose = none) ∧
    (∀ (k : Nat) (hk : 500 ≤ k) (f : Sl) (h : H) (r : NdR h f l), ∃ h' s, (∀ (α : Type) (ret : Sl → M α), bailiffref05_Binders.f (k + 1) f ret h = ret s h') ∧ Ext h h' ∧ App h' s 1 (cIs T)) := by
  rcases right_or l with hR | ⟨t, hR, ht, rfl, hs⟩
  · refine ⟨[], by decide, fun k hk f h r => ?_, fun k hk f h r => ?_⟩
    · obtain ⟨h', e, x⟩ := binders_bad k hk hR h r
      exact ⟨h', _, e, x, App.nilSl _ _, rfl⟩
    · obtain ⟨h', e, x⟩ := rbinders_bad k hk hR hnl h r
      exact ⟨h', _, e, x, App.nilSl _ _⟩
  · refine ⟨toA t 0 [], by rw [toA_length]; exact hs, fun k hk f h r => ?_, fun k hk f h r => ?_⟩
    · obtain ⟨h', s, e, x, o, _, l1, l2⟩ := binders_run k hk ht hs h r
      exact ⟨h', s, e, x, o.app l1 (by rw [l2, slen (size := 1) (fun _ => rfl) (by decide) o.rd, toA_length]), l1⟩
    · obtain ⟨h', s, e, x, a, _⟩ := rbinders_run k hk ht hs hnl h r
      exact ⟨h', s, e, x, a⟩
theorem bb_same (k : Nat) {o s w f : Sl} {b : Bool} {c : Int} {T : List Int} (hT : T.length ≤ 60) (rs : Rd h s 1 (cIs T)) (rw' : Rd h w 1 (cIs T)) : ∀ (j i : Nat), i ≤ T.length → T.length - i < j → ∀ (kr : Bool → M α) (kx : Sl → Bool → Sl → Sl → Int → Sl → M α),
    bailifflaw05_BindBinders.u7.l k kr kx j f b o w c s (i : Int) h = kx f b o w c s h := by
  have hs : s.len = T.length := slen (size := 1) (fun _ => rfl) (by decide) rs
  intro j
  induction j with
  | zero => intro i _ h2; omega
  | succ j ih =>
    intro i h1 h2 kr kx
    rw [bailifflaw05_BindBinders.u7.l, bailifflaw05_BindBinders.u6.f]
    by_cases hi : i < T.length
    · have hg : T[i]? = some T[i] := List.getElem?_eq_getElem hi
      rw [dT (by rw [hs]; omega), cond_true, int_rd rs rfl hg, int_rd rw' rfl hg, dT rfl, Bool.not_true, cond_false, w64_eq (by omega) (by omega)]
      exact ih (i + 1) (by omega) (by omega) kr kx
    · rw [dF (by rw [hs]; omega), cond_false]
theorem bb_fill (k : Nat) {o s w f : Sl} {b : Bool} {c : Int} {n : Nat} (hn : n ≤ 100) : ∀ (j i : Nat) (Q : List Int) (h : H), Own h s 1 (cIs Q) → Q.length = n → i ≤ n → n - i < j →
    ∃ h', (∀ (α : Type) (kx : Sl → Bool → Sl → Sl → Int → M α), bailifflaw05_BindBinders.u12.l k kx j f b o w c s (i : Int) h = kx f b o w c h') ∧ h'.next = h.next ∧ ∀ q, q ≠ s.id → h'.get q = h.get q := by
  intro j
  induction j with
  | zero => intro i Q h _ _ _ h2; omega
  | succ j ih =>
    intro i Q h ow hQ h1 h2
    have hs : s.len = Q.length := slen (size := 1) (fun _ => rfl) (by decide) ow.rd
    by_cases hi : i < n
    · obtain ⟨h', e, o', n', g'⟩ := int_st ow (x := (i : Int)) 77 rfl (by omega : i < Q.length)
      obtain ⟨h'', e2, n2, g2⟩ := ih (i + 1) _ h' o' (by simp [hQ]) (by omega) (by omega)
      refine ⟨h'', fun α kx => ?_, by rw [n2, n'], fun q hq => by rw [g2 q hq, g' q hq]⟩
      rw [bailifflaw05_BindBinders.u12.l, bailifflaw05_BindBinders.u11.f, dT (by rw [hs]; omega), cond_true, e, w64_eq (by omega) (by omega)]
      exact e2 α kx
    · refine ⟨h, fun α kx => ?_, rfl, fun _ _ => rfl⟩
      rw [bailifflaw05_BindBinders.u12.l, bailifflaw05_BindBinders.u11.f, dF (by rw [hs]; omega), cond_false]
theorem bb_round (k : Nat) (hk : 500 ≤ k) {l : List Nd} {T : List Int} (hT : T.length ≤ 60)
    (hb : ∀ (k : Nat) (hk : 500 ≤ k) (f : Sl) (h : H) (r : NdR h f l), ∃ h' s, (∀ (α : Type) (ret : Sl → M α), bind_Binders.f (k + 1) f ret h = ret s h') ∧ Ext h h' ∧ App h' s 1 (cIs T) ∧ s.loose = none)
    {o w f : Sl} {c : Nat} (hc : c < 2) (h : H) (r : NdR h o l) (rw' : Rd h w 1 (cIs T)) :
    ∃ h', Ext h h' ∧ ∀ (α : Type) (kn : Sl → Bool → Sl → Sl → Int → M α) (kr : Bool → M α) (kx : Sl → Sl → M α), bailifflaw05_BindBinders.u20.f (k + 1) f true o w (c : Int) kn kr kx h = kn f true o w ((c + 1 : Nat) : Int) h' := by
  obtain ⟨h1, s, e1, x1, a1, lo⟩ := hb k hk o h r
  have hs : s.len = T.length := slen (size := 1) (fun _ => rfl) (by decide) a1.rd
  have hw : w.len = T.length := slen (size := 1) (fun _ => rfl) (by decide) rw'
  obtain ⟨h2, e2, a2, g2, n2, k2⟩ := app_made (bytes := 8) (more := [.int .i64 5]) a1 (n := 1) rfl rfl (by decide) (by decide) (by rw [hs]; exact room1 _ (by omega))
  have ow : Own h2 ⟨some ⟨h1.next + 1, 0⟩, s.len + 1, s.len + 1, some 1⟩ 1 (cIs (T ++ [5])) := by
    refine ⟨by rw [flat_len (size := 1) (fun _ => rfl)]; simp [hs], _, [], rfl, ?_, by rw [n2]; omega⟩
    rw [g2]
    simp [List.flatMap_append]
    rfl
  obtain ⟨h3, e3, n3, g3⟩ := bb_fill (k + 1) (f := f) (b := true) (o := o) (w := w) (c := (c : Int)) (n := T.length + 1) (by omega) (k + 1) 0 (T ++ [5]) h2 ow (by simp) (by omega) (by omega)
  refine ⟨h3, x1.trans ⟨by rw [n3, n2]; omega, fun i hi => ?_⟩, fun α kn kr kx => ?_⟩
  · rw [g3 i (by show i ≠ h1.next + 1; omega), k2 i hi (fun hne => absurd lo hne)]
  · rw [bailifflaw05_BindBinders.u20.f, bailifflaw05_BindBinders.u3.f, dT (by omega), cond_true, bailifflaw05_BindBinders.u19.f, bailifflaw05_BindBinders.u17.f, bailifflaw05_BindBinders.u16.f, bailifflaw05_BindBinders.u4.f, e1, Bool.not_true, cond_false, hs, hw, dT rfl, Bool.not_true, cond_false,
      bailifflaw05_BindBinders.u15.f, bailifflaw05_BindBinders.u9.f, bailifflaw05_BindBinders.u5.f, bailifflaw05_BindBinders.u8.f, bailifflaw05_BindBinders.u7.f]
    refine (bb_same (k + 1) hT a1.rd (rw'.ext x1) (k + 1) 0 (by omega) (by omega) _ _).trans ?_
    rw [bailifflaw05_BindBinders.u14.f, bailifflaw05_BindBinders.u10.f, e2, bailifflaw05_BindBinders.u13.f, bailifflaw05_BindBinders.u12.f]
    refine (e3 α _).trans ?_
    rw [bailifflaw05_BindBinders.u18.f, w64_eq (by omega) (by omega)]
    rfl
theorem BindBinders_law {f : Sl} {l : List Nd} {h : H} (r : NdR h f l) (hnl : NL l) (hr : Room l.length) : ∃ k h', ∀ (α : Type) (ret : Bool → M α), bailifflaw05_BindBinders.f (k + 1) f ret h = ret true h' := by
  have hk : ∃ k, 4000000 ≤ k ∧ l.length ≤ k := ⟨4000000 + l.length, by omega, by omega⟩
  obtain ⟨k, hk1, hk2⟩ := hk
  refine ⟨k + 10, ?_⟩
  obtain ⟨T, hT, hb, hrb⟩ := binders_both hnl
  obtain ⟨h1, e1, x1⟩ := shown_run (k + 9) (by omega) h
  obtain ⟨h2, o, e2, x2, L2⟩ := lent_run (k + 9) h1 (r.ext x1) hr
  obtain ⟨h3, w, e3, x3, a3⟩ := hrb (k + 9) (by omega) f h2 (r.ext (x1.trans x2))
  have L3 := L2.ext x3
  obtain ⟨h4, x4, e4⟩ := bb_round (k + 9) (by omega) hT hb (f := f) (c := 0) (by decide) h3 L3.rd a3.rd
  obtain ⟨h5, x5, e5⟩ := bb_round (k + 9) (by omega) hT hb (f := f) (c := 1) (by decide) h4 (L3.ext x4).rd (a3.rd.ext x4)
  obtain ⟨h6, e6, x6⟩ := kept_run (k + 9) h5 ((L3.ext x4).ext x5) (r.ext ((((x1.trans x2).trans x3).trans x4).trans x5)) (by omega) hr.le
  refine ⟨h6, fun α ret => ?_⟩
  obtain ⟨j, hj⟩ : ∃ j, k + 9 + 1 = j + 1 + 1 + 1 := ⟨k + 7, by omega⟩
  have loop : ∀ (kr : Bool → M α) (kx : Sl → Sl → M α), bailifflaw05_BindBinders.u21.f (k + 9 + 1) f true o w 0 kr kx h3 = kx f o h5 := by
    intro kr kx
    rw [bailifflaw05_BindBinders.u21.f]
    conv => lhs; arg 4; rw [hj]
    rw [bailifflaw05_BindBinders.u21.l]
    refine (e4 α _ _ _).trans ?_
    rw [bailifflaw05_BindBinders.u21.l]
    refine (e5 α _ _ _).trans ?_
    rw [bailifflaw05_BindBinders.u21.l, bailifflaw05_BindBinders.u20.f, bailifflaw05_BindBinders.u3.f, dF (by decide), cond_false]
  rw [bailifflaw05_BindBinders.f, bailifflaw05_BindBinders.u26.f, bailifflaw05_BindBinders.u1.f, e1, e2, e3, bailifflaw05_BindBinders.u25.f, bailifflaw05_BindBinders.u23.f, bailifflaw05_BindBinders.u2.f, bailifflaw05_BindBinders.u22.f]
  refine (loop _ _).trans ?_
  rw [bailifflaw05_BindBinders.u24.f, e6]
end Go.Ab.S3
