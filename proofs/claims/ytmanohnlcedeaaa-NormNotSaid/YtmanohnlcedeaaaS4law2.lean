import Derived.Test.YtmanohnlcedeaaaS4law
namespace Go.Ab.S4
set_option linter.unusedVariables false
set_option linter.unusedSimpArgs false
variable {α : Type} {h : H}
theorem not_wide {l : List Nd} {u : Tr} (w : Wide l u) (p : Int) (hs : u.size + 1 ≤ 60) : Wide (l ++ [⟨5, (u.size : Int) - 1, 0, [], p⟩]) (.un 5 [] p u) := by
  have hp := Tr.pos u
  refine ⟨?_, hs, ?_, ?_⟩
  · simp only [Tr.pl, Tr.ok, w.ok]; decide
  · rw [w.flat]
    simp only [Tr.flat, Tr.node, Nat.zero_add]
    congr 3
    omega
  · have ho : (Tr.un 5 [] p u).pl.ok = true := by simp only [Tr.pl, Tr.ok, w.ok]; decide
    obtain ⟨h1, h2, h3⟩ := (chk_fit w.ok).1 w.chk
    exact (chk_fit ho).2 ⟨h1, by
      show (fxs u.pl ++ []).Nodup
      rw [List.append_nil]; exact h2, h3⟩
theorem right_plain {l : List Nd} {u : Tr} (hR : rightF l = true) (hl : l = u.flat 0) : l.map plN = l := by
  obtain ⟨t, h1, h2, h3⟩ := (right_iff l).1 hR
  have key : ∀ (t : Tr) (base : Nat), t.ok = true → (t.flat base).map plN = t.flat base := by
    intro t
    induction t with
    | leaf k s p =>
      intro base h
      simp only [Tr.ok, Bool.and_eq_true, decide_eq_true_eq] at h
      have : k ≠ 12 := by rintro rfl; exact absurd h.1 (by decide)
      simp [Tr.flat, Tr.node, plN, plK, this]
    | un k s p a ih =>
      intro base h
      simp only [Tr.ok, Bool.and_eq_true, decide_eq_true_eq] at h
      have : k ≠ 12 := by rintro rfl; exact absurd h.1.1 (by decide)
      simp [Tr.flat, Tr.node, plN, plK, this, ih base h.2]
    | bin k s p a b iha ihb =>
      intro base h
      simp only [Tr.ok, Bool.and_eq_true, decide_eq_true_eq] at h
      have : k ≠ 12 := by rintro rfl; exact absurd h.1.1.1 (by decide)
      simp [Tr.flat, Tr.node, plN, plK, this, iha base h.1.2, ihb _ h.2]
  rw [h2]
  exact key t 0 h1
theorem check_of (k : Nat) (hk : 600 ≤ k) {f : Sl} {l : List Nd} (h : H) (r : NdR h f l) : ∃ e : Int × Int, (∃ h', (∀ (α : Type) (ret : Int → Int → M α), bind_Check.f (k + 1) f ret h = ret e.1 e.2 h') ∧ Ext h h') ∧
    ((rightF l = false) ∨ (rightF l = true ∧ ((∃ u, Wide l u) ∧ e.2 = 0 ∨ NotWide l ∧ e.2 ≠ 0))) := by
  rcases hR : rightF l with _ | _
  · obtain ⟨h', e, x⟩ := check_bad k (by omega) hR h r
    exact ⟨(0, 1), ⟨h', e, x⟩, .inl rfl⟩
  · obtain ⟨t, h1, h2, h3⟩ := (right_iff l).1 hR
    have hpl := right_plain hR h2
    have r' := r
    rw [h2] at r'
    obtain ⟨h', e, x⟩ := check_run k (by omega) h1 h3 h r'
    refine ⟨chkT t, ⟨h', e, x⟩, .inr ⟨rfl, ?_⟩⟩
    obtain ⟨u, hu1, hu2⟩ := wide_tree t 0 l (by rw [hpl]; exact h2)
    have hus : u.size ≤ 60 := by rw [← pl_size, hu1]; exact h3
    by_cases hc : (chkT t).2 = 0
    · exact .inl ⟨⟨u, by rw [hu1]; exact h1, hus, hu2, by rw [hu1]; exact hc⟩, hc⟩
    · exact .inr ⟨.inr ⟨u, by rw [hu1]; exact h1, hus, hu2, by rw [hu1]; exact hc⟩, hc⟩
theorem small48 (n : Nat) (h : n ≤ 100) : (n + 1 + (n + 1) / 4 + 512) * 48 ≤ 281474976710656 := by omega
theorem NormNot_law {f : Sl} {l : List Nd} {h : H} (r : NdR h f l) (hnl : NL l) (hr : Room l.length) : ∃ k h', ∀ (α : Type) (ret : Bool → M α), w6NormNot.f (k + 1) f ret h = ret true h' := by
  obtain ⟨k, hk1, hk2⟩ : ∃ k, 4000000 ≤ k ∧ l.length + 2000 ≤ k := ⟨4002000 + l.length, by omega, by omega⟩
  refine ⟨k + 1, ?_⟩
  have hlen := nd_slen r
  have hle := hr.le
  obtain ⟨h1, e1, x1⟩ := shown6_run k hk1 h
  obtain ⟨e, ⟨h2, e2, x2⟩, he⟩ := check_of k (by omega) h1 (r.ext x1)
  have r2 := r.ext (x1.trans x2)
  -- what is asked is answered
  have hw : ((∃ u, Wide l u) ∧ (rightF l = true → e.2 = 0)) ∨ (NotWide l ∧ (rightF l = true → e.2 ≠ 0)) := by
    rcases he with he | ⟨he, ⟨w, h0⟩ | ⟨w, h0⟩⟩
    · exact (wide_or l).imp (fun w => ⟨w, fun h => by rw [he] at h; cases h⟩) (fun w => ⟨w, fun h => by rw [he] at h; cases h⟩)
    · exact .inl ⟨w, fun _ => h0⟩
    · exact .inr ⟨w, fun _ => h0⟩
  rcases hw with ⟨⟨u, w⟩, hW⟩ | ⟨w, hW⟩
  · obtain ⟨a, h3, e3, x3, p3, _⟩ := pn_good false k (by omega) w h2 r2
    obtain ⟨h4, e4, x4⟩ := right_run k (by omega) h3 (r2.ext x3)
    have ra := p3.rd.ext x4
    have r4 := r2.ext (x3.trans x4)
    have la := nd_slen ra
    rw [flen] at la
    have hp := Tr.pos (nfT u false)
    have hs := w.size
    have hl : l.length = u.size := by rw [w.flat, flat_length]
    have first : ∀ (α : Type) (ret : Bool → M α), w6NormNot.f (k + 1 + 1) f ret h = w6NormNot.u2.f (k + 1) f a ret h4 := by
      intro α ret
      simp only [w6NormNot.f, w6NormNot.u3.f, w6NormNot.u1.f, pos_run]
      rw [e1, e2, e3, Bool.not_true, cond_false, e4]
      cases hR : rightF l with
      | false => rfl
      | true =>
        have h0 := hW hR
        rw [cond_true, la, dT (show ((0 : Int) < ((nfT u false).size : Int)) by omega), dT h0, dT rfl]
        rfl
    by_cases h60 : 60 < l.length + 2
    · refine ⟨h4, fun α ret => ?_⟩
      rw [first, w6NormNot.u2.f, la, dF (by omega), cond_false, hlen, w64_eq (by omega) (by omega), dT (by omega), cond_true]
    · obtain ⟨d, h5, e5, ap5, x5, o5, l5, _⟩ := app_copy (bytes := 48) r4 (by decide) (by decide) (by rw [hlen]; exact room_a hr)
      have hd : d.len = l.length := nd_slen ap5.rd
      obtain ⟨h6, e6, ap6, g6, n6, k6⟩ := app_made (bytes := 48) (more := (⟨5, (u.size : Int) - 1, 0, [], 99⟩ : Nd).cells) ap5 rfl rfl (n := 1) (by decide) (by decide) (small48 _ (by omega))
      have hc : cN l ++ (⟨5, (u.size : Int) - 1, 0, [], 99⟩ : Nd).cells = cN (l ++ [⟨5, (u.size : Int) - 1, 0, [], 99⟩]) := by simp [List.flatMap_append]
      rw [hc] at ap6
      have x6 : Ext h4 h6 := ⟨by rw [n6]; have := x5.1; omega, fun i hi => by
        rw [k6 i (Nat.lt_of_lt_of_le hi x5.1) (fun _ a ha => by have := o5 a ha; omega)]; exact x5.2 i hi⟩
      have w1 := not_wide w 99 (by omega)
      generalize hg : l ++ [(⟨5, (u.size : Int) - 1, 0, [], 99⟩ : Nd)] = lg at ap6 w1
      have hlg : lg.length = l.length + 1 := by rw [← hg]; simp
      obtain ⟨d2, h7, e7, ap7, x7, o7, l7, _⟩ := app_copy (bytes := 48) ap6.rd (by decide) (by decide) (small48 d.len (by omega))
      have hd2 : d2.len = l.length + 1 := by rw [nd_slen ap7.rd, hlg]
      have w2 := not_wide w1 98 (by simp only [Tr.size]; omega)
      simp only [Tr.size] at w2
      obtain ⟨h8, e8, ap8, g8, n8, k8⟩ := app_made (bytes := 48) (more := (⟨5, ((u.size + 1 : Nat) : Int) - 1, 0, [], 98⟩ : Nd).cells) ap7 rfl rfl (n := 1) (by decide) (by decide) (small48 _ (by omega))
      have hc2 : cN lg ++ (⟨5, ((u.size + 1 : Nat) : Int) - 1, 0, [], 98⟩ : Nd).cells = cN (lg ++ [⟨5, ((u.size + 1 : Nat) : Int) - 1, 0, [], 98⟩]) := by simp [List.flatMap_append]
      rw [hc2] at ap8
      have x8 : Ext h6 h8 := ⟨by rw [n8]; have := x7.1; omega, fun i hi => by
        rw [k8 i (Nat.lt_of_lt_of_le hi x7.1) (fun _ a ha => by have := o7 a ha; omega)]; exact x7.2 i hi⟩
      generalize hg2 : lg ++ [(⟨5, ((u.size + 1 : Nat) : Int) - 1, 0, [], 98⟩ : Nd)] = lh at ap8 w2
      obtain ⟨s9, h9, e9, x9, p9, _⟩ := pn_good false k (by omega) w1 h8 (ap6.rd.ext x8)
      obtain ⟨s10, h10, e10, x10, p10, _⟩ := pn_good true k (by omega) w h9 (r4.ext ((x6.trans x8).trans x9))
      have hk60 : ∀ g : Bool, ((nfT u g).flat 0).length + 2 ≤ k := fun g => by rw [flen]; have := nf_le u g; omega
      have n1 : nfT (.un 5 [] 99 u) false = nfT u true := by simp [nfT]
      have n2 : nfT (.un 5 [] 98 (.un 5 [] 99 u)) false = nfT u false := by simp [nfT]
      rw [n1] at p9
      obtain ⟨h11, e11, x11⟩ := same_true k h10 (p9.rd.ext x10) p10.rd (hk60 true) (by rw [flen]; have := nf_le u true; omega)
      obtain ⟨s12, h12, e12, x12, p12, _⟩ := pn_good false k (by omega) w2 h11 (ap8.rd.ext ((x9.trans x10).trans x11))
      rw [n2] at p12
      obtain ⟨h13, e13, x13⟩ := same_true k h12 p12.rd (ra.ext (((((x6.trans x8).trans x9).trans x10).trans x11).trans x12)) (hk60 false) (by rw [flen]; have := nf_le u false; omega)
      refine ⟨h13, fun α ret => ?_⟩
      have b1 := e5 α (fun x5 => new (⟨5, (u.size : Int) - 1, 0, [], 99⟩ : Nd).cells fun r6 => appRow x5 5 48 ⟨some r6, 1, 1, none⟩ fun x7 => new [] fun r8 => appRow ⟨some r8, 0, 0, none⟩ 5 48 x7 fun x9 => new (⟨5, ((u.size + 1 : Nat) : Int) - 1, 0, [], 98⟩ : Nd).cells fun r10 => appRow x9 5 48 ⟨some r10, 1, 1, none⟩ fun x11 =>
        posneg false (k + 1) x7 fun r12 => posneg true (k + 1) f fun r13 => r4Same.f (k + 1) r12 r13 true fun r14 => posneg false (k + 1) x11 fun r15 => r4Same.f (k + 1) r15 a true fun r16 => cond r14 (ret r16) (ret false))
      have b2 := e6 α (fun x7 => new [] fun r8 => appRow ⟨some r8, 0, 0, none⟩ 5 48 x7 fun x9 => new (⟨5, ((u.size + 1 : Nat) : Int) - 1, 0, [], 98⟩ : Nd).cells fun r10 => appRow x9 5 48 ⟨some r10, 1, 1, none⟩ fun x11 =>
        posneg false (k + 1) x7 fun r12 => posneg true (k + 1) f fun r13 => r4Same.f (k + 1) r12 r13 true fun r14 => posneg false (k + 1) x11 fun r15 => r4Same.f (k + 1) r15 a true fun r16 => cond r14 (ret r16) (ret false))
      rw [first]
      simp only [w6NormNot.u2.f, pos_run, neg_run]
      rw [la, dF (by omega), cond_false, hlen, w64_eq (by omega) (by omega), dF (by omega), cond_false, w64_eq (by omega) (by omega), hl, show (u.size : Int) = ((u.size + 1 : Nat) : Int) - 1 by omega, show ((u.size + 1 : Nat) : Int) - 1 - 1 = (u.size : Int) - 1 by omega]
      refine b1.trans (b2.trans ((e7 α _).trans ((e8 α _).trans ?_)))
      rw [e9, e10, e11, e12, e13, cond_true]
  · obtain ⟨h3, e3, x3⟩ := pn_not false k w hr (by omega) h2 r2
    obtain ⟨h4, e4, x4⟩ := right_run k (by omega) h3 (r2.ext x3)
    refine ⟨h4, fun α ret => ?_⟩
    simp only [w6NormNot.f, w6NormNot.u3.f, w6NormNot.u1.f, pos_run]
    rw [e1, e2, e3, Bool.not_true, cond_false, e4]
    have fin : w6NormNot.u2.f (k + 1) f Sl.nil ret h4 = ret true h4 := by
      rw [w6NormNot.u2.f, dT (show ((Sl.nil.len : Nat) : Int) = 0 from rfl), cond_true]
    cases hR : rightF l with
    | false => exact fin
    | true =>
      have h0 := hW hR
      rw [cond_true, dF (show ¬ ((0 : Int) < ((Sl.nil.len : Nat) : Int)) by decide), dF h0, dT rfl]
      exact fin
end Go.Ab.S4
