import Derived.Test.YtkfoohgkbafafaaS3j
namespace Go.Ab.S3
set_option linter.unusedVariables false
set_option linter.unusedSimpArgs false
variable {α : Type} {h : H}
theorem own_kind {n : Nd} {q : Nat} (hq : h.get q = some (ndC n)) (K : Int → M α) : ldI .i64 (((⟨q, 0⟩ : Ad).add 0).add 0) K h = K n.kind h := ldI_run (by simp only [add_mk]; rw [cell_of (a := ⟨q, 0 + 0 + 0⟩) hq]; rfl)
theorem own_all {n : Nd} {q : Nat} (hq : h.get q = some (ndC n)) (K : Int → Int → Int → List UInt8 → Int → M α) :
    (ldI .i64 ((⟨q, 0⟩ : Ad).add 0) fun y0 => ldI .i64 ((⟨q, 0⟩ : Ad).add 1) fun y1 => ldI .i64 ((⟨q, 0⟩ : Ad).add 2) fun y2 => ldStr ((⟨q, 0⟩ : Ad).add 3) fun y3 => ldI .i64 ((⟨q, 0⟩ : Ad).add 4) fun y4 => K y0 y1 y2 y3 y4) h = K n.kind n.a n.b n.name n.pos h := by
  simp only [add_mk]
  rw [ldI_run (by rw [cell_of (a := ⟨q, 0 + 0⟩) hq]; rfl), ldI_run (by rw [cell_of (a := ⟨q, 0 + 1⟩) hq]; rfl), ldI_run (by rw [cell_of (a := ⟨q, 0 + 2⟩) hq]; rfl), ldStr_run (by rw [cell_of (a := ⟨q, 0 + 3⟩) hq]; rfl), ldI_run (by rw [cell_of (a := ⟨q, 0 + 4⟩) hq]; rfl)]
theorem fix_run (k : Nat) (n : Nd) (ret : Bool → M α) : bind_fix.f (k + 1) n.kind n.a n.b n.name n.pos ret h = ret (fixK n.kind) (h.push (ndC n)) := by
  rw [bind_fix.f, bind_fix.u1.f, new_run rfl, n5_0]
  unfold fixK
  by_cases h1 : n.kind = 10
  · rw [dT h1, cond_true]; rfl
  · rw [dF h1, cond_false, n5_0]; rfl
/-! ### walked -/
theorem minus_loop {h₀ : H} {w : Nat} {f to odd dep : Sl} {l : List Nd} {ins : Sl} {sc : List (Int × Int)} {nots : Int} {O : List Bool} {D : List Int} (d : WD h₀ w to odd dep) (k : Nat) {n : Nat} (hn : n ≤ 1000) : ∀ (j i : Nat) (h : H), i ≤ n → n - i < j →
    WS h₀ h w f to odd dep l ins sc nots (List.replicate i (-1) ++ List.replicate (n - i) 0) O D → ∃ h', (∀ (α : Type) (kx : Sl → Ad → M α), bind_walked.u4.l k kx j f ⟨w, 0⟩ (n : Int) (i : Int) h = kx f ⟨w, 0⟩ h') ∧
      WS h₀ h' w f to odd dep l ins sc nots (List.replicate n (-1)) O D ∧ h.next ≤ h'.next := by
  intro j
  induction j with
  | zero => intro i h hi hj; omega
  | succ j ih =>
    intro i h hi hj W
    by_cases hlt : i < n
    · obtain ⟨h1, e1, o1, n1, g1⟩ := int_st W.to (x := (i : Int)) (i := i) (-1) rfl (by simp; omega)
      have W1 := W.setto d o1 n1 g1
      have es : (List.replicate i (-1) ++ List.replicate (n - i) 0).set i (-1) = List.replicate (i + 1) (-1) ++ List.replicate (n - (i + 1)) (0 : Int) := by
        rw [List.set_append_right _ _ (by simp), List.length_replicate, Nat.sub_self, show n - i = (n - (i + 1)) + 1 by omega, List.replicate_succ, List.set_cons_zero, List.replicate_succ', List.append_assoc]
        rfl
      rw [es] at W1
      obtain ⟨h2, e2, W2, n2⟩ := ih (i + 1) h1 (by omega) (by omega) W1
      refine ⟨h2, fun α kx => ?_, W2, by omega⟩
      rw [bind_walked.u4.l, bind_walked.u3.f, dT (by omega : (i : Int) < (n : Int)), cond_true, w_to W, e1, w64_eq (by omega) (by omega)]
      exact e2 α kx
    · have : i = n := by omega
      subst this
      refine ⟨h, fun α kx => ?_, by simpa using W, Nat.le_refl _⟩
      rw [bind_walked.u4.l, bind_walked.u3.f, dF (by omega : ¬ (i : Int) < (i : Int)), cond_false]
theorem walked_run (k : Nat) (hk : 400 ≤ k) {f : Sl} {t : Tr} (ht : t.ok = true) (hs : t.size ≤ 60) (h : H) (r : NdR h f (t.flat 0)) :
    ∃ h' w to odd dep ins, (∀ (α : Type) (ret : Ad → M α), bind_walked.f (k + 1) f ret h = ret ⟨w, 0⟩ h') ∧ WD h w to odd dep ∧ WS h h' w f to odd dep (t.flat 0) ins [] 0 (toA t 0 []) (oddA t 0 []) (depI t) ∧ to.loose = none ∧ to.cap = t.size := by
  have hfl : f.len = t.size := by rw [nd_slen r, flat_length]
  have hpos := Tr.pos t
  obtain ⟨h1, e1, o1, n1, x1⟩ := mkI_run (h := h) (n := t.size) (x := (f.len : Int)) (y := (f.len : Int)) (by rw [hfl]) (by rw [hfl]) (by omega)
  obtain ⟨h2, e2, o2, n2, x2⟩ := mkB_run (h := h1) (n := t.size) (x := (f.len : Int)) (y := (f.len : Int)) (by rw [hfl]) (by rw [hfl]) (by omega)
  obtain ⟨h3, e3, o3, n3, x3⟩ := mkI_run (h := h2) (n := t.size) (x := (f.len : Int)) (y := (f.len : Int)) (by rw [hfl]) (by rw [hfl]) (by omega)
  have d : WD h h3.next ⟨some ⟨h.next, 0⟩, t.size, t.size, none⟩ ⟨some ⟨h1.next, 0⟩, t.size, t.size, none⟩ ⟨some ⟨h2.next, 0⟩, t.size, t.size, none⟩ := by
    constructor <;> (try simp only [Sl.id, Option.getD_some]) <;> omega
  have x123 := (x1.trans x2).trans x3
  generalize hB : Blk.cells [.slice f, .slice Sl.nil, .int .i64 0, .slice ⟨some ⟨h.next, 0⟩, t.size, t.size, none⟩, .slice ⟨some ⟨h1.next, 0⟩, t.size, t.size, none⟩, .slice ⟨some ⟨h2.next, 0⟩, t.size, t.size, none⟩] true = B
  have x4 : Ext h3 (h3.push B) := (Ext.refl h3).push _
  have W : WS h (h3.push B) h3.next f ⟨some ⟨h.next, 0⟩, t.size, t.size, none⟩ ⟨some ⟨h1.next, 0⟩, t.size, t.size, none⟩ ⟨some ⟨h2.next, 0⟩, t.size, t.size, none⟩ (t.flat 0) Sl.nil [] 0 (List.replicate 0 (-1) ++ List.replicate (t.size - 0) 0) (List.replicate t.size false) (List.replicate t.size 0) := by
    refine ⟨x123.trans x4, by rw [push_get, if_pos rfl, ← hB], by rw [push_next]; omega, r, App.nilSl _ _, Owned.nil _, fun _ => rfl, fun a ha => (by cases ha), ?_, ?_, ?_⟩
    · exact (o1.ext (x2.trans x3)).ext x4
    · exact (o2.ext x3).ext x4
    · exact o3.ext x4
  obtain ⟨h5, e5, W5, n5⟩ := minus_loop d k (by omega) k 0 _ (Nat.zero_le _) (by omega) W
  have W6 : WS h h5 h3.next f ⟨some ⟨h.next, 0⟩, t.size, t.size, none⟩ ⟨some ⟨h1.next, 0⟩, t.size, t.size, none⟩ ⟨some ⟨h2.next, 0⟩, t.size, t.size, none⟩ (t.flat 0) Sl.nil (scopes []) ((cntN [] : Nat) : Int) ([] ++ (List.replicate t.size (-1) ++ [])) ([] ++ (List.replicate t.size false ++ [])) ([] ++ (List.replicate t.size 0 ++ [])) := by
    simpa [scopes, cntN] using W5
  obtain ⟨h6, ins, e6, W7, _, _, _⟩ := node_run d t ht 0 [] k h5 Sl.nil [] [] [] [] [] [] (fun i n hi => by rw [Nat.zero_add]; exact hi) (fun p hp => by cases hp) (by simp; omega) (by omega) rfl rfl rfl W6
  refine ⟨h6, _, _, _, _, ins, fun α ret => ?_, d, by simpa [scopes, cntN] using W7, rfl, rfl⟩
  rw [bind_walked.f, bind_walked.u9.f, bind_walked.u1.f, e1, e2, e3, new_run rfl, hB, bind_walked.u8.f, bind_walked.u6.f, bind_walked.u2.f, w_to W, bind_walked.u5.f, bind_walked.u4.f]
  refine (e5 α _).trans ?_
  rw [bind_walked.u7.f, hfl, w64_eq (by omega) (by omega), show ((t.size : Int) - 1) = ((0 + t.size - 1 : Nat) : Int) by omega]
  exact e6 α _
end Go.Ab.S3
