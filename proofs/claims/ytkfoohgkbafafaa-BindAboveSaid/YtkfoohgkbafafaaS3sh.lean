import Derived.Test.YtkfoohgkbafafaaS3Parse
namespace Go.Ab.S3
set_option linter.unusedVariables false
set_option linter.unusedSimpArgs false
/-! ### what must be in any case -/
def tx1 : Tr := .un 10 [88] 0 (.bin 7 [] 8 (.leaf 4 [88] 6) (.leaf 3 [112] 10))
def tx2 : Tr := .un 10 [88] 0 (.un 5 [] 6 (.leaf 4 [88] 7))
theorem px1 : parseF [109, 117, 32, 88, 46, 32, 88, 32, 124, 32, 112] = .ok (tx1.flat 0) := by kernel_rfl
theorem px2 : parseF [109, 117, 32, 88, 46, 32, 126, 88] = .ok (tx2.flat 0) := by kernel_rfl
theorem shown_run (k : Nat) (hk : 4000000 ≤ k) (h : H) : ∃ h', (∀ (α : Type) (ret : Bool → M α), w5shown.f (k + 1) ret h = ret true h') ∧ Ext h h' := by
  obtain ⟨k, rfl⟩ : ∃ q, k = q + 1 := ⟨k - 1, by omega⟩
  have a1 := parse_run k (by omega) [109, 117, 32, 88, 46, 32, 88, 32, 124, 32, 112] h
  rw [px1] at a1
  obtain ⟨h1, s1, e1, x1, p1, _⟩ := a1
  obtain ⟨h2, e2, x2⟩ := check_run k (by omega) (t := tx1) (by decide) (by decide) h1 p1.rd
  obtain ⟨h3, l, e3, x3, o3, _⟩ := binders_run k (by omega) (t := tx1) (by decide) (by decide) h2 (p1.rd.ext x2)
  have a4 := parse_run k (by omega) [109, 117, 32, 88, 46, 32, 126, 88] h3
  rw [px2] at a4
  obtain ⟨h4, s4, e4, x4, p4, _⟩ := a4
  obtain ⟨h5, e5, x5⟩ := check_run k (by omega) (t := tx2) (by decide) (by decide) h4 p4.rd
  refine ⟨h5, fun α ret => ?_, (((x1.trans x2).trans x3).trans x4).trans x5⟩
  have c1 : chkT tx1 = (0, 0) := by decide
  have c2 : (chkT tx2).2 = 12 := by decide
  have ol := o3.ext (x4.trans x5)
  have hl : l.len = 4 := by rw [ints_len ol.rd]; rfl
  have hg : (toA tx1 0 [])[0]? = some 3 := by decide
  rw [w5shown.f, w5shown.u1.f, e1, e2, e3, e4, e5, asNil_nil, cond_true, asNil_nil, cond_true, c1, c2, dT rfl, cond_true, dT rfl, cond_true, hl, dT (by decide : ((4 : Nat) : Int) = 4), cond_true, int_rd ol.rd (x := 0) (i := 0) rfl hg, dT rfl, cond_true]
/-- a list of nodes is a right formula, or it is not -/
theorem right_or (l : List Nd) : rightF l = false ∨ ∃ t : Tr, rightF l = true ∧ t.ok = true ∧ l = t.flat 0 ∧ t.size ≤ 60 := by
  cases h : rightF l with
  | false => exact .inl rfl
  | true =>
    obtain ⟨t, h1, h2, h3⟩ := (right_iff l).1 h
    exact .inr ⟨t, rfl, h1, h2, h3⟩
theorem Room.le {n : Nat} (h : Room n) : n ≤ 4611686018427387900 := by unfold Room at h; omega
theorem BindChecks_law {f : Sl} {l : List Nd} {h : H} (r : NdR h f l) (hnl : NL l) (hr : Room l.length) : ∃ k h', ∀ (α : Type) (ret : Bool → M α), w5BindChecks.f (k + 1) f ret h = ret true h' := by
  have hk : ∃ k, 4000000 ≤ k ∧ l.length ≤ k := ⟨4000000 + l.length, by omega, by omega⟩
  obtain ⟨k, hk1, hk2⟩ := hk
  refine ⟨k + 10, ?_⟩
  obtain ⟨h1, e1, x1⟩ := shown_run (k + 9) (by omega) h
  obtain ⟨h2, o, e2, x2, L2⟩ := lent_run (k + 9) h1 (r.ext x1) hr
  rcases right_or l with hR | ⟨t, hR, ht, rfl, hs⟩
  · obtain ⟨h3, e3, x3⟩ := check_bad (k + 9) (by omega) hR h2 L2.rd
    obtain ⟨h4, e4, x4⟩ := rcheck_bad (k + 9) (by omega) hR hnl h3 (r.ext ((x1.trans x2).trans x3))
    obtain ⟨h5, e5, x5⟩ := kept_run (k + 9) h4 (L2.ext (x3.trans x4)) (r.ext (((x1.trans x2).trans x3).trans x4)) (by omega) hr.le
    refine ⟨h5, fun α ret => ?_⟩
    rw [w5BindChecks.f, w5BindChecks.u1.f, e1, e2, e3, e4, e5, cond_true, cond_true, dT rfl, cond_true, dT rfl]
  · obtain ⟨h3, e3, x3⟩ := check_run (k + 9) (by omega) ht hs h2 L2.rd
    obtain ⟨h4, e4, x4⟩ := rcheck_run (k + 9) (by omega) ht hs hnl h3 (r.ext ((x1.trans x2).trans x3))
    obtain ⟨h5, e5, x5⟩ := kept_run (k + 9) h4 (L2.ext (x3.trans x4)) (r.ext (((x1.trans x2).trans x3).trans x4)) (by omega) hr.le
    refine ⟨h5, fun α ret => ?_⟩
    rw [w5BindChecks.f, w5BindChecks.u1.f, e1, e2, e3, e4, e5, cond_true, cond_true, dT rfl, cond_true, dT rfl]
end Go.Ab.S3
