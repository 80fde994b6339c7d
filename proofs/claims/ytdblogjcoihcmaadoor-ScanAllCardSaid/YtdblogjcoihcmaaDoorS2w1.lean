import Derived.Test.YtdblogjcoihcmaaDoorS2w
namespace Go.Ab.S2
set_option linter.unusedVariables false
set_option linter.unusedSimpArgs false
variable {α : Type} {h : H}
theorem shown_run (k : Nat) (hk : 20 ≤ k) (h : H) : ∃ h', (∀ (α : Type) (ret : Bool → M α), bailifflaw02_shown.f (k + 1) ret h = ret true h') ∧ Ext h h' := by
  obtain ⟨k, rfl⟩ : ∃ q, k = q + 2 := ⟨k - 2, by omega⟩
  have a1 := All_run (k + 1) [109, 117, 32, 88, 49, 46, 112, 50, 32, 49, 50] (by simp; omega) h
  rw [scan1] at a1
  obtain ⟨sl, h1, e1, x1, r1, _, _, _⟩ := a1
  have a2 := All_run (k + 1) [97, 32, 95] (by simp; omega) h1
  rw [scan2] at a2
  obtain ⟨p, h2, e2, x2, _, p2, g2⟩ := a2
  have x3 : Ext h2 (h2.push (.cells [.ptr (some ⟨p, 0⟩)] true)) := (Ext.refl h2).push _
  refine ⟨_, fun α ret => ?_, (x1.trans x2).trans x3⟩
  simp only [bailifflaw02_shown.f]
  unfold bailifflaw02_shown.u1.f
  rw [e1, e2, fault_run k _ h2 p (2 : Int) 3 p2 g2]
  have r3 := r1.ext (x2.trans x3)
  rw [asNil_nil]
  simp only [cond_true]
  rw [row_slen r3]
  simp only [List.length_cons, List.length_nil]
  rw [show decide (((0 + 1 + 1 + 1 + 1 + 1 + 1 : Nat) : Int) = 6) = true from rfl, cond_true]
  rw [tok_rd r3 (x := 0) (i := 0) rfl rfl]
  simp only [decide_true, Bool.and_self, cond_true]
  rw [tok_rd r3 (x := 1) (i := 1) rfl rfl]
  simp only [decide_true, Bool.and_self, cond_true]
  rw [tok_rd r3 (x := 2) (i := 2) rfl rfl]
  simp only [decide_true, Bool.and_self, cond_true]
  rw [tok_rd r3 (x := 4) (i := 4) rfl rfl]
  simp only [decide_true, Bool.and_self, cond_true]
  rw [tok_rd r3 (x := 5) (i := 5) rfl rfl]
  simp only [decide_true, Bool.and_self, cond_true]
end Go.Ab.S2
