import Derived.Test.YtdblogjcoihcmaaDoorS2x
namespace Go.Ab.S2
set_option linter.unusedVariables false
set_option linter.unusedSimpArgs false
theorem last_get (ts : List Tok) (t : Tok) : (ts ++ [t])[ts.length]? = some t := by simp
theorem UpTo_run (text : List UInt8) (h : H) (k : Nat) (hk : 262144 + 40 ≤ k) : ∃ h', ∀ (α : Type) (ret : Bool → M α), bailifflaw02_ScanUpTo.f (k + 1) text ret h = ret true h' := by
  obtain ⟨k, rfl⟩ : ∃ q, k = q + 2 := ⟨k - 2, by omega⟩
  obtain ⟨h1, e1, x1⟩ := shown_run (k + 1) (by omega) h
  have a1 := All_run (k + 1) text (by omega) h1
  rcases scanF_cases text with ⟨hl, hs⟩ | ⟨hl, ts, sc, hs⟩ | ⟨hl, m, e, ts, sc, bd, hs⟩
  · rw [hs] at a1
    obtain ⟨p, h2, e2, x2, _, p2, g2⟩ := a1
    refine ⟨h2.push (.cells [.ptr (some ⟨p, 0⟩)] true), fun α ret => ?_⟩
    simp only [bailifflaw02_ScanUpTo.f]
    unfold bailifflaw02_ScanUpTo.u1.f
    rw [e1, e2, fault_run k _ h2 p (262144 : Int) 2 p2 g2]
    simp only [Bool.not_true, cond_false, asNil_iface, decide_true, cond_true]
    rw [show decide ((262144 : Int) < (text.length : Int)) = true by simp; omega]
  · rw [hs] at a1
    obtain ⟨sl, h2, e2, x2, r2, _⟩ := a1
    refine ⟨h2, fun α ret => ?_⟩
    simp only [bailifflaw02_ScanUpTo.f]
    unfold bailifflaw02_ScanUpTo.u1.f
    rw [e1, e2, fault_nil]
    simp only [Bool.not_true, cond_false, asNil_nil, cond_true]
  · rw [hs] at a1
    obtain ⟨p, h2, e2, x2, _, p2, g2⟩ := a1
    obtain ⟨hm, h2', h0⟩ := bad_err bd
    have a2 := All_run (k + 1) (text.take m) (by rw [List.length_take]; omega) (h2.push (.cells [.ptr (some ⟨p, 0⟩)] true))
    rw [sc.scan hl] at a2
    obtain ⟨sl, h3, e3, x3, r3, _, b3, _⟩ := a2
    have hlen := row_slen r3
    simp only [List.length_append, List.length_cons, List.length_nil, List.length_take] at hlen b3
    refine ⟨h3, fun α ret => ?_⟩
    simp only [bailifflaw02_ScanUpTo.f]
    unfold bailifflaw02_ScanUpTo.u1.f
    rw [e1, e2, fault_run k _ h2 p (m : Int) e p2 g2]
    simp only [Bool.not_true, cond_false, asNil_iface]
    rw [show decide (e = 2) = false by simpa using h2', cond_false, show decide (e = 0) = false by simpa using h0, cond_false, show decide ((m : Int) < 0) = false by simp, cond_false,
      show decide ((text.length : Int) ≤ (m : Int)) = false by simp; omega, cond_false, cutStr_to rfl (by omega), e3]
    simp only [asNil_nil, cond_true]
    rw [show decide (0 < (sl.len : Int)) = true by simp; omega, cond_true, w64_eq (by omega) (by omega), tok_rd r3 (i := ts.length) (by omega) (last_get ts _)]
    simp
theorem UpTo_law (text : List UInt8) (hl : text.length ≤ maxLen) : ∃ k h', ∀ (α : Type) (ret : Bool → M α), bailifflaw02_ScanUpTo.f (k + 1) text ret h0 = ret true h' :=
  ⟨262184, UpTo_run text h0 262184 (by decide)⟩
end Go.Ab.S2
