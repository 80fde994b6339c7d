import Derived.Test.YtdblogjcoihcmaaDoorS2x
import GoSem.Claim
namespace Go.Ab.S2
set_option linter.unusedVariables false
set_option linter.unusedSimpArgs false
theorem Sc.split {text : List UInt8} {n m : Nat} {ts : List Tok} (s : Sc text n ts m) : ∀ {i : Nat} {t : Tok}, ts[i]? = some t → ∃ p : Nat, t.pos = (p : Int) ∧ Sc text n (ts.take i) p ∧ p ≤ m := by
  induction s with
  | nil h => intro i t hi; simp at hi
  | blank hc hb s ih => intro i t hi; obtain ⟨p, h1, h2, h3⟩ := ih hi; exact ⟨p, h1, .blank hc hb h2, h3⟩
  | rem hc hb hr s ih => intro i t hi; obtain ⟨p, h1, h2, h3⟩ := ih hi; exact ⟨p, h1, .rem hc hb hr h2, h3⟩
  | tok hc hb hr he s ih =>
    intro i t hi
    cases i with
    | zero =>
      simp only [List.getElem?_cons_zero, Option.some.injEq] at hi
      subst hi
      have := lt_of hc
      have h2 := s.le
      exact ⟨_, tokF_pos _ _ _, .nil (by omega), by omega⟩
    | succ i =>
      obtain ⟨p, h1, h2, h3⟩ := ih (by simpa using hi)
      exact ⟨p, h1, .tok hc hb hr he h2, h3⟩
theorem cuts_loop (k : Nat) {h : H} {l m : List Tok} {sl sm : Sl} (rl : Row h sl 4 (cellsL l)) (rm : Row h sm 4 (cellsL m)) (i : Nat) (hi : i ≤ 262145) (hli : i ≤ l.length) (hmi : i ≤ m.length) (heq : ∀ j, j < i → m[j]? = l[j]?) :
    ∀ (f j : Nat), j ≤ i → i - j < f → ∀ (α : Type) (kr : Bool → M α) (kx : M α), bailifflaw02_ScanCuts.u5.l k kr kx f sl (i : Int) sm (j : Int) h = kx h := by
  intro f
  induction f with
  | zero => intro j hj hf; omega
  | succ f ih =>
    intro j hj hf α kr kx
    rw [bailifflaw02_ScanCuts.u5.l, bailifflaw02_ScanCuts.u4.f]
    by_cases hlt : j < i
    · rw [show decide ((j : Int) < (i : Int)) = true by simpa using hlt, cond_true]
      have hl : l[j]? = some l[j] := List.getElem?_eq_getElem (by omega)
      have hm : m[j]? = some l[j] := by rw [heq j hlt]; exact hl
      rw [tok_rd rm (i := j) rfl hm, tok_rd rl (i := j) rfl hl]
      simp only [decide_true, Bool.and_self, Bool.not_true, cond_false]
      rw [w64_eq (by omega) (by omega), show ((j : Int) + 1) = ((j + 1 : Nat) : Int) by omega]
      exact ih (j + 1) (by omega) (by omega) α kr kx
    · rw [show decide ((j : Int) < (i : Int)) = false by simpa using hlt, cond_false]
theorem Cuts_run (text : List UInt8) (x : Int) (hx : (Lit.int .i64 x).wf = true) (h : H) (k : Nat) (hk : 262144 + 40 ≤ k) : ∃ h', ∀ (α : Type) (ret : Bool → M α), bailifflaw02_ScanCuts.f (k + 1) text x ret h = ret true h' := by
  have hx' : -9223372036854775808 ≤ x ∧ x ≤ 9223372036854775807 := by
    simp only [Lit.wf, IntKind.min, IntKind.max, IntKind.signed, IntKind.bits] at hx
    simp at hx
    omega
  obtain ⟨k, rfl⟩ : ∃ q, k = q + 2 := ⟨k - 2, by omega⟩
  obtain ⟨h1, e1, x1⟩ := shown_run (k + 1) (by omega) h
  have a1 := All_run (k + 1) text (by omega) h1
  have errs : ∀ (p : Nat) (h2 : H), (∀ (α : Type) (ret : Sl → V → M α), scan_All.f (k + 1 + 1) text ret h1 = ret Sl.nil (.iface 42 (.ptr (some ⟨p, 0⟩))) h2) → ∃ h', ∀ (α : Type) (ret : Bool → M α), bailifflaw02_ScanCuts.f (k + 2 + 1) text x ret h = ret true h' := by
    intro p h2 e2
    refine ⟨h2, fun α ret => ?_⟩
    simp only [bailifflaw02_ScanCuts.f]
    unfold bailifflaw02_ScanCuts.u11.f bailifflaw02_ScanCuts.u1.f
    rw [e1, e2]
    simp only [Bool.not_true, cond_false, asNil_iface, Bool.not_false, cond_true]
  rcases scanF_cases text with ⟨hl, hs⟩ | ⟨hl, ts, sc, hs⟩ | ⟨hl, m, e, ts, sc, bd, hs⟩
  · rw [hs] at a1
    obtain ⟨p, h2, e2, _⟩ := a1
    exact errs p h2 e2
  · rw [hs] at a1
    obtain ⟨sl, h2, e2, x2, r2, _, b2, _⟩ := a1
    have hlen := row_slen r2
    simp only [List.length_append, List.length_cons, List.length_nil] at hlen b2
    -- which token
    obtain ⟨w, hw0, hw1, hw⟩ : ∃ w : Int, 0 ≤ w ∧ w ≤ 9223372036854775807 ∧ w = if x < 0 then w64 (0 - w64 (x + 1)) else x := by
      refine ⟨_, ?_, ?_, rfl⟩ <;> split <;> first | omega | (rw [w64_eq (n := x + 1) (by omega) (by omega), w64_eq (by omega) (by omega)]; omega)
    obtain ⟨i, hi⟩ : ∃ i : Nat, Int.tmod w (sl.len : Int) = (i : Int) := ⟨(Int.tmod w (sl.len : Int)).toNat, by
      rw [Int.toNat_of_nonneg]
      exact Int.tmod_nonneg _ hw0⟩
    have hilt : i < ts.length + 1 := by
      have : Int.tmod w (sl.len : Int) < sl.len := Int.tmod_lt_of_pos _ (by omega)
      omega
    -- the token, and what stands ahead of it
    obtain ⟨t, p, ht, hp, hsc, hpl⟩ : ∃ (t : Tok) (p : Nat), (ts ++ [⟨0, text.length, [], 0⟩])[i]? = some t ∧ t.pos = (p : Int) ∧ Sc text 0 (ts.take i) p ∧ p ≤ text.length := by
      by_cases hlt : i < ts.length
      · obtain ⟨p, h1, h2, h3⟩ := sc.split (i := i) (t := ts[i]) (List.getElem?_eq_getElem hlt)
        exact ⟨ts[i], p, by rw [List.getElem?_append_left hlt]; exact List.getElem?_eq_getElem hlt, h1, h2, h3⟩
      · have : i = ts.length := by omega
        subst this
        exact ⟨⟨0, text.length, [], 0⟩, text.length, by simp, rfl, by rw [List.take_length]; exact sc, Nat.le_refl _⟩
    have a2 := All_run (k + 1) (text.take p) (by rw [List.length_take]; omega) h2
    rw [hsc.scan hl] at a2
    obtain ⟨sm, h3, e3, x3, r3, _, b3, _⟩ := a2
    have hlen3 := row_slen r3
    have htk : (ts.take i).length = i := by rw [List.length_take]; omega
    simp only [List.length_append, List.length_cons, List.length_nil, htk] at hlen3
    have r2' := r2.ext x3
    have hloop := cuts_loop (k + 2) r2' r3 i (by omega) (by simp; omega) (by simp; omega) (fun j hj => by
      rw [List.getElem?_append_left (by omega), List.getElem?_take_of_lt hj, List.getElem?_append_left (by omega)]) (k + 2) 0 (Nat.zero_le _) (by omega)
    refine ⟨h3, fun α ret => ?_⟩
    simp only [bailifflaw02_ScanCuts.f]
    unfold bailifflaw02_ScanCuts.u11.f bailifflaw02_ScanCuts.u1.f
    rw [e1, e2]
    simp only [Bool.not_true, cond_false, asNil_nil]
    have go : (bailifflaw02_ScanCuts.u10.f (k + 2) text w sl fun y0 => ret y0) h2 = ret true h3 := by
      unfold bailifflaw02_ScanCuts.u10.f bailifflaw02_ScanCuts.u2.f
      rw [show decide ((sl.len : Int) = 0) = false by simp; omega, cond_false, Bool.not_false, need_run rfl, hi]
      obtain ⟨id, d1, d2, _, c0, c1, c2, c3⟩ := row_tok r2 ht
      rw [idxSl_run d1 rfl d2]
      simp only [add_mk, Nat.zero_add, Nat.add_zero]
      rw [ldI_run c1, hp, show decide ((p : Int) < 0) = false by simp, cond_false, show decide ((text.length : Int) < (p : Int)) = false by simp; omega, cond_false, cutStr_to rfl hpl, e3]
      simp only [asNil_nil, Bool.not_true, cond_false]
      rw [w64_eq (by omega) (by omega), show decide ((sm.len : Int) = (i : Int) + 1) = true by simp; omega]
      simp only [Bool.not_true, cond_false]
      rw [tok_rd r3 (i := i) rfl (t := ⟨0, (p : Int), [], 0⟩) (by rw [List.getElem?_append_right (by omega), htk]; simp)]
      simp only [decide_true, Bool.and_self, Bool.not_true, cond_false]
      unfold bailifflaw02_ScanCuts.u9.f bailifflaw02_ScanCuts.u7.f bailifflaw02_ScanCuts.u3.f bailifflaw02_ScanCuts.u6.f bailifflaw02_ScanCuts.u5.f
      refine (hloop α _ _).trans ?_
      rfl
    by_cases hneg : x < 0
    · rw [show decide (x < 0) = true by simpa using hneg, cond_true]
      rw [if_pos hneg] at hw
      rw [hw] at go
      exact go
    · rw [show decide (x < 0) = false by simpa using hneg, cond_false]
      rw [if_neg hneg] at hw
      rw [hw] at go
      exact go
  · rw [hs] at a1
    obtain ⟨p, h2, e2, _⟩ := a1
    exact errs p h2 e2
theorem Cuts_law (text : List UInt8) (x : Int) (hx : (Lit.int .i64 x).wf = true) (hl : text.length ≤ maxLen) : ∃ k h', ∀ (α : Type) (ret : Bool → M α), bailifflaw02_ScanCuts.f (k + 1) text x ret h0 = ret true h' :=
  ⟨262184, Cuts_run text x hx h0 262184 (by decide)⟩
end Go.Ab.S2
