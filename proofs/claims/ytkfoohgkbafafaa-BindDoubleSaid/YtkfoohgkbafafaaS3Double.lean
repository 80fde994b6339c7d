import Derived.Test.YtkfoohgkbafafaaS3dbl
import Derived.Test.YtkfoohgkbafafaaS3sh
namespace Go.Ab.S3
set_option linter.unusedVariables false
set_option linter.unusedSimpArgs false
variable {α : Type} {h : H}
theorem dbl_loop (k : Nat) {f s : Sl} {l : List Nd} (r : NdR h f l) {a e : Int} (hl : l.length ≤ 100) : ∀ (j i : Nat), i ≤ l.length → l.length - i < j → (∀ q, q < i → ∀ n, l[q]? = some n → n.name ≠ new0) → ∀ (kr : Bool → M α) (kx : Int → Int → Int → Int → Int → Sl → M α),
    ((∀ n ∈ l, n.name ≠ new0) → w5BindDouble.u4.l k kr kx j f a e (l.length : Int) a e s (i : Int) h = kx a e (l.length : Int) a e s h) ∧
    (¬ (∀ n ∈ l, n.name ≠ new0) → w5BindDouble.u4.l k kr kx j f a e (l.length : Int) a e s (i : Int) h = kr true h) := by
  intro j
  induction j with
  | zero => intro i _ h2; omega
  | succ j ih =>
    intro i h1 h2 hq kr kx
    rw [w5BindDouble.u4.l, w5BindDouble.u3.f]
    by_cases hi : i < l.length
    · have hg : l[i]? = some l[i] := List.getElem?_eq_getElem hi
      rw [dT (by omega), cond_true, nd_name r rfl hg]
      by_cases hn : l[i].name = [78, 101, 119, 95, 48]
      · refine ⟨fun hh => absurd hn (hh _ (List.getElem_mem hi)), fun _ => ?_⟩
        rw [dT hn, cond_true, dT rfl, cond_true, dT rfl]
      · rw [dF hn, cond_false, w64_eq (by omega) (by omega)]
        exact ih (i + 1) (by omega) (by omega) (fun q hlt n hn' => by
          by_cases hqi : q = i
          · subst hqi; rw [hg] at hn'; cases hn'; exact hn
          · exact hq q (by omega) n hn') kr kx
    · refine ⟨fun _ => by rw [dF (by omega), cond_false], fun hh => absurd (fun n hn => ?_) hh⟩
      obtain ⟨q, hlt, rfl⟩ := List.getElem_of_mem hn
      exact hq q (by omega) _ (List.getElem?_eq_getElem hlt)
theorem room2 {n : Nat} (h : n ≤ 58) : (n + n / 4 + 512) * 48 ≤ 281474976710656 ∧ (n + 2 + (n + 2) / 4 + 512) * 48 ≤ 281474976710656 ∧ (n + 1 + (n + 1) / 4 + 512) * 48 ≤ 281474976710656 := by omega
theorem nots_ok {t : Tr} (ht : t.ok = true) : (nots t).ok = true := by
  have e1 : arF 5 = 1 := by decide
  have e2 : namedF 5 [] = true := by decide
  simp [nots, Tr.ok, ht, e1, e2]
theorem nuT_ok {t : Tr} (ht : t.ok = true) : (nuT t).ok = true := by
  have e1 : arF 11 = 1 := by decide
  have e2 : namedF 11 new0 = true := by decide
  simp [nuT, Tr.ok, ht, e1, e2]
theorem BindDouble_law {f : Sl} {l : List Nd} {h : H} (r : NdR h f l) (hnl : NL l) (hr : Room l.length) : ∃ k h', ∀ (α : Type) (ret : Bool → M α), w5BindDouble.f (k + 1) f ret h = ret true h' := by
  have hk : ∃ k, 4000000 ≤ k ∧ l.length ≤ k := ⟨4000000 + l.length, by omega, by omega⟩
  obtain ⟨k, hk1, hk2⟩ := hk
  refine ⟨k + 10, ?_⟩
  have hk5 : 500 ≤ k + 9 := by omega
  have hk10 : 60 < k + 10 := by omega
  have hfl := nd_slen r
  have hrl := hr.le
  obtain ⟨h1, e1, x1⟩ := shown_run (k + 9) (by omega) h
  rcases right_or l with hR | ⟨t, hR, ht, rfl, hs⟩
  · obtain ⟨h2, e2, x2⟩ := check_bad (k + 9) (by omega) hR h1 (r.ext x1)
    obtain ⟨h3, e3, x3⟩ := right_run (k + 9) (by omega) h2 (r.ext (x1.trans x2))
    rw [hR] at e3
    have start : ∀ (α : Type) (ret : Bool → M α), w5BindDouble.f (k + 10 + 1) f ret h = cond (decide ((f.len : Int) < 1)) (ret true) (cond (decide (60 < w64 ((f.len : Int) + 2))) (ret true) (ret true)) (cond (decide ((f.len : Int) < 1) || decide (60 < w64 ((f.len : Int) + 2))) h2 h3) := by
      intro α ret
      rw [w5BindDouble.f, w5BindDouble.u9.f, w5BindDouble.u1.f, e1, e2, Bool.not_true, cond_false]
      cases decide ((f.len : Int) < 1)
      · cases decide (60 < w64 ((f.len : Int) + 2))
        · simp only [cond_false, Bool.or_false]
          rw [e3]; rfl
        · rfl
      · rfl
    refine ⟨cond (decide ((f.len : Int) < 1) || decide (60 < w64 ((f.len : Int) + 2))) h2 h3, fun α ret => (start α ret).trans ?_⟩
    cases decide ((f.len : Int) < 1) <;> cases decide (60 < w64 ((f.len : Int) + 2)) <;> rfl
  · have hln : (t.flat 0).length = t.size := flat_length t 0
    have hpos := t.pos
    obtain ⟨h2, e2, x2⟩ := check_run (k + 9) hk5 ht hs h1 (r.ext x1)
    by_cases hbig : 60 < t.size + 2
    · refine ⟨h2, fun α ret => ?_⟩
      rw [w5BindDouble.f, w5BindDouble.u9.f, w5BindDouble.u1.f, e1, e2, Bool.not_true, cond_false, hfl, dF (by omega), cond_false, w64_eq (by omega) (by omega), dT (by omega), cond_true]
    · obtain ⟨rm0, rm2, rm1⟩ := room2 (by omega : t.size ≤ 58)
      have r2 := r.ext (x1.trans x2)
      obtain ⟨h3, e3, x3⟩ := right_run (k + 9) (by omega) h2 r2
      rw [hR] at e3
      have r3 := r2.ext x3
      obtain ⟨s4, h4, e4, a4, x4, o4, _, _⟩ := app_copy (bytes := 48) r3 (by decide) (by decide) (by rw [hfl, hln]; exact rm0)
      have l4 : s4.len = t.size := by rw [slen Nd.len (by decide) a4.rd, hln]
      obtain ⟨h5, e5, a5, g5, n5, k5⟩ := app_made (bytes := 48) (more := [.int .i64 5, .int .i64 ((t.size : Int) - 1), .int .i64 0, .str [], .int .i64 0, .int .i64 5, .int .i64 (t.size : Int), .int .i64 0, .str [], .int .i64 0]) a4 (n := 2) rfl rfl (by decide) (by decide) (by rw [l4]; exact rm2)
      have x5 : Ext h3 h5 := ⟨by rw [n5]; have := x4.1; omega, fun i hi => by
        rw [k5 i (Nat.lt_of_lt_of_le hi x4.1) (fun _ a ha => by have := o4 a ha; omega)]; exact x4.2 i hi⟩
      have c5 : cN (t.flat 0) ++ [.int .i64 5, .int .i64 ((t.size : Int) - 1), .int .i64 0, .str [], .int .i64 0, .int .i64 5, .int .i64 (t.size : Int), .int .i64 0, .str [], .int .i64 0] = cN ((nots t).flat 0) := by
        have z1 : ((0 + t.size - 1 : Nat) : Int) = (t.size : Int) - 1 := by omega
        have z2 : ((0 + (t.size + 1) - 1 : Nat) : Int) = (t.size : Int) := by omega
        simp only [nots, Tr.flat, Tr.node, Tr.size, cN, List.flatMap_append, List.flatMap_cons, List.flatMap_nil, Nd.cells, z1, z2, List.append_assoc]
        rfl
      have r5 := a5.rd
      rw [c5] at r5
      obtain ⟨h6, e6, x6⟩ := check_run (k + 9) hk5 (t := nots t) (nots_ok ht) (by simp [nots, Tr.size]; omega) h5 r5
      rw [chk_nots] at e6
      have r6 := r3.ext (x5.trans x6)
      obtain ⟨s7, h7, e7, a7, x7, o7, _, _⟩ := app_copy (bytes := 48) r6 (by decide) (by decide) (by rw [hfl, hln]; exact rm0)
      have l7 : s7.len = t.size := by rw [slen Nd.len (by decide) a7.rd, hln]
      obtain ⟨h8, e8, a8, g8, n8, k8⟩ := app_made (bytes := 48) (more := [.int .i64 11, .int .i64 ((t.size : Int) - 1), .int .i64 0, .str [78, 101, 119, 95, 48], .int .i64 0]) a7 (n := 1) rfl rfl (by decide) (by decide) (by rw [l7]; exact rm1)
      have x8 : Ext h6 h8 := ⟨by rw [n8]; have := x7.1; omega, fun i hi => by
        rw [k8 i (Nat.lt_of_lt_of_le hi x7.1) (fun _ a ha => by have := o7 a ha; omega)]; exact x7.2 i hi⟩
      have c8 : cN (t.flat 0) ++ [.int .i64 11, .int .i64 ((t.size : Int) - 1), .int .i64 0, .str [78, 101, 119, 95, 48], .int .i64 0] = cN ((nuT t).flat 0) := by
        have z1 : ((0 + t.size - 1 : Nat) : Int) = (t.size : Int) - 1 := by omega
        simp only [nuT, new0, Tr.flat, Tr.node, Tr.size, cN, List.flatMap_append, List.flatMap_cons, List.flatMap_nil, Nd.cells, z1]
        rfl
      have r8 := a8.rd
      rw [c8] at r8
      have start : ∀ (α : Type) (ret : Bool → M α), w5BindDouble.f (k + 10 + 1) f ret h =
          w5BindDouble.u4.l (k + 10) ret (fun y0 y1 y2 y3 y4 y5 => w5BindDouble.u7.f (k + 10) y0 y1 y2 y3 y4 y5 ret) (k + 10) f (chkT t).1 (chkT t).2 ((t.flat 0).length : Int) (chkT t).1 (chkT t).2 ⟨some ⟨h7.next + 1, 0⟩, s7.len + 1, s7.len + 1, some 5⟩ ((0 : Nat) : Int) h8 := by
        intro α ret
        rw [w5BindDouble.f, w5BindDouble.u9.f, w5BindDouble.u1.f, e1, e2, Bool.not_true, cond_false, hfl, dF (by omega), cond_false, w64_eq (by omega) (by omega), dF (by omega), cond_false, e3, Bool.not_true, cond_false, e4]
        rewrite [hln, w64_eq (by omega) (by omega), e5, e6, e7, e8]
        rfl
      have last : ∃ h9, ∀ (α : Type) (ret : Bool → M α), (∀ n ∈ t.flat 0, n.name ≠ new0) → w5BindDouble.u7.f (k + 10) (chkT t).1 (chkT t).2 ((t.flat 0).length : Int) (chkT t).1 (chkT t).2 ⟨some ⟨h7.next + 1, 0⟩, s7.len + 1, s7.len + 1, some 5⟩ ret h8 = ret true h9 := by
        obtain ⟨h9, e9, x9⟩ := check_run (k + 9) hk5 (t := nuT t) (nuT_ok ht) (by simp [nuT, Tr.size]; omega) h8 r8
        refine ⟨h9, fun α ret hn => ?_⟩
        rw [w5BindDouble.u7.f, e9, chk_nu hn]
        by_cases h0 : (chkT t).2 = 0
        · have hz : (chkT t).1 = 0 := by rw [show chkT t = (0, 0) from chk_zero _ _ _ _ _ _ h0]
          rw [if_pos h0, h0, hz, hln]
          by_cases hd : 4 < depT t + 1
          · rw [if_pos hd]; simp
          · rw [if_neg hd]; simp
        · rw [if_neg h0]; simp [h0]
      obtain ⟨h9, e9⟩ := last
      have lp := fun (α : Type) (kr : Bool → M α) (kx : Int → Int → Int → Int → Int → Sl → M α) => dbl_loop (k + 10) (r6.ext x8) (s := ⟨some ⟨h7.next + 1, 0⟩, s7.len + 1, s7.len + 1, some 5⟩) (a := (chkT t).1) (e := (chkT t).2) (by omega) (k + 10) 0 (by omega) (by omega) (fun q hq => absurd hq (Nat.not_lt_zero _)) kr kx
      by_cases hn : ∀ n ∈ t.flat 0, n.name ≠ new0
      · exact ⟨h9, fun α ret => (start α ret).trans (((lp α _ _).1 hn).trans (e9 α ret hn))⟩
      · exact ⟨h8, fun α ret => (start α ret).trans ((lp α _ _).2 hn)⟩
end Go.Ab.S3
