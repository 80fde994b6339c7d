import Derived.Test.YtkfoohgkbafafaaS3v
namespace Go.Ab.S3
set_option linter.unusedVariables false
set_option linter.unusedSimpArgs false
variable {α : Type} {h h₀ : H} {p tb : Nat} {ls fs : Sl} {s : St}
/-- RunOk by way of another run -/
theorem RunOk.of {x : Except Er (Int × St)} {C C' : ∀ α : Type, (V → M α) → (Int → M α) → M α} {h1 : H} {fs1 : Sl} (r : RunOk h₀ h1 p tb fs1 x C') (q : QP p fs fs1 h h1) (e : ∀ (α : Type) (pan : V → M α) (ret : Int → M α), C α pan ret h = C' α pan ret h1) : RunOk h₀ h p tb fs x C := by
  unfold RunOk at r ⊢
  cases x with
  | error e' =>
    exact fun he => by
      obtain ⟨h', x', e''⟩ := r he
      exact ⟨h', x', fun α pan ret => (e α pan ret).trans (e'' α pan ret)⟩
  | ok y =>
    obtain ⟨h', ls', fs', e'', P', q'⟩ := r
    exact ⟨h', ls', fs', fun α pan ret => (e α pan ret).trans (e'' α pan ret), P', q.trans q'⟩
theorem RunOk.err {e : Er} {C : ∀ α : Type, (V → M α) → (Int → M α) → M α} {h' : H} (x : Ext h₀ h') (c : ∀ (α : Type) (pan : V → M α) (ret : Int → M α), C α pan ret h = pan (thrown e) h') : RunOk h₀ h p tb fs (.error e) C := fun _ => ⟨h', x, c⟩
/-- a node is laid, and that is all -/
theorem RunOk.lay (P : PS h₀ h p tb ls fs s) (k : Nat) (n : Nd) (hlt : s.f.length < s.made) : RunOk h₀ h p tb fs (.ok (layE n s)) (fun α pan ret => spnode.f (k + 1) ⟨p, 0⟩ n.kind n.a n.b n.name n.pos ret) := by
  obtain ⟨h', fs', e', P', q'⟩ := lay_run P k n hlt
  exact ⟨h', ls, fs', fun α pan ret => e' α ret, P', q'⟩
/-- behind a call: an error goes up; else on -/
theorem RunOk.bind {x : Except Er (Int × St)} {F : Int × St → Except Er (Int × St)} {C C' : ∀ α : Type, (V → M α) → (Int → M α) → M α} {G : ∀ α : Type, (V → M α) → (Int → M α) → Int → M α} (r : RunOk h₀ h p tb fs x C')
    (e : ∀ (α : Type) (pan : V → M α) (ret : Int → M α), C α pan ret h = C' α pan (G α pan ret) h) (on : ∀ (y : Int × St) (h1 : H) (ls1 fs1 : Sl), x = .ok y → PS h₀ h1 p tb ls1 fs1 y.2 → QP p fs fs1 h h1 → RunOk h₀ h1 p tb fs1 (F y) (fun α pan ret => G α pan ret y.1)) : RunOk h₀ h p tb fs (bindE x F) C := by
  cases x with
  | error e' =>
    exact fun he => by
      obtain ⟨h', x', e''⟩ := r he
      exact ⟨h', x', fun α pan ret => (e α pan ret).trans (e'' α pan _)⟩
  | ok y =>
    obtain ⟨h1, ls1, fs1, e1, P1, q1⟩ := r
    exact RunOk.of (on y h1 ls1 fs1 rfl P1 q1) q1 fun α pan ret => (e α pan ret).trans (e1 α pan _)
/-- a token that makes a node; its copy -/
theorem RunOk.makes (P : PS h₀ h p tb ls fs s) (k : Nat) (hk : s.hd.kind ≠ 0) {F : Tok × St → Except Er (Int × St)} {C : ∀ α : Type, (V → M α) → (Int → M α) → M α} {G : ∀ α : Type, (V → M α) → (Int → M α) → Ad → M α}
    (e : ∀ (α : Type) (pan : V → M α) (ret : Int → M α), C α pan ret h = spmakes.f (k + 2) ⟨p, 0⟩ (fun e => pan e) (fun r4 r5 r6 r7 => new [.int .i64 0, .int .i64 0, .str [], .int .i64 0] fun t8 => st1 (t8.add 0) (.int .i64 r4) <| st1 (t8.add 1) (.int .i64 r5) <| st1 (t8.add 2) (.str r6) <| st1 (t8.add 3) (.int .i64 r7) <| G α pan ret t8) h)
    (on : ∀ (t : Tok) (s1 : St) (h1 : H) (ls1 : Sl) (q : Nat), t = s.hd → s1 = { s.adv with made := s.made + 1 } → PS h₀ h1 p tb ls1 fs s1 → h1.get q = some (tkC t) → q < h1.next → q ≠ p → (∀ a, fs.ad = some a → q ≠ a.id) → RunOk h₀ h1 p tb fs (F (t, s1)) (fun α pan ret => G α pan ret ⟨q, 0⟩)) : RunOk h₀ h p tb fs (bindE (makesE s) F) C := by
  have hm := makes_run P k hk
  cases hme : makesE s with
  | error e' =>
    rw [hme] at hm
    obtain ⟨h', x', e''⟩ := hm
    exact RunOk.err x' fun α pan ret => (e α pan ret).trans (e'' α _ _)
  | ok x =>
    rw [hme] at hm
    obtain ⟨t, s1⟩ := x
    obtain ⟨h1, ls1, e1, P1, q1⟩ := hm
    dsimp only at e1 P1
    obtain ⟨_, ht, hs1⟩ := makesE_ok hme
    obtain ⟨P2, q2, g2, l2, n2, f2⟩ := copy_tok P1 t
    refine RunOk.of (on t s1 _ ls1 h1.next ht hs1 P2 g2 l2 n2 f2) (q1.trans q2) fun α pan ret => ?_
    rw [e, e1, tk_copy]
theorem pz_un (k j : Nat) (ih : ∀ (r : Rl) (a : Int) (s : St) (h : H) (ls fs : Sl) (k jj : Nat), 2 * j + 20 ≤ k → j ≤ jj → PS h₀ h p tb ls fs s → RunOk h₀ h p tb fs (pz j r a s) (fun α => cps k jj p r a)) (a : Int) (s : St) (h : H) (ls fs : Sl) (jj : Nat) (hk : 2 * (j + 1) + 20 ≤ k) (P : PS h₀ h p tb ls fs s) :
    RunOk h₀ h p tb fs (pz (j + 1) .un a s) (fun α => cps k jj p .un a) := by
  obtain ⟨k, rfl⟩ : ∃ q, k = q + 4 := ⟨k - 4, by omega⟩
  have ihu := fun (s : St) (h : H) (ls fs : Sl) (P : PS h₀ h p tb ls fs s) => ih .un 0 s h ls fs (k + 3) (k + 3) (by omega) (by omega) P
  have ihf := fun (s : St) (h : H) (ls fs : Sl) (P : PS h₀ h p tb ls fs s) => ih (.row true) 0 s h ls fs (k + 3) (k + 3) (by omega) (by omega) P
  have ihw := fun (s : St) (h : H) (ls fs : Sl) (P : PS h₀ h p tb ls fs s) => ih (.row true) 0 s h ls fs (k + 2) (k + 2) (by omega) (by omega) P
  have hb := P.bal
  -- the room for a node, behind what was made
  have room : ∀ {s1 s2 : St}, s1 = { s.adv with made := s.made + 1 } → Bal s1 s2 → s2.f.length < s2.made := by
    rintro s1 s2 rfl hB
    have := hB.1
    simp only [St.adv] at this
    omega
  rw [pz]
  by_cases c1 : isS [126] s = true
  · rw [if_pos c1]
    refine RunOk.makes P (k + 1) (by rw [isS_kind c1]; decide) (G := fun α pan ret t8 => ldI .i64 ((t8.add 1).add 0) fun x9 => spunary.f (k + 3) ⟨p, 0⟩ (fun e => pan e) fun r10 => ldI .i64 ((t8.add 1).add 0) fun y11 => need (decide (x9 = y11)) <| spnode.f (k + 3) ⟨p, 0⟩ 5 r10 0 [] x9 fun r12 => ret r12) (fun α pan ret => ?_) ?_
    · show spunary.f (k + 4) ⟨p, 0⟩ pan ret h = _
      rw [spunary.f, spunary.u18.f, spunary.u1.f, spunary.u17.f, spunary.u15.f, spunary.u14.f, spunary.u2.f, is_run P, spunary.u13.f, c1, cond_true, spunary.u3.f]
    · intro t s1 h1 ls1 q ht hs1 P1 g1 l1 n1 f1
      refine RunOk.bind (ihu s1 h1 ls1 fs P1) (G := fun α pan ret r10 => ldI .i64 (((⟨q, 0⟩ : Ad).add 1).add 0) fun y11 => need (decide (t.pos = y11)) <| spnode.f (k + 3) ⟨p, 0⟩ 5 r10 0 [] t.pos fun r12 => ret r12) (fun α pan ret => ?_) ?_
      · rw [tk4_pos g1]; rfl
      · intro y h2 ls2 fs2 hy P2 q2
        have g2 := q2.tok l1 n1 f1 g1
        refine RunOk.of (RunOk.lay P2 (k + 2) ⟨5, y.1, 0, [], t.pos⟩ (room hs1 (pz_bal _ _ _ _ _ _ hy))) (QP.refl _ _ _) fun α pan ret => ?_
        rw [tk4_pos g2, need_run (by simp)]
  rw [if_neg c1]
  have d1 := Bool.eq_false_iff.2 c1
  -- the two steps
  have steps : ∀ (kd : Int) (shut : List UInt8), s.hd.kind = 5 → ∀ (C : ∀ α : Type, (V → M α) → (Int → M α) → M α), (∀ (α : Type) (pan : V → M α) (ret : Int → M α), C α pan ret h = spmakes.f (k + 3) ⟨p, 0⟩ (fun e => pan e) (fun r4 r5 r6 r7 => new [.int .i64 0, .int .i64 0, .str [], .int .i64 0] fun t8 => st1 (t8.add 0) (.int .i64 r4) <| st1 (t8.add 1) (.int .i64 r5) <| st1 (t8.add 2) (.str r6) <| st1 (t8.add 3) (.int .i64 r7) <|
      spstep.f (k + 3) ⟨p, 0⟩ shut (fun e => pan e) fun r21 => ldI .i64 ((t8.add 1).add 0) fun x22 => spunary.f (k + 3) ⟨p, 0⟩ (fun e => pan e) fun r23 => ldI .i64 ((t8.add 1).add 0) fun y24 => need (decide (x22 = y24)) <| spnode.f (k + 3) ⟨p, 0⟩ kd r23 0 r21 x22 fun r25 => ret r25) h) →
      RunOk h₀ h p tb fs (bindE (makesE s) fun x => bindE (stepE shut x.2) fun z => bindE (pz j .un 0 z.2) fun y => .ok (layE ⟨kd, y.1, 0, z.1, x.1.pos⟩ y.2)) C := by
    intro kd shut hs C hC
    refine RunOk.makes P (k + 1) (by rw [hs]; decide) (G := fun α pan ret t8 => spstep.f (k + 3) ⟨p, 0⟩ shut (fun e => pan e) fun r21 => ldI .i64 ((t8.add 1).add 0) fun x22 => spunary.f (k + 3) ⟨p, 0⟩ (fun e => pan e) fun r23 => ldI .i64 ((t8.add 1).add 0) fun y24 => need (decide (x22 = y24)) <| spnode.f (k + 3) ⟨p, 0⟩ kd r23 0 r21 x22 fun r25 => ret r25) hC ?_
    intro t s1 h1 ls1 q ht hs1 P1 g1 l1 n1 f1
    have hst := step_run P1 k shut
    dsimp only
    cases hse : stepE shut s1 with
    | error e =>
      rw [hse] at hst
      obtain ⟨h', x', e'⟩ := hst
      exact RunOk.err x' fun α pan ret => e' α _ _
    | ok z =>
      rw [hse] at hst
      obtain ⟨h2, ls2, e2, P2, q2⟩ := hst
      have g2 := q2.tok l1 n1 f1 g1
      have l2 := Nat.lt_of_lt_of_le l1 q2.nx
      obtain ⟨w1, w2, w3, w4⟩ := stepE_ok hse
      have hbal : Bal s1 z.2 := by
        rw [w4]
        have k1 : s1.hd.kind ≠ 0 := by
          rcases w1 with w1 | w1
          · rw [isS_kind w1]; decide
          · rw [w1.1]; decide
        exact (Bal.adv s1 k1).trans (Bal.adv _ (by rw [isS_kind w3]; decide))
      refine RunOk.of (h1 := h2) (C' := fun α pan ret => spunary.f (k + 3) ⟨p, 0⟩ (fun e => pan e) fun r23 => ldI .i64 (((⟨q, 0⟩ : Ad).add 1).add 0) fun y24 => need (decide (t.pos = y24)) <| spnode.f (k + 3) ⟨p, 0⟩ kd r23 0 z.1 t.pos fun r25 => ret r25) ?_ q2 (fun α pan ret => by rw [e2, tk4_pos g2])
      refine RunOk.bind (ihu z.2 h2 ls2 fs P2) (G := fun α pan ret r23 => ldI .i64 (((⟨q, 0⟩ : Ad).add 1).add 0) fun y24 => need (decide (t.pos = y24)) <| spnode.f (k + 3) ⟨p, 0⟩ kd r23 0 z.1 t.pos fun r25 => ret r25) (fun α pan ret => rfl) ?_
      intro y h3 ls3 fs3 hy P3 q3
      have g3 := q3.tok l2 n1 f1 g2
      have hB := pz_bal _ _ _ _ _ _ hy
      have hB' : Bal s1 y.2 := hbal.trans hB
      refine RunOk.of (RunOk.lay P3 (k + 2) ⟨kd, y.1, 0, z.1, t.pos⟩ (room hs1 hB')) (QP.refl _ _ _) fun α pan ret => ?_
      rw [tk4_pos g3, need_run (by simp)]
  by_cases c2 : isS [60] s = true
  · rw [if_pos c2]
    refine steps 8 [62] (isS_kind c2) _ fun α pan ret => ?_
    show spunary.f (k + 4) ⟨p, 0⟩ pan ret h = _
    rw [spunary.f, spunary.u18.f, spunary.u1.f, spunary.u17.f, spunary.u15.f, spunary.u14.f, spunary.u2.f, is_run P, spunary.u13.f, d1, cond_false, spunary.u12.f, spunary.u4.f, is_run P, spunary.u11.f, c2, cond_true, spunary.u5.f]
  rw [if_neg c2]
  have d2 := Bool.eq_false_iff.2 c2
  by_cases c3 : isS [91] s = true
  · rw [if_pos c3]
    refine steps 9 [93] (isS_kind c3) _ fun α pan ret => ?_
    show spunary.f (k + 4) ⟨p, 0⟩ pan ret h = _
    rw [spunary.f, spunary.u18.f, spunary.u1.f, spunary.u17.f, spunary.u15.f, spunary.u14.f, spunary.u2.f, is_run P, spunary.u13.f, d1, cond_false, spunary.u12.f, spunary.u4.f, is_run P, spunary.u11.f, d2, cond_false, spunary.u10.f, spunary.u6.f, is_run P, spunary.u9.f, c3, cond_true, spunary.u7.f]
  rw [if_neg c3]
  have d3 := Bool.eq_false_iff.2 c3
  clear steps
  by_cases c4 : isS [40] s = true
  · rw [if_pos c4]
    obtain ⟨h1, ls1, e1, P1, q1⟩ := next_run P (k + 2) (by rw [isS_kind c4]; decide)
    refine RunOk.of (h1 := h1) (C' := fun α pan ret => spformula.f (k + 3) ⟨p, 0⟩ (fun e => pan e) fun r48 => spneed.f (k + 3) ⟨p, 0⟩ [41] (fun e => pan e) (ret r48)) ?_ q1 (fun α pan ret => by
      show spunary.f (k + 4) ⟨p, 0⟩ pan ret h = _
      rw [spunary.f, spunary.u18.f, spunary.u1.f, spunary.u17.f, spunary.u15.f, spunary.u14.f, spunary.u2.f, is_run P, spunary.u13.f, d1, cond_false, spunary.u12.f, spunary.u4.f, is_run P, spunary.u11.f, d2, cond_false, spunary.u10.f, spunary.u6.f, is_run P, spunary.u9.f, d3, cond_false, spunary.u8.f, is_run P, c4, cond_true, e1])
    refine RunOk.bind (ihf s.adv h1 ls1 fs P1) (G := fun α pan ret r48 => spneed.f (k + 3) ⟨p, 0⟩ [41] (fun e => pan e) (ret r48)) (fun α pan ret => rfl) ?_
    intro y h2 ls2 fs2 hy P2 q2
    have hn := need_run' P2 (k + 1) [41]
    cases hne : needE [41] y.2 with
    | error e =>
      rw [hne] at hn
      exact RunOk.err P2.ext fun α pan ret => hn α _ _
    | ok s' =>
      rw [hne] at hn
      obtain ⟨h3, ls3, e3, P3, q3⟩ := hn
      exact ⟨h3, ls3, fs2, fun α pan ret => e3 α _ _, P3, q3⟩
  rw [if_neg c4]
  have d4 := Bool.eq_false_iff.2 c4
  have start : ∀ (α : Type) (pan : V → M α) (ret : Int → M α), cps (k + 4) jj p .un a pan ret h = _ := fun α pan ret => by
    rw [show cps (k + 4) jj p .un a pan ret = spunary.f (k + 4) ⟨p, 0⟩ pan ret from rfl, spunary.f, spunary.u18.f, spunary.u1.f, spunary.u17.f, spunary.u15.f, spunary.u14.f, spunary.u2.f, is_run P, spunary.u13.f, d1, cond_false, spunary.u12.f, spunary.u4.f, is_run P, spunary.u11.f, d2, cond_false, spunary.u10.f, spunary.u6.f, is_run P, spunary.u9.f, d3, cond_false, spunary.u8.f, is_run P, d4, cond_false, p_l P, tk_kind P.toks (x := 0) (i := 0) rfl P.hd]
  by_cases c5 : s.hd.kind = 3
  · rw [if_pos c5]
    refine RunOk.makes P (k + 1) (by rw [c5]; decide) (G := fun α pan ret t58 => ldStr ((t58.add 2).add 0) fun x59 => ldI .i64 ((t58.add 1).add 0) fun x60 => spnode.f (k + 3) ⟨p, 0⟩ 4 0 0 x59 x60 fun r61 => ret r61) (fun α pan ret => (start α pan ret).trans (by rw [dT c5, cond_true])) ?_
    intro t s1 h1 ls1 q ht hs1 P1 g1 l1 n1 f1
    refine RunOk.of (RunOk.lay P1 (k + 2) ⟨4, 0, 0, t.text, t.pos⟩ (room hs1 (Bal.refl _))) (QP.refl _ _ _) fun α pan ret => ?_
    rw [tk4_text g1, tk4_pos g1]
  rw [if_neg c5]
  by_cases c6 : s.hd.kind = 2
  rotate_left
  · rw [if_neg c6]
    refine RunOk.err P.ext fun α pan ret => (start α pan ret).trans ?_
    rw [dF c5, cond_false, p_l P, tk_kind P.toks (x := 0) (i := 0) rfl P.hd, dF c6, cond_false, spunary.u16.f, wrong_run P]
  rw [if_pos c6]
  refine RunOk.makes P k (by rw [c6]; decide) (G := fun α pan ret t7 => ldStr ((t7.add 2).add 0) fun x8 => cond (decide (x8 = [116, 116])) (ldI .i64 ((t7.add 1).add 0) fun x9 => spnode.f (k + 2) ⟨p, 0⟩ 1 0 0 [] x9 fun r10 => ret r10) <|
      cond (decide (x8 = [102, 102])) (ldI .i64 ((t7.add 1).add 0) fun x11 => spnode.f (k + 2) ⟨p, 0⟩ 2 0 0 [] x11 fun r12 => ret r12) <|
      cond (decide (x8 = [109, 117])) (spword.u4.f (k + 2) (fun z0 z1 z2 => spformula.f (k + 2) z0 z1 z2) ⟨p, 0⟩ t7 10 ret pan) <| cond (decide (x8 = [110, 117])) (spword.u4.f (k + 2) (fun z0 z1 z2 => spformula.f (k + 2) z0 z1 z2) ⟨p, 0⟩ t7 11 ret pan) <|
      ldStr ((t7.add 2).add 0) fun x13 => ldI .i64 ((t7.add 1).add 0) fun x14 => spnode.f (k + 2) ⟨p, 0⟩ 3 0 0 x13 x14 fun r15 => ret r15) (fun α pan ret => (start α pan ret).trans (by
      rw [dF c5, cond_false, p_l P, tk_kind P.toks (x := 0) (i := 0) rfl P.hd, dT c6, cond_true, spword.f, spword.u5.f, spword.u1.f])) ?_
  intro t s1 h1 ls1 q ht hs1 P1 g1 l1 n1 f1
  have lay0 := fun (n : Nd) => RunOk.lay P1 (k + 1) n (room hs1 (Bal.refl _))
  dsimp only
  by_cases e1 : t.text = [116, 116]
  · rw [if_pos e1]
    refine RunOk.of (lay0 ⟨1, 0, 0, [], t.pos⟩) (QP.refl _ _ _) fun α pan ret => ?_
    rw [tk4_text g1, dT e1, cond_true, tk4_pos g1]
  rw [if_neg e1]
  by_cases e2 : t.text = [102, 102]
  · rw [if_pos e2]
    refine RunOk.of (lay0 ⟨2, 0, 0, [], t.pos⟩) (QP.refl _ _ _) fun α pan ret => ?_
    rw [tk4_text g1, dF e1, cond_false, dT e2, cond_true, tk4_pos g1]
  rw [if_neg e2]
  by_cases e3 : t.text = [109, 117] ∨ t.text = [110, 117]
  rotate_left
  · rw [if_neg e3]
    refine RunOk.of (lay0 ⟨3, 0, 0, t.text, t.pos⟩) (QP.refl _ _ _) fun α pan ret => ?_
    rw [tk4_text g1, dF e1, cond_false, dF e2, cond_false, dF (fun h => e3 (.inl h)), cond_false, dF (fun h => e3 (.inr h)), cond_false, tk4_text g1, tk4_pos g1]
  rw [if_pos e3]
  -- a fixpoint
  generalize hkd : (if t.text = [109, 117] then (10 : Int) else 11) = kd
  have start2 : RunOk h₀ h1 p tb fs (if s1.hd.kind = 3 then bindE (needE [46] s1.adv) fun z => bindE (pz j (.row true) 0 z) fun y => .ok (layE ⟨kd, y.1, 0, s1.hd.text, t.pos⟩ y.2) else .error (wrongE s1)) (fun α pan ret => spword.u4.f (k + 2) (fun z0 z1 z2 => spformula.f (k + 2) z0 z1 z2) ⟨p, 0⟩ ⟨q, 0⟩ kd ret pan) := by
    by_cases h3 : s1.hd.kind = 3
    rotate_left
    · rw [if_neg h3]
      refine RunOk.err P1.ext fun α pan ret => ?_
      rw [spword.u4.f, spword.u2.f, p_l P1, tk_kind P1.toks (x := 0) (i := 0) rfl P1.hd, dF h3, Bool.not_false, cond_true, wrong_run P1]
    rw [if_pos h3]
    obtain ⟨h2, ls2, e2', P2, q2⟩ := next_run P1 (k + 1) (by rw [h3]; decide)
    have g2 := q2.tok l1 n1 f1 g1
    have l2 := Nat.lt_of_lt_of_le l1 q2.nx
    have hn := need_run' P2 k [46]
    refine RunOk.of (h1 := h2) (C' := fun α pan ret => spneed.f (k + 2) ⟨p, 0⟩ [46] (fun e => pan e) (ldI .i64 (((⟨q, 0⟩ : Ad).add 1).add 0) fun x9 => spformula.f (k + 2) ⟨p, 0⟩ (fun e => pan e) fun r10 => ldI .i64 (((⟨q, 0⟩ : Ad).add 1).add 0) fun y11 => need (decide (x9 = y11)) <| spnode.f (k + 2) ⟨p, 0⟩ kd r10 0 s1.hd.text x9 fun r12 => ret r12)) ?_ q2 (fun α pan ret => by
      rw [spword.u4.f, spword.u2.f, p_l P1, tk_kind P1.toks (x := 0) (i := 0) rfl P1.hd, dT h3, Bool.not_true, cond_false, spword.u3.f, e2'])
    cases hne : needE [46] s1.adv with
    | error e =>
      rw [hne] at hn
      exact RunOk.err P2.ext fun α pan ret => hn α _ _
    | ok s' =>
      rw [hne] at hn
      obtain ⟨h3', ls3, e3', P3, q3⟩ := hn
      have g3 := q3.tok l2 n1 f1 g2
      have l3 := Nat.lt_of_lt_of_le l2 q3.nx
      obtain ⟨w1, w2⟩ := needE_ok hne
      have hbal : Bal s1 s' := by
        rw [w2]
        exact (Bal.adv s1 (by rw [h3]; decide)).trans (Bal.adv _ (by rw [isS_kind w1]; decide))
      refine RunOk.of (h1 := h3') (C' := fun α pan ret => spformula.f (k + 2) ⟨p, 0⟩ (fun e => pan e) fun r10 => ldI .i64 (((⟨q, 0⟩ : Ad).add 1).add 0) fun y11 => need (decide (t.pos = y11)) <| spnode.f (k + 2) ⟨p, 0⟩ kd r10 0 s1.hd.text t.pos fun r12 => ret r12) ?_ q3 (fun α pan ret => by rw [e3', tk4_pos g3])
      refine RunOk.bind (ihw s' h3' ls3 fs P3) (G := fun α pan ret r10 => ldI .i64 (((⟨q, 0⟩ : Ad).add 1).add 0) fun y11 => need (decide (t.pos = y11)) <| spnode.f (k + 2) ⟨p, 0⟩ kd r10 0 s1.hd.text t.pos fun r12 => ret r12) (fun α pan ret => rfl) ?_
      intro y h4 ls4 fs4 hy P4 q4
      have g4 := q4.tok l3 n1 f1 g3
      have hB := pz_bal _ _ _ _ _ _ hy
      have hB' : Bal s1 y.2 := hbal.trans hB
      refine RunOk.of (RunOk.lay P4 (k + 1) ⟨kd, y.1, 0, s1.hd.text, t.pos⟩ (room hs1 hB')) (QP.refl _ _ _) fun α pan ret => ?_
      rw [tk4_pos g4, need_run (by simp)]
  refine RunOk.of start2 (QP.refl _ _ _) fun α pan ret => ?_
  by_cases e4 : t.text = [109, 117]
  · rw [if_pos e4] at hkd
    rw [tk4_text g1, dF e1, cond_false, dF e2, cond_false, dT e4, cond_true, hkd]
  · rw [if_neg e4] at hkd
    rw [tk4_text g1, dF e1, cond_false, dF e2, cond_false, dF e4, cond_false, dT (e3.resolve_left e4), cond_true, hkd]
theorem pz_run : ∀ (j : Nat) (r : Rl) (a : Int) (s : St) (h : H) (ls fs : Sl) (k jj : Nat), 2 * j + 20 ≤ k → j ≤ jj → PS h₀ h p tb ls fs s → RunOk h₀ h p tb fs (pz j r a s) (fun α => cps k jj p r a) := by
  intro j
  induction j with
  | zero => intro r a s h ls fs k jj hk hj P; exact fun h => absurd rfl h
  | succ j ih =>
    intro r a s h ls fs k jj hk hj P
    cases r with
    | un => exact pz_un k j ih a s h ls fs jj hk P
    | row o => exact pz_row o k j ih a s h ls fs jj hk P
    | loop o =>
      obtain ⟨jj, rfl⟩ : ∃ q, jj = q + 1 := ⟨jj - 1, by omega⟩
      exact pz_loop o k j ih a s h ls fs jj (by omega) (by omega) P
end Go.Ab.S3
