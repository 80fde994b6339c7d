import Derived.Test.YtkfoohgkbafafaaS3u
namespace Go.Ab.S3
set_option linter.unusedVariables false
set_option linter.unusedSimpArgs false
variable {α : Type} {h h₀ : H} {p tb : Nat} {ls fs : Sl} {s : St}
theorem need_run' (P : PS h₀ h p tb ls fs s) (k : Nat) (sign : List UInt8) :
    match needE sign s with
    | .error e => ∀ (α : Type) (pan : V → M α) (ret : M α), spneed.f (k + 2) ⟨p, 0⟩ sign pan ret h = pan (thrown e) h
    | .ok s' => ∃ h' ls', (∀ (α : Type) (pan : V → M α) (ret : M α), spneed.f (k + 2) ⟨p, 0⟩ sign pan ret h = ret h') ∧ PS h₀ h' p tb ls' fs s' ∧ QP p fs fs h h' := by
  unfold needE
  by_cases hs : isS sign s = true
  · rw [if_pos hs]
    obtain ⟨h', ls', e', P', q'⟩ := next_run P k (by rw [isS_kind hs]; decide)
    refine ⟨h', ls', fun α pan ret => ?_, P', q'⟩
    rw [spneed.f, spneed.u1.f, is_run P, hs, Bool.not_true, cond_false, e']
  · rw [if_neg hs]
    intro α pan ret
    rw [spneed.f, spneed.u1.f, is_run P, Bool.eq_false_iff.2 hs, Bool.not_false, cond_true, wrong_run P]
theorem step_run (P : PS h₀ h p tb ls fs s) (k : Nat) (shut : List UInt8) :
    match stepE shut s with
    | .error e => ∃ h', Ext h₀ h' ∧ ∀ (α : Type) (pan : V → M α) (ret : List UInt8 → M α), spstep.f (k + 3) ⟨p, 0⟩ shut pan ret h = pan (thrown e) h'
    | .ok z => ∃ h' ls', (∀ (α : Type) (pan : V → M α) (ret : List UInt8 → M α), spstep.f (k + 3) ⟨p, 0⟩ shut pan ret h = ret z.1 h') ∧ PS h₀ h' p tb ls' fs z.2 ∧ QP p fs fs h h' := by
  unfold stepE
  by_cases hc : isS [45] s = true ∨ (s.hd.kind = 2 ∧ wordsF s.hd.text = false)
  · rw [if_pos hc]
    have hk : s.hd.kind ≠ 0 := by
      rcases hc with hc | hc
      · rw [isS_kind hc]; decide
      · rw [hc.1]; decide
    obtain ⟨h1, ls1, e1, P1, q1⟩ := next_run P (k + 1) hk
    have start : ∀ (α : Type) (pan : V → M α) (ret : List UInt8 → M α), spstep.f (k + 3) ⟨p, 0⟩ shut pan ret h = spneed.f (k + 2) ⟨p, 0⟩ shut pan (ret s.hd.text) h1 := fun α pan ret => by
      rw [spstep.f, spstep.u1.f, is_run P]
      by_cases h45 : isS [45] s = true
      · rw [h45, Bool.not_true, cond_false, e1]
      · have h2 := hc.resolve_left h45
        rw [Bool.eq_false_iff.2 h45, Bool.not_false, cond_true, p_l P, tk_kind P.toks (x := 0) (i := 0) rfl P.hd, dT h2.1, Bool.not_true, cond_false, p_l P, tk_text P.toks (x := 0) (i := 0) rfl P.hd, word_run, h2.2, cond_false, e1]
    have hn := need_run' P1 k shut
    cases hne : needE shut s.adv with
    | error e =>
      rw [hne] at hn
      exact ⟨h1, P1.ext, fun α pan ret => (start α pan ret).trans (hn α pan _)⟩
    | ok s' =>
      rw [hne] at hn
      obtain ⟨h2, ls2, e2, P2, q2⟩ := hn
      exact ⟨h2, ls2, fun α pan ret => (start α pan ret).trans (e2 α pan _), P2, q1.trans q2⟩
  · rw [if_neg hc]
    refine ⟨h, P.ext, fun α pan ret => ?_⟩
    have h45 : ¬ isS [45] s = true := fun e => hc (.inl e)
    rw [spstep.f, spstep.u1.f, is_run P, Bool.eq_false_iff.2 h45, Bool.not_false, cond_true, p_l P, tk_kind P.toks (x := 0) (i := 0) rfl P.hd]
    by_cases h2 : s.hd.kind = 2
    · have hw : wordsF s.hd.text = true := by
        cases hq : wordsF s.hd.text with
        | true => rfl
        | false => exact absurd (.inr ⟨h2, hq⟩) hc
      rw [dT h2, Bool.not_true, cond_false, p_l P, tk_text P.toks (x := 0) (i := 0) rfl P.hd, word_run, hw, cond_true, wrong_run P]
    · rw [dF h2, Bool.not_false, cond_true, wrong_run P]
theorem lay_run (P : PS h₀ h p tb ls fs s) (k : Nat) (n : Nd) (hlt : s.f.length < s.made) :
    ∃ h' fs', (∀ (α : Type) (ret : Int → M α), spnode.f (k + 1) ⟨p, 0⟩ n.kind n.a n.b n.name n.pos ret h = ret (layE n s).1 h') ∧ PS h₀ h' p tb ls fs' (layE n s).2 ∧ QP p fs fs' h h' := by
  have hm := P.m60
  have hfl : fs.len = s.f.length := slen Nd.len (by decide) P.nodes.rd
  have x1 : Ext h (h.push (ndC n)) := (Ext.refl h).push _
  have hq : (h.push (ndC n)).get h.next = some (ndC n) := by rw [push_get, if_pos rfl]
  have P1 := P.push x1
  have e1 : ∀ (α : Type) (K : Ad → M α), new [.int .i64 n.kind, .int .i64 n.a, .int .i64 n.b, .str n.name, .int .i64 n.pos] K h = K ⟨h.next, 0⟩ (h.push (ndC n)) := fun α K => new_run rfl
  have hn1 : (h.push (ndC n)).next = h.next + 1 := rfl
  generalize h.push (ndC n) = h1 at x1 hq P1 e1 hn1
  have x2 : Ext h1 (h1.push (ndC n)) := (Ext.refl h1).push _
  have P2 := P1.push x2
  have e2 : ∀ (α : Type) (K : Ad → M α), new [.int .i64 n.kind, .int .i64 n.a, .int .i64 n.b, .str n.name, .int .i64 n.pos] K h1 = K ⟨h1.next, 0⟩ (h1.push (ndC n)) := fun α K => new_run rfl
  have rp : Rd (h1.push (ndC n)) ⟨some ⟨h1.next, 0⟩, 1, 1, none⟩ 5 n.cells := Rd.pushed h1 rfl
  have hn2 : (h1.push (ndC n)).next = h1.next + 1 := rfl
  generalize h1.push (ndC n) = h2 at x2 P2 e2 rp hn2
  obtain ⟨h3, e3, ap3, g3, k3⟩ := app_row (bytes := 48) P2.nodes rp (by show 0 < 1; decide) (by decide) (by show (fs.len + 1 + (fs.len + 1) / 4 + 512) * 48 ≤ _; omega)
  dsimp only at e3 ap3
  have hlts := P2.lts
  have keep : ∀ i, i < h2.next → (∀ a, fs.ad = some a → i ≠ a.id) → h3.get i = h2.get i := fun i hi ha => k3.2 i hi fun _ a h => ha a h
  have gp : h3.get p = h2.get p := keep p P2.plt fun a ha => Ne.symm (P2.fp a ha).1
  have hn3 := k3.1
  refine ⟨h3.put p (some (.cells [.slice ls, .int .i64 (s.made : Int), .slice ⟨some ⟨h2.next, 0⟩, fs.len + 1, fs.len + 1, some 5⟩] true)), ⟨some ⟨h2.next, 0⟩, fs.len + 1, fs.len + 1, some 5⟩, fun α ret => ?_, ?_, ?_⟩
  · have e4 : ∀ K : M α, st1 (((⟨p, 0⟩ : Ad).add 2).add 0) (.slice ⟨some ⟨h2.next, 0⟩, fs.len + 1, fs.len + 1, some 5⟩) K h3 = K (h3.put p (some (.cells [.slice ls, .int .i64 (s.made : Int), .slice ⟨some ⟨h2.next, 0⟩, fs.len + 1, fs.len + 1, some 5⟩] true))) := fun K => by
      simp only [add_mk]
      rw [st1_run (a := ⟨p, 0 + 2 + 0⟩) (gp.trans P2.blk) rfl (by simp)]
      rfl
    rw [spnode.f, spnode.u1.f, e1, p_f P1, own_all hq, e2, p_f P2, need_run (by simp), e3, e4, ldS_run (n := ⟨some ⟨h2.next, 0⟩, fs.len + 1, fs.len + 1, some 5⟩) (by simp only [add_mk]; rw [cell_of (a := ⟨p, 0 + 2 + 0⟩) (put_get _ _ _)]; rfl)]
    rw [w64_eq (by dsimp only; omega) (by dsimp only; omega)]
    unfold layE
    dsimp only
    rw [show ((fs.len + 1 : Nat) : Int) - 1 = (s.f.length : Int) by omega]
  · have hg : ∀ i, i ≠ p → (h3.put p (some (.cells [.slice ls, .int .i64 (s.made : Int), .slice ⟨some ⟨h2.next, 0⟩, fs.len + 1, fs.len + 1, some 5⟩] true))).get i = h3.get i := fun i hi => by rw [put_get_if, if_neg hi]
    have hc : cN (s.f ++ [n]) = cN s.f ++ n.cells := by simp [List.flatMap_append]
    have hpl := P2.plt
    have htl := P2.tl
    refine ⟨(k3.ext P2.ext P2.low).put _ P.p0, P.p0, by show p < h3.next; omega, by rw [put_get]; rfl, P2.toks.keep (by show h2.next ≤ h3.next; omega) (fun a ha => ?_), P.fine, ?_, (fun a ha => by cases ha; exact P2.ext.1), P.tok, P.tp, by show tb < h3.next; omega, (fun a ha => by cases ha; exact ⟨by show h2.next ≠ p; omega, by show h2.next ≠ tb; omega⟩), P.ends, ?_, P.m60⟩
    · rw [hg _ (by rw [P.tok a ha]; exact P.tp)]
      exact keep _ (hlts.1 a ha) fun b hb => by rw [P.tok a ha]; exact Ne.symm (P2.fp b hb).2
    · show App _ _ 5 (cN (s.f ++ [n]))
      rw [hc]
      exact ap3.keep (Nat.le_refl _) fun a ha => by cases ha; exact hg _ (by show h2.next ≠ p; omega)
    · show (s.f ++ [n]).length ≤ s.made
      rw [List.length_append]; exact hlt
  · refine ⟨by show h.next ≤ h3.next; omega, fun i hi hp ha => ?_, fun a ha => by cases ha; left; show h.next ≤ h2.next; omega⟩
    rw [put_get_if, if_neg hp, keep i (by omega) ha, x2.2 i (by omega), x1.2 i hi]
/-! ### the rules -/
def fnO (p : Nat) (o : Bool) : V := if o then .func 63 [.ptr (some ⟨p, 0⟩)] [] else .func 77 [.ptr (some ⟨p, 0⟩)] []
noncomputable def rowF (k : Nat) (o : Bool) (p : Nat) {α : Type} (pan : V → M α) (ret : Int → M α) : M α := if o then spformula.f k ⟨p, 0⟩ pan ret else spand.f k ⟨p, 0⟩ pan ret
noncomputable def cps (k jj : Nat) (p : Nat) (r : Rl) (a : Int) {α : Type} (pan : V → M α) (ret : Int → M α) : M α :=
  match r with
  | .un => spunary.f k ⟨p, 0⟩ pan ret
  | .row o => rowF k o p pan ret
  | .loop o => sprow.u3.l k (fun z0 z1 z2 => spand.f k z0 z1 z2) (fun z0 z1 z2 => spunary.f k z0 z1 z2) ret pan jj ⟨p, 0⟩ (signO o) (kindO o) (fnO p o) a
/-- a run tells what the function says -/
def RunOk (h₀ h : H) (p tb : Nat) (fs : Sl) (x : Except Er (Int × St)) (C : ∀ α : Type, (V → M α) → (Int → M α) → M α) : Prop :=
  match x with
  | .error e => e.2 ≠ 0 → ∃ h', Ext h₀ h' ∧ ∀ (α : Type) (pan : V → M α) (ret : Int → M α), C α pan ret h = pan (thrown e) h'
  | .ok y => ∃ h' ls' fs', (∀ (α : Type) (pan : V → M α) (ret : Int → M α), C α pan ret h = ret y.1 h') ∧ PS h₀ h' p tb ls' fs' y.2 ∧ QP p fs fs' h h'
theorem fnO_call (k : Nat) (o : Bool) (p : Nat) (F : (V → M α) → (Int → M α) → M α) (hF : ∀ pan ret, F pan ret = cps k k p (oneO o) 0 pan ret) (pan : V → M α) (K : Int → M α) :
    (asFunc (fnO p o) fun f6 ls7 ls8 => cond (Nat.beq f6 63) (uncons ls7 fun v9 ls10 => unnil ls10 <| unnil ls8 <| asP v9 fun x11 => asSome x11 fun p12 => spand.f k p12 pan K)
      (cond (Nat.beq f6 77) (uncons ls7 fun v15 ls16 => unnil ls16 <| unnil ls8 <| asP v15 fun x17 => asSome x17 fun p18 => spunary.f k p18 pan K) fail)) = cps k k p (oneO o) 0 pan K := by
  cases o <;> rfl
/-- a token of one's own: where it stands -/
theorem own_pos (P : PS h₀ h p tb ls fs s) (t : Tok) {q : Nat} (hq : h.get q = some (tkC t)) : True := trivial
/-- what is kept of a copy -/
theorem QP.tok {fs' : Sl} {h' : H} (q : QP p fs fs' h h') {i : Nat} {b : Blk} (hi : i < h.next) (hp : i ≠ p) (hf : ∀ a, fs.ad = some a → i ≠ a.id) (hb : h.get i = some b) : h'.get i = some b := by rw [q.keep i hi hp hf]; exact hb
/-- behind a token that makes a node: a copy of it is laid down -/
theorem copy_tok (P : PS h₀ h p tb ls fs s) (t : Tok) : PS h₀ (h.push (tkC t)) p tb ls fs s ∧ QP p fs fs h (h.push (tkC t)) ∧ (h.push (tkC t)).get h.next = some (tkC t) ∧ h.next < (h.push (tkC t)).next ∧ h.next ≠ p ∧ ∀ a, fs.ad = some a → h.next ≠ a.id :=
  ⟨P.push ((Ext.refl h).push _), QP.of ((Ext.refl h).push _), by rw [push_get, if_pos rfl], by rw [push_next]; omega, by have := P.plt; omega, fun a ha => by have := P.lts.2 a ha; omega⟩
theorem pz_loop (o : Bool) (k j : Nat) (ih : ∀ (r : Rl) (a : Int) (s : St) (h : H) (ls fs : Sl) (k jj : Nat), 2 * j + 20 ≤ k → j ≤ jj → PS h₀ h p tb ls fs s → RunOk h₀ h p tb fs (pz j r a s) (fun α => cps k jj p r a)) (a : Int) (s : St) (h : H) (ls fs : Sl) (jj : Nat) (hk : 2 * j + 20 ≤ k) (hj : j ≤ jj) (P : PS h₀ h p tb ls fs s) :
    RunOk h₀ h p tb fs (pz (j + 1) (.loop o) a s) (fun α => cps k (jj + 1) p (.loop o) a) := by
  obtain ⟨k, rfl⟩ : ∃ q, k = q + 2 := ⟨k - 2, by omega⟩
  have start : ∀ (α : Type) (pan : V → M α) (ret : Int → M α), cps (k + 2) (jj + 1) p (.loop o) a pan ret h = cond (isS (signO o) s) (spmakes.f (k + 2) ⟨p, 0⟩ (fun e33 => pan e33) fun r8 r9 r10 r11 =>
      new [.int .i64 0, .int .i64 0, .str [], .int .i64 0] fun t12 => st1 (t12.add 0) (.int .i64 r8) <| st1 (t12.add 1) (.int .i64 r9) <| st1 (t12.add 2) (.str r10) <| st1 (t12.add 3) (.int .i64 r11) <|
      ldI .i64 ((t12.add 1).add 0) fun x13 => cps (k + 2) (k + 2) p (oneO o) 0 pan fun r21 => ldI .i64 ((t12.add 1).add 0) fun y22 => need (decide (x13 = y22)) <| spnode.f (k + 2) ⟨p, 0⟩ (kindO o) a r21 [] x13 fun r23 => cps (k + 2) jj p (.loop o) r23 pan ret) (ret a) h := fun α pan ret => by
    show sprow.u3.l _ _ _ _ _ _ _ _ _ _ _ h = _
    rw [sprow.u3.l, sprow.u2.f, is_run P]
    cases o <;> rfl
  rw [pz]
  by_cases hs : isS (signO o) s = true
  rotate_left
  · rw [if_neg hs]
    refine ⟨h, ls, fs, fun α pan ret => ?_, P, QP.refl _ _ _⟩
    refine (start α pan ret).trans ?_
    rw [Bool.eq_false_iff.2 hs, cond_false]
  rw [if_pos hs]
  have hm := makes_run P k (by rw [isS_kind hs]; decide)
  cases hme : makesE s with
  | error e =>
    rw [hme] at hm
    obtain ⟨h', x', e'⟩ := hm
    exact fun _ => ⟨h', x', fun α pan ret => (start α pan ret).trans (by rw [hs, cond_true, e'])⟩
  | ok x =>
    rw [hme] at hm
    obtain ⟨h1, ls1, e1, P1, q1⟩ := hm
    obtain ⟨t, s1⟩ := x
    dsimp only at e1 P1
    obtain ⟨P2, q2, g2, l2, n2, f2⟩ := copy_tok P1 t
    have start2 : ∀ (α : Type) (pan : V → M α) (ret : Int → M α), cps (k + 2) (jj + 1) p (.loop o) a pan ret h = cps (k + 2) (k + 2) p (oneO o) 0 pan (fun r21 => ldI .i64 (((⟨h1.next, 0⟩ : Ad).add 1).add 0) fun y22 => need (decide (t.pos = y22)) <| spnode.f (k + 2) ⟨p, 0⟩ (kindO o) a r21 [] t.pos fun r23 => cps (k + 2) jj p (.loop o) r23 pan ret) (h1.push (tkC t)) := fun α pan ret => by
      rw [start, hs, cond_true, e1, tk_copy, tk4_pos g2]
    have hi := ih (oneO o) 0 s1 _ ls1 fs (k + 2) (k + 2) hk (by omega) P2
    show RunOk h₀ h p tb fs (bindE (pz j (oneO o) 0 s1) fun y => _) _
    cases hz : pz j (oneO o) 0 s1 with
    | error e =>
      rw [hz] at hi
      exact fun he => by
        obtain ⟨h', x', e'⟩ := hi he
        exact ⟨h', x', fun α pan ret => (start2 α pan ret).trans (e' α pan _)⟩
    | ok y =>
      rw [hz] at hi
      obtain ⟨n, s2⟩ := y
      obtain ⟨h3, ls3, fs3, e3, P3, q3⟩ := hi
      dsimp only at e3 P3
      have hb := pz_bal _ _ _ _ _ _ hz
      have hmk := makesE_ok hme
      have hlt : s2.f.length < s2.made := by
        have h1 := hb.1
        rw [hmk.2.2] at h1
        simp only [St.adv] at h1
        have := P.bal
        omega
      have g3 : h3.get h1.next = some (tkC t) := q3.tok l2 n2 f2 g2
      obtain ⟨h4, fs4, e4, P4, q4⟩ := lay_run P3 (k + 1) ⟨kindO o, a, n, [], t.pos⟩ hlt
      dsimp only at e4
      have hi2 := ih (.loop o) (layE ⟨kindO o, a, n, [], t.pos⟩ s2).1 (layE ⟨kindO o, a, n, [], t.pos⟩ s2).2 h4 ls3 fs4 (k + 2) jj hk hj P4
      have q04 := q1.trans (q2.trans (q3.trans q4))
      have start3 : ∀ (α : Type) (pan : V → M α) (ret : Int → M α), cps (k + 2) (jj + 1) p (.loop o) a pan ret h = cps (k + 2) jj p (.loop o) (layE ⟨kindO o, a, n, [], t.pos⟩ s2).1 pan ret h4 := fun α pan ret => by
        rw [start2, e3, tk4_pos g3, need_run (by simp), e4]
      show RunOk h₀ h p tb fs (pz j (.loop o) (layE ⟨kindO o, a, n, [], t.pos⟩ s2).1 (layE ⟨kindO o, a, n, [], t.pos⟩ s2).2) _
      cases hz2 : pz j (.loop o) (layE ⟨kindO o, a, n, [], t.pos⟩ s2).1 (layE ⟨kindO o, a, n, [], t.pos⟩ s2).2 with
      | error e =>
        rw [hz2] at hi2
        exact fun he => by
          obtain ⟨h', x', e'⟩ := hi2 he
          exact ⟨h', x', fun α pan ret => (start3 α pan ret).trans (e' α pan ret)⟩
      | ok y =>
        rw [hz2] at hi2
        obtain ⟨h', ls', fs', e', P', q'⟩ := hi2
        exact ⟨h', ls', fs', fun α pan ret => (start3 α pan ret).trans (e' α pan ret), P', q04.trans q'⟩
theorem pz_row (o : Bool) (k j : Nat) (ih : ∀ (r : Rl) (a : Int) (s : St) (h : H) (ls fs : Sl) (k jj : Nat), 2 * j + 20 ≤ k → j ≤ jj → PS h₀ h p tb ls fs s → RunOk h₀ h p tb fs (pz j r a s) (fun α => cps k jj p r a)) (a : Int) (s : St) (h : H) (ls fs : Sl) (jj : Nat) (hk : 2 * (j + 1) + 20 ≤ k) (P : PS h₀ h p tb ls fs s) :
    RunOk h₀ h p tb fs (pz (j + 1) (.row o) a s) (fun α => cps k jj p (.row o) a) := by
  obtain ⟨k, rfl⟩ : ∃ q, k = q + 2 := ⟨k - 2, by omega⟩
  have start : ∀ (α : Type) (pan : V → M α) (ret : Int → M α), cps (k + 2) jj p (.row o) a pan ret h = cps k k p (oneO o) 0 pan (fun n => cps k k p (.loop o) n pan ret) h := fun α pan ret => by
    cases o <;> rfl
  rw [pz]
  have hi := ih (oneO o) 0 s h ls fs k k (by omega) (by omega) P
  cases hz : pz j (oneO o) 0 s with
  | error e =>
    rw [hz] at hi
    exact fun he => by
      obtain ⟨h', x', e'⟩ := hi he
      exact ⟨h', x', fun α pan ret => (start α pan ret).trans (e' α pan _)⟩
  | ok y =>
    rw [hz] at hi
    obtain ⟨h1, ls1, fs1, e1, P1, q1⟩ := hi
    have hi2 := ih (.loop o) y.1 y.2 h1 ls1 fs1 k k (by omega) (by omega) P1
    show RunOk h₀ h p tb fs (pz j (.loop o) y.1 y.2) _
    cases hz2 : pz j (.loop o) y.1 y.2 with
    | error e =>
      rw [hz2] at hi2
      exact fun he => by
        obtain ⟨h', x', e'⟩ := hi2 he
        exact ⟨h', x', fun α pan ret => (start α pan ret).trans ((e1 α pan _).trans (e' α pan ret))⟩
    | ok y2 =>
      rw [hz2] at hi2
      obtain ⟨h', ls', fs', e', P', q'⟩ := hi2
      exact ⟨h', ls', fs', fun α pan ret => (start α pan ret).trans ((e1 α pan _).trans (e' α pan ret)), P', q1.trans q'⟩
end Go.Ab.S3
