import Derived.Test.YtkfoohgkbafafaaS3w
namespace Go.Ab.S3
set_option linter.unusedVariables false
set_option linter.unusedSimpArgs false

/-! ### how a text is gone through -/
def blankB (c : UInt8) : Bool := decide ((c.toNat : Int) = 32) || decide ((c.toNat : Int) = 9)
def remarkB (c : UInt8) : Bool := decide ((c.toNat : Int) = 35)
inductive Sc (text : List UInt8) : Nat → List Tok → Nat → Prop
  | nil {n : Nat} : n ≤ text.length → Sc text n [] n
  | blank {n m : Nat} {ts : List Tok} {c : UInt8} : text[n]? = some c → blankB c = true → Sc text (n + 1) ts m → Sc text n ts m
  | rem {n m : Nat} {ts : List Tok} {c : UInt8} : text[n]? = some c → blankB c = false → remarkB c = true → Sc text (n + remF (text.drop n)) ts m → Sc text n ts m
  | tok {n m : Nat} {ts : List Tok} {c : UInt8} : text[n]? = some c → blankB c = false → remarkB c = false → (tokF text n c).2 = 0 → Sc text (n + (wordF text n c).length) ts m → Sc text n ((tokF text n c).1 :: ts) m
theorem lt_of {text : List UInt8} {n : Nat} {c : UInt8} (hc : text[n]? = some c) : n < text.length := by
  rcases Nat.lt_or_ge n text.length with h | h
  · exact h
  · rw [List.getElem?_eq_none h] at hc; cases hc
theorem allF_step {text : List UInt8} {f n : Nat} {c : UInt8} (hc : text[n]? = some c) : allF text (f + 1) n =
    if blankB c then allF text f (n + 1) else if remarkB c then allF text f (n + remF (text.drop n)) else
      if (tokF text n c).2 = 0 then (allF text f (n + (wordF text n c).length)).map ((tokF text n c).1 :: ·) else .error (n, (tokF text n c).2) := by
  simp only [allF, hc, tokF_text]
  by_cases h1 : (c.toNat : Int) = 32 ∨ (c.toNat : Int) = 9
  · have : blankB c = true := by simp [blankB]; exact h1
    rw [if_pos h1, if_pos this]
  · have : blankB c = false := by
      simp only [blankB, Bool.or_eq_false_iff, decide_eq_false_iff_not]
      exact ⟨fun h => h1 (.inl h), fun h => h1 (.inr h)⟩
    rw [if_neg h1, this]
    simp only [Bool.false_eq_true, if_false]
    by_cases h2 : (c.toNat : Int) = 35
    · have : remarkB c = true := by simp [remarkB]; exact h2
      rw [if_pos h2, if_pos this]
    · have : remarkB c = false := by simp [remarkB]; exact h2
      rw [if_neg h2, this]
      simp
theorem rem_pos' {text : List UInt8} {n : Nat} {c : UInt8} (hc : text[n]? = some c) (h : remarkB c = true) : 1 ≤ remF (text.drop n) ∧ n + remF (text.drop n) ≤ text.length :=
  rem_pos hc (by simpa [remarkB] using h)
/-- what a word begins with that may not be -/
structure Bad (text : List UInt8) (m : Nat) (e : Int) : Prop where
  bad : ∃ c, text[m]? = some c ∧ blankB c = false ∧ remarkB c = false ∧ (tokF text m c).2 = e
  ne : e ≠ 0
theorem allF_sc {text : List UInt8} : ∀ (f n : Nat), n ≤ text.length → text.length - n < f →
    match allF text f n with
    | .ok ts => Sc text n ts text.length
    | .error (m, e) => ∃ ts, Sc text n ts m ∧ Bad text m e := by
  intro f
  induction f with
  | zero => intro n hn hf; omega
  | succ f ih =>
    intro n hn hf
    cases hc : text[n]? with
    | none =>
      have hge : n = text.length := by
        rcases Nat.lt_or_ge n text.length with h | h
        · rw [List.getElem?_eq_getElem h] at hc; cases hc
        · omega
      simp only [allF, hc]
      subst hge
      exact .nil (Nat.le_refl _)
    | some c =>
      have hlt := lt_of hc
      rw [allF_step hc]
      cases hb : blankB c with
      | true =>
        simp only [if_true]
        have := ih (n + 1) hlt (by omega)
        cases h : allF text f (n + 1) with
        | ok ts => rw [h] at this; exact .blank hc hb this
        | error me => rw [h] at this; obtain ⟨ts, h1, h2⟩ := this; exact ⟨ts, .blank hc hb h1, h2⟩
      | false =>
        simp only [Bool.false_eq_true, if_false]
        cases hr : remarkB c with
        | true =>
          simp only [if_true]
          obtain ⟨r1, r2⟩ := rem_pos' hc hr
          have := ih (n + remF (text.drop n)) r2 (by omega)
          cases h : allF text f (n + remF (text.drop n)) with
          | ok ts => rw [h] at this; exact .rem hc hb hr this
          | error me => rw [h] at this; obtain ⟨ts, h1, h2⟩ := this; exact ⟨ts, .rem hc hb hr h1, h2⟩
        | false =>
          simp only [Bool.false_eq_true, if_false]
          by_cases he : (tokF text n c).2 = 0
          · rw [if_pos he]
            obtain ⟨w1, w2⟩ := wordF_pos (c := c) hlt
            have := ih (n + (wordF text n c).length) w2 (by omega)
            cases h : allF text f (n + (wordF text n c).length) with
            | ok ts => rw [h] at this; exact .tok hc hb hr he this
            | error me => rw [h] at this; obtain ⟨ts, h1, h2⟩ := this; exact ⟨_, .tok hc hb hr he h1, h2⟩
          · rw [if_neg he]
            exact ⟨[], .nil hn, ⟨⟨c, hc, hb, hr, rfl⟩, he⟩⟩
theorem Sc.le {text : List UInt8} {n m : Nat} {ts : List Tok} (s : Sc text n ts m) : n ≤ m ∧ m ≤ text.length := by
  induction s with
  | nil h => exact ⟨Nat.le_refl _, h⟩
  | blank _ _ _ ih => omega
  | rem _ _ _ _ ih => omega
  | tok _ _ _ _ _ ih => omega
/-- as far as this it goes so, whatever the fuel -/
theorem Sc.run {text : List UInt8} {n m : Nat} {ts : List Tok} (s : Sc text n ts m) : ∀ f g, text.length - n < f → text.length - m < g → allF text f n = (allF text g m).map (ts ++ ·) := by
  induction s with
  | nil h =>
    intro f g hf hg
    rw [allF_fuel text f g _ h hf hg]
    cases allF text g _ <;> rfl
  | blank hc hb s ih =>
    intro f g hf hg
    obtain ⟨f, rfl⟩ : ∃ q, f = q + 1 := ⟨f - 1, by omega⟩
    have := lt_of hc
    rw [allF_step hc, if_pos hb]
    exact ih f g (by omega) hg
  | rem hc hb hr s ih =>
    intro f g hf hg
    obtain ⟨f, rfl⟩ : ∃ q, f = q + 1 := ⟨f - 1, by omega⟩
    have := lt_of hc
    obtain ⟨r1, r2⟩ := rem_pos' hc hr
    rw [allF_step hc, hb, hr]
    simp only [Bool.false_eq_true, if_false, if_true]
    exact ih f g (by omega) hg
  | tok hc hb hr he s ih =>
    intro f g hf hg
    obtain ⟨f, rfl⟩ : ∃ q, f = q + 1 := ⟨f - 1, by omega⟩
    have hlt := lt_of hc
    rename_i c
    obtain ⟨w1, w2⟩ := wordF_pos (c := c) hlt
    rw [allF_step hc, hb, hr]
    simp only [Bool.false_eq_true, if_false]
    rw [if_pos he, ih f g (by omega) hg]
    cases allF text g _ <;> rfl
theorem allF_end (text : List UInt8) (g : Nat) : allF text (g + 1) text.length = .ok [] := by
  have : text[text.length]? = none := List.getElem?_eq_none (Nat.le_refl _)
  simp only [allF, this]
theorem Sc.ok {text : List UInt8} {ts : List Tok} (s : Sc text 0 ts text.length) : allF text (text.length + 1) 0 = .ok ts := by
  rw [s.run (text.length + 1) 1 (by omega) (by omega), allF_end]
  simp [Except.map]

/-! #### a text that is cut -/
theorem takeWhile_take (p : UInt8 → Bool) : ∀ (l : List UInt8) (k : Nat), (l.take k).takeWhile p = (l.takeWhile p).take k
  | [], k => by simp
  | b :: l, 0 => by simp
  | b :: l, k + 1 => by
    rw [List.take_succ_cons, List.takeWhile_cons, List.takeWhile_cons]
    cases p b
    · simp
    · simp [takeWhile_take p l k]
theorem get_take {text : List UInt8} {n q : Nat} {c : UInt8} (hc : text[n]? = some c) (hq : n < q) : (text.take q)[n]? = some c := by
  rw [List.getElem?_take_of_lt hq]; exact hc
theorem longF_take (kd : Int) (l : List UInt8) (k : Nat) (hk : 1 ≤ k) : longF kd (l.take k) = min (longF kd l) k := by
  have h1 : ∀ p : UInt8 → Bool, (((l.take k).drop 1).takeWhile p).length = min ((l.drop 1).takeWhile p).length (k - 1) := by
    intro p
    have : (l.take k).drop 1 = (l.drop 1).take (k - 1) := by rw [List.drop_take]
    rw [this, takeWhile_take, List.length_take]
    omega
  unfold longF
  split
  · rw [h1]; omega
  · split
    · rw [h1]; omega
    · omega
theorem wordF_take {text : List UInt8} {n q : Nat} {c : UInt8} (hq : n < q) (h : n + (wordF text n c).length ≤ q) (hn : n < text.length) : wordF (text.take q) n c = wordF text n c := by
  have hw : (wordF text n c).length = longF (kindF c.toNat) (text.drop n) := by
    have h2 : (text.drop n).length = text.length - n := List.length_drop
    have := longF_le (kindF c.toNat) (text.drop n) (by omega)
    unfold wordF
    rw [List.length_take]
    omega
  have hd : (text.take q).drop n = (text.drop n).take (q - n) := by rw [List.drop_take]
  unfold wordF at *
  rw [hd, longF_take _ _ _ (by omega), List.take_take]
  congr 1
  omega
theorem tokF_take {text : List UInt8} {n q : Nat} {c : UInt8} (hq : n < q) (h : n + (wordF text n c).length ≤ q) (hn : n < text.length) : tokF (text.take q) n c = tokF text n c := by
  unfold tokF
  rw [wordF_take hq h hn]
theorem remF_take {text : List UInt8} {n q : Nat} (h : n + remF (text.drop n) ≤ q) : remF ((text.take q).drop n) = remF (text.drop n) := by
  have hd : (text.take q).drop n = (text.drop n).take (q - n) := by rw [List.drop_take]
  unfold remF at *
  rw [hd, takeWhile_take, List.length_take]
  omega
theorem Sc.cut {text : List UInt8} {n m : Nat} {ts : List Tok} (s : Sc text n ts m) (q : Nat) (hq : m ≤ q) (hq2 : q ≤ text.length) : Sc (text.take q) n ts m := by
  induction s with
  | nil h => exact .nil (by rw [List.length_take]; omega)
  | blank hc hb s ih =>
    have := s.le
    exact .blank (get_take hc (by omega)) hb (ih hq)
  | rem hc hb hr s ih =>
    have := s.le
    obtain ⟨r1, r2⟩ := rem_pos' hc hr
    refine .rem (get_take hc (by omega)) hb hr ?_
    rw [remF_take (by omega)]
    exact ih hq
  | tok hc hb hr he s ih =>
    have := s.le
    have hlt := lt_of hc
    rename_i c
    obtain ⟨w1, w2⟩ := wordF_pos (c := c) hlt
    have hle := s.le
    have e1 := tokF_take (text := text) (c := c) (show _ < q by omega) (by omega) hlt
    have e2 := wordF_take (text := text) (c := c) (show _ < q by omega) (by omega) hlt
    rw [← e1]
    refine .tok (get_take hc (by omega)) hb hr (by rw [e1]; exact he) ?_
    rw [e2]
    exact ih hq
/-- as far as a place that was come to, it is taken, and no farther -/
theorem Sc.upto {text : List UInt8} {m : Nat} {ts : List Tok} (s : Sc text 0 ts m) : allF (text.take m) ((text.take m).length + 1) 0 = .ok ts := by
  have hl : (text.take m).length = m := by rw [List.length_take]; have := s.le; omega
  have := s.cut m (Nat.le_refl _) s.le.2
  exact Sc.ok (by rw [hl]; exact this)
theorem bad_err {text : List UInt8} {m : Nat} {e : Int} (b : Bad text m e) : m < text.length ∧ e ≠ 2 ∧ e ≠ 0 := by
  obtain ⟨⟨c, hc, _, _, he⟩, hne⟩ := b
  refine ⟨lt_of hc, ?_, hne⟩
  rw [← he]
  unfold tokF
  repeat' split
  all_goals simp
/-- what All tells, and how it comes to it -/
theorem scanF_cases (text : List UInt8) : (262144 < text.length ∧ scanF text = .error (262144, 2)) ∨
    (text.length ≤ 262144 ∧ ∃ ts, Sc text 0 ts text.length ∧ scanF text = .ok (ts ++ [⟨0, text.length, [], 0⟩])) ∨
    (text.length ≤ 262144 ∧ ∃ m e ts, Sc text 0 ts m ∧ Bad text m e ∧ scanF text = .error (m, e)) := by
  unfold scanF
  by_cases hl : 262144 < text.length
  · exact .inl ⟨hl, if_pos hl⟩
  · rw [if_neg hl]
    have := allF_sc (text := text) (text.length + 1) 0 (Nat.zero_le _) (by omega)
    cases h : allF text (text.length + 1) 0 with
    | ok ts => rw [h] at this; exact .inr (.inl ⟨by omega, ts, this, rfl⟩)
    | error me =>
      rw [h] at this
      obtain ⟨m, e⟩ := me
      obtain ⟨ts, h1, h2⟩ := this
      exact .inr (.inr ⟨by omega, m, e, ts, h1, h2, rfl⟩)
theorem Sc.scan {text : List UInt8} {m : Nat} {ts : List Tok} (s : Sc text 0 ts m) (hl : text.length ≤ 262144) : scanF (text.take m) = .ok (ts ++ [⟨0, (m : Nat), [], 0⟩]) := by
  have hl2 : (text.take m).length = m := by rw [List.length_take]; have := s.le; omega
  unfold scanF
  rw [if_neg (by have := s.le; omega), s.upto, hl2]
  rfl
end Go.Ab.S3
