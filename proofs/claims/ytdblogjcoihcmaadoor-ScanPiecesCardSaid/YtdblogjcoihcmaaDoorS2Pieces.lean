import Derived.Test.YtdblogjcoihcmaaDoorS2y
import GoSem.Claim
namespace Go.Ab.S2
set_option linter.unusedVariables false
set_option linter.unusedSimpArgs false
/-- what stands between two tokens: a remark is the last of it -/
theorem rem_stop {text : List UInt8} {n : Nat} {c : UInt8} (hc : text[n + remF (text.drop n)]? = some c) : c = 10 := by
  have h1 : (text.drop n)[remF (text.drop n)]? = some c := by rw [List.getElem?_drop]; exact hc
  generalize text.drop n = s at h1
  unfold remF at h1
  induction s with
  | nil => simp at h1
  | cons b s ih =>
    rw [List.takeWhile_cons] at h1
    by_cases hb : b = 10
    · subst hb; simpa using h1.symm
    · rw [show (b != 10) = true by simpa using hb] at h1
      simp only [if_true, List.length_cons, List.getElem?_cons_succ] at h1
      exact ih h1
theorem rem_in' : ∀ (s : List UInt8) (i : Nat) (c : UInt8), i < remF s → s[i]? = some c → c ≠ 10
  | [], i, c, h4, h3 => by simp at h3
  | b :: s, i, c, h4, h3 => by
    unfold remF at h4
    rw [List.takeWhile_cons] at h4
    by_cases hb : b = 10
    · subst hb; simp at h4
    · rw [show (b != 10) = true by simpa using hb] at h4
      simp only [if_true, List.length_cons] at h4
      cases i with
      | zero => simp at h3; rw [← h3]; exact hb
      | succ i =>
        rw [List.getElem?_cons_succ] at h3
        exact rem_in' s i c (by unfold remF; omega) h3
theorem rem_in {text : List UInt8} {n j : Nat} {c : UInt8} (h1 : n ≤ j) (h2 : j < n + remF (text.drop n)) (hc : text[j]? = some c) : c ≠ 10 :=
  rem_in' (text.drop n) (j - n) c (by omega) (by rw [List.getElem?_drop, show n + (j - n) = j by omega]; exact hc)
theorem gap_rem {text : List UInt8} {n p : Nat} (s : Sc text (n + remF (text.drop n)) [] p) : p = n + remF (text.drop n) := by
  generalize hq : n + remF (text.drop n) = q at s
  generalize hts : ([] : List Tok) = ts at s
  cases s with
  | nil h => rfl
  | blank hc hb s =>
    subst hq
    have := rem_stop hc
    subst this
    cases hb
  | rem hc hb hr s =>
    subst hq
    have := rem_stop hc
    subst this
    cases hr
  | tok hc hb hr he s => cases hts
theorem in_rem (k : Nat) {text : List UInt8} {sl : Sl} {a : Ad} {h : H} {i : Int} {p : Nat} (ha : h.cell ⟨a.id, a.off + 1⟩ = some (.int .i64 (p : Int))) (hp : p ≤ text.length) (hl : text.length ≤ 262144) :
    ∀ (f j : Nat), j ≤ p → p - j < f → (∀ q c, j ≤ q → q < p → text[q]? = some c → c ≠ 10) → ∀ (α : Type) (kr : Bool → M α) (kx : List UInt8 → Sl → Int → Ad → M α), bailifflaw02_ScanPieces.u7.l k kr kx f text sl i a true (j : Int) h = kx text sl i a h := by
  intro f
  induction f with
  | zero => intro j hj hf; omega
  | succ f ih =>
    intro j hj hf hne α kr kx
    rw [bailifflaw02_ScanPieces.u7.l, bailifflaw02_ScanPieces.u6.f]
    have e : ∀ (K : Int → M α), ldI .i64 ((a.add 1).add 0) K h = K p h := fun K => by
      cases a
      simp only [add_mk, Nat.add_zero]
      exact ldI_run ha
    rw [e]
    by_cases hlt : j < p
    · have hc : text[j]? = some text[j] := List.getElem?_eq_getElem (by omega)
      have h10 := hne j _ (Nat.le_refl _) hlt hc
      have d10 : decide ((text[j].toNat : Int) = 10) = false := by
        have : text[j].toNat ≠ 10 := fun h => h10 (UInt8.toNat_inj.1 h)
        simp; omega
      rw [show decide ((j : Int) < (p : Int)) = true by simpa using hlt, cond_true, cond_true, idxStr_run rfl hc, d10, cond_false, w64_eq (by omega) (by omega), show ((j : Int) + 1) = ((j + 1 : Nat) : Int) by omega]
      exact ih (j + 1) (by omega) (by omega) (fun q c h1 h2 => hne q c (by omega) h2) α kr kx
    · rw [show decide ((j : Int) < (p : Int)) = false by simpa using hlt, cond_false]
theorem gap_run (k : Nat) {text : List UInt8} {sl : Sl} {a : Ad} {h : H} {i : Int} {p : Nat} (ha : h.cell ⟨a.id, a.off + 1⟩ = some (.int .i64 (p : Int))) (hl : text.length ≤ 262144) :
    ∀ {n m : Nat} {ts : List Tok}, Sc text n ts m → ts = [] → m = p → ∀ (f : Nat), p - n < f → ∀ (α : Type) (kr : Bool → M α) (kx : List UInt8 → Sl → Int → Ad → M α), bailifflaw02_ScanPieces.u7.l k kr kx f text sl i a false (n : Int) h = kx text sl i a h := by
  intro n m ts s
  have e : ∀ (α : Type) (K : Int → M α), ldI .i64 ((a.add 1).add 0) K h = K p h := fun α K => by
    cases a
    simp only [add_mk, Nat.add_zero]
    exact ldI_run ha
  induction s with
  | nil hn =>
    intro _ hm f hf α kr kx
    obtain ⟨f, rfl⟩ : ∃ g, f = g + 1 := ⟨f - 1, by omega⟩
    subst hm
    rw [bailifflaw02_ScanPieces.u7.l, bailifflaw02_ScanPieces.u6.f, e]
    rw [show decide (((_ : Nat) : Int) < ((_ : Nat) : Int)) = false by simp, cond_false]
  | blank hc hb s ih =>
    intro hts hm f hf α kr kx
    have hle := s.le
    obtain ⟨f, rfl⟩ : ∃ g, f = g + 1 := ⟨f - 1, by omega⟩
    rename_i n' m' ts' c
    subst hm
    rw [bailifflaw02_ScanPieces.u7.l, bailifflaw02_ScanPieces.u6.f, e]
    have hb' : (c.toNat : Int) = 32 ∨ (c.toNat : Int) = 9 := by
      simp only [blankB, Bool.or_eq_true, decide_eq_true_eq] at hb
      exact hb
    have d10 : decide ((c.toNat : Int) = 10) = false := by simp; omega
    have d35 : decide ((c.toNat : Int) = 35) = false := by simp; omega
    have next := ih hts rfl f (by omega) α kr kx
    rw [show decide ((n' : Int) < (m' : Int)) = true by simp; omega, cond_true, cond_false, idxStr_run rfl hc, idxStr_run rfl hc, d10, cond_false, d35, Bool.not_false, cond_true, idxStr_run rfl hc]
    rw [w64_eq (n := (n' : Int) + 1) (by have := s.le; omega) (by have := s.le; omega), show ((n' : Int) + 1) = ((n' + 1 : Nat) : Int) by omega]
    rcases hb' with h32 | h9
    · rw [show decide ((c.toNat : Int) = 32) = true by simpa using h32, Bool.not_true, cond_false]
      exact next
    · rw [show decide ((c.toNat : Int) = 32) = false by simp; omega, Bool.not_false, cond_true, idxStr_run rfl hc, show decide ((c.toNat : Int) = 9) = true by simpa using h9, Bool.not_true, cond_false]
      exact next
  | rem hc hb hr s ih =>
    intro hts hm f hf α kr kx
    have hle := s.le
    subst hts hm
    have hp := gap_rem s
    obtain ⟨r1, r2⟩ := rem_pos' hc hr
    obtain ⟨f, rfl⟩ : ∃ g, f = g + 1 := ⟨f - 1, by omega⟩
    rename_i n' m' c
    have hr' : (c.toNat : Int) = 35 := by simpa [remarkB] using hr
    have d10 : decide ((c.toNat : Int) = 10) = false := by simp; omega
    have d35 : decide ((c.toNat : Int) = 35) = true := by simpa using hr'
    rw [bailifflaw02_ScanPieces.u7.l, bailifflaw02_ScanPieces.u6.f, e]
    rw [show decide ((n' : Int) < (m' : Int)) = true by simp; omega, cond_true, cond_false, idxStr_run rfl hc, idxStr_run rfl hc, d10, cond_false, d35, Bool.not_true, cond_false]
    rw [w64_eq (n := (n' : Int) + 1) (by omega) (by omega), show ((n' : Int) + 1) = ((n' + 1 : Nat) : Int) by omega]
    exact in_rem k ha (by omega) hl f (n' + 1) (by omega) (by omega) (fun q d h1 h2 h3 => rem_in (n := n') (by omega) (by omega) h3) α kr kx
  | tok hc hb hr he s ih => intro hts; cases hts
/-- one token -/
theorem piece_run (k : Nat) {text : List UInt8} {sl : Sl} {l : List Tok} {h : H} {i q p : Nat} {t : Tok} (r : Row h sl 4 (cellsL l)) (hl : text.length ≤ 262144) (hk : text.length < k) (hll : l.length ≤ 262145)
    (hi : l[i]? = some t) (hp : t.pos = (p : Int)) (gap : Sc text q [] p) (hend : p + t.text.length ≤ text.length) (hsl : (text.take (p + t.text.length)).drop p = t.text)
    (hkind : t.kind = 0 ↔ i + 1 = l.length) (htext : t.text.length = 0 ↔ t.kind = 0) :
    ∃ h', (∀ (α : Type) (kn : List UInt8 → Sl → Int → Int → M α) (kr : Bool → M α) (kx : List UInt8 → Sl → Int → M α), bailifflaw02_ScanPieces.u16.f k text sl (q : Int) (i : Int) kn kr kx h = kn text sl ((p + t.text.length : Nat) : Int) ((i + 1 : Nat) : Int) h') ∧ Ext h h' := by
  have hlt : i < l.length := by
    rcases Nat.lt_or_ge i l.length with h | h
    · exact h
    · rw [List.getElem?_eq_none h] at hi; cases hi
  have hlen := row_slen r
  have hle := gap.le
  have x1 : Ext h (h.push (.cells t.cells true)) := (Ext.refl h).push _
  have g := gap_run k (text := text) (sl := sl) (a := ⟨h.next, 0⟩) (h := h.push (.cells t.cells true)) (i := (i : Int)) (p := p) (by
    rw [cell_new, ← hp]; rfl) hl gap rfl rfl k (by omega)
  have c0 : (h.push (.cells t.cells true)).cell ⟨h.next, 0⟩ = some (.int .i64 t.kind) := by rw [cell_new]; rfl
  have c1 : (h.push (.cells t.cells true)).cell ⟨h.next, 1⟩ = some (.int .i64 p) := by rw [cell_new, ← hp]; rfl
  have c2 : (h.push (.cells t.cells true)).cell ⟨h.next, 2⟩ = some (.str t.text) := by rw [cell_new]; rfl
  refine ⟨_, fun α kn kr kx => ?_, x1⟩
  unfold bailifflaw02_ScanPieces.u16.f bailifflaw02_ScanPieces.u3.f bailifflaw02_ScanPieces.u15.f bailifflaw02_ScanPieces.u13.f bailifflaw02_ScanPieces.u12.f bailifflaw02_ScanPieces.u4.f
  rw [show decide ((i : Int) < (sl.len : Int)) = true by simp; omega, cond_true]
  dsimp only
  rw [tok_rd r (i := i) rfl hi, new_run rfl]
  simp only [add_mk, Nat.zero_add, Nat.add_zero]
  rw [st1_new rfl (by simp), st1_new rfl (by simp), st1_new rfl (by simp), st1_new rfl (by simp)]
  simp only [List.set_cons_zero, List.set_cons_succ]
  have hcells : [V.int IntKind.i64 t.kind, V.int IntKind.i64 t.pos, V.str t.text, V.int IntKind.i64 t.num] = t.cells := rfl
  rw [hcells, ldI_run c1, show decide ((p : Int) < (q : Int)) = false by simp; omega, cond_false, ldI_run c1, ldStr_run c2, w64_eq (n := (p : Int) + (t.text.length : Int)) (by omega) (by omega),
    show decide ((text.length : Int) < (p : Int) + (t.text.length : Int)) = false by simp; omega, cond_false, ldI_run c1, ldI_run c1, ldStr_run c2, w64_eq (n := (p : Int) + (t.text.length : Int)) (by omega) (by omega),
    cutStr_both rfl (m := p + t.text.length) (by omega) (by omega) hend, hsl, ldStr_run c2]
  simp only [decide_true, Bool.not_true, cond_false]
  rw [ldI_run c0, w64_eq (n := (sl.len : Int) - 1) (by omega) (by omega)]
  have dk : decide (t.kind = 0) = decide ((i : Int) = (sl.len : Int) - 1) := by
    by_cases h0 : t.kind = 0
    · have := hkind.1 h0
      rw [show decide (t.kind = 0) = true by simpa using h0]
      symm; simp; omega
    · have : ¬ i + 1 = l.length := fun h => h0 (hkind.2 h)
      rw [show decide (t.kind = 0) = false by simpa using h0]
      symm; simp; omega
  have dt : decide ((t.text.length : Int) = 0) = decide (t.kind = 0) := by
    by_cases h0 : t.kind = 0
    · have := htext.2 h0
      rw [show decide (t.kind = 0) = true by simpa using h0]
      simp; exact List.length_eq_zero_iff.1 this
    · have : ¬ t.text.length = 0 := fun h => h0 (htext.1 h)
      rw [show decide (t.kind = 0) = false by simpa using h0]
      simp; exact fun h => this (by rw [h]; rfl)
  rw [dk]
  simp only [decide_true, Bool.not_true, cond_false]
  rw [ldStr_run c2, ldI_run c0, dt]
  simp only [decide_true, Bool.not_true, cond_false]
  unfold bailifflaw02_ScanPieces.u11.f bailifflaw02_ScanPieces.u9.f bailifflaw02_ScanPieces.u5.f bailifflaw02_ScanPieces.u8.f bailifflaw02_ScanPieces.u7.f
  refine (g α _ _).trans ?_
  unfold bailifflaw02_ScanPieces.u10.f bailifflaw02_ScanPieces.u14.f
  simp only [add_mk, Nat.zero_add, Nat.add_zero]
  rw [ldI_run c1, ldStr_run c2, w64_eq (n := (p : Int) + (t.text.length : Int)) (by omega) (by omega), w64_eq (n := (i : Int) + 1) (by omega) (by omega), show (p : Int) + (t.text.length : Int) = ((p + t.text.length : Nat) : Int) by omega, show (i : Int) + 1 = ((i + 1 : Nat) : Int) by omega]
/-- the first token, and what is ahead of it -/
theorem Sc.first {text : List UInt8} {n m : Nat} {ts : List Tok} (s : Sc text n ts m) : ∀ {t : Tok} {rest : List Tok}, ts = t :: rest → ∃ (p : Nat) (c : UInt8), Sc text n [] p ∧ text[p]? = some c ∧ (tokF text p c).2 = 0 ∧ t = (tokF text p c).1 ∧ Sc text (p + (wordF text p c).length) rest m := by
  induction s with
  | nil h => intro t rest h; cases h
  | blank hc hb s ih => intro t rest h; obtain ⟨p, c, h1, h2⟩ := ih h; exact ⟨p, c, .blank hc hb h1, h2⟩
  | rem hc hb hr s ih => intro t rest h; obtain ⟨p, c, h1, h2⟩ := ih h; exact ⟨p, c, .rem hc hb hr h1, h2⟩
  | tok hc hb hr he s ih =>
    intro t rest h
    cases h
    exact ⟨_, _, .nil (by have := lt_of hc; omega), hc, he, rfl, s⟩
theorem tokF_kind {text : List UInt8} {p : Nat} {c : UInt8} (he : (tokF text p c).2 = 0) : (tokF text p c).1.kind ≠ 0 := by
  unfold tokF at he ⊢
  by_cases h0 : kindF c.toNat = 0
  · rw [if_pos h0] at he; cases he
  · rw [if_neg h0] at he ⊢
    split
    · exact h0
    · split
      · split <;> simp
      · exact h0
theorem word_slice {text : List UInt8} {p : Nat} {c : UInt8} : (text.take (p + (wordF text p c).length)).drop p = wordF text p c := by
  rw [List.drop_take, Nat.add_sub_cancel_left]
  unfold wordF
  rw [List.length_take]
  rcases Nat.le_total (longF (kindF c.toNat) (text.drop p)) (text.drop p).length with h | h
  · rw [Nat.min_eq_left h]
  · rw [Nat.min_eq_right h, List.take_length, List.take_of_length_le h]
theorem pieces_loop (k : Nat) {text : List UInt8} {sl : Sl} {l : List Tok} (hl : text.length ≤ 262144) (hk : text.length < k) (hll : l.length ≤ 262145) :
    ∀ (rest : List Tok) (f i q : Nat) (h : H), Row h sl 4 (cellsL l) → l.drop i = rest ++ [⟨0, (text.length : Nat), [], 0⟩] → Sc text q rest text.length → rest.length + 1 < f →
      ∃ h', ∀ (α : Type) (kr : Bool → M α) (kx : List UInt8 → Sl → Int → M α), bailifflaw02_ScanPieces.u17.l k kr kx f text sl (q : Int) (i : Int) h = kx text sl (text.length : Int) h' := by
  intro rest
  induction rest with
  | nil =>
    intro f i q h r hd s hf
    obtain ⟨f, rfl⟩ : ∃ g, f = g + 2 := ⟨f - 2, by simp at hf; omega⟩
    have hi : l[i]? = some ⟨0, (text.length : Nat), [], 0⟩ := by
      have := congrArg (·[0]?) hd
      simpa [List.getElem?_drop] using this
    have hlen : l.length = i + 1 := by
      have := congrArg List.length hd
      simp at this
      omega
    obtain ⟨h', e, x⟩ := piece_run k r hl hk hll hi rfl s (by simp) (by simp) ⟨fun _ => hlen.symm, fun _ => rfl⟩ ⟨fun _ => rfl, fun _ => rfl⟩
    refine ⟨h', fun α kr kx => ?_⟩
    rw [bailifflaw02_ScanPieces.u17.l]
    refine (e α _ _ _).trans ?_
    rw [bailifflaw02_ScanPieces.u17.l]
    unfold bailifflaw02_ScanPieces.u16.f bailifflaw02_ScanPieces.u3.f
    rw [show decide (((i + 1 : Nat) : Int) < (sl.len : Int)) = false by have := row_slen r; simp; omega, cond_false]
    rfl
  | cons t rest ih =>
    intro f i q h r hd s hf
    obtain ⟨f, rfl⟩ : ∃ g, f = g + 1 := ⟨f - 1, by omega⟩
    have hi : l[i]? = some t := by
      have := congrArg (·[0]?) hd
      simpa [List.getElem?_drop] using this
    have hd' : l.drop (i + 1) = rest ++ [⟨0, (text.length : Nat), [], 0⟩] := by
      have := congrArg (List.drop 1) hd
      rw [List.drop_drop] at this
      simpa [Nat.add_comm] using this
    have hlen : i + 1 < l.length := by
      have := congrArg List.length hd'
      simp at this
      omega
    obtain ⟨p, c, s1, hc, he, rfl, s2⟩ := s.first rfl
    obtain ⟨w1, w2⟩ := wordF_pos (c := c) (lt_of hc)
    have hkd := tokF_kind he
    obtain ⟨h', e, x⟩ := piece_run k r hl hk hll hi (tokF_pos _ _ _) s1 (by rw [tokF_text]; exact w2) (by rw [tokF_text]; exact word_slice) ⟨fun h => absurd h hkd, fun h => by omega⟩ ⟨fun h => by rw [tokF_text] at h; omega, fun h => absurd h hkd⟩
    rw [tokF_text] at e
    obtain ⟨h'', e2⟩ := ih f (i + 1) (p + (wordF text p c).length) h' (r.ext x) hd' s2 (by simp at hf; omega)
    refine ⟨h'', fun α kr kx => ?_⟩
    rw [bailifflaw02_ScanPieces.u17.l]
    exact (e α _ _ _).trans (e2 α kr kx)
theorem Pieces_run (text : List UInt8) (h : H) (k : Nat) (hk : 262144 + 40 ≤ k) : ∃ h', ∀ (α : Type) (ret : Bool → M α), bailifflaw02_ScanPieces.f (k + 1) text ret h = ret true h' := by
  obtain ⟨k, rfl⟩ : ∃ q, k = q + 2 := ⟨k - 2, by omega⟩
  obtain ⟨h1, e1, x1⟩ := shown_run (k + 1) (by omega) h
  have a1 := All_run (k + 1) text (by omega) h1
  have errs : ∀ (p m : Nat) (e : Int) (h2 : H), m ≤ text.length → e ≠ 0 → p < h2.next → h2.get p = some (.cells [.int .i64 (m : Int), .int .i64 e] true) → (∀ (α : Type) (ret : Sl → V → M α), scan_All.f (k + 1 + 1) text ret h1 = ret Sl.nil (.iface 42 (.ptr (some ⟨p, 0⟩))) h2) →
      ∃ h', ∀ (α : Type) (ret : Bool → M α), bailifflaw02_ScanPieces.f (k + 2 + 1) text ret h = ret true h' := by
    intro p m e h2 hm he hp hg e2
    refine ⟨h2.push (.cells [.ptr (some ⟨p, 0⟩)] true), fun α ret => ?_⟩
    simp only [bailifflaw02_ScanPieces.f]
    unfold bailifflaw02_ScanPieces.u22.f bailifflaw02_ScanPieces.u1.f
    rw [e1, e2]
    simp only [Bool.not_true, cond_false, asNil_iface, Bool.not_false, cond_true]
    rw [fault_run k _ h2 p (m : Int) e hp hg, show decide ((0 : Int) ≤ (m : Int)) = true by simp, cond_true, show decide ((m : Int) ≤ (text.length : Int)) = true by simpa using hm, cond_true, show decide (e = 0) = false by simpa using he, Bool.not_false, cond_true]
    rfl
  rcases scanF_cases text with ⟨hl, hs⟩ | ⟨hl, ts, sc, hs⟩ | ⟨hl, m, e, ts, sc, bd, hs⟩
  · rw [hs] at a1
    obtain ⟨p, h2, e2, _, _, p2, g2⟩ := a1
    exact errs p 262144 2 h2 (by omega) (by decide) p2 g2 e2
  · rw [hs] at a1
    obtain ⟨sl, h2, e2, x2, r2, _, b2, _⟩ := a1
    have hlen := row_slen r2
    obtain ⟨h', e3⟩ := pieces_loop (k + 2) hl (by omega) (by omega) ts (k + 2) 0 0 h2 r2 rfl sc (by simp at b2; omega)
    refine ⟨h', fun α ret => ?_⟩
    simp only [bailifflaw02_ScanPieces.f]
    unfold bailifflaw02_ScanPieces.u22.f bailifflaw02_ScanPieces.u1.f
    rw [e1, e2]
    simp only [Bool.not_true, cond_false, asNil_nil]
    unfold bailifflaw02_ScanPieces.u21.f bailifflaw02_ScanPieces.u19.f bailifflaw02_ScanPieces.u2.f bailifflaw02_ScanPieces.u18.f bailifflaw02_ScanPieces.u17.f
    refine (e3 α _ _).trans ?_
    unfold bailifflaw02_ScanPieces.u20.f
    dsimp only
    rw [show decide ((0 : Int) < (sl.len : Int)) = true by simp at hlen; simp; omega, cond_true]
    simp
  · rw [hs] at a1
    obtain ⟨p, h2, e2, _, _, p2, g2⟩ := a1
    have := bad_err bd
    exact errs p m e h2 (by omega) this.2.2 p2 g2 e2
theorem Pieces_law (text : List UInt8) (hl : text.length ≤ reachBytes) : ∃ k h', ∀ (α : Type) (ret : Bool → M α), bailifflaw02_ScanPieces.f (k + 1) text ret h0 = ret true h' :=
  ⟨262184, Pieces_run text h0 262184 (by decide)⟩
end Go.Ab.S2
