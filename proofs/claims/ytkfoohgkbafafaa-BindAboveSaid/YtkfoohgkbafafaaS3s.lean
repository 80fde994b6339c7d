import Derived.Test.YtkfoohgkbafafaaS3r
namespace Go.Ab.S3
set_option linter.unusedVariables false
set_option linter.unusedSimpArgs false
/-! ### the parser, as a function of tokens -/
structure St where
  l : List Tok
  made : Nat
  f : List Nd
  deriving DecidableEq
abbrev Er := Int × Int
def St.hd (s : St) : Tok := s.l.headD ⟨0, 0, [], 0⟩
def St.adv (s : St) : St := { s with l := s.l.tail }
def isS (sign : List UInt8) (s : St) : Bool := decide (s.hd.kind = 5) && decide (s.hd.text = sign)
def wrongE (s : St) : Er := (s.hd.pos, if s.hd.kind = 0 then 6 else 7)
def makesE (s : St) : Except Er (Tok × St) := if s.made = 60 then .error (s.hd.pos, 10) else .ok (s.hd, { s.adv with made := s.made + 1 })
def needE (sign : List UInt8) (s : St) : Except Er St := if isS sign s = true then .ok s.adv else .error (wrongE s)
def layE (n : Nd) (s : St) : Int × St := ((s.f.length : Int), { s with f := s.f ++ [n] })
def stepE (shut : List UInt8) (s : St) : Except Er (List UInt8 × St) :=
  if isS [45] s = true ∨ (s.hd.kind = 2 ∧ wordsF s.hd.text = false) then (match needE shut s.adv with | .error e => .error e | .ok s' => .ok (s.hd.text, s')) else .error (wrongE s)
/-- what is read: what stands closest; a row of operands of one sign (true: `|`, false: `&`); such a row's rest -/
inductive Rl where
  | un
  | row (o : Bool)
  | loop (o : Bool)
def signO (o : Bool) : List UInt8 := if o then [124] else [38]
def kindO (o : Bool) : Int := if o then 7 else 6
def oneO (o : Bool) : Rl := if o then .row false else .un
def bindE {β γ : Type} (x : Except Er β) (f : β → Except Er γ) : Except Er γ := match x with | .error e => .error e | .ok b => f b
def pz : Nat → Rl → Int → St → Except Er (Int × St)
  | 0, _, _, _ => .error (0, 0)
  | j + 1, .row o, _, s => bindE (pz j (oneO o) 0 s) fun x => pz j (.loop o) x.1 x.2
  | j + 1, .loop o, a, s =>
    if isS (signO o) s = true then
      bindE (makesE s) fun x => bindE (pz j (oneO o) 0 x.2) fun y => pz j (.loop o) (layE ⟨kindO o, a, y.1, [], x.1.pos⟩ y.2).1 (layE ⟨kindO o, a, y.1, [], x.1.pos⟩ y.2).2
    else .ok (a, s)
  | j + 1, .un, _, s =>
    if isS [126] s = true then bindE (makesE s) fun x => bindE (pz j .un 0 x.2) fun y => .ok (layE ⟨5, y.1, 0, [], x.1.pos⟩ y.2)
    else if isS [60] s = true then bindE (makesE s) fun x => bindE (stepE [62] x.2) fun z => bindE (pz j .un 0 z.2) fun y => .ok (layE ⟨8, y.1, 0, z.1, x.1.pos⟩ y.2)
    else if isS [91] s = true then bindE (makesE s) fun x => bindE (stepE [93] x.2) fun z => bindE (pz j .un 0 z.2) fun y => .ok (layE ⟨9, y.1, 0, z.1, x.1.pos⟩ y.2)
    else if isS [40] s = true then bindE (pz j (.row true) 0 s.adv) fun y => bindE (needE [41] y.2) fun z => .ok (y.1, z)
    else if s.hd.kind = 3 then bindE (makesE s) fun x => .ok (layE ⟨4, 0, 0, x.1.text, x.1.pos⟩ x.2)
    else if s.hd.kind = 2 then bindE (makesE s) fun x =>
      if x.1.text = [116, 116] then .ok (layE ⟨1, 0, 0, [], x.1.pos⟩ x.2)
      else if x.1.text = [102, 102] then .ok (layE ⟨2, 0, 0, [], x.1.pos⟩ x.2)
      else if x.1.text = [109, 117] ∨ x.1.text = [110, 117] then
        (if x.2.hd.kind = 3 then bindE (needE [46] x.2.adv) fun z => bindE (pz j (.row true) 0 z) fun y => .ok (layE ⟨if x.1.text = [109, 117] then 10 else 11, y.1, 0, x.2.hd.text, x.1.pos⟩ y.2) else .error (wrongE x.2))
      else .ok (layE ⟨3, 0, 0, x.1.text, x.1.pos⟩ x.2)
    else .error (wrongE s)
/-- the whole: tokens (no line's end among them) to nodes -/
def parseE (l : List Tok) : Except Er (List Nd) :=
  bindE (pz (3 * l.length + 10) (.row true) 0 ⟨l, 0, []⟩) fun y => if y.2.hd.kind = 0 then .ok y.2.f else .error (wrongE y.2)
theorem parse1 : parseE [⟨2, 0, [109, 117], 0⟩, ⟨3, 3, [88], 0⟩, ⟨5, 4, [46], 0⟩, ⟨3, 6, [88], 0⟩, ⟨5, 8, [124], 0⟩, ⟨2, 10, [112], 0⟩, ⟨0, 11, [], 0⟩] = .ok [⟨4, 0, 0, [88], 6⟩, ⟨3, 0, 0, [112], 10⟩, ⟨7, 0, 1, [], 8⟩, ⟨10, 2, 0, [88], 0⟩] := by kernel_rfl
/-- a row of tokens that ends -/
def Ends : List Tok → Prop
  | [] => False
  | [t] => t.kind = 0
  | t :: u :: l => t.kind ≠ 0 ∧ Ends (u :: l)
theorem Ends.ne {l : List Tok} (h : Ends l) : ∃ t r, l = t :: r := by
  match l, h with
  | [t], _ => exact ⟨t, [], rfl⟩
  | t :: u :: r, _ => exact ⟨t, u :: r, rfl⟩
theorem Ends.tail {l : List Tok} {t : Tok} (h : Ends (t :: l)) (hk : t.kind ≠ 0) : Ends l := by
  match l, h with
  | [], h => exact absurd h hk
  | u :: r, h => exact h.2
/-- what an advance needs -/
theorem isS_kind {sign : List UInt8} {s : St} (h : isS sign s = true) : s.hd.kind = 5 := by
  simp only [isS, Bool.and_eq_true, decide_eq_true_eq] at h; exact h.1
theorem adv_ends {s : St} (h : Ends s.l) (hk : s.hd.kind ≠ 0) : Ends s.adv.l := by
  obtain ⟨t, r, hl⟩ := h.ne
  unfold St.hd at hk
  unfold St.adv
  rw [hl] at h hk ⊢
  exact h.tail hk
/-- nodes are made as they are laid -/
def Bal (s s' : St) : Prop := s'.made + s.f.length = s.made + s'.f.length ∧ s.made ≤ s'.made ∧ (s.made ≤ 60 → s'.made ≤ 60) ∧ (Ends s.l → Ends s'.l) ∧ s'.l.length ≤ s.l.length
theorem Bal.refl (s : St) : Bal s s := ⟨rfl, Nat.le_refl _, id, id, Nat.le_refl _⟩
theorem Bal.trans {a b c : St} (x : Bal a b) (y : Bal b c) : Bal a c := ⟨by have := x.1; have := y.1; omega, Nat.le_trans x.2.1 y.2.1, fun h => y.2.2.1 (x.2.2.1 h), fun h => y.2.2.2.1 (x.2.2.2.1 h), Nat.le_trans y.2.2.2.2 x.2.2.2.2⟩
theorem Bal.adv (s : St) (hk : s.hd.kind ≠ 0) : Bal s s.adv := ⟨rfl, Nat.le_refl _, id, fun he => adv_ends he hk, by unfold St.adv; rw [List.length_tail]; exact Nat.sub_le _ _⟩
theorem makesE_ok {s : St} {t : Tok} {s' : St} (h : makesE s = .ok (t, s')) : s.made ≠ 60 ∧ t = s.hd ∧ s' = { s.adv with made := s.made + 1 } := by
  unfold makesE at h
  split at h
  · cases h
  · cases h; exact ⟨by assumption, rfl, rfl⟩
theorem bindE_ok {β γ : Type} {x : Except Er β} {f : β → Except Er γ} {c : γ} (h : bindE x f = .ok c) : ∃ b, x = .ok b ∧ f b = .ok c := by
  cases x with
  | error e => cases h
  | ok b => exact ⟨b, rfl, h⟩
theorem needE_ok {sign : List UInt8} {s s' : St} (h : needE sign s = .ok s') : isS sign s = true ∧ s' = s.adv := by
  unfold needE at h
  split at h
  · cases h; exact ⟨by assumption, rfl⟩
  · cases h
theorem stepE_ok {shut : List UInt8} {s : St} {z : List UInt8 × St} (h : stepE shut s = .ok z) : (isS [45] s = true ∨ (s.hd.kind = 2 ∧ wordsF s.hd.text = false)) ∧ z.1 = s.hd.text ∧ isS shut s.adv = true ∧ z.2 = s.adv.adv := by
  unfold stepE at h
  split at h
  · rename_i hc
    cases hn : needE shut s.adv with
    | error e => rw [hn] at h; cases h
    | ok s' =>
      rw [hn] at h
      cases h
      obtain ⟨h1, rfl⟩ := needE_ok hn
      exact ⟨hc, rfl, h1, rfl⟩
  · cases h
theorem pz_bal : ∀ (j : Nat) (r : Rl) (a : Int) (s : St) (n : Int) (s' : St), pz j r a s = .ok (n, s') → Bal s s' := by
  intro j
  induction j with
  | zero => intro r a s n s' h; cases h
  | succ j ih =>
    intro r a s n s' h
    -- a token makes a node, which is laid behind what comes between
    have lay : ∀ {s1 s2 : St} {nd : Nd} {t : Tok}, makesE s = .ok (t, s1) → s.hd.kind ≠ 0 → Bal s1 s2 → Bal s (layE nd s2).2 := by
      intro s1 s2 nd t hm hk hb
      obtain ⟨h60, _, rfl⟩ := makesE_ok hm
      obtain ⟨b1, b2, b3, b4, b5⟩ := hb
      refine ⟨?_, ?_, ?_, fun he => b4 (adv_ends he hk), by simp only [layE, St.adv, List.length_tail] at *; omega⟩
      · simp only [layE, St.adv, List.length_append, List.length_cons, List.length_nil] at *; omega
      · simp only [layE, St.adv] at *; omega
      · intro h; exact b3 (by show s.made + 1 ≤ 60; omega)
    have refl := Bal.refl
    have trans : ∀ {a b c : St}, Bal a b → Bal b c → Bal a c := Bal.trans
    have adv := Bal.adv
    cases r with
    | row o =>
      rw [pz] at h
      obtain ⟨⟨m, s1⟩, h1, h2⟩ := bindE_ok h
      exact trans (ih _ _ _ _ _ h1) (ih _ _ _ _ _ h2)
    | loop o =>
      rw [pz] at h
      split at h
      · rename_i hs
        obtain ⟨⟨t, s1⟩, h1, h⟩ := bindE_ok h
        obtain ⟨⟨b, s2⟩, h2, h⟩ := bindE_ok h
        exact trans (lay h1 (by rw [isS_kind hs]; decide) (ih _ _ _ _ _ h2)) (ih _ _ _ _ _ h)
      · cases h; exact refl s
    | un =>
      rw [pz] at h
      have steps : ∀ (k : Int) (shut : List UInt8), s.hd.kind = 5 → bindE (makesE s) (fun x => bindE (stepE shut x.2) fun z => bindE (pz j .un 0 z.2) fun y => .ok (layE ⟨k, y.1, 0, z.1, x.1.pos⟩ y.2)) = .ok (n, s') → Bal s s' := by
        intro k shut hs h
        obtain ⟨⟨t, s1⟩, h1, h⟩ := bindE_ok h
        obtain ⟨⟨x, s2⟩, h2, h⟩ := bindE_ok h
        obtain ⟨⟨b, s3⟩, h3, h⟩ := bindE_ok h
        obtain ⟨c1, c2, c3, c4⟩ := stepE_ok h2
        have k1 : s1.hd.kind ≠ 0 := by
          rcases c1 with c1 | c1
          · rw [isS_kind c1]; decide
          · rw [c1.1]; decide
        have k2 : s1.adv.hd.kind ≠ 0 := by rw [isS_kind c3]; decide
        have b2 : Bal s1 s2 := by
          have : s2 = s1.adv.adv := c4
          rw [this]
          exact trans (adv s1 k1) (adv _ k2)
        have := lay (nd := ⟨k, b, 0, x, t.pos⟩) h1 (by rw [hs]; decide) (trans b2 (ih _ _ _ _ _ h3))
        cases h; exact this
      by_cases c1 : isS [126] s = true
      · rw [if_pos c1] at h
        obtain ⟨⟨t, s1⟩, h1, h⟩ := bindE_ok h
        obtain ⟨⟨b, s2⟩, h2, h⟩ := bindE_ok h
        have := lay (nd := ⟨5, b, 0, [], t.pos⟩) h1 (by rw [isS_kind c1]; decide) (ih _ _ _ _ _ h2)
        cases h; exact this
      rw [if_neg c1] at h
      by_cases c2 : isS [60] s = true
      · rw [if_pos c2] at h; exact steps 8 [62] (isS_kind c2) h
      rw [if_neg c2] at h
      by_cases c3 : isS [91] s = true
      · rw [if_pos c3] at h; exact steps 9 [93] (isS_kind c3) h
      rw [if_neg c3] at h
      by_cases c4 : isS [40] s = true
      · rw [if_pos c4] at h
        obtain ⟨⟨b, s1⟩, h1, h⟩ := bindE_ok h
        obtain ⟨s2, h2, h⟩ := bindE_ok h
        obtain ⟨d1, d2⟩ := needE_ok h2
        cases h
        rw [d2]
        exact trans (adv s (by rw [isS_kind c4]; decide)) (trans (ih _ _ _ _ _ h1) (adv _ (by rw [isS_kind d1]; decide)))
      rw [if_neg c4] at h
      by_cases c5 : s.hd.kind = 3
      · rw [if_pos c5] at h
        obtain ⟨⟨t, s1⟩, h1, h⟩ := bindE_ok h
        have := lay (nd := ⟨4, 0, 0, t.text, t.pos⟩) h1 (by rw [c5]; decide) (refl s1)
        cases h; exact this
      rw [if_neg c5] at h
      by_cases c6 : s.hd.kind = 2
      · rw [if_pos c6] at h
        obtain ⟨⟨t, s1⟩, h1, h⟩ := bindE_ok h
        have hk : s.hd.kind ≠ 0 := by rw [c6]; decide
        dsimp only at h
        by_cases d1 : t.text = [116, 116]
        · rw [if_pos d1] at h
          have := lay (nd := ⟨1, 0, 0, [], t.pos⟩) h1 hk (refl s1)
          cases h; exact this
        rw [if_neg d1] at h
        by_cases d2 : t.text = [102, 102]
        · rw [if_pos d2] at h
          have := lay (nd := ⟨2, 0, 0, [], t.pos⟩) h1 hk (refl s1)
          cases h; exact this
        rw [if_neg d2] at h
        by_cases d3 : t.text = [109, 117] ∨ t.text = [110, 117]
        · rw [if_pos d3] at h
          by_cases h3 : s1.hd.kind = 3
          · rw [if_pos h3] at h
            obtain ⟨s2, h2, h⟩ := bindE_ok h
            obtain ⟨⟨b, s3⟩, h4, h⟩ := bindE_ok h
            obtain ⟨e1, e2⟩ := needE_ok h2
            have b2 : Bal s1 s2 := by
              rw [e2]
              exact trans (adv s1 (by rw [h3]; decide)) (adv _ (by rw [isS_kind e1]; decide))
            have := lay (nd := ⟨if t.text = [109, 117] then 10 else 11, b, 0, s1.hd.text, t.pos⟩) h1 hk (trans b2 (ih _ _ _ _ _ h4))
            cases h; exact this
          · rw [if_neg h3] at h; cases h
        · rw [if_neg d3] at h
          have := lay (nd := ⟨3, 0, 0, t.text, t.pos⟩) h1 hk (refl s1)
          cases h; exact this
      · rw [if_neg c6] at h; cases h
/-- how much is enough -/
def cost : Rl → Nat → Nat
  | .un, n => 3 * n + 1
  | .row o, n => if o then 3 * n + 3 else 3 * n + 2
  | .loop _, n => 3 * n + 1
theorem bindE_err {β γ : Type} {x : Except Er β} {f : β → Except Er γ} {e : Er} (h : bindE x f = .error e) : x = .error e ∨ ∃ b, x = .ok b ∧ f b = .error e := by
  cases x with
  | error e' =>
    left
    have h : (Except.error e' : Except Er γ) = .error e := h
    cases h; rfl
  | ok b => exact .inr ⟨b, rfl, h⟩
theorem makesE_err {s : St} {e : Er} (h : makesE s = .error e) : e.2 ≠ 0 := by
  unfold makesE at h
  split at h
  · cases h; show (10 : Int) ≠ 0; decide
  · cases h
theorem wrongE_ne (s : St) : (wrongE s).2 ≠ 0 := by unfold wrongE; dsimp only; split <;> decide
theorem needE_err {sign : List UInt8} {s : St} {e : Er} (h : needE sign s = .error e) : e.2 ≠ 0 := by
  unfold needE at h
  split at h
  · cases h
  · cases h; exact wrongE_ne s
theorem stepE_err {sign : List UInt8} {s : St} {e : Er} (h : stepE sign s = .error e) : e.2 ≠ 0 := by
  unfold stepE at h
  split at h
  · cases hn : needE sign s.adv with
    | error e' => rw [hn] at h; cases h; exact needE_err hn
    | ok s' => rw [hn] at h; cases h
  · cases h; exact wrongE_ne s
theorem adv_len {s : St} (he : Ends s.l) : s.adv.l.length + 1 = s.l.length := by
  obtain ⟨t, r, hl⟩ := he.ne
  unfold St.adv; rw [hl]; rfl
theorem pz_fuel : ∀ (j : Nat) (r : Rl) (a : Int) (s : St) (e : Er), Ends s.l → cost r s.l.length ≤ j → pz j r a s = .error e → e.2 ≠ 0 := by
  intro j
  induction j with
  | zero => intro r a s e he hc h; cases r <;> simp only [cost] at hc <;> (try split at hc) <;> omega
  | succ j ih =>
    intro r a s e he hc h
    have hlen := adv_len he
    cases r with
    | row o =>
      rw [pz] at h
      rcases bindE_err h with h | ⟨x, hx, h⟩
      · refine ih _ _ _ _ he ?_ h
        cases o <;> simp [cost, oneO] at hc ⊢ <;> omega
      · have hb := pz_bal _ _ _ _ _ _ hx
        refine ih _ _ _ _ (hb.2.2.2.1 he) ?_ h
        have := hb.2.2.2.2
        cases o <;> simp [cost] at hc ⊢ <;> omega
    | loop o =>
      rw [pz] at h
      simp only [cost] at hc
      by_cases hs : isS (signO o) s = true
      · rw [if_pos hs] at h
        have he1 := adv_ends he (by rw [isS_kind hs]; decide)
        rcases bindE_err h with h | ⟨x, hx, h⟩
        · exact makesE_err h
        obtain ⟨t, s1⟩ := x
        obtain ⟨_, _, hs1⟩ := makesE_ok hx
        have hl1 : s1.l = s.adv.l := by rw [hs1]
        dsimp only at h
        rcases bindE_err h with h | ⟨y, hy, h⟩
        · refine ih _ _ _ _ (by rw [hl1]; exact he1) ?_ h
          rw [hl1]
          cases o <;> simp [cost, oneO] <;> omega
        · have hb := pz_bal _ _ _ _ _ _ hy
          refine ih _ _ _ _ (by simp only [layE]; exact hb.2.2.2.1 (by rw [hl1]; exact he1)) ?_ h
          have := hb.2.2.2.2
          rw [hl1] at this
          simp only [cost, layE]
          omega
      · rw [if_neg hs] at h; cases h
    | un =>
      rw [pz] at h
      simp only [cost] at hc
      have steps : ∀ (k : Int) (shut : List UInt8), s.hd.kind = 5 → bindE (makesE s) (fun x => bindE (stepE shut x.2) fun z => bindE (pz j .un 0 z.2) fun y => .ok (layE ⟨k, y.1, 0, z.1, x.1.pos⟩ y.2)) = .error e → e.2 ≠ 0 := by
        intro k shut hs h
        have he1 := adv_ends he (by rw [hs]; decide)
        rcases bindE_err h with h | ⟨x, hx, h⟩
        · exact makesE_err h
        obtain ⟨t, s1⟩ := x
        obtain ⟨_, _, hs1⟩ := makesE_ok hx
        have hl1 : s1.l = s.adv.l := by rw [hs1]
        rcases bindE_err h with h | ⟨z, hz, h⟩
        · exact stepE_err h
        obtain ⟨w1, w2, w3, w4⟩ := stepE_ok hz
        have k1 : s1.hd.kind ≠ 0 := by
          rcases w1 with w1 | w1
          · rw [isS_kind w1]; decide
          · rw [w1.1]; decide
        have hB : Bal s1 z.2 := by rw [w4]; exact (Bal.adv s1 k1).trans (Bal.adv _ (by rw [isS_kind w3]; decide))
        have := hB.2.2.2.2
        rw [hl1] at this
        rcases bindE_err h with h | ⟨y, hy, h⟩
        · exact ih _ _ _ _ (hB.2.2.2.1 (by rw [hl1]; exact he1)) (by simp only [cost]; omega) h
        · cases h
      by_cases c1 : isS [126] s = true
      · rw [if_pos c1] at h
        have he1 := adv_ends he (by rw [isS_kind c1]; decide)
        rcases bindE_err h with h | ⟨x, hx, h⟩
        · exact makesE_err h
        obtain ⟨t, s1⟩ := x
        obtain ⟨_, _, hs1⟩ := makesE_ok hx
        have hl1 : s1.l = s.adv.l := by rw [hs1]
        rcases bindE_err h with h | ⟨y, hy, h⟩
        · exact ih _ _ _ _ (by rw [hl1]; exact he1) (by rw [hl1]; simp only [cost]; omega) h
        · cases h
      rw [if_neg c1] at h
      by_cases c2 : isS [60] s = true
      · rw [if_pos c2] at h; exact steps 8 [62] (isS_kind c2) h
      rw [if_neg c2] at h
      by_cases c3 : isS [91] s = true
      · rw [if_pos c3] at h; exact steps 9 [93] (isS_kind c3) h
      rw [if_neg c3] at h
      by_cases c4 : isS [40] s = true
      · rw [if_pos c4] at h
        have he1 := adv_ends he (by rw [isS_kind c4]; decide)
        rcases bindE_err h with h | ⟨y, hy, h⟩
        · exact ih _ _ _ _ he1 (by simp [cost]; omega) h
        rcases bindE_err h with h | ⟨z, hz, h⟩
        · exact needE_err h
        · cases h
      rw [if_neg c4] at h
      by_cases c5 : s.hd.kind = 3
      · rw [if_pos c5] at h
        rcases bindE_err h with h | ⟨x, hx, h⟩
        · exact makesE_err h
        · cases h
      rw [if_neg c5] at h
      by_cases c6 : s.hd.kind = 2
      · rw [if_pos c6] at h
        have he1 := adv_ends he (by rw [c6]; decide)
        rcases bindE_err h with h | ⟨x, hx, h⟩
        · exact makesE_err h
        obtain ⟨t, s1⟩ := x
        obtain ⟨_, _, hs1⟩ := makesE_ok hx
        have hl1 : s1.l = s.adv.l := by rw [hs1]
        dsimp only at h
        by_cases d1 : t.text = [116, 116]
        · rw [if_pos d1] at h; cases h
        rw [if_neg d1] at h
        by_cases d2 : t.text = [102, 102]
        · rw [if_pos d2] at h; cases h
        rw [if_neg d2] at h
        by_cases d3 : t.text = [109, 117] ∨ t.text = [110, 117]
        · rw [if_pos d3] at h
          by_cases h3 : s1.hd.kind = 3
          · rw [if_pos h3] at h
            rcases bindE_err h with h | ⟨z, hz, h⟩
            · exact needE_err h
            obtain ⟨w1, w2⟩ := needE_ok hz
            have hB : Bal s1 z := by rw [w2]; exact (Bal.adv s1 (by rw [h3]; decide)).trans (Bal.adv _ (by rw [isS_kind w1]; decide))
            have := hB.2.2.2.2
            rw [hl1] at this
            have he3 := hB.2.2.2.1 (by rw [hl1]; exact he1)
            have l2 := adv_len (s := s1) (by rw [hl1]; exact he1)
            have l3 : z.l.length < s.adv.l.length := by
              rw [w2]
              have := adv_len (s := s1.adv) (adv_ends (by rw [hl1]; exact he1) (by rw [h3]; decide))
              rw [hl1] at l2
              omega
            rcases bindE_err h with h | ⟨y, hy, h⟩
            · exact ih _ _ _ _ he3 (by simp [cost]; omega) h
            · cases h
          · rw [if_neg h3] at h; cases h; exact wrongE_ne _
        · rw [if_neg d3] at h; cases h
      · rw [if_neg c6] at h; cases h; exact wrongE_ne _
theorem parseE_err {l : List Tok} {e : Er} (he : Ends l) (h : parseE l = .error e) : e.2 ≠ 0 := by
  unfold parseE at h
  rcases bindE_err h with h | ⟨y, hy, h⟩
  · exact pz_fuel _ _ _ ⟨l, 0, []⟩ _ he (by simp [cost]) h
  · split at h
    · cases h
    · cases h; exact wrongE_ne _
end Go.Ab.S3
