import Derived.Test.YtkfoohgkbafafaaS3Del
namespace Go.Ab.S3
set_option linter.unusedVariables false
set_option linter.unusedSimpArgs false
variable {α : Type} {h : H}
/-! ### Parse -/
theorem stL_nil (a : Ad) (i : Nat) (K : M α) : stL a i [] K = K := rfl
def parseF (text : List UInt8) : Except Er (List Nd) :=
  match scanF text with
  | .error (m, e) => .error ((m : Int), e)
  | .ok ts => parseE (ts.filter fun t => !lineT t)
theorem tokF_kind {text : List UInt8} {n : Nat} {c : UInt8} (h : (tokF text n c).2 = 0) : (tokF text n c).1.kind ≠ 0 := by
  unfold tokF at h ⊢
  by_cases h0 : kindF c.toNat = 0
  · rw [if_pos h0] at h; exact absurd (show (3 : Int) = 0 from h) (by decide)
  · rw [if_neg h0]
    by_cases h2 : kindF c.toNat = 2 ∨ kindF c.toNat = 3
    · rw [if_pos h2]; exact h0
    · rw [if_neg h2]
      by_cases h4 : kindF c.toNat = 4
      · rw [if_pos h4]; split <;> (show (4 : Int) ≠ 0; decide)
      · rw [if_neg h4]; exact h0
theorem Sc.kinds {text : List UInt8} {n m : Nat} {ts : List Tok} (s : Sc text n ts m) : ∀ t ∈ ts, t.kind ≠ 0 := by
  induction s with
  | nil _ => intro t ht; cases ht
  | blank _ _ _ ih => exact ih
  | rem _ _ _ _ ih => exact ih
  | tok _ _ _ he _ ih =>
    intro t ht
    rcases List.mem_cons.1 ht with rfl | ht
    · exact tokF_kind he
    · exact ih t ht
theorem ends_snoc : ∀ (l : List Tok) (e : Tok), (∀ t ∈ l, t.kind ≠ 0) → e.kind = 0 → Ends (l ++ [e])
  | [], e, _, he => he
  | [t], e, hl, he => ⟨hl t List.mem_cons_self, he⟩
  | t :: u :: l, e, hl, he => ⟨hl t List.mem_cons_self, ends_snoc (u :: l) e (fun t ht => hl t (List.mem_cons_of_mem _ ht)) he⟩
theorem scan_ends {text : List UInt8} {ts : List Tok} (h : scanF text = .ok ts) : Ends (ts.filter fun t => !lineT t) ∧ ts ≠ [] ∧ ts.length ≤ text.length + 1 ∨ False := by
  rcases scanF_cases text with ⟨_, hs⟩ | ⟨hl, us, sc, hs⟩ | ⟨_, _, _, _, _, _, hs⟩
  · rw [hs] at h; cases h
  · rw [hs] at h
    cases h
    left
    refine ⟨?_, by simp, ?_⟩
    · rw [List.filter_append]
      exact ends_snoc _ _ (fun t ht => sc.kinds t (List.mem_filter.1 ht).1) rfl
    · have a1 := All_run (262144 + 6) text (by omega) h0
      rw [hs] at a1
      obtain ⟨_, _, _, _, _, _, h5, _⟩ := a1
      exact h5
  · rw [hs] at h; cases h
theorem filter_len (ts : List Tok) : (ts.filter fun t => !lineT t).length ≤ ts.length := List.length_filter_le _ _
theorem parse_run (k : Nat) (hk : 3000000 ≤ k) (text : List UInt8) (h : H) :
    match parseF text with
    | .ok l => ∃ h' s, (∀ (α : Type) (ret : Sl → V → M α), syntax_Parse.f (k + 1) text ret h = ret s .nilIface h') ∧ Ext h h' ∧ App h' s 5 (cN l) ∧ Owned h s
    | .error e => ∃ h' q, (∀ (α : Type) (ret : Sl → V → M α), syntax_Parse.f (k + 1) text ret h = ret Sl.nil (.iface 75 (.ptr (some ⟨q, 0⟩))) h') ∧ Ext h h' ∧ h.next ≤ q ∧ q < h'.next ∧ h'.get q = some (.cells [.int .i64 e.1, .int .i64 e.2] true) := by
  obtain ⟨k, rfl⟩ : ∃ q, k = q + 2 := ⟨k - 2, by omega⟩
  -- the two results' cells
  have x2 : Ext h ((h.push (.cells [.slice Sl.nil] true)).push (.cells [.nilIface] true)) := ((Ext.refl h).push _).push _
  have g3 : ((h.push (.cells [.slice Sl.nil] true)).push (.cells [.nilIface] true)).get h.next = some (.cells [.slice Sl.nil] true) := by rw [push_get, if_neg (by rw [push_next]; omega), push_get, if_pos rfl]
  have g4 : ((h.push (.cells [.slice Sl.nil] true)).push (.cells [.nilIface] true)).get (h.next + 1) = some (.cells [.nilIface] true) := by rw [push_get, if_pos (by rw [push_next])]
  have hn2 : ((h.push (.cells [.slice Sl.nil] true)).push (.cells [.nilIface] true)).next = h.next + 2 := rfl
  have start : ∀ (α : Type) (ret : Sl → V → M α), syntax_Parse.f (k + 3) text ret h = _ := fun α ret => by
    rw [syntax_Parse.f, syntax_Parse.u1.f, new_run rfl, new_run rfl]
  rw [show (h.push (.cells [.slice Sl.nil] true)).next = h.next + 1 from rfl] at start
  generalize (h.push (.cells [.slice Sl.nil] true)).push (.cells [.nilIface] true) = h2 at start x2 g3 g4 hn2
  have a1 := All_run (k + 1) text (by omega) h2
  unfold parseF
  cases hsc : scanF text with
  | error me =>
    rw [hsc] at a1
    obtain ⟨m, e⟩ := me
    obtain ⟨q, h5, e5, x5, hq1, hq2, g5⟩ := a1
    dsimp only
    have g4' : h5.get (h.next + 1) = some (.cells [.nilIface] true) := by rw [x5.2 _ (by omega)]; exact g4
    have g3' : h5.get h.next = some (.cells [.slice Sl.nil] true) := by rw [x5.2 _ (by omega)]; exact g3
    have hqn : q ≠ h.next + 1 := by omega
    -- the error is laid down, twice
    refine ⟨((h5.put (h.next + 1) (some (.cells [.iface 75 (.ptr (some ⟨q, 0⟩))] true))).put h.next (some (.cells [.slice Sl.nil] true))).put (h.next + 1) (some (.cells [.iface 75 (.ptr (some ⟨q, 0⟩))] true)), q, fun α ret => ?_, ?_, by omega, ?_, ?_⟩
    · rw [start, e5]
      rw [need_run (by rfl)]
      show (st1 ((⟨h.next + 1, 0⟩ : Ad).add 0) (.iface 75 (.ptr (some ⟨q, 0⟩))) _) h5 = _
      simp only [add_mk, Nat.zero_add]
      rw [st1_run (a := ⟨h.next + 1, 0⟩) g4' rfl (by simp), stL_nil]
      rw [ld_run (v := .iface 75 (.ptr (some ⟨q, 0⟩))) (by rw [cell_of (a := ⟨h.next + 1, 0⟩) (put_get _ _ _)]; rfl)]
      rw [asNil_iface, Bool.not_false, cond_true]
      rw [ld_run (v := .iface 75 (.ptr (some ⟨q, 0⟩))) (by rw [cell_of (a := ⟨h.next + 1, 0⟩) (put_get _ _ _)]; rfl)]
      rw [st1_run (a := ⟨h.next, 0⟩) (by rw [put_get_if, if_neg (by show h.next ≠ h.next + 1; omega)]; exact g3') rfl (by simp)]
      have hs : ∀ (K K' : M α), skipped (.iface 75 (.ptr (some ⟨q, 0⟩))) K K' = K' := fun _ _ => rfl
      rw [hs]
      have gq : ((h5.put (h.next + 1) (some (.cells (([V.nilIface]).set 0 (.iface 75 (.ptr (some ⟨q, 0⟩)))) true))).put h.next (some (.cells (([V.slice Sl.nil]).set 0 (.slice Sl.nil)) true))).get (h.next + 1) = some (.cells [.iface 75 (.ptr (some ⟨q, 0⟩))] true) := by
        rw [put_get_if, if_neg (by omega), put_get_if, if_pos rfl]; rfl
      rw [ld_run (v := .iface 75 (.ptr (some ⟨q, 0⟩))) (by rw [cell_of (a := ⟨h.next + 1, 0⟩) gq]; rfl)]
      have hlk : ∀ (K : M α), lookL (V.cells (.iface 75 (.ptr (some ⟨q, 0⟩)))) [.iface 75 (.ptr (some ⟨q, 0⟩))] K = need (Nat.beq 75 75) (need (decide ((some (⟨q, 0⟩ : Ad)) = some ⟨q, 0⟩)) K) := fun _ => rfl
      rw [hlk, need_run (by rfl), need_run (by simp), need_run (by rfl)]
      show (st1 ((⟨h.next + 1, 0⟩ : Ad).add 0) (.iface 75 (.ptr (some ⟨q, 0⟩))) _) _ = _
      simp only [add_mk, Nat.zero_add]
      rw [st1_run (a := ⟨h.next + 1, 0⟩) gq rfl (by simp), stL_nil]
      rw [ldS_run (n := Sl.nil) (by rw [cell_of (a := ⟨h.next, 0⟩) (cs := [.slice Sl.nil]) (o := true) (by rw [put_get_if, if_neg (by show h.next ≠ h.next + 1; omega), put_get_if, if_pos rfl]; rfl)]; rfl)]
      rw [ld_run (v := .iface 75 (.ptr (some ⟨q, 0⟩))) (by rw [cell_of (a := ⟨h.next + 1, 0⟩) (put_get _ _ _)]; rfl)]
      rfl
    · exact (((x2.trans x5).put _ (by omega)).put _ (Nat.le_refl _)).put _ (by omega)
    · show q < h5.next
      exact hq2
    · rw [put_get_if, if_neg hqn, put_get_if, if_neg (by omega), put_get_if, if_neg hqn]
      exact g5
  | ok ts =>
    rw [hsc] at a1
    obtain ⟨sl, h5, e5, x5, r5, o5, b5, hl⟩ := a1
    dsimp only
    obtain ⟨hends, hne, hlen⟩ := (scan_ends hsc).resolve_right id
    have g4' : h5.get (h.next + 1) = some (.cells [.nilIface] true) := by rw [x5.2 _ (by omega)]; exact g4
    have g3' : h5.get h.next = some (.cells [.slice Sl.nil] true) := by rw [x5.2 _ (by omega)]; exact g3
    -- the tokens are the run's own
    obtain ⟨id, s1, s2, s3, s4⟩ : ∃ id, sl = ⟨some ⟨id, 0⟩, sl.len, sl.len, some 4⟩ ∧ h5.get id = some (.cells (cellsL ts) true) ∧ (cellsL ts).length = sl.len * 4 ∧ id < h5.next := by
      rcases r5 with ⟨r1, r2⟩ | r
      · exfalso
        obtain ⟨t, r, rfl⟩ : ∃ t r, ts = t :: r := by cases ts with | nil => exact absurd rfl hne | cons t r => exact ⟨t, r, rfl⟩
        simp [cellsL, Tok.cells] at r2
      · exact r
    have hidad : sl.ad = some ⟨id, 0⟩ := by rw [s1]
    have hsid : sl.id = id := by unfold Sl.id; rw [hidad]; rfl
    have hid0 : h2.next ≤ id := o5 ⟨id, 0⟩ hidad
    -- nothing is laid down as an error
    have hput : h5.put (h.next + 1) (some (.cells [.nilIface] true)) = h5 := by
      rw [← g4']
      unfold H.put
      cases h5 with
      | mk nx gt =>
        simp only [H.mk.injEq, true_and]
        funext j
        by_cases e : j = h.next + 1
        · subst e; simp
        · rw [beq_ne e]; rfl
    have start2 : ∀ (α : Type) (ret : Sl → V → M α), syntax_Parse.f (k + 3) text ret h = syntax_Parse.u2.f (k + 2) ⟨h.next, 0⟩ ⟨h.next + 1, 0⟩ sl (fun z0 z1 => syntax_Parse.C.u1.f (k + 2) ⟨h.next, 0⟩ ⟨h.next + 1, 0⟩ .nilIface (ldS (z0.add 0) fun o501 => ld (z1.add 0) fun o502 => ret o501 o502))
        (fun v => syntax_Parse.C.u1.f (k + 2) ⟨h.next, 0⟩ ⟨h.next + 1, 0⟩ v (ldS ((⟨h.next, 0⟩ : Ad).add 0) fun o501 => ld ((⟨h.next + 1, 0⟩ : Ad).add 0) fun o502 => ret o501 o502)) h5 := fun α ret => by
      rw [start, e5, need_run (by rfl)]
      show (st1 ((⟨h.next + 1, 0⟩ : Ad).add 0) .nilIface _) h5 = _
      simp only [add_mk, Nat.zero_add]
      rw [st1_run (a := ⟨h.next + 1, 0⟩) g4' rfl (by simp), stL_nil]
      rw [show ([V.nilIface].set (⟨h.next + 1, 0⟩ : Ad).off V.nilIface) = [V.nilIface] from rfl]
      dsimp only
      rw [hput, ld_run (v := .nilIface) (by rw [cell_of (a := ⟨h.next + 1, 0⟩) g4']; rfl), asNil_nil, Bool.not_true, cond_false]
    clear start
    have own5 : Own h5 sl 4 (cellsL ts) := ⟨s3, id, [], hidad, by rw [List.append_nil]; exact s2, s4⟩
    have hfine : sl.fine 4 := by rw [s1]; exact ⟨Nat.le_refl _, .inr rfl⟩
    obtain ⟨h6, s6, e6, r6, f6, a6, x6, n6⟩ := del_run (k + 1) h2 h5 x5 own5 (by rw [hsid]; exact hid0) hfine (by omega) (by omega)
    have hl6 := filter_len ts
    generalize ts.filter (fun t => !lineT t) = us at hends r6 hl6
    have x26 := x2.trans x6
    -- the parser
    have x7 : Ext h6 (h6.push (.cells [.slice s6, .int .i64 0, .slice Sl.nil] true)) := (Ext.refl h6).push _
    have hid6 : id < h6.next := by omega
    have P7 : PS h2 (h6.push (.cells [.slice s6, .int .i64 0, .slice Sl.nil] true)) h6.next id s6 Sl.nil ⟨us, 0, []⟩ := by
      refine ⟨x6.trans x7, x6.1, by rw [push_next]; omega, by rw [push_get, if_pos rfl]; rfl, r6.ext x7, f6, App.nilSl _ _, Owned.nil _, fun a ha => ?_, by omega, by rw [push_next]; omega, fun a ha => (by cases ha), hends, Nat.le_refl _, by show (0 : Nat) ≤ 60; omega⟩
      rw [a6, hidad] at ha
      cases ha; rfl
    have hpz := pz_run (p := h6.next) (tb := id) (3 * us.length + 10) (.row true) 0 ⟨us, 0, []⟩ _ s6 Sl.nil (k + 2) (k + 2) (by omega) (by omega) P7
    have start3 : ∀ (α : Type) (ret : Sl → V → M α), syntax_Parse.f (k + 3) text ret h = cps (k + 2) (k + 2) h6.next (.row true) 0 (fun v => syntax_Parse.C.u1.f (k + 2) ⟨h.next, 0⟩ ⟨h.next + 1, 0⟩ v (ldS ((⟨h.next, 0⟩ : Ad).add 0) fun o501 => ld ((⟨h.next + 1, 0⟩ : Ad).add 0) fun o502 => ret o501 o502))
        (fun r7 => ldS (((⟨h6.next, 0⟩ : Ad).add 0).add 0) fun x8 => idxSl x8 0 4 fun a9 => ldI .i64 ((a9.add 0).add 0) fun x10 => cond (!(decide (x10 = 0))) (
          spwrong.f (k + 2) ⟨h6.next, 0⟩ (fun e12 => syntax_Parse.C.u1.f (k + 2) ⟨h.next, 0⟩ ⟨h.next + 1, 0⟩ e12 (ldS ((⟨h.next, 0⟩ : Ad).add 0) fun o501 => ld ((⟨h.next + 1, 0⟩ : Ad).add 0) fun o502 => ret o501 o502)) (
            ldS (((⟨h6.next, 0⟩ : Ad).add 2).add 0) fun x11 => st1 ((⟨h.next, 0⟩ : Ad).add 0) (.slice x11) <| st1 ((⟨h.next + 1, 0⟩ : Ad).add 0) .nilIface <| syntax_Parse.C.u1.f (k + 2) ⟨h.next, 0⟩ ⟨h.next + 1, 0⟩ .nilIface (ldS ((⟨h.next, 0⟩ : Ad).add 0) fun o501 => ld ((⟨h.next + 1, 0⟩ : Ad).add 0) fun o502 => ret o501 o502))) (
          ldS (((⟨h6.next, 0⟩ : Ad).add 2).add 0) fun x11 => st1 ((⟨h.next, 0⟩ : Ad).add 0) (.slice x11) <| st1 ((⟨h.next + 1, 0⟩ : Ad).add 0) .nilIface <| syntax_Parse.C.u1.f (k + 2) ⟨h.next, 0⟩ ⟨h.next + 1, 0⟩ .nilIface (ldS ((⟨h.next, 0⟩ : Ad).add 0) fun o501 => ld ((⟨h.next + 1, 0⟩ : Ad).add 0) fun o502 => ret o501 o502)))
        (h6.push (.cells [.slice s6, .int .i64 0, .slice Sl.nil] true)) := fun α ret => by
      rw [start2, syntax_Parse.u2.f, e6, new_run rfl]
      rfl
    clear start2
    generalize h6.push (.cells [.slice s6, .int .i64 0, .slice Sl.nil] true) = h7 at x7 P7 hpz start3
    -- the end of an error
    have bad : ∀ (e : Er) (h8 : H), Ext h2 h8 → (∀ (α : Type) (ret : Sl → V → M α), syntax_Parse.f (k + 3) text ret h = syntax_Parse.C.u1.f (k + 2) ⟨h.next, 0⟩ ⟨h.next + 1, 0⟩ (thrown e) (ldS ((⟨h.next, 0⟩ : Ad).add 0) fun o501 => ld ((⟨h.next + 1, 0⟩ : Ad).add 0) fun o502 => ret o501 o502) h8) →
        ∃ h' q, (∀ (α : Type) (ret : Sl → V → M α), syntax_Parse.f (k + 3) text ret h = ret Sl.nil (.iface 75 (.ptr (some ⟨q, 0⟩))) h') ∧ Ext h h' ∧ h.next ≤ q ∧ q < h'.next ∧ h'.get q = some (.cells [.int .i64 e.1, .int .i64 e.2] true) := by
      intro e h8 x8 e8
      have c3 : h8.get h.next = some (.cells [.slice Sl.nil] true) := by rw [x8.2 _ (by omega)]; exact g3
      have c4 : h8.get (h.next + 1) = some (.cells [.nilIface] true) := by rw [x8.2 _ (by omega)]; exact g4
      have hle := x8.1
      have x9 : Ext h8 (h8.push (.cells [.int .i64 e.1, .int .i64 e.2] true)) := (Ext.refl h8).push _
      have d3 : (h8.push (.cells [.int .i64 e.1, .int .i64 e.2] true)).get h.next = some (.cells [.slice Sl.nil] true) := by rw [x9.2 _ (by omega)]; exact c3
      have d4 : (h8.push (.cells [.int .i64 e.1, .int .i64 e.2] true)).get (h.next + 1) = some (.cells [.nilIface] true) := by rw [x9.2 _ (by omega)]; exact c4
      have d5 : (h8.push (.cells [.int .i64 e.1, .int .i64 e.2] true)).get h8.next = some (.cells [.int .i64 e.1, .int .i64 e.2] true) := by rw [push_get, if_pos rfl]
      refine ⟨((h8.push (.cells [.int .i64 e.1, .int .i64 e.2] true)).put h.next (some (.cells [.slice Sl.nil] true))).put (h.next + 1) (some (.cells [.iface 75 (.ptr (some ⟨h8.next, 0⟩))] true)), h8.next, fun α ret => ?_, ?_, by omega, ?_, ?_⟩
      · rw [e8, syntax_Parse.C.u1.f, thrown, asNil_iface, cond_false]
        show (new [.int .i64 0, .int .i64 0] fun s7 => need (Nat.beq 2 2) <| st1 (s7.add 0) (.int .i64 e.1) <| st1 (s7.add 1) (.int .i64 e.2) <| st1 ((⟨h.next, 0⟩ : Ad).add 0) (.slice Sl.nil) <| st1 ((⟨h.next + 1, 0⟩ : Ad).add 0) (.iface 75 (.ptr (some (s7.add 0)))) _) h8 = _
        rw [new_run rfl, need_run (by rfl)]
        simp only [add_mk, Nat.zero_add]
        rw [st1_new rfl (by simp), st1_new rfl (by simp)]
        simp only [List.set_cons_zero, List.set_cons_succ]
        rw [st1_run (a := ⟨h.next, 0⟩) d3 rfl (by simp), st1_run (a := ⟨h.next + 1, 0⟩) (by rw [put_get_if, if_neg (by show h.next + 1 ≠ h.next; omega)]; exact d4) rfl (by simp)]
        simp only [List.set_cons_zero]
        rw [ldS_run (n := Sl.nil) (by rw [cell_of (a := ⟨h.next, 0⟩) (cs := [.slice Sl.nil]) (o := true) (by rw [put_get_if, if_neg (by show h.next ≠ h.next + 1; omega), put_get_if, if_pos rfl])]; rfl)]
        rw [ld_run (v := .iface 75 (.ptr (some ⟨h8.next, 0⟩))) (by rw [cell_of (a := ⟨h.next + 1, 0⟩) (put_get _ _ _)]; rfl)]
      · exact (((x2.trans x8).trans x9).put _ (Nat.le_refl _)).put _ (by omega)
      · show h8.next < h8.next + 1
        omega
      · rw [put_get_if, if_neg (by omega), put_get_if, if_neg (by omega)]
        exact d5
    unfold parseE
    cases hz : pz (3 * us.length + 10) (.row true) 0 ⟨us, 0, []⟩ with
    | error e =>
      rw [hz] at hpz
      have he := pz_fuel _ _ _ ⟨us, 0, []⟩ _ hends (by simp [cost]) hz
      obtain ⟨h8, x8, e8⟩ := hpz he
      exact bad e h8 x8 fun α ret => (start3 α ret).trans (e8 α _ _)
    | ok y =>
      rw [hz] at hpz
      obtain ⟨n, s'⟩ := y
      obtain ⟨h8, ls8, fs8, e8, P8, q8⟩ := hpz
      dsimp only at e8 P8
      show match (if s'.hd.kind = 0 then Except.ok s'.f else Except.error (wrongE s')) with | .ok l => _ | .error e => _
      by_cases hk0 : s'.hd.kind = 0
      · rw [if_pos hk0]
        dsimp only
        have c3 : h8.get h.next = some (.cells [.slice Sl.nil] true) := by rw [P8.ext.2 _ (by omega)]; exact g3
        have c4 : h8.get (h.next + 1) = some (.cells [.nilIface] true) := by rw [P8.ext.2 _ (by omega)]; exact g4
        have hfs : ∀ a, fs8.ad = some a → h2.next ≤ a.id := P8.low
        refine ⟨(h8.put h.next (some (.cells [.slice fs8] true))).put (h.next + 1) (some (.cells [.nilIface] true)), fs8, fun α ret => ?_, ((x2.trans P8.ext).put _ (Nat.le_refl _)).put _ (by omega), P8.nodes.keep (Nat.le_refl _) (fun a ha => ?_), fun a ha => by have := hfs a ha; omega⟩
        · rw [start3, e8, p_l P8, tk_kind P8.toks (x := 0) (i := 0) rfl P8.hd, dT hk0, Bool.not_true, cond_false, p_f P8]
          simp only [add_mk, Nat.zero_add]
          rw [st1_run (a := ⟨h.next, 0⟩) c3 rfl (by simp), st1_run (a := ⟨h.next + 1, 0⟩) (by rw [put_get_if, if_neg (by show h.next + 1 ≠ h.next; omega)]; exact c4) rfl (by simp), syntax_Parse.C.u1.f, asNil_nil, cond_true]
          simp only [List.set_cons_zero]
          rw [ldS_run (n := fs8) (by rw [cell_of (a := ⟨h.next, 0⟩) (cs := [.slice fs8]) (o := true) (by rw [put_get_if, if_neg (by show h.next ≠ h.next + 1; omega), put_get_if, if_pos rfl])]; rfl)]
          rw [ld_run (v := .nilIface) (by rw [cell_of (a := ⟨h.next + 1, 0⟩) (put_get _ _ _)]; rfl)]
        · have := hfs a ha
          rw [put_get_if, if_neg (by omega), put_get_if, if_neg (by omega)]
      · rw [if_neg hk0]
        dsimp only
        refine bad (wrongE s') h8 P8.ext fun α ret => ?_
        rw [start3, e8, p_l P8, tk_kind P8.toks (x := 0) (i := 0) rfl P8.hd, dF hk0, Bool.not_false, cond_true, wrong_run P8]
end Go.Ab.S3
