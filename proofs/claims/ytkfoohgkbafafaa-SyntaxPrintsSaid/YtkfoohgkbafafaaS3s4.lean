import Derived.Test.YtkfoohgkbafafaaS3Del
import Derived.Test.YtkfoohgkbafafaaS3s
namespace Go.Ab.S3
set_option linter.unusedVariables false
set_option linter.unusedSimpArgs false
variable {α : Type} {h : H}
theorem stL_nil (a : Ad) (i : Nat) (K : M α) : stL a i [] K = K := rfl
def parseF (text : List UInt8) : Except Er (List Nd) :=
  match scanF text with
  | .error (m, e) => .error ((m : Int), e)
  | .ok ts => parseE (ts.filter fun t => !lineT t)
theorem tokF_kind {text : List UInt8} {n : Nat} {c : UInt8} (h : (tokF text n c).2 = 0) : (tokF text n c).1.kind ≠ 0 := by
  unfold tokF at h ⊢
  by_cases h0 : kindF c.toNat = 0
  · rw [if_pos h0] at h; exact absurd (show (3 : Int) = 0 from h) (by decide)
  · rw [if_neg h0]
    by_cases h2 : kindF c.toNat = 2 ∨ kindF c.toNat = 3
    · rw [if_pos h2]; exact h0
    · rw [if_neg h2]
      by_cases h4 : kindF c.toNat = 4
      · rw [if_pos h4]; split <;> (show (4 : Int) ≠ 0; decide)
      · rw [if_neg h4]; exact h0
theorem Sc.kinds {text : List UInt8} {n m : Nat} {ts : List Tok} (s : Sc text n ts m) : ∀ t ∈ ts, t.kind ≠ 0 := by
  induction s with
  | nil _ => intro t ht; cases ht
  | blank _ _ _ ih => exact ih
  | rem _ _ _ _ ih => exact ih
  | tok _ _ _ he _ ih =>
    intro t ht
    rcases List.mem_cons.1 ht with rfl | ht
    · exact tokF_kind he
    · exact ih t ht
theorem ends_snoc : ∀ (l : List Tok) (e : Tok), (∀ t ∈ l, t.kind ≠ 0) → e.kind = 0 → Ends (l ++ [e])
  | [], e, _, he => he
  | [t], e, hl, he => ⟨hl t List.mem_cons_self, he⟩
  | t :: u :: l, e, hl, he => ⟨hl t List.mem_cons_self, ends_snoc (u :: l) e (fun t ht => hl t (List.mem_cons_of_mem _ ht)) he⟩
theorem scan_ends {text : List UInt8} {ts : List Tok} (h : scanF text = .ok ts) : Ends (ts.filter fun t => !lineT t) ∧ ts ≠ [] ∧ ts.length ≤ text.length + 1 ∨ False := by
  rcases scanF_cases text with ⟨_, hs⟩ | ⟨hl, us, sc, hs⟩ | ⟨_, _, _, _, _, _, hs⟩
  · rw [hs] at h; cases h
  · rw [hs] at h
    cases h
    left
    refine ⟨?_, by simp, ?_⟩
    · rw [List.filter_append]
      exact ends_snoc _ _ (fun t ht => sc.kinds t (List.mem_filter.1 ht).1) rfl
    · have a1 := All_run (262144 + 6) text (by omega) h0
      rw [hs] at a1
      obtain ⟨_, _, _, _, _, _, h5, _⟩ := a1
      exact h5
  · rw [hs] at h; cases h
theorem filter_len (ts : List Tok) : (ts.filter fun t => !lineT t).length ≤ ts.length := List.length_filter_le _ _
theorem parse_run (k : Nat) (hk : 3000000 ≤ k) (text : List UInt8) (h : H) :
    match parseF text with
    | .ok l => ∃ h' s, (∀ (α : Type) (ret : Sl → V → M α), syntax_Parse.f (k + 1) text ret h = ret s .nilIface h') ∧ Ext h h' ∧ App h' s 5 (cN l) ∧ Owned h s
    | .error e => ∃ h' q, (∀ (α : Type) (ret : Sl → V → M α), syntax_Parse.f (k + 1) text ret h = ret Sl.nil (.iface 75 (.ptr (some ⟨q, 0⟩))) h') ∧ Ext h h' ∧ h.next ≤ q ∧ q < h'.next ∧ h'.get q = some (.cells [.int .i64 e.1, .int .i64 e.2] true) := by
  obtain ⟨k, rfl⟩ : ∃ q, k = q + 2 := ⟨k - 2, by omega⟩
  -- the two results' cells
  have x2 : Ext h ((h.push (.cells [.slice Sl.nil] true)).push (.cells [.nilIface] true)) := ((Ext.refl h).push _).push _
  have g3 : ((h.push (.cells [.slice Sl.nil] true)).push (.cells [.nilIface] true)).get h.next = some (.cells [.slice Sl.nil] true) := by rw [push_get, if_neg (by rw [push_next]; omega), push_get, if_pos rfl]
  have g4 : ((h.push (.cells [.slice Sl.nil] true)).push (.cells [.nilIface] true)).get (h.next + 1) = some (.cells [.nilIface] true) := by rw [push_get, if_pos (by rw [push_next])]
  have hn2 : ((h.push (.cells [.slice Sl.nil] true)).push (.cells [.nilIface] true)).next = h.next + 2 := rfl
  have start : ∀ (α : Type) (ret : Sl → V → M α), syntax_Parse.f (k + 3) text ret h = _ := fun α ret => by
    rw [syntax_Parse.f, syntax_Parse.u1.f, new_run rfl, new_run rfl]
  rw [show (h.push (.cells [.slice Sl.nil] true)).next = h.next + 1 from rfl] at start
  generalize (h.push (.cells [.slice Sl.nil] true)).push (.cells [.nilIface] true) = h2 at start x2 g3 g4 hn2
  have a1 := All_run (k + 1) text (by omega) h2
  unfold parseF
  cases hsc : scanF text with
  | error me =>
    rw [hsc] at a1
    obtain ⟨m, e⟩ := me
    obtain ⟨q, h5, e5, x5, hq1, hq2, g5⟩ := a1
    dsimp only
    have g4' : h5.get (h.next + 1) = some (.cells [.nilIface] true) := by rw [x5.2 _ (by omega)]; exact g4
    have g3' : h5.get h.next = some (.cells [.slice Sl.nil] true) := by rw [x5.2 _ (by omega)]; exact g3
    have hqn : q ≠ h.next + 1 := by omega
    -- the error is laid down, twice
    refine ⟨((h5.put (h.next + 1) (some (.cells [.iface 75 (.ptr (some ⟨q, 0⟩))] true))).put h.next (some (.cells [.slice Sl.nil] true))).put (h.next + 1) (some (.cells [.iface 75 (.ptr (some ⟨q, 0⟩))] true)), q, fun α ret => ?_, ?_, by omega, ?_, ?_⟩
    · rw [start, e5]
      rw [need_run (by rfl)]
      show (st1 ((⟨h.next + 1, 0⟩ : Ad).add 0) (.iface 75 (.ptr (some ⟨q, 0⟩))) _) h5 = _
      simp only [add_mk, Nat.zero_add]
      rw [st1_run (a := ⟨h.next + 1, 0⟩) g4' rfl (by simp), stL_nil]
      rw [ld_run (v := .iface 75 (.ptr (some ⟨q, 0⟩))) (by rw [cell_of (a := ⟨h.next + 1, 0⟩) (put_get _ _ _)]; rfl)]
      rw [asNil_iface, Bool.not_false, cond_true]
      rw [ld_run (v := .iface 75 (.ptr (some ⟨q, 0⟩))) (by rw [cell_of (a := ⟨h.next + 1, 0⟩) (put_get _ _ _)]; rfl)]
      rw [st1_run (a := ⟨h.next, 0⟩) (by rw [put_get_if, if_neg (by show h.next ≠ h.next + 1; omega)]; exact g3') rfl (by simp)]
      have hs : ∀ (K K' : M α), skipped (.iface 75 (.ptr (some ⟨q, 0⟩))) K K' = K' := fun _ _ => rfl
      rw [hs]
      have gq : ((h5.put (h.next + 1) (some (.cells (([V.nilIface]).set 0 (.iface 75 (.ptr (some ⟨q, 0⟩)))) true))).put h.next (some (.cells (([V.slice Sl.nil]).set 0 (.slice Sl.nil)) true))).get (h.next + 1) = some (.cells [.iface 75 (.ptr (some ⟨q, 0⟩))] true) := by
        rw [put_get_if, if_neg (by omega), put_get_if, if_pos rfl]; rfl
      rw [ld_run (v := .iface 75 (.ptr (some ⟨q, 0⟩))) (by rw [cell_of (a := ⟨h.next + 1, 0⟩) gq]; rfl)]
      have hlk : ∀ (K : M α), lookL (V.cells (.iface 75 (.ptr (some ⟨q, 0⟩)))) [.iface 75 (.ptr (some ⟨q, 0⟩))] K = need (Nat.beq 75 75) (need (decide ((some (⟨q, 0⟩ : Ad)) = some ⟨q, 0⟩)) K) := fun _ => rfl
      rw [hlk, need_run (by rfl), need_run (by simp), need_run (by rfl)]
      show (st1 ((⟨h.next + 1, 0⟩ : Ad).add 0) (.iface 75 (.ptr (some ⟨q, 0⟩))) _) _ = _
      simp only [add_mk, Nat.zero_add]
      rw [st1_run (a := ⟨h.next + 1, 0⟩) gq rfl (by simp), stL_nil]
      rw [ldS_run (n := Sl.nil) (by rw [cell_of (a := ⟨h.next, 0⟩) (cs := [.slice Sl.nil]) (o := true) (by rw [put_get_if, if_neg (by show h.next ≠ h.next + 1; omega), put_get_if, if_pos rfl]; rfl)]; rfl)]
      rw [ld_run (v := .iface 75 (.ptr (some ⟨q, 0⟩))) (by rw [cell_of (a := ⟨h.next + 1, 0⟩) (put_get _ _ _)]; rfl)]
      rfl
    · exact (((x2.trans x5).put _ (by omega)).put _ (Nat.le_refl _)).put _ (by omega)
    · show q < h5.next
      exact hq2
    · rw [put_get_if, if_neg hqn, put_get_if, if_neg (by omega), put_get_if, if_neg hqn]
      exact g5
  | ok ts =>
    rw [hsc] at a1
    obtain ⟨sl, h5, e5, x5, r5, o5, b5, hl⟩ := a1
    dsimp only
    obtain ⟨hends, hne, hlen⟩ := (scan_ends hsc).resolve_right id
    have g4' : h5.get (h.next + 1) = some (.cells [.nilIface] true) := by rw [x5.2 _ (by omega)]; exact g4
    have g3' : h5.get h.next = some (.cells [.slice Sl.nil] true) := by rw [x5.2 _ (by omega)]; exact g3
    -- the tokens are the run's own
    obtain ⟨id, s1, s2, s3, s4⟩ : ∃ id, sl = ⟨some ⟨id, 0⟩, sl.len, sl.len, some 4⟩ ∧ h5.get id = some (.cells (cellsL ts) true) ∧ (cellsL ts).length = sl.len * 4 ∧ id < h5.next := by
      rcases r5 with ⟨r1, r2⟩ | r
      · exfalso
        obtain ⟨t, r, rfl⟩ : ∃ t r, ts = t :: r := by cases ts with | nil => exact absurd rfl hne | cons t r => exact ⟨t, r, rfl⟩
        simp [cellsL, Tok.cells] at r2
      · exact r
    have hidad : sl.ad = some ⟨id, 0⟩ := by rw [s1]
    have hsid : sl.id = id := by unfold Sl.id; rw [hidad]; rfl
    have hid0 : h2.next ≤ id := o5 ⟨id, 0⟩ hidad
    -- nothing is laid down as an error
    have hput : h5.put (h.next + 1) (some (.cells [.nilIface] true)) = h5 := by
      rw [← g4']
      unfold H.put
      cases h5 with
      | mk nx gt =>
        simp only [H.mk.injEq, true_and]
        funext j
        by_cases e : j = h.next + 1
        · subst e; simp
        · rw [beq_ne e]; rfl
    have start2 : ∀ (α : Type) (ret : Sl → V → M α), syntax_Parse.f (k + 3) text ret h = syntax_Parse.u2.f (k + 2) ⟨h.next, 0⟩ ⟨h.next + 1, 0⟩ sl (fun z0 z1 => syntax_Parse.C.u1.f (k + 2) ⟨h.next, 0⟩ ⟨h.next + 1, 0⟩ .nilIface (ldS (z0.add 0) fun o501 => ld (z1.add 0) fun o502 => ret o501 o502))
        (fun v => syntax_Parse.C.u1.f (k + 2) ⟨h.next, 0⟩ ⟨h.next + 1, 0⟩ v (ldS ((⟨h.next, 0⟩ : Ad).add 0) fun o501 => ld ((⟨h.next + 1, 0⟩ : Ad).add 0) fun o502 => ret o501 o502)) h5 := fun α ret => by
      rw [start, e5, need_run (by rfl)]
      show (st1 ((⟨h.next + 1, 0⟩ : Ad).add 0) .nilIface _) h5 = _
      simp only [add_mk, Nat.zero_add]
      rw [st1_run (a := ⟨h.next + 1, 0⟩) g4' rfl (by simp), stL_nil]
      rw [show ([V.nilIface].set (⟨h.next + 1, 0⟩ : Ad).off V.nilIface) = [V.nilIface] from rfl]
      dsimp only
      rw [hput, ld_run (v := .nilIface) (by rw [cell_of (a := ⟨h.next + 1, 0⟩) g4']; rfl), asNil_nil, Bool.not_true, cond_false]
    clear start
    have own5 : Own h5 sl 4 (cellsL ts) := ⟨s3, id, [], hidad, by rw [List.append_nil]; exact s2, s4⟩
    have hfine : sl.fine 4 := by rw [s1]; exact ⟨Nat.le_refl _, .inr rfl⟩
    obtain ⟨h6, s6, e6, r6, f6, a6, x6, n6⟩ := del_run (k + 1) h2 h5 x5 own5 (by rw [hsid]; exact hid0) hfine (by omega) (by omega)
    have hl6 := filter_len ts
    generalize ts.filter (fun t => !lineT t) = us at hends r6 hl6
    have x26 := x2.trans x6
    -- the parser
    have x7 : Ext h6 (h6.push (.cells [.slice s6, .int .i64 0, .slice Sl.nil] true)) := (Ext.refl h6).push _
    have hid6 : id < h6.next := by omega
    have P7 : PS h2 (h6.push (.cells [.slice s6, .int .i64 0, .slice Sl.nil] true)) h6.next id s6 Sl.nil ⟨us, 0, []⟩ := by
      refine ⟨x6.trans x7, x6.1, by rw [push_next]; omega, by rw [push_get, if_pos rfl]; rfl, r6.ext x7, f6, App.nilSl _ _, Owned.nil _, fun a ha => ?_, by omega, by rw [push_next]; omega, fun a ha => (by cases ha), hends, Nat.le_refl _, by show (0 : Nat) ≤ 60; omega⟩
      rw [a6, hidad] at ha
      cases ha; rfl
    have hpz := pz_run (p := h6.next) (tb := id) (3 * us.length + 10) (.row true) 0 ⟨us, 0, []⟩ _ s6 Sl.nil (k + 2) (k + 2) (by omega) (by omega) P7
    have start3 : ∀ (α : Type) (ret : Sl → V → M α), syntax_Parse.f (k + 3) text ret h = cps (k + 2) (k + 2) h6.next (.row true) 0 (fun v => syntax_Parse.C.u1.f (k + 2) ⟨h.next, 0⟩ ⟨h.next + 1, 0⟩ v (ldS ((⟨h.next, 0⟩ : Ad).add 0) fun o501 => ld ((⟨h.next + 1, 0⟩ : Ad).add 0) fun o502 => ret o501 o502))
        (fun r7 => ldS (((⟨h6.next, 0⟩ : Ad).add 0).add 0) fun x8 => idxSl x8 0 4 fun a9 => ldI .i64 ((a9.add 0).add 0) fun x10 => cond (!(decide (x10 = 0))) (
          spwrong.f (k + 2) ⟨h6.next, 0⟩ (fun e12 => syntax_Parse.C.u1.f (k + 2) ⟨h.next, 0⟩ ⟨h.next + 1, 0⟩ e12 (ldS ((⟨h.next, 0⟩ : Ad).add 0) fun o501 => ld ((⟨h.next + 1, 0⟩ : Ad).add 0) fun o502 => ret o501 o502)) (
            ldS (((⟨h6.next, 0⟩ : Ad).add 2).add 0) fun x11 => st1 ((⟨h.next, 0⟩ : Ad).add 0) (.slice x11) <| st1 ((⟨h.next + 1, 0⟩ : Ad).add 0) .nilIface <| syntax_Parse.C.u1.f (k + 2) ⟨h.next, 0⟩ ⟨h.next + 1, 0⟩ .nilIface (ldS ((⟨h.next, 0⟩ : Ad).add 0) fun o501 => ld ((⟨h.next + 1, 0⟩ : Ad).add 0) fun o502 => ret o501 o502))) (
          ldS (((⟨h6.next, 0⟩ : Ad).add 2).add 0) fun x11 => st1 ((⟨h.next, 0⟩ : Ad).add 0) (.slice x11) <| st1 ((⟨h.next + 1, 0⟩ : Ad).add 0) .nilIface <| syntax_Parse.C.u1.f (k + 2) ⟨h.next, 0⟩ ⟨h.next + 1, 0⟩ .nilIface (ldS ((⟨h.next, 0⟩ : Ad).add 0) fun o501 => ld ((⟨h.next + 1, 0⟩ : Ad).add 0) fun o502 => ret o501 o502)))
        (h6.push (.cells [.slice s6, .int .i64 0, .slice Sl.nil] true)) := fun α ret => by
      rw [start2, syntax_Parse.u2.f, e6, new_run rfl]
      rfl
    clear start2
    generalize h6.push (.cells [.slice s6, .int .i64 0, .slice Sl.nil] true) = h7 at x7 P7 hpz start3
    -- the end of an error
    have bad : ∀ (e : Er) (h8 : H), Ext h2 h8 → (∀ (α : Type) (ret : Sl → V → M α), syntax_Parse.f (k + 3) text ret h = syntax_Parse.C.u1.f (k + 2) ⟨h.next, 0⟩ ⟨h.next + 1, 0⟩ (thrown e) (ldS ((⟨h.next, 0⟩ : Ad).add 0) fun o501 => ld ((⟨h.next + 1, 0⟩ : Ad).add 0) fun o502 => ret o501 o502) h8) →
        ∃ h' q, (∀ (α : Type) (ret : Sl → V → M α), syntax_Parse.f (k + 3) text ret h = ret Sl.nil (.iface 75 (.ptr (some ⟨q, 0⟩))) h') ∧ Ext h h' ∧ h.next ≤ q ∧ q < h'.next ∧ h'.get q = some (.cells [.int .i64 e.1, .int .i64 e.2] true) := by
      intro e h8 x8 e8
      have c3 : h8.get h.next = some (.cells [.slice Sl.nil] true) := by rw [x8.2 _ (by omega)]; exact g3
      have c4 : h8.get (h.next + 1) = some (.cells [.nilIface] true) := by rw [x8.2 _ (by omega)]; exact g4
      have hle := x8.1
      have x9 : Ext h8 (h8.push (.cells [.int .i64 e.1, .int .i64 e.2] true)) := (Ext.refl h8).push _
      have d3 : (h8.push (.cells [.int .i64 e.1, .int .i64 e.2] true)).get h.next = some (.cells [.slice Sl.nil] true) := by rw [x9.2 _ (by omega)]; exact c3
      have d4 : (h8.push (.cells [.int .i64 e.1, .int .i64 e.2] true)).get (h.next + 1) = some (.cells [.nilIface] true) := by rw [x9.2 _ (by omega)]; exact c4
      have d5 : (h8.push (.cells [.int .i64 e.1, .int .i64 e.2] true)).get h8.next = some (.cells [.int .i64 e.1, .int .i64 e.2] true) := by rw [push_get, if_pos rfl]
      refine ⟨((h8.push (.cells [.int .i64 e.1, .int .i64 e.2] true)).put h.next (some (.cells [.slice Sl.nil] true))).put (h.next + 1) (some (.cells [.iface 75 (.ptr (some ⟨h8.next, 0⟩))] true)), h8.next, fun α ret => ?_, ?_, by omega, ?_, ?_⟩
      · rw [e8, syntax_Parse.C.u1.f, thrown, asNil_iface, cond_false]
        show (new [.int .i64 0, .int .i64 0] fun s7 => need (Nat.beq 2 2) <| st1 (s7.add 0) (.int .i64 e.1) <| st1 (s7.add 1) (.int .i64 e.2) <| st1 ((⟨h.next, 0⟩ : Ad).add 0) (.slice Sl.nil) <| st1 ((⟨h.next + 1, 0⟩ : Ad).add 0) (.iface 75 (.ptr (some (s7.add 0)))) _) h8 = _
        rw [new_run rfl, need_run (by rfl)]
        simp only [add_mk, Nat.zero_add]
        rw [st1_new rfl (by simp), st1_new rfl (by simp)]
        simp only [List.set_cons_zero, List.set_cons_succ]
        rw [st1_run (a := ⟨h.next, 0⟩) d3 rfl (by simp), st1_run (a := ⟨h.next + 1, 0⟩) (by rw [put_get_if, if_neg (by show h.next + 1 ≠ h.next; omega)]; exact d4) rfl (by simp)]
        simp only [List.set_cons_zero]
        rw [ldS_run (n := Sl.nil) (by rw [cell_of (a := ⟨h.next, 0⟩) (cs := [.slice Sl.nil]) (o := true) (by rw [put_get_if, if_neg (by show h.next ≠ h.next + 1; omega), put_get_if, if_pos rfl])]; rfl)]
        rw [ld_run (v := .iface 75 (.ptr (some ⟨h8.next, 0⟩))) (by rw [cell_of (a := ⟨h.next + 1, 0⟩) (put_get _ _ _)]; rfl)]
      · exact (((x2.trans x8).trans x9).put _ (Nat.le_refl _)).put _ (by omega)
      · show h8.next < h8.next + 1
        omega
      · rw [put_get_if, if_neg (by omega), put_get_if, if_neg (by omega)]
        exact d5
    unfold parseE
    cases hz : pz (3 * us.length + 10) (.row true) 0 ⟨us, 0, []⟩ with
    | error e =>
      rw [hz] at hpz
      have he := pz_fuel _ _ _ ⟨us, 0, []⟩ _ hends (by simp [cost]) hz
      obtain ⟨h8, x8, e8⟩ := hpz he
      exact bad e h8 x8 fun α ret => (start3 α ret).trans (e8 α _ _)
    | ok y =>
      rw [hz] at hpz
      obtain ⟨n, s'⟩ := y
      obtain ⟨h8, ls8, fs8, e8, P8, q8⟩ := hpz
      dsimp only at e8 P8
      show match (if s'.hd.kind = 0 then Except.ok s'.f else Except.error (wrongE s')) with | .ok l => _ | .error e => _
      by_cases hk0 : s'.hd.kind = 0
      · rw [if_pos hk0]
        dsimp only
        have c3 : h8.get h.next = some (.cells [.slice Sl.nil] true) := by rw [P8.ext.2 _ (by omega)]; exact g3
        have c4 : h8.get (h.next + 1) = some (.cells [.nilIface] true) := by rw [P8.ext.2 _ (by omega)]; exact g4
        have hfs : ∀ a, fs8.ad = some a → h2.next ≤ a.id := P8.low
        refine ⟨(h8.put h.next (some (.cells [.slice fs8] true))).put (h.next + 1) (some (.cells [.nilIface] true)), fs8, fun α ret => ?_, ((x2.trans P8.ext).put _ (Nat.le_refl _)).put _ (by omega), P8.nodes.keep (Nat.le_refl _) (fun a ha => ?_), fun a ha => by have := hfs a ha; omega⟩
        · rw [start3, e8, p_l P8, tk_kind P8.toks (x := 0) (i := 0) rfl P8.hd, dT hk0, Bool.not_true, cond_false, p_f P8]
          simp only [add_mk, Nat.zero_add]
          rw [st1_run (a := ⟨h.next, 0⟩) c3 rfl (by simp), st1_run (a := ⟨h.next + 1, 0⟩) (by rw [put_get_if, if_neg (by show h.next + 1 ≠ h.next; omega)]; exact c4) rfl (by simp), syntax_Parse.C.u1.f, asNil_nil, cond_true]
          simp only [List.set_cons_zero]
          rw [ldS_run (n := fs8) (by rw [cell_of (a := ⟨h.next, 0⟩) (cs := [.slice fs8]) (o := true) (by rw [put_get_if, if_neg (by show h.next ≠ h.next + 1; omega), put_get_if, if_pos rfl])]; rfl)]
          rw [ld_run (v := .nilIface) (by rw [cell_of (a := ⟨h.next + 1, 0⟩) (put_get _ _ _)]; rfl)]
        · have := hfs a ha
          rw [put_get_if, if_neg (by omega), put_get_if, if_neg (by omega)]
      · rw [if_neg hk0]
        dsimp only
        refine bad (wrongE s') h8 P8.ext fun α ret => ?_
        rw [start3, e8, p_l P8, tk_kind P8.toks (x := 0) (i := 0) rfl P8.hd, dF hk0, Bool.not_false, cond_true, wrong_run P8]
end Go.Ab.S3
namespace Go.Ab.S3
set_option linter.unusedVariables false
set_option linter.unusedSimpArgs false
theorem right_or (l : List Nd) : rightF l = false ∨ ∃ t : Tr, rightF l = true ∧ t.ok = true ∧ l = t.flat 0 ∧ t.size ≤ 60 := by
  cases h : rightF l with
  | false => exact .inl rfl
  | true =>
    obtain ⟨t, h1, h2, h3⟩ := (right_iff l).1 h
    exact .inr ⟨t, rfl, h1, h2, h3⟩
theorem Room.le {n : Nat} (h : Room n) : n ≤ 4611686018427387900 := by unfold Room at h; omega
end Go.Ab.S3
namespace Go.Ab.S3
set_option linter.unusedVariables false
set_option linter.unusedSimpArgs false
variable {α : Type} {h : H}
def ty1 : Tr := .bin 7 [] 6 (.bin 6 [] 2 (.leaf 3 [112] 0) (.leaf 3 [113] 4)) (.un 5 [] 8 (.leaf 3 [114] 9))
theorem py1 : parseF [112, 32, 38, 32, 113, 32, 124, 32, 126, 114] = .ok (ty1.flat 0) := by kernel_rfl
theorem shown4_run (k : Nat) (hk : 4000000 ≤ k) (h : H) : ∃ h', (∀ (α : Type) (ret : Bool → M α), w4shown.f (k + 1) ret h = ret true h') ∧ Ext h h' := by
  obtain ⟨k, rfl⟩ : ∃ q, k = q + 1 := ⟨k - 1, by omega⟩
  have a1 := parse_run k (by omega) [112, 32, 38, 32, 113, 32, 124, 32, 126, 114] h
  rw [py1] at a1
  obtain ⟨h1, s1, e1, x1, p1, _⟩ := a1
  obtain ⟨h2, e2, x2⟩ := print_run k (by omega) (t := ty1) (by decide) (by decide) h1 p1.rd
  refine ⟨h2, fun α ret => ?_, x1.trans x2⟩
  have hl : s1.len = 6 := nd_slen p1.rd
  have hn : (ty1.flat 0)[5]? = some ⟨7, 2, 4, [], 6⟩ := by decide
  rw [w4shown.f, w4shown.u1.f, e1, asNil_nil, Bool.not_true, cond_false, hl, dT (by decide : ((6 : Nat) : Int) = 6), Bool.not_true, cond_false, nd_rd p1.rd (x := 5) (i := 5) rfl hn]
  rw [show (decide ((7 : Int) = 7) && (decide ((2 : Int) = 2) && (decide ((4 : Int) = 4) && (decide (([] : List UInt8) = []) && (decide ((6 : Int) = 6) && true))))) = true from rfl, cond_true, e2]
  rw [dT (by decide : prT ty1 = [112, 32, 38, 32, 113, 32, 124, 32, 126, 114])]
theorem lent4_run (k : Nat) {f : Sl} {l : List Nd} (h : H) (r : NdR h f l) (hr : Room l.length) :
    ∃ h' o id, (∀ (α : Type) (ret : Sl → M α), w4lent.f (k + 1) f ret h = ret o h') ∧ Ext h h' ∧ Lent h' o l ∧ o.ad = some ⟨id, 0⟩ ∧ h'.get id = some (.cells (cN (l ++ [n7])) true) ∧ h.next ≤ id ∧ id < h'.next := by
  have hfl := nd_slen r
  obtain ⟨d, h1, e1, ap1, x1, o1, l1, _⟩ := app_copy (bytes := 48) r (by decide) (by decide) (by rw [hfl]; exact room_a hr)
  have hd : d.len = l.length := slen Nd.len (by decide) ap1.rd
  obtain ⟨h2, e2, ap2, g2, n2, k2⟩ := app_made (bytes := 48) (more := n7.cells) ap1 rfl rfl (n := 1) (by decide) (by decide) (by rw [hd]; exact room_b hr)
  have hc : cN l ++ n7.cells = cN (l ++ [n7]) := by simp [List.flatMap_append]
  rw [hc] at ap2 g2
  have x2 : Ext h h2 := by
    refine ⟨by rw [n2]; have := x1.1; omega, fun i hi => ?_⟩
    rw [k2 i (Nat.lt_of_lt_of_le hi x1.1) (fun _ a ha => by have := o1 a ha; omega)]
    exact x1.2 i hi
  refine ⟨h2, ⟨some ⟨h1.next + 1, 0⟩, l.length, l.length + 1, some 5⟩, h1.next + 1, fun α ret => ?_, x2, ?_, rfl, g2, by have := x1.1; omega, by omega⟩
  · rw [w4lent.f, w4lent.u1.f]
    have e3 := (e1 α (fun x4 => new n7.cells fun r5 => appRow x4 5 48 ⟨some r5, 1, 1, none⟩ fun x6 => cutSl x6 5 none (some (f.len : Int)) none fun x7 => ret x7)).trans (e2 α _)
    refine e3.trans ?_
    rw [cut_to ap2.fine (m := l.length) (by omega) (by show l.length ≤ d.len + 1; omega), hd]
  · refine ⟨?_, rfl, rfl, rfl⟩
    rw [hd] at ap2
    exact ap2.rd
theorem nd_over {s : Sl} {cs : List V} (o : Own h s 5 cs) {i : Nat} (hi : i < s.len) (n : Nd) :
    ∃ h' cs', (∀ (α : Type) (K : M α), idxSl s (i : Int) 5 (fun a => st1 (a.add 0) (.int .i64 n.kind) <| st1 (a.add 1) (.int .i64 n.a) <| st1 (a.add 2) (.int .i64 n.b) <| st1 (a.add 3) (.str n.name) <| st1 (a.add 4) (.int .i64 n.pos) K) h = K h') ∧ Own h' s 5 cs' ∧ h'.next = h.next ∧ ∀ i, i ≠ s.id → h'.get i = h.get i := by
  have hl := o.len
  obtain ⟨h1, e1, o1, n1, g1⟩ := own_st o (n := i * 5 + 0) (v := .int .i64 n.kind) rfl (by omega)
  obtain ⟨h2, e2, o2, n2, g2⟩ := own_st o1 (n := i * 5 + 1) (v := .int .i64 n.a) rfl (by rw [List.length_set]; omega)
  obtain ⟨h3, e3, o3, n3, g3⟩ := own_st o2 (n := i * 5 + 2) (v := .int .i64 n.b) rfl (by rw [List.length_set, List.length_set]; omega)
  obtain ⟨h4, e4, o4, n4, g4⟩ := own_st o3 (n := i * 5 + 3) (v := .str n.name) rfl (by rw [List.length_set, List.length_set, List.length_set]; omega)
  obtain ⟨h5, e5, o5, n5, g5⟩ := own_st o4 (n := i * 5 + 4) (v := .int .i64 n.pos) rfl (by rw [List.length_set, List.length_set, List.length_set, List.length_set]; omega)
  refine ⟨h5, _, fun α K => ?_, o5, by omega, fun i hi => by rw [g5 i hi, g4 i hi, g3 i hi, g2 i hi, g1 i hi]⟩
  rw [idx_run o.rd rfl hi]
  simp only [at_add]
  rw [e1, e2, e3, e4, e5]
theorem over4_loop (k : Nat) {s : Sl} (hl : s.len ≤ 4611686018427387900) : ∀ (j i : Nat) (h : H) (cs : List V), i ≤ s.len → s.len - i < j → Own h s 5 cs →
    ∃ h', (∀ (α : Type) (kx : M α), w4kept.u4.l k kx j s (i : Int) h = kx h') ∧ h'.next = h.next ∧ ∀ i, i ≠ s.id → h'.get i = h.get i := by
  intro j
  induction j with
  | zero => intro i h cs hi hj; omega
  | succ j ih =>
    intro i h cs hi hj o
    by_cases hlt : i < s.len
    · obtain ⟨h1, cs1, e1, o1, n1, g1⟩ := nd_over o hlt ⟨-9, 0, 0, [], 0⟩
      obtain ⟨h2, e2, n2, g2⟩ := ih (i + 1) h1 cs1 (by omega) (by omega) o1
      refine ⟨h2, fun α kx => ?_, by omega, fun i hi => by rw [g2 i hi, g1 i hi]⟩
      rw [w4kept.u4.l, w4kept.u3.f, dT (by omega : (i : Int) < (s.len : Int)), cond_true]
      refine (e1 α _).trans ?_
      rw [w64_eq (by omega) (by omega)]
      exact e2 α kx
    · refine ⟨h, fun α kx => ?_, rfl, fun _ _ => rfl⟩
      rw [w4kept.u4.l, w4kept.u3.f, dF (by omega : ¬ (i : Int) < (s.len : Int)), cond_false]
theorem kept4_run (k : Nat) {o f : Sl} {l : List Nd} (h : H) {id : Nat} (L : Lent h o l) (ha : o.ad = some ⟨id, 0⟩) (hg : h.get id = some (.cells (cN (l ++ [n7])) true)) (hid : id < h.next) (r : NdR h f l) (hk : l.length + 5 ≤ k) (hl : l.length ≤ 4611686018427387800) :
    ∃ h', (∀ (α : Type) (ret : Bool → M α), w4kept.f (k + 1) o f ret h = ret true h') ∧ h.next ≤ h'.next ∧ ∀ i, i < h.next → i ≠ id → h'.get i = h.get i := by
  obtain ⟨k, rfl⟩ : ∃ q, k = q + 1 := ⟨k - 1, by omega⟩
  have hfl := nd_slen r
  obtain ⟨h1, e1, x1⟩ := same_run k h L.rd r (by omega) (by omega) true
  have L1 := L.ext x1
  have hcl : (cN (l ++ [n7])).length = (l.length + 1) * 5 := by rw [flat_len Nd.len]; simp
  have own : Own h1 ⟨o.ad, l.length + 1, o.cap, o.loose⟩ 5 (cN (l ++ [n7])) :=
    ⟨hcl, id, [], ha, by rw [List.append_nil, x1.2 _ hid]; exact hg, Nat.lt_of_lt_of_le hid x1.1⟩
  obtain ⟨h2, e2, n2, g2⟩ := over4_loop (k + 1) (s := ⟨o.ad, l.length + 1, o.cap, o.loose⟩) (by show l.length + 1 ≤ _; omega) (k + 1) 0 h1 _ (Nat.zero_le _) (by show l.length + 1 - 0 < _; omega) own
  have hsid : (⟨o.ad, l.length + 1, o.cap, o.loose⟩ : Sl).id = id := by unfold Sl.id; rw [ha]; rfl
  refine ⟨h2, fun α ret => ?_, by have := x1.1; omega, fun i hi hne => by rw [g2 i (by rw [hsid]; exact hne), x1.2 i hi]⟩
  rw [w4kept.f, w4kept.u9.f, w4kept.u1.f, e1, dT rfl, hfl, w64_eq (by omega) (by omega), cut_to (s := o) (m := l.length + 1) ⟨by rw [L.len, L.cap]; omega, .inr L.lo⟩ (by omega) (by rw [L.cap]; exact Nat.le_refl _), Bool.not_true, cond_false]
  have := nd_kind (α := α) (s := ⟨o.ad, l.length + 1, o.cap, o.loose⟩) (by rw [L.cap]; exact L1.all) (x := (l.length : Int)) (i := l.length) (n := n7) rfl (by simp) (fun x7 => cond (!(decide (x7 = -7))) (ret false) (w4kept.u8.f (k + 1) ⟨o.ad, l.length + 1, o.cap, o.loose⟩ ret))
  refine this.trans ?_
  rw [dT (by decide : n7.kind = -7), Bool.not_true, cond_false, w4kept.u8.f, w4kept.u6.f, w4kept.u2.f, w4kept.u5.f, w4kept.u4.f]
  exact (e2 α _).trans (by rw [w4kept.u7.f])
theorem SyntaxPrints_law {f : Sl} {l : List Nd} {h : H} (r : NdR h f l) (hnl : NL l) (hr : Room l.length) : ∃ k h', ∀ (α : Type) (ret : Bool → M α), w4SyntaxPrints.f (k + 1) f ret h = ret true h' := by
  obtain ⟨k, hk1, hk2⟩ : ∃ k, 4000000 ≤ k ∧ l.length ≤ k := ⟨4000000 + l.length, by omega, by omega⟩
  refine ⟨k + 10, ?_⟩
  obtain ⟨h1, e1, x1⟩ := shown4_run (k + 9) (by omega) h
  obtain ⟨h2, o, id, e2, x2, L2, a2, g2, i2, j2⟩ := lent4_run (k + 9) h1 (r.ext x1) hr
  have key : ∃ w : List UInt8, (∃ h3, (∀ (α : Type) (ret : List UInt8 → M α), syntax_Print.f (k + 9 + 1) o ret h2 = ret w h3) ∧ Ext h2 h3) ∧
      ∀ h4, NdR h4 f l → ∃ h5, (∀ (α : Type) (ret : List UInt8 → M α), r4Print.f (k + 9 + 1) f ret h4 = ret w h5) := by
    rcases right_or l with hR | ⟨t, hR, ht, rfl, hs⟩
    · refine ⟨[], print_bad (k + 9) (by omega) hR h2 L2.rd, fun h4 r4 => ?_⟩
      obtain ⟨h5, e5, _⟩ := rprint_bad (k + 9) (by omega) hR hnl h4 r4
      exact ⟨h5, e5⟩
    · refine ⟨prT t, print_run (k + 9) (by omega) ht hs h2 L2.rd, fun h4 r4 => ?_⟩
      obtain ⟨h5, e5, _⟩ := rprint_run (k + 9) (by omega) ht hs hnl h4 r4
      exact ⟨h5, e5⟩
  obtain ⟨w, ⟨h3, e3, x3⟩, ref⟩ := key
  obtain ⟨h4, e4, n4, g4⟩ := kept4_run (k + 9) h3 (L2.ext x3) a2 (by rw [x3.2 _ j2]; exact g2) (Nat.lt_of_lt_of_le j2 x3.1) (r.ext ((x1.trans x2).trans x3)) (by omega) (by unfold Room at hr; omega)
  have x13 := (x1.trans x2).trans x3
  have x4 : Ext h h4 := ⟨Nat.le_trans x13.1 n4, fun i hi => by rw [g4 i (Nat.lt_of_lt_of_le hi x13.1) (by have := x1.1; omega)]; exact x13.2 i hi⟩
  obtain ⟨h5, e5⟩ := ref h4 (r.ext x4)
  refine ⟨h5, fun α ret => ?_⟩
  rw [w4SyntaxPrints.f, w4SyntaxPrints.u1.f, e1, e2, e3, e4, cond_true, cond_true, e5, dT rfl]
end Go.Ab.S3
