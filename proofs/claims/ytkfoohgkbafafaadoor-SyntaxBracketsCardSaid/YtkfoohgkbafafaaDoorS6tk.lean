import Derived.Test.YtkfoohgkbafafaaDoorS6Del
import Derived.Test.YtkfoohgkbafafaaDoorS6s
import Derived.Test.YtkfoohgkbafafaaDoorS6f
namespace Go.Ab.S6
set_option linter.unusedVariables false
set_option linter.unusedSimpArgs false
variable {α : Type} {h : H}
theorem stL_nil (a : Ad) (i : Nat) (K : M α) : stL a i [] K = K := rfl
def parseF (text : List UInt8) : Except Er (List Nd) :=
  match scanF text with
  | .error (m, e) => .error ((m : Int), e)
  | .ok ts => parseE (ts.filter fun t => !lineT t)
theorem tokF_kind {text : List UInt8} {n : Nat} {c : UInt8} (h : (tokF text n c).2 = 0) : (tokF text n c).1.kind ≠ 0 := by
  unfold tokF at h ⊢
  by_cases h0 : kindF c.toNat = 0
  · rw [if_pos h0] at h; exact absurd (show (3 : Int) = 0 from h) (by decide)
  · rw [if_neg h0]
    by_cases h2 : kindF c.toNat = 2 ∨ kindF c.toNat = 3
    · rw [if_pos h2]; exact h0
    · rw [if_neg h2]
      by_cases h4 : kindF c.toNat = 4
      · rw [if_pos h4]; split <;> (show (4 : Int) ≠ 0; decide)
      · rw [if_neg h4]; exact h0
theorem Sc.kinds {text : List UInt8} {n m : Nat} {ts : List Tok} (s : Sc text n ts m) : ∀ t ∈ ts, t.kind ≠ 0 := by
  induction s with
  | nil _ => intro t ht; cases ht
  | blank _ _ _ ih => exact ih
  | rem _ _ _ _ ih => exact ih
  | tok _ _ _ he _ ih =>
    intro t ht
    rcases List.mem_cons.1 ht with rfl | ht
    · exact tokF_kind he
    · exact ih t ht
theorem ends_snoc : ∀ (l : List Tok) (e : Tok), (∀ t ∈ l, t.kind ≠ 0) → e.kind = 0 → Ends (l ++ [e])
  | [], e, _, he => he
  | [t], e, hl, he => ⟨hl t List.mem_cons_self, he⟩
  | t :: u :: l, e, hl, he => ⟨hl t List.mem_cons_self, ends_snoc (u :: l) e (fun t ht => hl t (List.mem_cons_of_mem _ ht)) he⟩
theorem scan_ends {text : List UInt8} {ts : List Tok} (h : scanF text = .ok ts) : Ends (ts.filter fun t => !lineT t) ∧ ts ≠ [] ∧ ts.length ≤ text.length + 1 ∨ False := by
  rcases scanF_cases text with ⟨_, hs⟩ | ⟨hl, us, sc, hs⟩ | ⟨_, _, _, _, _, _, hs⟩
  · rw [hs] at h; cases h
  · rw [hs] at h
    cases h
    left
    refine ⟨?_, by simp, ?_⟩
    · rw [List.filter_append]
      exact ends_snoc _ _ (fun t ht => sc.kinds t (List.mem_filter.1 ht).1) rfl
    · have a1 := All_run (262144 + 6) text (by omega) h0
      rw [hs] at a1
      obtain ⟨_, _, _, _, _, _, h5, _⟩ := a1
      exact h5
  · rw [hs] at h; cases h
theorem filter_len (ts : List Tok) : (ts.filter fun t => !lineT t).length ≤ ts.length := List.length_filter_le _ _
theorem parse_run (k : Nat) (hk : 3000000 ≤ k) (text : List UInt8) (h : H) :
    match parseF text with
    | .ok l => ∃ h' s, (∀ (α : Type) (ret : Sl → V → M α), syntax_Parse.f (k + 1) text ret h = ret s .nilIface h') ∧ Ext h h' ∧ App h' s 5 (cN l) ∧ Owned h s
    | .error e => ∃ h' q, (∀ (α : Type) (ret : Sl → V → M α), syntax_Parse.f (k + 1) text ret h = ret Sl.nil (.iface 56 (.ptr (some ⟨q, 0⟩))) h') ∧ Ext h h' ∧ h.next ≤ q ∧ q < h'.next ∧ h'.get q = some (.cells [.int .i64 e.1, .int .i64 e.2] true) := by
  obtain ⟨k, rfl⟩ : ∃ q, k = q + 2 := ⟨k - 2, by omega⟩
  -- the two results' cells
  have x2 : Ext h ((h.push (.cells [.slice Sl.nil] true)).push (.cells [.nilIface] true)) := ((Ext.refl h).push _).push _
  have g3 : ((h.push (.cells [.slice Sl.nil] true)).push (.cells [.nilIface] true)).get h.next = some (.cells [.slice Sl.nil] true) := by rw [push_get, if_neg (by rw [push_next]; omega), push_get, if_pos rfl]
  have g4 : ((h.push (.cells [.slice Sl.nil] true)).push (.cells [.nilIface] true)).get (h.next + 1) = some (.cells [.nilIface] true) := by rw [push_get, if_pos (by rw [push_next])]
  have hn2 : ((h.push (.cells [.slice Sl.nil] true)).push (.cells [.nilIface] true)).next = h.next + 2 := rfl
  have start : ∀ (α : Type) (ret : Sl → V → M α), syntax_Parse.f (k + 3) text ret h = _ := fun α ret => by
    rw [syntax_Parse.f, syntax_Parse.u1.f, new_run rfl, new_run rfl]
  rw [show (h.push (.cells [.slice Sl.nil] true)).next = h.next + 1 from rfl] at start
  generalize (h.push (.cells [.slice Sl.nil] true)).push (.cells [.nilIface] true) = h2 at start x2 g3 g4 hn2
  have a1 := All_run (k + 1) text (by omega) h2
  unfold parseF
  cases hsc : scanF text with
  | error me =>
    rw [hsc] at a1
    obtain ⟨m, e⟩ := me
    obtain ⟨q, h5, e5, x5, hq1, hq2, g5⟩ := a1
    dsimp only
    have g4' : h5.get (h.next + 1) = some (.cells [.nilIface] true) := by rw [x5.2 _ (by omega)]; exact g4
    have g3' : h5.get h.next = some (.cells [.slice Sl.nil] true) := by rw [x5.2 _ (by omega)]; exact g3
    have hqn : q ≠ h.next + 1 := by omega
    -- the error is laid down, twice
    refine ⟨((h5.put (h.next + 1) (some (.cells [.iface 56 (.ptr (some ⟨q, 0⟩))] true))).put h.next (some (.cells [.slice Sl.nil] true))).put (h.next + 1) (some (.cells [.iface 56 (.ptr (some ⟨q, 0⟩))] true)), q, fun α ret => ?_, ?_, by omega, ?_, ?_⟩
    · rw [start, e5]
      rw [need_run (by rfl)]
      show (st1 ((⟨h.next + 1, 0⟩ : Ad).add 0) (.iface 56 (.ptr (some ⟨q, 0⟩))) _) h5 = _
      simp only [add_mk, Nat.zero_add]
      rw [st1_run (a := ⟨h.next + 1, 0⟩) g4' rfl (by simp), stL_nil]
      rw [ld_run (v := .iface 56 (.ptr (some ⟨q, 0⟩))) (by rw [cell_of (a := ⟨h.next + 1, 0⟩) (put_get _ _ _)]; rfl)]
      rw [asNil_iface, Bool.not_false, cond_true]
      rw [ld_run (v := .iface 56 (.ptr (some ⟨q, 0⟩))) (by rw [cell_of (a := ⟨h.next + 1, 0⟩) (put_get _ _ _)]; rfl)]
      rw [st1_run (a := ⟨h.next, 0⟩) (by rw [put_get_if, if_neg (by show h.next ≠ h.next + 1; omega)]; exact g3') rfl (by simp)]
      have hs : ∀ (K K' : M α), skipped (.iface 56 (.ptr (some ⟨q, 0⟩))) K K' = K' := fun _ _ => rfl
      rw [hs]
      have gq : ((h5.put (h.next + 1) (some (.cells (([V.nilIface]).set 0 (.iface 56 (.ptr (some ⟨q, 0⟩)))) true))).put h.next (some (.cells (([V.slice Sl.nil]).set 0 (.slice Sl.nil)) true))).get (h.next + 1) = some (.cells [.iface 56 (.ptr (some ⟨q, 0⟩))] true) := by
        rw [put_get_if, if_neg (by omega), put_get_if, if_pos rfl]; rfl
      rw [ld_run (v := .iface 56 (.ptr (some ⟨q, 0⟩))) (by rw [cell_of (a := ⟨h.next + 1, 0⟩) gq]; rfl)]
      have hlk : ∀ (K : M α), lookL (V.cells (.iface 56 (.ptr (some ⟨q, 0⟩)))) [.iface 56 (.ptr (some ⟨q, 0⟩))] K = need (Nat.beq 56 56) (need (decide ((some (⟨q, 0⟩ : Ad)) = some ⟨q, 0⟩)) K) := fun _ => rfl
      rw [hlk, need_run (by rfl), need_run (by simp), need_run (by rfl)]
      show (st1 ((⟨h.next + 1, 0⟩ : Ad).add 0) (.iface 56 (.ptr (some ⟨q, 0⟩))) _) _ = _
      simp only [add_mk, Nat.zero_add]
      rw [st1_run (a := ⟨h.next + 1, 0⟩) gq rfl (by simp), stL_nil]
      rw [ldS_run (n := Sl.nil) (by rw [cell_of (a := ⟨h.next, 0⟩) (cs := [.slice Sl.nil]) (o := true) (by rw [put_get_if, if_neg (by show h.next ≠ h.next + 1; omega), put_get_if, if_pos rfl]; rfl)]; rfl)]
      rw [ld_run (v := .iface 56 (.ptr (some ⟨q, 0⟩))) (by rw [cell_of (a := ⟨h.next + 1, 0⟩) (put_get _ _ _)]; rfl)]
      rfl
    · exact (((x2.trans x5).put _ (by omega)).put _ (Nat.le_refl _)).put _ (by omega)
    · show q < h5.next
      exact hq2
    · rw [put_get_if, if_neg hqn, put_get_if, if_neg (by omega), put_get_if, if_neg hqn]
      exact g5
  | ok ts =>
    rw [hsc] at a1
    obtain ⟨sl, h5, e5, x5, r5, o5, b5, hl⟩ := a1
    dsimp only
    obtain ⟨hends, hne, hlen⟩ := (scan_ends hsc).resolve_right id
    have g4' : h5.get (h.next + 1) = some (.cells [.nilIface] true) := by rw [x5.2 _ (by omega)]; exact g4
    have g3' : h5.get h.next = some (.cells [.slice Sl.nil] true) := by rw [x5.2 _ (by omega)]; exact g3
    -- the tokens are the run's own
    obtain ⟨id, s1, s2, s3, s4⟩ : ∃ id, sl = ⟨some ⟨id, 0⟩, sl.len, sl.len, some 4⟩ ∧ h5.get id = some (.cells (cellsL ts) true) ∧ (cellsL ts).length = sl.len * 4 ∧ id < h5.next := by
      rcases r5 with ⟨r1, r2⟩ | r
      · exfalso
        obtain ⟨t, r, rfl⟩ : ∃ t r, ts = t :: r := by cases ts with | nil => exact absurd rfl hne | cons t r => exact ⟨t, r, rfl⟩
        simp [cellsL, Tok.cells] at r2
      · exact r
    have hidad : sl.ad = some ⟨id, 0⟩ := by rw [s1]
    have hsid : sl.id = id := by unfold Sl.id; rw [hidad]; rfl
    have hid0 : h2.next ≤ id := o5 ⟨id, 0⟩ hidad
    -- nothing is laid down as an error
    have hput : h5.put (h.next + 1) (some (.cells [.nilIface] true)) = h5 := by
      rw [← g4']
      unfold H.put
      cases h5 with
      | mk nx gt =>
        simp only [H.mk.injEq, true_and]
        funext j
        by_cases e : j = h.next + 1
        · subst e; simp
        · rw [beq_ne e]; rfl
    have start2 : ∀ (α : Type) (ret : Sl → V → M α), syntax_Parse.f (k + 3) text ret h = syntax_Parse.u2.f (k + 2) ⟨h.next, 0⟩ ⟨h.next + 1, 0⟩ sl (fun z0 z1 => syntax_Parse.C.u1.f (k + 2) ⟨h.next, 0⟩ ⟨h.next + 1, 0⟩ .nilIface (ldS (z0.add 0) fun o501 => ld (z1.add 0) fun o502 => ret o501 o502))
        (fun v => syntax_Parse.C.u1.f (k + 2) ⟨h.next, 0⟩ ⟨h.next + 1, 0⟩ v (ldS ((⟨h.next, 0⟩ : Ad).add 0) fun o501 => ld ((⟨h.next + 1, 0⟩ : Ad).add 0) fun o502 => ret o501 o502)) h5 := fun α ret => by
      rw [start, e5, need_run (by rfl)]
      show (st1 ((⟨h.next + 1, 0⟩ : Ad).add 0) .nilIface _) h5 = _
      simp only [add_mk, Nat.zero_add]
      rw [st1_run (a := ⟨h.next + 1, 0⟩) g4' rfl (by simp), stL_nil]
      rw [show ([V.nilIface].set (⟨h.next + 1, 0⟩ : Ad).off V.nilIface) = [V.nilIface] from rfl]
      dsimp only
      rw [hput, ld_run (v := .nilIface) (by rw [cell_of (a := ⟨h.next + 1, 0⟩) g4']; rfl), asNil_nil, Bool.not_true, cond_false]
    clear start
    have own5 : Own h5 sl 4 (cellsL ts) := ⟨s3, id, [], hidad, by rw [List.append_nil]; exact s2, s4⟩
    have hfine : sl.fine 4 := by rw [s1]; exact ⟨Nat.le_refl _, .inr rfl⟩
    obtain ⟨h6, s6, e6, r6, f6, a6, x6, n6⟩ := del_run (k + 1) h2 h5 x5 own5 (by rw [hsid]; exact hid0) hfine (by omega) (by omega)
    have hl6 := filter_len ts
    generalize ts.filter (fun t => !lineT t) = us at hends r6 hl6
    have x26 := x2.trans x6
    -- the parser
    have x7 : Ext h6 (h6.push (.cells [.slice s6, .int .i64 0, .slice Sl.nil] true)) := (Ext.refl h6).push _
    have hid6 : id < h6.next := by omega
    have P7 : PS h2 (h6.push (.cells [.slice s6, .int .i64 0, .slice Sl.nil] true)) h6.next id s6 Sl.nil ⟨us, 0, []⟩ := by
      refine ⟨x6.trans x7, x6.1, by rw [push_next]; omega, by rw [push_get, if_pos rfl]; rfl, r6.ext x7, f6, App.nilSl _ _, Owned.nil _, fun a ha => ?_, by omega, by rw [push_next]; omega, fun a ha => (by cases ha), hends, Nat.le_refl _, by show (0 : Nat) ≤ 60; omega⟩
      rw [a6, hidad] at ha
      cases ha; rfl
    have hpz := pz_run (p := h6.next) (tb := id) (3 * us.length + 10) (.row true) 0 ⟨us, 0, []⟩ _ s6 Sl.nil (k + 2) (k + 2) (by omega) (by omega) P7
    have start3 : ∀ (α : Type) (ret : Sl → V → M α), syntax_Parse.f (k + 3) text ret h = cps (k + 2) (k + 2) h6.next (.row true) 0 (fun v => syntax_Parse.C.u1.f (k + 2) ⟨h.next, 0⟩ ⟨h.next + 1, 0⟩ v (ldS ((⟨h.next, 0⟩ : Ad).add 0) fun o501 => ld ((⟨h.next + 1, 0⟩ : Ad).add 0) fun o502 => ret o501 o502))
        (fun r7 => ldS (((⟨h6.next, 0⟩ : Ad).add 0).add 0) fun x8 => idxSl x8 0 4 fun a9 => ldI .i64 ((a9.add 0).add 0) fun x10 => cond (!(decide (x10 = 0))) (
          spwrong.f (k + 2) ⟨h6.next, 0⟩ (fun e12 => syntax_Parse.C.u1.f (k + 2) ⟨h.next, 0⟩ ⟨h.next + 1, 0⟩ e12 (ldS ((⟨h.next, 0⟩ : Ad).add 0) fun o501 => ld ((⟨h.next + 1, 0⟩ : Ad).add 0) fun o502 => ret o501 o502)) (
            ldS (((⟨h6.next, 0⟩ : Ad).add 2).add 0) fun x11 => st1 ((⟨h.next, 0⟩ : Ad).add 0) (.slice x11) <| st1 ((⟨h.next + 1, 0⟩ : Ad).add 0) .nilIface <| syntax_Parse.C.u1.f (k + 2) ⟨h.next, 0⟩ ⟨h.next + 1, 0⟩ .nilIface (ldS ((⟨h.next, 0⟩ : Ad).add 0) fun o501 => ld ((⟨h.next + 1, 0⟩ : Ad).add 0) fun o502 => ret o501 o502))) (
          ldS (((⟨h6.next, 0⟩ : Ad).add 2).add 0) fun x11 => st1 ((⟨h.next, 0⟩ : Ad).add 0) (.slice x11) <| st1 ((⟨h.next + 1, 0⟩ : Ad).add 0) .nilIface <| syntax_Parse.C.u1.f (k + 2) ⟨h.next, 0⟩ ⟨h.next + 1, 0⟩ .nilIface (ldS ((⟨h.next, 0⟩ : Ad).add 0) fun o501 => ld ((⟨h.next + 1, 0⟩ : Ad).add 0) fun o502 => ret o501 o502)))
        (h6.push (.cells [.slice s6, .int .i64 0, .slice Sl.nil] true)) := fun α ret => by
      rw [start2, syntax_Parse.u2.f, e6, new_run rfl]
      rfl
    clear start2
    generalize h6.push (.cells [.slice s6, .int .i64 0, .slice Sl.nil] true) = h7 at x7 P7 hpz start3
    -- the end of an error
    have bad : ∀ (e : Er) (h8 : H), Ext h2 h8 → (∀ (α : Type) (ret : Sl → V → M α), syntax_Parse.f (k + 3) text ret h = syntax_Parse.C.u1.f (k + 2) ⟨h.next, 0⟩ ⟨h.next + 1, 0⟩ (thrown e) (ldS ((⟨h.next, 0⟩ : Ad).add 0) fun o501 => ld ((⟨h.next + 1, 0⟩ : Ad).add 0) fun o502 => ret o501 o502) h8) →
        ∃ h' q, (∀ (α : Type) (ret : Sl → V → M α), syntax_Parse.f (k + 3) text ret h = ret Sl.nil (.iface 56 (.ptr (some ⟨q, 0⟩))) h') ∧ Ext h h' ∧ h.next ≤ q ∧ q < h'.next ∧ h'.get q = some (.cells [.int .i64 e.1, .int .i64 e.2] true) := by
      intro e h8 x8 e8
      have c3 : h8.get h.next = some (.cells [.slice Sl.nil] true) := by rw [x8.2 _ (by omega)]; exact g3
      have c4 : h8.get (h.next + 1) = some (.cells [.nilIface] true) := by rw [x8.2 _ (by omega)]; exact g4
      have hle := x8.1
      have x9 : Ext h8 (h8.push (.cells [.int .i64 e.1, .int .i64 e.2] true)) := (Ext.refl h8).push _
      have d3 : (h8.push (.cells [.int .i64 e.1, .int .i64 e.2] true)).get h.next = some (.cells [.slice Sl.nil] true) := by rw [x9.2 _ (by omega)]; exact c3
      have d4 : (h8.push (.cells [.int .i64 e.1, .int .i64 e.2] true)).get (h.next + 1) = some (.cells [.nilIface] true) := by rw [x9.2 _ (by omega)]; exact c4
      have d5 : (h8.push (.cells [.int .i64 e.1, .int .i64 e.2] true)).get h8.next = some (.cells [.int .i64 e.1, .int .i64 e.2] true) := by rw [push_get, if_pos rfl]
      refine ⟨((h8.push (.cells [.int .i64 e.1, .int .i64 e.2] true)).put h.next (some (.cells [.slice Sl.nil] true))).put (h.next + 1) (some (.cells [.iface 56 (.ptr (some ⟨h8.next, 0⟩))] true)), h8.next, fun α ret => ?_, ?_, by omega, ?_, ?_⟩
      · rw [e8, syntax_Parse.C.u1.f, thrown, asNil_iface, cond_false]
        show (new [.int .i64 0, .int .i64 0] fun s7 => need (Nat.beq 2 2) <| st1 (s7.add 0) (.int .i64 e.1) <| st1 (s7.add 1) (.int .i64 e.2) <| st1 ((⟨h.next, 0⟩ : Ad).add 0) (.slice Sl.nil) <| st1 ((⟨h.next + 1, 0⟩ : Ad).add 0) (.iface 56 (.ptr (some (s7.add 0)))) _) h8 = _
        rw [new_run rfl, need_run (by rfl)]
        simp only [add_mk, Nat.zero_add]
        rw [st1_new rfl (by simp), st1_new rfl (by simp)]
        simp only [List.set_cons_zero, List.set_cons_succ]
        rw [st1_run (a := ⟨h.next, 0⟩) d3 rfl (by simp), st1_run (a := ⟨h.next + 1, 0⟩) (by rw [put_get_if, if_neg (by show h.next + 1 ≠ h.next; omega)]; exact d4) rfl (by simp)]
        simp only [List.set_cons_zero]
        rw [ldS_run (n := Sl.nil) (by rw [cell_of (a := ⟨h.next, 0⟩) (cs := [.slice Sl.nil]) (o := true) (by rw [put_get_if, if_neg (by show h.next ≠ h.next + 1; omega), put_get_if, if_pos rfl])]; rfl)]
        rw [ld_run (v := .iface 56 (.ptr (some ⟨h8.next, 0⟩))) (by rw [cell_of (a := ⟨h.next + 1, 0⟩) (put_get _ _ _)]; rfl)]
      · exact (((x2.trans x8).trans x9).put _ (Nat.le_refl _)).put _ (by omega)
      · show h8.next < h8.next + 1
        omega
      · rw [put_get_if, if_neg (by omega), put_get_if, if_neg (by omega)]
        exact d5
    unfold parseE
    cases hz : pz (3 * us.length + 10) (.row true) 0 ⟨us, 0, []⟩ with
    | error e =>
      rw [hz] at hpz
      have he := pz_fuel _ _ _ ⟨us, 0, []⟩ _ hends (by simp [cost]) hz
      obtain ⟨h8, x8, e8⟩ := hpz he
      exact bad e h8 x8 fun α ret => (start3 α ret).trans (e8 α _ _)
    | ok y =>
      rw [hz] at hpz
      obtain ⟨n, s'⟩ := y
      obtain ⟨h8, ls8, fs8, e8, P8, q8⟩ := hpz
      dsimp only at e8 P8
      show match (if s'.hd.kind = 0 then Except.ok s'.f else Except.error (wrongE s')) with | .ok l => _ | .error e => _
      by_cases hk0 : s'.hd.kind = 0
      · rw [if_pos hk0]
        dsimp only
        have c3 : h8.get h.next = some (.cells [.slice Sl.nil] true) := by rw [P8.ext.2 _ (by omega)]; exact g3
        have c4 : h8.get (h.next + 1) = some (.cells [.nilIface] true) := by rw [P8.ext.2 _ (by omega)]; exact g4
        have hfs : ∀ a, fs8.ad = some a → h2.next ≤ a.id := P8.low
        refine ⟨(h8.put h.next (some (.cells [.slice fs8] true))).put (h.next + 1) (some (.cells [.nilIface] true)), fs8, fun α ret => ?_, ((x2.trans P8.ext).put _ (Nat.le_refl _)).put _ (by omega), P8.nodes.keep (Nat.le_refl _) (fun a ha => ?_), fun a ha => by have := hfs a ha; omega⟩
        · rw [start3, e8, p_l P8, tk_kind P8.toks (x := 0) (i := 0) rfl P8.hd, dT hk0, Bool.not_true, cond_false, p_f P8]
          simp only [add_mk, Nat.zero_add]
          rw [st1_run (a := ⟨h.next, 0⟩) c3 rfl (by simp), st1_run (a := ⟨h.next + 1, 0⟩) (by rw [put_get_if, if_neg (by show h.next + 1 ≠ h.next; omega)]; exact c4) rfl (by simp), syntax_Parse.C.u1.f, asNil_nil, cond_true]
          simp only [List.set_cons_zero]
          rw [ldS_run (n := fs8) (by rw [cell_of (a := ⟨h.next, 0⟩) (cs := [.slice fs8]) (o := true) (by rw [put_get_if, if_neg (by show h.next ≠ h.next + 1; omega), put_get_if, if_pos rfl])]; rfl)]
          rw [ld_run (v := .nilIface) (by rw [cell_of (a := ⟨h.next + 1, 0⟩) (put_get _ _ _)]; rfl)]
        · have := hfs a ha
          rw [put_get_if, if_neg (by omega), put_get_if, if_neg (by omega)]
      · rw [if_neg hk0]
        dsimp only
        refine bad (wrongE s') h8 P8.ext fun α ret => ?_
        rw [start3, e8, p_l P8, tk_kind P8.toks (x := 0) (i := 0) rfl P8.hd, dF hk0, Bool.not_false, cond_true, wrong_run P8]
end Go.Ab.S6
namespace Go.Ab.S6
set_option linter.unusedVariables false
set_option linter.unusedSimpArgs false
def Tok.shift (d : Int) (t : Tok) : Tok := { t with pos := t.pos + d }
def Nd.mv (n0 : Nat) (d : Int) (n : Nd) : Nd := ⟨n.kind, if 1 ≤ arF n.kind then n.a + n0 else n.a, if 2 ≤ arF n.kind then n.b + n0 else n.b, n.name, n.pos + d⟩
def mvl (d : Int) (tail : List Tok) : List Tok → List Tok
  | [] => tail
  | [_] => tail
  | t :: u :: r => t.shift d :: mvl d tail (u :: r)
def Stops (tail : List Tok) : Prop := ∀ (o : Bool) (m : Nat) (f : List Nd), isS (signO o) ⟨tail, m, f⟩ = false
section
variable (n0 m0 : Nat) (d : Int) (f0 : List Nd) (tail : List Tok)
def mvS (s : St) : St := ⟨mvl d tail s.l, s.made + m0, f0 ++ s.f.map (Nd.mv n0 d)⟩
variable {n0 m0 d f0 tail}
theorem mvS_hd {s : St} (he : Ends s.l) (hk : s.hd.kind ≠ 0) : (mvS n0 m0 d f0 tail s).hd = s.hd.shift d := by
  obtain ⟨l, m, f⟩ := s
  match l, he with
  | [t], h => exact absurd h hk
  | t :: u :: r, _ => rfl
theorem mvS_adv {s : St} (he : Ends s.l) (hk : s.hd.kind ≠ 0) : (mvS n0 m0 d f0 tail s).adv = mvS n0 m0 d f0 tail s.adv := by
  obtain ⟨l, m, f⟩ := s
  match l, he with
  | [t], h => exact absurd h hk
  | t :: u :: r, _ => rfl
theorem mvS_isS {s : St} (he : Ends s.l) (hk : s.hd.kind ≠ 0) (g : List UInt8) : isS g (mvS n0 m0 d f0 tail s) = isS g s := by
  unfold isS
  rw [mvS_hd he hk]
  rfl
theorem mvS_end {s : St} (he : Ends s.l) (hk : s.hd.kind = 0) : (mvS n0 m0 d f0 tail s).l = tail := by
  obtain ⟨l, m, f⟩ := s
  match l, he with
  | [t], h => rfl
  | t :: u :: r, h => exact absurd hk h.1
def MvR (n0 m0 : Nat) (d : Int) (f0 : List Nd) (tail : List Tok) (n : Int) (s' : St) (x : Except Er (Int × St)) : Prop :=
  (m0 + s'.made ≤ 60 ∧ x = .ok (n + n0, mvS n0 m0 d f0 tail s')) ∨ (60 < m0 + s'.made ∧ ∃ p, x = .error (p, 10))
theorem MvR.bind {n n' : Int} {s1 s' : St} {x : Except Er (Int × St)} {f : Int × St → Except Er (Int × St)} (h : MvR n0 m0 d f0 tail n s1 x) (hb : s1.made ≤ s'.made)
    (hf : m0 + s1.made ≤ 60 → MvR n0 m0 d f0 tail n' s' (f (n + n0, mvS n0 m0 d f0 tail s1))) : MvR n0 m0 d f0 tail n' s' (bindE x f) := by
  rcases h with ⟨h1, rfl⟩ | ⟨h1, p, rfl⟩
  · exact hf h1
  · exact .inr ⟨by omega, p, rfl⟩
theorem mvS_lay (hf0 : f0.length = n0) (nd : Nd) {s : St} : layE (nd.mv n0 d) (mvS n0 m0 d f0 tail s) = ((layE nd s).1 + n0, mvS n0 m0 d f0 tail (layE nd s).2) := by
  unfold layE mvS
  simp [hf0]
  omega
theorem mvS_makes {s s1 : St} {t : Tok} (he : Ends s.l) (hk : s.hd.kind ≠ 0) (hm : makesE s = .ok (t, s1)) (hl : m0 + s.made ≤ 60) :
    s1.made = s.made + 1 ∧ Ends s1.l ∧ t = s.hd ∧ ((60 < m0 + s1.made ∧ ∃ p, makesE (mvS n0 m0 d f0 tail s) = .error (p, 10)) ∨ (m0 + s1.made ≤ 60 ∧ makesE (mvS n0 m0 d f0 tail s) = .ok (t.shift d, mvS n0 m0 d f0 tail s1))) := by
  obtain ⟨h60, rfl, rfl⟩ := makesE_ok hm
  refine ⟨rfl, adv_ends he hk, rfl, ?_⟩
  unfold makesE
  rw [mvS_hd he hk, mvS_adv he hk]
  by_cases h : m0 + s.made = 60
  · left
    refine ⟨by show 60 < m0 + (s.made + 1); omega, (s.hd.shift d).pos, ?_⟩
    rw [if_pos (by show s.made + m0 = 60; omega)]
  · right
    refine ⟨by show m0 + (s.made + 1) ≤ 60; omega, ?_⟩
    rw [if_neg (by show ¬ s.made + m0 = 60; omega)]
    simp only [mvS, Except.ok.injEq, Prod.mk.injEq, true_and, St.mk.injEq]
    exact ⟨by omega, trivial⟩
theorem pz_mv (hstop : Stops tail) (hf0 : f0.length = n0) : ∀ (j : Nat) (r : Rl) (a a' : Int) (s : St) (n : Int) (s' : St), pz j r a s = .ok (n, s') → Ends s.l → m0 + s.made ≤ 60 →
    (∀ o, r = .loop o → a' = a + n0) → MvR n0 m0 d f0 tail n s' (pz j r a' (mvS n0 m0 d f0 tail s)) := by
  intro j
  induction j with
  | zero => intro r a a' s n s' h; cases h
  | succ j ih =>
    intro r a a' s n s' h he hl ha
    have nol : ∀ (r : Rl), (∀ o, r ≠ .loop o) → ∀ (a : Int) (o : Bool), r = .loop o → (0 : Int) = a + n0 := fun r h a o e => absurd e (h o)
    have one : ∀ o o', oneO o ≠ .loop o' := fun o o' => by cases o <;> (intro h; cases h)
    cases r with
    | row o =>
      rw [pz] at h ⊢
      obtain ⟨⟨m, s1⟩, h1, h2⟩ := bindE_ok h
      have b1 := pz_bal _ _ _ _ _ _ h1
      have b2 := pz_bal _ _ _ _ _ _ h2
      exact (ih _ _ 0 _ _ _ h1 he hl (fun o' e => absurd e (one o o'))).bind b2.2.1 fun h3 => ih _ _ _ _ _ _ h2 (b1.2.2.2.1 he) h3 fun _ _ => rfl
    | loop o =>
      have ha' := ha o rfl
      subst ha'
      rw [pz] at h ⊢
      by_cases hs : isS (signO o) s = true
      · have hk : s.hd.kind ≠ 0 := by rw [isS_kind hs]; decide
        rw [if_pos hs] at h
        rw [if_pos (by rw [mvS_isS he hk]; exact hs)]
        obtain ⟨⟨t, s1⟩, h1, h⟩ := bindE_ok h
        obtain ⟨⟨b, s2⟩, h2, h⟩ := bindE_ok h
        have b2 := pz_bal _ _ _ _ _ _ h2
        have b3 := pz_bal _ _ _ _ _ _ h
        have b3' : s2.made ≤ s'.made := b3.2.1
        obtain ⟨m1, m2, m3, m4⟩ := mvS_makes (n0 := n0) (m0 := m0) (d := d) (f0 := f0) (tail := tail) he hk h1 hl
        have hle : s1.made ≤ s'.made := Nat.le_trans b2.2.1 b3'
        rcases m4 with ⟨m5, p, m6⟩ | ⟨m5, m6⟩
        · rw [m6]
          exact .inr ⟨by omega, p, rfl⟩
        rw [m6]
        refine (ih _ _ 0 _ _ _ h2 m2 m5 (fun o' e => absurd e (one o o'))).bind b3' fun h3 => ?_
        have e := mvS_lay (m0 := m0) (d := d) (tail := tail) hf0 ⟨kindO o, a, b, [], t.pos⟩ (s := s2)
        have e2 : Nd.mv n0 d ⟨kindO o, a, b, [], t.pos⟩ = ⟨kindO o, a + n0, b + n0, [], (t.shift d).pos⟩ := by cases o <;> rfl
        rw [e2] at e
        dsimp only
        rw [e]
        exact ih _ _ _ _ _ _ h (by simp only [layE]; exact b2.2.2.2.1 m2) (by simp only [layE]; omega) fun _ _ => rfl
      · rw [if_neg hs] at h
        cases h
        by_cases hk : s.hd.kind = 0
        · have hnot : ¬ isS (signO o) (mvS n0 m0 d f0 tail s) = true := by
            have := mvS_end (n0 := n0) (m0 := m0) (d := d) (f0 := f0) (tail := tail) he hk
            have e := hstop o (s.made + m0) (f0 ++ s.f.map (Nd.mv n0 d))
            rw [← this] at e
            rw [show mvS n0 m0 d f0 tail s = ⟨(mvS n0 m0 d f0 tail s).l, s.made + m0, f0 ++ s.f.map (Nd.mv n0 d)⟩ from rfl, e]
            decide
          rw [if_neg hnot]
          exact .inl ⟨hl, rfl⟩
        · rw [if_neg (by rw [mvS_isS he hk]; exact hs)]
          exact .inl ⟨hl, rfl⟩
    | un =>
      clear ha
      rw [pz] at h ⊢
      have hk : s.hd.kind ≠ 0 := by
        intro hk
        have no : ∀ g, isS g s = false := fun g => by unfold isS; rw [hk]; rfl
        rw [no, no, no, no, hk] at h
        simp at h
      have e : ∀ g, isS g (mvS n0 m0 d f0 tail s) = isS g s := mvS_isS he hk
      rw [e, e, e, e, mvS_hd he hk]
      -- a node with one below
      have lay1 : ∀ {s1 : St} {nd : Nd} {c : Int}, m0 + s1.made ≤ 60 → MvR n0 m0 d f0 tail (layE nd s1).1 (layE nd s1).2 (.ok (layE (nd.mv n0 d) (mvS n0 m0 d f0 tail s1))) := fun {s1 nd c} hm => .inl ⟨hm, by rw [mvS_lay hf0]⟩
      have steps : ∀ (k : Int) (shut : List UInt8), arF k = 1 → bindE (makesE s) (fun x => bindE (stepE shut x.2) fun z => bindE (pz j .un 0 z.2) fun y => .ok (layE ⟨k, y.1, 0, z.1, x.1.pos⟩ y.2)) = .ok (n, s') →
          MvR n0 m0 d f0 tail n s' (bindE (makesE (mvS n0 m0 d f0 tail s)) (fun x => bindE (stepE shut x.2) fun z => bindE (pz j .un 0 z.2) fun y => .ok (layE ⟨k, y.1, 0, z.1, x.1.pos⟩ y.2))) := by
        intro k shut hark h
        obtain ⟨⟨t, s1⟩, h1, h⟩ := bindE_ok h
        obtain ⟨⟨x, s2⟩, h2, h⟩ := bindE_ok h
        obtain ⟨⟨b, s3⟩, h3, h⟩ := bindE_ok h
        cases h
        obtain ⟨c1, c2, c3, c4⟩ := stepE_ok h2
        dsimp only at c1 c2 c3 c4 h3
        obtain ⟨m1, m2, m3, m4⟩ := mvS_makes (n0 := n0) (m0 := m0) (d := d) (f0 := f0) (tail := tail) he hk h1 hl
        have k1 : s1.hd.kind ≠ 0 := by
          rcases c1 with c1 | c1
          · rw [isS_kind c1]; decide
          · rw [c1.1]; decide
        have k2 : s1.adv.hd.kind ≠ 0 := by rw [isS_kind c3]; decide
        have he1 := adv_ends m2 k1
        have b3 := pz_bal _ _ _ _ _ _ h3
        have hs2 : s2.made = s1.made := by rw [c4]; rfl
        have b3' : s2.made ≤ s3.made := b3.2.1
        rcases m4 with ⟨m5, p, m6⟩ | ⟨m5, m6⟩
        · rw [m6]
          exact .inr ⟨by show 60 < m0 + s3.made; omega, p, rfl⟩
        rw [m6]
        have es : stepE shut (mvS n0 m0 d f0 tail s1) = .ok (x, mvS n0 m0 d f0 tail s2) := by
          unfold stepE
          rw [mvS_isS m2 k1, mvS_hd m2 k1, mvS_adv m2 k1]
          rw [if_pos (show isS [45] s1 = true ∨ ((s1.hd.shift d).kind = 2 ∧ wordsF (s1.hd.shift d).text = false) from c1)]
          unfold needE
          rw [mvS_isS he1 k2, mvS_adv he1 k2, if_pos c3]
          dsimp only
          rw [c2, c4]
          rfl
        show MvR n0 m0 d f0 tail _ _ (bindE (stepE shut (mvS n0 m0 d f0 tail s1)) _)
        rw [es]
        have hs2e : Ends s2.l := by rw [c4]; exact adv_ends he1 k2
        refine (ih _ _ 0 _ _ _ h3 hs2e (by omega) (fun o' e => by cases e)).bind (Nat.le_refl _) fun h4 => ?_
        have := lay1 (nd := ⟨k, b, 0, x, t.pos⟩) (c := 0) h4
        rw [show Nd.mv n0 d ⟨k, b, 0, x, t.pos⟩ = ⟨k, b + n0, 0, x, (t.shift d).pos⟩ by unfold Nd.mv; rw [show arF k = 1 from hark]; rfl] at this
        exact this
      by_cases c1 : isS [126] s = true
      · rw [if_pos c1] at h ⊢
        obtain ⟨⟨t, s1⟩, h1, h⟩ := bindE_ok h
        obtain ⟨⟨b, s2⟩, h2, h⟩ := bindE_ok h
        cases h
        have b2 := pz_bal _ _ _ _ _ _ h2
        have b2' : s1.made ≤ s2.made := b2.2.1
        obtain ⟨m1, m2, m3, m4⟩ := mvS_makes (n0 := n0) (m0 := m0) (d := d) (f0 := f0) (tail := tail) he hk h1 hl
        rcases m4 with ⟨m5, p, m6⟩ | ⟨m5, m6⟩
        · rw [m6]
          exact .inr ⟨by show 60 < m0 + s2.made; omega, p, rfl⟩
        rw [m6]
        refine (ih _ _ 0 _ _ _ h2 m2 m5 (fun o' e => by cases e)).bind (Nat.le_refl _) fun h4 => ?_
        exact lay1 (nd := ⟨5, b, 0, [], t.pos⟩) (c := 0) h4
      rw [if_neg c1] at h ⊢
      by_cases c2 : isS [60] s = true
      · rw [if_pos c2] at h ⊢; exact steps 8 [62] (by decide) h
      rw [if_neg c2] at h ⊢
      by_cases c3 : isS [91] s = true
      · rw [if_pos c3] at h ⊢; exact steps 9 [93] (by decide) h
      rw [if_neg c3] at h ⊢
      by_cases c4 : isS [40] s = true
      · rw [if_pos c4] at h ⊢
        obtain ⟨⟨b, s1⟩, h1, h⟩ := bindE_ok h
        obtain ⟨s2, h2, h⟩ := bindE_ok h
        obtain ⟨d1, d2⟩ := needE_ok h2
        cases h
        have he1 := adv_ends he hk
        have b1 := pz_bal _ _ _ _ _ _ h1
        have hk1 : s1.hd.kind ≠ 0 := by rw [isS_kind d1]; decide
        rw [mvS_adv he hk]
        refine (ih _ _ 0 _ _ _ h1 he1 hl (fun o' e => by cases e)).bind (by rw [d2]; exact Nat.le_refl _) fun h4 => ?_
        dsimp only
        have he2 := b1.2.2.2.1 he1
        unfold needE
        rw [mvS_isS he2 hk1, mvS_adv he2 hk1, if_pos d1, d2]
        exact .inl ⟨h4, rfl⟩
      rw [if_neg c4] at h ⊢
      rw [show (s.hd.shift d).kind = s.hd.kind from rfl]
      by_cases c5 : s.hd.kind = 3
      · rw [if_pos c5] at h ⊢
        obtain ⟨⟨t, s1⟩, h1, h⟩ := bindE_ok h
        cases h
        obtain ⟨m1, m2, m3, m4⟩ := mvS_makes (n0 := n0) (m0 := m0) (d := d) (f0 := f0) (tail := tail) he hk h1 hl
        rcases m4 with ⟨m5, p, m6⟩ | ⟨m5, m6⟩
        · rw [m6]
          exact .inr ⟨m5, p, rfl⟩
        rw [m6]
        exact lay1 (nd := ⟨4, 0, 0, t.text, t.pos⟩) (c := 0) m5
      rw [if_neg c5] at h ⊢
      by_cases c6 : s.hd.kind = 2
      · rw [if_pos c6] at h ⊢
        obtain ⟨⟨t, s1⟩, h1, h⟩ := bindE_ok h
        obtain ⟨m1, m2, m3, m4⟩ := mvS_makes (n0 := n0) (m0 := m0) (d := d) (f0 := f0) (tail := tail) he hk h1 hl
        dsimp only at h
        rcases m4 with ⟨m5, p, m6⟩ | ⟨m5, m6⟩
        · rw [m6]
          refine .inr ⟨?_, p, rfl⟩
          have : s1.made ≤ s'.made := by
            by_cases d1 : t.text = [116, 116]
            · rw [if_pos d1] at h; cases h; exact Nat.le_refl _
            rw [if_neg d1] at h
            by_cases d2 : t.text = [102, 102]
            · rw [if_pos d2] at h; cases h; exact Nat.le_refl _
            rw [if_neg d2] at h
            by_cases d3 : t.text = [109, 117] ∨ t.text = [110, 117]
            · rw [if_pos d3] at h
              by_cases h3 : s1.hd.kind = 3
              · rw [if_pos h3] at h
                obtain ⟨s2, h2, h⟩ := bindE_ok h
                obtain ⟨⟨b, s3⟩, h4, h⟩ := bindE_ok h
                obtain ⟨e1, e2⟩ := needE_ok h2
                have b4 := (pz_bal _ _ _ _ _ _ h4).2.1
                cases h
                rw [e2] at b4
                exact b4
              · rw [if_neg h3] at h; cases h
            · rw [if_neg d3] at h; cases h; exact Nat.le_refl _
          omega
        rw [m6]
        show MvR n0 m0 d f0 tail n s' (if t.text = [116, 116] then _ else _)
        by_cases d1 : t.text = [116, 116]
        · rw [if_pos d1] at h ⊢
          cases h
          exact lay1 (nd := ⟨1, 0, 0, [], t.pos⟩) (c := 0) m5
        rw [if_neg d1] at h ⊢
        by_cases d2 : t.text = [102, 102]
        · rw [show (t.shift d).text = t.text from rfl, if_pos d2]
          rw [if_pos d2] at h
          cases h
          exact lay1 (nd := ⟨2, 0, 0, [], t.pos⟩) (c := 0) m5
        rw [show (t.shift d).text = t.text from rfl, if_neg d2]
        rw [if_neg d2] at h
        by_cases d3 : t.text = [109, 117] ∨ t.text = [110, 117]
        · rw [if_pos d3] at h ⊢
          by_cases h3 : s1.hd.kind = 3
          · rw [if_pos h3] at h
            obtain ⟨s2, h2, h⟩ := bindE_ok h
            obtain ⟨⟨b, s3⟩, h4, h⟩ := bindE_ok h
            obtain ⟨e1, e2⟩ := needE_ok h2
            cases h
            have k1 : s1.hd.kind ≠ 0 := by rw [h3]; decide
            have k2 : s1.adv.hd.kind ≠ 0 := by rw [isS_kind e1]; decide
            have he1 := adv_ends m2 k1
            have he2 : Ends s2.l := by rw [e2]; exact adv_ends he1 k2
            have hs2 : s2.made = s1.made := by rw [e2]; rfl
            dsimp only
            rw [mvS_hd m2 k1, if_pos (show (s1.hd.shift d).kind = 3 from h3), mvS_adv m2 k1]
            unfold needE
            rw [mvS_isS he1 k2, if_pos e1, mvS_adv he1 k2, ← e2]
            show MvR n0 m0 d f0 tail _ _ (bindE (pz j (.row true) 0 (mvS n0 m0 d f0 tail s2)) _)
            refine (ih _ _ 0 _ _ _ h4 he2 (by omega) (fun o' e => by cases e)).bind (Nat.le_refl _) fun h5 => ?_
            have := lay1 (nd := ⟨if t.text = [109, 117] then 10 else 11, b, 0, s1.hd.text, t.pos⟩) (c := 0) h5
            rw [show Nd.mv n0 d ⟨if t.text = [109, 117] then 10 else 11, b, 0, s1.hd.text, t.pos⟩ = ⟨if t.text = [109, 117] then 10 else 11, b + n0, 0, s1.hd.text, (t.shift d).pos⟩ by by_cases q : t.text = [109, 117] <;> simp only [q, if_true, if_false] <;> rfl] at this
            exact this
          · rw [if_neg h3] at h; cases h
        · rw [if_neg d3] at h ⊢
          cases h
          exact lay1 (nd := ⟨3, 0, 0, t.text, t.pos⟩) (c := 0) m5
      · rw [if_neg c6] at h; cases h
end
end Go.Ab.S6
namespace Go.Ab.S6
set_option linter.unusedVariables false
set_option linter.unusedSimpArgs false
theorem takeWhile_stop (p : UInt8 → Bool) (b : UInt8) (r : List UInt8) (hp : p b = false) : ∀ l : List UInt8, (l ++ b :: r).takeWhile p = l.takeWhile p
  | [] => by simp [List.takeWhile_cons, hp]
  | a :: l => by
    rw [List.cons_append, List.takeWhile_cons, List.takeWhile_cons, takeWhile_stop p b r hp l]
theorem longF_stop (c : Int) (l r : List UInt8) (hl : 1 ≤ l.length) : longF c (l ++ 10 :: r) = longF c l := by
  have h1 : (l ++ 10 :: r).drop 1 = l.drop 1 ++ 10 :: r := List.drop_append_of_le_length hl
  unfold longF
  rw [h1, takeWhile_stop digitB 10 r rfl, takeWhile_stop innerB 10 r rfl]
theorem drop_join (a r : List UInt8) {n : Nat} (hn : n ≤ a.length) : (a ++ 10 :: r).drop n = a.drop n ++ 10 :: r := List.drop_append_of_le_length hn
theorem wordF_join (a r : List UInt8) {n : Nat} (c : UInt8) (hn : n < a.length) : wordF (a ++ 10 :: r) n c = wordF a n c := by
  have h2 : (a.drop n).length = a.length - n := List.length_drop
  unfold wordF
  rw [drop_join a r (by omega), longF_stop _ _ _ (by omega), List.take_append_of_le_length (longF_le _ _ (by omega))]
theorem tokF_join (a r : List UInt8) {n : Nat} (c : UInt8) (hn : n < a.length) : tokF (a ++ 10 :: r) n c = tokF a n c := by
  unfold tokF
  rw [wordF_join a r c hn]
theorem remF_join (a r : List UInt8) {n : Nat} (hn : n ≤ a.length) : remF ((a ++ 10 :: r).drop n) = remF (a.drop n) := by
  unfold remF
  rw [drop_join a r hn, takeWhile_stop _ 10 r rfl]
theorem get_join {a : List UInt8} (r : List UInt8) {n : Nat} {c : UInt8} (hc : a[n]? = some c) : (a ++ 10 :: r)[n]? = some c := by
  rw [List.getElem?_append_left (lt_of hc)]; exact hc
theorem Sc.join {a : List UInt8} (r : List UInt8) {n m : Nat} {ts : List Tok} (s : Sc a n ts m) : Sc (a ++ 10 :: r) n ts m := by
  induction s with
  | nil h => exact .nil (by rw [List.length_append]; omega)
  | blank hc hb s ih => exact .blank (get_join r hc) hb ih
  | rem hc hb hr s ih =>
    refine .rem (get_join r hc) hb hr ?_
    rw [remF_join a r (by have := lt_of hc; omega)]
    exact ih
  | tok hc hb hr he s ih =>
    rename_i c
    have e1 := tokF_join a r c (lt_of hc)
    rw [← e1]
    refine .tok (get_join r hc) hb hr (by rw [e1]; exact he) ?_
    rw [wordF_join a r c (lt_of hc)]
    exact ih
theorem Bad.join {a : List UInt8} (r : List UInt8) {m : Nat} {e : Int} (b : Bad a m e) : Bad (a ++ 10 :: r) m e := by
  obtain ⟨⟨c, hc, hb, hr, he⟩, hne⟩ := b
  exact ⟨⟨c, get_join r hc, hb, hr, by rw [tokF_join a r c (lt_of hc)]; exact he⟩, hne⟩
theorem get_behind (p : List UInt8) {b : List UInt8} {n : Nat} {c : UInt8} (hc : b[n]? = some c) : (p ++ b)[p.length + n]? = some c := by
  rw [List.getElem?_append_right (by omega), Nat.add_sub_cancel_left]; exact hc
theorem drop_behind (p b : List UInt8) (n : Nat) : (p ++ b).drop (p.length + n) = b.drop n := by
  rw [List.drop_append]
  simp
theorem wordF_behind (p b : List UInt8) (n : Nat) (c : UInt8) : wordF (p ++ b) (p.length + n) c = wordF b n c := by
  unfold wordF
  rw [drop_behind]
theorem tokF_behind (p b : List UInt8) (n : Nat) (c : UInt8) : tokF (p ++ b) (p.length + n) c = (Tok.shift p.length (tokF b n c).1, (tokF b n c).2) := by
  unfold tokF
  rw [wordF_behind]
  have e : (((p.length + n : Nat) : Int)) = (n : Int) + (p.length : Int) := by omega
  rw [e]
  split
  · rfl
  · split
    · rfl
    · split
      · split <;> rfl
      · rfl
theorem Sc.behind (p : List UInt8) {b : List UInt8} {n m : Nat} {ts : List Tok} (s : Sc b n ts m) : Sc (p ++ b) (p.length + n) (ts.map (Tok.shift p.length)) (p.length + m) := by
  induction s with
  | nil h => exact .nil (by rw [List.length_append]; omega)
  | blank hc hb s ih => exact .blank (get_behind p hc) hb ih
  | rem hc hb hr s ih =>
    refine .rem (get_behind p hc) hb hr ?_
    rw [drop_behind, Nat.add_assoc]
    exact ih
  | tok hc hb hr he s ih =>
    rename_i n' m' ts' c
    have e1 := tokF_behind p b n' c
    have e2 : Tok.shift p.length (tokF b n' c).1 = (tokF (p ++ b) (p.length + n') c).1 := by rw [e1]
    rw [List.map_cons, e2]
    refine .tok (get_behind p hc) hb hr (by rw [e1]; exact he) ?_
    rw [wordF_behind, Nat.add_assoc]
    exact ih
theorem Bad.behind (p : List UInt8) {b : List UInt8} {m : Nat} {e : Int} (x : Bad b m e) : Bad (p ++ b) (p.length + m) e := by
  obtain ⟨⟨c, hc, hb, hr, he⟩, hne⟩ := x
  exact ⟨⟨c, get_behind p hc, hb, hr, by rw [tokF_behind]; exact he⟩, hne⟩
theorem Sc.trans {t : List UInt8} {n m q : Nat} {a b : List Tok} (s : Sc t n a m) (r : Sc t m b q) : Sc t n (a ++ b) q := by
  induction s with
  | nil h => exact r
  | blank hc hb s ih => exact .blank hc hb (ih r)
  | rem hc hb hr s ih => exact .rem hc hb hr (ih r)
  | tok hc hb hr he s ih => exact .tok hc hb hr he (ih r)
theorem Sc.okF {text : List UInt8} {ts : List Tok} (s : Sc text 0 ts text.length) (hl : text.length ≤ 262144) : scanF text = .ok (ts ++ [⟨0, (text.length : Nat), [], 0⟩]) := by
  have := s.scan hl
  rw [List.take_length] at this
  exact this
theorem Sc.line (a r : List UInt8) : Sc (a ++ 10 :: r) a.length [⟨1, a.length, [10], 0⟩] (a.length + 1) := by
  have hc : (a ++ 10 :: r)[a.length]? = some 10 := by simp
  have hw : wordF (a ++ 10 :: r) a.length 10 = [10] := by
    unfold wordF
    rw [drop_join a r (Nat.le_refl _)]
    simp [longF, kindF]
  have ht : tokF (a ++ 10 :: r) a.length 10 = (⟨1, a.length, [10], 0⟩, 0) := by
    unfold tokF
    rw [hw]
    rfl
  have := Sc.tok (text := a ++ 10 :: r) (n := a.length) (m := a.length + 1) (ts := []) hc rfl rfl (by rw [ht]) (by
    rw [hw]
    exact .nil (by simp))
  rw [ht] at this
  exact this
theorem takeWhile_self (p : UInt8 → Bool) : ∀ l : List UInt8, (∀ b ∈ l, p b = true) → l.takeWhile p = l
  | [], _ => rfl
  | a :: l, h => by
    rw [List.takeWhile_cons, h a List.mem_cons_self, if_pos rfl, takeWhile_self p l (fun b hb => h b (List.mem_cons_of_mem _ hb))]
theorem get_at (p : List UInt8) (c : UInt8) (r : List UInt8) : (p ++ c :: r)[p.length]? = some c := by simp
theorem drop_at (p r : List UInt8) : (p ++ r).drop p.length = r := by simp
theorem Sc.space (p r : List UInt8) : Sc (p ++ 32 :: r) p.length [] (p.length + 1) :=
  .blank (get_at p 32 r) rfl (.nil (by simp))
theorem Sc.sign (p : List UInt8) (c : UInt8) (r : List UInt8) (hk : kindF c.toNat = 5) (h35 : (c.toNat : Int) ≠ 35) : Sc (p ++ c :: r) p.length [⟨5, p.length, [c], 0⟩] (p.length + 1) := by
  have hw : wordF (p ++ c :: r) p.length c = [c] := by
    unfold wordF
    rw [drop_at, hk]
    simp [longF]
  have ht : tokF (p ++ c :: r) p.length c = (⟨5, p.length, [c], 0⟩, 0) := by
    unfold tokF
    rw [hw, hk]
    rfl
  have hb : blankB c = false := by
    have h1 : (c.toNat : Int) ≠ 32 := by intro h; rw [h] at hk; revert hk; decide
    have h2 : (c.toNat : Int) ≠ 9 := by intro h; rw [h] at hk; revert hk; decide
    unfold blankB
    rw [decide_eq_false h1, decide_eq_false h2]; rfl
  have := Sc.tok (text := p ++ c :: r) (n := p.length) (m := p.length + 1) (ts := []) (get_at p c r) hb (decide_eq_false h35) (by rw [ht]) (by
    rw [hw]
    exact .nil (by simp))
  rw [ht] at this
  exact this
theorem Sc.name (p : List UInt8) (c : UInt8) (w r : List UInt8) {kd : Int} (hk : kindF c.toNat = kd) (hkd : kd = 2 ∨ kd = 3) (hw : ∀ b ∈ w, innerB b = true) (hl : w.length < 8) (hr : ∀ b s, r = b :: s → innerB b = false) :
    Sc (p ++ ((c :: w) ++ r)) p.length [⟨kd, p.length, c :: w, 0⟩] (p.length + (c :: w).length) := by
  have hg : (p ++ ((c :: w) ++ r))[p.length]? = some c := by simp
  have htw : (w ++ r).takeWhile innerB = w := by
    cases r with
    | nil =>
      rw [List.append_nil]
      exact takeWhile_self innerB w hw
    | cons b s =>
      rw [takeWhile_stop innerB b s (hr b s rfl)]
      exact takeWhile_self innerB w hw
  have hword : wordF (p ++ ((c :: w) ++ r)) p.length c = c :: w := by
    unfold wordF
    rw [drop_at, hk]
    unfold longF
    rw [if_neg (by omega), if_pos hkd]
    rw [List.cons_append, List.drop_succ_cons, List.drop_zero, htw, Nat.add_comm, List.take_succ_cons, List.take_left]
  have ht : tokF (p ++ ((c :: w) ++ r)) p.length c = (⟨kd, p.length, c :: w, 0⟩, 0) := by
    unfold tokF
    rw [hword, hk, if_neg (by omega), if_pos hkd, if_neg (by simp only [List.length_cons]; omega)]
  have hb : blankB c = false := by
    have h1 : (c.toNat : Int) ≠ 32 := by intro h; rw [h] at hk; revert hk; rcases hkd with rfl | rfl <;> decide
    have h2 : (c.toNat : Int) ≠ 9 := by intro h; rw [h] at hk; revert hk; rcases hkd with rfl | rfl <;> decide
    unfold blankB
    rw [decide_eq_false h1, decide_eq_false h2]; rfl
  have hm : remarkB c = false := by
    have h1 : (c.toNat : Int) ≠ 35 := by intro h; rw [h] at hk; revert hk; rcases hkd with rfl | rfl <;> decide
    exact decide_eq_false h1
  have := Sc.tok (text := p ++ ((c :: w) ++ r)) (n := p.length) (m := p.length + (c :: w).length) (ts := []) hg hb hm (by rw [ht]) (by
    rw [hword]
    exact .nil (by simp))
  rw [ht] at this
  exact this
end Go.Ab.S6
namespace Go.Ab.S6
set_option linter.unusedVariables false
set_option linter.unusedSimpArgs false
abbrev Call := Rl → Int → St → Except Er (Int × St)
def pzB (F : Call) : Call
  | .row o, _, s => bindE (F (oneO o) 0 s) fun x => F (.loop o) x.1 x.2
  | .loop o, a, s =>
    if isS (signO o) s = true then
      bindE (makesE s) fun x => bindE (F (oneO o) 0 x.2) fun y => F (.loop o) (layE ⟨kindO o, a, y.1, [], x.1.pos⟩ y.2).1 (layE ⟨kindO o, a, y.1, [], x.1.pos⟩ y.2).2
    else .ok (a, s)
  | .un, _, s =>
    if isS [126] s = true then bindE (makesE s) fun x => bindE (F .un 0 x.2) fun y => .ok (layE ⟨5, y.1, 0, [], x.1.pos⟩ y.2)
    else if isS [60] s = true then bindE (makesE s) fun x => bindE (stepE [62] x.2) fun z => bindE (F .un 0 z.2) fun y => .ok (layE ⟨8, y.1, 0, z.1, x.1.pos⟩ y.2)
    else if isS [91] s = true then bindE (makesE s) fun x => bindE (stepE [93] x.2) fun z => bindE (F .un 0 z.2) fun y => .ok (layE ⟨9, y.1, 0, z.1, x.1.pos⟩ y.2)
    else if isS [40] s = true then bindE (F (.row true) 0 s.adv) fun y => bindE (needE [41] y.2) fun z => .ok (y.1, z)
    else if s.hd.kind = 3 then bindE (makesE s) fun x => .ok (layE ⟨4, 0, 0, x.1.text, x.1.pos⟩ x.2)
    else if s.hd.kind = 2 then bindE (makesE s) fun x =>
      if x.1.text = [116, 116] then .ok (layE ⟨1, 0, 0, [], x.1.pos⟩ x.2)
      else if x.1.text = [102, 102] then .ok (layE ⟨2, 0, 0, [], x.1.pos⟩ x.2)
      else if x.1.text = [109, 117] ∨ x.1.text = [110, 117] then
        (if x.2.hd.kind = 3 then bindE (needE [46] x.2.adv) fun z => bindE (F (.row true) 0 z) fun y => .ok (layE ⟨if x.1.text = [109, 117] then 10 else 11, y.1, 0, x.2.hd.text, x.1.pos⟩ y.2) else .error (wrongE x.2))
      else .ok (layE ⟨3, 0, 0, x.1.text, x.1.pos⟩ x.2)
    else .error (wrongE s)
theorem pz_B (j : Nat) (r : Rl) (a : Int) (s : St) : pz (j + 1) r a s = pzB (pz j) r a s := by
  cases r <;> rw [pz] <;> rfl
def Mo {β : Type} (x x' : Except Er β) : Prop := (∃ e, x = .error e ∧ e.2 = 0) ∨ x' = x
theorem Mo.rfl' {β : Type} (x : Except Er β) : Mo x x := .inr rfl
theorem Mo.bind {β γ : Type} {x x' : Except Er β} {f f' : β → Except Er γ} (h : Mo x x') (hf : ∀ b, Mo (f b) (f' b)) : Mo (bindE x f) (bindE x' f') := by
  rcases h with ⟨e, rfl, h⟩ | rfl
  · exact .inl ⟨e, rfl, h⟩
  · cases x' with
    | error e => exact .inr rfl
    | ok b => exact hf b
theorem Mo.ite {β : Type} {p : Prop} [Decidable p] {x x' y y' : Except Er β} (h : Mo x x') (h' : Mo y y') : Mo (if p then x else y) (if p then x' else y') := by
  by_cases hp : p
  · rw [if_pos hp, if_pos hp]; exact h
  · rw [if_neg hp, if_neg hp]; exact h'
theorem pzB_mo {F F' : Call} (h : ∀ r a s, Mo (F r a s) (F' r a s)) (r : Rl) (a : Int) (s : St) : Mo (pzB F r a s) (pzB F' r a s) := by
  have b1 := fun {β γ : Type} {x x' : Except Er β} {f f' : β → Except Er γ} => @Mo.bind β γ x x' f f'
  cases r with
  | row o => exact (h _ _ _).bind fun b => h _ _ _
  | loop o => exact .ite ((Mo.rfl' _).bind fun b => (h _ _ _).bind fun c => h _ _ _) (Mo.rfl' _)
  | un =>
    refine .ite ((Mo.rfl' _).bind fun b => (h _ _ _).bind fun c => Mo.rfl' _) (.ite ((Mo.rfl' _).bind fun b => (Mo.rfl' _).bind fun z => (h _ _ _).bind fun c => Mo.rfl' _) (.ite ((Mo.rfl' _).bind fun b => (Mo.rfl' _).bind fun z => (h _ _ _).bind fun c => Mo.rfl' _) (.ite ((h _ _ _).bind fun c => Mo.rfl' _) (.ite (Mo.rfl' _) (.ite ((Mo.rfl' _).bind fun b => ?_) (Mo.rfl' _))))))
    exact .ite (Mo.rfl' _) (.ite (Mo.rfl' _) (.ite (.ite ((Mo.rfl' _).bind fun z => (h _ _ _).bind fun c => Mo.rfl' _) (Mo.rfl' _)) (Mo.rfl' _)))
theorem pz_more : ∀ (j : Nat) (r : Rl) (a : Int) (s : St), Mo (pz j r a s) (pz (j + 1) r a s)
  | 0, r, a, s => .inl ⟨(0, 0), by rw [pz], rfl⟩
  | j + 1, r, a, s => by
    rw [pz_B, pz_B]
    exact pzB_mo (pz_more j) r a s
theorem pz_le {j i : Nat} (hi : j ≤ i) {r : Rl} {a : Int} {s : St} {x : Except Er (Int × St)} (h : pz j r a s = x) (hx : ∀ e, x = .error e → e.2 ≠ 0) : pz i r a s = x := by
  induction hi with
  | refl => exact h
  | step _ ih =>
    rcases pz_more _ r a s with ⟨e, h1, h2⟩ | h1
    · rw [ih] at h1
      exact absurd h2 (hx e h1)
    · rw [h1, ih]
def Ok (r : Rl) (a : Int) (s : St) (y : Int × St) : Prop := ∃ j, ∀ i, j ≤ i → pz i r a s = .ok y
def Fl (r : Rl) (a : Int) (s : St) (e : Er) : Prop := ∃ j, ∀ i, j ≤ i → pz i r a s = .error e
theorem Ok.of {j : Nat} {r : Rl} {a : Int} {s : St} {y : Int × St} (h : pz j r a s = .ok y) : Ok r a s y := ⟨j, fun i hi => pz_le hi h fun e he => by cases he⟩
theorem Fl.of {j : Nat} {r : Rl} {a : Int} {s : St} {e : Er} (h : pz j r a s = .error e) (he : e.2 ≠ 0) : Fl r a s e := ⟨j, fun i hi => pz_le hi h fun e' h' => by cases h'; exact he⟩
theorem Ok.one {r : Rl} {a : Int} {s : St} {y : Int × St} (h : Ok r a s y) : ∃ j, pz j r a s = .ok y := by
  obtain ⟨j, h⟩ := h
  exact ⟨j, h j (Nat.le_refl _)⟩
theorem Ok.step {r : Rl} {a : Int} {s : St} {y : Int × St} (h : ∃ j, ∀ i, j ≤ i → pzB (pz i) r a s = .ok y) : Ok r a s y := by
  obtain ⟨j, h⟩ := h
  refine ⟨j + 1, fun i hi => ?_⟩
  obtain ⟨i, rfl⟩ : ∃ q, i = q + 1 := ⟨i - 1, by omega⟩
  rw [pz_B]
  exact h i (by omega)
theorem Fl.step {r : Rl} {a : Int} {s : St} {y : Er} (h : ∃ j, ∀ i, j ≤ i → pzB (pz i) r a s = .error y) : Fl r a s y := by
  obtain ⟨j, h⟩ := h
  refine ⟨j + 1, fun i hi => ?_⟩
  obtain ⟨i, rfl⟩ : ∃ q, i = q + 1 := ⟨i - 1, by omega⟩
  rw [pz_B]
  exact h i (by omega)
section
variable {s s1 s2 s3 : St} {n : Int} {y z : Int × St} {e : Er} {o : Bool} {a : Int}
theorem Ok.row (h1 : Ok (oneO o) 0 s y) (h2 : Ok (.loop o) y.1 y.2 z) : Ok (.row o) a s z := by
  obtain ⟨j1, h1⟩ := h1
  obtain ⟨j2, h2⟩ := h2
  refine .step ⟨max j1 j2, fun i hi => ?_⟩
  show bindE _ _ = _
  rw [h1 i (by omega)]
  exact h2 i (by omega)
theorem Fl.row1 (h1 : Fl (oneO o) 0 s e) : Fl (.row o) a s e := by
  obtain ⟨j1, h1⟩ := h1
  refine .step ⟨j1, fun i hi => ?_⟩
  show bindE _ _ = _
  rw [h1 i (by omega)]
  rfl
theorem Ok.stop (h : isS (signO o) s = false) : Ok (.loop o) a s (a, s) :=
  .step ⟨0, fun i _ => by show (if isS (signO o) s = true then _ else _) = _; rw [if_neg (by rw [h]; decide)]⟩
theorem mk_ok (h : s.made ≠ 60) : makesE s = .ok (s.hd, { s.adv with made := s.made + 1 }) := by unfold makesE; rw [if_neg h]
theorem Ok.go (h : isS (signO o) s = true) (hm : s.made ≠ 60) (h1 : Ok (oneO o) 0 { s.adv with made := s.made + 1 } y) (h2 : Ok (.loop o) (layE ⟨kindO o, a, y.1, [], s.hd.pos⟩ y.2).1 (layE ⟨kindO o, a, y.1, [], s.hd.pos⟩ y.2).2 z) : Ok (.loop o) a s z := by
  obtain ⟨j1, h1⟩ := h1
  obtain ⟨j2, h2⟩ := h2
  refine .step ⟨max j1 j2, fun i hi => ?_⟩
  show (if isS (signO o) s = true then _ else _) = _
  rw [if_pos h, mk_ok hm]
  show bindE (pz i (oneO o) 0 _) _ = _
  rw [h1 i (by omega)]
  exact h2 i (by omega)
theorem Fl.go (h : isS (signO o) s = true) (hm : s.made ≠ 60) (h1 : Fl (oneO o) 0 { s.adv with made := s.made + 1 } e) : Fl (.loop o) a s e := by
  obtain ⟨j1, h1⟩ := h1
  refine .step ⟨j1, fun i hi => ?_⟩
  show (if isS (signO o) s = true then _ else _) = _
  rw [if_pos h, mk_ok hm]
  show bindE (pz i (oneO o) 0 _) _ = _
  rw [h1 i (by omega)]
  rfl
theorem isS_ne {g g' : List UInt8} (h : isS g s = true) (hne : g ≠ g') : isS g' s = false := by
  unfold isS at h ⊢
  rw [Bool.and_eq_true] at h
  have := of_decide_eq_true h.2
  rw [this, dF hne, Bool.and_false]
theorem isS_kind_ne (h : s.hd.kind ≠ 5) (g : List UInt8) : isS g s = false := by
  unfold isS; rw [dF h]; rfl
theorem Ok.par (h : isS [40] s = true) (h1 : Ok (.row true) 0 s.adv y) (h2 : isS [41] y.2 = true) : Ok .un a s (y.1, y.2.adv) := by
  obtain ⟨j1, h1⟩ := h1
  refine .step ⟨j1, fun i hi => ?_⟩
  show (if isS [126] s = true then _ else if isS [60] s = true then _ else if isS [91] s = true then _ else if isS [40] s = true then _ else _) = _
  rw [if_neg (by rw [isS_ne h (by decide)]; decide), if_neg (by rw [isS_ne h (by decide)]; decide), if_neg (by rw [isS_ne h (by decide)]; decide), if_pos h, h1 i (by omega)]
  show bindE (needE [41] y.2) _ = _
  unfold needE
  rw [if_pos h2]
  rfl
theorem Fl.par (h : isS [40] s = true) (h1 : Fl (.row true) 0 s.adv e) : Fl .un a s e := by
  obtain ⟨j1, h1⟩ := h1
  refine .step ⟨j1, fun i hi => ?_⟩
  show (if isS [126] s = true then _ else if isS [60] s = true then _ else if isS [91] s = true then _ else if isS [40] s = true then _ else _) = _
  rw [if_neg (by rw [isS_ne h (by decide)]; decide), if_neg (by rw [isS_ne h (by decide)]; decide), if_neg (by rw [isS_ne h (by decide)]; decide), if_pos h, h1 i (by omega)]
  rfl
theorem Ok.not (h : isS [126] s = true) (hm : s.made ≠ 60) (h1 : Ok .un 0 { s.adv with made := s.made + 1 } y) : Ok .un a s (layE ⟨5, y.1, 0, [], s.hd.pos⟩ y.2) := by
  obtain ⟨j1, h1⟩ := h1
  refine .step ⟨j1, fun i hi => ?_⟩
  show (if isS [126] s = true then _ else _) = _
  rw [if_pos h, mk_ok hm]
  show bindE (pz i .un 0 _) _ = _
  rw [h1 i (by omega)]
  rfl
theorem Fl.not (h : isS [126] s = true) (hm : s.made ≠ 60) (h1 : Fl .un 0 { s.adv with made := s.made + 1 } e) : Fl .un a s e := by
  obtain ⟨j1, h1⟩ := h1
  refine .step ⟨j1, fun i hi => ?_⟩
  show (if isS [126] s = true then _ else _) = _
  rw [if_pos h, mk_ok hm]
  show bindE (pz i .un 0 _) _ = _
  rw [h1 i (by omega)]
  rfl
theorem Ok.modal {k : Int} {g g' x : List UInt8} (hg : (g = [60] ∧ g' = [62] ∧ k = 8) ∨ (g = [91] ∧ g' = [93] ∧ k = 9)) (h : isS g s = true) (hm : s.made ≠ 60) (h1 : stepE g' { s.adv with made := s.made + 1 } = .ok (x, s1)) (h2 : Ok .un 0 s1 y) : Ok .un a s (layE ⟨k, y.1, 0, x, s.hd.pos⟩ y.2) := by
  obtain ⟨j2, h2⟩ := h2
  refine .step ⟨j2, fun i hi => ?_⟩
  rcases hg with ⟨rfl, rfl, rfl⟩ | ⟨rfl, rfl, rfl⟩
  · show (if isS [126] s = true then _ else if isS [60] s = true then _ else _) = _
    rw [if_neg (by rw [isS_ne h (by decide)]; decide), if_pos h, mk_ok hm]
    show bindE (stepE [62] _) _ = _
    rw [h1]
    show bindE (pz i .un 0 s1) _ = _
    rw [h2 i (by omega)]
    rfl
  · show (if isS [126] s = true then _ else if isS [60] s = true then _ else if isS [91] s = true then _ else _) = _
    rw [if_neg (by rw [isS_ne h (by decide)]; decide), if_neg (by rw [isS_ne h (by decide)]; decide), if_pos h, mk_ok hm]
    show bindE (stepE [93] _) _ = _
    rw [h1]
    show bindE (pz i .un 0 s1) _ = _
    rw [h2 i (by omega)]
    rfl
theorem un_kind (h : s.hd.kind ≠ 5) (F : Call) : pzB F .un a s = if s.hd.kind = 3 then bindE (makesE s) fun x => .ok (layE ⟨4, 0, 0, x.1.text, x.1.pos⟩ x.2)
    else if s.hd.kind = 2 then bindE (makesE s) fun x =>
      if x.1.text = [116, 116] then .ok (layE ⟨1, 0, 0, [], x.1.pos⟩ x.2)
      else if x.1.text = [102, 102] then .ok (layE ⟨2, 0, 0, [], x.1.pos⟩ x.2)
      else if x.1.text = [109, 117] ∨ x.1.text = [110, 117] then
        (if x.2.hd.kind = 3 then bindE (needE [46] x.2.adv) fun z => bindE (F (.row true) 0 z) fun y => .ok (layE ⟨if x.1.text = [109, 117] then 10 else 11, y.1, 0, x.2.hd.text, x.1.pos⟩ y.2) else .error (wrongE x.2))
      else .ok (layE ⟨3, 0, 0, x.1.text, x.1.pos⟩ x.2)
    else .error (wrongE s) := by
  unfold pzB
  dsimp only
  rw [isS_kind_ne h, isS_kind_ne h, isS_kind_ne h, isS_kind_ne h]
  simp only [Bool.false_eq_true, if_false]
theorem Ok.var (h : s.hd.kind = 3) (hm : s.made ≠ 60) : Ok .un a s (layE ⟨4, 0, 0, s.hd.text, s.hd.pos⟩ { s.adv with made := s.made + 1 }) :=
  .step ⟨0, fun i hi => by rw [un_kind (by rw [h]; decide), if_pos h, mk_ok hm]; rfl⟩
theorem Ok.leaf (h : s.hd.kind = 2) (hm : s.made ≠ 60) (h3 : s.hd.text ≠ [109, 117] ∧ s.hd.text ≠ [110, 117]) :
    Ok .un a s (layE ⟨if s.hd.text = [116, 116] then 1 else if s.hd.text = [102, 102] then 2 else 3, 0, 0, if s.hd.text = [116, 116] ∨ s.hd.text = [102, 102] then [] else s.hd.text, s.hd.pos⟩ { s.adv with made := s.made + 1 }) := by
  refine .step ⟨0, fun i hi => ?_⟩
  rw [un_kind (by rw [h]; decide), if_neg (by rw [h]; decide), if_pos h, mk_ok hm]
  show (if s.hd.text = [116, 116] then _ else _) = _
  by_cases d1 : s.hd.text = [116, 116]
  · simp only [d1, if_true, true_or]
  · by_cases d2 : s.hd.text = [102, 102]
    · rw [if_neg d1, if_pos d2]
      simp only [d2, if_true, or_true]
      rfl
    · rw [if_neg d1, if_neg d2, if_neg (by rintro (q | q); exact h3.1 q; exact h3.2 q)]
      simp only [d1, d2, if_false, or_self]
theorem Ok.fix (h : s.hd.kind = 2) (hm : s.made ≠ 60) (h3 : s.hd.text = [109, 117] ∨ s.hd.text = [110, 117]) (h4 : s.adv.hd.kind = 3) (h5 : isS [46] s.adv.adv = true) (h6 : Ok (.row true) 0 { s.adv.adv.adv with made := s.made + 1 } y) :
    Ok .un a s (layE ⟨if s.hd.text = [109, 117] then 10 else 11, y.1, 0, s.adv.hd.text, s.hd.pos⟩ y.2) := by
  obtain ⟨j, h6⟩ := h6
  refine .step ⟨j, fun i hi => ?_⟩
  rw [un_kind (by rw [h]; decide), if_neg (by rw [h]; decide), if_pos h, mk_ok hm]
  have d1 : s.hd.text ≠ [116, 116] := by rcases h3 with h3 | h3 <;> rw [h3] <;> decide
  have d2 : s.hd.text ≠ [102, 102] := by rcases h3 with h3 | h3 <;> rw [h3] <;> decide
  show (if s.hd.text = [116, 116] then _ else if s.hd.text = [102, 102] then _ else if s.hd.text = [109, 117] ∨ s.hd.text = [110, 117] then (if s.adv.hd.kind = 3 then _ else _) else _) = _
  rw [if_neg d1, if_neg d2, if_pos h3, if_pos h4]
  unfold needE
  rw [if_pos (show isS [46] (St.adv { s.adv with made := s.made + 1 }) = true from h5)]
  show bindE (pz i (.row true) 0 { s.adv.adv.adv with made := s.made + 1 }) _ = _
  rw [h6 i (by omega)]
  rfl
end
theorem cost_le (l : List Tok) : cost (.row true) l.length ≤ 3 * l.length + 10 := by simp [cost]
theorem parse_ok {l : List Tok} (he : Ends l) {n : Int} {s' : St} (h : Ok (.row true) 0 ⟨l, 0, []⟩ (n, s')) : parseE l = if s'.hd.kind = 0 then .ok s'.f else .error (wrongE s') := by
  obtain ⟨j, h⟩ := h
  have : pz (3 * l.length + 10) (.row true) 0 ⟨l, 0, []⟩ = .ok (n, s') := by
    cases hx : pz (3 * l.length + 10) (.row true) 0 ⟨l, 0, []⟩ with
    | error e =>
      have he2 := pz_fuel _ _ _ ⟨l, 0, []⟩ _ he (cost_le l) hx
      have h1 := pz_le (i := max j (3 * l.length + 10)) (Nat.le_max_right _ _) hx fun e' h' => by cases h'; exact he2
      rw [h _ (Nat.le_max_left _ _)] at h1
      cases h1
    | ok y =>
      have h1 := pz_le (i := max j (3 * l.length + 10)) (Nat.le_max_right _ _) hx fun e' h' => by cases h'
      rw [h _ (Nat.le_max_left _ _)] at h1
      exact h1.symm
  unfold parseE
  rw [this]
  rfl
theorem parse_fl {l : List Tok} (he : Ends l) {e : Er} (h : Fl (.row true) 0 ⟨l, 0, []⟩ e) : parseE l = .error e := by
  obtain ⟨j, h⟩ := h
  have : pz (3 * l.length + 10) (.row true) 0 ⟨l, 0, []⟩ = .error e := by
    cases hx : pz (3 * l.length + 10) (.row true) 0 ⟨l, 0, []⟩ with
    | error e' =>
      have he2 := pz_fuel _ _ _ ⟨l, 0, []⟩ _ he (cost_le l) hx
      have h1 := pz_le (i := max j (3 * l.length + 10)) (Nat.le_max_right _ _) hx fun e' h' => by cases h'; exact he2
      rw [h _ (Nat.le_max_left _ _)] at h1
      exact h1.symm
    | ok y =>
      have h1 := pz_le (i := max j (3 * l.length + 10)) (Nat.le_max_right _ _) hx fun e' h' => by cases h'
      rw [h _ (Nat.le_max_left _ _)] at h1
      cases h1
  unfold parseE
  rw [this]
  rfl
theorem parse_inv {l : List Tok} {F : List Nd} (h : parseE l = .ok F) : ∃ n s', Ok (.row true) 0 ⟨l, 0, []⟩ (n, s') ∧ s'.hd.kind = 0 ∧ s'.f = F := by
  unfold parseE at h
  obtain ⟨⟨n, s'⟩, h1, h2⟩ := bindE_ok h
  dsimp only at h2
  split at h2
  · rename_i hk
    cases h2
    exact ⟨n, s', .of h1, hk, rfl⟩
  · cases h2
end Go.Ab.S6
namespace Go.Ab.S6
set_option linter.unusedVariables false
set_option linter.unusedSimpArgs false
def Tr.at (P : Int → Prop) : Tr → Prop
  | .leaf _ _ p => P p
  | .un _ _ p a => P p ∧ a.at P
  | .bin _ _ p a b => P p ∧ a.at P ∧ b.at P
structure TokOk (P : Int → Prop) (t : Tok) : Prop where
  pos : P t.pos
  nm : t.kind = 2 → speltF 97 122 t.text = true
  vr : t.kind = 3 → varF t.text = true
def LaidT (base : List Nd) (P : Int → Prop) (f : List Nd) (n : Int) : Prop := ∃ t : Tr, t.ok = true ∧ t.at P ∧ f = base ++ t.flat base.length ∧ n = ((base.length + t.size - 1 : Nat) : Int)
theorem TokOk.hd {P : Int → Prop} {s : St} (he : Ends s.l) (h : ∀ t ∈ s.l, TokOk P t) : TokOk P s.hd := by
  obtain ⟨t, r, hl⟩ := he.ne
  unfold St.hd
  rw [hl] at h ⊢
  exact h t List.mem_cons_self
theorem TokOk.adv {P : Int → Prop} {s : St} (h : ∀ t ∈ s.l, TokOk P t) : ∀ t ∈ s.adv.l, TokOk P t := fun t ht => h t (List.mem_of_mem_tail ht)
theorem pz_tree {P : Int → Prop} : ∀ (j : Nat) (r : Rl) (a : Int) (s : St) (n : Int) (s' : St), pz j r a s = .ok (n, s') → Ends s.l → (∀ t ∈ s.l, TokOk P t) →
    (∀ t ∈ s'.l, TokOk P t) ∧ match r with
    | .loop _ => ∀ base, LaidT base P s.f a → LaidT base P s'.f n
    | _ => LaidT s.f P s'.f n := by
  intro j
  induction j with
  | zero => intro r a s n s' h; cases h
  | succ j ih =>
    intro r a s n s' h he hP
    have hok := TokOk.hd he hP
    have lay0 : ∀ {k : Int} {w : List UInt8} {s1 : St} {t : Tok}, makesE s = .ok (t, s1) → arF k = 0 → namedF k w = true → layE ⟨k, 0, 0, w, t.pos⟩ s1 = (n, s') → (∀ t ∈ s'.l, TokOk P t) ∧ LaidT s.f P s'.f n := by
      intro k w s1 t hm h1 h2 h
      obtain ⟨_, rfl, rfl⟩ := makesE_ok hm
      unfold layE at h
      cases h
      refine ⟨TokOk.adv hP, .leaf k w s.hd.pos, ?_, hok.pos, rfl, rfl⟩
      simp [Tr.ok, h1, h2]
    have lay1 : ∀ {k : Int} {w : List UInt8} {s1 s2 : St} {t : Tok} {b : Int}, makesE s = .ok (t, s1) → s1.f = s.f → arF k = 1 → namedF k w = true → (∀ t ∈ s2.l, TokOk P t) → LaidT s.f P s2.f b → layE ⟨k, b, 0, w, t.pos⟩ s2 = (n, s') → (∀ t ∈ s'.l, TokOk P t) ∧ LaidT s.f P s'.f n := by
      intro k w s1 s2 t b hm _ h1 h2 hp2 ⟨tr, q1, q2, q3, q4⟩ h
      obtain ⟨_, rfl, rfl⟩ := makesE_ok hm
      unfold layE at h
      cases h
      refine ⟨hp2, .un k w s.hd.pos tr, ?_, ⟨hok.pos, q2⟩, ?_, ?_⟩
      · simp [Tr.ok, h1, h2, q1]
      · simp only [q3, Tr.flat, Tr.node, q4, List.append_assoc]
      · rw [q3, List.length_append, flat_length]
        simp only [Tr.size]
        omega
    rw [pz_B] at h
    cases r with
    | row o =>
      have h : bindE (pz j (oneO o) 0 s) (fun x => pz j (.loop o) x.1 x.2) = .ok (n, s') := h
      obtain ⟨⟨m, s1⟩, h1, h2⟩ := bindE_ok h
      have b1 := pz_bal _ _ _ _ _ _ h1
      obtain ⟨p1, l1⟩ := ih _ _ _ _ _ h1 he hP
      have l1 : LaidT s.f P s1.f m := by cases o <;> exact l1
      obtain ⟨p2, l2⟩ := ih _ _ _ _ _ h2 (b1.2.2.2.1 he) p1
      exact ⟨p2, l2 _ l1⟩
    | loop o =>
      unfold pzB at h
      dsimp only at h
      by_cases hs : isS (signO o) s = true
      · rw [if_pos hs] at h
        obtain ⟨⟨t, s1⟩, h1, h⟩ := bindE_ok h
        obtain ⟨⟨b, s2⟩, h2, h⟩ := bindE_ok h
        have hk : s.hd.kind ≠ 0 := by rw [isS_kind hs]; decide
        obtain ⟨h60, rfl, rfl⟩ := makesE_ok h1
        have he1 := adv_ends he hk
        have b2 := pz_bal _ _ _ _ _ _ h2
        obtain ⟨p2, l2⟩ := ih _ _ _ _ _ h2 he1 (TokOk.adv hP)
        have l2 : LaidT s.f P s2.f b := by cases o <;> exact l2
        obtain ⟨p3, l3⟩ := ih _ _ _ _ _ h (by simp only [layE]; exact b2.2.2.2.1 he1) (by simp only [layE]; exact p2)
        refine ⟨p3, fun base ⟨ta, a1, a2, a3, a4⟩ => l3 base ?_⟩
        obtain ⟨tb, c1, c2, c3, c4⟩ := l2
        have hsl : s.f.length = base.length + ta.size := by rw [a3, List.length_append, flat_length]
        refine ⟨.bin (kindO o) [] s.hd.pos ta tb, ?_, ⟨hok.pos, a2, c2⟩, ?_, ?_⟩
        · cases o <;> simp [Tr.ok, a1, c1, kindO] <;> decide
        · simp only [layE, Tr.flat, Tr.node]
          rw [c3, hsl, a3, c4, hsl, a4]
          simp only [List.append_assoc]
        · simp only [layE]
          rw [c3, List.length_append, flat_length, hsl]
          simp only [Tr.size]
          omega
      · rw [if_neg hs] at h
        cases h
        exact ⟨hP, fun base hb => hb⟩
    | un =>
      show (∀ t ∈ s'.l, TokOk P t) ∧ LaidT s.f P s'.f n
      unfold pzB at h
      dsimp only at h
      have steps : ∀ (k : Int) (shut : List UInt8), arF k = 1 → (∀ w, namedF k w = (decide (w = [45]) || nameF w)) → s.hd.kind ≠ 0 → bindE (makesE s) (fun x => bindE (stepE shut x.2) fun z => bindE (pz j .un 0 z.2) fun y => .ok (layE ⟨k, y.1, 0, z.1, x.1.pos⟩ y.2)) = .ok (n, s') → (∀ t ∈ s'.l, TokOk P t) ∧ LaidT s.f P s'.f n := by
        intro k shut hark hnam hk h
        obtain ⟨⟨t, s1⟩, h1, h⟩ := bindE_ok h
        obtain ⟨⟨x, s2⟩, h2, h⟩ := bindE_ok h
        obtain ⟨⟨b, s3⟩, h3, h⟩ := bindE_ok h
        obtain ⟨c1, c2, c3, c4⟩ := stepE_ok h2
        obtain ⟨h60, ht, hs1⟩ := makesE_ok h1
        dsimp only at c1 c2 c3 c4 h3
        have he1 : Ends s1.l := by rw [hs1]; exact adv_ends he hk
        have hP1 : ∀ t ∈ s1.l, TokOk P t := by rw [hs1]; exact TokOk.adv hP
        have k1 : s1.hd.kind ≠ 0 := by
          rcases c1 with c1 | c1
          · rw [isS_kind c1]; decide
          · rw [c1.1]; decide
        have k2 : s1.adv.hd.kind ≠ 0 := by rw [isS_kind c3]; decide
        have he2 := adv_ends (adv_ends he1 k1) k2
        have hnm : namedF k x = true := by
          rw [hnam, c2]
          rcases c1 with c1 | c1
          · unfold isS at c1
            rw [Bool.and_eq_true] at c1
            rw [c1.2]; rfl
          · have := (TokOk.hd he1 hP1).nm c1.1
            unfold nameF
            rw [this, c1.2]; simp
        obtain ⟨p3, l3⟩ := ih _ _ _ _ _ h3 (by rw [c4]; exact he2) (by rw [c4]; exact TokOk.adv (TokOk.adv hP1))
        have e2 : s2.f = s.f := by rw [c4]; show s1.f = s.f; rw [hs1]; rfl
        have l3 : LaidT s2.f P s3.f b := l3
        rw [e2] at l3
        exact lay1 h1 (by rw [hs1]; rfl) hark hnm p3 l3 (Except.ok.inj h)
      by_cases c1 : isS [126] s = true
      · rw [if_pos c1] at h
        have hk : s.hd.kind ≠ 0 := by rw [isS_kind c1]; decide
        obtain ⟨⟨t, s1⟩, h1, h⟩ := bindE_ok h
        obtain ⟨⟨b, s2⟩, h2, h⟩ := bindE_ok h
        obtain ⟨h60, ht, hs1⟩ := makesE_ok h1
        obtain ⟨p3, l3⟩ := ih _ _ _ _ _ h2 (by rw [hs1]; exact adv_ends he hk) (by rw [hs1]; exact TokOk.adv hP)
        have e2 : s1.f = s.f := by rw [hs1]; rfl
        have l3 : LaidT s1.f P s2.f b := l3
        rw [e2] at l3
        exact lay1 h1 e2 (by decide) (by decide) p3 l3 (Except.ok.inj h)
      rw [if_neg c1] at h
      by_cases c2 : isS [60] s = true
      · rw [if_pos c2] at h
        exact steps 8 [62] (by decide) (fun w => rfl) (by rw [isS_kind c2]; decide) h
      rw [if_neg c2] at h
      by_cases c3 : isS [91] s = true
      · rw [if_pos c3] at h
        exact steps 9 [93] (by decide) (fun w => rfl) (by rw [isS_kind c3]; decide) h
      rw [if_neg c3] at h
      by_cases c4 : isS [40] s = true
      · rw [if_pos c4] at h
        obtain ⟨⟨b, s1⟩, h1, h⟩ := bindE_ok h
        obtain ⟨s2, h2, h⟩ := bindE_ok h
        obtain ⟨d1, d2⟩ := needE_ok h2
        obtain ⟨p1, l1⟩ := ih _ _ _ _ _ h1 (adv_ends he (by rw [isS_kind c4]; decide)) (TokOk.adv hP)
        cases h
        rw [d2]
        exact ⟨TokOk.adv p1, l1⟩
      rw [if_neg c4] at h
      by_cases c5 : s.hd.kind = 3
      · rw [if_pos c5] at h
        obtain ⟨⟨t, s1⟩, h1, h⟩ := bindE_ok h
        obtain ⟨h60, ht, hs1⟩ := makesE_ok h1
        exact lay0 h1 (k := 4) (w := t.text) (by decide) (by rw [ht]; exact hok.vr c5) (Except.ok.inj h)
      rw [if_neg c5] at h
      by_cases c6 : s.hd.kind = 2
      · rw [if_pos c6] at h
        obtain ⟨⟨t, s1⟩, h1, h⟩ := bindE_ok h
        obtain ⟨h60, ht, hs1⟩ := makesE_ok h1
        dsimp only at h
        by_cases d1 : t.text = [116, 116]
        · rw [if_pos d1] at h
          exact lay0 h1 (k := 1) (w := []) (by decide) (by decide) (Except.ok.inj h)
        rw [if_neg d1] at h
        by_cases d2 : t.text = [102, 102]
        · rw [if_pos d2] at h
          exact lay0 h1 (k := 2) (w := []) (by decide) (by decide) (Except.ok.inj h)
        rw [if_neg d2] at h
        by_cases d3 : t.text = [109, 117] ∨ t.text = [110, 117]
        · rw [if_pos d3] at h
          by_cases h3 : s1.hd.kind = 3
          · rw [if_pos h3] at h
            obtain ⟨s2, h2, h⟩ := bindE_ok h
            obtain ⟨⟨b, s3⟩, h4, h⟩ := bindE_ok h
            obtain ⟨e1, e2⟩ := needE_ok h2
            have hk : s.hd.kind ≠ 0 := by rw [c6]; decide
            have he1 : Ends s1.l := by rw [hs1]; exact adv_ends he hk
            have hP1 : ∀ t ∈ s1.l, TokOk P t := by rw [hs1]; exact TokOk.adv hP
            have k1 : s1.hd.kind ≠ 0 := by rw [h3]; decide
            have k2 : s1.adv.hd.kind ≠ 0 := by rw [isS_kind e1]; decide
            obtain ⟨p3, l3⟩ := ih _ _ _ _ _ h4 (by rw [e2]; exact adv_ends (adv_ends he1 k1) k2) (by rw [e2]; exact TokOk.adv (TokOk.adv hP1))
            have e3 : s2.f = s.f := by rw [e2]; show s1.f = s.f; rw [hs1]; rfl
            have l3 : LaidT s2.f P s3.f b := l3
            rw [e3] at l3
            have hv := (TokOk.hd he1 hP1).vr h3
            exact lay1 h1 (by rw [hs1]; rfl) (k := if t.text = [109, 117] then 10 else 11) (w := s1.hd.text) (by split <;> decide) (by split <;> exact hv) p3 l3 (Except.ok.inj h)
          · rw [if_neg h3] at h; cases h
        · rw [if_neg d3] at h
          refine lay0 h1 (k := 3) (w := t.text) (by decide) ?_ (Except.ok.inj h)
          have hn := hok.nm c6
          rw [← ht] at hn
          show nameF t.text = true
          unfold nameF wordsF
          have d3 : ¬ t.text = [109, 117] ∧ ¬ t.text = [110, 117] := ⟨fun q => d3 (.inl q), fun q => d3 (.inr q)⟩
          rw [hn, dF d1, dF d2, dF d3.1, dF d3.2]
          rfl
      · rw [if_neg c6] at h; cases h
theorem tok_ok {text : List UInt8} {n : Nat} {c : UInt8} (hc : text[n]? = some c) (he : (tokF text n c).2 = 0) : TokOk (fun p => 0 ≤ p ∧ p ≤ text.length) (tokF text n c).1 := by
  have hlt := lt_of hc
  have hpos := tokF_pos text n c
  refine ⟨by rw [hpos]; constructor <;> omega, fun hk => ?_, fun hk => ?_⟩
  all_goals
    rw [tokF_text]
    unfold tokF at he hk
    by_cases h0 : kindF c.toNat = 0
    · rw [if_pos h0] at hk
      have hk : (0 : Int) = _ := hk
      exact absurd hk (by decide)
    rw [if_neg h0] at he hk
    by_cases h2 : kindF c.toNat = 2 ∨ kindF c.toNat = 3
    · rw [if_pos h2] at he hk
      have hk' : kindF c.toNat = _ := hk
      have hlen : ¬ 8 < (wordF text n c).length := by
        intro hh
        have he : (if 8 < (wordF text n c).length then (5 : Int) else 0) = 0 := he
        rw [if_pos hh] at he
        exact absurd he (by decide)
      have hw : wordF text n c = c :: (text.drop (n + 1)).takeWhile innerB := by
        unfold wordF longF
        rw [word_cons hc, if_neg (by omega), if_pos h2, List.drop_succ_cons, List.drop_zero, Nat.add_comm, List.take_succ_cons, take_while]
      rw [hw] at hlen ⊢
      have hall : ((text.drop (n + 1)).takeWhile innerB).all innerB = true := List.all_eq_true.2 (takeWhile_all innerB _)
      simp only [List.length_cons] at hlen
      unfold kindF at hk'
      first
        | (have hr : 97 ≤ (c.toNat : Int) ∧ (c.toNat : Int) ≤ 122 := by
             split at hk'
             · exact absurd hk' (by decide)
             split at hk'
             · assumption
             split at hk'
             · exact absurd hk' (by decide)
             split at hk'
             · exact absurd hk' (by decide)
             split at hk' <;> exact absurd hk' (by decide)
           have hi : innerB c = true := by simp only [innerB, dT hr.1, dT hr.2]; simp
           simp only [speltF, List.all_cons, hi, hall, dT hr.1, dT hr.2, dT (show ((text.drop (n + 1)).takeWhile innerB).length < 8 by omega)]
           rfl)
        | (have hr : 65 ≤ (c.toNat : Int) ∧ (c.toNat : Int) ≤ 90 := by
             split at hk'
             · exact absurd hk' (by decide)
             split at hk'
             · exact absurd hk' (by decide)
             split at hk'
             · assumption
             split at hk'
             · exact absurd hk' (by decide)
             split at hk' <;> exact absurd hk' (by decide)
           have hi : innerB c = true := by simp only [innerB, dT hr.1, dT hr.2]; simp
           simp only [varF, speltF, List.all_cons, hi, hall, dT hr.1, dT hr.2, dT (show ((text.drop (n + 1)).takeWhile innerB).length < 8 by omega)]
           rfl)
    · exfalso
      have h2 : ¬ kindF c.toNat = 2 ∧ ¬ kindF c.toNat = 3 := ⟨fun h => h2 (.inl h), fun h => h2 (.inr h)⟩
      rw [if_neg (by rintro (h | h); exact h2.1 h; exact h2.2 h)] at hk
      by_cases h4 : kindF c.toNat = 4
      · rw [if_pos h4] at hk
        split at hk
        · have hk : (4 : Int) = _ := hk
          exact absurd hk (by decide)
        · have hk : (4 : Int) = _ := hk
          exact absurd hk (by decide)
      · rw [if_neg h4] at hk
        first | exact h2.1 hk | exact h2.2 hk
theorem Sc.toks {text : List UInt8} {n m : Nat} {ts : List Tok} (s : Sc text n ts m) : ∀ t ∈ ts, TokOk (fun p => 0 ≤ p ∧ p ≤ text.length) t := by
  induction s with
  | nil h => intro t ht; cases ht
  | blank _ _ _ ih => exact ih
  | rem _ _ _ _ ih => exact ih
  | tok hc hb hr he s ih =>
    intro t ht
    rcases List.mem_cons.1 ht with rfl | ht
    · exact tok_ok hc he
    · exact ih t ht
end Go.Ab.S6
