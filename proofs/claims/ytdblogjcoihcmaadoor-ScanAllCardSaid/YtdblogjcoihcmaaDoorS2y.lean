import Derived.Test.YtdblogjcoihcmaaDoorS2x
namespace Go.Ab.S2
set_option linter.unusedVariables false
set_option linter.unusedSimpArgs false
/-! ### slices of tokens -/
def View (h : H) (sl : Sl) (ts : List Tok) : Prop :=
  sl.len = ts.length ∧ ∀ i t, ts[i]? = some t → ∃ id o, sl.ad = some ⟨id, o⟩ ∧ id < h.next ∧ ∀ j v, t.cells[j]? = some v → h.cell ⟨id, o + i * 4 + j⟩ = some v
theorem View.ext {h h' : H} {sl : Sl} {ts : List Tok} (v : View h sl ts) (x : Ext h h') : View h' sl ts := by
  refine ⟨v.1, fun i t hi => ?_⟩
  obtain ⟨id, o, h1, h2, h3⟩ := v.2 i t hi
  refine ⟨id, o, h1, Nat.lt_of_lt_of_le h2 x.1, fun j u hj => ?_⟩
  have := h3 j u hj
  unfold H.cell at this ⊢
  rw [x.2 id h2]
  exact this
theorem view_row {h : H} {sl : Sl} {ts : List Tok} (r : Row h sl 4 (cellsL ts)) : View h sl ts := by
  refine ⟨row_slen r, fun i t hi => ?_⟩
  have hne : ts ≠ [] := by rintro rfl; simp at hi
  rcases r with ⟨_, h1⟩ | ⟨id, h1, h2, h3, h4⟩
  · exfalso
    apply hne
    have : (cellsL ts).length = 0 := by rw [h1]; rfl
    rw [cellsL_length] at this
    exact List.length_eq_zero_iff.1 (by omega)
  · refine ⟨id, 0, by rw [h1], h4, fun j v hj => ?_⟩
    rw [cell_of (a := ⟨id, 0 + i * 4 + j⟩) h2]
    show (cellsL ts)[0 + i * 4 + j]? = some v
    rw [Nat.zero_add]
    exact cellsL_get ts i t hi j v hj
theorem view_rd {α : Type} {h : H} {sl : Sl} {ts : List Tok} (v : View h sl ts) {x : Int} {i : Nat} {t : Tok} (hx : x = (i : Int)) (hi : ts[i]? = some t) (K : Int → Int → List UInt8 → Int → M α) :
    (idxSl sl x 4 fun a => ldI .i64 (a.add 0) fun x => ldI .i64 (a.add 1) fun y => ldStr (a.add 2) fun z => ldI .i64 (a.add 3) fun w => K x y z w) h = K t.kind t.pos t.text t.num h := by
  obtain ⟨id, o, h1, _, h3⟩ := v.2 i t hi
  have hlt : i < sl.len := by
    rw [v.1]
    rcases Nat.lt_or_ge i ts.length with h | h
    · exact h
    · rw [List.getElem?_eq_none h] at hi; cases hi
  rw [idxSl_run h1 hx hlt]
  simp only [add_mk]
  rw [ldI_run (h3 0 _ rfl), ldI_run (h3 1 _ rfl), ldStr_run (h3 2 _ rfl), ldI_run (h3 3 _ rfl)]
/-- 's[:n]' -/
theorem cut_to {h : H} {sl : Sl} {ts : List Tok} (r : Row h sl 4 (cellsL ts)) {x : Int} {n : Nat} (hx : x = (n : Int)) (hn : n ≤ ts.length) (hne : ts ≠ []) :
    ∃ s', (∀ (α : Type) (K : Sl → M α), cutSl sl 4 none (some x) none K h = K s' h) ∧ View h s' (ts.take n) := by
  have v := view_row r
  have hl := row_slen r
  rcases r with ⟨_, h1⟩ | ⟨id, h1, h2, h3, h4⟩
  · exfalso
    apply hne
    have : (cellsL ts).length = 0 := by rw [h1]; rfl
    rw [cellsL_length] at this
    exact List.length_eq_zero_iff.1 (by omega)
  · refine ⟨⟨some ⟨id, 0⟩, n, sl.len, some 4⟩, fun α K => ?_, ?_⟩
    · rw [h1]
      unfold cutSl
      dsimp only
      rw [need_run (b := Nat.beq 4 4) rfl, bnd_run hx (by omega)]
      rfl
    · refine ⟨by simp; omega, fun i t hi => ?_⟩
      have hi' : ts[i]? = some t := by
        rw [List.getElem?_take] at hi
        split at hi
        · exact hi
        · cases hi
      obtain ⟨id', o, g1, g2, g3⟩ := v.2 i t hi'
      rw [h1] at g1
      cases g1
      exact ⟨id, 0, rfl, g2, g3⟩
/-- 's[n:]' -/
theorem cut_from {h : H} {sl : Sl} {ts : List Tok} (r : Row h sl 4 (cellsL ts)) {x : Int} {n : Nat} (hx : x = (n : Int)) (hn : n ≤ ts.length) (hne : ts ≠ []) :
    ∃ s', (∀ (α : Type) (K : Sl → M α), cutSl sl 4 (some x) none none K h = K s' h) ∧ View h s' (ts.drop n) := by
  have v := view_row r
  have hl := row_slen r
  rcases r with ⟨_, h1⟩ | ⟨id, h1, h2, h3, h4⟩
  · exfalso
    apply hne
    have : (cellsL ts).length = 0 := by rw [h1]; rfl
    rw [cellsL_length] at this
    exact List.length_eq_zero_iff.1 (by omega)
  · refine ⟨⟨some ⟨id, n * 4⟩, sl.len - n, sl.len - n, some 4⟩, fun α K => ?_, ?_⟩
    · rw [h1]
      unfold cutSl
      dsimp only
      rw [need_run (b := Nat.beq 4 4) rfl, bnd_run hx (by omega)]
      simp only [Sl.from, Option.map_some, add_mk, Nat.zero_add]
    · refine ⟨by simp; omega, fun i t hi => ?_⟩
      rw [List.getElem?_drop] at hi
      obtain ⟨id', o, g1, g2, g3⟩ := v.2 (n + i) t hi
      rw [h1] at g1
      cases g1
      refine ⟨id, n * 4, rfl, g2, fun j u hj => ?_⟩
      have := g3 j u hj
      rw [show n * 4 + i * 4 + j = 0 + (n + i) * 4 + j by omega]
      exact this

theorem Sc.split {text : List UInt8} {n m : Nat} {ts : List Tok} (s : Sc text n ts m) : ∀ {i : Nat} {t : Tok}, ts[i]? = some t → ∃ p : Nat, t.pos = (p : Int) ∧ Sc text n (ts.take i) p ∧ p ≤ m := by
  induction s with
  | nil h => intro i t hi; simp at hi
  | blank hc hb s ih => intro i t hi; obtain ⟨p, h1, h2, h3⟩ := ih hi; exact ⟨p, h1, .blank hc hb h2, h3⟩
  | rem hc hb hr s ih => intro i t hi; obtain ⟨p, h1, h2, h3⟩ := ih hi; exact ⟨p, h1, .rem hc hb hr h2, h3⟩
  | tok hc hb hr he s ih =>
    intro i t hi
    cases i with
    | zero =>
      simp only [List.getElem?_cons_zero, Option.some.injEq] at hi
      subst hi
      have := lt_of hc
      have h2 := s.le
      exact ⟨_, tokF_pos _ _ _, .nil (by omega), by omega⟩
    | succ i =>
      obtain ⟨p, h1, h2, h3⟩ := ih (by simpa using hi)
      exact ⟨p, h1, .tok hc hb hr he h2, h3⟩
/-! ### same -/
def Tok.shift (d : Int) (t : Tok) : Tok := { t with pos := t.pos + d }
theorem same_loop (k : Nat) {a b : Sl} {ta tb : List Tok} (d : Int) (hlen : ta.length ≤ 4611686018427387904) (hpos : ∀ t ∈ ta, -4611686018427387904 ≤ t.pos ∧ t.pos ≤ 4611686018427387904) (hd : -4611686018427387904 ≤ d ∧ d ≤ 4611686018427387903) (heq : tb = ta.map (Tok.shift d)) :
    ∀ (f j : Nat) (h : H), View h a ta → View h b tb → j ≤ ta.length → ta.length - j < f → ∃ h', (∀ (α : Type) (kr : Bool → M α) (kx : M α), bailifflaw02_same.u4.l k kr kx f a b d (j : Int) h = kx h') ∧ Ext h h' := by
  intro f
  induction f with
  | zero => intro j h va vb hj hf; omega
  | succ f ih =>
    intro j h va vb hj hf
    by_cases hlt : j < ta.length
    · have hta : ta[j]? = some ta[j] := List.getElem?_eq_getElem hlt
      have htb : tb[j]? = some (Tok.shift d ta[j]) := by rw [heq, List.getElem?_map, hta]; rfl
      obtain ⟨hp1, hp2⟩ := hpos ta[j] (List.getElem_mem hlt)
      have x1 : Ext h (h.push (.cells (Tok.shift d ta[j]).cells true)) := (Ext.refl h).push _
      obtain ⟨h', e, x⟩ := ih (j + 1) _ (va.ext x1) (vb.ext x1) (by omega) (by omega)
      refine ⟨h', fun α kr kx => ?_, x1.trans x⟩
      rw [bailifflaw02_same.u4.l, bailifflaw02_same.u3.f]
      rw [show decide ((j : Int) < (a.len : Int)) = true by rw [va.1]; simpa using hlt, cond_true, view_rd va (i := j) rfl hta, new_run rfl]
      simp only [add_mk, Nat.zero_add, Nat.add_zero]
      rw [st1_new rfl (by simp), st1_new rfl (by simp), st1_new rfl (by simp), st1_new rfl (by simp)]
      simp only [List.set_cons_zero, List.set_cons_succ]
      rw [ldI_run (n := ta[j].pos) (by rw [cell_new]; rfl), st1_new rfl (by simp)]
      simp only [List.set_cons_zero, List.set_cons_succ]
      rw [w64_eq (n := ta[j].pos + d) (by omega) (by omega)]
      rw [ldI_run (n := ta[j].kind) (by rw [cell_new]; rfl), ldI_run (n := ta[j].pos + d) (by rw [cell_new]; rfl), ldStr_run (n := ta[j].text) (by rw [cell_new]; rfl), ldI_run (n := ta[j].num) (by rw [cell_new]; rfl)]
      have vb' := vb.ext x1
      have hrd := fun (K : Int → Int → List UInt8 → Int → M α) => view_rd vb' (x := (j : Int)) (i := j) rfl htb K
      refine (hrd _).trans ?_
      simp only [Tok.shift, decide_true, Bool.and_self, Bool.not_true, cond_false]
      rw [w64_eq (n := (j : Int) + 1) (by omega) (by omega)]
      exact e α kr kx
    · refine ⟨h, fun α kr kx => ?_, Ext.refl h⟩
      rw [bailifflaw02_same.u4.l, bailifflaw02_same.u3.f]
      rw [show decide ((j : Int) < (a.len : Int)) = false by rw [va.1]; simpa using hlt, cond_false]
theorem same_run (k : Nat) {a b : Sl} {ta tb : List Tok} {h : H} (d : Int) (va : View h a ta) (vb : View h b tb) (hk : ta.length < k) (hlen : ta.length ≤ 4611686018427387904) (hpos : ∀ t ∈ ta, -4611686018427387904 ≤ t.pos ∧ t.pos ≤ 4611686018427387904)
    (hd : -4611686018427387904 ≤ d ∧ d ≤ 4611686018427387903) (heq : tb = ta.map (Tok.shift d)) : ∃ h', (∀ (α : Type) (ret : Bool → M α), bailifflaw02_same.f (k + 1) a b d ret h = ret true h') ∧ Ext h h' := by
  obtain ⟨h', e, x⟩ := same_loop k d hlen hpos hd heq k 0 h va vb (Nat.zero_le _) (by omega)
  refine ⟨h', fun α ret => ?_, x⟩
  simp only [bailifflaw02_same.f]
  unfold bailifflaw02_same.u9.f bailifflaw02_same.u1.f
  rw [show decide ((a.len : Int) = (b.len : Int)) = true by rw [va.1, vb.1, heq]; simp]
  simp only [Bool.not_true, cond_false]
  unfold bailifflaw02_same.u8.f bailifflaw02_same.u6.f bailifflaw02_same.u2.f bailifflaw02_same.u5.f bailifflaw02_same.u4.f
  exact (e α _ _).trans rfl
end Go.Ab.S2
