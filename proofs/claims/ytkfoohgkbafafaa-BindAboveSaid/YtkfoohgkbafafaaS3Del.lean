import Derived.Test.YtkfoohgkbafafaaS3z
namespace Go.Ab.S3
set_option linter.unusedVariables false
set_option linter.unusedSimpArgs false
variable {α : Type} {h : H}
/-! ### lines' ends are taken out -/
def lineT (t : Tok) : Bool := decide (t.kind = 1)
theorem c2_run (k : Nat) (t : Tok) (ret : Bool → M α) : syntax_Parse_c2.f (k + 1) t.kind t.pos t.text t.num ret h = ret (lineT t) (h.push (tkC t)) := by
  rw [syntax_Parse_c2.f, syntax_Parse_c2.u1.f, new_run rfl, ldI_run (n := t.kind) (by simp only [add_mk]; rw [cell_new]; rfl)]
  rfl
theorem find_tok {h₀ : H} {s : Sl} {l : List Tok} (r : TkR h₀ s l) (hl : l.length ≤ 4611686018427387900) (k : Nat) : ∀ (j n : Nat) (h : H), n ≤ l.length → l.length - n < j → Ext h₀ h → ∃ h', Ext h₀ h' ∧ ∀ (α : Type) (kr : Int → M α) (kx : M α),
    slIT.u4.l (k + 1) kr kx j s (l.length : Int) (n : Int) h = (match (l.drop n).findIdx? lineT with | some i => kr ((n + i : Nat) : Int) h' | none => kx h') := by
  intro j
  induction j with
  | zero => intro n h hn hj; omega
  | succ j ih =>
    intro n h hn hj x
    by_cases hlt : n < l.length
    rotate_left
    · refine ⟨h, x, fun α kr kx => ?_⟩
      rw [slIT.u4.l, slIT.u3.f, dF (by omega : ¬ (n : Int) < (l.length : Int)), cond_false, List.drop_of_length_le (by omega)]
      rfl
    have hn' : l[n]? = some l[n] := List.getElem?_eq_getElem hlt
    rw [List.drop_eq_getElem_cons hlt, List.findIdx?_cons]
    generalize l[n] = t at hn'
    have x1 : Ext h (h.push (tkC t)) := (Ext.refl h).push _
    have start : ∀ (α : Type) (kr : Int → M α) (kx : M α), slIT.u4.l (k + 1) kr kx (j + 1) s (l.length : Int) (n : Int) h = cond (lineT t) (kr (n : Int)) (slIT.u4.l (k + 1) kr kx j s (l.length : Int) (w64 ((n : Int) + 1))) (h.push (tkC t)) := fun α kr kx => by
      rw [slIT.u4.l, slIT.u3.f, dT (by omega : (n : Int) < (l.length : Int)), cond_true, tk_all (r.ext x) rfl hn', c2_run]
    cases hlt' : lineT t with
    | true =>
      rw [hlt'] at start
      exact ⟨_, x.trans x1, start⟩
    | false =>
      rw [hlt'] at start
      obtain ⟨h', x', e'⟩ := ih (n + 1) _ (by omega) (by omega) (x.trans x1)
      refine ⟨h', x', fun α kr kx => ?_⟩
      rw [start, cond_false, w64_eq (by omega) (by omega)]
      refine (e' α kr kx).trans ?_
      cases hf : (l.drop (n + 1)).findIdx? lineT with
      | none => rfl
      | some i =>
        show kr _ h' = kr _ h'
        rw [show n + 1 + i = n + (i + 1) by omega]
theorem flat_setC (B : List Tok) (i : Nat) (x y : Tok) (j : Nat) (v : V) (hx : B[i]? = some x) (hy : y.cells = x.cells.set j v) (hj : j < 4) : (cellsL B).set (i * 4 + j) v = cellsL (B.set i y) :=
  flat_set (c := Tok.cells) Tok.len B i x y j v hx hy hj
/-- a token is stored -/
theorem tok_st {s : Sl} {B : List Tok} (o : Own h s 4 (cellsL B)) {x : Int} {i : Nat} (t : Tok) (hx : x = (i : Int)) (hi : i < B.length) :
    ∃ h', (∀ (α : Type) (K : M α), idxSl s x 4 (fun a => st1 (a.add 0) (.int .i64 t.kind) <| st1 (a.add 1) (.int .i64 t.pos) <| st1 (a.add 2) (.str t.text) <| st1 (a.add 3) (.int .i64 t.num) K) h = K h') ∧ Own h' s 4 (cellsL (B.set i t)) ∧ h'.next = h.next ∧ ∀ i, i ≠ s.id → h'.get i = h.get i := by
  have hb : B[i]? = some B[i] := List.getElem?_eq_getElem hi
  have hll : ∀ C : List Tok, C.length = B.length → ∀ j, j < 4 → i * 4 + j < (cellsL C).length := fun C hC j hj => by rw [show (cellsL C).length = C.length * 4 from flat_len Tok.len C, hC]; omega
  obtain ⟨h1, e1, o1, n1, g1⟩ := own_st o (n := i * 4 + 0) (v := .int .i64 t.kind) rfl (hll B rfl 0 (by decide))
  rw [flat_setC B i B[i] ⟨t.kind, B[i].pos, B[i].text, B[i].num⟩ 0 _ hb rfl (by decide)] at o1
  obtain ⟨h2, e2, o2, n2, g2⟩ := own_st o1 (n := i * 4 + 1) (v := .int .i64 t.pos) rfl (hll _ (by simp) 1 (by decide))
  rw [flat_setC _ i ⟨t.kind, B[i].pos, B[i].text, B[i].num⟩ ⟨t.kind, t.pos, B[i].text, B[i].num⟩ 1 _ (by rw [List.getElem?_set_self (by omega)]) rfl (by decide), List.set_set] at o2
  obtain ⟨h3, e3, o3, n3, g3⟩ := own_st o2 (n := i * 4 + 2) (v := .str t.text) rfl (hll _ (by simp) 2 (by decide))
  rw [flat_setC _ i ⟨t.kind, t.pos, B[i].text, B[i].num⟩ ⟨t.kind, t.pos, t.text, B[i].num⟩ 2 _ (by rw [List.getElem?_set_self (by omega)]) rfl (by decide), List.set_set] at o3
  obtain ⟨h4, e4, o4, n4, g4⟩ := own_st o3 (n := i * 4 + 3) (v := .int .i64 t.num) rfl (hll _ (by simp) 3 (by decide))
  rw [flat_setC _ i ⟨t.kind, t.pos, t.text, B[i].num⟩ t 3 _ (by rw [List.getElem?_set_self (by omega)]) rfl (by decide), List.set_set] at o4
  refine ⟨h4, fun α K => ?_, o4, by omega, fun j hj => by rw [g4 j hj, g3 j hj, g2 j hj, g1 j hj]⟩
  rw [idx_run o.rd hx (by rw [tk_slen o.rd]; exact hi)]
  simp only [at_add]
  rw [e1, e2, e3, e4]
/-- the tokens that stay, in place -/
theorem del_loop {h₀ : H} {s : Sl} {l : List Tok} (hl : l.length ≤ 4611686018427387900) (h00 : h₀.next ≤ s.id) (k : Nat) : ∀ (j n w : Nat) (B : List Tok) (h : H), n ≤ l.length → l.length - n < j → w < n → B.length = l.length → B.take w = (l.take n).filter (fun t => !lineT t) → B.drop n = l.drop n → Own h s 4 (cellsL B) → Ext h₀ h →
    ∃ (w' : Nat) (B' : List Tok) (h' : H), (∀ (α : Type) (kx : Sl → Int → M α), slDT.u4.l (k + 1) kx j s (w : Int) (n : Int) h = kx s (w' : Int) h') ∧ w' < l.length ∧ B'.length = l.length ∧ B'.take w' = l.filter (fun t => !lineT t) ∧ Own h' s 4 (cellsL B') ∧ Ext h₀ h' ∧ h.next ≤ h'.next := by
  intro j
  induction j with
  | zero => intro n w B h hn hj; omega
  | succ j ih =>
    intro n w B h hn hj hw hB ht hd o x
    have hsl : s.len = l.length := by rw [tk_slen o.rd, hB]
    by_cases hlt : n < l.length
    rotate_left
    · refine ⟨w, B, h, fun α kx => ?_, by omega, hB, by rw [ht, List.take_of_length_le (by omega)], o, x, Nat.le_refl _⟩
      rw [slDT.u4.l, slDT.u3.f, hsl, dF (by omega : ¬ (n : Int) < (l.length : Int)), cond_false]
    have hn' : l[n]? = some l[n] := List.getElem?_eq_getElem hlt
    have hBn : B[n]? = some l[n] := by
      have := congrArg (fun l : List Tok => l[0]?) hd
      simp only [List.getElem?_drop, Nat.add_zero] at this
      rw [this, hn']
    have hdn : B.drop (n + 1) = l.drop (n + 1) := by
      have := congrArg (List.drop 1) hd
      simpa [List.drop_drop] using this
    have htk : (l.take (n + 1)).filter (fun t => !lineT t) = (l.take n).filter (fun t => !lineT t) ++ (if lineT l[n] = true then [] else [l[n]]) := by
      rw [List.take_add_one, hn', List.filter_append]
      cases hq : lineT l[n] <;> simp [hq]
    generalize l[n] = t at *
    have x1 : Ext h ((h.push (tkC t)).push (tkC t)) := ((Ext.refl h).push _).push _
    have hq1 : (h.push (tkC t)).get h.next = some (tkC t) := by rw [push_get, if_pos rfl]
    have hq2 : ((h.push (tkC t)).push (tkC t)).get h.next = some (tkC t) := by rw [push_get, if_neg (by rw [push_next]; omega), push_get, if_pos rfl]
    have start : ∀ (α : Type) (kx : Sl → Int → M α), slDT.u4.l (k + 1) kx (j + 1) s (w : Int) (n : Int) h = _ := fun α kx => by
      rw [slDT.u4.l, slDT.u3.f, hsl, dT (by omega : (n : Int) < (l.length : Int)), cond_true, tk_all o.rd rfl hBn, tk_copy, tk4_all hq1, c2_run]
    have hnx : ((h.push (tkC t)).push (tkC t)).next = h.next + 2 := rfl
    generalize (h.push (tkC t)).push (tkC t) = h2 at start x1 hq2 hnx
    cases hq : lineT t with
    | true =>
      rw [hq] at start htk
      simp only [if_true, List.append_nil] at htk
      obtain ⟨w', B', h', e', r'⟩ := ih (n + 1) w B h2 (by omega) (by omega) (by omega) hB (by rw [htk]; exact ht) hdn (o.ext x1) (x.trans x1)
      refine ⟨w', B', h', fun α kx => ?_, r'.1, r'.2.1, r'.2.2.1, r'.2.2.2.1, r'.2.2.2.2.1, by have := r'.2.2.2.2.2; omega⟩
      rw [start, Bool.not_true, cond_false, w64_eq (by omega) (by omega)]
      exact e' α kx
    | false =>
      rw [hq] at start htk
      simp only [Bool.false_eq_true, if_false] at htk
      obtain ⟨h3, e3, o3, n3, g3⟩ := tok_st (o.ext x1) (x := (w : Int)) (i := w) t rfl (by omega)
      have x3 : Ext h₀ h3 := ⟨by have := x.1; omega, fun i hi => by rw [g3 i (by omega), x1.2 i (by have := x.1; omega), x.2 i hi]⟩
      have htw : (B.set w t).take (w + 1) = (l.take (n + 1)).filter (fun t => !lineT t) := by
        rw [htk, ← ht, List.take_add_one, List.getElem?_set_self (by omega), List.take_set_of_le (Nat.le_refl _)]
        rfl
      obtain ⟨w', B', h', e', r'⟩ := ih (n + 1) (w + 1) (B.set w t) h3 (by omega) (by omega) (by omega) (by simp [hB]) htw (by rw [List.drop_set_of_lt (by omega)]; exact hdn) o3 x3
      refine ⟨w', B', h', fun α kx => ?_, r'.1, r'.2.1, r'.2.2.1, r'.2.2.2.1, r'.2.2.2.2.1, by have := r'.2.2.2.2.2; omega⟩
      rw [start, Bool.not_false, cond_true, tk4_all hq2, e3, w64_eq (by omega) (by omega), w64_eq (by omega) (by omega)]
      exact e' α kx
theorem del_run (k : Nat) {s : Sl} {l : List Tok} (h₀ h : H) (x : Ext h₀ h) (o : Own h s 4 (cellsL l)) (h00 : h₀.next ≤ s.id) (hfine : s.fine 4) (hk : l.length + 4 ≤ k) (hl : l.length ≤ 4611686018427387900) :
    ∃ h' s', (∀ (α : Type) (ret : Sl → M α), slDT.f (k + 1) s ret h = ret s' h') ∧ TkR h' s' (l.filter (fun t => !lineT t)) ∧ s'.fine 4 ∧ s'.ad = s.ad ∧ Ext h₀ h' ∧ h.next ≤ h'.next := by
  obtain ⟨k, rfl⟩ : ∃ q, k = q + 2 := ⟨k - 2, by omega⟩
  have hsl : s.len = l.length := tk_slen o.rd
  obtain ⟨h1, x1, e1⟩ := find_tok o.rd hl k (k + 1) 0 h (Nat.zero_le _) (by omega) (Ext.refl h)
  rw [List.drop_zero] at e1
  have start : ∀ (α : Type) (ret : Sl → M α), slDT.f (k + 3) s ret h = slIT.u4.l (k + 1) (fun r3 => cond (decide (r3 = (-1))) (ret s) (slDT.u8.f (k + 2) s r3 ret)) (cond (decide ((-1 : Int) = (-1))) (ret s) (slDT.u8.f (k + 2) s (-1) ret)) (k + 1) s (l.length : Int) ((0 : Nat) : Int) h := fun α ret => by
    rw [slDT.f, slDT.u9.f, slDT.u1.f, slIT.f, slIT.u9.f, slIT.u1.f, slIT.u8.f, slIT.u6.f, slIT.u2.f, hsl, slIT.u5.f, slIT.u4.f, slIT.u7.f]
    rfl
  cases hf : l.findIdx? lineT with
  | none =>
    rw [hf] at e1
    have hnone : l.filter (fun t => !lineT t) = l := by
      rw [List.findIdx?_eq_none_iff] at hf
      exact List.filter_eq_self.2 fun t ht => by rw [hf t ht]; rfl
    refine ⟨h1, s, fun α ret => ?_, by rw [hnone]; exact o.rd.ext x1, hfine, rfl, x.trans x1, x1.1⟩
    rw [start, e1]
    rfl
  | some i =>
    rw [hf] at e1
    have hfi := hf
    rw [List.findIdx?_eq_some_iff_getElem] at hf
    obtain ⟨hi, hp, hno⟩ := hf
    have htk : (l.take (i + 1)).filter (fun t => !lineT t) = l.take i := by
      rw [List.take_add_one, List.getElem?_eq_getElem hi, List.filter_append]
      have h1 : (l.take i).filter (fun t => !lineT t) = l.take i := by
        refine List.filter_eq_self.2 fun t ht => ?_
        obtain ⟨q, hq, rfl⟩ := List.getElem_of_mem ht
        rw [List.getElem_take]
        have hqi : q < i := by simp at hq; omega
        have := hno q hqi
        simp at this
        simp [this]
      rw [h1]
      simp [hp]
    obtain ⟨w', B', h2, e2, w1, w2, w3, w4, w5, w6⟩ := del_loop (h₀ := h₀) (s := s) (l := l) hl h00 (k + 1) (k + 2) (i + 1) i l h1 (by omega) (by omega) (by omega) rfl htk.symm rfl (o.ext x1) (x.trans x1)
    obtain ⟨id, more, g1, g2, g3⟩ := w4.blk
    have hs2 : s.len = B'.length := tk_slen w4.rd
    have hcl : (cellsL B').length = B'.length * 4 := flat_len Tok.len B'
    -- the rest is cleared
    have hover : over (cellsL B' ++ more) (w' * 4) ((List.replicate (s.len - w') [V.int .i64 0, .int .i64 0, .str [], .int .i64 0]).flatten) = cellsL (B'.take w') ++ ((List.replicate (s.len - w') [V.int .i64 0, .int .i64 0, .str [], .int .i64 0]).flatten ++ more) := by
      unfold over
      have hz : ((List.replicate (s.len - w') [V.int .i64 0, .int .i64 0, .str [], .int .i64 0]).flatten).length = (s.len - w') * 4 := by simp
      rw [hz, List.take_append_of_le_length (by omega), show (cellsL B').take (w' * 4) = cellsL (B'.take w') from flat_take (c := Tok.cells) Tok.len B' w', List.drop_append, List.drop_of_length_le (by omega), List.nil_append, hcl, show w' * 4 + (s.len - w') * 4 - B'.length * 4 = 0 by omega, List.drop_zero]
    generalize hZ : (List.replicate (s.len - w') [V.int .i64 0, .int .i64 0, .str [], .int .i64 0]).flatten = Z at hover
    have hZl : Z.length = (s.len - w') * 4 := by rw [← hZ]; simp
    have hfrom : s.from w' s.cap 4 = some ⟨id, w' * 4⟩ := by
      unfold Sl.from
      rw [g1]
      have hne : s.cap ≠ w' := by have := hfine.1; omega
      cases hlo : s.loose with
      | none => dsimp only; rw [beq_ne hne, cond_false]; simp [Ad.add]
      | some e => dsimp only; simp [Ad.add]
    refine ⟨h2.put id (some (.cells (cellsL (B'.take w') ++ (Z ++ more)) true)), ⟨s.ad, w', s.cap, s.loose⟩, fun α ret => ?_, ?_, ⟨by show w' ≤ s.cap; have := hfine.1; omega, hfine.2⟩, rfl, ?_, ?_⟩
    · rw [start, e1]
      dsimp only
      rw [dF (by omega : ¬ ((0 + i : Nat) : Int) = -1), cond_false, slDT.u8.f, slDT.u6.f, slDT.u2.f, w64_eq (by omega) (by omega), slDT.u5.f, slDT.u4.f]
      rw [show ((0 + i : Nat) : Int) = (i : Int) by omega, show ((i : Int) + 1) = ((i + 1 : Nat) : Int) by omega, e2, slDT.u7.f, cut_from hfine rfl (by omega)]
      unfold clearSl
      dsimp only
      rw [hfrom]
      dsimp only
      rw [need_run (by rfl), hZ]
      unfold wrRow H.setRow
      dsimp only
      rw [g2]
      dsimp only
      rw [show Nat.ble (w' * 4 + Z.length) (cellsL B' ++ more).length = true from Nat.ble_eq_true_of_le (by rw [List.length_append, hZl, hcl]; omega), cond_true, hover]
      dsimp only
      rw [cut_to hfine rfl (by have := hfine.1; omega)]
    · have hg : (h2.put id (some (.cells (cellsL (B'.take w') ++ (Z ++ more)) true))).get id = some (.cells (cellsL (B'.take w') ++ (Z ++ more)) true) := put_get _ _ _
      rw [← w3]
      have hcl' : (cellsL (B'.take w')).length = w' * 4 := by rw [show (cellsL (B'.take w')).length = (B'.take w').length * 4 from flat_len Tok.len _, List.length_take, Nat.min_eq_left (by omega)]
      refine ⟨hcl', fun a ha => ?_, fun ha => by rw [g1] at ha; cases ha⟩
      rw [g1] at ha
      cases ha
      refine ⟨?_, g3⟩
      rw [row_of (a := ⟨id, 0⟩) hg (by show 0 + _ ≤ _; rw [List.length_append]; omega), List.drop_zero, List.take_left]
    · refine w5.put _ ?_
      have : s.id = id := by unfold Sl.id; rw [g1]; rfl
      omega
    · show h.next ≤ h2.next
      have := x1.1
      omega
end Go.Ab.S3
