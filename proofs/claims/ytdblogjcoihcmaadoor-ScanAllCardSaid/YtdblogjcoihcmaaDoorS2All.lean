import Derived.Test.YtdblogjcoihcmaaDoorS2Ref
import GoSem.Claim
namespace Go.Ab.S2
set_option linter.unusedVariables false
set_option linter.unusedSimpArgs false
/-- what lies elsewhere is as it was -/
def But (id : Nat) (h h' : H) : Prop := h'.next = h.next ∧ ∀ i, i ≠ id → h'.get i = h.get i
theorem But.refl (id : Nat) (h : H) : But id h h := ⟨rfl, fun _ _ => rfl⟩
theorem But.put {id : Nat} {h h' : H} (b : But id h h') (k : Option Blk) : But id h (h'.put id k) :=
  ⟨by rw [put_next]; exact b.1, fun i hi => by rw [put_get_if, if_neg hi]; exact b.2 i hi⟩
theorem But.row {id : Nat} {h h' : H} {s : Sl} {size : Nat} {cs : List V} (b : But id h h') (r : Row h s size cs) (hs : ∀ a, s.ad = some a → a.id ≠ id) : Row h' s size cs := by
  rcases r with h1 | ⟨i, h1, h2, h3, h4⟩
  · exact .inl h1
  · refine .inr ⟨i, h1, ?_, h3, by rw [b.1]; exact h4⟩
    rw [b.2 i (hs ⟨i, 0⟩ (by rw [h1]))]
    exact h2
/-- each token written over -/
theorem over_loop (k : Nat) {x0 x8 : Bool} {a b l : Sl} {x4 x5 x6 x7 : Int} {id : Nat} (ha : a.ad = some ⟨id, 0⟩) (hlen : a.len ≤ 262145) (h₀ : H) : ∀ (f j : Nat) (h : H) (cs : List V), But id h₀ h → h.get id = some (.cells cs true) → cs.length = a.len * 4 → j ≤ a.len → a.len - j < f →
    ∃ h' cs', (∀ (α : Type) (kx : Bool → Sl → Sl → Sl → Int → Int → Int → Int → Bool → M α), bailifflaw02_ScanAll.u4.l k kx f x0 a b l x4 x5 x6 x7 x8 (j : Int) h = kx x0 a b l x4 x5 x6 x7 x8 h') ∧ But id h₀ h' ∧ h'.get id = some (.cells cs' true) ∧ cs'.length = a.len * 4 := by
  intro f
  induction f with
  | zero => intro j h cs hb hg hl hj hf; omega
  | succ f ih =>
    intro j h cs hb hg hl hj hf
    by_cases hlt : j < a.len
    · have e1 : ∀ (α : Type) (K : M α), (idxSl a (j : Int) 4 fun a12 => st1 (a12.add 0) (.int .i64 9) <| st1 (a12.add 1) (.int .i64 0) <| st1 (a12.add 2) (.str []) <| st1 (a12.add 3) (.int .i64 0) <| K) h =
          K ((((h.put id (some (.cells (cs.set (0 + j * 4 + 0) (.int .i64 9)) true))).put id (some (.cells ((cs.set (0 + j * 4 + 0) (.int .i64 9)).set (0 + j * 4 + 1) (.int .i64 0)) true))).put id (some (.cells (((cs.set (0 + j * 4 + 0) (.int .i64 9)).set (0 + j * 4 + 1) (.int .i64 0)).set (0 + j * 4 + 2) (.str [])) true))).put id (some (.cells ((((cs.set (0 + j * 4 + 0) (.int .i64 9)).set (0 + j * 4 + 1) (.int .i64 0)).set (0 + j * 4 + 2) (.str [])).set (0 + j * 4 + 3) (.int .i64 0)) true))) := by
        intro α K
        rw [idxSl_run ha rfl hlt]
        simp only [add_mk]
        rw [st1_run (a := ⟨id, 0 + j * 4 + 0⟩) hg rfl (by show 0 + j * 4 + 0 < cs.length; omega)]
        rw [st1_run (a := ⟨id, 0 + j * 4 + 1⟩) (cs := cs.set (0 + j * 4 + 0) (.int .i64 9)) (by rw [put_get_if, if_pos rfl]) rfl (by rw [List.length_set]; show 0 + j * 4 + 1 < cs.length; omega)]
        rw [st1_run (a := ⟨id, 0 + j * 4 + 2⟩) (cs := (cs.set (0 + j * 4 + 0) (.int .i64 9)).set (0 + j * 4 + 1) (.int .i64 0)) (by rw [put_get_if, if_pos rfl]) rfl (by rw [List.length_set, List.length_set]; show 0 + j * 4 + 2 < cs.length; omega)]
        rw [st1_run (a := ⟨id, 0 + j * 4 + 3⟩) (cs := ((cs.set (0 + j * 4 + 0) (.int .i64 9)).set (0 + j * 4 + 1) (.int .i64 0)).set (0 + j * 4 + 2) (.str [])) (by rw [put_get_if, if_pos rfl]) rfl (by rw [List.length_set, List.length_set, List.length_set]; show 0 + j * 4 + 3 < cs.length; omega)]
      obtain ⟨h', cs', e2, e3⟩ := ih (j + 1) _ _ ((((hb.put _).put _).put _).put (some (.cells ((((cs.set (0 + j * 4 + 0) (.int .i64 9)).set (0 + j * 4 + 1) (.int .i64 0)).set (0 + j * 4 + 2) (.str [])).set (0 + j * 4 + 3) (.int .i64 0)) true))) (by rw [put_get_if, if_pos rfl]) (by simp only [List.length_set]; exact hl) (by omega) (by omega)
      refine ⟨h', cs', fun α kx => ?_, e3⟩
      rw [bailifflaw02_ScanAll.u4.l, bailifflaw02_ScanAll.u3.f]
      rw [show decide ((j : Int) < (a.len : Int)) = true from decide_eq_true (by omega), cond_true]
      refine (e1 α _).trans ?_
      rw [w64_eq (by omega) (by omega), show ((j : Int) + 1) = ((j + 1 : Nat) : Int) by omega]
      exact e2 α kx
    · refine ⟨h, cs, fun α kx => ?_, hb, hg, hl⟩
      rw [bailifflaw02_ScanAll.u4.l, bailifflaw02_ScanAll.u3.f]
      rw [show decide ((j : Int) < (a.len : Int)) = false from decide_eq_false (by omega), cond_false]
theorem bound2 (n : Nat) (hn : n ≤ 262145) : (n + 2 + (n + 2) / 4 + 512) * 40 ≤ 281474976710656 := by omega
theorem self_map (ts : List Tok) : ts = ts.map (Tok.shift 0) := by
  rw [show (Tok.shift 0) = id from funext fun t => by simp [Tok.shift]]; simp
/-- what follows once all was read -/
theorem rest_run (k : Nat) {a b l : Sl} {ts : List Tok} {h : H} (x4 x5 : Int) (ra : Row h a 4 (cellsL ts)) (rb : Row h b 4 (cellsL ts)) (rl : Row h l 4 (cellsL ts)) (hts : ts.length ≤ 262145) (hk : 262150 ≤ k)
    (hb : ∀ x y, a.ad = some x → b.ad = some y → y.id ≠ x.id) (hl : ∀ x y, a.ad = some x → l.ad = some y → y.id ≠ x.id) (hpos : ∀ t ∈ ts, -4611686018427387904 ≤ t.pos ∧ t.pos ≤ 4611686018427387904) :
    ∃ h', ∀ (α : Type) (kr : Bool → M α), bailifflaw02_ScanAll.u8.f (k + 1) true a b l x4 x5 x4 x5 true kr h = kr true h' := by
  have la := row_slen ra
  have ll := row_slen rl
  -- the writing
  obtain ⟨h1, cs1, e1, r1, rb1, rl1, o1⟩ : ∃ h1 cs1, (∀ (α : Type) (kx : Bool → Sl → Sl → Sl → Int → Int → Int → Int → Bool → M α), bailifflaw02_ScanAll.u4.l (k + 1) kx (k + 1) true a b l x4 x5 x4 x5 true ((0 : Nat) : Int) h = kx true a b l x4 x5 x4 x5 true h1) ∧ Row h1 a 4 cs1 ∧ Row h1 b 4 (cellsL ts) ∧ Row h1 l 4 (cellsL ts) ∧ h1.next = h.next := by
    rcases ra with ⟨q1, q2⟩ | ⟨id, q1, q2, q3, q4⟩
    · refine ⟨h, [], fun α kx => ?_, .inl ⟨q1, rfl⟩, rb, rl, rfl⟩
      rw [bailifflaw02_ScanAll.u4.l, bailifflaw02_ScanAll.u3.f]
      rw [show decide (((0 : Nat) : Int) < (a.len : Int)) = false from decide_eq_false (by rw [q1]; decide), cond_false]
    · have had : a.ad = some ⟨id, 0⟩ := by rw [q1]
      obtain ⟨h1, cs1, e1, b1, g1, l1⟩ := over_loop (k + 1) (x0 := true) (x8 := true) (b := b) (l := l) (x4 := x4) (x5 := x5) (x6 := x4) (x7 := x5) had (by omega) h (k + 1) 0 h (cellsL ts) (But.refl id h) q2 q3 (Nat.zero_le _) (by omega)
      exact ⟨h1, cs1, e1, .inr ⟨id, q1, g1, l1, by rw [b1.1]; exact q4⟩, b1.row rb (fun y hy => hb _ y had hy), b1.row rl (fun y hy => hl _ y had hy), b1.1⟩
  -- two more
  have x2 := (Ext.refl h1).push (.cells [.int .i64 9, .int .i64 0, .str [], .int .i64 0, .int .i64 9, .int .i64 0, .str [], .int .i64 0] true)
  have l1 := r1.len
  obtain ⟨h2, a1, a2, a3, a4⟩ := appRow_run (bytes := 40) (x := ⟨some ⟨h1.next, 0⟩, 2, 2, none⟩) (more := [.int .i64 9, .int .i64 0, .str [], .int .i64 0, .int .i64 9, .int .i64 0, .str [], .int .i64 0]) (r1.ext x2) rfl
    (by rw [row_of (cs := [.int .i64 9, .int .i64 0, .str [], .int .i64 0, .int .i64 9, .int .i64 0, .str [], .int .i64 0]) (o := true) (by rw [push_get]; exact if_pos rfl) (by show 0 + 2 * 4 ≤ 8; omega)]; rfl) (Nat.succ_pos _) (by decide)
    (bound2 a.len (by rw [la]; exact hts))
  have keep : ∀ (s : Sl), Row h1 s 4 (cellsL ts) → (∀ x y, a.ad = some x → s.ad = some y → y.id ≠ x.id) → Row h2 s 4 (cellsL ts) := by
    intro s r hs
    rcases r with h1' | ⟨i, q1, q2, q3, q4⟩
    · exact .inl h1'
    · refine .inr ⟨i, q1, ?_, q3, by rw [a3]; simp only [push_next]; omega⟩
      rw [a4 i (by simp only [push_next]; omega) (fun x hx => hs x ⟨i, 0⟩ hx (by rw [q1])), push_get, if_neg (by omega)]
      exact q2
  obtain ⟨h3, e3, x3⟩ := same_run k 0 (view_row (keep b rb1 hb)) (view_row (keep l rl1 hl)) (by omega) (by omega) hpos (by omega) (self_map ts)
  refine ⟨h3, fun α kr => ?_⟩
  unfold bailifflaw02_ScanAll.u8.f bailifflaw02_ScanAll.u6.f bailifflaw02_ScanAll.u2.f bailifflaw02_ScanAll.u5.f bailifflaw02_ScanAll.u4.f
  refine (e1 α _).trans ?_
  unfold bailifflaw02_ScanAll.u7.f
  dsimp only
  rw [new_run rfl]
  refine (a1 α _).trans ?_
  rw [e3]
  simp only [cond_true, decide_true]
  rw [w64_eq (by omega) (by omega), show decide (((a.len + 2 : Nat) : Int) = (l.len : Int) + 2) = true from decide_eq_true (by omega)]
theorem All_pos {text : List UInt8} {ts : List Tok} (hs : scanF text = .ok ts) (hl : text.length ≤ 262144) : ∀ t ∈ ts, -4611686018427387904 ≤ t.pos ∧ t.pos ≤ 4611686018427387904 := by
  rcases scanF_cases text with ⟨h, e⟩ | ⟨h, us, sc, e⟩ | ⟨h, m, x, us, sc, bd, e⟩
  · omega
  · rw [e] at hs
    cases hs
    intro t ht
    obtain ⟨i, hi⟩ := List.mem_iff_getElem?.1 ht
    by_cases hlt : i < us.length
    · rw [List.getElem?_append_left hlt] at hi
      obtain ⟨p, q1, _, q3⟩ := sc.split hi
      omega
    · rw [List.getElem?_append_right (by omega)] at hi
      have : t = ⟨0, (text.length : Nat), [], 0⟩ := by
        rcases Nat.eq_zero_or_pos (i - us.length) with h0 | h0
        · rw [h0] at hi; simpa using hi.symm
        · rw [List.getElem?_eq_none (by simp; omega)] at hi; cases hi
      subst this
      show -4611686018427387904 ≤ (text.length : Int) ∧ (text.length : Int) ≤ 4611686018427387904
      omega
  · rw [e] at hs; cases hs
theorem All_law_run (text : List UInt8) (h : H) (k : Nat) (hk : 262144 + 40 ≤ k) : ∃ h', ∀ (α : Type) (ret : Bool → M α), bailifflaw02_ScanAll.f (k + 1) text ret h = ret true h' := by
  obtain ⟨k, rfl⟩ : ∃ q, k = q + 2 := ⟨k - 2, by omega⟩
  obtain ⟨h1, e1, x1⟩ := shown_run (k + 1) (by omega) h
  have a2 := All_run (k + 1) text (by omega) h1
  cases hs : scanF text with
  | ok ts =>
    rw [hs] at a2
    obtain ⟨a, h2, e2, x2, r2, o2, b2, l2⟩ := a2
    have a3 := All_run (k + 1) text (by omega) h2
    rw [hs] at a3
    obtain ⟨b, h3, e3, x3, r3, o3, _⟩ := a3
    have a4 := ref_run (k + 1) text (by omega) h3
    rw [hs] at a4
    obtain ⟨l, h4, e4, x4, r4, o4⟩ := a4
    have hpos := All_pos hs l2
    obtain ⟨h5, e5, x5⟩ := same_run (k + 1) 0 (view_row ((r2.ext x3).ext x4)) (view_row r4) (by omega) (by omega) hpos (by omega) (self_map ts)
    have ha : ∀ x, a.ad = some x → x.id < h2.next := by
      intro x hx
      rcases r2 with ⟨q, _⟩ | ⟨id, q1, _, _, q4⟩
      · rw [q] at hx; cases hx
      · rw [q1] at hx; cases hx; exact q4
    obtain ⟨h6, e6⟩ := rest_run (k + 1) 0 0 (((r2.ext x3).ext x4).ext x5) ((r3.ext x4).ext x5) (r4.ext x5) (by omega) (by omega)
      (fun x y hx hy => by have := ha x hx; have := o3 y hy; omega) (fun x y hx hy => by have := ha x hx; have := o4 y hy; have := x3.1; omega) hpos
    refine ⟨h6, fun α ret => ?_⟩
    simp only [bailifflaw02_ScanAll.f]
    unfold bailifflaw02_ScanAll.u9.f bailifflaw02_ScanAll.u1.f
    rw [e1, e2, e3, e4, fault_nil, e5]
    exact e6 α _
  | error me =>
    obtain ⟨m, e⟩ := me
    rw [hs] at a2
    obtain ⟨p, h2, e2, x2, _, p2, g2⟩ := a2
    have a3 := All_run (k + 1) text (by omega) h2
    rw [hs] at a3
    obtain ⟨p3, h3, e3, x3, _⟩ := a3
    have a4 := ref_run (k + 1) text (by omega) h3
    rw [hs] at a4
    obtain ⟨h4, e4, x4⟩ := a4
    have n4 : Row (h4.push (.cells [.ptr (some ⟨p, 0⟩)] true)) Sl.nil 4 (cellsL []) := Row.nil _ _
    obtain ⟨h5, e5, x5⟩ := same_run (k + 1) 0 (view_row n4) (view_row n4) (by simp) (by simp) (by simp) (by omega) rfl
    have n5 : Row h5 Sl.nil 4 (cellsL []) := Row.nil _ _
    obtain ⟨h6, e6⟩ := rest_run (k + 1) m e n5 n5 n5 (by simp) (by omega) (fun x y hx => by cases hx) (fun x y hx => by cases hx) (by simp)
    refine ⟨h6, fun α ret => ?_⟩
    simp only [bailifflaw02_ScanAll.f]
    unfold bailifflaw02_ScanAll.u9.f bailifflaw02_ScanAll.u1.f
    have hx3 := x3.1
    have hx4 := x4.1
    rw [e1, e2, e3, e4, fault_run k _ h4 p (m : Int) e (by omega) (by rw [x4.2 _ (by omega), x3.2 _ p2]; exact g2), e5]
    exact e6 α _
theorem All_law (text : List UInt8) (hl : text.length ≤ reachBytes) : ∃ k h', ∀ (α : Type) (ret : Bool → M α), bailifflaw02_ScanAll.f (k + 1) text ret h0 = ret true h' :=
  ⟨262184, All_law_run text h0 262184 (by decide)⟩
end Go.Ab.S2
