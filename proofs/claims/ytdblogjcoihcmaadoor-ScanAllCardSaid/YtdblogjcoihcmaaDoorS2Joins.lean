import Derived.Test.YtdblogjcoihcmaaDoorS2y
import GoSem.Claim
namespace Go.Ab.S2
set_option linter.unusedVariables false
set_option linter.unusedSimpArgs false
/-! ### a text ahead of a line feed -/
theorem takeWhile_stop (p : UInt8 → Bool) (b : UInt8) (r : List UInt8) (hp : p b = false) : ∀ l : List UInt8, (l ++ b :: r).takeWhile p = l.takeWhile p
  | [] => by simp [List.takeWhile_cons, hp]
  | a :: l => by
    rw [List.cons_append, List.takeWhile_cons, List.takeWhile_cons, takeWhile_stop p b r hp l]
theorem longF_stop (c : Int) (l r : List UInt8) (hl : 1 ≤ l.length) : longF c (l ++ 10 :: r) = longF c l := by
  have h1 : (l ++ 10 :: r).drop 1 = l.drop 1 ++ 10 :: r := List.drop_append_of_le_length hl
  unfold longF
  rw [h1, takeWhile_stop digitB 10 r rfl, takeWhile_stop innerB 10 r rfl]
theorem drop_join (a r : List UInt8) {n : Nat} (hn : n ≤ a.length) : (a ++ 10 :: r).drop n = a.drop n ++ 10 :: r := List.drop_append_of_le_length hn
theorem wordF_join (a r : List UInt8) {n : Nat} (c : UInt8) (hn : n < a.length) : wordF (a ++ 10 :: r) n c = wordF a n c := by
  have h2 : (a.drop n).length = a.length - n := List.length_drop
  unfold wordF
  rw [drop_join a r (by omega), longF_stop _ _ _ (by omega), List.take_append_of_le_length (longF_le _ _ (by omega))]
theorem tokF_join (a r : List UInt8) {n : Nat} (c : UInt8) (hn : n < a.length) : tokF (a ++ 10 :: r) n c = tokF a n c := by
  unfold tokF
  rw [wordF_join a r c hn]
theorem remF_join (a r : List UInt8) {n : Nat} (hn : n ≤ a.length) : remF ((a ++ 10 :: r).drop n) = remF (a.drop n) := by
  unfold remF
  rw [drop_join a r hn, takeWhile_stop _ 10 r rfl]
theorem get_join {a : List UInt8} (r : List UInt8) {n : Nat} {c : UInt8} (hc : a[n]? = some c) : (a ++ 10 :: r)[n]? = some c := by
  rw [List.getElem?_append_left (lt_of hc)]; exact hc
theorem Sc.join {a : List UInt8} (r : List UInt8) {n m : Nat} {ts : List Tok} (s : Sc a n ts m) : Sc (a ++ 10 :: r) n ts m := by
  induction s with
  | nil h => exact .nil (by rw [List.length_append]; omega)
  | blank hc hb s ih => exact .blank (get_join r hc) hb ih
  | rem hc hb hr s ih =>
    refine .rem (get_join r hc) hb hr ?_
    rw [remF_join a r (by have := lt_of hc; omega)]
    exact ih
  | tok hc hb hr he s ih =>
    rename_i c
    have e1 := tokF_join a r c (lt_of hc)
    rw [← e1]
    refine .tok (get_join r hc) hb hr (by rw [e1]; exact he) ?_
    rw [wordF_join a r c (lt_of hc)]
    exact ih
theorem Bad.join {a : List UInt8} (r : List UInt8) {m : Nat} {e : Int} (b : Bad a m e) : Bad (a ++ 10 :: r) m e := by
  obtain ⟨⟨c, hc, hb, hr, he⟩, hne⟩ := b
  exact ⟨⟨c, get_join r hc, hb, hr, by rw [tokF_join a r c (lt_of hc)]; exact he⟩, hne⟩
/-! ### a text behind another -/
theorem get_behind (p : List UInt8) {b : List UInt8} {n : Nat} {c : UInt8} (hc : b[n]? = some c) : (p ++ b)[p.length + n]? = some c := by
  rw [List.getElem?_append_right (by omega), Nat.add_sub_cancel_left]; exact hc
theorem drop_behind (p b : List UInt8) (n : Nat) : (p ++ b).drop (p.length + n) = b.drop n := by
  rw [List.drop_append]
  simp
theorem wordF_behind (p b : List UInt8) (n : Nat) (c : UInt8) : wordF (p ++ b) (p.length + n) c = wordF b n c := by
  unfold wordF
  rw [drop_behind]
theorem tokF_behind (p b : List UInt8) (n : Nat) (c : UInt8) : tokF (p ++ b) (p.length + n) c = (Tok.shift p.length (tokF b n c).1, (tokF b n c).2) := by
  unfold tokF
  rw [wordF_behind]
  have e : (((p.length + n : Nat) : Int)) = (n : Int) + (p.length : Int) := by omega
  rw [e]
  split
  · rfl
  · split
    · rfl
    · split
      · split <;> rfl
      · rfl
theorem Sc.behind (p : List UInt8) {b : List UInt8} {n m : Nat} {ts : List Tok} (s : Sc b n ts m) : Sc (p ++ b) (p.length + n) (ts.map (Tok.shift p.length)) (p.length + m) := by
  induction s with
  | nil h => exact .nil (by rw [List.length_append]; omega)
  | blank hc hb s ih => exact .blank (get_behind p hc) hb ih
  | rem hc hb hr s ih =>
    refine .rem (get_behind p hc) hb hr ?_
    rw [drop_behind, Nat.add_assoc]
    exact ih
  | tok hc hb hr he s ih =>
    rename_i n' m' ts' c
    have e1 := tokF_behind p b n' c
    have e2 : Tok.shift p.length (tokF b n' c).1 = (tokF (p ++ b) (p.length + n') c).1 := by rw [e1]
    rw [List.map_cons, e2]
    refine .tok (get_behind p hc) hb hr (by rw [e1]; exact he) ?_
    rw [wordF_behind, Nat.add_assoc]
    exact ih
theorem Bad.behind (p : List UInt8) {b : List UInt8} {m : Nat} {e : Int} (x : Bad b m e) : Bad (p ++ b) (p.length + m) e := by
  obtain ⟨⟨c, hc, hb, hr, he⟩, hne⟩ := x
  exact ⟨⟨c, get_behind p hc, hb, hr, by rw [tokF_behind]; exact he⟩, hne⟩
theorem Sc.trans {t : List UInt8} {n m q : Nat} {a b : List Tok} (s : Sc t n a m) (r : Sc t m b q) : Sc t n (a ++ b) q := by
  induction s with
  | nil h => exact r
  | blank hc hb s ih => exact .blank hc hb (ih r)
  | rem hc hb hr s ih => exact .rem hc hb hr (ih r)
  | tok hc hb hr he s ih => exact .tok hc hb hr he (ih r)
theorem Sc.okF {text : List UInt8} {ts : List Tok} (s : Sc text 0 ts text.length) (hl : text.length ≤ 262144) : scanF text = .ok (ts ++ [⟨0, (text.length : Nat), [], 0⟩]) := by
  have := s.scan hl
  rw [List.take_length] at this
  exact this
theorem Sc.errF {text : List UInt8} {m : Nat} {e : Int} {ts : List Tok} (s : Sc text 0 ts m) (b : Bad text m e) (hl : text.length ≤ 262144) : scanF text = .error (m, e) := by
  obtain ⟨⟨c, hc, hb, hr, he⟩, hne⟩ := b
  unfold scanF
  rw [if_neg (by omega), s.run (text.length + 1) (text.length - m + 1) (by omega) (by omega), allF_step hc, hb, hr]
  simp only [Bool.false_eq_true, if_false]
  rw [if_neg (by rw [he]; exact hne), he]
  rfl
/-- the line feed's own token -/
theorem Sc.line (a r : List UInt8) : Sc (a ++ 10 :: r) a.length [⟨1, a.length, [10], 0⟩] (a.length + 1) := by
  have hc : (a ++ 10 :: r)[a.length]? = some 10 := by simp
  have hw : wordF (a ++ 10 :: r) a.length 10 = [10] := by
    unfold wordF
    rw [drop_join a r (Nat.le_refl _)]
    simp [longF, kindF]
  have ht : tokF (a ++ 10 :: r) a.length 10 = (⟨1, a.length, [10], 0⟩, 0) := by
    unfold tokF
    rw [hw]
    rfl
  have := Sc.tok (text := a ++ 10 :: r) (n := a.length) (m := a.length + 1) (ts := []) hc rfl rfl (by rw [ht]) (by
    rw [hw]
    exact .nil (by simp))
  rw [ht] at this
  exact this
theorem joined {a b : List UInt8} {ts us : List Tok} {m : Nat} (s : Sc a 0 ts a.length) (r : Sc b 0 us m) : Sc (a ++ 10 :: b) 0 (ts ++ ⟨1, a.length, [10], 0⟩ :: us.map (Tok.shift (a.length + 1))) (a.length + 1 + m) := by
  have h1 := s.join b
  have h2 := Sc.line a b
  have h3 := r.behind (a ++ [10])
  have e : (a ++ [10]) ++ b = a ++ 10 :: b := by simp
  have e2 : (a ++ [10]).length = a.length + 1 := by simp
  rw [e, e2] at h3
  have := h1.trans (h2.trans h3)
  simpa using this
theorem All_any (k : Nat) (text : List UInt8) (hk : min text.length 262144 + 6 ≤ k) (h : H) : ∃ sl v h', (∀ (α : Type) (ret : Sl → V → M α), scan_All.f (k + 1) text ret h = ret sl v h') ∧ Ext h h' := by
  have := All_run k text hk h
  cases hs : scanF text with
  | ok ts => rw [hs] at this; obtain ⟨sl, h', e, x, _⟩ := this; exact ⟨sl, .nilIface, h', e, x⟩
  | error me => rw [hs] at this; obtain ⟨m, e⟩ := me; obtain ⟨p, h', e, x, _⟩ := this; exact ⟨Sl.nil, _, h', e, x⟩
theorem cat_run {α : Type} {h : H} {a b : List UInt8} {K : List UInt8 → M α} (hl : a.length + b.length ≤ 4611686018427387904) : cat a b K h = K (a ++ b) h := by
  unfold cat
  rw [need_run (Nat.ble_eq_true_of_le hl)]
theorem Joins_run (a b : List UInt8) (ha : a.length ≤ reachBytes) (hb : b.length ≤ reachBytes) (h : H) (k : Nat) (hk : 262144 + 40 ≤ k) : ∃ h', ∀ (α : Type) (ret : Bool → M α), bailifflaw02_ScanJoins.f (k + 1) a b ret h = ret true h' := by
  have ha' : a.length ≤ 140737488351232 := ha
  have hb' : b.length ≤ 140737488351232 := hb
  obtain ⟨k, rfl⟩ : ∃ q, k = q + 2 := ⟨k - 2, by omega⟩
  obtain ⟨h1, e1, x1⟩ := shown_run (k + 1) (by omega) h
  have eab : (a ++ [10]) ++ b = a ++ 10 :: b := by simp
  have hcat : ∀ (α : Type) (hh : H) (K : List UInt8 → M α), (cat a [10] fun x9 => cat x9 b K) hh = K (a ++ 10 :: b) hh := by
    intro α hh K
    rw [cat_run (by simp; omega), cat_run (by simp; omega), eab]
  have hlen : (a ++ 10 :: b).length = a.length + 1 + b.length := by simp; omega
  have hw : w64 ((w64 ((a.length : Int) + 1)) + (b.length : Int)) = a.length + 1 + b.length := by
    rw [w64_eq (n := (a.length : Int) + 1) (by omega) (by omega), w64_eq (by omega) (by omega)]
  have hw1 : w64 ((a.length : Int) + 1) = a.length + 1 := w64_eq (by omega) (by omega)
  by_cases hbig : 262144 < a.length + 1 + b.length
  · -- too long
    obtain ⟨s2, v2, h2, e2, x2⟩ := All_any (k + 1) a (by omega) h1
    obtain ⟨s3, v3, h3, e3, x3⟩ := All_any (k + 1) b (by omega) h2
    have a4 := All_run (k + 1) (a ++ 10 :: b) (by omega) h3
    rw [show scanF (a ++ 10 :: b) = .error (262144, 2) by unfold scanF; rw [if_pos (by omega)]] at a4
    obtain ⟨p, h4, e4, x4, _, p4, g4⟩ := a4
    refine ⟨h4.push (.cells [.ptr (some ⟨p, 0⟩)] true), fun α ret => ?_⟩
    simp only [bailifflaw02_ScanJoins.f]
    unfold bailifflaw02_ScanJoins.u1.f
    rw [e1, e2, e3, hcat, e4, fault_run k _ h4 p (262144 : Int) 2 p4 g4, hw, Bool.not_true, cond_false, show decide ((262144 : Int) < (a.length : Int) + 1 + (b.length : Int)) = true by simp; omega, cond_true]
    rfl
  · have hsm : decide ((262144 : Int) < (a.length : Int) + 1 + (b.length : Int)) = false := by simp; omega
    have a2 := All_run (k + 1) a (by omega) h1
    rcases scanF_cases a with ⟨hl, hs⟩ | ⟨hl, ts, sa, hs⟩ | ⟨hl, m, e, ts, sa, bd, hs⟩
    · omega
    · rw [hs] at a2
      obtain ⟨s2, h2, e2, x2, r2, _, b2, _⟩ := a2
      have a3 := All_run (k + 1) b (by omega) h2
      rcases scanF_cases b with ⟨hl', hs'⟩ | ⟨hl', us, sb, hs'⟩ | ⟨hl', m, e, us, sb, bd, hs'⟩
      · omega
      · -- both are taken
        rw [hs'] at a3
        obtain ⟨s3, h3, e3, x3, r3, _, b3, _⟩ := a3
        have a4 := All_run (k + 1) (a ++ 10 :: b) (by omega) h3
        have hj := joined sa sb
        have hall := Sc.okF (text := a ++ 10 :: b) (by rw [hlen]; exact hj) (by omega)
        rw [hall] at a4
        obtain ⟨s4, h4, e4, x4, r4, _, b4, _⟩ := a4
        have l2 := row_slen r2
        have l3 := row_slen r3
        have l4 := row_slen r4
        simp only [List.length_append, List.length_cons, List.length_nil, List.length_map] at l2 l3 l4 b2 b3 b4
        have r2' := (r2.ext x3).ext x4
        have r3' := r3.ext x4
        have hpos : ∀ t ∈ ts ++ [(⟨0, (a.length : Nat), [], 0⟩ : Tok)], -4611686018427387904 ≤ t.pos ∧ t.pos ≤ 4611686018427387904 := by
          intro t ht
          obtain ⟨i, hi⟩ := List.mem_iff_getElem?.1 ht
          by_cases hlt : i < ts.length
          · rw [List.getElem?_append_left hlt] at hi
            obtain ⟨p, q1, _, q3⟩ := sa.split hi
            omega
          · rw [List.getElem?_append_right (by omega)] at hi
            have : t = ⟨0, (a.length : Nat), [], 0⟩ := by
              rcases Nat.eq_zero_or_pos (i - ts.length) with h0 | h0
              · rw [h0] at hi; simpa using hi.symm
              · rw [List.getElem?_eq_none (by simp; omega)] at hi; cases hi
            subst this
            show -4611686018427387904 ≤ (a.length : Int) ∧ (a.length : Int) ≤ 4611686018427387904
            omega
        have hposb : ∀ t ∈ us ++ [(⟨0, (b.length : Nat), [], 0⟩ : Tok)], -4611686018427387904 ≤ t.pos ∧ t.pos ≤ 4611686018427387904 := by
          intro t ht
          obtain ⟨i, hi⟩ := List.mem_iff_getElem?.1 ht
          by_cases hlt : i < us.length
          · rw [List.getElem?_append_left hlt] at hi
            obtain ⟨p, q1, _, q3⟩ := sb.split hi
            omega
          · rw [List.getElem?_append_right (by omega)] at hi
            have : t = ⟨0, (b.length : Nat), [], 0⟩ := by
              rcases Nat.eq_zero_or_pos (i - us.length) with h0 | h0
              · rw [h0] at hi; simpa using hi.symm
              · rw [List.getElem?_eq_none (by simp; omega)] at hi; cases hi
            subst this
            show -4611686018427387904 ≤ (b.length : Int) ∧ (b.length : Int) ≤ 4611686018427387904
            omega
        have hk1 : w64 ((s2.len : Int) - 1) = (ts.length : Int) := by rw [w64_eq (by omega) (by omega)]; omega
        obtain ⟨c1, f1, v1⟩ := cut_to r2' hk1 (by simp) (by simp)
        obtain ⟨c2, f2, v2⟩ := cut_to r4 hk1 (by simp) (by simp)
        have t1 : (ts ++ [(⟨0, (a.length : Nat), [], 0⟩ : Tok)]).take ts.length = ts := by simp
        have t2 : ((ts ++ ⟨1, a.length, [10], 0⟩ :: us.map (Tok.shift (a.length + 1))) ++ [(⟨0, ((a ++ 10 :: b).length : Nat), [], 0⟩ : Tok)]).take ts.length = ts := by simp
        rw [t1] at v1
        rw [t2] at v2
        obtain ⟨h5, e5, x5⟩ := same_run (k + 1) 0 v1 v2 (by omega) (by omega) (fun t ht => hpos t (List.mem_append_left _ ht)) (by omega) (by
          rw [show (Tok.shift 0) = id from funext fun t => by simp [Tok.shift]]; simp)
        have r4' := r4.ext x5
        have hk2 : w64 (w64 ((s2.len : Int) - 1) + 1) = ((ts.length + 1 : Nat) : Int) := by rw [hk1, w64_eq (by omega) (by omega)]; omega
        obtain ⟨c3, f3, v3⟩ := cut_from r4' hk2 (by simp) (by simp)
        have t3 : ((ts ++ ⟨1, a.length, [10], 0⟩ :: us.map (Tok.shift (a.length + 1))) ++ [(⟨0, ((a ++ 10 :: b).length : Nat), [], 0⟩ : Tok)]).drop (ts.length + 1) = (us ++ [(⟨0, (b.length : Nat), [], 0⟩ : Tok)]).map (Tok.shift (a.length + 1)) := by
          have e : (ts ++ ⟨1, a.length, [10], 0⟩ :: us.map (Tok.shift (a.length + 1))) ++ [(⟨0, ((a ++ 10 :: b).length : Nat), [], 0⟩ : Tok)] = (ts ++ [(⟨1, a.length, [10], 0⟩ : Tok)]) ++ (us.map (Tok.shift (a.length + 1)) ++ [(⟨0, ((a ++ 10 :: b).length : Nat), [], 0⟩ : Tok)]) := by simp
          rw [e, List.drop_left' (by simp), List.map_append, hlen]
          congr 1
          simp only [List.map_cons, List.map_nil, Tok.shift]
          congr 2
          omega
        rw [t3] at v3
        obtain ⟨h6, e6, x6⟩ := same_run (k + 1) ((a.length : Int) + 1) (view_row (r3'.ext x5)) v3 (by simp; omega) (by simp; omega) hposb (by omega) rfl
        refine ⟨h6, fun α ret => ?_⟩
        simp only [bailifflaw02_ScanJoins.f]
        unfold bailifflaw02_ScanJoins.u1.f
        rw [e1, e2, e3, hcat, e4, fault_nil, hw, hsm]
        simp only [Bool.not_true, cond_false, asNil_nil]
        rw [show decide ((s2.len : Int) = 0) = false by simp; omega, cond_false, show decide ((s4.len : Int) = w64 ((s2.len : Int) + (s3.len : Int))) = true by rw [w64_eq (by omega) (by omega)]; simp; omega,
          Bool.not_true, cond_false, f1, f2, e5, cond_true]
        rw [hk1, tok_rd r4' (i := ts.length) rfl (t := ⟨1, a.length, [10], 0⟩) (by simp)]
        simp only [decide_true, Bool.and_self, cond_true]
        rw [← hk1, f3, hw1, e6]
      · -- the second is not taken
        rw [hs'] at a3
        obtain ⟨p3, h3, e3, x3, _, p3', g3⟩ := a3
        have a4 := All_run (k + 1) (a ++ 10 :: b) (by omega) h3
        have hj := joined sa sb
        have hbd := bd.behind (a ++ [10])
        have hl10 : (a ++ [10]).length = a.length + 1 := by simp
        rw [eab, hl10] at hbd
        rw [hj.errF hbd (by omega)] at a4
        obtain ⟨p4, h4, e4, x4, _, p4', g4⟩ := a4
        have hm := (bad_err bd).1
        refine ⟨(h4.push (.cells [.ptr (some ⟨p4, 0⟩)] true)).push (.cells [.ptr (some ⟨p3, 0⟩)] true), fun α ret => ?_⟩
        simp only [bailifflaw02_ScanJoins.f]
        unfold bailifflaw02_ScanJoins.u1.f
        rw [e1, e2, e3, hcat, e4, fault_run k _ h4 p4 _ e p4' g4, hw, hsm]
        simp only [Bool.not_true, cond_false, asNil_nil, asNil_iface, Bool.not_false, cond_true]
        have hx4 := x4.1
        rw [fault_run k _ (h4.push (.cells [.ptr (some ⟨p4, 0⟩)] true)) p3 (m : Int) e (by rw [push_next]; omega) (by rw [push_get, if_neg (by omega), x4.2 _ p3']; exact g3)]
        rw [hw1, w64_eq (by omega) (by omega), show decide ((((a.length + 1 + m : Nat)) : Int) = (a.length : Int) + 1 + (m : Int)) = true by simp, cond_true]
        simp
    · -- the first is not taken
      rw [hs] at a2
      obtain ⟨p2, h2, e2, x2, _, p2', g2⟩ := a2
      obtain ⟨s3, v3, h3, e3, x3⟩ := All_any (k + 1) b (by omega) h2
      have a4 := All_run (k + 1) (a ++ 10 :: b) (by omega) h3
      rw [(sa.join b).errF (bd.join b) (by omega)] at a4
      obtain ⟨p4, h4, e4, x4, _, p4', g4⟩ := a4
      refine ⟨(h4.push (.cells [.ptr (some ⟨p4, 0⟩)] true)).push (.cells [.ptr (some ⟨p2, 0⟩)] true), fun α ret => ?_⟩
      simp only [bailifflaw02_ScanJoins.f]
      unfold bailifflaw02_ScanJoins.u1.f
      rw [e1, e2, e3, hcat, e4, fault_run k _ h4 p4 _ e p4' g4, hw, hsm]
      simp only [Bool.not_true, cond_false, asNil_nil, asNil_iface, Bool.not_false, cond_true]
      have hx3 := x3.1
      have hx4 := x4.1
      rw [fault_run k _ (h4.push (.cells [.ptr (some ⟨p4, 0⟩)] true)) p2 (m : Int) e (by rw [push_next]; omega) (by rw [push_get, if_neg (by omega), x4.2 _ (by omega), x3.2 _ p2']; exact g2)]
      simp
theorem Joins_law (a b : List UInt8) (ha : a.length ≤ reachBytes) (hb : b.length ≤ reachBytes) : ∃ k h', ∀ (α : Type) (ret : Bool → M α), bailifflaw02_ScanJoins.f (k + 1) a b ret h0 = ret true h' :=
  ⟨262184, Joins_run a b ha hb h0 262184 (by decide)⟩
end Go.Ab.S2
