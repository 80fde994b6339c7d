import Derived.Test.YtkfoohgkbafafaaDoorS6st
import Derived.Test.YtkfoohgkbafafaaDoorS6s
import Derived.Test.YtkfoohgkbafafaaDoorS6tk
namespace Go.Ab.S6
set_option linter.unusedVariables false
set_option linter.unusedSimpArgs false
variable {α : Type} {h : H}
section
variable {f : Sl} {l : List Nd} {b : Ad} {h₀ : H}
theorem tr_root (t : Tr) (base : Nat) : (t.flat base)[t.size - 1]? = some (t.node base) := by
  cases t with
  | leaf k s p => rfl
  | un k s p a =>
    simp only [Tr.flat, Tr.size]
    rw [List.getElem?_append_right (by rw [flat_length]; omega), flat_length]
    simp
  | bin k s p a b =>
    simp only [Tr.flat, Tr.size]
    rw [List.getElem?_append_right (by rw [flat_length]; omega), flat_length, List.getElem?_append_right (by rw [flat_length]; omega), flat_length, show a.size + b.size + 1 - 1 - a.size - b.size = 0 by omega]
    rfl
theorem node_kind (t : Tr) (base : Nat) : (t.node base).kind = t.kind := by cases t <;> rfl
theorem root_at {t : Tr} {base : Nat} (hfl : ∀ i n, (t.flat base)[i]? = some n → l[base + i]? = some n) : l[base + t.size - 1]? = some (t.node base) := by
  have := hfl _ _ (tr_root t base)
  have hp := Tr.pos t
  rw [show base + t.size - 1 = base + (t.size - 1) by omega]
  exact this
theorem opd_run (r : NdR h₀ f l) {t : Tr} (ht : t.ok = true) (W : WrRun f l b h₀ t) {base : Nat} (hfl : ∀ i n, (t.flat base)[i]? = some n → l[base + i]? = some n) {k : Nat} (hk : 2 * t.size + 21 ≤ k) (over : Int) (first : Bool) (h : H) (acc : List UInt8) (x : Ext h₀ h) (B : Bd h₀.next h b acc) (hl : acc.length + 20 * t.size + 2 ≤ 900000000) :
    ∃ h', (∀ (α : Type) (K : M α), syntax_operand.f k b f ((base + t.size - 1 : Nat) : Int) over first K h = K h') ∧ Ext h₀ h' ∧ Bd h₀.next h' b (acc ++ paren (brk over t.kind first) (prT t)) ∧ Plain h h' := by
  obtain ⟨k, rfl⟩ : ∃ q, k = q + 3 := ⟨k - 3, by omega⟩
  have := operand_run k r (root_at hfl) (w := prT t) (prT_len t ht) (fun h acc x B hl => W base (k + 2) hfl (by omega) h acc x B hl) over first h acc x B hl
  rw [node_kind] at this
  exact this
theorem ar_67 {kd : Int} (h : arF kd ≠ 2) : kd ≠ 6 ∧ kd ≠ 7 := by
  constructor <;> (rintro rfl; exact h (by decide))
theorem ar_two {kd : Int} (h : arF kd = 2) : kd = 6 ∨ kd = 7 := by
  unfold arF at h
  split at h
  · omega
  split at h
  · omega
  split at h
  · assumption
  · omega
theorem bel_of {kd : Int} {m : Int} (h : arF kd = m) (h0 : 0 ≤ m) : belF kd = m := by
  unfold belF
  rw [if_neg (by omega), h]
theorem head_go (r : NdR h₀ f l) {i : Nat} {n : Nd} (hn : l[i]? = some n) (hok : namedF n.kind n.name = true) (h2 : arF n.kind ≠ 2) (k : Nat) (hk : 20 ≤ k) (h : H) (acc : List UInt8) (x : Ext h₀ h) (B : Bd h₀.next h b acc) (hl : acc.length + (headP n.kind n.name).length ≤ 900000000) :
    ∃ h', (∀ (α : Type) (K : M α), syntax_write.f (k + 1) b f (i : Int) K h = cond (decide (belF n.kind = 1)) (syntax_operand.f k b f n.a n.kind true K) K h') ∧ Ext h₀ h' ∧ Bd h₀.next h' b (acc ++ headP n.kind n.name) ∧ Plain h h' := by
  obtain ⟨k, rfl⟩ : ∃ q, k = q + 2 := ⟨k - 2, by omega⟩
  have hs := named_len hok
  have hx := headP_len n.kind hs
  have x1 : Ext h (h.push (ndC n)) := (Ext.refl h).push _
  have hq : (h.push (ndC n)).get h.next = some (ndC n) := by rw [push_get, if_pos rfl]
  obtain ⟨h2', e2, B2, g2, p2⟩ := ws_run k (B.ext x1) (headP n.kind n.name) (by omega)
  have hlt : h.next < (h.push (ndC n)).next := by rw [push_next]; omega
  have hq2 : h2'.get h.next = some (ndC n) := p2.2 _ _ _ hlt hq
  have x2 : Ext h₀ h2' := ext_of (x.trans x1) g2 p2.1
  have x3 : Ext h2' (h2'.push (ndC n)) := (Ext.refl h2').push _
  have hq3 : (h2'.push (ndC n)).get h.next = some (ndC n) := by rw [x3.2 _ (by have := p2.1; omega)]; exact hq2
  obtain ⟨a6, a7⟩ := ar_67 h2
  refine ⟨h2'.push (ndC n), fun α K => ?_, x2.trans x3, B2.ext x3, ((Ext.plain x1).trans p2).trans (Ext.plain x3)⟩
  rw [write_head (k + 2) (r.ext x) hn hs a6 a7, e2, syntax_write.u2.f, own_all hq2, below_run (k + 1) (by omega)]
  by_cases hb : belF n.kind = 1
  · rw [dT hb, cond_true, cond_true]
    show (ldI .i64 (((⟨h.next, 0⟩ : Ad).add 1).add 0) _) (h2'.push (ndC n)) = _
    rw [own_a hq3, own_kind hq3]
  · rw [dF hb, cond_false, cond_false]
theorem write_run (r : NdR h₀ f l) : ∀ t : Tr, t.ok = true → WrRun f l b h₀ t
  | .leaf kd s p, hok => by
    intro base k hfl hk h acc x B hl
    simp only [Tr.ok, Bool.and_eq_true, decide_eq_true_eq] at hok
    obtain ⟨k, rfl⟩ : ∃ q, k = q + 1 := ⟨k - 1, by omega⟩
    have hi := root_at hfl
    obtain ⟨h', e, x', B', p'⟩ := head_go r hi hok.2 (by show arF kd ≠ 2; rw [hok.1]; decide) k (by simp only [Tr.size] at hk; omega) h acc x B (by have := headP_len kd (named_len hok.2); simp only [Tr.size] at hl; show acc.length + (headP kd s).length ≤ _; omega)
    refine ⟨h', fun α K => ?_, x', B', p'⟩
    rw [e, dF (by rw [show belF ((Tr.leaf kd s p).node base).kind = 0 from bel_of hok.1 (by decide)]; decide), cond_false]
  | .un kd s p a, hok => by
    intro base k hfl hk h acc x B hl
    simp only [Tr.ok, Bool.and_eq_true, decide_eq_true_eq] at hok
    obtain ⟨k, rfl⟩ : ∃ q, k = q + 1 := ⟨k - 1, by omega⟩
    have hi := root_at hfl
    have hsub := flat_sub (l := l) (a := a) (base := base) (rest := [(Tr.un kd s p a).node base]) hfl
    have hh := headP_len kd (named_len hok.1.2)
    simp only [Tr.size] at hk hl
    obtain ⟨h1, e1, x1, B1, p1⟩ := head_go r hi hok.1.2 (by show arF kd ≠ 2; rw [hok.1.1]; decide) k (by omega) h acc x B (by show acc.length + (headP kd s).length ≤ _; omega)
    obtain ⟨h2, e2, x2, B2, p2⟩ := opd_run r hok.2 (write_run r a hok.2) hsub.1 (k := k) (by omega) kd true h1 _ x1 B1 (by show (acc ++ headP kd s).length + _ + 2 ≤ _; rw [List.length_append]; omega)
    refine ⟨h2, fun α K => ?_, x2, ?_, p1.trans p2⟩
    · rw [e1, dT (show belF ((Tr.un kd s p a).node base).kind = 1 from bel_of hok.1.1 (by decide)), cond_true]
      exact e2 α K
    · rw [prT, ← List.append_assoc]; exact B2
  | .bin kd s p a c, hok => by
    intro base k hfl hk h acc x B hl
    simp only [Tr.ok, Bool.and_eq_true, decide_eq_true_eq] at hok
    obtain ⟨k, rfl⟩ : ∃ q, k = q + 3 := ⟨k - 3, by omega⟩
    have hi := root_at hfl
    have hs1 := flat_sub (l := l) (a := a) (base := base) (rest := c.flat (base + a.size) ++ [(Tr.bin kd s p a c).node base]) hfl
    have hs2 := flat_sub (l := l) (a := c) (base := base + a.size) (rest := [(Tr.bin kd s p a c).node base]) hs1.2
    have hk2 := ar_two hok.1.1.1
    simp only [Tr.size] at hk hl
    have hsg : (if kd = 7 then [32, 124, 32] else [32, 38, 32] : List UInt8).length = 3 := by split <;> rfl
    have hla := paren_len (brk kd a.kind true) (prT a)
    have hlb := prT_len a hok.1.2
    have x1 : Ext h (h.push (ndC ((Tr.bin kd s p a c).node base))) := (Ext.refl h).push _
    have hq : (h.push (ndC ((Tr.bin kd s p a c).node base))).get h.next = some (ndC ((Tr.bin kd s p a c).node base)) := by rw [push_get, if_pos rfl]
    have hlt : h.next < (h.push (ndC ((Tr.bin kd s p a c).node base))).next := by rw [push_next]; omega
    obtain ⟨h2, e2, x2, B2, p2⟩ := opd_run r hok.1.2 (write_run r a hok.1.2) hs1.1 (k := k + 2) (by omega) kd true _ _ (x.trans x1) (B.ext x1) (by omega)
    have hq2 := p2.2 _ _ _ hlt hq
    obtain ⟨h3, e3, B3, g3, p3⟩ := ws_run k B2 (if kd = 7 then [32, 124, 32] else [32, 38, 32]) (by rw [List.length_append]; omega)
    have hlt2 : h.next < h2.next := Nat.lt_of_lt_of_le hlt p2.1
    have hq3 := p3.2 _ _ _ hlt2 hq2
    obtain ⟨h4, e4, x4, B4, p4⟩ := opd_run r hok.2 (write_run r c hok.2) hs2.1 (k := k + 2) (by omega) kd false _ _ (ext_of x2 g3 p3.1) B3 (by rw [List.length_append, List.length_append]; omega)
    refine ⟨h4, fun α K => ?_, x4, ?_, (((Ext.plain x1).trans p2).trans p3).trans p4⟩
    · rw [write_two (k + 2) (r.ext x) hi hk2]
      refine (e2 α _).trans ?_
      rw [own_kind hq2]
      by_cases h7 : kd = 7
      · rw [if_pos h7] at e3
        rw [dT (show ((Tr.bin kd s p a c).node base).kind = 7 from h7), cond_true, e3, own_b hq3, own_kind hq3]
        exact e4 α K
      · rw [if_neg h7] at e3
        rw [dF (show ¬ ((Tr.bin kd s p a c).node base).kind = 7 from h7), cond_false, e3, own_b hq3, own_kind hq3]
        exact e4 α K
    · rw [prT, ← List.append_assoc, ← List.append_assoc]; exact B4
end
end Go.Ab.S6
namespace Go.Ab.S6
set_option linter.unusedVariables false
set_option linter.unusedSimpArgs false
variable {α : Type} {h : H}
theorem newT_run {t : Nat} {cs : List V} {K : Ad → M α} (hc : cs.all oneV = true) : newT t cs K h = K ⟨h.next, 0⟩ (h.push (.cellsT t true cs)) := by
  unfold newT; rw [need_run hc]
theorem print_run (k : Nat) (hk : 200 ≤ k) {f : Sl} {t : Tr} (ht : t.ok = true) (hs : t.size ≤ 60) (h : H) (r : NdR h f (t.flat 0)) :
    ∃ h', (∀ (α : Type) (ret : List UInt8 → M α), syntax_Print.f (k + 1) f ret h = ret (prT t) h') ∧ Ext h h' := by
  obtain ⟨k, rfl⟩ : ∃ q, k = q + 1 := ⟨k - 1, by omega⟩
  have hR : rightF (t.flat 0) = true := (right_iff _).2 ⟨t, ht, rfl, hs⟩
  obtain ⟨h1, e1, x1⟩ := right_run k (by omega) h r
  have hpos := Tr.pos t
  have hlen := nd_slen r
  rw [flat_length] at hlen
  have x2 : Ext h1 (h1.push (.cellsT 42 true [.ptr none, .slice Sl.nil])) := (Ext.refl h1).push _
  have B : Bd h1.next (h1.push (.cellsT 42 true [.ptr none, .slice Sl.nil])) ⟨h1.next, 0⟩ [] :=
    ⟨rfl, by show h1.next < h1.next + 1; omega, Nat.le_refl _, .ptr none, Sl.nil, by show (h1.push _).get h1.next = _; rw [push_get, if_pos rfl], .inl rfl, .inl ⟨rfl, rfl⟩⟩
  obtain ⟨h3, e3, x3, B3, _⟩ := write_run (b := ⟨h1.next, 0⟩) (r.ext x1) t ht 0 (k + 1) (fun i n hi => by rw [Nat.zero_add]; exact hi) (by omega) _ [] x2 B (by simp; omega)
  obtain ⟨h4, e4, g4, n4⟩ := bs_run k B3 (by have := prT_len t ht; rw [List.nil_append]; omega)
  refine ⟨h4, fun α ret => ?_, x1.trans (ext_of x3 g4 n4)⟩
  rw [syntax_Print.f, syntax_Print.u1.f, e1, hR, Bool.not_true, cond_false, newT_run rfl, hlen, w64_eq (by omega) (by omega)]
  rw [show ((t.size : Int) - 1) = ((0 + t.size - 1 : Nat) : Int) by omega, e3, e4, List.nil_append]
section
variable {f : Sl} {l : List Nd} {h₀ : H}
end
end Go.Ab.S6
namespace Go.Ab.S6
set_option linter.unusedVariables false
set_option linter.unusedSimpArgs false
theorem Room.le {n : Nat} (h : Room n) : n ≤ 4611686018427387900 := by unfold Room at h; omega
end Go.Ab.S6
namespace Go.Ab.S6
set_option linter.unusedVariables false
set_option linter.unusedSimpArgs false
variable {α : Type} {h : H}
def ty1 : Tr := .bin 7 [] 6 (.bin 6 [] 2 (.leaf 3 [112] 0) (.leaf 3 [113] 4)) (.un 5 [] 8 (.leaf 3 [114] 9))
theorem py1 : parseF [112, 32, 38, 32, 113, 32, 124, 32, 126, 114] = .ok (ty1.flat 0) := by kernel_rfl
theorem shown4_run (k : Nat) (hk : 4000000 ≤ k) (h : H) : ∃ h', (∀ (α : Type) (ret : Bool → M α), w4shown.f (k + 1) ret h = ret true h') ∧ Ext h h' := by
  obtain ⟨k, rfl⟩ : ∃ q, k = q + 1 := ⟨k - 1, by omega⟩
  have a1 := parse_run k (by omega) [112, 32, 38, 32, 113, 32, 124, 32, 126, 114] h
  rw [py1] at a1
  obtain ⟨h1, s1, e1, x1, p1, _⟩ := a1
  obtain ⟨h2, e2, x2⟩ := print_run k (by omega) (t := ty1) (by decide) (by decide) h1 p1.rd
  refine ⟨h2, fun α ret => ?_, x1.trans x2⟩
  have hl : s1.len = 6 := nd_slen p1.rd
  have hn : (ty1.flat 0)[5]? = some ⟨7, 2, 4, [], 6⟩ := by decide
  rw [w4shown.f, w4shown.u1.f, e1, asNil_nil, Bool.not_true, cond_false, hl, dT (by decide : ((6 : Nat) : Int) = 6), Bool.not_true, cond_false, nd_rd p1.rd (x := 5) (i := 5) rfl hn]
  rw [show (decide ((7 : Int) = 7) && (decide ((2 : Int) = 2) && (decide ((4 : Int) = 4) && (decide (([] : List UInt8) = []) && (decide ((6 : Int) = 6) && true))))) = true from rfl, cond_true, e2]
  rw [dT (by decide : prT ty1 = [112, 32, 38, 32, 113, 32, 124, 32, 126, 114])]
end Go.Ab.S6
namespace Go.Ab.S6
set_option linter.unusedVariables false
set_option linter.unusedSimpArgs false
variable {α : Type} {h : H}
theorem parseF_or (text : List UInt8) : (∃ F ts t, parseF text = .ok F ∧ Psd text F ts t) ∨ ∃ e, parseF text = .error e := by
  cases hp : parseF text with
  | ok F =>
    obtain ⟨ts, t, p⟩ := parsed hp
    exact .inl ⟨F, ts, t, rfl, p⟩
  | error e => exact .inr ⟨e, rfl⟩
theorem parse_good (k : Nat) (hk : 3000000 ≤ k) {text : List UInt8} {l : List Nd} (hp : parseF text = .ok l) (h : H) :
    ∃ h' s, (∀ (α : Type) (ret : Sl → V → M α), syntax_Parse.f (k + 1) text ret h = ret s .nilIface h') ∧ Ext h h' ∧ App h' s 5 (cN l) ∧ Owned h s := by
  have := parse_run k hk text h
  rw [hp] at this
  exact this
theorem parse_fails (k : Nat) (hk : 3000000 ≤ k) {text : List UInt8} {e : Er} (hp : parseF text = .error e) (h : H) :
    ∃ h' q, (∀ (α : Type) (ret : Sl → V → M α), syntax_Parse.f (k + 1) text ret h = ret Sl.nil (.iface 56 (.ptr (some ⟨q, 0⟩))) h') ∧ Ext h h' ∧ h.next ≤ q ∧ q < h'.next ∧ h'.get q = some (.cells [.int .i64 e.1, .int .i64 e.2] true) := by
  have := parse_run k hk text h
  rw [hp] at this
  exact this
theorem cut20 (text : List UInt8) (K : List UInt8 → M α) : cutStr text none (some (if 20000 < (text.length : Int) then 20000 else (text.length : Int))) K h = K (text.take (min text.length 20000)) h := by
  have e : (if 20000 < (text.length : Int) then 20000 else (text.length : Int)) = ((min text.length 20000 : Nat) : Int) := by split <;> omega
  rw [e, cutStr_to rfl (by omega)]
theorem eq_nd (a b : Nd) : (decide (a.kind = b.kind) && (decide (a.a = b.a) && (decide (a.b = b.b) && (decide (a.name = b.name) && (decide (a.pos = b.pos) && true))))) = decide (a = b) := nd_eq a b
theorem set_own {h : H} {n : Nd} {j : Nat} {v : V} (n' : Nd) (hj : j < 5) (hv : oneV v = true) (hs : n'.cells = n.cells.set j v) (K : M α) : st1 (((⟨h.next, 0⟩ : Ad).add j).add 0) v K (h.push (ndC n)) = K (h.push (ndC n')) := by
  simp only [add_mk, Nat.zero_add, Nat.add_zero]
  rw [st1_new hv hj]
  show K (h.push (.cells (n.cells.set j v) true)) = _
  rw [← hs]
  rfl
section
variable {a b : Sl} {F L G : List Nd}
end
end Go.Ab.S6
namespace Go.Ab.S6
set_option linter.unusedVariables false
set_option linter.unusedSimpArgs false
variable {α : Type} {h : H}
theorem fault4_run (k : Nat) (h : H) (p : Nat) (m e : Int) (hp : p < h.next) (hg : h.get p = some (.cells [.int .i64 m, .int .i64 e] true)) :
    ∃ h', (∀ (α : Type) (ret : Int → Int → M α), w4fault.f (k + 2) (.iface 56 (.ptr (some ⟨p, 0⟩))) ret h = ret m e h') ∧ Ext h h' := by
  have x1 : Ext h (h.push (.cells [.int .i64 0, .int .i64 0] true)) := (Ext.refl h).push _
  have x2 : Ext (h.push (.cells [.int .i64 0, .int .i64 0] true)) ((h.push (.cells [.int .i64 0, .int .i64 0] true)).push (.cells [.ptr (some ⟨p, 0⟩)] true)) := (Ext.refl _).push _
  have hgp : ((h.push (.cells [.int .i64 0, .int .i64 0] true)).push (.cells [.ptr (some ⟨p, 0⟩)] true)).get p = some (.cells [.int .i64 m, .int .i64 e] true) := by rw [x2.2 _ (by rw [push_next]; omega), x1.2 _ hp]; exact hg
  have hf : ((h.push (.cells [.int .i64 0, .int .i64 0] true)).push (.cells [.ptr (some ⟨p, 0⟩)] true)).get (h.next + 1) = some (.cells [.ptr (some ⟨p, 0⟩)] true) := by rw [push_get, if_pos (by rw [push_next])]
  have hq : ((h.push (.cells [.int .i64 0, .int .i64 0] true)).push (.cells [.ptr (some ⟨p, 0⟩)] true)).get h.next = some (.cells [.int .i64 0, .int .i64 0] true) := by rw [push_get, if_neg (by rw [push_next]; omega), push_get, if_pos rfl]
  have st : ∀ (α : Type) (ret : Int → Int → M α), w4fault.f (k + 2) (.iface 56 (.ptr (some ⟨p, 0⟩))) ret h =
      (st1 (⟨h.next, 0⟩ : Ad) (.int .i64 m) <| st1 (⟨h.next, 1⟩ : Ad) (.int .i64 e) <| ldI .i64 (⟨h.next, 0⟩ : Ad) fun o501 => ldI .i64 (⟨h.next, 1⟩ : Ad) fun o502 => ret o501 o502) ((h.push (.cells [.int .i64 0, .int .i64 0] true)).push (.cells [.ptr (some ⟨p, 0⟩)] true)) := by
    intro α ret
    have e2 : ∀ (q : Ad) (K : Bool → M α), errors_As.f (k + 1) (.iface 56 (.ptr (some ⟨p, 0⟩))) (.iface 66 (.ptr (some q))) K = st1 q (.ptr (some ⟨p, 0⟩)) (K true) := fun _ _ => rfl
    have e3 : ∀ (q : Ad) (K : Ad → M α), asSome (some q) K = K q := fun _ _ => rfl
    rw [w4fault.f, w4fault.u1.f, new_run rfl, new_run rfl, e2, st1_new rfl (by simp)]
    simp only [List.set_cons_zero, Bool.not_true, cond_false, add_mk, Nat.zero_add, Nat.add_zero, push_next]
    rw [ldP_run (n := some ⟨p, 0⟩) (by rw [cell_of (a := ⟨h.next + 1, 0⟩) hf]; rfl)]
    simp only [Option.isNone_some, cond_false]
    rw [ldP_run (n := some ⟨p, 0⟩) (by rw [cell_of (a := ⟨h.next + 1, 0⟩) hf]; rfl), e3]
    simp only [add_mk, Nat.zero_add, Nat.add_zero]
    rw [ldI_run (n := m) (by rw [cell_of (a := ⟨p, 0⟩) hgp]; rfl), ldI_run (n := e) (by rw [cell_of (a := ⟨p, 1⟩) hgp]; rfl)]
  generalize (h.push (.cells [.int .i64 0, .int .i64 0] true)).push (.cells [.ptr (some ⟨p, 0⟩)] true) = h2 at x2 hgp hf hq st
  refine ⟨(h2.put h.next (some (.cells [.int .i64 m, .int .i64 0] true))).put h.next (some (.cells [.int .i64 m, .int .i64 e] true)), fun α ret => ?_, ((x1.trans x2).put _ (Nat.le_refl _)).put _ (Nat.le_refl _)⟩
  rw [st, st1_run (a := ⟨h.next, 0⟩) hq rfl (by simp)]
  simp only [List.set_cons_zero]
  rw [st1_run (a := ⟨h.next, 1⟩) (put_get _ _ _) rfl (by simp)]
  simp only [List.set_cons_succ, List.set_cons_zero]
  rw [ldI_run (n := m) (by rw [cell_of (a := ⟨h.next, 0⟩) (put_get _ _ _)]; rfl), ldI_run (n := e) (by rw [cell_of (a := ⟨h.next, 1⟩) (put_get _ _ _)]; rfl)]
theorem ok_np : ∀ t : Tr, t.np.ok = t.ok
  | .leaf _ _ _ => rfl
  | .un k s p a => by simp only [Tr.np, Tr.ok, ok_np a]
  | .bin k s p a b => by simp only [Tr.np, Tr.ok, ok_np a, ok_np b]
theorem same_np (k : Nat) {f g : Sl} {t u : Tr} (h : H) (r : NdR h f (t.flat 0)) (q : NdR h g (u.flat 0)) (hs : t.size ≤ 60) (hk : 70 ≤ k) (hn : u.np = t.np) :
    ∃ h', (∀ (α : Type) (ret : Bool → M α), r4Same.f (k + 1) f g false ret h = ret true h') ∧ Ext h h' := by
  obtain ⟨h', e, x⟩ := same_run k h r q (by rw [flat_length]; omega) (by rw [flat_length]; omega) false
  refine ⟨h', fun α ret => ?_, x⟩
  have hp : psF false = fun n : Nd => { n with pos := 0 } := by funext n; rfl
  rw [e, hp, ← np_flat, ← np_flat, hn, dT rfl]
theorem round (k : Nat) (hk : 3000000 ≤ k) {f : Sl} {t : Tr} (ht : t.ok = true) (hs : t.size ≤ 60) (h : H) (r : NdR h f (t.flat 0)) :
    ∃ h' s h'' h''', (∀ (α : Type) (ret : Sl → V → M α), syntax_Parse.f (k + 1) (prT t) ret h = ret s .nilIface h') ∧ Ext h h' ∧ (∀ (α : Type) (ret : Bool → M α), r4Same.f (k + 1) f s false ret h' = ret true h'') ∧ Ext h' h'' ∧
      (∀ (α : Type) (ret : List UInt8 → M α), syntax_Print.f (k + 1) s ret h'' = ret (prT t) h''') ∧ Ext h'' h''' := by
  obtain ⟨t', g1, g2⟩ := print_parse ht hs
  obtain ⟨h1, s, e1, x1, p1, _⟩ := parse_good k hk g2 h
  have hs' : t'.size ≤ 60 := by rw [size_np g1]; exact hs
  have ht' : t'.ok = true := by rw [← ok_np, g1, ok_np]; exact ht
  obtain ⟨h2, e2, x2⟩ := same_np k h1 (r.ext x1) p1.rd hs (by omega) g1
  obtain ⟨h3, e3, x3⟩ := print_run k (by omega) ht' hs' h2 (p1.rd.ext x2)
  have hpr : prT t' = prT t := by rw [← prT_np, g1, prT_np]
  rw [hpr] at e3
  exact ⟨h1, s, h2, h3, e1, x1, e2, x2, e3, x3⟩
end Go.Ab.S6
namespace Go.Ab.S6
set_option linter.unusedVariables false
set_option linter.unusedSimpArgs false
theorem endT_stops (T : List UInt8) : Stops [endT T] := stops_kind (by show (0 : Int) ≠ 5; decide) []
theorem words_sg (p : Int) (x : UInt8) : words [sgT p x] = [sgT p x] := rfl
theorem words_line (p : Int) : words [(⟨1, p, [10], 0⟩ : Tok)] = [] := rfl
theorem par_parse {a : List UInt8} {F : List Nd} {ta : List Tok} {t : Tr} (pa : Psd a F ta t) (hl : a.length ≤ 262000) : parseF (40 :: (a ++ 10 :: [41])) = .ok (F.map (Nd.mv 0 1)) := by
  have sx := ((Sx.sign [] 40 (a ++ 10 :: [41]) 0 rfl (by decide) (by decide)).trans (Sx.text _ pa.sc _ 1 (by simp))).trans (Sx.sign _ 41 [] ((1 + (a.length + 1) : Nat) : Int) (by simp; omega) (by decide) (by decide))
  have hlT : (40 :: (a ++ 10 :: [41])).length ≤ 262144 := by simp; omega
  obtain ⟨h1, he⟩ := parse_of (Sx.fin sx hlT)
  rw [h1]
  simp only [words_append, words_shift, words_sg, words_line] at he ⊢
  simp only [List.append_nil, List.nil_append, List.append_assoc, List.cons_append] at he ⊢
  rcases pa.par 0 ((1 + (a.length + 1) : Nat) : Int) [endT (40 :: (a ++ 10 :: [41]))] 0 0 1 (f0 := []) rfl (by decide) with ⟨a1, a2⟩ | ⟨a1, q, a2⟩
  rotate_left
  · have := pa.flen; have := pa.size; omega
  have := Ok.top a2 (endT_stops _)
  rw [parse_ok he this, if_pos (by rfl)]
  simp
theorem not_many {a : List UInt8} {F : List Nd} {ta : List Tok} {t : Tr} (pa : Psd a F ta t) (hl : a.length ≤ 262000) (h60 : F.length = 60) : ∃ q, parseF (126 :: 40 :: (a ++ 10 :: [41])) = .error (q, 10) := by
  have sx := (((Sx.sign [] 126 (40 :: (a ++ 10 :: [41])) 0 rfl (by decide) (by decide)).trans (Sx.sign _ 40 _ 1 rfl (by decide) (by decide))).trans (Sx.text _ pa.sc _ 2 (by simp))).trans (Sx.sign _ 41 [] ((2 + (a.length + 1) : Nat) : Int) (by simp; omega) (by decide) (by decide))
  have hlT : (126 :: 40 :: (a ++ 10 :: [41])).length ≤ 262144 := by simp; omega
  obtain ⟨h1, he⟩ := parse_of (Sx.fin sx hlT)
  rw [h1]
  simp only [words_append, words_shift, words_sg, words_line] at he ⊢
  simp only [List.append_nil, List.nil_append, List.append_assoc, List.cons_append] at he ⊢
  rcases pa.par 1 ((2 + (a.length + 1) : Nat) : Int) [endT (126 :: 40 :: (a ++ 10 :: [41]))] 1 0 2 (f0 := []) rfl (by decide) with ⟨a1, a2⟩ | ⟨a1, q, a2⟩
  · omega
  refine ⟨q, parse_fl he (Fl.top (Fl.not (s := ⟨sgT 0 126 :: sgT 1 40 :: ((words ta).map (Tok.shift 2) ++ sgT ((2 + (a.length + 1) : Nat) : Int) 41 :: [endT (126 :: 40 :: (a ++ 10 :: [41]))]), 0, []⟩) (isS_sg _ _ _ _ _) (by show (0 : Nat) ≠ 60; decide) a2))⟩
theorem not_parse {a : List UInt8} {F : List Nd} {ta : List Tok} {t : Tr} (pa : Psd a F ta t) (hl : a.length ≤ 262000) (h60 : F.length < 60) : parseF (126 :: 40 :: (a ++ 10 :: [41])) = .ok (F.map (Nd.mv 0 2) ++ [⟨5, (F.length : Int) - 1, 0, [], 0⟩]) := by
  have := step_text pa (P := [126]) (toks := [sgT 0 126]) (fun R => Sx.sign [] 126 (40 :: R) 0 rfl (by decide) (by decide)) rfl (by decide) hl 5 [] (fun L n s' h hs => by
    exact Ok.not (s := ⟨[sgT 0 126] ++ sgT (([126] : List UInt8).length : Nat) 40 :: L, 0, []⟩) (isS_sg _ _ _ _ _) (by show (0 : Nat) ≠ 60; decide) h) h60
  exact this
end Go.Ab.S6
namespace Go.Ab.S6
set_option linter.unusedVariables false
set_option linter.unusedSimpArgs false
variable {α : Type} {h : H}
theorem brackets_loop (k : Nat) {a b : Sl} {F L : List Nd} {h₀ : H} (r : NdR h₀ a F) (q : NdR h₀ b L) (hm : ∀ (i : Nat) (n : Nd), F[i]? = some n → L[i]? = some (n.mv 0 1)) (hb : ∀ (i : Nat) (n : Nd), F[i]? = some n → 0 ≤ n.pos ∧ n.pos ≤ 262144) (hF : F.length ≤ 60) (x : List UInt8) : ∀ (j i : Nat) (h : H), i ≤ F.length → F.length - i < j → Ext h₀ h →
    ∃ h', Ext h₀ h' ∧ ∀ (α : Type) (kr : Bool → M α) (kx : List UInt8 → Sl → M α), w4SyntaxBrackets.u4.l k kr kx j x a b (i : Int) h = kx x a h' := by
  intro j
  induction j with
  | zero => intro i h hi hj; omega
  | succ j ih =>
    intro i h hi hj e
    have hlen := nd_slen r
    by_cases hlt : i < F.length
    rotate_left
    · refine ⟨h, e, fun α kr kx => ?_⟩
      rw [w4SyntaxBrackets.u4.l, w4SyntaxBrackets.u3.f, hlen, dF (by omega : ¬ (i : Int) < (F.length : Int)), cond_false]
    have hn : F[i]? = some F[i] := List.getElem?_eq_getElem hlt
    have hl := hm i _ hn
    have hp := hb i _ hn
    generalize F[i] = n at hn hl hp
    have x1 : Ext h (h.push (ndC { n with pos := n.pos + 1 })) := (Ext.refl h).push _
    obtain ⟨h', e', g⟩ := ih (i + 1) (h.push (ndC { n with pos := n.pos + 1 })) (by omega) (by omega) (e.trans x1)
    refine ⟨h', e', fun α kr kx => ?_⟩
    have hq : (h.push (ndC n)).get h.next = some (ndC n) := by rw [push_get, if_pos rfl]
    have hq2 : (h.push (ndC { n with pos := n.pos + 1 })).get h.next = some (ndC { n with pos := n.pos + 1 }) := by rw [push_get, if_pos rfl]
    rw [w4SyntaxBrackets.u4.l, w4SyntaxBrackets.u3.f, hlen, dT (by omega : (i : Int) < (F.length : Int)), cond_true, nd_rd (r.ext e) rfl hn, nd_copy]
    have p4 : ∀ K : Int → M α, ldI .i64 (((⟨h.next, 0⟩ : Ad).add 4).add 0) K (h.push (ndC n)) = K n.pos (h.push (ndC n)) := fun K => ldI_run (by simp only [add_mk]; rw [cell_of (a := ⟨h.next, 0 + 4 + 0⟩) hq]; rfl)
    rw [p4, w64_eq (by omega) (by omega), set_own { n with pos := n.pos + 1 } (by decide) rfl rfl, nd_rd (q.ext (e.trans x1)) rfl hl, own_all hq2]
    have ev : n.mv 0 1 = { n with pos := n.pos + 1 } := by
      unfold Nd.mv
      simp
    rw [ev, eq_nd, dT rfl, Bool.not_true, cond_false, w64_eq (by omega) (by omega)]
    exact g α kr kx
theorem SyntaxBrackets_run {h : H} (a0 : List UInt8) : ∃ k h', ∀ (α : Type) (ret : Bool → M α), w4SyntaxBrackets.f (k + 1) a0 ret h = ret true h' := by
  obtain ⟨k, hk⟩ : ∃ k, 5000000 ≤ k := ⟨5000000, Nat.le_refl _⟩
  obtain ⟨k, rfl⟩ : ∃ q, k = q + 2 := ⟨k - 2, by omega⟩
  refine ⟨k + 2, ?_⟩
  obtain ⟨h1, e1, x1⟩ := shown4_run (k + 1) (by omega) h
  have la : (a0.take (min a0.length 20000)).length ≤ 20000 := by simp; omega
  have st : ∀ (α : Type) (ret : Bool → M α), w4SyntaxBrackets.f (k + 2 + 1) a0 ret h = syntax_Parse.f (k + 2) (a0.take (min a0.length 20000)) (fun r5 r6 =>
      cat [40] (a0.take (min a0.length 20000)) fun x7 => cat x7 [10, 41] fun x8 => syntax_Parse.f (k + 2) x8 fun r9 r10 =>
      asNil r6 fun b11 => cond (!b11) (ret true) (cond (decide (262134 < ((a0.take (min a0.length 20000)).length : Int))) (ret true) (asNil r10 fun b12 => cond (!b12) (ret false) (cond (!(decide ((r9.len : Int) = (r5.len : Int)))) (ret false) (
        w4SyntaxBrackets.u8.f (k + 2) (a0.take (min a0.length 20000)) r5 r9 ret))))) h1 := by
    intro α ret
    rw [w4SyntaxBrackets.f, w4SyntaxBrackets.u9.f, w4SyntaxBrackets.u1.f, e1, cut20]
    rfl
  generalize a0.take (min a0.length 20000) = a at st la
  have hcat : ∀ (α : Type) (u v : List UInt8) (K : List UInt8 → M α) (h : H), u.length + v.length ≤ 100000 → cat u v K h = K (u ++ v) h := fun α u v K h hl => cat_run (by omega)
  have hT : [40] ++ a ++ [10, 41] = 40 :: (a ++ 10 :: [41]) := by simp
  rcases parseF_or a with ⟨F, ta, t, pa, pa'⟩ | ⟨e, pa⟩
  rotate_left
  · obtain ⟨h2, q2, e2, x2, _⟩ := parse_fails (k + 1) (by omega) pa h1
    obtain ⟨sl, v, h3, e3⟩ : ∃ sl v h3, ∀ (α : Type) (ret : Sl → V → M α), syntax_Parse.f (k + 2) (40 :: (a ++ 10 :: [41])) ret h2 = ret sl v h3 := by
      rcases parseF_or (40 :: (a ++ 10 :: [41])) with ⟨G, tb, u, pb, _⟩ | ⟨e, pb⟩
      · obtain ⟨h3, s3, e3, _⟩ := parse_good (k + 1) (by omega) pb h2; exact ⟨_, _, _, e3⟩
      · obtain ⟨h3, q3, e3, _⟩ := parse_fails (k + 1) (by omega) pb h2; exact ⟨_, _, _, e3⟩
    refine ⟨h3, fun α ret => ?_⟩
    rw [st, e2, hcat _ _ _ _ _ (by simp; omega), hcat _ _ _ _ _ (by simp; omega), hT, e3, asNil_iface, Bool.not_false, cond_true]
  obtain ⟨h2, s2, e2, x2, p2, o2⟩ := parse_good (k + 1) (by omega) pa h1
  have hpar := par_parse pa' (by omega)
  obtain ⟨h3, s3, e3, x3, p3, o3⟩ := parse_good (k + 1) (by omega) hpar h2
  have hF := pa'.flen
  have hFs := pa'.size
  have ht := Tr.pos t
  have lF := nd_slen p2.rd
  have lG := nd_slen p3.rd
  rw [List.length_map] at lG
  obtain ⟨h4, x4, e4⟩ := brackets_loop (k + 2) (p2.rd.ext x3) p3.rd (fun i n hi => by rw [List.getElem?_map, hi]; rfl) (fun i n hi => ⟨(pa'.nd hi).1, (pa'.nd hi).2.1⟩) (by omega) a (k + 2) 0 h3 (Nat.zero_le _) (by omega) (Ext.refl _)
  have st2 : ∀ (α : Type) (ret : Bool → M α), w4SyntaxBrackets.f (k + 2 + 1) a0 ret h = w4SyntaxBrackets.u7.f (k + 2) a s2 ret h4 := by
    intro α ret
    rw [st, e2, hcat _ _ _ _ _ (by simp; omega), hcat _ _ _ _ _ (by simp; omega), hT, e3, asNil_nil, Bool.not_true, cond_false, dF (by omega), cond_false, asNil_nil, Bool.not_true, cond_false, lF, lG, dT rfl, Bool.not_true, cond_false]
    rw [w4SyntaxBrackets.u8.f, w4SyntaxBrackets.u6.f, w4SyntaxBrackets.u2.f, w4SyntaxBrackets.u5.f, w4SyntaxBrackets.u4.f]
    exact e4 α _ _
  have hT2 : [126, 40] ++ a ++ [10, 41] = 126 :: 40 :: (a ++ 10 :: [41]) := by simp
  by_cases h60 : F.length = 60
  · obtain ⟨q, hq⟩ := not_many pa' (by omega) h60
    obtain ⟨h5, q5, e5, x5, q1, q2, q3⟩ := parse_fails (k + 1) (by omega) hq h4
    obtain ⟨h6, e6, x6⟩ := fault4_run k h5 q5 q 10 q2 q3
    refine ⟨h6, fun α ret => ?_⟩
    rw [st2, w4SyntaxBrackets.u7.f, hcat _ _ _ _ _ (by simp; omega), hcat _ _ _ _ _ (by simp; omega), hT2, e5, lF, dT (by omega), cond_true, e6, dT rfl, cond_true, dT (show ((Sl.nil.len : Nat) : Int) = 0 from rfl)]
  · have hp := not_parse pa' (by omega) (by omega)
    obtain ⟨h5, s5, e5, x5, p5, _⟩ := parse_good (k + 1) (by omega) hp h4
    have lL := nd_slen p5.rd
    have hl : (F.map (Nd.mv 0 2) ++ [(⟨5, (F.length : Int) - 1, 0, [], 0⟩ : Nd)])[F.length]? = some ⟨5, (F.length : Int) - 1, 0, [], 0⟩ := by
      rw [List.getElem?_append_right (by rw [List.length_map]; omega), List.length_map, Nat.sub_self]; rfl
    rw [List.length_append, List.length_map] at lL
    refine ⟨h5, fun α ret => ?_⟩
    rw [st2, w4SyntaxBrackets.u7.f, hcat _ _ _ _ _ (by simp; omega), hcat _ _ _ _ _ (by simp; omega), hT2, e5, lF, dF (by omega), cond_false, asNil_nil, cond_true, lL, w64_eq (by omega) (by omega), dT (by simp), cond_true, nd_rd p5.rd rfl hl, w64_eq (by omega) (by omega)]
    rw [eq_nd ⟨5, (F.length : Int) - 1, 0, [], 0⟩ ⟨5, (F.length : Int) - 1, 0, [], 0⟩, dT rfl]
theorem SyntaxBrackets_law (a : List UInt8) (ha : a.length ≤ reachBytes) : ∃ k h', ∀ (α : Type) (ret : Bool → M α), w4SyntaxBrackets.f (k + 1) a ret h0 = ret true h' := SyntaxBrackets_run a
end Go.Ab.S6
