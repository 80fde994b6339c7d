import Derived.Test.YtkfoohgkbafafaaDoorS6wr
import Derived.Test.YtkfoohgkbafafaaDoorS6s
import Derived.Test.YtkfoohgkbafafaaDoorS6px
namespace Go.Ab.S6
set_option linter.unusedVariables false
set_option linter.unusedSimpArgs false
def EndW (r : List UInt8) : Prop := ∀ b s, r = b :: s → innerB b = false
theorem EndW.nil : EndW [] := fun b s h => by cases h
theorem EndW.cons {c : UInt8} {r : List UInt8} (h : innerB c = false) : EndW (c :: r) := fun b s e => by cases e; exact h
def Told (p w r : List UInt8) (l : List KTx) : Prop := ∃ ts, Sx p (w ++ r) ts (p ++ w) r ∧ KT ts = l ∧ words ts = ts
theorem Told.app {p w1 w2 r : List UInt8} {a b : List KTx} (h1 : Told p w1 (w2 ++ r) a) (h2 : Told (p ++ w1) w2 r b) : Told p (w1 ++ w2) r (a ++ b) := by
  obtain ⟨t1, s1, k1, e1⟩ := h1
  obtain ⟨t2, s2, k2, e2⟩ := h2
  refine ⟨t1 ++ t2, ?_, by unfold KT at *; rw [List.map_append, k1, k2], by rw [words_append, e1, e2]⟩
  have := s1.trans s2
  rw [List.append_assoc, ← List.append_assoc p]
  exact this
theorem Told.sign (p r : List UInt8) (c : UInt8) (hk : kindF c.toNat = 5) (h35 : (c.toNat : Int) ≠ 35) : Told p [c] r [sgK c] :=
  ⟨_, Sx.sign p c r (p.length : Nat) rfl hk h35, rfl, rfl⟩
theorem Told.space (p r : List UInt8) : Told p [32] r [] := ⟨_, Sx.space p r, rfl, rfl⟩
theorem spelt_cons {lo hi : Int} {s : List UInt8} (h : speltF lo hi s = true) : ∃ c w, s = c :: w ∧ w.length < 8 ∧ lo ≤ (c.toNat : Int) ∧ (c.toNat : Int) ≤ hi ∧ ∀ b ∈ w, innerB b = true := by
  cases s with
  | nil => cases h
  | cons c w =>
    simp only [speltF, Bool.and_eq_true, decide_eq_true_eq, List.all_cons] at h
    exact ⟨c, w, rfl, h.1.1.1, h.1.1.2, h.1.2, fun b hb => List.all_eq_true.1 h.2.2 b hb⟩
theorem Told.name (p r : List UInt8) {s : List UInt8} (hs : speltF 97 122 s = true) (hr : EndW r) : Told p s r [(2, s)] := by
  obtain ⟨c, w, rfl, h1, h2, h3, h4⟩ := spelt_cons hs
  have hk : kindF (c.toNat : Int) = 2 := by unfold kindF; rw [if_neg (by omega), if_pos ⟨h2, h3⟩]
  exact ⟨_, Sx.name p c w r (p.length : Nat) rfl hk (.inl rfl) h4 h1 hr, rfl, rfl⟩
theorem Told.var (p r : List UInt8) {s : List UInt8} (hs : varF s = true) (hr : EndW r) : Told p s r [(3, s)] := by
  obtain ⟨c, w, rfl, h1, h2, h3, h4⟩ := spelt_cons hs
  have hk : kindF (c.toNat : Int) = 3 := by unfold kindF; rw [if_neg (by omega), if_neg (by omega), if_pos ⟨h2, h3⟩]
  exact ⟨_, Sx.name p c w r (p.length : Nat) rfl hk (.inr rfl) h4 h1 hr, rfl, rfl⟩
theorem name_spelt {s : List UInt8} (h : nameF s = true) : speltF 97 122 s = true := by
  unfold nameF at h
  rw [Bool.and_eq_true] at h
  exact h.1
theorem Told.act (p r : List UInt8) {s : List UInt8} (hs : (decide (s = [45]) || nameF s) = true) (hr : EndW r) : Told p s r [actK s] := by
  unfold actK
  by_cases h : s = [45]
  · subst h
    exact Told.sign p r 45 (by decide) (by decide)
  · rw [if_neg h]
    rw [dF h, Bool.false_or] at hs
    exact Told.name p r (name_spelt hs) hr
theorem Told.head (p r : List UInt8) {k : Int} {s : List UInt8} (hk : 0 ≤ arF k ∧ arF k ≤ 1) (hn : namedF k s = true) (hr : arF k = 0 → EndW r) : Told p (headP k s) r (headK k s) := by
  have hks : k = 1 ∨ k = 2 ∨ k = 3 ∨ k = 4 ∨ k = 5 ∨ k = 8 ∨ k = 9 ∨ k = 10 ∨ k = 11 := by
    obtain ⟨h1, h2⟩ := hk
    unfold arF at h1 h2
    split at h1
    · omega
    split at h1
    · omega
    split at h1
    · rw [if_neg (by omega), if_neg (by omega), if_pos (by assumption)] at h2; omega
    · omega
  have fx : ∀ (w : List UInt8), speltF 97 122 w = true → varF s = true → Told p ((w ++ [32]) ++ s ++ [46, 32]) r [(2, w), (3, s), sgK 46] := by
    intro w hw hv
    have h1 := Told.name p ([32] ++ (s ++ ([46] ++ ([32] ++ r)))) hw (EndW.cons (by decide))
    have h2 := Told.space (p ++ w) (s ++ ([46] ++ ([32] ++ r)))
    have h3 := Told.var (p ++ w ++ [32]) ([46] ++ ([32] ++ r)) hv (EndW.cons (by decide))
    have h4 := Told.sign (p ++ w ++ [32] ++ s) ([32] ++ r) 46 (by decide) (by decide)
    have h5 := Told.space (p ++ w ++ [32] ++ s ++ [46]) r
    have a45 := Told.app h4 h5
    have e1 : ([46] ++ [32] : List UInt8) = [46, 32] := rfl
    have a3 := Told.app (w2 := [46] ++ [32]) (r := r) (by simpa using h3) a45
    have a2 := Told.app (w2 := s ++ ([46] ++ [32])) (r := r) (by simpa using h2) a3
    have a1 := Told.app (w2 := [32] ++ (s ++ ([46] ++ [32]))) (r := r) (by simpa using h1) a2
    have e : w ++ ([32] ++ (s ++ ([46] ++ [32]))) = (w ++ [32]) ++ s ++ [46, 32] := by simp
    rw [e] at a1
    exact a1
  have md : ∀ (c d : UInt8), kindF c.toNat = 5 → (c.toNat : Int) ≠ 35 → kindF d.toNat = 5 → (d.toNat : Int) ≠ 35 → innerB d = false → (decide (s = [45]) || nameF s) = true → Told p ([c] ++ s ++ [d]) r [sgK c, actK s, sgK d] := by
    intro c d c1 c2 d1 d2 d3 hs
    have h1 := Told.sign p (s ++ ([d] ++ r)) c c1 c2
    have h2 := Told.act (p ++ [c]) ([d] ++ r) hs (EndW.cons d3)
    have h3 := Told.sign (p ++ [c] ++ s) r d d1 d2
    have a2 := Told.app h2 h3
    have a1 := Told.app (w2 := s ++ [d]) (r := r) (by simpa using h1) a2
    rw [← List.append_assoc] at a1
    exact a1
  rcases hks with rfl | rfl | rfl | rfl | rfl | rfl | rfl | rfl | rfl
  · exact Told.name p r (s := [116, 116]) (by decide) (hr (by decide))
  · exact Told.name p r (s := [102, 102]) (by decide) (hr (by decide))
  · exact Told.name p r (name_spelt hn) (hr (by decide))
  · exact Told.var p r hn (hr (by decide))
  · exact Told.sign p r 126 (by decide) (by decide)
  · exact md 60 62 (by decide) (by decide) (by decide) (by decide) (by decide) hn
  · exact md 91 93 (by decide) (by decide) (by decide) (by decide) (by decide) hn
  · exact fx [109, 117] (by decide) hn
  · exact fx [110, 117] (by decide) hn
theorem Told.paren {b : Bool} {p w r : List UInt8} {l : List KTx} (h0 : b = false → Told p w r l) (h1 : ∀ p r, EndW r → Told p w r l) : Told p (paren b w) r (parK b l) := by
  cases b with
  | false => exact h0 rfl
  | true =>
    have a1 := Told.sign p (w ++ ([41] ++ r)) 40 (by decide) (by decide)
    have a2 := h1 (p ++ [40]) ([41] ++ r) (EndW.cons (by decide))
    have a3 := Told.sign (p ++ [40] ++ w) r 41 (by decide) (by decide)
    have a23 := Told.app a2 a3
    have a := Told.app (w2 := w ++ [41]) (r := r) (by simpa using a1) a23
    rw [← List.append_assoc] at a
    exact a
theorem told : ∀ (t : Tr) (p r : List UInt8), t.ok = true → EndW r → Told p (prT t) r (tkT t)
  | .leaf k s q, p, r, h, hr => by
    simp only [Tr.ok, Bool.and_eq_true, decide_eq_true_eq] at h
    exact Told.head p r (by omega) h.2 (fun _ => hr)
  | .un k s q a, p, r, h, hr => by
    simp only [Tr.ok, Bool.and_eq_true, decide_eq_true_eq] at h
    have h1 := Told.head p (paren (brk k a.kind true) (prT a) ++ r) (k := k) (by omega) h.1.2 (fun e => by omega)
    have h2 : Told (p ++ headP k s) (paren (brk k a.kind true) (prT a)) r (parK (brk k a.kind true) (tkT a)) := Told.paren (fun _ => told a _ r h.2 hr) (fun p r hr => told a p r h.2 hr)
    exact Told.app h1 h2
  | .bin k s q a b, p, r, h, hr => by
    simp only [Tr.ok, Bool.and_eq_true, decide_eq_true_eq] at h
    have sp : ∀ x : List UInt8, EndW ([32] ++ x) := fun x => EndW.cons (by decide)
    have key : ∀ (c : UInt8), kindF c.toNat = 5 → (c.toNat : Int) ≠ 35 → Told p (paren (brk k a.kind true) (prT a) ++ ([32, c, 32] ++ paren (brk k b.kind false) (prT b))) r (parK (brk k a.kind true) (tkT a) ++ (sgK c :: parK (brk k b.kind false) (tkT b))) := by
      intro c c1 c2
      have g1 : Told p (paren (brk k a.kind true) (prT a)) ([32] ++ ([c] ++ ([32] ++ (paren (brk k b.kind false) (prT b) ++ r)))) (parK (brk k a.kind true) (tkT a)) := Told.paren (fun _ => told a _ _ h.1.2 (sp _)) (fun p r hr => told a p r h.1.2 hr)
      have g2 := Told.space (p ++ paren (brk k a.kind true) (prT a)) ([c] ++ ([32] ++ (paren (brk k b.kind false) (prT b) ++ r)))
      have g3 := Told.sign (p ++ paren (brk k a.kind true) (prT a) ++ [32]) ([32] ++ (paren (brk k b.kind false) (prT b) ++ r)) c c1 c2
      have g4 := Told.space (p ++ paren (brk k a.kind true) (prT a) ++ [32] ++ [c]) (paren (brk k b.kind false) (prT b) ++ r)
      have g5 : Told (p ++ paren (brk k a.kind true) (prT a) ++ [32] ++ [c] ++ [32]) (paren (brk k b.kind false) (prT b)) r (parK (brk k b.kind false) (tkT b)) := Told.paren (fun _ => told b _ r h.2 hr) (fun p r hr => told b p r h.2 hr)
      have a4 := Told.app g4 g5
      have a3 := Told.app (w2 := [32] ++ paren (brk k b.kind false) (prT b)) (r := r) (by simpa using g3) a4
      have a2 := Told.app (w2 := [c] ++ ([32] ++ paren (brk k b.kind false) (prT b))) (r := r) (by simpa using g2) a3
      have a1 := Told.app (w2 := [32] ++ ([c] ++ ([32] ++ paren (brk k b.kind false) (prT b)))) (r := r) (by simpa using g1) a2
      simpa using a1
    show Told p (paren (brk k a.kind true) (prT a) ++ ((if k = 7 then [32, 124, 32] else [32, 38, 32]) ++ paren (brk k b.kind false) (prT b))) r (parK (brk k a.kind true) (tkT a) ++ (sgK (if k = 7 then 124 else 38) :: parK (brk k b.kind false) (tkT b)))
    by_cases h7 : k = 7
    · rw [if_pos h7, if_pos h7]; exact key 124 (by decide) (by decide)
    · rw [if_neg h7, if_neg h7]; exact key 38 (by decide) (by decide)
theorem print_parse {t : Tr} (ht : t.ok = true) (hs : t.size ≤ 60) : ∃ t' : Tr, t'.np = t.np ∧ parseF (prT t) = .ok (t'.flat 0) := by
  obtain ⟨ts, sx, hk, hw⟩ := told t [] [] ht EndW.nil
  rw [List.append_nil, List.nil_append] at sx
  have hl : (prT t).length ≤ 262144 := by have := prT_len t ht; omega
  obtain ⟨h1, he⟩ := parse_of (Sx.fin sx hl)
  rw [hw] at h1 he
  have hstop : Stops [endT (prT t)] := stops_kind (by show (0 : Int) ≠ 5; decide) []
  obtain ⟨t', g1, g2⟩ := (reads t ht).full ts [endT (prT t)] 0 [] hk hstop (by omega)
  refine ⟨t', g1, ?_⟩
  rw [h1, parse_ok he g2, if_pos (by rfl)]
  simp [Mk]
end Go.Ab.S6
namespace Go.Ab.S6
set_option linter.unusedVariables false
set_option linter.unusedSimpArgs false
variable {α : Type} {h : H}
section
variable {f : Sl} {l : List Nd} {b : Ad} {h₀ : H}
theorem tr_root (t : Tr) (base : Nat) : (t.flat base)[t.size - 1]? = some (t.node base) := by
  cases t with
  | leaf k s p => rfl
  | un k s p a =>
    simp only [Tr.flat, Tr.size]
    rw [List.getElem?_append_right (by rw [flat_length]; omega), flat_length]
    simp
  | bin k s p a b =>
    simp only [Tr.flat, Tr.size]
    rw [List.getElem?_append_right (by rw [flat_length]; omega), flat_length, List.getElem?_append_right (by rw [flat_length]; omega), flat_length, show a.size + b.size + 1 - 1 - a.size - b.size = 0 by omega]
    rfl
theorem node_kind (t : Tr) (base : Nat) : (t.node base).kind = t.kind := by cases t <;> rfl
theorem root_at {t : Tr} {base : Nat} (hfl : ∀ i n, (t.flat base)[i]? = some n → l[base + i]? = some n) : l[base + t.size - 1]? = some (t.node base) := by
  have := hfl _ _ (tr_root t base)
  have hp := Tr.pos t
  rw [show base + t.size - 1 = base + (t.size - 1) by omega]
  exact this
theorem opd_run (r : NdR h₀ f l) {t : Tr} (ht : t.ok = true) (W : WrRun f l b h₀ t) {base : Nat} (hfl : ∀ i n, (t.flat base)[i]? = some n → l[base + i]? = some n) {k : Nat} (hk : 2 * t.size + 21 ≤ k) (over : Int) (first : Bool) (h : H) (acc : List UInt8) (x : Ext h₀ h) (B : Bd h₀.next h b acc) (hl : acc.length + 20 * t.size + 2 ≤ 900000000) :
    ∃ h', (∀ (α : Type) (K : M α), syntax_operand.f k b f ((base + t.size - 1 : Nat) : Int) over first K h = K h') ∧ Ext h₀ h' ∧ Bd h₀.next h' b (acc ++ paren (brk over t.kind first) (prT t)) ∧ Plain h h' := by
  obtain ⟨k, rfl⟩ : ∃ q, k = q + 3 := ⟨k - 3, by omega⟩
  have := operand_run k r (root_at hfl) (w := prT t) (prT_len t ht) (fun h acc x B hl => W base (k + 2) hfl (by omega) h acc x B hl) over first h acc x B hl
  rw [node_kind] at this
  exact this
theorem ar_67 {kd : Int} (h : arF kd ≠ 2) : kd ≠ 6 ∧ kd ≠ 7 := by
  constructor <;> (rintro rfl; exact h (by decide))
theorem ar_two {kd : Int} (h : arF kd = 2) : kd = 6 ∨ kd = 7 := by
  unfold arF at h
  split at h
  · omega
  split at h
  · omega
  split at h
  · assumption
  · omega
theorem bel_of {kd : Int} {m : Int} (h : arF kd = m) (h0 : 0 ≤ m) : belF kd = m := by
  unfold belF
  rw [if_neg (by omega), h]
theorem head_go (r : NdR h₀ f l) {i : Nat} {n : Nd} (hn : l[i]? = some n) (hok : namedF n.kind n.name = true) (h2 : arF n.kind ≠ 2) (k : Nat) (hk : 20 ≤ k) (h : H) (acc : List UInt8) (x : Ext h₀ h) (B : Bd h₀.next h b acc) (hl : acc.length + (headP n.kind n.name).length ≤ 900000000) :
    ∃ h', (∀ (α : Type) (K : M α), syntax_write.f (k + 1) b f (i : Int) K h = cond (decide (belF n.kind = 1)) (syntax_operand.f k b f n.a n.kind true K) K h') ∧ Ext h₀ h' ∧ Bd h₀.next h' b (acc ++ headP n.kind n.name) ∧ Plain h h' := by
  obtain ⟨k, rfl⟩ : ∃ q, k = q + 2 := ⟨k - 2, by omega⟩
  have hs := named_len hok
  have hx := headP_len n.kind hs
  have x1 : Ext h (h.push (ndC n)) := (Ext.refl h).push _
  have hq : (h.push (ndC n)).get h.next = some (ndC n) := by rw [push_get, if_pos rfl]
  obtain ⟨h2', e2, B2, g2, p2⟩ := ws_run k (B.ext x1) (headP n.kind n.name) (by omega)
  have hlt : h.next < (h.push (ndC n)).next := by rw [push_next]; omega
  have hq2 : h2'.get h.next = some (ndC n) := p2.2 _ _ _ hlt hq
  have x2 : Ext h₀ h2' := ext_of (x.trans x1) g2 p2.1
  have x3 : Ext h2' (h2'.push (ndC n)) := (Ext.refl h2').push _
  have hq3 : (h2'.push (ndC n)).get h.next = some (ndC n) := by rw [x3.2 _ (by have := p2.1; omega)]; exact hq2
  obtain ⟨a6, a7⟩ := ar_67 h2
  refine ⟨h2'.push (ndC n), fun α K => ?_, x2.trans x3, B2.ext x3, ((Ext.plain x1).trans p2).trans (Ext.plain x3)⟩
  rw [write_head (k + 2) (r.ext x) hn hs a6 a7, e2, syntax_write.u2.f, own_all hq2, below_run (k + 1) (by omega)]
  by_cases hb : belF n.kind = 1
  · rw [dT hb, cond_true, cond_true]
    show (ldI .i64 (((⟨h.next, 0⟩ : Ad).add 1).add 0) _) (h2'.push (ndC n)) = _
    rw [own_a hq3, own_kind hq3]
  · rw [dF hb, cond_false, cond_false]
theorem write_run (r : NdR h₀ f l) : ∀ t : Tr, t.ok = true → WrRun f l b h₀ t
  | .leaf kd s p, hok => by
    intro base k hfl hk h acc x B hl
    simp only [Tr.ok, Bool.and_eq_true, decide_eq_true_eq] at hok
    obtain ⟨k, rfl⟩ : ∃ q, k = q + 1 := ⟨k - 1, by omega⟩
    have hi := root_at hfl
    obtain ⟨h', e, x', B', p'⟩ := head_go r hi hok.2 (by show arF kd ≠ 2; rw [hok.1]; decide) k (by simp only [Tr.size] at hk; omega) h acc x B (by have := headP_len kd (named_len hok.2); simp only [Tr.size] at hl; show acc.length + (headP kd s).length ≤ _; omega)
    refine ⟨h', fun α K => ?_, x', B', p'⟩
    rw [e, dF (by rw [show belF ((Tr.leaf kd s p).node base).kind = 0 from bel_of hok.1 (by decide)]; decide), cond_false]
  | .un kd s p a, hok => by
    intro base k hfl hk h acc x B hl
    simp only [Tr.ok, Bool.and_eq_true, decide_eq_true_eq] at hok
    obtain ⟨k, rfl⟩ : ∃ q, k = q + 1 := ⟨k - 1, by omega⟩
    have hi := root_at hfl
    have hsub := flat_sub (l := l) (a := a) (base := base) (rest := [(Tr.un kd s p a).node base]) hfl
    have hh := headP_len kd (named_len hok.1.2)
    simp only [Tr.size] at hk hl
    obtain ⟨h1, e1, x1, B1, p1⟩ := head_go r hi hok.1.2 (by show arF kd ≠ 2; rw [hok.1.1]; decide) k (by omega) h acc x B (by show acc.length + (headP kd s).length ≤ _; omega)
    obtain ⟨h2, e2, x2, B2, p2⟩ := opd_run r hok.2 (write_run r a hok.2) hsub.1 (k := k) (by omega) kd true h1 _ x1 B1 (by show (acc ++ headP kd s).length + _ + 2 ≤ _; rw [List.length_append]; omega)
    refine ⟨h2, fun α K => ?_, x2, ?_, p1.trans p2⟩
    · rw [e1, dT (show belF ((Tr.un kd s p a).node base).kind = 1 from bel_of hok.1.1 (by decide)), cond_true]
      exact e2 α K
    · rw [prT, ← List.append_assoc]; exact B2
  | .bin kd s p a c, hok => by
    intro base k hfl hk h acc x B hl
    simp only [Tr.ok, Bool.and_eq_true, decide_eq_true_eq] at hok
    obtain ⟨k, rfl⟩ : ∃ q, k = q + 3 := ⟨k - 3, by omega⟩
    have hi := root_at hfl
    have hs1 := flat_sub (l := l) (a := a) (base := base) (rest := c.flat (base + a.size) ++ [(Tr.bin kd s p a c).node base]) hfl
    have hs2 := flat_sub (l := l) (a := c) (base := base + a.size) (rest := [(Tr.bin kd s p a c).node base]) hs1.2
    have hk2 := ar_two hok.1.1.1
    simp only [Tr.size] at hk hl
    have hsg : (if kd = 7 then [32, 124, 32] else [32, 38, 32] : List UInt8).length = 3 := by split <;> rfl
    have hla := paren_len (brk kd a.kind true) (prT a)
    have hlb := prT_len a hok.1.2
    have x1 : Ext h (h.push (ndC ((Tr.bin kd s p a c).node base))) := (Ext.refl h).push _
    have hq : (h.push (ndC ((Tr.bin kd s p a c).node base))).get h.next = some (ndC ((Tr.bin kd s p a c).node base)) := by rw [push_get, if_pos rfl]
    have hlt : h.next < (h.push (ndC ((Tr.bin kd s p a c).node base))).next := by rw [push_next]; omega
    obtain ⟨h2, e2, x2, B2, p2⟩ := opd_run r hok.1.2 (write_run r a hok.1.2) hs1.1 (k := k + 2) (by omega) kd true _ _ (x.trans x1) (B.ext x1) (by omega)
    have hq2 := p2.2 _ _ _ hlt hq
    obtain ⟨h3, e3, B3, g3, p3⟩ := ws_run k B2 (if kd = 7 then [32, 124, 32] else [32, 38, 32]) (by rw [List.length_append]; omega)
    have hlt2 : h.next < h2.next := Nat.lt_of_lt_of_le hlt p2.1
    have hq3 := p3.2 _ _ _ hlt2 hq2
    obtain ⟨h4, e4, x4, B4, p4⟩ := opd_run r hok.2 (write_run r c hok.2) hs2.1 (k := k + 2) (by omega) kd false _ _ (ext_of x2 g3 p3.1) B3 (by rw [List.length_append, List.length_append]; omega)
    refine ⟨h4, fun α K => ?_, x4, ?_, (((Ext.plain x1).trans p2).trans p3).trans p4⟩
    · rw [write_two (k + 2) (r.ext x) hi hk2]
      refine (e2 α _).trans ?_
      rw [own_kind hq2]
      by_cases h7 : kd = 7
      · rw [if_pos h7] at e3
        rw [dT (show ((Tr.bin kd s p a c).node base).kind = 7 from h7), cond_true, e3, own_b hq3, own_kind hq3]
        exact e4 α K
      · rw [if_neg h7] at e3
        rw [dF (show ¬ ((Tr.bin kd s p a c).node base).kind = 7 from h7), cond_false, e3, own_b hq3, own_kind hq3]
        exact e4 α K
    · rw [prT, ← List.append_assoc, ← List.append_assoc]; exact B4
end
end Go.Ab.S6
namespace Go.Ab.S6
set_option linter.unusedVariables false
set_option linter.unusedSimpArgs false
variable {α : Type} {h : H}
theorem newT_run {t : Nat} {cs : List V} {K : Ad → M α} (hc : cs.all oneV = true) : newT t cs K h = K ⟨h.next, 0⟩ (h.push (.cellsT t true cs)) := by
  unfold newT; rw [need_run hc]
theorem print_run (k : Nat) (hk : 200 ≤ k) {f : Sl} {t : Tr} (ht : t.ok = true) (hs : t.size ≤ 60) (h : H) (r : NdR h f (t.flat 0)) :
    ∃ h', (∀ (α : Type) (ret : List UInt8 → M α), syntax_Print.f (k + 1) f ret h = ret (prT t) h') ∧ Ext h h' := by
  obtain ⟨k, rfl⟩ : ∃ q, k = q + 1 := ⟨k - 1, by omega⟩
  have hR : rightF (t.flat 0) = true := (right_iff _).2 ⟨t, ht, rfl, hs⟩
  obtain ⟨h1, e1, x1⟩ := right_run k (by omega) h r
  have hpos := Tr.pos t
  have hlen := nd_slen r
  rw [flat_length] at hlen
  have x2 : Ext h1 (h1.push (.cellsT 42 true [.ptr none, .slice Sl.nil])) := (Ext.refl h1).push _
  have B : Bd h1.next (h1.push (.cellsT 42 true [.ptr none, .slice Sl.nil])) ⟨h1.next, 0⟩ [] :=
    ⟨rfl, by show h1.next < h1.next + 1; omega, Nat.le_refl _, .ptr none, Sl.nil, by show (h1.push _).get h1.next = _; rw [push_get, if_pos rfl], .inl rfl, .inl ⟨rfl, rfl⟩⟩
  obtain ⟨h3, e3, x3, B3, _⟩ := write_run (b := ⟨h1.next, 0⟩) (r.ext x1) t ht 0 (k + 1) (fun i n hi => by rw [Nat.zero_add]; exact hi) (by omega) _ [] x2 B (by simp; omega)
  obtain ⟨h4, e4, g4, n4⟩ := bs_run k B3 (by have := prT_len t ht; rw [List.nil_append]; omega)
  refine ⟨h4, fun α ret => ?_, x1.trans (ext_of x3 g4 n4)⟩
  rw [syntax_Print.f, syntax_Print.u1.f, e1, hR, Bool.not_true, cond_false, newT_run rfl, hlen, w64_eq (by omega) (by omega)]
  rw [show ((t.size : Int) - 1) = ((0 + t.size - 1 : Nat) : Int) by omega, e3, e4, List.nil_append]
section
variable {f : Sl} {l : List Nd} {h₀ : H}
end
end Go.Ab.S6
namespace Go.Ab.S6
set_option linter.unusedVariables false
set_option linter.unusedSimpArgs false
theorem Room.le {n : Nat} (h : Room n) : n ≤ 4611686018427387900 := by unfold Room at h; omega
end Go.Ab.S6
namespace Go.Ab.S6
set_option linter.unusedVariables false
set_option linter.unusedSimpArgs false
variable {α : Type} {h : H}
def ty1 : Tr := .bin 7 [] 6 (.bin 6 [] 2 (.leaf 3 [112] 0) (.leaf 3 [113] 4)) (.un 5 [] 8 (.leaf 3 [114] 9))
theorem py1 : parseF [112, 32, 38, 32, 113, 32, 124, 32, 126, 114] = .ok (ty1.flat 0) := by kernel_rfl
theorem shown4_run (k : Nat) (hk : 4000000 ≤ k) (h : H) : ∃ h', (∀ (α : Type) (ret : Bool → M α), w4shown.f (k + 1) ret h = ret true h') ∧ Ext h h' := by
  obtain ⟨k, rfl⟩ : ∃ q, k = q + 1 := ⟨k - 1, by omega⟩
  have a1 := parse_run k (by omega) [112, 32, 38, 32, 113, 32, 124, 32, 126, 114] h
  rw [py1] at a1
  obtain ⟨h1, s1, e1, x1, p1, _⟩ := a1
  obtain ⟨h2, e2, x2⟩ := print_run k (by omega) (t := ty1) (by decide) (by decide) h1 p1.rd
  refine ⟨h2, fun α ret => ?_, x1.trans x2⟩
  have hl : s1.len = 6 := nd_slen p1.rd
  have hn : (ty1.flat 0)[5]? = some ⟨7, 2, 4, [], 6⟩ := by decide
  rw [w4shown.f, w4shown.u1.f, e1, asNil_nil, Bool.not_true, cond_false, hl, dT (by decide : ((6 : Nat) : Int) = 6), Bool.not_true, cond_false, nd_rd p1.rd (x := 5) (i := 5) rfl hn]
  rw [show (decide ((7 : Int) = 7) && (decide ((2 : Int) = 2) && (decide ((4 : Int) = 4) && (decide (([] : List UInt8) = []) && (decide ((6 : Int) = 6) && true))))) = true from rfl, cond_true, e2]
  rw [dT (by decide : prT ty1 = [112, 32, 38, 32, 113, 32, 124, 32, 126, 114])]
end Go.Ab.S6
namespace Go.Ab.S6
set_option linter.unusedVariables false
set_option linter.unusedSimpArgs false
variable {α : Type} {h : H}
theorem parseF_or (text : List UInt8) : (∃ F ts t, parseF text = .ok F ∧ Psd text F ts t) ∨ ∃ e, parseF text = .error e := by
  cases hp : parseF text with
  | ok F =>
    obtain ⟨ts, t, p⟩ := parsed hp
    exact .inl ⟨F, ts, t, rfl, p⟩
  | error e => exact .inr ⟨e, rfl⟩
theorem parse_good (k : Nat) (hk : 3000000 ≤ k) {text : List UInt8} {l : List Nd} (hp : parseF text = .ok l) (h : H) :
    ∃ h' s, (∀ (α : Type) (ret : Sl → V → M α), syntax_Parse.f (k + 1) text ret h = ret s .nilIface h') ∧ Ext h h' ∧ App h' s 5 (cN l) ∧ Owned h s := by
  have := parse_run k hk text h
  rw [hp] at this
  exact this
theorem parse_fails (k : Nat) (hk : 3000000 ≤ k) {text : List UInt8} {e : Er} (hp : parseF text = .error e) (h : H) :
    ∃ h' q, (∀ (α : Type) (ret : Sl → V → M α), syntax_Parse.f (k + 1) text ret h = ret Sl.nil (.iface 56 (.ptr (some ⟨q, 0⟩))) h') ∧ Ext h h' ∧ h.next ≤ q ∧ q < h'.next ∧ h'.get q = some (.cells [.int .i64 e.1, .int .i64 e.2] true) := by
  have := parse_run k hk text h
  rw [hp] at this
  exact this
theorem cut20 (text : List UInt8) (K : List UInt8 → M α) : cutStr text none (some (if 20000 < (text.length : Int) then 20000 else (text.length : Int))) K h = K (text.take (min text.length 20000)) h := by
  have e : (if 20000 < (text.length : Int) then 20000 else (text.length : Int)) = ((min text.length 20000 : Nat) : Int) := by split <;> omega
  rw [e, cutStr_to rfl (by omega)]
section
variable {a b : Sl} {F L G : List Nd}
end
end Go.Ab.S6
namespace Go.Ab.S6
set_option linter.unusedVariables false
set_option linter.unusedSimpArgs false
variable {α : Type} {h : H}
theorem fault4_run (k : Nat) (h : H) (p : Nat) (m e : Int) (hp : p < h.next) (hg : h.get p = some (.cells [.int .i64 m, .int .i64 e] true)) :
    ∃ h', (∀ (α : Type) (ret : Int → Int → M α), w4fault.f (k + 2) (.iface 56 (.ptr (some ⟨p, 0⟩))) ret h = ret m e h') ∧ Ext h h' := by
  have x1 : Ext h (h.push (.cells [.int .i64 0, .int .i64 0] true)) := (Ext.refl h).push _
  have x2 : Ext (h.push (.cells [.int .i64 0, .int .i64 0] true)) ((h.push (.cells [.int .i64 0, .int .i64 0] true)).push (.cells [.ptr (some ⟨p, 0⟩)] true)) := (Ext.refl _).push _
  have hgp : ((h.push (.cells [.int .i64 0, .int .i64 0] true)).push (.cells [.ptr (some ⟨p, 0⟩)] true)).get p = some (.cells [.int .i64 m, .int .i64 e] true) := by rw [x2.2 _ (by rw [push_next]; omega), x1.2 _ hp]; exact hg
  have hf : ((h.push (.cells [.int .i64 0, .int .i64 0] true)).push (.cells [.ptr (some ⟨p, 0⟩)] true)).get (h.next + 1) = some (.cells [.ptr (some ⟨p, 0⟩)] true) := by rw [push_get, if_pos (by rw [push_next])]
  have hq : ((h.push (.cells [.int .i64 0, .int .i64 0] true)).push (.cells [.ptr (some ⟨p, 0⟩)] true)).get h.next = some (.cells [.int .i64 0, .int .i64 0] true) := by rw [push_get, if_neg (by rw [push_next]; omega), push_get, if_pos rfl]
  have st : ∀ (α : Type) (ret : Int → Int → M α), w4fault.f (k + 2) (.iface 56 (.ptr (some ⟨p, 0⟩))) ret h =
      (st1 (⟨h.next, 0⟩ : Ad) (.int .i64 m) <| st1 (⟨h.next, 1⟩ : Ad) (.int .i64 e) <| ldI .i64 (⟨h.next, 0⟩ : Ad) fun o501 => ldI .i64 (⟨h.next, 1⟩ : Ad) fun o502 => ret o501 o502) ((h.push (.cells [.int .i64 0, .int .i64 0] true)).push (.cells [.ptr (some ⟨p, 0⟩)] true)) := by
    intro α ret
    have e2 : ∀ (q : Ad) (K : Bool → M α), errors_As.f (k + 1) (.iface 56 (.ptr (some ⟨p, 0⟩))) (.iface 66 (.ptr (some q))) K = st1 q (.ptr (some ⟨p, 0⟩)) (K true) := fun _ _ => rfl
    have e3 : ∀ (q : Ad) (K : Ad → M α), asSome (some q) K = K q := fun _ _ => rfl
    rw [w4fault.f, w4fault.u1.f, new_run rfl, new_run rfl, e2, st1_new rfl (by simp)]
    simp only [List.set_cons_zero, Bool.not_true, cond_false, add_mk, Nat.zero_add, Nat.add_zero, push_next]
    rw [ldP_run (n := some ⟨p, 0⟩) (by rw [cell_of (a := ⟨h.next + 1, 0⟩) hf]; rfl)]
    simp only [Option.isNone_some, cond_false]
    rw [ldP_run (n := some ⟨p, 0⟩) (by rw [cell_of (a := ⟨h.next + 1, 0⟩) hf]; rfl), e3]
    simp only [add_mk, Nat.zero_add, Nat.add_zero]
    rw [ldI_run (n := m) (by rw [cell_of (a := ⟨p, 0⟩) hgp]; rfl), ldI_run (n := e) (by rw [cell_of (a := ⟨p, 1⟩) hgp]; rfl)]
  generalize (h.push (.cells [.int .i64 0, .int .i64 0] true)).push (.cells [.ptr (some ⟨p, 0⟩)] true) = h2 at x2 hgp hf hq st
  refine ⟨(h2.put h.next (some (.cells [.int .i64 m, .int .i64 0] true))).put h.next (some (.cells [.int .i64 m, .int .i64 e] true)), fun α ret => ?_, ((x1.trans x2).put _ (Nat.le_refl _)).put _ (Nat.le_refl _)⟩
  rw [st, st1_run (a := ⟨h.next, 0⟩) hq rfl (by simp)]
  simp only [List.set_cons_zero]
  rw [st1_run (a := ⟨h.next, 1⟩) (put_get _ _ _) rfl (by simp)]
  simp only [List.set_cons_succ, List.set_cons_zero]
  rw [ldI_run (n := m) (by rw [cell_of (a := ⟨h.next, 0⟩) (put_get _ _ _)]; rfl), ldI_run (n := e) (by rw [cell_of (a := ⟨h.next, 1⟩) (put_get _ _ _)]; rfl)]
theorem ok_np : ∀ t : Tr, t.np.ok = t.ok
  | .leaf _ _ _ => rfl
  | .un k s p a => by simp only [Tr.np, Tr.ok, ok_np a]
  | .bin k s p a b => by simp only [Tr.np, Tr.ok, ok_np a, ok_np b]
theorem same_np (k : Nat) {f g : Sl} {t u : Tr} (h : H) (r : NdR h f (t.flat 0)) (q : NdR h g (u.flat 0)) (hs : t.size ≤ 60) (hk : 70 ≤ k) (hn : u.np = t.np) :
    ∃ h', (∀ (α : Type) (ret : Bool → M α), r4Same.f (k + 1) f g false ret h = ret true h') ∧ Ext h h' := by
  obtain ⟨h', e, x⟩ := same_run k h r q (by rw [flat_length]; omega) (by rw [flat_length]; omega) false
  refine ⟨h', fun α ret => ?_, x⟩
  have hp : psF false = fun n : Nd => { n with pos := 0 } := by funext n; rfl
  rw [e, hp, ← np_flat, ← np_flat, hn, dT rfl]
theorem round (k : Nat) (hk : 3000000 ≤ k) {f : Sl} {t : Tr} (ht : t.ok = true) (hs : t.size ≤ 60) (h : H) (r : NdR h f (t.flat 0)) :
    ∃ h' s h'' h''', (∀ (α : Type) (ret : Sl → V → M α), syntax_Parse.f (k + 1) (prT t) ret h = ret s .nilIface h') ∧ Ext h h' ∧ (∀ (α : Type) (ret : Bool → M α), r4Same.f (k + 1) f s false ret h' = ret true h'') ∧ Ext h' h'' ∧
      (∀ (α : Type) (ret : List UInt8 → M α), syntax_Print.f (k + 1) s ret h'' = ret (prT t) h''') ∧ Ext h'' h''' := by
  obtain ⟨t', g1, g2⟩ := print_parse ht hs
  obtain ⟨h1, s, e1, x1, p1, _⟩ := parse_good k hk g2 h
  have hs' : t'.size ≤ 60 := by rw [size_np g1]; exact hs
  have ht' : t'.ok = true := by rw [← ok_np, g1, ok_np]; exact ht
  obtain ⟨h2, e2, x2⟩ := same_np k h1 (r.ext x1) p1.rd hs (by omega) g1
  obtain ⟨h3, e3, x3⟩ := print_run k (by omega) ht' hs' h2 (p1.rd.ext x2)
  have hpr : prT t' = prT t := by rw [← prT_np, g1, prT_np]
  rw [hpr] at e3
  exact ⟨h1, s, h2, h3, e1, x1, e2, x2, e3, x3⟩
end Go.Ab.S6
namespace Go.Ab.S6
set_option linter.unusedVariables false
set_option linter.unusedSimpArgs false
theorem endT_stops (T : List UInt8) : Stops [endT T] := stops_kind (by show (0 : Int) ≠ 5; decide) []
theorem words_line (p : Int) : words [(⟨1, p, [10], 0⟩ : Tok)] = [] := rfl
theorem cut_open {a : List UInt8} {F : List Nd} {ta : List Tok} {t : Tr} (pa : Psd a F ta t) (hl : a.length ≤ 262000) : parseF (40 :: a) = .error ((a.length : Int) + 1, 6) := by
  have h1 := (Sc.sign [] 40 a (by decide) (by decide)).trans (pa.sc.behind [40])
  have hlT : (40 :: a).length ≤ 262144 := by simp; omega
  have h2 : scanF (40 :: a) = .ok (([⟨5, (([] : List UInt8).length : Nat), [40], 0⟩] ++ ta.map (Tok.shift (([40] : List UInt8).length : Nat))) ++ [endT (40 :: a)]) := Sc.okF (by
    have e : ([40] : List UInt8).length + a.length = (40 :: a).length := by simp; omega
    rw [e] at h1
    exact h1) hlT
  obtain ⟨h3, he⟩ := parse_of h2
  rw [h3]
  have ew : words [(⟨5, (([] : List UInt8).length : Nat), [40], 0⟩ : Tok)] = [sgT 0 40] := rfl
  rw [words_append, words_shift, ew, List.cons_append, List.cons_append, List.nil_append] at he ⊢
  rcases pa.moved (endT_stops (40 :: a)) 0 0 (([40] : List UInt8).length : Nat) (f0 := []) rfl (by decide) with ⟨a1, a2⟩ | ⟨a1, q, a2⟩
  rotate_left
  · have := pa.flen; have := pa.size; omega
  have := Fl.top (Fl.par2 (s := ⟨sgT 0 40 :: ((words ta).map (Tok.shift (([40] : List UInt8).length : Nat)) ++ [endT (40 :: a)]), 0, []⟩) (a := 0) (isS_sg _ _ _ _ _) a2 rfl)
  rw [parse_fl he this]
  show Except.error (((40 :: a).length : Int), (6 : Int)) = _
  simp
theorem cut_behind {a : List UInt8} {F : List Nd} {ta : List Tok} {t : Tr} (pa : Psd a F ta t) (hl : a.length ≤ 262000) {w : List UInt8} {tk : Tok} (hw : w.length ≤ 100) (hsx : Sx ([] ++ (a ++ [10])) w [tk] ([] ++ (a ++ [10]) ++ w) []) (hp : tk.pos = (a.length : Int) + 1) (hk : tk.kind ≠ 0) (hk1 : lineT tk = false)
    (hst : ∀ r, Stops (tk :: r)) : parseF (a ++ 10 :: w) = .error ((a.length : Int) + 1, 7) := by
  have sx := (Sx.text [] pa.sc w 0 rfl).trans hsx
  have hlT : (a ++ 10 :: w).length ≤ 262144 := by simp; omega
  obtain ⟨h1, he⟩ := parse_of (Sx.fin sx hlT)
  rw [h1]
  have ew : words [tk] = [tk] := by unfold words; rw [List.filter_cons, hk1]; rfl
  simp only [words_append, words_shift, words_line, ew] at he ⊢
  simp only [List.append_nil, List.append_assoc, List.cons_append, List.nil_append] at he ⊢
  rcases pa.moved (hst [endT (a ++ 10 :: w)]) 0 0 0 (f0 := []) rfl (by decide) with ⟨a1, a2⟩ | ⟨a1, q, a2⟩
  rotate_left
  · have := pa.flen; have := pa.size; omega
  rw [parse_ok he a2, if_neg (by exact hk)]
  unfold wrongE
  show Except.error (tk.pos, if tk.kind = 0 then (6 : Int) else 7) = _
  rw [if_neg hk, hp]
theorem cut_shut {a : List UInt8} {F : List Nd} {ta : List Tok} {t : Tr} (pa : Psd a F ta t) (hl : a.length ≤ 262000) : parseF (a ++ [10, 41]) = .error ((a.length : Int) + 1, 7) :=
  cut_behind pa hl (w := [41]) (by decide) (Sx.sign _ 41 [] ((a.length : Int) + 1) (by simp) (by decide) (by decide)) rfl (by show (5 : Int) ≠ 0; decide) rfl (fun r => stops_sg _ (by decide) (by decide) r)
theorem cut_more {a : List UInt8} {F : List Nd} {ta : List Tok} {t : Tr} (pa : Psd a F ta t) (hl : a.length ≤ 262000) : parseF (a ++ [10, 121, 101, 115]) = .error ((a.length : Int) + 1, 7) :=
  cut_behind pa hl (w := [121, 101, 115]) (by decide) (Sx.name _ 121 [101, 115] [] ((a.length : Int) + 1) (by simp) (kd := 2) (by decide) (.inl rfl) (by decide) (by decide) (fun b s h => by cases h)) rfl (by show (2 : Int) ≠ 0; decide) rfl (fun r => stops_kind (by show (2 : Int) ≠ 5; decide) r)
end Go.Ab.S6
namespace Go.Ab.S6
set_option linter.unusedVariables false
set_option linter.unusedSimpArgs false
variable {α : Type} {h : H}
theorem SyntaxCut_run {h : H} (a0 : List UInt8) : ∃ k h', ∀ (α : Type) (ret : Bool → M α), w4SyntaxCut.f (k + 1) a0 ret h = ret true h' := by
  obtain ⟨k, hk⟩ : ∃ k, 5000000 ≤ k := ⟨5000000, Nat.le_refl _⟩
  obtain ⟨k, rfl⟩ : ∃ q, k = q + 2 := ⟨k - 2, by omega⟩
  refine ⟨k + 2, ?_⟩
  obtain ⟨h1, e1, x1⟩ := shown4_run (k + 1) (by omega) h
  have la : (a0.take (min a0.length 20000)).length ≤ 20000 := by simp; omega
  have st : ∀ (α : Type) (ret : Bool → M α), w4SyntaxCut.f (k + 2 + 1) a0 ret h = syntax_Parse.f (k + 2) (a0.take (min a0.length 20000)) (fun r5 r6 =>
      asNil r6 fun b7 => cond (!b7) (ret true) (cond (decide (262134 < ((a0.take (min a0.length 20000)).length : Int))) (ret true) (
        cat [40] (a0.take (min a0.length 20000)) fun x8 => syntax_Parse.f (k + 2) x8 fun r9 r10 =>
        cat (a0.take (min a0.length 20000)) [10, 41] fun x11 => syntax_Parse.f (k + 2) x11 fun r12 r13 =>
        cat (a0.take (min a0.length 20000)) [10, 121, 101, 115] fun x14 => syntax_Parse.f (k + 2) x14 fun r15 r16 =>
        w4fault.f (k + 2) r10 fun r17 r18 => cond (!((decide (r17 = w64 (((a0.take (min a0.length 20000)).length : Int) + 1)) && (decide (r18 = 6) && true)))) (ret false) (
          w4fault.f (k + 2) r13 fun r19 r20 => cond (!((decide (r19 = w64 (((a0.take (min a0.length 20000)).length : Int) + 1)) && (decide (r20 = 7) && true)))) (ret false) (
            w4fault.f (k + 2) r16 fun r21 r22 => ret ((decide (r21 = w64 (((a0.take (min a0.length 20000)).length : Int) + 1)) && (decide (r22 = 7) && true))))))) ) h1 := by
    intro α ret
    rw [w4SyntaxCut.f, w4SyntaxCut.u1.f, e1, cut20]
    rfl
  generalize a0.take (min a0.length 20000) = a at st la
  have hcat : ∀ (α : Type) (u v : List UInt8) (K : List UInt8 → M α) (h : H), u.length + v.length ≤ 100000 → cat u v K h = K (u ++ v) h := fun α u v K h hl => cat_run (by omega)
  rcases parseF_or a with ⟨F, ta, t, pa, pa'⟩ | ⟨e, pa⟩
  rotate_left
  · obtain ⟨h2, q2, e2, x2, _⟩ := parse_fails (k + 1) (by omega) pa h1
    refine ⟨h2, fun α ret => ?_⟩
    rw [st, e2, asNil_iface, Bool.not_false, cond_true]
  obtain ⟨h2, s2, e2, x2, p2, o2⟩ := parse_good (k + 1) (by omega) pa h1
  obtain ⟨h3, q3, e3, x3, a3, b3, c3⟩ := parse_fails (k + 1) (by omega) (cut_open pa' (by omega)) h2
  obtain ⟨h4, q4, e4, x4, a4, b4, c4⟩ := parse_fails (k + 1) (by omega) (cut_shut pa' (by omega)) h3
  obtain ⟨h5, q5, e5, x5, a5, b5, c5⟩ := parse_fails (k + 1) (by omega) (cut_more pa' (by omega)) h4
  have x45 := x4.trans x5
  obtain ⟨h6, e6, x6⟩ := fault4_run k h5 q3 ((a.length : Int) + 1) 6 (Nat.lt_of_lt_of_le b3 x45.1) (by rw [x45.2 _ b3]; exact c3)
  have x56 := x5.trans x6
  obtain ⟨h7, e7, x7⟩ := fault4_run k h6 q4 ((a.length : Int) + 1) 7 (Nat.lt_of_lt_of_le b4 x56.1) (by rw [x56.2 _ b4]; exact c4)
  have x67 := x6.trans x7
  obtain ⟨h8, e8, x8⟩ := fault4_run k h7 q5 ((a.length : Int) + 1) 7 (Nat.lt_of_lt_of_le b5 x67.1) (by rw [x67.2 _ b5]; exact c5)
  refine ⟨h8, fun α ret => ?_⟩
  have w1 : w64 ((a.length : Int) + 1) = (a.length : Int) + 1 := w64_eq (by omega) (by omega)
  rw [st, e2, asNil_nil, Bool.not_true, cond_false, dF (by omega), cond_false, hcat _ _ _ _ _ (by simp; omega), show ([40] ++ a : List UInt8) = 40 :: a from rfl, e3, hcat _ _ _ _ _ (by simp; omega), e4, hcat _ _ _ _ _ (by simp; omega), e5, w1, e6, dT rfl, dT rfl, Bool.and_true, Bool.and_true, Bool.not_true, cond_false, e7, dT rfl, dT rfl, Bool.and_true, Bool.and_true, Bool.not_true, cond_false, e8, dT rfl, dT rfl, Bool.and_true, Bool.and_true]
theorem SyntaxCut_law (a : List UInt8) (ha : a.length ≤ reachBytes) : ∃ k h', ∀ (α : Type) (ret : Bool → M α), w4SyntaxCut.f (k + 1) a ret h0 = ret true h' := SyntaxCut_run a
end Go.Ab.S6
