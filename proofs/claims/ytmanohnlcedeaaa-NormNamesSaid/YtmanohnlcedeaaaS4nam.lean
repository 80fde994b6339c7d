import Derived.Test.YtmanohnlcedeaaaS4law
namespace Go.Ab.S4
set_option linter.unusedVariables false
set_option linter.unusedSimpArgs false
variable {α : Type} {h : H}
def oneS : List UInt8 := [111, 110, 101]
def stepS : List UInt8 := [115, 116, 101, 112]
def rnK (k : Int) (s : List UInt8) : List UInt8 := if k = 3 ∨ k = 12 then oneS else if k = 8 ∨ k = 9 then stepS else s
def rnN (n : Nd) : Nd := { n with name := rnK n.kind n.name }
def Tr.rn : Tr → Tr
  | .leaf k s p => .leaf k (rnK k s) p
  | .un k s p a => .un k (rnK k s) p a.rn
  | .bin k s p a b => .bin k (rnK k s) p a.rn b.rn
theorem rn_size : ∀ t : Tr, t.rn.size = t.size
  | .leaf _ _ _ => rfl
  | .un _ _ _ a => by simp [Tr.rn, Tr.size, rn_size a]
  | .bin _ _ _ a b => by simp [Tr.rn, Tr.size, rn_size a, rn_size b]
theorem rn_flat : ∀ (t : Tr) (base : Nat), t.rn.flat base = (t.flat base).map rnN
  | .leaf _ _ _, base => rfl
  | .un k s p a, base => by simp [Tr.rn, Tr.flat, rn_flat a, Tr.node, rn_size, rnN]
  | .bin k s p a b, base => by simp [Tr.rn, Tr.flat, rn_flat a, rn_flat b, Tr.node, rn_size, rnN]
theorem rn_named {k : Int} (hk : kindsW k) {s : List UInt8} (h : namedF (plK k) s = true) : namedF (plK k) (rnK k s) = true := by
  rcases hk with rfl | rfl | rfl | rfl | rfl | rfl | rfl | rfl | rfl | rfl | rfl | rfl
  case inr.inr.inl => exact (by decide : namedF 3 oneS = true)
  case inr.inr.inr.inr.inr.inr.inr.inl => exact (by decide : namedF 8 stepS = true)
  case inr.inr.inr.inr.inr.inr.inr.inr.inl => exact (by decide : namedF 9 stepS = true)
  case inr.inr.inr.inr.inr.inr.inr.inr.inr.inr.inr => exact (by decide : namedF 3 oneS = true)
  all_goals exact h
theorem rn_ok : ∀ t : Tr, t.pl.ok = true → t.rn.pl.ok = true
  | .leaf k s p, h => by
    simp only [Tr.pl, Tr.ok, Bool.and_eq_true, decide_eq_true_eq] at h
    simp only [Tr.rn, Tr.pl, Tr.ok, h.1, rn_named (arF_kinds (k := k) (by omega)) h.2, decide_true, Bool.and_self]
  | .un k s p a, h => by
    simp only [Tr.pl, Tr.ok, Bool.and_eq_true, decide_eq_true_eq] at h
    simp only [Tr.rn, Tr.pl, Tr.ok, h.1.1, rn_named (arF_kinds (k := k) (by omega)) h.1.2, rn_ok a h.2, decide_true, Bool.and_self]
  | .bin k s p a b, h => by
    simp only [Tr.pl, Tr.ok, Bool.and_eq_true, decide_eq_true_eq] at h
    simp only [Tr.rn, Tr.pl, Tr.ok, h.1.1.1, rn_named (arF_kinds (k := k) (by omega)) h.1.1.2, rn_ok a h.1.2, rn_ok b h.2, decide_true, Bool.and_self]
theorem rn_other {k : Int} (h3 : k ≠ 3) (h12 : k ≠ 12) (h8 : k ≠ 8) (h9 : k ≠ 9) (s : List UInt8) : rnK k s = s := by
  unfold rnK
  rw [if_neg (by omega), if_neg (by omega)]
theorem fix_kinds {k : Int} (h : fixK k = true) : k = 10 ∨ k = 11 := by
  unfold fixK at h
  simpa using h
theorem rn_fit : ∀ (t : Tr) (E : Env), fit t.rn.pl E = fit t.pl E
  | .leaf k s p, E => by
    simp only [Tr.rn, Tr.pl, fit, pl_four]
    by_cases h4 : k = 4
    · rw [if_pos h4, if_pos h4, rn_other (by omega) (by omega) (by omega) (by omega)]
    · rw [if_neg h4, if_neg h4]
  | .un k s p a, E => by
    simp only [Tr.rn, Tr.pl, fit, pl_fix, pl_five]
    by_cases hf : fixK k = true
    · have := fix_kinds hf
      rw [if_pos hf, if_pos hf, rn_other (by omega) (by omega) (by omega) (by omega), rn_fit a]
    · rw [if_neg hf, if_neg hf, rn_fit a, rn_fit a]
  | .bin k s p a b, E => by simp only [Tr.rn, Tr.pl, fit, rn_fit a, rn_fit b]
theorem rn_fxs : ∀ t : Tr, fxs t.rn = fxs t
  | .leaf _ _ _ => rfl
  | .un k s p a => by
    simp only [Tr.rn, fxs, rn_fxs a]
    by_cases hf : fixK k = true
    · have := fix_kinds hf
      rw [if_pos hf, if_pos hf, rn_other (by omega) (by omega) (by omega) (by omega)]
    · rw [if_neg hf, if_neg hf]
  | .bin _ _ _ a b => by simp only [Tr.rn, fxs, rn_fxs a, rn_fxs b]
theorem rn_dep : ∀ t : Tr, depT t.rn = depT t
  | .leaf _ _ _ => rfl
  | .un k s p a => by simp only [Tr.rn, depT, rn_dep a]
  | .bin _ _ _ a b => by simp only [Tr.rn, depT, rn_dep a, rn_dep b]
theorem rn_neg {g : Bool} {k : Int} (hk : kindsW k) (s : List UInt8) : rnK (negK g k) s = rnK k s := by
  cases g
  · rfl
  · rcases hk with rfl | rfl | rfl | rfl | rfl | rfl | rfl | rfl | rfl | rfl | rfl | rfl <;> rfl
theorem rn_nf : ∀ (t : Tr) (g : Bool), t.pl.ok = true → nfT t.rn g = (nfT t g).rn
  | .leaf k s p, g, h => by
    simp only [Tr.pl, Tr.ok, Bool.and_eq_true, decide_eq_true_eq] at h
    simp only [nfT, Tr.rn, rn_neg (arF_kinds (k := k) (by omega))]
  | .un k s p a, g, h => by
    simp only [Tr.pl, Tr.ok, Bool.and_eq_true, decide_eq_true_eq] at h
    simp only [nfT, Tr.rn]
    by_cases h5 : k = 5
    · rw [if_pos h5, if_pos h5, rn_nf a _ h.2]
    · rw [if_neg h5, if_neg h5]
      simp only [Tr.rn, rn_neg (arF_kinds (k := k) (by omega)), rn_nf a g h.2]
  | .bin k s p a b, g, h => by
    simp only [Tr.pl, Tr.ok, Bool.and_eq_true, decide_eq_true_eq] at h
    simp only [nfT, Tr.rn, rn_neg (arF_kinds (k := k) (by omega)), rn_nf a g h.1.2, rn_nf b g h.2]
theorem Wide.rn {l : List Nd} {u : Tr} (w : Wide l u) : Wide (l.map rnN) u.rn := by
  refine ⟨rn_ok u w.ok, by rw [rn_size]; exact w.size, by rw [w.flat, rn_flat], ?_⟩
  obtain ⟨h1, h2, h3⟩ := (chk_fit w.ok).1 w.chk
  refine (chk_fit (rn_ok u w.ok)).2 ⟨by rw [rn_fit]; exact h1, ?_, ?_⟩
  · rw [fxs_pl, rn_fxs, ← fxs_pl]; exact h2
  · rw [dep_pl, rn_dep, ← dep_pl]; exact h3
theorem copy_own {x : Sl} {l : List Nd} (r : NdR h x l) (hr : Room l.length) :
    ∃ d h', (∀ (α : Type) (K : Sl → M α), new [] (fun a => appRow ⟨some a, 0, 0, none⟩ 5 48 x K) h = K d h') ∧ Ext h h' ∧ NdR h' d l ∧ (l ≠ [] → Own h' d 5 (cN l)) ∧ Owned h d := by
  have hlen := nd_slen r
  have x1 : Ext h (h.push (.cells [] true)) := (Ext.refl h).push _
  have hg : (h.push (.cells [] true)).get h.next = some (.cells [] true) := by rw [push_get, if_pos rfl]
  have ap : App (h.push (.cells [] true)) ⟨some ⟨h.next, 0⟩, 0, 0, none⟩ 5 [] := ⟨Rd.pushed h (by simp), fun ha => (by cases ha), .inl ⟨rfl, rfl⟩⟩
  by_cases h0 : x.len = 0
  · have hl : l = [] := List.eq_nil_of_length_eq_zero (by rw [← hlen]; exact h0)
    subst hl
    refine ⟨⟨some ⟨h.next, 0⟩, 0, 0, none⟩, h.push (.cells [] true), fun α K => ?_, x1, ap.rd, fun h => absurd rfl h, fun a ha => by cases ha; exact Nat.le_refl _⟩
    rw [new_run rfl]
    exact app_row0 ap (r.ext x1) h0 K (fun _ a ha => by cases ha; exact ⟨hg, rfl, rfl⟩)
  · obtain ⟨h', e, ap', g, kp⟩ := app_row (bytes := 48) ap (r.ext x1) (by omega) (by decide) (by rw [hlen]; exact room_n hr)
    rw [List.nil_append] at ap' g
    refine ⟨_, h', fun α K => ?_, kp.ext x1 (fun a ha => by cases ha; exact Nat.le_refl _), ap'.rd, fun _ => ⟨ap'.rd.len, _, [], rfl, by rw [List.append_nil]; exact g, by rw [kp.1]; exact Nat.lt_succ_self _⟩, fun a ha => by cases ha; show h.next ≤ h.next + 1; omega⟩
    rw [new_run rfl]
    exact e α K
theorem nd_stn {s : Sl} {l : List Nd} (o : Own h s 5 (cN l)) {i : Nat} {n : Nd} (hi : l[i]? = some n) (v : List UInt8) :
    ∃ h', (∀ (α : Type) (K : M α), idxSl s (i : Int) 5 (fun a => st1 ((a.add 3).add 0) (.str v) K) h = K h') ∧ Own h' s 5 (cN (l.set i { n with name := v })) ∧ h'.next = h.next ∧ ∀ i, i ≠ s.id → h'.get i = h.get i := by
  have hlt := get_lt hi
  obtain ⟨h', e, o', k⟩ := own_st o (n := i * 5 + 3) (v := .str v) rfl (by rw [flat_len Nd.len]; omega)
  refine ⟨h', fun α K => ?_, ?_, k⟩
  · rw [nd_idx o.rd rfl hi, at_add, at_add]
    exact e α K
  · rw [flat_set Nd.len l i n { n with name := v } 3 _ hi rfl (by decide)] at o'
    exact o'
theorem mp_set (φ : Nd → Nd) {l : List Nd} {i : Nat} {n : Nd} (hi : l[i]? = some n) : ((l.take i).map φ ++ l.drop i).set i (φ n) = (l.take (i + 1)).map φ ++ l.drop (i + 1) := by
  have hlt := get_lt hi
  have hg : l[i] = n := by rw [List.getElem?_eq_getElem hlt] at hi; exact Option.some.inj hi
  rw [List.set_append_right _ _ (by simp; omega), List.drop_eq_getElem_cons hlt, List.length_map, List.length_take, Nat.min_eq_left (by omega), Nat.sub_self, List.set_cons_zero, List.take_succ_eq_append_getElem hlt, List.map_append, hg]
  simp
theorem mp_get (φ : Nd → Nd) {l : List Nd} {i : Nat} {n : Nd} (hi : l[i]? = some n) : ((l.take i).map φ ++ l.drop i)[i]? = some n := by
  have hlt := get_lt hi
  rw [List.getElem?_append_right (by simp; omega), List.length_map, List.length_take, Nat.min_eq_left (by omega), Nat.sub_self, List.getElem?_drop, Nat.add_zero]
  exact hi
theorem names_loop (k : Nat) {s f : Sl} {b : Bool} {l : List Nd} (hl : l.length ≤ 4611686018427387800) : ∀ (j i : Nat) (h : H), i ≤ l.length → l.length - i < j → s.len = l.length → Own h s 5 (cN ((l.take i).map rnN ++ l.drop i)) →
    ∃ h', (∀ (α : Type) (kx : Sl → Bool → Sl → M α), w6NormNames.u4.l k kx j f b s (i : Int) h = kx f b s h') ∧ Own h' s 5 (cN (l.map rnN)) ∧ h'.next = h.next ∧ ∀ i, i ≠ s.id → h'.get i = h.get i := by
  intro j
  induction j with
  | zero => intro i h hi hj; omega
  | succ j ih =>
    intro i h hi hj hs o
    by_cases hlt : i < l.length
    · have hn : l[i]? = some l[i] := List.getElem?_eq_getElem hlt
      generalize l[i] = n at hn
      have hg := mp_get rnN hn
      -- written or not
      have fin : ∀ v : List UInt8, rnN n = { n with name := v } → (∀ (α : Type) (kx : Sl → Bool → Sl → M α), w6NormNames.u4.l k kx (j + 1) f b s (i : Int) h = idxSl s (i : Int) 5 (fun a => st1 ((a.add 3).add 0) (.str v) (w6NormNames.u4.l k kx j f b s ((i + 1 : Nat) : Int))) h) →
          ∃ h', (∀ (α : Type) (kx : Sl → Bool → Sl → M α), w6NormNames.u4.l k kx (j + 1) f b s (i : Int) h = kx f b s h') ∧ Own h' s 5 (cN (l.map rnN)) ∧ h'.next = h.next ∧ ∀ i, i ≠ s.id → h'.get i = h.get i := by
        intro v hv st
        obtain ⟨h1, e1, o1, n1, g1⟩ := nd_stn o hg v
        rw [← hv, mp_set rnN hn] at o1
        obtain ⟨h2, e2, o2, n2, g2⟩ := ih (i + 1) h1 (by omega) (by omega) hs o1
        exact ⟨h2, fun α kx => by rw [st, e1, e2], o2, by omega, fun i hi => by rw [g2 i hi, g1 i hi]⟩
      have w1 : w64 ((i : Int) + 1) = ((i + 1 : Nat) : Int) := by rw [w64_eq (by omega) (by omega)]; rfl
      have st0 : ∀ (α : Type) (kx : Sl → Bool → Sl → M α), w6NormNames.u4.l k kx (j + 1) f b s (i : Int) h = w6NormNames.u3.f k f b s (i : Int) (fun y0 y1 y2 y3 => w6NormNames.u4.l k kx j y0 y1 y2 y3) kx h := fun α kx => by rw [w6NormNames.u4.l]
      have hk : ∀ (α : Type) (K : Int → M α), idxSl s (i : Int) 5 (fun a => ldI .i64 ((a.add 0).add 0) K) h = K n.kind h := fun α K => nd_kind o.rd rfl hg K
      by_cases h3 : n.kind = 3
      · refine fin oneS (by unfold rnN rnK; rw [if_pos (.inl h3)]) fun α kx => ?_
        rw [st0, w6NormNames.u3.f, hs, dT (by omega : (i : Int) < (l.length : Int)), cond_true, hk, dT h3, cond_true, cond_true, w1]
        rfl
      by_cases h12 : n.kind = 12
      · refine fin oneS (by unfold rnN rnK; rw [if_pos (.inr h12)]) fun α kx => ?_
        rw [st0, w6NormNames.u3.f, hs, dT (by omega : (i : Int) < (l.length : Int)), cond_true, hk, dF h3, cond_false, dT h12, cond_true, w1]
        rfl
      by_cases h8 : n.kind = 8
      · refine fin stepS (by unfold rnN rnK; rw [if_neg (by omega), if_pos (.inl h8)]) fun α kx => ?_
        rw [st0, w6NormNames.u3.f, hs, dT (by omega : (i : Int) < (l.length : Int)), cond_true, hk, dF h3, cond_false, dF h12, cond_false, dT h8, cond_true, cond_true, w1]
        rfl
      by_cases h9 : n.kind = 9
      · refine fin stepS (by unfold rnN rnK; rw [if_neg (by omega), if_pos (.inr h9)]) fun α kx => ?_
        rw [st0, w6NormNames.u3.f, hs, dT (by omega : (i : Int) < (l.length : Int)), cond_true, hk, dF h3, cond_false, dF h12, cond_false, dF h8, cond_false, dT h9, cond_true, w1]
        rfl
      have hrn : rnN n = n := by unfold rnN; rw [rn_other h3 h12 h8 h9]
      have e0 := mp_set rnN hn
      rw [hrn, show ((l.take i).map rnN ++ l.drop i).set i n = (l.take i).map rnN ++ l.drop i by
        have hlt' := get_lt hg
        rw [List.getElem?_eq_getElem hlt'] at hg
        rw [← Option.some.inj hg]; exact List.set_getElem_self hlt'] at e0
      have o1 := o
      rw [e0] at o1
      obtain ⟨h2, e2, o2, n2, g2⟩ := ih (i + 1) h (by omega) (by omega) hs o1
      refine ⟨h2, fun α kx => ?_, o2, n2, g2⟩
      rw [st0, w6NormNames.u3.f, hs, dT (by omega : (i : Int) < (l.length : Int)), cond_true, hk, dF h3, cond_false, dF h12, cond_false, dF h8, cond_false, dF h9, cond_false, w1, e2]
    · refine ⟨h, fun α kx => ?_, ?_, rfl, fun _ _ => rfl⟩
      · rw [w6NormNames.u4.l, w6NormNames.u3.f, hs, dF (by omega : ¬ (i : Int) < (l.length : Int)), cond_false]
      · rw [List.take_of_length_le (by omega), List.drop_of_length_le (by omega), List.append_nil] at o
        exact o
theorem eqn (a b : Nd) : (decide (a.kind = b.kind) && (decide (a.a = b.a) && (decide (a.b = b.b) && (decide (a.name = b.name) && (decide (a.pos = b.pos) && true))))) = decide (a = b) := nd_eq a b
theorem cmp_node (k : Nat) {h₀ : H} {a b : Sl} {F G : List Nd} (r : NdR h₀ a F) (q : NdR h₀ b G) {i : Nat} {n : Nd} (hn : F[i]? = some n) (hm : G[i]? = some (rnN n)) (h : H) (x : Ext h₀ h) :
    ∃ h', Ext h₀ h' ∧ ∀ (α : Type) (kn : Sl → Sl → Int → M α) (kr : Bool → M α), w6NormNames.u11.f k a b (i : Int) kn kr h = kn a b (i : Int) h' := by
  have hq : ∀ n : Nd, (h.push (ndC n)).get h.next = some (ndC n) := fun n => by rw [push_get, if_pos rfl]
  have x1 : ∀ n : Nd, Ext h₀ (h.push (ndC n)) := fun n => x.push _
  refine ⟨h.push (ndC (rnN n)), x1 _, fun α kn kr => ?_⟩
  have cmp : ∀ (K : M α) (K' : M α), (ldI .i64 ((⟨h.next, 0⟩ : Ad).add 0) fun x13 => ldI .i64 ((⟨h.next, 0⟩ : Ad).add 1) fun x14 => ldI .i64 ((⟨h.next, 0⟩ : Ad).add 2) fun x15 => ldStr ((⟨h.next, 0⟩ : Ad).add 3) fun x16 => ldI .i64 ((⟨h.next, 0⟩ : Ad).add 4) fun x17 =>
      idxSl b (i : Int) 5 fun a18 => ldI .i64 (a18.add 0) fun x19 => ldI .i64 (a18.add 1) fun x20 => ldI .i64 (a18.add 2) fun x21 => ldStr (a18.add 3) fun x22 => ldI .i64 (a18.add 4) fun x23 =>
      cond (!((decide (x13 = x19) && (decide (x14 = x20) && (decide (x15 = x21) && (decide (x16 = x22) && (decide (x17 = x23) && true))))))) K K') (h.push (ndC (rnN n))) = K' (h.push (ndC (rnN n))) := by
    intro K K'
    rw [own_all (hq _), nd_rd (q.ext (x1 _)) rfl hm, eqn, dT rfl, Bool.not_true, cond_false]
  have set3 : ∀ (v : List UInt8) (K : M α), rnN n = { n with name := v } → st1 (((⟨h.next, 0⟩ : Ad).add 3).add 0) (.str v) K (h.push (ndC n)) = K (h.push (ndC (rnN n))) := by
    intro v K hv
    rw [set_at (hq n) { n with name := v } (by decide) rfl rfl, ← hv]
    show K ((h.push (ndC n)).put h.next (some (ndC (rnN n)))) = _
    rw [put_push]
  rw [w6NormNames.u11.f, nd_rd (r.ext x) rfl hn, nd_copy, own_kind (hq n)]
  by_cases h3 : n.kind = 3
  · rw [dT h3, cond_true, cond_true]
    refine (set3 oneS _ (by unfold rnN rnK; rw [if_pos (.inl h3)])).trans ?_
    exact cmp _ _
  by_cases h12 : n.kind = 12
  · rw [dF h3, cond_false, dT h12, cond_true]
    refine (set3 oneS _ (by unfold rnN rnK; rw [if_pos (.inr h12)])).trans ?_
    exact cmp _ _
  by_cases h8 : n.kind = 8
  · rw [dF h3, cond_false, dF h12, cond_false, dT h8, cond_true, cond_true]
    refine (set3 stepS _ (by unfold rnN rnK; rw [if_neg (by omega), if_pos (.inl h8)])).trans ?_
    exact cmp _ _
  by_cases h9 : n.kind = 9
  · rw [dF h3, cond_false, dF h12, cond_false, dF h8, cond_false, dT h9, cond_true]
    refine (set3 stepS _ (by unfold rnN rnK; rw [if_neg (by omega), if_pos (.inr h9)])).trans ?_
    exact cmp _ _
  have hrn : rnN n = n := by unfold rnN; rw [rn_other h3 h12 h8 h9]
  rw [dF h3, cond_false, dF h12, cond_false, dF h8, cond_false, dF h9, cond_false]
  have := cmp (kr false) (kn a b (i : Int))
  rw [hrn] at this
  rw [hrn]
  exact this
theorem cmp_loop (k : Nat) {h₀ : H} {a b : Sl} {F : List Nd} (r : NdR h₀ a F) (q : NdR h₀ b (F.map rnN)) (hl : F.length ≤ 60) : ∀ (j i : Nat) (h : H), i ≤ F.length → F.length - i < j → Ext h₀ h →
    ∃ h', Ext h₀ h' ∧ ∀ (α : Type) (kr : Bool → M α) (kx : Sl → Sl → M α), w6NormNames.u16.l k kr kx j a b (i : Int) h = kx a b h' := by
  intro j
  induction j with
  | zero => intro i h hi hj; omega
  | succ j ih =>
    intro i h hi hj x
    have hlen := nd_slen r
    by_cases hlt : i < F.length
    · have hn : F[i]? = some F[i] := List.getElem?_eq_getElem hlt
      obtain ⟨h1, x1, e1⟩ := cmp_node k r q hn (by rw [List.getElem?_map, hn]; rfl) h x
      obtain ⟨h2, x2, e2⟩ := ih (i + 1) h1 (by omega) (by omega) x1
      refine ⟨h2, x2, fun α kr kx => ?_⟩
      rw [w6NormNames.u16.l, w6NormNames.u15.f, w6NormNames.u10.f, hlen, dT (by omega : (i : Int) < (F.length : Int)), cond_true, w6NormNames.u14.f, w6NormNames.u12.f, e1, w6NormNames.u13.f, w64_eq (by omega) (by omega)]
      exact e2 α kr kx
    · refine ⟨h, x, fun α kr kx => ?_⟩
      rw [w6NormNames.u16.l, w6NormNames.u15.f, w6NormNames.u10.f, hlen, dF (by omega : ¬ (i : Int) < (F.length : Int)), cond_false]
theorem NormNames_law {f : Sl} {l : List Nd} {h : H} (r : NdR h f l) (hnl : NL l) (hr : Room l.length) : ∃ k h', ∀ (α : Type) (ret : Bool → M α), w6NormNames.f (k + 1) f ret h = ret true h' := by
  obtain ⟨k, hk1, hk2⟩ : ∃ k, 4000000 ≤ k ∧ l.length + 2000 ≤ k := ⟨4002000 + l.length, by omega, by omega⟩
  refine ⟨k + 1, ?_⟩
  obtain ⟨h1, e1, x1⟩ := shown6_run k hk1 h
  obtain ⟨d, h2, e2, x2, r2, o2, w2⟩ := copy_own (r.ext x1) hr
  have hd := nd_slen r2
  -- the names are written
  obtain ⟨h3, e3, r3, x3⟩ : ∃ h3, (∀ (α : Type) (ret : Bool → M α), w6NormNames.f (k + 1 + 1) f ret h = w6NormNames.u22.f (k + 1) f true d ret h3) ∧ NdR h3 d (l.map rnN) ∧ Ext h h3 := by
    have st : ∀ (α : Type) (ret : Bool → M α), w6NormNames.f (k + 1 + 1) f ret h = w6NormNames.u4.l (k + 1) (fun y0 y1 y2 => w6NormNames.u22.f (k + 1) y0 y1 y2 ret) (k + 1) f true d ((0 : Nat) : Int) h2 := by
      intro α ret
      have b := e2 α (fun x5 => w6NormNames.u23.f (k + 1) f true x5 ret)
      rw [w6NormNames.f, w6NormNames.u24.f, w6NormNames.u1.f, e1]
      refine b.trans ?_
      rw [w6NormNames.u23.f, w6NormNames.u6.f, w6NormNames.u2.f, w6NormNames.u5.f, w6NormNames.u4.f]
      rfl
    by_cases h0 : l = []
    · subst h0
      refine ⟨h2, fun α ret => ?_, r2, x1.trans x2⟩
      rw [st, w6NormNames.u4.l, w6NormNames.u3.f, hd]
      rfl
    · obtain ⟨h3, e3, o3, n3, g3⟩ := names_loop (k + 1) (f := f) (b := true) (by unfold Room at hr; omega) (k + 1) 0 h2 (Nat.zero_le _) (by omega) hd (o2 h0)
      have hid : h1.next ≤ d.id := by
        obtain ⟨id, more, q1, q2, q3⟩ := (o2 h0).blk
        unfold Sl.id
        rw [q1]
        exact w2 _ q1
      exact ⟨h3, fun α ret => by rw [st, e3], o3.rd, x1.trans ⟨by have := x2.1; omega, fun i hi => by rw [g3 i (by omega)]; exact x2.2 i hi⟩⟩
  have hlr : (l.map rnN).length = l.length := by simp
  rcases wide_or l with ⟨u, w⟩ | w
  · obtain ⟨a, h4, e4, x4, p4, _⟩ := pn_good false k (by omega) w h3 (r.ext x3)
    obtain ⟨b, h5, e5, x5, p5, _⟩ := pn_good false k (by omega) w.rn h4 (r3.ext x4)
    rw [rn_nf u false w.ok, rn_flat] at p5
    have ra := p4.rd.ext x5
    have rb := p5.rd
    have la := nd_slen ra
    have lb := nd_slen rb
    rw [List.length_map, flen] at lb
    rw [flen] at la
    have hp := Tr.pos (nfT u false)
    have hs := w.size
    have hle := nf_le u false
    obtain ⟨h6, x6, e6⟩ := cmp_loop (k + 1) ra rb (by rw [flen]; omega) (k + 1) 0 h5 (Nat.zero_le _) (by rw [flen]; omega) (Ext.refl _)
    refine ⟨h6, fun α ret => ?_⟩
    rw [e3]
    simp only [w6NormNames.u22.f, w6NormNames.u7.f, pos_run]
    rw [e4, e5, Bool.not_true, cond_false]
    have fin : w6NormNames.u21.f (k + 1) a b ret h5 = ret true h6 := by
      rw [w6NormNames.u21.f, w6NormNames.u8.f, la, dF (by omega), cond_false, w6NormNames.u20.f, w6NormNames.u18.f, w6NormNames.u9.f, w6NormNames.u17.f, w6NormNames.u16.f]
      refine (e6 α _ _).trans ?_
      rw [w6NormNames.u19.f, la, lb, dT rfl]
    by_cases h0 : (0 : Int) < (f.len : Int)
    · rw [dT h0, cond_true, la, lb, dF (by omega), cond_false]
      exact fin
    · rw [dF h0, cond_false]
      exact fin
  · obtain ⟨h4, e4, x4⟩ := pn_not false k w hr (by omega) h3 (r.ext x3)
    obtain ⟨b, h5, e5⟩ : ∃ b h5, ∀ (α : Type) (ret : Sl → M α), posneg false (k + 1) d ret h4 = ret b h5 := by
      rcases wide_or (l.map rnN) with ⟨v, w'⟩ | w'
      · obtain ⟨b, h5, e5, _⟩ := pn_good false k (by omega) w' h4 (r3.ext x4)
        exact ⟨b, h5, e5⟩
      · obtain ⟨h5, e5, _⟩ := pn_not false k w' (by rw [hlr]; exact hr) (by rw [hlr]; omega) h4 (r3.ext x4)
        exact ⟨_, h5, e5⟩
    refine ⟨h5, fun α ret => ?_⟩
    rw [e3]
    simp only [w6NormNames.u22.f, w6NormNames.u7.f, pos_run]
    rw [e4, e5, Bool.not_true, cond_false]
    have fin : w6NormNames.u21.f (k + 1) Sl.nil b ret h5 = ret true h5 := by
      rw [w6NormNames.u21.f, w6NormNames.u8.f, dT (show ((Sl.nil.len : Nat) : Int) = 0 from rfl), cond_true]
    by_cases h0 : (0 : Int) < (f.len : Int)
    · rw [dT h0, cond_true, dF (show ¬ ((b.len : Int) < ((Sl.nil.len : Nat) : Int)) by show ¬ ((b.len : Int) < ((0 : Nat) : Int)); omega), cond_false]
      exact fin
    · rw [dF h0, cond_false]
      exact fin
end Go.Ab.S4
