import Derived.Test.YtkfoohgkbafafaaS3nam2
import Derived.Test.YtkfoohgkbafafaaS3sh
namespace Go.Ab.S3
set_option linter.unusedVariables false
set_option linter.unusedSimpArgs false
variable {α : Type} {h : H}
/-- a copy of one's own -/
theorem copy_own {x : Sl} {size bytes : Nat} {cs : List V} (r : Rd h x size cs) (hp : 0 < x.len) (hs : 0 < size) (hb : 0 < bytes) (hr : (x.len + x.len / 4 + 512) * bytes ≤ 281474976710656) :
    ∃ h' s, (∀ (α : Type) (K : Sl → M α), new [] (fun a => appRow ⟨some a, 0, 0, none⟩ size bytes x K) h = K s h') ∧ Own h' s size cs ∧ Ext h h' ∧ h.next ≤ s.id := by
  have x1 : Ext h (h.push (.cells [] true)) := (Ext.refl h).push _
  have ap : App (h.push (.cells [] true)) ⟨some ⟨h.next, 0⟩, 0, 0, none⟩ size [] := by
    refine ⟨Rd.pushed h (by simp), fun ha => (by cases ha), .inl ⟨rfl, rfl⟩⟩
  obtain ⟨h', e, a, g, k⟩ := app_row (bytes := bytes) ap (r.ext x1) hp hb (by simpa using hr)
  have hc := r.len
  refine ⟨h', ⟨some ⟨(h.push (.cells [] true)).next, 0⟩, 0 + x.len, 0 + x.len, some size⟩, fun α K => ?_, ⟨?_, (h.push (.cells [] true)).next, [], rfl, by rw [g]; simp, by rw [k.1]; exact Nat.lt_succ_self _⟩, k.ext x1 (fun a ha => by cases ha; exact Nat.le_refl _), ?_⟩
  · rw [new_run rfl]; exact e α K
  · simpa using hc
  · show h.next ≤ (h.push (.cells [] true)).next
    rw [push_next]; exact Nat.le_succ _
theorem ren_step {w : Nat} {l : List Nd} {T : List Int} {i : Nat} {n : Nd} {t : Int} (hi : l[i]? = some n) (ht : T[i]? = some t) :
    (renL w l T 0).take (i + 1) ++ l.drop (i + 1) = ((renL w l T 0).take i ++ l.drop i).set i (renN w i t n) := by
  have hlt := get_lt hi
  have hg := renL_get w l T 0 i n t hi ht
  rw [Nat.zero_add] at hg
  have hlen : ((renL w l T 0).take i).length = i := by rw [List.length_take, renL_len]; omega
  rw [List.set_append_right _ _ (by omega), hlen, Nat.sub_self, List.drop_eq_getElem_cons hlt, List.set_cons_zero, List.take_add_one, hg]
  simp
theorem ren_at {w : Nat} {l : List Nd} {T : List Int} {i : Nat} {n : Nd} (hi : l[i]? = some n) : ((renL w l T 0).take i ++ l.drop i)[i]? = some n := by
  have hlt := get_lt hi
  have hlen : ((renL w l T 0).take i).length = i := by rw [List.length_take, renL_len]; omega
  rw [List.getElem?_append_right (by omega), hlen, Nat.sub_self, List.getElem?_drop, Nat.add_zero, hi]
theorem nam_loop (k : Nat) {f T' g : Sl} {l : List Nd} {T : List Int} {w : Nat} (h₀ : H) (r : NdR h₀ f l) (rT : Rd h₀ T' 1 (cIs T)) (hT : T.length = l.length) (hl : l.length ≤ 100) (hid : h₀.next ≤ g.id) : ∀ (j i : Nat) (h : H),
    Own h g 5 (cN ((renL w l T 0).take i ++ l.drop i)) → Ext h₀ h → i ≤ l.length → l.length - i < j → (∀ q, q < i → ∀ n, l[q]? = some n → n.name ≠ new0) →
    ((∀ n ∈ l, n.name ≠ new0) → ∃ h', (∀ (α : Type) (kr : Bool → M α) (kx : Sl → Sl → Sl → M α), w5BindNames.u6.l k kr kx j f (w : Int) T' g (i : Int) h = kx f T' g h') ∧ Own h' g 5 (cN (renL w l T 0)) ∧ Ext h₀ h') ∧
    (¬ (∀ n ∈ l, n.name ≠ new0) → ∃ h', ∀ (α : Type) (kr : Bool → M α) (kx : Sl → Sl → Sl → M α), w5BindNames.u6.l k kr kx j f (w : Int) T' g (i : Int) h = kr true h') := by
  have hfl := nd_slen r
  intro j
  induction j with
  | zero => intro i h _ _ _ h2; omega
  | succ j ih =>
    intro i h ow x h1 h2 hq
    by_cases hi : i < l.length
    · have hg : l[i]? = some l[i] := List.getElem?_eq_getElem hi
      have ht : T[i]? = some (T[i]'(by omega)) := List.getElem?_eq_getElem (by omega)
      have pre : ∀ (α : Type) (kr : Bool → M α) (kx : Sl → Sl → Sl → M α), w5BindNames.u6.l k kr kx (j + 1) f (w : Int) T' g (i : Int) h = cond (decide (l[i].name = [78, 101, 119, 95, 48])) (kr true) (cond (decide ((i : Int) = (w : Int))) (idxSl g (i : Int) 5 fun a9 => st1 ((a9.add 3).add 0) (.str [78, 101, 119, 95, 48]) <| w5BindNames.u6.l k kr kx j f (w : Int) T' g ((i + 1 : Nat) : Int))
          (cond (decide ((T[i]'(by omega)) = (w : Int))) (idxSl g (i : Int) 5 fun a9 => st1 ((a9.add 3).add 0) (.str [78, 101, 119, 95, 48]) <| w5BindNames.u6.l k kr kx j f (w : Int) T' g ((i + 1 : Nat) : Int)) (w5BindNames.u6.l k kr kx j f (w : Int) T' g ((i + 1 : Nat) : Int)))) h := by
        intro α kr kx
        rw [w5BindNames.u6.l, w5BindNames.u5.f, dT (by omega), cond_true, nd_name (r.ext x) rfl hg]
        cases decide (l[i].name = [78, 101, 119, 95, 48]) with
        | true => rfl
        | false =>
          rw [cond_false, cond_false, w64_eq (by omega) (by omega)]
          cases decide ((i : Int) = (w : Int)) with
          | true => rfl
          | false =>
            rw [cond_false, cond_false, int_rd (rT.ext x) rfl ht]
            rfl
      by_cases hn : l[i].name = [78, 101, 119, 95, 48]
      · refine ⟨fun hh => absurd hn (hh _ (List.getElem_mem hi)), fun _ => ⟨h, fun α kr kx => ?_⟩⟩
        rw [pre, dT hn, cond_true]
      · have hq' : ∀ q, q < i + 1 → ∀ n, l[q]? = some n → n.name ≠ new0 := fun q hlt n hn' => by
          by_cases hqi : q = i
          · subst hqi; rw [hg] at hn'; cases hn'; exact hn
          · exact hq q (by omega) n hn'
        have hlen : (cN ((renL w l T 0).take i ++ l.drop i)).length = l.length * 5 := by
          rw [flat_len Nd.len, List.length_append, List.length_take, renL_len, List.length_drop]; congr 1; omega
        have hgl : g.len = l.length := by
          have := ow.len; rw [hlen] at this; omega
        by_cases hc : i = w ∨ (T[i]'(by omega)) = (w : Int)
        · obtain ⟨h', e, o', n', g'⟩ := own_st ow (n := i * 5 + 3) (v := .str [78, 101, 119, 95, 48]) rfl (by rw [hlen]; omega)
          have x' : Ext h₀ h' := ⟨by rw [n']; exact x.1, fun q hlt => by rw [g' q (by omega)]; exact x.2 q hlt⟩
          rw [flat_set Nd.len _ i l[i] (renN w i (T[i]'(by omega)) l[i]) 3 _ (ren_at hg) (by unfold renN; rw [if_pos hc]; rfl) (by decide), ← ren_step hg ht] at o'
          have wr : ∀ (α : Type) (K : M α), (idxSl g (i : Int) 5 fun a9 => st1 ((a9.add 3).add 0) (.str [78, 101, 119, 95, 48]) K) h = K h' := by
            intro α K
            rw [idx_run ow.rd rfl (by omega), at_add, at_add]
            exact e α K
          have st : ∀ (α : Type) (kr : Bool → M α) (kx : Sl → Sl → Sl → M α), w5BindNames.u6.l k kr kx (j + 1) f (w : Int) T' g (i : Int) h = w5BindNames.u6.l k kr kx j f (w : Int) T' g ((i + 1 : Nat) : Int) h' := by
            intro α kr kx
            rewrite [pre, dF hn, cond_false]
            by_cases hw : (i : Int) = (w : Int)
            · rewrite [dT hw, cond_true]; exact wr α _
            · rewrite [dF hw, cond_false, dT (hc.resolve_left (by omega)), cond_true]; exact wr α _
          have := ih (i + 1) h' o' x' (by omega) (by omega) hq'
          refine ⟨fun hh => ?_, fun hh => ?_⟩
          · obtain ⟨h2, a, b⟩ := this.1 hh
            exact ⟨h2, fun α kr kx => (st α kr kx).trans (a α kr kx), b⟩
          · obtain ⟨h2, a⟩ := this.2 hh
            exact ⟨h2, fun α kr kx => (st α kr kx).trans (a α kr kx)⟩
        · have st : ∀ (α : Type) (kr : Bool → M α) (kx : Sl → Sl → Sl → M α), w5BindNames.u6.l k kr kx (j + 1) f (w : Int) T' g (i : Int) h = w5BindNames.u6.l k kr kx j f (w : Int) T' g ((i + 1 : Nat) : Int) h := by
            intro α kr kx
            rw [pre, dF hn, cond_false, dF (by omega), cond_false, dF (fun h => hc (.inr h)), cond_false]
          have same : renN w i (T[i]'(by omega)) l[i] = l[i] := by unfold renN; rw [if_neg hc]
          have o' : Own h g 5 (cN ((renL w l T 0).take (i + 1) ++ l.drop (i + 1))) := by
            rw [ren_step hg ht, same]
            have : ((renL w l T 0).take i ++ l.drop i).set i l[i] = (renL w l T 0).take i ++ l.drop i := by
              have h3 := ren_at (w := w) (T := T) hg
              obtain ⟨hlt, h4⟩ := List.getElem?_eq_some_iff.1 h3
              conv => lhs; arg 3; rw [← h4]
              exact List.set_getElem_self hlt
            rw [this]; exact ow
          have := ih (i + 1) h o' x (by omega) (by omega) hq'
          refine ⟨fun hh => ?_, fun hh => ?_⟩
          · obtain ⟨h2, a, b⟩ := this.1 hh
            exact ⟨h2, fun α kr kx => (st α kr kx).trans (a α kr kx), b⟩
          · obtain ⟨h2, a⟩ := this.2 hh
            exact ⟨h2, fun α kr kx => (st α kr kx).trans (a α kr kx)⟩
    · have hil : i = l.length := by omega
      refine ⟨fun _ => ⟨h, fun α kr kx => ?_, ?_, x⟩, fun hh => absurd (fun n hn => ?_) hh⟩
      · rw [w5BindNames.u6.l, w5BindNames.u5.f, dF (by omega), cond_false]
      · rw [hil, List.drop_length, List.append_nil, ← renL_len w l T 0, List.take_length] at ow; exact ow
      · obtain ⟨q, hlt, rfl⟩ := List.getElem_of_mem hn
        exact hq q (by omega) _ (List.getElem?_eq_getElem hlt)
theorem nam_same (k : Nat) {f m g s : Sl} {T : List Int} (hT : T.length ≤ 60) (rs : Rd h s 1 (cIs T)) (rm : Rd h m 1 (cIs T)) : ∀ (j i : Nat), i ≤ T.length → T.length - i < j → ∀ (kr : Bool → M α) (kx : Sl → Sl → M α),
    w5BindNames.u12.l k kr kx j f s g m (i : Int) h = kx f g h := by
  have hs : s.len = T.length := slen (size := 1) (fun _ => rfl) (by decide) rs
  intro j
  induction j with
  | zero => intro i _ h2; omega
  | succ j ih =>
    intro i h1 h2 kr kx
    rw [w5BindNames.u12.l, w5BindNames.u11.f]
    by_cases hi : i < T.length
    · have hg : T[i]? = some T[i] := List.getElem?_eq_getElem hi
      rw [dT (by rw [hs]; omega), cond_true, int_rd rm rfl hg, int_rd rs rfl hg, dT rfl, Bool.not_true, cond_false, w64_eq (by omega) (by omega)]
      exact ih (i + 1) (by omega) (by omega) kr kx
    · rw [dF (by rw [hs]; omega), cond_false]
theorem room60 {n : Nat} (h : n ≤ 60) : (n + n / 4 + 512) * 48 ≤ 281474976710656 := by omega
theorem toA_other : ∀ (t : Tr) (base : Nat) (A : Anc) (j : Nat) (n : Nd), (t.flat base)[j]? = some n → n.kind ≠ 4 → (toA t base A)[j]? = some (-1)
  | .leaf k s p, base, A, j, n, h, hk => by
    have h1 := get_lt h
    rw [flat_length] at h1
    have : j = 0 := by simp only [Tr.size] at h1; omega
    subst this
    simp only [Tr.flat, List.getElem?_cons_zero, Option.some.injEq] at h
    subst h
    have hk' : k ≠ 4 := hk
    simp [toA, toLeaf, hk']
  | .un k s p a, base, A, j, n, h, hk => by
    have h1 := get_lt h
    rw [flat_length] at h1
    simp only [Tr.size] at h1
    simp only [Tr.flat, toA] at h ⊢
    by_cases hj : j < a.size
    · rw [List.getElem?_append_left (by rw [flat_length]; exact hj)] at h
      rw [List.getElem?_append_left (by rw [toA_length]; exact hj)]
      exact toA_other a base _ j n h hk
    · rw [List.getElem?_append_right (by rw [toA_length]; omega), toA_length, show j - a.size = 0 by omega]; rfl
  | .bin k s p a b, base, A, j, n, h, hk => by
    have h1 := get_lt h
    rw [flat_length] at h1
    simp only [Tr.size] at h1
    simp only [Tr.flat, toA] at h ⊢
    by_cases hj : j < a.size
    · rw [List.getElem?_append_left (by rw [flat_length]; exact hj)] at h
      rw [List.getElem?_append_left (by rw [toA_length]; exact hj)]
      exact toA_other a base _ j n h hk
    · rw [List.getElem?_append_right (by rw [flat_length]; omega), flat_length] at h
      rw [List.getElem?_append_right (by rw [toA_length]; omega), toA_length]
      by_cases hj2 : j - a.size < b.size
      · rw [List.getElem?_append_left (by rw [flat_length]; exact hj2)] at h
        rw [List.getElem?_append_left (by rw [toA_length]; exact hj2)]
        exact toA_other b _ _ _ n h hk
      · rw [List.getElem?_append_right (by rw [toA_length]; omega), toA_length, show j - a.size - b.size = 0 by omega]; rfl
theorem BindNames_law {f : Sl} {l : List Nd} {h : H} (r : NdR h f l) (hnl : NL l) (hr : Room l.length) (x : Int) (hx : (Lit.int .i64 x).wf = true) : ∃ k h', ∀ (α : Type) (ret : Bool → M α), w5BindNames.f (k + 1) f x ret h = ret true h' := by
  have hx' : -9223372036854775808 ≤ x ∧ x ≤ 9223372036854775807 := by
    simp only [Lit.wf, IntKind.min, IntKind.max, IntKind.signed, IntKind.bits] at hx
    simpa using hx
  have hfl := nd_slen r
  obtain ⟨k, hk1⟩ : ∃ k : Nat, 4000000 ≤ k := ⟨4000000, Nat.le_refl _⟩
  refine ⟨k + 10, ?_⟩
  have hk5 : 500 ≤ k + 9 := by omega
  obtain ⟨h1, e1, x1⟩ := shown_run (k + 9) (by omega) h
  rcases right_or l with hR | ⟨t, hR, ht, rfl, hs⟩
  · obtain ⟨h2, e2, x2⟩ := binders_bad (k + 9) hk5 hR h1 (r.ext x1)
    refine ⟨h2, fun α ret => ?_⟩
    rw [w5BindNames.f, w5BindNames.u21.f, w5BindNames.u1.f, e1, e2, Bool.not_true, cond_false]
    rfl
  · have hln : (t.flat 0).length = t.size := flat_length t 0
    have hpos := t.pos
    obtain ⟨h2, s2, e2, x2, o2, i2, l2, c2⟩ := binders_run (k + 9) hk5 ht hs h1 (r.ext x1)
    have hTl : (toA t 0 []).length = t.size := toA_length t 0 []
    have s2l : s2.len = t.size := by rw [slen (size := 1) (fun _ => rfl) (by decide) o2.rd, hTl]
    obtain ⟨m, hm, hm1, hmx⟩ : ∃ m : Nat, (m : Int) ≤ 9223372036854775807 ∧ (m : Int) = (if x < 0 then -(x + 1) else x) ∧ True := by
      by_cases h0 : x < 0
      · exact ⟨(-(x + 1)).toNat, by omega, by rw [if_pos h0]; omega, trivial⟩
      · exact ⟨x.toNat, by omega, by rw [if_neg h0]; omega, trivial⟩
    have w_lt : m % t.size < t.size := Nat.mod_lt _ (by omega)
    obtain ⟨w, hw⟩ : ∃ w, w = m % t.size := ⟨_, rfl⟩
    rw [← hw] at w_lt
    have htm : Int.tmod (m : Int) (t.size : Int) = (w : Int) := by rw [hw]; exact (Int.ofNat_tmod m t.size).symm
    have start : ∀ (α : Type) (ret : Bool → M α), w5BindNames.f (k + 10 + 1) f x ret h = w5BindNames.u20.f (k + 10) f (m : Int) s2 ret h2 := by
      intro α ret
      rewrite [w5BindNames.f, w5BindNames.u21.f, w5BindNames.u1.f, e1, e2, Bool.not_true, cond_false, s2l, dF (by omega), cond_false]
      by_cases h0 : x < 0
      · rw [if_pos h0] at hm1
        rewrite [dT h0, cond_true, w64_eq (n := x + 1) (by omega) (by omega), w64_eq (by omega) (by omega), show (0 : Int) - (x + 1) = (m : Int) by omega]
        rfl
      · rw [if_neg h0] at hm1
        rewrite [dF h0, cond_false, ← hm1]
        rfl
    have rf := r.ext (x1.trans x2)
    obtain ⟨n, hn⟩ : ∃ n, (t.flat 0)[w]? = some n := ⟨_, List.getElem?_eq_getElem (by omega)⟩
    by_cases hfix : fixK n.kind = true
    · obtain ⟨h3, g, e3, o3, x3, i3⟩ := copy_own (bytes := 48) rf (by omega) (by decide) (by decide) (by rw [hfl, hln]; exact room60 hs)
      have lp := nam_loop (k + 10) (g := g) (w := w) h2 rf o2.rd (by rw [hTl, hln]) (by omega) i3 (k + 10) 0 h3 (by simpa using o3) x3 (by omega) (by omega) (fun q hq => absurd hq (Nat.not_lt_zero _))
      have mid : ∀ (α : Type) (ret : Bool → M α), w5BindNames.u20.f (k + 10) f (m : Int) s2 ret h2 = w5BindNames.u6.l (k + 10) ret (fun y0 y1 y2 => w5BindNames.u17.f (k + 10) y0 y1 y2 ret) (k + 10) f (w : Int) s2 g ((0 : Nat) : Int) h3 := by
        intro α ret
        rewrite [w5BindNames.u20.f, w5BindNames.u2.f, hfl, hln, need_run (by rw [dF (by omega)]; rfl), htm, nd_kind rf rfl hn]
        have fin : w5BindNames.u19.f (k + 10) f (w : Int) s2 ret h2 = w5BindNames.u6.l (k + 10) ret (fun y0 y1 y2 => w5BindNames.u17.f (k + 10) y0 y1 y2 ret) (k + 10) f (w : Int) s2 g ((0 : Nat) : Int) h3 := by
          rewrite [w5BindNames.u19.f, w5BindNames.u3.f, e3]
          rfl
        by_cases h10 : n.kind = 10
        · rewrite [dT h10, Bool.not_true, cond_false]
          exact fin
        · have h11 : n.kind = 11 := by
            unfold fixK at hfix
            simpa [h10] using hfix
          rewrite [dF h10, Bool.not_false, cond_true, nd_kind rf rfl hn, dT h11, Bool.not_true, cond_false]
          exact fin
      by_cases hnew : ∀ n ∈ t.flat 0, n.name ≠ new0
      · obtain ⟨h4, e4, o4, x4⟩ := lp.1 hnew
        have hw4 : ∀ n', (t.flat 0)[w]? = some n' → n'.kind ≠ 4 := by
          intro n' h'
          rw [hn] at h'
          cases h'
          intro e
          rw [e] at hfix
          exact absurd hfix (by decide)
        obtain ⟨b1, b2, b3⟩ := told_ren hnew hw4
        have hok : (renT w t 0 []).ok = true := renT_ok w t 0 [] (fun i n' h' he => by
          rw [Nat.zero_add] at he
          subst he
          rw [hn] at h'
          cases h'
          exact hfix) ht
        have hsz : (renT w t 0 []).size ≤ 60 := by rw [renT_size]; exact hs
        have rg : NdR h4 g ((renT w t 0 []).flat 0) := by rw [b1]; exact o4.rd
        obtain ⟨h5, s5, e5, x5, o5, i5, l5, c5⟩ := binders_run (k + 9) hk5 hok hsz h4 rg
        rw [b2] at o5
        have s5l : s5.len = t.size := by rw [slen (size := 1) (fun _ => rfl) (by decide) o5.rd, hTl]
        have x45 := x4.trans x5
        obtain ⟨h6, e6, x6⟩ := check_run (k + 9) hk5 ht hs h5 (rf.ext x45)
        obtain ⟨h7, e7, x7⟩ := check_run (k + 9) hk5 hok hsz h6 (rg.ext (x5.trans x6))
        have cr := chk_ren (w := w) (t.flat 0) (toA t 0 []) (oddA t 0 []) (depI t) 0 [] [] (by rw [hTl, hln]) hnew (fun s h => by cases h) (fun s h => by cases h) (fun j n' u h1 h2 h3 => by
          have := toA_other t 0 [] j n' h1 (fun e => by rw [e] at h3; exact absurd h3 (by decide))
          rw [this] at h2; cases h2; omega)
        have ce : chkT (renT w t 0 []) = chk (renL w (t.flat 0) (toA t 0 []) 0) (toA t 0 []) (oddA t 0 []) (depI t) 0 [] := by unfold chkT; rw [b1, b2, b3, renT_depI]
        rw [← ce] at cr
        refine ⟨h7, fun α ret => (start α ret).trans ((mid α ret).trans ((e4 α _ _).trans ?_))⟩
        rewrite [w5BindNames.u17.f, w5BindNames.u9.f, e5, s5l, s2l, dT rfl, Bool.not_true, cond_false, w5BindNames.u16.f, w5BindNames.u14.f, w5BindNames.u10.f, w5BindNames.u13.f, w5BindNames.u12.f]
        refine (nam_same (k + 10) (by omega) (o2.rd.ext x45) o5.rd (k + 10) 0 (by omega) (by omega) _ _).trans ?_
        rewrite [w5BindNames.u15.f, e6, e7]
        have hck : chk (t.flat 0) (toA t 0 []) (oddA t 0 []) (depI t) 0 [] = chkT t := rfl
        rw [hck] at cr
        by_cases h9 : (chkT t).2 = 9
        · rewrite [dT h9, cond_true]
          by_cases h9' : (chkT (renT w t 0 [])).2 = 9
          · rw [dT h9', Bool.not_true, cond_false, dT (cr.2 h9 h9')]
          · rw [dF h9', Bool.not_false, cond_true]
        · rw [dF h9, cond_false, cr.1 h9, dT rfl, cond_true, dT rfl]
      · obtain ⟨h4, e4⟩ := lp.2 hnew
        exact ⟨h4, fun α ret => (start α ret).trans ((mid α ret).trans (e4 α _ _))⟩
    · refine ⟨h2, fun α ret => (start α ret).trans ?_⟩
      have h10 : n.kind ≠ 10 := fun e => hfix (by unfold fixK; rw [e]; rfl)
      have h11 : n.kind ≠ 11 := fun e => hfix (by unfold fixK; rw [e]; rfl)
      rw [w5BindNames.u20.f, w5BindNames.u2.f, hfl, hln, need_run (by rw [dF (by omega)]; rfl), htm, nd_kind rf rfl hn, dF h10, Bool.not_false, cond_true, nd_kind rf rfl hn, dF h11, Bool.not_false, cond_true]
end Go.Ab.S3
