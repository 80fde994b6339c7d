import Derived.Test.YtkfoohgkbafafaaS3abv
import Derived.Test.YtkfoohgkbafafaaS3sh
namespace Go.Ab.S3
set_option linter.unusedVariables false
set_option linter.unusedSimpArgs false
variable {α : Type} {h : H}
theorem first_loop (k : Nat) {f : Sl} {t : Tr} (ht : t.ok = true) (hs : t.size ≤ 60) (r : NdR h f (t.flat 0)) : ∀ (j m v : Nat) (n : Nd), m < j → (t.flat 0)[m]? = some n → (firsts t 0)[m]? = some v → ∀ (kr : Int → M α), w5first.u3.l (k + 1) kr j f (m : Int) h = kr (v : Int) h := by
  intro j
  induction j with
  | zero => intro m v n h1; omega
  | succ j ih =>
    intro m v n hm hn hv kr
    rw [w5first.u3.l, w5first.u2.f, nd_kind r rfl hn, rbelow_run]
    rcases firsts_step t 0 m v n ht hn hv with ⟨h1, h2⟩ | ⟨h1, m', h2, h3, h4⟩
    · rw [dT (by omega), cond_true, h2, Nat.zero_add]
    · obtain ⟨n', hn'⟩ : ∃ n', (t.flat 0)[m']? = some n' := ⟨_, List.getElem?_eq_getElem (by have := get_lt hn; omega)⟩
      rw [dF (by omega), cond_false, nd_a r rfl hn, h3, Nat.zero_add]
      exact ih m' v n' (by omega) hn' h4 kr
theorem first_run (k : Nat) (hk : 100 ≤ k) {f : Sl} {t : Tr} (ht : t.ok = true) (hs : t.size ≤ 60) (r : NdR h f (t.flat 0)) {m v : Nat} (hv : (firsts t 0)[m]? = some v) (ret : Int → M α) : w5first.f (k + 1) f (m : Int) ret h = ret (v : Int) h := by
  obtain ⟨k, rfl⟩ : ∃ q, k = q + 1 := ⟨k - 1, by omega⟩
  have hm := get_lt hv
  rw [firsts_length] at hm
  obtain ⟨n, hn⟩ : ∃ n, (t.flat 0)[m]? = some n := ⟨_, List.getElem?_eq_getElem (by rw [flat_length]; exact hm)⟩
  rw [w5first.f, w5first.u5.f, w5first.u1.f, w5first.u4.f, w5first.u3.f]
  exact first_loop k ht hs r _ m v n (by omega) hn hv _
theorem toLeaf_first {s : List UInt8} {B : Anc} (hp : B.Pairwise (fun x y => x.1 < y.1)) :
    (toLeaf 4 s B = -1 ∧ ∀ q ∈ B, fixK q.2.kind = true → q.2.name ≠ s) ∨ ∃ b n, toLeaf 4 s B = ((b : Nat) : Int) ∧ (b, n) ∈ B ∧ fixK n.kind = true ∧ n.name = s ∧ ∀ q ∈ B, fixK q.2.kind = true → q.2.name = s → b ≤ q.1 := by
  have := findS_first (s := s) hp
  unfold toLeaf
  rw [if_pos rfl]
  cases hf : findS s B with
  | none => rw [hf] at this; exact .inl ⟨rfl, this⟩
  | some z =>
    obtain ⟨b, m⟩ := z
    rw [hf] at this
    obtain ⟨⟨n, e1, e2, e3⟩, e4⟩ := this
    exact .inr ⟨b, n, rfl, e1, e2, e3, e4⟩
theorem abv_inner (k : Nat) (hk : 100 ≤ k) {f T' : Sl} {t : Tr} (ht : t.ok = true) (hs : t.size ≤ 60) (r : NdR h f (t.flat 0)) {i : Nat} {nd : Nd} {B : Anc} (hi : (t.flat 0)[i]? = some nd) (hB : (ancs t 0 [])[i]? = some B) : ∀ (j c : Nat), i < c → c ≤ t.size → t.size - c < j → ∀ (kr : Bool → M α) (kx : Sl → Sl → Int → Int → M α),
    w5BindAbove.u14.l (k + 1) kr kx j f T' (i : Int) (toLeaf 4 nd.name B) (c : Int) h = kx f T' (i : Int) (toLeaf 4 nd.name B) h := by
  have hfl : f.len = t.size := by rw [nd_slen r, flat_length]
  have hsrt := ancs_sorted t 0 [] i B hB List.Pairwise.nil (fun q hq => by cases hq)
  have hup := (ancs_up t 0 [] i B hB).2
  intro j
  induction j with
  | zero => intro c _ _ h2; omega
  | succ j ih =>
    intro c hc h1 h2 kr kx
    rw [w5BindAbove.u14.l, w5BindAbove.u13.f, w5BindAbove.u6.f, hfl]
    by_cases hlt : c < t.size
    · obtain ⟨n, hn⟩ : ∃ n, (t.flat 0)[c]? = some n := ⟨_, List.getElem?_eq_getElem (by rw [flat_length]; exact hlt)⟩
      obtain ⟨v, hv⟩ : ∃ v, (firsts t 0)[c]? = some v := ⟨_, List.getElem?_eq_getElem (by rw [firsts_length]; exact hlt)⟩
      have go := ih (c + 1) (by omega) (by omega) (by omega) kr kx
      have kind : ∀ (K : Bool → M α), (idxSl f (c : Int) 5 fun a7 => ldI .i64 ((a7.add 0).add 0) fun x8 => cond (decide (x8 = 10)) (K true) (idxSl f (c : Int) 5 fun a9 => ldI .i64 ((a9.add 0).add 0) fun x10 => K (decide (x10 = 11)))) h = K (fixK n.kind) h := by
        intro K
        rw [nd_kind r rfl hn]
        unfold fixK
        cases decide (n.kind = 10)
        · rw [cond_false, nd_kind r rfl hn, Bool.false_or]
        · rw [cond_true, Bool.true_or]
      rewrite [dT (by omega), cond_true, w5BindAbove.u12.f, w5BindAbove.u10.f, w5BindAbove.u9.f, w5BindAbove.u7.f]
      refine (kind (fun z => w5BindAbove.u8.f (k + 1) f T' (i : Int) (toLeaf 4 nd.name B) (c : Int) z (fun y0 y1 y2 y3 y4 => w5BindAbove.u11.f (k + 1) y0 y1 y2 y3 y4 fun y0 y1 y2 y3 y4 => w5BindAbove.u14.l (k + 1) kr kx j y0 y1 y2 y3 y4) kr)).trans ?_
      rewrite [w5BindAbove.u8.f, w5BindAbove.u11.f, w64_eq (by omega) (by omega)]
      by_cases hfix : fixK n.kind = true
      · rewrite [hfix, cond_true, nd_name r rfl hn, nd_name r rfl hi]
        by_cases hnm : n.name = nd.name
        · rewrite [dT hnm, cond_true, first_run k hk ht hs r hv]
          by_cases hle : v ≤ i
          · have hm := hup c v n hc hn hv (by omega)
            rw [Nat.zero_add] at hm
            rewrite [dT (by omega), cond_true]
            rcases toLeaf_first (s := nd.name) hsrt with ⟨_, e2⟩ | ⟨b, n', e1, _, _, _, e5⟩
            · exact absurd hnm (e2 _ hm hfix)
            · have := e5 _ hm hfix hnm
              rewrite [e1, dF (by omega), cond_false, dF (by simp only at this; omega), cond_false, ← e1]
              exact go
          · rewrite [dF (by omega), cond_false]; exact go
        · rewrite [dF hnm, cond_false]; exact go
      · rewrite [Bool.eq_false_iff.2 hfix, cond_false]; exact go
    · rw [dF (by omega), cond_false]
theorem abv_outer (k : Nat) (hk : 100 ≤ k) {f T' : Sl} {t : Tr} (ht : t.ok = true) (hs : t.size ≤ 60) (r : NdR h f (t.flat 0)) (rT : Rd h T' 1 (cIs (toA t 0 []))) : ∀ (j i : Nat), i ≤ t.size → t.size - i < j → ∀ (kr : Bool → M α) (kx : M α),
    w5BindAbove.u24.l (k + 1) kr kx j f T' (i : Int) h = kx h := by
  have hfl : f.len = t.size := by rw [nd_slen r, flat_length]
  have hTl : T'.len = t.size := by rw [slen (size := 1) (fun _ => rfl) (by decide) rT, toA_length]
  intro j
  induction j with
  | zero => intro c _ h2; omega
  | succ j ih =>
    intro i h1 h2 kr kx
    rw [w5BindAbove.u24.l, w5BindAbove.u23.f, w5BindAbove.u3.f, hTl]
    by_cases hlt : i < t.size
    · obtain ⟨n, hn⟩ : ∃ n, (t.flat 0)[i]? = some n := ⟨_, List.getElem?_eq_getElem (by rw [flat_length]; exact hlt)⟩
      obtain ⟨B, hB⟩ : ∃ B, (ancs t 0 [])[i]? = some B := ⟨_, List.getElem?_eq_getElem (by rw [ancs_length]; exact hlt)⟩
      have go : w5BindAbove.u21.f (k + 1) f T' (i : Int) (fun y0 y1 y2 => w5BindAbove.u24.l (k + 1) kr kx j y0 y1 y2) h = kx h := by
        rewrite [w5BindAbove.u21.f, w64_eq (by omega) (by omega)]
        exact ih (i + 1) (by omega) (by omega) kr kx
      rewrite [dT (by omega), cond_true, w5BindAbove.u22.f, w5BindAbove.u20.f, w5BindAbove.u19.f, w5BindAbove.u4.f, nd_kind r rfl hn]
      by_cases h4 : n.kind = 4
      · have hT := toA_ancs t 0 [] i n B hn h4 ht hB
        rw [h4] at hT
        rewrite [dT h4, Bool.not_true, cond_false, int_rd rT rfl hT, hfl]
        have hsrt := ancs_sorted t 0 [] i B hB List.Pairwise.nil (fun q hq => by cases hq)
        have inner := abv_inner k hk (T' := T') ht hs r hn hB (k + 1) (i + 1) (by omega) (by omega) (by omega) kr (fun y0 y1 y2 y3 => w5BindAbove.u17.f (k + 1) y0 y1 y2 y3 (fun y0 y1 y2 => w5BindAbove.u21.f (k + 1) y0 y1 y2 (fun y0 y1 y2 => w5BindAbove.u24.l (k + 1) kr kx j y0 y1 y2)) kr)
        have rest : w5BindAbove.u17.f (k + 1) f T' (i : Int) (toLeaf 4 n.name B) (fun y0 y1 y2 => w5BindAbove.u21.f (k + 1) y0 y1 y2 (fun y0 y1 y2 => w5BindAbove.u24.l (k + 1) kr kx j y0 y1 y2)) kr h = kx h →
            w5BindAbove.u18.f (k + 1) f T' (i : Int) (toLeaf 4 n.name B) (fun y0 y1 y2 => w5BindAbove.u21.f (k + 1) y0 y1 y2 (fun y0 y1 y2 => w5BindAbove.u24.l (k + 1) kr kx j y0 y1 y2)) kr h = kx h := by
          intro e
          rewrite [w5BindAbove.u18.f, w5BindAbove.u16.f, w5BindAbove.u5.f, w64_eq (by omega) (by omega), w5BindAbove.u15.f, w5BindAbove.u14.f]
          exact inner.trans e
        rcases toLeaf_first (s := n.name) hsrt with ⟨e1, e2⟩ | ⟨b, n', e1, e2, e3, e4, e5⟩
        · rewrite [e1] at rest ⊢
          rewrite [dF (by omega), cond_false, dF (by omega), cond_false]
          refine rest ?_
          rewrite [w5BindAbove.u17.f, dF (by omega), cond_false]
          exact go
        · rcases ancs_down t 0 [] i B _ hB e2 with h | ⟨m, v, q1, q2, q3, q4, q5⟩
          · cases h
          simp only [Nat.zero_add] at q1 q3 q5
          subst q1
          have hbl := get_lt q3
          rw [flat_length] at hbl
          rewrite [e1] at rest ⊢
          have fin : w5BindAbove.u17.f (k + 1) f T' (i : Int) (b : Int) (fun y0 y1 y2 => w5BindAbove.u21.f (k + 1) y0 y1 y2 (fun y0 y1 y2 => w5BindAbove.u24.l (k + 1) kr kx j y0 y1 y2)) kr h = kx h := by
            rewrite [w5BindAbove.u17.f, dT (by omega), cond_true, dF (by omega), cond_false, first_run k hk ht hs r q4, dF (by omega), cond_false]
            exact go
          rewrite [dF (by omega), cond_false, dT (by omega), cond_true, nd_kind r rfl q3]
          by_cases h10 : n'.kind = 10
          · rewrite [dT h10, Bool.not_true, cond_false, nd_name r rfl q3, nd_name r rfl hn, dT e4, Bool.not_true, cond_false]
            exact rest fin
          · have h11 : n'.kind = 11 := by
              unfold fixK at e3
              simpa [h10] using e3
            rewrite [dF h10, Bool.not_false, cond_true, nd_kind r rfl q3, dT h11, Bool.not_true, cond_false, nd_name r rfl q3, nd_name r rfl hn, dT e4, Bool.not_true, cond_false]
            exact rest fin
      · have hT := toA_other t 0 [] i n hn h4
        rewrite [dF h4, Bool.not_false, cond_true, int_rd rT rfl hT, dT rfl, Bool.not_true, cond_false]
        exact go
    · rw [dF (by omega), cond_false]
theorem BindAbove_law {f : Sl} {l : List Nd} {h : H} (r : NdR h f l) (hnl : NL l) (hr : Room l.length) : ∃ k h', ∀ (α : Type) (ret : Bool → M α), w5BindAbove.f (k + 1) f ret h = ret true h' := by
  obtain ⟨k, hk1⟩ : ∃ k : Nat, 4000000 ≤ k := ⟨4000000, Nat.le_refl _⟩
  refine ⟨k + 10, ?_⟩
  have hk5 : 500 ≤ k + 9 := by omega
  obtain ⟨h1, e1, x1⟩ := shown_run (k + 9) (by omega) h
  rcases right_or l with hR | ⟨t, hR, ht, rfl, hs⟩
  · obtain ⟨h2, e2, x2⟩ := binders_bad (k + 9) hk5 hR h1 (r.ext x1)
    obtain ⟨h3, e3, x3⟩ := right_run (k + 9) (by omega) h2 (r.ext (x1.trans x2))
    rw [hR] at e3
    refine ⟨h3, fun α ret => ?_⟩
    rewrite [w5BindAbove.f, w5BindAbove.u29.f, w5BindAbove.u1.f, e1, e2, Bool.not_true, cond_false, e3, dF (p := (0 : Int) < ((Sl.nil.len : Nat) : Int)) (by decide), dT rfl, Bool.not_true, cond_false, w5BindAbove.u28.f, w5BindAbove.u26.f, w5BindAbove.u2.f, w5BindAbove.u25.f, w5BindAbove.u24.f, w5BindAbove.u24.l, w5BindAbove.u23.f, w5BindAbove.u3.f]
    rfl
  · have hpos := t.pos
    obtain ⟨h2, s2, e2, x2, o2, i2, l2, c2⟩ := binders_run (k + 9) hk5 ht hs h1 (r.ext x1)
    have s2l : s2.len = t.size := by rw [slen (size := 1) (fun _ => rfl) (by decide) o2.rd, toA_length]
    obtain ⟨h3, e3, x3⟩ := right_run (k + 9) (by omega) h2 (r.ext (x1.trans x2))
    rw [hR] at e3
    refine ⟨h3, fun α ret => ?_⟩
    rewrite [w5BindAbove.f, w5BindAbove.u29.f, w5BindAbove.u1.f, e1, e2, Bool.not_true, cond_false, e3, s2l, dT (p := (0 : Int) < (t.size : Int)) (by omega), dT rfl, Bool.not_true, cond_false, w5BindAbove.u28.f, w5BindAbove.u26.f, w5BindAbove.u2.f, w5BindAbove.u25.f, w5BindAbove.u24.f]
    refine (abv_outer (k + 9) (by omega) ht hs (r.ext ((x1.trans x2).trans x3)) (o2.rd.ext x3) (k + 10) 0 (by omega) (by omega) _ _).trans ?_
    rw [w5BindAbove.u27.f]
end Go.Ab.S3
