import Derived.Test.YtkfoohgkbafafaaS3q
namespace Go.Ab.S3
set_option linter.unusedVariables false
set_option linter.unusedSimpArgs false
variable {α : Type} {h : H}
/-! ### are two formulas the same? -/
def psF (at_ : Bool) (n : Nd) : Nd := if at_ = true then n else { n with pos := 0 }
theorem nd_eq (a b : Nd) : (decide (a.kind = b.kind) && (decide (a.a = b.a) && (decide (a.b = b.b) && (decide (a.name = b.name) && (decide (a.pos = b.pos) && true))))) = decide (a = b) := by
  rw [Bool.eq_iff_iff]
  simp only [Bool.and_eq_true, decide_eq_true_eq, and_true]
  cases a; cases b
  simp [Nd.mk.injEq]
theorem put_pushed {h : H} (b c d : Blk) : ((h.push b).push c).put h.next (some d) = (h.push d).push c := by
  rw [push_put _ _ (by rw [push_next]; omega), put_push]
theorem same_loop {h₀ : H} {f g : Sl} {l m : List Nd} (r : NdR h₀ f l) (q : NdR h₀ g m) (hlen : l.length = m.length) (hl : l.length ≤ 4611686018427387900) (at_ : Bool) (k : Nat) : ∀ (j i : Nat) (h : H), i ≤ l.length → l.length - i < j → Ext h₀ h →
    ∃ h', Ext h₀ h' ∧ ∀ (α : Type) (kr : Bool → M α) (kx : M α), r4Same.u4.l k kr kx j f g at_ (i : Int) h = if (l.drop i).map (psF at_) = (m.drop i).map (psF at_) then kx h' else kr false h' := by
  intro j
  induction j with
  | zero => intro i h hi hj; omega
  | succ j ih =>
    intro i h hi hj x
    have hfl := nd_slen r
    by_cases hlt : i < l.length
    rotate_left
    · refine ⟨h, x, fun α kr kx => ?_⟩
      rw [r4Same.u4.l, r4Same.u3.f, hfl, dF (by omega : ¬ (i : Int) < (l.length : Int)), cond_false, List.drop_of_length_le (by omega), List.drop_of_length_le (by omega), if_pos rfl]
    have hn : l[i]? = some l[i] := List.getElem?_eq_getElem hlt
    have hm : m[i]? = some m[i] := List.getElem?_eq_getElem (by omega)
    rw [List.drop_eq_getElem_cons hlt, List.drop_eq_getElem_cons (by omega : i < m.length)]
    generalize l[i] = a at hn ⊢
    generalize m[i] = b at hm ⊢
    have x1 : Ext h ((h.push (ndC (psF at_ a))).push (ndC (psF at_ b))) := ((Ext.refl h).push _).push _
    have hqa : ((h.push (ndC (psF at_ a))).push (ndC (psF at_ b))).get h.next = some (ndC (psF at_ a)) := by
      rw [push_get, if_neg (by rw [push_next]; omega), push_get, if_pos rfl]
    have hqb : ((h.push (ndC (psF at_ a))).push (ndC (psF at_ b))).get (h.next + 1) = some (ndC (psF at_ b)) := by
      rw [push_get, if_pos (by rw [push_next])]
    have start : ∀ (α : Type) (kr : Bool → M α) (kx : M α), r4Same.u4.l k kr kx (j + 1) f g at_ (i : Int) h = cond (!(decide (psF at_ a = psF at_ b))) (kr false) (r4Same.u4.l k kr kx j f g at_ (w64 ((i : Int) + 1))) ((h.push (ndC (psF at_ a))).push (ndC (psF at_ b))) := fun α kr kx => by
      rw [r4Same.u4.l, r4Same.u3.f, hfl, dT (by omega : (i : Int) < (l.length : Int)), cond_true, nd_rd (r.ext x) rfl hn, nd_copy, nd_rd (q.ext (x.push _)) rfl hm, nd_copy]
      rw [show (h.push (Blk.cells [.int .i64 a.kind, .int .i64 a.a, .int .i64 a.b, .str a.name, .int .i64 a.pos] true)).next = h.next + 1 from rfl]
      cases at_ with
      | true =>
        rw [Bool.not_true, cond_false, own_all (h := (h.push (ndC a)).push (ndC b)) (n := a) hqa, own_all (h := (h.push (ndC a)).push (ndC b)) (n := b) hqb, nd_eq]
        rfl
      | false =>
        rw [Bool.not_false, cond_true]
        have s1 : ∀ K : M α, st1 (((⟨h.next, 0⟩ : Ad).add 4).add 0) (.int .i64 0) K ((h.push (ndC a)).push (ndC b)) = K ((h.push (ndC (psF false a))).push (ndC b)) := fun K => by
          simp only [add_mk]
          exact st1_new2 rfl (by simp)
        have s2 : ∀ K : M α, st1 (((⟨h.next + 1, 0⟩ : Ad).add 4).add 0) (.int .i64 0) K ((h.push (ndC (psF false a))).push (ndC b)) = K ((h.push (ndC (psF false a))).push (ndC (psF false b))) := fun K => by
          simp only [add_mk]
          exact st1_new (h := h.push (ndC (psF false a))) rfl (by simp)
        rw [s1, s2, own_all (n := psF false a) hqa, own_all (n := psF false b) hqb, nd_eq]
    generalize (h.push (ndC (psF at_ a))).push (ndC (psF at_ b)) = h1 at start x1
    simp only [List.map_cons]
    by_cases he : psF at_ a = psF at_ b
    · obtain ⟨h', x', e'⟩ := ih (i + 1) h1 (by omega) (by omega) (x.trans x1)
      refine ⟨h', x', fun α kr kx => ?_⟩
      rw [start, dT he, Bool.not_true, cond_false, w64_eq (by omega) (by omega), he]
      simp only [List.cons.injEq, true_and]
      exact e' α kr kx
    · refine ⟨h1, x.trans x1, fun α kr kx => ?_⟩
      rw [start, dF he, Bool.not_false, cond_true, if_neg (fun e => he (List.cons.inj e).1)]
theorem same_run (k : Nat) {f g : Sl} {l m : List Nd} (h : H) (r : NdR h f l) (q : NdR h g m) (hk : l.length + 2 ≤ k) (hl : l.length ≤ 4611686018427387900) (at_ : Bool) :
    ∃ h', (∀ (α : Type) (ret : Bool → M α), r4Same.f (k + 1) f g at_ ret h = ret (decide (l.map (psF at_) = m.map (psF at_))) h') ∧ Ext h h' := by
  have hfl := nd_slen r
  have hgl := nd_slen q
  by_cases hlen : l.length = m.length
  · obtain ⟨h', x', e'⟩ := same_loop r q hlen hl at_ k k 0 h (Nat.zero_le _) (by omega) (Ext.refl h)
    simp only [List.drop_zero] at e'
    refine ⟨h', fun α ret => ?_, x'⟩
    rw [r4Same.f, r4Same.u9.f, r4Same.u1.f, hfl, hgl, dT (by omega : (l.length : Int) = (m.length : Int)), Bool.not_true, cond_false, r4Same.u8.f, r4Same.u6.f, r4Same.u2.f, r4Same.u5.f, r4Same.u4.f]
    refine (e' α _ _).trans ?_
    by_cases he : l.map (psF at_) = m.map (psF at_)
    · rw [if_pos he, dT he, r4Same.u7.f]
    · rw [if_neg he, dF he]
  · refine ⟨h, fun α ret => ?_, Ext.refl h⟩
    rw [r4Same.f, r4Same.u9.f, r4Same.u1.f, hfl, hgl, dF (by omega : ¬ (l.length : Int) = (m.length : Int)), Bool.not_false, cond_true, dF (fun e => hlen (by have := congrArg List.length e; simpa using this))]
theorem psF_true (l : List Nd) : l.map (psF true) = l := by
  have : psF true = id := by funext n; rfl
  rw [this, List.map_id]

/-! ### nodes that are lent -/
def n7 : Nd := ⟨-7, 0, 0, [], 0⟩
structure Lent (h : H) (o : Sl) (l : List Nd) : Prop where
  all : Rd h ⟨o.ad, l.length + 1, l.length + 1, o.loose⟩ 5 (cN (l ++ [n7]))
  len : o.len = l.length
  cap : o.cap = l.length + 1
  lo : o.loose = some 5
theorem Lent.ext {o : Sl} {l : List Nd} (L : Lent h o l) {h' : H} (x : Ext h h') : Lent h' o l := ⟨L.all.ext x, L.len, L.cap, L.lo⟩
theorem Lent.rd {o : Sl} {l : List Nd} (L : Lent h o l) : NdR h o l := by
  have := L.all.to l.length o.cap o.loose (Nat.le_succ _)
  rw [flat_take Nd.len, List.take_left] at this
  cases o
  have h2 := L.len
  dsimp only at h2 this ⊢
  rw [h2]
  exact this
/-- the room for so many nodes -/
def Room (n : Nat) : Prop := n * 48 ≤ 140737488351232
theorem room_a {n : Nat} (h : Room n) : (n + n / 4 + 512) * 48 ≤ 281474976710656 := by unfold Room at h; omega
theorem room_b {n : Nat} (h : Room n) : (n + 1 + (n + 1) / 4 + 512) * 48 ≤ 281474976710656 := by unfold Room at h; omega
theorem room_c {n : Nat} (h : Room n) : (n + 2 + (n + 2) / 4 + 512) * 48 ≤ 281474976710656 := by unfold Room at h; omega
theorem lent_run (k : Nat) {f : Sl} {l : List Nd} (h : H) (r : NdR h f l) (hr : Room l.length) :
    ∃ h' o, (∀ (α : Type) (ret : Sl → M α), w5lent.f (k + 1) f ret h = ret o h') ∧ Ext h h' ∧ Lent h' o l := by
  have hfl := nd_slen r
  obtain ⟨d, h1, e1, ap1, x1, o1, l1, _⟩ := app_copy (bytes := 48) r (by decide) (by decide) (by rw [hfl]; exact room_a hr)
  have hd : d.len = l.length := slen Nd.len (by decide) ap1.rd
  obtain ⟨h2, e2, ap2, g2, n2, k2⟩ := app_made (bytes := 48) (more := n7.cells) ap1 rfl rfl (n := 1) (by decide) (by decide) (by rw [hd]; exact room_b hr)
  have hc : cN l ++ n7.cells = cN (l ++ [n7]) := by simp [List.flatMap_append]
  rw [hc] at ap2
  have x2 : Ext h h2 := by
    refine ⟨by rw [n2]; have := x1.1; omega, fun i hi => ?_⟩
    rw [k2 i (Nat.lt_of_lt_of_le hi x1.1) (fun _ a ha => by have := o1 a ha; omega)]
    exact x1.2 i hi
  refine ⟨h2, ⟨some ⟨h1.next + 1, 0⟩, l.length, l.length + 1, some 5⟩, fun α ret => ?_, x2, ?_⟩
  · rw [w5lent.f, w5lent.u1.f]
    have e3 := (e1 α (fun x4 => new n7.cells fun r5 => appRow x4 5 48 ⟨some r5, 1, 1, none⟩ fun x6 => cutSl x6 5 none (some (f.len : Int)) none fun x7 => ret x7)).trans (e2 α _)
    refine e3.trans ?_
    rw [cut_to ap2.fine (m := l.length) (by omega) (by show l.length ≤ d.len + 1; omega), hd]
  · refine ⟨?_, rfl, rfl, rfl⟩
    rw [hd] at ap2
    exact ap2.rd
theorem kept_run (k : Nat) {o f : Sl} {l : List Nd} (h : H) (L : Lent h o l) (r : NdR h f l) (hk : l.length + 3 ≤ k) (hl : l.length ≤ 4611686018427387900) :
    ∃ h', (∀ (α : Type) (ret : Bool → M α), w5kept.f (k + 1) o f ret h = ret true h') ∧ Ext h h' := by
  obtain ⟨k, rfl⟩ : ∃ q, k = q + 1 := ⟨k - 1, by omega⟩
  have hfl := nd_slen r
  obtain ⟨h1, e1, x1⟩ := same_run k h L.rd r (by omega) hl true
  have L1 := L.ext x1
  refine ⟨h1, fun α ret => ?_, x1⟩
  rw [w5kept.f, w5kept.u1.f, e1, dT rfl, hfl, w64_eq (by omega) (by omega), cut_to (s := o) (m := l.length + 1) ⟨by rw [L.len, L.cap]; omega, .inr L.lo⟩ (by omega) (by rw [L.cap]; exact Nat.le_refl _), cond_true]
  have := nd_kind (α := α) (s := ⟨o.ad, l.length + 1, o.cap, o.loose⟩) (by rw [L.cap]; exact L1.all) (x := (l.length : Int)) (i := l.length) (n := n7) rfl (by simp) (fun x7 => ret (decide (x7 = -7)))
  exact this
end Go.Ab.S3
