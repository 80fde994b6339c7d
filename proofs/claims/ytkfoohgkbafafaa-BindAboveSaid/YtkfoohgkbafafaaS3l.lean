import Derived.Test.YtkfoohgkbafafaaS3k
namespace Go.Ab.S3
set_option linter.unusedVariables false
set_option linter.unusedSimpArgs false
variable {α : Type} {h : H}
/-! ### Check -/
def chk : List Nd → List Int → List Bool → List Int → Nat → List (List UInt8) → Int × Int
  | n :: l, t :: T, o :: O, d :: D, i, seen =>
    if n.kind = 4 ∧ t < 0 then ((i : Int), 11) else if n.kind = 4 ∧ o = true then ((i : Int), 12) else if fixK n.kind = true ∧ n.name ∈ seen then ((i : Int), 9) else if fixK n.kind = true ∧ 4 < d then ((i : Int), 13)
    else chk l T O D (i + 1) (if fixK n.kind = true then seen ++ [n.name] else seen)
  | _, _, _, _, _, _ => (0, 0)
/-- what a formula is found to be -/
def chkT (t : Tr) : Int × Int := chk (t.flat 0) (toA t 0 []) (oddA t 0 []) (depI t) 0 []
def seenM (l : List (List UInt8)) : List (V × V) := l.map fun s => (.str s, .bool true)
theorem find_seen (s : List UInt8) : ∀ l : List (List UInt8), findK (.str s) (seenM l) = some (if s ∈ l then some (V.bool true) else none)
  | [] => rfl
  | x :: l => by
    have ih := find_seen s l
    unfold seenM at ih ⊢
    simp only [List.map_cons, findK, keq]
    by_cases h : s = x
    · subst h; simp
    · rw [dF h]
      dsimp only
      rw [ih]
      simp [h]
theorem put_seen (s : List UInt8) : ∀ l : List (List UInt8), s ∉ l → putK (.str s) (.bool true) (seenM l) = some (seenM (l ++ [s]))
  | [], _ => rfl
  | x :: l, h => by
    have ih := put_seen s l (fun e => h (List.mem_cons_of_mem _ e))
    unfold seenM at ih ⊢
    simp only [List.map_cons, putK, keq]
    rw [dF (fun e => h (by rw [e]; exact List.mem_cons_self))]
    dsimp only
    rw [ih]
    rfl
section
variable {h₀ : H} {w : Nat} {f to odd dep : Sl} {l : List Nd} {ins : Sl} {sc : List (Int × Int)} {nots : Int} {T : List Int} {O : List Bool} {D : List Int} {n : Nd} {q m i : Nat} {le : Int}
theorem u5_run (W : WS h₀ h w f to odd dep l ins sc nots T O D) (hq : h.get q = some (ndC n)) {ti : Int} (hTi : T[i]? = some ti) (k : Nat) (kn : Ad → Option Nat → Int → Ad → Sl → Int → Int → Bool → M α) :
    bind_Check.u5.f k ⟨w, 0⟩ (some m) (i : Int) ⟨q, 0⟩ f le (i : Int) kn h = kn ⟨w, 0⟩ (some m) (i : Int) ⟨q, 0⟩ f le (i : Int) (decide (n.kind = 4 ∧ ti < 0)) h := by
  rw [bind_Check.u5.f, own_kind hq]
  by_cases c : n.kind = 4
  · rw [dT c, cond_true, w_to W, int_rd W.to.rd rfl hTi]
    simp [c]
  · rw [dF c, cond_false]
    simp [c]
theorem u7_run (W : WS h₀ h w f to odd dep l ins sc nots T O D) (hq : h.get q = some (ndC n)) {oi : Bool} (hOi : O[i]? = some oi) (k : Nat) (b : Bool) (kn : Ad → Option Nat → Int → Ad → Sl → Int → Int → Bool → M α) :
    bind_Check.u7.f k ⟨w, 0⟩ (some m) (i : Int) ⟨q, 0⟩ f le (i : Int) b kn h = kn ⟨w, 0⟩ (some m) (i : Int) ⟨q, 0⟩ f le (i : Int) (decide (n.kind = 4 ∧ oi = true)) h := by
  rw [bind_Check.u7.f, own_kind hq]
  by_cases c : n.kind = 4
  · rw [dT c, cond_true, w_odd W, bool_rd W.odd.rd rfl hOi]
    simp [c]
  · rw [dF c, cond_false]
    simp [c]
theorem u9_run (W : WS h₀ h w f to odd dep l ins sc nots T O D) (hq : h.get q = some (ndC n)) (hql : q < h.next) {seen : List (List UInt8)} (hm : h.get m = some (.map (seenM seen))) (hml : m < h.next) (k : Nat) (b : Bool) (kn : Ad → Option Nat → Int → Ad → Sl → Int → Int → Bool → M α) :
    bind_Check.u9.f (k + 1) ⟨w, 0⟩ (some m) (i : Int) ⟨q, 0⟩ f le (i : Int) b kn h = kn ⟨w, 0⟩ (some m) (i : Int) ⟨q, 0⟩ f le (i : Int) (decide (fixK n.kind = true ∧ n.name ∈ seen)) (h.push (ndC n)) := by
  have hq' : (h.push (ndC n)).get q = some (ndC n) := by rw [push_get, if_neg (by omega)]; exact hq
  rw [bind_Check.u9.f, own_all hq, fix_run]
  cases c : fixK n.kind with
  | false => rw [cond_false]; simp [c]
  | true =>
    rw [cond_true, own_name hq']
    unfold lookM getMap
    have hm' : (h.push (ndC n)).get m = some (.map (seenM seen)) := by rw [push_get, if_neg (by omega)]; exact hm
    simp only [hm', find_seen]
    by_cases hs : n.name ∈ seen
    · simp only [hs, if_true, c, and_self, decide_true]
      rfl
    · simp only [hs, if_false, c, and_false, decide_false]
theorem u10_run (W : WS h₀ h w f to odd dep l ins sc nots T O D) (hq : h.get q = some (ndC n)) {di : Int} (hDi : D[i]? = some di) (k : Nat) (kn : Ad → Option Nat → Ad → Sl → Int → Int → M α) (kr : Int → Int → M α) :
    bind_Check.u10.f (k + 1) ⟨w, 0⟩ (some m) (i : Int) ⟨q, 0⟩ f le (i : Int) false kn kr h = if fixK n.kind = true ∧ 4 < di then kr (i : Int) 13 (h.push (ndC n)) else kn ⟨w, 0⟩ (some m) ⟨q, 0⟩ f le (i : Int) (h.push (ndC n)) := by
  have W' := W.push ((Ext.refl h).push (ndC n))
  rw [bind_Check.u10.f, cond_false, own_all hq, fix_run]
  cases c : fixK n.kind with
  | false => rw [cond_false, if_neg (fun h => by cases h.1)]
  | true =>
    rw [cond_true, w_dep W', int_rd W'.dep.rd rfl hDi]
    by_cases hd : 4 < di
    · rw [dT hd, cond_true, if_pos ⟨rfl, hd⟩]
    · rw [dF hd, cond_false, if_neg (fun h => hd h.2)]
theorem u17_run (hq : h.get q = some (ndC n)) (hql : q < h.next) {seen : List (List UInt8)} (hm : h.get m = some (.map (seenM seen))) (hml : m < h.next) (hs : ¬ (fixK n.kind = true ∧ n.name ∈ seen)) (k : Nat) :
    ∃ h', (∀ (α : Type) (kn : Ad → Option Nat → Sl → Int → Int → M α), bind_Check.u17.f (k + 1) ⟨w, 0⟩ (some m) ⟨q, 0⟩ f le (i : Int) kn h = kn ⟨w, 0⟩ (some m) f le (i : Int) h') ∧ h'.next = h.next + 1 ∧ (∀ i, i < h.next → i ≠ m → h'.get i = h.get i) ∧ h'.get m = some (.map (seenM (if fixK n.kind = true then seen ++ [n.name] else seen))) := by
  have hq' : (h.push (ndC n)).get q = some (ndC n) := by rw [push_get, if_neg (by omega)]; exact hq
  have hm' : (h.push (ndC n)).get m = some (.map (seenM seen)) := by rw [push_get, if_neg (by omega)]; exact hm
  cases c : fixK n.kind with
  | false =>
    refine ⟨h.push (ndC n), fun α kn => ?_, push_next _, fun i hi _ => by rw [push_get, if_neg (by omega)], hm'⟩
    rw [bind_Check.u17.f, own_all hq, fix_run, c, cond_false]
  | true =>
    refine ⟨(h.push (ndC n)).put m (some (.map (seenM (seen ++ [n.name])))), fun α kn => ?_, push_next (ndC n), fun i hi hne => by rw [put_get_if, if_neg hne, push_get, if_neg (by omega)], by rw [put_get_if, if_pos rfl]; rfl⟩
    rw [bind_Check.u17.f, own_all hq, fix_run, c, cond_true, own_name hq']
    unfold setMap
    simp only [hm', put_seen n.name seen (fun e => hs ⟨c, e⟩)]
end
theorem check_loop {h₀ h₁ : H} {w : Nat} {f to odd dep : Sl} {l : List Nd} {ins : Sl} {sc : List (Int × Int)} {nots : Int} {T : List Int} {O : List Bool} {D : List Int} (W₁ : WS h₀ h₁ w f to odd dep l ins sc nots T O D)
    (hT : T.length = l.length) (hO : O.length = l.length) (hD : D.length = l.length) (hl : l.length ≤ 1000) (k : Nat) (m : Nat) (hm : h₁.next ≤ m) : ∀ (j i : Nat) (h : H) (seen : List (List UInt8)), i ≤ l.length → l.length - i < j → Ext h₁ h → h.get m = some (.map (seenM seen)) → m < h.next →
      ∃ h', Ext h₁ h' ∧ ∀ (α : Type) (kr : Int → Int → M α), bind_Check.u24.l (k + 1) kr (kr 0 0) j ⟨w, 0⟩ (some m) f (l.length : Int) (i : Int) h = kr (chk (l.drop i) (T.drop i) (O.drop i) (D.drop i) i seen).1 (chk (l.drop i) (T.drop i) (O.drop i) (D.drop i) i seen).2 h' := by
  intro j
  induction j with
  | zero => intro i h seen hi hj; omega
  | succ j ih =>
    intro i h seen hi hj x hmap hml
    by_cases hlt : i < l.length
    rotate_left
    · refine ⟨h, x, fun α kr => ?_⟩
      rw [bind_Check.u24.l, bind_Check.u23.f, bind_Check.u3.f, dF (by omega : ¬ (i : Int) < (l.length : Int)), cond_false, List.drop_of_length_le (by omega)]
      rfl
    have hi : l[i]? = some l[i] := List.getElem?_eq_getElem hlt
    have hTi : T[i]? = some T[i] := List.getElem?_eq_getElem (by omega)
    have hOi : O[i]? = some O[i] := List.getElem?_eq_getElem (by omega)
    have hDi : D[i]? = some D[i] := List.getElem?_eq_getElem (by omega)
    rw [List.drop_eq_getElem_cons hlt, List.drop_eq_getElem_cons (by omega : i < T.length), List.drop_eq_getElem_cons (by omega : i < O.length), List.drop_eq_getElem_cons (by omega : i < D.length), chk]
    generalize l[i] = n at hi ⊢
    generalize T[i] = ti at hTi ⊢
    generalize O[i] = oi at hOi ⊢
    generalize D[i] = di at hDi ⊢
    have W := W₁.push x
    have x1 : Ext h (h.push (ndC n)) := (Ext.refl h).push _
    have hq : (h.push (ndC n)).get h.next = some (ndC n) := by rw [push_get, if_pos rfl]
    have hql : h.next < (h.push (ndC n)).next := by rw [push_next]; omega
    have W1 := W.push x1
    have start : ∀ (α : Type) (kr : Int → Int → M α), bind_Check.u24.l (k + 1) kr (kr 0 0) (j + 1) ⟨w, 0⟩ (some m) f (l.length : Int) (i : Int) h = _ := fun α kr => by
      rw [bind_Check.u24.l, bind_Check.u23.f, bind_Check.u3.f, dT (by omega : (i : Int) < (l.length : Int)), cond_true, bind_Check.u22.f, bind_Check.u20.f, bind_Check.u19.f, bind_Check.u4.f, nd_rd (W.f.ext W.ext) rfl hi, nd_copy, bind_Check.u18.f, bind_Check.u16.f, bind_Check.u15.f, u5_run W1 hq hTi]
    have hm1 : (h.push (ndC n)).get m = some (.map (seenM seen)) := by rw [x1.2 m hml]; exact hmap
    generalize h.push (ndC n) = h1 at start x1 hq hql W1 hm1
    have hml1 : m < h1.next := Nat.lt_of_lt_of_le hml x1.1
    by_cases c1 : n.kind = 4 ∧ ti < 0
    · rw [if_pos c1]
      refine ⟨h1, x.trans x1, fun α kr => ?_⟩
      rw [start, dT c1, bind_Check.u14.f, cond_true, bind_Check.u6.f]
    rw [if_neg c1]
    have start2 : ∀ (α : Type) (kr : Int → Int → M α), bind_Check.u24.l (k + 1) kr (kr 0 0) (j + 1) ⟨w, 0⟩ (some m) f (l.length : Int) (i : Int) h = _ := fun α kr => by
      rw [start, dF c1, bind_Check.u14.f, cond_false, bind_Check.u13.f, u7_run W1 hq hOi]
    clear start
    by_cases c2 : n.kind = 4 ∧ oi = true
    · rw [if_pos c2]
      refine ⟨h1, x.trans x1, fun α kr => ?_⟩
      rw [start2, dT c2, bind_Check.u12.f, cond_true, bind_Check.u8.f]
    rw [if_neg c2]
    have x2 : Ext h1 (h1.push (ndC n)) := (Ext.refl h1).push _
    have start3 : ∀ (α : Type) (kr : Int → Int → M α), bind_Check.u24.l (k + 1) kr (kr 0 0) (j + 1) ⟨w, 0⟩ (some m) f (l.length : Int) (i : Int) h = _ := fun α kr => by
      rw [start2, dF c2, bind_Check.u12.f, cond_false, bind_Check.u11.f, u9_run W1 hq hql hm1 hml1]
    clear start2
    have hq2 : (h1.push (ndC n)).get h.next = some (ndC n) := by rw [x2.2 _ hql]; exact hq
    have hm2 : (h1.push (ndC n)).get m = some (.map (seenM seen)) := by rw [x2.2 m hml1]; exact hm1
    have hql2 : h.next < (h1.push (ndC n)).next := Nat.lt_of_lt_of_le hql x2.1
    have hml2 := Nat.lt_of_lt_of_le hml1 x2.1
    have W2 := W1.push x2
    generalize h1.push (ndC n) = h2 at start3 x2 hq2 hm2 hql2 hml2 W2
    by_cases c3 : fixK n.kind = true ∧ n.name ∈ seen
    · rw [if_pos c3]
      refine ⟨h2, (x.trans x1).trans x2, fun α kr => ?_⟩
      rw [start3, dT c3, bind_Check.u10.f, cond_true]
    rw [if_neg c3]
    have x3 : Ext h2 (h2.push (ndC n)) := (Ext.refl h2).push _
    have start4 : ∀ (α : Type) (kr : Int → Int → M α), bind_Check.u24.l (k + 1) kr (kr 0 0) (j + 1) ⟨w, 0⟩ (some m) f (l.length : Int) (i : Int) h = _ := fun α kr => by
      rw [start3, dF c3, u10_run W2 hq2 hDi]
    clear start3
    have hq3 : (h2.push (ndC n)).get h.next = some (ndC n) := by rw [x3.2 _ hql2]; exact hq2
    have hm3 : (h2.push (ndC n)).get m = some (.map (seenM seen)) := by rw [x3.2 m hml2]; exact hm2
    have hql3 := Nat.lt_of_lt_of_le hql2 x3.1
    have hml3 := Nat.lt_of_lt_of_le hml2 x3.1
    generalize h2.push (ndC n) = h3 at start4 x3 hq3 hm3 hql3 hml3
    by_cases c4 : fixK n.kind = true ∧ 4 < di
    · rw [if_pos c4]
      refine ⟨h3, ((x.trans x1).trans x2).trans x3, fun α kr => ?_⟩
      rw [start4, if_pos c4]
    rw [if_neg c4]
    obtain ⟨h4, e4, n4, g4, hm4⟩ := u17_run (w := w) (f := f) (i := i) (le := (l.length : Int)) hq3 hql3 hm3 hml3 c3 k
    have x03 := ((x.trans x1).trans x2).trans x3
    have x04 : Ext h₁ h4 := ⟨by have := x03.1; omega, fun i hi => by rw [g4 i (by have := x03.1; omega) (by omega)]; exact x03.2 i hi⟩
    obtain ⟨h', x', e'⟩ := ih (i + 1) h4 _ (by omega) (by omega) x04 hm4 (by omega)
    refine ⟨h', x', fun α kr => ?_⟩
    rw [start4, if_neg c4, e4, bind_Check.u21.f, w64_eq (by omega) (by omega)]
    exact e' α kr
theorem flat_nd_len {t : Tr} (hs : t.size ≤ 60) : (t.flat 0).length = t.size := flat_length t 0
/-- Check -/
def checkF (l : List Nd) (t : Option Tr) : Int × Int := match t with | none => (0, 1) | some t => chkT t
theorem check_run (k : Nat) (hk : 500 ≤ k) {f : Sl} {t : Tr} (ht : t.ok = true) (hs : t.size ≤ 60) (h : H) (r : NdR h f (t.flat 0)) :
    ∃ h', (∀ (α : Type) (ret : Int → Int → M α), bind_Check.f (k + 1) f ret h = ret (chkT t).1 (chkT t).2 h') ∧ Ext h h' := by
  obtain ⟨k, rfl⟩ : ∃ q, k = q + 1 := ⟨k - 1, by omega⟩
  have hR : rightF (t.flat 0) = true := (right_iff _).2 ⟨t, ht, rfl, hs⟩
  obtain ⟨h1, e1, x1⟩ := right_run k (by omega) h r
  rw [hR] at e1
  obtain ⟨h2, w, to, odd, dep, ins, e2, d, W2, _, _⟩ := walked_run k (by omega) ht hs h1 (r.ext x1)
  have x3 : Ext h2 (h2.push (.map [])) := (Ext.refl h2).push _
  have hfl : f.len = (t.flat 0).length := nd_slen r
  obtain ⟨h', x', e'⟩ := check_loop W2 (by rw [toA_length, flat_length]) (by rw [oddA_length, flat_length]) (by rw [depI_length, flat_length]) (by rw [flat_length]; omega) k h2.next (Nat.le_refl _) (k + 1) 0 (h2.push (.map [])) [] (Nat.zero_le _) (by rw [flat_length]; omega) x3 (by rw [push_get, if_pos rfl]; rfl) (by rw [push_next]; omega)
  simp only [List.drop_zero] at e'
  refine ⟨h', fun α ret => ?_, x1.trans (W2.ext.trans x')⟩
  rw [bind_Check.f, bind_Check.u29.f, bind_Check.u1.f, e1, Bool.not_true, cond_false, e2]
  rw [show ∀ K : Nat → M α, newMap K h2 = K h2.next (h2.push (.map [])) from fun _ => rfl, bind_Check.u28.f, bind_Check.u26.f, bind_Check.u2.f, bind_Check.u25.f, bind_Check.u24.f, bind_Check.u27.f, hfl]
  exact e' α ret
theorem check_bad (k : Nat) (hk : 500 ≤ k) {f : Sl} {l : List Nd} (hR : rightF l = false) (h : H) (r : NdR h f l) :
    ∃ h', (∀ (α : Type) (ret : Int → Int → M α), bind_Check.f (k + 1) f ret h = ret 0 1 h') ∧ Ext h h' := by
  obtain ⟨k, rfl⟩ : ∃ q, k = q + 1 := ⟨k - 1, by omega⟩
  obtain ⟨h1, e1, x1⟩ := right_run k (by omega) h r
  rw [hR] at e1
  refine ⟨h1, fun α ret => ?_, x1⟩
  rw [bind_Check.f, bind_Check.u29.f, bind_Check.u1.f, e1, Bool.not_false, cond_true]
theorem binders_run (k : Nat) (hk : 500 ≤ k) {f : Sl} {t : Tr} (ht : t.ok = true) (hs : t.size ≤ 60) (h : H) (r : NdR h f (t.flat 0)) :
    ∃ h' s, (∀ (α : Type) (ret : Sl → M α), bind_Binders.f (k + 1) f ret h = ret s h') ∧ Ext h h' ∧ Own h' s 1 (cIs (toA t 0 [])) ∧ h.next ≤ s.id ∧ s.loose = none ∧ s.cap = t.size := by
  obtain ⟨k, rfl⟩ : ∃ q, k = q + 1 := ⟨k - 1, by omega⟩
  have hR : rightF (t.flat 0) = true := (right_iff _).2 ⟨t, ht, rfl, hs⟩
  obtain ⟨h1, e1, x1⟩ := right_run k (by omega) h r
  rw [hR] at e1
  obtain ⟨h2, w, to, odd, dep, ins, e2, d, W2, l1, l2⟩ := walked_run k (by omega) ht hs h1 (r.ext x1)
  refine ⟨h2, to, fun α ret => ?_, x1.trans W2.ext, W2.to, Nat.le_trans x1.1 d.t0, l1, l2⟩
  rw [bind_Binders.f, bind_Binders.u1.f, e1, Bool.not_true, cond_false, e2, w_to W2]
theorem binders_bad (k : Nat) (hk : 500 ≤ k) {f : Sl} {l : List Nd} (hR : rightF l = false) (h : H) (r : NdR h f l) :
    ∃ h', (∀ (α : Type) (ret : Sl → M α), bind_Binders.f (k + 1) f ret h = ret Sl.nil h') ∧ Ext h h' := by
  obtain ⟨k, rfl⟩ : ∃ q, k = q + 1 := ⟨k - 1, by omega⟩
  obtain ⟨h1, e1, x1⟩ := right_run k (by omega) h r
  rw [hR] at e1
  refine ⟨h1, fun α ret => ?_, x1⟩
  rw [bind_Binders.f, bind_Binders.u1.f, e1, Bool.not_false, cond_true]
end Go.Ab.S3
