/-
  THE ABSTRACT MACHINE AGAINST THE MODEL: calls of values, what is built in; all operations.
-/
import Derived.Test.YtkfoohgkbafafaaAb8
set_option linter.unusedVariables false
set_option linter.unusedSimpArgs false
namespace Go.Ab
section ops
variable {α : Type} {P : Program} {T : Tab} {base : Nat} {w0 : World} {X : Nat → Prop} {ι : Io} {h : H} {w : World} {call : Call α} {o : Oper} {ρ : Frame}
  {ρ' : Operand → Value} {K E : V → M α} {out : α}

theorem op_callValue (R : HR T base w0 X ι h w) (hρ : ∀ x, VR ι (okOf h X) (ev T ρ x) (ρ' x)) {c : Go.Call} {f : Operand} (hc : c.callee = .value f) (ho : o.op = .call c)
    (e : stepOp T call ρ o K E h = some out) : OpRes P T base w0 X call ι h w o ρ' K E out := by
  simp only [stepOp, ho, hc] at e
  have hf := hρ f
  generalize ev T ρ f = u at e hf
  cases u with
  | func g first cap =>
    dsimp only at e
    obtain ⟨a, b, hx, h1, h2⟩ := hf
    refine .inr (.inr ⟨g, _, a ++ (c.args.map ρ' ++ b), ?_, ?_, e⟩)
    · simp only [execOp, ho, Sem.run_bind, resolve, hc, hx, Deferred.ofValue, Sem.run_pure, Result.andThen_ok, invoke, Array.append_assoc]
    · simp only [Array.toList_append, Array.toList_map]
      exact h1.append ((VRL.map hρ _).append h2)
  | _ => cases e

/-! #### append -/
theorem growBy_le (n : Nat) : ∀ (r c b : Nat), c ≤ b → n + n / 4 + 193 ≤ b → Builtin.growBy n r c ≤ b
  | 0, c, b, h, _ => h
  | r + 1, c, b, h, g => by
    unfold Builtin.growBy
    split
    · exact h
    · exact growBy_le n r _ b (by omega) g
theorem nextslicecap_le (n c : Nat) (h : c < n) : Builtin.nextslicecap n c ≤ n + n / 4 + 512 := by
  unfold Builtin.nextslicecap
  split
  · omega
  · split
    · omega
    · exact growBy_le n 4 c _ (by omega) (by omega)

/-- 'append' as far as it is alike -/
theorem run_append_in {ats : Array TypeId} {ty t el t1 : TypeId} {size : Nat} {d1 : TypeDesc} (h0 : ats[0]? = some t) (h1 : ats[1]? = some t1) (hu : P.underlying t = some (.slice el)) (hu1 : P.underlying t1 = some d1)
    (hd : (∃ e, d1 = .slice e) ∨ d1 = .string) (hsz : (sizeOf el).run P w = .ok size w) {b : Option Addr} {l c n : Nat} {src : Value} {news : List Value} (hl : (Builtin.lenOf src).run P w = .ok n w)
    (hf : (Builtin.firstCells size n src).run P w = .ok news.toArray w) (hfit : l + n ≤ c) :
    (Builtin.append_ ats ty #[.slice b l c, src]).run P w =
      match b with | some a => ((storeCells (a.add (l * size)) news).run P w).andThen (fun _ w' => .ok (.slice b (l + n) c) w') | none => .ok (.slice b (l + n) c) w := by
  rcases hd with ⟨e, rfl⟩ | rfl <;>
  · cases b <;>
    simp [Builtin.append_, h0, h1, run_underlying hu, run_underlying hu1, hsz, hl, hfit, hf]
theorem run_append_out {ats : Array TypeId} {ty t el t1 : TypeId} {inf : TypeInfo} {z : Value} {d1 : TypeDesc} (h0 : ats[0]? = some t) (h1 : ats[1]? = some t1) (hu : P.underlying t = some (.slice el)) (hu1 : P.underlying t1 = some d1)
    (hd : (∃ e, d1 = .slice e) ∨ d1 = .string) (hi : P.info? el = some inf) (hz : inf.zero = some z) {b : Option Addr} {l c n : Nat} {src : Value} {olds news : List Value} (hl : (Builtin.lenOf src).run P w = .ok n w)
    (hf : (Builtin.firstCells inf.size n src).run P w.drew = .ok news.toArray w.drew) (hfo : (Builtin.firstCells inf.size l (.slice b l c)).run P w.drew = .ok olds.toArray w.drew)
    (hfit : ¬ l + n ≤ c) (hb : Builtin.nextslicecap (l + n) c * inf.bytes ≤ 281474976710656) (hn : l + n ≤ 9223372036854775807 ∨ inf.bytes ≠ 0) :
    (Builtin.append_ ats ty #[.slice b l c, src]).run P w =
      .ok (.slice (some ⟨w.heap.size, 0, none⟩) (l + n) (grownCap w (l + n) c el)) (w.drew.alloc (.cells (olds.toArray ++ news.toArray ++ Builtin.zeroCells z.cells (grownCap w (l + n) c el - (l + n))) el)) := by
  have hb' : ¬ (281474976710656 < Builtin.nextslicecap (l + n) c * inf.bytes) := by omega
  have h63 : ¬ (9223372036854775807 < ((l : Int) + (n : Int)) ∧ inf.bytes = 0) := by rintro ⟨h1, h2⟩; rcases hn with h | h <;> omega
  have hzs : ∀ w : World, (typeInfo el).run P w = .ok inf w := fun w => by simp [typeInfo, hi]
  have hzv : ∀ w : World, (zeroValue el).run P w = .ok z w := fun w => by simp [zeroValue, hzs, hz]
  rcases hd with ⟨e, rfl⟩ | rfl <;>
  · simp [Builtin.append_, h0, h1, run_underlying hu, run_underlying hu1, sizeOf, hzs, hl, hfit, hf, hfo, hzv, hb', h63, Question.forced, newRow, grownCap, IntKind.max, IntKind.signed, IntKind.bits]
    congr 2
    apply Array.ext'
    simp [List.append_assoc]

theorem run_lenOf_slice {b : Option Addr} {l c : Nat} : (Builtin.lenOf (.slice b l c)).run P w = .ok l w := rfl
/-- a slice that is read -/
theorem rdSl_ok (R : HR T base w0 X ι h w) {s : Sl} {size : Nat} {K : List V → M α} {x : Value} (hs : SlR ι (okOf h X) s x) (e : rdSl s size K h = some out) :
    ∃ (cs : List V) (xs : List Value) (b : Option Addr) (c : Nat), K cs h = some out ∧ x = .slice b s.len c ∧ VRL ι (okOf h X) cs xs ∧ cs.all oneV = true ∧ cs.length = s.len * size ∧
      ∀ w', w'.heap = w.heap → (Builtin.firstCells size s.len x).run P w' = .ok xs.toArray w' := by
  unfold rdSl at e
  unfold SlR at hs
  cases hsa : s.ad with
  | none =>
    rw [hsa] at e hs
    obtain ⟨rfl, rfl⟩ := hs
    obtain ⟨_, e⟩ := need_inv e
    exact ⟨[], [], none, 0, e, rfl, trivial, rfl, by simp [Sl.nil], fun _ _ => rfl⟩
  | some a =>
    rw [hsa] at e hs
    obtain ⟨hok, b, c, rfl, hb, hle, hlo⟩ := hs
    obtain ⟨cs, hr, e⟩ := rdRow_inv e
    obtain ⟨arr, elem, fr, harr, hsz, hv, hone, hlen⟩ := R.row hok.2 hr
    have hload : ∀ w' : World, w'.heap = w.heap → (loadCells (a.to ι) (s.len * size)).run P w' = .ok ((arr.toList.drop ((ι a.id).sh + a.off)).take (s.len * size)).toArray w' := by
      intro w' hw
      have h1 := run_loadCells (P := P) w' (a.to ι) (s.len * size) (fun j => (arr[(ι a.id).sh + a.off + j]?).getD default) (fun j hj => by
        rw [to_add]
        have hlt : (ι a.id).sh + (a.off + j) < arr.size := by omega
        have hlt' : (ι a.id).sh + a.off + j < arr.size := by omega
        simp [World.cell?, Ad.to, Ad.add, hw, harr, hlt, hlt', Nat.add_assoc])
      rw [h1]
      congr 2
      apply List.ext_getElem?
      intro j
      simp only [List.getElem?_map, List.getElem?_take, List.getElem?_drop]
      by_cases hj : j < s.len * size
      · rw [List.getElem?_range hj, if_pos hj]
        have hlt' : (ι a.id).sh + a.off + j < arr.size := by omega
        simp [hlt']
      · rw [if_neg hj, List.getElem?_eq_none (by simpa using hj)]; rfl
    refine ⟨cs, (arr.toList.drop ((ι a.id).sh + a.off)).take (s.len * size), some b, c, e, rfl, hv, hone, hlen, fun w' hw => ?_⟩
    simp only [Builtin.firstCells]
    rcases hb with hb | hb
    · have hl0 : s.len = 0 := by
        cases hlo2 : s.loose with
        | none => rw [hlo2] at hlo; dsimp only at hlo; omega
        | some e => rw [hlo2] at hlo; have := hlo.1; omega
      rw [hl0, Nat.zero_mul]
      rfl
    · rw [hb]; exact hload w' hw
/-- the facts of a slice's row -/
theorem SlR.row {ok : Nat → Prop} {s : Sl} {a : Ad} {x : Value} (ha : s.ad = some a) (hs : SlR ι ok s x) : ok a.id ∧ ∃ (b : Addr) (c : Nat), x = .slice (some b) s.len c ∧ (c = 0 ∨ b = a.to ι) ∧ s.len ≤ s.cap ∧ s.cap ≤ c ∧
    match s.loose with
      | none => c = s.cap
      | some e => a.off + c * e = (ι a.id).tot := by
  unfold SlR at hs
  rw [ha] at hs
  obtain ⟨h1, b, c, h2, h3, h4, h5⟩ := hs
  refine ⟨h1, b, c, h2, h3, h4, ?_⟩
  cases hl : s.loose with
  | none => rw [hl] at h5; dsimp only at h5 ⊢; exact ⟨by omega, h5⟩
  | some e => rw [hl] at h5; dsimp only at h5 ⊢; exact h5
theorem SlR.none_ad {ok : Nat → Prop} {s : Sl} {x : Value} (ha : s.ad = none) (hs : SlR ι ok s x) : s = Sl.nil ∧ x = .slice none 0 0 := by
  unfold SlR at hs
  rw [ha] at hs
  exact hs

/-- a new row, as 'append' makes it -/
theorem app_new (R : HR T base w0 X ι h w) (hX : ∀ i, X i → i < h.next) {size n len c : Nat} {el : TypeId} {old more : List V} {olds news : List Value} {z : Array Value} (hz : z.size = size)
    (h1 : VRL ι (okOf h X) old olds) (h2 : VRL ι (okOf h X) more news) (o1 : old.all oneV = true) (o2 : more.all oneV = true) (l1 : old.length = len * size) (l2 : more.length = n * size) (hc : len + n ≤ c) :
    let p : Pl := ⟨w.heap.size, 0, c * size⟩
    let w' := w.alloc (.cells (olds.toArray ++ news.toArray ++ Builtin.zeroCells z (c - (len + n))) el)
    HR T base w0 X (ι.set h.next p) (h.push (.cells (old ++ more) true)) w' ∧ Went X ι h w (ι.set h.next p) (h.push (.cells (old ++ more) true)) w' ∧
      SlR (ι.set h.next p) (okOf (h.push (.cells (old ++ more) true)) X) ⟨some ⟨h.next, 0⟩, len + n, len + n, some size⟩ (.slice (some ⟨w.heap.size, 0, none⟩) (len + n) c) := by
  have hlen1 := h1.length
  have hlen2 := h2.length
  have hsz : (olds.toArray ++ news.toArray ++ Builtin.zeroCells z (c - (len + n))).size = c * size := by
    simp only [Array.size_append, List.size_toArray, size_zeroCells, hz, ← hlen1, ← hlen2, l1, l2, ← Nat.add_mul]
    congr 1; omega
  have hp := R.pushRow (cs := old ++ more) (arr := olds.toArray ++ news.toArray ++ Builtin.zeroCells z (c - (len + n))) (elem := el) hX (by
      simp only [Array.toList_append, List.length_append, hlen1, hlen2]
      rw [← List.length_append, List.take_left]
      exact h1.append h2) (by rw [hsz, List.length_append, l1, l2, ← Nat.add_mul]; exact Nat.mul_le_mul_right _ hc) (by rw [List.all_append, o1, o2]; rfl)
  rw [hsz] at hp
  refine ⟨hp.1, hp.2, ⟨by show h.next < h.next + 1; omega, fun hx => absurd (hX _ hx) (Nat.lt_irrefl _)⟩, _, c, rfl, .inr (by simp [Ad.to, Io.set]), Nat.le_refl _, hc, by simp [Io.set]⟩

theorem app_ok (hT : TabOk P T) (R : HR T base w0 X ι h w) (hX : ∀ i, X i → i < h.next) {s : Sl} {n : Nat} {more : List V} {K : Sl → M α} {x src : Value} {news : List Value}
    (hs : SlR ι (okOf h X) s x) {ats : Array TypeId} {ty t el t1 : TypeId} {ei : TI} {d1 : TypeDesc} (h0 : ats[0]? = some t) (h1 : ats[1]? = some t1) (hu : P.underlying t = some (.slice el)) (hu1 : P.underlying t1 = some d1)
    (hd : (∃ e, d1 = .slice e) ∨ d1 = .string) (hei : T.ti el = some ei) (hl : (Builtin.lenOf src).run P w = .ok n w)
    (hf : ∀ w', w'.heap = w.heap → (Builtin.firstCells ei.size n src).run P w' = .ok news.toArray w') (hm : VRL ι (okOf h X) more news) (hone : more.all oneV = true)
    (e : appSl s ei.size ei.bytes n more K h = some out) :
    ∃ s' h' ι' x' w', K s' h' = some out ∧ (Builtin.append_ ats ty #[x, src]).run P w = .ok x' w' ∧ HR T base w0 X ι' h' w' ∧ Went X ι h w ι' h' w' ∧ SlR ι' (okOf h' X) s' x' := by
  have EI := hT.ti _ _ hei
  obtain ⟨inf, z, hi, hsz, hby, hz, hzv, _⟩ := EI.info
  have hzs : z.cells.size = ei.size := by
    have := (hzv ι (okOf h X)).length
    rw [EI.zl] at this
    simpa using this.symm
  have hsize := EI.run_size (w := w)
  unfold appSl at e
  obtain ⟨hml, e1⟩ := need_inv e
  clear e
  have hml := Nat.eq_of_beq_eq_true hml
  cases hlo : s.loose with
  | none =>
    rw [hlo] at e1
    dsimp only at e1
    cases hc : Nat.ble (s.len + n) s.cap with
    | true =>
      rw [hc] at e1
      simp only [cond_true] at e1
      have hc := Nat.le_of_ble_eq_true hc
      cases ha : s.ad with
      | none =>
        rw [ha] at e1
        dsimp only at e1
        obtain ⟨rfl, rfl⟩ := hs.none_ad ha
        have hn : n = 0 := by simp [Sl.nil] at hc; omega
        subst hn
        refine ⟨_, h, ι, _, w, e1, ?_, R, Went.refl X ι h w, rfl, rfl⟩
        rw [run_append_in h0 h1 hu hu1 hd hsize hl (hf w rfl) (by omega)]
      | some a =>
        rw [ha] at e1
        dsimp only at e1
        obtain ⟨hok, b, c, rfl, hb, hle, hcc, hcl⟩ := hs.row ha
        rw [hlo] at hcl
        dsimp only at hcl
        subst hcl
        unfold wrRow at e1
        cases hw : h.setRow (a.add (s.len * ei.size)) more with
        | none => rw [hw] at e1; cases e1
        | some h' =>
          rw [hw] at e1
          dsimp only at e1
          obtain ⟨w', hrun, R', W', hz'⟩ := R.setRow P (a := a.add (s.len * ei.size)) hok.2 hm hone hw
          have hnx : h'.next = h.next := by
            obtain ⟨_, _, _, rfl⟩ := setRow_some hw
            rfl
          refine ⟨_, h', ι, .slice (some b) (s.len + n) s.cap, w', e1, ?_, R', W', ?_⟩
          · rw [run_append_in h0 h1 hu hu1 hd hsize hl (hf w rfl) hc]
            rcases hb with hb | hb
            · have hnl : news = [] := by
                have : news.length = 0 := by rw [← hm.length, hml, show n = 0 by omega, Nat.zero_mul]
                exact List.length_eq_zero_iff.1 this
              subst hnl
              have hrun' : (Result.ok () w : Result Unit) = .ok () w' := hrun
              cases hrun'
              rfl
            · rw [hb]; dsimp only; rw [to_add, hrun]; rfl
          · refine ⟨⟨by rw [hnx]; exact hok.1, hok.2⟩, b, s.cap, rfl, hb, hc, rfl⟩
    | false =>
      rw [hc] at e1
      simp only [cond_false] at e1
      have hc : ¬ s.len + n ≤ s.cap := fun h => by rw [Nat.ble_eq_true_of_le h] at hc; cases hc
      obtain ⟨hb, e2⟩ := need_inv e1
      clear e1
      rw [Bool.and_eq_true] at hb
      obtain ⟨old, olds, b, c, e3, hx, hov, hoo, hol, hof⟩ := rdSl_ok (P := P) R hs e2
      subst hx
      have hcc : c = s.cap := by
        cases ha : s.ad with
        | none => obtain ⟨rfl, h⟩ := hs.none_ad ha; cases h; rfl
        | some a =>
          obtain ⟨_, b', c', h1, _, _, _, h2⟩ := hs.row ha
          cases h1
          rw [hlo] at h2
          exact h2
      subst hcc
      have hbb : 0 < inf.bytes := by rw [hby]; exact Nat.lt_of_succ_le (Nat.le_of_ble_eq_true hb.1)
      have hbl := Nat.le_of_ble_eq_true hb.2
      have hns := nextslicecap_le (s.len + n) s.cap (by omega)
      rw [← hby] at hbl
      have hr := run_append_out (P := P) (w := w) (ty := ty) h0 h1 hu hu1 hd hi hz hl (by rw [hsz]; exact hf w.drew rfl) (by rw [hsz]; exact hof w.drew rfl) hc (Nat.le_trans (Nat.mul_le_mul_right _ hns) hbl) (.inr (by omega))
      obtain ⟨R', W', S'⟩ := app_new R.drew hX (el := el) hzs hov hm hoo hone hol hml (grownCap_ge w (s.len + n) s.cap el)
      exact ⟨_, _, _, _, _, e3, hr, R', (Went.drew X ι h w).trans W', S'⟩
  | some sz =>
    rw [hlo] at e1
    dsimp only at e1
    cases ha : s.ad with
    | none => obtain ⟨rfl, _⟩ := hs.none_ad ha; cases hlo
    | some a =>
    obtain ⟨hok, b, c, rfl, hb, hle, hcc, hcl⟩ := hs.row ha
    rw [hlo] at hcl
    dsimp only at hcl
    cases hn0 : Nat.beq n 0 with
    | true =>
      rw [hn0] at e1
      have hn0 := Nat.eq_of_beq_eq_true hn0
      subst hn0
      simp only [cond_true] at e1
      refine ⟨_, h, ι, _, w, e1, ?_, R, Went.refl X ι h w, hs⟩
      rw [run_append_in h0 h1 hu hu1 hd hsize hl (hf w rfl) (by omega)]
      have hnl : news = [] := by
        have : news.length = 0 := by rw [← hm.length, hml, Nat.zero_mul]
        exact List.length_eq_zero_iff.1 this
      subst hnl
      rfl
    | false =>
      rw [hn0] at e1
      simp only [cond_false] at e1
      have hn0 : n ≠ 0 := fun h => by subst h; cases hn0
      obtain ⟨he, e2⟩ := need_inv e1
      obtain ⟨hbd, e3⟩ := need_inv e2
      clear e1 e2
      have he := Nat.eq_of_beq_eq_true he
      subst he
      rw [ha] at e3
      dsimp only at e3
      obtain ⟨old, hrow, e4⟩ := rdRow_inv e3
      clear e3
      cases hown : h.own a.id with
      | false => rw [hown] at e4; cases e4
      | true =>
      rw [hown] at e4
      simp only [cond_true] at e4
      have hlo2 : SlR ι (okOf h X) s (.slice (some b) s.len c) := hs
      by_cases hfit : s.len + n ≤ c
      · have hb := hb.resolve_left (by omega)
        obtain ⟨w', hrun, R', W'⟩ := R.grow hX P (n := s.len * ei.size) hok.2 hown hrow hm hone (by
          have : (s.len + n) * ei.size ≤ c * ei.size := Nat.mul_le_mul_right _ hfit
          rw [Nat.add_mul] at this
          rw [hml]; omega)
        refine ⟨_, _, _, .slice (some b) (s.len + n) c, w', e4, ?_, R', W', ?_⟩
        · rw [run_append_in h0 h1 hu hu1 hd hsize hl (hf w rfl) hfit, hb]
          dsimp only
          rw [to_add, hrun]; rfl
        · refine ⟨⟨by show h.next < h.next + 1; omega, fun hx => absurd (hX _ hx) (Nat.lt_irrefl _)⟩, b, c, rfl, .inr ?_, Nat.le_refl _, hfit, ?_⟩
          · rw [hb]; simp [Ad.to, Io.set]
          · simp [Io.set]; omega
      · rw [Bool.and_eq_true] at hbd
        have hbb : 0 < inf.bytes := by rw [hby]; exact Nat.lt_of_succ_le (Nat.le_of_ble_eq_true hbd.1)
        have hbl := Nat.le_of_ble_eq_true hbd.2
        have hns := nextslicecap_le (s.len + n) c (by omega)
        rw [← hby] at hbl
        obtain ⟨old', olds, b', c', e5, hx, hov, hoo, hol, hof⟩ := rdSl_ok (α := List V) (out := old) (P := P) (K := fun cs _ => some cs) R hs (by
          unfold rdSl
          rw [ha]
          dsimp only
          unfold rdRow
          rw [hrow])
        cases e5
        have hr := run_append_out (P := P) (w := w) (ty := ty) h0 h1 hu hu1 hd hi hz hl (by rw [hsz]; exact hf w.drew rfl) (by rw [hsz]; exact hof w.drew rfl) hfit (Nat.le_trans (Nat.mul_le_mul_right _ hns) hbl) (.inr (by omega))
        have hk := R.kill hok.2
        obtain ⟨R', W', S'⟩ := app_new (h := h.put a.id none) hk.1.drew hX (el := el) hzs hov hm hoo hone hol hml (grownCap_ge w (s.len + n) c el)
        exact ⟨_, _, _, _, _, e4, hr, R', (hk.2.trans (Went.drew X ι _ w)).trans W', S'⟩

/-! #### what is built in -/
theorem slr_kind {ok : Nat → Prop} {s : Sl} {x : Value} (hs : SlR ι ok s x) : ∃ b c, x = .slice b s.len c ∧ s.cap ≤ c ∧ (s.loose = none → c = s.cap) := by
  cases ha : s.ad with
  | none => obtain ⟨rfl, rfl⟩ := hs.none_ad ha; exact ⟨_, _, rfl, Nat.le_refl _, fun _ => rfl⟩
  | some a =>
    obtain ⟨_, b, c, h1, _, _, h2, h3⟩ := hs.row ha
    exact ⟨_, _, h1, h2, fun hl => by rw [hl] at h3; exact h3⟩
theorem SlR.short {ok : Nat → Prop} {s : Sl} {b : Option Addr} {l c : Nat} (hs : SlR ι ok s (.slice b l c)) (m : Nat) (hm : m ≤ s.len) : SlR ι ok { s with len := m } (.slice b m c) := by
  unfold SlR at *
  cases ha : s.ad with
  | none =>
    rw [ha] at hs
    obtain ⟨rfl, h⟩ := hs
    cases h
    have : m = 0 := by simpa [Sl.nil] using hm
    subst this
    exact ⟨rfl, rfl⟩
  | some a =>
    rw [ha] at hs
    obtain ⟨h1, b', c', h2, h3, h4, h5⟩ := hs
    cases h2
    exact ⟨h1, _, c, rfl, h3, Nat.le_trans hm h4, h5⟩
/-- a row is written over from a slice's begin on -/
theorem wr_ok (R : HR T base w0 X ι h w) {a : Ad} {vs : List V} {xs : List Value} {K : M α} {b : Addr} {c : Nat} (ha : ¬ X a.id) (hb : c = 0 ∨ b = a.to ι) (hz : c = 0 → xs = [])
    (hv : VRL ι (okOf h X) vs xs) (hone : vs.all oneV = true) (e : wrRow a vs K h = some out) :
    ∃ h' w', K h' = some out ∧ (storeCells b xs).run P w = .ok () w' ∧ HR T base w0 X ι h' w' ∧ Went X ι h w ι h' w' := by
  unfold wrRow at e
  cases hw : h.setRow a vs with
  | none => rw [hw] at e; cases e
  | some h' =>
    rw [hw] at e
    dsimp only at e
    obtain ⟨w', hrun, R', W', _⟩ := R.setRow P ha hv hone hw
    refine ⟨h', w', e, ?_, R', W'⟩
    rcases hb with hb | hb
    · have := hz hb
      subst this
      exact hrun
    · rw [hb]; exact hrun

theorem builtin_ok (hT : TabOk P T) (R : HR T base w0 X ι h w) (hX : ∀ i, X i → i < h.next) {b : Builtin} {ats : Array TypeId} {ty : TypeId} {cs : Array Bool} {vs : List V} {xs : List Value}
    (hv : VRL ι (okOf h X) vs xs) {K : V → M α} (e : Ab.builtin T b ats vs K h = some out) :
    ∃ v h' ι' x w', K v h' = some out ∧ (Go.builtin b ats ty cs xs.toArray).run P w = .ok (.value x) w' ∧ HR T base w0 X ι' h' w' ∧ Went X ι h w ι' h' w' ∧ VR ι' (okOf h' X) v x := by
  have pure : ∀ {v : V} {x : Value}, K v h = some out → (Go.builtin b ats ty cs xs.toArray).run P w = .ok (.value x) w → VR ι (okOf h X) v x →
      ∃ v h' ι' x w', K v h' = some out ∧ (Go.builtin b ats ty cs xs.toArray).run P w = .ok (.value x) w' ∧ HR T base w0 X ι' h' w' ∧ Went X ι h w ι' h' w' ∧ VR ι' (okOf h' X) v x :=
    fun e hr hv => ⟨_, h, ι, _, w, e, hr, R, Went.refl X ι h w, hv⟩
  cases b <;> first | (cases e; done) | skip
  case append =>
    match vs, xs, hv with
    | [.slice s, .str y], [xs1, xs2], hv =>
      obtain ⟨h1, ⟨b2, rfl, rfl⟩, _⟩ := hv
      simp only [Ab.builtin] at e
      obtain ⟨hk, e⟩ := need_inv e
      obtain ⟨t1, i1, ht1, I1, hs1, _, _⟩ := kindOf_inv hT hk (by decide)
      cases ht : ats[0]? with
      | none => rw [ht] at e; cases e
      | some t =>
      rw [ht] at e
      dsimp only at e
      cases hi : T.ti t with
      | none => rw [hi] at e; cases e
      | some i =>
      rw [hi] at e
      have I := (hT.ti _ _ hi).und
      obtain ⟨und, a1, a2, a3, a4, a5, a6⟩ := i
      cases und with
      | slice el =>
        dsimp only at e I
        cases hj : T.ti el with
        | none => rw [hj] at e; cases e
        | some ei =>
        rw [hj] at e
        dsimp only at e
        obtain ⟨hb, e⟩ := need_inv e
        rw [Bool.and_eq_true] at hb
        have hb1 := Nat.eq_of_beq_eq_true hb.1
        have hb2 := Nat.eq_of_beq_eq_true hb.2
        unfold appStr at e
        have e' : appSl s ei.size ei.bytes b2.data.toList.length (toBytes b2.data.toList) (fun s => K (.slice s)) h = some out := by rw [hb1, hb2]; exact e
        obtain ⟨s', h', ι', x', w', e2, hr, R', W', S'⟩ := app_ok (ty := ty) hT R hX (n := b2.data.toList.length) (src := .string b2) (news := (b2.data.map fun c => Value.int .u8 c.toNat).toList)
          h1 ht ht1 I I1.und (.inr (hs1 rfl)) hj (by simp [Builtin.lenOf]) (fun w' _ => by
            simp only [Builtin.firstCells, Sem.run_pure]
            congr 2
            have : b2.data.toList.length = b2.size := Array.length_toList
            rw [this]
            simp [ByteArray.extract_zero_size]) (bytes_u8 b2 _) (toBytes_one _) e'
        exact ⟨_, h', ι', x', w', e2, by simp [Go.builtin, hr], R', W', S'⟩
      | _ => cases e
    | [.slice s, .slice y], [xs1, xs2], hv =>
      obtain ⟨h1, h2, _⟩ := hv
      simp only [Ab.builtin] at e
      obtain ⟨hk, e⟩ := need_inv e
      obtain ⟨t1, i1, ht1, I1, _, hs1, _⟩ := kindOf_inv hT hk (by decide)
      cases ht : ats[0]? with
      | none => rw [ht] at e; cases e
      | some t =>
      rw [ht] at e
      dsimp only at e
      cases hi : T.ti t with
      | none => rw [hi] at e; cases e
      | some i =>
      rw [hi] at e
      have I := (hT.ti _ _ hi).und
      obtain ⟨und, a1, a2, a3, a4, a5, a6⟩ := i
      cases und with
      | slice el =>
        dsimp only at e I
        cases hj : T.ti el with
        | none => rw [hj] at e; cases e
        | some ei =>
        rw [hj] at e
        dsimp only at e
        unfold appRow at e
        obtain ⟨more, news, b, c, e1, hx, hm, hone, hlen, hf⟩ := rdSl_ok (P := P) R h2 e
        obtain ⟨s', h', ι', x', w', e2, hr, R', W', S'⟩ := app_ok (ty := ty) hT R hX (n := y.len) (src := xs2) (news := news)
          h1 ht ht1 I I1.und (.inl (hs1 rfl)) hj (by rw [hx]; rfl) hf hm hone e1
        exact ⟨_, h', ι', x', w', e2, by simp [Go.builtin, hr], R', W', S'⟩
      | _ => cases e
  case cap =>
    match vs, xs, hv with
    | [.slice s], [x1], hv =>
      obtain ⟨h1, _⟩ := hv
      simp only [Ab.builtin] at e
      obtain ⟨hk, e⟩ := need_inv e
      obtain ⟨hl, e⟩ := need_inv e
      obtain ⟨t1, i1, ht1, I1, _, hs1, _⟩ := kindOf_inv hT hk (by decide)
      obtain ⟨el, hel⟩ := hs1 rfl
      have hu := I1.und
      rw [hel] at hu
      obtain ⟨b, c, rfl, _, hc⟩ := slr_kind h1
      have := hc (by cases hq : s.loose with | none => rfl | some _ => rw [hq] at hl; cases hl)
      subst this
      exact pure e (by simp [Go.builtin, Builtin.cap_, ht1, run_underlying hu, goInt]) rfl
  case clear =>
    match vs, xs, hv with
    | [.slice s], [x1], hv =>
      obtain ⟨h1, _⟩ := hv
      simp only [Ab.builtin] at e
      cases ht : ats[0]? with
      | none => rw [ht] at e; cases e
      | some t =>
      rw [ht] at e
      dsimp only at e
      cases hi : T.ti t with
      | none => rw [hi] at e; cases e
      | some i =>
      rw [hi] at e
      have I := (hT.ti _ _ hi).und
      obtain ⟨und, a1, a2, a3, a4, a5, a6⟩ := i
      cases und with
      | slice el =>
        dsimp only at e I
        cases hj : T.ti el with
        | none => rw [hj] at e; cases e
        | some ei =>
        rw [hj] at e
        dsimp only at e
        unfold clearSl at e
        cases ha : s.ad with
        | none =>
          rw [ha] at e
          obtain ⟨rfl, rfl⟩ := h1.none_ad ha
          exact pure (x := .tuple #[]) e (by simp [Go.builtin, Builtin.clear_, ht, run_underlying I]) ⟨#[], rfl, trivial⟩
        | some a =>
          rw [ha] at e
          dsimp only at e
          obtain ⟨hone, e⟩ := need_inv e
          obtain ⟨hok, b, c, rfl, hb, hle, hcc, hcl⟩ := h1.row ha
          have EI := hT.ti _ _ hj
          obtain ⟨z, hz, hzv, _⟩ := EI.run_zero (w := w)
          have hr := vrl_rep (ι := ι) (hzv ι (okOf h X)) s.len
          obtain ⟨h', w', e2, hrun, R', W'⟩ := wr_ok (P := P) R (xs := (Builtin.zeroCells z.cells s.len).toList) hok.2 hb (fun hc => by
            have : s.len = 0 := by omega
            rw [this]; simp [Builtin.zeroCells]) hr (rep_one hone) e
          refine ⟨_, h', ι, .tuple #[], w', e2, ?_, R', W', ⟨_, rfl, trivial⟩⟩
          by_cases h0 : s.len = 0
          · rw [h0] at hrun ⊢
            have hrun' : (Result.ok () w : Result Unit) = .ok () w' := by simpa [Builtin.zeroCells, storeCells] using hrun
            cases hrun'
            simp [Go.builtin, Builtin.clear_, ht, run_underlying I]
          · obtain ⟨n, hn⟩ : ∃ n, s.len = n + 1 := ⟨s.len - 1, by omega⟩
            rw [hn] at hrun ⊢
            simp [Go.builtin, Builtin.clear_, ht, run_underlying I, hz, hrun]
      | _ => cases e
  case copy =>
    match vs, xs, hv with
    | [.slice d, .slice y], [x1, x2], hv =>
      obtain ⟨h1, h2, _⟩ := hv
      simp only [Ab.builtin] at e
      cases ht : ats[0]? with
      | none => rw [ht] at e; cases e
      | some t =>
      rw [ht] at e
      dsimp only at e
      cases hi : T.ti t with
      | none => rw [hi] at e; cases e
      | some i =>
      rw [hi] at e
      have I := (hT.ti _ _ hi).und
      obtain ⟨und, a1, a2, a3, a4, a5, a6⟩ := i
      cases und with
      | slice el =>
        dsimp only at e I
        cases hj : T.ti el with
        | none => rw [hj] at e; cases e
        | some ei =>
        rw [hj] at e
        dsimp only at e
        have EI := hT.ti _ _ hj
        unfold copySl at e
        obtain ⟨b2, c2, rfl, _, _⟩ := slr_kind h2
        have h2' := SlR.short h2 (min y.len d.len) (Nat.min_le_left _ _)
        obtain ⟨more, news, b, c, e1, hx, hm, hone, hlen, hf⟩ := rdSl_ok (P := P) R h2' e
        have hf' : (Builtin.firstCells ei.size (Nat.min y.len d.len) (.slice b2 y.len c2)).run P w = .ok news.toArray w := by
          have := hf w rfl
          cases b2 <;> exact this
        have hcast : ((Nat.min y.len d.len : Nat) : Int) = min (y.len : Int) (d.len : Int) := by
          show ((min y.len d.len : Nat) : Int) = _
          omega
        cases ha : d.ad with
        | none =>
          rw [ha] at e1
          obtain ⟨rfl, rfl⟩ := h1.none_ad ha
          refine pure e1 ?_ rfl
          have hf2 : (Builtin.firstCells ei.size 0 (.slice b2 y.len c2)).run P w = .ok news.toArray w := by
            have : y.len.min Sl.nil.len = 0 := Nat.min_zero _
            rwa [this] at hf'
          have hm0 : min (y.len : Int) (Sl.nil.len : Int) = 0 := by simp [Sl.nil]; omega
          simp [Go.builtin, Builtin.copy_, ht, run_underlying I, Builtin.lenOf, EI.run_size, hf2, goInt, hm0]
        | some a =>
          rw [ha] at e1
          dsimp only at e1
          obtain ⟨hok, b', c', rfl, hb, hle, hcc, hcl⟩ := h1.row ha
          obtain ⟨h', w', e2, hrun, R', W'⟩ := wr_ok (P := P) R (xs := news) hok.2 hb (fun hc => by
            have h0 : d.len = 0 := by omega
            have h3 : news.length = 0 := by rw [← hm.length, hlen]; simp [h0]
            exact List.length_eq_zero_iff.1 h3) hm hone e1
          refine ⟨_, h', ι, _, w', e2, ?_, R', W', rfl⟩
          simp [Go.builtin, Builtin.copy_, ht, run_underlying I, Builtin.lenOf, EI.run_size, hf', hrun, goInt, hcast]
      | _ => cases e
  case len =>
    match vs, xs, hv with
    | [.str y], [x1], hv =>
      obtain ⟨⟨b, rfl, rfl⟩, _⟩ := hv
      simp only [Ab.builtin] at e
      obtain ⟨hk, e⟩ := need_inv e
      obtain ⟨t1, i1, ht1, I1, hs1, _, _⟩ := kindOf_inv hT hk (by decide)
      have hu := I1.und
      rw [hs1 rfl] at hu
      have hlen : b.data.toList.length = b.size := Array.length_toList
      exact pure e (by simp [Go.builtin, Builtin.len_, ht1, run_underlying hu, goInt]; rfl) (by rw [hlen]; rfl)
    | [.slice s], [x1], hv =>
      obtain ⟨h1, _⟩ := hv
      simp only [Ab.builtin] at e
      obtain ⟨hk, e⟩ := need_inv e
      obtain ⟨t1, i1, ht1, I1, _, hs1, _⟩ := kindOf_inv hT hk (by decide)
      obtain ⟨el, hel⟩ := hs1 rfl
      have hu := I1.und
      rw [hel] at hu
      obtain ⟨b, c, rfl, _, hc⟩ := slr_kind h1
      exact pure e (by simp [Go.builtin, Builtin.len_, ht1, run_underlying hu, goInt]) rfl
    | [.map r], [x1], hv =>
      obtain ⟨h1, _⟩ := hv
      simp only [Ab.builtin] at e
      obtain ⟨hk, e⟩ := need_inv e
      obtain ⟨t1, i1, ht1, I1, _, _, hs1⟩ := kindOf_inv hT hk (by decide)
      obtain ⟨k, el, hel⟩ := hs1 rfl
      have hu := I1.und
      rw [hel] at hu
      rcases getMap_inv e with ⟨rfl, e⟩ | ⟨i, es, rfl, hg, e⟩
      · have h1 : x1 = .map none := h1
        subst h1
        exact pure e (by simp [Go.builtin, Builtin.len_, ht1, run_underlying hu, goInt]) rfl
      · obtain ⟨hok, rfl⟩ := h1
        obtain ⟨ces, clock, hh, _, g1, _⟩ := R.blk i _ hok.2 hg
        have hl : es.length = ces.size := by simpa using g1.length
        exact pure e (by simp [Go.builtin, Builtin.len_, ht1, run_underlying hu, MapKept.run_getObj_map hh, goInt]; rfl) (by rw [hl]; rfl)
  case max =>
    match vs, xs, hv with
    | [.int j a, .int k b], [x1, x2], hv =>
      obtain ⟨rfl, rfl, _⟩ := hv
      simp only [Ab.builtin] at e
      obtain ⟨hk, e⟩ := need_inv e
      exact pure e (by simp [Go.builtin, Builtin.max_, Builtin.max2]) rfl
  case min =>
    match vs, xs, hv with
    | [.int j a, .int k b], [x1, x2], hv =>
      obtain ⟨rfl, rfl, _⟩ := hv
      simp only [Ab.builtin] at e
      obtain ⟨hk, e⟩ := need_inv e
      exact pure e (by simp [Go.builtin, Builtin.min_, Builtin.min2]) rfl

theorem op_builtin (hT : TabOk P T) (R : HR T base w0 X ι h w) (hX : ∀ i, X i → i < h.next) (hρ : ∀ x, VR ι (okOf h X) (ev T ρ x) (ρ' x)) {c : Go.Call} {b : Builtin} (hc : c.callee = .builtin b) (ho : o.op = .call c)
    (e : stepOp T call ρ o K E h = some out) : OpRes P T base w0 X call ι h w o ρ' K E out := by
  simp only [stepOp, ho, hc] at e
  obtain ⟨v, h', ι', x', w', e2, hr, R', W', hv⟩ := builtin_ok (ty := o.type) (cs := c.args.map fun | .const _ => true | _ => false) hT R hX (VRL.map hρ _) e
  refine .inl ⟨v, h', ι', x', w', e2, .inl ?_, R', W', hv⟩
  have he : (c.args.toList.map ρ').toArray = c.args.map ρ' := Array.ext' (by simp)
  rw [he] at hr
  simp only [execOp, ho, Sem.run_bind, resolve, hc, Sem.run_pure, Result.andThen_ok, invoke]
  exact hr

/-- ONE OPERATION. -/
theorem stepOp_ok (hT : TabOk P T) (R : HR T base w0 X ι h w) (hX : ∀ i, X i → i < h.next) (hρ : ∀ x, VR ι (okOf h X) (ev T ρ x) (ρ' x))
    (e : stepOp T call ρ o K E h = some out) : OpRes P T base w0 X call ι h w o ρ' K E out := by
  have dead : (fail : M α) h = some out → OpRes P T base w0 X call ι h w o ρ' K E out := fun e => by cases e
  cases ho : o.op with
  | move x => exact op_move R hρ (.inl ho) e
  | assign x => exact op_move R hρ (.inr ho) e
  | pick c a b => exact op_pick R hρ ho e
  | alloc t => exact op_alloc hT R hX ho e
  | box t v => exact op_box R hX hρ ho e
  | build t ps => exact op_build hT R hρ ho e
  | buildSlice t n ps => exact op_buildSlice hT R hX hρ ho e
  | load t a => exact op_load hT R hρ ho e
  | store t a v => exact op_store hT R hρ ho e
  | nilCheck x => exact op_nilCheck R hρ ho e
  | binOp op t x y ty => exact op_binOp hT R hρ ho e
  | unOp op t x => exact op_unOp R hρ ho e
  | convert s d x => exact op_convert hT R hX hρ ho e
  | makeInterface t x => exact op_makeInterface hT R hρ ho e
  | makeFunc f a b =>
    cases f with
    | func f => exact op_makeFunc R hρ ho e
    | _ => simp only [stepOp, ho] at e; exact dead e
  | makeMap t r =>
    cases r with
    | none => exact op_makeMap R hX ho e
    | some r => simp only [stepOp, ho] at e; exact dead e
  | makeSlice t l c => exact op_makeSlice hT R hX hρ ho e
  | slice t x lo hi mx => exact op_slice hT R hρ ho e
  | fieldAddr t x i => exact op_fieldAddr hT R hρ ho e
  | field t x i => exact op_field hT R hρ ho e
  | indexAddr t x i => exact op_indexAddr hT R hρ ho e
  | index t x i => exact op_index hT R hρ ho e
  | lookup t x k ok => exact op_lookup hT R hρ ho e
  | mapUpdate t m k v => exact op_mapUpdate hT R hρ ho e
  | typeAssert x xt t ok =>
    cases ok with
    | true => exact op_typeAssert hT R hρ ho e
    | false => simp only [stepOp, ho] at e; exact dead e
  | extract t i => exact op_extract R hρ ho e
  | panic x => exact op_panic R hρ ho e
  | call c =>
    cases hc : c.callee with
    | value f => exact op_callValue R hρ hc ho e
    | builtin b => exact op_builtin hT R hX hρ hc ho e
    | invoke r n => simp only [stepOp, ho, hc] at e; exact dead e
  | _ => simp only [stepOp, ho] at e; exact dead e
end ops
end Go.Ab
