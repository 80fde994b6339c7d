/-
  THE ABSTRACT MACHINE AGAINST THE MODEL: memory that was told of before it was made.
-/
import Derived.Test.YtkfoohgkbafafaaAb10
set_option linter.unusedVariables false
set_option linter.unusedSimpArgs false
namespace Go.Ab

/-- a value that names no memory -/
def flatV : V → Bool
  | .bool _ | .int _ _ | .str _ | .ptr none | .map none | .nilFunc | .nilIface => true
  | .slice s => (match s.ad with | none => true | some _ => false)
  | _ => false
theorem VR.flat {ι ι' : Io} {ok ok' : Nat → Prop} {v : V} {x : Value} (hf : flatV v = true) (h : VR ι ok v x) : VR ι' ok' v x := by
  cases v with
  | bool _ => exact h
  | int _ _ => exact h
  | str _ => exact h
  | ptr a => cases a with
    | none => exact h
    | some a => cases hf
  | map a => cases a with
    | none => exact h
    | some a => cases hf
  | nilFunc => exact h
  | nilIface => exact h
  | slice s =>
    unfold VR SlR at h ⊢
    cases hs : s.ad with
    | none => rw [hs] at h; exact h
    | some a => simp [flatV, hs] at hf
  | undef => cases hf
  | func _ _ _ => cases hf
  | iface _ _ => cases hf
  | agg _ => cases hf
  | tuple _ => cases hf
theorem VRL.flat {ι ι' : Io} {ok ok' : Nat → Prop} : ∀ {vs : List V} {xs : List Value}, vs.all flatV = true → VRL ι ok vs xs → VRL ι' ok' vs xs
  | [], [], _, _ => trivial
  | v :: vs, x :: xs, hf, h => by
    simp only [List.all_cons, Bool.and_eq_true] at hf
    exact ⟨h.1.flat hf.1, VRL.flat hf.2 h.2⟩
  | [], _ :: _, _, h => h.elim
  | _ :: _, [], _, h => h.elim

section
variable {ι ι' ι'' : Io} {ok ok' ok'' : Nat → Prop}
theorem SlR.join (hj : ∀ i, ok i → ι'' i = ι' i ∧ ok'' i) {s : Sl} {x₀ x : Value} (h0 : SlR ι ok s x₀) (h : SlR ι' ok' s x) : SlR ι'' ok'' s x := by
  unfold SlR at *
  cases hs : s.ad with
  | none => simp only [hs] at h ⊢; exact h
  | some a =>
    simp only [hs] at h0 h ⊢
    obtain ⟨h1, h2⟩ := hj _ h0.1
    obtain ⟨_, b, c, hx, hb, hl, hc⟩ := h
    refine ⟨h2, b, c, hx, ?_, hl, ?_⟩
    · rcases hb with hb | hb
      · exact .inl hb
      · exact .inr (by rw [hb]; simp [Ad.to, h1])
    · cases hl : s.loose with
      | none => simp only [hl] at hc ⊢; exact hc
      | some e => simp only [hl] at hc ⊢; rw [h1]; exact hc
mutual
theorem VR.join (hj : ∀ i, ok i → ι'' i = ι' i ∧ ok'' i) : ∀ {v : V} {x₀ x : Value}, VR ι ok v x₀ → VR ι' ok' v x → VR ι'' ok'' v x
  | .undef, _, _, _, _ => trivial
  | .bool _, _, _, _, h => h
  | .int _ _, _, _, _, h => h
  | .str _, _, _, _, h => h
  | .ptr none, _, _, _, h => h
  | .ptr (some a), _, _, h0, h => by obtain ⟨h1, h2⟩ := hj _ h0.1; exact ⟨h2, by rw [h.2]; simp [Ad.to, h1]⟩
  | .slice _, _, _, h0, h => SlR.join hj h0 h
  | .map none, _, _, _, h => h
  | .map (some r), _, _, h0, h => by obtain ⟨h1, h2⟩ := hj _ h0.1; exact ⟨h2, by rw [h.2, h1]⟩
  | .func _ _ _, _, _, ⟨_, _, _, h1, h2⟩, ⟨a, b, hx, ha, hb⟩ => ⟨a, b, hx, VRL.join hj h1 ha, VRL.join hj h2 hb⟩
  | .nilFunc, _, _, _, h => h
  | .iface _ _, _, _, ⟨_, _, h0⟩, ⟨y, hx, hy⟩ => ⟨y, hx, VR.join hj h0 hy⟩
  | .nilIface, _, _, _, h => h
  | .agg _, _, _, ⟨_, _, h0⟩, ⟨a, hx, ha⟩ => ⟨a, hx, VRL.join hj h0 ha⟩
  | .tuple _, _, _, ⟨_, _, h0⟩, ⟨a, hx, ha⟩ => ⟨a, hx, VRL.join hj h0 ha⟩
theorem VRL.join (hj : ∀ i, ok i → ι'' i = ι' i ∧ ok'' i) : ∀ {vs : List V} {xs₀ xs : List Value}, VRL ι ok vs xs₀ → VRL ι' ok' vs xs → VRL ι'' ok'' vs xs
  | [], [], [], _, _ => trivial
  | _ :: _, _ :: _, _ :: _, ⟨h0, g0⟩, ⟨h, g⟩ => ⟨VR.join hj h0 h, VRL.join hj g0 g⟩
  | [], _, _ :: _, _, h => h.elim
  | _ :: _, _, [], _, h => h.elim
  | _ :: _, [], _ :: _, h0, _ => h0.elim
  | [], _ :: _, [], h0, _ => trivial
end
end
theorem BlkR.join {ι ι' ι'' : Io} {ok ok' ok'' : Nat → Prop} {base : Nat} {w₀ w : World} {p₀ p : Pl} {b : Blk} (hj : ∀ i, ok i → ι'' i = ι' i ∧ ok'' i)
    (h0 : BlkR ι ok base w₀ p₀ b) (hb : BlkR ι' ok' base w p b) : BlkR ι'' ok'' base w p b := by
  cases b with
  | cells cs own =>
    obtain ⟨_, _, _, _, _, _, g3, _⟩ := h0
    obtain ⟨arr, elem, lo, hi, h1, h2, h3, h4, h5⟩ := hb
    exact ⟨arr, elem, lo, hi, h1, h2, VRL.join hj g3 h3, h4, h5⟩
  | map es =>
    obtain ⟨_, _, _, _, g3, g4⟩ := h0
    obtain ⟨ces, clock, h1, h2, h3, h4⟩ := hb
    exact ⟨ces, clock, h1, h2, VRL.join hj g3 h3, VRL.join hj g4 h4⟩

section
variable {T : Tab} {base : Nat} {w0 : World} {X : Nat → Prop} {ι : Io} {h : H} {w : World}
theorem push_get' (h : H) (b : Blk) (j : Nat) : (h.push b).get j = if j = h.next then some b else h.get j := by
  by_cases e : j = h.next
  · subst e; simp [H.push]
  · rw [if_neg e]
    show cond (Nat.beq j h.next) (some b) (h.get j) = _
    rw [beq_ne e]; rfl
/-- told of, not made yet -/
theorem HR.reserve (R : HR T base w0 X ι h w) (b : Blk) : HR T base w0 (fun i => X i ∨ i = h.next) ι (h.push b) w := by
  have hg : ∀ i c, ¬ (X i ∨ i = h.next) → (h.push b).get i = some c → ¬ X i ∧ h.get i = some c := by
    intro i c hx hc
    rw [push_get', if_neg (fun e => hx (.inr e))] at hc
    exact ⟨fun e => hx (.inl e), hc⟩
  refine ⟨R.size, R.old, fun i c hc => ?_, fun i c hx hc => ?_, fun i j c d hx hy hc hd => ?_, fun g i hi => ?_, R.env⟩
  · rw [push_get'] at hc
    show i < h.next + 1
    split at hc
    · omega
    · have := R.dom i c hc; omega
  · obtain ⟨hx, hc⟩ := hg i c hx hc
    refine (R.blk i c hx hc).mono (fun _ _ => rfl) (fun j hj => ⟨Nat.lt_succ_of_lt hj.1, fun e => ?_⟩) rfl
    rcases e with e | e
    · exact hj.2 e
    · have := hj.1; omega
  · obtain ⟨hx, hc⟩ := hg i c hx hc
    obtain ⟨hy, hd⟩ := hg j d hy hd
    exact R.inj i j c d hx hy hc hd
  · obtain ⟨h1, h2, h3⟩ := R.glob g i hi
    refine ⟨Nat.lt_succ_of_lt h1, fun e => ?_, h3⟩
    rcases e with e | e
    · exact h2 e
    · omega
/-- made now -/
theorem HR.claim (R : HR T base w0 X ι h w) {id : Nat} {cs : List V} {ι' : Io} {w' : World} (hid : X id) (hX : ∀ i, X i → i < h.next) (hb : h.get id = some (.cells cs true)) (hf : cs.all flatV = true)
    (R' : HR T base w0 X ι' (h.push (.cells cs true)) w') (hι : ∀ i, i < h.next → ι' i = ι i) : HR T base w0 (fun i => X i ∧ i ≠ id) (fun i => if i = id then ι' h.next else ι' i) h w' := by
  have hlt := hX id hid
  have hxn : ¬ X h.next := fun hx => absurd (hX _ hx) (Nat.lt_irrefl _)
  have hnew : (h.push (.cells cs true)).get h.next = some (.cells cs true) := by rw [push_get', if_pos rfl]
  have hold : ∀ i c, h.get i = some c → (h.push (.cells cs true)).get i = some c := by
    intro i c hc
    rw [push_get', if_neg (by have := R.dom i c hc; omega)]; exact hc
  have hj : ∀ i, i < h.next ∧ ¬ X i → (if i = id then ι' h.next else ι' i) = ι' i ∧ (i < h.next ∧ ¬ (X i ∧ i ≠ id)) := by
    intro i hi
    refine ⟨if_neg (fun (e : i = id) => hi.2 (by rw [e]; exact hid)), hi.1, fun e => hi.2 e.1⟩
  -- the place that a number stands for behind the step
  have look : ∀ i c, ¬ (X i ∧ i ≠ id) → h.get i = some c → ∃ k, ¬ X k ∧ (h.push (.cells cs true)).get k = some c ∧ (if i = id then ι' h.next else ι' i) = ι' k ∧ (i = id ∧ k = h.next ∨ i ≠ id ∧ k = i ∧ ¬ X i) := by
    intro i c hx hc
    by_cases e : i = id
    · subst e
      rw [hb] at hc
      cases hc
      exact ⟨h.next, hxn, hnew, if_pos rfl, .inl ⟨rfl, rfl⟩⟩
    · have hx' : ¬ X i := fun h => hx ⟨h, e⟩
      exact ⟨i, hx', hold i c hc, if_neg e, .inr ⟨e, rfl, hx'⟩⟩
  refine ⟨R'.size, R'.old, R.dom, fun i c hx hc => ?_, fun i j c d hx hy hc hd ho1 ho2 hcb => ?_, fun g i hi => ?_, R'.env⟩
  · obtain ⟨k, hk, hkc, hik, hcase⟩ := look i c hx hc
    show BlkR _ _ base w' (if i = id then ι' h.next else ι' i) c
    rw [hik]
    have hR' := R'.blk k c hk hkc
    rcases hcase with ⟨e, ek⟩ | ⟨e, ek, hx'⟩
    · subst e
      rw [hb] at hc
      cases hc
      obtain ⟨arr, elem, lo, hi, h1, h2, h3, h4, h5⟩ := hR'
      exact ⟨arr, elem, lo, hi, h1, h2, h3.flat hf, h4, h5⟩
    · exact BlkR.join hj (R.blk i c hx' hc) hR'
  · obtain ⟨k, hk, hkc, hik, hcase⟩ := look i c hx hc
    obtain ⟨l, hl, hld, hjl, hcase'⟩ := look j d hy hd
    have hcb' : (if i = id then ι' h.next else ι' i).cb = (if j = id then ι' h.next else ι' j).cb := hcb
    rw [hik, hjl] at hcb'
    have := R'.inj k l c d hk hl hkc hld ho1 ho2 hcb'
    subst this
    rcases hcase with ⟨e, ek⟩ | ⟨e, ek, _⟩ <;> rcases hcase' with ⟨e', ek'⟩ | ⟨e', ek', _⟩
    · rw [e, e']
    · exfalso; have := R.dom j d hd; omega
    · exfalso; have := R.dom i c hc; omega
    · rw [← ek, ← ek']
  · obtain ⟨h1, h2, h3, h4⟩ := R.glob g i hi
    obtain ⟨g1, g2, g3, g4⟩ := R'.glob g i hi
    have hne : i ≠ id := fun e => h2 (e ▸ hid)
    refine ⟨h1, fun e => h2 e.1, ?_, ?_⟩
    · show (if i = id then ι' h.next else ι' i).cb = g; rw [if_neg hne]; exact g3
    · show (if i = id then ι' h.next else ι' i).sh = 0; rw [if_neg hne]; exact g4

/-- what a region has done so far -/
structure WentX (X : Nat → Prop) (ι₀ : Io) (h₀ : H) (w₁ : World) (ι : Io) (h : H) (w : World) : Prop where
  ext : ∀ i, i < h₀.next → ι i = ι₀ i
  next : h₀.next ≤ h.next
  size : w₁.heap.size ≤ w.heap.size
  kept : ∀ b, b < w₁.heap.size → (∀ i c, h₀.get i = some c → c.own = true → (ι₀ i).cb ≠ b) → w.heap[b]? = w₁.heap[b]?
  org : ∀ i c, ¬ X i → h.get i = some c → c.own = true → w₁.heap.size ≤ (ι i).cb ∨ ∃ j d, h₀.get j = some d ∧ d.own = true ∧ (ι₀ j).cb = (ι i).cb
variable {ι₀ : Io} {h₀ : H} {w₁ : World}
theorem WentX.of {Y : Nat → Prop} (hY : ∀ i, ¬ Y i) (W : Went Y ι₀ h₀ w₁ ι h w) : WentX X ι₀ h₀ w₁ ι h w :=
  ⟨W.ext, W.next, W.size, fun b hb hn => W.kept b hb fun i c _ hc ho => hn i c hc ho, fun i c _ hc ho => (W.org i c (hY i) hc ho).imp id fun ⟨j, d, _, h2⟩ => ⟨j, d, h2⟩⟩
theorem WentX.to {Y : Nat → Prop} (hY : ∀ i, ¬ Y i) (hX : ∀ i, ¬ X i) (W : WentX X ι₀ h₀ w₁ ι h w) : Went Y ι₀ h₀ w₁ ι h w :=
  ⟨W.ext, W.next, fun i hi => absurd hi (hY i), W.size, fun b hb hn => W.kept b hb fun i c hc ho => hn i c (hY i) hc ho, fun i c _ hc ho => (W.org i c (hX i) hc ho).imp id fun ⟨j, d, h2⟩ => ⟨j, d, hY j, h2⟩⟩
theorem WentX.trans {ι' : Io} {h' : H} {w' : World} (W : WentX X ι₀ h₀ w₁ ι h w) (V : Went X ι h w ι' h' w') : WentX X ι₀ h₀ w₁ ι' h' w' := by
  refine ⟨fun i hi => ?_, Nat.le_trans W.next V.next, Nat.le_trans W.size V.size, fun b hb hn => ?_, fun i c hx hc ho => ?_⟩
  · rw [V.ext i (Nat.lt_of_lt_of_le hi W.next), W.ext i hi]
  · rw [V.kept b (Nat.lt_of_lt_of_le hb W.size) ?_, W.kept b hb hn]
    intro i c hx hc ho he
    rcases W.org i c hx hc ho with hge | ⟨j, d, hj, hd, hcb⟩
    · omega
    · exact hn j d hj hd (by rw [hcb, he])
  · rcases V.org i c hx hc ho with hge | ⟨j, d, hj, hd, ho', hcb⟩
    · exact .inl (Nat.le_trans W.size hge)
    · rcases W.org j d hj hd ho' with hge | ⟨l, f, hl, hof, hcb'⟩
      · exact .inl (by rw [← hcb]; exact hge)
      · exact .inr ⟨l, f, hl, hof, by rw [hcb', hcb]⟩
theorem WentX.reserve (W : WentX X ι₀ h₀ w₁ ι h w) (b : Blk) : WentX (fun i => X i ∨ i = h.next) ι₀ h₀ w₁ ι (h.push b) w := by
  refine ⟨W.ext, Nat.le_succ_of_le W.next, W.size, W.kept, fun i c hx hc ho => ?_⟩
  rw [push_get', if_neg (fun e => hx (.inr e))] at hc
  exact W.org i c (fun e => hx (.inl e)) hc ho
theorem WentX.claim (W : WentX X ι₀ h₀ w₁ ι h w) {id : Nat} {cs : List V} {ι' : Io} {w' : World} (hid : X id) (hX : ∀ i, X i → i < h.next) (h0 : h₀.next ≤ id) (hb : h.get id = some (.cells cs true)) (hd : ∀ i c, h.get i = some c → i < h.next)
    (V : Went X ι h w ι' (h.push (.cells cs true)) w') : WentX (fun i => X i ∧ i ≠ id) ι₀ h₀ w₁ (fun i => if i = id then ι' h.next else ι' i) h w' := by
  have W' := W.trans V
  refine ⟨fun i hi => ?_, W.next, W'.size, W'.kept, fun i c hx hc ho => ?_⟩
  · show (if i = id then ι' h.next else ι' i) = ι₀ i
    rw [if_neg (by omega)]; exact W'.ext i hi
  · have hxn : ¬ X h.next := fun hx => absurd (hX _ hx) (Nat.lt_irrefl _)
    by_cases e : i = id
    · subst e
      rw [hb] at hc
      cases hc
      have := W'.org h.next (.cells cs true) hxn (by rw [push_get', if_pos rfl]) rfl
      show _ ≤ (if i = i then ι' h.next else ι' i).cb ∨ ∃ j d, _ ∧ _ ∧ _ = (if i = i then ι' h.next else ι' i).cb
      rw [if_pos rfl]; exact this
    · have hx' : ¬ X i := fun h => hx ⟨h, e⟩
      have := W'.org i c hx' (by rw [push_get', if_neg (by have := hd i c hc; omega)]; exact hc) ho
      show _ ≤ (if i = id then ι' h.next else ι' i).cb ∨ ∃ j d, _ ∧ _ ∧ _ = (if i = id then ι' h.next else ι' i).cb
      rw [if_neg e]; exact this
end
end Go.Ab
