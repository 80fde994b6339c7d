/-
  THE ABSTRACT MACHINE AGAINST THE MODEL: which values and worlds stand for which.
-/
import Derived.Test.YtkfoohgkbafafaaAb1
import Derived.WalkKit
set_option linter.unusedVariables false
set_option linter.unusedSimpArgs false
namespace Go.Ab

/-- Where a block lies: the concrete block, its first cell there, how many cells there are from it on. -/
structure Pl where
  cb : Nat
  sh : Nat
  tot : Nat
abbrev Io := Nat → Pl
def Ad.to (ι : Io) (a : Ad) : Addr := ⟨(ι a.id).cb, (ι a.id).sh + a.off, none⟩

/-- A slice that begins at a cell, against a concrete one. -/
def SlR (ι : Io) (ok : Nat → Prop) (s : Sl) (x : Value) : Prop :=
  match s.ad with
  | none => s = Sl.nil ∧ x = .slice none 0 0
  | some a => ok a.id ∧ ∃ (b : Addr) (c : Nat), x = .slice (some b) s.len c ∧ (c = 0 ∨ b = a.to ι) ∧ s.len ≤ s.cap ∧
      match s.loose with
      | none => c = s.cap
      | some e => s.cap ≤ c ∧ a.off + c * e = (ι a.id).tot

mutual
def VR (ι : Io) (ok : Nat → Prop) : V → Value → Prop
  | .undef, _ => True
  | .bool b, x => x = .bool b
  | .int k n, x => x = .int k n
  | .str s, x => ∃ b : ByteArray, x = .string b ∧ b.data.toList = s
  | .ptr none, x => x = .pointer none
  | .ptr (some a), x => ok a.id ∧ x = .pointer (some (a.to ι))
  | .slice s, x => SlR ι ok s x
  | .map none, x => x = .map none
  | .map (some r), x => ok r ∧ x = .map (some (ι r).cb)
  | .func f first cap, x => ∃ a b : Array Value, x = .func (.func f) a b ∧ VRL ι ok first a.toList ∧ VRL ι ok cap b.toList
  | .nilFunc, x => x = .nilFunc
  | .iface t v, x => ∃ y, x = .iface t y ∧ VR ι ok v y
  | .nilIface, x => x = .nilIface
  | .agg cs, x => ∃ a : Array Value, x = .agg a ∧ VRL ι ok cs a.toList
  | .tuple vs, x => ∃ a : Array Value, x = .tuple a ∧ VRL ι ok vs a.toList
def VRL (ι : Io) (ok : Nat → Prop) : List V → List Value → Prop
  | [], [] => True
  | v :: vs, x :: xs => VR ι ok v x ∧ VRL ι ok vs xs
  | _, _ => False
end

section
variable {ι ι' : Io} {ok ok' : Nat → Prop}

theorem SlR.mono (hι : ∀ i, ok i → ι' i = ι i) (hok : ∀ i, ok i → ok' i) {s : Sl} {x : Value} (h : SlR ι ok s x) : SlR ι' ok' s x := by
  unfold SlR at *
  cases hs : s.ad with
  | none => simp only [hs] at h ⊢; exact h
  | some a =>
    simp only [hs] at h ⊢
    obtain ⟨ha, b, c, hx, hb, hl, hc⟩ := h
    refine ⟨hok _ ha, b, c, hx, ?_, hl, ?_⟩
    · rcases hb with hb | hb
      · exact .inl hb
      · exact .inr (by rw [hb]; simp [Ad.to, hι _ ha])
    · cases hl : s.loose with
      | none => simp only [hl] at hc ⊢; exact hc
      | some e => simp only [hl] at hc ⊢; rw [hι _ ha]; exact hc

mutual
theorem VR.mono (hι : ∀ i, ok i → ι' i = ι i) (hok : ∀ i, ok i → ok' i) : ∀ {v : V} {x : Value}, VR ι ok v x → VR ι' ok' v x
  | .undef, _, _ => trivial
  | .bool _, _, h => h
  | .int _ _, _, h => h
  | .str _, _, h => h
  | .ptr none, _, h => h
  | .ptr (some a), _, h => ⟨hok _ h.1, by rw [h.2]; simp [Ad.to, hι _ h.1]⟩
  | .slice _, _, h => SlR.mono hι hok h
  | .map none, _, h => h
  | .map (some r), _, h => ⟨hok _ h.1, by rw [h.2, hι _ h.1]⟩
  | .func _ _ _, _, ⟨a, b, hx, ha, hb⟩ => ⟨a, b, hx, VRL.mono hι hok ha, VRL.mono hι hok hb⟩
  | .nilFunc, _, h => h
  | .iface _ _, _, ⟨y, hx, hy⟩ => ⟨y, hx, VR.mono hι hok hy⟩
  | .nilIface, _, h => h
  | .agg _, _, ⟨a, hx, ha⟩ => ⟨a, hx, VRL.mono hι hok ha⟩
  | .tuple _, _, ⟨a, hx, ha⟩ => ⟨a, hx, VRL.mono hι hok ha⟩
theorem VRL.mono (hι : ∀ i, ok i → ι' i = ι i) (hok : ∀ i, ok i → ok' i) : ∀ {vs : List V} {xs : List Value}, VRL ι ok vs xs → VRL ι' ok' vs xs
  | [], [], _ => trivial
  | _ :: _, _ :: _, ⟨h, hr⟩ => ⟨VR.mono hι hok h, VRL.mono hι hok hr⟩
  | [], _ :: _, h => h.elim
  | _ :: _, [], h => h.elim
end

theorem VRL.length : ∀ {vs : List V} {xs : List Value}, VRL ι ok vs xs → vs.length = xs.length
  | [], [], _ => rfl
  | _ :: _, _ :: _, h => by simp [VRL.length h.2]
  | [], _ :: _, h => h.elim
  | _ :: _, [], h => h.elim
theorem VRL.get : ∀ {vs : List V} {xs : List Value}, VRL ι ok vs xs → ∀ {i : Nat} {v : V}, vs[i]? = some v → ∃ x, xs[i]? = some x ∧ VR ι ok v x
  | [], _, _, i, v, h => by simp at h
  | v :: vs, x :: xs, h, 0, u, hu => by simp at hu; subst hu; exact ⟨x, rfl, h.1⟩
  | v :: vs, x :: xs, h, i + 1, u, hu => by simp at hu ⊢; exact VRL.get h.2 hu
  | _ :: _, [], h, _, _, _ => h.elim
theorem VRL.append : ∀ {vs ws : List V} {xs ys : List Value}, VRL ι ok vs xs → VRL ι ok ws ys → VRL ι ok (vs ++ ws) (xs ++ ys)
  | [], _, [], _, _, h => h
  | _ :: _, _, _ :: _, _, h, g => ⟨h.1, VRL.append h.2 g⟩
  | [], _, _ :: _, _, h, _ => h.elim
  | _ :: _, _, [], _, h, _ => h.elim
theorem VRL.drop : ∀ {vs : List V} {xs : List Value} (n : Nat), VRL ι ok vs xs → VRL ι ok (vs.drop n) (xs.drop n)
  | _, _, 0, h => h
  | [], [], _ + 1, _ => trivial
  | _ :: _, _ :: _, n + 1, h => VRL.drop n h.2
  | [], _ :: _, _ + 1, h => h.elim
  | _ :: _, [], _ + 1, h => h.elim
theorem VRL.take : ∀ {vs : List V} {xs : List Value} (n : Nat), VRL ι ok vs xs → VRL ι ok (vs.take n) (xs.take n)
  | _, _, 0, _ => by simp [VRL]
  | [], [], _ + 1, _ => trivial
  | _ :: _, _ :: _, n + 1, h => ⟨h.1, VRL.take n h.2⟩
  | [], _ :: _, _ + 1, h => h.elim
  | _ :: _, [], _ + 1, h => h.elim
theorem VRL.over {cs vs : List V} {xs ys : List Value} (off : Nat) (h : VRL ι ok cs xs) (g : VRL ι ok vs ys) :
    VRL ι ok (over cs off vs) (xs.take off ++ (ys ++ xs.drop (off + ys.length))) := by
  unfold Ab.over
  rw [← g.length]
  exact (h.take off).append (g.append (h.drop _))
theorem VRL.of_get : ∀ {vs : List V} {xs : List Value}, vs.length = xs.length → (∀ (i : Nat) (v : V), vs[i]? = some v → ∃ x : Value, xs[i]? = some x ∧ VR ι ok v x) → VRL ι ok vs xs
  | [], [], _, _ => trivial
  | v :: vs, x :: xs, hl, h => by
    refine ⟨?_, VRL.of_get (by simpa using hl) fun i v hv => ?_⟩
    · obtain ⟨y, hy, hr⟩ := h 0 v rfl
      simp at hy; subst hy; exact hr
    · obtain ⟨y, hy, hr⟩ := h (i + 1) v (by simpa using hv)
      exact ⟨y, by simpa using hy, hr⟩
  | [], _ :: _, hl, _ => by simp at hl
  | _ :: _, [], hl, _ => by simp at hl

theorem VR.oneCell {v : V} {x : Value} (hv : oneV v = true) (h : VR ι ok v x) : x.oneCell' = true := by
  cases v with
  | undef => simp [oneV] at hv
  | agg _ => simp [oneV] at hv
  | tuple _ => simp [oneV] at hv
  | ptr a => cases a with
    | none => rw [show x = _ from h]; rfl
    | some a => rw [h.2]; rfl
  | map r => cases r with
    | none => rw [show x = _ from h]; rfl
    | some a => rw [h.2]; rfl
  | slice s =>
    unfold VR SlR at h
    split at h
    · rw [h.2]; rfl
    · obtain ⟨_, b, c, hx, _⟩ := h
      rw [hx]; rfl
  | str s => obtain ⟨b, rfl, _⟩ := h; rfl
  | func _ _ _ => obtain ⟨_, _, rfl, _⟩ := h; rfl
  | iface _ _ => obtain ⟨_, rfl, _⟩ := h; rfl
  | bool _ => rw [show x = _ from h]; rfl
  | int _ _ => rw [show x = _ from h]; rfl
  | nilFunc => rw [show x = _ from h]; rfl
  | nilIface => rw [show x = _ from h]; rfl

/-- a value's cells -/
theorem VR.cells {v : V} {x : Value} (hv : v.cells.all oneV = true) (h : VR ι ok v x) : VRL ι ok v.cells x.cells.toList := by
  by_cases ha : ∃ cs, v = .agg cs
  · obtain ⟨cs, rfl⟩ := ha
    obtain ⟨a, rfl, ha⟩ := h
    exact ha
  · have hc : v.cells = [v] := by cases v <;> first | rfl | exact absurd ⟨_, rfl⟩ ha
    rw [hc] at hv ⊢
    have h1 : oneV v = true := by simpa using hv
    have h2 := h.oneCell h1
    have : x.cells = #[x] := by cases x <;> first | rfl | simp [Value.oneCell'] at h2
    rw [this]
    exact ⟨h, trivial⟩
end

/-! ### worlds -/
/-- A block against the heap. -/
def BlkR (ι : Io) (ok : Nat → Prop) (base : Nat) (w : World) (p : Pl) : Blk → Prop
  | .cells cs own => ∃ (arr : Array Value) (elem : TypeId) (lo hi : Nat), w.heap[p.cb]? = some (.cells arr elem (lo, hi)) ∧ p.sh + cs.length ≤ arr.size ∧
      VRL ι ok cs ((arr.toList.drop p.sh).take cs.length) ∧ cs.all oneV = true ∧
      (own = true → base ≤ p.cb ∧ p.sh + p.tot = arr.size ∧ (lo = hi ∨ arr.size ≤ lo)) ∧ (own = false → p.cb < base)
  | .map es => ∃ (ces : Array MapEntry) (clock : Nat), w.heap[p.cb]? = some (.map ces clock) ∧ base ≤ p.cb ∧
      VRL ι ok (es.map (·.1)) (ces.toList.map (·.key)) ∧ VRL ι ok (es.map (·.2)) (ces.toList.map (·.val))

def Blk.own : Blk → Bool
  | .cells _ b => b
  | .map _ => true

/-- The heap 'h', laid into the world 'w' by 'ι'; the ids of 'X' are left out; below 'base' all is as in 'w0'. -/
structure HR (T : Tab) (base : Nat) (w0 : World) (X : Nat → Prop) (ι : Io) (h : H) (w : World) : Prop where
  size : base ≤ w.heap.size
  old : ∀ b, b < base → w.heap[b]? = w0.heap[b]?
  dom : ∀ i b, h.get i = some b → i < h.next
  blk : ∀ i b, ¬ X i → h.get i = some b → BlkR ι (fun i => i < h.next ∧ ¬ X i) base w (ι i) b
  inj : ∀ i j b c, ¬ X i → ¬ X j → h.get i = some b → h.get j = some c → b.own = true → c.own = true → (ι i).cb = (ι j).cb → i = j
  glob : ∀ g i, T.glob g = some i → i < h.next ∧ ¬ X i ∧ (ι i).cb = g ∧ (ι i).sh = 0
  env : w.os = w0.os ∧ w.tape = w0.tape ∧ w.output = w0.output

/-- What a step has done: 'ι' goes on as 'ι'', nothing but own blocks was written, what is left out is as it was. -/
structure Went (X : Nat → Prop) (ι : Io) (h : H) (w : World) (ι' : Io) (h' : H) (w' : World) : Prop where
  ext : ∀ i, i < h.next → ι' i = ι i
  next : h.next ≤ h'.next
  out : ∀ i, X i → h'.get i = h.get i
  size : w.heap.size ≤ w'.heap.size
  kept : ∀ b, b < w.heap.size → (∀ i c, ¬ X i → h.get i = some c → c.own = true → (ι i).cb ≠ b) → w'.heap[b]? = w.heap[b]?
  org : ∀ i c, ¬ X i → h'.get i = some c → c.own = true → w.heap.size ≤ (ι' i).cb ∨ ∃ j d, ¬ X j ∧ h.get j = some d ∧ d.own = true ∧ (ι j).cb = (ι' i).cb

theorem Went.refl (X : Nat → Prop) (ι : Io) (h : H) (w : World) : Went X ι h w ι h w :=
  ⟨fun _ _ => rfl, Nat.le_refl _, fun _ _ => rfl, Nat.le_refl _, fun _ _ _ => rfl, fun i c hx hc ho => .inr ⟨i, c, hx, hc, ho, rfl⟩⟩

theorem Went.trans {X : Nat → Prop} {ι ι₁ ι₂ : Io} {h h₁ h₂ : H} {w w₁ w₂ : World} (a : Went X ι h w ι₁ h₁ w₁) (b : Went X ι₁ h₁ w₁ ι₂ h₂ w₂) :
    Went X ι h w ι₂ h₂ w₂ := by
  refine ⟨fun i hi => ?_, Nat.le_trans a.next b.next, fun i hx => ?_, Nat.le_trans a.size b.size, fun c hc hn => ?_, fun i c hx hc ho => ?_⟩
  · rw [b.ext i (Nat.lt_of_lt_of_le hi a.next), a.ext i hi]
  · rw [b.out i hx, a.out i hx]
  · rw [b.kept c (Nat.lt_of_lt_of_le hc a.size) ?_, a.kept c hc hn]
    intro i d hx hd ho he
    rcases a.org i d hx hd ho with hge | ⟨j, e, hj, he', ho', hcb⟩
    · omega
    · exact hn j e hj he' ho' (by rw [hcb, he])
  · rcases b.org i c hx hc ho with hge | ⟨j, e, hj, he', ho', hcb⟩
    · exact .inl (Nat.le_trans a.size hge)
    · rcases a.org j e hj he' ho' with hge | ⟨l, f, hl, hf, hof, hcb'⟩
      · exact .inl (by rw [← hcb]; exact hge)
      · exact .inr ⟨l, f, hl, hf, hof, by rw [hcb', hcb]⟩

section
variable {T : Tab} {base : Nat} {w0 : World} {X : Nat → Prop} {ι : Io} {h : H} {w : World}

def HR.ok (_ : HR T base w0 X ι h w) : Nat → Prop := fun i => i < h.next ∧ ¬ X i

/-! #### reading -/
theorem HR.row (R : HR T base w0 X ι h w) {a : Ad} {n : Nat} {cs : List V} (ha : ¬ X a.id) (hc : h.row a n = some cs) :
    ∃ (arr : Array Value) (elem : TypeId) (fr : Nat × Nat), w.heap[(ι a.id).cb]? = some (.cells arr elem fr) ∧ (ι a.id).sh + a.off + n ≤ arr.size ∧
      VRL ι (fun i => i < h.next ∧ ¬ X i) cs ((arr.toList.drop ((ι a.id).sh + a.off)).take n) ∧ cs.all oneV = true ∧ cs.length = n := by
  unfold H.row at hc
  split at hc
  · rename_i bs own hb
    cases hle : Nat.ble (a.off + n) bs.length with
    | false => rw [hle] at hc; simp at hc
    | true =>
      rw [hle] at hc
      have hle' : a.off + n ≤ bs.length := Nat.le_of_ble_eq_true hle
      simp only [cond_true, Option.some.injEq] at hc
      subst hc
      obtain ⟨arr, elem, lo, hi, harr, hsz, hv, hone, _⟩ := R.blk a.id _ ha hb
      refine ⟨arr, elem, (lo, hi), harr, by omega, ?_, ?_, by simp; omega⟩
      · have h1 := (hv.drop a.off).take n
        rw [List.drop_take, List.take_take, List.drop_drop] at h1
        rw [show min n (bs.length - a.off) = n by omega] at h1
        exact h1
      · rw [List.all_eq_true] at hone ⊢
        intro v hv
        exact hone v (List.mem_of_mem_drop (List.mem_of_mem_take hv))
  · cases hc
theorem HR.cell (R : HR T base w0 X ι h w) {a : Ad} {v : V} (ha : ¬ X a.id) (hc : h.cell a = some v) :
    ∃ x, w.cell? (a.to ι) = some x ∧ VR ι (fun i => i < h.next ∧ ¬ X i) v x ∧ oneV v = true := by
  unfold H.cell at hc
  split at hc
  · rename_i cs own hb
    obtain ⟨arr, elem, lo, hi, harr, hsz, hv, hone, _⟩ := R.blk a.id _ ha hb
    obtain ⟨x, hx, hr⟩ := hv.get hc
    refine ⟨x, ?_, hr, ?_⟩
    · have hlt : a.off < cs.length := by
        rcases Nat.lt_or_ge a.off cs.length with h | h
        · exact h
        · rw [List.getElem?_eq_none h] at hc; cases hc
      rw [List.getElem?_take_of_lt hlt, List.getElem?_drop] at hx
      simp only [World.cell?, Ad.to, harr, Option.isSome_none, Bool.false_eq_true, if_false]
      rw [← Array.getElem?_toList]; exact hx
    · rw [List.all_eq_true] at hone
      exact hone v (List.mem_of_getElem? hc)
  · cases hc
end

end Go.Ab
