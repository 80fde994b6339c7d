/-
  THE ABSTRACT MACHINE: how its words run.
-/
import Derived.Test.YtkfoohgkbafafaaAb16
set_option linter.unusedVariables false
set_option linter.unusedSimpArgs false
namespace Go.Ab
section
variable {α : Type} {h : H}

theorem w64_eq {n : Int} (h1 : -9223372036854775808 ≤ n) (h2 : n ≤ 9223372036854775807) : w64 n = n := by
  unfold w64
  rw [IntKind.wrap_i64]
  omega

/-! ### heaps -/
theorem push_get (b : Blk) (j : Nat) : (h.push b).get j = if j = h.next then some b else h.get j := by
  show cond (Nat.beq j h.next) (some b) (h.get j) = _
  by_cases e : j = h.next
  · subst e; simp
  · rw [beq_ne e, if_neg e]; rfl
theorem push_next (b : Blk) : (h.push b).next = h.next + 1 := rfl
theorem put_get_if (i : Nat) (b : Option Blk) (j : Nat) : (h.put i b).get j = if j = i then b else h.get j := by
  by_cases e : j = i
  · subst e; rw [put_get, if_pos rfl]
  · rw [put_ne h b e, if_neg e]
theorem put_next (i : Nat) (b : Option Blk) : (h.put i b).next = h.next := rfl
/-- older memory is as it was -/
def Ext (h h' : H) : Prop := h.next ≤ h'.next ∧ ∀ i, i < h.next → h'.get i = h.get i
theorem Ext.refl (h : H) : Ext h h := ⟨Nat.le_refl _, fun _ _ => rfl⟩
theorem Ext.trans {a b c : H} (x : Ext a b) (y : Ext b c) : Ext a c :=
  ⟨Nat.le_trans x.1 y.1, fun i hi => by rw [y.2 i (Nat.lt_of_lt_of_le hi x.1), x.2 i hi]⟩
theorem Ext.push {a b : H} (x : Ext a b) (k : Blk) : Ext a (b.push k) :=
  ⟨by rw [push_next]; have := x.1; omega, fun i hi => by rw [push_get, if_neg (by have := x.1; omega)]; exact x.2 i hi⟩
theorem Ext.put {a b : H} (x : Ext a b) {i : Nat} (k : Option Blk) (hi : a.next ≤ i) : Ext a (b.put i k) :=
  ⟨x.1, fun j hj => by rw [put_get_if, if_neg (by omega)]; exact x.2 j hj⟩

/-! ### words -/
theorem need_run {b : Bool} {K : M α} (hb : b = true) : need b K h = K h := by subst hb; rfl
theorem new_run {cs : List V} {K : Ad → M α} (hc : cs.all oneV = true) : new cs K h = K ⟨h.next, 0⟩ (h.push (.cells cs true)) := by
  unfold new; rw [need_run hc]
theorem cell_of {a : Ad} {cs : List V} {o : Bool} (hg : h.get a.id = some (.cells cs o)) : h.cell a = cs[a.off]? := by unfold H.cell; rw [hg]
theorem ld_run {a : Ad} {K : V → M α} {v : V} (hc : h.cell a = some v) : ld a K h = K v h := by unfold ld; rw [hc]
theorem ldI_run {a : Ad} {k : IntKind} {K : Int → M α} {n : Int} (hc : h.cell a = some (.int k n)) : ldI k a K h = K n h := by
  unfold ldI
  rw [ld_run hc]
  cases k <;> rfl
theorem ldB_run {a : Ad} {K : Bool → M α} {n : Bool} (hc : h.cell a = some (.bool n)) : ldB a K h = K n h := by unfold ldB; rw [ld_run hc]; rfl
theorem ldStr_run {a : Ad} {K : List UInt8 → M α} {n : List UInt8} (hc : h.cell a = some (.str n)) : ldStr a K h = K n h := by unfold ldStr; rw [ld_run hc]; rfl
theorem ldP_run {a : Ad} {K : Option Ad → M α} {n : Option Ad} (hc : h.cell a = some (.ptr n)) : ldP a K h = K n h := by unfold ldP; rw [ld_run hc]; rfl
theorem ldS_run {a : Ad} {K : Sl → M α} {n : Sl} (hc : h.cell a = some (.slice n)) : ldS a K h = K n h := by unfold ldS; rw [ld_run hc]; rfl
theorem st1_run {a : Ad} {v : V} {K : M α} {cs : List V} (hg : h.get a.id = some (.cells cs true)) (ho : oneV v = true) (hl : a.off < cs.length) :
    st1 a v K h = K (h.put a.id (some (.cells (cs.set a.off v) true))) := by
  unfold st1 H.setCell
  rw [hg]
  simp only [ho, Bool.true_and, show Nat.blt a.off cs.length = true from Nat.ble_eq_true_of_le hl, cond_true]
theorem put_push (b c : Blk) : (h.push b).put h.next (some c) = h.push c := by
  unfold H.put H.push
  simp only [H.mk.injEq, true_and]
  funext j
  cases Nat.beq j h.next <;> rfl
theorem push_put (b : Blk) {i : Nat} (k : Option Blk) (hi : i < h.next) : (h.push b).put i k = (h.put i k).push b := by
  unfold H.put H.push
  simp only [H.mk.injEq, true_and]
  funext j
  by_cases e : j = h.next
  · subst e
    rw [beq_ne (show h.next ≠ i by omega)]
    simp
  · rw [beq_ne e]; rfl
/-- a store into the newest block -/
theorem st1_new {cs : List V} {i : Nat} {v : V} {K : M α} (ho : oneV v = true) (hl : i < cs.length) :
    st1 ⟨h.next, i⟩ v K (h.push (.cells cs true)) = K (h.push (.cells (cs.set i v) true)) := by
  rw [st1_run (cs := cs) (by rw [push_get, if_pos rfl]) ho hl, put_push]
/-- .. into the one before it -/
theorem st1_new2 {cs : List V} {i : Nat} {v : V} {K : M α} {b : Blk} (ho : oneV v = true) (hl : i < cs.length) :
    st1 ⟨h.next, i⟩ v K ((h.push (.cells cs true)).push b) = K ((h.push (.cells (cs.set i v) true)).push b) := by
  rw [st1_run (cs := cs) (by rw [push_get, if_neg (by rw [push_next]; show h.next ≠ _; omega), push_get, if_pos rfl]) ho hl]
  rw [push_put _ _ (by rw [push_next]; show h.next < _; omega), put_push]
theorem cell_new {cs : List V} {i : Nat} {o : Bool} : (h.push (.cells cs o)).cell ⟨h.next, i⟩ = cs[i]? := cell_of (by rw [push_get, if_pos rfl])
theorem cell_old {b : Blk} {a : Ad} (ha : a.id ≠ h.next) : (h.push b).cell a = h.cell a := by
  unfold H.cell; rw [push_get, if_neg ha]
theorem cell_new2 {cs : List V} {i : Nat} {o : Bool} {b : Blk} : ((h.push (.cells cs o)).push b).cell ⟨h.next, i⟩ = cs[i]? := by
  rw [cell_old (by rw [push_next]; show h.next ≠ _; omega), cell_new]
theorem add_mk (i n m : Nat) : (Ad.mk i n).add m = ⟨i, n + m⟩ := rfl
theorem idxStr_run {s : List UInt8} {i : Int} {K : Int → M α} {b : UInt8} {n : Nat} (hi : i = (n : Int)) (hb : s[n]? = some b) : idxStr s i K h = K (b.toNat : Int) h := by
  subst hi
  unfold idxStr
  rw [need_run (by simp), Int.toNat_natCast, hb]
theorem bnd_run {x : Int} {y n : Nat} {K : Nat → M α} (hx : x = (n : Int)) (hy : n ≤ y) : bnd x y K h = K n h := by
  subst hx
  unfold bnd
  rw [need_run (by simp), need_run (by simpa using hy), Int.toNat_natCast]
theorem cutStr_from {s : List UInt8} {x : Int} {n : Nat} {K : List UInt8 → M α} (hx : x = (n : Int)) (hn : n ≤ s.length) : cutStr s (some x) none K h = K (s.drop n) h := by
  unfold cutStr
  simp only
  rw [bnd_run hx hn, List.take_length]
theorem cutStr_both {s : List UInt8} {x y : Int} {n m : Nat} {K : List UInt8 → M α} (hx : x = (n : Int)) (hy : y = (m : Int)) (hn : n ≤ m) (hm : m ≤ s.length) : cutStr s (some x) (some y) K h = K ((s.take m).drop n) h := by
  unfold cutStr
  simp only
  rw [bnd_run hy hm, bnd_run hx hn]
theorem cutStr_to {s : List UInt8} {y : Int} {m : Nat} {K : List UInt8 → M α} (hy : y = (m : Int)) (hm : m ≤ s.length) : cutStr s none (some y) K h = K (s.take m) h := by
  unfold cutStr
  simp only
  rw [bnd_run hy hm]
theorem cond_if {β : Type} (p : Prop) [Decidable p] (a b : β) : cond (decide p) a b = if p then a else b := by
  by_cases hp : p <;> simp [hp]

/-! ### rows that grow -/
/-- a slice of the run's own: the cells that it holds -/
def Row (h : H) (s : Sl) (size : Nat) (cs : List V) : Prop :=
  (s = Sl.nil ∧ cs = []) ∨ ∃ id, s = ⟨some ⟨id, 0⟩, s.len, s.len, some size⟩ ∧ h.get id = some (.cells cs true) ∧ cs.length = s.len * size ∧ id < h.next
theorem Row.nil (h : H) (size : Nat) : Row h Sl.nil size [] := .inl ⟨rfl, rfl⟩
theorem Row.len {s : Sl} {size : Nat} {cs : List V} (r : Row h s size cs) : cs.length = s.len * size := by
  rcases r with ⟨rfl, rfl⟩ | ⟨_, _, _, hl, _⟩
  · simp [Sl.nil]
  · exact hl
theorem Row.ext {h' : H} {s : Sl} {size : Nat} {cs : List V} (r : Row h s size cs) (x : Ext h h') : Row h' s size cs := by
  rcases r with h1 | ⟨id, h1, h2, h3, h4⟩
  · exact .inl h1
  · exact .inr ⟨id, h1, by rw [x.2 id h4]; exact h2, h3, Nat.lt_of_lt_of_le h4 x.1⟩
theorem row_of {a : Ad} {cs : List V} {o : Bool} {n : Nat} (hg : h.get a.id = some (.cells cs o)) (hl : a.off + n ≤ cs.length) : h.row a n = some ((cs.drop a.off).take n) := by
  unfold H.row
  rw [hg]
  simp only [show Nat.ble (a.off + n) cs.length = true from Nat.ble_eq_true_of_le hl, cond_true]
theorem rdRow_run {a : Ad} {n : Nat} {K : List V → M α} {cs : List V} (hr : h.row a n = some cs) : rdRow a n K h = K cs h := by unfold rdRow; rw [hr]
/-- a slice's cells, as they are read -/
theorem Row.rd {s : Sl} {size : Nat} {cs : List V} {K : List V → M α} (r : Row h s size cs) : rdSl s size K h = K cs h := by
  unfold rdSl
  rcases r with ⟨rfl, rfl⟩ | ⟨id, h1, h2, h3, h4⟩
  · rfl
  · rw [h1]
    dsimp only
    rw [rdRow_run (row_of (a := ⟨id, 0⟩) h2 (by show 0 + _ ≤ _; omega))]
    simp [← h3]
/-- 'append(s, x...)' onto a row of one's own: n elements more -/
theorem appSl_run {s : Sl} {size bytes n : Nat} {cs more : List V} (r : Row h s size cs) (hm : more.length = n * size) (hn : 0 < n) (hb : 0 < bytes) (hr : (s.len + n + (s.len + n) / 4 + 512) * bytes ≤ 281474976710656) :
    ∃ h', (∀ (α : Type) (K : Sl → M α), appSl s size bytes n more K h = K ⟨some ⟨h.next, 0⟩, s.len + n, s.len + n, some size⟩ h') ∧ Row h' ⟨some ⟨h.next, 0⟩, s.len + n, s.len + n, some size⟩ size (cs ++ more) ∧
      h'.next = h.next + 1 ∧ ∀ i, i < h.next → (∀ a, s.ad = some a → i ≠ a.id) → h'.get i = h.get i := by
  have hlen := r.len
  have hbb : (Nat.blt 0 bytes && Nat.ble ((s.len + n + (s.len + n) / 4 + 512) * bytes) 281474976710656) = true := by
    rw [Bool.and_eq_true]; exact ⟨Nat.ble_eq_true_of_le hb, Nat.ble_eq_true_of_le hr⟩
  have hn0 : Nat.beq n 0 = false := beq_ne (by omega)
  have fin : ∀ (h1 : H), h1.next = h.next → Row (h1.push (.cells (cs ++ more) true)) ⟨some ⟨h.next, 0⟩, s.len + n, s.len + n, some size⟩ size (cs ++ more) := by
    intro h1 hn1
    refine .inr ⟨h.next, rfl, by rw [push_get, if_pos hn1.symm], by simp [hlen, hm, Nat.add_mul], by rw [push_next, hn1]; omega⟩
  have hm' : Nat.beq more.length (n * size) = true := by rw [hm]; exact Nat.beq_refl _
  rcases r with ⟨rfl, rfl⟩ | ⟨id, h1, h2, h3, h4⟩
  · refine ⟨_, fun α K => ?_, fin h rfl, rfl, fun i hi _ => by rw [push_get, if_neg (by omega)]⟩
    unfold appSl
    rw [need_run hm']
    simp only [Sl.nil] at hbb ⊢
    rw [show Nat.ble (0 + n) 0 = false by cases hq : Nat.ble (0 + n) 0 with | false => rfl | true => have := Nat.le_of_ble_eq_true hq; omega]
    simp only [cond_false]
    rw [need_run (by simpa using hbb)]
    rfl
  · have e1 : s.loose = some size := by rw [h1]
    have e2 : s.ad = some ⟨id, 0⟩ := by rw [h1]
    refine ⟨_, fun α K => ?_, fin (h.put id none) rfl, rfl, fun i hi hne => ?_⟩
    · unfold appSl
      rw [need_run hm', e1]
      dsimp only
      rw [hn0]
      simp only [cond_false]
      rw [need_run (Nat.beq_refl _), need_run hbb, e2]
      dsimp only
      rw [rdRow_run (row_of (a := ⟨id, 0⟩) h2 (by show 0 + _ ≤ _; omega))]
      have hown : h.own id = true := by unfold H.own; rw [h2]
      simp only [hown, cond_true, List.drop_zero]
      rw [← h3, List.take_length]
    · rw [push_get, if_neg (by show i ≠ h.next; omega), put_get_if, if_neg (hne ⟨id, 0⟩ e2)]
theorem idxSl_run {s : Sl} {id : Nat} {off : Nat} {i : Int} {n size : Nat} {K : Ad → M α} (hs : s.ad = some ⟨id, off⟩) (hi : i = (n : Int)) (hn : n < s.len) : idxSl s i size K h = K ⟨id, off + n * size⟩ h := by
  subst hi
  unfold idxSl asSome
  rw [hs]
  dsimp only
  rw [need_run (by simp), need_run (by simpa using hn), Int.toNat_natCast]
  rfl
/-- 'append(s, x...)' of one's own row, x being a row that is there -/
theorem appRow_run {s x : Sl} {size bytes : Nat} {cs more : List V} {a : Ad} (r : Row h s size cs) (hx : x.ad = some a) (hrow : h.row a (x.len * size) = some more) (hn : 0 < x.len) (hb : 0 < bytes)
    (hr : (s.len + x.len + (s.len + x.len) / 4 + 512) * bytes ≤ 281474976710656) :
    ∃ h', (∀ (α : Type) (K : Sl → M α), appRow s size bytes x K h = K ⟨some ⟨h.next, 0⟩, s.len + x.len, s.len + x.len, some size⟩ h') ∧ Row h' ⟨some ⟨h.next, 0⟩, s.len + x.len, s.len + x.len, some size⟩ size (cs ++ more) ∧
      h'.next = h.next + 1 ∧ ∀ i, i < h.next → (∀ a, s.ad = some a → i ≠ a.id) → h'.get i = h.get i := by
  obtain ⟨h', a1, a2⟩ := appSl_run (bytes := bytes) r (row_cell hrow).1 hn hb hr
  refine ⟨h', fun α K => ?_, a2⟩
  unfold appRow rdSl
  rw [hx]
  dsimp only
  rw [rdRow_run hrow]
  exact a1 α K
/-- a row, of memory that was made behind a heap -/
def Owned (h₀ : H) (s : Sl) : Prop := ∀ a, s.ad = some a → h₀.next ≤ a.id
theorem Owned.nil (h₀ : H) : Owned h₀ Sl.nil := fun _ h => by cases h
theorem Ext.app {h₀ h h' : H} {s : Sl} (x : Ext h₀ h) (o : Owned h₀ s) (hn : h'.next = h.next + 1) (hg : ∀ i, i < h.next → (∀ a, s.ad = some a → i ≠ a.id) → h'.get i = h.get i) : Ext h₀ h' :=
  ⟨by rw [hn]; have := x.1; omega, fun i hi => by
    rw [hg i (Nat.lt_of_lt_of_le hi x.1) (fun a ha => by have := o a ha; omega)]
    exact x.2 i hi⟩
end
end Go.Ab
