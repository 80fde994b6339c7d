import Derived.Test.YtkfoohgkbafafaaDoorAb20
import Derived.Shelf.Strings.Builder1
set_option linter.unusedVariables false
set_option linter.unusedSimpArgs false
namespace Go.Ab
open Go.Shelf Go.Proofs
section
variable {α : Type} {P : Program} {ρ : Ren} {T : Tab} {base : Nat} {w0 : World} {X : Nat → Prop} {ι : Io} {h : H} {w : World} {out : α}
def copyCheckF (t : Nat) (b : Ad) (ret : M α) : M α := fun h =>
  match h.get b.id with
  | some (.cellsT t' true [p, v]) => cond (Nat.beq t' t && Nat.beq b.off 0)
      (match p with
        | .ptr none => ret (h.put b.id (some (.cellsT t' true [.ptr (some b), v])))
        | .ptr (some c) => cond (Nat.beq c.id b.id && Nat.beq c.off 0) (ret h) none
        | _ => none) none
  | _ => none
theorem copyCheck_calls (L : Lays.n240 P ρ) (Y : Builder.X72 P ρ) (R : HR T base w0 X ι h w) {b : Ad} (hb : ¬ X b.id) {K : M α} (e : copyCheckF (ρ.t 72) b K h = some out) :
    Calls P (ρ.f 240) #[.pointer (some (b.to ι))] w fun z w' => ∃ h' ι', K h' = some out ∧ HR T base w0 X ι' h' w' ∧ Went X ι h w ι' h' w' ∧ z = .returned (.tuple #[]) := by
  unfold copyCheckF at e
  split at e
  · rename_i t' p v hg
    cases hc : (Nat.beq t' (ρ.t 72) && Nat.beq b.off 0) with
    | false => rw [hc] at e; cases e
    | true =>
      rw [hc] at e
      simp only [cond_true] at e
      rw [Bool.and_eq_true] at hc
      have ht : t' = ρ.t 72 := Nat.eq_of_beq_eq_true hc.1
      have hoff : b.off = 0 := Nat.eq_of_beq_eq_true hc.2
      subst ht
      obtain ⟨arr, harr, hsh, htot, ⟨hsz1, hsz0⟩, hv, hone, hbase⟩ := R.blk b.id _ hb hg
      have hsz := hsz0 rfl
      rw [List.take_of_length_le (by rw [Array.length_toList, hsz]; exact Nat.le_refl _)] at hv
      obtain ⟨i, o⟩ := b
      simp only at hoff hg hb harr hsh htot e ⊢
      subst hoff
      have hto : (⟨i, 0⟩ : Ad).to ι = ⟨(ι i).cb, 0, none⟩ := by simp [Ad.to, hsh]
      have hshape : w.shape? (ι i).cb = some (ρ.t 72, 2) := by simp [World.shape?, harr, hsz]
      have hfz : w.frozen? ⟨(ι i).cb, 0, none⟩ = false := by simp [World.frozen?, harr]
      obtain ⟨x, hx, hr⟩ := hv.get (i := 0) (v := p) rfl
      have hcell : w.cell? ⟨(ι i).cb, 0, none⟩ = some x := by
        simp only [World.cell?, harr, Option.isSome_none, Bool.false_eq_true, if_false]
        rw [← Array.getElem?_toList]; exact hx
      rw [hto]
      split at e
      · rw [show x = .pointer none from hr] at hcell
        refine (Any.Builder_copyCheck_fresh L Y (ι i).cb w hcell hshape hfz).mono ?_
        rintro z w' ⟨rfl, rfl⟩
        have hs : h.setCell ⟨i, 0⟩ (.ptr (some ⟨i, 0⟩)) = some (h.put i (some (.cellsT (ρ.t 72) true [.ptr (some ⟨i, 0⟩), v]))) := by
          unfold H.setCell
          simp only [hg]
          rfl
        obtain ⟨_, _, _, R', W'⟩ := R.setCell (a := ⟨i, 0⟩) (v := .ptr (some ⟨i, 0⟩)) (x := .pointer (some ((⟨i, 0⟩ : Ad).to ι))) hb ⟨⟨R.dom i _ hg, hb⟩, rfl⟩ hs
        rw [hto] at R' W'
        exact ⟨_, _, e, R', W', rfl⟩
      · rename_i c
        cases hc' : (Nat.beq c.id i && Nat.beq c.off 0) with
        | false => rw [hc'] at e; cases e
        | true =>
          rw [hc'] at e
          simp only [cond_true] at e
          rw [Bool.and_eq_true] at hc'
          have e1 : c.id = i := Nat.eq_of_beq_eq_true hc'.1
          have e2 : c.off = 0 := Nat.eq_of_beq_eq_true hc'.2
          have : x = .pointer (some ⟨(ι i).cb, 0, none⟩) := by rw [hr.2]; simp [Ad.to, e1, e2, hsh]
          rw [this] at hcell
          refine (Any.Builder_copyCheck_used L Y (ι i).cb w hcell).mono ?_
          rintro z w' ⟨rfl, rfl⟩
          exact ⟨h, ι, e, R, Went.refl X ι h w', rfl⟩
      · cases e
  · cases e
end
end Go.Ab
set_option linter.unusedVariables false
set_option linter.unusedSimpArgs false
namespace Go.Ab
open Go.Shelf Go.Proofs Go.RowKit
section
variable {α : Type} {P : Program} {ρ : Ren} {T : Tab} {base : Nat} {w0 : World} {X : Nat → Prop} {ι : Io} {h : H} {w : World} {out : α}
set_option maxHeartbeats 1000000 in
set_option maxRecDepth 100000 in
theorem string_raw (L : Lays.n169 P ρ) (X : Builder.Extra P ρ) (b g cap : Nat) (p : Value) (cur : Array Value) (l : List UInt8) (w : World) (hbk : w.heap[b]? = some (.cells #[p, .slice (some ⟨g, 0, none⟩) l.length cap] (ρ.t 72) (0, 0)))
    (hg : w.heap[g]? = some (.cells cur (ρ.t 5) (0, 0))) (hlen : l.length ≤ cur.size) (hcap : cap ≠ 0) (h0 : l ≠ []) (h63 : l.length ≤ 9223372036854775807) (hcell : ∀ (j : Nat) (x : UInt8), l[j]? = some x → cur[j]? = some (Value.int .u8 x.toNat)) :
    Calls P (ρ.f 169) #[.pointer (some ⟨b, 0, none⟩)] w fun e w' => e = .returned (.string ⟨l.toArray⟩) ∧ w' = w.drew.freeze ⟨g, 0, none⟩ l.length := by
  have hl0 : l.length ≠ 0 := by simpa using h0
  have c1 : w.drew.cell? ⟨b, 1, none⟩ = some (.slice (some ⟨g, 0, none⟩) l.length cap) := by
    have : w.drew.heap[b]? = some (.cells #[p, .slice (some ⟨g, 0, none⟩) l.length cap] (ρ.t 72) (0, 0)) := hbk
    rw [Lib.cell_of_heap this]; rfl
  have hSD : (Builtin.unsafeSliceData_ #[(ρ.t 37)] (ρ.t 127) #[.slice (some ⟨g, 0, none⟩) l.length cap]).run P w.drew = .ok (.pointer (some ⟨g, 0, none⟩)) w.drew :=
    Lib.run_unsafeSliceData_row _ _ _ _ _ _ hcap
  have hUS : (Builtin.unsafeString_ #[(ρ.t 127), (ρ.t 3)] (ρ.t 9) #[.pointer (some ⟨g, 0, none⟩), .int .i64 l.length]).run P w.drew = .ok (.string ⟨l.toArray⟩) (w.drew.freeze ⟨g, 0, none⟩ l.length) := by
    refine Lib.run_unsafeString_row w.drew (ρ.t 127) (ρ.t 3) (ρ.t 9) (ρ.t 5) L.t127 X.cellsByte g cur.size (by have hg' : w.drew.heap[g]? = some (.cells cur (ρ.t 5) (0, 0)) := hg; simp [World.shape?, hg']) l h0 hlen h63 ?_
    intro j x hx
    have hg' : w.drew.heap[g]? = some (.cells cur (ρ.t 5) (0, 0)) := hg
    have : (⟨g, 0, none⟩ : Addr).add j = ⟨g, j, none⟩ := by
      unfold Addr.add
      split
      · rename_i h; rw [h]
      · simp
    rw [this, Lib.cell_of_heap hg']
    exact hcell j x hx
  have mixed := L.mixed
  have t72 := L.t72; have a72 := L.a72; have z72 := L.z72; have v72 := L.v72; have u72 := run_underlying L.t72
  have t70 := L.t70; have a70 := L.a70; have z70 := L.z70; have v70 := L.v70; have u70 := run_underlying L.t70
  have t37 := L.t37; have a37 := L.a37; have z37 := L.z37; have v37 := L.v37; have u37 := run_underlying L.t37
  have t127 := L.t127; have a127 := L.a127; have z127 := L.z127; have v127 := L.v127; have u127 := run_underlying L.t127
  have t3 := L.t3; have a3 := L.a3; have z3 := L.z3; have v3 := L.v3; have u3 := run_underlying L.t3
  have t9 := L.t9; have a9 := L.a9; have z9 := L.z9; have v9 := L.v9; have u9 := run_underlying L.t9
  have t5 := X.t5; have a5 := X.a5; have z5 := X.z5; have v5 := X.v5; have u5 := run_underlying X.t5
  go_enter L.f169, Body.n169_ntmps ρ
  go_wp2
  go_region_o
  all_goals (go_wp2; go_ret; exact ⟨rfl, rfl⟩)
set_option maxHeartbeats 2000000 in
set_option maxRecDepth 100000 in
theorem string_raw0 (L : Lays.n169 P ρ) (X : Builder.Extra P ρ) (b : Nat) (p : Value) (w : World) (hbk : w.heap[b]? = some (.cells #[p, .slice none 0 0] (ρ.t 72) (0, 0))) :
    Calls P (ρ.f 169) #[.pointer (some ⟨b, 0, none⟩)] w fun e w' => e = .returned (.string ⟨#[]⟩) ∧ w' = w.drew := by
  have hUS := Any.unsafeString_none L X
  have c1 : w.drew.cell? ⟨b, 1, none⟩ = some (.slice none 0 0) := by
    have : w.drew.heap[b]? = some (.cells #[p, .slice none 0 0] (ρ.t 72) (0, 0)) := hbk
    rw [Lib.cell_of_heap this]; rfl
  have hSD : (Builtin.unsafeSliceData_ #[(ρ.t 37)] (ρ.t 127) #[.slice none 0 0]).run P w.drew = .ok (.pointer none) w.drew := rfl
  have mixed := L.mixed
  have t72 := L.t72; have a72 := L.a72; have z72 := L.z72; have v72 := L.v72; have u72 := run_underlying L.t72
  have t70 := L.t70; have a70 := L.a70; have z70 := L.z70; have v70 := L.v70; have u70 := run_underlying L.t70
  have t37 := L.t37; have a37 := L.a37; have z37 := L.z37; have v37 := L.v37; have u37 := run_underlying L.t37
  have t127 := L.t127; have a127 := L.a127; have z127 := L.z127; have v127 := L.v127; have u127 := run_underlying L.t127
  have t3 := L.t3; have a3 := L.a3; have z3 := L.z3; have v3 := L.v3; have u3 := run_underlying L.t3
  have t9 := L.t9; have a9 := L.a9; have z9 := L.z9; have v9 := L.v9; have u9 := run_underlying L.t9
  have t5 := X.t5; have a5 := X.a5; have z5 := X.z5; have v5 := X.v5; have u5 := run_underlying X.t5
  go_enter L.f169, Body.n169_ntmps ρ
  go_wp2
  go_region_o
  all_goals (go_wp2; go_ret; exact ⟨rfl, rfl⟩)
end
end Go.Ab
set_option linter.unusedVariables false
set_option linter.unusedSimpArgs false
namespace Go.Ab
open Go.Shelf Go.Proofs
section
variable {α : Type} {P : Program} {ρ : Ren} {T : Tab} {base : Nat} {w0 : World} {X : Nat → Prop} {ι : Io} {h : H} {w : World} {out : α}
def bytesT : List V → Option (List UInt8)
  | [] => some []
  | .int .u8 n :: vs => cond (decide (((UInt8.ofNat n.toNat).toNat : Int) = n)) ((bytesT vs).map (UInt8.ofNat n.toNat :: ·)) none
  | _ => none
theorem bytesT_to : ∀ l : List UInt8, bytesT (toBytes l) = some l
  | [] => rfl
  | b :: l => by
    have ih := bytesT_to l
    unfold toBytes at ih ⊢
    simp only [List.map_cons, bytesT, ih, Option.map_some]
    simp
theorem bytesT_inv : ∀ {cs : List V} {l : List UInt8}, bytesT cs = some l → cs = toBytes l
  | [], l, e => by cases e; rfl
  | v :: vs, l, e => by
    unfold bytesT at e
    split at e
    · cases ‹_ = []›
    · rename_i n vs' hv
      cases hv
      cases hc : decide (((UInt8.ofNat n.toNat).toNat : Int) = n) with
      | false => rw [hc] at e; cases e
      | true =>
        rw [hc] at e
        simp only [cond_true, Option.map_eq_some_iff] at e
        obtain ⟨l', e1, rfl⟩ := e
        have := of_decide_eq_true hc
        rw [bytesT_inv e1]
        simp only [toBytes, List.map_cons, this]
    · cases e
def stringF (t el : Nat) (b : Ad) (ret : List UInt8 → M α) : M α := fun h =>
  match h.get b.id with
  | some (.cellsT t' true [p, .slice s]) => cond (Nat.beq t' t && Nat.beq b.off 0)
      (match s.ad with
        | none => ret [] h
        | some a => match h.get a.id with
          | some (.cellsT el' false cs) => cond (Nat.beq el' el && (Nat.beq a.off 0 && (Nat.beq cs.length s.len && Nat.blt 0 s.len)))
              (cond (Nat.ble s.len 281474976710656) (match bytesT cs with | some l => ret l (h.put a.id none) | none => none) none) none
          | _ => none) none
  | _ => none
theorem string_calls (L : Lays.n169 P ρ) (Y : Builder.Extra P ρ) (R : HR T base w0 X ι h w) {b : Ad} (hb : ¬ X b.id) {K : List UInt8 → M α} (e : stringF (ρ.t 72) (ρ.t 5) b K h = some out) :
    Calls P (ρ.f 169) #[.pointer (some (b.to ι))] w fun z w' => ∃ l h' ι', K l h' = some out ∧ HR T base w0 X ι' h' w' ∧ Went X ι h w ι' h' w' ∧ z = .returned (.string ⟨l.toArray⟩) := by
  unfold stringF at e
  split at e
  · rename_i t' p s hg
    cases hc : (Nat.beq t' (ρ.t 72) && Nat.beq b.off 0) with
    | false => rw [hc] at e; cases e
    | true =>
      rw [hc] at e
      simp only [cond_true] at e
      rw [Bool.and_eq_true] at hc
      have ht : t' = ρ.t 72 := Nat.eq_of_beq_eq_true hc.1
      have hoff : b.off = 0 := Nat.eq_of_beq_eq_true hc.2
      subst ht
      obtain ⟨arr, harr, hsh, htot, ⟨hsz1, hsz0⟩, hv, hone, hbase⟩ := R.blk b.id _ hb hg
      have hsz := hsz0 rfl
      rw [List.take_of_length_le (by rw [Array.length_toList, hsz]; exact Nat.le_refl _)] at hv
      have hto : b.to ι = ⟨(ι b.id).cb, 0, none⟩ := by simp [Ad.to, hsh, hoff]
      rw [hto]
      obtain ⟨x0, x1, hx, hx1⟩ : ∃ x0 x1, arr = #[x0, x1] ∧ SlR ι (fun i => i < h.next ∧ ¬ X i) s x1 := by
        match hl : arr.toList, hv with
        | [x0, x1], hv => exact ⟨x0, x1, Array.ext' hl, hv.2.1⟩
      subst hx
      cases ha : s.ad with
      | none =>
        rw [ha] at e
        dsimp only at e
        obtain ⟨rfl, rfl⟩ := hx1.none_ad ha
        refine (string_raw0 L Y (ι b.id).cb x0 w harr).mono ?_
        rintro z w' ⟨rfl, rfl⟩
        exact ⟨[], h, ι, e, R.drew, Went.drew X ι h w, rfl⟩
      | some a =>
        rw [ha] at e
        dsimp only at e
        split at e
        · rename_i el' cs hg2
          cases hcd : (Nat.beq el' (ρ.t 5) && (Nat.beq a.off 0 && (Nat.beq cs.length s.len && Nat.blt 0 s.len))) with
          | false => rw [hcd] at e; cases e
          | true =>
          rw [hcd] at e
          simp only [cond_true] at e
          simp only [Bool.and_eq_true] at hcd
          obtain ⟨c1, c2, c3, c4⟩ := hcd
          have c1 := Nat.eq_of_beq_eq_true c1
          have c2 := Nat.eq_of_beq_eq_true c2
          have c3 := Nat.eq_of_beq_eq_true c3
          have c4 : 0 < s.len := Nat.le_of_ble_eq_true c4
          subst c1
          cases hle : Nat.ble s.len 281474976710656 with
          | false => rw [hle] at e; cases e
          | true =>
          rw [hle] at e
          have hle := Nat.le_of_ble_eq_true hle
          simp only [cond_true] at e
          split at e
          · rename_i l hl
            have hcs := bytesT_inv hl
            subst hcs
            have hll : l.length = s.len := by rw [← c3]; simp [toBytes]
            obtain ⟨hok, b', c, rfl, hbb, hlc, hcc, _⟩ := hx1.row ha
            obtain ⟨arr2, g1, g2, g3, ⟨g4, _⟩, g5, g6, g7⟩ := R.blk a.id _ hok.2 hg2
            have hb' : b' = ⟨(ι a.id).cb, 0, none⟩ := by
              rw [hbb.resolve_left (by omega)]
              simp [Ad.to, g2, c2]
            subst hb'
            rw [← hll] at harr
            have hl0 : l ≠ [] := fun h => by subst h; simp at hll; omega
            refine (string_raw L Y (ι b.id).cb (ι a.id).cb c x0 arr2 l w harr g1 (by rw [c3] at g4; omega) (by omega) hl0 (by omega) (fun j x hj => ?_)).mono ?_
            · have hlt : j < l.length := by
                rcases Nat.lt_or_ge j l.length with h | h
                · exact h
                · rw [List.getElem?_eq_none h] at hj; cases hj
              obtain ⟨y, hy, hr⟩ := g5.get (i := j) (v := .int .u8 (x.toNat : Int)) (by simp [toBytes, hj])
              rw [List.getElem?_take_of_lt (by omega), Array.getElem?_toList] at hy
              rw [hy, show y = _ from hr]
            · rintro z w' ⟨rfl, rfl⟩
              have hln : l.length ≠ 0 := by omega
              obtain ⟨R', W'⟩ := R.drew.drop (i := a.id) (w' := w.drew.freeze ⟨(ι a.id).cb, 0, none⟩ l.length) hok.2 hg2 rfl (by unfold World.freeze; split <;> simp) (fun c hc => by rw [heap_freeze _ _ hln, if_neg hc]) g7 (by unfold World.freeze; split <;> simp)
              exact ⟨l, _, ι, e, R', (Went.drew X ι h w).trans W', rfl⟩
          · cases e
        · cases e
  · cases e
end
end Go.Ab
