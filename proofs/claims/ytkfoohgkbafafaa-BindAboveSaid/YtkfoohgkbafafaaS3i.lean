import Derived.Test.YtkfoohgkbafafaaS3t
namespace Go.Ab.S3
set_option linter.unusedVariables false
set_option linter.unusedSimpArgs false
variable {α : Type} {h : H}
/-! ### who binds: by the nodes above, the innermost first -/
def fixK (k : Int) : Bool := decide (k = 10) || decide (k = 11)
abbrev Anc := List (Nat × Nd)
def cntN : Anc → Nat
  | [] => 0
  | (_, n) :: A => cntN A + (if n.kind = 5 then 1 else 0)
def scopes : Anc → List (Int × Int)
  | [] => []
  | (i, n) :: A => scopes A ++ (if fixK n.kind = true then [((i : Int), (cntN A : Int))] else [])
def findS (name : List UInt8) : Anc → Option (Nat × Nat)
  | [] => none
  | (i, n) :: A => if fixK n.kind = true ∧ n.name = name then some (i, cntN A) else findS name A
def toLeaf (k : Int) (s : List UInt8) (A : Anc) : Int := if k = 4 then (match findS s A with | some (i, _) => (i : Int) | none => -1) else -1
def oddLeaf (k : Int) (s : List UInt8) (A : Anc) : Bool := if k = 4 then (match findS s A with | some (_, m) => decide ((cntN A - m) % 2 ≠ 0) | none => false) else false
def toA : Tr → Nat → Anc → List Int
  | .leaf k s p, _, A => [toLeaf k s A]
  | .un k s p a, base, A => toA a base ((base + a.size, (Tr.un k s p a).node base) :: A) ++ [-1]
  | .bin k s p a b, base, A => toA a base ((base + a.size + b.size, (Tr.bin k s p a b).node base) :: A) ++ (toA b (base + a.size) ((base + a.size + b.size, (Tr.bin k s p a b).node base) :: A) ++ [-1])
def oddA : Tr → Nat → Anc → List Bool
  | .leaf k s p, _, A => [oddLeaf k s A]
  | .un k s p a, base, A => oddA a base ((base + a.size, (Tr.un k s p a).node base) :: A) ++ [false]
  | .bin k s p a b, base, A => oddA a base ((base + a.size + b.size, (Tr.bin k s p a b).node base) :: A) ++ (oddA b (base + a.size) ((base + a.size + b.size, (Tr.bin k s p a b).node base) :: A) ++ [false])
def depT : Tr → Nat
  | .leaf _ _ _ => 0
  | .un k _ _ a => if fixK k = true then depT a + 1 else depT a
  | .bin _ _ _ a b => max (depT a) (depT b)
def depA : Tr → List Nat
  | .leaf _ _ _ => [0]
  | .un k s p a => depA a ++ [depT (.un k s p a)]
  | .bin k s p a b => depA a ++ (depA b ++ [depT (.bin k s p a b)])
theorem toA_length : ∀ (t : Tr) (base : Nat) (A : Anc), (toA t base A).length = t.size
  | .leaf _ _ _, _, _ => rfl
  | .un _ _ _ a, base, A => by simp [toA, Tr.size, toA_length a]
  | .bin _ _ _ a b, base, A => by simp [toA, Tr.size, toA_length a, toA_length b]; omega
theorem oddA_length : ∀ (t : Tr) (base : Nat) (A : Anc), (oddA t base A).length = t.size
  | .leaf _ _ _, _, _ => rfl
  | .un _ _ _ a, base, A => by simp [oddA, Tr.size, oddA_length a]
  | .bin _ _ _ a b, base, A => by simp [oddA, Tr.size, oddA_length a, oddA_length b]; omega
theorem depA_length : ∀ (t : Tr), (depA t).length = t.size
  | .leaf _ _ _ => rfl
  | .un _ _ _ a => by simp [depA, Tr.size, depA_length a]
  | .bin _ _ _ a b => by simp [depA, Tr.size, depA_length a, depA_length b]; omega
theorem depT_le : ∀ t : Tr, depT t ≤ t.size
  | .leaf _ _ _ => Nat.zero_le _
  | .un k _ _ a => by have := depT_le a; simp only [depT, Tr.size]; split <;> omega
  | .bin _ _ _ a b => by have := depT_le a; have := depT_le b; simp only [depT, Tr.size]; omega
theorem depA_last : ∀ t : Tr, (depA t)[t.size - 1]? = some (depT t)
  | .leaf _ _ _ => rfl
  | .un k s p a => by simp only [depA, Tr.size]; rw [List.getElem?_append_right (by rw [depA_length]; omega), depA_length]; simp
  | .bin k s p a b => by simp only [depA, Tr.size]; rw [List.getElem?_append_right (by rw [depA_length]; omega), List.getElem?_append_right (by rw [depA_length, depA_length]; omega), depA_length, depA_length, show a.size + b.size + 1 - 1 - a.size - b.size = 0 by omega]; rfl
theorem cntN_le : ∀ A : Anc, cntN A ≤ A.length
  | [] => Nat.le_refl _
  | (_, n) :: A => by have := cntN_le A; simp only [cntN, List.length_cons]; split <;> omega
theorem scopes_le : ∀ A : Anc, (scopes A).length ≤ A.length
  | [] => Nat.le_refl _
  | (_, n) :: A => by have := scopes_le A; simp only [scopes, List.length_cons, List.length_append]; split <;> simp <;> omega
theorem findS_le {name : List UInt8} : ∀ {A : Anc} {i m : Nat}, findS name A = some (i, m) → m ≤ cntN A
  | [], i, m, h => by simp [findS] at h
  | (j, n) :: A, i, m, h => by
    simp only [findS] at h
    split at h
    · cases h; simp only [cntN]; omega
    · have := findS_le h; simp only [cntN]; omega

/-! ### the walker's memory -/
def cSc (x : Int × Int) : List V := [.int .i64 x.1, .int .i64 x.2]
abbrev cScs (l : List (Int × Int)) : List V := l.flatMap cSc
structure WD (h₀ : H) (w : Nat) (to odd dep : Sl) : Prop where
  w0 : h₀.next ≤ w
  t0 : h₀.next ≤ to.id
  o0 : h₀.next ≤ odd.id
  d0 : h₀.next ≤ dep.id
  tw : to.id ≠ w
  ow : odd.id ≠ w
  dw : dep.id ≠ w
  t_o : to.id ≠ odd.id
  t_d : to.id ≠ dep.id
  o_d : odd.id ≠ dep.id
structure WS (h₀ h : H) (w : Nat) (f to odd dep : Sl) (l : List Nd) (ins : Sl) (sc : List (Int × Int)) (nots : Int) (T : List Int) (O : List Bool) (D : List Int) : Prop where
  ext : Ext h₀ h
  blk : h.get w = some (.cells [.slice f, .slice ins, .int .i64 nots, .slice to, .slice odd, .slice dep] true)
  wlt : w < h.next
  f : NdR h₀ f l
  ap : App h ins 2 (cScs sc)
  low : Owned h₀ ins
  lo : ins.loose = none → ins.len = 0
  nw : ∀ a, ins.ad = some a → a.id ≠ w ∧ a.id ≠ to.id ∧ a.id ≠ odd.id ∧ a.id ≠ dep.id
  to : Own h to 1 (cIs T)
  odd : Own h odd 1 (O.flatMap cB)
  dep : Own h dep 1 (cIs D)
section ws
variable {h₀ h : H} {w : Nat} {f to odd dep : Sl} {l : List Nd} {ins : Sl} {sc : List (Int × Int)} {nots : Int} {T : List Int} {O : List Bool} {D : List Int}
theorem WS.push (W : WS h₀ h w f to odd dep l ins sc nots T O D) {h' : H} (x : Ext h h') : WS h₀ h' w f to odd dep l ins sc nots T O D :=
  ⟨W.ext.trans x, by rw [x.2 w W.wlt]; exact W.blk, Nat.lt_of_lt_of_le W.wlt x.1, W.f, W.ap.ext x, W.low, W.lo, W.nw, W.to.ext x, W.odd.ext x, W.dep.ext x⟩
theorem WS.setblk (W : WS h₀ h w f to odd dep l ins sc nots T O D) (d : WD h₀ w to odd dep) {nots' : Int} {ins' : Sl} (he : ins' = ins) :
    WS h₀ (h.put w (some (.cells [.slice f, .slice ins', .int .i64 nots', .slice to, .slice odd, .slice dep] true))) w f to odd dep l ins sc nots' T O D := by
  subst he
  have hg : ∀ i, i ≠ w → (h.put w (some (.cells [.slice f, .slice ins', .int .i64 nots', .slice to, .slice odd, .slice dep] true))).get i = h.get i := fun i hi => by rw [put_get_if, if_neg hi]
  refine ⟨W.ext.put _ d.w0, by rw [put_get], W.wlt, W.f, W.ap.keep (Nat.le_refl _) fun a ha => hg _ (W.nw a ha).1, W.low, W.lo, W.nw, W.to.keep (Nat.le_refl _) (hg _ d.tw), W.odd.keep (Nat.le_refl _) (hg _ d.ow), W.dep.keep (Nat.le_refl _) (hg _ d.dw)⟩
theorem WS.setto (W : WS h₀ h w f to odd dep l ins sc nots T O D) (d : WD h₀ w to odd dep) {h' : H} {T' : List Int} (o : Own h' to 1 (cIs T')) (hn : h'.next = h.next) (hg : ∀ i, i ≠ to.id → h'.get i = h.get i) : WS h₀ h' w f to odd dep l ins sc nots T' O D := by
  have hle : h.next ≤ h'.next := by omega
  refine ⟨⟨by have := W.ext.1; omega, fun i hi => by rw [hg i (by have := d.t0; omega)]; exact W.ext.2 i hi⟩, by rw [hg w (Ne.symm d.tw)]; exact W.blk, by rw [hn]; exact W.wlt, W.f, W.ap.keep hle fun a ha => hg _ (W.nw a ha).2.1, W.low, W.lo, W.nw, o, W.odd.keep hle (hg _ (Ne.symm d.t_o)), W.dep.keep hle (hg _ (Ne.symm d.t_d))⟩
theorem WS.setodd (W : WS h₀ h w f to odd dep l ins sc nots T O D) (d : WD h₀ w to odd dep) {h' : H} {O' : List Bool} (o : Own h' odd 1 (O'.flatMap cB)) (hn : h'.next = h.next) (hg : ∀ i, i ≠ odd.id → h'.get i = h.get i) : WS h₀ h' w f to odd dep l ins sc nots T O' D := by
  have hle : h.next ≤ h'.next := by omega
  refine ⟨⟨by have := W.ext.1; omega, fun i hi => by rw [hg i (by have := d.o0; omega)]; exact W.ext.2 i hi⟩, by rw [hg w (Ne.symm d.ow)]; exact W.blk, by rw [hn]; exact W.wlt, W.f, W.ap.keep hle fun a ha => hg _ (W.nw a ha).2.2.1, W.low, W.lo, W.nw, W.to.keep hle (hg _ d.t_o), o, W.dep.keep hle (hg _ (Ne.symm d.o_d))⟩
theorem WS.setdep (W : WS h₀ h w f to odd dep l ins sc nots T O D) (d : WD h₀ w to odd dep) {h' : H} {D' : List Int} (o : Own h' dep 1 (cIs D')) (hn : h'.next = h.next) (hg : ∀ i, i ≠ dep.id → h'.get i = h.get i) : WS h₀ h' w f to odd dep l ins sc nots T O D' := by
  have hle : h.next ≤ h'.next := by omega
  refine ⟨⟨by have := W.ext.1; omega, fun i hi => by rw [hg i (by have := d.d0; omega)]; exact W.ext.2 i hi⟩, by rw [hg w (Ne.symm d.dw)]; exact W.blk, by rw [hn]; exact W.wlt, W.f, W.ap.keep hle fun a ha => hg _ (W.nw a ha).2.2.2, W.low, W.lo, W.nw, W.to.keep hle (hg _ d.t_d), W.odd.keep hle (hg _ d.o_d), o⟩
-- what is read of it
theorem w_f (W : WS h₀ h w f to odd dep l ins sc nots T O D) (K : Sl → M α) : ldS (((⟨w, 0⟩ : Ad).add 0).add 0) K h = K f h := ldS_run (by simp only [add_mk]; rw [cell_of W.blk]; rfl)
theorem w_in (W : WS h₀ h w f to odd dep l ins sc nots T O D) (K : Sl → M α) : ldS (((⟨w, 0⟩ : Ad).add 1).add 0) K h = K ins h := ldS_run (by simp only [add_mk]; rw [cell_of W.blk]; rfl)
theorem w_nots (W : WS h₀ h w f to odd dep l ins sc nots T O D) (K : Int → M α) : ldI .i64 (((⟨w, 0⟩ : Ad).add 2).add 0) K h = K nots h := ldI_run (by simp only [add_mk]; rw [cell_of W.blk]; rfl)
theorem w_to (W : WS h₀ h w f to odd dep l ins sc nots T O D) (K : Sl → M α) : ldS (((⟨w, 0⟩ : Ad).add 3).add 0) K h = K to h := ldS_run (by simp only [add_mk]; rw [cell_of W.blk]; rfl)
theorem w_odd (W : WS h₀ h w f to odd dep l ins sc nots T O D) (K : Sl → M α) : ldS (((⟨w, 0⟩ : Ad).add 4).add 0) K h = K odd h := ldS_run (by simp only [add_mk]; rw [cell_of W.blk]; rfl)
theorem w_dep (W : WS h₀ h w f to odd dep l ins sc nots T O D) (K : Sl → M α) : ldS (((⟨w, 0⟩ : Ad).add 5).add 0) K h = K dep h := ldS_run (by simp only [add_mk]; rw [cell_of W.blk]; rfl)
theorem w_snots (W : WS h₀ h w f to odd dep l ins sc nots T O D) (n : Int) (K : M α) : st1 (((⟨w, 0⟩ : Ad).add 2).add 0) (.int .i64 n) K h = K (h.put w (some (.cells [.slice f, .slice ins, .int .i64 n, .slice to, .slice odd, .slice dep] true))) := by
  simp only [add_mk]
  rw [st1_run (a := ⟨w, 0 + 2 + 0⟩) W.blk rfl (by simp)]
  rfl
theorem w_sin (W : WS h₀ h w f to odd dep l ins sc nots T O D) (s : Sl) {h' : H} (hg : h'.get w = h.get w) (K : M α) : st1 (((⟨w, 0⟩ : Ad).add 1).add 0) (.slice s) K h' = K (h'.put w (some (.cells [.slice f, .slice s, .int .i64 nots, .slice to, .slice odd, .slice dep] true))) := by
  simp only [add_mk]
  rw [st1_run (a := ⟨w, 0 + 1 + 0⟩) (hg.trans W.blk) rfl (by simp)]
  rfl
end ws

/-! ### find -/
theorem sc_get {l : List (Int × Int)} {i : Nat} {x : Int × Int} (hi : l[i]? = some x) : (cScs l)[i * 2 + 0]? = some (.int .i64 x.1) ∧ (cScs l)[i * 2 + 1]? = some (.int .i64 x.2) :=
  ⟨flat_get (c := cSc) (fun _ => rfl) l i x 0 hi (by decide), flat_get (c := cSc) (fun _ => rfl) l i x 1 hi (by decide)⟩
theorem find_loop {h₀ h : H} {w : Nat} {f to odd dep : Sl} {l : List Nd} {ins : Sl} {sc : List (Int × Int)} {nots : Int} {T : List Int} {O : List Bool} {D : List Int}
    (W : WS h₀ h w f to odd dep l ins sc nots T O D) (k : Nat) (name : List UInt8) : ∀ (A : Anc) (more : List (Int × Int)) (j : Nat), sc = scopes A ++ more → (∀ p ∈ A, l[p.1]? = some p.2) → (scopes A).length < j → A.length ≤ 1000 → ∀ (α : Type) (kr : Ad → Bool → M α) (kx : Ad → M α),
      bwfind.u4.l k kr kx j ⟨w, 0⟩ name ⟨h.next, 0⟩ (((scopes A).length : Int) - 1) (h.push (.cells [.int .i64 0, .int .i64 0] true)) =
        (match findS name A with
        | some (i, m) => kr ⟨h.next, 0⟩ true (h.push (.cells [.int .i64 i, .int .i64 m] true))
        | none => kx ⟨h.next, 0⟩ (h.push (.cells [.int .i64 0, .int .i64 0] true))) := by
  have W' := W.push ((Ext.refl h).push (.cells [.int .i64 0, .int .i64 0] true))
  intro A
  induction A with
  | nil =>
    intro more j hsc hA hj hl α kr kx
    obtain ⟨j, rfl⟩ : ∃ q, j = q + 1 := ⟨j - 1, by omega⟩
    rw [bwfind.u4.l, bwfind.u3.f]
    simp [scopes, findS]
  | cons p A ih =>
    intro more j hsc hA hj hl α kr kx
    obtain ⟨i, n⟩ := p
    simp only [List.length_cons] at hl
    by_cases hf : fixK n.kind = true
    · have e : scopes ((i, n) :: A) = scopes A ++ [((i : Int), (cntN A : Int))] := by simp [scopes, hf]
      rw [e] at hsc hj ⊢
      simp only [List.length_append, List.length_cons, List.length_nil] at hj ⊢
      obtain ⟨j, rfl⟩ : ∃ q, j = q + 1 := ⟨j - 1, by omega⟩
      have hsl := scopes_le A
      have hget : sc[(scopes A).length]? = some ((i : Int), (cntN A : Int)) := by rw [hsc]; simp
      have hlt : (scopes A).length < ins.len := by
        rw [slen (c := cSc) (fun _ => rfl) (by decide) W.ap.rd]; exact get_lt hget
      obtain ⟨g0, g1⟩ := sc_get hget
      have ex : ((((scopes A).length + (0 + 1) : Nat) : Int) - 1) = ((scopes A).length : Int) := by omega
      have hn := hA (i, n) List.mem_cons_self
      rw [bwfind.u4.l, bwfind.u3.f, ex, dT (by omega : (0 : Int) ≤ ((scopes A).length : Int)), cond_true, w_f W', w_in W', idx_run W'.ap.rd rfl hlt, at_add, at_add, W'.ap.rd.ldI g0, nd_name (W'.f.ext W'.ext) rfl hn]
      simp only [findS]
      by_cases hname : n.name = name
      · rw [if_pos ⟨hf, hname⟩, dT hname, cond_true, w_in W', idx_run W'.ap.rd rfl hlt, at_add, W'.ap.rd.ldI g0, at_add, W'.ap.rd.ldI g1]
        simp only [add_mk, Nat.zero_add]
        rw [st1_new rfl (by simp), st1_new rfl (by simp)]
        rfl
      · rw [if_neg (fun h => hname h.2), dF hname, cond_false, w64_eq (by omega) (by omega)]
        exact ih _ j (by rw [hsc, List.append_assoc]) (fun p hp => hA p (List.mem_cons_of_mem _ hp)) (by omega) (by omega) α kr kx
    · have e : scopes ((i, n) :: A) = scopes A := by simp [scopes, hf]
      rw [e] at hsc hj ⊢
      simp only [findS]
      rw [if_neg (fun h => hf h.1)]
      exact ih more j hsc (fun p hp => hA p (List.mem_cons_of_mem _ hp)) hj (by omega) α kr kx
theorem find_run {h₀ h : H} {w : Nat} {f to odd dep : Sl} {l : List Nd} {ins : Sl} {nots : Int} {T : List Int} {O : List Bool} {D : List Int} {A : Anc}
    (W : WS h₀ h w f to odd dep l ins (scopes A) nots T O D) (k : Nat) (name : List UInt8) (hA : ∀ p ∈ A, l[p.1]? = some p.2) (hk : A.length < k) (hl : A.length ≤ 1000) (ret : Int → Int → Bool → M α) :
    bwfind.f (k + 1) ⟨w, 0⟩ name ret h = (match findS name A with
      | some (i, m) => ret i m true (h.push (.cells [.int .i64 i, .int .i64 m] true))
      | none => ret 0 0 false (h.push (.cells [.int .i64 0, .int .i64 0] true))) := by
  have W' := W.push ((Ext.refl h).push (.cells [.int .i64 0, .int .i64 0] true))
  have hsl := scopes_le A
  have hins : ins.len = (scopes A).length := slen (c := cSc) (fun _ => rfl) (by decide) W.ap.rd
  have key : ∀ (kr : Ad → Bool → M α), bwfind.u9.f k ⟨w, 0⟩ name kr h = bwfind.u4.l k kr (fun y0 => bwfind.u7.f k y0 kr) k ⟨w, 0⟩ name ⟨h.next, 0⟩ (((scopes A).length : Int) - 1) (h.push (.cells [.int .i64 0, .int .i64 0] true)) := fun kr => by
    rw [bwfind.u9.f, bwfind.u1.f, new_run rfl, bwfind.u8.f, bwfind.u6.f, bwfind.u2.f, w_in W', hins, w64_eq (by omega) (by omega), bwfind.u5.f, bwfind.u4.f]
  rw [bwfind.f, key, find_loop W k name A [] k (by simp) hA (by omega) hl]
  cases hf : findS name A with
  | none =>
    dsimp only
    rw [bwfind.u7.f]
    simp only [add_mk, Nat.zero_add]
    rw [st1_new rfl (by simp), st1_new rfl (by simp), ldI_run (by rw [cell_new]; rfl), ldI_run (by rw [cell_new]; rfl)]
    rfl
  | some p =>
    obtain ⟨i, m⟩ := p
    dsimp only
    simp only [add_mk, Nat.zero_add]
    rw [ldI_run (by rw [cell_new]; rfl), ldI_run (by rw [cell_new]; rfl)]
end Go.Ab.S3
