import Derived.Test.YtkfoohgkbafafaaS3t
import Derived.Test.YtkfoohgkbafafaaS3x
namespace Go.Ab.S3
set_option linter.unusedVariables false
set_option linter.unusedSimpArgs false
variable {α : Type} {h : H}
def fixK (k : Int) : Bool := decide (k = 10) || decide (k = 11)
def cSc (x : Int × Int) : List V := [.int .i64 x.1, .int .i64 x.2]
abbrev cScs (l : List (Int × Int)) : List V := l.flatMap cSc
structure WD (h₀ : H) (w : Nat) (to odd dep : Sl) : Prop where
  w0 : h₀.next ≤ w
  t0 : h₀.next ≤ to.id
  o0 : h₀.next ≤ odd.id
  d0 : h₀.next ≤ dep.id
  tw : to.id ≠ w
  ow : odd.id ≠ w
  dw : dep.id ≠ w
  t_o : to.id ≠ odd.id
  t_d : to.id ≠ dep.id
  o_d : odd.id ≠ dep.id
structure WS (h₀ h : H) (w : Nat) (f to odd dep : Sl) (l : List Nd) (ins : Sl) (sc : List (Int × Int)) (nots : Int) (T : List Int) (O : List Bool) (D : List Int) : Prop where
  ext : Ext h₀ h
  blk : h.get w = some (.cells [.slice f, .slice ins, .int .i64 nots, .slice to, .slice odd, .slice dep] true)
  wlt : w < h.next
  f : NdR h₀ f l
  ap : App h ins 2 (cScs sc)
  low : Owned h₀ ins
  lo : ins.loose = none → ins.len = 0
  nw : ∀ a, ins.ad = some a → a.id ≠ w ∧ a.id ≠ to.id ∧ a.id ≠ odd.id ∧ a.id ≠ dep.id
  to : Own h to 1 (cIs T)
  odd : Own h odd 1 (O.flatMap cB)
  dep : Own h dep 1 (cIs D)
section ws
variable {h₀ h : H} {w : Nat} {f to odd dep : Sl} {l : List Nd} {ins : Sl} {sc : List (Int × Int)} {nots : Int} {T : List Int} {O : List Bool} {D : List Int}
theorem WS.push (W : WS h₀ h w f to odd dep l ins sc nots T O D) {h' : H} (x : Ext h h') : WS h₀ h' w f to odd dep l ins sc nots T O D :=
  ⟨W.ext.trans x, by rw [x.2 w W.wlt]; exact W.blk, Nat.lt_of_lt_of_le W.wlt x.1, W.f, W.ap.ext x, W.low, W.lo, W.nw, W.to.ext x, W.odd.ext x, W.dep.ext x⟩
theorem WS.setblk (W : WS h₀ h w f to odd dep l ins sc nots T O D) (d : WD h₀ w to odd dep) {nots' : Int} {ins' : Sl} (he : ins' = ins) :
    WS h₀ (h.put w (some (.cells [.slice f, .slice ins', .int .i64 nots', .slice to, .slice odd, .slice dep] true))) w f to odd dep l ins sc nots' T O D := by
  subst he
  have hg : ∀ i, i ≠ w → (h.put w (some (.cells [.slice f, .slice ins', .int .i64 nots', .slice to, .slice odd, .slice dep] true))).get i = h.get i := fun i hi => by rw [put_get_if, if_neg hi]
  refine ⟨W.ext.put _ d.w0, by rw [put_get], W.wlt, W.f, W.ap.keep (Nat.le_refl _) fun a ha => hg _ (W.nw a ha).1, W.low, W.lo, W.nw, W.to.keep (Nat.le_refl _) (hg _ d.tw), W.odd.keep (Nat.le_refl _) (hg _ d.ow), W.dep.keep (Nat.le_refl _) (hg _ d.dw)⟩
theorem w_in (W : WS h₀ h w f to odd dep l ins sc nots T O D) (K : Sl → M α) : ldS (((⟨w, 0⟩ : Ad).add 1).add 0) K h = K ins h := ldS_run (by simp only [add_mk]; rw [cell_of W.blk]; rfl)
theorem w_sin (W : WS h₀ h w f to odd dep l ins sc nots T O D) (s : Sl) {h' : H} (hg : h'.get w = h.get w) (K : M α) : st1 (((⟨w, 0⟩ : Ad).add 1).add 0) (.slice s) K h' = K (h'.put w (some (.cells [.slice f, .slice s, .int .i64 nots, .slice to, .slice odd, .slice dep] true))) := by
  simp only [add_mk]
  rw [st1_run (a := ⟨w, 0 + 1 + 0⟩) (hg.trans W.blk) rfl (by simp)]
  rfl
end ws
end Go.Ab.S3
namespace Go.Ab.S3
set_option linter.unusedVariables false
set_option linter.unusedSimpArgs false
variable {α : Type} {h : H}
def Tr.kind : Tr → Int
  | .leaf k _ _ => k
  | .un k _ _ _ => k
  | .bin k _ _ _ _ => k
def brk (over k : Int) (first : Bool) : Bool :=
  cond (fixK over) false (cond (fixK k) true (cond (decide (k = 7)) (!decide (over = 7) || !first) (cond (decide (k = 6)) (!decide (over = 7) && (!decide (over = 6) || !first)) false)))
def headP (k : Int) (s : List UInt8) : List UInt8 :=
  if k = 1 then [116, 116] else if k = 2 then [102, 102] else if k = 5 then [126] else if k = 8 then [60] ++ s ++ [62] else if k = 9 then [91] ++ s ++ [93] else if k = 10 then [109, 117, 32] ++ s ++ [46, 32] else if k = 11 then [110, 117, 32] ++ s ++ [46, 32] else s
def paren (b : Bool) (l : List UInt8) : List UInt8 := if b = true then [40] ++ l ++ [41] else l
def prT : Tr → List UInt8
  | .leaf k s _ => headP k s
  | .un k s _ a => headP k s ++ paren (brk k a.kind true) (prT a)
  | .bin k s _ a b => paren (brk k a.kind true) (prT a) ++ ((if k = 7 then [32, 124, 32] else [32, 38, 32]) ++ paren (brk k b.kind false) (prT b))
theorem sfix_run (k : Nat) (x : Int) (ret : Bool → M α) : syntax_fix.f (k + 1) x ret h = ret (fixK x) h := by
  rw [syntax_fix.f]
  unfold syntax_fix.u1.f fixK
  cases decide (x = 10) <;> rfl
theorem operand_run (k : Nat) {b : Ad} {f : Sl} {l : List Nd} {h₀ : H} (r : NdR h₀ f l) {i : Nat} {n : Nd} (hn : l[i]? = some n) {w : List UInt8} {N : Nat} (hN : w.length ≤ N)
    (W : ∀ (h : H) (acc : List UInt8), Ext h₀ h → Bd h₀.next h b acc → acc.length + N ≤ 900000000 → ∃ h', (∀ (α : Type) (K : M α), syntax_write.f (k + 2) b f (i : Int) K h = K h') ∧ Ext h₀ h' ∧ Bd h₀.next h' b (acc ++ w) ∧ Plain h h')
    (over : Int) (first : Bool) (h : H) (acc : List UInt8) (x : Ext h₀ h) (B : Bd h₀.next h b acc) (hl : acc.length + N + 2 ≤ 900000000) :
    ∃ h', (∀ (α : Type) (K : M α), syntax_operand.f (k + 3) b f (i : Int) over first K h = K h') ∧ Ext h₀ h' ∧ Bd h₀.next h' b (acc ++ paren (brk over n.kind first) w) ∧ Plain h h' := by
  have ext : ∀ {h1 h2 : H}, Ext h₀ h1 → (∀ q, q < h₀.next → h2.get q = h1.get q) → h1.next ≤ h2.next → Ext h₀ h2 := fun y hg hn => ⟨Nat.le_trans y.1 hn, fun q hq => by rw [hg q hq]; exact y.2 q hq⟩
  cases hb : brk over n.kind first with
  | false =>
    obtain ⟨h', e, x', B', p'⟩ := W h acc x B (by omega)
    refine ⟨h', fun α K => ?_, x', by simpa [paren] using B', p'⟩
    have fx : ∀ (K : Bool → M α), syntax_fix.f (k + 2) n.kind K = K (fixK n.kind) := fun K => funext fun _ => sfix_run _ _ _
    rw [syntax_operand.f, syntax_operand.u1.f, nd_kind (r.ext x) rfl hn, sfix_run, fx]
    unfold brk at hb
    revert hb
    cases fixK over <;> cases fixK n.kind <;> cases decide (n.kind = 7) <;> cases decide (over = 7) <;> cases decide (n.kind = 6) <;> cases decide (over = 6) <;> cases first <;> intro hb <;> first | (cases hb; done) | exact e α K
  | true =>
    obtain ⟨h1, e1, B1, g1, n1⟩ := ws_run k B [40] (by simp; omega)
    have x1 := ext x g1 n1.1
    obtain ⟨h2, e2, x2, B2, p2⟩ := W h1 _ x1 B1 (by simp; omega)
    obtain ⟨h3, e3, B3, g3, n3⟩ := ws_run k B2 [41] (by simp; omega)
    have e : ∀ (α : Type) (K : M α), (strings_Builder_WriteString.f (k + 2) b [40] fun _ _ => syntax_write.f (k + 2) b f (i : Int) (strings_Builder_WriteString.f (k + 2) b [41] fun _ _ => K)) h = K h3 := by
      intro α K
      rw [e1, e2, e3]
    refine ⟨h3, fun α K => ?_, ext x2 g3 n3.1, by simpa [paren] using B3, (n1.trans p2).trans n3⟩
    have fx : ∀ (K : Bool → M α), syntax_fix.f (k + 2) n.kind K = K (fixK n.kind) := fun K => funext fun _ => sfix_run _ _ _
    rw [syntax_operand.f, syntax_operand.u1.f, nd_kind (r.ext x) rfl hn, sfix_run, fx]
    unfold brk at hb
    revert hb
    cases fixK over <;> cases fixK n.kind <;> cases decide (n.kind = 7) <;> cases decide (over = 7) <;> cases decide (n.kind = 6) <;> cases decide (over = 6) <;> cases first <;> intro hb <;> first | (cases hb; done) | exact e α K
end Go.Ab.S3
namespace Go.Ab.S3
set_option linter.unusedVariables false
set_option linter.unusedSimpArgs false
variable {α : Type}
section
variable {h₀ h : H} {w : Nat} {f to odd dep : Sl} {l : List Nd} {ins : Sl} {sc : List (Int × Int)} {nots : Int} {T : List Int} {O : List Bool} {D : List Int}
abbrev ndC (n : Nd) : Blk := .cells [.int .i64 n.kind, .int .i64 n.a, .int .i64 n.b, .str n.name, .int .i64 n.pos] true
theorem own_a {n : Nd} {q : Nat} (hq : h.get q = some (ndC n)) (K : Int → M α) : ldI .i64 (((⟨q, 0⟩ : Ad).add 1).add 0) K h = K n.a h := ldI_run (by simp only [add_mk]; rw [cell_of (a := ⟨q, 0 + 1 + 0⟩) hq]; rfl)
theorem own_b {n : Nd} {q : Nat} (hq : h.get q = some (ndC n)) (K : Int → M α) : ldI .i64 (((⟨q, 0⟩ : Ad).add 2).add 0) K h = K n.b h := ldI_run (by simp only [add_mk]; rw [cell_of (a := ⟨q, 0 + 2 + 0⟩) hq]; rfl)
theorem own_name {n : Nd} {q : Nat} (hq : h.get q = some (ndC n)) (K : List UInt8 → M α) : ldStr (((⟨q, 0⟩ : Ad).add 3).add 0) K h = K n.name h := ldStr_run (by simp only [add_mk]; rw [cell_of (a := ⟨q, 0 + 3 + 0⟩) hq]; rfl)
def Quiet (w : Nat) (to odd dep ins : Sl) (h h' : H) : Prop := ∀ i, i < h.next → i ≠ w → i ≠ to.id → i ≠ odd.id → i ≠ dep.id → (∀ a, ins.ad = some a → i ≠ a.id) → h'.get i = h.get i
theorem WS.lts (W : WS h₀ h w f to odd dep l ins sc nots T O D) : w < h.next ∧ to.id < h.next ∧ odd.id < h.next ∧ dep.id < h.next ∧ ∀ a, ins.ad = some a → a.id < h.next := by
  have own : ∀ {s : Sl} {cs : List V}, Own h s 1 cs → s.id < h.next := by
    intro s cs o
    obtain ⟨id, more, h1, h2, h3⟩ := o.blk
    unfold Sl.id; rw [h1]; exact h3
  exact ⟨W.wlt, own W.to, own W.odd, own W.dep, fun a ha => (W.ap.rd.row a ha).2⟩
theorem Quiet.of {h' : H} (x : Ext h h') : Quiet w to odd dep ins h h' := fun i hi _ _ _ _ _ => x.2 i hi
theorem Quiet.trans {h' h'' : H} {ins' : Sl} (q : Quiet w to odd dep ins h h') (hn : h.next ≤ h'.next) (hi : ∀ a, ins'.ad = some a → h.next ≤ a.id ∨ ins'.ad = ins.ad) (q' : Quiet w to odd dep ins' h' h'') : Quiet w to odd dep ins h h'' := by
  intro i h1 h2 h3 h4 h5 h6
  rw [q' i (by omega) h2 h3 h4 h5 (fun a ha => ?_), q i h1 h2 h3 h4 h5 h6]
  rcases hi a ha with h | h
  · omega
  · exact h6 a (by rw [← h]; exact ha)
theorem WS.append (W : WS h₀ h w f to odd dep l ins sc nots T O D) (d : WD h₀ w to odd dep) (x y : Int) (hl : ins.len ≤ 1000) :
    ∃ h' ins', (∀ (α : Type) (K : M α), (ldS (((⟨w, 0⟩ : Ad).add 1).add 0) fun x6 => new [.int .i64 x, .int .i64 y] fun r => ldS (((⟨w, 0⟩ : Ad).add 1).add 0) fun y9 => need (decide (x6 = y9)) <| appRow x6 2 16 ⟨some r, 1, 1, none⟩ fun x10 => st1 (((⟨w, 0⟩ : Ad).add 1).add 0) (.slice x10) K) h = K h') ∧
      WS h₀ h' w f to odd dep l ins' (sc ++ [(x, y)]) nots T O D ∧ Quiet w to odd dep ins h h' ∧ h.next ≤ h'.next ∧ ∀ a, ins'.ad = some a → h.next ≤ a.id := by
  have x1 : Ext h (h.push (.cells [.int .i64 x, .int .i64 y] true)) := (Ext.refl h).push _
  have W1 := W.push x1
  have rp : Rd (h.push (.cells [.int .i64 x, .int .i64 y] true)) ⟨some ⟨h.next, 0⟩, 1, 1, none⟩ 2 (cSc (x, y)) := Rd.pushed h rfl
  have hn1 : (h.push (.cells [.int .i64 x, .int .i64 y] true)).next = h.next + 1 := push_next _
  have e1 : ∀ (α : Type) (K : Ad → M α), new [.int .i64 x, .int .i64 y] K h = K ⟨h.next, 0⟩ (h.push (.cells [.int .i64 x, .int .i64 y] true)) := fun α K => new_run rfl
  generalize h.push (.cells [.int .i64 x, .int .i64 y] true) = h1 at x1 W1 rp hn1 e1
  obtain ⟨h2, e2, ap2, g2, k2⟩ := app_row (bytes := 16) W1.ap rp (by show 0 < 1; decide) (by decide) (by dsimp only; omega)
  have hlt := W1.lts
  have keep : ∀ i, i < h1.next → (∀ a, ins.ad = some a → i ≠ a.id) → h2.get i = h1.get i := fun i hi ha => k2.2 i hi fun _ a h => ha a h
  have gw : h2.get w = h1.get w := keep w hlt.1 fun a ha => Ne.symm (W1.nw a ha).1
  have x02 := k2.ext W1.ext W1.low
  dsimp only at e2 ap2
  refine ⟨h2.put w (some (.cells [.slice f, .slice ⟨some ⟨h1.next, 0⟩, ins.len + 1, ins.len + 1, some 2⟩, .int .i64 nots, .slice to, .slice odd, .slice dep] true)), ⟨some ⟨h1.next, 0⟩, ins.len + 1, ins.len + 1, some 2⟩, fun α K => ?_, ?_, ?_, ?_, ?_⟩
  · rw [w_in W, e1, w_in W1, need_run (by simp), e2, w_sin W1 _ gw]
  · have hn2 : h1.next ≤ h2.next := by rw [k2.1]; omega
    have hg : ∀ i, i ≠ w → (h2.put w (some (.cells [.slice f, .slice ⟨some ⟨h1.next, 0⟩, ins.len + 1, ins.len + 1, some 2⟩, .int .i64 nots, .slice to, .slice odd, .slice dep] true))).get i = h2.get i := fun i hi => by rw [put_get_if, if_neg hi]
    have own : ∀ {s : Sl} {cs : List V}, Own h1 s 1 cs → s.id ≠ w → (∀ a, ins.ad = some a → s.id ≠ a.id) → s.id < h1.next → Own (h2.put w (some (.cells [.slice f, .slice ⟨some ⟨h1.next, 0⟩, ins.len + 1, ins.len + 1, some 2⟩, .int .i64 nots, .slice to, .slice odd, .slice dep] true))) s 1 cs :=
      fun o h1 h2 h3 => o.keep hn2 (by rw [hg _ h1]; exact keep _ h3 h2)
    have hsc : cScs (sc ++ [(x, y)]) = cScs sc ++ cSc (x, y) := by simp [List.flatMap_append]
    refine ⟨x02.put _ d.w0, by rw [put_get], Nat.lt_of_lt_of_le hlt.1 hn2, W.f, ?_, (fun a ha => by cases ha; exact W1.ext.1), (fun e => by cases e), (fun a ha => by cases ha; exact ⟨by show h1.next ≠ w; omega, by show h1.next ≠ to.id; omega, by show h1.next ≠ odd.id; omega, by show h1.next ≠ dep.id; omega⟩),
      own W1.to d.tw (fun a ha => Ne.symm (W1.nw a ha).2.1) hlt.2.1, own W1.odd d.ow (fun a ha => Ne.symm (W1.nw a ha).2.2.1) hlt.2.2.1, own W1.dep d.dw (fun a ha => Ne.symm (W1.nw a ha).2.2.2) hlt.2.2.2.1⟩
    rw [hsc]
    exact ap2.keep (Nat.le_refl _) fun a ha => by cases ha; exact hg _ (by show h1.next ≠ w; omega)
  · intro i hi a1 a2 a3 a4 a5
    rw [put_get_if, if_neg a1, keep i (by omega) a5, x1.2 i hi]
  · show h.next ≤ h2.next
    rw [k2.1]; omega
  · intro a ha
    cases ha
    show h.next ≤ h1.next
    omega
theorem flat_sub {a : Tr} {base : Nat} {rest : List Nd} (hfl : ∀ i n, (a.flat base ++ rest)[i]? = some n → l[base + i]? = some n) : (∀ i n, (a.flat base)[i]? = some n → l[base + i]? = some n) ∧ ∀ i n, rest[i]? = some n → l[base + a.size + i]? = some n := by
  refine ⟨fun i n h => hfl i n ?_, fun i n h => ?_⟩
  · rw [List.getElem?_append_left (get_lt h)]; exact h
  · rw [Nat.add_assoc]
    refine hfl (a.size + i) n ?_
    rw [List.getElem?_append_right (by rw [flat_length]; omega), flat_length, show a.size + i - a.size = i by omega]
    exact h
end
end Go.Ab.S3
namespace Go.Ab.S3
set_option linter.unusedVariables false
set_option linter.unusedSimpArgs false
variable {α : Type} {h : H}
theorem own_kind {n : Nd} {q : Nat} (hq : h.get q = some (ndC n)) (K : Int → M α) : ldI .i64 (((⟨q, 0⟩ : Ad).add 0).add 0) K h = K n.kind h := ldI_run (by simp only [add_mk]; rw [cell_of (a := ⟨q, 0 + 0 + 0⟩) hq]; rfl)
theorem own_all {n : Nd} {q : Nat} (hq : h.get q = some (ndC n)) (K : Int → Int → Int → List UInt8 → Int → M α) :
    (ldI .i64 ((⟨q, 0⟩ : Ad).add 0) fun y0 => ldI .i64 ((⟨q, 0⟩ : Ad).add 1) fun y1 => ldI .i64 ((⟨q, 0⟩ : Ad).add 2) fun y2 => ldStr ((⟨q, 0⟩ : Ad).add 3) fun y3 => ldI .i64 ((⟨q, 0⟩ : Ad).add 4) fun y4 => K y0 y1 y2 y3 y4) h = K n.kind n.a n.b n.name n.pos h := by
  simp only [add_mk]
  rw [ldI_run (by rw [cell_of (a := ⟨q, 0 + 0⟩) hq]; rfl), ldI_run (by rw [cell_of (a := ⟨q, 0 + 1⟩) hq]; rfl), ldI_run (by rw [cell_of (a := ⟨q, 0 + 2⟩) hq]; rfl), ldStr_run (by rw [cell_of (a := ⟨q, 0 + 3⟩) hq]; rfl), ldI_run (by rw [cell_of (a := ⟨q, 0 + 4⟩) hq]; rfl)]
end Go.Ab.S3
namespace Go.Ab.S3
set_option linter.unusedVariables false
set_option linter.unusedSimpArgs false
variable {α : Type} {h : H}
theorem cat_run {a b : List UInt8} {K : List UInt8 → M α} (hl : a.length + b.length ≤ 4611686018427387904) : cat a b K h = K (a ++ b) h := by
  unfold cat
  rw [need_run (Nat.ble_eq_true_of_le hl)]
theorem spelt_len {lo hi : Int} {s : List UInt8} (h : speltF lo hi s = true) : s.length ≤ 8 := by
  cases s with
  | nil => exact Nat.zero_le _
  | cons c r =>
    simp only [speltF, Bool.and_eq_true, decide_eq_true_eq] at h
    have := h.1.1.1
    simp only [List.length_cons]; omega
theorem named_len {k : Int} {s : List UInt8} (h : namedF k s = true) : s.length ≤ 8 := by
  unfold namedF nameF varF at h
  split at h
  · rw [Bool.and_eq_true] at h; exact spelt_len h.1
  split at h
  · exact spelt_len h
  split at h
  · rw [Bool.or_eq_true] at h
    rcases h with h | h
    · rw [of_decide_eq_true h]; decide
    · rw [Bool.and_eq_true] at h; exact spelt_len h.1
  · rw [of_decide_eq_true h]; decide
theorem headP_len (k : Int) {s : List UInt8} (h : s.length ≤ 8) : (headP k s).length ≤ 13 := by
  unfold headP
  repeat' split
  all_goals (try simp only [List.length_append, List.length_cons, List.length_nil])
  all_goals omega
theorem paren_len (b : Bool) (w : List UInt8) : (paren b w).length ≤ w.length + 2 := by
  cases b <;> simp [paren]
theorem prT_len : ∀ t : Tr, t.ok = true → (prT t).length ≤ 20 * t.size
  | .leaf k s p, h => by
    simp only [Tr.ok, Bool.and_eq_true] at h
    have := headP_len k (named_len h.2)
    simp only [prT, Tr.size]; omega
  | .un k s p a, h => by
    simp only [Tr.ok, Bool.and_eq_true] at h
    have := headP_len k (named_len h.1.2)
    have := paren_len (brk k a.kind true) (prT a)
    have := prT_len a h.2
    simp only [prT, Tr.size, List.length_append]; omega
  | .bin k s p a b, h => by
    simp only [Tr.ok, Bool.and_eq_true] at h
    have := paren_len (brk k a.kind true) (prT a)
    have := paren_len (brk k b.kind false) (prT b)
    have := prT_len a h.1.2
    have := prT_len b h.2
    have : (if k = 7 then [32, 124, 32] else [32, 38, 32] : List UInt8).length = 3 := by split <;> rfl
    simp only [prT, Tr.size, List.length_append]; omega
theorem write_head (k : Nat) {b : Ad} {f : Sl} {l : List Nd} (r : NdR h f l) {i : Nat} {n : Nd} (hn : l[i]? = some n) (hs : n.name.length ≤ 8) (h6 : n.kind ≠ 6) (h7 : n.kind ≠ 7) (K : M α) :
    syntax_write.f (k + 1) b f (i : Int) K h = strings_Builder_WriteString.f k b (headP n.kind n.name) (fun _ _ => syntax_write.u2.f k (fun z0 z1 z2 z3 z4 z5 => syntax_operand.f k z0 z1 z2 z3 z4 z5) b f ⟨h.next, 0⟩ K) (h.push (ndC n)) := by
  rw [syntax_write.f, syntax_write.u3.f, syntax_write.u1.f, nd_rd r rfl hn, nd_copy]
  have hq : (h.push (ndC n)).get h.next = some (ndC n) := by rw [push_get, if_pos rfl]
  rw [own_kind hq]
  unfold headP
  by_cases h1 : n.kind = 1
  · rw [dT h1, cond_true, if_pos h1]
  rw [dF h1, cond_false, if_neg h1]
  by_cases h2 : n.kind = 2
  · rw [dT h2, cond_true, if_pos h2]
  rw [dF h2, cond_false, if_neg h2]
  by_cases h5 : n.kind = 5
  · rw [dT h5, cond_true, if_pos h5]
  rw [dF h5, cond_false, if_neg h5]
  by_cases h8 : n.kind = 8
  · rw [dT h8, cond_true, if_pos h8, own_name hq, cat_run (by simp; omega), cat_run (by simp; omega)]
  rw [dF h8, cond_false, if_neg h8]
  by_cases h9 : n.kind = 9
  · rw [dT h9, cond_true, if_pos h9, own_name hq, cat_run (by simp; omega), cat_run (by simp; omega)]
  rw [dF h9, cond_false, if_neg h9]
  by_cases h10 : n.kind = 10
  · rw [dT h10, cond_true, if_pos h10, own_name hq, cat_run (by simp; omega), cat_run (by simp; omega)]
  rw [dF h10, cond_false, if_neg h10]
  by_cases h11 : n.kind = 11
  · rw [dT h11, cond_true, if_pos h11, own_name hq, cat_run (by simp; omega), cat_run (by simp; omega)]
  rw [dF h11, cond_false, if_neg h11, dF h6, cond_false, dF h7, cond_false, own_name hq]
theorem write_two (k : Nat) {b : Ad} {f : Sl} {l : List Nd} (r : NdR h f l) {i : Nat} {n : Nd} (hn : l[i]? = some n) (hk : n.kind = 6 ∨ n.kind = 7) (K : M α) :
    syntax_write.f (k + 1) b f (i : Int) K h = syntax_operand.f k b f n.a n.kind true (ldI .i64 (((⟨h.next, 0⟩ : Ad).add 0).add 0) fun x => cond (decide (x = 7)) (
        strings_Builder_WriteString.f k b [32, 124, 32] fun _ _ => ldI .i64 (((⟨h.next, 0⟩ : Ad).add 2).add 0) fun x44 => ldI .i64 (((⟨h.next, 0⟩ : Ad).add 0).add 0) fun x45 => syntax_operand.f k b f x44 x45 false K)
        (strings_Builder_WriteString.f k b [32, 38, 32] fun _ _ => ldI .i64 (((⟨h.next, 0⟩ : Ad).add 2).add 0) fun x44 => ldI .i64 (((⟨h.next, 0⟩ : Ad).add 0).add 0) fun x45 => syntax_operand.f k b f x44 x45 false K)) (h.push (ndC n)) := by
  rw [syntax_write.f, syntax_write.u3.f, syntax_write.u1.f, nd_rd r rfl hn, nd_copy]
  have hq : (h.push (ndC n)).get h.next = some (ndC n) := by rw [push_get, if_pos rfl]
  rw [own_kind hq]
  have e1 : n.kind ≠ 1 ∧ n.kind ≠ 2 ∧ n.kind ≠ 5 ∧ n.kind ≠ 8 ∧ n.kind ≠ 9 ∧ n.kind ≠ 10 ∧ n.kind ≠ 11 := by omega
  obtain ⟨a1, a2, a5, a8, a9, a10, a11⟩ := e1
  rw [dF a1, cond_false, dF a2, cond_false, dF a5, cond_false, dF a8, cond_false, dF a9, cond_false, dF a10, cond_false, dF a11, cond_false]
  rcases hk with hk | hk
  · rw [dT hk, cond_true, cond_true, own_a hq, own_kind hq]
  · rw [dF (by omega : ¬ n.kind = 6), cond_false, dT hk, cond_true, own_a hq, own_kind hq]
def WrRun (f : Sl) (l : List Nd) (b : Ad) (h₀ : H) (t : Tr) : Prop :=
  ∀ (base k : Nat), (∀ i n, (t.flat base)[i]? = some n → l[base + i]? = some n) → 2 * t.size + 20 ≤ k → ∀ (h : H) (acc : List UInt8), Ext h₀ h → Bd h₀.next h b acc → acc.length + 20 * t.size ≤ 900000000 →
    ∃ h', (∀ (α : Type) (K : M α), syntax_write.f k b f ((base + t.size - 1 : Nat) : Int) K h = K h') ∧ Ext h₀ h' ∧ Bd h₀.next h' b (acc ++ prT t) ∧ Plain h h'
theorem Bd.ext {n0 : Nat} {h h' : H} {b : Ad} {l : List UInt8} (B : Bd n0 h b l) (x : Ext h h') : Bd n0 h' b l := by
  obtain ⟨p, s, hg, hp, hl⟩ := B.blk
  refine ⟨B.off, Nat.lt_of_lt_of_le B.lt x.1, B.new, p, s, by rw [x.2 _ B.lt]; exact hg, hp, hl.imp id ?_⟩
  rintro ⟨q1, q2, q3, a, q4, q5, q6, q7, q8, q9⟩
  exact ⟨q1, q2, q3, a, q4, q5, Nat.lt_of_lt_of_le q6 x.1, q7, q8, by rw [x.2 _ q6]; exact q9⟩
theorem ext_of {h₀ h1 h2 : H} (y : Ext h₀ h1) (hg : ∀ q, q < h₀.next → h2.get q = h1.get q) (hn : h1.next ≤ h2.next) : Ext h₀ h2 :=
  ⟨Nat.le_trans y.1 hn, fun q hq => by rw [hg q hq]; exact y.2 q hq⟩
end Go.Ab.S3
namespace Go.Ab.S3
set_option linter.unusedVariables false
set_option linter.unusedSimpArgs false
variable {α : Type} {h : H}
def chk : List Nd → List Int → List Bool → List Int → Nat → List (List UInt8) → Int × Int
  | n :: l, t :: T, o :: O, d :: D, i, seen =>
    if n.kind = 4 ∧ t < 0 then ((i : Int), 11) else if n.kind = 4 ∧ o = true then ((i : Int), 12) else if fixK n.kind = true ∧ n.name ∈ seen then ((i : Int), 9) else if fixK n.kind = true ∧ 4 < d then ((i : Int), 13)
    else chk l T O D (i + 1) (if fixK n.kind = true then seen ++ [n.name] else seen)
  | _, _, _, _, _, _ => (0, 0)
section
variable {h₀ : H} {w : Nat} {f to odd dep : Sl} {l : List Nd} {ins : Sl} {sc : List (Int × Int)} {nots : Int} {T : List Int} {O : List Bool} {D : List Int} {n : Nd} {q m i : Nat} {le : Int}
end
end Go.Ab.S3
namespace Go.Ab.S3
set_option linter.unusedVariables false
set_option linter.unusedSimpArgs false
variable {α : Type} {h : H}
def Below (l : List Nd) : Prop := ∀ i n, l[i]? = some n → (0 < arF n.kind → ∃ j : Nat, n.a = (j : Int) ∧ j < i) ∧ (1 < arF n.kind → ∃ j : Nat, n.b = (j : Int) ∧ j < i)
section
variable {h₀ : H} {f out : Sl} {l : List Nd}
structure Mine (h₀ h : H) (s : Sl) (cs : List V) : Prop where
  ext : Ext h₀ h
  own : Own h s 1 cs
  low : h₀.next ≤ s.id
theorem Mine.push {cs : List V} (m : Mine h₀ h out cs) {h' : H} (x : Ext h h') : Mine h₀ h' out cs := ⟨m.ext.trans x, m.own.ext x, m.low⟩
end
end Go.Ab.S3
namespace Go.Ab.S3
set_option linter.unusedVariables false
set_option linter.unusedSimpArgs false
variable {α : Type} {h : H}
section
variable {h₀ : H} {f out : Sl} {l : List Nd}
theorem set_set (T : List Int) (i : Nat) (x y : Int) : (T.set i x).set i y = T.set i y := by simp
end
end Go.Ab.S3
namespace Go.Ab.S3
set_option linter.unusedVariables false
set_option linter.unusedSimpArgs false
variable {α : Type} {h : H}
section
variable {f : Sl} {l : List Nd} {b : Ad} {h₀ : H}
theorem tr_root (t : Tr) (base : Nat) : (t.flat base)[t.size - 1]? = some (t.node base) := by
  cases t with
  | leaf k s p => rfl
  | un k s p a =>
    simp only [Tr.flat, Tr.size]
    rw [List.getElem?_append_right (by rw [flat_length]; omega), flat_length]
    simp
  | bin k s p a b =>
    simp only [Tr.flat, Tr.size]
    rw [List.getElem?_append_right (by rw [flat_length]; omega), flat_length, List.getElem?_append_right (by rw [flat_length]; omega), flat_length, show a.size + b.size + 1 - 1 - a.size - b.size = 0 by omega]
    rfl
theorem node_kind (t : Tr) (base : Nat) : (t.node base).kind = t.kind := by cases t <;> rfl
theorem root_at {t : Tr} {base : Nat} (hfl : ∀ i n, (t.flat base)[i]? = some n → l[base + i]? = some n) : l[base + t.size - 1]? = some (t.node base) := by
  have := hfl _ _ (tr_root t base)
  have hp := Tr.pos t
  rw [show base + t.size - 1 = base + (t.size - 1) by omega]
  exact this
theorem opd_run (r : NdR h₀ f l) {t : Tr} (ht : t.ok = true) (W : WrRun f l b h₀ t) {base : Nat} (hfl : ∀ i n, (t.flat base)[i]? = some n → l[base + i]? = some n) {k : Nat} (hk : 2 * t.size + 21 ≤ k) (over : Int) (first : Bool) (h : H) (acc : List UInt8) (x : Ext h₀ h) (B : Bd h₀.next h b acc) (hl : acc.length + 20 * t.size + 2 ≤ 900000000) :
    ∃ h', (∀ (α : Type) (K : M α), syntax_operand.f k b f ((base + t.size - 1 : Nat) : Int) over first K h = K h') ∧ Ext h₀ h' ∧ Bd h₀.next h' b (acc ++ paren (brk over t.kind first) (prT t)) ∧ Plain h h' := by
  obtain ⟨k, rfl⟩ : ∃ q, k = q + 3 := ⟨k - 3, by omega⟩
  have := operand_run k r (root_at hfl) (w := prT t) (prT_len t ht) (fun h acc x B hl => W base (k + 2) hfl (by omega) h acc x B hl) over first h acc x B hl
  rw [node_kind] at this
  exact this
theorem ar_67 {kd : Int} (h : arF kd ≠ 2) : kd ≠ 6 ∧ kd ≠ 7 := by
  constructor <;> (rintro rfl; exact h (by decide))
theorem ar_two {kd : Int} (h : arF kd = 2) : kd = 6 ∨ kd = 7 := by
  unfold arF at h
  split at h
  · omega
  split at h
  · omega
  split at h
  · assumption
  · omega
theorem bel_of {kd : Int} {m : Int} (h : arF kd = m) (h0 : 0 ≤ m) : belF kd = m := by
  unfold belF
  rw [if_neg (by omega), h]
theorem head_go (r : NdR h₀ f l) {i : Nat} {n : Nd} (hn : l[i]? = some n) (hok : namedF n.kind n.name = true) (h2 : arF n.kind ≠ 2) (k : Nat) (hk : 20 ≤ k) (h : H) (acc : List UInt8) (x : Ext h₀ h) (B : Bd h₀.next h b acc) (hl : acc.length + (headP n.kind n.name).length ≤ 900000000) :
    ∃ h', (∀ (α : Type) (K : M α), syntax_write.f (k + 1) b f (i : Int) K h = cond (decide (belF n.kind = 1)) (syntax_operand.f k b f n.a n.kind true K) K h') ∧ Ext h₀ h' ∧ Bd h₀.next h' b (acc ++ headP n.kind n.name) ∧ Plain h h' := by
  obtain ⟨k, rfl⟩ : ∃ q, k = q + 2 := ⟨k - 2, by omega⟩
  have hs := named_len hok
  have hx := headP_len n.kind hs
  have x1 : Ext h (h.push (ndC n)) := (Ext.refl h).push _
  have hq : (h.push (ndC n)).get h.next = some (ndC n) := by rw [push_get, if_pos rfl]
  obtain ⟨h2', e2, B2, g2, p2⟩ := ws_run k (B.ext x1) (headP n.kind n.name) (by omega)
  have hlt : h.next < (h.push (ndC n)).next := by rw [push_next]; omega
  have hq2 : h2'.get h.next = some (ndC n) := p2.2 _ _ _ hlt hq
  have x2 : Ext h₀ h2' := ext_of (x.trans x1) g2 p2.1
  have x3 : Ext h2' (h2'.push (ndC n)) := (Ext.refl h2').push _
  have hq3 : (h2'.push (ndC n)).get h.next = some (ndC n) := by rw [x3.2 _ (by have := p2.1; omega)]; exact hq2
  obtain ⟨a6, a7⟩ := ar_67 h2
  refine ⟨h2'.push (ndC n), fun α K => ?_, x2.trans x3, B2.ext x3, ((Ext.plain x1).trans p2).trans (Ext.plain x3)⟩
  rw [write_head (k + 2) (r.ext x) hn hs a6 a7, e2, syntax_write.u2.f, own_all hq2, below_run (k + 1) (by omega)]
  by_cases hb : belF n.kind = 1
  · rw [dT hb, cond_true, cond_true]
    show (ldI .i64 (((⟨h.next, 0⟩ : Ad).add 1).add 0) _) (h2'.push (ndC n)) = _
    rw [own_a hq3, own_kind hq3]
  · rw [dF hb, cond_false, cond_false]
theorem write_run (r : NdR h₀ f l) : ∀ t : Tr, t.ok = true → WrRun f l b h₀ t
  | .leaf kd s p, hok => by
    intro base k hfl hk h acc x B hl
    simp only [Tr.ok, Bool.and_eq_true, decide_eq_true_eq] at hok
    obtain ⟨k, rfl⟩ : ∃ q, k = q + 1 := ⟨k - 1, by omega⟩
    have hi := root_at hfl
    obtain ⟨h', e, x', B', p'⟩ := head_go r hi hok.2 (by show arF kd ≠ 2; rw [hok.1]; decide) k (by simp only [Tr.size] at hk; omega) h acc x B (by have := headP_len kd (named_len hok.2); simp only [Tr.size] at hl; show acc.length + (headP kd s).length ≤ _; omega)
    refine ⟨h', fun α K => ?_, x', B', p'⟩
    rw [e, dF (by rw [show belF ((Tr.leaf kd s p).node base).kind = 0 from bel_of hok.1 (by decide)]; decide), cond_false]
  | .un kd s p a, hok => by
    intro base k hfl hk h acc x B hl
    simp only [Tr.ok, Bool.and_eq_true, decide_eq_true_eq] at hok
    obtain ⟨k, rfl⟩ : ∃ q, k = q + 1 := ⟨k - 1, by omega⟩
    have hi := root_at hfl
    have hsub := flat_sub (l := l) (a := a) (base := base) (rest := [(Tr.un kd s p a).node base]) hfl
    have hh := headP_len kd (named_len hok.1.2)
    simp only [Tr.size] at hk hl
    obtain ⟨h1, e1, x1, B1, p1⟩ := head_go r hi hok.1.2 (by show arF kd ≠ 2; rw [hok.1.1]; decide) k (by omega) h acc x B (by show acc.length + (headP kd s).length ≤ _; omega)
    obtain ⟨h2, e2, x2, B2, p2⟩ := opd_run r hok.2 (write_run r a hok.2) hsub.1 (k := k) (by omega) kd true h1 _ x1 B1 (by show (acc ++ headP kd s).length + _ + 2 ≤ _; rw [List.length_append]; omega)
    refine ⟨h2, fun α K => ?_, x2, ?_, p1.trans p2⟩
    · rw [e1, dT (show belF ((Tr.un kd s p a).node base).kind = 1 from bel_of hok.1.1 (by decide)), cond_true]
      exact e2 α K
    · rw [prT, ← List.append_assoc]; exact B2
  | .bin kd s p a c, hok => by
    intro base k hfl hk h acc x B hl
    simp only [Tr.ok, Bool.and_eq_true, decide_eq_true_eq] at hok
    obtain ⟨k, rfl⟩ : ∃ q, k = q + 3 := ⟨k - 3, by omega⟩
    have hi := root_at hfl
    have hs1 := flat_sub (l := l) (a := a) (base := base) (rest := c.flat (base + a.size) ++ [(Tr.bin kd s p a c).node base]) hfl
    have hs2 := flat_sub (l := l) (a := c) (base := base + a.size) (rest := [(Tr.bin kd s p a c).node base]) hs1.2
    have hk2 := ar_two hok.1.1.1
    simp only [Tr.size] at hk hl
    have hsg : (if kd = 7 then [32, 124, 32] else [32, 38, 32] : List UInt8).length = 3 := by split <;> rfl
    have hla := paren_len (brk kd a.kind true) (prT a)
    have hlb := prT_len a hok.1.2
    have x1 : Ext h (h.push (ndC ((Tr.bin kd s p a c).node base))) := (Ext.refl h).push _
    have hq : (h.push (ndC ((Tr.bin kd s p a c).node base))).get h.next = some (ndC ((Tr.bin kd s p a c).node base)) := by rw [push_get, if_pos rfl]
    have hlt : h.next < (h.push (ndC ((Tr.bin kd s p a c).node base))).next := by rw [push_next]; omega
    obtain ⟨h2, e2, x2, B2, p2⟩ := opd_run r hok.1.2 (write_run r a hok.1.2) hs1.1 (k := k + 2) (by omega) kd true _ _ (x.trans x1) (B.ext x1) (by omega)
    have hq2 := p2.2 _ _ _ hlt hq
    obtain ⟨h3, e3, B3, g3, p3⟩ := ws_run k B2 (if kd = 7 then [32, 124, 32] else [32, 38, 32]) (by rw [List.length_append]; omega)
    have hlt2 : h.next < h2.next := Nat.lt_of_lt_of_le hlt p2.1
    have hq3 := p3.2 _ _ _ hlt2 hq2
    obtain ⟨h4, e4, x4, B4, p4⟩ := opd_run r hok.2 (write_run r c hok.2) hs2.1 (k := k + 2) (by omega) kd false _ _ (ext_of x2 g3 p3.1) B3 (by rw [List.length_append, List.length_append]; omega)
    refine ⟨h4, fun α K => ?_, x4, ?_, (((Ext.plain x1).trans p2).trans p3).trans p4⟩
    · rw [write_two (k + 2) (r.ext x) hi hk2]
      refine (e2 α _).trans ?_
      rw [own_kind hq2]
      by_cases h7 : kd = 7
      · rw [if_pos h7] at e3
        rw [dT (show ((Tr.bin kd s p a c).node base).kind = 7 from h7), cond_true, e3, own_b hq3, own_kind hq3]
        exact e4 α K
      · rw [if_neg h7] at e3
        rw [dF (show ¬ ((Tr.bin kd s p a c).node base).kind = 7 from h7), cond_false, e3, own_b hq3, own_kind hq3]
        exact e4 α K
    · rw [prT, ← List.append_assoc, ← List.append_assoc]; exact B4
end
end Go.Ab.S3
namespace Go.Ab.S3
set_option linter.unusedVariables false
set_option linter.unusedSimpArgs false
variable {α : Type} {h : H}
theorem newT_run {t : Nat} {cs : List V} {K : Ad → M α} (hc : cs.all oneV = true) : newT t cs K h = K ⟨h.next, 0⟩ (h.push (.cellsT t true cs)) := by
  unfold newT; rw [need_run hc]
theorem print_run (k : Nat) (hk : 200 ≤ k) {f : Sl} {t : Tr} (ht : t.ok = true) (hs : t.size ≤ 60) (h : H) (r : NdR h f (t.flat 0)) :
    ∃ h', (∀ (α : Type) (ret : List UInt8 → M α), syntax_Print.f (k + 1) f ret h = ret (prT t) h') ∧ Ext h h' := by
  obtain ⟨k, rfl⟩ : ∃ q, k = q + 1 := ⟨k - 1, by omega⟩
  have hR : rightF (t.flat 0) = true := (right_iff _).2 ⟨t, ht, rfl, hs⟩
  obtain ⟨h1, e1, x1⟩ := right_run k (by omega) h r
  have hpos := Tr.pos t
  have hlen := nd_slen r
  rw [flat_length] at hlen
  have x2 : Ext h1 (h1.push (.cellsT 64 true [.ptr none, .slice Sl.nil])) := (Ext.refl h1).push _
  have B : Bd h1.next (h1.push (.cellsT 64 true [.ptr none, .slice Sl.nil])) ⟨h1.next, 0⟩ [] :=
    ⟨rfl, by show h1.next < h1.next + 1; omega, Nat.le_refl _, .ptr none, Sl.nil, by show (h1.push _).get h1.next = _; rw [push_get, if_pos rfl], .inl rfl, .inl ⟨rfl, rfl⟩⟩
  obtain ⟨h3, e3, x3, B3, _⟩ := write_run (b := ⟨h1.next, 0⟩) (r.ext x1) t ht 0 (k + 1) (fun i n hi => by rw [Nat.zero_add]; exact hi) (by omega) _ [] x2 B (by simp; omega)
  obtain ⟨h4, e4, g4, n4⟩ := bs_run k B3 (by have := prT_len t ht; rw [List.nil_append]; omega)
  refine ⟨h4, fun α ret => ?_, x1.trans (ext_of x3 g4 n4)⟩
  rw [syntax_Print.f, syntax_Print.u1.f, e1, hR, Bool.not_true, cond_false, newT_run rfl, hlen, w64_eq (by omega) (by omega)]
  rw [show ((t.size : Int) - 1) = ((0 + t.size - 1 : Nat) : Int) by omega, e3, e4, List.nil_append]
theorem print_bad (k : Nat) (hk : 200 ≤ k) {f : Sl} {l : List Nd} (hR : rightF l = false) (h : H) (r : NdR h f l) :
    ∃ h', (∀ (α : Type) (ret : List UInt8 → M α), syntax_Print.f (k + 1) f ret h = ret [] h') ∧ Ext h h' := by
  obtain ⟨k, rfl⟩ : ∃ q, k = q + 1 := ⟨k - 1, by omega⟩
  obtain ⟨h1, e1, x1⟩ := right_run k (by omega) h r
  refine ⟨h1, fun α ret => ?_, x1⟩
  rw [syntax_Print.f, syntax_Print.u1.f, e1, hR, Bool.not_false, cond_true]
theorem r4fix_run (k : Nat) (x : Int) (ret : Bool → M α) : r4fixpoint.f (k + 1) x ret h = ret (fixK x) h := by
  rw [r4fixpoint.f]
  unfold r4fixpoint.u1.f fixK
  cases decide (x = 10) <;> rfl
def TxRun (f : Sl) (l : List Nd) (h₀ : H) (t : Tr) : Prop :=
  ∀ (base k : Nat), (∀ i n, (t.flat base)[i]? = some n → l[base + i]? = some n) → 2 * t.size + 20 ≤ k → ∀ (h : H), Ext h₀ h →
    ∃ h', (∀ (α : Type) (ret : List UInt8 → M α), r4text.f k f ((base + t.size - 1 : Nat) : Int) ret h = ret (prT t) h') ∧ Ext h h'
section
variable {f : Sl} {l : List Nd} {h₀ : H}
theorem ropd_run (r : NdR h₀ f l) {t : Tr} (ht : t.ok = true) (hs : t.size ≤ 1000) (W : TxRun f l h₀ t) {base : Nat} (hfl : ∀ i n, (t.flat base)[i]? = some n → l[base + i]? = some n) {k : Nat} (hk : 2 * t.size + 21 ≤ k) (over : Int) (ho : 1 ≤ arF over) (first : Bool) (h : H) (x : Ext h₀ h) :
    ∃ h', (∀ (α : Type) (ret : List UInt8 → M α), r4operand.f k f ((base + t.size - 1 : Nat) : Int) over first ret h = ret (paren (brk over t.kind first) (prT t)) h') ∧ Ext h h' := by
  obtain ⟨k, rfl⟩ : ∃ q, k = q + 2 := ⟨k - 2, by omega⟩
  obtain ⟨h1, e1, x1⟩ := W base (k + 1) hfl (by omega) h x
  have hl := prT_len t ht
  have hn := root_at hfl
  refine ⟨h1, fun α ret => ?_, x1⟩
  have fx : ∀ (K : Bool → M α), r4fixpoint.f (k + 1) t.kind K = K (fixK t.kind) := fun K => funext fun _ => r4fix_run _ _ _
  rw [r4operand.f, r4operand.u1.f, e1, nd_kind (r.ext (x.trans x1)) rfl hn, r4fix_run, node_kind, fx]
  have c : ∀ K : List UInt8 → M α, cat [40] (prT t) (fun x => cat x [41] K) h1 = K (paren true (prT t)) h1 := fun K => by
    rw [cat_run (by simp; omega), cat_run (by simp; omega)]; rfl
  have o : over = 5 ∨ over = 6 ∨ over = 7 ∨ over = 8 ∨ over = 9 ∨ fixK over = true := by
    unfold arF at ho
    unfold fixK
    split at ho
    · omega
    split at ho
    · simp; omega
    split at ho
    · omega
    · omega
  unfold brk
  rcases o with rfl | rfl | rfl | rfl | rfl | o
  case inr.inr.inr.inr.inr => rw [o]; rfl
  all_goals (cases fixK t.kind <;> cases decide (t.kind = 7) <;> cases decide (t.kind = 6) <;> cases first <;> first | rfl | exact c _)
theorem text_run (r : NdR h₀ f l) : ∀ t : Tr, t.ok = true → t.size ≤ 1000 → TxRun f l h₀ t
  | .leaf kd s p, hok, hs => by
    intro base k hfl hk h x
    simp only [Tr.ok, Bool.and_eq_true, decide_eq_true_eq] at hok
    obtain ⟨k, rfl⟩ : ∃ q, k = q + 1 := ⟨k - 1, by omega⟩
    have hi := root_at hfl
    have x1 : Ext h (h.push (ndC ((Tr.leaf kd s p).node base))) := (Ext.refl h).push _
    have hq : (h.push (ndC ((Tr.leaf kd s p).node base))).get h.next = some (ndC ((Tr.leaf kd s p).node base)) := by rw [push_get, if_pos rfl]
    refine ⟨_, fun α ret => ?_, x1⟩
    rw [r4text.f, r4text.u1.f, nd_rd (r.ext x) rfl hi, nd_copy, own_kind hq]
    have e : kd = 1 ∨ kd = 2 ∨ kd = 3 ∨ kd = 4 := by
      have h0 := hok.1
      unfold arF at h0
      split at h0
      · assumption
      split at h0
      · omega
      split at h0 <;> omega
    rcases e with rfl | rfl | rfl | rfl
    · rfl
    · rfl
    · show (ldStr _ _) _ = _
      rw [own_name hq]; rfl
    · show (ldStr _ _) _ = _
      rw [own_name hq]; rfl
  | .un kd s p a, hok, hs => by
    intro base k hfl hk h x
    simp only [Tr.ok, Bool.and_eq_true, decide_eq_true_eq] at hok
    simp only [Tr.size] at hs hk
    obtain ⟨k, rfl⟩ : ∃ q, k = q + 1 := ⟨k - 1, by omega⟩
    have hi := root_at hfl
    have hsub := flat_sub (l := l) (a := a) (base := base) (rest := [(Tr.un kd s p a).node base]) hfl
    have hn8 := named_len hok.1.2
    have x1 : Ext h (h.push (ndC ((Tr.un kd s p a).node base))) := (Ext.refl h).push _
    have hq : (h.push (ndC ((Tr.un kd s p a).node base))).get h.next = some (ndC ((Tr.un kd s p a).node base)) := by rw [push_get, if_pos rfl]
    obtain ⟨h2, e2, x2⟩ := ropd_run r hok.2 (by omega) (text_run r a hok.2 (by omega)) hsub.1 (k := k) (by omega) kd (by rw [hok.1.1]; decide) true _ (x.trans x1)
    have hq2 : h2.get h.next = some (ndC ((Tr.un kd s p a).node base)) := by rw [x2.2 _ (by rw [push_next]; omega)]; exact hq
    have hl := prT_len a hok.2
    have hl2 := paren_len (brk kd a.kind true) (prT a)
    refine ⟨h2, fun α ret => ?_, x1.trans x2⟩
    rw [r4text.f, r4text.u1.f, nd_rd (r.ext x) rfl hi, nd_copy, own_kind hq]
    have e : kd = 5 ∨ kd = 8 ∨ kd = 9 ∨ kd = 10 ∨ kd = 11 := by
      have h0 := hok.1.1
      unfold arF at h0
      split at h0
      · omega
      split at h0
      · assumption
      split at h0 <;> omega
    have hcat : ∀ (u v : List UInt8) (K : List UInt8 → M α) (h : H), u.length + v.length ≤ 100000 → cat u v K h = K (u ++ v) h := fun u v K h hl => cat_run (by omega)
    rcases e with rfl | rfl | rfl | rfl | rfl
    · show (ldI _ _ _) _ = _
      rw [own_a hq, own_kind hq]
      refine (e2 α _).trans ?_
      rw [hcat _ _ _ _ (by simp; omega)]
      rfl
    all_goals
      show (ldStr _ _) _ = _
      rw [own_name hq, hcat _ _ _ _ (by show _ + s.length ≤ _; simp; omega), hcat _ _ _ _ (by rw [List.length_append]; show _ + s.length + _ ≤ _; simp; omega), own_a hq, own_kind hq]
      refine (e2 α _).trans ?_
      rw [own_name hq2, need_run (dT rfl), hcat _ _ _ _ (by rw [List.length_append, List.length_append]; show _ + s.length + _ + _ ≤ _; simp; omega)]
      rfl
  | .bin kd s p a c, hok, hs => by
    intro base k hfl hk h x
    simp only [Tr.ok, Bool.and_eq_true, decide_eq_true_eq] at hok
    simp only [Tr.size] at hs hk
    obtain ⟨k, rfl⟩ : ∃ q, k = q + 1 := ⟨k - 1, by omega⟩
    have hi := root_at hfl
    have hs1 := flat_sub (l := l) (a := a) (base := base) (rest := c.flat (base + a.size) ++ [(Tr.bin kd s p a c).node base]) hfl
    have hs2 := flat_sub (l := l) (a := c) (base := base + a.size) (rest := [(Tr.bin kd s p a c).node base]) hs1.2
    have x1 : Ext h (h.push (ndC ((Tr.bin kd s p a c).node base))) := (Ext.refl h).push _
    have hq : (h.push (ndC ((Tr.bin kd s p a c).node base))).get h.next = some (ndC ((Tr.bin kd s p a c).node base)) := by rw [push_get, if_pos rfl]
    obtain ⟨h2, e2, x2⟩ := ropd_run r hok.1.2 (by omega) (text_run r a hok.1.2 (by omega)) hs1.1 (k := k) (by omega) kd (by rw [hok.1.1.1]; decide) true _ (x.trans x1)
    have hq2 : h2.get h.next = some (ndC ((Tr.bin kd s p a c).node base)) := by rw [x2.2 _ (by rw [push_next]; omega)]; exact hq
    obtain ⟨h3, e3, x3⟩ := ropd_run r hok.2 (by omega) (text_run r c hok.2 (by omega)) hs2.1 (k := k) (by omega) kd (by rw [hok.1.1.1]; decide) false _ ((x.trans x1).trans x2)
    have hl := prT_len a hok.1.2
    have hl2 := paren_len (brk kd a.kind true) (prT a)
    have hlc := prT_len c hok.2
    have hlc2 := paren_len (brk kd c.kind false) (prT c)
    refine ⟨h3, fun α ret => ?_, (x1.trans x2).trans x3⟩
    rw [r4text.f, r4text.u1.f, nd_rd (r.ext x) rfl hi, nd_copy, own_kind hq]
    have hcat : ∀ (u v : List UInt8) (K : List UInt8 → M α) (h : H), u.length + v.length ≤ 100000 → cat u v K h = K (u ++ v) h := fun u v K h hl => cat_run (by omega)
    rcases ar_two hok.1.1.1 with rfl | rfl
    all_goals
      show (ldI _ _ _) _ = _
      rw [own_a hq, own_kind hq, own_b hq, own_kind hq]
      refine (e2 α _).trans ?_
      rw [own_b hq2, need_run (dT rfl), own_kind hq2, need_run (dT rfl), hcat _ _ _ _ (by simp; omega)]
      refine (e3 α _).trans ?_
      rw [hcat _ _ _ _ (by simp; omega), List.append_assoc]
      rfl
end
theorem rprint_run (k : Nat) (hk : 200 ≤ k) {f : Sl} {t : Tr} (ht : t.ok = true) (hs : t.size ≤ 60) (hnl : NL (t.flat 0)) (h : H) (r : NdR h f (t.flat 0)) :
    ∃ h', (∀ (α : Type) (ret : List UInt8 → M α), r4Print.f (k + 1) f ret h = ret (prT t) h') ∧ Ext h h' := by
  obtain ⟨k, rfl⟩ : ∃ q, k = q + 1 := ⟨k - 1, by omega⟩
  have hR : rightF (t.flat 0) = true := (right_iff _).2 ⟨t, ht, rfl, hs⟩
  obtain ⟨h1, e1, x1⟩ := rright_run k (by omega) hnl h r
  have hpos := Tr.pos t
  have hlen := nd_slen r
  rw [flat_length] at hlen
  obtain ⟨h3, e3, x3⟩ := text_run (r.ext x1) t ht (by omega) 0 (k + 1) (fun i n hi => by rw [Nat.zero_add]; exact hi) (by omega) _ (Ext.refl _)
  refine ⟨h3, fun α ret => ?_, x1.trans x3⟩
  rw [r4Print.f, r4Print.u1.f, e1, hR, Bool.not_true, cond_false, hlen, w64_eq (by omega) (by omega)]
  rw [show ((t.size : Int) - 1) = ((0 + t.size - 1 : Nat) : Int) by omega, e3]
theorem rprint_bad (k : Nat) (hk : 200 ≤ k) {f : Sl} {l : List Nd} (hR : rightF l = false) (hnl : NL l) (h : H) (r : NdR h f l) :
    ∃ h', (∀ (α : Type) (ret : List UInt8 → M α), r4Print.f (k + 1) f ret h = ret [] h') ∧ Ext h h' := by
  obtain ⟨k, rfl⟩ : ∃ q, k = q + 1 := ⟨k - 1, by omega⟩
  obtain ⟨h1, e1, x1⟩ := rright_run k (by omega) hnl h r
  refine ⟨h1, fun α ret => ?_, x1⟩
  rw [r4Print.f, r4Print.u1.f, e1, hR, Bool.not_false, cond_true]
end Go.Ab.S3
namespace Go.Ab.S3
set_option linter.unusedVariables false
set_option linter.unusedSimpArgs false
variable {α : Type} {h : H}
def psF (at_ : Bool) (n : Nd) : Nd := if at_ = true then n else { n with pos := 0 }
theorem nd_eq (a b : Nd) : (decide (a.kind = b.kind) && (decide (a.a = b.a) && (decide (a.b = b.b) && (decide (a.name = b.name) && (decide (a.pos = b.pos) && true))))) = decide (a = b) := by
  rw [Bool.eq_iff_iff]
  simp only [Bool.and_eq_true, decide_eq_true_eq, and_true]
  cases a; cases b
  simp [Nd.mk.injEq]
theorem same_loop {h₀ : H} {f g : Sl} {l m : List Nd} (r : NdR h₀ f l) (q : NdR h₀ g m) (hlen : l.length = m.length) (hl : l.length ≤ 4611686018427387900) (at_ : Bool) (k : Nat) : ∀ (j i : Nat) (h : H), i ≤ l.length → l.length - i < j → Ext h₀ h →
    ∃ h', Ext h₀ h' ∧ ∀ (α : Type) (kr : Bool → M α) (kx : M α), r4Same.u4.l k kr kx j f g at_ (i : Int) h = if (l.drop i).map (psF at_) = (m.drop i).map (psF at_) then kx h' else kr false h' := by
  intro j
  induction j with
  | zero => intro i h hi hj; omega
  | succ j ih =>
    intro i h hi hj x
    have hfl := nd_slen r
    by_cases hlt : i < l.length
    rotate_left
    · refine ⟨h, x, fun α kr kx => ?_⟩
      rw [r4Same.u4.l, r4Same.u3.f, hfl, dF (by omega : ¬ (i : Int) < (l.length : Int)), cond_false, List.drop_of_length_le (by omega), List.drop_of_length_le (by omega), if_pos rfl]
    have hn : l[i]? = some l[i] := List.getElem?_eq_getElem hlt
    have hm : m[i]? = some m[i] := List.getElem?_eq_getElem (by omega)
    rw [List.drop_eq_getElem_cons hlt, List.drop_eq_getElem_cons (by omega : i < m.length)]
    generalize l[i] = a at hn ⊢
    generalize m[i] = b at hm ⊢
    have x1 : Ext h ((h.push (ndC (psF at_ a))).push (ndC (psF at_ b))) := ((Ext.refl h).push _).push _
    have hqa : ((h.push (ndC (psF at_ a))).push (ndC (psF at_ b))).get h.next = some (ndC (psF at_ a)) := by
      rw [push_get, if_neg (by rw [push_next]; omega), push_get, if_pos rfl]
    have hqb : ((h.push (ndC (psF at_ a))).push (ndC (psF at_ b))).get (h.next + 1) = some (ndC (psF at_ b)) := by
      rw [push_get, if_pos (by rw [push_next])]
    have start : ∀ (α : Type) (kr : Bool → M α) (kx : M α), r4Same.u4.l k kr kx (j + 1) f g at_ (i : Int) h = cond (!(decide (psF at_ a = psF at_ b))) (kr false) (r4Same.u4.l k kr kx j f g at_ (w64 ((i : Int) + 1))) ((h.push (ndC (psF at_ a))).push (ndC (psF at_ b))) := fun α kr kx => by
      rw [r4Same.u4.l, r4Same.u3.f, hfl, dT (by omega : (i : Int) < (l.length : Int)), cond_true, nd_rd (r.ext x) rfl hn, nd_copy, nd_rd (q.ext (x.push _)) rfl hm, nd_copy]
      rw [show (h.push (Blk.cells [.int .i64 a.kind, .int .i64 a.a, .int .i64 a.b, .str a.name, .int .i64 a.pos] true)).next = h.next + 1 from rfl]
      cases at_ with
      | true =>
        rw [Bool.not_true, cond_false, own_all (h := (h.push (ndC a)).push (ndC b)) (n := a) hqa, own_all (h := (h.push (ndC a)).push (ndC b)) (n := b) hqb, nd_eq]
        rfl
      | false =>
        rw [Bool.not_false, cond_true]
        have s1 : ∀ K : M α, st1 (((⟨h.next, 0⟩ : Ad).add 4).add 0) (.int .i64 0) K ((h.push (ndC a)).push (ndC b)) = K ((h.push (ndC (psF false a))).push (ndC b)) := fun K => by
          simp only [add_mk]
          exact st1_new2 rfl (by simp)
        have s2 : ∀ K : M α, st1 (((⟨h.next + 1, 0⟩ : Ad).add 4).add 0) (.int .i64 0) K ((h.push (ndC (psF false a))).push (ndC b)) = K ((h.push (ndC (psF false a))).push (ndC (psF false b))) := fun K => by
          simp only [add_mk]
          exact st1_new (h := h.push (ndC (psF false a))) rfl (by simp)
        rw [s1, s2, own_all (n := psF false a) hqa, own_all (n := psF false b) hqb, nd_eq]
    generalize (h.push (ndC (psF at_ a))).push (ndC (psF at_ b)) = h1 at start x1
    simp only [List.map_cons]
    by_cases he : psF at_ a = psF at_ b
    · obtain ⟨h', x', e'⟩ := ih (i + 1) h1 (by omega) (by omega) (x.trans x1)
      refine ⟨h', x', fun α kr kx => ?_⟩
      rw [start, dT he, Bool.not_true, cond_false, w64_eq (by omega) (by omega), he]
      simp only [List.cons.injEq, true_and]
      exact e' α kr kx
    · refine ⟨h1, x.trans x1, fun α kr kx => ?_⟩
      rw [start, dF he, Bool.not_false, cond_true, if_neg (fun e => he (List.cons.inj e).1)]
theorem same_run (k : Nat) {f g : Sl} {l m : List Nd} (h : H) (r : NdR h f l) (q : NdR h g m) (hk : l.length + 2 ≤ k) (hl : l.length ≤ 4611686018427387900) (at_ : Bool) :
    ∃ h', (∀ (α : Type) (ret : Bool → M α), r4Same.f (k + 1) f g at_ ret h = ret (decide (l.map (psF at_) = m.map (psF at_))) h') ∧ Ext h h' := by
  have hfl := nd_slen r
  have hgl := nd_slen q
  by_cases hlen : l.length = m.length
  · obtain ⟨h', x', e'⟩ := same_loop r q hlen hl at_ k k 0 h (Nat.zero_le _) (by omega) (Ext.refl h)
    simp only [List.drop_zero] at e'
    refine ⟨h', fun α ret => ?_, x'⟩
    rw [r4Same.f, r4Same.u9.f, r4Same.u1.f, hfl, hgl, dT (by omega : (l.length : Int) = (m.length : Int)), Bool.not_true, cond_false, r4Same.u8.f, r4Same.u6.f, r4Same.u2.f, r4Same.u5.f, r4Same.u4.f]
    refine (e' α _ _).trans ?_
    by_cases he : l.map (psF at_) = m.map (psF at_)
    · rw [if_pos he, dT he, r4Same.u7.f]
    · rw [if_neg he, dF he]
  · refine ⟨h, fun α ret => ?_, Ext.refl h⟩
    rw [r4Same.f, r4Same.u9.f, r4Same.u1.f, hfl, hgl, dF (by omega : ¬ (l.length : Int) = (m.length : Int)), Bool.not_false, cond_true, dF (fun e => hlen (by have := congrArg List.length e; simpa using this))]
def n7 : Nd := ⟨-7, 0, 0, [], 0⟩
structure Lent (h : H) (o : Sl) (l : List Nd) : Prop where
  all : Rd h ⟨o.ad, l.length + 1, l.length + 1, o.loose⟩ 5 (cN (l ++ [n7]))
  len : o.len = l.length
  cap : o.cap = l.length + 1
  lo : o.loose = some 5
theorem Lent.ext {o : Sl} {l : List Nd} (L : Lent h o l) {h' : H} (x : Ext h h') : Lent h' o l := ⟨L.all.ext x, L.len, L.cap, L.lo⟩
theorem Lent.rd {o : Sl} {l : List Nd} (L : Lent h o l) : NdR h o l := by
  have := L.all.to l.length o.cap o.loose (Nat.le_succ _)
  rw [flat_take Nd.len, List.take_left] at this
  cases o
  have h2 := L.len
  dsimp only at h2 this ⊢
  rw [h2]
  exact this
def Room (n : Nat) : Prop := n * 48 ≤ 140737488351232
theorem room_a {n : Nat} (h : Room n) : (n + n / 4 + 512) * 48 ≤ 281474976710656 := by unfold Room at h; omega
theorem room_b {n : Nat} (h : Room n) : (n + 1 + (n + 1) / 4 + 512) * 48 ≤ 281474976710656 := by unfold Room at h; omega
end Go.Ab.S3
namespace Go.Ab.S3
set_option linter.unusedVariables false
set_option linter.unusedSimpArgs false
structure St where
  l : List Tok
  made : Nat
  f : List Nd
  deriving DecidableEq
abbrev Er := Int × Int
def St.hd (s : St) : Tok := s.l.headD ⟨0, 0, [], 0⟩
def St.adv (s : St) : St := { s with l := s.l.tail }
def isS (sign : List UInt8) (s : St) : Bool := decide (s.hd.kind = 5) && decide (s.hd.text = sign)
def wrongE (s : St) : Er := (s.hd.pos, if s.hd.kind = 0 then 6 else 7)
def makesE (s : St) : Except Er (Tok × St) := if s.made = 60 then .error (s.hd.pos, 10) else .ok (s.hd, { s.adv with made := s.made + 1 })
def needE (sign : List UInt8) (s : St) : Except Er St := if isS sign s = true then .ok s.adv else .error (wrongE s)
def layE (n : Nd) (s : St) : Int × St := ((s.f.length : Int), { s with f := s.f ++ [n] })
def stepE (shut : List UInt8) (s : St) : Except Er (List UInt8 × St) :=
  if isS [45] s = true ∨ (s.hd.kind = 2 ∧ wordsF s.hd.text = false) then (match needE shut s.adv with | .error e => .error e | .ok s' => .ok (s.hd.text, s')) else .error (wrongE s)
inductive Rl where
  | un
  | row (o : Bool)
  | loop (o : Bool)
def signO (o : Bool) : List UInt8 := if o then [124] else [38]
def kindO (o : Bool) : Int := if o then 7 else 6
def oneO (o : Bool) : Rl := if o then .row false else .un
def bindE {β γ : Type} (x : Except Er β) (f : β → Except Er γ) : Except Er γ := match x with | .error e => .error e | .ok b => f b
def pz : Nat → Rl → Int → St → Except Er (Int × St)
  | 0, _, _, _ => .error (0, 0)
  | j + 1, .row o, _, s => bindE (pz j (oneO o) 0 s) fun x => pz j (.loop o) x.1 x.2
  | j + 1, .loop o, a, s =>
    if isS (signO o) s = true then
      bindE (makesE s) fun x => bindE (pz j (oneO o) 0 x.2) fun y => pz j (.loop o) (layE ⟨kindO o, a, y.1, [], x.1.pos⟩ y.2).1 (layE ⟨kindO o, a, y.1, [], x.1.pos⟩ y.2).2
    else .ok (a, s)
  | j + 1, .un, _, s =>
    if isS [126] s = true then bindE (makesE s) fun x => bindE (pz j .un 0 x.2) fun y => .ok (layE ⟨5, y.1, 0, [], x.1.pos⟩ y.2)
    else if isS [60] s = true then bindE (makesE s) fun x => bindE (stepE [62] x.2) fun z => bindE (pz j .un 0 z.2) fun y => .ok (layE ⟨8, y.1, 0, z.1, x.1.pos⟩ y.2)
    else if isS [91] s = true then bindE (makesE s) fun x => bindE (stepE [93] x.2) fun z => bindE (pz j .un 0 z.2) fun y => .ok (layE ⟨9, y.1, 0, z.1, x.1.pos⟩ y.2)
    else if isS [40] s = true then bindE (pz j (.row true) 0 s.adv) fun y => bindE (needE [41] y.2) fun z => .ok (y.1, z)
    else if s.hd.kind = 3 then bindE (makesE s) fun x => .ok (layE ⟨4, 0, 0, x.1.text, x.1.pos⟩ x.2)
    else if s.hd.kind = 2 then bindE (makesE s) fun x =>
      if x.1.text = [116, 116] then .ok (layE ⟨1, 0, 0, [], x.1.pos⟩ x.2)
      else if x.1.text = [102, 102] then .ok (layE ⟨2, 0, 0, [], x.1.pos⟩ x.2)
      else if x.1.text = [109, 117] ∨ x.1.text = [110, 117] then
        (if x.2.hd.kind = 3 then bindE (needE [46] x.2.adv) fun z => bindE (pz j (.row true) 0 z) fun y => .ok (layE ⟨if x.1.text = [109, 117] then 10 else 11, y.1, 0, x.2.hd.text, x.1.pos⟩ y.2) else .error (wrongE x.2))
      else .ok (layE ⟨3, 0, 0, x.1.text, x.1.pos⟩ x.2)
    else .error (wrongE s)
def parseE (l : List Tok) : Except Er (List Nd) :=
  bindE (pz (3 * l.length + 10) (.row true) 0 ⟨l, 0, []⟩) fun y => if y.2.hd.kind = 0 then .ok y.2.f else .error (wrongE y.2)
def Ends : List Tok → Prop
  | [] => False
  | [t] => t.kind = 0
  | t :: u :: l => t.kind ≠ 0 ∧ Ends (u :: l)
theorem Ends.ne {l : List Tok} (h : Ends l) : ∃ t r, l = t :: r := by
  match l, h with
  | [t], _ => exact ⟨t, [], rfl⟩
  | t :: u :: r, _ => exact ⟨t, u :: r, rfl⟩
theorem Ends.tail {l : List Tok} {t : Tok} (h : Ends (t :: l)) (hk : t.kind ≠ 0) : Ends l := by
  match l, h with
  | [], h => exact absurd h hk
  | u :: r, h => exact h.2
theorem isS_kind {sign : List UInt8} {s : St} (h : isS sign s = true) : s.hd.kind = 5 := by
  simp only [isS, Bool.and_eq_true, decide_eq_true_eq] at h; exact h.1
theorem adv_ends {s : St} (h : Ends s.l) (hk : s.hd.kind ≠ 0) : Ends s.adv.l := by
  obtain ⟨t, r, hl⟩ := h.ne
  unfold St.hd at hk
  unfold St.adv
  rw [hl] at h hk ⊢
  exact h.tail hk
def Bal (s s' : St) : Prop := s'.made + s.f.length = s.made + s'.f.length ∧ s.made ≤ s'.made ∧ (s.made ≤ 60 → s'.made ≤ 60) ∧ (Ends s.l → Ends s'.l) ∧ s'.l.length ≤ s.l.length
theorem Bal.refl (s : St) : Bal s s := ⟨rfl, Nat.le_refl _, id, id, Nat.le_refl _⟩
theorem Bal.trans {a b c : St} (x : Bal a b) (y : Bal b c) : Bal a c := ⟨by have := x.1; have := y.1; omega, Nat.le_trans x.2.1 y.2.1, fun h => y.2.2.1 (x.2.2.1 h), fun h => y.2.2.2.1 (x.2.2.2.1 h), Nat.le_trans y.2.2.2.2 x.2.2.2.2⟩
theorem Bal.adv (s : St) (hk : s.hd.kind ≠ 0) : Bal s s.adv := ⟨rfl, Nat.le_refl _, id, fun he => adv_ends he hk, by unfold St.adv; rw [List.length_tail]; exact Nat.sub_le _ _⟩
theorem makesE_ok {s : St} {t : Tok} {s' : St} (h : makesE s = .ok (t, s')) : s.made ≠ 60 ∧ t = s.hd ∧ s' = { s.adv with made := s.made + 1 } := by
  unfold makesE at h
  split at h
  · cases h
  · cases h; exact ⟨by assumption, rfl, rfl⟩
theorem bindE_ok {β γ : Type} {x : Except Er β} {f : β → Except Er γ} {c : γ} (h : bindE x f = .ok c) : ∃ b, x = .ok b ∧ f b = .ok c := by
  cases x with
  | error e => cases h
  | ok b => exact ⟨b, rfl, h⟩
theorem needE_ok {sign : List UInt8} {s s' : St} (h : needE sign s = .ok s') : isS sign s = true ∧ s' = s.adv := by
  unfold needE at h
  split at h
  · cases h; exact ⟨by assumption, rfl⟩
  · cases h
theorem stepE_ok {shut : List UInt8} {s : St} {z : List UInt8 × St} (h : stepE shut s = .ok z) : (isS [45] s = true ∨ (s.hd.kind = 2 ∧ wordsF s.hd.text = false)) ∧ z.1 = s.hd.text ∧ isS shut s.adv = true ∧ z.2 = s.adv.adv := by
  unfold stepE at h
  split at h
  · rename_i hc
    cases hn : needE shut s.adv with
    | error e => rw [hn] at h; cases h
    | ok s' =>
      rw [hn] at h
      cases h
      obtain ⟨h1, rfl⟩ := needE_ok hn
      exact ⟨hc, rfl, h1, rfl⟩
  · cases h
theorem pz_bal : ∀ (j : Nat) (r : Rl) (a : Int) (s : St) (n : Int) (s' : St), pz j r a s = .ok (n, s') → Bal s s' := by
  intro j
  induction j with
  | zero => intro r a s n s' h; cases h
  | succ j ih =>
    intro r a s n s' h
    -- a token makes a node, which is laid behind what comes between
    have lay : ∀ {s1 s2 : St} {nd : Nd} {t : Tok}, makesE s = .ok (t, s1) → s.hd.kind ≠ 0 → Bal s1 s2 → Bal s (layE nd s2).2 := by
      intro s1 s2 nd t hm hk hb
      obtain ⟨h60, _, rfl⟩ := makesE_ok hm
      obtain ⟨b1, b2, b3, b4, b5⟩ := hb
      refine ⟨?_, ?_, ?_, fun he => b4 (adv_ends he hk), by simp only [layE, St.adv, List.length_tail] at *; omega⟩
      · simp only [layE, St.adv, List.length_append, List.length_cons, List.length_nil] at *; omega
      · simp only [layE, St.adv] at *; omega
      · intro h; exact b3 (by show s.made + 1 ≤ 60; omega)
    have refl := Bal.refl
    have trans : ∀ {a b c : St}, Bal a b → Bal b c → Bal a c := Bal.trans
    have adv := Bal.adv
    cases r with
    | row o =>
      rw [pz] at h
      obtain ⟨⟨m, s1⟩, h1, h2⟩ := bindE_ok h
      exact trans (ih _ _ _ _ _ h1) (ih _ _ _ _ _ h2)
    | loop o =>
      rw [pz] at h
      split at h
      · rename_i hs
        obtain ⟨⟨t, s1⟩, h1, h⟩ := bindE_ok h
        obtain ⟨⟨b, s2⟩, h2, h⟩ := bindE_ok h
        exact trans (lay h1 (by rw [isS_kind hs]; decide) (ih _ _ _ _ _ h2)) (ih _ _ _ _ _ h)
      · cases h; exact refl s
    | un =>
      rw [pz] at h
      have steps : ∀ (k : Int) (shut : List UInt8), s.hd.kind = 5 → bindE (makesE s) (fun x => bindE (stepE shut x.2) fun z => bindE (pz j .un 0 z.2) fun y => .ok (layE ⟨k, y.1, 0, z.1, x.1.pos⟩ y.2)) = .ok (n, s') → Bal s s' := by
        intro k shut hs h
        obtain ⟨⟨t, s1⟩, h1, h⟩ := bindE_ok h
        obtain ⟨⟨x, s2⟩, h2, h⟩ := bindE_ok h
        obtain ⟨⟨b, s3⟩, h3, h⟩ := bindE_ok h
        obtain ⟨c1, c2, c3, c4⟩ := stepE_ok h2
        have k1 : s1.hd.kind ≠ 0 := by
          rcases c1 with c1 | c1
          · rw [isS_kind c1]; decide
          · rw [c1.1]; decide
        have k2 : s1.adv.hd.kind ≠ 0 := by rw [isS_kind c3]; decide
        have b2 : Bal s1 s2 := by
          have : s2 = s1.adv.adv := c4
          rw [this]
          exact trans (adv s1 k1) (adv _ k2)
        have := lay (nd := ⟨k, b, 0, x, t.pos⟩) h1 (by rw [hs]; decide) (trans b2 (ih _ _ _ _ _ h3))
        cases h; exact this
      by_cases c1 : isS [126] s = true
      · rw [if_pos c1] at h
        obtain ⟨⟨t, s1⟩, h1, h⟩ := bindE_ok h
        obtain ⟨⟨b, s2⟩, h2, h⟩ := bindE_ok h
        have := lay (nd := ⟨5, b, 0, [], t.pos⟩) h1 (by rw [isS_kind c1]; decide) (ih _ _ _ _ _ h2)
        cases h; exact this
      rw [if_neg c1] at h
      by_cases c2 : isS [60] s = true
      · rw [if_pos c2] at h; exact steps 8 [62] (isS_kind c2) h
      rw [if_neg c2] at h
      by_cases c3 : isS [91] s = true
      · rw [if_pos c3] at h; exact steps 9 [93] (isS_kind c3) h
      rw [if_neg c3] at h
      by_cases c4 : isS [40] s = true
      · rw [if_pos c4] at h
        obtain ⟨⟨b, s1⟩, h1, h⟩ := bindE_ok h
        obtain ⟨s2, h2, h⟩ := bindE_ok h
        obtain ⟨d1, d2⟩ := needE_ok h2
        cases h
        rw [d2]
        exact trans (adv s (by rw [isS_kind c4]; decide)) (trans (ih _ _ _ _ _ h1) (adv _ (by rw [isS_kind d1]; decide)))
      rw [if_neg c4] at h
      by_cases c5 : s.hd.kind = 3
      · rw [if_pos c5] at h
        obtain ⟨⟨t, s1⟩, h1, h⟩ := bindE_ok h
        have := lay (nd := ⟨4, 0, 0, t.text, t.pos⟩) h1 (by rw [c5]; decide) (refl s1)
        cases h; exact this
      rw [if_neg c5] at h
      by_cases c6 : s.hd.kind = 2
      · rw [if_pos c6] at h
        obtain ⟨⟨t, s1⟩, h1, h⟩ := bindE_ok h
        have hk : s.hd.kind ≠ 0 := by rw [c6]; decide
        dsimp only at h
        by_cases d1 : t.text = [116, 116]
        · rw [if_pos d1] at h
          have := lay (nd := ⟨1, 0, 0, [], t.pos⟩) h1 hk (refl s1)
          cases h; exact this
        rw [if_neg d1] at h
        by_cases d2 : t.text = [102, 102]
        · rw [if_pos d2] at h
          have := lay (nd := ⟨2, 0, 0, [], t.pos⟩) h1 hk (refl s1)
          cases h; exact this
        rw [if_neg d2] at h
        by_cases d3 : t.text = [109, 117] ∨ t.text = [110, 117]
        · rw [if_pos d3] at h
          by_cases h3 : s1.hd.kind = 3
          · rw [if_pos h3] at h
            obtain ⟨s2, h2, h⟩ := bindE_ok h
            obtain ⟨⟨b, s3⟩, h4, h⟩ := bindE_ok h
            obtain ⟨e1, e2⟩ := needE_ok h2
            have b2 : Bal s1 s2 := by
              rw [e2]
              exact trans (adv s1 (by rw [h3]; decide)) (adv _ (by rw [isS_kind e1]; decide))
            have := lay (nd := ⟨if t.text = [109, 117] then 10 else 11, b, 0, s1.hd.text, t.pos⟩) h1 hk (trans b2 (ih _ _ _ _ _ h4))
            cases h; exact this
          · rw [if_neg h3] at h; cases h
        · rw [if_neg d3] at h
          have := lay (nd := ⟨3, 0, 0, t.text, t.pos⟩) h1 hk (refl s1)
          cases h; exact this
      · rw [if_neg c6] at h; cases h
def cost : Rl → Nat → Nat
  | .un, n => 3 * n + 1
  | .row o, n => if o then 3 * n + 3 else 3 * n + 2
  | .loop _, n => 3 * n + 1
theorem bindE_err {β γ : Type} {x : Except Er β} {f : β → Except Er γ} {e : Er} (h : bindE x f = .error e) : x = .error e ∨ ∃ b, x = .ok b ∧ f b = .error e := by
  cases x with
  | error e' =>
    left
    have h : (Except.error e' : Except Er γ) = .error e := h
    cases h; rfl
  | ok b => exact .inr ⟨b, rfl, h⟩
theorem makesE_err {s : St} {e : Er} (h : makesE s = .error e) : e.2 ≠ 0 := by
  unfold makesE at h
  split at h
  · cases h; show (10 : Int) ≠ 0; decide
  · cases h
theorem wrongE_ne (s : St) : (wrongE s).2 ≠ 0 := by unfold wrongE; dsimp only; split <;> decide
theorem needE_err {sign : List UInt8} {s : St} {e : Er} (h : needE sign s = .error e) : e.2 ≠ 0 := by
  unfold needE at h
  split at h
  · cases h
  · cases h; exact wrongE_ne s
theorem stepE_err {sign : List UInt8} {s : St} {e : Er} (h : stepE sign s = .error e) : e.2 ≠ 0 := by
  unfold stepE at h
  split at h
  · cases hn : needE sign s.adv with
    | error e' => rw [hn] at h; cases h; exact needE_err hn
    | ok s' => rw [hn] at h; cases h
  · cases h; exact wrongE_ne s
theorem adv_len {s : St} (he : Ends s.l) : s.adv.l.length + 1 = s.l.length := by
  obtain ⟨t, r, hl⟩ := he.ne
  unfold St.adv; rw [hl]; rfl
theorem pz_fuel : ∀ (j : Nat) (r : Rl) (a : Int) (s : St) (e : Er), Ends s.l → cost r s.l.length ≤ j → pz j r a s = .error e → e.2 ≠ 0 := by
  intro j
  induction j with
  | zero => intro r a s e he hc h; cases r <;> simp only [cost] at hc <;> (try split at hc) <;> omega
  | succ j ih =>
    intro r a s e he hc h
    have hlen := adv_len he
    cases r with
    | row o =>
      rw [pz] at h
      rcases bindE_err h with h | ⟨x, hx, h⟩
      · refine ih _ _ _ _ he ?_ h
        cases o <;> simp [cost, oneO] at hc ⊢ <;> omega
      · have hb := pz_bal _ _ _ _ _ _ hx
        refine ih _ _ _ _ (hb.2.2.2.1 he) ?_ h
        have := hb.2.2.2.2
        cases o <;> simp [cost] at hc ⊢ <;> omega
    | loop o =>
      rw [pz] at h
      simp only [cost] at hc
      by_cases hs : isS (signO o) s = true
      · rw [if_pos hs] at h
        have he1 := adv_ends he (by rw [isS_kind hs]; decide)
        rcases bindE_err h with h | ⟨x, hx, h⟩
        · exact makesE_err h
        obtain ⟨t, s1⟩ := x
        obtain ⟨_, _, hs1⟩ := makesE_ok hx
        have hl1 : s1.l = s.adv.l := by rw [hs1]
        dsimp only at h
        rcases bindE_err h with h | ⟨y, hy, h⟩
        · refine ih _ _ _ _ (by rw [hl1]; exact he1) ?_ h
          rw [hl1]
          cases o <;> simp [cost, oneO] <;> omega
        · have hb := pz_bal _ _ _ _ _ _ hy
          refine ih _ _ _ _ (by simp only [layE]; exact hb.2.2.2.1 (by rw [hl1]; exact he1)) ?_ h
          have := hb.2.2.2.2
          rw [hl1] at this
          simp only [cost, layE]
          omega
      · rw [if_neg hs] at h; cases h
    | un =>
      rw [pz] at h
      simp only [cost] at hc
      have steps : ∀ (k : Int) (shut : List UInt8), s.hd.kind = 5 → bindE (makesE s) (fun x => bindE (stepE shut x.2) fun z => bindE (pz j .un 0 z.2) fun y => .ok (layE ⟨k, y.1, 0, z.1, x.1.pos⟩ y.2)) = .error e → e.2 ≠ 0 := by
        intro k shut hs h
        have he1 := adv_ends he (by rw [hs]; decide)
        rcases bindE_err h with h | ⟨x, hx, h⟩
        · exact makesE_err h
        obtain ⟨t, s1⟩ := x
        obtain ⟨_, _, hs1⟩ := makesE_ok hx
        have hl1 : s1.l = s.adv.l := by rw [hs1]
        rcases bindE_err h with h | ⟨z, hz, h⟩
        · exact stepE_err h
        obtain ⟨w1, w2, w3, w4⟩ := stepE_ok hz
        have k1 : s1.hd.kind ≠ 0 := by
          rcases w1 with w1 | w1
          · rw [isS_kind w1]; decide
          · rw [w1.1]; decide
        have hB : Bal s1 z.2 := by rw [w4]; exact (Bal.adv s1 k1).trans (Bal.adv _ (by rw [isS_kind w3]; decide))
        have := hB.2.2.2.2
        rw [hl1] at this
        rcases bindE_err h with h | ⟨y, hy, h⟩
        · exact ih _ _ _ _ (hB.2.2.2.1 (by rw [hl1]; exact he1)) (by simp only [cost]; omega) h
        · cases h
      by_cases c1 : isS [126] s = true
      · rw [if_pos c1] at h
        have he1 := adv_ends he (by rw [isS_kind c1]; decide)
        rcases bindE_err h with h | ⟨x, hx, h⟩
        · exact makesE_err h
        obtain ⟨t, s1⟩ := x
        obtain ⟨_, _, hs1⟩ := makesE_ok hx
        have hl1 : s1.l = s.adv.l := by rw [hs1]
        rcases bindE_err h with h | ⟨y, hy, h⟩
        · exact ih _ _ _ _ (by rw [hl1]; exact he1) (by rw [hl1]; simp only [cost]; omega) h
        · cases h
      rw [if_neg c1] at h
      by_cases c2 : isS [60] s = true
      · rw [if_pos c2] at h; exact steps 8 [62] (isS_kind c2) h
      rw [if_neg c2] at h
      by_cases c3 : isS [91] s = true
      · rw [if_pos c3] at h; exact steps 9 [93] (isS_kind c3) h
      rw [if_neg c3] at h
      by_cases c4 : isS [40] s = true
      · rw [if_pos c4] at h
        have he1 := adv_ends he (by rw [isS_kind c4]; decide)
        rcases bindE_err h with h | ⟨y, hy, h⟩
        · exact ih _ _ _ _ he1 (by simp [cost]; omega) h
        rcases bindE_err h with h | ⟨z, hz, h⟩
        · exact needE_err h
        · cases h
      rw [if_neg c4] at h
      by_cases c5 : s.hd.kind = 3
      · rw [if_pos c5] at h
        rcases bindE_err h with h | ⟨x, hx, h⟩
        · exact makesE_err h
        · cases h
      rw [if_neg c5] at h
      by_cases c6 : s.hd.kind = 2
      · rw [if_pos c6] at h
        have he1 := adv_ends he (by rw [c6]; decide)
        rcases bindE_err h with h | ⟨x, hx, h⟩
        · exact makesE_err h
        obtain ⟨t, s1⟩ := x
        obtain ⟨_, _, hs1⟩ := makesE_ok hx
        have hl1 : s1.l = s.adv.l := by rw [hs1]
        dsimp only at h
        by_cases d1 : t.text = [116, 116]
        · rw [if_pos d1] at h; cases h
        rw [if_neg d1] at h
        by_cases d2 : t.text = [102, 102]
        · rw [if_pos d2] at h; cases h
        rw [if_neg d2] at h
        by_cases d3 : t.text = [109, 117] ∨ t.text = [110, 117]
        · rw [if_pos d3] at h
          by_cases h3 : s1.hd.kind = 3
          · rw [if_pos h3] at h
            rcases bindE_err h with h | ⟨z, hz, h⟩
            · exact needE_err h
            obtain ⟨w1, w2⟩ := needE_ok hz
            have hB : Bal s1 z := by rw [w2]; exact (Bal.adv s1 (by rw [h3]; decide)).trans (Bal.adv _ (by rw [isS_kind w1]; decide))
            have := hB.2.2.2.2
            rw [hl1] at this
            have he3 := hB.2.2.2.1 (by rw [hl1]; exact he1)
            have l2 := adv_len (s := s1) (by rw [hl1]; exact he1)
            have l3 : z.l.length < s.adv.l.length := by
              rw [w2]
              have := adv_len (s := s1.adv) (adv_ends (by rw [hl1]; exact he1) (by rw [h3]; decide))
              rw [hl1] at l2
              omega
            rcases bindE_err h with h | ⟨y, hy, h⟩
            · exact ih _ _ _ _ he3 (by simp [cost]; omega) h
            · cases h
          · rw [if_neg h3] at h; cases h; exact wrongE_ne _
        · rw [if_neg d3] at h; cases h
      · rw [if_neg c6] at h; cases h; exact wrongE_ne _
end Go.Ab.S3
